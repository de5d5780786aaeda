/-
  Own library for the claim, packed by program: the engine, the clean texts, contracts, the plain law. (Part A.)
-/
import Derived.CallsIn
import Derived.OrdersIn
import Derived.DefersIn
import Derived.TacticsIn
import Derived.Laws.Append
import Derived.Laws.CopyRow
import Derived.Laws.Entries
import Derived.Laws.Build
import Derived.KernelRfl
import Derived.Laws.StructEq
import Derived.MapKept
import Derived.Laws.Externs
import Derived.RangeFuncIn
import Derived.RangeFuncLeaves
import Derived.ProofKit
import Derived.SizedLaws
import Derived.Deep.Slices
import Derived.Deep.Fields
import Derived.OpenShut
import Derived.Test.YtcepckpfhbcobaaGreatDoorProg
namespace Go.En
abbrev Hp:=Array Obj
abbrev Env:=List (Nat × Value)
def lk:Env→Nat→Option Value
 | [],_=>none
 | (d,v)::r,t=>match Nat.beq d t with
  | true=>some v
  | false=>lk r t
def ev (n:Nat) (env:Env):Operand→Option Value
 | .tmp t=>match Nat.blt t n with
  | true=>lk env t
  | false=>none
 | .const v=>some v
 | .global g=>some (.pointer (some ⟨g,0,none⟩))
 | .func f=>some (.func (.func f) #[] #[])
def G5 (n:Nat) (env:Env):List Operand→Option (List Value)
 | []=>some []
 | x::r=>(ev n env x).bind fun v=>(G5 n env r).bind fun vs=>some (v::vs)
def P9 (n:Nat) (env:Env):List (Nat × Operand)→Option (List (Nat × Value))
 | []=>some []
 | (i,x)::r=>(ev n env x).bind fun v=>(P9 n env r).bind fun vs=>some ((i,v)::vs)
def Kj (n:Nat) (env:Env):Option Operand→Option (Option Value)
 | none=>some none
 | some x=>(ev n env x).bind fun v=>some (some v)
def cellAt (h:Hp) (a:Addr):Option Value:=
 match h[a.block]? with
 | some (.cells c _ _)=>if a.spot.isSome then none else c[a.off]?
 | _=>none
def frozenAt (h:Hp) (a:Addr):Bool:=
 match h[a.block]? with
 | some (.cells _ _ (lo,hi))=>lo≤a.off&&a.off<hi
 | _=>false
def setAt (h:Hp) (a:Addr) (v:Value):Hp:=
 h.modify a.block fun
  | .cells c elem frozen=>.cells (if a.spot.isSome then c else c.setIfInBounds a.off v) elem frozen
  | o=>o
theorem zr (w:World) (a:Addr):w.cell? a=cellAt w.heap a:=rfl
theorem HX (w:World) (a:Addr):w.frozen? a=frozenAt w.heap a:=rfl
def sG (h:Hp) (a:Addr) (i:Nat):Nat→Option (List Value)
 | 0=>some []
 | n+1=>(cellAt h (a.add i)).bind fun v=>(sG h a (i+1) n).bind fun r=>some (v::r)
def dU (p:Value) (h:Hp):Option Value:=
 match p with
 | .pointer (some a)=>cellAt h a
 | _=>none
def aF (n:Nat) (p:Value) (h:Hp):Option Value:=
 match p with
 | .pointer (some a)=>(sG h a 0 n).bind fun l=>some (.agg l.toArray)
 | _=>none
def p5 (h:Hp) (a:Addr) (i:Nat):List Value→Option Hp
 | []=>some h
 | v::r=>match v.oneCell',cellAt h (a.add i),frozenAt h (a.add i) with
  | true,some _,false=>p5 (setAt h (a.add i) v) a (i+1) r
  | _,_,_=>none
def aQ (n:Nat) (p v:Value) (h:Hp):Option Hp:=
 match p with
 | .pointer (some a)=>match Nat.beq v.cells.size n with
  | true=>p5 h a 0 v.cells.toList
  | false=>none
 | _=>none
def nw (cells:Array Value) (e:TypeId) (h:Hp):Option (Value × Hp):=some (.pointer (some ⟨h.size,0,none⟩),h.push (.cells cells e))
def bin (op:BinOp) (x y:Value):Option Value:=
 match x,y with
 | .int k a,.int k' b=>
  match op with
  | .shl=>if b<0 then none else some (.int k (k.wrap (a*2 ^ (min b.toNat k.bits))))
  | .shr=>if b<0 then none else some (.int k (a.fdiv (2 ^ (min b.toNat k.bits))))
  | .add=>if k=k' then some (.int k (k.wrap (a+b))) else none
  | .sub=>if k=k' then some (.int k (k.wrap (a - b))) else none
  | .mul=>if k=k' then some (.int k (k.wrap (a*b))) else none
  | .quo=>if k=k' then (if b=0 then none else some (.int k (k.wrap (a.tdiv b)))) else none
  | .rem=>if k=k' then (if b=0 then none else some (.int k (a.tmod b))) else none
  | .eql=>if k=k' then some (.bool (a == b)) else none
  | .neq=>if k=k' then some (.bool (a != b)) else none
  | .lss=>if k=k' then some (.bool (decide (a<b))) else none
  | .leq=>if k=k' then some (.bool (decide (a≤b))) else none
  | .gtr=>if k=k' then some (.bool (decide (a > b))) else none
  | .geq=>if k=k' then some (.bool (decide (a≥b))) else none
  | .and=>if k=k' then some (.int k (k.wrap (BitVec.ofInt k.bits a&&& BitVec.ofInt k.bits b).toNat)) else none
  | .or=>if k=k' then some (.int k (k.wrap (BitVec.ofInt k.bits a||| BitVec.ofInt k.bits b).toNat)) else none
  | .xor=>if k=k' then some (.int k (k.wrap (BitVec.ofInt k.bits a ^^^ BitVec.ofInt k.bits b).toNat)) else none
  | .andNot=>if k=k' then some (.int k (k.wrap (BitVec.ofInt k.bits a&&& ~~~BitVec.ofInt k.bits b).toNat)) else none
 | _,_=>none
def YH (x y:Value):Option Bool:=
 match x,y with
 | .bool a,.bool b=>some (a == b)
 | _,_=>none
def Z7 (x y:Value):Option Bool:=
 match x,y with
 | .pointer none,.pointer b=>some b.isNone
 | .pointer (some _),.pointer none=>some false
 | _,_=>none
def Qa (x y:Value):Option Bool:=
 match x,y with
 | .slice none _ _,.slice b _ _=>some b.isNone
 | .slice (some _) _ _,.slice none _ _=>some false
 | _,_=>none
def Q7 (x y:Value):Option Bool:=
 match x,y with
 | .map none,.map b=>some b.isNone
 | .map (some _),.map none=>some false
 | _,_=>none
def YY (x y:Value):Option Bool:=
 match x,y with
 | .nilFunc,.nilFunc=>some true
 | .nilFunc,.func .. | .func ..,.nilFunc=>some false
 | _,_=>none
def Yu (i:Bool) (x y:Value):Option Bool:=
 match i,x,y with
 | true,.int k a,.int k' b=>if k=k' then some (a == b) else none
 | false,.bool a,.bool b=>some (a == b)
 | _,_,_=>none
def AV:List Bool→List Value→List Value→Option Bool
 | [],[],[]=>some true
 | i::l,x::r,y::s=>(Yu i x y).bind fun a=>(AV l r s).bind fun q=>some (a&&q)
 | _,_,_=>none
def E5 (l:List Bool) (x y:Value):Option Bool:=
 match x,y with
 | .agg xs,.agg ys=>AV l xs.toList ys.toList
 | _,_=>none
def BZ (o:Option Bool):Option Value:=o.bind fun b=>some (.bool !b)
def pos? (o:Option Bool):Option Value:=o.bind fun b=>some (.bool b)
def sk (op:UnOp) (x:Value):Option Value:=
 match op,x with
 | .neg,.int k n=>some (.int k (k.wrap (0 - n)))
 | .not,.bool b=>some (.bool !b)
 | _,_=>none
def HA (k:IntKind) (x:Value):Option Value:=
 match x with
 | .int _ n=>some (.int k (k.wrap n))
 | _=>none
def fa (off:Nat) (p:Value):Option Value:=
 match p with
 | .pointer (some a)=>some (.pointer (some (a.add off)))
 | _=>none
def lQ (size:Nat) (x i:Value):Option Value:=
 match x,i with
 | .slice (some a) len _,.int _ n=>if 0≤n∧n<len then some (.pointer (some (a.add (n.toNat*size)))) else none
 | _,_=>none
def Jj (len size:Nat) (x i:Value):Option Value:=
 match x,i with
 | .pointer (some a),.int _ n=>if 0≤n∧n<len then some (.pointer (some (a.add (n.toNat*size)))) else none
 | _,_=>none
def Y0 (len size:Nat) (x i:Value):Option Value:=
 match x,i with
 | .agg cs,.int _ n=>if 0≤n∧n<len then cs[n.toNat*size]? else none
 | _,_=>none
def Yf (len size:Nat) (x i:Value):Option Value:=
 match x,i with
 | .agg cs,.int _ n=>if 0≤n∧n<len then some (.agg (cs.extract (n.toNat*size) (n.toNat*size+size))) else none
 | _,_=>none
def ext (i:Nat) (x:Value):Option Value:=
 match x with
 | .tuple vs=>vs[i]?
 | _=>none
def lu (x:Value):Option Value:=
 match x with
 | .slice _ n _=>some (.int .i64 n)
 | _=>none
def Uf (x:Value) (h:Hp):Option Value:=
 match x with
 | .map none=>some (.int .i64 0)
 | .map (some r)=>match h[r]? with
  | some (.map es _)=>some (.int .i64 es.size)
  | _=>none
 | _=>none
def mn (x y:Value):Option Value:=
 match x,y with
 | .int k a,.int _ b=>some (.int k (if b<a then b else a))
 | _,_=>none
def mx (x y:Value):Option Value:=
 match x,y with
 | .int k a,.int _ b=>some (.int k (if b > a then b else a))
 | _,_=>none
def Tt (x:Value) (y:Nat):Option Nat:=
 match x with
 | .int _ i=>if 0≤i∧i≤y then some i.toNat else none
 | _=>none
def Ft (lo:Option Value) (h:Nat):Option Nat:=
 match lo with
 | some v=>Tt v h
 | none=>some 0
def Kl (hi:Option Value) (len m:Nat):Option Nat:=
 match hi with
 | some v=>Tt v m
 | none=>some len
def Pm (mx:Option Value) (cap:Nat):Option Nat:=
 match mx with
 | some v=>Tt v cap
 | none=>some cap
def Nb (len cap:Nat) (lo hi mx:Option Value):Option (Nat × Nat × Nat):=
 (Pm mx cap).bind fun m=>(Kl hi len m).bind fun h=>(Ft lo h).bind fun l=>some (l,h,m)
def MM (size:Nat) (a:Option Addr) (b:Nat × Nat × Nat):Value:=
 .slice (if b.2.2=b.1 then a else a.map (·.add (b.1*size))) (b.2.1 - b.1) (b.2.2 - b.1)
def vR (size:Nat) (x:Value) (lo hi mx:Option Value):Option Value:=
 match x with
 | .slice a len cap=>(Nb len cap lo hi mx).bind fun b=>some (MM size a b)
 | _=>none
def YO (n size:Nat) (x:Value) (lo hi mx:Option Value):Option Value:=
 match x with
 | .pointer (some a)=>(Nb n n lo hi mx).bind fun b=>some (MM size (some a) b)
 | _=>none
def fdc (off:Nat) (x:Value):Option Value:=
 match x with
 | .agg cs=>cs[off]?
 | _=>none
def Zz (off size:Nat) (x:Value):Option Value:=
 match x with
 | .agg cs=>some (.agg (cs.extract off (off+size)))
 | _=>none
def bG (places:List (Nat × Nat)) (zero:Array Value) (parts:List (Nat × Value)):Option Value:=
 (Instr.fill (places[·]?) zero parts).bind fun cells=>some (.agg cells)
def RA (size:Nat) (zero:Array Value) (parts:List (Nat × Value)):Option Value:=
 (Instr.fill (fun i=>some (i*size,size)) zero parts).bind fun cells=>some (.agg cells)
def pb (zero:Array Value) (size len:Nat) (e:TypeId) (parts:List (Nat × Value)) (h:Hp):Option (Value × Hp):=
 (Instr.fill (fun i=>some (i*size,size)) ((Array.range (len*size)).map (zero[· % zero.size]!)) parts).bind fun cells=>
  some (.slice (some ⟨h.size,0,none⟩) len len,h.push (.cells cells e))
def pk (c x y:Value):Option Value:=
 match c with
 | .bool b=>some (if b then x else y)
 | _=>none
def V7 (x:Value):Option Value:=
 match x with
 | .pointer (some a)=>some (.pointer (some a))
 | .func (.func f) first cap=>some (.func (.func f) first cap)
 | .iface t v=>some (.iface t v)
 | _=>none
def inl (op:BinOp) (v:Value):Option Value:=
 match op,v with
 | .eql,.nilIface=>some (.bool true)
 | .eql,.iface _ _=>some (.bool false)
 | .neq,.nilIface=>some (.bool false)
 | .neq,.iface _ _=>some (.bool true)
 | _,_=>none
def YI (P:Program) (t:TypeId):Bool:=
 match P.underlying t with
 | some (.interface _)=>true
 | _=>false
def V0 (P:Program) (t:TypeId):Bool:=
 match P.underlying t with
 | some (.interface _)=>false
 | some _=>true
 | none=>false
def C3 (t:TypeId) (z:Value) (ok:Bool) (x:Value):Option Value:=
 match x,ok with
 | .iface t' v,true=>some (if t'=t then .tuple #[v,.bool true] else .tuple #[z,.bool false])
 | .iface t' v,false=>if t'=t then some v else none
 | .nilIface,true=>some (.tuple #[z,.bool false])
 | _,_=>none
def V4 (P:Program) (t:TypeId) (name:String):Option FuncId:=
 match P.info? t with
 | none=>none
 | some i=>match i.methods.find? fun m=>m.name == name with
  | none=>none
  | some m=>match m.path.toList,m.func,P.underlying t with
   | [],some (_,false),some (.pointer _)=>none
   | [],some (f,false),some _=>some f
   | _,_,_=>none
def zg (m:Value) (h:Hp):Option (Option (Nat × Array MapEntry × Nat)):=
 match m with
 | .map none=>some none
 | .map (some r)=>match h[r]? with
  | some (.map es clock)=>some (some (r,es,clock))
  | _=>none
 | _=>none
def MF (kd:TypeDesc) (zero:Value) (ok:Bool) (m key:Value) (h:Hp):Option Value:=
 (zg m h).bind fun r=>
  (Instr.findNow kd key ((r.map fun x=>x.2.1.toList).getD []) 0).bind fun f=>
   some (if ok then .tuple #[(f.map (·.2)).getD zero,.bool f.isSome] else (f.map (·.2)).getD zero)
def CZ (kd:TypeDesc) (m key val:Value) (h:Hp):Option Hp:=
 match zg m h with
 | some (some (r,es,clock))=>match Instr.findNow kd key es.toList 0 with
  | some (some (i,_))=>some (h.setIfInBounds r (.map (es.modify i fun e=>{e with key,val:=val}) clock))
  | some none=>some (h.setIfInBounds r (.map (es.push {key,val:=val,born:=clock}) (clock+1)))
  | none=>none
 | _=>none
def ZM (kd:TypeDesc) (zero:Value) (m key:Value) (h:Hp):Option (Value × Hp):=
 match zg m h with
 | some (some (r,es,clock))=>match Instr.findNow kd key es.toList 0 with
  | some (some (i,v))=>some (.tuple #[v,goInt (((es[i]?).map (·.born)).getD 0)],h.setIfInBounds r (.map (es.modify i fun e=>{e with key}) clock))
  | some none=>some (.tuple #[zero,goInt clock],h.setIfInBounds r (.map (es.push {key,val:=zero,born:=clock}) (clock+1)))
  | none=>none
 | _=>none
def mst (m stamp val:Value) (h:Hp):Option Hp:=
 match zg m h,stamp with
 | some (some (r,es,clock)),.int _ born=>match es.findIdx? (fun e=>(e.born:Int) == born) with
  | some i=>some (h.setIfInBounds r (.map (es.modify i fun e=>{e with val:=val}) clock))
  | none=>none
 | _,_=>none
def OM (kd:TypeDesc) (m key:Value) (h:Hp):Option (Value × Hp):=
 match zg m h with
 | some none=>some (.tuple #[],h)
 | some (some (r,es,clock))=>match Instr.findNow kd key es.toList 0 with
  | some (some (i,_))=>some (.tuple #[],h.setIfInBounds r (.map (es.eraseIdxIfInBounds i) clock))
  | some none=>some (.tuple #[],h.setIfInBounds r (.map es clock))
  | none=>none
 | _=>none
def MZ (h:Hp):Option (Value × Hp):=some (.map (some h.size),h.push (.map #[] 0))
def TD (m:Value) (h:Hp):Option (Value × Hp):=
 match zg m h with
 | some none=>some (.pointer (some ⟨h.size,0,none⟩),h.push (.mapIter none 0 #[] 0))
 | some (some (r,_,clock))=>some (.pointer (some ⟨h.size,0,none⟩),h.push (.mapIter (some r) clock #[] clock))
 | _=>none
def zA (it:Value) (h:Hp):Option Value:=
 match it with
 | .pointer (some ⟨r,0,_⟩)=>match h[r]? with
  | some (.mapIter (some m) _ seen stepped)=>match seen.back?,h[m]? with
   | some stamp,some (.map es clock)=>match Nat.beq clock stepped,es.find? (·.born == stamp) with
    | true,some e=>some (.tuple #[e.key,e.val])
    | _,_=>none
   | _,_=>none
  | _=>none
 | _=>none
def J9 (zero:Array Value) (size bytes:Nat) (e:TypeId) (l c:Value) (h:Hp):Option (Value × Hp):=
 match l,c with
 | .int .i64 l,.int .i64 c=>if 0≤l∧l≤c∧c≤9223372036854775807∧c*bytes≤281474976710656 then
   some (.slice (some ⟨h.size,0,none⟩) l.toNat c.toNat,h.push (.cells ((Array.range (c.toNat*size)).map (zero[· % zero.size]!)) e)) else none
 | _,_=>none
def rowOf (x:Value) (m:Nat) (h:Hp):Option (List Value):=
 match x with
 | .slice (some a) _ _=>sG h a 0 m
 | .slice none _ _=>some []
 | _=>none
def Ni (size:Nat) (d s:Value) (h:Hp):Option (Value × Hp):=
 match d,s with
 | .slice base dLen _,.slice _ sLen _=>
  (rowOf s (Nat.min sLen dLen*size) h).bind fun cells=>
   match base with
   | some a=>(p5 h a 0 cells).bind fun h'=>some (.int .i64 (Nat.min sLen dLen:Nat),h')
   | none=>some (.int .i64 (Nat.min sLen dLen:Nat),h)
 | _,_=>none
def UD (zero:Array Value) (x:Value) (h:Hp):Option (Value × Hp):=
 match x with
 | .slice none _ _=>some (.tuple #[],h)
 | .slice (some a) n _=>match n with
  | 0=>some (.tuple #[],h)
  | n+1=>(p5 h a 0 (Builtin.zeroCells zero (n+1)).toList).bind fun h'=>some (.tuple #[],h')
 | _=>none
inductive TK where
 | cell
 | agg (n:Nat)
 | bad
def Kb (P:Program) (t:TypeId):TK:=
 match P.underlying t,P.info? t with
 | some (.struct _),some i=>.agg i.size
 | some (.array ..),some i=>.agg i.size
 | some _,some _=>.cell
 | _,_=>.bad
def UP (k:TK) (p:Value) (h:Hp):Option Value:=
 match k with
 | .cell=>dU p h
 | .agg n=>aF n p h
 | .bad=>none
def Pn:List Bool→List Bool→List Bool
 | [],e=>e
 | x::r,e=>x::Pn r e
def Ct (l:List Bool):Nat→List Bool
 | 0=>[]
 | n+1=>Pn l (Ct l n)
def HZ:List Bool→Nat
 | []=>0
 | _::r=>HZ r+1
def Es (P:Program) (flat:TypeId→Option (List Bool)):List Field→Nat→Option (List Bool)
 | [],_=>some []
 | f::r,off=>match Nat.beq f.offset off,f.name == "_",flat f.type,P.info? f.type with
  | true,false,some l,some i=>match Nat.beq i.size (HZ l),Es P flat r (off+HZ l) with
   | true,some l'=>some (Pn l l')
   | _,_=>none
  | _,_,_,_=>none
def Dh (P:Program):Nat→TypeId→Option (List Bool)
 | 0,_=>none
 | d+1,t=>match P.underlying t with
  | some (.int _)=>some [true]
  | some .bool=>some [false]
  | some (.struct fs)=>match P.stoodInHeld t,Es P (Dh P d) fs.toList 0,P.info? t with
   | false,some l,some i=>match Nat.beq i.size (HZ l) with
    | true=>some l
    | false=>none
   | _,_,_=>none
  | some (.array len e)=>match Dh P d e,P.info? e,P.info? t with
   | some l,some i,some j=>match Nat.beq i.size (HZ l),Nat.beq j.size (HZ (Ct l len)) with
    | true,true=>some (Ct l len)
    | _,_=>none
   | _,_,_=>none
  | _=>none
inductive EK where
 | plain | boolean | ptr | vR | map | fn | agg (l:List Bool) | bad
def Qp (P:Program) (t:TypeId):EK:=
 match P.underlying t with
 | some (.int _)=>.plain
 | some .bool=>.boolean
 | some (.pointer _)=>.ptr
 | some (.slice _)=>.vR
 | some (.map _ _)=>.map
 | some (.func ..)=>.fn
 | some (.struct _)=>match P.eqGuardType P.depth t,Dh P 5 t with
  | false,some l=>.agg l
  | _,_=>.bad
 | some (.array _ _)=>match P.eqGuardType P.depth t,Dh P 5 t with
  | false,some l=>.agg l
  | _,_=>.bad
 | _=>.bad
def SF (k:EK) (x y:Value):Option Bool:=
 match k with
 | .boolean=>YH x y
 | .ptr=>Z7 x y
 | .vR=>Qa x y
 | .map=>Q7 x y
 | .fn=>YY x y
 | .agg l=>E5 l x y
 | .plain | .bad=>none
def XG (k:EK) (op:BinOp) (x y:Value):Option Value:=
 match k,op with
 | .plain,op=>bin op x y
 | k,.eql=>pos? (SF k x y)
 | k,.neq=>BZ (SF k x y)
 | _,_=>none
inductive CK where
 | int (k:IntKind)
 | bad
def Zm (P:Program) (src dst:TypeId):CK:=
 match P.underlying src,P.underlying dst with
 | some (.int _),some (.int k)=>.int k
 | _,_=>.bad
def Ye (c:CK) (x:Value):Option Value:=
 match c with
 | .int k=>HA k x
 | .bad=>none
inductive FK where
 | cell (off:Nat)
 | agg (off size:Nat)
 | bad
def SX (P:Program) (s:TypeId) (f:Nat):FK:=
 match P.underlying s with
 | some (.struct fs)=>match fs[f]? with
  | some fd=>match Kb P fd.type,P.info? fd.type with
   | .cell,some i=>match i.size with
    | 0=>.bad
    | _+1=>.cell fd.offset
   | .agg (n+1),_=>.agg fd.offset (n+1)
   | _,_=>.bad
  | none=>.bad
 | _=>.bad
def YG (k:FK) (p:Value):Option Value:=
 match k with
 | .cell off | .agg off _=>fa off p
 | .bad=>none
def YQ (k:FK) (x:Value):Option Value:=
 match k with
 | .cell off=>fdc off x
 | .agg off size=>Zz off size x
 | .bad=>none
inductive IK where
 | vR (size:Nat)
 | arr (len size:Nat)
 | bad
def P8 (P:Program) (t:TypeId):IK:=
 match P.underlying t with
 | some (.slice e)=>match P.info? e with
  | some i=>.vR i.size
  | none=>.bad
 | some (.array n e)=>match P.info? e with
  | some i=>.arr n i.size
  | none=>.bad
 | _=>.bad
def XM (k:IK) (x i:Value):Option Value:=
 match k with
 | .vR size=>lQ size x i
 | .arr n size=>Jj n size x i
 | .bad=>none
def YR (n:Nat) (x:Value):Option Value:=
 match x with
 | .slice a len _=>match Nat.ble n len with
  | true=>some (.pointer a)
  | false=>none
 | _=>none
def X7 (k:IK) (x:Value):Option Value:=
 match k with
 | .arr n _=>YR n x
 | _=>none
def VU (k:IK) (x:Value) (lo hi mx:Option Value):Option Value:=
 match k with
 | .vR size=>vR size x lo hi mx
 | .arr n size=>YO n size x lo hi mx
 | .bad=>none
inductive JK where
 | cell (len size:Nat)
 | agg (len size:Nat)
 | str
 | bad
def Zy (P:Program) (t:TypeId):JK:=
 match P.underlying t with
 | some (.array n e)=>match Kb P e,P.info? e with
  | .cell,some i=>.cell n i.size
  | .agg s,some _=>.agg n s
  | _,_=>.bad
 | some .string=>.str
 | _=>.bad
def Wk (x i:Value):Option Value:=
 match x,i with
 | .string s,.int _ n=>(if 0≤n then s[n.toNat]? else none).map fun b=>.int .u8 b.toNat
 | _,_=>none
def X1 (k:JK) (x i:Value):Option Value:=
 match k with
 | .cell n s=>Y0 n s x i
 | .agg n s=>Yf n s x i
 | .str=>Wk x i
 | .bad=>none
inductive BK where
 | struct (places:List (Nat × Nat)) (zero:Array Value)
 | arr (size:Nat) (zero:Array Value)
 | bad
def placesOf (P:Program):List Field→Option (List (Nat × Nat))
 | []=>some []
 | f::r=>(P.info? f.type).bind fun i=>(placesOf P r).bind fun l=>some ((f.offset,i.size)::l)
def Zp (P:Program) (t:TypeId):BK:=
 match P.info? t with
 | some i=>match i.zero with
  | some z=>match P.underlying t with
   | some (.struct fs)=>match placesOf P fs.toList with
    | some ps=>.struct ps z.cells
    | none=>.bad
   | some (.array _ e)=>match P.info? e with
    | some j=>.arr j.size z.cells
    | none=>.bad
   | _=>.bad
  | none=>.bad
 | none=>.bad
def RV (k:BK) (parts:List (Nat × Value)):Option Value:=
 match k with
 | .struct ps z=>bG ps z parts
 | .arr size z=>RA size z parts
 | .bad=>none
inductive MK where
 | ok (kd:TypeDesc) (zero:Value)
 | bad
def NA (P:Program) (t:TypeId):MK:=
 match P.underlying t with
 | some (.map k e)=>match P.underlying k,P.info? e with
  | some (.int ik),some i=>match i.zero with
   | some z=>.ok (.int ik) z
   | none=>.bad
  | _,_=>.bad
 | _=>.bad
def Yn (k:MK) (ok:Bool) (m key:Value) (h:Hp):Option Value:=
 match k with
 | .ok kd z=>MF kd z ok m key h
 | .bad=>none
inductive LK where
 | vR | map | bad
def YL (P:Program) (t:TypeId):LK:=
 match P.underlying t with
 | some (.slice _)=>.vR
 | some (.map ..)=>.map
 | _=>.bad
def YM (k:LK) (x:Value) (h:Hp):Option Value:=
 match k with
 | .vR=>lu x
 | .map=>Uf x h
 | .bad=>none
inductive XK where
 | ok (e:TypeId) (zero:Array Value) (size bytes:Nat)
 | bad
def Nr (P:Program) (t:TypeId):XK:=
 match P.underlying t with
 | some (.slice e)=>match P.info? e with
  | some i=>match i.zero with
   | some z=>match Nat.beq z.cells.size i.size,Nat.blt 0 i.size with
    | true,true=>.ok e z.cells i.size i.bytes
    | _,_=>.bad
   | none=>.bad
  | none=>.bad
 | _=>.bad
def zrk (P:Program) (t:TypeId):Option (Array Value):=(P.info? t).bind fun i=>i.zero.bind fun z=>some z.cells
end Go.En
namespace Go.En
section
variable {P:Program} {w:World}
theorem DW {a:Addr} {v:Value} (h:cellAt w.heap a=some v):(load a).run P w=.ok v w:=by
 rw [run_load]; rw [zr,h]
theorem De {a:Addr}:∀(n i:Nat) (l:List Value) (acc:Array Value),sG w.heap a i n=some l→
  (loadCellsFrom a i n acc).run P w=.ok (acc++l.toArray) w
 | 0,i,l,acc,h=>by
  simp only [sG,Option.some.injEq] at h
  subst h
  simp [loadCellsFrom]
 | n+1,i,l,acc,h=>by
  simp only [sG,Option.bind_eq_some_iff] at h
  obtain ⟨v,hv,r,hr,hl⟩ :=h
  simp only [Option.some.injEq] at hl
  subst hl
  simp only [loadCellsFrom,Sem.run_bind,DW hv,Result.andThen_ok]
  rw [De n (i+1) r (acc.push v) hr]
  simp
theorem run_loadCells {a:Addr} {n:Nat} {l:List Value} (h:sG w.heap a 0 n=some l):(loadCells a n).run P w=.ok l.toArray w:=by
 rw [loadCells,De n 0 l #[] h]; simp
theorem NT {t:TypeId} (h:Kb P t=.cell):∃d,P.underlying t=some d∧(∀fs,d≠.struct fs)∧(∀n e,d≠.array n e):=by
 unfold Kb at h
 split at h <;> try contradiction
 rename_i d _ h1 h2 hx _
 exact ⟨d,hx,fun fs e=>h1 fs e,fun n e' e=>h2 n e' e⟩
theorem tZ {t:TypeId} (h:Kb P t=.cell):(isAgg t).run P w=.ok false w:=by
 obtain ⟨d,hd,h1,h2⟩ :=NT h
 unfold isAgg
 simp only [Sem.run_bind,run_underlying hd,Result.andThen_ok]
 cases d <;> first | rfl | exact (h1 _ rfl).elim | exact (h2 _ _ rfl).elim
theorem DM {t:TypeId} {n:Nat} (h:Kb P t=.agg n):(∃i,P.info? t=some i∧i.size=n)∧((∃fs,P.underlying t=some (.struct fs))∨(∃k e,P.underlying t=some (.array k e))):=by
 unfold Kb at h
 split at h <;> try contradiction
 ·rename_i fs i hu hi; simp only [TK.agg.injEq] at h; exact ⟨⟨i,hi,h⟩,.inl ⟨fs,hu⟩⟩
 ·rename_i k e i hu hi; simp only [TK.agg.injEq] at h; exact ⟨⟨i,hi,h⟩,.inr ⟨k,e,hu⟩⟩
theorem vC {t:TypeId} {n:Nat} (h:Kb P t=.agg n):(isAgg t).run P w=.ok true w:=by
 unfold isAgg
 rcases (DM h).2 with ⟨fs,hu⟩ | ⟨k,e,hu⟩ <;> simp [run_underlying hu]
theorem run_sizeOf {t:TypeId} {i:TypeInfo} (h:P.info? t=some i):(sizeOf t).run P w=.ok i.size w:=by
 simp [sizeOf,typeInfo,h]
theorem o7 {t:TypeId} {i:TypeInfo} {z:Value} (h:P.info? t=some i) (hz:i.zero=some z):(zeroValue t).run P w=.ok z w:=by
 simp [zeroValue,typeInfo,h,hz]
theorem EU {t:TypeId} {p v:Value} (h:UP (Kb P t) p w.heap=some v):(Instr.loadAt t p).run P w=.ok v w:=by
 unfold Instr.loadAt loadVar
 cases hk:Kb P t with
 | cell=>
  rw [hk] at h
  simp only [UP] at h
  unfold dU at h
  split at h <;> try contradiction
  rename_i a
  simp only [Instr.sureAddr,Sem.run_bind,Sem.run_pure,Result.andThen_ok,tZ hk,Bool.false_eq_true,if_false]
  exact DW h
 | agg n=>
  rw [hk] at h
  simp only [UP] at h
  unfold aF at h
  split at h <;> try contradiction
  rename_i a
  simp only [Option.bind_eq_some_iff,Option.some.injEq] at h
  obtain ⟨l,hl,hv⟩ :=h
  obtain ⟨⟨i,hi,hn⟩,_⟩ :=DM hk
  simp only [Instr.sureAddr,Sem.run_bind,Sem.run_pure,Result.andThen_ok,vC hk,if_true,run_sizeOf hi,hn,run_loadCells hl,hv]
 | bad=>rw [hk] at h; simp [UP] at h
structure sj (w w':World):Prop where
 os:w'.os=w.os
 tape:w'.tape=w.tape
 output:w'.output=w.output
theorem sj.refl (w:World):sj w w:=⟨rfl,rfl,rfl⟩
theorem sj.trans {a b c:World} (h:sj a b) (k:sj b c):sj a c:=⟨k.os.trans h.os,k.tape.trans h.tape,k.output.trans h.output⟩
theorem uD {a:Addr}:∀(vs:List Value) (i:Nat) (w:World) (h':Hp),p5 w.heap a i vs=some h'→
  ∃w',(storeCells a vs i).run P w=.ok () w'∧w'.heap=h'∧sj w w'∧w'.drawn=w.drawn
 | [],i,w,h',h=>by
  simp only [p5,Option.some.injEq] at h
  exact ⟨w,rfl,h,.refl w,rfl⟩
 | v::r,i,w,h',h=>by
  simp only [p5] at h
  split at h <;> try contradiction
  rename_i u h1 hc hf
  obtain ⟨w',hr,hh,hs,hd⟩ :=uD r (i+1) (w.setCell (a.add i) v) h' h
  refine ⟨w',?_,hh,⟨hs.os,hs.tape,hs.output⟩,hd⟩
  unfold storeCells
  simp only [Sem.run_bind]
  rw [run_store P w _ v _ h1]
  rw [zr,HX,hc,hf]
  simpa using hr
theorem HS {t:TypeId} {p v:Value} {i:TypeInfo} {h':Hp} (hi:P.info? t=some i) (h:aQ i.size p v w.heap=some h') :
  ∃w',(Instr.storeAt t p v).run P w=.ok () w'∧w'.heap=h'∧sj w w':=by
 unfold aQ at h
 split at h <;> try contradiction
 rename_i a
 split at h <;> try contradiction
 rename_i hsz
 obtain ⟨w',hr,hh,hs,_⟩ :=uD (P:=P) (a:=a) v.cells.toList 0 w h' h
 refine ⟨w',?_,hh,hs⟩
 have hsz':v.cells.size=i.size:=Nat.eq_of_beq_eq_true hsz
 simp only [Instr.storeAt,storeVar,Instr.sureAddr,Sem.run_bind,Sem.run_pure,Result.andThen_ok,run_sizeOf hi,hsz',ne_eq,not_true_eq_false,if_false,hr]
theorem QJ {op:BinOp} {t:TypeId} {x y v:Value} (h:bin op x y=some v):(binOp op t x y).run P w=.ok v w:=by
 unfold bin at h
 split at h <;> try contradiction
 rename_i k a k' b
 split at h <;> (try contradiction) <;> (try (split at h <;> (try contradiction))) <;> (try (split at h <;> (try contradiction))) <;>
  (simp only [Option.some.injEq] at h; subst h) <;>
  (try subst k') <;>
  (try (rename_i hb; have hb':¬b<0:=hb)) <;>
  (first
   | (simp only [binOp,Op.shift]; rw [if_neg ‹¬b<0›]; rfl)
   | (simp only [binOp,ne_eq,not_true_eq_false,if_false,Op.intDiv]; rw [if_neg ‹¬b=0›]; rfl)
   | (simp only [binOp,ne_eq,not_true_eq_false,if_false,Op.intArith,Op.intCmp]; rfl)
   | (simp only [binOp,ne_eq,not_true_eq_false,if_false,Op.intBits]; rfl))
theorem Du {op:BinOp} {t:TypeId} {x y:Operand} {k k':IntKind} {a b:Int}:(eqGuard op t x y (.int k a) (.int k' b)).run P w=.ok () w:=by
 unfold eqGuard; cases op <;> rfl
theorem OS {op:BinOp} {x y v:Value} (h:bin op x y=some v):∃k a k' b,x=.int k a∧y=.int k' b:=by
 unfold bin at h
 split at h <;> try contradiction
 exact ⟨_,_,_,_,rfl,rfl⟩
def ZZ (P:Program) (t:TypeId):EK→Prop
  | .boolean=>P.underlying t=some .bool
  | .ptr=>∃e,P.underlying t=some (.pointer e)
  | .vR=>∃e,P.underlying t=some (.slice e)
  | .map=>∃a b,P.underlying t=some (.map a b)
  | .fn=>∃a b c,P.underlying t=some (.func a b c)
  | .agg n=>Dh P 5 t=some n∧P.eqGuardType P.depth t=false∧((∃fs,P.underlying t=some (.struct fs))∨(∃n e,P.underlying t=some (.array n e)))
  | _=>True
theorem FT (P:Program) (t:TypeId):ZZ P t (Qp P t):=by
 cases hk:Qp P t <;> simp only [ZZ] <;> (unfold Qp at hk; split at hk <;> (try split at hk) <;> simp_all)
theorem DG:∀(a b:List Bool),Pn a b=a++b
 | [],_=>rfl
 | x::r,b=>by simp [Pn,DG r b]
theorem BE:∀l:List Bool,HZ l=l.length
 | []=>rfl
 | _::r=>by simp [HZ,BE r]
theorem AQ:∀{l a a':List _} {l' b b':List _} {q:Bool},l.length=a.length→l.length=a'.length→AV (l++l') (a++b) (a'++b')=some q→∃q1 q2,AV l a a'=some q1∧AV l' b b'=some q2∧q=(q1&&q2)
 | [],[],[],l',b,b',q,_,_,h=>⟨true,q,rfl,by simpa using h,by simp⟩
 | i::l,x::a,y::a',l',b,b',q,h1,h2,h=>by
  simp only [List.cons_append,AV,Option.bind_eq_some_iff,Option.some.injEq] at h
  obtain ⟨q0,h0,q',hq',rfl⟩ :=h
  obtain ⟨q1,q2,e1,e2,rfl⟩ :=AQ (by simpa using h1) (by simpa using h2) hq'
  exact ⟨q0&&q1,q2,by simp [AV,h0,e1],e2,by simp [Bool.and_assoc]⟩
 | [],_::_,_,_,_,_,_,h1,_,_=>by simp at h1
 | [],[],_::_,_,_,_,_,_,h2,_=>by simp at h2
 | _::_,[],_,_,_,_,_,h1,_,_=>by simp at h1
 | _::_,_::_,[],_,_,_,_,_,h2,_=>by simp at h2
theorem AO:∀{l:List Bool} {a b:List Value} {q:Bool},AV l a b=some q→a.length=l.length∧b.length=l.length
 | [],[],[],_,_=>⟨rfl,rfl⟩
 | i::l,x::a,y::b,q,h=>by
  simp only [AV,Option.bind_eq_some_iff,Option.some.injEq] at h
  obtain ⟨_,_,_,h2,_⟩ :=h
  have:=AO h2
  simp [this.1,this.2]
 | [],_::_,_,_,h=>by simp [AV] at h
 | [],[],_::_,_,h=>by simp [AV] at h
 | _::_,[],_,_,h=>by simp [AV] at h
 | _::_,_::_,[],_,h=>by simp [AV] at h
def C6 (xs:Array Value) (o n:Nat):List Value:=(xs.toList.drop o).take n
theorem wT {xs:Array Value} {o n:Nat} (h:o+n≤xs.size):(C6 xs o n).length=n:=by
 unfold C6; simp; omega
theorem DP {xs:Array Value} {o n m:Nat}:C6 xs o (n+m)=C6 xs o n++C6 xs (o+n) m:=by
 unfold C6
 rw [List.take_add,List.drop_drop]
def GM (P:Program) (d:Nat) (t:TypeId) (l:List Bool):Prop:=
 ∀(w:World) (xs ys:Array Value) (o:Nat) (q:Bool),o+l.length≤xs.size→o+l.length≤ys.size→AV l (C6 xs o l.length) (C6 ys o l.length)=some q→
  ∃x y,(part t xs o).run P w=.ok x w∧(part t ys o).run P w=.ok y w∧(Op.equalIn d t x y).run P w=.ok q w
theorem C7 {d:Nat} {flat:TypeId→Option (List Bool)} (hfl:∀t l,flat t=some l→GM P d t l):∀(fs:List Field) (off:Nat) (l:List Bool),Es P flat fs off=some l→
  ∀(w:World) (xs ys:Array Value) (q:Bool),off+l.length≤xs.size→off+l.length≤ys.size→AV l (C6 xs off l.length) (C6 ys off l.length)=some q→(Op.eqFields d xs ys fs).run P w=.ok q w
 | [],off,l,h=>by
  simp only [Es,Option.some.injEq] at h
  subst h
  intro w xs ys q _ _ hq
  simp only [C6,List.length_nil,List.take_zero,AV,Option.some.injEq] at hq
  subst hq
  rfl
 | f::r,off,l,h=>by
  unfold Es at h
  split at h <;> try contradiction
  rename_i lf i ho hnm hfm hi
  split at h <;> try contradiction
  rename_i l' hsz hrest
  simp only [Option.some.injEq] at h
  subst h
  have hoff:=Nat.eq_of_beq_eq_true ho
  rw [BE] at hrest
  have hrec:=C7 hfl r (off+lf.length) l' hrest
  intro w xs ys q hx hy hq
  rw [DG,List.length_append] at hx hy hq
  rw [DP,DP] at hq
  obtain ⟨q1,q2,h1,h2,rfl⟩ :=AQ (by rw [wT (by omega)]) (by rw [wT (by omega)]) hq
  obtain ⟨x,y,p1,p2,p3⟩ :=hfl _ _ hfm w xs ys off q1 (by omega) (by omega) h1
  have hne:f.name≠"_":=fun e=>by rw [e] at hnm; simp at hnm
  unfold Op.eqFields
  rw [if_pos hne]
  rw [hoff]
  simp only [Sem.run_bind,p1,p2,p3,Result.andThen_ok]
  cases q1 with
  | false=>simp
  | true=>simpa using hrec w xs ys q2 (by omega) (by omega) h2
theorem Di (l:List Bool):∀n,(Ct l n).length=n*l.length
 | 0=>by simp [Ct]
 | n+1=>by simp [Ct,DG,Di l n,Nat.succ_mul,Nat.add_comm]
theorem run_equalIn_array {d:Nat} {t e:TypeId} {len:Nat} {l:List Bool} {i:TypeInfo} (hu:P.underlying t=some (.array len e)) (hi:P.info? e=some i) (hn:i.size=l.length) (hfl:GM P d e l) (w:World) (xs ys:Array Value) (q:Bool)
  (hx:xs.size=len*l.length) (hy:ys.size=len*l.length) (hq:AV (Ct l len) xs.toList ys.toList=some q):(Op.equalIn (d+1) t (.agg xs) (.agg ys)).run P w=.ok q w:=by
 simp only [Op.equalIn,Sem.run_bind,run_underlying hu,Result.andThen_ok,run_sizeOf hi,hn]
 rw [Std.Legacy.Range.forIn_eq_forIn_range']
 have hsz:({start:=0,stop:=len,step:=1,step_pos:=by decide}:Std.Legacy.Range).size=len:=by simp [Std.Legacy.Range.size]
 simp only [hsz]
 have key:∀(k j:Nat) (w:World) (q:Bool),j+k=len→AV (Ct l k) (C6 xs (j*l.length) (k*l.length)) (C6 ys (j*l.length) (k*l.length))=some q→
   (forIn (List.range' j k 1) ((none,PUnit.unit):Option Bool × PUnit) (fun i r=>do
    let a ←part e xs (i*l.length)
    let b ←part e ys (i*l.length)
    let c ←Op.equalIn d e a b
    if (!c)=true then pure (ForInStep.done (some false,PUnit.unit)) else do
     pure PUnit.unit
     pure (ForInStep.yield (none,PUnit.unit))):Sem (Option Bool × PUnit)).run P w=.ok (if q then none else some false,PUnit.unit) w:=by
  intro k
  induction k with
  | zero=>
   intro j w q _ h
   simp only [Nat.zero_mul,C6,List.take_zero,Ct,AV,Option.some.injEq] at h
   subst h
   rfl
  | succ k ih=>
   intro j w q hj h
   have hb:j*l.length+l.length≤len*l.length:=by
    have:(j+1)*l.length≤len*l.length:=Nat.mul_le_mul_right _ (by omega)
    rw [Nat.succ_mul] at this; exact this
   rw [Ct,DG,Nat.succ_mul,Nat.add_comm (k*l.length) l.length,DP,DP] at h
   obtain ⟨q1,q2,h1,h2,rfl⟩ :=AQ (by rw [wT (by omega)]) (by rw [wT (by omega)]) h
   obtain ⟨x,y,p1,p2,p3⟩ :=hfl w xs ys (j*l.length) q1 (by omega) (by omega) h1
   rw [List.range'_succ,List.forIn_cons]
   simp only [Sem.run_bind,p1,p2,p3,Result.andThen_ok]
   cases q1 with
   | false=>simp
   | true=>
    simp only [Bool.not_true,Bool.false_eq_true,if_false,Sem.run_pure,Result.andThen_ok,Bool.true_and]
    exact ih (j+1) w q2 (by omega) (by rw [Nat.succ_mul]; exact h2)
 have h0:AV (Ct l len) (C6 xs (0*l.length) (len*l.length)) (C6 ys (0*l.length) (len*l.length))=some q:=by
  have ex:C6 xs (0*l.length) (len*l.length)=xs.toList:=by unfold C6; rw [Nat.zero_mul,List.drop_zero,List.take_of_length_le (by simp [hx])]
  have ey:C6 ys (0*l.length) (len*l.length)=ys.toList:=by unfold C6; rw [Nat.zero_mul,List.drop_zero,List.take_of_length_le (by simp [hy])]
  rw [ex,ey]; exact hq
 have hk:=key len 0 w q (by omega) h0
 rw [hk]
 cases q <;> rfl
theorem GO:∀(d:Nat) (t:TypeId) (l:List Bool),Dh P d t=some l→∀k,d≤k→
  GM P k t l∧((∃fs,P.underlying t=some (.struct fs))∨(∃n e,P.underlying t=some (.array n e))→∀(w:World) (xs ys:Array Value) (q:Bool),AV l xs.toList ys.toList=some q→(Op.equalIn k t (.agg xs) (.agg ys)).run P w=.ok q w)
 | 0,t,n,h,_,_=>by simp [Dh] at h
 | d+1,t,l,h,k,hk=>by
  obtain ⟨k,rfl⟩:∃j,k=j+1:=⟨k - 1,by omega⟩
  have hk':d≤k:=by omega
  have hagg:∀(u:TypeDesc),P.underlying t=some u→((∃fs,u=.struct fs)∨∃l e,u=.array l e)→∀(i:TypeInfo),P.info? t=some i→∀(w:World) (o:Nat) (a:Array Value),(part t a o).run P w=.ok (.agg (a.extract o (o+i.size))) w:=by
   intro u hu hor i hi w o a
   unfold part isAgg
   rcases hor with ⟨fs,rfl⟩ | ⟨l,e,rfl⟩ <;> simp [run_underlying hu,run_sizeOf hi]
  have hseg:∀(a:Array Value) (o m:Nat),(a.extract o (o+m)).toList=C6 a o m:=by
   intro a o m
   unfold C6
   rw [Array.toList_extract,List.extract_eq_drop_take']
   simp [List.drop_take]
  have hcell:∀(a:Array Value) (o:Nat),o+1≤a.size→∃v,a[o]?=some v∧C6 a o 1=[v]:=by
   intro a o ha
   have hlt:o<a.size:=by omega
   refine ⟨a[o],Array.getElem?_eq_getElem hlt,?_⟩
   unfold C6
   rw [List.drop_eq_getElem_cons (by simpa using hlt)]
   simp
  have fromWhole:∀(u:TypeDesc),P.underlying t=some u→((∃fs,u=.struct fs)∨∃l e,u=.array l e)→∀(i:TypeInfo),P.info? t=some i→i.size=l.length→
    (∀(w:World) (xs ys:Array Value) (q:Bool),AV l xs.toList ys.toList=some q→(Op.equalIn (k+1) t (.agg xs) (.agg ys)).run P w=.ok q w)→GM P (k+1) t l:=by
   intro u hu hor i hi hsz hw w xs ys o q hx hy hq
   refine ⟨_,_,hagg u hu hor i hi w o xs,hagg u hu hor i hi w o ys,hw w _ _ q ?_⟩
   rw [hseg,hseg,hsz]
   exact hq
  unfold Dh at h
  split at h
  ·rename_i ik hu
   simp only [Option.some.injEq] at h
   subst h
   refine ⟨fun w xs ys o q hx hy hq=>?_,fun hor=>by rcases hor with ⟨fs,h1⟩ | ⟨n,e,h1⟩ <;> (rw [hu] at h1; cases h1)⟩
   obtain ⟨x,hx1,hx2⟩ :=hcell xs o hx
   obtain ⟨y,hy1,hy2⟩ :=hcell ys o hy
   simp only [List.length_cons,List.length_nil,Nat.zero_add] at hq
   rw [hx2,hy2] at hq
   simp only [AV,Option.bind_eq_some_iff,Option.some.injEq] at hq
   obtain ⟨q0,h0,q1,hq1,rfl⟩ :=hq
   subst hq1
   have hp:∀(a:Array Value) (v:Value),a[o]?=some v→(part t a o).run P w=.ok v w:=by
    intro a v hv
    unfold part isAgg
    simp [run_underlying hu,hv]
   refine ⟨x,y,hp _ _ hx1,hp _ _ hy1,?_⟩
   unfold Yu at h0
   split at h0 <;> try contradiction
   split at h0 <;> try contradiction
   rename_i hkk
   simp only [Option.some.injEq] at h0
   subst h0
   subst hkk
   simp [Op.equalIn,run_underlying hu]
  ·rename_i hu
   simp only [Option.some.injEq] at h
   subst h
   refine ⟨fun w xs ys o q hx hy hq=>?_,fun hor=>by rcases hor with ⟨fs,h1⟩ | ⟨n,e,h1⟩ <;> (rw [hu] at h1; cases h1)⟩
   obtain ⟨x,hx1,hx2⟩ :=hcell xs o hx
   obtain ⟨y,hy1,hy2⟩ :=hcell ys o hy
   simp only [List.length_cons,List.length_nil,Nat.zero_add] at hq
   rw [hx2,hy2] at hq
   simp only [AV,Option.bind_eq_some_iff,Option.some.injEq] at hq
   obtain ⟨q0,h0,q1,hq1,rfl⟩ :=hq
   subst hq1
   have hp:∀(a:Array Value) (v:Value),a[o]?=some v→(part t a o).run P w=.ok v w:=by
    intro a v hv
    unfold part isAgg
    simp [run_underlying hu,hv]
   refine ⟨x,y,hp _ _ hx1,hp _ _ hy1,?_⟩
   unfold Yu at h0
   split at h0 <;> try contradiction
   simp only [Option.some.injEq] at h0
   subst h0
   simp [Op.equalIn,run_underlying hu]
  ·rename_i fs hu
   split at h <;> try contradiction
   rename_i l' i hst hfs hi
   split at h <;> try contradiction
   rename_i hsz
   simp only [Option.some.injEq] at h
   subst h
   have hsz':i.size=l'.length:=by rw [←BE]; exact Nat.eq_of_beq_eq_true hsz
   have hfo:P.fieldsOf t=fs:=by simp [Program.fieldsOf,hu]
   have hw:∀(w:World) (xs ys:Array Value) (q:Bool),AV l' xs.toList ys.toList=some q→(Op.equalIn (k+1) t (.agg xs) (.agg ys)).run P w=.ok q w:=by
    intro w xs ys q hq
    rw [run_equalIn_struct w k t xs ys (by rw [hfo]; exact hu) hst,hfo]
    have hl:=AO hq
    have e1:∀a:Array Value,a.toList.length=l'.length→C6 a 0 l'.length=a.toList:=fun a ha=>by unfold C6; rw [List.drop_zero,List.take_of_length_le (by omega)]
    exact C7 (fun t' l'' ht'=>(GO d t' l'' ht' k hk').1) fs.toList 0 l' hfs w xs ys q (by have:=hl.1; simp at this; omega) (by have:=hl.2; simp at this; omega) (by rw [e1 xs hl.1,e1 ys hl.2]; exact hq)
   exact ⟨fromWhole _ hu (.inl ⟨_,rfl⟩) i hi hsz' hw,fun _=>hw⟩
  ·rename_i len e hu
   split at h <;> try contradiction
   rename_i le i j hle hi hj
   split at h <;> try contradiction
   rename_i hsz hsz2
   simp only [Option.some.injEq] at h
   subst h
   have hsz':i.size=le.length:=by rw [←BE]; exact Nat.eq_of_beq_eq_true hsz
   have hsz2':j.size=(Ct le len).length:=by rw [←BE]; exact Nat.eq_of_beq_eq_true hsz2
   have hw:∀(w:World) (xs ys:Array Value) (q:Bool),AV (Ct le len) xs.toList ys.toList=some q→(Op.equalIn (k+1) t (.agg xs) (.agg ys)).run P w=.ok q w:=by
    intro w xs ys q hq
    have hl:=AO hq
    rw [Di] at hl
    exact run_equalIn_array hu hi hsz' (GO d e le hle k hk').1 w xs ys q (by simpa using hl.1) (by simpa using hl.2) hq
   exact ⟨fromWhole _ hu (.inr ⟨_,_,rfl⟩) j hj hsz2' hw,fun _=>hw⟩
  ·contradiction
theorem Jf (d:Nat) (hd:4≤d) {t:TypeId} {x y:Value} {b:Bool} (h:SF (Qp P t) x y=some b):(Op.equalIn (d+1) t x y).run P w=.ok b w:=by
 have hu:=FT P t
 cases hk:Qp P t <;> rw [hk] at h hu <;> simp only [SF,ZZ] at h hu <;> try contradiction
 ·unfold YH at h
  split at h <;> try contradiction
  simp only [Option.some.injEq] at h
  simp [Op.equalIn,run_underlying hu,h]
 ·obtain ⟨e,hu⟩ :=hu
  unfold Z7 at h
  split at h <;> try contradiction
  all_goals (simp only [Option.some.injEq] at h; simp [Op.equalIn,run_underlying hu,h])
 ·obtain ⟨e,hu⟩ :=hu
  unfold Qa at h
  split at h <;> try contradiction
  all_goals (simp only [Option.some.injEq] at h; simp [Op.equalIn,run_underlying hu,h])
 ·obtain ⟨e,e',hu⟩ :=hu
  unfold Q7 at h
  split at h <;> try contradiction
  all_goals (simp only [Option.some.injEq] at h; simp [Op.equalIn,run_underlying hu,h])
 ·obtain ⟨e,e',e'',hu⟩ :=hu
  unfold YY at h
  split at h <;> try contradiction
  all_goals (simp only [Option.some.injEq] at h; simp [Op.equalIn,run_underlying hu,h])
 ·obtain ⟨h1,h2,h3⟩ :=hu
  unfold E5 at h
  split at h <;> try contradiction
  exact (GO 5 t _ h1 (d+1) (by omega)).2 h3 w _ _ b h
theorem K0 {t:TypeId} {x y:Value} {b:Bool} (h:SF (Qp P t) x y=some b):(Op.equal t x y).run P w=.ok b w:=
 Jf 9999 (by omega) h
theorem L6 {k:EK} {x y:Value} {b:Bool} (h:SF k x y=some b) (hk:∀ds,k≠.agg ds) :
  (∀(op:BinOp) (t:TypeId) (ox oy:Operand),(eqGuard op t ox oy x y).run P w=.ok () w)∧
  (∀t,binOp .eql t x y=(do pure (.bool (←Op.equal t x y))))∧(∀t,binOp .neq t x y=(do pure (.bool (!(←Op.equal t x y))))):=by
 cases k <;> simp only [SF] at h <;> try contradiction
 ·unfold YH at h; split at h <;> try contradiction
  exact ⟨fun op _ _ _=>by cases op <;> rfl,fun _=>rfl,fun _=>rfl⟩
 ·unfold Z7 at h; split at h <;> try contradiction
  all_goals exact ⟨fun op _ _ _=>by cases op <;> rfl,fun _=>rfl,fun _=>rfl⟩
 ·unfold Qa at h; split at h <;> try contradiction
  all_goals exact ⟨fun op _ _ _=>by cases op <;> rfl,fun _=>rfl,fun _=>rfl⟩
 ·unfold Q7 at h; split at h <;> try contradiction
  all_goals exact ⟨fun op _ _ _=>by cases op <;> rfl,fun _=>rfl,fun _=>rfl⟩
 ·unfold YY at h; split at h <;> try contradiction
  all_goals exact ⟨fun op _ _ _=>by cases op <;> rfl,fun _=>rfl,fun _=>rfl⟩
 ·exact (hk _ rfl).elim
theorem Q3 {op:BinOp} {t:TypeId} {ox oy:Operand} {x y v:Value} (h:XG (Qp P t) op x y=some v) :
  (do eqGuard op t ox oy x y; binOp op t x y:Sem Value).run P w=.ok v w:=by
 cases hk:Qp P t with
 | plain=>
  rw [hk] at h
  simp only [XG] at h
  obtain ⟨k,a,k',b,rfl,rfl⟩ :=OS h
  simp only [Sem.run_bind,Du,Result.andThen_ok,QJ h]
 | agg l=>
  have hu:=FT P t
  rw [hk] at h hu
  obtain ⟨h1,h2,h3⟩ :=hu
  cases op <;> simp only [XG] at h <;> try contradiction
  all_goals
   simp only [pos?,BZ,Option.bind_eq_some_iff,Option.some.injEq] at h
   obtain ⟨b,hb,rfl⟩ :=h
   have hr:=K0 (P:=P) (w:=w) (t:=t) (x:=x) (y:=y) (b:=b) (by rw [hk]; exact hb)
   simp only [SF,E5] at hb
   split at hb <;> try contradiction
   simp only [Op.equal,Op.maxDepth] at hr
   simp only [Sem.run_bind,run_eqGuard_agg w _ _ _ _ _ _ h2,Result.andThen_ok,run_eql_struct,run_neq_struct,hr]
 | _=>
  rw [hk] at h
  cases op <;> simp only [XG] at h <;> try contradiction
  all_goals
   simp only [pos?,BZ,Option.bind_eq_some_iff,Option.some.injEq] at h
   obtain ⟨b,hb,rfl⟩ :=h
   obtain ⟨g1,g2,g3⟩ :=L6 (P:=P) (w:=w) hb (fun ds e=>by simp at e)
   rw [←hk] at hb
   have hr:=K0 (P:=P) (w:=w) hb
   simp only [Sem.run_bind,g1,g2,g3,Result.andThen_ok,hr,Sem.run_pure]
theorem Ku (d:Nat) {t:TypeId} {x:Value} {b:Bool} (hi:YI P t=true) (h:(x=.nilIface∧b=true)∨((∃t' v,x=.iface t' v)∧b=false)):(Op.equalIn (d+1) t x .nilIface).run P w=.ok b w:=by
 unfold YI at hi
 split at hi <;> try contradiction
 rename_i ms hu
 unfold Op.equalIn
 rcases h with ⟨rfl,rfl⟩ | ⟨⟨t',v,rfl⟩,rfl⟩
 ·simp only [Sem.run_bind,run_underlying hu,Result.andThen_ok,Sem.run_pure]
 ·simp only [Sem.run_bind,run_underlying hu,Result.andThen_ok,Sem.run_pure]
theorem Qo {op:BinOp} {t:TypeId} {ox:Operand} {x v:Value} (hi:YI P t=true) (h:inl op x=some v) :
  (do eqGuard op t ox (.const .nilIface) x .nilIface; binOp op t x .nilIface:Sem Value).run P w=.ok v w:=by
 have e:∀b,((x=.nilIface∧b=true)∨((∃t' v,x=.iface t' v)∧b=false))→(Op.equal t x .nilIface).run P w=.ok b w:=fun b hb=>Ku 9999 hi hb
 unfold inl at h
 split at h <;> try contradiction
 all_goals
  simp only [Option.some.injEq] at h
  subst h
 ·have g:(eqGuard .eql t ox (.const .nilIface) .nilIface .nilIface).run P w=.ok () w:=by
   unfold eqGuard; simp
  have b:binOp .eql t .nilIface .nilIface=(do pure (.bool (←Op.equal t .nilIface .nilIface))):=rfl
  simp only [Sem.run_bind,g,b,Result.andThen_ok,e true (.inl ⟨rfl,rfl⟩),Sem.run_pure]
 ·rename_i t' v'
  have g:(eqGuard .eql t ox (.const .nilIface) (.iface t' v') .nilIface).run P w=.ok () w:=rfl
  have b:binOp .eql t (.iface t' v') .nilIface=(do pure (.bool (←Op.equal t (.iface t' v') .nilIface))):=rfl
  simp only [Sem.run_bind,g,b,Result.andThen_ok,e false (.inr ⟨⟨_,_,rfl⟩,rfl⟩),Sem.run_pure]
 ·have g:(eqGuard .neq t ox (.const .nilIface) .nilIface .nilIface).run P w=.ok () w:=by
   unfold eqGuard; simp
  have b:binOp .neq t .nilIface .nilIface=(do pure (.bool (!(←Op.equal t .nilIface .nilIface)))):=rfl
  simp only [Sem.run_bind,g,b,Result.andThen_ok,e true (.inl ⟨rfl,rfl⟩),Sem.run_pure,Bool.not_true]
 ·rename_i t' v'
  have g:(eqGuard .neq t ox (.const .nilIface) (.iface t' v') .nilIface).run P w=.ok () w:=rfl
  have b:binOp .neq t (.iface t' v') .nilIface=(do pure (.bool (!(←Op.equal t (.iface t' v') .nilIface)))):=rfl
  simp only [Sem.run_bind,g,b,Result.andThen_ok,e false (.inr ⟨⟨_,_,rfl⟩,rfl⟩),Sem.run_pure,Bool.not_false]
theorem QW {t:TypeId} {x:Value} (hi:V0 P t=true):(Instr.makeInterface t x).run P w=.ok (.iface t x) w:=by
 unfold V0 at hi
 split at hi <;> try contradiction
 rename_i d hn hu
 unfold Instr.makeInterface
 simp only [Sem.run_bind,run_underlying hu,Result.andThen_ok,Sem.run_pure]
theorem Rm {t xt:TypeId} {i:TypeInfo} {z x v:Value} {ok:Bool} (hi:V0 P t=true) (hj:P.info? t=some i) (hz:i.zero=some z) (h:C3 t z ok x=some v):(Instr.typeAssert x xt t ok).run P w=.ok v w:=by
 unfold V0 at hi
 split at hi <;> try contradiction
 rename_i d hn hu
 have hzr:=o7 (P:=P) (w:=w) hj hz
 unfold C3 at h
 unfold Instr.typeAssert
 split at h <;> try contradiction
 ·rename_i t' v'
  simp only [Option.some.injEq] at h
  subst h
  simp only [Sem.run_bind,run_underlying hu,Result.andThen_ok]
  by_cases e:t'=t
  ·cases d <;> first | (rename_i ms; exact (hn ms rfl).elim) | simp [e]
  ·cases d <;> first | (rename_i ms; exact (hn ms rfl).elim) | simp [e,hzr]
 ·rename_i t' v'
  split at h <;> try contradiction
  rename_i e
  simp only [Option.some.injEq] at h
  subst h
  simp only [Sem.run_bind,run_underlying hu,Result.andThen_ok]
  cases d <;> first | (rename_i ms; exact (hn ms rfl).elim) | simp [e]
 ·simp only [Option.some.injEq] at h
  subst h
  simp only [Sem.run_bind,run_underlying hu,Result.andThen_ok]
  cases d <;> first | (rename_i ms; exact (hn ms rfl).elim) | simp [hzr]
theorem Ro {op:UnOp} {x v:Value} (h:sk op x=some v):(Op.unary op x).run P w=.ok v w:=by
 unfold sk at h
 split at h <;> try contradiction
 all_goals (simp only [Option.some.injEq] at h; subst h; simp [Op.unary,Op.intArith])
theorem Qq {s d:TypeId} {x v:Value} (h:Ye (Zm P s d) x=some v):(convert s d x).run P w=.ok v w:=by
 unfold Zm at h
 split at h
 ·rename_i k' k hs hd
  simp only [Ye] at h
  unfold HA at h
  split at h <;> try contradiction
  simp only [Option.some.injEq] at h
  subst h
  simp [convert,run_underlying hs,run_underlying hd,Conv.intToInt]
 ·simp [Ye] at h
theorem FM {s:TypeId} {f:Nat} {k:FK} (h:SX P s f=k) (hk:k≠.bad):∃fs fd i,P.underlying s=some (.struct fs)∧fs[f]?=some fd∧P.info? fd.type=some i∧i.size≠0∧
  ((k=.cell fd.offset∧Kb P fd.type=.cell)∨(k=.agg fd.offset i.size∧Kb P fd.type=.agg i.size)):=by
 unfold SX at h
 split at h <;> try (exact (hk h.symm).elim)
 rename_i fs hu
 split at h <;> try (exact (hk h.symm).elim)
 rename_i fd hfd
 split at h <;> try (exact (hk h.symm).elim)
 ·rename_i i ht hi
  split at h <;> try (exact (hk h.symm).elim)
  rename_i hs
  exact ⟨fs,fd,i,hu,hfd,hi,by omega,.inl ⟨h.symm,ht⟩⟩
 ·rename_i n ht
  obtain ⟨⟨i,hi,hn⟩,_⟩ :=DM ht
  exact ⟨fs,fd,i,hu,hfd,hi,by omega,.inr ⟨by rw [←h,hn],by rw [ht,hn]⟩⟩
theorem I6 {s:TypeId} {f:Nat} {p v:Value} (h:YG (SX P s f) p=some v):(Instr.fieldAt s p f).run P w=.ok v w:=by
 have hk:SX P s f≠.bad:=fun e=>by rw [e] at h; simp [YG] at h
 obtain ⟨fs,fd,i,hu,hfd,hi,hne,hc⟩ :=FM rfl hk
 have h':fa fd.offset p=some v:=by
  rcases hc with ⟨e,_⟩ | ⟨e,_⟩ <;> (rw [e] at h; simpa [YG] using h)
 unfold fa at h'
 split at h' <;> try contradiction
 simp only [Option.some.injEq] at h'
 subst h'
 simp [Instr.fieldAt,run_underlying hu,hfd,Instr.sureAddr,fieldPlace,run_sizeOf hi,hne]
theorem Nj {s:TypeId} {f:Nat} {x v:Value} (h:YQ (SX P s f) x=some v):(Instr.field s x f).run P w=.ok v w:=by
 have hk:SX P s f≠.bad:=fun e=>by rw [e] at h; simp [YQ] at h
 obtain ⟨fs,fd,i,hu,hfd,hi,hne,hc⟩ :=FM rfl hk
 rcases hc with ⟨e,ht⟩ | ⟨e,ht⟩ <;> rw [e] at h <;> simp only [YQ] at h
 ·unfold fdc at h
  split at h <;> try contradiction
  simp [Instr.field,run_underlying hu,hfd,asAgg,part,tZ ht,h]
 ·unfold Zz at h
  split at h <;> try contradiction
  simp only [Option.some.injEq] at h
  subst h
  simp [Instr.field,run_underlying hu,hfd,asAgg,part,vC ht,run_sizeOf hi]
theorem Iz {t:TypeId} {x i v:Value} (h:XM (P8 P t) x i=some v):(Instr.indexAt t x i).run P w=.ok v w:=by
 unfold P8 at h
 split at h
 ·rename_i e hu
  split at h <;> simp only [XM] at h <;> try contradiction
  rename_i ii hi
  unfold lQ at h
  split at h <;> try contradiction
  split at h <;> try contradiction
  rename_i hb
  simp only [Option.some.injEq] at h
  subst h
  simp [Instr.indexAt,asIntOf,run_underlying hu,hb,run_sizeOf hi]
 ·rename_i n e hu
  split at h <;> simp only [XM] at h <;> try contradiction
  rename_i ii hi
  unfold Jj at h
  split at h <;> try contradiction
  split at h <;> try contradiction
  rename_i hb
  simp only [Option.some.injEq] at h
  subst h
  simp [Instr.indexAt,asIntOf,run_underlying hu,hb,run_sizeOf hi,Instr.sureAddr]
 ·simp [XM] at h
theorem Jb {t:TypeId} {x v:Value} (h:X7 (P8 P t) x=some v):(Instr.arrayAt t x).run P w=.ok v w:=by
 unfold P8 at h
 split at h
 ·split at h <;> simp [X7] at h
 ·rename_i n e hu
  split at h <;> simp only [X7] at h <;> try contradiction
  unfold YR at h
  split at h <;> try contradiction
  split at h <;> try contradiction
  rename_i hb
  have hb:=Nat.le_of_ble_eq_true hb
  simp only [Option.some.injEq] at h
  subst h
  simp [Instr.arrayAt,run_underlying hu,Nat.not_lt.2 hb]
 ·simp [X7] at h
theorem MW {t:TypeId} {x i v:Value} (h:X1 (Zy P t) x i=some v):(Instr.index t x i).run P w=.ok v w:=by
 unfold Zy at h
 split at h
 ·rename_i n e hu
  split at h <;> simp only [X1] at h <;> try contradiction
  ·rename_i ii ht hi
   unfold Y0 at h
   split at h <;> try contradiction
   split at h <;> try contradiction
   rename_i hb
   simp [Instr.index,asIntOf,run_underlying hu,hb,run_sizeOf hi,part,tZ ht,h]
  ·rename_i s ii ht hi
   unfold Yf at h
   split at h <;> try contradiction
   split at h <;> try contradiction
   rename_i hb
   simp only [Option.some.injEq] at h
   subst h
   obtain ⟨⟨i2,hi2,hn⟩,_⟩ :=DM ht
   have:ii=i2:=by rw [hi] at hi2; simpa using hi2
   subst this
   simp [Instr.index,asIntOf,run_underlying hu,hb,run_sizeOf hi,part,vC ht,hn]
 ·rename_i hu
  simp only [X1] at h
  unfold Wk at h
  split at h <;> try contradiction
  rename_i s _ n
  rw [Option.map_eq_some_iff] at h
  obtain ⟨b,hb,rfl⟩ :=h
  simp [Instr.index,asIntOf,run_underlying hu,hb]
 ·simp [X1] at h
theorem Rz {it v:Value} (h:zA it w.heap=some v):(Instr.entry it).run P w=.ok v w:=by
 unfold zA at h
 split at h <;> try contradiction
 rename_i r _
 split at h <;> try contradiction
 rename_i m c0 seen stepped hr
 split at h <;> try contradiction
 rename_i stamp es clock hb hm
 split at h <;> try contradiction
 rename_i e hck he
 simp only [Option.some.injEq] at h
 subst h
 have hck':=Nat.eq_of_beq_eq_true hck
 subst hck'
 have g1:(getObj r).run P w=.ok (.mapIter (some m) c0 seen clock) w:=by simp only [getObj,Sem.run,hr]
 have g2:(getObj m).run P w=.ok (.map es clock) w:=by simp only [getObj,Sem.run,hm]
 unfold Instr.entry
 simp only [Sem.run_bind,g1,Result.andThen_ok,hb,g2,bne_self_eq_false,Bool.false_eq_true,if_false,he,Sem.run_pure]
theorem tz {x:Value} {y:Nat} {c:BoundsCode} {m:Nat} (h:Tt x y=some m):(Instr.sliceBound x y c).run P w=.ok m w:=by
 unfold Tt at h
 split at h <;> try contradiction
 split at h <;> try contradiction
 rename_i hb
 simp only [Option.some.injEq] at h
 subst h
 simp [Instr.sliceBound,asIntOf,hb]
theorem Ih {isS:Bool} {len cap:Nat} {lo hi mx:Option Value} {b:Nat × Nat × Nat} (hm:hi=none→mx=none) (h:Nb len cap lo hi mx=some b) :
  (Instr.sliceBounds isS len cap lo hi mx).run P w=.ok b w:=by
 unfold Nb at h
 simp only [Option.bind_eq_some_iff,Option.some.injEq] at h
 obtain ⟨m,h1,hh,h2,l,h3,rfl⟩ :=h
 unfold Instr.sliceBounds
 cases mx with
 | none=>
  simp only [Pm,Option.some.injEq] at h1
  subst h1
  cases hi with
  | none=>
   simp only [Kl,Option.some.injEq] at h2
   subst h2
   cases lo with
   | none=>simp only [Ft,Option.some.injEq] at h3; subst h3; rfl
   | some u=>simp only [Ft] at h3; simp only [Sem.run_bind,Sem.run_pure,Result.andThen_ok,tz h3]
  | some v=>
   simp only [Kl] at h2
   cases lo with
   | none=>simp only [Ft,Option.some.injEq] at h3; subst h3; simp only [Sem.run_bind,Sem.run_pure,Result.andThen_ok,tz h2]
   | some u=>simp only [Ft] at h3; simp only [Sem.run_bind,Sem.run_pure,Result.andThen_ok,tz h3,tz h2]
 | some x=>
  simp only [Pm] at h1
  cases hi with
  | none=>exact absurd (hm rfl) (by simp)
  | some v=>
   simp only [Kl] at h2
   cases lo with
   | none=>simp only [Ft,Option.some.injEq] at h3; subst h3; simp only [Sem.run_bind,Sem.run_pure,Result.andThen_ok,tz h2,tz h1]
   | some u=>simp only [Ft] at h3; simp only [Sem.run_bind,Sem.run_pure,Result.andThen_ok,tz h3,tz h2,tz h1]
theorem Ia {t:TypeId} {x v:Value} {lo hi mx:Option Value} (hm:hi=none→mx=none) (h:VU (P8 P t) x lo hi mx=some v) :
  (Instr.sliceAt t x lo hi mx).run P w=.ok v w:=by
 unfold P8 at h
 split at h
 ·rename_i e hu
  split at h <;> simp only [VU] at h <;> try contradiction
  rename_i ii hii
  unfold vR at h
  split at h <;> try contradiction
  simp only [Option.bind_eq_some_iff,Option.some.injEq] at h
  obtain ⟨b,hb,rfl⟩ :=h
  simp [Instr.sliceAt,Instr.slice,run_underlying hu,Ih hm hb,run_sizeOf hii,MM]
 ·rename_i n e hu
  split at h <;> simp only [VU] at h <;> try contradiction
  rename_i ii hii
  unfold YO at h
  split at h <;> try contradiction
  simp only [Option.bind_eq_some_iff,Option.some.injEq] at h
  obtain ⟨b,hb,rfl⟩ :=h
  simp only [Instr.sliceAt,Sem.run_bind,run_underlying hu,Result.andThen_ok,Instr.sureAddr,Sem.run_pure,Ih hm hb,run_sizeOf hii,MM]
  congr 2
  split <;> rfl
 ·simp [VU] at h
theorem R3 {x v:Value} {i:Nat} (h:ext i x=some v):(Instr.extract x i).run P w=.ok v w:=by
 unfold ext at h
 split at h <;> try contradiction
 simp [Instr.extract,h]
theorem run_places:∀(fs:List Field) (ps:List (Nat × Nat)),placesOf P fs=some ps→
  (fs.mapM fun f=>do pure (f.offset,←sizeOf f.type):Sem (List (Nat × Nat))).run P w=.ok ps w
 | [],ps,h=>by simp only [placesOf,Option.some.injEq] at h; subst h; rfl
 | f::r,ps,h=>by
  simp only [placesOf,Option.bind_eq_some_iff,Option.some.injEq] at h
  obtain ⟨i,hi,l,hl,rfl⟩ :=h
  have:=run_places r l hl
  simp only [List.mapM_cons,Sem.run_bind,run_sizeOf hi,Result.andThen_ok,Sem.run_pure,this]
theorem run_build {t:TypeId} {parts:Array (Nat × Value)} {v:Value} (h:RV (Zp P t) parts.toList=some v):(Instr.build t parts).run P w=.ok v w:=by
 unfold Zp at h
 split at h <;> try (simp only [RV] at h; contradiction)
 rename_i i hi
 split at h <;> try (simp only [RV] at h; contradiction)
 rename_i z hz
 split at h <;> try (simp only [RV] at h; contradiction)
 ·rename_i fs hu
  split at h <;> try (simp only [RV] at h; contradiction)
  rename_i ps hps
  simp only [RV] at h
  unfold bG at h
  simp only [Option.bind_eq_some_iff,Option.some.injEq] at h
  obtain ⟨cells,hc,rfl⟩ :=h
  have hp:=run_places (P:=P) (w:=w) fs.toList ps hps
  have hp':(fs.mapM fun f=>do pure (f.offset,←sizeOf f.type):Sem (Array (Nat × Nat))).run P w=.ok ps.toArray w:=by
   rw [Array.mapM_eq_mapM_toList,Sem.run_map,hp]; rfl
  have hc':Instr.fill (fun i=>ps.toArray[i]?) z.cells parts.toList=some cells:=by simpa using hc
  simp only [Instr.build,Sem.run_bind,o7 hi hz,Result.andThen_ok,run_underlying hu,hp',hc',Sem.run_pure]
 ·rename_i n e hu
  split at h <;> try (simp only [RV] at h; contradiction)
  rename_i j hj
  simp only [RV] at h
  unfold RA at h
  simp only [Option.bind_eq_some_iff,Option.some.injEq] at h
  obtain ⟨cells,hc,rfl⟩ :=h
  simp only [Instr.build,Sem.run_bind,o7 hi hz,Result.andThen_ok,run_underlying hu,run_sizeOf hj,hc,Sem.run_pure]
theorem Er {t e:TypeId} {z:Array Value} {s b:Nat} (h:Nr P t=.ok e z s b):P.underlying t=some (.slice e)∧∃i v,P.info? e=some i∧i.zero=some v∧v.cells=z∧i.size=s∧i.bytes=b∧z.size=s∧0<s:=by
 unfold Nr at h
 split at h <;> try contradiction
 rename_i e' hu
 split at h <;> try contradiction
 rename_i i hi
 split at h <;> try contradiction
 rename_i v hz
 split at h <;> try contradiction
 rename_i h1 h2
 simp only [XK.ok.injEq] at h
 obtain ⟨rfl,rfl,rfl,rfl⟩ :=h
 exact ⟨hu,i,v,hi,hz,rfl,rfl,rfl,Nat.eq_of_beq_eq_true h1,by simpa [Nat.blt_eq] using h2⟩
theorem Ed {t e:TypeId} {z:Array Value} {s b len:Nat} {parts:Array (Nat × Value)} {v:Value} {h':Hp} (hk:Nr P t=.ok e z s b) (hl:len*s≤16777216)
  (h:pb z s len e parts.toList w.heap=some (v,h')):∃w',(Instr.buildSlice t len parts).run P w=.ok v w'∧w'.heap=h'∧sj w w':=by
 obtain ⟨hu,i,zv,hi,hz,rfl,rfl,rfl,hzs,hpos⟩ :=Er hk
 unfold pb at h
 simp only [Option.bind_eq_some_iff,Option.some.injEq,Prod.mk.injEq] at h
 obtain ⟨cells,hc,rfl,rfl⟩ :=h
 have h24:¬(len*i.size > 16777216):=by omega
 by_cases h0:len*i.size=0
 ·refine ⟨{w with heap:=w.heap.push (.cells cells e)},?_,rfl,⟨rfl,rfl,rfl⟩⟩
  have e0:(Array.range (len*i.size)).map (fun x=>zv.cells[x % zv.cells.size]!)=(Array.range (len*i.size)).map (fun x=>(#[]:Array Value)[x % 0]!):=by
   rw [h0]; simp
  rw [e0] at hc
  simp only [Instr.buildSlice,Sem.run_bind,run_underlying hu,Result.andThen_ok,run_sizeOf hi,h24,h0,if_true,if_false,Sem.run_pure,newRow,run_newObj,Nat.reducePow,Nat.not_lt_zero,gt_iff_lt]
  rw [h0] at hc
  simp only [List.size_toArray,List.length_nil]
  rw [hc]
  rfl
 ·refine ⟨{w with heap:=w.heap.push (.cells cells e)},?_,rfl,⟨rfl,rfl,rfl⟩⟩
  simp only [Instr.buildSlice,Sem.run_bind,run_underlying hu,Result.andThen_ok,run_sizeOf hi,h24,h0,if_false,Sem.run_pure,newRow,run_newObj,Nat.reducePow,o7 hi hz,hc]
theorem Hi {e:TypeId} {i:TypeInfo} {z v:Value} {h':Hp} (hi:P.info? e=some i) (hz:i.zero=some z) (h:nw z.cells e w.heap=some (v,h')) :
  ∃w',(Instr.alloc e true (.tuple #[])).run P w=.ok v w'∧w'.heap=h'∧sj w w':=by
 simp only [nw,Option.some.injEq,Prod.mk.injEq] at h
 obtain ⟨rfl,rfl⟩ :=h
 refine ⟨{w with heap:=w.heap.push (.cells z.cells e)},?_,rfl,⟨rfl,rfl,rfl⟩⟩
 simp [Instr.alloc,o7 hi hz,newVar,newRow]
theorem Jm {e:TypeId} {x v:Value} {h':Hp} (h:nw x.cells e w.heap=some (v,h')) :
  ∃w',(Instr.box e x).run P w=.ok v w'∧w'.heap=h'∧sj w w':=by
 simp only [nw,Option.some.injEq,Prod.mk.injEq] at h
 obtain ⟨rfl,rfl⟩ :=h
 refine ⟨{w with heap:=w.heap.push (.cells x.cells e)},?_,rfl,⟨rfl,rfl,rfl⟩⟩
 simp [Instr.box,newVar,newRow]
end
end Go.En
namespace Go.En
section
variable {P:Program} {w:World}
theorem G8 {t:TypeId} {kd:TypeDesc} {z:Value} (h:NA P t=.ok kd z):∃k e ik i,P.underlying t=some (.map k e)∧P.underlying k=some (.int ik)∧kd=.int ik∧P.info? e=some i∧i.zero=some z:=by
 unfold NA at h
 split at h <;> try contradiction
 rename_i k e hu
 split at h <;> try contradiction
 rename_i ik i hk hi
 split at h <;> try contradiction
 rename_i zz hz
 simp only [MK.ok.injEq] at h
 obtain ⟨rfl,rfl⟩ :=h
 exact ⟨k,e,ik,i,hu,hk,rfl,hi,hz⟩
theorem run_checkKey (e:Bool) (n:Nat) {k:TypeId} {ik:IntKind} (hk:P.underlying k=some (.int ik)) (v:Value):(Instr.checkKey e (n+1) k v).run P w=.ok () w:=by
 unfold Instr.checkKey
 simp only [Sem.run_bind,run_underlying hk,Result.andThen_ok]
 cases v <;> rfl
theorem run_findKey {k:TypeId} {kd:TypeDesc} (hk:P.underlying k=some kd) {key:Value} {es:List MapEntry} {r:Option (Nat × Value)} (h:Instr.findNow kd key es 0=some r) :
  (Instr.findKey k key es).run P w=.ok r w:=by
 unfold Instr.findKey
 simp only [Sem.run_bind,run_underlying hk,Result.andThen_ok,h,Sem.run_pure]
theorem Ce {m:Value} {h:Hp} (e:zg m h=some none):m=.map none:=by
 unfold zg at e
 split at e
 ·rfl
 ·split at e <;> simp at e
 ·simp at e
theorem tW {m:Value} {h:Hp} {r:Nat} {es:Array MapEntry} {c:Nat} (e:zg m h=some (some (r,es,c))):m=.map (some r)∧h[r]?=some (.map es c):=by
 unfold zg at e
 split at e
 ·simp at e
 ·rename_i r'
  split at e
  ·rename_i es' c' hh
   simp only [Option.some.injEq,Prod.mk.injEq] at e
   obtain ⟨rfl,rfl,rfl⟩ :=e
   exact ⟨rfl,hh⟩
  ·simp at e
 ·simp at e
theorem nG {r:Nat} {es:Array MapEntry} {c:Nat} (hh:w.heap[r]?=some (.map es c)):(getObj r).run P w=.ok (.map es c) w:=by
 simp only [getObj,Sem.run,hh]
theorem qF {r:Nat} {es:Array MapEntry} {c:Nat} (o:Obj) (hh:w.heap[r]?=some (.map es c)):(setObj r o).run P w=.ok () {w with heap:=w.heap.setIfInBounds r o}:=by
 simp only [setObj,Sem.run,hh]
theorem Jy {t:TypeId} {ok:Bool} {m key v:Value} (h:Yn (NA P t) ok m key w.heap=some v):(Instr.lookup t m key ok).run P w=.ok v w:=by
 cases hk:NA P t with
 | bad=>rw [hk] at h; simp [Yn] at h
 | ok kd z=>
  rw [hk] at h
  simp only [Yn] at h
  obtain ⟨k,e,ik,i,hu,hkk,rfl,hi,hz⟩ :=G8 hk
  unfold MF at h
  simp only [Option.bind_eq_some_iff,Option.some.injEq] at h
  obtain ⟨r,hr,f,hf,hv⟩ :=h
  have hc:=fun (b:Bool)=>run_checkKey (P:=P) (w:=w) b 9999 hkk key
  cases r with
  | none=>
   have:=Ce hr
   subst this
   simp only [Option.map_none,Option.getD_none,Instr.findNow,Option.some.injEq] at hf
   subst hf
   unfold Instr.lookup
   have hfk:=run_findKey (P:=P) (w:=w) hkk (key:=key) (es:=[]) (r:=none) rfl
   simp only [Sem.run_bind,run_underlying hu,Result.andThen_ok,Sem.run_pure,hc,hfk,o7 hi hz]
   subst hv
   cases ok <;> rfl
  | some x=>
   obtain ⟨r,es,c⟩ :=x
   obtain ⟨rfl,hh⟩ :=tW hr
   simp only [Option.map_some,Option.getD_some] at hf
   have hfk:=run_findKey (P:=P) (w:=w) hkk hf
   unfold Instr.lookup
   simp only [Sem.run_bind,run_underlying hu,Result.andThen_ok,Sem.run_pure,nG hh,hc,hfk]
   subst hv
   cases f with
   | none=>simp only [Sem.run_bind,o7 hi hz,Result.andThen_ok,Sem.run_pure]; cases ok <;> rfl
   | some y=>simp only [Sem.run_pure,Result.andThen_ok]; cases ok <;> rfl
theorem C5 {ik:IntKind} {key:Value}:∀(es:List MapEntry) (i j:Nat) (v:Value),Instr.findNow (.int ik) key es i=some (some (j,v))→
  i≤j∧∃e,es[j - i]?=some e∧e.val=v∧(∃k a,key=.int k a∧e.key=.int k a)
 | [],i,j,v,h=>by simp [Instr.findNow] at h
 | e::es,i,j,v,h=>by
  unfold Instr.findNow at h
  split at h
  ·rename_i hs
   simp only [Option.some.injEq,Prod.mk.injEq] at h
   obtain ⟨rfl,rfl⟩ :=h
   refine ⟨Nat.le_refl _,e,by simp,rfl,?_⟩
   unfold Instr.sameNow at hs
   split at hs <;> try contradiction
   ·rename_i hke
    split at hs <;> try contradiction
    rename_i hkk
    simp only [Option.some.injEq,beq_iff_eq] at hs
    exact ⟨_,_,rfl,by rw [hke,hkk,hs]⟩
  ·obtain ⟨h1,e',h2,h3,h4⟩ :=C5 es (i+1) j v h
   refine ⟨by omega,e',?_,h3,h4⟩
   have:j - i=(j - (i+1))+1:=by omega
   rw [this,List.getElem?_cons_succ]
   exact h2
  ·contradiction
theorem Hj (n:Nat) (k:IntKind) (a:Int):Instr.sameBits n (.int k a) (.int k a)=true:=by
 cases n <;> simp [Instr.sameBits]
theorem BD {ik:IntKind} {key:Value} {es:Array MapEntry} {j:Nat} {v:Value} (h:Instr.findNow (.int ik) key es.toList 0=some (some (j,v))) :
  (Instr.keyThatStays (((es[j]?).map (·.key)).getD key) key).run P w=.ok key w:=by
 obtain ⟨_,e,h2,_,k,a,rfl,hk⟩ :=C5 _ _ _ _ h
 have h2':es[j]?=some e:=by simpa using h2
 unfold Instr.keyThatStays
 rw [h2']
 simp only [Option.map_some,Option.getD_some,hk]
 rw [if_pos (Hj _ _ _)]
 rfl
theorem z9 {t:TypeId} {kd:TypeDesc} {z m key v:Value} {h':Hp} (hk:NA P t=.ok kd z) (h:CZ kd m key v w.heap=some h') :
  ∃w',(Instr.mapUpdate t m key v).run P w=.ok () w'∧w'.heap=h'∧sj w w':=by
 obtain ⟨k,e,ik,i,hu,hkk,rfl,hi,hz⟩ :=G8 hk
 have hc:=fun (b:Bool)=>run_checkKey (P:=P) (w:=w) b 9999 hkk key
 unfold CZ at h
 split at h <;> try contradiction
 rename_i r es c hm
 obtain ⟨rfl,hh⟩ :=tW hm
 unfold Instr.mapUpdate
 simp only [Sem.run_bind,run_underlying hu,Result.andThen_ok,nG hh,hc]
 split at h <;> try contradiction
 ·rename_i j u hf
  simp only [Option.some.injEq] at h
  subst h
  refine ⟨{w with heap:=w.heap.setIfInBounds r _},?_,rfl,⟨rfl,rfl,rfl⟩⟩
  simp only [run_findKey hkk hf,Result.andThen_ok,Sem.run_bind,BD hf,qF _ hh]
 ·rename_i hf
  simp only [Option.some.injEq] at h
  subst h
  refine ⟨{w with heap:=w.heap.setIfInBounds r _},?_,rfl,⟨rfl,rfl,rfl⟩⟩
  simp only [run_findKey hkk hf,Result.andThen_ok,qF _ hh]
theorem Hh {t:TypeId} {kd:TypeDesc} {z m key v:Value} {h':Hp} (hk:NA P t=.ok kd z) (h:ZM kd z m key w.heap=some (v,h')) :
  ∃w',(Instr.mapEntry t m key).run P w=.ok v w'∧w'.heap=h'∧sj w w':=by
 obtain ⟨k,e,ik,i,hu,hkk,rfl,hi,hz⟩ :=G8 hk
 have hc:=fun (b:Bool)=>run_checkKey (P:=P) (w:=w) b 9999 hkk key
 unfold ZM at h
 split at h <;> try contradiction
 rename_i r es c hm
 obtain ⟨rfl,hh⟩ :=tW hm
 unfold Instr.mapEntry
 simp only [Sem.run_bind,run_underlying hu,Result.andThen_ok,nG hh,hc]
 split at h <;> try contradiction
 ·rename_i j u hf
  simp only [Option.some.injEq,Prod.mk.injEq] at h
  obtain ⟨rfl,rfl⟩ :=h
  refine ⟨{w with heap:=w.heap.setIfInBounds r _},?_,rfl,⟨rfl,rfl,rfl⟩⟩
  simp only [run_findKey hkk hf,Result.andThen_ok,Sem.run_bind,BD hf,qF _ hh,Sem.run_pure]
 ·rename_i hf
  simp only [Option.some.injEq,Prod.mk.injEq] at h
  obtain ⟨rfl,rfl⟩ :=h
  refine ⟨{w with heap:=w.heap.setIfInBounds r _},?_,rfl,⟨rfl,rfl,rfl⟩⟩
  simp only [run_findKey hkk hf,Result.andThen_ok,Sem.run_bind,o7 hi hz,qF _ hh,Sem.run_pure]
theorem Ej {t:TypeId} {m s v:Value} {h':Hp} (h:mst m s v w.heap=some h') :
  ∃w',(Instr.entryStore t m s v).run P w=.ok () w'∧w'.heap=h'∧sj w w':=by
 unfold mst at h
 split at h <;> try contradiction
 rename_i r es c k born hm
 obtain ⟨rfl,hh⟩ :=tW hm
 split at h <;> try contradiction
 rename_i i hf
 simp only [Option.some.injEq] at h
 subst h
 refine ⟨{w with heap:=w.heap.setIfInBounds r _},?_,rfl,⟨rfl,rfl,rfl⟩⟩
 simp only [Instr.entryStore,Sem.run_bind,nG hh,Result.andThen_ok,asInt,asIntOf,Sem.run_pure,hf,qF _ hh]
theorem Jt {t ty:TypeId} {ts:Array TypeId} {kd:TypeDesc} {z m key v:Value} {h':Hp} (ht:ts[0]?=some t) (hk:NA P t=.ok kd z) (h:OM kd m key w.heap=some (v,h')) :
  ∃w',(Builtin.delete_ ts ty #[m,key]).run P w=.ok v w'∧w'.heap=h'∧sj w w':=by
 obtain ⟨k,e,ik,i,hu,hkk,rfl,hi,hz⟩ :=G8 hk
 have hc:=fun (b:Bool)=>run_checkKey (P:=P) (w:=w) b 9999 hkk key
 unfold OM at h
 unfold Builtin.delete_
 have e0:(#[m,key]:Array Value)[0]?=some m:=rfl
 have e1:(#[m,key]:Array Value)[1]?=some key:=rfl
 rw [ht,e0,e1]
 split at h <;> try contradiction
 ·rename_i hm
  have:=Ce hm
  subst this
  simp only [Option.some.injEq,Prod.mk.injEq] at h
  obtain ⟨rfl,rfl⟩ :=h
  exact ⟨w,by simp only [Sem.run_bind,run_underlying hu,Result.andThen_ok,hc,Sem.run_pure],rfl,.refl w⟩
 ·rename_i r es c hm
  obtain ⟨rfl,hh⟩ :=tW hm
  split at h <;> try contradiction
  ·rename_i j u hf
   simp only [Option.some.injEq,Prod.mk.injEq] at h
   obtain ⟨rfl,rfl⟩ :=h
   refine ⟨{w with heap:=w.heap.setIfInBounds r _},?_,rfl,⟨rfl,rfl,rfl⟩⟩
   simp only [Sem.run_bind,run_underlying hu,Result.andThen_ok,hc,nG hh,run_findKey hkk hf,qF _ hh,Sem.run_pure]
  ·rename_i hf
   simp only [Option.some.injEq,Prod.mk.injEq] at h
   obtain ⟨rfl,rfl⟩ :=h
   refine ⟨{w with heap:=w.heap.setIfInBounds r _},?_,rfl,⟨rfl,rfl,rfl⟩⟩
   simp only [Sem.run_bind,run_underlying hu,Result.andThen_ok,hc,nG hh,run_findKey hkk hf,qF _ hh,Sem.run_pure]
theorem run_makeMap {t:TypeId} {v:Value} {h':Hp} (h:MZ w.heap=some (v,h')):∃w',(Instr.makeMap t none).run P w=.ok v w'∧w'.heap=h'∧sj w w':=by
 simp only [MZ,Option.some.injEq,Prod.mk.injEq] at h
 obtain ⟨rfl,rfl⟩ :=h
 exact ⟨{w with heap:=w.heap.push (.map #[] 0)},rfl,rfl,⟨rfl,rfl,rfl⟩⟩
theorem LY {t k e:TypeId} {m v:Value} {h':Hp} (hu:P.underlying t=some (.map k e)) (h:TD m w.heap=some (v,h')):∃w',(Instr.range t m).run P w=.ok v w'∧w'.heap=h'∧sj w w':=by
 unfold TD at h
 split at h <;> try contradiction
 ·rename_i hm
  have:=Ce hm
  subst this
  simp only [Option.some.injEq,Prod.mk.injEq] at h
  obtain ⟨rfl,rfl⟩ :=h
  exact ⟨{w with heap:=w.heap.push (.mapIter none 0 #[] 0)},by simp only [Instr.range,Sem.run_bind,run_underlying hu,Result.andThen_ok,Sem.run_pure,run_newObj],rfl,⟨rfl,rfl,rfl⟩⟩
 ·rename_i r es c hm
  obtain ⟨rfl,hh⟩ :=tW hm
  simp only [Option.some.injEq,Prod.mk.injEq] at h
  obtain ⟨rfl,rfl⟩ :=h
  exact ⟨{w with heap:=w.heap.push (.mapIter (some r) c #[] c)},by simp only [Instr.range,Sem.run_bind,run_underlying hu,Result.andThen_ok,Sem.run_pure,run_newObj,nG hh],rfl,⟨rfl,rfl,rfl⟩⟩
def Nx (it:Value) (h:Hp) (k:Value→Hp→Prop):Prop:=
  ∃r,it=.pointer (some ⟨r,0,none⟩)∧
    ((∃s q l,h[r]?=some (.mapIter none s q l)∧k (.tuple #[.bool false]) h)∨
     (∃m since seen last es clock,h[r]?=some (.mapIter (some m) since seen last)∧h[m]?=some (.map es clock)∧
       (!seen.isEmpty&&!es.isEmpty&&es.all (·.born≥last))=false∧
       ((∀e∈es,e.born<since→seen.contains e.born=true)→k (.tuple #[.bool false]) h)∧
       (∀e∈es,seen.contains e.born=false→k (.tuple #[.bool true,e.key,e.val]) (h.setIfInBounds r (.mapIter (some m) since (seen.push e.born) clock)))))
theorem Kv (n t:Nat) (h:0<n):(if Question.forced (.mapNext n) then 0 else Question.cut (.mapNext n) t)<n:=by
 split
 ·exact h
 ·simp only [Question.cut]; exact Nat.mod_lt _ h
theorem NM {it:Value} {ty:TypeId} {k:Value→Hp→Prop} (h:Nx it w.heap k):∃v w',(Instr.next it false ty).run P w=.ok v w'∧sj w w'∧k v w'.heap:=by
 obtain ⟨r,rfl,h⟩ :=h
 rcases h with ⟨s,q,l,hh,hk⟩ | ⟨m,since,seen,last,es,clock,hh,hm,hg,hover,hmore⟩
 ·have hg:(getObj r).run P w=.ok (.mapIter none s q l) w:=by simp only [getObj,Sem.run,hh]
  exact ⟨_,w,by simp only [Instr.next,Sem.run_bind,hg,Result.andThen_ok,Sem.run_pure],.refl w,hk⟩
 ·have hgo:(getObj r).run P w=.ok (.mapIter (some m) since seen last) w:=by simp only [getObj,Sem.run,hh]
  have hset:∀(w':World) (o:Obj),w'.heap=w.heap→(setObj r o).run P w'=.ok () {w' with heap:=w'.heap.setIfInBounds r o}:=by
   intro w' o e
   simp only [setObj,Sem.run,e,hh]
  unfold Instr.next
  simp only [Sem.run_bind,hgo,Result.andThen_ok,nG hm,hg,Bool.false_eq_true,if_false,Sem.run_pure]
  generalize hC:((if (((es.filter fun e=>!seen.contains e.born).filter (·.born<since))).isEmpty then #[none] else #[])++
   (((es.filter fun e=>!seen.contains e.born).filter (·.born<since))++((es.filter fun e=>!seen.contains e.born).filter (·.born≥since))).map some:Array (Option MapEntry))=C
  have hpos:0<C.size:=by
   rw [←hC]
   simp only [Array.size_append,Array.size_map]
   by_cases hE:((es.filter fun e=>!seen.contains e.born).filter (·.born<since)).isEmpty=true
   ·rw [if_pos hE]; simp
    omega
   ·rw [if_neg hE]
    have:0<((es.filter fun e=>!seen.contains e.born).filter (·.born<since)).size:=by
     rcases Nat.eq_zero_or_pos ((es.filter fun e=>!seen.contains e.born).filter (·.born<since)).size with h0 | h0
     ·exact absurd (by rw [Array.isEmpty,h0]; rfl) hE
     ·exact h0
    omega
  have hall:∀j (hj:j<C.size) (w':World),w'.heap=w.heap→sj w w'→∃v w'',(match C[j]? with
    | some (some e)=>do
     setObj r (.mapIter (some m) since (seen.push e.born) clock)
     pure (.tuple #[.bool true,e.key,e.val])
    | some none=>pure (.tuple #[.bool false])
    | none=>stuck "Next: no such candidate":Sem Value).run P w'=.ok v w''∧sj w w''∧k v w''.heap:=by
   intro j hj w' hw' hs
   have hmem:C[j]∈C:=Array.getElem_mem hj
   rw [Array.getElem?_eq_getElem hj]
   cases hc:C[j] with
   | none=>
    rw [hc,←hC] at hmem
    have hE:((es.filter fun e=>!seen.contains e.born).filter (·.born<since)).isEmpty=true:=by
     rcases Array.mem_append.1 hmem with h1 | h1
     ·split at h1
      ·assumption
      ·simp at h1
     ·simp at h1
    refine ⟨_,w',rfl,hs,?_⟩
    rw [hw']
    refine hover fun e he hb=>?_
    cases hsc:seen.contains e.born with
    | true=>rfl
    | false=>
     have hin:e∈((es.filter fun e=>!seen.contains e.born).filter (·.born<since)):=by
      simp only [Array.mem_filter,decide_eq_true_eq]
      exact ⟨⟨he,by simp only [hsc,Bool.not_false]⟩,hb⟩
     have hz:((es.filter fun e=>!seen.contains e.born).filter (·.born<since))=#[]:=by simpa using hE
     rw [hz] at hin
     simp at hin
   | some e=>
    rw [hc,←hC] at hmem
    have hin:e∈es∧seen.contains e.born=false:=by
     rcases Array.mem_append.1 hmem with h1 | h1
     ·split at h1 <;> simp at h1
     ·simp only [Array.mem_map,Option.some.injEq] at h1
      obtain ⟨e',he',rfl⟩ :=h1
      rcases Array.mem_append.1 he' with h2 | h2
      ·simp only [Array.mem_filter] at h2
       exact ⟨h2.1.1,by simpa using h2.1.2⟩
      ·simp only [Array.mem_filter] at h2
       exact ⟨h2.1.1,by simpa using h2.1.2⟩
    refine ⟨.tuple #[.bool true,e.key,e.val],{w' with heap:=w'.heap.setIfInBounds r (.mapIter (some m) since (seen.push e.born) clock)},?_,⟨hs.os,hs.tape,hs.output⟩,?_⟩
    ·simp only [Sem.run_bind,hset w' _ hw',Result.andThen_ok,Sem.run_pure]
    ·have:=hmore e hin.1 hin.2
     rw [←hw'] at this
     exact this
  simp only [run_choose]
  have hlt:=Kv C.size (w.tape w.drawn (.mapNext C.size)) hpos
  split
  ·rename_i hf
   rw [if_pos hf] at hlt
   exact hall 0 hlt w rfl (.refl w)
  ·rename_i hf
   rw [if_neg hf] at hlt
   exact hall _ hlt {w with drawn:=w.drawn+1} rfl ⟨rfl,rfl,rfl⟩
theorem Rx {t ty:TypeId} {ts:Array TypeId} {x v:Value} (ht:ts[0]?=some t) (h:YM (YL P t) x w.heap=some v):(Builtin.len_ ts ty #[x]).run P w=.ok v w:=by
 unfold Builtin.len_
 have e0:(#[x]:Array Value)[0]?=some x:=rfl
 rw [ht,e0]
 unfold YL at h
 split at h <;> simp only [YM] at h <;> try contradiction
 ·rename_i e hu
  unfold lu at h
  split at h <;> try contradiction
  simp only [Option.some.injEq] at h
  subst h
  simp only [Sem.run_bind,run_underlying hu,Result.andThen_ok,Sem.run_pure,goInt]
 ·rename_i e e' hu
  unfold Uf at h
  split at h <;> try contradiction
  ·simp only [Option.some.injEq] at h
   subst h
   simp only [Sem.run_bind,run_underlying hu,Result.andThen_ok,Sem.run_pure,goInt]
  ·split at h <;> try contradiction
   rename_i r es c hh
   simp only [Option.some.injEq] at h
   subst h
   simp only [Sem.run_bind,run_underlying hu,Result.andThen_ok,Sem.run_pure,goInt,nG hh]
theorem PB {x y v:Value} (h:mn x y=some v):(Builtin.min2 x y).run P w=.ok v w:=by
 unfold mn at h
 split at h <;> try contradiction
 simp only [Option.some.injEq] at h
 subst h
 rfl
theorem ON {x y v:Value} (h:mx x y=some v):(Builtin.max2 x y).run P w=.ok v w:=by
 unfold mx at h
 split at h <;> try contradiction
 simp only [Option.some.injEq] at h
 subst h
 rfl
theorem run_makeSlice {t e:TypeId} {z:Array Value} {s b:Nat} {l c v:Value} {h':Hp} (hk:Nr P t=.ok e z s b) (h:J9 z s b e l c w.heap=some (v,h')) :
  ∃w',(Instr.makeSlice t l c).run P w=.ok v w'∧w'.heap=h'∧sj w w':=by
 obtain ⟨hu,i,zv,hi,hz,rfl,rfl,rfl,hzs,hpos⟩ :=Er hk
 unfold J9 at h
 split at h <;> try contradiction
 rename_i l c
 split at h <;> try contradiction
 rename_i hc
 obtain ⟨h1,h2,h3,h4⟩ :=hc
 simp only [Option.some.injEq,Prod.mk.injEq] at h
 obtain ⟨rfl,rfl⟩ :=h
 have wl:IntKind.i64.wrap l=l:=by simp only [IntKind.wrap,IntKind.signed,IntKind.bits]; simp; omega
 have wc:IntKind.i64.wrap c=c:=by simp only [IntKind.wrap,IntKind.signed,IntKind.bits]; simp; omega
 refine ⟨{w with heap:=w.heap.push (.cells ((Array.range (c.toNat*i.size)).map (zv.cells[· % zv.cells.size]!)) e)},?_,rfl,⟨rfl,rfl,rfl⟩⟩
 have hb:¬((i.bytes:Int)*c > 2 ^ 48):=by rw [Int.mul_comm]; simpa using h4
 have hno:((decide (c<0)||decide ((i.bytes:Int)*c > 2 ^ 48))||decide (l<0)||decide (l > c))=false:=by
  simp only [Bool.or_eq_false_iff,decide_eq_false_iff_not]
  exact ⟨⟨⟨by omega,hb⟩,by omega⟩,by omega⟩
 have hbi:(typeInfo e).run P w=.ok i w:=by simp [typeInfo,hi]
 unfold Instr.makeSlice
 simp only [Sem.run_bind,run_underlying hu,Result.andThen_ok,asInt,asIntOf,Sem.run_pure,hbi,wl,wc,hno,Bool.false_eq_true,if_false,run_askRoom,run_sizeOf hi]
 by_cases h0:c.toNat*i.size=0
 ·have er:∀f g:Nat→Value,(Array.range 0).map f=(Array.range 0).map g:=fun f g=>by
   apply Array.ext <;> simp
  simp only [h0,if_true,Sem.run_pure,Result.andThen_ok,newRow,Sem.run_bind,run_newObj]
  exact congrArg (fun c=>Result.ok _ (w.alloc (.cells c e))) (er _ _)
 ·simp only [h0,if_false,Sem.run_bind,o7 hi hz,Result.andThen_ok,Sem.run_pure,newRow,run_newObj]
theorem Ck {x:Value} {s n:Nat} {l:List Value} (h:rowOf x (n*s) w.heap=some l):(Builtin.firstCells s n x).run P w=.ok l.toArray w:=by
 unfold rowOf at h
 split at h <;> try contradiction
 ·exact run_loadCells h
 ·simp only [Option.some.injEq] at h; subst h; rfl
theorem N5 {td ts ty:TypeId} {e:TypeId} {z:Array Value} {s b:Nat} {d x v:Value} {h':Hp} (hk:Nr P td=.ok e z s b) (h:Ni s d x w.heap=some (v,h')) :
  ∃w',(Builtin.copy_ #[td,ts] ty #[d,x]).run P w=.ok v w'∧w'.heap=h'∧sj w w':=by
 obtain ⟨hu,i,zv,hi,hz,rfl,rfl,rfl,hzs,hpos⟩ :=Er hk
 unfold Ni at h
 split at h <;> try contradiction
 rename_i base dLen dc sb sLen sc
 simp only [Option.bind_eq_some_iff] at h
 obtain ⟨cells,hc,h⟩ :=h
 have hr:=Ck (P:=P) hc
 unfold Builtin.copy_
 have e0:(#[td,ts]:Array TypeId)[0]?=some td:=rfl
 have e1:(#[Value.slice base dLen dc,Value.slice sb sLen sc]:Array Value)[0]?=some (.slice base dLen dc):=rfl
 have e2:(#[Value.slice base dLen dc,Value.slice sb sLen sc]:Array Value)[1]?=some (.slice sb sLen sc):=rfl
 rw [e0,e1,e2]
 simp only [Sem.run_bind,run_underlying hu,Result.andThen_ok,Builtin.lenOf,Sem.run_pure,run_sizeOf hi,hr]
 cases base with
 | none=>
  simp only [Option.some.injEq,Prod.mk.injEq] at h
  obtain ⟨rfl,rfl⟩ :=h
  exact ⟨w,rfl,rfl,.refl w⟩
 | some a=>
  simp only [Option.bind_eq_some_iff,Option.some.injEq,Prod.mk.injEq] at h
  obtain ⟨h1,hs,rfl,rfl⟩ :=h
  obtain ⟨w',hr',hh,hs',_⟩ :=uD (P:=P) (a:=a) cells 0 w h1 hs
  refine ⟨w',?_,hh,hs'⟩
  simp only [Sem.run_bind,hr',Result.andThen_ok,goInt,Sem.run_pure]
theorem MN {t ty:TypeId} {e:TypeId} {z:Array Value} {s b:Nat} {x v:Value} {h':Hp} (hk:Nr P t=.ok e z s b) (h:UD z x w.heap=some (v,h')) :
  ∃w',(Builtin.clear_ #[t] ty #[x]).run P w=.ok v w'∧w'.heap=h'∧sj w w':=by
 obtain ⟨hu,i,zv,hi,hz,rfl,rfl,rfl,hzs,hpos⟩ :=Er hk
 unfold UD at h
 unfold Builtin.clear_
 have e0:(#[t]:Array TypeId)[0]?=some t:=rfl
 have e1:(#[x]:Array Value)[0]?=some x:=rfl
 rw [e0,e1]
 split at h
 ·simp only [Option.some.injEq,Prod.mk.injEq] at h
  obtain ⟨rfl,rfl⟩ :=h
  refine ⟨w,?_,rfl,.refl w⟩
  simp [Sem.run_bind,run_underlying hu]
 ·split at h
  ·simp only [Option.some.injEq,Prod.mk.injEq] at h
   obtain ⟨rfl,rfl⟩ :=h
   refine ⟨w,?_,rfl,.refl w⟩
   simp [Sem.run_bind,run_underlying hu]
  ·simp only [Option.bind_eq_some_iff,Option.some.injEq,Prod.mk.injEq] at h
   obtain ⟨h1,hs,rfl,rfl⟩ :=h
   obtain ⟨w',hr',hh,hs',_⟩ :=uD (P:=P) _ 0 w h1 hs
   refine ⟨w',?_,hh,hs'⟩
   simp only [Sem.run_bind,run_underlying hu,Result.andThen_ok,o7 hi hz,hr',Sem.run_pure]
 ·contradiction
def Ap (e:TypeId) (zero:Array Value) (size bytes:Nat) (s x:Value) (h:Hp) (k:Value→Hp→Prop):Prop:=
 ∃base sLen sCap xb n xc news,s=.slice base sLen sCap∧x=.slice xb n xc∧rowOf x (n*size) h=some news∧
  (sLen+n≤sCap→match base with
   | some a=>∃h',p5 h (a.add (sLen*size)) 0 news=some h'∧k (.slice base (sLen+n) sCap) h'
   | none=>k (.slice base (sLen+n) sCap) h)∧
  (sCap<sLen+n→(sLen+n)*bytes≤140737488355328∧sLen+n≤9223372036854775807∧∃olds,rowOf s (sLen*size) h=some olds∧
   ∀cap,sLen+n≤cap→cap≤9223372036854775807→k (.slice (some ⟨h.size,0,none⟩) (sLen+n) cap) (h.push (.cells (olds.toArray++news.toArray++Builtin.zeroCells zero (cap - (sLen+n))) e)))
theorem Kw {t ty e:TypeId} {z:Array Value} {sz b:Nat} {s x:Value} {k:Value→Hp→Prop} (hk:Nr P t=.ok e z sz b) (h:Ap e z sz b s x w.heap k) :
  ∃v w',(Builtin.append_ #[t,t] ty #[s,x]).run P w=.ok v w'∧sj w w'∧k v w'.heap:=by
 obtain ⟨hu,i,zv,hi,hz,rfl,rfl,rfl,hzs,hpos⟩ :=Er hk
 obtain ⟨base,sLen,sCap,xb,n,xc,news,rfl,rfl,hx,hroom,hgrow⟩ :=h
 have hnews:=fun (w':World) (e':w'.heap=w.heap)=>Ck (P:=P) (w:=w') (x:=.slice xb n xc) (s:=i.size) (n:=n) (l:=news) (by rw [e']; exact hx)
 unfold Builtin.append_
 have e0:(#[t,t]:Array TypeId)[0]?=some t:=rfl
 have e1:(#[t,t]:Array TypeId)[1]?=some t:=rfl
 have e2:(#[Value.slice base sLen sCap,Value.slice xb n xc]:Array Value)[0]?=some (.slice base sLen sCap):=rfl
 have e3:(#[Value.slice base sLen sCap,Value.slice xb n xc]:Array Value)[1]?=some (.slice xb n xc):=rfl
 rw [e0,e1,e2,e3]
 simp only [Sem.run_bind,run_underlying hu,Result.andThen_ok,Sem.run_pure,run_sizeOf hi,Builtin.lenOf,Bool.false_eq_true,if_false,Bool.not_false,if_true]
 by_cases hle:sLen+n≤sCap
 ·have hr:=hroom hle
  simp only [hle,if_true,Sem.run_bind,hnews w rfl,Result.andThen_ok]
  cases base with
  | none=>exact ⟨_,w,rfl,.refl w,hr⟩
  | some a=>
   simp only at hr
   obtain ⟨h',hs,hk'⟩ :=hr
   obtain ⟨w',hr',hh,hs',_⟩ :=uD (P:=P) (a:=a.add (sLen*i.size)) news 0 w h' hs
   refine ⟨_,w',?_,hs',by rw [hh]; exact hk'⟩
   simp only [Sem.run_bind,hr',Result.andThen_ok,Sem.run_pure]
 ·obtain ⟨hb,h63,olds,ho,hcap⟩ :=hgrow (by omega)
  have hbi:(typeInfo e).run P w=.ok i w:=by simp [typeInfo,hi]
  have h48:¬(Builtin.nextslicecap (sLen+n) sCap*i.bytes > 2 ^ 48):=by
   have:=growslice_fits (need:=sLen+n) (old:=sCap) (bytes:=i.bytes) (by omega) hb
   simpa using this
  have hbz:i.bytes=0∨0<i.bytes:=Nat.eq_zero_or_pos _
  have h63':¬(((sLen+n:Nat):Int) > IntKind.i64.max):=by
   have:IntKind.i64.max=9223372036854775807:=rfl
   omega
  have hdrew:(typeInfo e).run P {w with drawn:=w.drawn+1}=.ok i {w with drawn:=w.drawn+1}:=by simp [typeInfo,hi]
  have hz':(zeroValue e).run P {w with drawn:=w.drawn+1}=.ok zv {w with drawn:=w.drawn+1}:=o7 hi hz
  have hold:=Ck (P:=P) (w:={w with drawn:=w.drawn+1}) (x:=.slice base sLen sCap) (s:=i.size) (n:=sLen) (l:=olds) ho
  have hnew:=hnews {w with drawn:=w.drawn+1} rfl
  have hf:Question.forced (.appendCap (sLen+n) sCap e)=false:=rfl
  simp only [hle,if_false,Sem.run_bind,Sem.run_pure,Result.andThen_ok,hbi,h63',false_and,h48,run_choose,hf,Bool.false_eq_true,run_askRoom,hdrew,hold,hnew,hz',newRow,run_newObj]
  refine ⟨_,_,rfl,⟨rfl,rfl,rfl⟩,?_⟩
  have hc1:sLen+n≤Question.cut (.appendCap (sLen+n) sCap e) (w.tape w.drawn (.appendCap (sLen+n) sCap e)):=by simp [Question.cut]
  have hc2:Question.cut (.appendCap (sLen+n) sCap e) (w.tape w.drawn (.appendCap (sLen+n) sCap e))≤9223372036854775807:=by
   have hlt:=Nat.mod_lt (w.tape w.drawn (.appendCap (sLen+n) sCap e)) (show 0<2 ^ 63 - (sLen+n) by omega)
   simp only [Question.cut]
   omega
  exact hcap _ hc1 hc2
end
end Go.En
namespace Go.En
def Vb (o:Option Value) (k:Value→Prop):Prop:=∃v,o=some v∧k v
def Eb (o:Option (Value × Hp)) (k:Value→Hp→Prop):Prop:=∃v h',o=some (v,h')∧k v h'
def Sb (o:Option Hp) (k:Hp→Prop):Prop:=∃h',o=some h'∧k h'
def Sp (P:Program) (f:FuncId) (args:List Value) (h:Hp) (R:Value→Hp→Prop):Prop:=
 ∀w,w.heap=h→Calls P f args.toArray w fun e w'=>∃v,e=.returned v∧R v w'.heap∧sj w w'
def SpD (P:Program) (f:FuncId) (args:List Value) (h:Hp) (R:Hp→Prop):Prop:=
 ∀w,w.heap=h→CallsDIn Fence.wide 0 P f args.toArray .returning w fun e u w'=>u=.returning∧(∃v,e=.returned v)∧R w'.heap∧sj w w'
structure Wd (F:Fence):Prop where
 fn:F.fn=fun _=>True
 depth:F.depth=none
 alive:F.alive=false
theorem Wd.wide:Wd Fence.wide:=⟨rfl,rfl,rfl⟩
theorem Wd.inRound {F:Fence} (h:Wd F) (l:Nat):Wd (F.inRound l):=⟨h.fn,h.depth,h.alive⟩
theorem Wd.fenced {F:Fence} (h:Wd F) (P:Program):Machine.fenced P F=Machine.fenced P Fence.wide:=by
 obtain ⟨fn,depth,alive,round⟩ :=F
 obtain ⟨h1,h2,h3⟩ :=h
 simp only at h1 h2 h3
 subst h1; subst h2; subst h3
 rfl
theorem Wd.calls {F:Fence} (h:Wd F) {n m:Nat} {P:Program} {f:FuncId} {args:Array Value} {w:World} {R:Ending→World→Prop} (hc:CallsIn Fence.wide m P f args w R):CallsIn F n P f args w R:=by
 refine ⟨by rw [h.fn]; trivial,fun cs _=>?_⟩
 rw [h.fenced P]
 exact hc.2 cs (room_wide _)
theorem Wd.any {F:Fence} (h:Wd F) (f:FuncId):F.fn f:=by rw [h.fn]; trivial
def aar (P:Program):Op→Option (FuncId)
 | .call {callee:=.value (.func f),..}=>match P.funcs[f]? with
  | some fn=>match fn.name == "runtime.NumGoroutine",fn.body with
   | false,some _=>some f
   | _,_=>none
  | none=>none
 | _=>none
def okF (P:Program) (f:FuncId):Bool:=
 match P.funcs[f]? with
 | some fn=>!(fn.name == "runtime.NumGoroutine")&&fn.body.isSome
 | none=>false
def HE (P:Program) (n:Nat) (env:Env) (op:Op) (h:Hp):Option Value:=
 match op with
 | .pick c x y=>(ev n env c).bind fun c=>(ev n env x).bind fun x=>(ev n env y).bind fun y=>pk c x y
 | .load t x=>(ev n env x).bind fun p=>UP (Kb P t) p h
 | .nilCheck x=>(ev n env x).bind fun p=>V7 p
 | .binOp op t x y _=>match y,YI P t with
  | .const .nilIface,true=>(ev n env x).bind fun a=>inl op a
  | y,_=>(ev n env x).bind fun a=>(ev n env y).bind fun b=>XG (Qp P t) op a b
 | .unOp op _ x=>(ev n env x).bind fun a=>sk op a
 | .convert s d x=>(ev n env x).bind fun a=>Ye (Zm P s d) a
 | .makeFunc fn first cap=>(G5 n env first.toList).bind fun f=>(G5 n env cap.toList).bind fun c=>some (.func fn f.toArray c.toArray)
 | .slice t x lo hi mx=>match hi,mx with
  | none,some _=>none
  | _,_=>(ev n env x).bind fun a=>(Kj n env lo).bind fun l=>(Kj n env hi).bind fun u=>(Kj n env mx).bind fun m=>VU (P8 P t) a l u m
 | .fieldAddr s x f=>(ev n env x).bind fun p=>YG (SX P s f) p
 | .field s x f=>(ev n env x).bind fun p=>YQ (SX P s f) p
 | .indexAddr t x i=>(ev n env x).bind fun a=>(ev n env i).bind fun b=>XM (P8 P t) a b
 | .sliceToArrayPointer t x=>(ev n env x).bind fun a=>X7 (P8 P t) a
 | .index t x i=>(ev n env x).bind fun a=>(ev n env i).bind fun b=>X1 (Zy P t) a b
 | .entry it=>(ev n env it).bind fun a=>zA a h
 | .lookup t m k ok=>(ev n env m).bind fun a=>(ev n env k).bind fun b=>Yn (NA P t) ok a b h
 | .extract x i=>(ev n env x).bind fun a=>ext i a
 | .makeInterface t x=>match V0 P t with
  | true=>(ev n env x).bind fun a=>some (.iface t a)
  | false=>none
 | .typeAssert x _ t ok=>match V0 P t,P.info? t with
  | true,some i=>i.zero.bind fun z=>(ev n env x).bind fun a=>C3 t z ok a
  | _,_=>none
 | .build t parts=>(P9 n env parts.toList).bind fun ps=>RV (Zp P t) ps
 | .call {callee:=.builtin .len,args:=⟨[x]⟩,argTypes:=⟨t::_⟩}=>(ev n env x).bind fun a=>YM (YL P t) a h
 | .call {callee:=.builtin .min,args:=⟨[x,y]⟩,..}=>(ev n env x).bind fun a=>(ev n env y).bind fun b=>mn a b
 | .call {callee:=.builtin .max,args:=⟨[x,y]⟩,..}=>(ev n env x).bind fun a=>(ev n env y).bind fun b=>mx a b
 | _=>none
def Ym:Op→Bool
 | .pick .. | .load .. | .nilCheck .. | .binOp .. | .unOp .. | .convert .. | .makeFunc .. | .slice .. | .fieldAddr .. | .field .. | .indexAddr .. | .index .. | .sliceToArrayPointer .. | .entry .. | .lookup .. | .extract .. | .build .. | .makeInterface .. | .typeAssert ..=>true
 | .call {callee:=.builtin .len,..} | .call {callee:=.builtin .min,..} | .call {callee:=.builtin .max,..}=>true
 | _=>false
def ky (n:Nat) (env:Env) (ρ:Operand→Value):Prop:=∀x v,ev n env x=some v→ρ x=v
theorem ky.G5 {n:Nat} {env:Env} {ρ:Operand→Value} (hρ:ky n env ρ):∀{xs:List Operand} {vs:List Value},G5 n env xs=some vs→xs.map ρ=vs
 | [],vs,h=>by simp only [En.G5,Option.some.injEq] at h; subst h; rfl
 | x::r,vs,h=>by
  simp only [En.G5,Option.bind_eq_some_iff,Option.some.injEq] at h
  obtain ⟨v,hv,us,hu,rfl⟩ :=h
  simp [hρ _ _ hv,ky.G5 hρ hu]
theorem ky.P9 {n:Nat} {env:Env} {ρ:Operand→Value} (hρ:ky n env ρ):∀{xs:List (Nat × Operand)} {vs:List (Nat × Value)},P9 n env xs=some vs→xs.map (fun x=>(x.1,ρ x.2))=vs
 | [],vs,h=>by simp only [En.P9,Option.some.injEq] at h; subst h; rfl
 | (i,x)::r,vs,h=>by
  simp only [En.P9,Option.bind_eq_some_iff,Option.some.injEq] at h
  obtain ⟨v,hv,us,hu,rfl⟩ :=h
  simp [hρ _ _ hv,ky.P9 hρ hu]
theorem ky.Kj {n:Nat} {env:Env} {ρ:Operand→Value} (hρ:ky n env ρ) {x:Option Operand} {v:Option Value} (h:Kj n env x=some v):x.map ρ=v:=by
 cases x with
 | none=>simp only [En.Kj,Option.some.injEq] at h; subst h; rfl
 | some x=>
  simp only [En.Kj,Option.bind_eq_some_iff,Option.some.injEq] at h
  obtain ⟨u,hu,rfl⟩ :=h
  simp [hρ _ _ hu]
theorem ky.parts {n:Nat} {env:Env} {ρ:Operand→Value} (hρ:ky n env ρ) {xs:Array (Nat × Operand)} {vs:List (Nat × Value)} (h:En.P9 n env xs.toList=some vs) :
  (xs.map fun (i,x)=>(i,ρ x))=vs.toArray:=by
 rw [←ky.P9 hρ h]
 apply Array.ext'
 simp
theorem GR {P:Program} {w:World} {n:Nat} {env:Env} {ρ:Operand→Value} (hρ:ky n env ρ) {o:Oper} {v:Value} (h:HE P n env o.op w.heap=some v) :
  (execOp ρ o).run P w=.ok (.value v) w:=by
 unfold execOp
 cases hop:o.op <;> rw [hop] at h <;> simp only [HE] at h <;> (try contradiction) <;> dsimp only
 case pick c x y=>
  simp only [Option.bind_eq_some_iff] at h
  obtain ⟨cv,hc,xv,hx,yv,hy,h⟩ :=h
  unfold pk at h
  split at h <;> try contradiction
  rename_i b
  simp only [Option.some.injEq] at h
  rw [hρ _ _ hc,hρ _ _ hx,hρ _ _ hy]
  simp [asBool,h]
 case load t x=>
  simp only [Option.bind_eq_some_iff] at h
  obtain ⟨p,hp,h⟩ :=h
  rw [hρ _ _ hp]
  simp only [Sem.run_bind,EU h,Result.andThen_ok,Sem.run_pure]
 case nilCheck x=>
  simp only [Option.bind_eq_some_iff] at h
  obtain ⟨p,hp,h⟩ :=h
  rw [hρ _ _ hp]
  unfold V7 at h
  split at h <;> try contradiction
  all_goals (simp only [Option.some.injEq] at h; subst h; rfl)
 case binOp op t x y yt=>
  split at h
  ·rename_i hi
   simp only [Option.bind_eq_some_iff] at h
   obtain ⟨a,ha,h⟩ :=h
   have hb:ρ (.const .nilIface)=.nilIface:=hρ _ _ rfl
   rw [hρ _ _ ha,hb]
   have:=Qo (P:=P) (w:=w) (ox:=x) hi h
   simp only [Sem.run_bind] at this⊢
   rw [this]
   rfl
  simp only [Option.bind_eq_some_iff] at h
  obtain ⟨a,ha,b,hb,h⟩ :=h
  rw [hρ _ _ ha,hρ _ _ hb]
  have:=fun oy=>Q3 (P:=P) (w:=w) (ox:=x) (oy:=oy) h
  simp only [Sem.run_bind] at this⊢
  rw [this]
  rfl
 case unOp op t x=>
  simp only [Option.bind_eq_some_iff] at h
  obtain ⟨p,hp,h⟩ :=h
  rw [hρ _ _ hp]
  simp only [Sem.run_bind,Ro h,Result.andThen_ok,Sem.run_pure]
 case convert s d x=>
  simp only [Option.bind_eq_some_iff] at h
  obtain ⟨p,hp,h⟩ :=h
  rw [hρ _ _ hp]
  simp only [Sem.run_bind,Qq h,Result.andThen_ok,Sem.run_pure]
 case makeFunc fn first cap=>
  simp only [Option.bind_eq_some_iff,Option.some.injEq] at h
  obtain ⟨f,hf,c,hc,rfl⟩ :=h
  have e1:=ky.G5 hρ hf
  have e2:=ky.G5 hρ hc
  have e1':first.map ρ=f.toArray:=by rw [←e1]; apply Array.ext'; simp
  have e2':cap.map ρ=c.toArray:=by rw [←e2]; apply Array.ext'; simp
  rw [e1',e2']
  rfl
 case slice t x lo hi mx=>
  have hm:hi=none→mx=none:=by
   intro e
   subst e
   cases mx with
   | none=>rfl
   | some _=>simp at h
  have h':((ev n env x).bind fun a=>(Kj n env lo).bind fun l=>(Kj n env hi).bind fun u=>(Kj n env mx).bind fun m=>VU (P8 P t) a l u m)=some v:=by
   split at h
   ·contradiction
   ·exact h
  simp only [Option.bind_eq_some_iff] at h'
  obtain ⟨a,ha,l,hl,u,hu,m,hmm,h'⟩ :=h'
  rw [hρ _ _ ha,ky.Kj hρ hl,ky.Kj hρ hu,ky.Kj hρ hmm]
  have hm':u=none→m=none:=by
   intro e
   have:=ky.Kj hρ hu
   rw [e] at this
   have:hi=none:=by cases hi <;> simp_all
   have h2:=ky.Kj hρ hmm
   rw [hm this] at h2
   simpa using h2.symm
  simp only [Sem.run_bind,Ia hm' h',Result.andThen_ok,Sem.run_pure]
 case fieldAddr s x f=>
  simp only [Option.bind_eq_some_iff] at h
  obtain ⟨p,hp,h⟩ :=h
  rw [hρ _ _ hp]
  simp only [Sem.run_bind,I6 h,Result.andThen_ok,Sem.run_pure]
 case field s x f=>
  simp only [Option.bind_eq_some_iff] at h
  obtain ⟨p,hp,h⟩ :=h
  rw [hρ _ _ hp]
  simp only [Sem.run_bind,Nj h,Result.andThen_ok,Sem.run_pure]
 case indexAddr t x i=>
  simp only [Option.bind_eq_some_iff] at h
  obtain ⟨p,hp,q,hq,h⟩ :=h
  rw [hρ _ _ hp,hρ _ _ hq]
  simp only [Sem.run_bind,Iz h,Result.andThen_ok,Sem.run_pure]
 case sliceToArrayPointer t x=>
  simp only [Option.bind_eq_some_iff] at h
  obtain ⟨p,hp,h⟩ :=h
  rw [hρ _ _ hp]
  simp only [Sem.run_bind,Jb h,Result.andThen_ok,Sem.run_pure]
 case index t x i=>
  simp only [Option.bind_eq_some_iff] at h
  obtain ⟨p,hp,q,hq,h⟩ :=h
  rw [hρ _ _ hp,hρ _ _ hq]
  simp only [Sem.run_bind,MW h,Result.andThen_ok,Sem.run_pure]
 case entry it=>
  simp only [Option.bind_eq_some_iff] at h
  obtain ⟨p,hp,h⟩ :=h
  rw [hρ _ _ hp]
  simp only [Sem.run_bind,Rz h,Result.andThen_ok,Sem.run_pure]
 case lookup t m k ok=>
  simp only [Option.bind_eq_some_iff] at h
  obtain ⟨p,hp,q,hq,h⟩ :=h
  rw [hρ _ _ hp,hρ _ _ hq]
  simp only [Sem.run_bind,Jy h,Result.andThen_ok,Sem.run_pure]
 case extract x i=>
  simp only [Option.bind_eq_some_iff] at h
  obtain ⟨p,hp,h⟩ :=h
  rw [hρ _ _ hp]
  simp only [Sem.run_bind,R3 h,Result.andThen_ok,Sem.run_pure]
 case makeInterface t x=>
  split at h <;> try contradiction
  rename_i hi
  simp only [Option.bind_eq_some_iff,Option.some.injEq] at h
  obtain ⟨p,hp,rfl⟩ :=h
  rw [hρ _ _ hp]
  simp only [Sem.run_bind,QW hi,Result.andThen_ok,Sem.run_pure]
 case typeAssert x xt t ok=>
  split at h <;> try contradiction
  rename_i i hi hj
  simp only [Option.bind_eq_some_iff] at h
  obtain ⟨z,hz,p,hp,h⟩ :=h
  rw [hρ _ _ hp]
  simp only [Sem.run_bind,Rm hi hj hz h,Result.andThen_ok,Sem.run_pure]
 case build t parts=>
  simp only [Option.bind_eq_some_iff] at h
  obtain ⟨ps,hps,h⟩ :=h
  rw [ky.parts hρ hps]
  simp only [Sem.run_bind,run_build (parts:=ps.toArray) h,Result.andThen_ok,Sem.run_pure]
 case call c=>
  split at h <;> try contradiction
  ·rename_i hc
   simp only [Op.call.injEq] at hc
   subst hc
   rename_i x t ts
   simp only [Option.bind_eq_some_iff] at h
   obtain ⟨a,ha,h⟩ :=h
   have:=Rx (P:=P) (w:=w) (ts:=⟨t::ts⟩) (ty:=o.type) (t:=t) (by simp) h
   simp only [resolve,invoke,builtin,Sem.run_bind,Sem.run_pure,Result.andThen_ok,List.map_toArray,List.map_cons,List.map_nil,hρ _ _ ha,this]
  ·rename_i hc
   simp only [Op.call.injEq] at hc
   subst hc
   simp only [Option.bind_eq_some_iff] at h
   obtain ⟨a,ha,b,hb,h⟩ :=h
   have:=PB (P:=P) (w:=w) h
   simp only [resolve,invoke,builtin,Sem.run_bind,Sem.run_pure,Result.andThen_ok,List.map_toArray,List.map_cons,List.map_nil,hρ _ _ ha,hρ _ _ hb,Builtin.min_,List.foldlM_cons,List.foldlM_nil,this]
  ·rename_i hc
   simp only [Op.call.injEq] at hc
   subst hc
   simp only [Option.bind_eq_some_iff] at h
   obtain ⟨a,ha,b,hb,h⟩ :=h
   have:=ON (P:=P) (w:=w) h
   simp only [resolve,invoke,builtin,Sem.run_bind,Sem.run_pure,Result.andThen_ok,List.map_toArray,List.map_cons,List.map_nil,hρ _ _ ha,hρ _ _ hb,Builtin.max_,List.foldlM_cons,List.foldlM_nil,this]
end Go.En
namespace Go.En
def Cl (P:Program) (f:FuncId) (args:List Value) (h:Hp) (k:Value→Hp→Prop):Prop:=okF P f=true∧Sp P f args h k
def Cv (C:FuncId→List Value→Hp→(Value→Hp→Prop)→Prop) (Y:Nat→List Value→Hp→(Value→Hp→Prop)→Prop) (f:Value) (args:List Value) (h:Hp) (k:Value→Hp→Prop):Prop:=
 (∃g first cap,f=.func (.func g) first cap∧C g (first.toList++args++cap.toList) h k)∨
 (∃l,f=.func (.yield l) #[] #[]∧Y l args h k)
def Ci (C:FuncId→List Value→Hp→(Value→Hp→Prop)→Prop) (M:TypeId→String→Option FuncId) (name:String) (r:Value) (args:List Value) (h:Hp) (k:Value→Hp→Prop):Prop:=
 ∃t v f,r=.iface t v∧M t name=some f∧C f (v::args) h k
def Cw (C:FuncId→List Value→Hp→(Value→Hp→Prop)→Prop) (Y:Nat→List Value→Hp→(Value→Hp→Prop)→Prop) (M:TypeId→String→Option FuncId) (f:Value) (args:List Value) (h:Hp) (k:Value→Hp→Prop):Prop:=
 Cv C Y f args h k∨∃name r,f=.func (.method name) #[r] #[]∧Ci C M name r args h k
def Sy (P:Program) (l:Nat) (args:List Value) (h:Hp) (R:Value→Hp→Prop):Prop:=
 ∀w,w.heap=h→∃r:Loop,(Instr.getLoop l).run P w=.ok r w∧args.length=r.params.size∧
  RoundIn Fence.wide 0 P l r.fn ((r.params.zip args.toArray).foldl (fun tmps (t,a)=>tmps.setIfInBounds t a) r.tmps) r.assign r.body w
   fun e w'=>∃v,e=.returned v∧R v w'.heap∧sj w w'
def GD (P:Program) (f:FuncId):Bool:=
 match P.funcs[f]? with
 | some fn=>match fn.body with
  | some _=>false
  | none=>fn.name == "maps.clone"&&fn.origin == ""
 | none=>false
def Qv (args:List Value) (h:Hp):Option (Value × Hp):=
 match args with
 | [.iface t (.map (some r))]=>match h[r]? with
  | some (.map es clock)=>some (.iface t (.map (some h.size)),h.push (.map es clock))
  | _=>none
 | _=>none
theorem R5 {P:Program} {w:World} {f:FuncId} {vs:List Value} {v:Value} {h':Hp} (hf:GD P f=true) (hm:Qv vs w.heap=some (v,h')):∃w',(callFunc f vs.toArray).run P w=.ok (.value v) w'∧w'.heap=h'∧sj w w':=by
 unfold GD at hf
 split at hf <;> try contradiction
 rename_i fn hfn
 split at hf <;> try contradiction
 rename_i hb
 simp only [Bool.and_eq_true,beq_iff_eq] at hf
 obtain ⟨h1,h2⟩ :=hf
 unfold Qv at hm
 split at hm <;> try contradiction
 rename_i t r
 split at hm <;> try contradiction
 rename_i es clock hr
 simp only [Option.some.injEq,Prod.mk.injEq] at hm
 obtain ⟨rfl,rfl⟩ :=hm
 have hn:Extern.findNext fn=none:=by
  unfold Extern.findNext
  rw [h1,h2]
  have a:List.lookup "maps.clone" Extern.allNextRows=none:=by kernel_rfl
  have b:List.lookup "" Extern.allNextRows=none:=by kernel_rfl
  simp [a,b]
 have he:Extern.find fn=some Extern.MapsClone.clone:=by
  unfold Extern.find
  rw [h1]
  have a:List.lookup "maps.clone" Extern.allGenericRows=none:=by kernel_rfl
  have b:List.lookup "maps.clone" Extern.allTypedRows=none:=by kernel_rfl
  have c:List.lookup "maps.clone" Extern.allRows=some Extern.MapsClone.clone:=by kernel_rfl
  simp [a,b,c]
 have hc:=run_callFunc_extern hfn (by rw [h1]; rfl) (by rw [hb]; rfl) hn he #[.iface t (.map (some r))] w
 have hcl:(Extern.MapsClone.clone #[.iface t (.map (some r))]).run P w=.ok (.iface t (.map (some w.heap.size))) {w with heap:=w.heap.push (.map es clock)}:=by
  have e:Extern.MapsClone.clone #[.iface t (.map (some r))]=(getObj r >>= fun o=>match o with
   | .map entries clock=>(newObj (.map entries clock) >>= fun n=>pure (.iface t (.map (some n))))
   | _=>stuck "maps.clone: a map expected"):=rfl
  rw [e]
  simp only [Sem.run_bind,MapKept.run_getObj_map hr,Result.andThen_ok,run_newObj,Sem.run_pure]
 rw [hcl] at hc
 exact ⟨_,hc,rfl,⟨rfl,rfl,rfl⟩⟩
def V2 (P:Program) (n:Nat) (env:Env) (op:Op) (h:Hp) (k:Value→Hp→Prop):Prop:=
 match op with
 | .alloc e=>match zrk P e with
  | some z=>Eb (nw z e h) k
  | none=>False
 | .box e x=>match ev n env x with
  | some v=>Eb (nw v.cells e h) k
  | none=>False
 | .buildSlice t len parts=>match P9 n env parts.toList,Nr P t with
  | some ps,.ok e z s _=>match Nat.ble (len*s) 16777216 with
   | true=>Eb (pb z s len e ps h) k
   | false=>False
  | _,_=>False
 | .store t a x=>match ev n env a,ev n env x,P.info? t with
  | some p,some v,some i=>Sb (aQ i.size p v h) (k undef)
  | _,_,_=>False
 | .mapUpdate t m kk x=>match ev n env m,ev n env kk,ev n env x,NA P t with
  | some m,some q,some v,.ok kd _=>Sb (CZ kd m q v h) (k undef)
  | _,_,_,_=>False
 | .insert t m kk x=>match ev n env m,ev n env kk,ev n env x,NA P t with
  | some m,some q,some v,.ok kd _=>Sb (CZ kd m q v h) (k undef)
  | _,_,_,_=>False
 | .makeMap _ none=>Eb (MZ h) k
 | .makeSlice t l c=>match ev n env l,ev n env c,Nr P t with
  | some l,some c,.ok e z s b=>Eb (J9 z s b e l c h) k
  | _,_,_=>False
 | .mapEntry t m kk=>match ev n env m,ev n env kk,NA P t with
  | some m,some q,.ok kd z=>Eb (ZM kd z m q h) k
  | _,_,_=>False
 | .entryStore _ m s x=>match ev n env m,ev n env s,ev n env x with
  | some m,some q,some v=>Sb (mst m q v h) (k undef)
  | _,_,_=>False
 | .range t m=>match ev n env m,P.underlying t with
  | some m,some (.map ..)=>Eb (TD m h) k
  | _,_=>False
 | .next it false=>match ev n env it with
  | some it=>Nx it h k
  | none=>False
 | .call {callee:=.builtin .append,args:=⟨[x,y]⟩,argTypes:=⟨[t,u]⟩}=>match ev n env x,ev n env y,Nat.beq t u,Nr P t with
  | some s,some x,true,.ok e z sz b=>Ap e z sz b s x h k
  | _,_,_,_=>False
 | .call {callee:=.builtin .copy,args:=⟨[x,y]⟩,argTypes:=⟨[t,_]⟩}=>match ev n env x,ev n env y,Nr P t with
  | some d,some s,.ok _ _ sz _=>Eb (Ni sz d s h) k
  | _,_,_=>False
 | .call {callee:=.builtin .clear,args:=⟨[x]⟩,argTypes:=⟨[t]⟩}=>match ev n env x,Nr P t with
  | some s,.ok _ z _ _=>Eb (UD z s h) k
  | _,_=>False
 | .call {callee:=.builtin .delete,args:=⟨[x,y]⟩,argTypes:=⟨t::_⟩}=>match ev n env x,ev n env y,NA P t with
  | some m,some q,.ok kd _=>Eb (OM kd m q h) k
  | _,_,_=>False
 | .call {callee:=.value (.func f),args,..}=>match G5 n env args.toList,GD P f with
  | some vs,true=>Eb (Qv vs h) k
  | some vs,false=>Cl P f vs h k
  | none,_=>False
 | .call {callee:=.value x,args,..}=>match ev n env x,G5 n env args.toList with
  | some v,some vs=>Cw (Cl P) (Sy P) (V4 P) v vs h k
  | _,_=>False
 | .call {callee:=.invoke x name,args,..}=>match ev n env x,G5 n env args.toList with
  | some v,some vs=>Ci (Cl P) (V4 P) name v vs h k
  | _,_=>False
 | _=>False
def QM (P:Program) (F:Fence) (n:Nat) (o:Oper) (a:Act) (w:World) (k:Value→Hp→Prop):Prop:=
 ∀(next:Act→World→Prop) (Q:Exit→Act→World→Prop),(∀v w',sj w w'→k v w'.heap→next (a.put o.dst v) w')→o.wpIn F n P a w next Q
theorem gS {P:Program} {F:Fence} (hF:Wd F) {n:Nat} {o:Oper} {a:Act} {w w':World} {v:Value} {k:Value→Hp→Prop} (hd:∀c,o.op≠.defer c)
  (hr:(execOp a.eval o).run P w=.ok (.value v) w') (hs:sj w w') (hk:k v w'.heap):QM P F n o a w k:=by
 intro next Q hn
 refine ⟨fun f _=>hF.any f,?_⟩
 rw [Oper.semAt_eq _ _ _ hd,hr,Oper.uponIn_value]
 exact hn v w' hs hk
theorem Bh {P:Program} {F:Fence} (hF:Wd F) {n:Nat} {o:Oper} {a:Act} {w w':World} {k:Value→Hp→Prop} (hd:∀c,o.op≠.defer c)
  (hr:(execOp a.eval o).run P w=.ok .skip w') (hs:sj w w') (hk:k undef w'.heap):QM P F n o a w k:=by
 intro next Q hn
 refine ⟨fun f _=>hF.any f,?_⟩
 rw [Oper.semAt_eq _ _ _ hd,hr,Oper.uponIn_skip]
 exact hn undef w' hs hk
theorem Vq {P:Program} {f:FuncId} (h:okF P f=true):∃fn,P.funcs[f]?=some fn∧(fn.name == "runtime.NumGoroutine")=false∧fn.body.isNone=false:=by
 unfold okF at h
 split at h
 ·rename_i fn hf
  simp only [Bool.and_eq_true,Bool.not_eq_true'] at h
  exact ⟨fn,hf,h.1,by cases hb:fn.body <;> simp_all⟩
 ·contradiction
theorem qZ {P:Program} {w:World} {f:FuncId} (h:okF P f=true) (args:Array Value):(callFunc f args).run P w=.ok (.enter f args) w:=by
 obtain ⟨fn,hf,h1,h2⟩ :=Vq h
 unfold callFunc
 simp only [Sem.run_bind,run_program,Result.andThen_ok,hf,h1,h2,Bool.false_eq_true,if_false,Sem.run_pure]
theorem Jq {P:Program} {w:World} {t:TypeId} {u:Value} {name:String} {f:FuncId} (hm:V4 P t name=some f) (d:Nat):(method (d+1) t u name).run P w=.ok (f,u) w:=by
 unfold V4 at hm
 split at hm <;> try contradiction
 rename_i i hi
 split at hm <;> try contradiction
 rename_i m hf
 split at hm <;> try contradiction
 rename_i f' d' hp hpa hfu hu
 simp only [Option.some.injEq] at hm
 subst hm
 unfold method
 simp only [Sem.run_bind,typeInfo,run_program,Result.andThen_ok,hi,Sem.run_pure,hf,hpa,follow,hfu,receiverAt,run_underlying hu]
 cases d' <;> first | exact (hp _ rfl).elim | (simp only [Place.get,Sem.run_bind,Sem.run_pure,Result.andThen_ok])
theorem zi {P:Program} {w:World} {t:TypeId} {u:Value} {name:String} {f:FuncId} (hm:V4 P t name=some f) (hf:okF P f=true) (args:List Value):(callMethod (.iface t u) name args.toArray).run P w=.ok (.enter f (u::args).toArray) w:=by
 unfold callMethod
 have h1:(method (P.types.size+Made.depth) t u name).run P w=.ok (f,u) w:=Jq hm (P.types.size+99)
 simp only [Sem.run_bind,run_program,Result.andThen_ok,h1]
 have h2:=qZ (w:=w) hf (u::args).toArray
 have e:#[u]++args.toArray=(u::args).toArray:=by simp
 rw [e]
 exact h2
theorem zt {P:Program} {F:Fence} (hF:Wd F) {n:Nat} {o:Oper} {a:Act} {w:World} {f:FuncId} {args:List Value} {k:Value→Hp→Prop} (hd:∀c,o.op≠.defer c)
  (hr:(execOp a.eval o).run P w=.ok (.enter f args.toArray) w) (hc:Sp P f args w.heap k):QM P F n o a w k:=by
 intro next Q hn
 refine ⟨fun f _=>hF.any f,?_⟩
 rw [Oper.semAt_eq _ _ _ hd,hr,Oper.uponIn_enter]
 refine ⟨fun e=>(by rw [hF.depth] at e; cases e),hF.calls (m:=0) (callsIn_wide.2 ((hc w rfl).mono ?_))⟩
 rintro e w' ⟨v,rfl,hk,hs⟩
 exact hn v w' hs hk
theorem Wd.round {F:Fence} (h:Wd F) {n m:Nat} {P:Program} {l:Nat} {f:FuncId} {tmps:Array Value} {asn body:Code} {w:World} {R:Ending→World→Prop}
  (hc:RoundIn Fence.wide m P l f tmps asn body w R):RoundIn F n P l f tmps asn body w R:=by
 refine ⟨h.any f,fun c cs _=>?_⟩
 rw [h.fenced P]
 exact hc.2 c cs (room_wide _)
theorem ME {P:Program} {F:Fence} (hF:Wd F) {n:Nat} {o:Oper} {a:Act} {w:World} {l:Nat} {args:List Value} {k:Value→Hp→Prop} (hd:∀c,o.op≠.defer c)
  (hr:(execOp a.eval o).run P w=(Instr.yield l args.toArray).run P w) (hc:Sy P l args w.heap k):QM P F n o a w k:=by
 intro next Q hn
 obtain ⟨r,hg,hl,hround⟩ :=hc w rfl
 refine ⟨fun f _=>hF.any f,?_⟩
 have hy:(Instr.yield l args.toArray).run P w=.ok (.round l r.fn ((r.params.zip args.toArray).foldl (fun tmps (t,a)=>tmps.setIfInBounds t a) r.tmps) r.assign r.body) w:=by
  unfold Instr.yield
  have:args.toArray.size=r.params.size:=by simpa using hl
  simp only [Sem.run_bind,hg,Result.andThen_ok,this,ne_eq,not_true_eq_false,if_false,Sem.run_pure]
 rw [Oper.semAt_eq _ _ _ hd,hr,hy,Oper.uponIn_round]
 refine ⟨fun e=>(by rw [hF.depth] at e; cases e),(hF.round (m:=0) hround).mono ?_⟩
 rintro e w' ⟨v,rfl,hk,hs⟩
 exact hn v w' hs hk
theorem Lt {P:Program} {F:Fence} (hF:Wd F) {n:Nat} {m:Nat} {env:Env} {o:Oper} {a:Act} {w:World} {k:Value→Hp→Prop} {ρ:Operand→Value} (hρ:ky n env ρ) (hcong:execOp a.eval o=execOp ρ o) (h:V2 P n env o.op w.heap k) :
  QM P F m o a w k:=by
 cases hop:o.op <;> rw [hop] at h <;> simp only [V2] at h <;> try contradiction
 case alloc e=>
  split at h <;> try contradiction
  rename_i z hz
  unfold zrk at hz
  simp only [Option.bind_eq_some_iff,Option.some.injEq] at hz
  obtain ⟨i,hi,zv,hzv,rfl⟩ :=hz
  obtain ⟨v,h',he,hk⟩ :=h
  obtain ⟨w',hr,rfl,hs⟩ :=Hi hi hzv he
  refine gS hF (by simp [hop]) (w':=w') ?_ hs hk
  rw [hcong]; unfold execOp; rw [hop]; simp only [Sem.run_bind,hr,Result.andThen_ok,Sem.run_pure]
 case box e x=>
  split at h <;> try contradiction
  rename_i u hu
  obtain ⟨v,h',he,hk⟩ :=h
  obtain ⟨w',hr,rfl,hs⟩ :=Jm (P:=P) he
  refine gS hF (by simp [hop]) (w':=w') ?_ hs hk
  rw [hcong]; unfold execOp; rw [hop]; simp only [hρ _ _ hu,Sem.run_bind,hr,Result.andThen_ok,Sem.run_pure]
 case buildSlice t len parts=>
  split at h <;> try contradiction
  rename_i ps e z s b hps hel
  split at h <;> try contradiction
  rename_i hle
  obtain ⟨v,h',he,hk⟩ :=h
  obtain ⟨w',hr,rfl,hs⟩ :=Ed (P:=P) (parts:=ps.toArray) hel (Nat.le_of_ble_eq_true hle) he
  refine gS hF (by simp [hop]) (w':=w') ?_ hs hk
  rw [hcong]; unfold execOp; rw [hop]; simp only [ky.parts hρ hps,Sem.run_bind,hr,Result.andThen_ok,Sem.run_pure]
 case insert t m kk x=>
  split at h <;> try contradiction
  rename_i mv q v kd z hm hq hv hkd
  obtain ⟨h',he,hk⟩ :=h
  obtain ⟨w',hr,rfl,hs⟩ :=z9 (P:=P) hkd he
  refine Bh hF (by simp [hop]) (w':=w') ?_ hs hk
  rw [hcong]; unfold execOp; rw [hop]; simp only [hρ _ _ hm,hρ _ _ hq,hρ _ _ hv,Sem.run_bind,hr,Result.andThen_ok,Sem.run_pure]
 case store t p x=>
  split at h <;> try contradiction
  rename_i pv xv i hp hx hi
  obtain ⟨h',he,hk⟩ :=h
  obtain ⟨w',hr,rfl,hs⟩ :=HS (P:=P) hi he
  refine Bh hF (by simp [hop]) (w':=w') ?_ hs hk
  rw [hcong]; unfold execOp; rw [hop]; simp only [hρ _ _ hp,hρ _ _ hx,Sem.run_bind,hr,Result.andThen_ok,Sem.run_pure]
 case makeMap t r=>
  cases r with
  | some _=>simp only at h
  | none=>
   simp only at h
   obtain ⟨v,h',he,hk⟩ :=h
   obtain ⟨w',hr,rfl,hs⟩ :=run_makeMap (P:=P) (t:=t) he
   refine gS hF (by simp [hop]) (w':=w') ?_ hs hk
   rw [hcong]; unfold execOp; rw [hop]; simp only [Option.map_none,Sem.run_bind,hr,Result.andThen_ok,Sem.run_pure]
 case makeSlice t l c=>
  split at h <;> try contradiction
  rename_i lv cv e z s b hl hc hel
  obtain ⟨v,h',he,hk⟩ :=h
  obtain ⟨w',hr,rfl,hs⟩ :=run_makeSlice (P:=P) hel he
  refine gS hF (by simp [hop]) (w':=w') ?_ hs hk
  rw [hcong]; unfold execOp; rw [hop]; simp only [hρ _ _ hl,hρ _ _ hc,Sem.run_bind,hr,Result.andThen_ok,Sem.run_pure]
 case mapUpdate t m kk x=>
  split at h <;> try contradiction
  rename_i mv q v kd z hm hq hv hkd
  obtain ⟨h',he,hk⟩ :=h
  obtain ⟨w',hr,rfl,hs⟩ :=z9 (P:=P) hkd he
  refine Bh hF (by simp [hop]) (w':=w') ?_ hs hk
  rw [hcong]; unfold execOp; rw [hop]; simp only [hρ _ _ hm,hρ _ _ hq,hρ _ _ hv,Sem.run_bind,hr,Result.andThen_ok,Sem.run_pure]
 case mapEntry t m kk=>
  split at h <;> try contradiction
  rename_i mv q kd z hm hq hkd
  obtain ⟨v,h',he,hk⟩ :=h
  obtain ⟨w',hr,rfl,hs⟩ :=Hh (P:=P) hkd he
  refine gS hF (by simp [hop]) (w':=w') ?_ hs hk
  rw [hcong]; unfold execOp; rw [hop]; simp only [hρ _ _ hm,hρ _ _ hq,Sem.run_bind,hr,Result.andThen_ok,Sem.run_pure]
 case entryStore t m s x=>
  split at h <;> try contradiction
  rename_i mv q v hm hq hv
  obtain ⟨h',he,hk⟩ :=h
  obtain ⟨w',hr,rfl,hs⟩ :=Ej (P:=P) (t:=t) he
  refine Bh hF (by simp [hop]) (w':=w') ?_ hs hk
  rw [hcong]; unfold execOp; rw [hop]; simp only [hρ _ _ hm,hρ _ _ hq,hρ _ _ hv,Sem.run_bind,hr,Result.andThen_ok,Sem.run_pure]
 case range t m=>
  split at h <;> try contradiction
  rename_i mv kt et hm hu
  obtain ⟨v,h',he,hk⟩ :=h
  obtain ⟨w',hr,rfl,hs⟩ :=LY (P:=P) hu he
  refine gS hF (by simp [hop]) (w':=w') ?_ hs hk
  rw [hcong]; unfold execOp; rw [hop]; simp only [hρ _ _ hm,Sem.run_bind,hr,Result.andThen_ok,Sem.run_pure]
 case next it s=>
  cases s with
  | true=>simp only at h
  | false=>
   simp only at h
   split at h <;> try contradiction
   rename_i iv hi
   obtain ⟨v,w',hr,hs,hk⟩ :=NM (P:=P) (ty:=o.type) h
   refine gS hF (by simp [hop]) (w':=w') ?_ hs hk
   rw [hcong]; unfold execOp; rw [hop]; simp only [hρ _ _ hi,Sem.run_bind,hr,Result.andThen_ok,Sem.run_pure]
 case call c=>
  split at h <;> try contradiction
  ·rename_i hc
   simp only [Op.call.injEq] at hc
   subst hc
   split at h <;> try contradiction
   rename_i x y t u s xv e z sz b hs hx htu hel
   have:=Nat.eq_of_beq_eq_true htu
   subst this
   obtain ⟨v,w',hr,hs',hk⟩ :=Kw (P:=P) (ty:=o.type) hel h
   refine gS hF (by simp [hop]) (w':=w') ?_ hs' hk
   rw [hcong]; unfold execOp; rw [hop]
   simp only [resolve,invoke,builtin,Sem.run_bind,Sem.run_pure,Result.andThen_ok,List.map_toArray,List.map_cons,List.map_nil,hρ _ _ hs,hρ _ _ hx,hr]
  ·rename_i op0 x0 y0 t0 u0 hc
   simp only [Op.call.injEq] at hc
   subst hc
   split at h <;> try contradiction
   rename_i d s e z sz b hd hs hel
   obtain ⟨v,h',he,hk⟩ :=h
   obtain ⟨w',hr,rfl,hs'⟩ :=N5 (P:=P) (ts:=u0) (ty:=o.type) hel he
   refine gS hF (by simp [hop]) (w':=w') ?_ hs' hk
   rw [hcong]; unfold execOp; rw [hop]
   simp only [resolve,invoke,builtin,Sem.run_bind,Sem.run_pure,Result.andThen_ok,List.map_toArray,List.map_cons,List.map_nil,hρ _ _ hd,hρ _ _ hs,hr]
  ·rename_i op0 x0 t0 hc
   simp only [Op.call.injEq] at hc
   subst hc
   split at h <;> try contradiction
   rename_i s e z sz b hs hel
   obtain ⟨v,h',he,hk⟩ :=h
   obtain ⟨w',hr,rfl,hs'⟩ :=MN (P:=P) (ty:=o.type) hel he
   refine gS hF (by simp [hop]) (w':=w') ?_ hs' hk
   rw [hcong]; unfold execOp; rw [hop]
   simp only [resolve,invoke,builtin,Sem.run_bind,Sem.run_pure,Result.andThen_ok,List.map_toArray,List.map_cons,List.map_nil,hρ _ _ hs,hr]
  ·rename_i op0 x0 y0 t0 ts0 hc
   simp only [Op.call.injEq] at hc
   subst hc
   split at h <;> try contradiction
   rename_i m q kd z hm hq hkd
   obtain ⟨v,h',he,hk⟩ :=h
   obtain ⟨w',hr,rfl,hs'⟩ :=Jt (P:=P) (ts:=⟨t0::ts0⟩) (t:=t0) (ty:=o.type) (by simp) hkd he
   refine gS hF (by simp [hop]) (w':=w') ?_ hs' hk
   rw [hcong]; unfold execOp; rw [hop]
   simp only [resolve,invoke,builtin,Sem.run_bind,Sem.run_pure,Result.andThen_ok,List.map_toArray,List.map_cons,List.map_nil,hρ _ _ hm,hρ _ _ hq,hr]
  ·rename_i op0 f args ts hc
   simp only [Op.call.injEq] at hc
   subst hc
   split at h <;> try contradiction
   ·rename_i vs hvs hcl
    obtain ⟨v,h',he,hk⟩ :=h
    obtain ⟨w',hr,rfl,hs'⟩ :=R5 hcl he
    refine gS hF (by simp [hop]) (w':=w') ?_ hs' hk
    have e1:args.map ρ=vs.toArray:=by rw [←ky.G5 hρ hvs]; apply Array.ext'; simp
    rw [hcong]; unfold execOp; rw [hop]
    have hev:ρ (.func f)=.func (.func f) #[] #[]:=hρ _ _ rfl
    simp only [resolve,hev,Deferred.ofValue,invoke,Sem.run_bind,Sem.run_pure,Result.andThen_ok,e1,Array.empty_append,Array.append_empty,hr]
   rename_i vs hvs hcl
   obtain ⟨hf,h⟩ :=h
   refine zt hF (by simp [hop]) (f:=f) (args:=vs) ?_ h
   have e1:args.map ρ=vs.toArray:=by rw [←ky.G5 hρ hvs]; apply Array.ext'; simp
   rw [hcong]; unfold execOp; rw [hop]
   have hev:ρ (.func f)=.func (.func f) #[] #[]:=hρ _ _ rfl
   simp only [resolve,hev,Deferred.ofValue,invoke,Sem.run_bind,Sem.run_pure,Result.andThen_ok,e1,Array.empty_append,Array.append_empty,qZ hf]
  ·rename_i op0 x args ts hnf hc
   simp only [Op.call.injEq] at hc
   subst hc
   split at h <;> try contradiction
   rename_i fv vs hx hvs
   have e1:args.map ρ=vs.toArray:=by rw [←ky.G5 hρ hvs]; apply Array.ext'; simp
   rcases h with (⟨g,first,cap,rfl,⟨hg,hc⟩⟩ | ⟨l,rfl,hy⟩) | ⟨name,r,rfl,t,u,f,rfl,hm,hf,hc⟩
   ·refine zt hF (by simp [hop]) (f:=g) (args:=first.toList++vs++cap.toList) ?_ hc
    rw [hcong]; unfold execOp; rw [hop]
    have e2:first++vs.toArray++cap=(first.toList++vs++cap.toList).toArray:=by simp
    simp only [resolve,hρ _ _ hx,Deferred.ofValue,invoke,Sem.run_bind,Sem.run_pure,Result.andThen_ok,e1,e2,qZ hg]
   ·refine ME hF (by simp [hop]) (l:=l) (args:=vs) ?_ hy
    rw [hcong]; unfold execOp; rw [hop]
    simp only [resolve,hρ _ _ hx,Deferred.ofValue,invoke,Sem.run_bind,Sem.run_pure,Result.andThen_ok,e1,Array.empty_append]
   ·refine zt hF (by simp [hop]) (f:=f) (args:=u::vs) ?_ hc
    rw [hcong]; unfold execOp; rw [hop]
    have e3:(#[Value.iface t u]++vs.toArray)[0]?=some (Value.iface t u):=by simp
    have e4:(#[Value.iface t u]++vs.toArray).extract 1 (#[Value.iface t u]++vs.toArray).size=vs.toArray:=by simp
    simp only [resolve,hρ _ _ hx,Deferred.ofValue,invoke,Sem.run_bind,Sem.run_pure,Result.andThen_ok,e1,e3,e4,zi hm hf]
  ·rename_i op0 x name args ts hc
   simp only [Op.call.injEq] at hc
   subst hc
   split at h <;> try contradiction
   rename_i fv vs hx hvs
   have e1:args.map ρ=vs.toArray:=by rw [←ky.G5 hρ hvs]; apply Array.ext'; simp
   obtain ⟨t,u,f,rfl,hm,hf,hc⟩ :=h
   refine zt hF (by simp [hop]) (f:=f) (args:=u::vs) ?_ hc
   rw [hcong]; unfold execOp; rw [hop]
   have e3:(#[Value.iface t u]++vs.toArray)[0]?=some (Value.iface t u):=by simp
   have e4:(#[Value.iface t u]++vs.toArray).extract 1 (#[Value.iface t u]++vs.toArray).size=vs.toArray:=by simp
   simp only [resolve,hρ _ _ hx,invoke,Sem.run_bind,Sem.run_pure,Result.andThen_ok,e1,e3,e4,zi hm hf]
end Go.En
namespace Go.En
abbrev KB:=List (Nat × Option Bool)
def No:KB→Nat→Option (Option Bool)
 | [],_=>none
 | (d,r)::s,t=>match Nat.beq d t with
  | true=>some r
  | false=>No s t
def VY (kb:KB) (dst:Option Nat):KB:=
 match dst with
 | none=>kb
 | some d=>kb.filter fun x=>!(Nat.beq x.1 d)
def put (env:Env) (dst:Option Nat) (v:Value):Env:=
 match dst with
 | none=>env
 | some d=>(d,v)::env
def Br (v:Value) (A B:Prop):Prop:=
 match v with
 | .bool true=>A
 | .bool false=>B
 | _=>False
theorem Ib {v:Value} {A B:Prop} (h:Br v A B):∃b,v=.bool b∧(b=true→A)∧(b=false→B):=by
 unfold Br at h
 split at h
 ·exact ⟨true,rfl,(fun _=>h),(fun e=>by cases e)⟩
 ·exact ⟨false,rfl,(fun e=>by cases e),fun _=>h⟩
 ·exact h.elim
def dec:Value→Deferred
 | .func fn first cap=>{target:=.fn fn cap,args:=first}
 | .pointer (some a)=>{target:=.collected a.block,args:=#[]}
 | _=>default
structure Ca (n:Nat) (env:Env) (a:Act):Prop where
 sz:a.tmps.size=n
 sl:∀t v,t<n→lk env t=some v→a.tmps.getD t undef=v
 df:∀v,lk env n=some v→∃ds:List Value,v=.tuple ⟨ds⟩ ∧a.defers=ds.map dec
theorem Ca.holds {n:Nat} {env:Env} {a:Act} (h:Ca n env a):ky n env a.eval:=by
 intro x v hv
 cases x with
 | tmp t=>
  simp only [ev] at hv
  split at hv
  ·rename_i hlt
   exact h.sl t v (by simpa [Nat.blt_eq] using hlt) hv
  ·contradiction
 | const u=>simpa [ev,Act.eval] using hv
 | global g=>simpa [ev,Act.eval] using hv
 | func f=>simpa [ev,Act.eval] using hv
theorem jA {env:Env} {d t:Nat} {v:Value}:lk ((d,v)::env) t=if d=t then some v else lk env t:=by
 simp only [lk]
 by_cases h:d=t
 ·subst h; simp
 ·have:Nat.beq d t=false:=by
   cases hb:Nat.beq d t with
   | false=>rfl
   | true=>exact absurd (Nat.eq_of_beq_eq_true hb) h
  rw [this]; simp [h]
theorem uc {a:Act} {d t:Nat} {v:Value} (hd:d<a.tmps.size):(a.put (some d) v).tmps.getD t undef=if d=t then v else a.tmps.getD t undef:=by
 simp only [Act.put,Array.getD_eq_getD_getElem?,Array.getElem?_setIfInBounds]
 by_cases h:d=t
 ·subst h; simp [hd]
 ·simp [h]
theorem Ca.put {n:Nat} {env:Env} {a:Act} (h:Ca n env a) {dst:Option Nat} {v:Value} (hd:∀d,dst=some d→d<n):Ca n (put env dst v) (a.put dst v):=by
 cases dst with
 | none=>exact h
 | some d=>
  have hdn:=hd d rfl
  refine ⟨by simp [Act.put,h.sz],fun t u ht hu=>?_,fun u hu=>?_⟩
  ·simp only [En.put] at hu
   rw [jA] at hu
   rw [uc (by rw [h.sz]; exact hdn)]
   split at hu
   ·rename_i e; subst e; simpa using hu
   ·rename_i e; rw [if_neg e]; exact h.sl t u ht hu
  ·simp only [En.put] at hu
   rw [jA,if_neg (by omega)] at hu
   exact h.df u hu
def we (n:Nat) (kb:KB) (env:Env):Prop:=∀d r,No kb d=some r→d<n∧∃v,lk env d=some v∧match r with
 | some b=>v=.bool b
 | none=>v=undef
theorem ud {kb:KB} {d t:Nat} {r:Option Bool}:No ((d,r)::kb) t=if d=t then some r else No kb t:=by
 simp only [No]
 by_cases h:d=t
 ·subst h; simp
 ·have:Nat.beq d t=false:=by
   cases hb:Nat.beq d t with
   | false=>rfl
   | true=>exact absurd (Nat.eq_of_beq_eq_true hb) h
  rw [this]; simp [h]
theorem JA {kb:KB} {d t:Nat} {r:Option Bool} (h:No (kb.filter fun x=>!(Nat.beq x.1 d)) t=some r):No kb t=some r∧t≠d:=by
 induction kb with
 | nil=>simp [No] at h
 | cons x kb ih=>
  obtain ⟨x,q⟩ :=x
  by_cases hx:x=d
  ·subst hx
   rw [List.filter_cons_of_neg (by simp)] at h
   obtain ⟨h1,h2⟩ :=ih h
   exact ⟨by rw [ud,if_neg (fun e=>h2 e.symm)]; exact h1,h2⟩
  ·have hb:Nat.beq x d=false:=by
    cases hb:Nat.beq x d with
    | false=>rfl
    | true=>exact absurd (Nat.eq_of_beq_eq_true hb) hx
   rw [List.filter_cons_of_pos (by simp [hb]),ud] at h
   split at h
   ·rename_i e; subst e; exact ⟨by rw [ud,if_pos rfl]; exact h,hx⟩
   ·rename_i e
    obtain ⟨h1,h2⟩ :=ih h
    exact ⟨by rw [ud,if_neg e]; exact h1,h2⟩
theorem we.put {n:Nat} {kb:KB} {env:Env} (h:we n kb env) (dst:Option Nat) (v:Value):we n (VY kb dst) (put env dst v):=by
 cases dst with
 | none=>exact h
 | some d=>
  intro t r hr
  obtain ⟨h1,h2⟩ :=JA hr
  obtain ⟨h3,u,hu,hm⟩ :=h t r h1
  exact ⟨h3,u,by rw [En.put,jA,if_neg (fun e=>h2 e.symm)]; exact hu,hm⟩
theorem we.nil (n:Nat) (env:Env):we n [] env:=fun d r h=>by simp [No] at h
theorem we.add {n:Nat} {kb:KB} {env:Env} (h:we n kb env) {d:Nat} {r:Option Bool} {v:Value} (hd:d<n) (hl:lk env d=some v) (hv:match r with
  | some b=>v=.bool b
  | none=>v=undef):we n ((d,r)::kb) env:=by
 intro t q hq
 rw [ud] at hq
 split at hq
 ·rename_i e; subst e; simp only [Option.some.injEq] at hq; subst hq; exact ⟨hd,v,hl,hv⟩
 ·exact h t q hq
def step (P:Program) (n:Nat) (op:Op) (env:Env) (kb:KB) (h:Hp) (k:Value→Hp→Prop):Prop:=
 match op with
 | .move x=>match ev n env x with
  | some v=>k v h
  | none=>False
 | .assign x=>match ev n env x with
  | some v=>k v h
  | none=>False
 | .pick (.tmp c) x y=>match No kb c with
  | some (some true)=>match ev n env x with
   | some v=>k v h
   | none=>False
  | some (some false)=>match ev n env y with
   | some v=>k v h
   | none=>False
  | some none=>False
  | none=>Vb (HE P n env (.pick (.tmp c) x y) h) fun v=>k v h
 | op=>match Ym op with
  | true=>Vb (HE P n env op h) fun v=>k v h
  | false=>V2 P n env op h k
theorem Fk {P:Program} {n:Nat} {env:Env} {op:Op} {h:Hp} {v:Value} (hv:HE P n env op h=some v):∀c,op≠.defer c:=by
 intro c e; subst e; simp [HE] at hv
theorem Ps {P:Program} {F:Fence} (hF:Wd F) {n m:Nat} {env:Env} {kb:KB} {o:Oper} {a:Act} {w:World} {k:Value→Hp→Prop} (hA:ky n env a.eval) (hK:we n kb env)
  (h:step P n o.op env kb w.heap k):QM P F m o a w k:=by
 have hmove:∀x v,(o.op=.move x∨o.op=.assign x)→ev n env x=some v→k v w.heap→QM P F m o a w k:=by
  intro x v ho hv hk
  refine gS hF (w':=w) (v:=v) (by rcases ho with e | e <;> simp [e]) ?_ (.refl w) hk
  rw [←hA x v hv]
  rcases ho with e | e <;> (unfold execOp; rw [e]; rfl)
 have hV:∀(hv:Vb (HE P n env o.op w.heap) fun v=>k v w.heap),QM P F m o a w k:=by
  rintro ⟨v,hv,hk⟩
  exact gS hF (Fk hv) (GR hA hv) (.refl w) hk
 have hgen:(match Ym o.op with
   | true=>Vb (HE P n env o.op w.heap) fun v=>k v w.heap
   | false=>V2 P n env o.op w.heap k)→QM P F m o a w k:=by
  intro h
  split at h
  ·exact hV h
  ·exact Lt hF hA rfl h
 unfold step at h
 split at h
 ·rename_i x ho
  split at h <;> try contradiction
  rename_i v hv
  exact hmove x v (.inl ho) hv h
 ·rename_i x ho
  split at h <;> try contradiction
  rename_i v hv
  exact hmove x v (.inr ho) hv h
 ·rename_i c x y ho
  split at h
  ·rename_i hb
   split at h <;> try contradiction
   rename_i v hv
   obtain ⟨hc,u,hu,hm⟩ :=hK _ _ hb
   simp only at hm
   subst hm
   refine gS hF (w':=w) (v:=v) (by simp [ho]) ?_ (.refl w) h
   have hcv:ev n env (.tmp c)=some (.bool true):=by
    have:Nat.blt c n=true:=by simpa [Nat.blt_eq] using hc
    simp [ev,this,hu]
   unfold execOp; rw [ho]; simp [hA _ _ hcv,hA _ _ hv,asBool]
  ·rename_i hb
   split at h <;> try contradiction
   rename_i v hv
   obtain ⟨hc,u,hu,hm⟩ :=hK _ _ hb
   simp only at hm
   subst hm
   refine gS hF (w':=w) (v:=v) (by simp [ho]) ?_ (.refl w) h
   have hcv:ev n env (.tmp c)=some (.bool false):=by
    have:Nat.blt c n=true:=by simpa [Nat.blt_eq] using hc
    simp [ev,this,hu]
   unfold execOp; rw [ho]; simp [hA _ _ hcv,hA _ _ hv,asBool]
  ·contradiction
  ·rw [←ho] at h; exact hV h
 ·exact hgen h
def V1 (ops:Array Oper) (env:Env) (kb:KB) (g:Option (Nat × Bool)) (yes no:KB→Prop):Prop:=
 match g with
 | none=>yes kb
 | some (j,want)=>match (ops[j]?).bind (·.dst) with
  | none=>False
  | some d=>match No kb d with
   | some (some b)=>match b,want with
    | true,true=>yes kb
    | false,false=>yes kb
    | _,_=>no kb
   | some none=>no kb
   | none=>match lk env d with
    | none=>False
    | some v=>match want with
     | true=>Br v (yes ((d,some true)::kb)) (no ((d,some false)::kb))
     | false=>Br v (no ((d,some true)::kb)) (yes ((d,some false)::kb))
def zd (n:Nat) (ops:List Oper):Bool:=
 match ops with
 | []=>true
 | o::r=>match o.dst with
  | none=>zd n r
  | some d=>match Nat.blt d n with
   | true=>zd n r
   | false=>false
theorem pD {n:Nat} {ops:List Oper} (h:zd n ops=true):∀o∈ops,∀d,o.dst=some d→d<n:=by
 induction ops with
 | nil=>intro o ho; cases ho
 | cons o r ih=>
  unfold zd at h
  intro x hx d hd
  split at h
  ·rename_i hn
   rcases List.mem_cons.1 hx with rfl | hx
   ·rw [hn] at hd; cases hd
   ·exact ih h x hx d hd
  ·rename_i d' hd'
   split at h
   ·rename_i hb
    rcases List.mem_cons.1 hx with rfl | hx
    ·rw [hd'] at hd; cases hd; simpa [Nat.blt_eq] using hb
    ·exact ih h x hx d hd
   ·contradiction
def GX:Value→Option Bool
 | .bool b=>some b
 | _=>none
theorem ED {n:Nat} {env:Env} {a:Act} {ops:Array Oper} (hsz:a.tmps.size=n) {j d:Nat} {v:Value} (hj:(ops[j]?).bind (·.dst)=some d) (hd:d<n) (hv:a.tmps.getD d undef=v) :
  yielded ops a.tmps j=GX v:=by
 unfold yielded
 rw [hj]
 simp only [Option.bind_some]
 have:a.tmps[d]?=some v:=by
  rw [Array.getD_eq_getD_getElem?] at hv
  have hlt:d<a.tmps.size:=by omega
  rw [Array.getElem?_eq_getElem hlt] at hv⊢
  simpa using hv
 rw [this]
 cases v <;> rfl
theorem LL {n:Nat} {ops:Array Oper} {env:Env} {kb:KB} {a:Act} {o:Oper} {yes no:KB→Prop} (hn:zd n ops.toList=true) (hsz:a.tmps.size=n) (hK:we n kb env)
  (Dk:∀d v,(∃j want,o.guard=some (j,want)∧(ops[j]?).bind (·.dst)=some d)→lk env d=some v→a.tmps.getD d undef=v)
  (h:V1 ops env kb o.guard yes no) :
  ∃kb',we n kb' env∧((Region.wanted o (yielded ops a.tmps)=true∧yes kb')∨(Region.wanted o (yielded ops a.tmps)=false∧no kb')):=by
 unfold V1 at h
 split at h
 ·rename_i hg
  exact ⟨kb,hK,.inl ⟨by simp [Region.wanted,hg],h⟩⟩
 ·rename_i j want hg
  split at h <;> try contradiction
  rename_i d hd
  have hdn:d<n:=by
   cases ho:ops[j]? with
   | none=>rw [ho] at hd; cases hd
   | some oj=>
    rw [ho] at hd
    exact pD hn oj (by rw [Array.mem_toList_iff]; exact Array.mem_of_getElem? ho) d hd
  have hw:∀v,lk env d=some v→Region.wanted o (yielded ops a.tmps)=(GX v == some want):=by
   intro v hv
   have:=ED (env:=env) hsz hd hdn (Dk d v ⟨j,want,hg,hd⟩ hv)
   simp only [Region.wanted,hg,this]
  split at h
  ·rename_i b hb
   obtain ⟨_,v,hv,hm⟩ :=hK _ _ hb
   simp only at hm
   subst hm
   have:=hw _ hv
   split at h
   ·exact ⟨kb,hK,.inl ⟨by rw [this]; rfl,h⟩⟩
   ·exact ⟨kb,hK,.inl ⟨by rw [this]; rfl,h⟩⟩
   ·rename_i h1 h2
    refine ⟨kb,hK,.inr ⟨?_,h⟩⟩
    rw [this]
    cases b <;> cases want <;> first | rfl | exact (h1 rfl rfl).elim | exact (h2 rfl rfl).elim
  ·rename_i hb
   obtain ⟨_,v,hv,hm⟩ :=hK _ _ hb
   simp only at hm
   subst hm
   exact ⟨kb,hK,.inr ⟨by rw [hw _ hv]; rfl,h⟩⟩
  ·split at h <;> try contradiction
   rename_i v hv
   have hwv:=hw _ hv
   split at h
   ·obtain ⟨b,rfl,ht,hf⟩ :=Ib h
    cases b with
    | true=>exact ⟨_,hK.add hdn hv (r:=some true) rfl,.inl ⟨by rw [hwv]; rfl,ht rfl⟩⟩
    | false=>exact ⟨_,hK.add hdn hv (r:=some false) rfl,.inr ⟨by rw [hwv]; rfl,hf rfl⟩⟩
   ·obtain ⟨b,rfl,ht,hf⟩ :=Ib h
    cases b with
    | true=>exact ⟨_,hK.add hdn hv (r:=some true) rfl,.inr ⟨by rw [hwv]; rfl,ht rfl⟩⟩
    | false=>exact ⟨_,hK.add hdn hv (r:=some false) rfl,.inl ⟨by rw [hwv]; rfl,hf rfl⟩⟩
def MB (P:Program) (n:Nat) (rd:Bool) (ops:Array Oper):List Oper→Env→KB→Hp→(Env→Hp→Prop)→Prop
 | [],env,_,h,k=>k env h
 | o::r,env,kb,h,k=>
  V1 ops env kb o.guard
   (fun kb=>match o.op with
    | .defer {callee:=.value (.func f),args,..}=>match rd,okF P f,G5 n env args.toList,lk env n with
     | false,true,some vs,some (.tuple ⟨ds⟩)=>match o.dst with
      | none=>MB P n rd ops r ((n,.tuple ⟨.func (.func f) vs.toArray #[]::ds⟩)::env) kb h k
      | some _=>False
     | _,_,_,_=>False
    | op=>step P n op env kb h fun v h'=>MB P n rd ops r (put env o.dst v) (VY kb o.dst) h' k)
   (fun kb=>MB P n rd ops r (put env o.dst undef) (match o.dst with
    | some d=>(d,none)::kb
    | none=>kb) h k)
theorem xz {P:Program} {F:Fence} (hF:Wd F) {n m:Nat} {rd:Bool} (hrd:rd=false→F.round=none) {ops:Array Oper} (hn:zd n ops.toList=true) {Q:Exit→Act→World→Prop} {w0:World} {k:Env→Hp→Prop}
  {T:List Nat} {b:Nat→Option Value} (hT:∀o∈ops.toList,∀d,o.dst=some d→d∉T) (hTn:n∈T→∀o∈ops.toList,∀c,o.op≠.defer c)
  (hQ:∀env a w,Ca n env a→sj w0 w→(∀t∈T,lk env t=b t)→k env w.heap→Q .normal a w) :
  ∀(l:List Oper) (env:Env) (kb:KB) (a:Act) (w:World),(∀t∈T,lk env t=b t)→(∀o∈l,o∈ops.toList)→Ca n env a→we n kb env→sj w0 w→MB P n rd ops l env kb w.heap k→wpListIn F m P ops Q l a w
 | [],env,kb,a,w,hb,_,hA,_,hR,h=>hQ env a w hA hR hb h
 | o::l,env,kb,a,w,hb,hl,hA,hK,hR,h=>by
  have hbp:∀v,∀t∈T,lk (put env o.dst v) t=b t:=by
   intro v t ht
   cases hd:o.dst with
   | none=>exact hb t ht
   | some d=>
    simp only [put]
    rw [jA,if_neg (fun (e:d=t)=>hT o (hl o (List.mem_cons_self ..)) d hd (by rw [e]; exact ht))]
    exact hb t ht
  have ho:=hl o (List.mem_cons_self ..)
  have hl':∀x∈l,x∈ops.toList:=fun x hx=>hl x (List.mem_cons_of_mem _ hx)
  have hd:∀d,o.dst=some d→d<n:=pD hn o ho
  unfold MB at h
  obtain ⟨kb',hK',hcase⟩ :=LL hn hA.sz hK (fun d v ⟨j,want,hg,hdd⟩ hv=>hA.sl d v (by
   cases hoj:ops[j]? with
   | none=>rw [hoj] at hdd; cases hdd
   | some oj=>rw [hoj] at hdd; exact pD hn oj (by rw [Array.mem_toList_iff]; exact Array.mem_of_getElem? hoj) d hdd) hv) h
  refine wpListIn_step fun K hKK=>?_
  rcases hcase with ⟨hw,hy⟩ | ⟨hw,hno⟩
  ·rw [hw,if_pos rfl]
   split at hy
   ·rename_i f args ts hop
    split at hy <;> try contradiction
    rename_i vs ds hf hvs hds
    split at hy <;> try contradiction
    rename_i hdst
    have hro:=hrd rfl
    refine ⟨fun f _=>hF.any f,?_⟩
    have e1:args.map a.eval=vs.toArray:=by rw [←ky.G5 hA.holds hvs]; apply Array.ext'; simp
    have hrun:(o.semAt F.round a.eval).run P w=.ok (.defer {target:=.fn (.func f) #[],args:=vs.toArray}) w:=by
     rw [hro,Oper.semAt_none]
     unfold execOp; rw [hop]
     have hev:a.eval (.func f)=.func (.func f) #[] #[]:=rfl
     simp only [resolve,hev,Deferred.ofValue,Sem.run_bind,Sem.run_pure,Result.andThen_ok,e1,Array.empty_append]
    rw [hrun,Oper.uponIn_defer,hdst]
    refine hKK _ _ (xz hF hrd hn hT hTn hQ l _ kb' _ w ?_ hl' ?_ ?_ hR hy)
    ·intro t ht
     by_cases e:n=t
     ·subst e; exact absurd hop (hTn ht o ho _)
     ·rw [jA,if_neg e]; exact hb t ht
    ·obtain ⟨ds',hds',hdf⟩ :=hA.df _ hds
     simp only [Value.tuple.injEq,Array.mk.injEq] at hds'
     subst hds'
     refine ⟨hA.sz,fun t v ht hv=>?_,fun v hv=>?_⟩
     ·rw [jA,if_neg (by omega)] at hv
      exact hA.sl t v ht hv
     ·rw [jA,if_pos rfl] at hv
      simp only [Option.some.injEq] at hv
      refine ⟨_,hv.symm,?_⟩
      simp [Act.put,dec,hdf]
    ·intro t r hr
     obtain ⟨h1,v,h2,h3⟩ :=hK' t r hr
     exact ⟨h1,v,by rw [jA,if_neg (by omega)]; exact h2,h3⟩
   ·refine Ps hF hA.holds hK' hy K Q fun v w' hs hk=>hKK _ _ ?_
    exact xz hF hrd hn hT hTn hQ l _ _ _ w' (hbp v) hl' (hA.put hd) (hK'.put _ _) (hR.trans hs) hk
  ·rw [hw]
   refine ⟨fun f _=>hF.any f,hKK _ _ (xz hF hrd hn hT hTn hQ l _ _ _ w (hbp _) hl' (hA.put hd) ?_ hR hno)⟩
   cases hdst:o.dst with
   | none=>simpa [put] using hK'
   | some d=>
    simp only
    intro t r hr
    rw [ud] at hr
    by_cases e:d=t
    ·subst e
     rw [if_pos rfl] at hr
     simp only [Option.some.injEq] at hr
     subst hr
     exact ⟨hd d hdst,undef,by simp only [put]; rw [jA,if_pos rfl],rfl⟩
    ·rw [if_neg e] at hr
     obtain ⟨h1,v,h2,h3⟩ :=hK' t r hr
     exact ⟨h1,v,by simp only [put]; rw [jA,if_neg e]; exact h2,h3⟩
end Go.En
namespace Go.En
inductive DC where
 | p | v | e | bad
def zY (P:Program):Op→Bool
 | .load .. | .lookup .. | .entry _=>false
 | .call {callee:=.builtin .len,argTypes:=⟨t::_⟩,..}=>match YL P t with
  | .vR=>true
  | _=>false
 | .call {callee:=.builtin .min,..} | .call {callee:=.builtin .max,..}=>true
 | .call _=>false
 | _=>true
def dc (P:Program) (op:Op):DC:=
 match op with
 | .move _ | .assign _=>.p
 | .defer _ | .select ..=>.bad
 | op=>match Ym op with
  | true=>match zY P op with
   | true=>.p
   | false=>.v
  | false=>.e
def isE:DC→Bool
 | .e=>true
 | _=>false
structure Pd where
 i:Nat
 env:Env
 op:Op
 v:Value
def F3 (P:Program) (n:Nat) (mask:Nat) (h:Hp) (q:Prop):List Pd→Prop
 | []=>q
 | p::r=>match mask.testBit p.i with
  | true=>F3 P n mask h q r
  | false=>HE P n p.env p.op h=some p.v∧F3 P n mask h q r
def D0 (mask:Nat):List Pd→List Pd
 | []=>[]
 | p::r=>match mask.testBit p.i with
  | true=>D0 mask r
  | false=>p::D0 mask r
def Zb (kb:KB) (dst:Option Nat):KB:=
 match dst with
 | some d=>(d,none)::kb
 | none=>kb
inductive OT where
 | nil
 | cons (i:Nat) (r:OT)
 | qX (a b:OT)
def oc:List Nat→OT→OT
 | [],t=>t
 | i::r,t=>.cons i (oc r t)
def Dv (P:Program) (n:Nat) (ops:Array Oper) (pre:Array Nat):OT→List Pd→Env→KB→Hp→(Env→Hp→Prop)→Prop
 | .nil,_,env,_,h,k=>k env h
 | .qX a b,pend,env,kb,h,k=>Dv P n ops pre a pend env kb h k∧Dv P n ops pre b pend env kb h k
 | .cons i r,pend,env,kb,h,k=>match ops[i]? with
  | none=>False
  | some o=>V1 ops env kb o.guard
   (fun kb=>match dc P o.op with
    | .p=>step P n o.op env kb h fun v _=>Dv P n ops pre r pend (put env o.dst v) (VY kb o.dst) h k
    | .v=>Vb (HE P n env o.op h) fun v=>Dv P n ops pre r ({i,env,op:=o.op,v}::pend) (put env o.dst v) (VY kb o.dst) h k
    | .e=>V2 P n env o.op h fun v h'=>F3 P n (pre.getD i 0) h' (Dv P n ops pre r (D0 (pre.getD i 0) pend) (put env o.dst v) (VY kb o.dst) h' k) pend
    | .bad=>False)
   (fun kb=>Dv P n ops pre r pend (put env o.dst undef) (Zb kb o.dst) h k)
def rel (pre:Array Nat) (i j:Nat):Bool:=(pre.getD i 0).testBit j
def oD (ops:Array Oper) (j:Nat):Option Nat:=(ops[j]?).bind (·.dst)
def Tp (ops:Array Oper) (j:Nat) (o:Oper):Bool:=
 match oD ops j with
 | some d=>(o.looksAt ops).contains d
 | none=>false
def KT (ops:Array Oper) (i j:Nat):Bool:=
 match oD ops i,oD ops j with
 | some d,some e=>Nat.beq d e
 | _,_=>false
def eAt (P:Program) (ops:Array Oper) (j:Nat):Bool:=
 match ops[j]? with
 | some o=>isE (dc P o.op)
 | none=>false
def uz:OT→List Nat
 | .nil=>[]
 | .cons i _=>[i]
 | .qX a b=>uz a++uz b
def uF (P:Program) (ops:Array Oper) (pre:Array Nat):OT→List Nat→List Nat→Bool
 | .nil,_,l1=>(List.range ops.size).all fun j=>l1.contains j
 | .qX a b,hs,l1=>hs.all (fun e=>eAt P ops e)&&uF P ops pre a hs l1&&uF P ops pre b hs l1
 | .cons i r,hs,l1=>(match ops[i]? with
  | none=>false
  | some o=>!(l1.contains i)&&hs.contains i&&o.after.all (fun e=>!Region.binds .any e||l1.contains e.on)&&
   l1.all (fun j=>!Tp ops j o||rel pre i j)&&
   (List.range ops.size).all (fun j=>Nat.beq j i||l1.contains j||!Tp ops j o||rel pre j i)&&
   (!isE (dc P o.op)||(List.range ops.size).all fun j=>l1.contains j||hs.contains j||hs.any fun e=>rel pre j e))&&uF P ops pre r (uz r) (i::l1)
def pathOf:OT→List Nat
 | .nil=>[]
 | .cons i r=>i::pathOf r
 | .qX a _=>pathOf a
def Zl (P:Program) (n:Nat) (ops:Array Oper) (pre:Array Nat) (ord:OT):Bool:=
 zd n ops.toList&&(List.range ops.size).all (fun i=>(List.range ops.size).all fun j=>Nat.beq i j||!KT ops i j)&&
  (List.range ops.size).all (fun i=>match ops[i]? with
   | none=>false
   | some o=>o.after.all (fun e=>!Region.binds .any e||(Nat.blt ((pathOf ord).idxOf e.on) ((pathOf ord).idxOf i)&&Nat.blt e.on ops.size))&&
    (List.range ops.size).all (fun j=>!rel pre i j||o.after.any fun e=>Region.binds .any e&&(Nat.beq e.on j||rel pre e.on j)))&&
  uF P ops pre ord (uz ord) []
structure XT (P:Program) (ops:Array Oper) (pre:Array Nat) (hs l1:List Nat) (i:Nat) (o:Oper):Prop where
 at_:ops[i]?=some o
 FX:i∉l1
 inh:i∈hs
 aaX:∀e∈o.after,Region.binds .any e=true→e.on∈l1
 Wc:∀j∈l1,Tp ops j o=true→rel pre i j=true
 Xr:∀j,j<ops.size→j≠i→j∉l1→Tp ops j o=true→rel pre j i=true
 wait:dc P o.op=.e→∀j,j<ops.size→j∉l1→j∉hs→∃e∈hs,rel pre j e=true
theorem BS {P:Program} {ops:Array Oper} {pre:Array Nat} {hs l1:List Nat} {i:Nat} {r:OT} (h:uF P ops pre (.cons i r) hs l1=true):(∃o,XT P ops pre hs l1 i o)∧uF P ops pre r (uz r) (i::l1)=true:=by
 unfold uF at h
 rw [Bool.and_eq_true] at h
 refine ⟨?_,h.2⟩
 have h1:=h.1
 split at h1
 ·contradiction
 ·rename_i o ho
  simp only [Bool.and_eq_true,List.all_eq_true,Array.all_eq_true_iff_forall_mem,Bool.or_eq_true,Bool.not_eq_true',List.contains_iff_mem,List.contains_eq_mem,decide_eq_false_iff_not,decide_eq_true_eq,List.mem_range,List.any_eq_true] at h1
  obtain ⟨⟨⟨⟨⟨a1,a6⟩,a2⟩,a4⟩,a5⟩,a7⟩ :=h1
  refine ⟨o,ho,a1,a6,fun e he hb=>?_,fun j hj hh=>?_,fun j hj hne hnl hh=>?_,fun hd j hj hnl hnh=>?_⟩
  ·rcases a2 e he with h2 | h2
   ·rw [hb] at h2; cases h2
   ·exact h2
  ·rcases a4 j hj with h2 | h2
   ·rw [hh] at h2; cases h2
   ·exact h2
  ·rcases a5 j hj with ((h2 | h2) | h2) | h2
   ·exact absurd (Nat.eq_of_beq_eq_true h2) hne
   ·exact absurd h2 hnl
   ·rw [hh] at h2; cases h2
   ·exact h2
  ·rcases a7 with h2 | h2
   ·rw [hd] at h2; cases h2
   ·rcases h2 j hj with (h3 | h3) | h3
    ·exact absurd h3 hnl
    ·exact absurd h3 hnh
    ·exact h3
theorem EI {P:Program} {ops:Array Oper} {pre:Array Nat} {hs l1:List Nat} {a b:OT} (h:uF P ops pre (.qX a b) hs l1=true):(∀e∈hs,eAt P ops e=true)∧uF P ops pre a hs l1=true∧uF P ops pre b hs l1=true:=by
 unfold uF at h
 simp only [Bool.and_eq_true,List.all_eq_true] at h
 exact ⟨h.1.1,h.1.2,h.2⟩
def tE (n:Nat) (env:Env) (ts:List Tmp) (a:Act):Prop:=a.tmps.size=n∧∀t u,t∈ts→t<n→lk env t=some u→a.tmps.getD t undef=u
def X8 (n:Nat) (env:Env) (a:Act):Operand→Value:=fun x=>(ev n env x).getD (a.eval x)
theorem FJ {n:Nat} {env:Env} {a:Act}:ky n env (X8 n env a):=fun x v h=>by simp [X8,h]
theorem HJ {n:Nat} {env:Env} {a:Act} {ops:Array Oper} {o:Oper} (hs:∀cs b,o.op≠.select cs b) (h:tE n env (o.looksAt ops) a):execOp a.eval o=execOp (X8 n env a) o:=by
 refine execOp_congr o hs fun x hx=>?_
 unfold X8
 cases he:ev n env x with
 | none=>rfl
 | some v=>
  simp only [Option.getD_some]
  cases x with
  | tmp t=>
   simp only [ev] at he
   split at he
   ·rename_i hb
    exact h.2 t v (List.mem_append_left _ (List.mem_filterMap.2 ⟨.tmp t,by simpa using hx,rfl⟩)) (by simpa [Nat.blt_eq] using hb) he
   ·contradiction
  | const u=>simpa [ev,Act.eval] using he
  | global g=>simpa [ev,Act.eval] using he
  | func f=>simpa [ev,Act.eval] using he
def Bm (ops:Array Oper) (env:Env) (o:Oper):Bool:=
 match o.guard with
 | none=>true
 | some (j,want)=>match oD ops j with
  | none=>false
  | some d=>match lk env d with
   | none=>false
   | some v=>GX v == some want
theorem Q6 {n:Nat} {ops:Array Oper} {env:Env} {kb:KB} {o:Oper} {yes no:KB→Prop} (hn:zd n ops.toList=true) (hK:we n kb env) (h:V1 ops env kb o.guard yes no) :
  ∃kb',we n kb' env∧((Bm ops env o=true∧yes kb')∨(Bm ops env o=false∧no kb'))∧
   (∀a,tE n env (o.looksAt ops) a→Region.wanted o (yielded ops a.tmps)=Bm ops env o):=by
 have key:∀(a:Act),tE n env (o.looksAt ops) a→(∀j want d,o.guard=some (j,want)→oD ops j=some d→∃v,lk env d=some v)→(∀j want,o.guard=some (j,want)→∃d,oD ops j=some d)→
   Region.wanted o (yielded ops a.tmps)=Bm ops env o:=by
  intro a ha hv hd
  unfold Bm
  cases hg:o.guard with
  | none=>simp [Region.wanted,hg]
  | some g=>
   obtain ⟨j,want⟩ :=g
   obtain ⟨d,hd'⟩ :=hd j want hg
   obtain ⟨v,hv'⟩ :=hv j want d hg hd'
   simp only [hd',hv']
   have hdn:d<n:=by
    unfold oD at hd'
    cases ho:ops[j]? with
    | none=>rw [ho] at hd'; cases hd'
    | some oj=>rw [ho] at hd'; exact pD hn oj (by rw [Array.mem_toList_iff]; exact Array.mem_of_getElem? ho) d hd'
   have hin:d∈o.looksAt ops:=by
    unfold Oper.looksAt
    refine List.mem_append_right _ ?_
    rw [hg]
    simp only
    have:(ops[j]?).bind (·.dst)=some d:=hd'
    rw [this]; simp
   have hy:=ED (env:=env) (v:=v) ha.1 (j:=j) (ops:=ops) hd' hdn (ha.2 d v hin hdn hv')
   simp only [Region.wanted,hg,hy]
 have h0:=h
 unfold V1 at h
 split at h
 ·rename_i hg
  refine ⟨kb,hK,.inl ⟨by simp [Bm,hg],h⟩,fun a ha=>key a ha (fun j want d hgg _=>by rw [hg] at hgg; cases hgg) (fun j want hgg=>by rw [hg] at hgg; cases hgg)⟩
 ·rename_i j want hg
  split at h <;> try contradiction
  rename_i d hd
  have hd':oD ops j=some d:=hd
  have hdn:d<n:=by
   cases ho:ops[j]? with
   | none=>rw [ho] at hd; cases hd
   | some oj=>rw [ho] at hd; exact pD hn oj (by rw [Array.mem_toList_iff]; exact Array.mem_of_getElem? ho) d hd
  have fin:∀v,lk env d=some v→(∀a,tE n env (o.looksAt ops) a→Region.wanted o (yielded ops a.tmps)=Bm ops env o):=fun v hv a ha=>key a ha
   (fun j' want' d' hgg hdd=>by rw [hg] at hgg; cases hgg; rw [hd'] at hdd; cases hdd; exact ⟨v,hv⟩) (fun j' want' hgg=>by rw [hg] at hgg; cases hgg; exact ⟨d,hd'⟩)
  have hw:∀v,lk env d=some v→Bm ops env o=(GX v == some want):=fun v hv=>by simp [Bm,hg,hd',hv]
  split at h
  ·rename_i b hb
   obtain ⟨_,v,hv,hm⟩ :=hK _ _ hb
   simp only at hm
   subst hm
   refine ⟨kb,hK,?_,fin _ hv⟩
   rw [hw _ hv]
   split at h
   ·exact .inl ⟨rfl,h⟩
   ·exact .inl ⟨rfl,h⟩
   ·rename_i h1 h2
    refine .inr ⟨?_,h⟩
    cases b <;> cases want <;> first | rfl | exact (h1 rfl rfl).elim | exact (h2 rfl rfl).elim
  ·rename_i hb
   obtain ⟨_,v,hv,hm⟩ :=hK _ _ hb
   simp only at hm
   subst hm
   exact ⟨kb,hK,.inr ⟨by rw [hw _ hv]; rfl,h⟩,fin _ hv⟩
  ·split at h <;> try contradiction
   rename_i v hv
   split at h
   ·obtain ⟨b,rfl,ht,hf⟩ :=Ib h
    cases b with
    | true=>exact ⟨_,hK.add hdn hv (r:=some true) rfl,.inl ⟨by rw [hw _ hv]; rfl,ht rfl⟩,fin _ hv⟩
    | false=>exact ⟨_,hK.add hdn hv (r:=some false) rfl,.inr ⟨by rw [hw _ hv]; rfl,hf rfl⟩,fin _ hv⟩
   ·obtain ⟨b,rfl,ht,hf⟩ :=Ib h
    cases b with
    | true=>exact ⟨_,hK.add hdn hv (r:=some true) rfl,.inr ⟨by rw [hw _ hv]; rfl,ht rfl⟩,fin _ hv⟩
    | false=>exact ⟨_,hK.add hdn hv (r:=some false) rfl,.inl ⟨by rw [hw _ hv]; rfl,hf rfl⟩,fin _ hv⟩
def tl (P:Program) (F:Fence) (m n:Nat) (ops:Array Oper) (i:Nat) (o:Oper) (env:Env) (v:Value) (h:Hp):Prop:=
 ∀(a:Act) (w:World) (Q:Exit→Act→World→Prop) (next:Act→World→Prop),w.heap=h→tE n env (o.looksAt ops) a→next (a.put o.dst v) w→wpOpIn F m P ops Q i next a w
theorem Mf {P:Program} {n:Nat} {env:Env} {op:Op} (hp:zY P op=true) (h h':Hp):HE P n env op h=HE P n env op h':=by
 cases op <;> first | rfl | (simp [zY] at hp; done) | skip
 rename_i c
 obtain ⟨cl,⟨asn⟩,⟨ts⟩⟩ :=c
 cases cl with
 | value f=>simp [zY] at hp
 | invoke r m=>simp [zY] at hp
 | builtin b=>
  cases b <;> first | (simp [zY] at hp; done) | skip
  ·cases ts with
   | nil=>simp [zY] at hp
   | cons t r=>
    simp only [zY] at hp
    split at hp
    ·rename_i hk
     match asn with
     | []=>rfl
     | [x]=>simp only [HE,hk,YM]
     | _::_::_=>rfl
    ·contradiction
  ·match asn with
   | []=>rfl
   | [x]=>rfl
   | [x,y]=>rfl
   | _::_::_::_=>rfl
  ·match asn with
   | []=>rfl
   | [x]=>rfl
   | [x,y]=>rfl
   | _::_::_::_=>rfl
end Go.En
namespace Go.En
theorem LN {P:Program} {n:Nat} {env:Env} {kb:KB} {o:Oper} {h:Hp} {k:Value→Hp→Prop} (hK:we n kb env) (hp:dc P o.op=.p) (hs:step P n o.op env kb h k) :
  ∃v,(∀(ρ:Operand→Value) (w:World),ky n env ρ→(execOp ρ o).run P w=.ok (.value v) w)∧k v h:=by
 have hmove:∀x v,(o.op=.move x∨o.op=.assign x)→ev n env x=some v→k v h→∃v,(∀(ρ:Operand→Value) (w:World),ky n env ρ→(execOp ρ o).run P w=.ok (.value v) w)∧k v h:=by
  intro x v ho hv hk
  refine ⟨v,fun ρ w hρ=>?_,hk⟩
  rw [←hρ x v hv]
  rcases ho with e | e <;> (unfold execOp; rw [e]; rfl)
 have hV:zY P o.op=true→Vb (HE P n env o.op h) (fun v=>k v h)→∃v,(∀(ρ:Operand→Value) (w:World),ky n env ρ→(execOp ρ o).run P w=.ok (.value v) w)∧k v h:=by
  rintro hpv ⟨v,hv,hk⟩
  exact ⟨v,fun ρ w hρ=>GR hρ (by rw [Mf hpv w.heap h]; exact hv),hk⟩
 unfold step at hs
 split at hs
 ·rename_i x ho
  split at hs <;> try contradiction
  rename_i v hv
  exact hmove x v (.inl ho) hv hs
 ·rename_i x ho
  split at hs <;> try contradiction
  rename_i v hv
  exact hmove x v (.inr ho) hv hs
 ·rename_i c x y ho
  have kb2:∀b,No kb c=some (some b)→ev n env (.tmp c)=some (.bool b):=by
   intro b hb
   obtain ⟨hc,u,hu,hm⟩ :=hK _ _ hb
   simp only at hm
   subst hm
   have:Nat.blt c n=true:=by simpa [Nat.blt_eq] using hc
   simp [ev,this,hu]
  split at hs
  ·rename_i hb
   split at hs <;> try contradiction
   rename_i v hv
   refine ⟨v,fun ρ w hρ=>?_,hs⟩
   unfold execOp; rw [ho]; simp [hρ _ _ (kb2 _ hb),hρ _ _ hv,asBool]
  ·rename_i hb
   split at hs <;> try contradiction
   rename_i v hv
   refine ⟨v,fun ρ w hρ=>?_,hs⟩
   unfold execOp; rw [ho]; simp [hρ _ _ (kb2 _ hb),hρ _ _ hv,asBool]
  ·contradiction
  ·rw [←ho] at hs; exact hV (by rw [ho]; rfl) hs
 ·rename_i h1 h2 h3
  have hpv:Ym o.op=true∧zY P o.op=true:=by
   unfold dc at hp
   split at hp
   ·rename_i hh; exact (h1 _ hh).elim
   ·rename_i hh; exact (h2 _ hh).elim
   ·contradiction
   ·contradiction
   ·split at hp
    ·rename_i hv
     split at hp
     ·rename_i hpp; exact ⟨hv,hpp⟩
     ·contradiction
    ·contradiction
  rw [hpv.1] at hs
  exact hV hpv.2 hs
theorem aan {P:Program} {op:Op} (h:dc P op=.v):∀cs b,op≠.select cs b:=by
 intro cs b e; subst e; simp [dc] at h
theorem Zn {P:Program} {op:Op} (h:dc P op=.p):∀cs b,op≠.select cs b:=by
 intro cs b e; subst e; simp [dc] at h
theorem Y8 {P:Program} {op:Op} (h:dc P op=.e):∀cs b,op≠.select cs b:=by
 intro cs b e; subst e; simp [dc] at h
theorem Em {P:Program} {F:Fence} (hF:Wd F) {m n:Nat} {ops:Array Oper} {i:Nat} {o:Oper} {env:Env} {v:Value} {h:Hp} (ho:ops[i]?=some o) (hs:∀cs b,o.op≠.select cs b) (hd:∀c,o.op≠.defer c)
  (hw:∀a,tE n env (o.looksAt ops) a→Region.wanted o (yielded ops a.tmps)=true)
  (hr:∀(ρ:Operand→Value) (w:World),w.heap=h→ky n env ρ→(execOp ρ o).run P w=.ok (.value v) w):tl P F m n ops i o env v h:=by
 intro a w Q next hh ha hn
 unfold wpOpIn
 simp only [ho]
 rw [hw a ha,if_pos rfl]
 refine ⟨fun f _=>hF.any f,?_⟩
 rw [Oper.semAt_eq _ _ _ hd,HJ hs ha,hr _ w hh FJ,Oper.uponIn_value]
 exact hn
theorem IT {P:Program} {F:Fence} (hF:Wd F) {m n:Nat} {ops:Array Oper} {i:Nat} {o:Oper} {env:Env} {h:Hp} (ho:ops[i]?=some o)
  (hw:∀a,tE n env (o.looksAt ops) a→Region.wanted o (yielded ops a.tmps)=false):tl P F m n ops i o env undef h:=by
 intro a w Q next hh ha hn
 unfold wpOpIn
 simp only [ho]
 rw [hw a ha]
 exact ⟨fun f _=>hF.any f,hn⟩
def H7 (listed:Array Bool) (j:Nat):Bool:=listed.getD j false
structure Zf (P:Program) (F:Fence) (m n:Nat) (ops:Array Oper) (pre:Array Nat) (pl:List Nat) (env:Env) (D:Nat→Bool) (a:Act) (h:Hp) (pend:List Pd) (i:Nat) (o:Oper) (env':Env) (pl':List Nat) (v:Value):Prop where
 at_:ops[i]?=some o
 sub:∀j∈pl',j∈pl
 run:tl P F m n ops i o env' v h
 uB:(∀h',tl P F m n ops i o env' v h')∨(∃p∈pend,p.i=i∧∀h',HE P n p.env p.op h'=some p.v→tl P F m n ops i o env' v h')
 val:∀d,o.dst=some d→lk env d=some v
 fr:∀t u,t∈o.looksAt ops→t<n→lk env' t=some u→(∀j∈pl',oD ops j=some t→D j=true)→a.tmps.getD t undef=u
 h1:∀j∈pl',Tp ops j o=true→rel pre i j=true
 h2:∀j,j<ops.size→j≠i→j∉pl'→Tp ops j o=true→rel pre j i=true
 YU:∀j∈pl',∀t u,lk env' t=some u→oD ops j=some t→lk env t=some u
structure St (P:Program) (F:Fence) (m n:Nat) (ops:Array Oper) (pre:Array Nat) (pl:List Nat) (env:Env) (D:Nat→Bool) (a:Act) (h:Hp) (pend:List Pd) (T:List Nat) (b:Nat→Option Value):Prop where
 tr:∀t∈T,lk env t=b t
 sz:a.tmps.size=n
 df:∀v,lk env n=some v→∃ds:List Value,v=.tuple ⟨ds⟩ ∧a.defers=ds.map dec
 fr:∀t v,t<n→lk env t=some v→(∀j∈pl,oD ops j=some t→D j=true)→a.tmps.getD t undef=v
 sub:∀j,j<ops.size→D j=true→j∈pl
 Y2:∀i,D i=true→∀j,j<ops.size→rel pre i j=true→D j=true
 lt:∀j∈pl,j<ops.size
 pd:∀i∈pl,D i=false→∃o env' pl' v,Zf P F m n ops pre pl env D a h pend i o env' pl' v
def Ab (P:Program) (n:Nat) (ops:Array Oper) (pre:Array Nat) (pend:List Pd) (env:Env) (h:Hp) (k:Env→Hp→Prop):OT→Prop
 | .nil=>False
 | .qX a b=>Ab P n ops pre pend env h k a∧Ab P n ops pre pend env h k b
 | .cons e r=>∃o kb,ops[e]?=some o∧dc P o.op=.e∧we n kb env∧(∀a,tE n env (o.looksAt ops) a→Region.wanted o (yielded ops a.tmps)=true)∧
  V2 P n env o.op h fun v h'=>F3 P n (pre.getD e 0) h' (Dv P n ops pre r (D0 (pre.getD e 0) pend) (put env o.dst v) (VY kb o.dst) h' k) pend
def HI (P:Program) (n:Nat) (ops:Array Oper) (pre:Array Nat) (rest:OT) (pend:List Pd) (env:Env) (h:Hp) (k:Env→Hp→Prop):Prop:=
 (rest=.nil∧k env h)∨Ab P n ops pre pend env h k rest
theorem CN {ops:Array Oper} {i:Nat} {o:Oper} (h:ops[i]?=some o):i<ops.size:=(Array.getElem?_eq_some_iff.1 h).1
theorem A6 {ops:Array Oper} {i:Nat} {o:Oper} (h:ops[i]?=some o):oD ops i=o.dst:=by simp [oD,h]
theorem G6 {ops:Array Oper} {j t:Nat} {o:Oper} (h:oD ops j=some t) (ht:t∈o.looksAt ops):Tp ops j o=true:=by
 unfold Tp; rw [h]; simpa using ht
theorem Aj {P:Program} {n:Nat} {mask:Nat} {h:Hp} {q:Prop}:∀{pend:List Pd},F3 P n mask h q pend→q∧∀p∈pend,mask.testBit p.i=false→HE P n p.env p.op h=some p.v
 | [],hs=>⟨hs,fun p hp=>by cases hp⟩
 | p::r,hs=>by
  unfold F3 at hs
  split at hs
  ·rename_i hb
   obtain ⟨h1,h2⟩ :=Aj (pend:=r) hs
   refine ⟨h1,fun x hx hxb=>?_⟩
   rcases List.mem_cons.1 hx with rfl | hx
   ·rw [hb] at hxb; cases hxb
   ·exact h2 x hx hxb
  ·rename_i hb
   obtain ⟨h1,h2⟩ :=Aj (pend:=r) hs.2
   refine ⟨h1,fun x hx hxb=>?_⟩
   rcases List.mem_cons.1 hx with rfl | hx
   ·exact hs.1
   ·exact h2 x hx hxb
theorem Cr {mask:Nat}:∀{pend:List Pd} {p:Pd},p∈pend→mask.testBit p.i=false→p∈D0 mask pend
 | [],p,hp,_=>by cases hp
 | x::r,p,hp,hb=>by
  unfold D0
  rcases List.mem_cons.1 hp with rfl | hp
  ·rw [hb]; exact List.mem_cons_self ..
  ·split
   ·exact Cr hp hb
   ·exact List.mem_cons_of_mem _ (Cr hp hb)
section
variable {P:Program} {F:Fence} (hF:Wd F) {m n:Nat} {ops:Array Oper} {pre:Array Nat}
variable {T:List Nat} {b:Nat→Option Value} (hT:∀o∈ops.toList,∀d,o.dst=some d→d∉T)
variable (hn:zd n ops.toList=true) (hdist:∀i j d,i<ops.size→j<ops.size→oD ops i=some d→oD ops j=some d→i=j)
include hF hT hn hdist
theorem St.more {hs pl:List Nat} {i:Nat} {env:Env} {D:Nat→Bool} {a:Act} {h:Hp} {pend pend':List Pd} {o:Oper} {v:Value} (ng:XT P ops pre hs pl i o) (hs:St P F m n ops pre pl env D a h pend T b)
  (hp:∀p∈pend,p∈pend') (hrun:tl P F m n ops i o env v h) (hkeep:(∀h',tl P F m n ops i o env v h')∨(∃p∈pend',p.i=i∧∀h',HE P n p.env p.op h'=some p.v→tl P F m n ops i o env v h')) :
  St P F m n ops pre (i::pl) (put env o.dst v) D a h pend' T b:=by
 have _:=hF
 have hi:=CN ng.at_
 have hdi:=A6 ng.at_
 have hDi:D i=false:=by
  cases hD:D i with
  | false=>rfl
  | true=>exact absurd (hs.sub i hi hD) ng.FX
 have hoth:∀j∈pl,∀t,oD ops j=some t→o.dst≠some t:=by
  intro j hj t hjt e
  rw [←hdi] at e
  have:=hdist j i t (hs.lt j hj) hi hjt e
  subst this
  exact ng.FX hj
 have hlk:∀t,o.dst≠some t→lk (put env o.dst v) t=lk env t:=by
  intro t ht
  cases hd:o.dst with
  | none=>rfl
  | some d=>
   simp only [put]
   rw [jA,if_neg (fun e=>ht (by rw [hd,e]))]
 have hnn:o.dst≠some n:=fun e=>by
  exact Nat.lt_irrefl n (pD hn o (by rw [Array.mem_toList_iff]; exact Array.mem_of_getElem? ng.at_) n e)
 refine ⟨?_,hs.sz,?_,?_,?_,hs.Y2,?_,?_⟩
 ·intro t ht
  rw [hlk t (fun e=>hT o (by rw [Array.mem_toList_iff]; exact Array.mem_of_getElem? ng.at_) t e ht)]
  exact hs.tr t ht
 ·intro u hu
  rw [hlk n hnn] at hu
  exact hs.df u hu
 ·intro t u ht hu hj
  by_cases e:o.dst=some t
  ·have:=hj i (List.mem_cons_self ..) (by rw [hdi]; exact e)
   rw [hDi] at this; cases this
  ·rw [hlk t e] at hu
   exact hs.fr t u ht hu fun j hjj=>hj j (List.mem_cons_of_mem _ hjj)
 ·exact fun j hj hD=>List.mem_cons_of_mem _ (hs.sub j hj hD)
 ·intro j hj
  rcases List.mem_cons.1 hj with rfl | hj
  ·exact hi
  ·exact hs.lt j hj
 ·intro x hx hDx
  rcases List.mem_cons.1 hx with rfl | hx
  ·refine ⟨o,env,pl,v,ng.at_,fun j hj=>List.mem_cons_of_mem _ hj,hrun,hkeep,?_,?_,ng.Wc,?_,?_⟩
   ·intro d hd; rw [hd]; simp only [put]; rw [jA,if_pos rfl]
   ·intro t u ht htn hu hj
    exact hs.fr t u htn hu hj
   ·exact fun j hj hne hnp hh=>ng.Xr j hj hne hnp hh
   ·intro j hj t u hu hjt
    rw [hlk t (hoth j hj t hjt)]; exact hu
  ·obtain ⟨o',env',pl',v',hp'⟩ :=hs.pd x hx hDx
   refine ⟨o',env',pl',v',hp'.at_,fun j hj=>List.mem_cons_of_mem _ (hp'.sub j hj),hp'.run,?_,?_,hp'.fr,hp'.h1,hp'.h2,?_⟩
   ·rcases hp'.uB with hk | ⟨p,hpm,hpi,hpv⟩
    ·exact .inl hk
    ·exact .inr ⟨p,hp p hpm,hpi,hpv⟩
   ·intro d hd
    rw [hlk d (hoth x hx d (by rw [A6 hp'.at_]; exact hd))]
    exact hp'.val d hd
   ·intro j hj t u hu hjt
    rw [hlk t (hoth j (hp'.sub j hj) t hjt)]
    exact hp'.YU j hj t u hu hjt
theorem advance {k:Env→Hp→Prop} {D:Nat→Bool} {a:Act} {h:Hp}:∀(rest:OT) (hs0 pl:List Nat) (pend:List Pd) (env:Env) (kb:KB),uF P ops pre rest hs0 pl=true→we n kb env→St P F m n ops pre pl env D a h pend T b→
  Dv P n ops pre rest pend env kb h k→
  (uF P ops pre rest hs0 pl=true∧St P F m n ops pre pl env D a h pend T b∧HI P n ops pre rest pend env h k)∨
  ∃pl' rest' pend' env',uF P ops pre rest' (uz rest') pl'=true∧St P F m n ops pre pl' env' D a h pend' T b∧HI P n ops pre rest' pend' env' h k
 | .nil,hs0,pl,pend,env,kb,ng,_,hs,hd=>.inl ⟨ng,hs,.inl ⟨rfl,hd⟩⟩
 | .qX x y,hs0,pl,pend,env,kb,ng,hK,hs,hd=>by
  obtain ⟨hE,hx,hy⟩ :=EI ng
  rcases advance x hs0 pl pend env kb hx hK hs hd.1 with ⟨_,_,h1⟩ | h1
  ·rcases advance y hs0 pl pend env kb hy hK hs hd.2 with ⟨_,_,h2⟩ | h2
   ·rcases h1 with ⟨rfl,h1⟩ | h1
    ·exact .inr ⟨pl,.nil,pend,env,hx,hs,.inl ⟨rfl,h1⟩⟩
    ·rcases h2 with ⟨rfl,h2⟩ | h2
     ·exact .inr ⟨pl,.nil,pend,env,hy,hs,.inl ⟨rfl,h2⟩⟩
     ·exact .inl ⟨ng,hs,.inr ⟨h1,h2⟩⟩
   ·exact .inr h2
  ·exact .inr h1
 | .cons i r,hs0,pl,pend,env,kb,ng,hK,hs,hd=>by
  obtain ⟨⟨o,ho⟩,hok'⟩ :=BS ng
  have fin:∀{pend':List Pd} {env':Env} {kb':KB},we n kb' env'→St P F m n ops pre (i::pl) env' D a h pend' T b→Dv P n ops pre r pend' env' kb' h k→
    ∃pl' rest' pend' env',uF P ops pre rest' (uz rest') pl'=true∧St P F m n ops pre pl' env' D a h pend' T b∧HI P n ops pre rest' pend' env' h k:=fun hK' hs' hd'=>by
   rcases advance r (uz r) (i::pl) _ _ _ hok' hK' hs' hd' with ⟨h1,h2,h3⟩ | h1
   ·exact ⟨_,_,_,_,h1,h2,h3⟩
   ·exact h1
  unfold Dv at hd
  simp only [ho.at_] at hd
  obtain ⟨kb',hK',hcase,hw⟩ :=Q6 hn hK hd
  rcases hcase with ⟨hyes,hd⟩ | ⟨hno,hd⟩
  ·have hw':=fun a ha=>(hw a ha).trans hyes
   split at hd
   ·rename_i hp
    obtain ⟨v,hr,hd⟩ :=LN hK' hp hd
    have hc:∀h',tl P F m n ops i o env v h':=fun h'=>Em hF ho.at_ (Zn hp) (by intro c e; rw [e] at hp; simp [dc] at hp) hw' fun ρ w _ hρ=>hr ρ w hρ
    exact .inr (fin (hK'.put _ _) (hs.more hF hT hn hdist ho (fun p hp=>hp) (hc h) (.inl hc)) hd)
   ·rename_i hp
    obtain ⟨v,hv,hd⟩ :=hd
    have hc:∀h',HE P n env o.op h'=some v→tl P F m n ops i o env v h':=fun h' hv'=>Em hF ho.at_ (aan hp) (by intro c e; rw [e] at hp; simp [dc] at hp) hw' fun ρ w hh hρ=>GR hρ (by rw [hh]; exact hv')
    exact .inr (fin (hK'.put _ _)
     (hs.more hF hT hn hdist ho (fun p hp=>List.mem_cons_of_mem _ hp) (hc h hv) (.inr ⟨{i,env,op:=o.op,v},List.mem_cons_self ..,rfl,hc⟩)) hd)
   ·rename_i hp
    exact .inl ⟨ng,hs,.inr ⟨o,kb',ho.at_,hp,hK',hw',hd⟩⟩
   ·contradiction
  ·have hw':=fun a ha=>(hw a ha).trans hno
   have hc:∀h',tl P F m n ops i o env undef h':=fun h'=>IT hF ho.at_ hw'
   refine .inr (fin ?_ (hs.more hF hT hn hdist ho (fun p hp=>hp) (hc h) (.inl hc)) hd)
   cases hdst:o.dst with
   | none=>simpa [put,Zb] using hK'
   | some d=>
    simp only [Zb,put]
    intro t q hq
    rw [ud] at hq
    by_cases e:d=t
    ·subst e
     rw [if_pos rfl] at hq
     simp only [Option.some.injEq] at hq
     subst hq
     exact ⟨pD hn o (by rw [Array.mem_toList_iff]; exact Array.mem_of_getElem? ho.at_) d hdst,undef,by rw [jA,if_pos rfl],rfl⟩
    ·rw [if_neg e] at hq
     obtain ⟨h1,v,h2,h3⟩ :=hK' t q hq
     exact ⟨h1,v,by rw [jA,if_neg e]; exact h2,h3⟩
end
end Go.En
namespace Go.En
theorem wL {P:Program} {n:Nat} {ops:Array Oper} {pre:Array Nat} {pend:List Pd} {env:Env} {h:Hp} {k:Env→Hp→Prop} {hs pl:List Nat}:∀{t:OT},uF P ops pre t hs pl=true→Ab P n ops pre pend env h k t→∀i∈uz t,
  ∃r,uF P ops pre (.cons i r) hs pl=true∧Ab P n ops pre pend env h k (.cons i r)
 | .nil,_,ha,i,hi=>by cases hi
 | .cons e r,ng,ha,i,hi=>by
  simp only [uz,List.mem_singleton] at hi
  subst hi
  exact ⟨r,ng,ha⟩
 | .qX x y,ng,ha,i,hi=>by
  obtain ⟨_,hx,hy⟩ :=EI ng
  rcases List.mem_append.1 hi with h1 | h1
  ·exact wL hx ha.1 i h1
  ·exact wL hy ha.2 i h1
theorem Ay {P:Program} {n:Nat} {ops:Array Oper} {pre:Array Nat} {pend:List Pd} {env:Env} {h:Hp} {k:Env→Hp→Prop} {hs pl:List Nat}:∀{t:OT},uF P ops pre t hs pl=true→Ab P n ops pre pend env h k t→
  ∃e r,uF P ops pre (.cons e r) hs pl=true∧Ab P n ops pre pend env h k (.cons e r)
 | .nil,_,ha=>ha.elim
 | .cons e r,ng,ha=>⟨e,r,ng,ha⟩
 | .qX x y,ng,ha=>Ay (EI ng).2.1 ha.1
def Vs (ops:Array Oper) (listed:Array Bool):Nat:=((List.range ops.size).filter fun i=>!listed.getD i true).length
theorem Lg {ops:Array Oper} {listed:Array Bool} (hsz:listed.size=ops.size) {i:Nat} (hi:i<ops.size) (hl:listed.getD i true=false):Vs ops listed=Vs ops (listed.setIfInBounds i true)+1:=by
 unfold Vs
 have hg:∀j,(listed.setIfInBounds i true).getD j true=if i=j then true else listed.getD j true:=by
  intro j
  simp only [Array.getD_eq_getD_getElem?,Array.getElem?_setIfInBounds]
  by_cases e:i=j
  ·subst e; simp [hsz,hi]
  ·simp [e]
 simp only [hg]
 have key:∀(l:List Nat),l.Nodup→i∈l→(l.filter fun j=>!listed.getD j true).length=(l.filter fun j=>!(if i=j then true else listed.getD j true)).length+1:=by
  intro l
  induction l with
  | nil=>intro _ h; cases h
  | cons x l ih=>
   intro hnd hm
   rw [List.nodup_cons] at hnd
   rcases List.mem_cons.1 hm with rfl | hm
   ·rw [List.filter_cons_of_pos (by simp [hl]),List.filter_cons_of_neg (by simp)]
    simp only [List.length_cons]
    congr 2
    apply List.filter_congr
    intro y hy
    have:i≠y:=fun e=>hnd.1 (e▸hy)
    simp [this]
   ·have hne:i≠x:=fun e=>hnd.1 (e▸hm)
    have:=ih hnd.2 hm
    by_cases hx:listed.getD x true=true
    ·rw [List.filter_cons_of_neg (by simp [hx]),List.filter_cons_of_neg (by simp [hne,hx])]
     exact this
    ·have hx':listed.getD x true=false:=by simpa using hx
     rw [List.filter_cons_of_pos (by simp [hx']),List.filter_cons_of_pos (by simp [hne,hx'])]
     simp only [List.length_cons,this]
 exact key _ List.nodup_range (List.mem_range.2 hi)
theorem Bb {listed:Array Bool} {ops:Array Oper} (hsz:listed.size=ops.size) {i:Nat} (hi:i<ops.size):listed.getD i true=H7 listed i:=by
 unfold H7
 simp [Array.getD_eq_getD_getElem?,hsz,hi]
theorem RF {listed:Array Bool} {ops:Array Oper} (hsz:listed.size=ops.size) {i:Nat} (hi:i<ops.size) (j:Nat):H7 (listed.setIfInBounds i true) j=if i=j then true else H7 listed j:=by
 unfold H7
 simp only [Array.getD_eq_getD_getElem?,Array.getElem?_setIfInBounds]
 by_cases e:i=j
 ·subst e; simp [hsz,hi]
 ·simp [e]
section
variable {P:Program} {F:Fence} (hF:Wd F) {m n:Nat} {ops:Array Oper} {pre:Array Nat}
variable {T:List Nat} {b:Nat→Option Value} (hT:∀o∈ops.toList,∀d,o.dst=some d→d∉T)
variable (hn:zd n ops.toList=true) (hdist:∀i j d,i<ops.size→j<ops.size→oD ops i=some d→oD ops j=some d→i=j)
variable (rk:Nat→Nat) (hrk:∀i o,ops[i]?=some o→∀e∈o.after,Region.binds .any e=true→rk e.on<rk i∧e.on<ops.size)
variable (hclos:∀i o,ops[i]?=some o→∀j,j<ops.size→rel pre i j=true→∃e∈o.after,Region.binds .any e=true∧(e.on=j∨rel pre e.on j=true))
theorem CC {listed:Array Bool} (hsz:listed.size=ops.size) {i:Nat}:i∈Region.ready .any ops listed↔i<ops.size∧H7 listed i=false∧∃o,ops[i]?=some o∧∀e∈o.after,Region.binds .any e=true→H7 listed e.on=true:=by
 unfold Region.ready
 simp only [List.mem_filter,List.mem_range,Bool.and_eq_true,Bool.not_eq_true']
 constructor
 ·rintro ⟨hi,h1,h2⟩
  refine ⟨hi,by rw [←Bb hsz hi]; exact h1,ops[i],Array.getElem?_eq_getElem hi,?_⟩
  rw [Array.getElem?_eq_getElem hi] at h2
  simp only [Option.map_some,Option.getD_some,Array.all_eq_true_iff_forall_mem,Bool.or_eq_true,Bool.not_eq_true'] at h2
  intro e he hb
  rcases h2 e he with h3 | h3
  ·rw [hb] at h3; cases h3
  ·exact h3
 ·rintro ⟨hi,h1,o,ho,h2⟩
  refine ⟨hi,by rw [Bb hsz hi]; exact h1,?_⟩
  rw [ho]
  simp only [Option.map_some,Option.getD_some,Array.all_eq_true_iff_forall_mem,Bool.or_eq_true,Bool.not_eq_true']
  intro e he
  cases hb:Region.binds .any e with
  | false=>exact .inl rfl
  | true=>exact .inr (h2 e he hb)
include hrk in
theorem Mw {listed:Array Bool} (hsz:listed.size=ops.size) (h:Region.ready .any ops listed=[]):∀i,i<ops.size→H7 listed i=true:=by
 have key:∀r i,rk i=r→i<ops.size→H7 listed i=true:=by
  intro r
  induction r using Nat.strongRecOn with
  | _ r ih=>
   intro i hr hi
   cases hl:H7 listed i with
   | true=>rfl
   | false=>
    have:i∈Region.ready .any ops listed:=(CC hsz).2 ⟨hi,hl,ops[i],Array.getElem?_eq_getElem hi,fun e he hb=>by
     obtain ⟨h1,h2⟩ :=hrk i ops[i] (Array.getElem?_eq_getElem hi) e he hb
     exact ih (rk e.on) (by omega) e.on rfl h2⟩
    rw [h] at this
    cases this
 exact fun i hi=>key _ i rfl hi
include hF hT hn hdist hrk hclos in
theorem FC {Q:Exit→Act→World→Prop} {w0:World} {k:Env→Hp→Prop} (hQ:∀env a w,Ca n env a→sj w0 w→(∀t∈T,lk env t=b t)→k env w.heap→Q .normal a w) :
  ∀(fuel:Nat) (listed:Array Bool) (a:Act) (w:World) (pl:List Nat) (rest:OT) (pend:List Pd) (env:Env),listed.size=ops.size→Vs ops listed=fuel→uF P ops pre rest (uz rest) pl=true→
   St P F m n ops pre pl env (H7 listed) a w.heap pend T b→HI P n ops pre rest pend env w.heap k→sj w0 w→wpAnyIn F m P .any ops Q fuel listed a w:=by
 have tM:∀(listed:Array Bool) (a:Act) (w:World) (pl:List Nat) (rest:OT) (pend:List Pd) (env:Env),listed.size=ops.size→uF P ops pre rest (uz rest) pl=true→
   St P F m n ops pre pl env (H7 listed) a w.heap pend T b→HI P n ops pre rest pend env w.heap k→sj w0 w→Region.ready .any ops listed=[]→Q .normal a w:=by
  intro listed a w pl rest pend env hsz ng hs ha hR hnil
  have hall:=Mw rk hrk hsz hnil
  rcases ha with ⟨rfl,hk⟩ | ha
  ·refine hQ env a w ⟨hs.sz,fun t v ht hv=>hs.fr t v ht hv fun j hj _=>hall j (hs.lt j hj),hs.df⟩ hR hs.tr hk
  ·obtain ⟨e,r,ng,_⟩ :=Ay ng ha
   obtain ⟨⟨o',ho'⟩,_⟩ :=BS ng
   exact absurd (hs.sub e (CN ho'.at_) (hall e (CN ho'.at_))) ho'.FX
 intro fuel
 induction fuel with
 | zero=>
  intro listed a w pl rest pend env hsz hu ng hs ha hR
  have hnil:Region.ready .any ops listed=[]:=by
   cases hr:Region.ready .any ops listed with
   | nil=>rfl
   | cons i l=>
    have hi:i∈Region.ready .any ops listed:=by rw [hr]; exact List.mem_cons_self ..
    obtain ⟨h1,h2,_⟩ :=(CC hsz).1 hi
    have:=Lg hsz h1 (by rw [Bb hsz h1]; exact h2)
    omega
  exact ⟨hnil,tM listed a w pl rest pend env hsz ng hs ha hR hnil⟩
 | succ fuel ih=>
  intro listed a w pl rest pend env hsz hu ng hs ha hR
  refine ⟨tM listed a w pl rest pend env hsz ng hs ha hR,fun i hi=>?_⟩
  obtain ⟨hilt,hil,o,ho,hpreds⟩ :=(CC hsz).1 hi
  have hpre:∀j,j<ops.size→rel pre i j=true→H7 listed j=true:=by
   intro j hj hr
   obtain ⟨e,he,hb,hc⟩ :=hclos i o ho j hj hr
   rcases hc with rfl | hc
   ·exact hpreds e he hb
   ·exact hs.Y2 e.on (hpreds e he hb) j hj hc
  have hu':Vs ops (listed.setIfInBounds i true)=fuel:=by
   have:=Lg hsz hilt (by rw [Bb hsz hilt]; exact hil)
   omega
  have hsz':(listed.setIfInBounds i true).size=ops.size:=by simp [hsz]
  have hD':=fun j=>RF hsz hilt j
  have hdi:=A6 ho
  by_cases hip:i∈pl
  ·
   obtain ⟨o',env',pl',v,hp⟩ :=hs.pd i hip hil
   have:o'=o:=by have:=hp.at_; rw [ho] at this; exact (Option.some.inj this).symm
   subst this
   have hdlt:∀d,o'.dst=some d→d<n:=fun d hd=>pD hn o' (by rw [Array.mem_toList_iff]; exact Array.mem_of_getElem? ho) d hd
   refine hp.run a w Q _ rfl ⟨hs.sz,fun t u ht htn hu=>hp.fr t u ht htn hu fun j hj hjt=>hpre j (hs.lt j (hp.sub j hj)) (hp.h1 j hj (G6 hjt ht))⟩ ?_
   refine ih _ _ w pl rest pend env hsz' hu' ng ⟨hs.tr,?_,?_,?_,?_,?_,hs.lt,?_⟩ ha hR
   ·cases hd:o'.dst <;> simp [Act.put,hs.sz]
   ·intro u hu
    obtain ⟨ds,h1,h2⟩ :=hs.df u hu
    exact ⟨ds,h1,by cases hd:o'.dst <;> simpa [Act.put] using h2⟩
   ·intro t u htn hu hj
    by_cases e:o'.dst=some t
    ·have:=hp.val t e
     rw [this] at hu
     simp only [Option.some.injEq] at hu
     subst hu
     rw [e,uc (by rw [hs.sz]; exact htn),if_pos rfl]
    ·have hsame:(a.put o'.dst v).tmps.getD t undef=a.tmps.getD t undef:=by
      cases hd:o'.dst with
      | none=>rfl
      | some d=>rw [uc (by rw [hs.sz]; exact hdlt d hd),if_neg (fun h=>e (by rw [hd,h]))]
     rw [hsame]
     refine hs.fr t u htn hu fun j hjp hjt=>?_
     have:=hj j hjp hjt
     rw [hD'] at this
     split at this
     ·rename_i hij; subst hij; exact absurd (hdi▸hjt) e
     ·exact this
   ·intro j hj hDj
    rw [hD'] at hDj
    split at hDj
    ·rename_i e; subst e; exact hip
    ·exact hs.sub j hj hDj
   ·intro x hx j hj hr
    rw [hD'] at hx⊢
    split
    ·rfl
    ·split at hx
     ·rename_i e; subst e; exact hpre j hj hr
     ·exact hs.Y2 x hx j hj hr
   ·intro x hx hDx
    rw [hD'] at hDx
    split at hDx
    ·cases hDx
    ·rename_i hix
     obtain ⟨ox,envx,plx,vx,hpx⟩ :=hs.pd x hx hDx
     refine ⟨ox,envx,plx,vx,hpx.at_,hpx.sub,hpx.run,hpx.uB,hpx.val,?_,hpx.h1,hpx.h2,hpx.YU⟩
     intro t u ht htn hu hj
     by_cases e:o'.dst=some t
     ·have hdt:oD ops i=some t:=by rw [hdi]; exact e
      by_cases hin:i∈plx
      ·have h1:=hpx.YU i hin t u hu hdt
       have h2:=hp.val t e
       rw [h2] at h1
       simp only [Option.some.injEq] at h1
       subst h1
       rw [e,uc (by rw [hs.sz]; exact htn),if_pos rfl]
      ·have:=hpre x (hs.lt x hx) (hpx.h2 i hilt hix hin (G6 hdt ht))
       rw [hDx] at this; cases this
     ·have hsame:(a.put o'.dst v).tmps.getD t undef=a.tmps.getD t undef:=by
       cases hd:o'.dst with
       | none=>rfl
       | some d=>rw [uc (by rw [hs.sz]; exact hdlt d hd),if_neg (fun h=>e (by rw [hd,h]))]
      rw [hsame]
      refine hpx.fr t u ht htn hu fun j hjp hjt=>?_
      have:=hj j hjp hjt
      rw [hD'] at this
      split at this
      ·rename_i hij; subst hij; exact absurd (hdi▸hjt) e
      ·exact this
  ·
   rcases ha with ⟨rfl,_⟩ | ha
   ·unfold uF at ng
    simp only [List.all_eq_true,List.mem_range,List.contains_eq_mem,decide_eq_true_eq] at ng
    exact absurd (ng i hilt) hip
   ·by_cases hih:i∈uz rest
    ·obtain ⟨r,ng,ha⟩ :=wL ng ha i hih
     obtain ⟨oe,kb,hoe,hdc,hK,hw,hE⟩ :=ha
     obtain ⟨⟨oe',hoke⟩,hok'⟩ :=BS ng
     have:oe'=oe:=by have:=hoke.at_; rw [hoe] at this; exact (Option.some.inj this).symm
     subst this
     have:oe'=o:=by have:=hoe; rw [ho] at this; exact (Option.some.inj this).symm
     subst this
     have hdlt:∀d,oe'.dst=some d→d<n:=fun d hd=>pD hn oe' (by rw [Array.mem_toList_iff]; exact Array.mem_of_getElem? ho) d hd
     have hagree:tE n env (oe'.looksAt ops) a:=⟨hs.sz,fun t u ht htn hu=>hs.fr t u htn hu fun j hj hjt=>hpre j (hs.lt j hj) (hoke.Wc j hj (G6 hjt ht))⟩
     have hcong:=HJ (Y8 hdc) hagree
     unfold wpOpIn
     simp only [ho]
     rw [hw a hagree,if_pos rfl]
     refine Lt hF (ρ:=X8 n env a) FJ hcong hE _ Q fun v w' hs' hk=>?_
     obtain ⟨hrest,hst⟩ :=Aj hk
     have hoth:∀j∈pl,∀t,oD ops j=some t→oe'.dst≠some t:=by
      intro j hj t hjt e
      rw [←hdi] at e
      have:=hdist j i t (hs.lt j hj) hilt hjt e
      subst this
      exact hoke.FX hj
     have hlk:∀t,oe'.dst≠some t→lk (put env oe'.dst v) t=lk env t:=by
      intro t ht
      cases hd:oe'.dst with
      | none=>rfl
      | some d=>simp only [put]; rw [jA,if_neg (fun e=>ht (by rw [hd,e]))]
     have hnn:oe'.dst≠some n:=fun e=>Nat.lt_irrefl n (hdlt n e)
     have hsame:∀t,oe'.dst≠some t→(a.put oe'.dst v).tmps.getD t undef=a.tmps.getD t undef:=by
      intro t e
      cases hd:oe'.dst with
      | none=>rfl
      | some d=>rw [uc (by rw [hs.sz]; exact hdlt d hd),if_neg (fun h=>e (by rw [hd,h]))]
     have hs2:St P F m n ops pre (i::pl) (put env oe'.dst v) (H7 (listed.setIfInBounds i true)) (a.put oe'.dst v) w'.heap (D0 (pre.getD i 0) pend) T b:=by
      refine ⟨fun t ht=>by rw [hlk t (fun e=>hT oe' (by rw [Array.mem_toList_iff]; exact Array.mem_of_getElem? ho) t e ht)]; exact hs.tr t ht,?_,?_,?_,?_,?_,?_,?_⟩
      ·cases hd:oe'.dst <;> simp [Act.put,hs.sz]
      ·intro u hu
       rw [hlk n hnn] at hu
       obtain ⟨ds,h1,h2⟩ :=hs.df u hu
       exact ⟨ds,h1,by cases hd:oe'.dst <;> simpa [Act.put] using h2⟩
      ·intro t u htn hu hj
       by_cases e:oe'.dst=some t
       ·rw [e] at hu⊢
        simp only [put] at hu
        rw [jA,if_pos rfl] at hu
        simp only [Option.some.injEq] at hu
        subst hu
        rw [uc (by rw [hs.sz]; exact htn),if_pos rfl]
       ·rw [hlk t e] at hu
        rw [hsame t e]
        refine hs.fr t u htn hu fun j hjp hjt=>?_
        have:=hj j (List.mem_cons_of_mem _ hjp) hjt
        rw [hD'] at this
        split at this
        ·rename_i hij; subst hij; exact absurd (hdi▸hjt) e
        ·exact this
      ·intro j hj hDj
       rw [hD'] at hDj
       split at hDj
       ·rename_i e; subst e; exact List.mem_cons_self ..
       ·exact List.mem_cons_of_mem _ (hs.sub j hj hDj)
      ·intro x hx j hj hr
       rw [hD'] at hx⊢
       split
       ·rfl
       ·split at hx
        ·rename_i e; subst e; exact hpre j hj hr
        ·exact hs.Y2 x hx j hj hr
      ·intro j hj
       rcases List.mem_cons.1 hj with rfl | hj
       ·exact hilt
       ·exact hs.lt j hj
      ·intro x hx hDx
       rw [hD'] at hDx
       split at hDx
       ·cases hDx
       ·rename_i hix
        rcases List.mem_cons.1 hx with h1 | hx
        ·exact absurd h1.symm hix
        ·obtain ⟨ox,envx,plx,vx,hpx⟩ :=hs.pd x hx hDx
         have hnrel:rel pre i x=false:=by
          cases hr:rel pre i x with
          | false=>rfl
          | true=>have:=hpre x (hs.lt x hx) hr; rw [hDx] at this; cases this
         have hrun:tl P F m n ops x ox envx vx w'.heap:=by
          rcases hpx.uB with hk' | ⟨p,hpm,hpi,hpv⟩
          ·exact hk' _
          ·exact hpv _ (hst p hpm (by rw [hpi]; exact hnrel))
         refine ⟨ox,envx,plx,vx,hpx.at_,fun j hj=>List.mem_cons_of_mem _ (hpx.sub j hj),hrun,?_,?_,?_,hpx.h1,hpx.h2,?_⟩
         ·rcases hpx.uB with hk' | ⟨p,hpm,hpi,hpv⟩
          ·exact .inl hk'
          ·exact .inr ⟨p,Cr hpm (by rw [hpi]; exact hnrel),hpi,hpv⟩
         ·intro d hd
          rw [hlk d (hoth x hx d (by rw [A6 hpx.at_]; exact hd))]
          exact hpx.val d hd
         ·intro t u ht htn hu hj
          by_cases e:oe'.dst=some t
          ·have hdt:oD ops i=some t:=by rw [hdi]; exact e
           have hnin:i∉plx:=fun h=>hoke.FX (hpx.sub i h)
           have:=hpre x (hs.lt x hx) (hpx.h2 i hilt hix hnin (G6 hdt ht))
           rw [hDx] at this; cases this
          ·rw [hsame t e]
           refine hpx.fr t u ht htn hu fun j hjp hjt=>?_
           have:=hj j hjp hjt
           rw [hD'] at this
           split at this
           ·rename_i hij; subst hij; exact absurd (hdi▸hjt) e
           ·exact this
         ·intro j hj t u hu hjt
          rw [hlk t (hoth j (hpx.sub j hj) t hjt)]
          exact hpx.YU j hj t u hu hjt
     rcases advance hF hT hn hdist r (uz r) (i::pl) _ _ _ hok' (hK.put _ _) hs2 hrest with ⟨zM,hst2,hah2⟩ | ⟨pl2,rest2,pend2,env2,zM,hst2,hah2⟩
     ·exact ih _ _ w' _ _ _ _ hsz' hu' zM hst2 hah2 (hR.trans hs')
     ·exact ih _ _ w' pl2 rest2 pend2 env2 hsz' hu' zM hst2 hah2 (hR.trans hs')
    ·
     obtain ⟨e0,r0,hok0,ha0⟩ :=Ay ng ha
     obtain ⟨⟨o0,ho0⟩,_⟩ :=BS hok0
     obtain ⟨o1,_,ho1,hdc1,_⟩ :=ha0
     have:o0=o1:=by have:=ho0.at_; rw [ho1] at this; exact (Option.some.inj this).symm
     subst this
     obtain ⟨e,heh,hrel⟩ :=ho0.wait hdc1 i hilt hip hih
     obtain ⟨r,hoke,hae⟩ :=wL ng ha e heh
     obtain ⟨⟨oe,hoe⟩,_⟩ :=BS hoke
     have:=hpre e (CN hoe.at_) hrel
     exact absurd (hs.sub e (CN hoe.at_) this) hoe.FX
end
theorem Jx {P:Program} {F:Fence} (hF:Wd F) {m n:Nat} {ops:Array Oper} {pre:Array Nat} {ord:OT} (hm:P.follows .mixedOrders=true) (ng:Zl P n ops pre ord=true) {Q:Exit→Act→World→Prop} {w0:World} {k:Env→Hp→Prop} {T:List Nat} {b:Nat→Option Value} (hT:∀o∈ops.toList,∀d,o.dst=some d→d∉T)
  (hQ:∀env a w,Ca n env a→sj w0 w→(∀t∈T,lk env t=b t)→k env w.heap→Q .normal a w) {env:Env} {a:Act} {w:World} {id:Nat} (hb:∀t∈T,lk env t=b t) (hA:Ca n env a) (hR:sj w0 w) (h:Dv P n ops pre ord [] env [] w.heap k) :
  (Code.region id ops true).wpIn F m P Q a w:=by
 unfold Zl at ng
 simp only [Bool.and_eq_true,List.all_eq_true,List.mem_range,Bool.or_eq_true,Bool.not_eq_true'] at ng
 obtain ⟨⟨⟨hn,hdst⟩,hgl⟩,hgo⟩ :=ng
 have hdist:∀i j d,i<ops.size→j<ops.size→oD ops i=some d→oD ops j=some d→i=j:=by
  intro i j d hi hj h1 h2
  rcases hdst i hi j hj with h3 | h3
  ·exact Nat.eq_of_beq_eq_true h3
  ·simp [KT,h1,h2] at h3
 have hat:∀i o,ops[i]?=some o→(∀e∈o.after,Region.binds .any e=true→(pathOf ord).idxOf e.on<(pathOf ord).idxOf i∧e.on<ops.size)∧∀j,j<ops.size→rel pre i j=true→∃e∈o.after,Region.binds .any e=true∧(e.on=j∨rel pre e.on j=true):=by
  intro i o ho
  have:=hgl i (CN ho)
  simp only [ho,Bool.and_eq_true,List.all_eq_true,Array.all_eq_true_iff_forall_mem,List.mem_range,Bool.or_eq_true,Bool.not_eq_true',Array.any_eq_true',Nat.blt_eq] at this
  refine ⟨fun e he hb=>?_,fun j hj hr=>?_⟩
  ·rcases this.1 e he with h2 | h2
   ·rw [hb] at h2; cases h2
   ·exact h2
  ·rcases this.2 j hj with h2 | h2
   ·rw [hr] at h2; cases h2
   ·obtain ⟨e,he,hb,hc⟩ :=h2
    exact ⟨e,he,hb,hc.imp Nat.eq_of_beq_eq_true (fun h=>h)⟩
 have hrk:∀i o,ops[i]?=some o→∀e∈o.after,Region.binds .any e=true→(pathOf ord).idxOf e.on<(pathOf ord).idxOf i∧e.on<ops.size:=fun i o ho=>(hat i o ho).1
 have hclos:∀i o,ops[i]?=some o→∀j,j<ops.size→rel pre i j=true→∃e∈o.after,Region.binds .any e=true∧(e.on=j∨rel pre e.on j=true):=fun i o ho=>(hat i o ho).2
 refine wpIn_region_any hm ?_
 have hl0:∀j,H7 (Array.replicate ops.size false) j=false:=by
  intro j
  unfold H7
  simp only [Array.getD_eq_getD_getElem?,Array.getElem?_replicate]
  split <;> rfl
 have hu:Vs ops (Array.replicate ops.size false)=ops.size:=by
  unfold Vs
  rw [List.filter_eq_self.2]
  ·simp
  ·intro j hj
   have:j<ops.size:=List.mem_range.1 hj
   simp [Array.getD_eq_getD_getElem?,this]
 have hs0:St P F m n ops pre [] env (H7 (Array.replicate ops.size false)) a w.heap [] T b:=
  ⟨hb,hA.sz,hA.df,fun t v ht hv _=>hA.sl t v ht hv,fun j _ hD=>(by rw [hl0] at hD; cases hD),fun i hD=>(by rw [hl0] at hD; cases hD),fun j hj=>(by cases hj),fun j hj=>(by cases hj)⟩
 rcases advance hF hT hn hdist ord (uz ord) [] [] env [] hgo (we.nil n env) hs0 h with ⟨zM,hst2,hah2⟩ | ⟨pl2,rest2,pend2,env2,zM,hst2,hah2⟩
 ·exact FC hF hT hn hdist ((pathOf ord).idxOf ·) hrk hclos hQ ops.size (Array.replicate ops.size false) a {w with drawn:=w.drawn+1} _ _ _ _ (by simp) hu zM hst2 hah2 ⟨hR.os,hR.tape,hR.output⟩
 ·exact FC hF hT hn hdist ((pathOf ord).idxOf ·) hrk hclos hQ ops.size (Array.replicate ops.size false) a {w with drawn:=w.drawn+1} pl2 rest2 pend2 env2 (by simp) hu zM hst2 hah2 ⟨hR.os,hR.tape,hR.output⟩
end Go.En
namespace Go.En
noncomputable def Nat.BC {p:Nat→Prop} (h:∃n,p n):Nat:=by
 classical
 exact (Classical.epsilon fun n=>p n∧∀k,p k→n≤k)
theorem Nat.EY {p:Nat→Prop} (h:∃n,p n):p (Nat.BC h)∧∀k,p k→Nat.BC h≤k:=by
 have key:∀n,p n→∃m,p m∧∀k,p k→m≤k:=by
  intro n
  induction n using Nat.strongRecOn with
  | _ n ih=>
   intro hn
   by_cases hl:∃k,k<n∧p k
   ·obtain ⟨k,hk,hp⟩ :=hl; exact ih k hk hp
   ·exact ⟨n,hn,fun k hk=>Nat.le_of_not_lt fun hlt=>hl ⟨k,hlt,hk⟩⟩
 obtain ⟨n,hn⟩ :=h
 exact Classical.epsilon_spec (p:=fun n=>p n∧∀k,p k→n≤k) (key n hn)
theorem Nat.uh {p:Nat→Prop} (h:∃n,p n):p (Nat.BC h):=(Nat.EY h).1
theorem Nat.vW {p:Nat→Prop} (h:∃n,p n) {k:Nat} (hk:p k):Nat.BC h≤k:=(Nat.EY h).2 k hk
def CY (K:Hp→Prop) (body:(Hp→Prop)→Prop):Prop:=∃J:Hp→Prop,body J∧∀h,J h→K h
def NB (h:Hp) (body:Hp→(Hp→Prop)→Prop):Prop:=
 ∃(I:Hp→Prop) (m:Hp→Nat),I h∧∀h,I h→body h fun h'=>I h'∧m h'<m h
theorem CY.here {K:Hp→Prop} {body:(Hp→Prop)→Prop} (h:body K):CY K body:=⟨K,h,fun _ h=>h⟩
theorem CY.at {K:Hp→Prop} {body:(Hp→Prop)→Prop} (J:Hp→Prop) (h:body J) (h':∀h,J h→K h):CY K body:=⟨J,h,h'⟩
theorem NB.by {α:Type} {h:Hp} {body:Hp→(Hp→Prop)→Prop} (I:α→Hp→Prop) (m:α→Nat) (x:α) (h0:I x h)
  (hb:∀x h,I x h→∀again:Hp→Prop,(∀x' h,I x' h→m x'<m x→again h)→body h again):NB h body:=by
 classical
 refine ⟨fun h=>∃x,I x h,fun h=>if e:∃n x,I x h∧m x=n then Nat.BC e else 0,⟨x,h0⟩,fun h hI=>?_⟩
 have e:∃n x,I x h∧m x=n:=let ⟨x,hx⟩ :=hI; ⟨_,x,hx,rfl⟩
 obtain ⟨x,hx,hm⟩ :=Nat.uh e
 refine hb x h hx _ fun x' h hx' hlt=>⟨⟨x',hx'⟩,?_⟩
 have e':∃n x,I x h∧m x=n:=⟨_,x',hx',rfl⟩
 dsimp only
 rw [dif_pos e',dif_pos e]
 exact Nat.lt_of_le_of_lt (Nat.vW e' ⟨x',hx',rfl⟩) (by rw [←hm]; exact hlt)
def lq (K:Value→Hp→Prop) (body:(Value→Hp→Prop)→Prop):Prop:=∃J:Value→Hp→Prop,body J∧∀a0 h,J a0 h→K a0 h
def xN (a0:Value) (h:Hp) (body:Value→Hp→(Value→Hp→Prop)→Prop):Prop:=
 ∃(I:Value→Hp→Prop) (m:Value→Hp→Nat),I a0 h∧∀a0 h,I a0 h→body a0 h fun a0' h'=>I a0' h'∧m a0' h'<m a0 h
theorem lq.here {K:Value→Hp→Prop} {body:(Value→Hp→Prop)→Prop} (h:body K):lq K body:=⟨K,h,fun a0 _ h=>h⟩
theorem lq.at {K:Value→Hp→Prop} {body:(Value→Hp→Prop)→Prop} (J:Value→Hp→Prop) (h:body J) (h':∀a0 h,J a0 h→K a0 h):lq K body:=⟨J,h,h'⟩
theorem xN.by {α:Type} {a0:Value} {h:Hp} {body:Value→Hp→(Value→Hp→Prop)→Prop} (I:α→Value→Hp→Prop) (m:α→Nat) (x:α) (h0:I x a0 h)
  (hb:∀x a0 h,I x a0 h→∀again:Value→Hp→Prop,(∀x' a0 h,I x' a0 h→m x'<m x→again a0 h)→body a0 h again):xN a0 h body:=by
 classical
 refine ⟨fun a0 h=>∃x,I x a0 h,fun a0 h=>if e:∃n x,I x a0 h∧m x=n then Nat.BC e else 0,⟨x,h0⟩,fun a0 h hI=>?_⟩
 have e:∃n x,I x a0 h∧m x=n:=let ⟨x,hx⟩ :=hI; ⟨_,x,hx,rfl⟩
 obtain ⟨x,hx,hm⟩ :=Nat.uh e
 refine hb x a0 h hx _ fun x' a0 h hx' hlt=>⟨⟨x',hx'⟩,?_⟩
 have e':∃n x,I x a0 h∧m x=n:=⟨_,x',hx',rfl⟩
 dsimp only
 rw [dif_pos e',dif_pos e]
 exact Nat.lt_of_le_of_lt (Nat.vW e' ⟨x',hx',rfl⟩) (by rw [←hm]; exact hlt)
def MQ (K:Value→Value→Hp→Prop) (body:(Value→Value→Hp→Prop)→Prop):Prop:=∃J:Value→Value→Hp→Prop,body J∧∀a0 a1 h,J a0 a1 h→K a0 a1 h
def Az (a0 a1:Value) (h:Hp) (body:Value→Value→Hp→(Value→Value→Hp→Prop)→Prop):Prop:=
 ∃(I:Value→Value→Hp→Prop) (m:Value→Value→Hp→Nat),I a0 a1 h∧∀a0 a1 h,I a0 a1 h→body a0 a1 h fun a0' a1' h'=>I a0' a1' h'∧m a0' a1' h'<m a0 a1 h
theorem MQ.here {K:Value→Value→Hp→Prop} {body:(Value→Value→Hp→Prop)→Prop} (h:body K):MQ K body:=⟨K,h,fun a0 a1 _ h=>h⟩
theorem MQ.at {K:Value→Value→Hp→Prop} {body:(Value→Value→Hp→Prop)→Prop} (J:Value→Value→Hp→Prop) (h:body J) (h':∀a0 a1 h,J a0 a1 h→K a0 a1 h):MQ K body:=⟨J,h,h'⟩
theorem Az.by {α:Type} {a0 a1:Value} {h:Hp} {body:Value→Value→Hp→(Value→Value→Hp→Prop)→Prop} (I:α→Value→Value→Hp→Prop) (m:α→Nat) (x:α) (h0:I x a0 a1 h)
  (hb:∀x a0 a1 h,I x a0 a1 h→∀again:Value→Value→Hp→Prop,(∀x' a0 a1 h,I x' a0 a1 h→m x'<m x→again a0 a1 h)→body a0 a1 h again):Az a0 a1 h body:=by
 classical
 refine ⟨fun a0 a1 h=>∃x,I x a0 a1 h,fun a0 a1 h=>if e:∃n x,I x a0 a1 h∧m x=n then Nat.BC e else 0,⟨x,h0⟩,fun a0 a1 h hI=>?_⟩
 have e:∃n x,I x a0 a1 h∧m x=n:=let ⟨x,hx⟩ :=hI; ⟨_,x,hx,rfl⟩
 obtain ⟨x,hx,hm⟩ :=Nat.uh e
 refine hb x a0 a1 h hx _ fun x' a0 a1 h hx' hlt=>⟨⟨x',hx'⟩,?_⟩
 have e':∃n x,I x a0 a1 h∧m x=n:=⟨_,x',hx',rfl⟩
 dsimp only
 rw [dif_pos e',dif_pos e]
 exact Nat.lt_of_le_of_lt (Nat.vW e' ⟨x',hx',rfl⟩) (by rw [←hm]; exact hlt)
def Jn3 (K:Value→Value→Value→Hp→Prop) (body:(Value→Value→Value→Hp→Prop)→Prop):Prop:=∃J:Value→Value→Value→Hp→Prop,body J∧∀a0 a1 a2 h,J a0 a1 a2 h→K a0 a1 a2 h
def UJ (a0 a1 a2:Value) (h:Hp) (body:Value→Value→Value→Hp→(Value→Value→Value→Hp→Prop)→Prop):Prop:=
 ∃(I:Value→Value→Value→Hp→Prop) (m:Value→Value→Value→Hp→Nat),I a0 a1 a2 h∧∀a0 a1 a2 h,I a0 a1 a2 h→body a0 a1 a2 h fun a0' a1' a2' h'=>I a0' a1' a2' h'∧m a0' a1' a2' h'<m a0 a1 a2 h
theorem UJ.by {α:Type} {a0 a1 a2:Value} {h:Hp} {body:Value→Value→Value→Hp→(Value→Value→Value→Hp→Prop)→Prop} (I:α→Value→Value→Value→Hp→Prop) (m:α→Nat) (x:α) (h0:I x a0 a1 a2 h)
  (hb:∀x a0 a1 a2 h,I x a0 a1 a2 h→∀again:Value→Value→Value→Hp→Prop,(∀x' a0 a1 a2 h,I x' a0 a1 a2 h→m x'<m x→again a0 a1 a2 h)→body a0 a1 a2 h again):UJ a0 a1 a2 h body:=by
 classical
 refine ⟨fun a0 a1 a2 h=>∃x,I x a0 a1 a2 h,fun a0 a1 a2 h=>if e:∃n x,I x a0 a1 a2 h∧m x=n then Nat.BC e else 0,⟨x,h0⟩,fun a0 a1 a2 h hI=>?_⟩
 have e:∃n x,I x a0 a1 a2 h∧m x=n:=let ⟨x,hx⟩ :=hI; ⟨_,x,hx,rfl⟩
 obtain ⟨x,hx,hm⟩ :=Nat.uh e
 refine hb x a0 a1 a2 h hx _ fun x' a0 a1 a2 h hx' hlt=>⟨⟨x',hx'⟩,?_⟩
 have e':∃n x,I x a0 a1 a2 h∧m x=n:=⟨_,x',hx',rfl⟩
 dsimp only
 rw [dif_pos e',dif_pos e]
 exact Nat.lt_of_le_of_lt (Nat.vW e' ⟨x',hx',rfl⟩) (by rw [←hm]; exact hlt)
def Jn4 (K:Value→Value→Value→Value→Hp→Prop) (body:(Value→Value→Value→Value→Hp→Prop)→Prop):Prop:=∃J:Value→Value→Value→Value→Hp→Prop,body J∧∀a0 a1 a2 a3 h,J a0 a1 a2 a3 h→K a0 a1 a2 a3 h
def Lp4 (a0 a1 a2 a3:Value) (h:Hp) (body:Value→Value→Value→Value→Hp→(Value→Value→Value→Value→Hp→Prop)→Prop):Prop:=
 ∃(I:Value→Value→Value→Value→Hp→Prop) (m:Value→Value→Value→Value→Hp→Nat),I a0 a1 a2 a3 h∧∀a0 a1 a2 a3 h,I a0 a1 a2 a3 h→body a0 a1 a2 a3 h fun a0' a1' a2' a3' h'=>I a0' a1' a2' a3' h'∧m a0' a1' a2' a3' h'<m a0 a1 a2 a3 h
def Jn5 (K:Value→Value→Value→Value→Value→Hp→Prop) (body:(Value→Value→Value→Value→Value→Hp→Prop)→Prop):Prop:=∃J:Value→Value→Value→Value→Value→Hp→Prop,body J∧∀a0 a1 a2 a3 a4 h,J a0 a1 a2 a3 a4 h→K a0 a1 a2 a3 a4 h
def Lp5 (a0 a1 a2 a3 a4:Value) (h:Hp) (body:Value→Value→Value→Value→Value→Hp→(Value→Value→Value→Value→Value→Hp→Prop)→Prop):Prop:=
 ∃(I:Value→Value→Value→Value→Value→Hp→Prop) (m:Value→Value→Value→Value→Value→Hp→Nat),I a0 a1 a2 a3 a4 h∧∀a0 a1 a2 a3 a4 h,I a0 a1 a2 a3 a4 h→body a0 a1 a2 a3 a4 h fun a0' a1' a2' a3' a4' h'=>I a0' a1' a2' a3' a4' h'∧m a0' a1' a2' a3' a4' h'<m a0 a1 a2 a3 a4 h
def Jn6 (K:Value→Value→Value→Value→Value→Value→Hp→Prop) (body:(Value→Value→Value→Value→Value→Value→Hp→Prop)→Prop):Prop:=∃J:Value→Value→Value→Value→Value→Value→Hp→Prop,body J∧∀a0 a1 a2 a3 a4 a5 h,J a0 a1 a2 a3 a4 a5 h→K a0 a1 a2 a3 a4 a5 h
def Lp6 (a0 a1 a2 a3 a4 a5:Value) (h:Hp) (body:Value→Value→Value→Value→Value→Value→Hp→(Value→Value→Value→Value→Value→Value→Hp→Prop)→Prop):Prop:=
 ∃(I:Value→Value→Value→Value→Value→Value→Hp→Prop) (m:Value→Value→Value→Value→Value→Value→Hp→Nat),I a0 a1 a2 a3 a4 a5 h∧∀a0 a1 a2 a3 a4 a5 h,I a0 a1 a2 a3 a4 a5 h→body a0 a1 a2 a3 a4 a5 h fun a0' a1' a2' a3' a4' a5' h'=>I a0' a1' a2' a3' a4' a5' h'∧m a0' a1' a2' a3' a4' a5' h'<m a0 a1 a2 a3 a4 a5 h
def Jn7 (K:Value→Value→Value→Value→Value→Value→Value→Hp→Prop) (body:(Value→Value→Value→Value→Value→Value→Value→Hp→Prop)→Prop):Prop:=∃J:Value→Value→Value→Value→Value→Value→Value→Hp→Prop,body J∧∀a0 a1 a2 a3 a4 a5 a6 h,J a0 a1 a2 a3 a4 a5 a6 h→K a0 a1 a2 a3 a4 a5 a6 h
def Lp7 (a0 a1 a2 a3 a4 a5 a6:Value) (h:Hp) (body:Value→Value→Value→Value→Value→Value→Value→Hp→(Value→Value→Value→Value→Value→Value→Value→Hp→Prop)→Prop):Prop:=
 ∃(I:Value→Value→Value→Value→Value→Value→Value→Hp→Prop) (m:Value→Value→Value→Value→Value→Value→Value→Hp→Nat),I a0 a1 a2 a3 a4 a5 a6 h∧∀a0 a1 a2 a3 a4 a5 a6 h,I a0 a1 a2 a3 a4 a5 a6 h→body a0 a1 a2 a3 a4 a5 a6 h fun a0' a1' a2' a3' a4' a5' a6' h'=>I a0' a1' a2' a3' a4' a5' a6' h'∧m a0' a1' a2' a3' a4' a5' a6' h'<m a0 a1 a2 a3 a4 a5 a6 h
def Jn8 (K:Value→Value→Value→Value→Value→Value→Value→Value→Hp→Prop) (body:(Value→Value→Value→Value→Value→Value→Value→Value→Hp→Prop)→Prop):Prop:=∃J:Value→Value→Value→Value→Value→Value→Value→Value→Hp→Prop,body J∧∀a0 a1 a2 a3 a4 a5 a6 a7 h,J a0 a1 a2 a3 a4 a5 a6 a7 h→K a0 a1 a2 a3 a4 a5 a6 a7 h
def Lp8 (a0 a1 a2 a3 a4 a5 a6 a7:Value) (h:Hp) (body:Value→Value→Value→Value→Value→Value→Value→Value→Hp→(Value→Value→Value→Value→Value→Value→Value→Value→Hp→Prop)→Prop):Prop:=
 ∃(I:Value→Value→Value→Value→Value→Value→Value→Value→Hp→Prop) (m:Value→Value→Value→Value→Value→Value→Value→Value→Hp→Nat),I a0 a1 a2 a3 a4 a5 a6 a7 h∧∀a0 a1 a2 a3 a4 a5 a6 a7 h,I a0 a1 a2 a3 a4 a5 a6 a7 h→body a0 a1 a2 a3 a4 a5 a6 a7 h fun a0' a1' a2' a3' a4' a5' a6' a7' h'=>I a0' a1' a2' a3' a4' a5' a6' a7' h'∧m a0' a1' a2' a3' a4' a5' a6' a7' h'<m a0 a1 a2 a3 a4 a5 a6 a7 h
def Jn9 (K:Value→Value→Value→Value→Value→Value→Value→Value→Value→Hp→Prop) (body:(Value→Value→Value→Value→Value→Value→Value→Value→Value→Hp→Prop)→Prop):Prop:=∃J:Value→Value→Value→Value→Value→Value→Value→Value→Value→Hp→Prop,body J∧∀a0 a1 a2 a3 a4 a5 a6 a7 a8 h,J a0 a1 a2 a3 a4 a5 a6 a7 a8 h→K a0 a1 a2 a3 a4 a5 a6 a7 a8 h
def Lp9 (a0 a1 a2 a3 a4 a5 a6 a7 a8:Value) (h:Hp) (body:Value→Value→Value→Value→Value→Value→Value→Value→Value→Hp→(Value→Value→Value→Value→Value→Value→Value→Value→Value→Hp→Prop)→Prop):Prop:=
 ∃(I:Value→Value→Value→Value→Value→Value→Value→Value→Value→Hp→Prop) (m:Value→Value→Value→Value→Value→Value→Value→Value→Value→Hp→Nat),I a0 a1 a2 a3 a4 a5 a6 a7 a8 h∧∀a0 a1 a2 a3 a4 a5 a6 a7 a8 h,I a0 a1 a2 a3 a4 a5 a6 a7 a8 h→body a0 a1 a2 a3 a4 a5 a6 a7 a8 h fun a0' a1' a2' a3' a4' a5' a6' a7' a8' h'=>I a0' a1' a2' a3' a4' a5' a6' a7' a8' h'∧m a0' a1' a2' a3' a4' a5' a6' a7' a8' h'<m a0 a1 a2 a3 a4 a5 a6 a7 a8 h
def ZD (K:Value→Value→Value→Value→Value→Value→Value→Value→Value→Value→Hp→Prop) (body:(Value→Value→Value→Value→Value→Value→Value→Value→Value→Value→Hp→Prop)→Prop):Prop:=∃J:Value→Value→Value→Value→Value→Value→Value→Value→Value→Value→Hp→Prop,body J∧∀a0 a1 a2 a3 a4 a5 a6 a7 a8 a9 h,J a0 a1 a2 a3 a4 a5 a6 a7 a8 a9 h→K a0 a1 a2 a3 a4 a5 a6 a7 a8 a9 h
def ZI (a0 a1 a2 a3 a4 a5 a6 a7 a8 a9:Value) (h:Hp) (body:Value→Value→Value→Value→Value→Value→Value→Value→Value→Value→Hp→(Value→Value→Value→Value→Value→Value→Value→Value→Value→Value→Hp→Prop)→Prop):Prop:=
 ∃(I:Value→Value→Value→Value→Value→Value→Value→Value→Value→Value→Hp→Prop) (m:Value→Value→Value→Value→Value→Value→Value→Value→Value→Value→Hp→Nat),I a0 a1 a2 a3 a4 a5 a6 a7 a8 a9 h∧∀a0 a1 a2 a3 a4 a5 a6 a7 a8 a9 h,I a0 a1 a2 a3 a4 a5 a6 a7 a8 a9 h→body a0 a1 a2 a3 a4 a5 a6 a7 a8 a9 h fun a0' a1' a2' a3' a4' a5' a6' a7' a8' a9' h'=>I a0' a1' a2' a3' a4' a5' a6' a7' a8' a9' h'∧m a0' a1' a2' a3' a4' a5' a6' a7' a8' a9' h'<m a0 a1 a2 a3 a4 a5 a6 a7 a8 a9 h
def UN (J:Hp→Prop) (vs:List Value) (h:Hp):Prop:=
 match vs with
 | []=>J h
 | _=>False
def Vn (J:Value→Hp→Prop) (vs:List Value) (h:Hp):Prop:=
 match vs with
 | [a0]=>J a0 h
 | _=>False
def UU (J:Value→Value→Hp→Prop) (vs:List Value) (h:Hp):Prop:=
 match vs with
 | [a0,a1]=>J a0 a1 h
 | _=>False
def Tz (J:Value→Value→Value→Hp→Prop) (vs:List Value) (h:Hp):Prop:=
 match vs with
 | [a0,a1,a2]=>J a0 a1 a2 h
 | _=>False
def Vx (J:Value→Value→Value→Value→Hp→Prop) (vs:List Value) (h:Hp):Prop:=
 match vs with
 | [a0,a1,a2,a3]=>J a0 a1 a2 a3 h
 | _=>False
def VI (J:Value→Value→Value→Value→Value→Hp→Prop) (vs:List Value) (h:Hp):Prop:=
 match vs with
 | [a0,a1,a2,a3,a4]=>J a0 a1 a2 a3 a4 h
 | _=>False
def Ua (J:Value→Value→Value→Value→Value→Value→Hp→Prop) (vs:List Value) (h:Hp):Prop:=
 match vs with
 | [a0,a1,a2,a3,a4,a5]=>J a0 a1 a2 a3 a4 a5 h
 | _=>False
def VE (J:Value→Value→Value→Value→Value→Value→Value→Hp→Prop) (vs:List Value) (h:Hp):Prop:=
 match vs with
 | [a0,a1,a2,a3,a4,a5,a6]=>J a0 a1 a2 a3 a4 a5 a6 h
 | _=>False
def TR (J:Value→Value→Value→Value→Value→Value→Value→Value→Hp→Prop) (vs:List Value) (h:Hp):Prop:=
 match vs with
 | [a0,a1,a2,a3,a4,a5,a6,a7]=>J a0 a1 a2 a3 a4 a5 a6 a7 h
 | _=>False
def Uy (J:Value→Value→Value→Value→Value→Value→Value→Value→Value→Hp→Prop) (vs:List Value) (h:Hp):Prop:=
 match vs with
 | [a0,a1,a2,a3,a4,a5,a6,a7,a8]=>J a0 a1 a2 a3 a4 a5 a6 a7 a8 h
 | _=>False
def Ki (J:Value→Value→Value→Value→Value→Value→Value→Value→Value→Value→Hp→Prop) (vs:List Value) (h:Hp):Prop:=
 match vs with
 | [a0,a1,a2,a3,a4,a5,a6,a7,a8,a9]=>J a0 a1 a2 a3 a4 a5 a6 a7 a8 a9 h
 | _=>False
def ZX (S:List Nat) (K:List Value→Hp→Prop) (body:(List Value→Hp→Prop)→Prop):Prop:=
 match S with
 | []=>CY (K []) (fun J=>body (UN J))
 | [_]=>lq (fun a0=>K [a0]) (fun J=>body (Vn J))
 | [_,_]=>MQ (fun a0 a1=>K [a0,a1]) (fun J=>body (UU J))
 | [_,_,_]=>Jn3 (fun a0 a1 a2=>K [a0,a1,a2]) (fun J=>body (Tz J))
 | [_,_,_,_]=>Jn4 (fun a0 a1 a2 a3=>K [a0,a1,a2,a3]) (fun J=>body (Vx J))
 | [_,_,_,_,_]=>Jn5 (fun a0 a1 a2 a3 a4=>K [a0,a1,a2,a3,a4]) (fun J=>body (VI J))
 | [_,_,_,_,_,_]=>Jn6 (fun a0 a1 a2 a3 a4 a5=>K [a0,a1,a2,a3,a4,a5]) (fun J=>body (Ua J))
 | [_,_,_,_,_,_,_]=>Jn7 (fun a0 a1 a2 a3 a4 a5 a6=>K [a0,a1,a2,a3,a4,a5,a6]) (fun J=>body (VE J))
 | [_,_,_,_,_,_,_,_]=>Jn8 (fun a0 a1 a2 a3 a4 a5 a6 a7=>K [a0,a1,a2,a3,a4,a5,a6,a7]) (fun J=>body (TR J))
 | [_,_,_,_,_,_,_,_,_]=>Jn9 (fun a0 a1 a2 a3 a4 a5 a6 a7 a8=>K [a0,a1,a2,a3,a4,a5,a6,a7,a8]) (fun J=>body (Uy J))
 | [_,_,_,_,_,_,_,_,_,_]=>ZD (fun a0 a1 a2 a3 a4 a5 a6 a7 a8 a9=>K [a0,a1,a2,a3,a4,a5,a6,a7,a8,a9]) (fun J=>body (Ki J))
 | _=>False
def Z9 (S:List Nat) (iv:List Value) (h:Hp) (body:List Value→Hp→(List Value→Hp→Prop)→Prop):Prop:=
 match S,iv with
 | [],[]=>NB h (fun h again=>body [] h (UN again))
 | [_],[i0]=>xN i0 h (fun a0 h again=>body [a0] h (Vn again))
 | [_,_],[i0,i1]=>Az i0 i1 h (fun a0 a1 h again=>body [a0,a1] h (UU again))
 | [_,_,_],[i0,i1,i2]=>UJ i0 i1 i2 h (fun a0 a1 a2 h again=>body [a0,a1,a2] h (Tz again))
 | [_,_,_,_],[i0,i1,i2,i3]=>Lp4 i0 i1 i2 i3 h (fun a0 a1 a2 a3 h again=>body [a0,a1,a2,a3] h (Vx again))
 | [_,_,_,_,_],[i0,i1,i2,i3,i4]=>Lp5 i0 i1 i2 i3 i4 h (fun a0 a1 a2 a3 a4 h again=>body [a0,a1,a2,a3,a4] h (VI again))
 | [_,_,_,_,_,_],[i0,i1,i2,i3,i4,i5]=>Lp6 i0 i1 i2 i3 i4 i5 h (fun a0 a1 a2 a3 a4 a5 h again=>body [a0,a1,a2,a3,a4,a5] h (Ua again))
 | [_,_,_,_,_,_,_],[i0,i1,i2,i3,i4,i5,i6]=>Lp7 i0 i1 i2 i3 i4 i5 i6 h (fun a0 a1 a2 a3 a4 a5 a6 h again=>body [a0,a1,a2,a3,a4,a5,a6] h (VE again))
 | [_,_,_,_,_,_,_,_],[i0,i1,i2,i3,i4,i5,i6,i7]=>Lp8 i0 i1 i2 i3 i4 i5 i6 i7 h (fun a0 a1 a2 a3 a4 a5 a6 a7 h again=>body [a0,a1,a2,a3,a4,a5,a6,a7] h (TR again))
 | [_,_,_,_,_,_,_,_,_],[i0,i1,i2,i3,i4,i5,i6,i7,i8]=>Lp9 i0 i1 i2 i3 i4 i5 i6 i7 i8 h (fun a0 a1 a2 a3 a4 a5 a6 a7 a8 h again=>body [a0,a1,a2,a3,a4,a5,a6,a7,a8] h (Uy again))
 | [_,_,_,_,_,_,_,_,_,_],[i0,i1,i2,i3,i4,i5,i6,i7,i8,i9]=>ZI i0 i1 i2 i3 i4 i5 i6 i7 i8 i9 h (fun a0 a1 a2 a3 a4 a5 a6 a7 a8 a9 h again=>body [a0,a1,a2,a3,a4,a5,a6,a7,a8,a9] h (Ki again))
 | _,_=>False
theorem M3 {S:List Nat} {K:List Value→Hp→Prop} {body:(List Value→Hp→Prop)→Prop} (h:ZX S K body):∃J:List Value→Hp→Prop,body J∧∀vs h,J vs h→K vs h:=by
 unfold ZX at h
 split at h
 ·obtain ⟨J,hb,hk⟩ :=h
  refine ⟨_,hb,fun vs h hj=>?_⟩
  unfold UN at hj
  split at hj
  ·exact hk _ hj
  ·exact hj.elim
 ·obtain ⟨J,hb,hk⟩ :=h
  refine ⟨_,hb,fun vs h hj=>?_⟩
  unfold Vn at hj
  split at hj
  ·exact hk _ _ hj
  ·exact hj.elim
 ·obtain ⟨J,hb,hk⟩ :=h
  refine ⟨_,hb,fun vs h hj=>?_⟩
  unfold UU at hj
  split at hj
  ·exact hk _ _ _ hj
  ·exact hj.elim
 ·obtain ⟨J,hb,hk⟩ :=h
  refine ⟨_,hb,fun vs h hj=>?_⟩
  unfold Tz at hj
  split at hj
  ·exact hk _ _ _ _ hj
  ·exact hj.elim
 ·obtain ⟨J,hb,hk⟩ :=h
  refine ⟨_,hb,fun vs h hj=>?_⟩
  unfold Vx at hj
  split at hj
  ·exact hk _ _ _ _ _ hj
  ·exact hj.elim
 ·obtain ⟨J,hb,hk⟩ :=h
  refine ⟨_,hb,fun vs h hj=>?_⟩
  unfold VI at hj
  split at hj
  ·exact hk _ _ _ _ _ _ hj
  ·exact hj.elim
 ·obtain ⟨J,hb,hk⟩ :=h
  refine ⟨_,hb,fun vs h hj=>?_⟩
  unfold Ua at hj
  split at hj
  ·exact hk _ _ _ _ _ _ _ hj
  ·exact hj.elim
 ·obtain ⟨J,hb,hk⟩ :=h
  refine ⟨_,hb,fun vs h hj=>?_⟩
  unfold VE at hj
  split at hj
  ·exact hk _ _ _ _ _ _ _ _ hj
  ·exact hj.elim
 ·obtain ⟨J,hb,hk⟩ :=h
  refine ⟨_,hb,fun vs h hj=>?_⟩
  unfold TR at hj
  split at hj
  ·exact hk _ _ _ _ _ _ _ _ _ hj
  ·exact hj.elim
 ·obtain ⟨J,hb,hk⟩ :=h
  refine ⟨_,hb,fun vs h hj=>?_⟩
  unfold Uy at hj
  split at hj
  ·exact hk _ _ _ _ _ _ _ _ _ _ hj
  ·exact hj.elim
 ·obtain ⟨J,hb,hk⟩ :=h
  refine ⟨_,hb,fun vs h hj=>?_⟩
  unfold Ki at hj
  split at hj
  ·exact hk _ _ _ _ _ _ _ _ _ _ _ hj
  ·exact hj.elim
 ·exact h.elim
theorem M8 {S:List Nat} {iv:List Value} {h:Hp} {body:List Value→Hp→(List Value→Hp→Prop)→Prop} (H:Z9 S iv h body) :
  ∃(I:List Value→Hp→Prop) (m:List Value→Hp→Nat) (C:List Value→Hp→List Value→Hp→Prop),I iv h∧(∀vs h,I vs h→body vs h (C vs h))∧∀vs h vs' h',C vs h vs' h'→I vs' h'∧m vs' h'<m vs h:=by
 unfold Z9 at H
 split at H
 ·obtain ⟨I,m,h0,hb⟩ :=H
  refine ⟨UN I,fun vs h=>match vs with
   | []=>m h
   | _=>0,fun vs h=>match vs with
   | []=>UN (fun h'=>I h'∧m h'<m h)
   | _=>fun _ _=>False,h0,fun vs h hI=>?_,fun vs h vs' h' hC=>?_⟩
  ·unfold UN at hI
   split at hI
   ·exact hb _ hI
   ·exact hI.elim
  ·dsimp only at hC
   split at hC
   ·unfold UN at hC
    split at hC
    ·exact hC
    ·exact hC.elim
   ·exact hC.elim
 ·obtain ⟨I,m,h0,hb⟩ :=H
  refine ⟨Vn I,fun vs h=>match vs with
   | [a0]=>m a0 h
   | _=>0,fun vs h=>match vs with
   | [a0]=>Vn (fun a0' h'=>I a0' h'∧m a0' h'<m a0 h)
   | _=>fun _ _=>False,h0,fun vs h hI=>?_,fun vs h vs' h' hC=>?_⟩
  ·unfold Vn at hI
   split at hI
   ·exact hb _ _ hI
   ·exact hI.elim
  ·dsimp only at hC
   split at hC
   ·unfold Vn at hC
    split at hC
    ·exact hC
    ·exact hC.elim
   ·exact hC.elim
 ·obtain ⟨I,m,h0,hb⟩ :=H
  refine ⟨UU I,fun vs h=>match vs with
   | [a0,a1]=>m a0 a1 h
   | _=>0,fun vs h=>match vs with
   | [a0,a1]=>UU (fun a0' a1' h'=>I a0' a1' h'∧m a0' a1' h'<m a0 a1 h)
   | _=>fun _ _=>False,h0,fun vs h hI=>?_,fun vs h vs' h' hC=>?_⟩
  ·unfold UU at hI
   split at hI
   ·exact hb _ _ _ hI
   ·exact hI.elim
  ·dsimp only at hC
   split at hC
   ·unfold UU at hC
    split at hC
    ·exact hC
    ·exact hC.elim
   ·exact hC.elim
 ·obtain ⟨I,m,h0,hb⟩ :=H
  refine ⟨Tz I,fun vs h=>match vs with
   | [a0,a1,a2]=>m a0 a1 a2 h
   | _=>0,fun vs h=>match vs with
   | [a0,a1,a2]=>Tz (fun a0' a1' a2' h'=>I a0' a1' a2' h'∧m a0' a1' a2' h'<m a0 a1 a2 h)
   | _=>fun _ _=>False,h0,fun vs h hI=>?_,fun vs h vs' h' hC=>?_⟩
  ·unfold Tz at hI
   split at hI
   ·exact hb _ _ _ _ hI
   ·exact hI.elim
  ·dsimp only at hC
   split at hC
   ·unfold Tz at hC
    split at hC
    ·exact hC
    ·exact hC.elim
   ·exact hC.elim
 ·obtain ⟨I,m,h0,hb⟩ :=H
  refine ⟨Vx I,fun vs h=>match vs with
   | [a0,a1,a2,a3]=>m a0 a1 a2 a3 h
   | _=>0,fun vs h=>match vs with
   | [a0,a1,a2,a3]=>Vx (fun a0' a1' a2' a3' h'=>I a0' a1' a2' a3' h'∧m a0' a1' a2' a3' h'<m a0 a1 a2 a3 h)
   | _=>fun _ _=>False,h0,fun vs h hI=>?_,fun vs h vs' h' hC=>?_⟩
  ·unfold Vx at hI
   split at hI
   ·exact hb _ _ _ _ _ hI
   ·exact hI.elim
  ·dsimp only at hC
   split at hC
   ·unfold Vx at hC
    split at hC
    ·exact hC
    ·exact hC.elim
   ·exact hC.elim
 ·obtain ⟨I,m,h0,hb⟩ :=H
  refine ⟨VI I,fun vs h=>match vs with
   | [a0,a1,a2,a3,a4]=>m a0 a1 a2 a3 a4 h
   | _=>0,fun vs h=>match vs with
   | [a0,a1,a2,a3,a4]=>VI (fun a0' a1' a2' a3' a4' h'=>I a0' a1' a2' a3' a4' h'∧m a0' a1' a2' a3' a4' h'<m a0 a1 a2 a3 a4 h)
   | _=>fun _ _=>False,h0,fun vs h hI=>?_,fun vs h vs' h' hC=>?_⟩
  ·unfold VI at hI
   split at hI
   ·exact hb _ _ _ _ _ _ hI
   ·exact hI.elim
  ·dsimp only at hC
   split at hC
   ·unfold VI at hC
    split at hC
    ·exact hC
    ·exact hC.elim
   ·exact hC.elim
 ·obtain ⟨I,m,h0,hb⟩ :=H
  refine ⟨Ua I,fun vs h=>match vs with
   | [a0,a1,a2,a3,a4,a5]=>m a0 a1 a2 a3 a4 a5 h
   | _=>0,fun vs h=>match vs with
   | [a0,a1,a2,a3,a4,a5]=>Ua (fun a0' a1' a2' a3' a4' a5' h'=>I a0' a1' a2' a3' a4' a5' h'∧m a0' a1' a2' a3' a4' a5' h'<m a0 a1 a2 a3 a4 a5 h)
   | _=>fun _ _=>False,h0,fun vs h hI=>?_,fun vs h vs' h' hC=>?_⟩
  ·unfold Ua at hI
   split at hI
   ·exact hb _ _ _ _ _ _ _ hI
   ·exact hI.elim
  ·dsimp only at hC
   split at hC
   ·unfold Ua at hC
    split at hC
    ·exact hC
    ·exact hC.elim
   ·exact hC.elim
 ·obtain ⟨I,m,h0,hb⟩ :=H
  refine ⟨VE I,fun vs h=>match vs with
   | [a0,a1,a2,a3,a4,a5,a6]=>m a0 a1 a2 a3 a4 a5 a6 h
   | _=>0,fun vs h=>match vs with
   | [a0,a1,a2,a3,a4,a5,a6]=>VE (fun a0' a1' a2' a3' a4' a5' a6' h'=>I a0' a1' a2' a3' a4' a5' a6' h'∧m a0' a1' a2' a3' a4' a5' a6' h'<m a0 a1 a2 a3 a4 a5 a6 h)
   | _=>fun _ _=>False,h0,fun vs h hI=>?_,fun vs h vs' h' hC=>?_⟩
  ·unfold VE at hI
   split at hI
   ·exact hb _ _ _ _ _ _ _ _ hI
   ·exact hI.elim
  ·dsimp only at hC
   split at hC
   ·unfold VE at hC
    split at hC
    ·exact hC
    ·exact hC.elim
   ·exact hC.elim
 ·obtain ⟨I,m,h0,hb⟩ :=H
  refine ⟨TR I,fun vs h=>match vs with
   | [a0,a1,a2,a3,a4,a5,a6,a7]=>m a0 a1 a2 a3 a4 a5 a6 a7 h
   | _=>0,fun vs h=>match vs with
   | [a0,a1,a2,a3,a4,a5,a6,a7]=>TR (fun a0' a1' a2' a3' a4' a5' a6' a7' h'=>I a0' a1' a2' a3' a4' a5' a6' a7' h'∧m a0' a1' a2' a3' a4' a5' a6' a7' h'<m a0 a1 a2 a3 a4 a5 a6 a7 h)
   | _=>fun _ _=>False,h0,fun vs h hI=>?_,fun vs h vs' h' hC=>?_⟩
  ·unfold TR at hI
   split at hI
   ·exact hb _ _ _ _ _ _ _ _ _ hI
   ·exact hI.elim
  ·dsimp only at hC
   split at hC
   ·unfold TR at hC
    split at hC
    ·exact hC
    ·exact hC.elim
   ·exact hC.elim
 ·obtain ⟨I,m,h0,hb⟩ :=H
  refine ⟨Uy I,fun vs h=>match vs with
   | [a0,a1,a2,a3,a4,a5,a6,a7,a8]=>m a0 a1 a2 a3 a4 a5 a6 a7 a8 h
   | _=>0,fun vs h=>match vs with
   | [a0,a1,a2,a3,a4,a5,a6,a7,a8]=>Uy (fun a0' a1' a2' a3' a4' a5' a6' a7' a8' h'=>I a0' a1' a2' a3' a4' a5' a6' a7' a8' h'∧m a0' a1' a2' a3' a4' a5' a6' a7' a8' h'<m a0 a1 a2 a3 a4 a5 a6 a7 a8 h)
   | _=>fun _ _=>False,h0,fun vs h hI=>?_,fun vs h vs' h' hC=>?_⟩
  ·unfold Uy at hI
   split at hI
   ·exact hb _ _ _ _ _ _ _ _ _ _ hI
   ·exact hI.elim
  ·dsimp only at hC
   split at hC
   ·unfold Uy at hC
    split at hC
    ·exact hC
    ·exact hC.elim
   ·exact hC.elim
 ·obtain ⟨I,m,h0,hb⟩ :=H
  refine ⟨Ki I,fun vs h=>match vs with
   | [a0,a1,a2,a3,a4,a5,a6,a7,a8,a9]=>m a0 a1 a2 a3 a4 a5 a6 a7 a8 a9 h
   | _=>0,fun vs h=>match vs with
   | [a0,a1,a2,a3,a4,a5,a6,a7,a8,a9]=>Ki (fun a0' a1' a2' a3' a4' a5' a6' a7' a8' a9' h'=>I a0' a1' a2' a3' a4' a5' a6' a7' a8' a9' h'∧m a0' a1' a2' a3' a4' a5' a6' a7' a8' a9' h'<m a0 a1 a2 a3 a4 a5 a6 a7 a8 a9 h)
   | _=>fun _ _=>False,h0,fun vs h hI=>?_,fun vs h vs' h' hC=>?_⟩
  ·unfold Ki at hI
   split at hI
   ·exact hb _ _ _ _ _ _ _ _ _ _ _ hI
   ·exact hI.elim
  ·dsimp only at hC
   split at hC
   ·unfold Ki at hC
    split at hC
    ·exact hC
    ·exact hC.elim
   ·exact hC.elim
 ·exact H.elim
end Go.En
namespace Go.En
inductive HT where
 | z
 | o (ord:OT)
 | s (l r:HT)
 | j (S K:List Nat) (l r:HT)
 | c (l r:HT)
 | b (t:HT)
 | l (S K:List Nat) (t:HT)
 | r (l r:HT)
structure Ex where
 Qg:Nat→Env→Hp→Prop
 ret:Env→Hp→Prop
def pick (S:List Nat) (env:Env):Option (List Value):=
 match S with
 | []=>some []
 | s::r=>match lk env s with
  | none=>none
  | some v=>match pick r env with
   | none=>none
   | some vs=>some (v::vs)
def Lh (S:List Nat) (env:Env) (f:List Value→Prop):Prop:=
 match pick S env with
 | some vs=>f vs
 | none=>False
def wy:List Nat→List Value→Env
 | s::r,v::vs=>(s,v)::wy r vs
 | _,_=>[]
def NJ:Env→Env→Env
 | [],e=>e
 | x::r,e=>x::NJ r e
def HP (t:Nat):List Nat→Bool
 | []=>false
 | x::r=>match Nat.beq x t with
  | true=>true
  | false=>HP t r
def IP (t:Nat):List Oper→Bool
 | []=>true
 | o::r=>match o.dst with
  | none=>IP t r
  | some d=>match Nat.beq d t with
   | true=>false
   | false=>IP t r
def KR:List Oper→Bool
 | []=>true
 | o::r=>match o.op with
  | .defer _=>false
  | _=>KR r
def keeps (n t:Nat):Code→HT→Bool
 | .skip,_ | .exit _,_ | .ret,_ | .label _,_=>true
 | .region _ ops _,_=>match IP t ops.toList with
  | true=>match Nat.beq t n with
   | true=>KR ops.toList
   | false=>true
  | false=>false
 | .seq a b,.s l r=>match keeps n t a l with
  | true=>keeps n t b r
  | false=>false
 | .seq a b,.j S K l r=>match HP t K,HP t S,keeps n t a l with
  | true,false,true=>keeps n t b r
  | _,_,_=>false
 | .cond _ a b,.c l r=>match keeps n t a l with
  | true=>keeps n t b r
  | false=>false
 | .block _ b,.b t'=>keeps n t b t'
 | .scope b,t'=>keeps n t b t'
 | .loop b,.l S K t'=>match HP t K,HP t S with
  | true,false=>keeps n t b t'
  | _,_=>false
 | .rangeFunc _ _ _ _,.r _ _=>match Nat.beq t n with
  | true=>false
  | false=>true
 | _,_=>false
def yW (n:Nat) (K:List Nat) (c:Code) (h:HT):Bool:=
 match K with
 | []=>true
 | t::r=>match keeps n t c h with
  | true=>yW n r c h
  | false=>false
def Xb (i c:Nat) (A B:Prop):Prop:=
 match Nat.beq i c with
 | true=>A
 | false=>B
def Xx (o:Loop) (l:Nat) (h:Hp):Prop:=∃st pd,h[l]?=some (.loop {o with state:=st,pending:=pd})
def Yv (l:Nat) (h:Hp):Option Hp:=
 match h[l]? with
 | some (.loop r)=>match r.state with
  | .ready=>some (h.setIfInBounds l (.loop {r with state:=.busy}))
  | _=>none
 | _=>none
def fin (l:Nat) (j:Option Code) (h:Hp):Option Hp:=
 match h[l]? with
 | some (.loop r)=>some (h.setIfInBounds l (.loop {r with state:=if j.isNone then .ready else .done,pending:=j}))
 | _=>none
def Vh (l:Nat) (h:Hp):Option (Option Code × Hp):=
 match h[l]? with
 | some (.loop r)=>match r.state with
  | .busy=>none
  | _=>some (r.pending,h.setIfInBounds l (.loop {r with state:=.exhausted}))
 | _=>none
def Jp (j:Option Code) (A B:Prop) (C:Nat→Prop):Prop:=
 match j with
 | none=>A
 | some .ret=>B
 | some (.exit id)=>C id
 | some _=>False
def Rg (C:FuncId→List Value→Hp→(Value→Hp→Prop)→Prop) (Y:Nat→List Value→Hp→(Value→Hp→Prop)→Prop) (g:Value) (h:Hp) (round:Nat→List Value→Hp→(Value→Hp→Prop)→Prop) (aft:Option Code→Hp→Prop):Prop:=
 ∀o:Loop,o.state=.ready→o.pending=none→(∀args h' R,Xx o (h.size+1) h'→round (h.size+1) args h' R→Y (h.size+1) args h' R)→
  ∃f first cap,g=.func (.func f) first cap∧C f (first.toList++[.func (.yield (h.size+1)) #[] #[]]++cap.toList) ((h.push (.deferred (some []))).push (.loop o)) fun _ h2=>∃j h3,Vh (h.size+1) h2=some (j,h3)∧aft j h3
def Pu:List Nat→List Value→Env→Env
 | p::ps,v::vs,e=>Pu ps vs ((p,v)::e)
 | _,_,e=>e
def A0 (args:List Value) (f:Prop):Prop:=
 match args with
 | []=>f
 | _=>False
def A1 (args:List Value) (f:Value→Prop):Prop:=
 match args with
 | [v]=>f v
 | _=>False
def A2 (args:List Value) (f:Value→Value→Prop):Prop:=
 match args with
 | [v,w]=>f v w
 | _=>False
def LB (ps:List Nat) (env:Env) (args:List Value) (f:Env→Prop):Prop:=
 match ps with
 | []=>A0 args (f env)
 | [p]=>A1 args fun v=>f ((p,v)::env)
 | [p,q]=>A2 args fun v w=>f ((q,w)::(p,v)::env)
 | _=>False
theorem Ko {ps:List Nat} {env:Env} {args:List Value} {f:Env→Prop} (h:LB ps env args f):args.length=ps.length∧f (Pu ps args env):=by
 unfold LB at h
 split at h
 ·unfold A0 at h; split at h
  ·exact ⟨rfl,h⟩
  ·exact h.elim
 ·unfold A1 at h; split at h
  ·exact ⟨rfl,h⟩
  ·exact h.elim
 ·unfold A2 at h; split at h
  ·exact ⟨rfl,h⟩
  ·exact h.elim
 ·exact h.elim
def Gk (n:Nat):List Nat→Bool
 | []=>true
 | p::r=>match Nat.blt p n with
  | true=>Gk n r
  | false=>false
def den (P:Program) (n:Nat) (rd:Bool):Code→HT→Ex→Env→Hp→(Env→Hp→Prop)→Prop
 | .skip,_,_,env,h,k=>k env h
 | .label _,_,_,env,h,k=>k env h
 | .exit id,_,E,env,h,_=>E.Qg id env h
 | .ret,_,E,env,h,_=>E.ret env h
 | .region _ ops false,_,_,env,h,k=>match zd n ops.toList with
  | true=>MB P n rd ops ops.toList env [] h k
  | false=>False
 | .region _ ops true,.o ord,_,env,h,k=>match Zl P n ops (Region.before ops) ord with
  | true=>Dv P n ops (Region.before ops) ord [] env [] h k
  | false=>False
 | .seq a b,.s l r,E,env,h,k=>den P n rd a l E env h fun env' h'=>den P n rd b r E env' h' k
 | .seq a b,.j S K l r,E,env,h,k=>match yW n K a l,pick K env with
  | true,some kv=>ZX S (fun vs h'=>den P n rd b r E (NJ (wy S vs) (wy K kv)) h' k) fun J=>den P n rd a l E env h fun env' h'=>Lh S env' fun vs=>J vs h'
  | _,_=>False
 | .cond c x y,.c l r,E,env,h,k=>match ev n env c with
  | some v=>Br v (den P n rd x l E env h k) (den P n rd y r E env h k)
  | none=>False
 | .block id b,.b t,E,env,h,k=>den P n rd b t {E with Qg:=fun i env' h'=>Xb i id (k env' h') (E.Qg i env' h')} env h k
 | .rangeFunc g ps asn x,.r ta tx,E,env,h,k=>match rd,Gk n ps.toList,ev n env g,lk env n with
  | false,true,some gv,some (.tuple ⟨ds⟩)=>Rg (Cl P) (Sy P) gv h
    (fun l args h' R=>LB ps.toList ((n,.tuple ⟨[]⟩)::env) args fun env0=>den P n true asn ta {Qg:=fun _ _ _=>False,ret:=fun _ _=>False} env0 h' fun env1 h1=>Sb (Yv l h1) fun h2=>
       den P n true x tx {Qg:=fun id _ h3=>Sb (fin l (some (.exit id)) h3) fun h4=>R (.bool false) h4,ret:=fun _ h3=>Sb (fin l (some .ret) h3) fun h4=>R (.bool false) h4} env1 h2 fun _ h3=>Sb (fin l none h3) fun h4=>R (.bool true) h4)
    fun j h3=>Jp j (k ((n,.tuple ⟨.pointer (some ⟨h.size,0,none⟩)::ds⟩)::env) h3) (E.ret ((n,.tuple ⟨.pointer (some ⟨h.size,0,none⟩)::ds⟩)::env) h3) fun id=>E.Qg id ((n,.tuple ⟨.pointer (some ⟨h.size,0,none⟩)::ds⟩)::env) h3
  | _,_,_,_=>False
 | .scope b,t,E,env,h,k=>den P n rd b t E env h k
 | .loop b,.l S K t,E,env,h,_=>match yW n K b t,pick K env,pick S env with
  | true,some kv,some iv=>Z9 S iv h fun vs h' again=>den P n rd b t E (NJ (wy S vs) (wy K kv)) h' fun env' h''=>Lh S env' fun vs'=>again vs' h''
  | _,_,_=>False
 | _,_,_,_,_,_=>False
theorem yV {t:Nat}:∀{l:List Nat},HP t l=true↔t∈l
 | []=>by simp [HP]
 | x::r=>by
  unfold HP
  split
  ·rename_i h; have:=Nat.eq_of_beq_eq_true h; subst this; simp
  ·rename_i h
   rw [yV]
   have:x≠t:=fun e=>by subst e; simp at h
   simp [Ne.symm this]
theorem CD {t:Nat}:∀{l:List Oper},IP t l=true→∀o∈l,o.dst≠some t
 | [],_,o,ho=>by cases ho
 | x::r,h,o,ho=>by
  unfold IP at h
  split at h
  ·rename_i hn
   rcases List.mem_cons.1 ho with rfl | ho
   ·rw [hn]; simp
   ·exact CD h o ho
  ·rename_i d hd
   split at h
   ·contradiction
   ·rename_i hb
    rcases List.mem_cons.1 ho with rfl | ho
    ·rw [hd]; intro e; cases e; simp at hb
    ·exact CD h o ho
theorem FL:∀{l:List Oper},KR l=true→∀o∈l,∀c,o.op≠.defer c
 | [],_,o,ho=>by cases ho
 | x::r,h,o,ho=>by
  unfold KR at h
  split at h
  ·contradiction
  ·rename_i hn
   rcases List.mem_cons.1 ho with rfl | ho
   ·exact fun c e=>hn c e
   ·exact FL h o ho
theorem CX {e e':Env} {t:Nat}:lk (NJ e e') t=(match lk e t with
  | some v=>some v
  | none=>lk e' t):=by
 induction e with
 | nil=>rfl
 | cons x r ih=>
  obtain ⟨d,v⟩ :=x
  simp only [NJ,lk]
  split
  ·rfl
  ·exact ih
theorem tY {env:Env}:∀{S:List Nat} {vs:List Value},pick S env=some vs→∀t v,lk (wy S vs) t=some v→lk env t=some v
 | [],vs,h,t,v,hv=>by simp [wy,lk] at hv
 | s::r,vs,h,t,v,hv=>by
  unfold pick at h
  split at h <;> try contradiction
  rename_i u hu
  split at h <;> try contradiction
  rename_i us hus
  simp only [Option.some.injEq] at h
  subst h
  simp only [wy] at hv
  rw [jA] at hv
  split at hv
  ·rename_i e; subst e; rw [hu]; exact hv
  ·exact tY hus t v hv
theorem Bg {env:Env}:∀{S:List Nat} {vs:List Value},pick S env=some vs→∀t∈S,lk (wy S vs) t=lk env t
 | [],vs,h,t,ht=>by cases ht
 | s::r,vs,h,t,ht=>by
  unfold pick at h
  split at h <;> try contradiction
  rename_i u hu
  split at h <;> try contradiction
  rename_i us hus
  simp only [Option.some.injEq] at h
  subst h
  simp only [wy]
  rw [jA]
  split
  ·rename_i e; subst e; exact hu.symm
  ·rename_i e
   rcases List.mem_cons.1 ht with h1 | h1
   ·exact absurd h1.symm e
   ·exact Bg hus t h1
theorem F7 {env:Env}:∀{S:List Nat} {vs:List Value},pick S env=some vs→∀t∈S,(lk env t).isSome=true
 | [],vs,h,t,ht=>by cases ht
 | s::r,vs,h,t,ht=>by
  unfold pick at h
  split at h <;> try contradiction
  rename_i u hu
  split at h <;> try contradiction
  rename_i us hus
  rcases List.mem_cons.1 ht with rfl | h1
  ·rw [hu]; rfl
  ·exact F7 hus t h1
theorem sY {S:List Nat} {vs:List Value} {t:Nat} (h:t∉S):lk (wy S vs) t=none:=by
 induction S generalizing vs with
 | nil=>cases vs <;> rfl
 | cons s r ih=>
  cases vs with
  | nil=>rfl
  | cons v vs=>
   simp only [wy]
   rw [jA,if_neg (fun e=>h (by rw [e]; exact List.mem_cons_self ..))]
   exact ih fun hh=>h (List.mem_cons_of_mem _ hh)
theorem Ca.sub {n:Nat} {env env':Env} {a:Act} (h:Ca n env' a) (hs:∀t v,lk env t=some v→lk env' t=some v):Ca n env a:=
 ⟨h.sz,fun t v ht hv=>h.sl t v ht (hs t v hv),fun v hv=>h.df v (hs n v hv)⟩
def QQ (n:Nat) (w0:World) (T:List Nat) (b:Nat→Option Value) (E:Ex) (k:Env→Hp→Prop):Exit→Act→World→Prop
 | .normal,a,w=>∃env,Ca n env a∧sj w0 w∧(∀t∈T,lk env t=b t)∧k env w.heap
 | .exit id,a,w=>∃env,Ca n env a∧sj w0 w∧(∀t∈T,lk env t=b t)∧E.Qg id env w.heap
 | .ret,a,w=>∃env,Ca n env a∧sj w0 w∧(∀t∈T,lk env t=b t)∧E.ret env w.heap
 | _,_,_=>False
theorem JL {P:Program} {F:Fence} {m:Nat} {c:Code} {Q:Exit→Act→World→Prop} {a:Act} {w:World} (hg:∀l a w,¬Q (.goto l) a w) (h:c.wpIn F m P Q a w):(Code.scope c).wpIn F m P Q a w:=by
 intro b k cs hro hb hr
 have s1:_root_.Go.step P (lone (b.atR a (.code (.scope c)::k)) cs w)=.next (lone (b.atR a (.code c::.inScope c::k)) cs w):=
  step_lone_go (by simp [stepG,stepG.exec,Frame.atR])
 have f1:(lone (b.atR a (.code (.scope c)::k)) cs w).fenced P F:=fenced_calm (fr:=b.atR a (.code (.scope c)::k)) hb hr rfl
 obtain ⟨e,a₁,w₁,hq,harr⟩ :=h b (.inScope c::k) cs hro hb hr
 cases e with
 | normal=>
  refine ⟨.normal,a₁,w₁,hq,.head f1 s1 (StepsIn.trans harr (.one (fenced_calm (fr:=b.atR a₁ (.inScope c::k)) hb hr rfl) ?_))⟩
  exact step_lone_go (by simp [stepG,stepG.exec,Frame.atR])
 | exit id=>
  refine ⟨.exit id,a₁,w₁,hq,fun k' hk=>.head f1 s1 (harr.1 k' (by simp [exitTo,hk])),fun hr' hk=>?_⟩
  obtain ⟨k₁,h1,h2⟩ :=harr.2 hr' (by simp [exitTo,hk])
  exact ⟨k₁,h1,.head f1 s1 h2⟩
 | goto l=>exact (hg _ _ _ hq).elim
 | ret=>exact ⟨_,a₁,w₁,hq,.of_steps (.one f1 s1) harr⟩
 | panic ch=>exact ⟨_,a₁,w₁,hq,.of_steps (.one f1 s1) harr⟩
 | outgrown=>exact ⟨_,a₁,w₁,hq,.of_steps (b:=b) (k:=k) (cs:=cs) (e:=.outgrown) (.one f1 s1) harr⟩
theorem wF {n:Nat} {c:Code} {h:HT}:∀{K:List Nat},yW n K c h=true→∀t∈K,keeps n t c h=true
 | [],_,t,ht=>by cases ht
 | x::r,hk,t,ht=>by
  unfold yW at hk
  split at hk
  ·rename_i hx
   rcases List.mem_cons.1 ht with rfl | ht
   ·exact hx
   ·exact wF hk t ht
  ·contradiction
theorem Ln {n:Nat}:∀{ps:List Nat} {args:List Value} {env:Env} {tmps:Array Value},Gk n ps=true→Ca n env {tmps:=tmps,defers:=[]}→
  Ca n (Pu ps args env) {tmps:=(ps.zip args).foldl (fun tmps (x:Nat × Value)=>tmps.setIfInBounds x.1 x.2) tmps,defers:=[]}
 | [],_,_,_,_,h=>by simpa [Pu] using h
 | _::_,[],_,_,_,h=>by simpa [Pu] using h
 | p::ps,v::vs,env,tmps,hp,h=>by
  unfold Gk at hp
  split at hp <;> try contradiction
  rename_i hpn
  have hpn:p<n:=by simpa [Nat.blt_eq] using hpn
  have:=h.put (dst:=some p) (v:=v) (fun d e=>by simp only [Option.some.injEq] at e; omega)
  exact Ln (ps:=ps) (args:=vs) hp this
theorem QY {P:Program} {w:World} {l:Nat} {h':Hp} (h:Yv l w.heap=some h'):∃w',(Instr.beginRound l).run P w=.ok () w'∧w'.heap=h'∧sj w w':=by
 unfold Yv at h
 split at h <;> try contradiction
 rename_i r hr
 split at h <;> try contradiction
 rename_i hs
 simp only [Option.some.injEq] at h
 refine ⟨{w with heap:=h'},?_,rfl,⟨rfl,rfl,rfl⟩⟩
 simp [Instr.beginRound,Instr.getLoop,getObj,setObj,Sem.run,hr,hs,h]
theorem G1 {P:Program} {w:World} {l:Nat} {j:Option Code} {h':Hp} (h:fin l j w.heap=some h'):∃w',(Instr.endRound l j).run P w=.ok (.bool j.isNone) w'∧w'.heap=h'∧sj w w':=by
 unfold fin at h
 split at h <;> try contradiction
 rename_i r hr
 simp only [Option.some.injEq] at h
 refine ⟨{w with heap:=h'},?_,rfl,⟨rfl,rfl,rfl⟩⟩
 rw [←h]
 simp [Instr.endRound,Instr.getLoop,getObj,setObj,Sem.run,hr]
theorem OL {P:Program} {w:World} {l:Nat} {j:Option Code} {h':Hp} (h:Vh l w.heap=some (j,h')):∃w',(Instr.endLoop l).run P w=.ok j w'∧w'.heap=h'∧sj w w':=by
 unfold Vh at h
 split at h <;> try contradiction
 rename_i r hr
 split at h <;> try contradiction
 rename_i hs
 simp only [Option.some.injEq,Prod.mk.injEq] at h
 refine ⟨{w with heap:=h'},?_,rfl,⟨rfl,rfl,rfl⟩⟩
 rw [←h.1,←h.2]
 have hs':¬r.state=LoopState.busy:=fun e=>hs e
 simp [Instr.endLoop,Instr.getLoop,getObj,setObj,Sem.run,hr,hs']
theorem KC {P:Program} {n:Nat} (hm:P.follows .mixedOrders=true) :
  ∀(c:Code) {F:Fence} (hF:Wd F) {m:Nat} {rd:Bool} (hrd:rd=false→F.round=none) {w0:World} (ht:HT) (E:Ex) (env:Env) (k:Env→Hp→Prop) (T:List Nat) (b:Nat→Option Value) (a:Act) (w:World),(∀t∈T,keeps n t c ht=true)→(∀t∈T,lk env t=b t)→Ca n env a→sj w0 w→
   den P n rd c ht E env w.heap k→c.wpIn F m P (QQ n w0 T b E k) a w:=by
 intro c
 induction c with
 | skip=>intro F hF m rd hrd w0 ht E env k T b a w _ hb hA hR h; exact wpIn_skip ⟨env,hA,hR,hb,by simpa [den] using h⟩
 | label l=>intro F hF m rd hrd w0 ht E env k T b a w _ hb hA hR h; exact wpIn_label ⟨env,hA,hR,hb,by simpa [den] using h⟩
 | exit id=>intro F hF m rd hrd w0 ht E env k T b a w _ hb hA hR h; exact wpIn_exit ⟨env,hA,hR,hb,by simpa [den] using h⟩
 | ret=>intro F hF m rd hrd w0 ht E env k T b a w _ hb hA hR h; exact wpIn_ret ⟨env,hA,hR,hb,by simpa [den] using h⟩
 | region id ops draw=>
  intro F hF m rd hrd w0 ht E env k T b a w hT hb hA hR h
  have hTd:∀o∈ops.toList,∀d,o.dst=some d→d∉T:=by
   intro o ho d hd hdT
   have:=hT d hdT
   unfold keeps at this
   split at this
   ·rename_i hnd; exact CD hnd o ho hd
   ·contradiction
  have hTn:n∈T→∀o∈ops.toList,∀c,o.op≠.defer c:=by
   intro hnT
   have:=hT n hnT
   unfold keeps at this
   split at this
   ·have e:Nat.beq n n=true:=by simp
    rw [e] at this
    exact FL this
   ·contradiction
  cases draw with
  | false=>
   simp only [den] at h
   split at h
   ·rename_i hn
    refine wpIn_region_list (xz hF hrd hn hTd hTn (fun env' a' w' hA' hR' hb' hk=>⟨env',hA',hR',hb',hk⟩) ops.toList env [] a w hb (fun _ h=>h) hA (we.nil _ _) hR h)
   ·contradiction
  | true=>
   cases ht with
   | o ord=>
    simp only [den] at h
    split at h
    ·rename_i ng
     exact Jx hF hm ng hTd (fun env' a' w' hA' hR' hb' hk=>⟨env',hA',hR',hb',hk⟩) hb hA hR h
    ·contradiction
   | _=>simp [den] at h
 | seq x y ihx ihy=>
  intro F hF m rd hrd w0 ht E env k T b a w hT hb hA hR h
  cases ht with
  | s l r=>
   simp only [den] at h
   have hTx:∀t∈T,keeps n t x l=true:=fun t ht=>by have:=hT t ht; simp only [keeps] at this; split at this <;> simp_all
   have hTy:∀t∈T,keeps n t y r=true:=fun t ht=>by have:=hT t ht; simp only [keeps] at this; split at this <;> simp_all
   refine wpIn_seq (wpIn_mono (ihx hF hrd l E env _ T b a w hTx hb hA hR h) fun e a' w' hq=>?_)
   cases e with
   | normal=>
    obtain ⟨env',hA',hR',hb',hk⟩ :=hq
    exact ihy hF hrd r E env' k T b a' w' hTy hb' hA' hR' hk
   | _=>exact hq
  | j S K l r=>
   simp only [den] at h
   split at h
   ·rename_i kv hka hkv
    obtain ⟨J,hJ,hJK⟩ :=M3 h
    have hTx:∀t∈T,t∈K∧t∉S∧keeps n t x l=true∧keeps n t y r=true:=by
     intro t ht
     have:=hT t ht
     simp only [keeps] at this
     split at this
     ·rename_i h1 h2 h3
      exact ⟨yV.1 h1,(fun hs=>by rw [yV.2 hs] at h2; cases h2),h3,this⟩
     ·contradiction
    refine wpIn_seq (wpIn_mono (ihx hF hrd l E env _ K (lk env) a w (wF hka) (fun _ _=>rfl) hA hR hJ) fun e a' w' hq=>?_)
    have hTb:∀(env':Env),(∀t∈K,lk env' t=lk env t)→∀t∈T,lk env' t=b t:=fun env' hK t ht=>(hK t (hTx t ht).1).trans (hb t ht)
    cases e with
    | normal=>
     obtain ⟨env',hA',hR',hK,hk⟩ :=hq
     unfold Lh at hk
     split at hk
     ·rename_i vs hvs
      have hsub:∀t v,lk (NJ (wy S vs) (wy K kv)) t=some v→lk env' t=some v:=by
       intro t v hv
       rw [CX] at hv
       split at hv
       ·rename_i u hu; rw [tY hvs t u hu]; exact hv
       ·have h1:=tY hkv t v hv
        by_cases hKt:t∈K
        ·rw [hK t hKt]; exact h1
        ·rw [sY hKt] at hv; cases hv
      refine ihy hF hrd r E _ k T b a' w' (fun t ht=>(hTx t ht).2.2.2) (fun t ht=>?_) (hA'.sub hsub) hR' (hJK _ _ hk)
      rw [CX,sY (hTx t ht).2.1]
      simp only
      rw [Bg hkv t (hTx t ht).1]
      exact hb t ht
     ·exact hk.elim
    | exit id=>
     obtain ⟨env',hA',hR',hK,hk⟩ :=hq
     exact ⟨env',hA',hR',hTb env' hK,hk⟩
    | ret=>
     obtain ⟨env',hA',hR',hK,hk⟩ :=hq
     exact ⟨env',hA',hR',hTb env' hK,hk⟩
    | _=>exact hq
   ·contradiction
  | _=>simp [den] at h
 | cond c x y ihx ihy=>
  intro F hF m rd hrd w0 ht E env k T b a w hT hb hA hR h
  cases ht with
  | c l r=>
   simp only [den] at h
   have hTx:∀t∈T,keeps n t x l=true:=fun t ht=>by have:=hT t ht; simp only [keeps] at this; split at this <;> simp_all
   have hTy:∀t∈T,keeps n t y r=true:=fun t ht=>by have:=hT t ht; simp only [keeps] at this; split at this <;> simp_all
   split at h
   ·rename_i v hv
    obtain ⟨t,rfl,h1,h2⟩ :=Ib h
    refine wpIn_cond_split (hA.holds c _ hv) (fun e=>?_) (fun e=>?_)
    ·exact ihx hF hrd l E env k T b a w hTx hb hA hR (h1 e)
    ·exact ihy hF hrd r E env k T b a w hTy hb hA hR (h2 e)
   ·contradiction
  | _=>simp [den] at h
 | block id x ih=>
  intro F hF m rd hrd w0 ht E env k T b a w hT hb hA hR h
  cases ht with
  | b t=>
   simp only [den] at h
   have hT':∀s∈T,keeps n s x t=true:=fun s hs=>by have:=hT s hs; simpa [keeps] using this
   refine wpIn_block (wpIn_mono (ih hF hrd t _ env k T b a w hT' hb hA hR h) fun e a' w' hq=>?_)
   cases e with
   | exit i=>
    obtain ⟨env',hA',hR',hK,hk⟩ :=hq
    simp only [Exit.inBlock]
    cases hi:Nat.beq i id with
    | true=>
     rw [if_pos (Nat.eq_of_beq_eq_true hi)]
     refine ⟨env',hA',hR',hK,?_⟩
     simp only [Xb,hi] at hk
     exact hk
    | false=>
     rw [if_neg (fun e=>by subst e; simp at hi)]
     refine ⟨env',hA',hR',hK,?_⟩
     simp only [Xb,hi] at hk
     exact hk
   | _=>exact hq
  | _=>simp [den] at h
 | scope x ih=>
  intro F hF m rd hrd w0 ht E env k T b a w hT hb hA hR h
  simp only [den] at h
  have hT':∀s∈T,keeps n s x ht=true:=fun s hs=>by have:=hT s hs; simpa [keeps] using this
  exact JL (fun _ _ _ h=>h) (ih hF hrd ht E env k T b a w hT' hb hA hR h)
 | loop x ih=>
  intro F hF m rd hrd w0 ht E env k T b a w hT hb hA hR h
  cases ht with
  | l S K t=>
   simp only [den] at h
   have hTx:∀s∈T,s∈K∧s∉S∧keeps n s x t=true:=by
    intro s hs
    have:=hT s hs
    simp only [keeps] at this
    split at this
    ·rename_i h1 h2
     exact ⟨yV.1 h1,(fun hss=>by rw [yV.2 hss] at h2; cases h2),this⟩
    ·contradiction
   split at h
   ·rename_i kv iv hka hkv hiv
    obtain ⟨I,μ,C,h0,hbody,hC⟩ :=M8 h
    let L:List Value→Env:=fun vs=>NJ (wy S vs) (wy K kv)
    have hLb:∀vs,∀s∈T,lk (L vs) s=b s:=by
     intro vs s hs
     show lk (NJ _ _) s=_
     rw [CX,sY (hTx s hs).2.1]
     simp only
     rw [Bg hkv s (hTx s hs).1]
     exact hb s hs
    let M:Act→World→Nat→Prop:=fun a w j=>∃vs,Ca n (L vs) a∧I vs w.heap∧μ vs w.heap=j
    classical
    have hM0:∃j,M a w j:=⟨_,iv,hA.sub (fun s v hv=>by
     have hv':lk (NJ (wy S iv) (wy K kv)) s=some v:=hv
     rw [CX] at hv'
     split at hv'
     ·rename_i u hu; rw [tY hiv s u hu]; exact hv'
     ·exact tY hkv s v hv'),h0,rfl⟩
    refine wpIn_loop (fun a w=>sj w0 w∧∃j,M a w j) (fun a w=>if e:∃j,M a w j then Nat.BC e else 0) ⟨hR,hM0⟩ fun a1 w1 ⟨hR1,hM1⟩ =>?_
    obtain ⟨vs,hA1,hI,hμ⟩ :=Nat.uh hM1
    have hd:=hbody vs w1.heap hI
    refine wpIn_mono (ih hF hrd t E (L vs) _ K (lk (L vs)) a1 w1 (wF hka) (fun s hs=>rfl) hA1 hR1 hd) fun e a2 w2 hq=>?_
    have hTb:∀(env':Env),(∀s∈K,lk env' s=lk (L vs) s)→∀s∈T,lk env' s=b s:=fun env' hK s hs=>(hK s (hTx s hs).1).trans (hLb vs s hs)
    cases e with
    | normal=>
     obtain ⟨env',hA2,hR2,hK2,hk⟩ :=hq
     unfold Lh at hk
     split at hk
     ·rename_i vs' hvs'
      obtain ⟨hI2,hlt⟩ :=hC _ _ _ _ hk
      have hA2':Ca n (L vs') a2:=hA2.sub fun s v hv=>by
       have hv':lk (NJ (wy S vs') (wy K kv)) s=some v:=hv
       rw [CX] at hv'
       split at hv'
       ·rename_i u hu; rw [tY hvs' s u hu]; exact hv'
       ·rename_i hnone
        have hKs:s∈K:=by
         by_cases h:s∈K
         ·exact h
         ·rw [sY h] at hv'; cases hv'
        have hSs:s∉S:=by
         intro h
         rw [Bg hvs' s h] at hnone
         have:=F7 hvs' s h
         rw [hnone] at this; cases this
        rw [hK2 s hKs]
        show lk (NJ _ _) s=_
        rw [CX,sY hSs]
        exact hv'
      have hM2:M a2 w2 (μ vs' w2.heap):=⟨vs',hA2',hI2,rfl⟩
      refine ⟨⟨hR2,_,hM2⟩,?_⟩
      rw [dif_pos ⟨_,hM2⟩,dif_pos hM1]
      exact Nat.lt_of_le_of_lt (Nat.vW ⟨_,hM2⟩ hM2) (by rw [←hμ]; exact hlt)
     ·exact hk.elim
    | exit id=>
     obtain ⟨env',hA2,hR2,hK2,hk⟩ :=hq
     exact ⟨env',hA2,hR2,hTb env' hK2,hk⟩
    | ret=>
     obtain ⟨env',hA2,hR2,hK2,hk⟩ :=hq
     exact ⟨env',hA2,hR2,hTb env' hK2,hk⟩
    | _=>exact hq
   ·contradiction
  | _=>simp [den] at h
 | rangeFunc g ps asn x iha ihx=>
  intro F hF m rd hrd w0 ht E env k T b a w hT hb hA hR h
  cases ht with
  | r ta tx=>
   simp only [den] at h
   split at h <;> try contradiction
   rename_i gv ds hps hgv hds
   have hro:=hrd rfl
   obtain ⟨ds',hds',hdf⟩ :=hA.df _ hds
   simp only [Value.tuple.injEq,Array.mk.injEq] at hds'
   subst hds'
   refine wpIn_rangeFunc fun fn _=>?_
   let o:Loop:={state:=.ready,pending:=none,fn,tmps:=a.tmps,params:=ps,assign:=asn,body:=x,defers:=w.heap.size}
   have hround:∀args h' R,Xx o (w.heap.size+1) h'→(LB ps.toList ((n,.tuple ⟨[]⟩)::env) args fun env0=>den P n true asn ta {Qg:=fun _ _ _=>False,ret:=fun _ _=>False} env0 h' fun env1 h1=>Sb (Yv (w.heap.size+1) h1) fun h2=>
       den P n true x tx {Qg:=fun id _ h3=>Sb (fin (w.heap.size+1) (some (.exit id)) h3) fun h4=>R (.bool false) h4,ret:=fun _ h3=>Sb (fin (w.heap.size+1) (some .ret) h3) fun h4=>R (.bool false) h4} env1 h2 fun _ h3=>Sb (fin (w.heap.size+1) none h3) fun h4=>R (.bool true) h4)→Sy P (w.heap.size+1) args h' R:=by
    intro args h' R ⟨st,pd,hl⟩ hden
    obtain ⟨hlen,hden⟩ :=Ko hden
    intro w1 hw1
    subst hw1
    refine ⟨{o with state:=st,pending:=pd},by simp [Instr.getLoop,getObj,Sem.run,hl],by simpa using hlen,?_⟩
    have hA0:Ca n ((n,.tuple ⟨[]⟩)::env) {tmps:=a.tmps,defers:=[]}:=by
     refine ⟨hA.sz,fun t v ht hv=>?_,fun v hv=>?_⟩
     ·rw [jA,if_neg (by omega)] at hv; exact hA.sl t v ht hv
     ·rw [jA,if_pos rfl] at hv
      simp only [Option.some.injEq] at hv
      exact ⟨[],hv.symm,rfl⟩
    have hA1:=Ln (args:=args) hps hA0
    have etm:(ps.zip args.toArray).foldl (fun tmps (x:Nat × Value)=>tmps.setIfInBounds x.1 x.2) a.tmps=(ps.toList.zip args).foldl (fun tmps (x:Nat × Value)=>tmps.setIfInBounds x.1 x.2) a.tmps:=by
     rw [←Array.foldl_toList]; simp
    refine roundIn_of_wpIn trivial ?_
    show asn.wpIn _ 0 P _ {tmps:=(ps.zip args.toArray).foldl (fun tmps (x:Nat × Value)=>tmps.setIfInBounds x.1 x.2) a.tmps,defers:=[]} w1
    rw [etm]
    refine wpIn_mono (iha (Wd.wide.inRound _) (m:=0) (rd:=true) (fun e=>by cases e) (w0:=w1) ta _ _ _ [] (fun _=>none) _ w1 (fun t ht=>by cases ht) (fun t ht=>by cases ht) hA1 (.refl w1) hden) fun e a1 w2 hq=>?_
    cases e with
    | normal=>
     obtain ⟨env1,hA2,hR2,_,h2,hb2,hk2⟩ :=hq
     obtain ⟨w3,e3,rfl,hR3⟩ :=QY (P:=P) hb2
     refine ⟨w3,e3,?_⟩
     refine wpIn_mono (ihx (Wd.wide.inRound _) (m:=0) (rd:=true) (fun e=>by cases e) (w0:=w1) tx _ _ _ [] (fun _=>none) _ w3 (fun t ht=>by cases ht) (fun t ht=>by cases ht) hA2 (hR2.trans hR3) hk2) fun e a3 w4 hq=>?_
     cases e with
     | normal=>
      obtain ⟨_,_,hR4,_,h4,hf4,hk4⟩ :=hq
      obtain ⟨w5,e5,rfl,hR5⟩ :=G1 (P:=P) hf4
      exact ⟨_,w5,e5,_,rfl,hk4,hR4.trans hR5⟩
     | ret=>
      obtain ⟨_,_,hR4,_,h4,hf4,hk4⟩ :=hq
      obtain ⟨w5,e5,rfl,hR5⟩ :=G1 (P:=P) hf4
      exact ⟨_,w5,e5,_,rfl,hk4,hR4.trans hR5⟩
     | exit id=>
      obtain ⟨_,_,hR4,_,h4,hf4,hk4⟩ :=hq
      obtain ⟨w5,e5,rfl,hR5⟩ :=G1 (P:=P) hf4
      exact ⟨_,w5,e5,_,rfl,hk4,hR4.trans hR5⟩
     | _=>exact hq.elim
    | ret=>obtain ⟨_,_,_,_,hk⟩ :=hq; exact hk.elim
    | exit id=>obtain ⟨_,_,_,_,hk⟩ :=hq; exact hk.elim
    | _=>exact hq.elim
   obtain ⟨f,first,cap,rfl,hf,hc⟩ :=h o rfl rfl hround
   have hev:=hA.holds g _ hgv
   let w1:World:={w with heap:=(w.heap.push (.deferred (some []))).push (.loop o)}
   refine ⟨w.heap.size+1,[{target:=.collected w.heap.size,args:=#[]}],w1,{target:=.fn (.func f) cap,args:=first++#[.func (.yield (w.heap.size+1)) #[] #[]]},w1,f,first++#[.func (.yield (w.heap.size+1)) #[] #[]]++cap,w1,?_,?_,fun f' _=>hF.any f',?_,fun e=>(by rw [hF.depth] at e; cases e),?_⟩
   ·rw [hro]
    simp [Instr.enterLoop,newObj,Sem.run,w1,o]
    rfl
   ·simp only [rangeCall,resolve,hev,Deferred.ofValue,Sem.run_bind,Sem.run_pure,Result.andThen_ok,List.map_toArray,List.map_cons,List.map_nil]
    rfl
   ·simp only [invoke,qZ hf]
   ·have e2:first++#[Value.func (.yield (w.heap.size+1)) #[] #[]]++cap=(first.toList++[Value.func (.yield (w.heap.size+1)) #[] #[]]++cap.toList).toArray:=by simp
    rw [e2]
    refine hF.calls (m:=0) (callsIn_wide.2 ((hc w1 rfl).mono ?_))
    rintro e w3 ⟨v,rfl,⟨j,h3,he,haft⟩,hs⟩
    obtain ⟨w4,e4,rfl,hR4⟩ :=OL (P:=P) he
    have hRw:sj w0 w4:=(hR.trans ((show sj w w1 from ⟨rfl,rfl,rfl⟩).trans hs)).trans hR4
    have hA':Ca n ((n,.tuple ⟨.pointer (some ⟨w.heap.size,0,none⟩)::ds⟩)::env) {a with defers:=[{target:=.collected w.heap.size,args:=#[]}]++a.defers}:=by
     refine ⟨hA.sz,fun t v ht hv=>?_,fun v hv=>?_⟩
     ·rw [jA,if_neg (by omega)] at hv; exact hA.sl t v ht hv
     ·rw [jA,if_pos rfl] at hv
      simp only [Option.some.injEq] at hv
      exact ⟨_,hv.symm,by simp [dec,hdf]⟩
    have hb':∀t∈T,lk ((n,.tuple ⟨.pointer (some ⟨w.heap.size,0,none⟩)::ds⟩)::env) t=b t:=fun t ht=>by
     have h1:=hT t ht
     unfold keeps at h1
     split at h1 <;> try contradiction
     rename_i hne
     rw [jA,if_neg (fun e=>by subst e; simp at hne)]
     exact hb t ht
    refine ⟨j,w4,e4,?_⟩
    unfold Jp at haft
    split at haft
    ·exact ⟨_,hA',hRw,hb',haft⟩
    ·exact wpIn_ret ⟨_,hA',hRw,hb',haft⟩
    ·exact wpIn_exit ⟨_,hA',hRw,hb',haft⟩
    ·exact haft.elim
  | _=>simp [den] at h
 | goto l=>intro F hF m rd hrd w0 ht E env k T b a w _ hb hA hR h; cases ht <;> simp [den] at h
 | refuse s=>intro F hF m rd hrd w0 ht E env k T b a w _ hb hA hR h; cases ht <;> simp [den] at h
theorem Nk {P:Program} {F:Fence} (hF:Wd F) {n m:Nat} {rd:Bool} (hrd:rd=false→F.round=none) (hm:P.follows .mixedOrders=true) {w0:World} (c:Code) (ht:HT) (E:Ex) (env:Env) (k:Env→Hp→Prop) (T:List Nat) (b:Nat→Option Value) (a:Act) (w:World)
  (h1:∀t∈T,keeps n t c ht=true) (h2:∀t∈T,lk env t=b t) (h3:Ca n env a) (h4:sj w0 w) (h5:den P n rd c ht E env w.heap k):c.wpIn F m P (QQ n w0 T b E k) a w:=
 KC hm c hF hrd ht E env k T b a w h1 h2 h3 h4 h5
end Go.En
namespace Go.En
def MD (i:Nat):List Value→Env
 | []=>[]
 | v::r=>(i,v)::MD (i+1) r
def JI (P:Program) (env:Env) (h:Hp):List ResultVar→(List Value→Prop)→Prop
 | [],k=>k []
 | .tmp t::r,k=>match lk env t with
  | some v=>JI P env h r fun vs=>k (v::vs)
  | none=>False
 | .cell a t::r,k=>match lk env a with
  | some p=>Vb (UP (Kb P t) p h) fun v=>JI P env h r fun vs=>k (v::vs)
  | none=>False
def one (vs:List Value):Value:=
 match vs with
 | [v]=>v
 | vs=>.tuple ⟨vs⟩
def tkd (r:Nat) (h:Hp):Option Hp:=
 match h[r]? with
 | some (.deferred (some []))=>some (h.setIfInBounds r (.deferred none))
 | _=>none
theorem Rb {P:Program} {w:World} {r:Nat} {h':Hp} (h:tkd r w.heap=some h'):∃w',(Instr.takeDeferred r).run P w=.ok [] w'∧w'.heap=h'∧sj w w':=by
 unfold tkd at h
 split at h <;> try contradiction
 rename_i hr
 simp only [Option.some.injEq] at h
 refine ⟨{w with heap:=h'},?_,rfl,⟨rfl,rfl,rfl⟩⟩
 rw [←h]
 simp [Instr.takeDeferred,getObj,setObj,Sem.run,hr]
def PY (P:Program) (ds:List Value) (h:Hp) (k:Hp→Prop):Prop:=
 match ds with
 | []=>k h
 | .func (.func f) ⟨first⟩ ⟨[]⟩::r=>match okF P f with
  | true=>SpD P f first h fun h'=>PY P r h' k
  | false=>False
 | .pointer (some ⟨q,0,none⟩)::r=>Sb (tkd q h) fun h'=>PY P r h' k
 | _=>False
def leave (P:Program) (n:Nat) (rs:List ResultVar) (R:Value→Hp→Prop) (env:Env) (h:Hp):Prop:=
 match lk env n with
 | some (.tuple ⟨ds⟩)=>PY P ds h fun h=>JI P env h rs fun vs=>R (one vs) h
 | _=>False
def D2 (n:Nat):List ResultVar→Bool
 | []=>true
 | .tmp t::r=>match Nat.blt t n with
  | true=>D2 n r
  | false=>false
 | .cell t _::r=>match Nat.blt t n with
  | true=>D2 n r
  | false=>false
def Uj (P:Program) (fn:Func) (c:Code) (ht:HT) (args:List Value) (h:Hp) (R:Value→Hp→Prop):Prop:=
 match Nat.ble args.length fn.ntmps,D2 fn.ntmps fn.results.toList with
 | true,true=>den P fn.ntmps false c ht {Qg:=fun _ _ _=>False,ret:=leave P fn.ntmps fn.results.toList R} ((fn.ntmps,.tuple ⟨[]⟩)::MD 0 args) h (leave P fn.ntmps fn.results.toList R)
 | _,_=>False
theorem Ld:∀(args:List Value) (i t:Nat) (v:Value),lk (MD i args) t=some v→i≤t∧args[t - i]?=some v
 | [],i,t,v,h=>by simp [MD,lk] at h
 | u::r,i,t,v,h=>by
  simp only [MD] at h
  rw [jA] at h
  split at h
  ·rename_i e; subst e; simpa using h
  ·obtain ⟨h1,h2⟩ :=Ld r (i+1) t v h
   refine ⟨by omega,?_⟩
   have:t - i=(t - (i+1))+1:=by omega
   rw [this,List.getElem?_cons_succ]
   exact h2
theorem Md {n:Nat} {args:List Value} (hle:args.length≤n):Ca n ((n,.tuple ⟨[]⟩)::MD 0 args) {tmps:=args.toArray++Array.replicate (n - args.toArray.size) undef,defers:=[]}:=by
 refine ⟨by simp; omega,fun t v ht hv=>?_,fun v hv=>?_⟩
 ·rw [jA,if_neg (by omega)] at hv
  obtain ⟨_,h2⟩ :=Ld args 0 t v hv
  have hlt:t<args.length:=by
   rcases Nat.lt_or_ge t args.length with h | h
   ·exact h
   ·rw [List.getElem?_eq_none (by simpa using h)] at h2; cases h2
  simp only [Nat.sub_zero] at h2
  simp only [Array.getD_eq_getD_getElem?]
  rw [Array.getElem?_append_left (by simpa using hlt)]
  simp [h2]
 ·rw [jA,if_pos rfl] at hv
  simp only [Option.some.injEq] at hv
  exact ⟨[],hv.symm,rfl⟩
def Xy (tmps:Array Value):ResultVar→Sem Value
 | .tmp t=>pure (tmps.getD t undef)
 | .cell a t=>do loadVar t (←asAddr (tmps.getD a undef))
theorem JJ (fn:Func) (tmps:Array Value):results fn tmps=(do let vs ←fn.results.mapM (Xy tmps); pure (if h:vs.size=1 then vs[0] else .tuple vs)):=by
 unfold results
 congr 2
theorem Ep {P:Program} {w:World} {n:Nat} {env:Env} {a:Act} (hA:Ca n env a):∀(rs:List ResultVar) (k:List Value→Prop),D2 n rs=true→JI P env w.heap rs k→
  ∃vs,(rs.mapM (Xy a.tmps)).run P w=.ok vs w∧k vs
 | [],k,_,h=>⟨[],rfl,h⟩
 | .tmp t::r,k,hr,h=>by
  simp only [D2] at hr
  split at hr <;> try contradiction
  rename_i ht
  have ht':t<n:=by simpa [Nat.blt_eq] using ht
  simp only [JI] at h
  split at h <;> try contradiction
  rename_i v hv
  obtain ⟨vs,h1,h2⟩ :=Ep hA r _ hr h
  refine ⟨v::vs,?_,h2⟩
  simp only [List.mapM_cons,Sem.run_bind,Xy,Sem.run_pure,Result.andThen_ok,h1,hA.sl t v ht' hv]
 | .cell ad t::r,k,hr,h=>by
  simp only [D2] at hr
  split at hr <;> try contradiction
  rename_i ht
  have ht':ad<n:=by simpa [Nat.blt_eq] using ht
  simp only [JI] at h
  split at h <;> try contradiction
  rename_i p hp
  obtain ⟨v,hv,h⟩ :=h
  obtain ⟨vs,h1,h2⟩ :=Ep hA r _ hr h
  refine ⟨v::vs,?_,h2⟩
  have hl:=EU (P:=P) hv
  have hpp:∃ad',p=.pointer (some ad'):=by
   cases hk:Kb P t <;> rw [hk] at hv <;> simp only [UP] at hv
   ·unfold dU at hv; split at hv <;> first | contradiction | exact ⟨_,rfl⟩
   ·unfold aF at hv; split at hv <;> first | contradiction | exact ⟨_,rfl⟩
   ·contradiction
  obtain ⟨ad',rfl⟩ :=hpp
  simp only [Instr.loadAt,Instr.sureAddr,Sem.run_bind,Sem.run_pure,Result.andThen_ok] at hl
  have hone:(Xy a.tmps (.cell ad t)).run P w=.ok v w:=by
   simp only [Xy,Sem.run_bind,hA.sl ad _ ht' hp,asAddr,Sem.run_pure,Result.andThen_ok,hl]
  simp only [List.mapM_cons,Sem.run_bind,hone,Sem.run_pure,Result.andThen_ok,h1]
theorem Iq {P:Program} {w:World} {fn:Func} {env:Env} {a:Act} {k:Value→Prop} (hA:Ca fn.ntmps env a) (hr:D2 fn.ntmps fn.results.toList=true) (h:JI P env w.heap fn.results.toList fun vs=>k (one vs)) :
  ∃v,(results fn a.tmps).run P w=.ok v w∧k v:=by
 obtain ⟨vs,h1,h2⟩ :=Ep hA fn.results.toList _ hr h
 refine ⟨one vs,?_,h2⟩
 rw [JJ]
 simp only [Sem.run_bind]
 rw [Array.mapM_eq_mapM_toList,Sem.run_map,h1]
 simp only [Result.andThen_ok,Sem.run_pure]
 congr 1
 match vs with
 | []=>rfl
 | [v]=>rfl
 | _::_::_=>simp [one]
theorem Ai {P:Program} {fn:Func} {tmps:Array Value} {R:Value→Hp→Prop} {w0:World} {k:Hp→Prop} (hk:∀w,sj w0 w→k w.heap→∃v,(results fn tmps).run P w=.ok v w∧R v w.heap) :
  ∀(ds:List Value) (w:World),sj w0 w→PY P ds w.heap k→LeavesInM Fence.wide 0 P fn tmps (fun e w'=>∃v,e=.returned v∧R v w'.heap∧sj w0 w') (ds.map dec) .returning w
 | [],w,hR,h=>by
  obtain ⟨v,h1,h2⟩ :=hk w hR h
  exact ⟨v,h1,v,rfl,h2,hR⟩
 | d::ds,w,hR,h=>by
  unfold PY at h
  split at h
  ·rename_i he; cases he
  ·rename_i f first r he
   simp only [List.cons.injEq] at he
   obtain ⟨rfl,rfl⟩ :=he
   split at h <;> try contradiction
   rename_i hf
   refine ⟨by simp,.inr ⟨fun e=>(by cases e),.func f,#[],f,first.toArray,rfl,?_,fun _ _=>trivial,?_⟩⟩
   ·have:=qZ (w:=w) hf first.toArray
    show (callFunc f (first.toArray++#[])).run P w=_
    simpa using this
   ·refine (h w rfl).mono ?_
    rintro e u w' ⟨rfl,⟨v,rfl⟩,hk',hs⟩
    exact Ai hk _ w' (hR.trans hs) hk'
  ·rename_i q r he
   simp only [List.cons.injEq] at he
   obtain ⟨rfl,rfl⟩ :=he
   obtain ⟨h',ht,hk'⟩ :=h
   obtain ⟨w',e1,rfl,hs⟩ :=Rb (P:=P) ht
   exact ⟨by simp,.inl ⟨q,w',rfl,e1,Ai hk _ w' (hR.trans hs) hk'⟩⟩
  ·contradiction
theorem LH {P:Program} {f:FuncId} {fn:Func} {c:Code} {ht:HT} {args:List Value} {h:Hp} {R:Value→Hp→Prop} (hf:P.funcs[f]?=some fn) (hb:fn.body=some c) (hm:P.follows .mixedOrders=true)
  (H:Uj P fn c ht args h R):Sp P f args h R:=by
 intro w hw
 subst hw
 unfold Uj at H
 split at H <;> try contradiction
 rename_i hle hr
 have hA:=Md (n:=fn.ntmps) (args:=args) (Nat.le_of_ble_eq_true hle)
 refine callsIn_wide.1 (callsIn_of_wp_marks (n:=0) hf hb trivial (wpIn_mono (Nk Wd.wide (m:=0) (fun _=>rfl) hm (w0:=w) c ht _ _ _ [] (fun _=>none) _ w (fun t ht=>by cases ht) (fun t ht=>by cases ht) hA (.refl w) H) fun e a w' hq=>?_))
 have fin:∀env,Ca fn.ntmps env a→sj w w'→leave P fn.ntmps fn.results.toList R env w'.heap→LeavesInM Fence.wide 0 P fn a.tmps (fun e w'=>∃v,e=.returned v∧R v w'.heap∧sj w w') a.defers .returning w':=by
  intro env hA' hR' hl
  unfold leave at hl
  split at hl
  ·rename_i ds hds
   obtain ⟨ds',hds',hdf⟩ :=hA'.df _ hds
   simp only [Value.tuple.injEq,Array.mk.injEq] at hds'
   subst hds'
   rw [hdf]
   exact Ai (fun w1 hR1 hk=>Iq (k:=fun v=>R v w1.heap) hA' hr hk) ds w' hR' hl
  ·contradiction
 cases e with
 | normal=>obtain ⟨env,hA',hR',_,hl⟩ :=hq; exact fin env hA' hR' hl
 | ret=>obtain ⟨env,hA',hR',_,hl⟩ :=hq; exact fin env hA' hR' hl
 | exit id=>obtain ⟨env,hA',hR',_,hl⟩ :=hq; exact hl.elim
 | goto l=>exact hq.elim
 | panic ch=>exact hq.elim
 | outgrown=>exact hq.elim
structure Sys where
 C:FuncId→List Value→Hp→(Value→Hp→Prop)→Prop
 Y:Nat→List Value→Hp→(Value→Hp→Prop)→Prop
 D:FuncId→List Value→Hp→(Hp→Prop)→Prop
def Sys.of (P:Program):Sys:={C:=Cl P,Y:=Sy P,D:=SpD P}
def PV (P:Program) (fn:Func) (ht:HT) (args:List Value) (h:Hp) (R:Value→Hp→Prop):Prop:=
 match fn.body with
 | some c=>Uj P fn c ht args h R
 | none=>False
theorem L8 {P:Program} {f:FuncId} {fn:Func} {ht:HT} {args:List Value} {h:Hp} {R:Value→Hp→Prop} {A:Prop} (hf:P.funcs[f]?=some fn) (ng:okF P f=true) (hm:P.follows .mixedOrders=true)
  (he:A=PV P fn ht args h R) (H:A):(Sys.of P).C f args h R:=by
 subst he
 refine ⟨ng,?_⟩
 unfold PV at H
 split at H
 ·rename_i c hc; exact LH hf hc hm H
 ·exact H.elim
def T3 (n:Nat) (x:Value) (m:Nat) (y v:Value) (h:Hp) (R:Value→Hp→Prop):Prop:=
 Vb (ext 0 v) fun a=>Vb (ext 1 v) fun b=>Vb (ext 2 v) fun d=>Sb (aQ n x a h) fun h1=>Sb (aQ m y b h1) fun h2=>Vb (aF n x h2) fun r0=>Vb (aF m y h2) fun r1=>R (.tuple #[r0,r1,d]) h2
def T2 (m:Nat) (y v:Value) (h:Hp) (R:Value→Hp→Prop):Prop:=
 Vb (ext 0 v) fun a=>Vb (ext 1 v) fun b=>Vb (ext 2 v) fun d=>Sb (aQ m y b h) fun h1=>Vb (aF m y h1) fun r1=>R (.tuple #[a,r1,d]) h1
end Go.En
namespace Go.En
theorem vb {o:Option Value} {k:Value→Prop} {v:Value} (h:o=some v) (hk:k v):Vb o k:=⟨v,h,hk⟩
theorem eb {o:Option (Value × Hp)} {k:Value→Hp→Prop} {v:Value} {h':Hp} (h:o=some (v,h')) (hk:k v h'):Eb o k:=⟨v,h',h,hk⟩
theorem sb {o:Option Hp} {k:Hp→Prop} {h':Hp} (h:o=some h') (hk:k h'):Sb o k:=⟨h',h,hk⟩
@[go_sem] theorem bC (v:Value) (k:Value→Prop):Vb (some v) k=k v:=by simp [Vb]
@[go_sem] theorem Gi (A B:Prop):Br (.bool true) A B=A:=rfl
@[go_sem] theorem p9 (A B:Prop):Br (.bool false) A B=B:=rfl
theorem br {b:Bool} {A B:Prop} (h1:b=true→A) (h2:b=false→B):Br (.bool b) A B:=by cases b; exact h2 rfl; exact h1 rfl
theorem pC {p:Prop} [Decidable p] {A B:Prop} (h1:p→A) (h2:¬p→B):Br (.bool (decide p)) A B:=br (fun h=>h1 (by simpa using h)) (fun h=>h2 (by simpa using h))
section
variable {k:IntKind} {a b:Int}
@[go_sem] theorem DQ:bin .add (.int k a) (.int k b)=some (.int k (k.wrap (a+b))):=by simp [bin]
@[go_sem] theorem RS:bin .sub (.int k a) (.int k b)=some (.int k (k.wrap (a - b))):=by simp [bin]
@[go_sem] theorem Bu:bin .mul (.int k a) (.int k b)=some (.int k (k.wrap (a*b))):=by simp [bin]
@[go_sem] theorem iQ:bin .eql (.int k a) (.int k b)=some (.bool (decide (a=b))):=by simp [bin,Bool.beq_eq_decide_eq]
@[go_sem] theorem pJ:bin .neq (.int k a) (.int k b)=some (.bool (decide (a≠b))):=by simp [bin,bne,Bool.beq_eq_decide_eq]
@[go_sem] theorem cH:bin .lss (.int k a) (.int k b)=some (.bool (decide (a<b))):=by simp [bin]
@[go_sem] theorem DJ:bin .leq (.int k a) (.int k b)=some (.bool (decide (a≤b))):=by simp [bin]
@[go_sem] theorem pP:bin .gtr (.int k a) (.int k b)=some (.bool (decide (b<a))):=by simp [bin]
@[go_sem] theorem rZ:bin .geq (.int k a) (.int k b)=some (.bool (decide (b≤a))):=by simp [bin]
theorem Qk (hb:b≠0):bin .rem (.int k a) (.int k b)=some (.int k (a.tmod b)):=by simp [bin,hb]
theorem RY (hb:b≠0):bin .quo (.int k a) (.int k b)=some (.int k (k.wrap (a.tdiv b))):=by simp [bin,hb]
@[go_sem] theorem Ij (x:Bool):BZ (some x)=some (.bool !x):=rfl
end
theorem EZ {n:Int} (h : -9223372036854775808≤n∧n≤9223372036854775807):IntKind.i64.wrap n=n:=by
 rw [IntKind.wrap_i64]; omega
theorem wrS {n:Nat} (h:n<9223372036854775807):IntKind.i64.wrap ((n:Int)+1)=((n+1:Nat):Int):=by
 rw [EZ (by omega)]; rfl
theorem inc {n:Nat} (h:n<9223372036854775807):bin .add (.int .i64 n) (.int .i64 1)=some (.int .i64 (n+1:Nat)):=by rw [DQ,wrS h]
def cl (h:Hp) (r o:Nat):Option Value:=
 match h[r]? with
 | some (.cells c _ _)=>c[o]?
 | _=>none
def fz (h:Hp) (r o:Nat):Bool:=
 match h[r]? with
 | some (.cells _ _ (lo,hi))=>lo≤o&&o<hi
 | _=>false
theorem wD (h:Hp) (r o:Nat):cellAt h ⟨r,o,none⟩=cl h r o:=by unfold cellAt cl; split <;> simp_all
theorem HU (h:Hp) (r o:Nat):frozenAt h ⟨r,o,none⟩=fz h r o:=rfl
theorem Ds (r o i:Nat):(⟨r,o,none⟩:Addr).add i=⟨r,o+i,none⟩ :=by
 unfold Addr.add; split
 ·simp_all
 ·rfl
@[go_sem] theorem oZ (r o j:Nat):fa j (.pointer (some ⟨r,o,none⟩))=some (.pointer (some ⟨r,o+j,none⟩)):=by simp [fa,Ds]
theorem TP (h:Hp) (r o:Nat):dU (.pointer (some ⟨r,o,none⟩)) h=cl h r o:=by simp [dU,wD]
theorem SG {h:Hp} {r o:Nat} {v:Value} (e:cl h r o=some v):r<h.size:=by
 unfold cl at e
 split at e <;> try contradiction
 rename_i hh
 exact (Array.getElem?_eq_some_iff.mp hh).1
structure Ch (D:Nat→Prop) (h h':Hp):Prop where
 size:h.size≤h'.size
 same:∀r,r<h.size→¬D r→h'[r]?=h[r]?
abbrev Gr (h h':Hp):Prop:=Ch (fun _=>False) h h'
theorem Ch.refl (D:Nat→Prop) (h:Hp):Ch D h h:=⟨Nat.le_refl _,fun _ _ _=>rfl⟩
theorem Ch.trans {D D' E:Nat→Prop} {a b c:Hp} (h:Ch D a b) (k:Ch D' b c) (h1:∀r,r<a.size→D r→E r) (h2:∀r,r<a.size→D' r→E r):Ch E a c:=
 ⟨Nat.le_trans h.size k.size,fun r hr hn=>(k.same r (Nat.lt_of_lt_of_le hr h.size) fun e=>hn (h2 r hr e)).trans (h.same r hr fun e=>hn (h1 r hr e))⟩
theorem Ch.mono {D D':Nat→Prop} {a b:Hp} (h:Ch D a b) (hd:∀r,r<a.size→D r→D' r):Ch D' a b:=⟨h.size,fun r hr hn=>h.same r hr fun e=>hn (hd r hr e)⟩
theorem Gr.trans {a b c:Hp} (h:Gr a b) (k:Gr b c):Gr a c:=Ch.trans h k (fun _ _ e=>e) (fun _ _ e=>e)
theorem Ch.push (h:Hp) (o:Obj):Gr h (h.push o):=⟨by simp,fun r hr _=>by rw [Array.getElem?_push]; rw [if_neg (by omega)]⟩
theorem Ch.cl {D:Nat→Prop} {h h':Hp} (c:Ch D h h') {r o:Nat} {v:Value} (hd:¬D r) (e:En.cl h r o=some v):En.cl h' r o=some v:=by
 have hr:=SG e
 unfold En.cl at e⊢
 rw [c.same r hr hd]
 exact e
theorem Ch.fz {D:Nat→Prop} {h h':Hp} (c:Ch D h h') {r o:Nat} (hr:r<h.size) (hd:¬D r):En.fz h' r o=En.fz h r o:=by
 unfold En.fz
 rw [c.same r hr hd]
theorem OX (h:Hp) (r o r' o':Nat) (v u:Value) (hu:cl h r o=some u):cl (setAt h ⟨r,o,none⟩ v) r' o'=if r'=r∧o'=o then some v else cl h r' o':=by
 have hr:=SG hu
 unfold cl at hu
 unfold cl setAt
 rw [Array.getElem?_modify]
 by_cases e:r=r'
 ·subst e
  simp only [if_true,true_and]
  cases hh:h[r]? with
  | none=>rw [hh] at hu; contradiction
  | some ob=>
   rw [hh] at hu
   cases ob <;> simp only at hu <;> try contradiction
   rename_i c el fr
   simp only [Option.map_some,Option.isSome_none,Bool.false_eq_true,if_false]
   have hlt:=(Array.getElem?_eq_some_iff.mp hu).1
   rw [Array.getElem?_setIfInBounds]
   by_cases e2:o=o'
   ·subst e2; simp [hlt]
   ·rw [if_neg e2,if_neg (fun h=>e2 h.symm)]
 ·rw [if_neg e,if_neg (fun h=>e h.1.symm)]
theorem I9 (h:Hp) (a:Addr) (r' o':Nat) (v:Value):fz (setAt h a v) r' o'=fz h r' o':=by
 unfold fz setAt
 rw [Array.getElem?_modify]
 by_cases e:a.block=r'
 ·rw [if_pos e]
  cases hh:h[r']? with
  | none=>rfl
  | some ob=>cases ob <;> rfl
 ·rw [if_neg e]
theorem Jv (h:Hp) (a:Addr) (v:Value):(setAt h a v).size=h.size:=by simp [setAt]
theorem NE (h:Hp) (r o:Nat) (v:Value):Ch (fun x=>x=r) h (setAt h ⟨r,o,none⟩ v):=
 ⟨by simp [setAt],fun x _ hn=>by unfold setAt; rw [Array.getElem?_modify,if_neg (fun e=>hn e.symm)]⟩
structure Up (h h':Hp) (r o:Nat) (vs:List Value):Prop where
 size:h'.size=h.size
 ch:Ch (fun x=>x=r) h h'
 fz:∀r' o',fz h' r' o'=fz h r' o'
 put:∀j v,vs[j]?=some v→cl h' r (o+j)=some v
 uB:∀o',(∀j,j<vs.length→o'≠o+j)→cl h' r o'=cl h r o'
theorem Up.some {h h':Hp} {r o:Nat} {vs:List Value} (u:Up h h' r o vs) {o':Nat} (e:(cl h r o').isSome=true):(cl h' r o').isSome=true:=by
 by_cases k:∃j,j<vs.length∧o'=o+j
 ·obtain ⟨j,hj,rfl⟩ :=k
  rw [u.put j vs[j] (by simp [hj])]; rfl
 ·rw [u.uB o' (fun j hj e=>k ⟨j,hj,e⟩)]; exact e
theorem wg {r o:Nat}:∀(vs:List Value) (i:Nat) (h:Hp),(∀v,v∈vs→v.oneCell'=true)→(∀j,j<vs.length→(cl h r (o+i+j)).isSome=true∧fz h r (o+i+j)=false)→
  ∃h',p5 h ⟨r,o,none⟩ i vs=some h'∧Up h h' r (o+i) vs
 | [],i,h,_,_=>⟨h,rfl,rfl,.refl _ _,fun _ _=>rfl,fun j v e=>by simp at e,fun _ _=>rfl⟩
 | v::vs,i,h,h1,h2=>by
  have h20:=h2 0 (by simp)
  rw [Nat.add_zero] at h20
  obtain ⟨u,hu⟩ :=Option.isSome_iff_exists.mp h20.1
  have hc:∀r' o',cl (setAt h ⟨r,o+i,none⟩ v) r' o'=if r'=r∧o'=o+i then some v else cl h r' o':=fun r' o'=>OX h r (o+i) r' o' v u hu
  obtain ⟨h',e,up⟩ :=wg vs (i+1) (setAt h ⟨r,o+i,none⟩ v) (fun x hx=>h1 x (List.mem_cons_of_mem _ hx)) (fun j hj=>by
   have:=h2 (j+1) (by simpa using hj)
   have e:o+(i+1)+j=o+i+(j+1):=by omega
   rw [e,I9,hc,if_neg (by omega)]
   exact this)
  refine ⟨h',?_,?_⟩
  ·simp only [p5,Ds,h1 v (by simp),wD,hu,HU,h20.2]
   exact e
  ·refine ⟨up.size.trans (Jv _ _ _),Ch.trans (NE h r (o+i) v) up.ch (fun _ _ e=>e) (fun _ _ e=>e),fun r' o'=>(up.fz r' o').trans (I9 _ _ _ _ _),fun j w hj=>?_,fun o' ho=>?_⟩
   ·cases j with
    | zero=>
     simp only [List.getElem?_cons_zero,Option.some.injEq] at hj
     subst hj
     rw [Nat.add_zero,up.uB (o+i) (fun j _=>by omega),hc,if_pos ⟨rfl,rfl⟩]
    | succ j=>
     have e:o+i+(j+1)=o+(i+1)+j:=by omega
     rw [e]
     exact up.put j w (by simpa using hj)
   ·rw [up.uB o' (fun j hj=>by have:=ho (j+1) (by simpa using hj); omega),hc,if_neg (fun e=>ho 0 (by simp) (by omega))]
theorem AK {h:Hp} {r o:Nat}:∀(vs:List Value) (i:Nat),(∀j v,vs[j]?=some v→cl h r (o+i+j)=some v)→sG h ⟨r,o,none⟩ i vs.length=some vs
 | [],_,_=>rfl
 | v::vs,i,hc=>by
  have h0:=hc 0 v rfl
  rw [Nat.add_zero] at h0
  have ih:=AK (h:=h) (r:=r) (o:=o) vs (i+1) (fun j w hj=>by
   have:=hc (j+1) w (by simpa using hj)
   have e:o+(i+1)+j=o+i+(j+1):=by omega
   rw [e]; exact this)
  simp only [List.length_cons,sG,Ds,wD,h0,ih,Option.bind_some]
structure qd (α:Type) where
 n:Nat
 c:α→List Value
 len:∀a,(c a).length=n
 one:∀a v,v∈c a→v.oneCell'=true
def Row {α:Type} (E:qd α) (h:Hp) (r o:Nat) (x:α):Prop:=∀j v,(E.c x)[j]?=some v→cl h r (o+j)=some v
theorem Row.ch {α:Type} {E:qd α} {D:Nat→Prop} {h h':Hp} {r o:Nat} {x:α} (e:Row E h r o x) (c:Ch D h h') (hd:¬D r):Row E h' r o x:=fun j v hv=>c.cl hd (e j v hv)
theorem Row.aF {α:Type} {E:qd α} {h:Hp} {r o:Nat} {x:α} (e:Row E h r o x) {n:Nat} (hn:n=E.n):aF n (.pointer (some ⟨r,o,none⟩)) h=some (.agg (E.c x).toArray):=by
 unfold En.aF
 have:=AK (h:=h) (r:=r) (o:=o) (E.c x) 0 (fun j v hv=>e j v hv)
 rw [E.len] at this
 simp only [hn,this,Option.bind_some]
theorem Row.dU {α:Type} {E:qd α} {h:Hp} {r o j:Nat} {x:α} (e:Row E h r o x) {v:Value} (hv:(E.c x)[j]?=some v):dU (.pointer (some ⟨r,o+j,none⟩)) h=some v:=by
 rw [TP]; exact e j v hv
theorem Row.Co {α:Type} {E:qd α} {h:Hp} {r o:Nat} {x:α} (e:Row E h r o x) {v:Value} (hv:(E.c x)[0]?=some v):En.dU (.pointer (some ⟨r,o,none⟩)) h=some v:=e.dU (j:=0) hv
def Sl {α:Type} (E:qd α) (h:Hp) (v:Value) (xs:List α):Prop:=
 ∃a cap,v=.slice a xs.length cap∧xs.length≤cap∧(a=none→cap=0)∧∀i x,xs[i]?=some x→∃r o,a=some ⟨r,o,none⟩ ∧Row E h r (o+i*E.n) x
def s8:Value→Option Nat
 | .slice (some a) _ _=>some a.block
 | _=>none
def Ow {α:Type} (E:qd α) (h:Hp) (v:Value) (xs:List α):Prop:=
 (v=.slice none 0 0∧xs=[])∨∃r o cap,v=.slice (some ⟨r,o,none⟩) xs.length cap∧xs.length≤cap∧r<h.size∧(∀i x,xs[i]?=some x→Row E h r (o+i*E.n) x)∧
  ∀j,j<cap*E.n→(cl h r (o+j)).isSome=true∧fz h r (o+j)=false
section
variable {α:Type} {E:qd α} {h h':Hp} {v:Value} {xs:List α} {D:Nat→Prop}
theorem Ow.sl (H:Ow E h v xs):Sl E h v xs:=by
 rcases H with ⟨rfl,rfl⟩ | ⟨r,o,cap,rfl,hl,_,hr,_⟩
 ·exact ⟨none,0,rfl,by simp,fun _=>rfl,fun i x hx=>by simp at hx⟩
 ·exact ⟨_,cap,rfl,hl,fun e=>by simp at e,fun i x hx=>⟨r,o,rfl,hr i x hx⟩⟩
theorem Sl.ch (H:Sl E h v xs) (c:Ch D h h') (hd:∀r,s8 v=some r→¬D r):Sl E h' v xs:=by
 obtain ⟨a,cap,rfl,h1,h2,h3⟩ :=H
 refine ⟨a,cap,rfl,h1,h2,fun i x hx=>?_⟩
 obtain ⟨r,o,rfl,hr⟩ :=h3 i x hx
 exact ⟨r,o,rfl,hr.ch c (hd r rfl)⟩
theorem Sl.gr (H:Sl E h v xs) (c:Gr h h'):Sl E h' v xs:=H.ch c fun _ _ e=>e
theorem Ow.ch (H:Ow E h v xs) (c:Ch D h h') (hd:∀r,s8 v=some r→¬D r):Ow E h' v xs:=by
 rcases H with ⟨rfl,rfl⟩ | ⟨r,o,cap,rfl,hl,hb,hr,hw⟩
 ·exact .inl ⟨rfl,rfl⟩
 ·refine .inr ⟨r,o,cap,rfl,hl,Nat.lt_of_lt_of_le hb c.size,fun i x hx=>(hr i x hx).ch c (hd r rfl),fun j hj=>?_⟩
  obtain ⟨a,b⟩ :=hw j hj
  obtain ⟨u,hu⟩ :=Option.isSome_iff_exists.mp a
  exact ⟨by rw [c.cl (hd r rfl) hu]; rfl,by rw [c.fz hb (hd r rfl)]; exact b⟩
theorem Ow.nil:Ow E h (.slice none 0 0) []:=.inl ⟨rfl,rfl⟩
theorem Sl.nil:Sl E h (.slice none 0 0) []:=Ow.nil.sl
theorem Sl.ln (H:Sl E h v xs):lu v=some (.int .i64 xs.length):=by obtain ⟨a,cap,rfl,_⟩ :=H; rfl
theorem Ow.lt (H:Ow E h v xs) {r:Nat} (hr:s8 v=some r):r<h.size:=by
 rcases H with ⟨rfl,rfl⟩ | ⟨r',o,cap,rfl,hl,hb,_⟩
 ·simp [s8] at hr
 ·simp only [s8,Option.some.injEq] at hr; omega
theorem Sl.ix (H:Sl E h v xs) {i:Nat} {x:α} (hx:xs[i]?=some x) {n:Nat} (hn:n=E.n) {k:IntKind} {z:Int} (hz:z=i) :
  ∃r o,lQ n v (.int k z)=some (.pointer (some ⟨r,o,none⟩))∧Row E h r o x∧s8 v=some r:=by
 obtain ⟨a,cap,rfl,h1,h2,h3⟩ :=H
 obtain ⟨r,o,rfl,hr⟩ :=h3 i x hx
 have hlt:=(List.getElem?_eq_some_iff.mp hx).1
 subst hz hn
 exact ⟨r,o+i*E.n,by simp [lQ,hlt,Ds],hr,rfl⟩
theorem Sl.whole (H:Sl E h v xs) {n:Nat} (hn:n=E.n) {k:Value→Prop} {i:Nat} {x:α} (hx:xs[i]?=some x) {q:IntKind} {z:Int} (hz:z=i) (hk:k (.agg (E.c x).toArray)) :
  Vb (lQ n v (.int q z)) fun p=>Vb (aF n p h) k:=by
 obtain ⟨r,o,e,hr,_⟩ :=H.ix hx hn hz (k:=q)
 exact vb e (vb (hr.aF hn) hk)
theorem Sl.one (H:Sl E h v xs) {n:Nat} (hn:n=E.n) {k:Value→Prop} {i:Nat} {x:α} (hx:xs[i]?=some x) {q:IntKind} {z:Int} (hz:z=i) {u:Value} (hu:(E.c x)[0]?=some u) (hk:k u) :
  Vb (lQ n v (.int q z)) fun p=>Vb (dU p h) k:=by
 obtain ⟨r,o,e,hr,_⟩ :=H.ix hx hn hz (k:=q)
 exact vb e (vb (hr.Co hu) hk)
theorem Sl.A4 (H:Sl E h v xs) {n:Nat} (hn:n=E.n) {k:Value→Prop} {i:Nat} {x:α} (hx:xs[i]?=some x) {q:IntKind} {z:Int} (hz:z=i) {j:Nat} {u:Value} (hu:(E.c x)[j]?=some u) (hk:k u) :
  Vb (lQ n v (.int q z)) fun p=>Vb (fa j p) fun p=>Vb (dU p h) k:=by
 obtain ⟨r,o,e,hr,_⟩ :=H.ix hx hn hz (k:=q)
 exact vb e (vb (oZ _ _ _) (vb (hr.dU hu) hk))
theorem DR (E:qd α):∀(xs:List α) (j:Nat) (u:Value),(xs.flatMap E.c)[j]?=some u→∃i x j',xs[i]?=some x∧(E.c x)[j']?=some u∧j=i*E.n+j'
 | [],j,u,h=>by simp at h
 | x::xs,j,u,h=>by
  rw [List.flatMap_cons] at h
  by_cases hj:j<(E.c x).length
  ·rw [List.getElem?_append_left hj] at h
   exact ⟨0,x,j,rfl,h,by simp⟩
  ·rw [List.getElem?_append_right (by omega),E.len] at h
   obtain ⟨i,y,j',h1,h2,h3⟩ :=DR E xs _ u h
   rw [E.len] at hj
   exact ⟨i+1,y,j',by simpa using h1,h2,by rw [Nat.succ_mul]; omega⟩
theorem ry (E:qd α):∀xs:List α,(xs.flatMap E.c).length=xs.length*E.n
 | []=>by simp
 | x::xs=>by rw [List.flatMap_cons,List.length_append,ry E xs,E.len,List.length_cons,Nat.succ_mul]; omega
theorem Sl.row (H:Sl E h v xs) {n:Nat} (hn:n=xs.length*E.n):rowOf v n h=some (xs.flatMap E.c):=by
 obtain ⟨a,cap,rfl,h1,h2,h3⟩ :=H
 subst hn
 cases xs with
 | nil=>
  cases a with
  | none=>rfl
  | some a=>simp [rowOf,sG]
 | cons x0 xs0=>
  obtain ⟨r,o,rfl,_⟩ :=h3 0 x0 rfl
  unfold rowOf
  rw [←ry]
  refine AK _ _ fun j u hj=>?_
  obtain ⟨i,x,j',e1,e2,rfl⟩ :=DR E _ j u hj
  obtain ⟨r',o',e,hr⟩ :=h3 i x e1
  simp only [Option.some.injEq,Addr.mk.injEq,and_true] at e
  obtain ⟨rfl,rfl⟩ :=e
  have:=hr j' u e2
  rw [Nat.add_zero,←Nat.add_assoc]
  exact this
end
theorem yI (z:Array Value) (n:Nat):(Builtin.zeroCells z n).size=n*z.size:=by simp [Builtin.zeroCells]
theorem ap {α:Type} {E:qd α} {e:TypeId} {zero:Array Value} {n bytes:Nat} {s x:Value} {h:Hp} {xs ys:List α} {k:Value→Hp→Prop}
  (hs:Ow E h s xs) (hx:Sl E h x ys) (hn:n=E.n) (hz:zero.size=E.n) (hb:(xs.length+ys.length)*bytes≤140737488355328) (hl:xs.length+ys.length≤9223372036854775807)
  (hk:∀v h',Ow E h' v (xs++ys)→Ch (fun r=>s8 s=some r) h h'→(s8 v=s8 s∨s8 v=some h.size)→k v h'):Ap e zero n bytes s x h k:=by
 obtain ⟨xa,xc,ex,hxc,hxn,hxr⟩ :=id hx
 have hxrow:=hx.row rfl
 subst hn
 have hsl:=hs.sl
 have hsrow:=hsl.row rfl
 have grow:∀(sn:Option Addr) (sc:Nat),s=.slice sn xs.length sc→∀cap,xs.length+ys.length≤cap→k (.slice (some ⟨h.size,0,none⟩) (xs.length+ys.length) cap) (h.push (.cells ((xs.flatMap E.c).toArray++(ys.flatMap E.c).toArray++Builtin.zeroCells zero (cap - (xs.length+ys.length))) e)):=by
  intro sn sc hsn cap hcap
  refine hk _ _ (.inr ⟨h.size,0,cap,by simp,by simpa using hcap,by simp,fun i y hy=>?_,fun j hj=>?_⟩) ((Ch.push h _).mono fun _ _ e=>e.elim) (.inr rfl)
  ·intro j u hu
   have hfl:((xs++ys).flatMap E.c)[i*E.n+j]?=some u:=by
    clear hk hx hxrow hsrow hsl hs hb hl hcap hsn hxr
    generalize xs++ys=zs at hy
    induction zs generalizing i with
    | nil=>simp at hy
    | cons z zs ih=>
     rw [List.flatMap_cons]
     cases i with
     | zero=>
      simp only [List.getElem?_cons_zero,Option.some.injEq] at hy
      subst hy
      rw [Nat.zero_mul,Nat.zero_add,List.getElem?_append_left (List.getElem?_eq_some_iff.mp hu).1]
      exact hu
     | succ i=>
      have:=ih i (by simpa using hy)
      rw [List.getElem?_append_right (by rw [E.len,Nat.succ_mul]; omega),E.len]
      have e2:(i+1)*E.n+j - E.n=i*E.n+j:=by rw [Nat.succ_mul]; omega
      rw [e2]; exact this
   have hlt:=(List.getElem?_eq_some_iff.mp hfl).1
   unfold cl
   simp only [Array.getElem?_push_size,Nat.zero_add]
   rw [Array.getElem?_append_left (by rw [List.flatMap_append,List.length_append] at hlt; simpa using hlt)]
   rw [List.flatMap_append] at hfl
   simpa using hfl
  ·unfold cl fz
   simp only [Array.getElem?_push_size,Nat.zero_add]
   refine ⟨?_,by simp⟩
   have:j<((xs.flatMap E.c).toArray++(ys.flatMap E.c).toArray++Builtin.zeroCells zero (cap - (xs.length+ys.length))).size:=by
    have h1:=ry E xs
    have h2:=ry E ys
    simp only [Array.size_append,List.size_toArray,yI,hz,h1,h2]
    have:cap=xs.length+ys.length+(cap - (xs.length+ys.length)):=by omega
    rw [this,Nat.add_mul,Nat.add_mul] at hj
    exact hj
   rw [Array.getElem?_eq_getElem this]; rfl
 rcases hs with ⟨rfl,rfl⟩ | ⟨r,o,cap,rfl,hcap,hr,wJ,hw⟩
 ·refine ⟨none,0,0,xa,ys.length,xc,_,rfl,ex,hxrow,fun hle=>?_,fun _=>⟨by simpa using hb,by simpa using hl,_,hsrow,fun cap hc _=>by simpa using grow none 0 rfl cap (by simpa using hc)⟩⟩
  have:ys=[]:=List.length_eq_zero_iff.mp (by omega)
  subst this
  simp only [List.length_nil,Nat.add_zero]
  exact hk _ _ (.inl ⟨rfl,rfl⟩) (.refl _ _) (.inl rfl)
 ·refine ⟨_,xs.length,cap,xa,ys.length,xc,_,rfl,ex,hxrow,fun hle=>?_,fun _=>⟨hb,hl,_,hsrow,fun cap' hc _=>grow _ _ rfl cap' hc⟩⟩
  have ea:(⟨r,o,none⟩:Addr).add (xs.length*E.n)=⟨r,o+xs.length*E.n,none⟩ :=Ds _ _ _
  show ∃h',p5 h ((⟨r,o,none⟩:Addr).add (xs.length*E.n)) 0 (ys.flatMap E.c)=some h'∧_
  rw [ea]
  obtain ⟨h',e1,up⟩ :=wg (r:=r) (o:=o+xs.length*E.n) (ys.flatMap E.c) 0 h (fun u hu=>by
    obtain ⟨y,_,hy⟩ :=List.mem_flatMap.mp hu
    exact E.one y u hy) (fun j hj=>by
    rw [ry] at hj
    have:=hw (xs.length*E.n+j) (by
     have:(xs.length+ys.length)*E.n≤cap*E.n:=Nat.mul_le_mul_right _ hle
     rw [Nat.add_mul] at this; omega)
    rw [Nat.add_zero,Nat.add_assoc]; exact this)
  refine ⟨h',e1,hk _ _ (.inr ⟨r,o,cap,by simp,by simpa using hle,by rw [up.size]; exact hr,fun i y hy j u hu=>?_,fun j hj=>?_⟩) (up.ch.mono fun x _ e=>by subst e; rfl) (.inl rfl)⟩
  ·have hj:j<E.n:=by have:=(List.getElem?_eq_some_iff.mp hu).1; rwa [E.len] at this
   by_cases hi:i<xs.length
   ·rw [List.getElem?_append_left hi] at hy
    rw [up.uB _ (fun j' _=>by
     have:(i+1)*E.n≤xs.length*E.n:=Nat.mul_le_mul_right _ hi
     rw [Nat.succ_mul] at this; omega)]
    exact wJ i y hy j u hu
   ·rw [List.getElem?_append_right (by omega)] at hy
    have hfl:(ys.flatMap E.c)[(i - xs.length)*E.n+j]?=some u:=by
     generalize i - xs.length=q at hy
     clear hk hx hxrow hsrow hsl hb hl hcap wJ hw grow up e1 hle hxr hxc ex
     induction ys generalizing q with
     | nil=>simp at hy
     | cons z zs ih=>
      rw [List.flatMap_cons]
      cases q with
      | zero=>
       simp only [List.getElem?_cons_zero,Option.some.injEq] at hy
       subst hy
       rw [Nat.zero_mul,Nat.zero_add,List.getElem?_append_left (by rw [E.len]; exact hj)]
       exact hu
      | succ q=>
       have:=ih q (by simpa using hy)
       rw [List.getElem?_append_right (by rw [E.len,Nat.succ_mul]; omega),E.len]
       have e2:(q+1)*E.n+j - E.n=q*E.n+j:=by rw [Nat.succ_mul]; omega
       rw [e2]; exact this
    have:=up.put _ _ hfl
    have hh:o+i*E.n+j=o+xs.length*E.n+0+((i - xs.length)*E.n+j):=by
     obtain ⟨q,rfl⟩:∃q,i=xs.length+q:=⟨i - xs.length,by omega⟩
     rw [Nat.add_sub_cancel_left,Nat.add_mul]; omega
    rw [hh]; exact this
  ·exact ⟨up.some (hw j hj).1,by rw [up.fz]; exact (hw j hj).2⟩
end Go.En
namespace Go.En
section
variable {α:Type} {E:qd α} {h h':Hp} {v:Value} {xs:List α}
theorem KS:∀{xs:List α} {i:Nat} {y:α} {j:Nat} {u:Value},xs[i]?=some y→(E.c y)[j]?=some u→(xs.flatMap E.c)[i*E.n+j]?=some u
 | [],_,_,_,_,h,_=>by simp at h
 | z::zs,i,y,j,u,hy,hu=>by
  rw [List.flatMap_cons]
  cases i with
  | zero=>
   simp only [List.getElem?_cons_zero,Option.some.injEq] at hy
   subst hy
   rw [Nat.zero_mul,Nat.zero_add,List.getElem?_append_left (List.getElem?_eq_some_iff.mp hu).1]
   exact hu
  | succ i=>
   have:=KS (xs:=zs) (i:=i) (by simpa using hy) hu
   rw [List.getElem?_append_right (by rw [E.len,Nat.succ_mul]; omega),E.len]
   have e2:(i+1)*E.n+j - E.n=i*E.n+j:=by rw [Nat.succ_mul]; omega
   rw [e2]; exact this
theorem Ow.new {cs:Array Value} {e:TypeId} {cap:Nat} (hc:∀(j:Nat) (u:Value),(xs.flatMap E.c)[j]?=some u→cs[j]?=some u) (hl:xs.length≤cap) (hcap:cap*E.n≤cs.size) :
  Ow E (h.push (.cells cs e)) (.slice (some ⟨h.size,0,none⟩) xs.length cap) xs:=by
 refine .inr ⟨h.size,0,cap,rfl,hl,by simp,fun i x hx j u hu=>?_,fun j hj=>?_⟩
 ·unfold cl
  simp only [Array.getElem?_push_size,Nat.zero_add]
  exact hc _ _ (KS hx hu)
 ·unfold cl fz
  simp only [Array.getElem?_push_size,Nat.zero_add]
  exact ⟨by rw [Array.getElem?_eq_getElem (by omega)]; rfl,by simp⟩
theorem Ow.lit {cs:List Value} {e:TypeId} {len:Nat} (hc:cs=xs.flatMap E.c) (hl:xs.length=len):Ow E (h.push (.cells ⟨cs⟩ e)) (.slice (some ⟨h.size,0,none⟩) len len) xs:=by
 subst hl hc
 exact Ow.new (fun (j:Nat) (u:Value) hj=>by simpa using hj) (Nat.le_refl _) (by rw [List.size_toArray,ry]; exact Nat.le_refl _)
theorem E3 (off:Nat):∀(l:List Value) (i:Nat) (cs:List Value),off+i+l.length≤cs.length→((l.zipIdx i).foldl (fun (cs:Array Value) (x:Value × Nat)=>cs.setIfInBounds (off+x.2) x.1) cs.toArray).toList=cs.take (off+i)++l++cs.drop (off+i+l.length)
 | [],i,cs,_=>by simp
 | u::l,i,cs,h=>by
  rw [List.length_cons] at h
  rw [List.zipIdx_cons,List.foldl_cons]
  have e:cs.toArray.setIfInBounds (off+i) u=(cs.set (off+i) u).toArray:=by simp
  simp only [e]
  rw [E3 off l (i+1) (cs.set (off+i) u) (by rw [List.length_set]; omega),List.set_eq_take_append_cons_drop,if_pos (by omega)]
  have hl:(cs.take (off+i)).length=off+i:=by rw [List.length_take]; omega
  have e1:(cs.take (off+i)++u::cs.drop (off+i+1)).take (off+(i+1))=cs.take (off+i)++[u]:=by
   rw [List.take_append,hl,List.take_of_length_le (by omega),show off+(i+1) - (off+i)=1 by omega]; rfl
  have e2:(cs.take (off+i)++u::cs.drop (off+i+1)).drop (off+(i+1)+l.length)=cs.drop (off+i+(l.length+1)):=by
   rw [List.drop_append,hl,List.drop_of_length_le (by omega),List.nil_append,show off+(i+1)+l.length - (off+i)=l.length+1 by omega,List.drop_succ_cons,List.drop_drop]
   congr 1; omega
  rw [e1,e2,List.length_cons]
  simp
theorem LA {n:Nat}:∀(us:List Value) (i:Nat) (cs:List Value),cs.length=(i+us.length)*n→(∀u,u∈us→u.cells.size=n)→
  Instr.fill (fun i=>some (i*n,n)) cs.toArray ((us.zipIdx i).map fun x=>(x.2,x.1))=some (cs.take (i*n)++us.flatMap fun u=>u.cells.toList).toArray
 | [],i,cs,h,_=>by
  simp only [List.zipIdx_nil,List.map_nil,Instr.fill,List.flatMap_nil,List.append_nil]
  rw [List.take_of_length_le (by simp at h; omega)]
 | u::us,i,cs,h,hu=>by
  have h1:=hu u (by simp)
  rw [List.zipIdx_cons,List.map_cons]
  unfold Instr.fill
  simp only [List.length_cons] at h
  have hm:(i+(us.length+1))*n=i*n+n+us.length*n:=by rw [Nat.add_mul,Nat.add_mul,Nat.one_mul]; omega
  rw [hm] at h
  have hc:(u.cells.size≠n||i*n+u.cells.size > cs.toArray.size)=false:=by simp [h1]; omega
  simp only [hc,Bool.false_eq_true,if_false]
  have hf:(u.cells.zipIdx.foldl (fun cs x=>cs.setIfInBounds (i*n+x.2) x.1) cs.toArray)=(cs.take (i*n)++u.cells.toList++cs.drop (i*n+n)).toArray:=by
   apply Array.ext'
   rw [←Array.foldl_toList,Array.toList_zipIdx,E3]
   ·have:u.cells.toList.length=n:=by simpa using h1
    rw [Nat.add_zero,this]
   ·have:u.cells.toList.length=n:=by simpa using h1
    rw [Nat.add_zero,this]; omega
  have hL:u.cells.toList.length=n:=by simpa using h1
  have hT:(cs.take (i*n)).length=i*n:=by rw [List.length_take]; omega
  rw [hf,LA us (i+1) _ (by rw [List.length_append,List.length_append,hT,hL,List.length_drop,Nat.add_mul,Nat.add_mul,Nat.one_mul]; omega) (fun u h=>hu u (List.mem_cons_of_mem _ h))]
  congr 2
  rw [Nat.succ_mul,List.flatMap_cons,←List.append_assoc]
  congr 1
  rw [List.take_append,List.length_append,hT,hL,Nat.sub_self,List.take_zero,List.append_nil,List.take_of_length_le (by rw [List.length_append,hT,hL]; omega)]
theorem JN {zero:Array Value} {n len:Nat} {e:TypeId} {us:List Value} {parts:List (Nat × Value)} (hp:parts=us.zipIdx.map fun x=>(x.2,x.1)) (hl:us.length=len) (hu:∀u,u∈us→u.cells.size=n) :
  pb zero n len e parts h=some (.slice (some ⟨h.size,0,none⟩) len len,h.push (.cells ⟨us.flatMap fun u=>u.cells.toList⟩ e)):=by
 unfold pb
 subst hp
 have:=LA (n:=n) us 0 ((Array.range (len*n)).map (zero[· % zero.size]!)).toList (by simp [hl]) hu
 rw [Array.toArray_toList] at this
 rw [this]
 simp
theorem Ow.ix (H:Ow E h v xs) {i:Nat} {x:α} (hx:xs[i]?=some x) {n:Nat} (hn:n=E.n) {k:IntKind} {z:Int} (hz:z=i) :
  ∃r o cap,v=.slice (some ⟨r,o,none⟩) xs.length cap∧lQ n v (.int k z)=some (.pointer (some ⟨r,o+i*E.n,none⟩))∧Row E h r (o+i*E.n) x:=by
 rcases H with ⟨rfl,rfl⟩ | ⟨r,o,cap,rfl,hl,hb,hr,hw⟩
 ·simp at hx
 ·have hlt:=(List.getElem?_eq_some_iff.mp hx).1
  subst hz hn
  exact ⟨r,o,cap,rfl,by simp [lQ,hlt,Ds],hr i x hx⟩
theorem Ow.put (H:Ow E h v xs) {i:Nat} {x y:α} (hx:xs[i]?=some x) {j:Nat} {vs:List Value} (hy:∀j' u,(E.c y)[j']?=some u→if j≤j'∧j'<j+vs.length then vs[j' - j]?=some u else (E.c x)[j']?=some u)
  (hj:j+vs.length≤E.n) (hone:∀u,u∈vs→u.oneCell'=true) {n:Nat} (hn:n=E.n) {q:IntKind} {z:Int} (hz:z=i) :
  ∃r o h',lQ n v (.int q z)=some (.pointer (some ⟨r,o,none⟩))∧p5 h ⟨r,o+j,none⟩ 0 vs=some h'∧Ow E h' v (xs.set i y)∧Ch (fun r=>s8 v=some r) h h'∧h'.size=h.size:=by
 obtain ⟨r,o,cap,rfl,e1,wJ⟩ :=H.ix hx hn hz (k:=q)
 have hlt:=(List.getElem?_eq_some_iff.mp hx).1
 rcases H with ⟨e,_⟩ | ⟨r',o',cap',e,hl,hb,hr,hw⟩
 ·simp at e
 simp only [Value.slice.injEq,Option.some.injEq,Addr.mk.injEq,and_true,true_and] at e
 obtain ⟨⟨rfl,rfl⟩,rfl⟩ :=e
 have hmul:i*E.n+E.n≤xs.length*E.n:=by have:(i+1)*E.n≤xs.length*E.n:=Nat.mul_le_mul_right _ hlt; rw [Nat.succ_mul] at this; exact this
 have hmul2:xs.length*E.n≤cap*E.n:=Nat.mul_le_mul_right _ hl
 obtain ⟨h',e2,up⟩ :=wg (r:=r) (o:=o+i*E.n+j) vs 0 h hone (fun j' hj'=>by
  have:=hw (i*E.n+j+j') (by omega)
  rw [Nat.add_zero,show o+i*E.n+j+j'=o+(i*E.n+j+j') by omega]; exact this)
 refine ⟨r,o+i*E.n,h',e1,e2,.inr ⟨r,o,cap,by simp,by simpa using hl,by rw [up.size]; exact hb,fun i' x' hx' j' u hu=>?_,fun j' hj'=>?_⟩,up.ch.mono fun x _ e=>by subst e; rfl,up.size⟩
 ·have hj':j'<E.n:=by have:=(List.getElem?_eq_some_iff.mp hu).1; rwa [E.len] at this
  rw [Nat.add_zero] at up
  by_cases hii:i'=i
  ·subst hii
   rw [List.getElem?_set_self hlt,Option.some.injEq] at hx'
   subst hx'
   have:=hy j' u hu
   split at this
   ·rename_i hc
    have h3:=up.put (j' - j) u this
    rw [show o+i'*E.n+j+(j' - j)=o+i'*E.n+j' by omega] at h3
    exact h3
   ·rename_i hc
    rw [up.uB _ (fun q hq=>by omega)]
    exact wJ j' u this
  ·rw [List.getElem?_set_ne (fun e=>hii e.symm)] at hx'
   have hne:∀q,q<vs.length→o+i'*E.n+j'≠o+i*E.n+j+q:=by
    intro q hq
    rcases Nat.lt_or_gt_of_ne hii with hlt' | hgt'
    ·have:(i'+1)*E.n≤i*E.n:=Nat.mul_le_mul_right _ hlt'
     rw [Nat.succ_mul] at this; omega
    ·have:(i+1)*E.n≤i'*E.n:=Nat.mul_le_mul_right _ hgt'
     rw [Nat.succ_mul] at this; omega
   rw [up.uB _ hne]
   exact hr i' x' hx' j' u hu
 ·exact ⟨up.some (hw j' hj').1,by rw [up.fz]; exact (hw j' hj').2⟩
theorem LC {r o n:Nat} {cs:List Value} (hn:cs.length=n):aQ n (.pointer (some ⟨r,o,none⟩)) (.agg ⟨cs⟩) h=p5 h ⟨r,o,none⟩ 0 cs:=by
 have:Nat.beq (Value.cells (.agg ⟨cs⟩)).size n=true:=by simp [Value.cells,hn]
 simp only [aQ,this]; rfl
theorem Rh {r o:Nat} {u:Value} (hu:u.oneCell'=true):aQ 1 (.pointer (some ⟨r,o,none⟩)) u h=p5 h ⟨r,o,none⟩ 0 [u]:=by
 cases u <;> first | rfl | contradiction
theorem Ow.set (H:Ow E h v xs) {i:Nat} (hi:i<xs.length) (y:α) {n:Nat} (hn:n=E.n) {q:IntKind} {z:Int} (hz:z=i) {k:Hp→Prop} {w:Value} (hw:w=.agg ⟨E.c y⟩)
  (hk:∀h',Ow E h' v (xs.set i y)→Ch (fun r=>s8 v=some r) h h'→k h'):Vb (lQ n v (.int q z)) fun p=>Sb (aQ n p w h) k:=by
 obtain ⟨r,o,h',e1,e2,e3,e4,_⟩ :=H.put (List.getElem?_eq_getElem hi) (y:=y) (j:=0) (vs:=E.c y) (fun j' u hu=>by
  rw [if_pos ⟨Nat.zero_le _,by have:=(List.getElem?_eq_some_iff.mp hu).1; omega⟩]; exact hu) (by rw [E.len]; omega) (E.one y) hn hz (q:=q)
 subst hw
 exact vb e1 (sb ((LC (by rw [E.len,hn])).trans e2) (hk h' e3 e4))
theorem Ow.II (H:Ow E h v xs) {i:Nat} {x:α} (hx:xs[i]?=some x) (y:α) {n:Nat} (hn:n=E.n) {q:IntKind} {z:Int} (hz:z=i) {j:Nat} {k:Hp→Prop} {w:Value} (hw:w.oneCell'=true) (hj:j<E.n) (hy:E.c y=(E.c x).set j w)
  (hk:∀h',Ow E h' v (xs.set i y)→Ch (fun r=>s8 v=some r) h h'→k h'):Vb (lQ n v (.int q z)) fun p=>Vb (fa j p) fun p=>Sb (aQ 1 p w h) k:=by
 obtain ⟨r,o,h',e1,e2,e3,e4,_⟩ :=H.put hx (y:=y) (j:=j) (vs:=[w]) (fun j' u hu=>by
  rw [hy,List.getElem?_set] at hu
  split
  ·rename_i hc
   have:j=j':=by simp only [List.length_cons,List.length_nil] at hc; omega
   subst this
   rw [if_pos rfl] at hu
   split at hu <;> simp_all
  ·rename_i hc
   rw [if_neg (fun e=>hc (by subst e; simp))] at hu
   exact hu) (by simp; omega) (by simpa using hw) hn hz (q:=q)
 exact vb e1 (vb (oZ _ _ _) (sb ((Rh hw).trans e2) (hk h' e3 e4)))
theorem U2 {n:Nat} {a:Option Addr} {len cap:Nat} {lo hi:Option Value} {l u:Nat} (hl:lo=none∧l=0∨∃k z,lo=some (.int k z)∧z=l) (hu:hi=none∧u=len∨∃k z,hi=some (.int k z)∧z=u) (h1:l≤u) (h2:u≤cap) :
  vR n (.slice a len cap) lo hi none=some (.slice (if cap=l then a else a.map (·.add (l*n))) (u - l) (cap - l)):=by
 have e2:Kl hi len cap=some u:=by
  rcases hu with ⟨rfl,rfl⟩ | ⟨k,z,rfl,rfl⟩
  ·rfl
  ·simp [Kl,Tt,h2]
 have e3:Ft lo u=some l:=by
  rcases hl with ⟨rfl,rfl⟩ | ⟨k,z,rfl,rfl⟩
  ·rfl
  ·simp [Ft,Tt,h1]
 simp [vR,Nb,Pm,e2,e3,MM]
theorem Sl.sub (H:Sl E h v xs) {n:Nat} (hn:n=E.n) {lo hi:Option Value} {l u:Nat} (hl:lo=none∧l=0∨∃k z,lo=some (.int k z)∧z=l) (hu:hi=none∧u=xs.length∨∃k z,hi=some (.int k z)∧z=u) (h1:l≤u) (h2:u≤xs.length) :
  ∃w,vR n v lo hi none=some w∧Sl E h w ((xs.take u).drop l)∧(s8 w=s8 v):=by
 obtain ⟨a,cap,rfl,h3,h4,h5⟩ :=H
 refine ⟨_,U2 hl hu h1 (Nat.le_trans h2 h3),?_,?_⟩
 ·refine ⟨_,_,by rw [List.length_drop,List.length_take]; congr 1; omega,by rw [List.length_drop,List.length_take]; omega,?_,fun i x hx=>?_⟩
  ·intro e
   split at e
   ·omega
   ·have:=h4 (by simpa using e); omega
  ·rw [List.getElem?_drop] at hx
   have hlt:=(List.getElem?_eq_some_iff.mp hx).1
   rw [List.length_take] at hlt
   rw [List.getElem?_take_of_lt (by omega)] at hx
   obtain ⟨r,o,rfl,hr⟩ :=h5 _ _ hx
   rw [if_neg (by omega)]
   refine ⟨r,o+l*n,by simp [Ds],?_⟩
   subst hn
   rw [Nat.add_mul] at hr
   rw [Nat.add_assoc]; exact hr
 ·split
  ·cases a <;> rfl
  ·cases a with
   | none=>rfl
   | some a=>simp only [s8,Option.map_some]; unfold Addr.add; split <;> rfl
end
def gD {α:Type} (ps:List (Int × α)) (k:Int):Option α:=(ps.find? fun p=>p.1 == k).map (·.2)
def r8 {α:Type}:List (Int × α)→Int→α→List (Int × α)
 | [],k,x=>[(k,x)]
 | p::ps,k,x=>if p.1=k then (k,x)::ps else p::r8 ps k x
theorem wU {α:Type} (k k':Int) (x:α):∀ps:List (Int × α),gD (r8 ps k x) k'=if k'=k then some x else gD ps k'
 | []=>by
  by_cases h:k'=k
  ·subst h; simp [gD,r8]
  ·have h':¬k=k':=fun e=>h e.symm
   simp [gD,r8,h,h']
 | p::ps=>by
  have ih:=wU k k' x ps
  unfold gD at ih⊢
  unfold r8
  by_cases h:p.1=k
  ·rw [if_pos h]
   by_cases h2:k'=k
   ·subst h2; simp
   ·rw [if_neg h2,List.find?_cons_of_neg (by simpa using fun e=>h2 e.symm),List.find?_cons_of_neg (by rw [h]; simpa using fun e=>h2 e.symm)]
  ·rw [if_neg h]
   by_cases h3:p.1=k'
   ·rw [List.find?_cons_of_pos (by simpa using h3),List.find?_cons_of_pos (by simpa using h3),if_neg (by rw [←h3]; exact h)]
   ·rw [List.find?_cons_of_neg (by simpa using h3),List.find?_cons_of_neg (by simpa using h3)]; exact ih
theorem H9 {α:Type} {k:Int} {x:α} {p:Int × α}:∀{ps:List (Int × α)},p∈r8 ps k x→p=(k,x)∨p∈ps
 | [],h=>by simpa [r8] using h
 | q::ps,h=>by
  unfold r8 at h
  split at h
  ·rcases List.mem_cons.mp h with e | e
   ·exact .inl e
   ·exact .inr (List.mem_cons_of_mem _ e)
  ·rcases List.mem_cons.mp h with e | e
   ·exact .inr (by rw [e]; simp)
   ·exact (H9 e).imp id (List.mem_cons_of_mem _)
theorem Aw {α:Type} (k:Int) (x:α):∀{ps:List (Int × α)},(ps.map (·.1)).Nodup→((r8 ps k x).map (·.1)).Nodup
 | [],_=>by simp [r8]
 | p::ps,h=>by
  rw [List.map_cons,List.nodup_cons] at h
  unfold r8
  split
  ·rename_i e
   rw [List.map_cons,List.nodup_cons]
   exact ⟨by simpa [←e] using h.1,h.2⟩
  ·rename_i e
   rw [List.map_cons,List.nodup_cons]
   refine ⟨fun hm=>?_,Aw k x h.2⟩
   obtain ⟨q,hq,e2⟩ :=List.mem_map.mp hm
   rcases H9 hq with rfl | hq
   ·exact e e2.symm
   ·exact h.1 (List.mem_map.mpr ⟨q,hq,e2⟩)
theorem Cs {α:Type} {ps:List (Int × α)} (hn:(ps.map (·.1)).Nodup) {k:Int} {x:α}:(k,x)∈ps↔gD ps k=some x:=by
 induction ps with
 | nil=>simp [gD]
 | cons p ps ih=>
  rw [List.map_cons,List.nodup_cons] at hn
  have ih:=ih hn.2
  unfold gD at ih⊢
  by_cases h:p.1=k
  ·rw [List.find?_cons_of_pos (by simpa using h)]
   simp only [Option.map_some,Option.some.injEq,List.mem_cons]
   constructor
   ·rintro (e | e)
    ·rw [←e]
    ·exact absurd (List.mem_map.mpr ⟨_,e,h.symm⟩) hn.1
   ·intro e; left; rw [←h,←e]
  ·rw [List.find?_cons_of_neg (by simpa using h),←ih,List.mem_cons]
   constructor
   ·rintro (e | e)
    ·exact absurd (by rw [←e]) h
    ·exact e
   ·exact .inr
structure Wa {α:Type} (ik:IntKind) (E:α→Value) (es:List MapEntry) (ps:List (Int × α)) (clock:Nat):Prop where
 Qt:es.map (fun e=>(e.key,e.val))=ps.map (fun p=>(Value.int ik p.1,E p.2))
 born:∀e,e∈es→e.born<clock
 nodup:(es.map (·.born)).Nodup
def Mp {α:Type} (ik:IntKind) (E:α→Value) (h:Hp) (v:Value) (ps:List (Int × α)):Prop:=
 ∃r es clock,v=.map (some r)∧h[r]?=some (.map es clock)∧Wa ik E es.toList ps clock
def Bw:Value→Option Nat
 | .map r=>r
 | _=>none
theorem DD {α:Type} {ik:IntKind} {E:α→Value} {k:Int}:∀{es:List MapEntry} {ps:List (Int × α)} (i:Nat),es.map (fun e=>(e.key,e.val))=ps.map (fun p=>(Value.int ik p.1,E p.2))→
  ∃r,Instr.findNow (.int ik) (.int ik k) es i=some r∧r.map (·.2)=(gD ps k).map E∧
   ∀j u,r=some (j,u)→∃es1 e es2 ps1 p ps2,es=es1++e::es2∧ps=ps1++p::ps2∧es1.length=j - i∧i≤j∧ps1.length=es1.length∧p.1=k∧(∀q∈ps1,q.1≠k)∧e.key=.int ik k
 | [],[],i,_=>⟨none,rfl,rfl,fun j u e=>by simp at e⟩
 | [],_::_,_,h=>by simp at h
 | _::_,[],_,h=>by simp at h
 | e::es,p::ps,i,h=>by
  simp only [List.map_cons,List.cons.injEq,Prod.mk.injEq] at h
  obtain ⟨⟨h1,h2⟩,h3⟩ :=h
  unfold Instr.findNow
  rw [h1]
  simp only [Instr.sameNow,if_true]
  by_cases hk:k=p.1
  ·subst hk
   simp only [beq_self_eq_true]
   refine ⟨_,rfl,by simp [gD,h2],fun j u hj=>?_⟩
   simp only [Option.some.injEq,Prod.mk.injEq] at hj
   obtain ⟨rfl,rfl⟩ :=hj
   exact ⟨[],e,es,[],p,ps,rfl,rfl,by simp,Nat.le_refl _,rfl,rfl,fun q hq=>by simp at hq,h1⟩
  ·have:(k == p.1)=false:=by simpa using hk
   simp only [this]
   obtain ⟨r,a1,a2,a3⟩ :=DD (k:=k) (i+1) h3
   refine ⟨r,a1,?_,fun j u hj=>?_⟩
   ·rw [a2]; unfold gD; rw [List.find?_cons_of_neg (by simpa using fun e=>hk e.symm)]
   ·obtain ⟨es1,e',es2,ps1,p',ps2,rfl,rfl,b1,b2,b3,b4,b5,b6⟩ :=a3 j u hj
    refine ⟨e::es1,e',es2,p::ps1,p',ps2,rfl,rfl,by simp; omega,by omega,by simp [b3],b4,fun q hq=>?_,b6⟩
    rcases List.mem_cons.mp hq with rfl | hq
    ·exact fun e=>hk e.symm
    ·exact b5 q hq
section
variable {α:Type} {ik:IntKind} {E:α→Value} {h h':Hp} {v:Value} {ps:List (Int × α)} {D:Nat→Prop}
theorem Mp.new:Mp ik E (h.push (.map #[] 0)) (.map (some h.size)) []:=⟨h.size,#[],0,rfl,by simp,rfl,fun e he=>by simp at he,by simp⟩
theorem Mp.ch (H:Mp ik E h v ps) (c:Ch D h h') (hd:∀r,Bw v=some r→¬D r):Mp ik E h' v ps:=by
 obtain ⟨r,es,clock,rfl,hh,he⟩ :=H
 exact ⟨r,es,clock,rfl,(c.same r (Array.getElem?_eq_some_iff.mp hh).1 (hd r rfl)).trans hh,he⟩
theorem Mp.gr (H:Mp ik E h v ps) (c:Gr h h'):Mp ik E h' v ps:=H.ch c fun _ _ e=>e
theorem Mp.lt (H:Mp ik E h v ps) {r:Nat} (hr:Bw v=some r):r<h.size:=by
 obtain ⟨r',es,clock,rfl,hh,he⟩ :=H
 simp only [Bw,Option.some.injEq] at hr
 subst hr
 exact (Array.getElem?_eq_some_iff.mp hh).1
theorem Mp.look (H:Mp ik E h v ps) {zero:Value} {k:Int}:MF (.int ik) zero false v (.int ik k) h=some (((gD ps k).map E).getD zero):=by
 obtain ⟨r,es,clock,rfl,hh,he⟩ :=H
 obtain ⟨f,h1,h2,_⟩ :=DD (k:=k) 0 he.Qt
 simp [MF,zg,hh,h1,h2]
theorem H0 {p:Int × α} {k:Int} {x:α}:∀{ps1 ps2:List (Int × α)},(∀q∈ps1,q.1≠k)→p.1=k→r8 (ps1++p::ps2) k x=ps1++(k,x)::ps2
 | [],ps2,_,h=>by simp [r8,h]
 | q::ps1,ps2,h1,h2=>by
  rw [List.cons_append,r8,if_neg (h1 q (by simp)),H0 (fun q hq=>h1 q (List.mem_cons_of_mem _ hq)) h2,List.cons_append]
theorem Im {k:Int} {x:α}:∀{ps:List (Int × α)},gD ps k=none→r8 ps k x=ps++[(k,x)]
 | [],_=>rfl
 | p::ps,h=>by
  unfold gD at h
  by_cases e:p.1=k
  ·rw [List.find?_cons_of_pos (by simpa using e)] at h; simp at h
  ·rw [List.find?_cons_of_neg (by simpa using e)] at h
   rw [r8,if_neg e,Im h,List.cons_append]
theorem Mp.put (H:Mp ik E h v ps) (k:Int) (x:α):∃h',CZ (.int ik) v (.int ik k) (E x) h=some h'∧Mp ik E h' v (r8 ps k x)∧Ch (fun r=>Bw v=some r) h h'∧h'.size=h.size:=by
 obtain ⟨r,es,clock,rfl,hh,he⟩ :=H
 obtain ⟨f,h1,h2,h3⟩ :=DD (k:=k) 0 he.Qt
 have hlt:=(Array.getElem?_eq_some_iff.mp hh).1
 have hch:∀o,Ch (fun r'=>Bw (.map (some r))=some r') h (h.setIfInBounds r o):=fun o=>⟨by simp,fun r' _ hn=>by rw [Array.getElem?_setIfInBounds,if_neg (fun e=>hn (by rw [←e]; rfl))]⟩
 cases f with
 | some y=>
  obtain ⟨j,u⟩ :=y
  refine ⟨_,by simp only [CZ,zg,hh,h1]; rfl,⟨r,_,clock,rfl,by rw [Array.getElem?_setIfInBounds,if_pos rfl,if_pos hlt],?_⟩,hch _,by simp⟩
  obtain ⟨es1,e,es2,ps1,p,ps2,a1,rfl,a3,a4,a5,a6,a7,a8⟩ :=h3 j u rfl
  have hm:(es.modify j fun e=>{e with key:=.int ik k,val:=E x}).toList=es1++{e with key:=.int ik k,val:=E x}::es2:=by
   rw [Array.toList_modify,a1]
   have:j=es1.length:=by omega
   rw [this,List.modify_eq_take_cons_drop (by simp)]
   simp
  rw [hm]
  have hd:=he.Qt
  rw [a1,List.map_append,List.map_append,List.map_cons,List.map_cons] at hd
  obtain ⟨d1,d2⟩ :=List.append_inj hd (by simp [a5])
  simp only [List.cons.injEq] at d2
  refine ⟨?_,?_,?_⟩
  ·rw [H0 a7 a6,List.map_append,List.map_append,List.map_cons,List.map_cons,d1,d2.2]
  ·intro e' he'
   rcases List.mem_append.mp he' with m | m
   ·exact he.born e' (by rw [a1]; simp [m])
   ·rcases List.mem_cons.mp m with rfl | m
    ·exact he.born e (by rw [a1]; simp)
    ·exact he.born e' (by rw [a1]; simp [m])
  ·have:=he.nodup
   rw [a1] at this
   simpa using this
 | none=>
  have hnone:gD ps k=none:=by simpa using h2.symm
  refine ⟨_,by simp only [CZ,zg,hh,h1]; rfl,⟨r,_,clock+1,rfl,by rw [Array.getElem?_setIfInBounds,if_pos rfl,if_pos hlt],?_⟩,hch _,by simp⟩
  rw [Array.toList_push]
  refine ⟨?_,?_,?_⟩
  ·rw [Im hnone,List.map_append,List.map_append,he.Qt]; rfl
  ·intro e' he'
   rcases List.mem_append.mp he' with m | m
   ·exact Nat.lt_succ_of_lt (he.born e' m)
   ·simp only [List.mem_singleton] at m; subst m; exact Nat.lt_succ_self _
  ·rw [List.map_append,List.nodup_append]
   refine ⟨he.nodup,by simp,fun a ha b hb=>?_⟩
   obtain ⟨e',hm,rfl⟩ :=List.mem_map.mp ha
   simp only [List.map_cons,List.map_nil,List.mem_singleton] at hb
   have:=he.born e' hm
   omega
end
end Go.En
namespace Go.En
def Fs (h:Hp) (v:Value):Prop:=∀r,s8 v=some r→h.size≤r
def Nw (h:Hp) (s v:Value):Prop:=∀r,s8 v=some r→s8 s=some r∨h.size≤r
section
variable {α:Type} {E:qd α} {h h0 h':Hp} {v s:Value} {xs ys:List α}
theorem apw {e:TypeId} {zero:Array Value} {n bytes:Nat} {x:Value} {k:Value→Hp→Prop}
  (hs:Ow E h s xs) (hx:Sl E h x ys) (hn:n=E.n) (hz:zero.size=E.n) (hb:(xs.length+ys.length)*bytes≤140737488355328) (hl:xs.length+ys.length≤9223372036854775807)
  (hk:∀v h',Ow E h' v (xs++ys)→Ch (fun r=>s8 s=some r) h h'→Nw h s v→k v h'):Ap e zero n bytes s x h k:=
 ap hs hx hn hz hb hl fun v h' a b c=>hk v h' a b fun r e=>by
  rcases c with c | c
  ·exact .inl (c▸e)
  ·rw [c] at e; simp only [Option.some.injEq] at e; exact .inr (by omega)
end
structure Va {α:Type} (E:qd α) (h:Hp) (r:Nat) (x:α):Prop where
 lt:r<h.size
 row:Row E h r 0 x
 wr:∀j,j<E.n→(cl h r j).isSome=true∧fz h r j=false
abbrev cA (r:Nat):Value:=.pointer (some ⟨r,0,none⟩)
section
variable {α:Type} {E:qd α} {h h':Hp} {x y:α} {r:Nat} {D:Nat→Prop}
theorem Va.ch (H:Va E h r x) (c:Ch D h h') (hd:¬D r):Va E h' r x:=
 ⟨Nat.lt_of_lt_of_le H.lt c.size,H.row.ch c hd,fun j hj=>by
  obtain ⟨a,b⟩ :=H.wr j hj
  obtain ⟨u,hu⟩ :=Option.isSome_iff_exists.mp a
  exact ⟨by rw [c.cl hd hu]; rfl,by rw [c.fz H.lt hd]; exact b⟩⟩
theorem Va.whole (H:Va E h r x) {n:Nat} (hn:n=E.n):aF n (cA r) h=some (.agg ⟨E.c x⟩):=H.row.aF hn
theorem Va.A4 (H:Va E h r x) {j:Nat} {u:Value} (hu:(E.c x)[j]?=some u) {k:Value→Prop} (hk:k u):Vb (fa j (cA r)) fun p=>Vb (dU p h) k:=
 vb (oZ _ _ _) (vb (H.row.dU hu) hk)
theorem Va.new {cs:Array Value} {e:TypeId} (hc:cs.toList=E.c x):Va E (h.push (.cells cs e)) h.size x:=by
 have hs:cs.size=E.n:=by rw [←Array.length_toList,hc,E.len]
 refine ⟨by simp,fun j u hu=>?_,fun j hj=>?_⟩
 ·unfold cl
  simp only [Array.getElem?_push_size,Nat.zero_add]
  rw [←hc] at hu
  simpa using hu
 ·unfold cl fz
  simp only [Array.getElem?_push_size]
  exact ⟨by rw [Array.getElem?_eq_getElem (by omega)]; rfl,by simp⟩
theorem Va.put (H:Va E h r x) {j:Nat} {vs:List Value} (hy:∀j' u,(E.c y)[j']?=some u→if j≤j'∧j'<j+vs.length then vs[j' - j]?=some u else (E.c x)[j']?=some u)
  (hj:j+vs.length≤E.n) (hone:∀u,u∈vs→u.oneCell'=true):∃h',p5 h ⟨r,j,none⟩ 0 vs=some h'∧Va E h' r y∧Ch (fun q=>q=r) h h'∧h'.size=h.size:=by
 obtain ⟨h',e2,up⟩ :=wg (r:=r) (o:=j) vs 0 h hone (fun j' hj'=>by rw [Nat.add_zero]; exact H.wr _ (by omega))
 rw [Nat.add_zero] at up
 refine ⟨h',e2,⟨by rw [up.size]; exact H.lt,fun j' u hu=>?_,fun j' hj'=>⟨up.some (H.wr j' hj').1,by rw [up.fz]; exact (H.wr j' hj').2⟩⟩,up.ch,up.size⟩
 rw [Nat.zero_add]
 have:=hy j' u hu
 split at this
 ·have h3:=up.put (j' - j) u this
  rw [show j+(j' - j)=j' by omega] at h3
  exact h3
 ·rw [up.uB _ (fun q hq=>by omega)]
  have:=H.row j' u this
  rw [Nat.zero_add] at this; exact this
theorem Va.aQ (H:Va E h r x) (y:α) {n:Nat} (hn:n=E.n) {w:Value} (hw:w=.agg ⟨E.c y⟩) {k:Hp→Prop} (hk:∀h',Va E h' r y→Ch (fun q=>q=r) h h'→k h'):Sb (aQ n (cA r) w h) k:=by
 obtain ⟨h',e1,e2,e3,_⟩ :=H.put (y:=y) (j:=0) (vs:=E.c y) (fun j' u hu=>by
  rw [if_pos ⟨Nat.zero_le _,by have:=(List.getElem?_eq_some_iff.mp hu).1; omega⟩]; exact hu) (by rw [E.len]; omega) (E.one y)
 subst hw
 exact sb ((LC (by rw [E.len,hn])).trans e1) (hk h' e2 e3)
end
section
variable {α:Type} {ik:IntKind} {E:α→Value} {h h':Hp} {v:Value} {ps:List (Int × α)}
theorem Mp.CZ (H:Mp ik E h v ps) (k:Int) (x:α) {w:Value} (hw:w=E x) {K:Hp→Prop} (hK:∀h',Mp ik E h' v (r8 ps k x)→Ch (fun r=>Bw v=some r) h h'→K h') :
  Sb (En.CZ (.int ik) v (.int ik k) w h) K:=by
 subst hw
 obtain ⟨h',a,b,c,_⟩ :=H.put k x
 exact sb a (hK h' b c)
end
theorem Qm {α:Type} {E:qd α} {h:Hp} {x0:α} {zero:Array Value} {n size bytes:Nat} {e:TypeId} (hz:zero.toList=E.c x0) (hs:size=E.n) (hb:n≤1000000000) (hb2:bytes≤10000) {k:Value→Hp→Prop}
  (hk:∀h',Ow E h' (.slice (some ⟨h.size,0,none⟩) n n) (List.replicate n x0)→Gr h h'→h'.size=h.size+1→k (.slice (some ⟨h.size,0,none⟩) n n) h'):Eb (J9 zero size bytes e (.int .i64 n) (.int .i64 n) h) k:=by
 have hm:n*bytes≤1000000000*10000:=Nat.mul_le_mul hb hb2
 refine eb (h':=h.push (.cells ((Array.range (n*size)).map (zero[· % zero.size]!)) e)) (v:=.slice (some ⟨h.size,0,none⟩) n n) ?_ (hk _ ?_ (Ch.push _ _) (by simp))
 ·simp only [J9]
  rw [if_pos ⟨by omega,by omega,by omega,by have:((n*bytes:Nat):Int)=(n:Int)*(bytes:Int):=(by simp); omega⟩]
  simp
 ·have hzs:zero.size=E.n:=by rw [←Array.length_toList,hz,E.len]
  have:=Ow.new (E:=E) (h:=h) (xs:=List.replicate n x0) (cs:=(Array.range (n*size)).map (zero[· % zero.size]!)) (e:=e) (cap:=n) (fun j u hj=>?_) (by simp) (by simp [hs])
  ·simpa using this
  ·obtain ⟨i,x,j',e1,e2,rfl⟩ :=DR E _ j u hj
   have hx:x=x0:=by rw [List.getElem?_replicate] at e1; split at e1 <;> simp_all
   subst hx
   have hi:i<n:=by have:=(List.getElem?_eq_some_iff.mp e1).1; simpa using this
   have hj':j'<E.n:=by have:=(List.getElem?_eq_some_iff.mp e2).1; rwa [E.len] at this
   have hlt:i*E.n+j'<n*size:=by
    have:(i+1)*E.n≤n*E.n:=Nat.mul_le_mul_right _ hi
    rw [Nat.succ_mul] at this; rw [hs]; omega
   have hmod:(i*E.n+j') % zero.size=j':=by rw [hzs,Nat.mul_comm,Nat.mul_add_mod,Nat.mod_eq_of_lt hj']
   have hz':zero[j']?=some u:=by rw [←Array.getElem?_toList,hz]; exact e2
   simp only [Array.getElem?_map,Array.getElem?_range,hlt,if_true,Option.map_some,hmod]
   have hlz:j'<zero.size:=by omega
   rw [getElem!_pos zero j' hlz]
   rw [Array.getElem?_eq_getElem hlz] at hz'
   exact hz'
end Go.En
