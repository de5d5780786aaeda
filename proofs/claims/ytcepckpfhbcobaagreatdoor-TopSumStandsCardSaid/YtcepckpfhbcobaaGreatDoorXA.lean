/- Library, part A. -/
import Derived.CallsIn
import Derived.OrdersIn
import Derived.DefersIn
import Derived.TacticsIn
import Derived.Laws.Append
import Derived.Laws.CopyRow
import Derived.Laws.Entries
import Derived.Laws.Build
import Derived.KernelRfl
import Derived.Laws.StructEq
import Derived.MapKept
import Derived.Laws.Externs
import Derived.RangeFuncIn
import Derived.RangeFuncLeaves
import Derived.ProofKit
import Derived.SizedLaws
import Derived.Deep.Slices
import Derived.Deep.Fields
import Derived.OpenShut
import Derived.Test.YtcepckpfhbcobaaGreatDoorProg
set_option maxRecDepth 100000
set_option linter.defProp false
namespace Go.En
def aB:=@List.getElem?_eq_getElem
def aC:=@List.getElem?_eq_some_iff
def aD:=@Option.some.injEq
def aE:=@List.length_singleton
def aF:=@List.length_append
def aG:=@List.mem_of_getElem?
def aH:=@List.length_cons
def aI:=@List.getD_eq_getElem?_getD
def aJ:=@List.length_nil
def aK:=@Option.bind_eq_some_iff
def aL:=@List.mem_cons_of_mem
def aM:=@List.mem_cons_self
def aN:=@List.mem_singleton
def aO:=@Nat.zero_le
def aP:=@Nat.le_refl
def aQ:=@And.intro
def aR:=@List.length_take
def aU:=@List.mem_cons
def aV:=@List.length_set
def aW:=@List.take_of_length_le
def aX:=@List.getElem?_cons_zero
def aY:=@List.getElem?_append_left
def aZ:=@Array.getElem?_eq_some_iff
def bA:=@Int.le_refl
def bB:=@List.mem_append
def bC:=@Classical.byContradiction
def bD:=@List.getElem?_append_right
def bE:=@List.length_map
def bF:=@List.not_mem_nil
def bG:=@List.getLast?_eq_getElem?
def bH:=@List.getElem?_set
def bI:=@Array.getElem?_setIfInBounds
def bJ:=@Nat.eq_of_beq_eq_true
def bK:=@List.mem_iff_getElem
def bL:=@Int.natCast_nonneg
def bN:=@List.take_add_one
def bO:=@Bool.and_eq_true
def bP:=@List.drop_eq_getElem_cons
def bQ:=@Int.toNat_natCast
def bR:=@List.length_replicate
def bS:=@List.map_cons
def bT:=@List.length_dropLast
def bU:=@List.getElem?_map
def bV:=@Prod.mk.injEq
def bW:=@List.getElem?_eq_none
def bX:=@List.find?_cons_of_neg
def bZ:=@Array.getElem?_eq_getElem
def cB:=@Option.map_some
def cC:=@Bool.false_eq_true
def cD:=@Nat.le_trans
def cF:=@List.length_eq_zero_iff
def cG:=@List.all_eq_true
def cH:=@Array.mem_toList_iff
def cI:=@List.length_drop
def cJ:=@List.mem_or_eq_of_mem_set
def cK:=@List.cons.inj
def cL:=@List.find?_cons_of_pos
def cM:=@List.map_append
def cN:=@Nat.succ_mul
def cO:=@Array.getD_eq_getD_getElem?
def cP:=@Nat.zero_add
def cQ:=@Decidable.not_not
def cR:=@List.getElem?_cons_succ
def cS:=@Array.mem_of_getElem?
def cT:=@List.getElem?_mapIdx
def cU:=@Option.some.inj
def cV:=@Array.getElem?_push_size
def cX:=@List.append_nil
def cY:=@List.append_assoc
def cZ:=@Nat.le_succ_of_le
def dA:=@Nat.lt_of_lt_of_le
def dB:=@List.length_mapIdx
def dC:=@List.mem_map
def dD:=@List.take_length
def dE:=@List.flatMap_cons
def dF:=@Nat.mul_le_mul_right
def dG:=@Nat.add_zero
def dH:=@List.drop_eq_nil_of_le
def dI:=@Bool.not_eq_true'
def dJ:=@List.getElem?_replicate
def dK:=@List.mem_of_find?_eq_some
def dL:=@List.cons_append
def dM:=@List.getElem_mem
def dN:=@Classical.not_not
def dP:=@List.mem_range
def dQ:=@Int.eq_ofNat_of_zero_le
def dR:=@List.mem_of_mem_take
def dS:=@List.map_nil
def dT:=@Option.bind_some
def dU:=@Int.ofNat_lt
def dV:=@List.length_range
def dW:=@List.drop_zero
def dX:=@Nat.le_of_ble_eq_true
def dY:=@List.foldl_cons
def dZ:=@List.getElem?_take_of_lt
def eC:=@List.find?_eq_none
def eE:=@List.map_toArray
def eF:=@List.mem_append_left
def eG:=@List.filter_cons_of_neg
def eH:=@List.filter_cons_of_pos
def eI:=@Int.add_zero
def eJ:=@List.nodup_cons
def eK:=@List.nil_append
def eL:=@Array.length_toList
def eM:=@Nat.le_succ
def eN:=@Int.tmod_nonneg
def eO:=@List.drop_of_length_le
def eP:=@Int.tdiv_eq_ediv_of_nonneg
def eR:=@List.mem_append_right
def eS:=@Option.toList_some
def eT:=@Nat.add_mul
def eU:=@List.getElem?_zip_eq_some
def eX:=@List.cons.injEq
def eY:=@List.find?_some
def eZ:=@Nat.zero_mul
def fA:=@Nat.sub_self
def fB:=@List.flatMap_append
def fC:=@Iff.rfl
def fD:=@List.getElem?_range
def fE:=@Option.getD_some
def fF:=@Bool.not_eq_true
def fG:=@Nat.blt_eq
def fH:=@Array.ext'
def fI:=@List.getElem?_set_self
def fJ:=@List.length_eq_one_iff
def fK:=@Nat.lt_of_le_of_lt
def fL:=@List.getElem?_drop
def fM:=@Int.tmod_lt_of_pos
def fN:=@List.perm_append_comm
def fO:=@List.Perm.append_left
def fP:=@Bool.true_and
def fQ:=@Nat.add_assoc
def fR:=@List.foldl_append
def fS:=@Array.getElem?_append_left
def fT:=@BitVec.toInt_eq_toNat_bmod
def fU:=@List.mem_of_mem_drop
def fV:=@List.mem_of_mem_tail
def fW:=@Int.toNat_of_nonneg
def fX:=@Option.isSome_iff_exists
def fY:=@List.eq_of_mem_replicate
def fZ:=@List.length_filterMap_le
def gA:=@Nat.eq_zero_or_pos
def gB:=@Array.empty_append
def gC:=@Bool.or_eq_true
def gD:=@List.mem_filterMap
def gE:=@Bool.false_ne_true
def gF:=@List.zip_cons_cons
def gG:=@List.eraseP_cons_of_neg
def gH:=@Array.all_eq_true_iff_forall_mem
def gI:=@List.size_toArray
def gJ:=@Int.emod_eq_of_lt
def gK:=@List.ext_getElem?
def gL:=@Nat.lt_trichotomy
def gM:=@List.take_zero
def gN:=@List.nodup_nil
def gO:=@Array.getElem?_modify
def gP:=@List.any_eq_true
def gQ:=@List.getLast?_eq_some_getLast
def gR:=@Int.natCast_zero
def gS:=@List.contains_eq_mem
def gT:=@Array.toArray_toList
def gU:=@BitVec.ofInt_natCast
def gV:=@Int.le_of_lt_add_one
def gW:=@Int.add_assoc
def gX:=@List.mem_filter
def gY:=@Array.foldl_toList
def gZ:=@Nat.lt_or_ge
def hU:=@BitVec.toNat_ofNat
def iA:=@Bool.not_eq_false'
def iB:=@Bool.not_false
def iC:=@Array.mapM_eq_mapM_toList
def iD:=@Array.size_append
def iE:=@List.nodup_append
def iG:=@List.any_eq_false
def iH:=@List.eraseP_cons_of_pos
def iI:=@Array.mem_append
def iJ:=@Array.mem_filter
def iK:=@List.nodup_range
def iL:=@List.mem_flatMap
def iM:=@Nat.lt_succ_self
def iO:=@Nat.mod_eq_of_lt
def iP:=@Nat.succ_le_succ
def iQ:=@Array.contains_iff_mem
def iR:=@List.length_pos_of_mem
def iT:=@Nat.not_lt_zero
def iU:=@Bool.beq_eq_decide_eq
def iV:=@Nat.min_eq_left
def iW:=@Int.le_of_lt
def iX:=@Int.le_trans
def iY:=@List.length_filter_le
def iZ:=@List.filterMap_append
def jA:=@List.length_zip
def jB:=@List.dropLast_sublist
def jC:=@List.drop_drop
def jD:=@List.mapM_cons
def jE:=@Array.mk.injEq
def jF:=@List.Perm.swap
def jG:=@List.all_cons
def jH:=@Bool.and_true
def jI:=@Int.ofNat_inj
def jJ:=@Nat.mod_lt
def jK:=@Nat.beq_eq
def jL:=@Nat.beq_refl
def jM:=@Nat.le_of_lt
def jN:=@Int.bmod_def
def jO:=@Eq.trans
end Go.En
namespace Go.En
abbrev Hp:=Array Obj
abbrev Env:=List (Nat × Value)
def lk:Env->Nat->Option Value
 | [],_=>none
 | (d,v)::r,t=>match Nat.beq d t with
  | true=>some v
  | false=>lk r t
def ev (n:Nat) (env:Env):Operand->Option Value
 | .tmp t=>match Nat.blt t n with
  | true=>lk env t
  | false=>none
 | .const v=>some v
 | .global g=>some (.pointer (some ⟨g,0,none⟩))
 | .func f=>some (.func (.func f) #[] #[])
def H7 (n:Nat) (env:Env):List Operand->Option (List Value)
 | []=>some []
 | x::r=>(ev n env x).bind λv=>(H7 n env r).bind λvs=>some (v::vs)
def S7 (n:Nat) (env:Env):List (Nat × Operand)->Option (List (Nat × Value))
 | []=>some []
 | (i,x)::r=>(ev n env x).bind λv=>(S7 n env r).bind λvs=>some ((i,v)::vs)
def LZ (n:Nat) (env:Env):Option Operand->Option (Option Value)
 | none=>some none
 | some x=>(ev n env x).bind λv=>some (some v)
def cellAt (h:Hp) (a:Addr):Option Value:=
 match h[a.block]? with
 | some (.cells c _ _)=>if a.spot.isSome then none else c[a.off]?
 | _=>none
def frozenAt (h:Hp) (a:Addr):Bool:=
 match h[a.block]? with
 | some (.cells _ _ (lo,hi))=>lo<=a.off&&a.off<hi
 | _=>false
def setAt (h:Hp) (a:Addr) (v:Value):Hp:=
 h.modify a.block fun
  | .cells c elem frozen=>.cells (if a.spot.isSome then c else c.setIfInBounds a.off v) elem frozen
  | o=>o
def zc (w:World) (a:Addr):w.cell? a=cellAt w.heap a:=rfl
def KU (w:World) (a:Addr):w.frozen? a=frozenAt w.heap a:=rfl
def rZ (h:Hp) (a:Addr) (i:Nat):Nat->Option (List Value)
 | 0=>some []
 | n+1=>(cellAt h (a.add i)).bind λv=>(rZ h a (i+1) n).bind λr=>some (v::r)
def mH (p:Value) (h:Hp):Option Value:=
 match p with
 | .pointer (some a)=>cellAt h a
 | _=>none
def kc (n:Nat) (p:Value) (h:Hp):Option Value:=
 match p with
 | .pointer (some a)=>(rZ h a 0 n).bind λl=>some (.agg l.toArray)
 | _=>none
def pS (h:Hp) (a:Addr) (i:Nat):List Value->Option Hp
 | []=>some h
 | v::r=>match v.oneCell',cellAt h (a.add i),frozenAt h (a.add i) with
  | true,some _,false=>pS (setAt h (a.add i) v) a (i+1) r
  | _,_,_=>none
def kq (n:Nat) (p v:Value) (h:Hp):Option Hp:=
 match p with
 | .pointer (some a)=>match Nat.beq v.cells.size n with
  | true=>pS h a 0 v.cells.toList
  | false=>none
 | _=>none
def nw (cells:Array Value) (e:TypeId) (h:Hp):Option (Value × Hp):=some (.pointer (some ⟨h.size,0,none⟩),h.push (.cells cells e))
def bin (op:BinOp) (x y:Value):Option Value:=
 match x,y with
 | .int k a,.int k' b=>
  match op with
  | .shl=>if b<0 then none else some (.int k (k.wrap (a*2 ^ (min b.toNat k.bits))))
  | .shr=>if b<0 then none else some (.int k (a.fdiv (2 ^ (min b.toNat k.bits))))
  | .add=>if k=k' then some (.int k (k.wrap (a+b))) else none
  | .sub=>if k=k' then some (.int k (k.wrap (a - b))) else none
  | .mul=>if k=k' then some (.int k (k.wrap (a*b))) else none
  | .quo=>if k=k' then(if b=0 then none else some (.int k (k.wrap (a.tdiv b)))) else none
  | .rem=>if k=k' then(if b=0 then none else some (.int k (a.tmod b))) else none
  | .eql=>if k=k' then some (.bool (a == b)) else none
  | .neq=>if k=k' then some (.bool (a != b)) else none
  | .lss=>if k=k' then some (.bool (decide (a<b))) else none
  | .leq=>if k=k' then some (.bool (decide (a<=b))) else none
  | .gtr=>if k=k' then some (.bool (decide (a > b))) else none
  | .geq=>if k=k' then some (.bool (decide (a>=b))) else none
  | .and=>if k=k' then some (.int k (k.wrap (BitVec.ofInt k.bits a&&& BitVec.ofInt k.bits b).toNat)) else none
  | .or=>if k=k' then some (.int k (k.wrap (BitVec.ofInt k.bits a||| BitVec.ofInt k.bits b).toNat)) else none
  | .xor=>if k=k' then some (.int k (k.wrap (BitVec.ofInt k.bits a ^^^ BitVec.ofInt k.bits b).toNat)) else none
  | .andNot=>if k=k' then some (.int k (k.wrap (BitVec.ofInt k.bits a&&& ~~~BitVec.ofInt k.bits b).toNat)) else none
 | _,_=>none
def Wl (x y:Value):Option Bool:=
 match x,y with
 | .bool a,.bool b=>some (a == b)
 | _,_=>none
def eqP (x y:Value):Option Bool:=
 match x,y with
 | .pointer none,.pointer b=>some b.isNone
 | .pointer (some _),.pointer none=>some false
 | _,_=>none
def S8 (x y:Value):Option Bool:=
 match x,y with
 | .slice none _ _,.slice b _ _=>some b.isNone
 | .slice (some _) _ _,.slice none _ _=>some false
 | _,_=>none
def VF (x y:Value):Option Bool:=
 match x,y with
 | .map none,.map b=>some b.isNone
 | .map (some _),.map none=>some false
 | _,_=>none
def V4 (x y:Value):Option Bool:=
 match x,y with
 | .nilFunc,.nilFunc=>some true
 | .nilFunc,.func .. | .func ..,.nilFunc=>some false
 | _,_=>none
def ZM (i:Bool) (x y:Value):Option Bool:=
 match i,x,y with
 | true,.int k a,.int k' b=>if k=k' then some (a == b) else none
 | false,.bool a,.bool b=>some (a == b)
 | _,_,_=>none
def AK:List Bool->List Value->List Value->Option Bool
 | [],[],[]=>some true
 | i::l,x::r,y::s=>(ZM i x y).bind λa=>(AK l r s).bind λq=>some (a&&q)
 | _,_,_=>none
def zL (l:List Bool) (x y:Value):Option Bool:=
 match x,y with
 | .agg xs,.agg ys=>AK l xs.toList ys.toList
 | _,_=>none
def uk (o:Option Bool):Option Value:=o.bind λb=>some (.bool !b)
def pos? (o:Option Bool):Option Value:=o.bind λb=>some (.bool b)
def Qb (op:UnOp) (x:Value):Option Value:=
 match op,x with
 | .neg,.int k n=>some (.int k (k.wrap (0 - n)))
 | .not,.bool b=>some (.bool !b)
 | _,_=>none
def NY (k:IntKind) (x:Value):Option Value:=
 match x with
 | .int _ n=>some (.int k (k.wrap n))
 | _=>none
def fa (off:Nat) (p:Value):Option Value:=
 match p with
 | .pointer (some a)=>some (.pointer (some (a.add off)))
 | _=>none
def sL (size:Nat) (x i:Value):Option Value:=
 match x,i with
 | .slice (some a) len _,.int _ n=>if 0<=n/\n<len then some (.pointer (some (a.add (n.toNat*size)))) else none
 | _,_=>none
def I4 (len size:Nat) (x i:Value):Option Value:=
 match x,i with
 | .pointer (some a),.int _ n=>if 0<=n/\n<len then some (.pointer (some (a.add (n.toNat*size)))) else none
 | _,_=>none
def VG (len size:Nat) (x i:Value):Option Value:=
 match x,i with
 | .agg cs,.int _ n=>if 0<=n/\n<len then cs[n.toNat*size]? else none
 | _,_=>none
def VR (len size:Nat) (x i:Value):Option Value:=
 match x,i with
 | .agg cs,.int _ n=>if 0<=n/\n<len then some (.agg (cs.extract (n.toNat*size) (n.toNat*size+size))) else none
 | _,_=>none
def ext (i:Nat) (x:Value):Option Value:=
 match x with
 | .tuple vs=>vs[i]?
 | _=>none
def Ej (x:Value):Option Value:=
 match x with
 | .slice _ n _=>some (.int .i64 n)
 | _=>none
def Re (x:Value) (h:Hp):Option Value:=
 match x with
 | .map none=>some (.int .i64 0)
 | .map (some r)=>match h[r]? with
  | some (.map es _)=>some (.int .i64 es.size)
  | _=>none
 | _=>none
def mn (x y:Value):Option Value:=
 match x,y with
 | .int k a,.int _ b=>some (.int k (if b<a then b else a))
 | _,_=>none
def mx (x y:Value):Option Value:=
 match x,y with
 | .int k a,.int _ b=>some (.int k (if b > a then b else a))
 | _,_=>none
def Wm (x:Value) (y:Nat):Option Nat:=
 match x with
 | .int _ i=>if 0<=i/\i<=y then some i.toNat else none
 | _=>none
def F6 (lo:Option Value) (h:Nat):Option Nat:=
 match lo with
 | some v=>Wm v h
 | none=>some 0
def MF (hi:Option Value) (len m:Nat):Option Nat:=
 match hi with
 | some v=>Wm v m
 | none=>some len
def QS (mx:Option Value) (cap:Nat):Option Nat:=
 match mx with
 | some v=>Wm v cap
 | none=>some cap
def OZ (len cap:Nat) (lo hi mx:Option Value):Option (Nat × Nat × Nat):=
 (QS mx cap).bind λm=>(MF hi len m).bind λh=>(F6 lo h).bind λl=>some (l,h,m)
def P4 (size:Nat) (a:Option Addr) (b:Nat × Nat × Nat):Value:=
 .slice (if b.2.2=b.1 then a else a.map (·.add (b.1*size))) (b.2.1 - b.1) (b.2.2 - b.1)
def xO (size:Nat) (x:Value) (lo hi mx:Option Value):Option Value:=
 match x with
 | .slice a len cap=>(OZ len cap lo hi mx).bind λb=>some (P4 size a b)
 | _=>none
def VJ (n size:Nat) (x:Value) (lo hi mx:Option Value):Option Value:=
 match x with
 | .pointer (some a)=>(OZ n n lo hi mx).bind λb=>some (P4 size (some a) b)
 | _=>none
def Xd (off:Nat) (x:Value):Option Value:=
 match x with
 | .agg cs=>cs[off]?
 | _=>none
def W7 (off size:Nat) (x:Value):Option Value:=
 match x with
 | .agg cs=>some (.agg (cs.extract off (off+size)))
 | _=>none
def nF (places:List (Nat × Nat)) (zero:Array Value) (parts:List (Nat × Value)):Option Value:=
 (Instr.fill (places[·]?) zero parts).bind λcells=>some (.agg cells)
def ML (size:Nat) (zero:Array Value) (parts:List (Nat × Value)):Option Value:=
 (Instr.fill (λi=>some (i*size,size)) zero parts).bind λcells=>some (.agg cells)
def ED (zero:Array Value) (size len:Nat) (e:TypeId) (parts:List (Nat × Value)) (h:Hp):Option (Value × Hp):=
 (Instr.fill (λi=>some (i*size,size)) ((Array.range (len*size)).map (zero[· % zero.size]!)) parts).bind λcells=>
  some (.slice (some ⟨h.size,0,none⟩) len len,h.push (.cells cells e))
def pk (c x y:Value):Option Value:=
 match c with
 | .bool b=>some (if b then x else y)
 | _=>none
def WL (x:Value):Option Value:=
 match x with
 | .pointer (some a)=>some (.pointer (some a))
 | .func (.func f) first cap=>some (.func (.func f) first cap)
 | .iface t v=>some (.iface t v)
 | _=>none
def inl (op:BinOp) (v:Value):Option Value:=
 match op,v with
 | .eql,.nilIface=>some (.bool true)
 | .eql,.iface _ _=>some (.bool false)
 | .neq,.nilIface=>some (.bool false)
 | .neq,.iface _ _=>some (.bool true)
 | _,_=>none
def ZR (P:Program) (t:TypeId):Bool:=
 match P.underlying t with
 | some (.interface _)=>true
 | _=>false
def Yu (P:Program) (t:TypeId):Bool:=
 match P.underlying t with
 | some (.interface _)=>false
 | some _=>true
 | none=>false
def FV (t:TypeId) (z:Value) (ok:Bool) (x:Value):Option Value:=
 match x,ok with
 | .iface h v,true=>some (if h=t then .tuple #[v,.bool true] else .tuple #[z,.bool false])
 | .iface h v,false=>if h=t then some v else none
 | .nilIface,true=>some (.tuple #[z,.bool false])
 | _,_=>none
def Yc (P:Program) (t:TypeId) (name:String):Option FuncId:=
 match P.info? t with
 | none=>none
 | some i=>match i.methods.find? λm=>m.name == name with
  | none=>none
  | some m=>match m.path.toList,m.func,P.underlying t with
   | [],some (_,false),some (.pointer _)=>none
   | [],some (f,false),some _=>some f
   | _,_,_=>none
def yj (m:Value) (h:Hp):Option (Option (Nat × Array MapEntry × Nat)):=
 match m with
 | .map none=>some none
 | .map (some r)=>match h[r]? with
  | some (.map es clock)=>some (some (r,es,clock))
  | _=>none
 | _=>none
def Pa (kd:TypeDesc) (zero:Value) (ok:Bool) (m key:Value) (h:Hp):Option Value:=
 (yj m h).bind λr=>
  (Instr.findNow kd key ((r.map λx=>x.2.1.toList).getD []) 0).bind λf=>
   some (if ok then .tuple #[(f.map (·.2)).getD zero,.bool f.isSome] else(f.map (·.2)).getD zero)
def B9 (kd:TypeDesc) (m key val:Value) (h:Hp):Option Hp:=
 match yj m h with
 | some (some (r,es,clock))=>match Instr.findNow kd key es.toList 0 with
  | some (some (i,_))=>some (h.setIfInBounds r (.map (es.modify i λe=>{e with key,val:=val}) clock))
  | some none=>some (h.setIfInBounds r (.map (es.push {key,val:=val,born:=clock}) (clock+1)))
  | none=>none
 | _=>none
def men (kd:TypeDesc) (zero:Value) (m key:Value) (h:Hp):Option (Value × Hp):=
 match yj m h with
 | some (some (r,es,clock))=>match Instr.findNow kd key es.toList 0 with
  | some (some (i,v))=>some (.tuple #[v,goInt (((es[i]?).map (·.born)).getD 0)],h.setIfInBounds r (.map (es.modify i λe=>{e with key}) clock))
  | some none=>some (.tuple #[zero,goInt clock],h.setIfInBounds r (.map (es.push {key,val:=zero,born:=clock}) (clock+1)))
  | none=>none
 | _=>none
def mst (m q val:Value) (h:Hp):Option Hp:=
 match yj m h,q with
 | some (some (r,es,clock)),.int _ born=>match es.findIdx? (λe=>(e.born:Int) == born) with
  | some i=>some (h.setIfInBounds r (.map (es.modify i λe=>{e with val:=val}) clock))
  | none=>none
 | _,_=>none
def LL (kd:TypeDesc) (m key:Value) (h:Hp):Option (Value × Hp):=
 match yj m h with
 | some none=>some (.tuple #[],h)
 | some (some (r,es,clock))=>match Instr.findNow kd key es.toList 0 with
  | some (some (i,_))=>some (.tuple #[],h.setIfInBounds r (.map (es.eraseIdxIfInBounds i) clock))
  | some none=>some (.tuple #[],h.setIfInBounds r (.map es clock))
  | none=>none
 | _=>none
def MB (h:Hp):Option (Value × Hp):=some (.map (some h.size),h.push (.map #[] 0))
def Tg (m:Value) (h:Hp):Option (Value × Hp):=
 match yj m h with
 | some none=>some (.pointer (some ⟨h.size,0,none⟩),h.push (.mapIter none 0 #[] 0))
 | some (some (r,_,clock))=>some (.pointer (some ⟨h.size,0,none⟩),h.push (.mapIter (some r) clock #[] clock))
 | _=>none
def uX (it:Value) (h:Hp):Option Value:=
 match it with
 | .pointer (some ⟨r,0,_⟩)=>match h[r]? with
  | some (.mapIter (some m) _ seen q)=>match seen.back?,h[m]? with
   | some u,some (.map es clock)=>match Nat.beq clock q,es.find? (·.born == u) with
    | true,some e=>some (.tuple #[e.key,e.val])
    | _,_=>none
   | _,_=>none
  | _=>none
 | _=>none
def RB (zero:Array Value) (size bytes:Nat) (e:TypeId) (l c:Value) (h:Hp):Option (Value × Hp):=
 match l,c with
 | .int .i64 l,.int .i64 c=>if 0<=l/\l<=c/\c<=9223372036854775807/\c*bytes<=281474976710656 then
   some (.slice (some ⟨h.size,0,none⟩) l.toNat c.toNat,h.push (.cells ((Array.range (c.toNat*size)).map (zero[· % zero.size]!)) e)) else none
 | _,_=>none
def rowOf (x:Value) (m:Nat) (h:Hp):Option (List Value):=
 match x with
 | .slice (some a) _ _=>rZ h a 0 m
 | .slice none _ _=>some []
 | _=>none
def Ib (size:Nat) (d s:Value) (h:Hp):Option (Value × Hp):=
 match d,s with
 | .slice base q _,.slice _ u _=>
  (rowOf s (Nat.min u q*size) h).bind λcells=>
   match base with
   | some a=>(pS h a 0 cells).bind λh'=>some (.int .i64 (Nat.min u q:Nat),h')
   | none=>some (.int .i64 (Nat.min u q:Nat),h)
 | _,_=>none
def XA (zero:Array Value) (x:Value) (h:Hp):Option (Value × Hp):=
 match x with
 | .slice none _ _=>some (.tuple #[],h)
 | .slice (some a) n _=>match n with
  | 0=>some (.tuple #[],h)
  | n+1=>(pS h a 0 (Builtin.zeroCells zero (n+1)).toList).bind λh'=>some (.tuple #[],h')
 | _=>none
inductive TK where
 | cell
 | agg (n:Nat)
 | bad
def L6 (P:Program) (t:TypeId):TK:=
 match P.underlying t,P.info? t with
 | some (.struct _),some i=>.agg i.size
 | some (.array ..),some i=>.agg i.size
 | some _,some _=>.cell
 | _,_=>.bad
def WK (k:TK) (p:Value) (h:Hp):Option Value:=
 match k with
 | .cell=>mH p h
 | .agg n=>kc n p h
 | .bad=>none
def Qq:List Bool->List Bool->List Bool
 | [],e=>e
 | x::r,e=>x::Qq r e
def Cp (l:List Bool):Nat->List Bool
 | 0=>[]
 | n+1=>Qq l (Cp l n)
def Kx:List Bool->Nat
 | []=>0
 | _::r=>Kx r+1
def FE (P:Program) (flat:TypeId->Option (List Bool)):List Field->Nat->Option (List Bool)
 | [],_=>some []
 | f::r,off=>match Nat.beq f.offset off,f.name == "_",flat f.type,P.info? f.type with
  | true,false,some l,some i=>match Nat.beq i.size (Kx l),FE P flat r (off+Kx l) with
   | true,some h=>some (Qq l h)
   | _,_=>none
  | _,_,_,_=>none
def Dd (P:Program):Nat->TypeId->Option (List Bool)
 | 0,_=>none
 | d+1,t=>match P.underlying t with
  | some (.int _)=>some [true]
  | some .bool=>some [false]
  | some (.struct h)=>match P.stoodInHeld t,FE P (Dd P d) h.toList 0,P.info? t with
   | false,some l,some i=>match Nat.beq i.size (Kx l) with
    | true=>some l
    | false=>none
   | _,_,_=>none
  | some (.array len e)=>match Dd P d e,P.info? e,P.info? t with
   | some l,some i,some j=>match Nat.beq i.size (Kx l),Nat.beq j.size (Kx (Cp l len)) with
    | true,true=>some (Cp l len)
    | _,_=>none
   | _,_,_=>none
  | _=>none
inductive EK where
 | plain | boolean | ptr | xO | map | fn | agg (l:List Bool) | bad
def TF (P:Program) (t:TypeId):EK:=
 match P.underlying t with
 | some (.int _)=>.plain
 | some .bool=>.boolean
 | some (.pointer _)=>.ptr
 | some (.slice _)=>.xO
 | some (.map _ _)=>.map
 | some (.func ..)=>.fn
 | some (.struct _)=>match P.eqGuardType P.depth t,Dd P 5 t with
  | false,some l=>.agg l
  | _,_=>.bad
 | some (.array _ _)=>match P.eqGuardType P.depth t,Dd P 5 t with
  | false,some l=>.agg l
  | _,_=>.bad
 | _=>.bad
def VI (k:EK) (x y:Value):Option Bool:=
 match k with
 | .boolean=>Wl x y
 | .ptr=>eqP x y
 | .xO=>S8 x y
 | .map=>VF x y
 | .fn=>V4 x y
 | .agg l=>zL l x y
 | .plain | .bad=>none
def Zg (k:EK) (op:BinOp) (x y:Value):Option Value:=
 match k,op with
 | .plain,op=>bin op x y
 | k,.eql=>pos? (VI k x y)
 | k,.neq=>uk (VI k x y)
 | _,_=>none
inductive CK where
 | int (k:IntKind)
 | bad
def cvk (P:Program) (src dst:TypeId):CK:=
 match P.underlying src,P.underlying dst with
 | some (.int _),some (.int k)=>.int k
 | _,_=>.bad
def ZF (c:CK) (x:Value):Option Value:=
 match c with
 | .int k=>NY k x
 | .bad=>none
inductive FK where
 | cell (off:Nat)
 | agg (off size:Nat)
 | bad
def VA (P:Program) (s:TypeId) (f:Nat):FK:=
 match P.underlying s with
 | some (.struct h)=>match h[f]? with
  | some fd=>match L6 P fd.type,P.info? fd.type with
   | .cell,some i=>match i.size with
    | 0=>.bad
    | _+1=>.cell fd.offset
   | .agg (n+1),_=>.agg fd.offset (n+1)
   | _,_=>.bad
  | none=>.bad
 | _=>.bad
def ZG (k:FK) (p:Value):Option Value:=
 match k with
 | .cell off | .agg off _=>fa off p
 | .bad=>none
def ZK (k:FK) (x:Value):Option Value:=
 match k with
 | .cell off=>Xd off x
 | .agg off size=>W7 off size x
 | .bad=>none
inductive IK where
 | xO (size:Nat)
 | arr (len size:Nat)
 | bad
def S2 (P:Program) (t:TypeId):IK:=
 match P.underlying t with
 | some (.slice e)=>match P.info? e with
  | some i=>.xO i.size
  | none=>.bad
 | some (.array n e)=>match P.info? e with
  | some i=>.arr n i.size
  | none=>.bad
 | _=>.bad
def Zo (k:IK) (x i:Value):Option Value:=
 match k with
 | .xO size=>sL size x i
 | .arr n size=>I4 n size x i
 | .bad=>none
def Uj (n:Nat) (x:Value):Option Value:=
 match x with
 | .slice a len _=>match Nat.ble n len with
  | true=>some (.pointer a)
  | false=>none
 | _=>none
def Zv (k:IK) (x:Value):Option Value:=
 match k with
 | .arr n _=>Uj n x
 | _=>none
def Yo (k:IK) (x:Value) (lo hi mx:Option Value):Option Value:=
 match k with
 | .xO size=>xO size x lo hi mx
 | .arr n size=>VJ n size x lo hi mx
 | .bad=>none
inductive JK where
 | cell (len size:Nat)
 | agg (len size:Nat)
 | str
 | bad
def idk (P:Program) (t:TypeId):JK:=
 match P.underlying t with
 | some (.array n e)=>match L6 P e,P.info? e with
  | .cell,some i=>.cell n i.size
  | .agg s,some _=>.agg n s
  | _,_=>.bad
 | some .string=>.str
 | _=>.bad
def Y3 (x i:Value):Option Value:=
 match x,i with
 | .string s,.int _ n=>(if 0<=n then s[n.toNat]? else none).map λb=>.int .u8 b.toNat
 | _,_=>none
def Yw (k:JK) (x i:Value):Option Value:=
 match k with
 | .cell n s=>VG n s x i
 | .agg n s=>VR n s x i
 | .str=>Y3 x i
 | .bad=>none
inductive BK where
 | struct (places:List (Nat × Nat)) (zero:Array Value)
 | arr (size:Nat) (zero:Array Value)
 | bad
def placesOf (P:Program):List Field->Option (List (Nat × Nat))
 | []=>some []
 | f::r=>(P.info? f.type).bind λi=>(placesOf P r).bind λl=>some ((f.offset,i.size)::l)
def Z7 (P:Program) (t:TypeId):BK:=
 match P.info? t with
 | some i=>match i.zero with
  | some z=>match P.underlying t with
   | some (.struct h)=>match placesOf P h.toList with
    | some ps=>.struct ps z.cells
    | none=>.bad
   | some (.array _ e)=>match P.info? e with
    | some j=>.arr j.size z.cells
    | none=>.bad
   | _=>.bad
  | none=>.bad
 | none=>.bad
def Vi (k:BK) (parts:List (Nat × Value)):Option Value:=
 match k with
 | .struct ps z=>nF ps z parts
 | .arr size z=>ML size z parts
 | .bad=>none
inductive MK where
 | ok (kd:TypeDesc) (zero:Value)
 | bad
def Qh (P:Program) (t:TypeId):MK:=
 match P.underlying t with
 | some (.map k e)=>match P.underlying k,P.info? e with
  | some (.int h),some i=>match i.zero with
   | some z=>.ok (.int h) z
   | none=>.bad
  | _,_=>.bad
 | _=>.bad
def ZO (k:MK) (ok:Bool) (m key:Value) (h:Hp):Option Value:=
 match k with
 | .ok kd z=>Pa kd z ok m key h
 | .bad=>none
inductive LK where
 | xO | map | bad
def ZI (P:Program) (t:TypeId):LK:=
 match P.underlying t with
 | some (.slice _)=>.xO
 | some (.map ..)=>.map
 | _=>.bad
def ZH (k:LK) (x:Value) (h:Hp):Option Value:=
 match k with
 | .xO=>Ej x
 | .map=>Re x h
 | .bad=>none
inductive XK where
 | ok (e:TypeId) (zero:Array Value) (size bytes:Nat)
 | bad
def Qf (P:Program) (t:TypeId):XK:=
 match P.underlying t with
 | some (.slice e)=>match P.info? e with
  | some i=>match i.zero with
   | some z=>match Nat.beq z.cells.size i.size,Nat.blt 0 i.size with
    | true,true=>.ok e z.cells i.size i.bytes
    | _,_=>.bad
   | none=>.bad
  | none=>.bad
 | _=>.bad
def zrk (P:Program) (t:TypeId):Option (Array Value):=(P.info? t).bind λi=>i.zero.bind λz=>some z.cells
section
variable {P:Program} {w:World}
def FI {a:Addr} {v:Value} (h:cellAt w.heap a=some v):(load a).run P w=.ok v w:=by
 rw[run_load];rw[zc,h]
def Dq {a:Addr}:∀(n i:Nat) (l:List Value) (acc:Array Value),rZ w.heap a i n=some l->
  (loadCellsFrom a i n acc).run P w=.ok (acc++l.toArray) w
 | 0,i,l,acc,h=>by
  simp only[rZ,aD] at h;subst h;simp[loadCellsFrom]
 | n+1,i,l,acc,h=>by
  simp only[rZ,aK] at h;obtain⟨v,hv,r,u,q⟩:=h;simp only[aD] at q;subst q;simp only[loadCellsFrom,Sem.run_bind,FI hv,Result.andThen_ok];rw[Dq n (i+1) r (acc.push v) u];simp
def run_loadCells {a:Addr} {n:Nat} {l:List Value} (h:rZ w.heap a 0 n=some l):(loadCells a n).run P w=.ok l.toArray w:=by
 rw[loadCells,Dq n 0 l #[] h];simp
def QM {t:TypeId} (h:L6 P t=.cell):∃d,P.underlying t=some d/\(∀q,d≠.struct q)/\(∀n e,d≠.array n e):=by
 unfold L6 at h;split at h <;> try contradiction
 rename_i d _ h1 h2 u _;exact⟨d,u,λq e=>h1 q e,λn e' e=>h2 n e' e⟩
def tH {t:TypeId} (h:L6 P t=.cell):(isAgg t).run P w=.ok false w:=by
 obtain⟨d,q,h1,h2⟩:=QM h;unfold isAgg;simp only[Sem.run_bind,run_underlying q,Result.andThen_ok];cases d <;> first | rfl | exact(h1 _ rfl).elim | exact(h2 _ _ rfl).elim
def DQ {t:TypeId} {n:Nat} (h:L6 P t=.agg n):(∃i,P.info? t=some i/\i.size=n)/\((∃q,P.underlying t=some (.struct q))\/(∃k e,P.underlying t=some (.array k e))):=by
 unfold L6 at h;split at h <;> try contradiction
 ·rename_i q i hu hi;simp only[TK.agg.injEq] at h;exact⟨⟨i,hi,h⟩,.inl ⟨q,hu⟩⟩
 ·rename_i k e i hu hi;simp only[TK.agg.injEq] at h;exact⟨⟨i,hi,h⟩,.inr ⟨k,e,hu⟩⟩
def vk {t:TypeId} {n:Nat} (h:L6 P t=.agg n):(isAgg t).run P w=.ok true w:=by
 unfold isAgg;rcases(DQ h).2 with ⟨q,hu⟩| ⟨k,e,hu⟩ <;> simp[run_underlying hu]
def run_sizeOf {t:TypeId} {i:TypeInfo} (h:P.info? t=some i):(sizeOf t).run P w=.ok i.size w:=by
 simp[sizeOf,typeInfo,h]
def pg {t:TypeId} {i:TypeInfo} {z:Value} (h:P.info? t=some i) (q:i.zero=some z):(zeroValue t).run P w=.ok z w:=by
 simp[zeroValue,typeInfo,h,q]
def ET {t:TypeId} {p v:Value} (h:WK (L6 P t) p w.heap=some v):(Instr.loadAt t p).run P w=.ok v w:=by
 unfold Instr.loadAt loadVar;cases q:L6 P t with
 | cell=>
  rw[q] at h;simp only[WK] at h;unfold mH at h;split at h <;> try contradiction
  rename_i a;simp only[Instr.sureAddr,Sem.run_bind,Sem.run_pure,Result.andThen_ok,tH q,cC,if_false];exact FI h
 | agg n=>
  rw[q] at h;simp only[WK] at h;unfold kc at h;split at h <;> try contradiction
  rename_i a;simp only[aK,aD] at h;obtain⟨l,u,hv⟩:=h;obtain⟨⟨i,hi,B⟩,_⟩:=DQ q;simp only[Instr.sureAddr,Sem.run_bind,Sem.run_pure,Result.andThen_ok,vk q,if_true,run_sizeOf hi,B,run_loadCells u,hv]
 | bad=>rw[q] at h;simp[WK] at h
structure rM (w w':World):Prop where
 os:w'.os=w.os
 tape:w'.tape=w.tape
 output:w'.output=w.output
def rM.refl (w:World):rM w w:=⟨rfl,rfl,rfl⟩
def rM.trans {a b c:World} (h:rM a b) (k:rM b c):rM a c:=⟨k.os.trans h.os,k.tape.trans h.tape,k.output.trans h.output⟩
def ui {a:Addr}:∀(vs:List Value) (i:Nat) (w:World) (h':Hp),pS w.heap a i vs=some h'->
  ∃w',(storeCells a vs i).run P w=.ok () w'/\w'.heap=h'/\rM w w'/\w'.drawn=w.drawn
 | [],i,w,h',h=>by
  simp only[pS,aD] at h;exact⟨w,rfl,h,.refl w,rfl⟩
 | v::r,i,w,h',h=>by
  simp only[pS] at h;split at h <;> try contradiction
  rename_i u h1 q B;obtain⟨w',E,F,hs,G⟩:=ui r (i+1) (w.setCell (a.add i) v) h' h;refine⟨w',?_,F,⟨hs.os,hs.tape,hs.output⟩,G⟩;unfold storeCells;simp only[Sem.run_bind];rw[run_store P w _ v _ h1];rw[zc,KU,q,B];simpa using E
def Kz {t:TypeId} {p v:Value} {i:TypeInfo} {h':Hp} (hi:P.info? t=some i) (h:kq i.size p v w.heap=some h') :
  ∃w',(Instr.storeAt t p v).run P w=.ok () w'/\w'.heap=h'/\rM w w':=by
 unfold kq at h;split at h <;> try contradiction
 rename_i a;split at h <;> try contradiction
 rename_i u;obtain⟨w',B,E,hs,_⟩:=ui (P:=P) (a:=a) v.cells.toList 0 w h' h;refine⟨w',?_,E,hs⟩;have q:v.cells.size=i.size:=bJ u;simp only[Instr.storeAt,storeVar,Instr.sureAddr,Sem.run_bind,Sem.run_pure,Result.andThen_ok,run_sizeOf hi,q,ne_eq,not_true_eq_false,if_false,B]
def UW {op:BinOp} {t:TypeId} {x y v:Value} (h:bin op x y=some v):(binOp op t x y).run P w=.ok v w:=by
 unfold bin at h;split at h <;> try contradiction
 rename_i k a k' b;split at h <;> (try contradiction) <;> (try (split at h <;> (try contradiction))) <;> (try (split at h <;> (try contradiction))) <;>
  (simp only[aD] at h; subst h) <;>
  (try subst k') <;>
  (try (rename_i q; have u:¬b<0:=q)) <;>
  (first
   | (simp only[binOp,Op.shift]; rw[if_neg ‹¬b<0›]; rfl)
   | (simp only[binOp,ne_eq,not_true_eq_false,if_false,Op.intDiv]; rw[if_neg ‹¬b=0›]; rfl)
   | (simp only[binOp,ne_eq,not_true_eq_false,if_false,Op.intArith,Op.intCmp]; rfl)
   | (simp only[binOp,ne_eq,not_true_eq_false,if_false,Op.intBits]; rfl))
def Dy {op:BinOp} {t:TypeId} {x y:Operand} {k k':IntKind} {a b:Int}:(eqGuard op t x y (.int k a) (.int k' b)).run P w=.ok () w:=by
 unfold eqGuard;cases op <;> rfl
def Qz {op:BinOp} {x y v:Value} (h:bin op x y=some v):∃k a k' b,x=.int k a/\y=.int k' b:=by
 unfold bin at h;split at h <;> try contradiction
 exact⟨_,_,_,_,rfl,rfl⟩
def EKu (P:Program) (t:TypeId):EK->Prop
  | .boolean=>P.underlying t=some .bool
  | .ptr=>∃e,P.underlying t=some (.pointer e)
  | .xO=>∃e,P.underlying t=some (.slice e)
  | .map=>∃a b,P.underlying t=some (.map a b)
  | .fn=>∃a b c,P.underlying t=some (.func a b c)
  | .agg n=>Dd P 5 t=some n/\P.eqGuardType P.depth t=false/\((∃h,P.underlying t=some (.struct h))\/(∃n e,P.underlying t=some (.array n e)))
  | _=>True
def G9 (P:Program) (t:TypeId):EKu P t (TF P t):=by
 cases h:TF P t <;> simp only[EKu] <;> (unfold TF at h; split at h <;> (try split at h) <;> simp_all)
def D5:∀(a b:List Bool),Qq a b=a++b
 | [],_=>rfl
 | x::r,b=>by simp[Qq,D5 r b]
def AO:∀l:List Bool,Kx l=l.length
 | []=>rfl
 | _::r=>by simp[Kx,AO r]
def AH:∀{l a u:List _} {B b E:List _} {q:Bool},l.length=a.length->l.length=u.length->AK (l++B) (a++b) (u++E)=some q->∃F q2,AK l a u=some F/\AK B b E=some q2/\q=(F&&q2)
 | [],[],[],B,b,E,q,_,_,h=>⟨true,q,rfl,by simpa using h,by simp⟩
 | i::l,x::a,y::u,B,b,E,q,h1,h2,h=>by
  simp only[dL,AK,aK,aD] at h;obtain⟨H,J,O,G,rfl⟩:=h;obtain⟨F,q2,K,M,rfl⟩:=AH (by simpa using h1) (by simpa using h2) G;exact⟨H&&F,q2,by simp[AK,J,K],M,by simp[Bool.and_assoc]⟩
 | [],_::_,_,_,_,_,_,h1,_,_=>by simp at h1
 | [],[],_::_,_,_,_,_,_,h2,_=>by simp at h2
 | _::_,[],_,_,_,_,_,h1,_,_=>by simp at h1
 | _::_,_::_,[],_,_,_,_,_,h2,_=>by simp at h2
def zX:∀{l:List Bool} {a b:List Value} {q:Bool},AK l a b=some q->a.length=l.length/\b.length=l.length
 | [],[],[],_,_=>⟨rfl,rfl⟩
 | i::l,x::a,y::b,q,h=>by
  simp only[AK,aK,aD] at h;obtain⟨_,_,_,h2,_⟩:=h;have:=zX h2;simp[this.1,this.2]
 | [],_::_,_,_,h=>by simp[AK] at h
 | [],[],_::_,_,h=>by simp[AK] at h
 | _::_,[],_,_,h=>by simp[AK] at h
 | _::_,_::_,[],_,h=>by simp[AK] at h
def Da (xs:Array Value) (o n:Nat):List Value:=(xs.toList.drop o).take n
def wR {xs:Array Value} {o n:Nat} (h:o+n<=xs.size):(Da xs o n).length=n:=by
 unfold Da;simp;omega
def DM {xs:Array Value} {o n m:Nat}:Da xs o (n+m)=Da xs o n++Da xs (o+n) m:=by
 unfold Da;rw[List.take_add,jC]
def Iz (P:Program) (d:Nat) (t:TypeId) (l:List Bool):Prop:=
 ∀(w:World) (xs ys:Array Value) (o:Nat) (q:Bool),o+l.length<=xs.size->o+l.length<=ys.size->AK l (Da xs o l.length) (Da ys o l.length)=some q->
  ∃x y,(part t xs o).run P w=.ok x w/\(part t ys o).run P w=.ok y w/\(Op.equalIn d t x y).run P w=.ok q w
def C6 {d:Nat} {flat:TypeId->Option (List Bool)} (E:∀t l,flat t=some l->Iz P d t l):∀(M:List Field) (off:Nat) (l:List Bool),FE P flat M off=some l->
  ∀(w:World) (xs ys:Array Value) (q:Bool),off+l.length<=xs.size->off+l.length<=ys.size->AK l (Da xs off l.length) (Da ys off l.length)=some q->(Op.eqFields d xs ys M).run P w=.ok q w
 | [],off,l,h=>by
  simp only[FE,aD] at h;subst h;intro w xs ys q _ _ B;simp only[Da,aJ,gM,AK,aD] at B;subst B;rfl
 | f::r,off,l,h=>by
  unfold FE at h;split at h <;> try contradiction
  rename_i Q i ho F J hi;split at h <;> try contradiction
  rename_i R T u;simp only[aD] at h;subst h;have G:=bJ ho;rw[AO] at u;have H:=C6 E r (off+Q.length) R u;intro w xs ys q U V B;rw[D5,aF] at U V B;rw[DM,DM] at B;obtain⟨O,q2,h1,h2,rfl⟩:=AH (by rw[wR (by omega)]) (by rw[wR (by omega)]) B;obtain⟨x,y,X,p2,Z⟩:=E _ _ J w xs ys off O (by omega) (by omega) h1;have K:f.name≠"_":=λe=>by rw[e] at F; simp at F
  unfold Op.eqFields;rw[if_pos K];rw[G];simp only[Sem.run_bind,X,p2,Z,Result.andThen_ok];cases O with
  | false=>simp
  | true=>simpa using H w xs ys q2 (by omega) (by omega) h2
def Dj (l:List Bool):∀n,(Cp l n).length=n*l.length
 | 0=>by simp[Cp]
 | n+1=>by simp[Cp,D5,Dj l n,cN,Nat.add_comm]
def run_equalIn_array {d:Nat} {t e:TypeId} {len:Nat} {l:List Bool} {i:TypeInfo} (hu:P.underlying t=some (.array len e)) (hi:P.info? e=some i) (F:i.size=l.length) (u:Iz P d e l) (w:World) (xs ys:Array Value) (q:Bool)
  (G:xs.size=len*l.length) (H:ys.size=len*l.length) (J:AK (Cp l len) xs.toList ys.toList=some q):(Op.equalIn (d+1) t (.agg xs) (.agg ys)).run P w=.ok q w:=by
 simp only[Op.equalIn,Sem.run_bind,run_underlying hu,Result.andThen_ok,run_sizeOf hi,F];rw[Std.Legacy.Range.forIn_eq_forIn_range'];have B:({start:=0,stop:=len,step:=1,step_pos:=by decide}:Std.Legacy.Range).size=len:=by simp[Std.Legacy.Range.size]
 simp only[B];have key:∀(k j:Nat) (w:World) (q:Bool),j+k=len->AK (Cp l k) (Da xs (j*l.length) (k*l.length)) (Da ys (j*l.length) (k*l.length))=some q->
   (forIn (List.range' j k 1) ((none,PUnit.unit):Option Bool × PUnit) (λi r=>do
    let a <-part e xs (i*l.length);let b <-part e ys (i*l.length);let c <-Op.equalIn d e a b;if (!c)=true then pure (ForInStep.done (some false,PUnit.unit)) else do
     pure PUnit.unit
     pure (ForInStep.yield (none,PUnit.unit))):Sem (Option Bool × PUnit)).run P w=.ok (if q then none else some false,PUnit.unit) w:=by
  intro k;induction k with
  | zero=>
   intro j w q _ h;simp only[eZ,Da,gM,Cp,AK,aD] at h;subst h;rfl
  | succ k K=>
   intro j w q U h;have V:j*l.length+l.length<=len*l.length:=by
    have:(j+1)*l.length<=len*l.length:=dF _ (by omega);rw[cN] at this;exact this
   rw[Cp,D5,cN,Nat.add_comm (k*l.length) l.length,DM,DM] at h;obtain⟨E,q2,h1,h2,rfl⟩:=AH (by rw[wR (by omega)]) (by rw[wR (by omega)]) h;obtain⟨x,y,M,p2,O⟩:=u w xs ys (j*l.length) E (by omega) (by omega) h1;rw[List.range'_succ,List.forIn_cons];simp only[Sem.run_bind,M,p2,O,Result.andThen_ok];cases E with
   | false=>simp
   | true=>
    simp only[Bool.not_true,cC,if_false,Sem.run_pure,Result.andThen_ok,fP];exact K (j+1) w q2 (by omega) (by rw[cN]; exact h2)
 have Q:AK (Cp l len) (Da xs (0*l.length) (len*l.length)) (Da ys (0*l.length) (len*l.length))=some q:=by
  have ex:Da xs (0*l.length) (len*l.length)=xs.toList:=by unfold Da;rw[eZ,dW,aW (by simp[G])]
  have R:Da ys (0*l.length) (len*l.length)=ys.toList:=by unfold Da;rw[eZ,dW,aW (by simp[H])]
  rw[ex,R];exact J
 have T:=key len 0 w q (by omega) Q;rw[T];cases q <;> rfl
def H3:∀(d:Nat) (t:TypeId) (l:List Bool),Dd P d t=some l->∀k,d<=k->
  Iz P k t l/\((∃H,P.underlying t=some (.struct H))\/(∃n e,P.underlying t=some (.array n e))->∀(w:World) (xs ys:Array Value) (q:Bool),AK l xs.toList ys.toList=some q->(Op.equalIn k t (.agg xs) (.agg ys)).run P w=.ok q w)
 | 0,t,n,h,_,_=>by simp[Dd] at h
 | d+1,t,l,h,k,hk=>by
  obtain⟨k,rfl⟩:∃j,k=j+1:=⟨k - 1,by omega⟩;have aT:d<=k:=by omega
  have O:∀(u:TypeDesc),P.underlying t=some u->((∃H,u=.struct H)\/∃l e,u=.array l e)->∀(i:TypeInfo),P.info? t=some i->∀(w:World) (o:Nat) (a:Array Value),(part t a o).run P w=.ok (.agg (a.extract o (o+i.size))) w:=by
   intro u hu F i hi w o a;unfold part isAgg;rcases F with ⟨H,rfl⟩| ⟨l,e,rfl⟩ <;> simp[run_underlying hu,run_sizeOf hi]
  have Q:∀(a:Array Value) (o m:Nat),(a.extract o (o+m)).toList=Da a o m:=by
   intro a o m;unfold Da;rw[Array.toList_extract,List.extract_eq_drop_take'];simp[List.drop_take]
  have E:∀(a:Array Value) (o:Nat),o+1<=a.size->∃v,a[o]?=some v/\Da a o 1=[v]:=by
   intro a o ha;have bY:o<a.size:=by omega
   refine⟨a[o],bZ bY,?_⟩;unfold Da;rw[bP (by simpa using bY)];simp
  have B:∀(u:TypeDesc),P.underlying t=some u->((∃H,u=.struct H)\/∃l e,u=.array l e)->∀(i:TypeInfo),P.info? t=some i->i.size=l.length->
    (∀(w:World) (xs ys:Array Value) (q:Bool),AK l xs.toList ys.toList=some q->(Op.equalIn (k+1) t (.agg xs) (.agg ys)).run P w=.ok q w)->Iz P (k+1) t l:=by
   intro u hu F i hi J hw w xs ys o q hx hy G;refine⟨_,_,O u hu F i hi w o xs,O u hu F i hi w o ys,hw w _ _ q ?_⟩;rw[Q,Q,J];exact G
  unfold Dd at h;split at h
  ·rename_i ik hu;simp only[aD] at h;subst h;refine⟨λw xs ys o q hx hy G=>?_,λF=>by rcases F with ⟨H,h1⟩| ⟨n,e,h1⟩ <;> (rw[hu] at h1; cases h1)⟩;obtain⟨x,T,U⟩:=E xs o hx;obtain⟨y,V,X⟩:=E ys o hy;simp only[aH,aJ,cP] at G;rw[U,X] at G;simp only[AK,aK,aD] at G;obtain⟨q0,M,q1,Z,rfl⟩:=G;subst Z;have hp:∀(a:Array Value) (v:Value),a[o]?=some v->(part t a o).run P w=.ok v w:=by
    intro a v hv;unfold part isAgg;simp[run_underlying hu,hv]
   refine⟨x,y,hp _ _ T,hp _ _ V,?_⟩;unfold ZM at M;split at M <;> try contradiction
   split at M <;> try contradiction
   rename_i iF;simp only[aD] at M;subst M;subst iF;simp[Op.equalIn,run_underlying hu]
  ·rename_i hu;simp only[aD] at h;subst h;refine⟨λw xs ys o q hx hy G=>?_,λF=>by rcases F with ⟨H,h1⟩| ⟨n,e,h1⟩ <;> (rw[hu] at h1; cases h1)⟩;obtain⟨x,T,U⟩:=E xs o hx;obtain⟨y,V,X⟩:=E ys o hy;simp only[aH,aJ,cP] at G;rw[U,X] at G;simp only[AK,aK,aD] at G;obtain⟨q0,M,q1,Z,rfl⟩:=G;subst Z;have hp:∀(a:Array Value) (v:Value),a[o]?=some v->(part t a o).run P w=.ok v w:=by
    intro a v hv;unfold part isAgg;simp[run_underlying hu,hv]
   refine⟨x,y,hp _ _ T,hp _ _ V,?_⟩;unfold ZM at M;split at M <;> try contradiction
   simp only[aD] at M;subst M;simp[Op.equalIn,run_underlying hu]
  ·rename_i H hu;split at h <;> try contradiction
   rename_i l' i iN iS hi;split at h <;> try contradiction
   rename_i J;simp only[aD] at h;subst h;have K:i.size=l'.length:=by rw[<-AO];exact bJ J
   have dO:P.fieldsOf t=H:=by simp[Program.fieldsOf,hu]
   have hw:∀(w:World) (xs ys:Array Value) (q:Bool),AK l' xs.toList ys.toList=some q->(Op.equalIn (k+1) t (.agg xs) (.agg ys)).run P w=.ok q w:=by
    intro w xs ys q G;rw[run_equalIn_struct w k t xs ys (by rw[dO]; exact hu) iN,dO];have R:=zX G;have e1:∀a:Array Value,a.toList.length=l'.length->Da a 0 l'.length=a.toList:=λa ha=>by unfold Da;rw[dW,aW (by omega)]
    exact C6 (λt' oF oR=>(H3 d t' oF oR k aT).1) H.toList 0 l' iS w xs ys q (by have:=R.1; simp at this; omega) (by have:=R.2; simp at this; omega) (by rw[e1 xs R.1,e1 ys R.2]; exact G)
   exact⟨B _ hu (.inl ⟨_,rfl⟩) i hi K hw,λ_=>hw⟩
  ·rename_i len e hu;split at h <;> try contradiction
   rename_i le i j hle hi hj;split at h <;> try contradiction
   rename_i J eQ;simp only[aD] at h;subst h;have K:i.size=le.length:=by rw[<-AO];exact bJ J
   have aS:j.size=(Cp le len).length:=by rw[<-AO];exact bJ eQ
   have hw:∀(w:World) (xs ys:Array Value) (q:Bool),AK (Cp le len) xs.toList ys.toList=some q->(Op.equalIn (k+1) t (.agg xs) (.agg ys)).run P w=.ok q w:=by
    intro w xs ys q G;have R:=zX G;rw[Dj] at R;exact run_equalIn_array hu hi K (H3 d e le hle k aT).1 w xs ys q (by simpa using R.1) (by simpa using R.2) G
   exact⟨B _ hu (.inr ⟨_,_,rfl⟩) j hj aS hw,λ_=>hw⟩
  ·contradiction
def Ja (d:Nat) (E:4<=d) {t:TypeId} {x y:Value} {b:Bool} (h:VI (TF P t) x y=some b):(Op.equalIn (d+1) t x y).run P w=.ok b w:=by
 have hu:=G9 P t;cases q:TF P t <;> rw[q] at h hu <;> simp only[VI,EKu] at h hu <;> try contradiction
 ·unfold Wl at h;split at h <;> try contradiction
  simp only[aD] at h;simp[Op.equalIn,run_underlying hu,h]
 ·obtain⟨e,hu⟩:=hu;unfold eqP at h;split at h <;> try contradiction
  all_goals (simp only[aD] at h; simp[Op.equalIn,run_underlying hu,h])
 ·obtain⟨e,hu⟩:=hu;unfold S8 at h;split at h <;> try contradiction
  all_goals (simp only[aD] at h; simp[Op.equalIn,run_underlying hu,h])
 ·obtain⟨e,e',hu⟩:=hu;unfold VF at h;split at h <;> try contradiction
  all_goals (simp only[aD] at h; simp[Op.equalIn,run_underlying hu,h])
 ·obtain⟨e,e',u,hu⟩:=hu;unfold V4 at h;split at h <;> try contradiction
  all_goals (simp only[aD] at h; simp[Op.equalIn,run_underlying hu,h])
 ·obtain⟨h1,h2,B⟩:=hu;unfold zL at h;split at h <;> try contradiction
  exact(H3 5 t _ h1 (d+1) (by omega)).2 B w _ _ b h
def NH {t:TypeId} {x y:Value} {b:Bool} (h:VI (TF P t) x y=some b):(Op.equal t x y).run P w=.ok b w:=
 Ja 9999 (by omega) h
def OP {k:EK} {x y:Value} {b:Bool} (h:VI k x y=some b) (q:∀ds,k≠.agg ds) :
  (∀(op:BinOp) (t:TypeId) (ox oy:Operand),(eqGuard op t ox oy x y).run P w=.ok () w)/\
  (∀t,binOp .eql t x y=(do pure (.bool (<-Op.equal t x y))))/\(∀t,binOp .neq t x y=(do pure (.bool (!(<-Op.equal t x y))))):=by
 cases k <;> simp only[VI] at h <;> try contradiction
 ·unfold Wl at h;split at h <;> try contradiction
  exact⟨λop _ _ _=>by cases op <;> rfl,λ_=>rfl,λ_=>rfl⟩
 ·unfold eqP at h;split at h <;> try contradiction
  all_goals exact⟨λop _ _ _=>by cases op <;> rfl,λ_=>rfl,λ_=>rfl⟩
 ·unfold S8 at h;split at h <;> try contradiction
  all_goals exact⟨λop _ _ _=>by cases op <;> rfl,λ_=>rfl,λ_=>rfl⟩
 ·unfold VF at h;split at h <;> try contradiction
  all_goals exact⟨λop _ _ _=>by cases op <;> rfl,λ_=>rfl,λ_=>rfl⟩
 ·unfold V4 at h;split at h <;> try contradiction
  all_goals exact⟨λop _ _ _=>by cases op <;> rfl,λ_=>rfl,λ_=>rfl⟩
 ·exact(q _ rfl).elim
def Um {op:BinOp} {t:TypeId} {ox oy:Operand} {x y v:Value} (h:Zg (TF P t) op x y=some v) :
  (do eqGuard op t ox oy x y; binOp op t x y:Sem Value).run P w=.ok v w:=by
 cases u:TF P t with
 | plain=>
  rw[u] at h;simp only[Zg] at h;obtain⟨k,a,k',b,rfl,rfl⟩:=Qz h;simp only[Sem.run_bind,Dy,Result.andThen_ok,UW h]
 | agg l=>
  have hu:=G9 P t;rw[u] at h hu;obtain⟨h1,h2,H⟩:=hu;cases op <;> simp only[Zg] at h <;> try contradiction
  all_goals
   simp only[pos?,uk,aK,aD] at h;obtain⟨b,q,rfl⟩:=h;have B:=NH (P:=P) (w:=w) (t:=t) (x:=x) (y:=y) (b:=b) (by rw[u]; exact q);simp only[VI,zL] at q;split at q <;> try contradiction
   simp only[Op.equal,Op.maxDepth] at B;simp only[Sem.run_bind,run_eqGuard_agg w _ _ _ _ _ _ h2,Result.andThen_ok,run_eql_struct,run_neq_struct,B]
 | _=>
  rw[u] at h;cases op <;> simp only[Zg] at h <;> try contradiction
  all_goals
   simp only[pos?,uk,aK,aD] at h;obtain⟨b,q,rfl⟩:=h;obtain⟨E,F,G⟩:=OP (P:=P) (w:=w) q (λds e=>by simp at e);rw[<-u] at q;have B:=NH (P:=P) (w:=w) q;simp only[Sem.run_bind,E,F,G,Result.andThen_ok,B,Sem.run_pure]
def Mn (d:Nat) {t:TypeId} {x:Value} {b:Bool} (hi:ZR P t=true) (h:(x=.nilIface/\b=true)\/((∃q v,x=.iface q v)/\b=false)):(Op.equalIn (d+1) t x .nilIface).run P w=.ok b w:=by
 unfold ZR at hi;split at hi <;> try contradiction
 rename_i ms hu;unfold Op.equalIn;rcases h with ⟨rfl,rfl⟩| ⟨⟨q,v,rfl⟩,rfl⟩
 ·simp only[Sem.run_bind,run_underlying hu,Result.andThen_ok,Sem.run_pure]
 ·simp only[Sem.run_bind,run_underlying hu,Result.andThen_ok,Sem.run_pure]
def UR {op:BinOp} {t:TypeId} {ox:Operand} {x v:Value} (hi:ZR P t=true) (h:inl op x=some v) :
  (do eqGuard op t ox (.const .nilIface) x .nilIface; binOp op t x .nilIface:Sem Value).run P w=.ok v w:=by
 have e:∀b,((x=.nilIface/\b=true)\/((∃q v,x=.iface q v)/\b=false))->(Op.equal t x .nilIface).run P w=.ok b w:=λb B=>Mn 9999 hi B;unfold inl at h;split at h <;> try contradiction
 all_goals
  simp only[aD] at h;subst h
 ·have g:(eqGuard .eql t ox (.const .nilIface) .nilIface .nilIface).run P w=.ok () w:=by
   unfold eqGuard;simp
  have b:binOp .eql t .nilIface .nilIface=(do pure (.bool (<-Op.equal t .nilIface .nilIface))):=rfl;simp only[Sem.run_bind,g,b,Result.andThen_ok,e true (.inl ⟨rfl,rfl⟩),Sem.run_pure]
 ·rename_i q u;have g:(eqGuard .eql t ox (.const .nilIface) (.iface q u) .nilIface).run P w=.ok () w:=rfl;have b:binOp .eql t (.iface q u) .nilIface=(do pure (.bool (<-Op.equal t (.iface q u) .nilIface))):=rfl;simp only[Sem.run_bind,g,b,Result.andThen_ok,e false (.inr ⟨⟨_,_,rfl⟩,rfl⟩),Sem.run_pure]
 ·have g:(eqGuard .neq t ox (.const .nilIface) .nilIface .nilIface).run P w=.ok () w:=by
   unfold eqGuard;simp
  have b:binOp .neq t .nilIface .nilIface=(do pure (.bool (!(<-Op.equal t .nilIface .nilIface)))):=rfl;simp only[Sem.run_bind,g,b,Result.andThen_ok,e true (.inl ⟨rfl,rfl⟩),Sem.run_pure,Bool.not_true]
 ·rename_i q u;have g:(eqGuard .neq t ox (.const .nilIface) (.iface q u) .nilIface).run P w=.ok () w:=rfl;have b:binOp .neq t (.iface q u) .nilIface=(do pure (.bool (!(<-Op.equal t (.iface q u) .nilIface)))):=rfl;simp only[Sem.run_bind,g,b,Result.andThen_ok,e false (.inr ⟨⟨_,_,rfl⟩,rfl⟩),Sem.run_pure,iB]
def Tn {t:TypeId} {x:Value} (hi:Yu P t=true):(Instr.makeInterface t x).run P w=.ok (.iface t x) w:=by
 unfold Yu at hi;split at hi <;> try contradiction
 rename_i d h hu;unfold Instr.makeInterface;simp only[Sem.run_bind,run_underlying hu,Result.andThen_ok,Sem.run_pure]
def TW {t E:TypeId} {i:TypeInfo} {z x v:Value} {ok:Bool} (hi:Yu P t=true) (F:P.info? t=some i) (G:i.zero=some z) (h:FV t z ok x=some v):(Instr.typeAssert x E t ok).run P w=.ok v w:=by
 unfold Yu at hi;split at hi <;> try contradiction
 rename_i d u hu;have q:=pg (P:=P) (w:=w) F G;unfold FV at h;unfold Instr.typeAssert;split at h <;> try contradiction
 ·rename_i B H;simp only[aD] at h;subst h;simp only[Sem.run_bind,run_underlying hu,Result.andThen_ok];by_cases e:B=t
  ·cases d <;> first | (rename_i ms; exact(u ms rfl).elim) | simp[e]
  ·cases d <;> first | (rename_i ms; exact(u ms rfl).elim) | simp[e,q]
 ·rename_i B H;split at h <;> try contradiction
  rename_i e;simp only[aD] at h;subst h;simp only[Sem.run_bind,run_underlying hu,Result.andThen_ok];cases d <;> first | (rename_i ms; exact(u ms rfl).elim) | simp[e]
 ·simp only[aD] at h;subst h;simp only[Sem.run_bind,run_underlying hu,Result.andThen_ok];cases d <;> first | (rename_i ms; exact(u ms rfl).elim) | simp[q]
def U2 {op:UnOp} {x v:Value} (h:Qb op x=some v):(Op.unary op x).run P w=.ok v w:=by
 unfold Qb at h;split at h <;> try contradiction
 all_goals (simp only[aD] at h; subst h; simp[Op.unary,Op.intArith])
def Vv {s d:TypeId} {x v:Value} (h:ZF (cvk P s d) x=some v):(convert s d x).run P w=.ok v w:=by
 unfold cvk at h;split at h
 ·rename_i k' k hs q;simp only[ZF] at h;unfold NY at h;split at h <;> try contradiction
  simp only[aD] at h;subst h;simp[convert,run_underlying hs,run_underlying q,Conv.intToInt]
 ·simp[ZF] at h
def G8 {s:TypeId} {f:Nat} {k:FK} (h:VA P s f=k) (B:k≠.bad):∃q fd i,P.underlying s=some (.struct q)/\q[f]?=some fd/\P.info? fd.type=some i/\i.size≠0/\
  ((k=.cell fd.offset/\L6 P fd.type=.cell)\/(k=.agg fd.offset i.size/\L6 P fd.type=.agg i.size)):=by
 unfold VA at h;split at h <;> try (exact(B h.symm).elim)
 rename_i q hu;split at h <;> try (exact(B h.symm).elim)
 rename_i fd u;split at h <;> try (exact(B h.symm).elim)
 ·rename_i i E hi;split at h <;> try (exact(B h.symm).elim)
  rename_i hs;exact⟨q,fd,i,hu,u,hi,by omega,.inl ⟨h.symm,E⟩⟩
 ·rename_i n E;obtain⟨⟨i,hi,F⟩,_⟩:=DQ E;exact⟨q,fd,i,hu,u,hi,by omega,.inr ⟨by rw[<-h,F],by rw[E,F]⟩⟩
def JD {s:TypeId} {f:Nat} {p v:Value} (h:ZG (VA P s f) p=some v):(Instr.fieldAt s p f).run P w=.ok v w:=by
 have B:VA P s f≠.bad:=λe=>by rw[e] at h;simp[ZG] at h
 obtain⟨F,fd,i,hu,q,hi,u,E⟩:=G8 rfl B;have h':fa fd.offset p=some v:=by
  rcases E with ⟨e,_⟩| ⟨e,_⟩ <;> (rw[e] at h; simpa[ZG] using h)
 unfold fa at h';split at h' <;> try contradiction
 simp only[aD] at h';subst h';simp[Instr.fieldAt,run_underlying hu,q,Instr.sureAddr,fieldPlace,run_sizeOf hi,u]
def O4 {s:TypeId} {f:Nat} {x v:Value} (h:ZK (VA P s f) x=some v):(Instr.field s x f).run P w=.ok v w:=by
 have B:VA P s f≠.bad:=λe=>by rw[e] at h;simp[ZK] at h
 obtain⟨G,fd,i,hu,q,hi,E,F⟩:=G8 rfl B;rcases F with ⟨e,u⟩| ⟨e,u⟩ <;> rw[e] at h <;> simp only[ZK] at h
 ·unfold Xd at h;split at h <;> try contradiction
  simp[Instr.field,run_underlying hu,q,asAgg,part,tH u,h]
 ·unfold W7 at h;split at h <;> try contradiction
  simp only[aD] at h;subst h;simp[Instr.field,run_underlying hu,q,asAgg,part,vk u,run_sizeOf hi]
def J2 {t:TypeId} {x i v:Value} (h:Zo (S2 P t) x i=some v):(Instr.indexAt t x i).run P w=.ok v w:=by
 unfold S2 at h;split at h
 ·rename_i e hu;split at h <;> simp only[Zo] at h <;> try contradiction
  rename_i ii hi;unfold sL at h;split at h <;> try contradiction
  split at h <;> try contradiction
  rename_i q;simp only[aD] at h;subst h;simp[Instr.indexAt,asIntOf,run_underlying hu,q,run_sizeOf hi]
 ·rename_i n e hu;split at h <;> simp only[Zo] at h <;> try contradiction
  rename_i ii hi;unfold I4 at h;split at h <;> try contradiction
  split at h <;> try contradiction
  rename_i q;simp only[aD] at h;subst h;simp[Instr.indexAt,asIntOf,run_underlying hu,q,run_sizeOf hi,Instr.sureAddr]
 ·simp[Zo] at h
def Jn {t:TypeId} {x v:Value} (h:Zv (S2 P t) x=some v):(Instr.arrayAt t x).run P w=.ok v w:=by
 unfold S2 at h;split at h
 ·split at h <;> simp[Zv] at h
 ·rename_i n e hu;split at h <;> simp only[Zv] at h <;> try contradiction
  unfold Uj at h;split at h <;> try contradiction
  split at h <;> try contradiction
  rename_i q;have q:=dX q;simp only[aD] at h;subst h;simp[Instr.arrayAt,run_underlying hu,Nat.not_lt.2 q]
 ·simp[Zv] at h
def PB {t:TypeId} {x i v:Value} (h:Yw (idk P t) x i=some v):(Instr.index t x i).run P w=.ok v w:=by
 unfold idk at h;split at h
 ·rename_i n e hu;split at h <;> simp only[Yw] at h <;> try contradiction
  ·rename_i ii B hi;unfold VG at h;split at h <;> try contradiction
   split at h <;> try contradiction
   rename_i q;simp[Instr.index,asIntOf,run_underlying hu,q,run_sizeOf hi,part,tH B,h]
  ·rename_i s ii B hi;unfold VR at h;split at h <;> try contradiction
   split at h <;> try contradiction
   rename_i q;simp only[aD] at h;subst h;obtain⟨⟨i2,u,E⟩,_⟩:=DQ B;have:ii=i2:=by rw[hi] at u;simpa using u
   subst this;simp[Instr.index,asIntOf,run_underlying hu,q,run_sizeOf hi,part,vk B,E]
 ·rename_i hu;simp only[Yw] at h;unfold Y3 at h;split at h <;> try contradiction
  rename_i s _ n;rw[Option.map_eq_some_iff] at h;obtain⟨b,q,rfl⟩:=h;simp[Instr.index,asIntOf,run_underlying hu,q]
 ·simp[Yw] at h
def Vu {it v:Value} (h:uX it w.heap=some v):(Instr.entry it).run P w=.ok v w:=by
 unfold uX at h;split at h <;> try contradiction
 rename_i r _;split at h <;> try contradiction
 rename_i m F seen q G;split at h <;> try contradiction
 rename_i B es clock H hm;split at h <;> try contradiction
 rename_i e E he;simp only[aD] at h;subst h;have u:=bJ E;subst u;have J:(getObj r).run P w=.ok (.mapIter (some m) F seen clock) w:=by simp only[getObj,Sem.run,G]
 have K:(getObj m).run P w=.ok (.map es clock) w:=by simp only[getObj,Sem.run,hm]
 unfold Instr.entry;simp only[Sem.run_bind,J,Result.andThen_ok,H,K,bne_self_eq_false,cC,if_false,he,Sem.run_pure]
def te {x:Value} {y:Nat} {c:BoundsCode} {m:Nat} (h:Wm x y=some m):(Instr.sliceBound x y c).run P w=.ok m w:=by
 unfold Wm at h;split at h <;> try contradiction
 split at h <;> try contradiction
 rename_i q;simp only[aD] at h;subst h;simp[Instr.sliceBound,asIntOf,q]
def Jw {B:Bool} {len cap:Nat} {lo hi mx:Option Value} {b:Nat × Nat × Nat} (hm:hi=none->mx=none) (h:OZ len cap lo hi mx=some b) :
  (Instr.sliceBounds B len cap lo hi mx).run P w=.ok b w:=by
 unfold OZ at h;simp only[aK,aD] at h;obtain⟨m,h1,E,h2,l,q,rfl⟩:=h;unfold Instr.sliceBounds;cases mx with
 | none=>
  simp only[QS,aD] at h1;subst h1;cases hi with
  | none=>
   simp only[MF,aD] at h2;subst h2;cases lo with
   | none=>simp only[F6,aD] at q;subst q;rfl
   | some u=>simp only[F6] at q;simp only[Sem.run_bind,Sem.run_pure,Result.andThen_ok,te q]
  | some v=>
   simp only[MF] at h2;cases lo with
   | none=>simp only[F6,aD] at q;subst q;simp only[Sem.run_bind,Sem.run_pure,Result.andThen_ok,te h2]
   | some u=>simp only[F6] at q;simp only[Sem.run_bind,Sem.run_pure,Result.andThen_ok,te q,te h2]
 | some x=>
  simp only[QS] at h1;cases hi with
  | none=>exact absurd (hm rfl) (by simp)
  | some v=>
   simp only[MF] at h2;cases lo with
   | none=>simp only[F6,aD] at q;subst q;simp only[Sem.run_bind,Sem.run_pure,Result.andThen_ok,te h2,te h1]
   | some u=>simp only[F6] at q;simp only[Sem.run_bind,Sem.run_pure,Result.andThen_ok,te q,te h2,te h1]
def Jc {t:TypeId} {x v:Value} {lo hi mx:Option Value} (hm:hi=none->mx=none) (h:Yo (S2 P t) x lo hi mx=some v) :
  (Instr.sliceAt t x lo hi mx).run P w=.ok v w:=by
 unfold S2 at h;split at h
 ·rename_i e hu;split at h <;> simp only[Yo] at h <;> try contradiction
  rename_i ii q;unfold xO at h;split at h <;> try contradiction
  simp only[aK,aD] at h;obtain⟨b,u,rfl⟩:=h;simp[Instr.sliceAt,Instr.slice,run_underlying hu,Jw hm u,run_sizeOf q,P4]
 ·rename_i n e hu;split at h <;> simp only[Yo] at h <;> try contradiction
  rename_i ii q;unfold VJ at h;split at h <;> try contradiction
  simp only[aK,aD] at h;obtain⟨b,u,rfl⟩:=h;simp only[Instr.sliceAt,Sem.run_bind,run_underlying hu,Result.andThen_ok,Instr.sureAddr,Sem.run_pure,Jw hm u,run_sizeOf q,P4];congr 2;split <;> rfl
 ·simp[Yo] at h
def U1 {x v:Value} {i:Nat} (h:ext i x=some v):(Instr.extract x i).run P w=.ok v w:=by
 unfold ext at h;split at h <;> try contradiction
 simp[Instr.extract,h]
def run_places:∀(q:List Field) (ps:List (Nat × Nat)),placesOf P q=some ps->
  (q.mapM λf=>do pure (f.offset,<-sizeOf f.type):Sem (List (Nat × Nat))).run P w=.ok ps w
 | [],ps,h=>by simp only[placesOf,aD] at h;subst h;rfl
 | f::r,ps,h=>by
  simp only[placesOf,aK,aD] at h;obtain⟨i,hi,l,u,rfl⟩:=h;have:=run_places r l u;simp only[jD,Sem.run_bind,run_sizeOf hi,Result.andThen_ok,Sem.run_pure,this]
def run_build {t:TypeId} {parts:Array (Nat × Value)} {v:Value} (h:Vi (Z7 P t) parts.toList=some v):(Instr.build t parts).run P w=.ok v w:=by
 unfold Z7 at h;split at h <;> try (simp only[Vi] at h; contradiction)
 rename_i i hi;split at h <;> try (simp only[Vi] at h; contradiction)
 rename_i z F;split at h <;> try (simp only[Vi] at h; contradiction)
 ·rename_i G hu;split at h <;> try (simp only[Vi] at h; contradiction)
  rename_i ps q;simp only[Vi] at h;unfold nF at h;simp only[aK,aD] at h;obtain⟨cells,u,rfl⟩:=h;have H:=run_places (P:=P) (w:=w) G.toList ps q;have B:(G.mapM λf=>do pure (f.offset,<-sizeOf f.type):Sem (Array (Nat × Nat))).run P w=.ok ps.toArray w:=by
   rw[iC,Sem.run_map,H];rfl
  have E:Instr.fill (λi=>ps.toArray[i]?) z.cells parts.toList=some cells:=by simpa using u
  simp only[Instr.build,Sem.run_bind,pg hi F,Result.andThen_ok,run_underlying hu,B,E,Sem.run_pure]
 ·rename_i n e hu;split at h <;> try (simp only[Vi] at h; contradiction)
  rename_i j J;simp only[Vi] at h;unfold ML at h;simp only[aK,aD] at h;obtain⟨cells,u,rfl⟩:=h;simp only[Instr.build,Sem.run_bind,pg hi F,Result.andThen_ok,run_underlying hu,run_sizeOf J,u,Sem.run_pure]
def FR {t e:TypeId} {z:Array Value} {s b:Nat} (h:Qf P t=.ok e z s b):P.underlying t=some (.slice e)/\∃i v,P.info? e=some i/\i.zero=some v/\v.cells=z/\i.size=s/\i.bytes=b/\z.size=s/\0<s:=by
 unfold Qf at h;split at h <;> try contradiction
 rename_i e' hu;split at h <;> try contradiction
 rename_i i hi;split at h <;> try contradiction
 rename_i v q;split at h <;> try contradiction
 rename_i h1 h2;simp only[XK.ok.injEq] at h;obtain⟨rfl,rfl,rfl,rfl⟩:=h;exact⟨hu,i,v,hi,q,rfl,rfl,rfl,bJ h1,by simpa[fG] using h2⟩
def FN {t e:TypeId} {z:Array Value} {s b len:Nat} {parts:Array (Nat × Value)} {v:Value} {h':Hp} (G:Qf P t=.ok e z s b) (M:len*s<=16777216)
  (h:ED z s len e parts.toList w.heap=some (v,h')):∃w',(Instr.buildSlice t len parts).run P w=.ok v w'/\w'.heap=h'/\rM w w':=by
 obtain⟨hu,i,E,hi,H,rfl,rfl,rfl,J,F⟩:=FR G;unfold ED at h;simp only[aK,aD,bV] at h;obtain⟨cells,u,rfl,rfl⟩:=h;have q:¬(len*i.size > 16777216):=by omega
 by_cases B:len*i.size=0
 ·refine⟨{w with heap:=w.heap.push (.cells cells e)},?_,rfl,⟨rfl,rfl,rfl⟩⟩;have K:(Array.range (len*i.size)).map (λx=>E.cells[x % E.cells.size]!)=(Array.range (len*i.size)).map (λx=>(#[]:Array Value)[x % 0]!):=by
   rw[B];simp
  rw[K] at u;simp only[Instr.buildSlice,Sem.run_bind,run_underlying hu,Result.andThen_ok,run_sizeOf hi,q,B,if_true,if_false,Sem.run_pure,newRow,run_newObj,Nat.reducePow,iT,gt_iff_lt];rw[B] at u;simp only[gI,aJ];rw[u];rfl
 ·refine⟨{w with heap:=w.heap.push (.cells cells e)},?_,rfl,⟨rfl,rfl,rfl⟩⟩;simp only[Instr.buildSlice,Sem.run_bind,run_underlying hu,Result.andThen_ok,run_sizeOf hi,q,B,if_false,Sem.run_pure,newRow,run_newObj,Nat.reducePow,pg hi H,u]
def Iw {e:TypeId} {i:TypeInfo} {z v:Value} {h':Hp} (hi:P.info? e=some i) (q:i.zero=some z) (h:nw z.cells e w.heap=some (v,h')) :
  ∃w',(Instr.alloc e true (.tuple #[])).run P w=.ok v w'/\w'.heap=h'/\rM w w':=by
 simp only[nw,aD,bV] at h;obtain⟨rfl,rfl⟩:=h;refine⟨{w with heap:=w.heap.push (.cells z.cells e)},?_,rfl,⟨rfl,rfl,rfl⟩⟩;simp[Instr.alloc,pg hi q,newVar,newRow]
def Mg {e:TypeId} {x v:Value} {h':Hp} (h:nw x.cells e w.heap=some (v,h')) :
  ∃w',(Instr.box e x).run P w=.ok v w'/\w'.heap=h'/\rM w w':=by
 simp only[nw,aD,bV] at h;obtain⟨rfl,rfl⟩:=h;refine⟨{w with heap:=w.heap.push (.cells x.cells e)},?_,rfl,⟨rfl,rfl,rfl⟩⟩;simp[Instr.box,newVar,newRow]
end
section
variable {P:Program} {w:World}
def Ix {t:TypeId} {kd:TypeDesc} {z:Value} (h:Qh P t=.ok kd z):∃k e q i,P.underlying t=some (.map k e)/\P.underlying k=some (.int q)/\kd=.int q/\P.info? e=some i/\i.zero=some z:=by
 unfold Qh at h;split at h <;> try contradiction
 rename_i k e hu;split at h <;> try contradiction
 rename_i q i u hi;split at h <;> try contradiction
 rename_i E B;simp only[MK.ok.injEq] at h;obtain⟨rfl,rfl⟩:=h;exact⟨k,e,q,i,hu,u,rfl,hi,B⟩
def run_checkKey (e:Bool) (n:Nat) {k:TypeId} {h:IntKind} (q:P.underlying k=some (.int h)) (v:Value):(Instr.checkKey e (n+1) k v).run P w=.ok () w:=by
 unfold Instr.checkKey;simp only[Sem.run_bind,run_underlying q,Result.andThen_ok];cases v <;> rfl
def run_findKey {k:TypeId} {kd:TypeDesc} (q:P.underlying k=some kd) {key:Value} {es:List MapEntry} {r:Option (Nat × Value)} (h:Instr.findNow kd key es 0=some r) :
  (Instr.findKey k key es).run P w=.ok r w:=by
 unfold Instr.findKey;simp only[Sem.run_bind,run_underlying q,Result.andThen_ok,h,Sem.run_pure]
def CG {m:Value} {h:Hp} (e:yj m h=some none):m=.map none:=by
 unfold yj at e;split at e
 ·rfl
 ·split at e <;> simp at e
 ·simp at e
def tp {m:Value} {h:Hp} {r:Nat} {es:Array MapEntry} {c:Nat} (e:yj m h=some (some (r,es,c))):m=.map (some r)/\h[r]?=some (.map es c):=by
 unfold yj at e;split at e
 ·simp at e
 ·rename_i B;split at e
  ·rename_i q c' u;simp only[aD,bV] at e;obtain⟨rfl,rfl,rfl⟩:=e;exact⟨rfl,u⟩
  ·simp at e
 ·simp at e
def om {r:Nat} {es:Array MapEntry} {c:Nat} (h:w.heap[r]?=some (.map es c)):(getObj r).run P w=.ok (.map es c) w:=by
 simp only[getObj,Sem.run,h]
def qi {r:Nat} {es:Array MapEntry} {c:Nat} (o:Obj) (h:w.heap[r]?=some (.map es c)):(setObj r o).run P w=.ok () {w with heap:=w.heap.setIfInBounds r o}:=by
 simp only[setObj,Sem.run,h]
def LF {t:TypeId} {ok:Bool} {m key v:Value} (h:ZO (Qh P t) ok m key w.heap=some v):(Instr.lookup t m key ok).run P w=.ok v w:=by
 cases E:Qh P t with
 | bad=>rw[E] at h;simp[ZO] at h
 | ok kd z=>
  rw[E] at h;simp only[ZO] at h;obtain⟨k,e,K,i,hu,q,rfl,hi,F⟩:=Ix E;unfold Pa at h;simp only[aK,aD] at h;obtain⟨r,G,f,B,hv⟩:=h;have H:=λ(b:Bool)=>run_checkKey (P:=P) (w:=w) b 9999 q key;cases r with
  | none=>
   have:=CG G;subst this;simp only[Option.map_none,Option.getD_none,Instr.findNow,aD] at B;subst B;unfold Instr.lookup;have u:=run_findKey (P:=P) (w:=w) q (key:=key) (es:=[]) (r:=none) rfl;simp only[Sem.run_bind,run_underlying hu,Result.andThen_ok,Sem.run_pure,H,u,pg hi F];subst hv;cases ok <;> rfl
  | some x=>
   obtain⟨r,es,c⟩:=x;obtain⟨rfl,J⟩:=tp G;simp only[cB,fE] at B;have u:=run_findKey (P:=P) (w:=w) q B;unfold Instr.lookup;simp only[Sem.run_bind,run_underlying hu,Result.andThen_ok,Sem.run_pure,om J,H,u];subst hv;cases f with
   | none=>simp only[Sem.run_bind,pg hi F,Result.andThen_ok,Sem.run_pure];cases ok <;> rfl
   | some y=>simp only[Sem.run_pure,Result.andThen_ok];cases ok <;> rfl
def C7 {B:IntKind} {key:Value}:∀(es:List MapEntry) (i j:Nat) (v:Value),Instr.findNow (.int B) key es i=some (some (j,v))->
  i<=j/\∃e,es[j - i]?=some e/\e.val=v/\(∃k a,key=.int k a/\e.key=.int k a)
 | [],i,j,v,h=>by simp[Instr.findNow] at h
 | e::es,i,j,v,h=>by
  unfold Instr.findNow at h;split at h
  ·rename_i hs;simp only[aD,bV] at h;obtain⟨rfl,rfl⟩:=h;refine⟨aP _,e,by simp,rfl,?_⟩;unfold Instr.sameNow at hs;split at hs <;> try contradiction
   ·rename_i q;split at hs <;> try contradiction
    rename_i u;simp only[aD,beq_iff_eq] at hs;exact⟨_,_,rfl,by rw[q,u,hs]⟩
  ·obtain⟨h1,e',h2,E,F⟩:=C7 es (i+1) j v h;refine⟨by omega,e',?_,E,F⟩;have:j - i=(j - (i+1))+1:=by omega
   rw[this,cR];exact h2
  ·contradiction
def Ia (n:Nat) (k:IntKind) (a:Int):Instr.sameBits n (.int k a) (.int k a)=true:=by
 cases n <;> simp[Instr.sameBits]
def AY {u:IntKind} {key:Value} {es:Array MapEntry} {j:Nat} {v:Value} (h:Instr.findNow (.int u) key es.toList 0=some (some (j,v))) :
  (Instr.keyThatStays (((es[j]?).map (·.key)).getD key) key).run P w=.ok key w:=by
 obtain⟨_,e,h2,_,k,a,rfl,B⟩:=C7 _ _ _ _ h;have q:es[j]?=some e:=by simpa using h2
 unfold Instr.keyThatStays;rw[q];simp only[cB,fE,B];rw[if_pos (Ia _ _ _)];rfl
def zK {t:TypeId} {kd:TypeDesc} {z m key v:Value} {h':Hp} (F:Qh P t=.ok kd z) (h:B9 kd m key v w.heap=some h') :
  ∃w',(Instr.mapUpdate t m key v).run P w=.ok () w'/\w'.heap=h'/\rM w w':=by
 obtain⟨k,e,H,i,hu,q,rfl,hi,J⟩:=Ix F;have G:=λ(b:Bool)=>run_checkKey (P:=P) (w:=w) b 9999 q key;unfold B9 at h;split at h <;> try contradiction
 rename_i r es c hm;obtain⟨rfl,E⟩:=tp hm;unfold Instr.mapUpdate;simp only[Sem.run_bind,run_underlying hu,Result.andThen_ok,om E,G];split at h <;> try contradiction
 ·rename_i j u B;simp only[aD] at h;subst h;refine⟨{w with heap:=w.heap.setIfInBounds r _},?_,rfl,⟨rfl,rfl,rfl⟩⟩;simp only[run_findKey q B,Result.andThen_ok,Sem.run_bind,AY B,qi _ E]
 ·rename_i B;simp only[aD] at h;subst h;refine⟨{w with heap:=w.heap.setIfInBounds r _},?_,rfl,⟨rfl,rfl,rfl⟩⟩;simp only[run_findKey q B,Result.andThen_ok,qi _ E]
def IE {t:TypeId} {kd:TypeDesc} {z m key v:Value} {h':Hp} (F:Qh P t=.ok kd z) (h:men kd z m key w.heap=some (v,h')) :
  ∃w',(Instr.mapEntry t m key).run P w=.ok v w'/\w'.heap=h'/\rM w w':=by
 obtain⟨k,e,J,i,hu,q,rfl,hi,G⟩:=Ix F;have H:=λ(b:Bool)=>run_checkKey (P:=P) (w:=w) b 9999 q key;unfold men at h;split at h <;> try contradiction
 rename_i r es c hm;obtain⟨rfl,E⟩:=tp hm;unfold Instr.mapEntry;simp only[Sem.run_bind,run_underlying hu,Result.andThen_ok,om E,H];split at h <;> try contradiction
 ·rename_i j u B;simp only[aD,bV] at h;obtain⟨rfl,rfl⟩:=h;refine⟨{w with heap:=w.heap.setIfInBounds r _},?_,rfl,⟨rfl,rfl,rfl⟩⟩;simp only[run_findKey q B,Result.andThen_ok,Sem.run_bind,AY B,qi _ E,Sem.run_pure]
 ·rename_i B;simp only[aD,bV] at h;obtain⟨rfl,rfl⟩:=h;refine⟨{w with heap:=w.heap.setIfInBounds r _},?_,rfl,⟨rfl,rfl,rfl⟩⟩;simp only[run_findKey q B,Result.andThen_ok,Sem.run_bind,pg hi G,qi _ E,Sem.run_pure]
def Fi {t:TypeId} {m s v:Value} {h':Hp} (h:mst m s v w.heap=some h') :
  ∃w',(Instr.entryStore t m s v).run P w=.ok () w'/\w'.heap=h'/\rM w w':=by
 unfold mst at h;split at h <;> try contradiction
 rename_i r es c k born hm;obtain⟨rfl,q⟩:=tp hm;split at h <;> try contradiction
 rename_i i u;simp only[aD] at h;subst h;refine⟨{w with heap:=w.heap.setIfInBounds r _},?_,rfl,⟨rfl,rfl,rfl⟩⟩;simp only[Instr.entryStore,Sem.run_bind,om q,Result.andThen_ok,asInt,asIntOf,Sem.run_pure,u,qi _ q]
def Lv {t ty:TypeId} {ts:Array TypeId} {kd:TypeDesc} {z m key v:Value} {h':Hp} (G:ts[0]?=some t) (H:Qh P t=.ok kd z) (h:LL kd m key w.heap=some (v,h')) :
  ∃w',(Builtin.delete_ ts ty #[m,key]).run P w=.ok v w'/\w'.heap=h'/\rM w w':=by
 obtain⟨k,e,M,i,hu,q,rfl,hi,O⟩:=Ix H;have E:=λ(b:Bool)=>run_checkKey (P:=P) (w:=w) b 9999 q key;unfold LL at h;unfold Builtin.delete_;have J:(#[m,key]:Array Value)[0]?=some m:=rfl;have K:(#[m,key]:Array Value)[1]?=some key:=rfl;rw[G,J,K];split at h <;> try contradiction
 ·rename_i hm;have:=CG hm;subst this;simp only[aD,bV] at h;obtain⟨rfl,rfl⟩:=h;exact⟨w,by simp only[Sem.run_bind,run_underlying hu,Result.andThen_ok,E,Sem.run_pure],rfl,.refl w⟩
 ·rename_i r es c hm;obtain⟨rfl,B⟩:=tp hm;split at h <;> try contradiction
  ·rename_i j u F;simp only[aD,bV] at h;obtain⟨rfl,rfl⟩:=h;refine⟨{w with heap:=w.heap.setIfInBounds r _},?_,rfl,⟨rfl,rfl,rfl⟩⟩;simp only[Sem.run_bind,run_underlying hu,Result.andThen_ok,E,om B,run_findKey q F,qi _ B,Sem.run_pure]
  ·rename_i F;simp only[aD,bV] at h;obtain⟨rfl,rfl⟩:=h;refine⟨{w with heap:=w.heap.setIfInBounds r _},?_,rfl,⟨rfl,rfl,rfl⟩⟩;simp only[Sem.run_bind,run_underlying hu,Result.andThen_ok,E,om B,run_findKey q F,qi _ B,Sem.run_pure]
def run_makeMap {t:TypeId} {v:Value} {h':Hp} (h:MB w.heap=some (v,h')):∃w',(Instr.makeMap t none).run P w=.ok v w'/\w'.heap=h'/\rM w w':=by
 simp only[MB,aD,bV] at h;obtain⟨rfl,rfl⟩:=h;exact⟨{w with heap:=w.heap.push (.map #[] 0)},rfl,rfl,⟨rfl,rfl,rfl⟩⟩
def PN {t k e:TypeId} {m v:Value} {h':Hp} (hu:P.underlying t=some (.map k e)) (h:Tg m w.heap=some (v,h')):∃w',(Instr.range t m).run P w=.ok v w'/\w'.heap=h'/\rM w w':=by
 unfold Tg at h;split at h <;> try contradiction
 ·rename_i hm;have:=CG hm;subst this;simp only[aD,bV] at h;obtain⟨rfl,rfl⟩:=h;exact⟨{w with heap:=w.heap.push (.mapIter none 0 #[] 0)},by simp only[Instr.range,Sem.run_bind,run_underlying hu,Result.andThen_ok,Sem.run_pure,run_newObj],rfl,⟨rfl,rfl,rfl⟩⟩
 ·rename_i r es c hm;obtain⟨rfl,q⟩:=tp hm;simp only[aD,bV] at h;obtain⟨rfl,rfl⟩:=h;exact⟨{w with heap:=w.heap.push (.mapIter (some r) c #[] c)},by simp only[Instr.range,Sem.run_bind,run_underlying hu,Result.andThen_ok,Sem.run_pure,run_newObj,om q],rfl,⟨rfl,rfl,rfl⟩⟩
def Nx (it:Value) (h:Hp) (k:Value->Hp->Prop):Prop:=
  ∃r,it=.pointer (some ⟨r,0,none⟩)/\
    ((∃s q l,h[r]?=some (.mapIter none s q l)/\k (.tuple #[.bool false]) h)\/
     (∃m since seen last es clock,h[r]?=some (.mapIter (some m) since seen last)/\h[m]?=some (.map es clock)/\
       (!seen.isEmpty&&!es.isEmpty&&es.all (·.born>=last))=false/\
       ((∀e∈es,e.born<since->seen.contains e.born=true)->k (.tuple #[.bool false]) h)/\
       (∀e∈es,seen.contains e.born=false->k (.tuple #[.bool true,e.key,e.val]) (h.setIfInBounds r (.mapIter (some m) since (seen.push e.born) clock)))))
def Lt (n t:Nat) (h:0<n):(if Question.forced (.mapNext n) then 0 else Question.cut (.mapNext n) t)<n:=by
 split
 ·exact h
 ·simp only[Question.cut];exact jJ _ h
def QY {it:Value} {ty:TypeId} {k:Value->Hp->Prop} (h:Nx it w.heap k):∃v w',(Instr.next it false ty).run P w=.ok v w'/\rM w w'/\k v w'.heap:=by
 obtain⟨r,rfl,h⟩:=h;rcases h with ⟨s,q,l,Q,hk⟩| ⟨m,since,seen,last,es,clock,Q,hm,R,G,H⟩
 ·have R:(getObj r).run P w=.ok (.mapIter none s q l) w:=by simp only[getObj,Sem.run,Q]
  exact⟨_,w,by simp only[Instr.next,Sem.run_bind,R,Result.andThen_ok,Sem.run_pure],.refl w,hk⟩
 ·have T:(getObj r).run P w=.ok (.mapIter (some m) since seen last) w:=by simp only[getObj,Sem.run,Q]
  have M:∀(w':World) (o:Obj),w'.heap=w.heap->(setObj r o).run P w'=.ok () {w' with heap:=w'.heap.setIfInBounds r o}:=by
   intro w' o e;simp only[setObj,Sem.run,e,Q]
  unfold Instr.next;simp only[Sem.run_bind,T,Result.andThen_ok,om hm,R,cC,if_false,Sem.run_pure];generalize U:((if (((es.filter λe=>!seen.contains e.born).filter (·.born<since))).isEmpty then #[none] else #[])++
   (((es.filter λe=>!seen.contains e.born).filter (·.born<since))++((es.filter λe=>!seen.contains e.born).filter (·.born>=since))).map some:Array (Option MapEntry))=C
  have O:0<C.size:=by
   rw[<-U];simp only[iD,Array.size_map];by_cases hE:((es.filter λe=>!seen.contains e.born).filter (·.born<since)).isEmpty=true
   ·rw[if_pos hE];simp;omega
   ·rw[if_neg hE];have:0<((es.filter λe=>!seen.contains e.born).filter (·.born<since)).size:=by
     rcases gA ((es.filter λe=>!seen.contains e.born).filter (·.born<since)).size with V | V
     ·exact absurd (by rw[Array.isEmpty,V]; rfl) hE
     ·exact V
    omega
  have F:∀j (X:j<C.size) (w':World),w'.heap=w.heap->rM w w'->∃v J,(match C[j]? with
    | some (some e)=>do
     setObj r (.mapIter (some m) since (seen.push e.born) clock)
     pure (.tuple #[.bool true,e.key,e.val])
    | some none=>pure (.tuple #[.bool false])
    | none=>stuck "Next: no such candidate":Sem Value).run P w'=.ok v J/\rM w J/\k v J.heap:=by
   intro j X w' K hs;have u:C[j]∈C:=Array.getElem_mem X;rw[bZ X];cases hc:C[j] with
   | none=>
    rw[hc,<-U] at u;have hE:((es.filter λe=>!seen.contains e.born).filter (·.born<since)).isEmpty=true:=by
     rcases iI.1 u with h1 | h1
     ·split at h1
      ·assumption
      ·simp at h1
     ·simp at h1
    refine⟨_,w',rfl,hs,?_⟩;rw[K];refine G λe he hb=>?_;cases Z:seen.contains e.born with
    | true=>rfl
    | false=>
     have B:e∈((es.filter λe=>!seen.contains e.born).filter (·.born<since)):=by
      simp only[iJ,decide_eq_true_eq];exact⟨⟨he,by simp only[Z,iB]⟩,hb⟩
     have hz:((es.filter λe=>!seen.contains e.born).filter (·.born<since))=#[]:=by simpa using hE
     rw[hz] at B;simp at B
   | some e=>
    rw[hc,<-U] at u;have B:e∈es/\seen.contains e.born=false:=by
     rcases iI.1 u with h1 | h1
     ·split at h1 <;> simp at h1
     ·simp only[Array.mem_map,aD] at h1;obtain⟨e',aS,rfl⟩:=h1;rcases iI.1 aS with h2 | h2
      ·simp only[iJ] at h2;exact⟨h2.1.1,by simpa using h2.1.2⟩
      ·simp only[iJ] at h2;exact⟨h2.1.1,by simpa using h2.1.2⟩
    refine⟨.tuple #[.bool true,e.key,e.val],{w' with heap:=w'.heap.setIfInBounds r (.mapIter (some m) since (seen.push e.born) clock)},?_,⟨hs.os,hs.tape,hs.output⟩,?_⟩
    ·simp only[Sem.run_bind,M w' _ K,Result.andThen_ok,Sem.run_pure]
    ·have:=H e B.1 B.2;rw[<-K] at this;exact this
  simp only[run_choose];have E:=Lt C.size (w.tape w.drawn (.mapNext C.size)) O;split
  ·rename_i hf;rw[if_pos hf] at E;exact F 0 E w rfl (.refl w)
  ·rename_i hf;rw[if_neg hf] at E;exact F _ E {w with drawn:=w.drawn+1} rfl ⟨rfl,rfl,rfl⟩
def Vq {t ty:TypeId} {ts:Array TypeId} {x v:Value} (q:ts[0]?=some t) (h:ZH (ZI P t) x w.heap=some v):(Builtin.len_ ts ty #[x]).run P w=.ok v w:=by
 unfold Builtin.len_;have u:(#[x]:Array Value)[0]?=some x:=rfl;rw[q,u];unfold ZI at h;split at h <;> simp only[ZH] at h <;> try contradiction
 ·rename_i e hu;unfold Ej at h;split at h <;> try contradiction
  simp only[aD] at h;subst h;simp only[Sem.run_bind,run_underlying hu,Result.andThen_ok,Sem.run_pure,goInt]
 ·rename_i e e' hu;unfold Re at h;split at h <;> try contradiction
  ·simp only[aD] at h;subst h;simp only[Sem.run_bind,run_underlying hu,Result.andThen_ok,Sem.run_pure,goInt]
  ·split at h <;> try contradiction
   rename_i r es c B;simp only[aD] at h;subst h;simp only[Sem.run_bind,run_underlying hu,Result.andThen_ok,Sem.run_pure,goInt,om B]
def SW {x y v:Value} (h:mn x y=some v):(Builtin.min2 x y).run P w=.ok v w:=by
 unfold mn at h;split at h <;> try contradiction
 simp only[aD] at h;subst h;rfl
def Su {x y v:Value} (h:mx x y=some v):(Builtin.max2 x y).run P w=.ok v w:=by
 unfold mx at h;split at h <;> try contradiction
 simp only[aD] at h;subst h;rfl
def run_makeSlice {t e:TypeId} {z:Array Value} {s b:Nat} {l c v:Value} {h':Hp} (G:Qf P t=.ok e z s b) (h:RB z s b e l c w.heap=some (v,h')) :
  ∃w',(Instr.makeSlice t l c).run P w=.ok v w'/\w'.heap=h'/\rM w w':=by
 obtain⟨hu,i,B,hi,H,rfl,rfl,rfl,J,E⟩:=FR G;unfold RB at h;split at h <;> try contradiction
 rename_i l c;split at h <;> try contradiction
 rename_i K;obtain⟨h1,h2,T,M⟩:=K;simp only[aD,bV] at h;obtain⟨rfl,rfl⟩:=h;have wl:IntKind.i64.wrap l=l:=by simp only[IntKind.wrap,IntKind.signed,IntKind.bits];simp;omega
 have O:IntKind.i64.wrap c=c:=by simp only[IntKind.wrap,IntKind.signed,IntKind.bits];simp;omega
 refine⟨{w with heap:=w.heap.push (.cells ((Array.range (c.toNat*i.size)).map (B.cells[· % B.cells.size]!)) e)},?_,rfl,⟨rfl,rfl,rfl⟩⟩;have Q:¬((i.bytes:Int)*c > 2 ^ 48):=by rw[Int.mul_comm];simpa using M
 have q:((decide (c<0)||decide ((i.bytes:Int)*c > 2 ^ 48))||decide (l<0)||decide (l > c))=false:=by
  simp only[Bool.or_eq_false_iff,decide_eq_false_iff_not];exact⟨⟨⟨by omega,Q⟩,by omega⟩,by omega⟩
 have u:(typeInfo e).run P w=.ok i w:=by simp[typeInfo,hi]
 unfold Instr.makeSlice;simp only[Sem.run_bind,run_underlying hu,Result.andThen_ok,asInt,asIntOf,Sem.run_pure,u,wl,O,q,cC,if_false,run_askRoom,run_sizeOf hi];by_cases F:c.toNat*i.size=0
 ·have R:∀f g:Nat->Value,(Array.range 0).map f=(Array.range 0).map g:=λf g=>by
   apply Array.ext <;> simp
  simp only[F,if_true,Sem.run_pure,Result.andThen_ok,newRow,Sem.run_bind,run_newObj];exact congrArg (λc=>Result.ok _ (w.alloc (.cells c e))) (R _ _)
 ·simp only[F,if_false,Sem.run_bind,pg hi H,Result.andThen_ok,Sem.run_pure,newRow,run_newObj]
def CC {x:Value} {s n:Nat} {l:List Value} (h:rowOf x (n*s) w.heap=some l):(Builtin.firstCells s n x).run P w=.ok l.toArray w:=by
 unfold rowOf at h;split at h <;> try contradiction
 ·exact run_loadCells h
 ·simp only[aD] at h;subst h;rfl
def Rb {B ts ty:TypeId} {e:TypeId} {z:Array Value} {s b:Nat} {d x v:Value} {h':Hp} (H:Qf P B=.ok e z s b) (h:Ib s d x w.heap=some (v,h')) :
  ∃w',(Builtin.copy_ #[B,ts] ty #[d,x]).run P w=.ok v w'/\w'.heap=h'/\rM w w':=by
 obtain⟨hu,i,U,hi,V,rfl,rfl,rfl,J,G⟩:=FR H;unfold Ib at h;split at h <;> try contradiction
 rename_i base q dc sb u sc;simp only[aK] at h;obtain⟨cells,K,h⟩:=h;have M:=CC (P:=P) K;unfold Builtin.copy_;have O:(#[B,ts]:Array TypeId)[0]?=some B:=rfl;have Q:(#[Value.slice base q dc,Value.slice sb u sc]:Array Value)[0]?=some (.slice base q dc):=rfl;have R:(#[Value.slice base q dc,Value.slice sb u sc]:Array Value)[1]?=some (.slice sb u sc):=rfl;rw[O,Q,R];simp only[Sem.run_bind,run_underlying hu,Result.andThen_ok,Builtin.lenOf,Sem.run_pure,run_sizeOf hi,M];cases base with
 | none=>
  simp only[aD,bV] at h;obtain⟨rfl,rfl⟩:=h;exact⟨w,rfl,rfl,.refl w⟩
 | some a=>
  simp only[aK,aD,bV] at h;obtain⟨h1,hs,rfl,rfl⟩:=h;obtain⟨w',E,T,F,_⟩:=ui (P:=P) (a:=a) cells 0 w h1 hs;refine⟨w',?_,T,F⟩;simp only[Sem.run_bind,E,Result.andThen_ok,goInt,Sem.run_pure]
def Pr {t ty:TypeId} {e:TypeId} {z:Array Value} {s b:Nat} {x v:Value} {h':Hp} (E:Qf P t=.ok e z s b) (h:XA z x w.heap=some (v,h')) :
  ∃w',(Builtin.clear_ #[t] ty #[x]).run P w=.ok v w'/\w'.heap=h'/\rM w w':=by
 obtain⟨hu,i,M,hi,F,rfl,rfl,rfl,G,B⟩:=FR E;unfold XA at h;unfold Builtin.clear_;have H:(#[t]:Array TypeId)[0]?=some t:=rfl;have J:(#[x]:Array Value)[0]?=some x:=rfl;rw[H,J];split at h
 ·simp only[aD,bV] at h;obtain⟨rfl,rfl⟩:=h;refine⟨w,?_,rfl,.refl w⟩;simp[Sem.run_bind,run_underlying hu]
 ·split at h
  ·simp only[aD,bV] at h;obtain⟨rfl,rfl⟩:=h;refine⟨w,?_,rfl,.refl w⟩;simp[Sem.run_bind,run_underlying hu]
  ·simp only[aK,aD,bV] at h;obtain⟨h1,hs,rfl,rfl⟩:=h;obtain⟨w',q,K,u,_⟩:=ui (P:=P) _ 0 w h1 hs;refine⟨w',?_,K,u⟩;simp only[Sem.run_bind,run_underlying hu,Result.andThen_ok,pg hi F,q,Sem.run_pure]
 ·contradiction
def Ap (e:TypeId) (zero:Array Value) (size bytes:Nat) (s x:Value) (h:Hp) (k:Value->Hp->Prop):Prop:=
 ∃base q u E n F news,s=.slice base q u/\x=.slice E n F/\rowOf x (n*size) h=some news/\
  (q+n<=u->match base with
   | some a=>∃h',pS h (a.add (q*size)) 0 news=some h'/\k (.slice base (q+n) u) h'
   | none=>k (.slice base (q+n) u) h)/\
  (u<q+n->(q+n)*bytes<=140737488355328/\q+n<=9223372036854775807/\∃B,rowOf s (q*size) h=some B/\
   ∀cap,q+n<=cap->cap<=9223372036854775807->k (.slice (some ⟨h.size,0,none⟩) (q+n) cap) (h.push (.cells (B.toArray++news.toArray++Builtin.zeroCells zero (cap - (q+n))) e)))
def Lm {t ty e:TypeId} {z:Array Value} {sz b:Nat} {s x:Value} {k:Value->Hp->Prop} (hk:Qf P t=.ok e z sz b) (h:Ap e z sz b s x w.heap k) :
  ∃v w',(Builtin.append_ #[t,t] ty #[s,x]).run P w=.ok v w'/\rM w w'/\k v w'.heap:=by
 obtain⟨hu,i,zv,hi,hz,rfl,rfl,rfl,eQ,dO⟩:=FR hk;obtain⟨base,q,u,O,n,Q,news,rfl,rfl,hx,E,F⟩:=h;have B:=λ(w':World) (e':w'.heap=w.heap)=>CC (P:=P) (w:=w') (x:=.slice O n Q) (s:=i.size) (n:=n) (l:=news) (by rw[e']; exact hx);unfold Builtin.append_;have e0:(#[t,t]:Array TypeId)[0]?=some t:=rfl;have e1:(#[t,t]:Array TypeId)[1]?=some t:=rfl;have e2:(#[Value.slice base q u,Value.slice O n Q]:Array Value)[0]?=some (.slice base q u):=rfl;have e3:(#[Value.slice base q u,Value.slice O n Q]:Array Value)[1]?=some (.slice O n Q):=rfl;rw[e0,e1,e2,e3];simp only[Sem.run_bind,run_underlying hu,Result.andThen_ok,Sem.run_pure,run_sizeOf hi,Builtin.lenOf,cC,if_false,iB,if_true];by_cases hle:q+n<=u
 ·have R:=E hle;simp only[hle,if_true,Sem.run_bind,B w rfl,Result.andThen_ok];cases base with
  | none=>exact⟨_,w,rfl,.refl w,R⟩
  | some a=>
   simp only at R;obtain⟨h',hs,T⟩:=R;obtain⟨w',U,hh,V,_⟩:=ui (P:=P) (a:=a.add (q*i.size)) news 0 w h' hs;refine⟨_,w',?_,V,by rw[hh]; exact T⟩;simp only[Sem.run_bind,U,Result.andThen_ok,Sem.run_pure]
 ·obtain⟨hb,iF,H,ho,J⟩:=F (by omega);have X:(typeInfo e).run P w=.ok i w:=by simp[typeInfo,hi]
  have Z:¬(Builtin.nextslicecap (q+n) u*i.bytes > 2 ^ 48):=by
   have:=growslice_fits (need:=q+n) (old:=u) (bytes:=i.bytes) (by omega) hb;simpa using this
  have iN:i.bytes=0\/0<i.bytes:=gA _;have K:¬(((q+n:Nat):Int) > IntKind.i64.max):=by
   have:IntKind.i64.max=9223372036854775807:=rfl;omega
  have G:(typeInfo e).run P {w with drawn:=w.drawn+1}=.ok i {w with drawn:=w.drawn+1}:=by simp[typeInfo,hi]
  have aS:(zeroValue e).run P {w with drawn:=w.drawn+1}=.ok zv {w with drawn:=w.drawn+1}:=pg hi hz;have hold:=CC (P:=P) (w:={w with drawn:=w.drawn+1}) (x:=.slice base q u) (s:=i.size) (n:=q) (l:=H) ho;have M:=B {w with drawn:=w.drawn+1} rfl;have hf:Question.forced (.appendCap (q+n) u e)=false:=rfl;simp only[hle,if_false,Sem.run_bind,Sem.run_pure,Result.andThen_ok,X,K,false_and,Z,run_choose,hf,cC,run_askRoom,G,hold,M,aS,newRow,run_newObj];refine⟨_,_,rfl,⟨rfl,rfl,rfl⟩,?_⟩;have aT:q+n<=Question.cut (.appendCap (q+n) u e) (w.tape w.drawn (.appendCap (q+n) u e)):=by simp[Question.cut]
  have bY:Question.cut (.appendCap (q+n) u e) (w.tape w.drawn (.appendCap (q+n) u e))<=9223372036854775807:=by
   have iS:=jJ (w.tape w.drawn (.appendCap (q+n) u e)) (show 0<2 ^ 63 - (q+n) by omega);simp only[Question.cut];omega
  exact J _ aT bY
end
def Vb (o:Option Value) (k:Value->Prop):Prop:=∃v,o=some v/\k v
def Eb (o:Option (Value × Hp)) (k:Value->Hp->Prop):Prop:=∃v h',o=some (v,h')/\k v h'
def Sb (o:Option Hp) (k:Hp->Prop):Prop:=∃h',o=some h'/\k h'
def Sp (P:Program) (f:FuncId) (args:List Value) (h:Hp) (R:Value->Hp->Prop):Prop:=
 ∀w,w.heap=h->Calls P f args.toArray w λe w'=>∃v,e=.returned v/\R v w'.heap/\rM w w'
def SpD (P:Program) (f:FuncId) (args:List Value) (h:Hp) (R:Hp->Prop):Prop:=
 ∀w,w.heap=h->CallsDIn Fence.wide 0 P f args.toArray .returning w λe u w'=>u=.returning/\(∃v,e=.returned v)/\R w'.heap/\rM w w'
structure Wd (F:Fence):Prop where
 fn:F.fn=λ_=>True
 depth:F.depth=none
 alive:F.alive=false
def Wd.wide:Wd Fence.wide:=⟨rfl,rfl,rfl⟩
def Wd.inRound {F:Fence} (h:Wd F) (l:Nat):Wd (F.inRound l):=⟨h.fn,h.depth,h.alive⟩
def Wd.fenced {F:Fence} (h:Wd F) (P:Program):Machine.fenced P F=Machine.fenced P Fence.wide:=by
 obtain⟨fn,depth,alive,round⟩:=F;obtain⟨h1,h2,q⟩:=h;simp only at h1 h2 q;subst h1;subst h2;subst q;rfl
def Wd.calls {F:Fence} (h:Wd F) {n m:Nat} {P:Program} {f:FuncId} {args:Array Value} {w:World} {R:Ending->World->Prop} (q:CallsIn Fence.wide m P f args w R):CallsIn F n P f args w R:=by
 refine⟨by rw[h.fn]; trivial,λcs _=>?_⟩;rw[h.fenced P];exact q.2 cs (room_wide _)
def Wd.any {F:Fence} (h:Wd F) (f:FuncId):F.fn f:=by rw[h.fn]; trivial
def aba (P:Program):Op->Option (FuncId)
 | .call {callee:=.value (.func f),..}=>match P.funcs[f]? with
  | some fn=>match fn.name == "runtime.NumGoroutine",fn.body with
   | false,some _=>some f
   | _,_=>none
  | none=>none
 | _=>none
def okF (P:Program) (f:FuncId):Bool:=
 match P.funcs[f]? with
 | some fn=>!(fn.name == "runtime.NumGoroutine")&&fn.body.isSome
 | none=>false
def I5 (P:Program) (n:Nat) (env:Env) (op:Op) (h:Hp):Option Value:=
 match op with
 | .pick c x y=>(ev n env c).bind λc=>(ev n env x).bind λx=>(ev n env y).bind λy=>pk c x y
 | .load t x=>(ev n env x).bind λp=>WK (L6 P t) p h
 | .nilCheck x=>(ev n env x).bind λp=>WL p
 | .binOp op t x y _=>match y,ZR P t with
  | .const .nilIface,true=>(ev n env x).bind λa=>inl op a
  | y,_=>(ev n env x).bind λa=>(ev n env y).bind λb=>Zg (TF P t) op a b
 | .unOp op _ x=>(ev n env x).bind λa=>Qb op a
 | .convert s d x=>(ev n env x).bind λa=>ZF (cvk P s d) a
 | .makeFunc fn first cap=>(H7 n env first.toList).bind λf=>(H7 n env cap.toList).bind λc=>some (.func fn f.toArray c.toArray)
 | .slice t x lo hi mx=>match hi,mx with
  | none,some _=>none
  | _,_=>(ev n env x).bind λa=>(LZ n env lo).bind λl=>(LZ n env hi).bind λu=>(LZ n env mx).bind λm=>Yo (S2 P t) a l u m
 | .fieldAddr s x f=>(ev n env x).bind λp=>ZG (VA P s f) p
 | .field s x f=>(ev n env x).bind λp=>ZK (VA P s f) p
 | .indexAddr t x i=>(ev n env x).bind λa=>(ev n env i).bind λb=>Zo (S2 P t) a b
 | .sliceToArrayPointer t x=>(ev n env x).bind λa=>Zv (S2 P t) a
 | .index t x i=>(ev n env x).bind λa=>(ev n env i).bind λb=>Yw (idk P t) a b
 | .entry it=>(ev n env it).bind λa=>uX a h
 | .lookup t m k ok=>(ev n env m).bind λa=>(ev n env k).bind λb=>ZO (Qh P t) ok a b h
 | .extract x i=>(ev n env x).bind λa=>ext i a
 | .makeInterface t x=>match Yu P t with
  | true=>(ev n env x).bind λa=>some (.iface t a)
  | false=>none
 | .typeAssert x _ t ok=>match Yu P t,P.info? t with
  | true,some i=>i.zero.bind λz=>(ev n env x).bind λa=>FV t z ok a
  | _,_=>none
 | .build t parts=>(S7 n env parts.toList).bind λps=>Vi (Z7 P t) ps
 | .call {callee:=.builtin .len,args:=⟨[x]⟩,argTypes:=⟨t::_⟩}=>(ev n env x).bind λa=>ZH (ZI P t) a h
 | .call {callee:=.builtin .min,args:=⟨[x,y]⟩,..}=>(ev n env x).bind λa=>(ev n env y).bind λb=>mn a b
 | .call {callee:=.builtin .max,args:=⟨[x,y]⟩,..}=>(ev n env x).bind λa=>(ev n env y).bind λb=>mx a b
 | _=>none
def ZJ:Op->Bool
 | .pick .. | .load .. | .nilCheck .. | .binOp .. | .unOp .. | .convert .. | .makeFunc .. | .slice .. | .fieldAddr .. | .field .. | .indexAddr .. | .index .. | .sliceToArrayPointer .. | .entry .. | .lookup .. | .extract .. | .build .. | .makeInterface .. | .typeAssert ..=>true
 | .call {callee:=.builtin .len,..} | .call {callee:=.builtin .min,..} | .call {callee:=.builtin .max,..}=>true
 | _=>false
def mT (n:Nat) (env:Env) (ρ:Operand->Value):Prop:=∀x v,ev n env x=some v->ρ x=v
def mT.H7 {n:Nat} {env:Env} {ρ:Operand->Value} (q:mT n env ρ):∀{xs:List Operand} {vs:List Value},H7 n env xs=some vs->xs.map ρ=vs
 | [],vs,h=>by simp only[En.H7,aD] at h;subst h;rfl
 | x::r,vs,h=>by
  simp only[En.H7,aK,aD] at h;obtain⟨v,hv,us,hu,rfl⟩:=h;simp[q _ _ hv,mT.H7 q hu]
def mT.S7 {n:Nat} {env:Env} {ρ:Operand->Value} (q:mT n env ρ):∀{xs:List (Nat × Operand)} {vs:List (Nat × Value)},S7 n env xs=some vs->xs.map (λx=>(x.1,ρ x.2))=vs
 | [],vs,h=>by simp only[En.S7,aD] at h;subst h;rfl
 | (i,x)::r,vs,h=>by
  simp only[En.S7,aK,aD] at h;obtain⟨v,hv,us,hu,rfl⟩:=h;simp[q _ _ hv,mT.S7 q hu]
def mT.LZ {n:Nat} {env:Env} {ρ:Operand->Value} (q:mT n env ρ) {x:Option Operand} {v:Option Value} (h:LZ n env x=some v):x.map ρ=v:=by
 cases x with
 | none=>simp only[En.LZ,aD] at h;subst h;rfl
 | some x=>
  simp only[En.LZ,aK,aD] at h;obtain⟨u,hu,rfl⟩:=h;simp[q _ _ hu]
def mT.parts {n:Nat} {env:Env} {ρ:Operand->Value} (q:mT n env ρ) {xs:Array (Nat × Operand)} {vs:List (Nat × Value)} (h:En.S7 n env xs.toList=some vs) :
  (xs.map λ(i,x)=>(i,ρ x))=vs.toArray:=by
 rw[<-mT.S7 q h];apply fH;simp
def IP {P:Program} {w:World} {n:Nat} {env:Env} {ρ:Operand->Value} (B:mT n env ρ) {o:Oper} {v:Value} (h:I5 P n env o.op w.heap=some v) :
  (execOp ρ o).run P w=.ok (.value v) w:=by
 unfold execOp;cases M:o.op <;> rw[M] at h <;> simp only[I5] at h <;> (try contradiction) <;> dsimp only
 case pick c x y=>
  simp only[aK] at h;obtain⟨cv,F,xv,U,yv,V,h⟩:=h;unfold pk at h;split at h <;> try contradiction
  rename_i b;simp only[aD] at h;rw[B _ _ F,B _ _ U,B _ _ V];simp[asBool,h]
 case load t x=>
  simp only[aK] at h;obtain⟨p,E,h⟩:=h;rw[B _ _ E];simp only[Sem.run_bind,ET h,Result.andThen_ok,Sem.run_pure]
 case nilCheck x=>
  simp only[aK] at h;obtain⟨p,E,h⟩:=h;rw[B _ _ E];unfold WL at h;split at h <;> try contradiction
  all_goals (simp only[aD] at h; subst h; rfl)
 case binOp op t x y yt=>
  split at h
  ·rename_i hi;simp only[aK] at h;obtain⟨a,G,h⟩:=h;have H:ρ (.const .nilIface)=.nilIface:=B _ _ rfl;rw[B _ _ G,H];have:=UR (P:=P) (w:=w) (ox:=x) hi h;simp only[Sem.run_bind] at this⊢;rw[this];rfl
  simp only[aK] at h;obtain⟨a,G,b,H,h⟩:=h;rw[B _ _ G,B _ _ H];have:=λoy=>Um (P:=P) (w:=w) (ox:=x) (oy:=oy) h;simp only[Sem.run_bind] at this⊢;rw[this];rfl
 case unOp op t x=>
  simp only[aK] at h;obtain⟨p,E,h⟩:=h;rw[B _ _ E];simp only[Sem.run_bind,U2 h,Result.andThen_ok,Sem.run_pure]
 case convert s d x=>
  simp only[aK] at h;obtain⟨p,E,h⟩:=h;rw[B _ _ E];simp only[Sem.run_bind,Vv h,Result.andThen_ok,Sem.run_pure]
 case makeFunc fn first cap=>
  simp only[aK,aD] at h;obtain⟨f,X,c,F,rfl⟩:=h;have Z:=mT.H7 B X;have e2:=mT.H7 B F;have O:first.map ρ=f.toArray:=by rw[<-Z];apply fH;simp
  have Q:cap.map ρ=c.toArray:=by rw[<-e2];apply fH;simp
  rw[O,Q];rfl
 case slice t x lo hi mx=>
  have hm:hi=none->mx=none:=by
   intro e;subst e;cases mx with
   | none=>rfl
   | some _=>simp at h
  have h':((ev n env x).bind λa=>(LZ n env lo).bind λl=>(LZ n env hi).bind λu=>(LZ n env mx).bind λm=>Yo (S2 P t) a l u m)=some v:=by
   split at h
   ·contradiction
   ·exact h
  simp only[aK] at h';obtain⟨a,G,l,hl,u,hu,m,J,h'⟩:=h';rw[B _ _ G,mT.LZ B hl,mT.LZ B hu,mT.LZ B J];have R:u=none->m=none:=by
   intro e;have:=mT.LZ B hu;rw[e] at this;have:hi=none:=by cases hi <;> simp_all
   have h2:=mT.LZ B J;rw[hm this] at h2;simpa using h2.symm
  simp only[Sem.run_bind,Jc R h',Result.andThen_ok,Sem.run_pure]
 case fieldAddr s x f=>
  simp only[aK] at h;obtain⟨p,E,h⟩:=h;rw[B _ _ E];simp only[Sem.run_bind,JD h,Result.andThen_ok,Sem.run_pure]
 case field s x f=>
  simp only[aK] at h;obtain⟨p,E,h⟩:=h;rw[B _ _ E];simp only[Sem.run_bind,O4 h,Result.andThen_ok,Sem.run_pure]
 case indexAddr t x i=>
  simp only[aK] at h;obtain⟨p,E,q,K,h⟩:=h;rw[B _ _ E,B _ _ K];simp only[Sem.run_bind,J2 h,Result.andThen_ok,Sem.run_pure]
 case sliceToArrayPointer t x=>
  simp only[aK] at h;obtain⟨p,E,h⟩:=h;rw[B _ _ E];simp only[Sem.run_bind,Jn h,Result.andThen_ok,Sem.run_pure]
 case index t x i=>
  simp only[aK] at h;obtain⟨p,E,q,K,h⟩:=h;rw[B _ _ E,B _ _ K];simp only[Sem.run_bind,PB h,Result.andThen_ok,Sem.run_pure]
 case entry it=>
  simp only[aK] at h;obtain⟨p,E,h⟩:=h;rw[B _ _ E];simp only[Sem.run_bind,Vu h,Result.andThen_ok,Sem.run_pure]
 case lookup t m k ok=>
  simp only[aK] at h;obtain⟨p,E,q,K,h⟩:=h;rw[B _ _ E,B _ _ K];simp only[Sem.run_bind,LF h,Result.andThen_ok,Sem.run_pure]
 case extract x i=>
  simp only[aK] at h;obtain⟨p,E,h⟩:=h;rw[B _ _ E];simp only[Sem.run_bind,U1 h,Result.andThen_ok,Sem.run_pure]
 case makeInterface t x=>
  split at h <;> try contradiction
  rename_i hi;simp only[aK,aD] at h;obtain⟨p,E,rfl⟩:=h;rw[B _ _ E];simp only[Sem.run_bind,Tn hi,Result.andThen_ok,Sem.run_pure]
 case typeAssert x xt t ok=>
  split at h <;> try contradiction
  rename_i i hi hj;simp only[aK] at h;obtain⟨z,hz,p,E,h⟩:=h;rw[B _ _ E];simp only[Sem.run_bind,TW hi hj hz h,Result.andThen_ok,Sem.run_pure]
 case build t parts=>
  simp only[aK] at h;obtain⟨ps,T,h⟩:=h;rw[mT.parts B T];simp only[Sem.run_bind,run_build (parts:=ps.toArray) h,Result.andThen_ok,Sem.run_pure]
 case call c=>
  split at h <;> try contradiction
  ·rename_i F;simp only[Op.call.injEq] at F;subst F;rename_i x t ts;simp only[aK] at h;obtain⟨a,G,h⟩:=h;have:=Vq (P:=P) (w:=w) (ts:=⟨t::ts⟩) (ty:=o.type) (t:=t) (by simp) h;simp only[resolve,invoke,builtin,Sem.run_bind,Sem.run_pure,Result.andThen_ok,eE,bS,dS,B _ _ G,this]
  ·rename_i F;simp only[Op.call.injEq] at F;subst F;simp only[aK] at h;obtain⟨a,G,b,H,h⟩:=h;have:=SW (P:=P) (w:=w) h;simp only[resolve,invoke,builtin,Sem.run_bind,Sem.run_pure,Result.andThen_ok,eE,bS,dS,B _ _ G,B _ _ H,Builtin.min_,List.foldlM_cons,List.foldlM_nil,this]
  ·rename_i F;simp only[Op.call.injEq] at F;subst F;simp only[aK] at h;obtain⟨a,G,b,H,h⟩:=h;have:=Su (P:=P) (w:=w) h;simp only[resolve,invoke,builtin,Sem.run_bind,Sem.run_pure,Result.andThen_ok,eE,bS,dS,B _ _ G,B _ _ H,Builtin.max_,List.foldlM_cons,List.foldlM_nil,this]
def Cl (P:Program) (f:FuncId) (args:List Value) (h:Hp) (k:Value->Hp->Prop):Prop:=okF P f=true/\Sp P f args h k
def Cv (C:FuncId->List Value->Hp->(Value->Hp->Prop)->Prop) (Y:Nat->List Value->Hp->(Value->Hp->Prop)->Prop) (f:Value) (args:List Value) (h:Hp) (k:Value->Hp->Prop):Prop:=
 (∃g first cap,f=.func (.func g) first cap/\C g (first.toList++args++cap.toList) h k)\/
 (∃l,f=.func (.yield l) #[] #[]/\Y l args h k)
def Ci (C:FuncId->List Value->Hp->(Value->Hp->Prop)->Prop) (M:TypeId->String->Option FuncId) (name:String) (r:Value) (args:List Value) (h:Hp) (k:Value->Hp->Prop):Prop:=
 ∃t v f,r=.iface t v/\M t name=some f/\C f (v::args) h k
def Cw (C:FuncId->List Value->Hp->(Value->Hp->Prop)->Prop) (Y:Nat->List Value->Hp->(Value->Hp->Prop)->Prop) (M:TypeId->String->Option FuncId) (f:Value) (args:List Value) (h:Hp) (k:Value->Hp->Prop):Prop:=
 Cv C Y f args h k\/∃name r,f=.func (.method name) #[r] #[]/\Ci C M name r args h k
def Sy (P:Program) (l:Nat) (args:List Value) (h:Hp) (R:Value->Hp->Prop):Prop:=
 ∀w,w.heap=h->∃r:Loop,(Instr.getLoop l).run P w=.ok r w/\args.length=r.params.size/\
  RoundIn Fence.wide 0 P l r.fn ((r.params.zip args.toArray).foldl (λtmps (t,a)=>tmps.setIfInBounds t a) r.tmps) r.assign r.body w
   λe w'=>∃v,e=.returned v/\R v w'.heap/\rM w w'
def I1 (P:Program) (f:FuncId):Bool:=
 match P.funcs[f]? with
 | some fn=>match fn.body with
  | some _=>false
  | none=>fn.name == "maps.clone"&&fn.origin == ""
 | none=>false
def SA (args:List Value) (h:Hp):Option (Value × Hp):=
 match args with
 | [.iface t (.map (some r))]=>match h[r]? with
  | some (.map es clock)=>some (.iface t (.map (some h.size)),h.push (.map es clock))
  | _=>none
 | _=>none
def Vj {P:Program} {w:World} {f:FuncId} {vs:List Value} {v:Value} {h':Hp} (h:I1 P f=true) (hm:SA vs w.heap=some (v,h')):∃w',(callFunc f vs.toArray).run P w=.ok (.value v) w'/\w'.heap=h'/\rM w w':=by
 unfold I1 at h;split at h <;> try contradiction
 rename_i fn q;split at h <;> try contradiction
 rename_i E;simp only[bO,beq_iff_eq] at h;obtain⟨h1,h2⟩:=h;unfold SA at hm;split at hm <;> try contradiction
 rename_i t r;split at hm <;> try contradiction
 rename_i es clock F;simp only[aD,bV] at hm;obtain⟨rfl,rfl⟩:=hm;have G:Extern.findNext fn=none:=by
  unfold Extern.findNext;rw[h1,h2];have a:List.lookup "maps.clone" Extern.allNextRows=none:=by kernel_rfl
  have b:List.lookup "" Extern.allNextRows=none:=by kernel_rfl
  simp[a,b]
 have he:Extern.find fn=some Extern.MapsClone.clone:=by
  unfold Extern.find;rw[h1];have a:List.lookup "maps.clone" Extern.allGenericRows=none:=by kernel_rfl
  have b:List.lookup "maps.clone" Extern.allTypedRows=none:=by kernel_rfl
  have c:List.lookup "maps.clone" Extern.allRows=some Extern.MapsClone.clone:=by kernel_rfl
  simp[a,b,c]
 have B:=run_callFunc_extern q (by rw[h1]; rfl) (by rw[E]; rfl) G he #[.iface t (.map (some r))] w;have u:(Extern.MapsClone.clone #[.iface t (.map (some r))]).run P w=.ok (.iface t (.map (some w.heap.size))) {w with heap:=w.heap.push (.map es clock)}:=by
  have e:Extern.MapsClone.clone #[.iface t (.map (some r))]=(getObj r >>= λo=>match o with
   | .map entries clock=>(newObj (.map entries clock) >>= λn=>pure (.iface t (.map (some n))))
   | _=>stuck "maps.clone: a map expected"):=rfl
  rw[e];simp only[Sem.run_bind,MapKept.run_getObj_map F,Result.andThen_ok,run_newObj,Sem.run_pure]
 rw[u] at B;exact⟨_,B,rfl,⟨rfl,rfl,rfl⟩⟩
def Yp (v:Value):Array Value:=v.cells
def Yg (P:Program) (n:Nat) (env:Env) (op:Op) (h:Hp) (k:Value->Hp->Prop):Prop:=
 match op with
 | .alloc e=>match zrk P e with
  | some z=>Eb (nw z e h) k
  | none=>False
 | .box e x=>match ev n env x with
  | some v=>Eb (nw (Yp v) e h) k
  | none=>False
 | .buildSlice t len parts=>match S7 n env parts.toList,Qf P t with
  | some ps,.ok e z s _=>match Nat.ble (len*s) 16777216 with
   | true=>Eb (ED z s len e ps h) k
   | false=>False
  | _,_=>False
 | .store t a x=>match ev n env a,ev n env x,P.info? t with
  | some p,some v,some i=>Sb (kq i.size p v h) (k undef)
  | _,_,_=>False
 | .mapUpdate t m kk x=>match ev n env m,ev n env kk,ev n env x,Qh P t with
  | some m,some q,some v,.ok kd _=>Sb (B9 kd m q v h) (k undef)
  | _,_,_,_=>False
 | .insert t m kk x=>match ev n env m,ev n env kk,ev n env x,Qh P t with
  | some m,some q,some v,.ok kd _=>Sb (B9 kd m q v h) (k undef)
  | _,_,_,_=>False
 | .makeMap _ none=>Eb (MB h) k
 | .makeSlice t l c=>match ev n env l,ev n env c,Qf P t with
  | some l,some c,.ok e z s b=>Eb (RB z s b e l c h) k
  | _,_,_=>False
 | .mapEntry t m kk=>match ev n env m,ev n env kk,Qh P t with
  | some m,some q,.ok kd z=>Eb (men kd z m q h) k
  | _,_,_=>False
 | .entryStore _ m s x=>match ev n env m,ev n env s,ev n env x with
  | some m,some q,some v=>Sb (mst m q v h) (k undef)
  | _,_,_=>False
 | .range t m=>match ev n env m,P.underlying t with
  | some m,some (.map ..)=>Eb (Tg m h) k
  | _,_=>False
 | .next it false=>match ev n env it with
  | some it=>Nx it h k
  | none=>False
 | .call {callee:=.builtin .append,args:=⟨[x,y]⟩,argTypes:=⟨[t,u]⟩}=>match ev n env x,ev n env y,Nat.beq t u,Qf P t with
  | some s,some x,true,.ok e z sz b=>Ap e z sz b s x h k
  | _,_,_,_=>False
 | .call {callee:=.builtin .copy,args:=⟨[x,y]⟩,argTypes:=⟨[t,_]⟩}=>match ev n env x,ev n env y,Qf P t with
  | some d,some s,.ok _ _ sz _=>Eb (Ib sz d s h) k
  | _,_,_=>False
 | .call {callee:=.builtin .clear,args:=⟨[x]⟩,argTypes:=⟨[t]⟩}=>match ev n env x,Qf P t with
  | some s,.ok _ z _ _=>Eb (XA z s h) k
  | _,_=>False
 | .call {callee:=.builtin .delete,args:=⟨[x,y]⟩,argTypes:=⟨t::_⟩}=>match ev n env x,ev n env y,Qh P t with
  | some m,some q,.ok kd _=>Eb (LL kd m q h) k
  | _,_,_=>False
 | .call {callee:=.value (.func f),args,..}=>match H7 n env args.toList,I1 P f with
  | some vs,true=>Eb (SA vs h) k
  | some vs,false=>Cl P f vs h k
  | none,_=>False
 | .call {callee:=.value x,args,..}=>match ev n env x,H7 n env args.toList with
  | some v,some vs=>Cw (Cl P) (Sy P) (Yc P) v vs h k
  | _,_=>False
 | .call {callee:=.invoke x name,args,..}=>match ev n env x,H7 n env args.toList with
  | some v,some vs=>Ci (Cl P) (Yc P) name v vs h k
  | _,_=>False
 | _=>False
def UJ (P:Program) (F:Fence) (n:Nat) (o:Oper) (a:Act) (w:World) (k:Value->Hp->Prop):Prop:=
 ∀(next:Act->World->Prop) (Q:Exit->Act->World->Prop),(∀v w',rM w w'->k v w'.heap->next (a.put o.dst v) w')->o.wpIn F n P a w next Q
def lT {P:Program} {F:Fence} (h:Wd F) {n:Nat} {o:Oper} {a:Act} {w w':World} {v:Value} {k:Value->Hp->Prop} (q:∀c,o.op≠.defer c)
  (u:(execOp a.eval o).run P w=.ok (.value v) w') (hs:rM w w') (B:k v w'.heap):UJ P F n o a w k:=by
 intro next Q E
 refine⟨λf _=>h.any f,?_⟩;rw[Oper.semAt_eq _ _ _ q,u,Oper.uponIn_value];exact E v w' hs B
def B4 {P:Program} {F:Fence} (h:Wd F) {n:Nat} {o:Oper} {a:Act} {w w':World} {k:Value->Hp->Prop} (q:∀c,o.op≠.defer c)
  (u:(execOp a.eval o).run P w=.ok .skip w') (hs:rM w w') (B:k undef w'.heap):UJ P F n o a w k:=by
 intro next Q E
 refine⟨λf _=>h.any f,?_⟩;rw[Oper.semAt_eq _ _ _ q,u,Oper.uponIn_skip];exact E undef w' hs B
def XV {P:Program} {f:FuncId} (h:okF P f=true):∃fn,P.funcs[f]?=some fn/\(fn.name == "runtime.NumGoroutine")=false/\fn.body.isNone=false:=by
 unfold okF at h;split at h
 ·rename_i fn q;simp only[bO,dI] at h;exact⟨fn,q,h.1,by cases u:fn.body <;> simp_all⟩
 ·contradiction
def qM {P:Program} {w:World} {f:FuncId} (h:okF P f=true) (args:Array Value):(callFunc f args).run P w=.ok (.enter f args) w:=by
 obtain⟨fn,q,h1,h2⟩:=XV h;unfold callFunc;simp only[Sem.run_bind,run_program,Result.andThen_ok,q,h1,h2,cC,if_false,Sem.run_pure]
def MX {P:Program} {w:World} {t:TypeId} {u:Value} {name:String} {f:FuncId} (hm:Yc P t name=some f) (d:Nat):(method (d+1) t u name).run P w=.ok (f,u) w:=by
 unfold Yc at hm;split at hm <;> try contradiction
 rename_i i hi;split at hm <;> try contradiction
 rename_i m B;split at hm <;> try contradiction
 rename_i G E F h q hu;simp only[aD] at hm;subst hm;unfold method;simp only[Sem.run_bind,typeInfo,run_program,Result.andThen_ok,hi,Sem.run_pure,B,h,follow,q,receiverAt,run_underlying hu];cases E <;> first | exact(F _ rfl).elim | (simp only[Place.get,Sem.run_bind,Sem.run_pure,Result.andThen_ok])
def yR {P:Program} {w:World} {t:TypeId} {u:Value} {name:String} {f:FuncId} (hm:Yc P t name=some f) (h:okF P f=true) (args:List Value):(callMethod (.iface t u) name args.toArray).run P w=.ok (.enter f (u::args).toArray) w:=by
 unfold callMethod;have h1:(method (P.types.size+Made.depth) t u name).run P w=.ok (f,u) w:=MX hm (P.types.size+99);simp only[Sem.run_bind,run_program,Result.andThen_ok,h1];have h2:=qM (w:=w) h (u::args).toArray;have e:#[u]++args.toArray=(u::args).toArray:=by simp
 rw[e];exact h2
def zi {P:Program} {F:Fence} (h:Wd F) {n:Nat} {o:Oper} {a:Act} {w:World} {f:FuncId} {args:List Value} {k:Value->Hp->Prop} (q:∀c,o.op≠.defer c)
  (u:(execOp a.eval o).run P w=.ok (.enter f args.toArray) w) (B:Sp P f args w.heap k):UJ P F n o a w k:=by
 intro next Q E
 refine⟨λf _=>h.any f,?_⟩;rw[Oper.semAt_eq _ _ _ q,u,Oper.uponIn_enter];refine⟨λe=>(by rw[h.depth] at e; cases e),h.calls (m:=0) (callsIn_wide.2 ((B w rfl).mono ?_))⟩;rintro e w' ⟨v,rfl,G,hs⟩;exact E v w' hs G
def Wd.round {F:Fence} (h:Wd F) {n m:Nat} {P:Program} {l:Nat} {f:FuncId} {tmps:Array Value} {lx body:Code} {w:World} {R:Ending->World->Prop}
  (q:RoundIn Fence.wide m P l f tmps lx body w R):RoundIn F n P l f tmps lx body w R:=by
 refine⟨h.any f,λc cs _=>?_⟩;rw[h.fenced P];exact q.2 c cs (room_wide _)
def Pg {P:Program} {F:Fence} (q:Wd F) {n:Nat} {o:Oper} {a:Act} {w:World} {l:Nat} {args:List Value} {k:Value->Hp->Prop} (u:∀c,o.op≠.defer c)
  (B:(execOp a.eval o).run P w=(Instr.yield l args.toArray).run P w) (E:Sy P l args w.heap k):UJ P F n o a w k:=by
 intro next Q G
 obtain⟨r,H,J,h⟩:=E w rfl;refine⟨λf _=>q.any f,?_⟩;have K:(Instr.yield l args.toArray).run P w=.ok (.round l r.fn ((r.params.zip args.toArray).foldl (λtmps (t,a)=>tmps.setIfInBounds t a) r.tmps) r.assign r.body) w:=by
  unfold Instr.yield;have:args.toArray.size=r.params.size:=by simpa using J
  simp only[Sem.run_bind,H,Result.andThen_ok,this,ne_eq,not_true_eq_false,if_false,Sem.run_pure]
 rw[Oper.semAt_eq _ _ _ u,B,K,Oper.uponIn_round];refine⟨λe=>(by rw[q.depth] at e; cases e),(q.round (m:=0) h).mono ?_⟩;rintro e w' ⟨v,rfl,M,hs⟩;exact G v w' hs M
def ND {P:Program} {F:Fence} (M:Wd F) {n:Nat} {m:Nat} {env:Env} {o:Oper} {a:Act} {w:World} {k:Value->Hp->Prop} {ρ:Operand->Value} (G:mT n env ρ) (B:execOp a.eval o=execOp ρ o) (h:Yg P n env o.op w.heap k) :
  UJ P F m o a w k:=by
 cases E:o.op <;> rw[E] at h <;> simp only[Yg] at h <;> try contradiction
 case alloc e=>
  split at h <;> try contradiction
  rename_i z hz;unfold zrk at hz;simp only[aK,aD] at hz;obtain⟨i,hi,zv,bY,rfl⟩:=hz;obtain⟨v,h',he,H⟩:=h;obtain⟨w',J,rfl,hs⟩:=Iw hi bY he;refine lT M (by simp[E]) (w':=w') ?_ hs H;rw[B];unfold execOp;rw[E];simp only[Sem.run_bind,J,Result.andThen_ok,Sem.run_pure]
 case box e x=>
  split at h <;> try contradiction
  rename_i u hu;obtain⟨v,h',he,H⟩:=h;obtain⟨w',J,rfl,hs⟩:=Mg (P:=P) he;refine lT M (by simp[E]) (w':=w') ?_ hs H;rw[B];unfold execOp;rw[E];simp only[G _ _ hu,Sem.run_bind,J,Result.andThen_ok,Sem.run_pure]
 case buildSlice t len parts=>
  split at h <;> try contradiction
  rename_i ps e z s b dO O;split at h <;> try contradiction
  rename_i hle;obtain⟨v,h',he,H⟩:=h;obtain⟨w',J,rfl,hs⟩:=FN (P:=P) (parts:=ps.toArray) O (dX hle) he;refine lT M (by simp[E]) (w':=w') ?_ hs H;rw[B];unfold execOp;rw[E];simp only[mT.parts G dO,Sem.run_bind,J,Result.andThen_ok,Sem.run_pure]
 case insert t m kk x=>
  split at h <;> try contradiction
  rename_i mv q v kd z hm V hv R;obtain⟨h',he,H⟩:=h;obtain⟨w',J,rfl,hs⟩:=zK (P:=P) R he;refine B4 M (by simp[E]) (w':=w') ?_ hs H;rw[B];unfold execOp;rw[E];simp only[G _ _ hm,G _ _ V,G _ _ hv,Sem.run_bind,J,Result.andThen_ok,Sem.run_pure]
 case store t p x=>
  split at h <;> try contradiction
  rename_i pv xv i hp X hi;obtain⟨h',he,H⟩:=h;obtain⟨w',J,rfl,hs⟩:=Kz (P:=P) hi he;refine B4 M (by simp[E]) (w':=w') ?_ hs H;rw[B];unfold execOp;rw[E];simp only[G _ _ hp,G _ _ X,Sem.run_bind,J,Result.andThen_ok,Sem.run_pure]
 case makeMap t r=>
  cases r with
  | some _=>simp only at h
  | none=>
   simp only at h;obtain⟨v,h',he,H⟩:=h;obtain⟨w',J,rfl,hs⟩:=run_makeMap (P:=P) (t:=t) he;refine lT M (by simp[E]) (w':=w') ?_ hs H;rw[B];unfold execOp;rw[E];simp only[Option.map_none,Sem.run_bind,J,Result.andThen_ok,Sem.run_pure]
 case makeSlice t l c=>
  split at h <;> try contradiction
  rename_i lv cv e z s b hl K O;obtain⟨v,h',he,H⟩:=h;obtain⟨w',J,rfl,hs⟩:=run_makeSlice (P:=P) O he;refine lT M (by simp[E]) (w':=w') ?_ hs H;rw[B];unfold execOp;rw[E];simp only[G _ _ hl,G _ _ K,Sem.run_bind,J,Result.andThen_ok,Sem.run_pure]
 case mapUpdate t m kk x=>
  split at h <;> try contradiction
  rename_i mv q v kd z hm V hv R;obtain⟨h',he,H⟩:=h;obtain⟨w',J,rfl,hs⟩:=zK (P:=P) R he;refine B4 M (by simp[E]) (w':=w') ?_ hs H;rw[B];unfold execOp;rw[E];simp only[G _ _ hm,G _ _ V,G _ _ hv,Sem.run_bind,J,Result.andThen_ok,Sem.run_pure]
 case mapEntry t m kk=>
  split at h <;> try contradiction
  rename_i mv q kd z hm V R;obtain⟨v,h',he,H⟩:=h;obtain⟨w',J,rfl,hs⟩:=IE (P:=P) R he;refine lT M (by simp[E]) (w':=w') ?_ hs H;rw[B];unfold execOp;rw[E];simp only[G _ _ hm,G _ _ V,Sem.run_bind,J,Result.andThen_ok,Sem.run_pure]
 case entryStore t m s x=>
  split at h <;> try contradiction
  rename_i mv q v hm V hv;obtain⟨h',he,H⟩:=h;obtain⟨w',J,rfl,hs⟩:=Fi (P:=P) (t:=t) he;refine B4 M (by simp[E]) (w':=w') ?_ hs H;rw[B];unfold execOp;rw[E];simp only[G _ _ hm,G _ _ V,G _ _ hv,Sem.run_bind,J,Result.andThen_ok,Sem.run_pure]
 case range t m=>
  split at h <;> try contradiction
  rename_i mv kt et hm hu;obtain⟨v,h',he,H⟩:=h;obtain⟨w',J,rfl,hs⟩:=PN (P:=P) hu he;refine lT M (by simp[E]) (w':=w') ?_ hs H;rw[B];unfold execOp;rw[E];simp only[G _ _ hm,Sem.run_bind,J,Result.andThen_ok,Sem.run_pure]
 case next it s=>
  cases s with
  | true=>simp only at h
  | false=>
   simp only at h;split at h <;> try contradiction
   rename_i iv hi;obtain⟨v,w',J,hs,H⟩:=QY (P:=P) (ty:=o.type) h;refine lT M (by simp[E]) (w':=w') ?_ hs H;rw[B];unfold execOp;rw[E];simp only[G _ _ hi,Sem.run_bind,J,Result.andThen_ok,Sem.run_pure]
 case call c=>
  split at h <;> try contradiction
  ·rename_i K;simp only[Op.call.injEq] at K;subst K;split at h <;> try contradiction
   rename_i x y t u s xv e z sz b hs X eQ O;have:=bJ eQ;subst this;obtain⟨v,w',J,Q,H⟩:=Lm (P:=P) (ty:=o.type) O h;refine lT M (by simp[E]) (w':=w') ?_ Q H;rw[B];unfold execOp;rw[E];simp only[resolve,invoke,builtin,Sem.run_bind,Sem.run_pure,Result.andThen_ok,eE,bS,dS,G _ _ hs,G _ _ X,J]
  ·rename_i U x0 y0 t0 u0 K;simp only[Op.call.injEq] at K;subst K;split at h <;> try contradiction
   rename_i d s e z sz b hd hs O;obtain⟨v,h',he,H⟩:=h;obtain⟨w',J,rfl,Q⟩:=Rb (P:=P) (ts:=u0) (ty:=o.type) O he;refine lT M (by simp[E]) (w':=w') ?_ Q H;rw[B];unfold execOp;rw[E];simp only[resolve,invoke,builtin,Sem.run_bind,Sem.run_pure,Result.andThen_ok,eE,bS,dS,G _ _ hd,G _ _ hs,J]
  ·rename_i U x0 t0 K;simp only[Op.call.injEq] at K;subst K;split at h <;> try contradiction
   rename_i s e z sz b hs O;obtain⟨v,h',he,H⟩:=h;obtain⟨w',J,rfl,Q⟩:=Pr (P:=P) (ty:=o.type) O he;refine lT M (by simp[E]) (w':=w') ?_ Q H;rw[B];unfold execOp;rw[E];simp only[resolve,invoke,builtin,Sem.run_bind,Sem.run_pure,Result.andThen_ok,eE,bS,dS,G _ _ hs,J]
  ·rename_i U x0 y0 t0 iF K;simp only[Op.call.injEq] at K;subst K;split at h <;> try contradiction
   rename_i m q kd z hm V R;obtain⟨v,h',he,H⟩:=h;obtain⟨w',J,rfl,Q⟩:=Lv (P:=P) (ts:=⟨t0::iF⟩) (t:=t0) (ty:=o.type) (by simp) R he;refine lT M (by simp[E]) (w':=w') ?_ Q H;rw[B];unfold execOp;rw[E];simp only[resolve,invoke,builtin,Sem.run_bind,Sem.run_pure,Result.andThen_ok,eE,bS,dS,G _ _ hm,G _ _ V,J]
  ·rename_i U f args ts K;simp only[Op.call.injEq] at K;subst K;split at h <;> try contradiction
   ·rename_i vs T aT;obtain⟨v,h',he,H⟩:=h;obtain⟨w',J,rfl,Q⟩:=Vj aT he;refine lT M (by simp[E]) (w':=w') ?_ Q H;have Z:args.map ρ=vs.toArray:=by rw[<-mT.H7 G T];apply fH;simp
    rw[B];unfold execOp;rw[E];have aS:ρ (.func f)=.func (.func f) #[] #[]:=G _ _ rfl;simp only[resolve,aS,Deferred.ofValue,invoke,Sem.run_bind,Sem.run_pure,Result.andThen_ok,Z,gB,Array.append_empty,J]
   rename_i vs T aT;obtain⟨hf,h⟩:=h;refine zi M (by simp[E]) (f:=f) (args:=vs) ?_ h;have Z:args.map ρ=vs.toArray:=by rw[<-mT.H7 G T];apply fH;simp
   rw[B];unfold execOp;rw[E];have aS:ρ (.func f)=.func (.func f) #[] #[]:=G _ _ rfl;simp only[resolve,aS,Deferred.ofValue,invoke,Sem.run_bind,Sem.run_pure,Result.andThen_ok,Z,gB,Array.append_empty,qM hf]
  ·rename_i U x args ts iN K;simp only[Op.call.injEq] at K;subst K;split at h <;> try contradiction
   rename_i fv vs X T;have Z:args.map ρ=vs.toArray:=by rw[<-mT.H7 G T];apply fH;simp
   rcases h with (⟨g,first,cap,rfl,⟨hg,K⟩⟩| ⟨l,rfl,hy⟩) | ⟨name,r,rfl,t,u,f,rfl,hm,hf,K⟩
   ·refine zi M (by simp[E]) (f:=g) (args:=first.toList++vs++cap.toList) ?_ K;rw[B];unfold execOp;rw[E];have e2:first++vs.toArray++cap=(first.toList++vs++cap.toList).toArray:=by simp
    simp only[resolve,G _ _ X,Deferred.ofValue,invoke,Sem.run_bind,Sem.run_pure,Result.andThen_ok,Z,e2,qM hg]
   ·refine Pg M (by simp[E]) (l:=l) (args:=vs) ?_ hy;rw[B];unfold execOp;rw[E];simp only[resolve,G _ _ X,Deferred.ofValue,invoke,Sem.run_bind,Sem.run_pure,Result.andThen_ok,Z,gB]
   ·refine zi M (by simp[E]) (f:=f) (args:=u::vs) ?_ K;rw[B];unfold execOp;rw[E];have e3:(#[Value.iface t u]++vs.toArray)[0]?=some (Value.iface t u):=by simp
    have e4:(#[Value.iface t u]++vs.toArray).extract 1 (#[Value.iface t u]++vs.toArray).size=vs.toArray:=by simp
    simp only[resolve,G _ _ X,Deferred.ofValue,invoke,Sem.run_bind,Sem.run_pure,Result.andThen_ok,Z,e3,e4,yR hm hf]
  ·rename_i U x name args ts K;simp only[Op.call.injEq] at K;subst K;split at h <;> try contradiction
   rename_i fv vs X T;have Z:args.map ρ=vs.toArray:=by rw[<-mT.H7 G T];apply fH;simp
   obtain⟨t,u,f,rfl,hm,hf,K⟩:=h;refine zi M (by simp[E]) (f:=f) (args:=u::vs) ?_ K;rw[B];unfold execOp;rw[E];have e3:(#[Value.iface t u]++vs.toArray)[0]?=some (Value.iface t u):=by simp
   have e4:(#[Value.iface t u]++vs.toArray).extract 1 (#[Value.iface t u]++vs.toArray).size=vs.toArray:=by simp
   simp only[resolve,G _ _ X,invoke,Sem.run_bind,Sem.run_pure,Result.andThen_ok,Z,e3,e4,yR hm hf]
abbrev KB:=List (Nat × Option Bool)
def LY:KB->Nat->Option (Option Bool)
 | [],_=>none
 | (d,r)::s,t=>match Nat.beq d t with
  | true=>some r
  | false=>LY s t
def Yh (h:KB) (dst:Option Nat):KB:=
 match dst with
 | none=>h
 | some d=>h.filter λx=>!(Nat.beq x.1 d)
def put (env:Env) (dst:Option Nat) (v:Value):Env:=
 match dst with
 | none=>env
 | some d=>(d,v)::env
def Br (v:Value) (A B:Prop):Prop:=
 match v with
 | .bool true=>A
 | .bool false=>B
 | _=>False
def Je {v:Value} {A B:Prop} (h:Br v A B):∃b,v=.bool b/\(b=true->A)/\(b=false->B):=by
 unfold Br at h;split at h
 ·exact⟨true,rfl,(λ_=>h),(λe=>by cases e)⟩
 ·exact⟨false,rfl,(λe=>by cases e),λ_=>h⟩
 ·exact h.elim
def dec:Value->Deferred
 | .func fn first cap=>{target:=.fn fn cap,args:=first}
 | .pointer (some a)=>{target:=.collected a.block,args:=#[]}
 | _=>default
structure Cg (n:Nat) (env:Env) (a:Act):Prop where
 sz:a.tmps.size=n
 sl:∀t v,t<n->lk env t=some v->a.tmps.getD t undef=v
 df:∀v,lk env n=some v->∃ds:List Value,v=.tuple ⟨ds⟩/\a.defers=ds.map dec
def Cg.holds {n:Nat} {env:Env} {a:Act} (h:Cg n env a):mT n env a.eval:=by
 intro x v hv;cases x with
 | tmp t=>
  simp only[ev] at hv;split at hv
  ·rename_i q;exact h.sl t v (by simpa[fG] using q) hv
  ·contradiction
 | const u=>simpa[ev,Act.eval] using hv
 | global g=>simpa[ev,Act.eval] using hv
 | func f=>simpa[ev,Act.eval] using hv
def mE {env:Env} {d t:Nat} {v:Value}:lk ((d,v)::env) t=if d=t then some v else lk env t:=by
 simp only[lk];by_cases h:d=t
 ·subst h;simp
 ·have:Nat.beq d t=false:=by
   cases q:Nat.beq d t with
   | false=>rfl
   | true=>exact absurd (bJ q) h
  rw[this];simp[h]
def tY {a:Act} {d t:Nat} {v:Value} (q:d<a.tmps.size):(a.put (some d) v).tmps.getD t undef=if d=t then v else a.tmps.getD t undef:=by
 simp only[Act.put,cO,bI];by_cases h:d=t
 ·subst h;simp[q]
 ·simp[h]
def Cg.put {n:Nat} {env:Env} {a:Act} (h:Cg n env a) {dst:Option Nat} {v:Value} (B:∀d,dst=some d->d<n):Cg n (put env dst v) (a.put dst v):=by
 cases dst with
 | none=>exact h
 | some d=>
  have q:=B d rfl;refine⟨by simp[Act.put,h.sz],λt u E hu=>?_,λu hu=>?_⟩
  ·simp only[En.put] at hu;rw[mE] at hu;rw[tY (by rw[h.sz]; exact q)];split at hu
   ·rename_i e;subst e;simpa using hu
   ·rename_i e;rw[if_neg e];exact h.sl t u E hu
  ·simp only[En.put] at hu;rw[mE,if_neg (by omega)] at hu;exact h.df u hu
def wm (n:Nat) (h:KB) (env:Env):Prop:=∀d r,LY h d=some r->d<n/\∃v,lk env d=some v/\match r with
 | some b=>v=.bool b
 | none=>v=undef
def tX {q:KB} {d t:Nat} {r:Option Bool}:LY ((d,r)::q) t=if d=t then some r else LY q t:=by
 simp only[LY];by_cases h:d=t
 ·subst h;simp
 ·have:Nat.beq d t=false:=by
   cases u:Nat.beq d t with
   | false=>rfl
   | true=>exact absurd (bJ u) h
  rw[this];simp[h]
def Lp {u:KB} {d t:Nat} {r:Option Bool} (h:LY (u.filter λx=>!(Nat.beq x.1 d)) t=some r):LY u t=some r/\t≠d:=by
 induction u with
 | nil=>simp[LY] at h
 | cons x u F=>
  obtain⟨x,q⟩:=x;by_cases B:x=d
  ·subst B;rw[eG (by simp)] at h;obtain⟨h1,h2⟩:=F h;exact⟨by rw[tX,if_neg (λe=>h2 e.symm)]; exact h1,h2⟩
  ·have E:Nat.beq x d=false:=by
    cases E:Nat.beq x d with
    | false=>rfl
    | true=>exact absurd (bJ E) B
   rw[eH (by simp[E]),tX] at h;split at h
   ·rename_i e;subst e;exact⟨by rw[tX,if_pos rfl]; exact h,B⟩
   ·rename_i e;obtain⟨h1,h2⟩:=F h;exact⟨by rw[tX,if_neg e]; exact h1,h2⟩
def wm.put {n:Nat} {q:KB} {env:Env} (h:wm n q env) (dst:Option Nat) (v:Value):wm n (Yh q dst) (put env dst v):=by
 cases dst with
 | none=>exact h
 | some d=>
  intro t r B;obtain⟨h1,h2⟩:=Lp B;obtain⟨E,u,hu,hm⟩:=h t r h1;exact⟨E,u,by rw[En.put,mE,if_neg (λe=>h2 e.symm)]; exact hu,hm⟩
def wm.nil (n:Nat) (env:Env):wm n [] env:=λd r h=>by simp[LY] at h
def wm.add {n:Nat} {B:KB} {env:Env} (h:wm n B env) {d:Nat} {r:Option Bool} {v:Value} (E:d<n) (F:lk env d=some v) (hv:match r with
  | some b=>v=.bool b
  | none=>v=undef):wm n ((d,r)::B) env:=by
 intro t q u;rw[tX] at u;split at u
 ·rename_i e;subst e;simp only[aD] at u;subst u;exact⟨E,v,F,hv⟩
 ·exact h t q u
def step (P:Program) (n:Nat) (op:Op) (env:Env) (q:KB) (h:Hp) (k:Value->Hp->Prop):Prop:=
 match op with
 | .move x=>match ev n env x with
  | some v=>k v h
  | none=>False
 | .assign x=>match ev n env x with
  | some v=>k v h
  | none=>False
 | .pick (.tmp c) x y=>match LY q c with
  | some (some true)=>match ev n env x with
   | some v=>k v h
   | none=>False
  | some (some false)=>match ev n env y with
   | some v=>k v h
   | none=>False
  | some none=>False
  | none=>Vb (I5 P n env (.pick (.tmp c) x y) h) λv=>k v h
 | op=>match ZJ op with
  | true=>Vb (I5 P n env op h) λv=>k v h
  | false=>Yg P n env op h k
def F4 {P:Program} {n:Nat} {env:Env} {op:Op} {h:Hp} {v:Value} (hv:I5 P n env op h=some v):∀c,op≠.defer c:=by
 intro c e;subst e;simp[I5] at hv
def RA {P:Program} {F:Fence} (G:Wd F) {n m:Nat} {env:Env} {O:KB} {o:Oper} {a:Act} {w:World} {k:Value->Hp->Prop} (B:mT n env a.eval) (Q:wm n O env)
  (h:step P n o.op env O w.heap k):UJ P F m o a w k:=by
 have q:∀x v,(o.op=.move x\/o.op=.assign x)->ev n env x=some v->k v w.heap->UJ P F m o a w k:=by
  intro x v ho hv J;refine lT G (w':=w) (v:=v) (by rcases ho with e | e <;> simp[e]) ?_ (.refl w) J;rw[<-B x v hv];rcases ho with e | e <;> (unfold execOp; rw[e]; rfl)
 have R:∀(hv:Vb (I5 P n env o.op w.heap) λv=>k v w.heap),UJ P F m o a w k:=by
  rintro⟨v,hv,J⟩;exact lT G (F4 hv) (IP B hv) (.refl w) J
 have H:(match ZJ o.op with
   | true=>Vb (I5 P n env o.op w.heap) λv=>k v w.heap
   | false=>Yg P n env o.op w.heap k)->UJ P F m o a w k:=by
  intro h;split at h
  ·exact R h
  ·exact ND G B rfl h
 unfold step at h;split at h
 ·rename_i x ho;split at h <;> try contradiction
  rename_i v hv;exact q x v (.inl ho) hv h
 ·rename_i x ho;split at h <;> try contradiction
  rename_i v hv;exact q x v (.inr ho) hv h
 ·rename_i c x y ho;split at h
  ·rename_i K;split at h <;> try contradiction
   rename_i v hv;obtain⟨M,u,hu,hm⟩:=Q _ _ K;simp only at hm;subst hm;refine lT G (w':=w) (v:=v) (by simp[ho]) ?_ (.refl w) h;have E:ev n env (.tmp c)=some (.bool true):=by
    have:Nat.blt c n=true:=by simpa[fG] using M
    simp[ev,this,hu]
   unfold execOp;rw[ho];simp[B _ _ E,B _ _ hv,asBool]
  ·rename_i K;split at h <;> try contradiction
   rename_i v hv;obtain⟨M,u,hu,hm⟩:=Q _ _ K;simp only at hm;subst hm;refine lT G (w':=w) (v:=v) (by simp[ho]) ?_ (.refl w) h;have E:ev n env (.tmp c)=some (.bool false):=by
    have:Nat.blt c n=true:=by simpa[fG] using M
    simp[ev,this,hu]
   unfold execOp;rw[ho];simp[B _ _ E,B _ _ hv,asBool]
  ·contradiction
  ·rw[<-ho] at h;exact R h
 ·exact H h
def Ys (ops:Array Oper) (env:Env) (h:KB) (g:Option (Nat × Bool)) (yes no:KB->Prop):Prop:=
 match g with
 | none=>yes h
 | some (j,want)=>match (ops[j]?).bind (·.dst) with
  | none=>False
  | some d=>match LY h d with
   | some (some b)=>match b,want with
    | true,true=>yes h
    | false,false=>yes h
    | _,_=>no h
   | some none=>no h
   | none=>match lk env d with
    | none=>False
    | some v=>match want with
     | true=>Br v (yes ((d,some true)::h)) (no ((d,some false)::h))
     | false=>Br v (no ((d,some true)::h)) (yes ((d,some false)::h))
def yD (n:Nat) (ops:List Oper):Bool:=
 match ops with
 | []=>true
 | o::r=>match o.dst with
  | none=>yD n r
  | some d=>match Nat.blt d n with
   | true=>yD n r
   | false=>false
def pH {n:Nat} {ops:List Oper} (h:yD n ops=true):∀o∈ops,∀d,o.dst=some d->d<n:=by
 induction ops with
 | nil=>intro o ho;cases ho
 | cons o r E=>
  unfold yD at h;intro x q d u;split at h
  ·rename_i F;rcases aU.1 q with rfl | q
   ·rw[F] at u;cases u
   ·exact E h x q d u
  ·rename_i H B;split at h
   ·rename_i G;rcases aU.1 q with rfl | q
    ·rw[B] at u;cases u;simpa[fG] using G
    ·exact E h x q d u
   ·contradiction
def Ie:Value->Option Bool
 | .bool b=>some b
 | _=>none
def Ew {n:Nat} {env:Env} {a:Act} {ops:Array Oper} (q:a.tmps.size=n) {j d:Nat} {v:Value} (u:(ops[j]?).bind (·.dst)=some d) (B:d<n) (hv:a.tmps.getD d undef=v) :
  yielded ops a.tmps j=Ie v:=by
 unfold yielded;rw[u];simp only[dT];have:a.tmps[d]?=some v:=by
  rw[cO] at hv;have h:d<a.tmps.size:=by omega
  rw[bZ h] at hv⊢;simpa using hv
 rw[this];cases v <;> rfl
def Pj {n:Nat} {ops:Array Oper} {env:Env} {E:KB} {a:Act} {o:Oper} {yes no:KB->Prop} (R:yD n ops.toList=true) (K:a.tmps.size=n) (q:wm n E env)
  (F:∀d v,(∃j want,o.guard=some (j,want)/\(ops[j]?).bind (·.dst)=some d)->lk env d=some v->a.tmps.getD d undef=v)
  (h:Ys ops env E o.guard yes no) :
  ∃G,wm n G env/\((Region.wanted o (yielded ops a.tmps)=true/\yes G)\/(Region.wanted o (yielded ops a.tmps)=false/\no G)):=by
 unfold Ys at h;split at h
 ·rename_i J;exact⟨E,q,.inl ⟨by simp[Region.wanted,J],h⟩⟩
 ·rename_i j want J;split at h <;> try contradiction
  rename_i d H;have u:d<n:=by
   cases ho:ops[j]? with
   | none=>rw[ho] at H;cases H
   | some T=>
    rw[ho] at H;exact pH R T (by rw[cH]; exact cS ho) d H
  have hw:∀v,lk env d=some v->Region.wanted o (yielded ops a.tmps)=(Ie v == some want):=by
   intro v hv;have:=Ew (env:=env) K H u (F d v ⟨j,want,J,H⟩ hv);simp only[Region.wanted,J,this]
  split at h
  ·rename_i b M;obtain⟨_,v,hv,hm⟩:=q _ _ M;simp only at hm;subst hm;have:=hw _ hv;split at h
   ·exact⟨E,q,.inl ⟨by rw[this]; rfl,h⟩⟩
   ·exact⟨E,q,.inl ⟨by rw[this]; rfl,h⟩⟩
   ·rename_i h1 h2;refine⟨E,q,.inr ⟨?_,h⟩⟩;rw[this];cases b <;> cases want <;> first | rfl | exact(h1 rfl rfl).elim | exact(h2 rfl rfl).elim
  ·rename_i M;obtain⟨_,v,hv,hm⟩:=q _ _ M;simp only at hm;subst hm;exact⟨E,q,.inr ⟨by rw[hw _ hv]; rfl,h⟩⟩
  ·split at h <;> try contradiction
   rename_i v hv;have B:=hw _ hv;split at h
   ·obtain⟨b,rfl,O,Q⟩:=Je h;cases b with
    | true=>exact⟨_,q.add u hv (r:=some true) rfl,.inl ⟨by rw[B]; rfl,O rfl⟩⟩
    | false=>exact⟨_,q.add u hv (r:=some false) rfl,.inr ⟨by rw[B]; rfl,Q rfl⟩⟩
   ·obtain⟨b,rfl,O,Q⟩:=Je h;cases b with
    | true=>exact⟨_,q.add u hv (r:=some true) rfl,.inr ⟨by rw[B]; rfl,O rfl⟩⟩
    | false=>exact⟨_,q.add u hv (r:=some false) rfl,.inl ⟨by rw[B]; rfl,Q rfl⟩⟩
def OS (P:Program) (n:Nat) (rd:Bool) (ops:Array Oper):List Oper->Env->KB->Hp->(Env->Hp->Prop)->Prop
 | [],env,_,h,k=>k env h
 | o::r,env,q,h,k=>
  Ys ops env q o.guard
   (λq=>match o.op with
    | .defer {callee:=.value (.func f),args,..}=>match rd,okF P f,H7 n env args.toList,lk env n with
     | false,true,some vs,some (.tuple ⟨ds⟩)=>match o.dst with
      | none=>OS P n rd ops r ((n,.tuple ⟨.func (.func f) vs.toArray #[]::ds⟩)::env) q h k
      | some _=>False
     | _,_,_,_=>False
    | op=>step P n op env q h λv h'=>OS P n rd ops r (put env o.dst v) (Yh q o.dst) h' k)
   (λq=>OS P n rd ops r (put env o.dst undef) (match o.dst with
    | some d=>(d,none)::q
    | none=>q) h k)
def xh {P:Program} {F:Fence} (Z:Wd F) {n m:Nat} {rd:Bool} (E:rd=false->F.round=none) {ops:Array Oper} (hn:yD n ops.toList=true) {Q:Exit->Act->World->Prop} {w0:World} {k:Env->Hp->Prop}
  {T:List Nat} {b:Nat->Option Value} (hT:∀o∈ops.toList,∀d,o.dst=some d->d∉T) (G:n∈T->∀o∈ops.toList,∀c,o.op≠.defer c)
  (hQ:∀env a w,Cg n env a->rM w0 w->(∀t∈T,lk env t=b t)->k env w.heap->Q .normal a w) :
  ∀(l:List Oper) (env:Env) (kb:KB) (a:Act) (w:World),(∀t∈T,lk env t=b t)->(∀o∈l,o∈ops.toList)->Cg n env a->wm n kb env->rM w0 w->OS P n rd ops l env kb w.heap k->wpListIn F m P ops Q l a w
 | [],env,kb,a,w,hb,_,q,_,hR,h=>hQ env a w q hR hb h
 | o::l,env,kb,a,w,hb,hl,q,hK,hR,h=>by
  have aS:∀v,∀t∈T,lk (put env o.dst v) t=b t:=by
   intro v t J;cases hd:o.dst with
   | none=>exact hb t J
   | some d=>
    simp only[put];rw[mE,if_neg (λ(e:d=t)=>hT o (hl o (aM ..)) d hd (by rw[e]; exact J))];exact hb t J
  have ho:=hl o (aM ..);have R:∀x∈l,x∈ops.toList:=λx hx=>hl x (aL _ hx);have hd:∀d,o.dst=some d->d<n:=pH hn o ho;unfold OS at h;obtain⟨dO,u,U⟩:=Pj hn q.sz hK (λd v ⟨j,want,hg,H⟩ hv=>q.sl d v (by
   cases V:ops[j]? with
   | none=>rw[V] at H;cases H
   | some oj=>rw[V] at H;exact pH hn oj (by rw[cH]; exact cS V) d H) hv) h
  refine wpListIn_step λK X=>?_;rcases U with ⟨hw,hy⟩| ⟨hw,eQ⟩
  ·rw[hw,if_pos rfl];split at hy
   ·rename_i f args ts aT;split at hy <;> try contradiction
    rename_i vs ds hf iF iN;split at hy <;> try contradiction
    rename_i B;have iS:=E rfl;refine⟨λf _=>Z.any f,?_⟩;have e1:args.map a.eval=vs.toArray:=by rw[<-mT.H7 q.holds iF];apply fH;simp
    have bY:(o.semAt F.round a.eval).run P w=.ok (.defer {target:=.fn (.func f) #[],args:=vs.toArray}) w:=by
     rw[iS,Oper.semAt_none];unfold execOp;rw[aT];have oF:a.eval (.func f)=.func (.func f) #[] #[]:=rfl;simp only[resolve,oF,Deferred.ofValue,Sem.run_bind,Sem.run_pure,Result.andThen_ok,e1,gB]
    rw[bY,Oper.uponIn_defer,B];refine X _ _ (xh Z E hn hT G hQ l _ dO _ w ?_ R ?_ ?_ hR hy)
    ·intro t J;by_cases e:n=t
     ·subst e;exact absurd aT (G J o ho _)
     ·rw[mE,if_neg e];exact hb t J
    ·obtain⟨rW,M,oR⟩:=q.df _ iN;simp only[Value.tuple.injEq,jE] at M;subst M;refine⟨q.sz,λt v J hv=>?_,λv hv=>?_⟩
     ·rw[mE,if_neg (by omega)] at hv;exact q.sl t v J hv
     ·rw[mE,if_pos rfl] at hv;simp only[aD] at hv;refine⟨_,hv.symm,?_⟩;simp[Act.put,dec,oR]
    ·intro t r O;obtain⟨h1,v,h2,h3⟩:=u t r O;exact⟨h1,v,by rw[mE,if_neg (by omega)]; exact h2,h3⟩
   ·refine RA Z q.holds u hy K Q λv w' hs hk=>X _ _ ?_;exact xh Z E hn hT G hQ l _ _ _ w' (aS v) R (q.put hd) (u.put _ _) (hR.trans hs) hk
  ·rw[hw];refine⟨λf _=>Z.any f,X _ _ (xh Z E hn hT G hQ l _ _ _ w (aS _) R (q.put hd) ?_ hR eQ)⟩;cases B:o.dst with
   | none=>simpa[put] using u
   | some d=>
    simp only;intro t r O;rw[tX] at O;by_cases e:d=t
    ·subst e;rw[if_pos rfl] at O;simp only[aD] at O;subst O;exact⟨hd d B,undef,by simp only[put]; rw[mE,if_pos rfl],rfl⟩
    ·rw[if_neg e] at O;obtain⟨h1,v,h2,h3⟩:=u t r O;exact⟨h1,v,by simp only[put]; rw[mE,if_neg e]; exact h2,h3⟩
inductive DC where
 | p | v | e | bad
def zJ (P:Program):Op->Bool
 | .load .. | .lookup .. | .entry _=>false
 | .call {callee:=.builtin .len,argTypes:=⟨t::_⟩,..}=>match ZI P t with
  | .xO=>true
  | _=>false
 | .call {callee:=.builtin .min,..} | .call {callee:=.builtin .max,..}=>true
 | .call _=>false
 | _=>true
def dc (P:Program) (op:Op):DC:=
 match op with
 | .move _ | .assign _=>.p
 | .defer _ | .select ..=>.bad
 | op=>match ZJ op with
  | true=>match zJ P op with
   | true=>.p
   | false=>.v
  | false=>.e
def isE:DC->Bool
 | .e=>true
 | _=>false
structure Pd where
 i:Nat
 env:Env
 op:Op
 v:Value
def He (P:Program) (n:Nat) (u:Nat) (h:Hp) (q:Prop):List Pd->Prop
 | []=>q
 | ⟨i,env,op,v⟩::r=>match u.testBit i with
  | true=>He P n u h q r
  | false=>I5 P n env op h=some v/\He P n u h q r
def EP (h:Nat):List Pd->List Pd
 | []=>[]
 | ⟨i,env,op,v⟩::r=>match h.testBit i with
  | true=>EP h r
  | false=>⟨i,env,op,v⟩::EP h r
def kbn (h:KB) (dst:Option Nat):KB:=
 match dst with
 | some d=>(d,none)::h
 | none=>h
inductive OT where
 | nil
 | cons (i:Nat) (r:OT)
 | oZ (a b:OT)
def oc:List Nat->OT->OT
 | [],t=>t
 | i::r,t=>.cons i (oc r t)
def DB (P:Program) (n:Nat) (ops:Array Oper) (pre:Array Nat):OT->List Pd->Env->KB->Hp->(Env->Hp->Prop)->Prop
 | .nil,_,env,_,h,k=>k env h
 | .oZ a b,pend,env,q,h,k=>DB P n ops pre a pend env q h k/\DB P n ops pre b pend env q h k
 | .cons i r,pend,env,q,h,k=>match ops[i]? with
  | none=>False
  | some o=>Ys ops env q o.guard
   (λq=>match dc P o.op with
    | .p=>step P n o.op env q h λv _=>DB P n ops pre r pend (put env o.dst v) (Yh q o.dst) h k
    | .v=>Vb (I5 P n env o.op h) λv=>DB P n ops pre r ({i,env,op:=o.op,v}::pend) (put env o.dst v) (Yh q o.dst) h k
    | .e=>Yg P n env o.op h λv h'=>He P n (pre.getD i 0) h' (DB P n ops pre r (EP (pre.getD i 0) pend) (put env o.dst v) (Yh q o.dst) h' k) pend
    | .bad=>False)
   (λq=>DB P n ops pre r pend (put env o.dst undef) (kbn q o.dst) h k)
def rel (pre:Array Nat) (i j:Nat):Bool:=(pre.getD i 0).testBit j
def oW (ops:Array Oper) (j:Nat):Option Nat:=(ops[j]?).bind (·.dst)
def Wb (ops:Array Oper) (j:Nat) (o:Oper):Bool:=
 match oW ops j with
 | some d=>(o.looksAt ops).contains d
 | none=>false
def Nv (ops:Array Oper) (i j:Nat):Bool:=
 match oW ops i,oW ops j with
 | some d,some e=>Nat.beq d e
 | _,_=>false
def eAt (P:Program) (ops:Array Oper) (j:Nat):Bool:=
 match ops[j]? with
 | some o=>isE (dc P o.op)
 | none=>false
def tz:OT->List Nat
 | .nil=>[]
 | .cons i _=>[i]
 | .oZ a b=>tz a++tz b
def ux (P:Program) (ops:Array Oper) (pre:Array Nat):OT->List Nat->List Nat->Bool
 | .nil,_,h=>(List.range ops.size).all λj=>h.contains j
 | .oZ a b,hs,h=>hs.all (λe=>eAt P ops e)&&ux P ops pre a hs h&&ux P ops pre b hs h
 | .cons i r,hs,h=>(match ops[i]? with
  | none=>false
  | some o=>!(h.contains i)&&hs.contains i&&o.after.toList.all (λe=>!Region.binds .any e||h.contains e.on)&&
   h.all (λj=>!Wb ops j o||rel pre i j)&&
   (List.range ops.size).all (λj=>Nat.beq j i||h.contains j||!Wb ops j o||rel pre j i)&&
   (!isE (dc P o.op)||(List.range ops.size).all λj=>h.contains j||hs.contains j||hs.any λe=>rel pre j e))&&ux P ops pre r (tz r) (i::h)
def pathOf:OT->List Nat
 | .nil=>[]
 | .cons i r=>i::pathOf r
 | .oZ a _=>pathOf a
def We (P:Program) (n:Nat) (ops:Array Oper) (pre:Array Nat) (ord:OT):Bool:=
 yD n ops.toList&&(List.range ops.size).all (λi=>(List.range ops.size).all λj=>Nat.beq i j||!Nv ops i j)&&
  (List.range ops.size).all (λi=>match ops[i]? with
   | none=>false
   | some o=>o.after.toList.all (λe=>!Region.binds .any e||(Nat.blt ((pathOf ord).idxOf e.on) ((pathOf ord).idxOf i)&&Nat.blt e.on ops.size))&&
    (List.range ops.size).all (λj=>!rel pre i j||o.after.toList.any λe=>Region.binds .any e&&(Nat.beq e.on j||rel pre e.on j)))&&
  ux P ops pre ord (tz ord) []
structure YN (P:Program) (ops:Array Oper) (pre:Array Nat) (hs l1:List Nat) (i:Nat) (o:Oper):Prop where
 at_:ops[i]?=some o
 Gy:i∉l1
 inh:i∈hs
 ab9:∀e∈o.after,Region.binds .any e=true->e.on∈l1
 Za:∀j∈l1,Wb ops j o=true->rel pre i j=true
 Zz:∀j,j<ops.size->j≠i->j∉l1->Wb ops j o=true->rel pre j i=true
 wait:dc P o.op=.e->∀j,j<ops.size->j∉l1->j∉hs->∃e∈hs,rel pre j e=true
def BU {P:Program} {ops:Array Oper} {pre:Array Nat} {hs E:List Nat} {i:Nat} {r:OT} (h:ux P ops pre (.cons i r) hs E=true):(∃o,YN P ops pre hs E i o)/\ux P ops pre r (tz r) (i::E)=true:=by
 unfold ux at h;rw[bO] at h;refine⟨?_,h.2⟩;have h1:=h.1;split at h1
 ·contradiction
 ·rename_i o ho;simp only[bO,cG,cH,gC,dI,List.contains_iff_mem,gS,decide_eq_false_iff_not,decide_eq_true_eq,dP,gP] at h1;obtain⟨⟨⟨⟨⟨J,K⟩,M⟩,O⟩,Q⟩,R⟩:=h1;refine⟨o,ho,J,K,λe he T=>?_,λj u F=>?_,λj u G q F=>?_,λU j u q H=>?_⟩
  ·rcases M e he with h2 | h2
   ·rw[T] at h2;cases h2
   ·exact h2
  ·rcases O j u with h2 | h2
   ·rw[F] at h2;cases h2
   ·exact h2
  ·rcases Q j u with ((h2 | h2) | h2) | h2
   ·exact absurd (bJ h2) G
   ·exact absurd h2 q
   ·rw[F] at h2;cases h2
   ·exact h2
  ·rcases R with h2 | h2
   ·rw[U] at h2;cases h2
   ·rcases h2 j u with (B | B) | B
    ·exact absurd B q
    ·exact absurd B H
    ·exact B
def ER {P:Program} {ops:Array Oper} {pre:Array Nat} {hs q:List Nat} {a b:OT} (h:ux P ops pre (.oZ a b) hs q=true):(∀e∈hs,eAt P ops e=true)/\ux P ops pre a hs q=true/\ux P ops pre b hs q=true:=by
 unfold ux at h;simp only[bO,cG] at h;exact⟨h.1.1,h.1.2,h.2⟩
def tg (n:Nat) (env:Env) (ts:List Tmp) (a:Act):Prop:=a.tmps.size=n/\∀t u,t∈ts->t<n->lk env t=some u->a.tmps.getD t undef=u
def YK (n:Nat) (env:Env) (a:Act):Operand->Value:=λx=>(ev n env x).getD (a.eval x)
def GA {n:Nat} {env:Env} {a:Act}:mT n env (YK n env a):=λx v h=>by simp[YK,h]
def Ke {n:Nat} {env:Env} {a:Act} {ops:Array Oper} {o:Oper} (hs:∀cs b,o.op≠.select cs b) (h:tg n env (o.looksAt ops) a):execOp a.eval o=execOp (YK n env a) o:=by
 refine execOp_congr o hs λx q=>?_;unfold YK;cases he:ev n env x with
 | none=>rfl
 | some v=>
  simp only[fE];cases x with
  | tmp t=>
   simp only[ev] at he;split at he
   ·rename_i B;exact h.2 t v (eF _ (gD.2 ⟨.tmp t,by simpa using q,rfl⟩)) (by simpa[fG] using B) he
   ·contradiction
  | const u=>simpa[ev,Act.eval] using he
  | global g=>simpa[ev,Act.eval] using he
  | func f=>simpa[ev,Act.eval] using he
def Bn (ops:Array Oper) (env:Env) (o:Oper):Bool:=
 match o.guard with
 | none=>true
 | some (j,want)=>match oW ops j with
  | none=>false
  | some d=>match lk env d with
   | none=>false
   | some v=>Ie v == some want
def Tu {n:Nat} {ops:Array Oper} {env:Env} {M:KB} {o:Oper} {yes no:KB->Prop} (Z:yD n ops.toList=true) (F:wm n M env) (h:Ys ops env M o.guard yes no) :
  ∃G,wm n G env/\((Bn ops env o=true/\yes G)\/(Bn ops env o=false/\no G))/\
   (∀a,tg n env (o.looksAt ops) a->Region.wanted o (yielded ops a.tmps)=Bn ops env o):=by
 have key:∀(a:Act),tg n env (o.looksAt ops) a->(∀j want d,o.guard=some (j,want)->oW ops j=some d->∃v,lk env d=some v)->(∀j want,o.guard=some (j,want)->∃d,oW ops j=some d)->
   Region.wanted o (yielded ops a.tmps)=Bn ops env o:=by
  intro a K hv H;unfold Bn;cases E:o.guard with
  | none=>simp[Region.wanted,E]
  | some g=>
   obtain⟨j,want⟩:=g;obtain⟨d,q⟩:=H j want E;obtain⟨v,O⟩:=hv j want d E q;simp only[q,O];have B:d<n:=by
    unfold oW at q;cases ho:ops[j]? with
    | none=>rw[ho] at q;cases q
    | some R=>rw[ho] at q;exact pH Z R (by rw[cH]; exact cS ho) d q
   have T:d∈o.looksAt ops:=by
    unfold Oper.looksAt;refine eR _ ?_;rw[E];simp only;have:(ops[j]?).bind (·.dst)=some d:=q;rw[this];simp
   have hy:=Ew (env:=env) (v:=v) K.1 (j:=j) (ops:=ops) q B (K.2 d v T B O);simp only[Region.wanted,E,hy]
 have h0:=h;unfold Ys at h;split at h
 ·rename_i E;refine⟨M,F,.inl ⟨by simp[Bn,E],h⟩,λa K=>key a K (λj want d u _=>by rw[E] at u; cases u) (λj want u=>by rw[E] at u; cases u)⟩
 ·rename_i j want E;split at h <;> try contradiction
  rename_i d H;have q:oW ops j=some d:=H;have B:d<n:=by
   cases ho:ops[j]? with
   | none=>rw[ho] at H;cases H
   | some R=>rw[ho] at H;exact pH Z R (by rw[cH]; exact cS ho) d H
  have fin:∀v,lk env d=some v->(∀a,tg n env (o.looksAt ops) a->Region.wanted o (yielded ops a.tmps)=Bn ops env o):=λv hv a K=>key a K
   (λj' J d' u Q=>by rw[E] at u; cases u; rw[q] at Q; cases Q; exact⟨v,hv⟩) (λj' J u=>by rw[E] at u; cases u; exact⟨d,q⟩)
  have hw:∀v,lk env d=some v->Bn ops env o=(Ie v == some want):=λv hv=>by simp[Bn,E,q,hv]
  split at h
  ·rename_i b U;obtain⟨_,v,hv,hm⟩:=F _ _ U;simp only at hm;subst hm;refine⟨M,F,?_,fin _ hv⟩;rw[hw _ hv];split at h
   ·exact .inl ⟨rfl,h⟩
   ·exact .inl ⟨rfl,h⟩
   ·rename_i h1 h2;refine .inr ⟨?_,h⟩;cases b <;> cases want <;> first | rfl | exact(h1 rfl rfl).elim | exact(h2 rfl rfl).elim
  ·rename_i U;obtain⟨_,v,hv,hm⟩:=F _ _ U;simp only at hm;subst hm;exact⟨M,F,.inr ⟨by rw[hw _ hv]; rfl,h⟩,fin _ hv⟩
  ·split at h <;> try contradiction
   rename_i v hv;split at h
   ·obtain⟨b,rfl,V,X⟩:=Je h;cases b with
    | true=>exact⟨_,F.add B hv (r:=some true) rfl,.inl ⟨by rw[hw _ hv]; rfl,V rfl⟩,fin _ hv⟩
    | false=>exact⟨_,F.add B hv (r:=some false) rfl,.inr ⟨by rw[hw _ hv]; rfl,X rfl⟩,fin _ hv⟩
   ·obtain⟨b,rfl,V,X⟩:=Je h;cases b with
    | true=>exact⟨_,F.add B hv (r:=some true) rfl,.inr ⟨by rw[hw _ hv]; rfl,V rfl⟩,fin _ hv⟩
    | false=>exact⟨_,F.add B hv (r:=some false) rfl,.inl ⟨by rw[hw _ hv]; rfl,X rfl⟩,fin _ hv⟩
def sR (P:Program) (F:Fence) (m n:Nat) (ops:Array Oper) (i:Nat) (o:Oper) (env:Env) (v:Value) (h:Hp):Prop:=
 ∀(a:Act) (w:World) (Q:Exit->Act->World->Prop) (next:Act->World->Prop),w.heap=h->tg n env (o.looksAt ops) a->next (a.put o.dst v) w->wpOpIn F m P ops Q i next a w
def PO {P:Program} {n:Nat} {env:Env} {op:Op} (q:zJ P op=true) (h h':Hp):I5 P n env op h=I5 P n env op h':=by
 cases op <;> first | rfl | (simp[zJ] at q; done) | skip
 rename_i c;obtain⟨cl,⟨lx⟩,⟨ts⟩⟩:=c;cases cl with
 | value f=>simp[zJ] at q
 | invoke r m=>simp[zJ] at q
 | builtin b=>
  cases b <;> first | (simp[zJ] at q; done) | skip
  ·cases ts with
   | nil=>simp[zJ] at q
   | cons t r=>
    simp only[zJ] at q;split at q
    ·rename_i u;match lx with
     | []=>rfl
     | [x]=>simp only[I5,u,ZH]
     | _::_::_=>rfl
    ·contradiction
  ·match lx with
   | []=>rfl
   | [x]=>rfl
   | [x,y]=>rfl
   | _::_::_::_=>rfl
  ·match lx with
   | []=>rfl
   | [x]=>rfl
   | [x,y]=>rfl
   | _::_::_::_=>rfl
def OM {P:Program} {n:Nat} {env:Env} {K:KB} {o:Oper} {h:Hp} {k:Value->Hp->Prop} (U:wm n K env) (J:dc P o.op=.p) (hs:step P n o.op env K h k) :
  ∃v,(∀(ρ:Operand->Value) (w:World),mT n env ρ->(execOp ρ o).run P w=.ok (.value v) w)/\k v h:=by
 have B:∀x v,(o.op=.move x\/o.op=.assign x)->ev n env x=some v->k v h->∃v,(∀(ρ:Operand->Value) (w:World),mT n env ρ->(execOp ρ o).run P w=.ok (.value v) w)/\k v h:=by
  intro x v ho hv M;refine⟨v,λρ w q=>?_,M⟩;rw[<-q x v hv];rcases ho with e | e <;> (unfold execOp; rw[e]; rfl)
 have R:zJ P o.op=true->Vb (I5 P n env o.op h) (λv=>k v h)->∃v,(∀(ρ:Operand->Value) (w:World),mT n env ρ->(execOp ρ o).run P w=.ok (.value v) w)/\k v h:=by
  rintro E ⟨v,hv,M⟩;exact⟨v,λρ w q=>IP q (by rw[PO E w.heap h]; exact hv),M⟩
 unfold step at hs;split at hs
 ·rename_i x ho;split at hs <;> try contradiction
  rename_i v hv;exact B x v (.inl ho) hv hs
 ·rename_i x ho;split at hs <;> try contradiction
  rename_i v hv;exact B x v (.inr ho) hv hs
 ·rename_i c x y ho;have G:∀b,LY K c=some (some b)->ev n env (.tmp c)=some (.bool b):=by
   intro b H;obtain⟨V,u,hu,hm⟩:=U _ _ H;simp only at hm;subst hm;have:Nat.blt c n=true:=by simpa[fG] using V
   simp[ev,this,hu]
  split at hs
  ·rename_i H;split at hs <;> try contradiction
   rename_i v hv;refine⟨v,λρ w q=>?_,hs⟩;unfold execOp;rw[ho];simp[q _ _ (G _ H),q _ _ hv,asBool]
  ·rename_i H;split at hs <;> try contradiction
   rename_i v hv;refine⟨v,λρ w q=>?_,hs⟩;unfold execOp;rw[ho];simp[q _ _ (G _ H),q _ _ hv,asBool]
  ·contradiction
  ·rw[<-ho] at hs;exact R (by rw[ho]; rfl) hs
 ·rename_i h1 h2 X;have E:ZJ o.op=true/\zJ P o.op=true:=by
   unfold dc at J;split at J
   ·rename_i O;exact(h1 _ O).elim
   ·rename_i O;exact(h2 _ O).elim
   ·contradiction
   ·contradiction
   ·split at J
    ·rename_i hv;split at J
     ·rename_i Q;exact⟨hv,Q⟩
     ·contradiction
    ·contradiction
  rw[E.1] at hs;exact R E.2 hs
def aao {P:Program} {op:Op} (h:dc P op=.v):∀cs b,op≠.select cs b:=by
 intro cs b e;subst e;simp[dc] at h
def aap {P:Program} {op:Op} (h:dc P op=.p):∀cs b,op≠.select cs b:=by
 intro cs b e;subst e;simp[dc] at h
def Z0 {P:Program} {op:Op} (h:dc P op=.e):∀cs b,op≠.select cs b:=by
 intro cs b e;subst e;simp[dc] at h
def Ev {P:Program} {F:Fence} (hF:Wd F) {m n:Nat} {ops:Array Oper} {i:Nat} {o:Oper} {env:Env} {v:Value} {h:Hp} (ho:ops[i]?=some o) (hs:∀cs b,o.op≠.select cs b) (u:∀c,o.op≠.defer c)
  (hw:∀a,tg n env (o.looksAt ops) a->Region.wanted o (yielded ops a.tmps)=true)
  (B:∀(ρ:Operand->Value) (w:World),w.heap=h->mT n env ρ->(execOp ρ o).run P w=.ok (.value v) w):sR P F m n ops i o env v h:=by
 intro a w Q next E q hn
 unfold wpOpIn;simp only[ho];rw[hw a q,if_pos rfl];refine⟨λf _=>hF.any f,?_⟩;rw[Oper.semAt_eq _ _ _ u,Ke hs q,B _ w E GA,Oper.uponIn_value];exact hn
def Jz {P:Program} {F:Fence} (hF:Wd F) {m n:Nat} {ops:Array Oper} {i:Nat} {o:Oper} {env:Env} {h:Hp} (ho:ops[i]?=some o)
  (hw:∀a,tg n env (o.looksAt ops) a->Region.wanted o (yielded ops a.tmps)=false):sR P F m n ops i o env undef h:=by
 intro a w Q next u q hn
 unfold wpOpIn;simp only[ho];rw[hw a q];exact⟨λf _=>hF.any f,hn⟩
def KF (listed:Array Bool) (j:Nat):Bool:=listed.getD j false
structure aaC (P:Program) (F:Fence) (m n:Nat) (ops:Array Oper) (pre:Array Nat) (pl:List Nat) (env:Env) (D:Nat->Bool) (a:Act) (h:Hp) (pend:List Pd) (i:Nat) (o:Oper) (env':Env) (pl':List Nat) (v:Value):Prop where
 at_:ops[i]?=some o
 sub:∀j∈pl',j∈pl
 run:sR P F m n ops i o env' v h
 lQ:(∀h',sR P F m n ops i o env' v h')\/(∃p∈pend,p.i=i/\∀h',I5 P n p.env p.op h'=some p.v->sR P F m n ops i o env' v h')
 val:∀d,o.dst=some d->lk env d=some v
 fr:∀t u,t∈o.looksAt ops->t<n->lk env' t=some u->(∀j∈pl',oW ops j=some t->D j=true)->a.tmps.getD t undef=u
 h1:∀j∈pl',Wb ops j o=true->rel pre i j=true
 h2:∀j,j<ops.size->j≠i->j∉pl'->Wb ops j o=true->rel pre j i=true
 ZL:∀j∈pl',∀t u,lk env' t=some u->oW ops j=some t->lk env t=some u
structure St (P:Program) (F:Fence) (m n:Nat) (ops:Array Oper) (pre:Array Nat) (pl:List Nat) (env:Env) (D:Nat->Bool) (a:Act) (h:Hp) (pend:List Pd) (T:List Nat) (b:Nat->Option Value):Prop where
 tr:∀t∈T,lk env t=b t
 sz:a.tmps.size=n
 df:∀v,lk env n=some v->∃ds:List Value,v=.tuple ⟨ds⟩/\a.defers=ds.map dec
 fr:∀t v,t<n->lk env t=some v->(∀j∈pl,oW ops j=some t->D j=true)->a.tmps.getD t undef=v
 sub:∀j,j<ops.size->D j=true->j∈pl
 ZS:∀i,D i=true->∀j,j<ops.size->rel pre i j=true->D j=true
 lt:∀j∈pl,j<ops.size
 pd:∀i∈pl,D i=false->∃o env' pl' v,aaC P F m n ops pre pl env D a h pend i o env' pl' v
def Ay (P:Program) (n:Nat) (ops:Array Oper) (pre:Array Nat) (pend:List Pd) (env:Env) (h:Hp) (k:Env->Hp->Prop):OT->Prop
 | .nil=>False
 | .oZ a b=>Ay P n ops pre pend env h k a/\Ay P n ops pre pend env h k b
 | .cons e r=>∃o q,ops[e]?=some o/\dc P o.op=.e/\wm n q env/\(∀a,tg n env (o.looksAt ops) a->Region.wanted o (yielded ops a.tmps)=true)/\
  Yg P n env o.op h λv h'=>He P n (pre.getD e 0) h' (DB P n ops pre r (EP (pre.getD e 0) pend) (put env o.dst v) (Yh q o.dst) h' k) pend
def KE (P:Program) (n:Nat) (ops:Array Oper) (pre:Array Nat) (rest:OT) (pend:List Pd) (env:Env) (h:Hp) (k:Env->Hp->Prop):Prop:=
 (rest=.nil/\k env h)\/Ay P n ops pre pend env h k rest
def CN {ops:Array Oper} {i:Nat} {o:Oper} (h:ops[i]?=some o):i<ops.size:=(aZ.1 h).1
def Bi {ops:Array Oper} {i:Nat} {o:Oper} (h:ops[i]?=some o):oW ops i=o.dst:=by simp[oW,h]
def H4 {ops:Array Oper} {j t:Nat} {o:Oper} (h:oW ops j=some t) (q:t∈o.looksAt ops):Wb ops j o=true:=by
 unfold Wb;rw[h];simpa using q
def Ar {P:Program} {n:Nat} {B:Nat} {h:Hp} {q:Prop}:∀{pend:List Pd},He P n B h q pend->q/\∀p∈pend,B.testBit p.i=false->I5 P n p.env p.op h=some p.v
 | [],hs=>⟨hs,λp H=>by cases H⟩
 | p::r,hs=>by
  unfold He at hs;split at hs
  ·rename_i G;obtain⟨h1,h2⟩:=Ar (pend:=r) hs;refine⟨h1,λx E u=>?_⟩;rcases aU.1 E with rfl | E
   ·rw[G] at u;cases u
   ·exact h2 x E u
  ·rename_i G;obtain⟨h1,h2⟩:=Ar (pend:=r) hs.2;refine⟨h1,λx E u=>?_⟩;rcases aU.1 E with rfl | E
   ·exact hs.1
   ·exact h2 x E u
def Cy {h:Nat}:∀{pend:List Pd} {p:Pd},p∈pend->h.testBit p.i=false->p∈EP h pend
 | [],p,q,_=>by cases q
 | x::r,p,q,u=>by
  unfold EP;rcases aU.1 q with rfl | q
  ·rw[u];exact aM ..
  ·split
   ·exact Cy q u
   ·exact aL _ (Cy q u)
section
variable {P:Program} {F:Fence} (hF:Wd F) {m n:Nat} {ops:Array Oper} {pre:Array Nat}
variable {T:List Nat} {b:Nat->Option Value} (hT:∀o∈ops.toList,∀d,o.dst=some d->d∉T)
variable (hn:yD n ops.toList=true) (hdist:∀i j d,i<ops.size->j<ops.size->oW ops i=some d->oW ops j=some d->i=j)
include hF hT hn hdist
def St.more {hs pl:List Nat} {i:Nat} {env:Env} {D:Nat->Bool} {a:Act} {h:Hp} {pend G:List Pd} {o:Oper} {v:Value} (E:YN P ops pre hs pl i o) (hs:St P F m n ops pre pl env D a h pend T b)
  (hp:∀p∈pend,p∈G) (R:sR P F m n ops i o env v h) (M:(∀h',sR P F m n ops i o env v h')\/(∃p∈G,p.i=i/\∀h',I5 P n p.env p.op h'=some p.v->sR P F m n ops i o env v h')) :
  St P F m n ops pre (i::pl) (put env o.dst v) D a h G T b:=by
 have _:=hF;have hi:=CN E.at_;have U:=Bi E.at_;have Z:D i=false:=by
  cases hD:D i with
  | false=>rfl
  | true=>exact absurd (hs.sub i hi hD) E.Gy
 have K:∀j∈pl,∀t,oW ops j=some t->o.dst≠some t:=by
  intro j q t H e;rw[<-U] at e;have:=hdist j i t (hs.lt j q) hi H e;subst this;exact E.Gy q
 have J:∀t,o.dst≠some t->lk (put env o.dst v) t=lk env t:=by
  intro t O;cases Q:o.dst with
  | none=>rfl
  | some d=>
   simp only[put];rw[mE,if_neg (λe=>O (by rw[Q,e]))]
 have aS:o.dst≠some n:=λe=>by
  exact Nat.lt_irrefl n (pH hn o (by rw[cH]; exact cS E.at_) n e)
 refine⟨?_,hs.sz,?_,?_,?_,hs.ZS,?_,?_⟩
 ·intro t O;rw[J t (λe=>hT o (by rw[cH]; exact cS E.at_) t e O)];exact hs.tr t O
 ·intro u hu;rw[J n aS] at hu;exact hs.df u hu
 ·intro t u O hu q;by_cases e:o.dst=some t
  ·have:=q i (aM ..) (by rw[U]; exact e);rw[Z] at this;cases this
  ·rw[J t e] at hu;exact hs.fr t u O hu λj aT=>q j (aL _ aT)
 ·exact λj q hD=>aL _ (hs.sub j q hD)
 ·intro j q;rcases aU.1 q with rfl | q
  ·exact hi
  ·exact hs.lt j q
 ·intro x X bY;rcases aU.1 X with rfl | X
  ·refine⟨o,env,pl,v,E.at_,λj q=>aL _ q,R,M,?_,?_,E.Za,?_,?_⟩
   ·intro d Q;rw[Q];simp only[put];rw[mE,if_pos rfl]
   ·intro t u O dO hu q;exact hs.fr t u dO hu q
   ·exact λj q eQ iF hh=>E.Zz j q eQ iF hh
   ·intro j q t u hu H;rw[J t (K j q t H)];exact hu
  ·obtain⟨o',V,iN,v',B⟩:=hs.pd x X bY;refine⟨o',V,iN,v',B.at_,λj q=>aL _ (B.sub j q),B.run,?_,?_,B.fr,B.h1,B.h2,?_⟩
   ·rcases B.lQ with hk | ⟨p,iS,oF,oR⟩
    ·exact .inl hk
    ·exact .inr ⟨p,hp p iS,oF,oR⟩
   ·intro d Q;rw[J d (K x X d (by rw[Bi B.at_]; exact Q))];exact B.val d Q
   ·intro j q t u hu H;rw[J t (K j (B.sub j q) t H)];exact B.ZL j q t u hu H
def advance {k:Env->Hp->Prop} {D:Nat->Bool} {a:Act} {h:Hp}:∀(rest:OT) (K pl:List Nat) (pend:List Pd) (env:Env) (V:KB),ux P ops pre rest K pl=true->wm n V env->St P F m n ops pre pl env D a h pend T b->
  DB P n ops pre rest pend env V h k->
  (ux P ops pre rest K pl=true/\St P F m n ops pre pl env D a h pend T b/\KE P n ops pre rest pend env h k)\/
  ∃O B u E,ux P ops pre B (tz B) O=true/\St P F m n ops pre O E D a h u T b/\KE P n ops pre B u E h k
 | .nil,K,pl,pend,env,V,M,_,hs,G=>.inl ⟨M,hs,.inl ⟨rfl,G⟩⟩
 | .oZ x y,K,pl,pend,env,V,M,hK,hs,G=>by
  obtain⟨hE,hx,hy⟩:=ER M;rcases advance x K pl pend env V hx hK hs G.1 with ⟨_,_,h1⟩| h1
  ·rcases advance y K pl pend env V hy hK hs G.2 with ⟨_,_,h2⟩| h2
   ·rcases h1 with ⟨rfl,h1⟩| h1
    ·exact .inr ⟨pl,.nil,pend,env,hx,hs,.inl ⟨rfl,h1⟩⟩
    ·rcases h2 with ⟨rfl,h2⟩| h2
     ·exact .inr ⟨pl,.nil,pend,env,hy,hs,.inl ⟨rfl,h2⟩⟩
     ·exact .inl ⟨M,hs,.inr ⟨h1,h2⟩⟩
   ·exact .inr h2
  ·exact .inr h1
 | .cons i r,K,pl,pend,env,V,M,hK,hs,G=>by
  obtain⟨⟨o,ho⟩,aS⟩:=BU M;have fin:∀{u:List Pd} {E:Env} {R:KB},wm n R E->St P F m n ops pre (i::pl) E D a h u T b->DB P n ops pre r u E R h k->
    ∃O B u E,ux P ops pre B (tz B) O=true/\St P F m n ops pre O E D a h u T b/\KE P n ops pre B u E h k:=λH dO eQ=>by
   rcases advance r (tz r) (i::pl) _ _ _ aS H dO eQ with ⟨h1,h2,h3⟩| h1
   ·exact⟨_,_,_,_,h1,h2,h3⟩
   ·exact h1
  unfold DB at G;simp only[ho.at_] at G;obtain⟨R,H,X,hw⟩:=Tu hn hK G;rcases X with ⟨aT,G⟩| ⟨iF,G⟩
  ·have Q:=λa ha=>(hw a ha).trans aT;split at G
   ·rename_i J;obtain⟨v,hr,G⟩:=OM H J G;have U:∀h',sR P F m n ops i o env v h':=λh'=>Ev hF ho.at_ (aap J) (by intro c e; rw[e] at J; simp[dc] at J) Q λρ w _ Z=>hr ρ w Z;exact .inr (fin (H.put _ _) (hs.more hF hT hn hdist ho (λp J=>J) (U h) (.inl U)) G)
   ·rename_i J;obtain⟨v,hv,G⟩:=G;have U:∀h',I5 P n env o.op h'=some v->sR P F m n ops i o env v h':=λh' iN=>Ev hF ho.at_ (aao J) (by intro c e; rw[e] at J; simp[dc] at J) Q λρ w hh Z=>IP Z (by rw[hh]; exact iN);exact .inr (fin (H.put _ _)
     (hs.more hF hT hn hdist ho (λp J=>aL _ J) (U h hv) (.inr ⟨{i,env,op:=o.op,v},aM ..,rfl,U⟩)) G)
   ·rename_i J;exact .inl ⟨M,hs,.inr ⟨o,R,ho.at_,J,H,Q,G⟩⟩
   ·contradiction
  ·have Q:=λa ha=>(hw a ha).trans iF;have U:∀h',sR P F m n ops i o env undef h':=λh'=>Jz hF ho.at_ Q;refine .inr (fin ?_ (hs.more hF hT hn hdist ho (λp J=>J) (U h) (.inl U)) G);cases bY:o.dst with
   | none=>simpa[put,kbn] using H
   | some d=>
    simp only[kbn,put];intro t q hq;rw[tX] at hq;by_cases e:d=t
    ·subst e;rw[if_pos rfl] at hq;simp only[aD] at hq;subst hq;exact⟨pH hn o (by rw[cH]; exact cS ho.at_) d bY,undef,by rw[mE,if_pos rfl],rfl⟩
    ·rw[if_neg e] at hq;obtain⟨h1,v,h2,h3⟩:=H t q hq;exact⟨h1,v,by rw[mE,if_neg e]; exact h2,h3⟩
end
def wV {P:Program} {n:Nat} {ops:Array Oper} {pre:Array Nat} {pend:List Pd} {env:Env} {h:Hp} {k:Env->Hp->Prop} {hs pl:List Nat}:∀{t:OT},ux P ops pre t hs pl=true->Ay P n ops pre pend env h k t->∀i∈tz t,
  ∃r,ux P ops pre (.cons i r) hs pl=true/\Ay P n ops pre pend env h k (.cons i r)
 | .nil,_,u,i,hi=>by cases hi
 | .cons e r,q,u,i,hi=>by
  simp only[tz,aN] at hi;subst hi;exact⟨r,q,u⟩
 | .oZ x y,q,u,i,hi=>by
  obtain⟨_,B,E⟩:=ER q;rcases bB.1 hi with h1 | h1
  ·exact wV B u.1 i h1
  ·exact wV E u.2 i h1
def zY {P:Program} {n:Nat} {ops:Array Oper} {pre:Array Nat} {pend:List Pd} {env:Env} {h:Hp} {k:Env->Hp->Prop} {hs pl:List Nat}:∀{t:OT},ux P ops pre t hs pl=true->Ay P n ops pre pend env h k t->
  ∃e r,ux P ops pre (.cons e r) hs pl=true/\Ay P n ops pre pend env h k (.cons e r)
 | .nil,_,u=>u.elim
 | .cons e r,q,u=>⟨e,r,q,u⟩
 | .oZ x y,q,u=>zY (ER q).2.1 u.1
def XJ (ops:Array Oper) (listed:Array Bool):Nat:=((List.range ops.size).filter λi=>!listed.getD i true).length
def Oz {ops:Array Oper} {listed:Array Bool} (E:listed.size=ops.size) {i:Nat} (hi:i<ops.size) (H:listed.getD i true=false):XJ ops listed=XJ ops (listed.setIfInBounds i true)+1:=by
 unfold XJ;have J:∀j,(listed.setIfInBounds i true).getD j true=if i=j then true else listed.getD j true:=by
  intro j;simp only[cO,bI];by_cases e:i=j
  ·subst e;simp[E,hi]
  ·simp[e]
 simp only[J];have key:∀(l:List Nat),l.Nodup->i∈l->(l.filter λj=>!listed.getD j true).length=(l.filter λj=>!(if i=j then true else listed.getD j true)).length+1:=by
  intro l;induction l with
  | nil=>intro _ h;cases h
  | cons x l K=>
   intro q hm;rw[eJ] at q;rcases aU.1 hm with rfl | hm
   ·rw[eH (by simp[H]),eG (by simp)];simp only[aH];congr 2;apply List.filter_congr;intro y M;have:i≠y:=λe=>q.1 (e▸M);simp[this]
   ·have u:i≠x:=λe=>q.1 (e▸hm);have:=K q.2 hm;by_cases G:listed.getD x true=true
    ·rw[eG (by simp[G]),eG (by simp[u,G])];exact this
    ·have B:listed.getD x true=false:=by simpa using G
     rw[eH (by simp[B]),eH (by simp[u,B])];simp only[aH,this]
 exact key _ iK (dP.2 hi)
def AR {listed:Array Bool} {ops:Array Oper} (h:listed.size=ops.size) {i:Nat} (hi:i<ops.size):listed.getD i true=KF listed i:=by
 unfold KF;simp[cO,h,hi]
def TL {listed:Array Bool} {ops:Array Oper} (h:listed.size=ops.size) {i:Nat} (hi:i<ops.size) (j:Nat):KF (listed.setIfInBounds i true) j=if i=j then true else KF listed j:=by
 unfold KF;simp only[cO,bI];by_cases e:i=j
 ·subst e;simp[h,hi]
 ·simp[e]
section
variable {P:Program} {F:Fence} (hF:Wd F) {m n:Nat} {ops:Array Oper} {pre:Array Nat}
variable {T:List Nat} {b:Nat->Option Value} (hT:∀o∈ops.toList,∀d,o.dst=some d->d∉T)
variable (hn:yD n ops.toList=true) (hdist:∀i j d,i<ops.size->j<ops.size->oW ops i=some d->oW ops j=some d->i=j)
variable (rk:Nat->Nat) (hrk:∀i o,ops[i]?=some o->∀e∈o.after,Region.binds .any e=true->rk e.on<rk i/\e.on<ops.size)
variable (hclos:∀i o,ops[i]?=some o->∀j,j<ops.size->rel pre i j=true->∃e∈o.after,Region.binds .any e=true/\(e.on=j\/rel pre e.on j=true))
def CL {listed:Array Bool} (h:listed.size=ops.size) {i:Nat}:i∈Region.ready .any ops listed↔i<ops.size/\KF listed i=false/\∃o,ops[i]?=some o/\∀e∈o.after,Region.binds .any e=true->KF listed e.on=true:=by
 unfold Region.ready;simp only[gX,dP,bO,dI];constructor
 ·rintro⟨hi,h1,h2⟩;refine⟨hi,by rw[<-AR h hi]; exact h1,ops[i],bZ hi,?_⟩;rw[bZ hi] at h2;simp only[cB,fE,gH,gC,dI] at h2;intro e he u;rcases h2 e he with q | q
  ·rw[u] at q;cases q
  ·exact q
 ·rintro⟨hi,h1,o,ho,h2⟩;refine⟨hi,by rw[AR h hi]; exact h1,?_⟩;rw[ho];simp only[cB,fE,gH,gC,dI];intro e he;cases u:Region.binds .any e with
  | false=>exact .inl rfl
  | true=>exact .inr (h2 e he u)
include hrk in
theorem OU {listed:Array Bool} (q:listed.size=ops.size) (h:Region.ready .any ops listed=[]):∀i,i<ops.size->KF listed i=true:=by
 have key:∀r i,rk i=r->i<ops.size->KF listed i=true:=by
  intro r;induction r using Nat.strongRecOn with
  | _ r u=>
   intro i G hi;cases B:KF listed i with
   | true=>rfl
   | false=>
    have:i∈Region.ready .any ops listed:=(CL q).2 ⟨hi,B,ops[i],bZ hi,λe he E=>by
     obtain⟨h1,h2⟩:=hrk i ops[i] (bZ hi) e he E;exact u (rk e.on) (by omega) e.on rfl h2⟩
    rw[h] at this;cases this
 exact λi hi=>key _ i rfl hi
include hF hT hn hdist hrk hclos in
theorem HA {Q:Exit->Act->World->Prop} {w0:World} {k:Env->Hp->Prop} (hQ:∀env a w,Cg n env a->rM w0 w->(∀t∈T,lk env t=b t)->k env w.heap->Q .normal a w) :
  ∀(Z:Nat) (listed:Array Bool) (a:Act) (w:World) (pl:List Nat) (rest:OT) (pend:List Pd) (env:Env),listed.size=ops.size->XJ ops listed=Z->ux P ops pre rest (tz rest) pl=true->
   St P F m n ops pre pl env (KF listed) a w.heap pend T b->KE P n ops pre rest pend env w.heap k->rM w0 w->wpAnyIn F m P .any ops Q Z listed a w:=by
 have hend:∀(listed:Array Bool) (a:Act) (w:World) (pl:List Nat) (rest:OT) (pend:List Pd) (env:Env),listed.size=ops.size->ux P ops pre rest (tz rest) pl=true->
   St P F m n ops pre pl env (KF listed) a w.heap pend T b->KE P n ops pre rest pend env w.heap k->rM w0 w->Region.ready .any ops listed=[]->Q .normal a w:=by
  intro listed a w pl rest pend env M H hs ha hR iN;have hall:=OU rk hrk M iN;rcases ha with ⟨rfl,hk⟩| ha
  ·refine hQ env a w ⟨hs.sz,λt v ht hv=>hs.fr t v ht hv λj G _=>hall j (hs.lt j G),hs.df⟩ hR hs.tr hk
  ·obtain⟨e,r,H,_⟩:=zY H ha;obtain⟨⟨o',ho'⟩,_⟩:=BU H;exact absurd (hs.sub e (CN ho'.at_) (hall e (CN ho'.at_))) ho'.Gy
 intro Z;induction Z with
 | zero=>
  intro listed a w pl rest pend env M hu H hs ha hR;have iN:Region.ready .any ops listed=[]:=by
   cases hr:Region.ready .any ops listed with
   | nil=>rfl
   | cons i l=>
    have hi:i∈Region.ready .any ops listed:=by rw[hr];exact aM ..
    obtain⟨h1,h2,_⟩:=(CL M).1 hi;have:=Oz M h1 (by rw[AR M h1]; exact h2);omega
  exact⟨iN,hend listed a w pl rest pend env M H hs ha hR iN⟩
 | succ Z ih=>
  intro listed a w pl rest pend env M hu H hs ha hR;refine⟨hend listed a w pl rest pend env M H hs ha hR,λi hi=>?_⟩;obtain⟨J,hil,o,ho,iS⟩:=(CL M).1 hi;have R:∀j,j<ops.size->rel pre i j=true->KF listed j=true:=by
   intro j G hr;obtain⟨e,he,hb,hc⟩:=hclos i o ho j G hr;rcases hc with rfl | hc
   ·exact iS e he hb
   ·exact hs.ZS e.on (iS e he hb) j G hc
  have hu':XJ ops (listed.setIfInBounds i true)=Z:=by
   have:=Oz M J (by rw[AR M J]; exact hil);omega
  have tO:(listed.setIfInBounds i true).size=ops.size:=by simp[M]
  have V:=λj=>TL M J j;have bY:=Bi ho;by_cases hip:i∈pl
  ·
   obtain⟨o',env',pl',v,hp⟩:=hs.pd i hip hil;have:o'=o:=by have:=hp.at_;rw[ho] at this;exact(cU this).symm
   subst this;have aT:∀d,o'.dst=some d->d<n:=λd X=>pH hn o' (by rw[cH]; exact cS ho) d X;refine hp.run a w Q _ rfl ⟨hs.sz,λt u ht K hu=>hp.fr t u ht K hu λj G B=>R j (hs.lt j (hp.sub j G)) (hp.h1 j G (H4 B ht))⟩ ?_;refine ih _ _ w pl rest pend env tO hu' H ⟨hs.tr,?_,?_,?_,?_,?_,hs.lt,?_⟩ ha hR
   ·cases X:o'.dst <;> simp[Act.put,hs.sz]
   ·intro u hu;obtain⟨ds,h1,h2⟩:=hs.df u hu;exact⟨ds,h1,by cases X:o'.dst <;> simpa[Act.put] using h2⟩
   ·intro t u K hu G;by_cases e:o'.dst=some t
    ·have:=hp.val t e;rw[this] at hu;simp only[aD] at hu;subst hu;rw[e,tY (by rw[hs.sz]; exact K),if_pos rfl]
    ·have O:(a.put o'.dst v).tmps.getD t undef=a.tmps.getD t undef:=by
      cases X:o'.dst with
      | none=>rfl
      | some d=>rw[tY (by rw[hs.sz]; exact aT d X),if_neg (λh=>e (by rw[X,h]))]
     rw[O];refine hs.fr t u K hu λj dO B=>?_;have:=G j dO B;rw[V] at this;split at this
     ·rename_i eQ;subst eQ;exact absurd (bY▸B) e
     ·exact this
   ·intro j G iF;rw[V] at iF;split at iF
    ·rename_i e;subst e;exact hip
    ·exact hs.sub j G iF
   ·intro x hx j G hr;rw[V] at hx⊢;split
    ·rfl
    ·split at hx
     ·rename_i e;subst e;exact R j G hr
     ·exact hs.ZS x hx j G hr
   ·intro x hx U;rw[V] at U;split at U
    ·cases U
    ·rename_i hix;obtain⟨ox,oF,uS,vx,q⟩:=hs.pd x hx U;refine⟨ox,oF,uS,vx,q.at_,q.sub,q.run,q.lQ,q.val,?_,q.h1,q.h2,q.ZL⟩;intro t u ht K hu G;by_cases e:o'.dst=some t
     ·have hdt:oW ops i=some t:=by rw[bY];exact e
      by_cases hin:i∈uS
      ·have h1:=q.ZL i hin t u hu hdt;have h2:=hp.val t e;rw[h2] at h1;simp only[aD] at h1;subst h1;rw[e,tY (by rw[hs.sz]; exact K),if_pos rfl]
      ·have:=R x (hs.lt x hx) (q.h2 i J hix hin (H4 hdt ht));rw[U] at this;cases this
     ·have O:(a.put o'.dst v).tmps.getD t undef=a.tmps.getD t undef:=by
       cases X:o'.dst with
       | none=>rfl
       | some d=>rw[tY (by rw[hs.sz]; exact aT d X),if_neg (λh=>e (by rw[X,h]))]
      rw[O];refine q.fr t u ht K hu λj dO B=>?_;have:=G j dO B;rw[V] at this;split at this
      ·rename_i eQ;subst eQ;exact absurd (bY▸B) e
      ·exact this
  ·
   rcases ha with ⟨rfl,_⟩| ha
   ·unfold ux at H;simp only[cG,dP,gS,decide_eq_true_eq] at H;exact absurd (H i J) hip
   ·by_cases hih:i∈tz rest
    ·obtain⟨r,H,ha⟩:=wV H ha i hih;obtain⟨oe,kb,rW,hdc,hK,hw,hE⟩:=ha;obtain⟨⟨E,aS⟩,hok'⟩:=BU H;have:E=oe:=by have:=aS.at_;rw[rW] at this;exact(cU this).symm
     subst this;have:E=o:=by have:=rW;rw[ho] at this;exact(cU this).symm
     subst this;have aT:∀d,E.dst=some d->d<n:=λd X=>pH hn E (by rw[cH]; exact cS ho) d X;have oR:tg n env (E.looksAt ops) a:=⟨hs.sz,λt u ht K hu=>hs.fr t u K hu λj G B=>R j (hs.lt j G) (aS.Za j G (H4 B ht))⟩;have hcong:=Ke (Z0 hdc) oR;unfold wpOpIn;simp only[ho];rw[hw a oR,if_pos rfl];refine ND hF (ρ:=YK n env a) GA hcong hE _ Q λv w' hs' hk=>?_;obtain⟨hrest,hst⟩:=Ar hk;have hoth:∀j∈pl,∀t,oW ops j=some t->E.dst≠some t:=by
      intro j G t B e;rw[<-bY] at e;have:=hdist j i t (hs.lt j G) J B e;subst this;exact aS.Gy G
     have hlk:∀t,E.dst≠some t->lk (put env E.dst v) t=lk env t:=by
      intro t ht;cases X:E.dst with
      | none=>rfl
      | some d=>simp only[put];rw[mE,if_neg (λe=>ht (by rw[X,e]))]
     have hnn:E.dst≠some n:=λe=>Nat.lt_irrefl n (aT n e);have O:∀t,E.dst≠some t->(a.put E.dst v).tmps.getD t undef=a.tmps.getD t undef:=by
      intro t e;cases X:E.dst with
      | none=>rfl
      | some d=>rw[tY (by rw[hs.sz]; exact aT d X),if_neg (λh=>e (by rw[X,h]))]
     have hs2:St P F m n ops pre (i::pl) (put env E.dst v) (KF (listed.setIfInBounds i true)) (a.put E.dst v) w'.heap (EP (pre.getD i 0) pend) T b:=by
      refine⟨λt ht=>by rw[hlk t (λe=>hT E (by rw[cH]; exact cS ho) t e ht)]; exact hs.tr t ht,?_,?_,?_,?_,?_,?_,?_⟩
      ·cases X:E.dst <;> simp[Act.put,hs.sz]
      ·intro u hu;rw[hlk n hnn] at hu;obtain⟨ds,h1,h2⟩:=hs.df u hu;exact⟨ds,h1,by cases X:E.dst <;> simpa[Act.put] using h2⟩
      ·intro t u K hu G;by_cases e:E.dst=some t
       ·rw[e] at hu⊢;simp only[put] at hu;rw[mE,if_pos rfl] at hu;simp only[aD] at hu;subst hu;rw[tY (by rw[hs.sz]; exact K),if_pos rfl]
       ·rw[hlk t e] at hu;rw[O t e];refine hs.fr t u K hu λj dO B=>?_;have:=G j (aL _ dO) B;rw[V] at this;split at this
        ·rename_i eQ;subst eQ;exact absurd (bY▸B) e
        ·exact this
      ·intro j G iF;rw[V] at iF;split at iF
       ·rename_i e;subst e;exact aM ..
       ·exact aL _ (hs.sub j G iF)
      ·intro x hx j G hr;rw[V] at hx⊢;split
       ·rfl
       ·split at hx
        ·rename_i e;subst e;exact R j G hr
        ·exact hs.ZS x hx j G hr
      ·intro j G;rcases aU.1 G with rfl | G
       ·exact J
       ·exact hs.lt j G
      ·intro x hx U;rw[V] at U;split at U
       ·cases U
       ·rename_i hix;rcases aU.1 hx with h1 | hx
        ·exact absurd h1.symm hix
        ·obtain⟨ox,oF,uS,vx,q⟩:=hs.pd x hx U;have hnrel:rel pre i x=false:=by
          cases hr:rel pre i x with
          | false=>rfl
          | true=>have:=R x (hs.lt x hx) hr;rw[U] at this;cases this
         have hrun:sR P F m n ops x ox oF vx w'.heap:=by
          rcases q.lQ with hk' | ⟨p,hpm,hpi,hpv⟩
          ·exact hk' _
          ·exact hpv _ (hst p hpm (by rw[hpi]; exact hnrel))
         refine⟨ox,oF,uS,vx,q.at_,λj G=>aL _ (q.sub j G),hrun,?_,?_,?_,q.h1,q.h2,?_⟩
         ·rcases q.lQ with hk' | ⟨p,hpm,hpi,hpv⟩
          ·exact .inl hk'
          ·exact .inr ⟨p,Cy hpm (by rw[hpi]; exact hnrel),hpi,hpv⟩
         ·intro d X;rw[hlk d (hoth x hx d (by rw[Bi q.at_]; exact X))];exact q.val d X
         ·intro t u ht K hu G;by_cases e:E.dst=some t
          ·have hdt:oW ops i=some t:=by rw[bY];exact e
           have hnin:i∉uS:=λh=>aS.Gy (q.sub i h);have:=R x (hs.lt x hx) (q.h2 i J hix hnin (H4 hdt ht));rw[U] at this;cases this
          ·rw[O t e];refine q.fr t u ht K hu λj dO B=>?_;have:=G j dO B;rw[V] at this;split at this
           ·rename_i eQ;subst eQ;exact absurd (bY▸B) e
           ·exact this
         ·intro j G t u hu B;rw[hlk t (hoth j (q.sub j G) t B)];exact q.ZL j G t u hu B
     rcases advance hF hT hn hdist r (tz r) (i::pl) _ _ _ hok' (hK.put _ _) hs2 hrest with ⟨hok2,hst2,hah2⟩| ⟨pl2,rest2,pend2,env2,hok2,hst2,hah2⟩
     ·exact ih _ _ w' _ _ _ _ tO hu' hok2 hst2 hah2 (hR.trans hs')
     ·exact ih _ _ w' pl2 rest2 pend2 env2 tO hu' hok2 hst2 hah2 (hR.trans hs')
    ·
     obtain⟨e0,r0,hok0,ha0⟩:=zY H ha;obtain⟨⟨o0,ho0⟩,_⟩:=BU hok0;obtain⟨o1,_,ho1,hdc1,_⟩:=ha0;have:o0=o1:=by have:=ho0.at_;rw[ho1] at this;exact(cU this).symm
     subst this;obtain⟨e,heh,hrel⟩:=ho0.wait hdc1 i J hip hih;obtain⟨r,aS,hae⟩:=wV H ha e heh;obtain⟨⟨oe,rW⟩,_⟩:=BU aS;have:=R e (CN rW.at_) hrel;exact absurd (hs.sub e (CN rW.at_) this) rW.Gy
end
def Lq {P:Program} {F:Fence} (hF:Wd F) {m n:Nat} {ops:Array Oper} {pre:Array Nat} {ord:OT} (hm:P.follows .mixedOrders=true) (G:We P n ops pre ord=true) {Q:Exit->Act->World->Prop} {w0:World} {k:Env->Hp->Prop} {T:List Nat} {b:Nat->Option Value} (hT:∀o∈ops.toList,∀d,o.dst=some d->d∉T)
  (hQ:∀env a w,Cg n env a->rM w0 w->(∀t∈T,lk env t=b t)->k env w.heap->Q .normal a w) {env:Env} {a:Act} {w:World} {id:Nat} (M:∀t∈T,lk env t=b t) (X:Cg n env a) (K:rM w0 w) (h:DB P n ops pre ord [] env [] w.heap k) :
  (Code.region id ops true).wpIn F m P Q a w:=by
 unfold We at G;simp only[bO,cG,dP,gC,dI] at G;obtain⟨⟨⟨hn,O⟩,Z⟩,aS⟩:=G;have hdist:∀i j d,i<ops.size->j<ops.size->oW ops i=some d->oW ops j=some d->i=j:=by
  intro i j d hi E h1 h2;rcases O i hi j E with h3 | h3
  ·exact bJ h3
  ·simp[Nv,h1,h2] at h3
 have R:∀i o,ops[i]?=some o->(∀e∈o.after,Region.binds .any e=true->(pathOf ord).idxOf e.on<(pathOf ord).idxOf i/\e.on<ops.size)/\∀j,j<ops.size->rel pre i j=true->∃e∈o.after,Region.binds .any e=true/\(e.on=j\/rel pre e.on j=true):=by
  intro i o ho;have:=Z i (CN ho);simp only[ho,bO,cG,cH,dP,gC,dI,gP,fG] at this;refine⟨λe he M=>?_,λj E hr=>?_⟩
  ·rcases this.1 e he with h2 | h2
   ·rw[M] at h2;cases h2
   ·exact h2
  ·rcases this.2 j E with h2 | h2
   ·rw[hr] at h2;cases h2
   ·obtain⟨e,he,M,hc⟩:=h2;exact⟨e,he,M,hc.imp bJ (λh=>h)⟩
 have hrk:∀i o,ops[i]?=some o->∀e∈o.after,Region.binds .any e=true->(pathOf ord).idxOf e.on<(pathOf ord).idxOf i/\e.on<ops.size:=λi o ho=>(R i o ho).1;have hclos:∀i o,ops[i]?=some o->∀j,j<ops.size->rel pre i j=true->∃e∈o.after,Region.binds .any e=true/\(e.on=j\/rel pre e.on j=true):=λi o ho=>(R i o ho).2;refine wpIn_region_any hm ?_;have U:∀j,KF (Array.replicate ops.size false) j=false:=by
  intro j;unfold KF;simp only[cO,Array.getElem?_replicate];split <;> rfl
 have hu:XJ ops (Array.replicate ops.size false)=ops.size:=by
  unfold XJ;rw[List.filter_eq_self.2]
  ·simp
  ·intro j E;have:j<ops.size:=dP.1 E;simp[cO,this]
 have aT:St P F m n ops pre [] env (KF (Array.replicate ops.size false)) a w.heap [] T b:=
  ⟨M,X.sz,X.df,λt v ht hv _=>X.sl t v ht hv,λj _ hD=>(by rw[U] at hD; cases hD),λi hD=>(by rw[U] at hD; cases hD),λj E=>(by cases E),λj E=>(by cases E)⟩
 rcases advance hF hT hn hdist ord (tz ord) [] [] env [] aS (wm.nil n env) aT h with ⟨q,u,B⟩| ⟨bY,H,J,V,q,u,B⟩
 ·exact HA hF hT hn hdist ((pathOf ord).idxOf ·) hrk hclos hQ ops.size (Array.replicate ops.size false) a {w with drawn:=w.drawn+1} _ _ _ _ (by simp) hu q u B ⟨K.os,K.tape,K.output⟩
 ·exact HA hF hT hn hdist ((pathOf ord).idxOf ·) hrk hclos hQ ops.size (Array.replicate ops.size false) a {w with drawn:=w.drawn+1} bY H J V (by simp) hu q u B ⟨K.os,K.tape,K.output⟩
noncomputable def Nat.Bm {p:Nat->Prop} (h:∃n,p n):Nat:=by
 classical
 exact(Classical.epsilon λn=>p n/\∀k,p k->n<=k)
def Nat.EC {p:Nat->Prop} (h:∃n,p n):p (Nat.Bm h)/\∀k,p k->Nat.Bm h<=k:=by
 have key:∀n,p n->∃m,p m/\∀k,p k->m<=k:=by
  intro n;induction n using Nat.strongRecOn with
  | _ n F=>
   intro q;by_cases E:∃k,k<n/\p k
   ·obtain⟨k,u,G⟩:=E;exact F k u G
   ·exact⟨n,q,λk u=>Nat.le_of_not_lt λB=>E ⟨k,B,u⟩⟩
 obtain⟨n,q⟩:=h;exact Classical.epsilon_spec (p:=λn=>p n/\∀k,p k->n<=k) (key n q)
def Nat.tB {p:Nat->Prop} (h:∃n,p n):p (Nat.Bm h):=(Nat.EC h).1
def Nat.vM {p:Nat->Prop} (h:∃n,p n) {k:Nat} (q:p k):Nat.Bm h<=k:=(Nat.EC h).2 k q
def HJ (K:Hp->Prop) (body:(Hp->Prop)->Prop):Prop:=∃J:Hp->Prop,body J/\∀h,J h->K h
def KW (h:Hp) (body:Hp->(Hp->Prop)->Prop):Prop:=
 ∃(I:Hp->Prop) (m:Hp->Nat),I h/\∀h,I h->body h λh'=>I h'/\m h'<m h
def HJ.here {K:Hp->Prop} {body:(Hp->Prop)->Prop} (h:body K):HJ K body:=⟨K,h,λ_ h=>h⟩
def HJ.at {K:Hp->Prop} {body:(Hp->Prop)->Prop} (J:Hp->Prop) (h:body J) (h':∀h,J h->K h):HJ K body:=⟨J,h,h'⟩
def KW.by {α:Type} {h:Hp} {body:Hp->(Hp->Prop)->Prop} (I:α->Hp->Prop) (m:α->Nat) (x:α) (F:I x h)
  (G:∀x h,I x h->∀again:Hp->Prop,(∀u h,I u h->m u<m x->again h)->body h again):KW h body:=by
 classical
 refine⟨λh=>∃x,I x h,λh=>if e:∃n x,I x h/\m x=n then Nat.Bm e else 0,⟨x,F⟩,λh H=>?_⟩;have e:∃n x,I x h/\m x=n:=let⟨x,B⟩:=H;⟨_,x,B,rfl⟩;obtain⟨x,B,hm⟩:=Nat.tB e;refine G x h B _ λu h q E=>⟨⟨u,q⟩,?_⟩;have e':∃n x,I x h/\m x=n:=⟨_,u,q,rfl⟩;dsimp only;rw[dif_pos e',dif_pos e];exact fK (Nat.vM e' ⟨u,q,rfl⟩) (by rw[<-hm]; exact E)
def sV (K:Value->Hp->Prop) (body:(Value->Hp->Prop)->Prop):Prop:=∃J:Value->Hp->Prop,body J/\∀q h,J q h->K q h
def sO (q:Value) (h:Hp) (body:Value->Hp->(Value->Hp->Prop)->Prop):Prop:=
 ∃(I:Value->Hp->Prop) (m:Value->Hp->Nat),I q h/\∀q h,I q h->body q h λu h'=>I u h'/\m u h'<m q h
def sV.here {K:Value->Hp->Prop} {body:(Value->Hp->Prop)->Prop} (h:body K):sV K body:=⟨K,h,λq _ h=>h⟩
def sV.at {K:Value->Hp->Prop} {body:(Value->Hp->Prop)->Prop} (J:Value->Hp->Prop) (h:body J) (h':∀q h,J q h->K q h):sV K body:=⟨J,h,h'⟩
def sO.by {α:Type} {q:Value} {h:Hp} {body:Value->Hp->(Value->Hp->Prop)->Prop} (I:α->Value->Hp->Prop) (m:α->Nat) (x:α) (G:I x q h)
  (H:∀x q h,I x q h->∀again:Value->Hp->Prop,(∀B q h,I B q h->m B<m x->again q h)->body q h again):sO q h body:=by
 classical
 refine⟨λq h=>∃x,I x q h,λq h=>if e:∃n x,I x q h/\m x=n then Nat.Bm e else 0,⟨x,G⟩,λq h J=>?_⟩;have e:∃n x,I x q h/\m x=n:=let⟨x,E⟩:=J;⟨_,x,E,rfl⟩;obtain⟨x,E,hm⟩:=Nat.tB e;refine H x q h E _ λB q h u F=>⟨⟨B,u⟩,?_⟩;have e':∃n x,I x q h/\m x=n:=⟨_,B,u,rfl⟩;dsimp only;rw[dif_pos e',dif_pos e];exact fK (Nat.vM e' ⟨B,u,rfl⟩) (by rw[<-hm]; exact F)
def JU (K:Value->Value->Hp->Prop) (body:(Value->Value->Hp->Prop)->Prop):Prop:=∃J:Value->Value->Hp->Prop,body J/\∀q u h,J q u h->K q u h
def z5 (q u:Value) (h:Hp) (body:Value->Value->Hp->(Value->Value->Hp->Prop)->Prop):Prop:=
 ∃(I:Value->Value->Hp->Prop) (m:Value->Value->Hp->Nat),I q u h/\∀q u h,I q u h->body q u h λB E h'=>I B E h'/\m B E h'<m q u h
def JU.here {K:Value->Value->Hp->Prop} {body:(Value->Value->Hp->Prop)->Prop} (h:body K):JU K body:=⟨K,h,λq u _ h=>h⟩
def JU.at {K:Value->Value->Hp->Prop} {body:(Value->Value->Hp->Prop)->Prop} (J:Value->Value->Hp->Prop) (h:body J) (h':∀q u h,J q u h->K q u h):JU K body:=⟨J,h,h'⟩
def z5.by {α:Type} {q u:Value} {h:Hp} {body:Value->Value->Hp->(Value->Value->Hp->Prop)->Prop} (I:α->Value->Value->Hp->Prop) (m:α->Nat) (x:α) (H:I x q u h)
  (J:∀x q u h,I x q u h->∀again:Value->Value->Hp->Prop,(∀E q u h,I E q u h->m E<m x->again q u h)->body q u h again):z5 q u h body:=by
 classical
 refine⟨λq u h=>∃x,I x q u h,λq u h=>if e:∃n x,I x q u h/\m x=n then Nat.Bm e else 0,⟨x,H⟩,λq u h K=>?_⟩;have e:∃n x,I x q u h/\m x=n:=let⟨x,F⟩:=K;⟨_,x,F,rfl⟩;obtain⟨x,F,hm⟩:=Nat.tB e;refine J x q u h F _ λE q u h B G=>⟨⟨E,B⟩,?_⟩;have e':∃n x,I x q u h/\m x=n:=⟨_,E,B,rfl⟩;dsimp only;rw[dif_pos e',dif_pos e];exact fK (Nat.vM e' ⟨E,B,rfl⟩) (by rw[<-hm]; exact G)
def Jn3 (K:Value->Value->Value->Hp->Prop) (body:(Value->Value->Value->Hp->Prop)->Prop):Prop:=∃J:Value->Value->Value->Hp->Prop,body J/\∀q u B h,J q u B h->K q u B h
def Ri (q u B:Value) (h:Hp) (body:Value->Value->Value->Hp->(Value->Value->Value->Hp->Prop)->Prop):Prop:=
 ∃(I:Value->Value->Value->Hp->Prop) (m:Value->Value->Value->Hp->Nat),I q u B h/\∀q u B h,I q u B h->body q u B h λE F G h'=>I E F G h'/\m E F G h'<m q u B h
def Ri.by {α:Type} {q u B:Value} {h:Hp} {body:Value->Value->Value->Hp->(Value->Value->Value->Hp->Prop)->Prop} (I:α->Value->Value->Value->Hp->Prop) (m:α->Nat) (x:α) (J:I x q u B h)
  (K:∀x q u B h,I x q u B h->∀again:Value->Value->Value->Hp->Prop,(∀F q u B h,I F q u B h->m F<m x->again q u B h)->body q u B h again):Ri q u B h body:=by
 classical
 refine⟨λq u B h=>∃x,I x q u B h,λq u B h=>if e:∃n x,I x q u B h/\m x=n then Nat.Bm e else 0,⟨x,J⟩,λq u B h M=>?_⟩;have e:∃n x,I x q u B h/\m x=n:=let⟨x,G⟩:=M;⟨_,x,G,rfl⟩;obtain⟨x,G,hm⟩:=Nat.tB e;refine K x q u B h G _ λF q u B h E H=>⟨⟨F,E⟩,?_⟩;have e':∃n x,I x q u B h/\m x=n:=⟨_,F,E,rfl⟩;dsimp only;rw[dif_pos e',dif_pos e];exact fK (Nat.vM e' ⟨F,E,rfl⟩) (by rw[<-hm]; exact H)
def Jn4 (K:Value->Value->Value->Value->Hp->Prop) (body:(Value->Value->Value->Value->Hp->Prop)->Prop):Prop:=∃J:Value->Value->Value->Value->Hp->Prop,body J/\∀q u B E h,J q u B E h->K q u B E h
def Lp4 (q u B E:Value) (h:Hp) (body:Value->Value->Value->Value->Hp->(Value->Value->Value->Value->Hp->Prop)->Prop):Prop:=
 ∃(I:Value->Value->Value->Value->Hp->Prop) (m:Value->Value->Value->Value->Hp->Nat),I q u B E h/\∀q u B E h,I q u B E h->body q u B E h λF G H J h'=>I F G H J h'/\m F G H J h'<m q u B E h
def Jn5 (K:Value->Value->Value->Value->Value->Hp->Prop) (body:(Value->Value->Value->Value->Value->Hp->Prop)->Prop):Prop:=∃J:Value->Value->Value->Value->Value->Hp->Prop,body J/\∀q u B E F h,J q u B E F h->K q u B E F h
def Lp5 (q u B E F:Value) (h:Hp) (body:Value->Value->Value->Value->Value->Hp->(Value->Value->Value->Value->Value->Hp->Prop)->Prop):Prop:=
 ∃(I:Value->Value->Value->Value->Value->Hp->Prop) (m:Value->Value->Value->Value->Value->Hp->Nat),I q u B E F h/\∀q u B E F h,I q u B E F h->body q u B E F h λG H J K M h'=>I G H J K M h'/\m G H J K M h'<m q u B E F h
def Jn6 (K:Value->Value->Value->Value->Value->Value->Hp->Prop) (body:(Value->Value->Value->Value->Value->Value->Hp->Prop)->Prop):Prop:=∃J:Value->Value->Value->Value->Value->Value->Hp->Prop,body J/\∀q u B E F G h,J q u B E F G h->K q u B E F G h
def Lp6 (q u B E F G:Value) (h:Hp) (body:Value->Value->Value->Value->Value->Value->Hp->(Value->Value->Value->Value->Value->Value->Hp->Prop)->Prop):Prop:=
 ∃(I:Value->Value->Value->Value->Value->Value->Hp->Prop) (m:Value->Value->Value->Value->Value->Value->Hp->Nat),I q u B E F G h/\∀q u B E F G h,I q u B E F G h->body q u B E F G h λH J K M O Q h'=>I H J K M O Q h'/\m H J K M O Q h'<m q u B E F G h
def Jn7 (K:Value->Value->Value->Value->Value->Value->Value->Hp->Prop) (body:(Value->Value->Value->Value->Value->Value->Value->Hp->Prop)->Prop):Prop:=∃J:Value->Value->Value->Value->Value->Value->Value->Hp->Prop,body J/\∀q u B E F G H h,J q u B E F G H h->K q u B E F G H h
def Lp7 (q u B E F G H:Value) (h:Hp) (body:Value->Value->Value->Value->Value->Value->Value->Hp->(Value->Value->Value->Value->Value->Value->Value->Hp->Prop)->Prop):Prop:=
 ∃(I:Value->Value->Value->Value->Value->Value->Value->Hp->Prop) (m:Value->Value->Value->Value->Value->Value->Value->Hp->Nat),I q u B E F G H h/\∀q u B E F G H h,I q u B E F G H h->body q u B E F G H h λJ K M O Q R T h'=>I J K M O Q R T h'/\m J K M O Q R T h'<m q u B E F G H h
def Jn8 (K:Value->Value->Value->Value->Value->Value->Value->Value->Hp->Prop) (body:(Value->Value->Value->Value->Value->Value->Value->Value->Hp->Prop)->Prop):Prop:=∃J:Value->Value->Value->Value->Value->Value->Value->Value->Hp->Prop,body J/\∀q u B E F G H M h,J q u B E F G H M h->K q u B E F G H M h
def Lp8 (q u B E F G H J:Value) (h:Hp) (body:Value->Value->Value->Value->Value->Value->Value->Value->Hp->(Value->Value->Value->Value->Value->Value->Value->Value->Hp->Prop)->Prop):Prop:=
 ∃(I:Value->Value->Value->Value->Value->Value->Value->Value->Hp->Prop) (m:Value->Value->Value->Value->Value->Value->Value->Value->Hp->Nat),I q u B E F G H J h/\∀q u B E F G H J h,I q u B E F G H J h->body q u B E F G H J h λK M O Q R T U V h'=>I K M O Q R T U V h'/\m K M O Q R T U V h'<m q u B E F G H J h
def Jn9 (K:Value->Value->Value->Value->Value->Value->Value->Value->Value->Hp->Prop) (body:(Value->Value->Value->Value->Value->Value->Value->Value->Value->Hp->Prop)->Prop):Prop:=∃J:Value->Value->Value->Value->Value->Value->Value->Value->Value->Hp->Prop,body J/\∀q u B E F G H M O h,J q u B E F G H M O h->K q u B E F G H M O h
def Lp9 (q u B E F G H J K:Value) (h:Hp) (body:Value->Value->Value->Value->Value->Value->Value->Value->Value->Hp->(Value->Value->Value->Value->Value->Value->Value->Value->Value->Hp->Prop)->Prop):Prop:=
 ∃(I:Value->Value->Value->Value->Value->Value->Value->Value->Value->Hp->Prop) (m:Value->Value->Value->Value->Value->Value->Value->Value->Value->Hp->Nat),I q u B E F G H J K h/\∀q u B E F G H J K h,I q u B E F G H J K h->body q u B E F G H J K h λM O Q R T U V X Z h'=>I M O Q R T U V X Z h'/\m M O Q R T U V X Z h'<m q u B E F G H J K h
def Z3 (K:Value->Value->Value->Value->Value->Value->Value->Value->Value->Value->Hp->Prop) (body:(Value->Value->Value->Value->Value->Value->Value->Value->Value->Value->Hp->Prop)->Prop):Prop:=∃J:Value->Value->Value->Value->Value->Value->Value->Value->Value->Value->Hp->Prop,body J/\∀q u B E F G H M O Q h,J q u B E F G H M O Q h->K q u B E F G H M O Q h
def aaB (q u B E F G H J K M:Value) (h:Hp) (body:Value->Value->Value->Value->Value->Value->Value->Value->Value->Value->Hp->(Value->Value->Value->Value->Value->Value->Value->Value->Value->Value->Hp->Prop)->Prop):Prop:=
 ∃(I:Value->Value->Value->Value->Value->Value->Value->Value->Value->Value->Hp->Prop) (m:Value->Value->Value->Value->Value->Value->Value->Value->Value->Value->Hp->Nat),I q u B E F G H J K M h/\∀q u B E F G H J K M h,I q u B E F G H J K M h->body q u B E F G H J K M h λO Q R T U V X Z aS aT h'=>I O Q R T U V X Z aS aT h'/\m O Q R T U V X Z aS aT h'<m q u B E F G H J K M h
def XH (J:Hp->Prop) (vs:List Value) (h:Hp):Prop:=
 match vs with
 | []=>J h
 | _=>False
def Wy (J:Value->Hp->Prop) (vs:List Value) (h:Hp):Prop:=
 match vs with
 | [q]=>J q h
 | _=>False
def Wo (J:Value->Value->Hp->Prop) (vs:List Value) (h:Hp):Prop:=
 match vs with
 | [q,u]=>J q u h
 | _=>False
def XQ (J:Value->Value->Value->Hp->Prop) (vs:List Value) (h:Hp):Prop:=
 match vs with
 | [q,u,B]=>J q u B h
 | _=>False
def Xe (J:Value->Value->Value->Value->Hp->Prop) (vs:List Value) (h:Hp):Prop:=
 match vs with
 | [q,u,B,E]=>J q u B E h
 | _=>False
def X0 (J:Value->Value->Value->Value->Value->Hp->Prop) (vs:List Value) (h:Hp):Prop:=
 match vs with
 | [q,u,B,E,F]=>J q u B E F h
 | _=>False
def WD (J:Value->Value->Value->Value->Value->Value->Hp->Prop) (vs:List Value) (h:Hp):Prop:=
 match vs with
 | [q,u,B,E,F,G]=>J q u B E F G h
 | _=>False
def WH (J:Value->Value->Value->Value->Value->Value->Value->Hp->Prop) (vs:List Value) (h:Hp):Prop:=
 match vs with
 | [q,u,B,E,F,G,H]=>J q u B E F G H h
 | _=>False
def W8 (J:Value->Value->Value->Value->Value->Value->Value->Value->Hp->Prop) (vs:List Value) (h:Hp):Prop:=
 match vs with
 | [q,u,B,E,F,G,H,K]=>J q u B E F G H K h
 | _=>False
def W5 (J:Value->Value->Value->Value->Value->Value->Value->Value->Value->Hp->Prop) (vs:List Value) (h:Hp):Prop:=
 match vs with
 | [q,u,B,E,F,G,H,K,M]=>J q u B E F G H K M h
 | _=>False
def L7 (J:Value->Value->Value->Value->Value->Value->Value->Value->Value->Value->Hp->Prop) (vs:List Value) (h:Hp):Prop:=
 match vs with
 | [q,u,B,E,F,G,H,K,M,O]=>J q u B E F G H K M O h
 | _=>False
def JnC (S:List Nat) (K:List Value->Hp->Prop) (body:(List Value->Hp->Prop)->Prop):Prop:=
 match S with
 | []=>HJ (K []) (λJ=>body (XH J))
 | [_]=>sV (λh=>K [h]) (λJ=>body (Wy J))
 | [_,_]=>JU (λh q=>K [h,q]) (λJ=>body (Wo J))
 | [_,_,_]=>Jn3 (λh q u=>K [h,q,u]) (λJ=>body (XQ J))
 | [_,_,_,_]=>Jn4 (λh q u B=>K [h,q,u,B]) (λJ=>body (Xe J))
 | [_,_,_,_,_]=>Jn5 (λh q u B E=>K [h,q,u,B,E]) (λJ=>body (X0 J))
 | [_,_,_,_,_,_]=>Jn6 (λh q u B E F=>K [h,q,u,B,E,F]) (λJ=>body (WD J))
 | [_,_,_,_,_,_,_]=>Jn7 (λh q u B E F G=>K [h,q,u,B,E,F,G]) (λJ=>body (WH J))
 | [_,_,_,_,_,_,_,_]=>Jn8 (λh q u B E F G H=>K [h,q,u,B,E,F,G,H]) (λJ=>body (W8 J))
 | [_,_,_,_,_,_,_,_,_]=>Jn9 (λh q u B E F G H M=>K [h,q,u,B,E,F,G,H,M]) (λJ=>body (W5 J))
 | [_,_,_,_,_,_,_,_,_,_]=>Z3 (λh q u B E F G H M O=>K [h,q,u,B,E,F,G,H,M,O]) (λJ=>body (L7 J))
 | _=>False
def LpC (S:List Nat) (M:List Value) (h:Hp) (body:List Value->Hp->(List Value->Hp->Prop)->Prop):Prop:=
 match S,M with
 | [],[]=>KW h (λh again=>body [] h (XH again))
 | [_],[i0]=>sO i0 h (λq h again=>body [q] h (Wy again))
 | [_,_],[i0,i1]=>z5 i0 i1 h (λq u h again=>body [q,u] h (Wo again))
 | [_,_,_],[i0,i1,i2]=>Ri i0 i1 i2 h (λq u B h again=>body [q,u,B] h (XQ again))
 | [_,_,_,_],[i0,i1,i2,i3]=>Lp4 i0 i1 i2 i3 h (λq u B E h again=>body [q,u,B,E] h (Xe again))
 | [_,_,_,_,_],[i0,i1,i2,i3,i4]=>Lp5 i0 i1 i2 i3 i4 h (λq u B E F h again=>body [q,u,B,E,F] h (X0 again))
 | [_,_,_,_,_,_],[i0,i1,i2,i3,i4,i5]=>Lp6 i0 i1 i2 i3 i4 i5 h (λq u B E F G h again=>body [q,u,B,E,F,G] h (WD again))
 | [_,_,_,_,_,_,_],[i0,i1,i2,i3,i4,i5,i6]=>Lp7 i0 i1 i2 i3 i4 i5 i6 h (λq u B E F G H h again=>body [q,u,B,E,F,G,H] h (WH again))
 | [_,_,_,_,_,_,_,_],[i0,i1,i2,i3,i4,i5,i6,i7]=>Lp8 i0 i1 i2 i3 i4 i5 i6 i7 h (λq u B E F G H J h again=>body [q,u,B,E,F,G,H,J] h (W8 again))
 | [_,_,_,_,_,_,_,_,_],[i0,i1,i2,i3,i4,i5,i6,i7,i8]=>Lp9 i0 i1 i2 i3 i4 i5 i6 i7 i8 h (λq u B E F G H J K h again=>body [q,u,B,E,F,G,H,J,K] h (W5 again))
 | [_,_,_,_,_,_,_,_,_,_],[i0,i1,i2,i3,i4,i5,i6,i7,i8,i9]=>aaB i0 i1 i2 i3 i4 i5 i6 i7 i8 i9 h (λq u B E F G H J K O h again=>body [q,u,B,E,F,G,H,J,K,O] h (L7 again))
 | _,_=>False
def PJ {S:List Nat} {K:List Value->Hp->Prop} {body:(List Value->Hp->Prop)->Prop} (h:JnC S K body):∃J:List Value->Hp->Prop,body J/\∀vs h,J vs h->K vs h:=by
 unfold JnC at h;split at h
 ·obtain⟨J,u,B⟩:=h;refine⟨_,u,λvs h q=>?_⟩;unfold XH at q;split at q
  ·exact B _ q
  ·exact q.elim
 ·obtain⟨J,u,B⟩:=h;refine⟨_,u,λvs h q=>?_⟩;unfold Wy at q;split at q
  ·exact B _ _ q
  ·exact q.elim
 ·obtain⟨J,u,B⟩:=h;refine⟨_,u,λvs h q=>?_⟩;unfold Wo at q;split at q
  ·exact B _ _ _ q
  ·exact q.elim
 ·obtain⟨J,u,B⟩:=h;refine⟨_,u,λvs h q=>?_⟩;unfold XQ at q;split at q
  ·exact B _ _ _ _ q
  ·exact q.elim
 ·obtain⟨J,u,B⟩:=h;refine⟨_,u,λvs h q=>?_⟩;unfold Xe at q;split at q
  ·exact B _ _ _ _ _ q
  ·exact q.elim
 ·obtain⟨J,u,B⟩:=h;refine⟨_,u,λvs h q=>?_⟩;unfold X0 at q;split at q
  ·exact B _ _ _ _ _ _ q
  ·exact q.elim
 ·obtain⟨J,u,B⟩:=h;refine⟨_,u,λvs h q=>?_⟩;unfold WD at q;split at q
  ·exact B _ _ _ _ _ _ _ q
  ·exact q.elim
 ·obtain⟨J,u,B⟩:=h;refine⟨_,u,λvs h q=>?_⟩;unfold WH at q;split at q
  ·exact B _ _ _ _ _ _ _ _ q
  ·exact q.elim
 ·obtain⟨J,u,B⟩:=h;refine⟨_,u,λvs h q=>?_⟩;unfold W8 at q;split at q
  ·exact B _ _ _ _ _ _ _ _ _ q
  ·exact q.elim
 ·obtain⟨J,u,B⟩:=h;refine⟨_,u,λvs h q=>?_⟩;unfold W5 at q;split at q
  ·exact B _ _ _ _ _ _ _ _ _ _ q
  ·exact q.elim
 ·obtain⟨J,u,B⟩:=h;refine⟨_,u,λvs h q=>?_⟩;unfold L7 at q;split at q
  ·exact B _ _ _ _ _ _ _ _ _ _ _ q
  ·exact q.elim
 ·exact h.elim
def PX {S:List Nat} {iv:List Value} {h:Hp} {body:List Value->Hp->(List Value->Hp->Prop)->Prop} (H:LpC S iv h body) :
  ∃(I:List Value->Hp->Prop) (m:List Value->Hp->Nat) (C:List Value->Hp->List Value->Hp->Prop),I iv h/\(∀vs h,I vs h->body vs h (C vs h))/\∀vs h Q h',C vs h Q h'->I Q h'/\m Q h'<m vs h:=by
 unfold LpC at H;split at H
 ·obtain⟨I,m,X,Z⟩:=H;refine⟨XH I,λvs h=>match vs with
   | []=>m h
   | _=>0,λvs h=>match vs with
   | []=>XH (λh'=>I h'/\m h'<m h)
   | _=>λ_ _=>False,X,λvs h B=>?_,λvs h Q h' q=>?_⟩
  ·unfold XH at B;split at B
   ·exact Z _ B
   ·exact B.elim
  ·dsimp only at q;split at q
   ·unfold XH at q;split at q
    ·exact q
    ·exact q.elim
   ·exact q.elim
 ·obtain⟨I,m,X,Z⟩:=H;refine⟨Wy I,λvs h=>match vs with
   | [J]=>m J h
   | _=>0,λvs h=>match vs with
   | [J]=>Wy (λu h'=>I u h'/\m u h'<m J h)
   | _=>λ_ _=>False,X,λvs h B=>?_,λvs h Q h' q=>?_⟩
  ·unfold Wy at B;split at B
   ·exact Z _ _ B
   ·exact B.elim
  ·dsimp only at q;split at q
   ·unfold Wy at q;split at q
    ·exact q
    ·exact q.elim
   ·exact q.elim
 ·obtain⟨I,m,X,Z⟩:=H;refine⟨Wo I,λvs h=>match vs with
   | [J,K]=>m J K h
   | _=>0,λvs h=>match vs with
   | [J,K]=>Wo (λu E h'=>I u E h'/\m u E h'<m J K h)
   | _=>λ_ _=>False,X,λvs h B=>?_,λvs h Q h' q=>?_⟩
  ·unfold Wo at B;split at B
   ·exact Z _ _ _ B
   ·exact B.elim
  ·dsimp only at q;split at q
   ·unfold Wo at q;split at q
    ·exact q
    ·exact q.elim
   ·exact q.elim
 ·obtain⟨I,m,X,Z⟩:=H;refine⟨XQ I,λvs h=>match vs with
   | [J,K,O]=>m J K O h
   | _=>0,λvs h=>match vs with
   | [J,K,O]=>XQ (λu E F h'=>I u E F h'/\m u E F h'<m J K O h)
   | _=>λ_ _=>False,X,λvs h B=>?_,λvs h Q h' q=>?_⟩
  ·unfold XQ at B;split at B
   ·exact Z _ _ _ _ B
   ·exact B.elim
  ·dsimp only at q;split at q
   ·unfold XQ at q;split at q
    ·exact q
    ·exact q.elim
   ·exact q.elim
 ·obtain⟨I,m,X,Z⟩:=H;refine⟨Xe I,λvs h=>match vs with
   | [J,K,O,T]=>m J K O T h
   | _=>0,λvs h=>match vs with
   | [J,K,O,T]=>Xe (λu E F G h'=>I u E F G h'/\m u E F G h'<m J K O T h)
   | _=>λ_ _=>False,X,λvs h B=>?_,λvs h Q h' q=>?_⟩
  ·unfold Xe at B;split at B
   ·exact Z _ _ _ _ _ B
   ·exact B.elim
  ·dsimp only at q;split at q
   ·unfold Xe at q;split at q
    ·exact q
    ·exact q.elim
   ·exact q.elim
 ·obtain⟨I,m,X,Z⟩:=H;refine⟨X0 I,λvs h=>match vs with
   | [J,K,O,T,U]=>m J K O T U h
   | _=>0,λvs h=>match vs with
   | [J,K,O,T,U]=>X0 (λu E F G M h'=>I u E F G M h'/\m u E F G M h'<m J K O T U h)
   | _=>λ_ _=>False,X,λvs h B=>?_,λvs h Q h' q=>?_⟩
  ·unfold X0 at B;split at B
   ·exact Z _ _ _ _ _ _ B
   ·exact B.elim
  ·dsimp only at q;split at q
   ·unfold X0 at q;split at q
    ·exact q
    ·exact q.elim
   ·exact q.elim
 ·obtain⟨I,m,X,Z⟩:=H;refine⟨WD I,λvs h=>match vs with
   | [J,K,O,T,U,a5]=>m J K O T U a5 h
   | _=>0,λvs h=>match vs with
   | [J,K,O,T,U,a5]=>WD (λu E F G M R h'=>I u E F G M R h'/\m u E F G M R h'<m J K O T U a5 h)
   | _=>λ_ _=>False,X,λvs h B=>?_,λvs h Q h' q=>?_⟩
  ·unfold WD at B;split at B
   ·exact Z _ _ _ _ _ _ _ B
   ·exact B.elim
  ·dsimp only at q;split at q
   ·unfold WD at q;split at q
    ·exact q
    ·exact q.elim
   ·exact q.elim
 ·obtain⟨I,m,X,Z⟩:=H;refine⟨WH I,λvs h=>match vs with
   | [J,K,O,T,U,a5,a6]=>m J K O T U a5 a6 h
   | _=>0,λvs h=>match vs with
   | [J,K,O,T,U,a5,a6]=>WH (λu E F G M R V h'=>I u E F G M R V h'/\m u E F G M R V h'<m J K O T U a5 a6 h)
   | _=>λ_ _=>False,X,λvs h B=>?_,λvs h Q h' q=>?_⟩
  ·unfold WH at B;split at B
   ·exact Z _ _ _ _ _ _ _ _ B
   ·exact B.elim
  ·dsimp only at q;split at q
   ·unfold WH at q;split at q
    ·exact q
    ·exact q.elim
   ·exact q.elim
 ·obtain⟨I,m,X,Z⟩:=H;refine⟨W8 I,λvs h=>match vs with
   | [J,K,O,T,U,a5,a6,a7]=>m J K O T U a5 a6 a7 h
   | _=>0,λvs h=>match vs with
   | [J,K,O,T,U,a5,a6,a7]=>W8 (λu E F G M R V aS h'=>I u E F G M R V aS h'/\m u E F G M R V aS h'<m J K O T U a5 a6 a7 h)
   | _=>λ_ _=>False,X,λvs h B=>?_,λvs h Q h' q=>?_⟩
  ·unfold W8 at B;split at B
   ·exact Z _ _ _ _ _ _ _ _ _ B
   ·exact B.elim
  ·dsimp only at q;split at q
   ·unfold W8 at q;split at q
    ·exact q
    ·exact q.elim
   ·exact q.elim
 ·obtain⟨I,m,X,Z⟩:=H;refine⟨W5 I,λvs h=>match vs with
   | [J,K,O,T,U,a5,a6,a7,a8]=>m J K O T U a5 a6 a7 a8 h
   | _=>0,λvs h=>match vs with
   | [J,K,O,T,U,a5,a6,a7,a8]=>W5 (λu E F G M R V aS aT h'=>I u E F G M R V aS aT h'/\m u E F G M R V aS aT h'<m J K O T U a5 a6 a7 a8 h)
   | _=>λ_ _=>False,X,λvs h B=>?_,λvs h Q h' q=>?_⟩
  ·unfold W5 at B;split at B
   ·exact Z _ _ _ _ _ _ _ _ _ _ B
   ·exact B.elim
  ·dsimp only at q;split at q
   ·unfold W5 at q;split at q
    ·exact q
    ·exact q.elim
   ·exact q.elim
 ·obtain⟨I,m,X,Z⟩:=H;refine⟨L7 I,λvs h=>match vs with
   | [J,K,O,T,U,a5,a6,a7,a8,a9]=>m J K O T U a5 a6 a7 a8 a9 h
   | _=>0,λvs h=>match vs with
   | [J,K,O,T,U,a5,a6,a7,a8,a9]=>L7 (λu E F G M R V aS aT bY h'=>I u E F G M R V aS aT bY h'/\m u E F G M R V aS aT bY h'<m J K O T U a5 a6 a7 a8 a9 h)
   | _=>λ_ _=>False,X,λvs h B=>?_,λvs h Q h' q=>?_⟩
  ·unfold L7 at B;split at B
   ·exact Z _ _ _ _ _ _ _ _ _ _ _ B
   ·exact B.elim
  ·dsimp only at q;split at q
   ·unfold L7 at q;split at q
    ·exact q
    ·exact q.elim
   ·exact q.elim
 ·exact H.elim
inductive HT where
 | z
 | o (ord:OT)
 | s (l r:HT)
 | j (S K:List Nat) (l r:HT)
 | c (l r:HT)
 | b (t:HT)
 | l (S K:List Nat) (t:HT)
 | r (l r:HT)
structure Ex where
 S3:Nat->Env->Hp->Prop
 ret:Env->Hp->Prop
def pick (S:List Nat) (env:Env):Option (List Value):=
 match S with
 | []=>some []
 | s::r=>match lk env s with
  | none=>none
  | some v=>match pick r env with
   | none=>none
   | some vs=>some (v::vs)
def Oi (S:List Nat) (env:Env) (f:List Value->Prop):Prop:=
 match pick S env with
 | some vs=>f vs
 | none=>False
def wo:List Nat->List Value->Env
 | s::r,v::vs=>(s,v)::wo r vs
 | _,_=>[]
def Q0:Env->Env->Env
 | [],e=>e
 | x::r,e=>x::Q0 r e
def JQ (t:Nat):List Nat->Bool
 | []=>false
 | x::r=>match Nat.beq x t with
  | true=>true
  | false=>JQ t r
def Ki (t:Nat):List Oper->Bool
 | []=>true
 | o::r=>match o.dst with
  | none=>Ki t r
  | some d=>match Nat.beq d t with
   | true=>false
   | false=>Ki t r
def Ng:List Oper->Bool
 | []=>true
 | o::r=>match o.op with
  | .defer _=>false
  | _=>Ng r
def keeps (n t:Nat):Code->HT->Bool
 | .skip,_ | .exit _,_ | .ret,_ | .label _,_=>true
 | .region _ ops _,_=>match Ki t ops.toList with
  | true=>match Nat.beq t n with
   | true=>Ng ops.toList
   | false=>true
  | false=>false
 | .seq a b,.s l r=>match keeps n t a l with
  | true=>keeps n t b r
  | false=>false
 | .seq a b,.j S K l r=>match JQ t K,JQ t S,keeps n t a l with
  | true,false,true=>keeps n t b r
  | _,_,_=>false
 | .cond _ a b,.c l r=>match keeps n t a l with
  | true=>keeps n t b r
  | false=>false
 | .block _ b,.b h=>keeps n t b h
 | .scope b,h=>keeps n t b h
 | .loop b,.l S K h=>match JQ t K,JQ t S with
  | true,false=>keeps n t b h
  | _,_=>false
 | .rangeFunc _ _ _ _,.r _ _=>match Nat.beq t n with
  | true=>false
  | false=>true
 | _,_=>false
def yd (n:Nat) (K:List Nat) (c:Code) (h:HT):Bool:=
 match K with
 | []=>true
 | t::r=>match keeps n t c h with
  | true=>yd n r c h
  | false=>false
def okB (b:Bool) (A:Prop):Prop:=match b with
 | true=>A
 | false=>False
def Xb (i c:Nat) (A B:Prop):Prop:=
 match Nat.beq i c with
 | true=>A
 | false=>B
def Tt (o:Loop) (l:Nat) (h:Hp):Prop:=∃st pd,h[l]?=some (.loop {o with state:=st,pending:=pd})
def NU (l:Nat) (h:Hp):Option Hp:=
 match h[l]? with
 | some (.loop r)=>match r.state with
  | .ready=>some (h.setIfInBounds l (.loop {r with state:=.busy}))
  | _=>none
 | _=>none
def fin (l:Nat) (j:Option Code) (h:Hp):Option Hp:=
 match h[l]? with
 | some (.loop r)=>some (h.setIfInBounds l (.loop {r with state:=if j.isNone then .ready else .done,pending:=j}))
 | _=>none
def Ij (l:Nat) (h:Hp):Option (Option Code × Hp):=
 match h[l]? with
 | some (.loop r)=>match r.state with
  | .busy=>none
  | _=>some (r.pending,h.setIfInBounds l (.loop {r with state:=.exhausted}))
 | _=>none
def Jp (j:Option Code) (A B:Prop) (C:Nat->Prop):Prop:=
 match j with
 | none=>A
 | some .ret=>B
 | some (.exit id)=>C id
 | some _=>False
def Rg (C:FuncId->List Value->Hp->(Value->Hp->Prop)->Prop) (Y:Nat->List Value->Hp->(Value->Hp->Prop)->Prop) (g:Value) (h:Hp) (round:Nat->List Value->Hp->(Value->Hp->Prop)->Prop) (q:Option Code->Hp->Prop):Prop:=
 ∀o:Loop,o.state=.ready->o.pending=none->(∀args h' R,Tt o (h.size+1) h'->round (h.size+1) args h' R->Y (h.size+1) args h' R)->
  ∃f first cap,g=.func (.func f) first cap/\C f (first.toList++[.func (.yield (h.size+1)) #[] #[]]++cap.toList) ((h.push (.deferred (some []))).push (.loop o)) λ_ h2=>∃j u,Ij (h.size+1) h2=some (j,u)/\q j u
def R4:List Nat->List Value->Env->Env
 | p::ps,v::vs,e=>R4 ps vs ((p,v)::e)
 | _,_,e=>e
def A0 (args:List Value) (f:Prop):Prop:=
 match args with
 | []=>f
 | _=>False
def A1 (args:List Value) (f:Value->Prop):Prop:=
 match args with
 | [v]=>f v
 | _=>False
def A2 (args:List Value) (f:Value->Value->Prop):Prop:=
 match args with
 | [v,w]=>f v w
 | _=>False
def Nd (ps:List Nat) (env:Env) (args:List Value) (f:Env->Prop):Prop:=
 match ps with
 | []=>A0 args (f env)
 | [p]=>A1 args λv=>f ((p,v)::env)
 | [p,q]=>A2 args λv w=>f ((q,w)::(p,v)::env)
 | _=>False
def Mf {ps:List Nat} {env:Env} {args:List Value} {f:Env->Prop} (h:Nd ps env args f):args.length=ps.length/\f (R4 ps args env):=by
 unfold Nd at h;split at h
 ·unfold A0 at h;split at h
  ·exact⟨rfl,h⟩
  ·exact h.elim
 ·unfold A1 at h;split at h
  ·exact⟨rfl,h⟩
  ·exact h.elim
 ·unfold A2 at h;split at h
  ·exact⟨rfl,h⟩
  ·exact h.elim
 ·exact h.elim
def Ik (n:Nat):List Nat->Bool
 | []=>true
 | p::r=>match Nat.blt p n with
  | true=>Ik n r
  | false=>false
def den (P:Program) (n:Nat) (rd:Bool):Code->HT->Ex->Env->Hp->(Env->Hp->Prop)->Prop
 | .skip,_,_,env,h,k=>k env h
 | .label _,_,_,env,h,k=>k env h
 | .exit id,_,E,env,h,_=>E.S3 id env h
 | .ret,_,E,env,h,_=>E.ret env h
 | .region _ ops false,_,_,env,h,k=>match yD n ops.toList with
  | true=>OS P n rd ops ops.toList env [] h k
  | false=>False
 | .region _ ops true,.o ord,_,env,h,k=>okB (We P n ops (Region.before ops) ord) (DB P n ops (Region.before ops) ord [] env [] h k)
 | .seq a b,.s l r,E,env,h,k=>den P n rd a l E env h λq h'=>den P n rd b r E q h' k
 | .seq a b,.j S K l r,E,env,h,k=>match yd n K a l,pick K env with
  | true,some H=>JnC S (λvs h'=>den P n rd b r E (Q0 (wo S vs) (wo K H)) h' k) λJ=>den P n rd a l E env h λq h'=>Oi S q λvs=>J vs h'
  | _,_=>False
 | .cond c x y,.c l r,E,env,h,k=>match ev n env c with
  | some v=>Br v (den P n rd x l E env h k) (den P n rd y r E env h k)
  | none=>False
 | .block id b,.b t,E,env,h,k=>den P n rd b t {E with S3:=λi q h'=>Xb i id (k q h') (E.S3 i q h')} env h k
 | .rangeFunc g ps lx x,.r Q T,E,env,h,k=>match rd,Ik n ps.toList,ev n env g,lk env n with
  | false,true,some U,some (.tuple ⟨ds⟩)=>Rg (Cl P) (Sy P) U h
    (λl args h' R=>Nd ps.toList ((n,.tuple ⟨[]⟩)::env) args λB=>den P n true lx Q {S3:=λ_ _ _=>False,ret:=λ_ _=>False} B h' λF h1=>Sb (NU l h1) λh2=>
       den P n true x T {S3:=λid _ u=>Sb (fin l (some (.exit id)) u) λG=>R (.bool false) G,ret:=λ_ u=>Sb (fin l (some .ret) u) λG=>R (.bool false) G} F h2 λ_ u=>Sb (fin l none u) λG=>R (.bool true) G)
    λj u=>Jp j (k ((n,.tuple ⟨.pointer (some ⟨h.size,0,none⟩)::ds⟩)::env) u) (E.ret ((n,.tuple ⟨.pointer (some ⟨h.size,0,none⟩)::ds⟩)::env) u) λid=>E.S3 id ((n,.tuple ⟨.pointer (some ⟨h.size,0,none⟩)::ds⟩)::env) u
  | _,_,_,_=>False
 | .scope b,t,E,env,h,k=>den P n rd b t E env h k
 | .loop b,.l S K t,E,env,h,_=>match yd n K b t,pick K env,pick S env with
  | true,some H,some V=>LpC S V h λvs h' again=>den P n rd b t E (Q0 (wo S vs) (wo K H)) h' λq M=>Oi S q λO=>again O M
  | _,_,_=>False
 | _,_,_,_,_,_=>False
def yi {t:Nat}:∀{l:List Nat},JQ t l=true↔t∈l
 | []=>by simp[JQ]
 | x::r=>by
  unfold JQ;split
  ·rename_i h;have:=bJ h;subst this;simp
  ·rename_i h;rw[yi];have:x≠t:=λe=>by subst e;simp at h
   simp[Ne.symm this]
def Cm {t:Nat}:∀{l:List Oper},Ki t l=true->∀o∈l,o.dst≠some t
 | [],_,o,ho=>by cases ho
 | x::r,h,o,ho=>by
  unfold Ki at h;split at h
  ·rename_i q;rcases aU.1 ho with rfl | ho
   ·rw[q];simp
   ·exact Cm h o ho
  ·rename_i d u;split at h
   ·contradiction
   ·rename_i B;rcases aU.1 ho with rfl | ho
    ·rw[u];intro e;cases e;simp at B
    ·exact Cm h o ho
def G6:∀{l:List Oper},Ng l=true->∀o∈l,∀c,o.op≠.defer c
 | [],_,o,ho=>by cases ho
 | x::r,h,o,ho=>by
  unfold Ng at h;split at h
  ·contradiction
  ·rename_i q;rcases aU.1 ho with rfl | ho
   ·exact λc e=>q c e
   ·exact G6 h o ho
def CQ {e e':Env} {t:Nat}:lk (Q0 e e') t=(match lk e t with
  | some v=>some v
  | none=>lk e' t):=by
 induction e with
 | nil=>rfl
 | cons x r h=>
  obtain⟨d,v⟩:=x;simp only[Q0,lk];split
  ·rfl
  ·exact h
def tu {env:Env}:∀{S:List Nat} {vs:List Value},pick S env=some vs->∀t v,lk (wo S vs) t=some v->lk env t=some v
 | [],vs,h,t,v,hv=>by simp[wo,lk] at hv
 | s::r,vs,h,t,v,hv=>by
  unfold pick at h;split at h <;> try contradiction
  rename_i u hu;split at h <;> try contradiction
  rename_i us q;simp only[aD] at h;subst h;simp only[wo] at hv;rw[mE] at hv;split at hv
  ·rename_i e;subst e;rw[hu];exact hv
  ·exact tu q t v hv
def AU {env:Env}:∀{S:List Nat} {vs:List Value},pick S env=some vs->∀t∈S,lk (wo S vs) t=lk env t
 | [],vs,h,t,q=>by cases q
 | s::r,vs,h,t,q=>by
  unfold pick at h;split at h <;> try contradiction
  rename_i u hu;split at h <;> try contradiction
  rename_i us B;simp only[aD] at h;subst h;simp only[wo];rw[mE];split
  ·rename_i e;subst e;exact hu.symm
  ·rename_i e;rcases aU.1 q with h1 | h1
   ·exact absurd h1.symm e
   ·exact AU B t h1
def Hz {env:Env}:∀{S:List Nat} {vs:List Value},pick S env=some vs->∀t∈S,(lk env t).isSome=true
 | [],vs,h,t,q=>by cases q
 | s::r,vs,h,t,q=>by
  unfold pick at h;split at h <;> try contradiction
  rename_i u hu;split at h <;> try contradiction
  rename_i us B;rcases aU.1 q with rfl | h1
  ·rw[hu];rfl
  ·exact Hz B t h1
def sI {S:List Nat} {vs:List Value} {t:Nat} (h:t∉S):lk (wo S vs) t=none:=by
 induction S generalizing vs with
 | nil=>cases vs <;> rfl
 | cons s r q=>
  cases vs with
  | nil=>rfl
  | cons v vs=>
   simp only[wo];rw[mE,if_neg (λe=>h (by rw[e]; exact aM ..))];exact q λu=>h (aL _ u)
def Cg.sub {n:Nat} {env q:Env} {a:Act} (h:Cg n q a) (hs:∀t v,lk env t=some v->lk q t=some v):Cg n env a:=
 ⟨h.sz,λt v u hv=>h.sl t v u (hs t v hv),λv hv=>h.df v (hs n v hv)⟩
def QQ (n:Nat) (w0:World) (T:List Nat) (b:Nat->Option Value) (E:Ex) (k:Env->Hp->Prop):Exit->Act->World->Prop
 | .normal,a,w=>∃env,Cg n env a/\rM w0 w/\(∀t∈T,lk env t=b t)/\k env w.heap
 | .exit id,a,w=>∃env,Cg n env a/\rM w0 w/\(∀t∈T,lk env t=b t)/\E.S3 id env w.heap
 | .ret,a,w=>∃env,Cg n env a/\rM w0 w/\(∀t∈T,lk env t=b t)/\E.ret env w.heap
 | _,_,_=>False
def Ld {P:Program} {F:Fence} {m:Nat} {c:Code} {Q:Exit->Act->World->Prop} {a:Act} {w:World} (R:∀l a w,¬Q (.goto l) a w) (h:c.wpIn F m P Q a w):(Code.scope c).wpIn F m P Q a w:=by
 intro b k cs H J K;have s1:_root_.Go.step P (lone (b.atR a (.code (.scope c)::k)) cs w)=.next (lone (b.atR a (.code c::.inScope c::k)) cs w):=
  step_lone_go (by simp[stepG,stepG.exec,Frame.atR])
 have f1:(lone (b.atR a (.code (.scope c)::k)) cs w).fenced P F:=fenced_calm (fr:=b.atR a (.code (.scope c)::k)) J K rfl;obtain⟨e,q,B,E,u⟩:=h b (.inScope c::k) cs H J K;cases e with
 | normal=>
  refine⟨.normal,q,B,E,.head f1 s1 (StepsIn.trans u (.one (fenced_calm (fr:=b.atR q (.inScope c::k)) J K rfl) ?_))⟩;exact step_lone_go (by simp[stepG,stepG.exec,Frame.atR])
 | exit id=>
  refine⟨.exit id,q,B,E,λk' M=>.head f1 s1 (u.1 k' (by simp[exitTo,M])),λO M=>?_⟩;obtain⟨G,h1,h2⟩:=u.2 O (by simp[exitTo,M]);exact⟨G,h1,.head f1 s1 h2⟩
 | goto l=>exact(R _ _ _ E).elim
 | ret=>exact⟨_,q,B,E,.of_steps (.one f1 s1) u⟩
 | panic ch=>exact⟨_,q,B,E,.of_steps (.one f1 s1) u⟩
 | outgrown=>exact⟨_,q,B,E,.of_steps (b:=b) (k:=k) (cs:=cs) (e:=.outgrown) (.one f1 s1) u⟩
def wX {n:Nat} {c:Code} {h:HT}:∀{K:List Nat},yd n K c h=true->∀t∈K,keeps n t c h=true
 | [],_,t,q=>by cases q
 | x::r,u,t,q=>by
  unfold yd at u;split at u
  ·rename_i B;rcases aU.1 q with rfl | q
   ·exact B
   ·exact wX u t q
  ·contradiction
def Nb {n:Nat}:∀{ps:List Nat} {args:List Value} {env:Env} {tmps:Array Value},Ik n ps=true->Cg n env {tmps:=tmps,defers:=[]}->
  Cg n (R4 ps args env) {tmps:=(ps.zip args).foldl (λtmps (x:Nat × Value)=>tmps.setIfInBounds x.1 x.2) tmps,defers:=[]}
 | [],_,_,_,_,h=>by simpa[R4] using h
 | _::_,[],_,_,_,h=>by simpa[R4] using h
 | p::ps,v::vs,env,tmps,u,h=>by
  unfold Ik at u;split at u <;> try contradiction
  rename_i q;have q:p<n:=by simpa[fG] using q
  have:=h.put (dst:=some p) (v:=v) (λd e=>by simp only[aD] at e; omega);exact Nb (ps:=ps) (args:=vs) u this
def U4 {P:Program} {w:World} {l:Nat} {h':Hp} (h:NU l w.heap=some h'):∃w',(Instr.beginRound l).run P w=.ok () w'/\w'.heap=h'/\rM w w':=by
 unfold NU at h;split at h <;> try contradiction
 rename_i r q;split at h <;> try contradiction
 rename_i hs;simp only[aD] at h;refine⟨{w with heap:=h'},?_,rfl,⟨rfl,rfl,rfl⟩⟩;simp[Instr.beginRound,Instr.getLoop,getObj,setObj,Sem.run,q,hs,h]
def IW {P:Program} {w:World} {l:Nat} {j:Option Code} {h':Hp} (h:fin l j w.heap=some h'):∃w',(Instr.endRound l j).run P w=.ok (.bool j.isNone) w'/\w'.heap=h'/\rM w w':=by
 unfold fin at h;split at h <;> try contradiction
 rename_i r q;simp only[aD] at h;refine⟨{w with heap:=h'},?_,rfl,⟨rfl,rfl,rfl⟩⟩;rw[<-h];simp[Instr.endRound,Instr.getLoop,getObj,setObj,Sem.run,q]
def RS {P:Program} {w:World} {l:Nat} {j:Option Code} {h':Hp} (h:Ij l w.heap=some (j,h')):∃w',(Instr.endLoop l).run P w=.ok j w'/\w'.heap=h'/\rM w w':=by
 unfold Ij at h;split at h <;> try contradiction
 rename_i r u;split at h <;> try contradiction
 rename_i hs;simp only[aD,bV] at h;refine⟨{w with heap:=h'},?_,rfl,⟨rfl,rfl,rfl⟩⟩;rw[<-h.1,<-h.2];have q:¬r.state=LoopState.busy:=λe=>hs e;simp[Instr.endLoop,Instr.getLoop,getObj,setObj,Sem.run,u,q]
def M4 {P:Program} {n:Nat} (hm:P.follows .mixedOrders=true) :
  ∀(c:Code) {F:Fence} (V:Wd F) {m:Nat} {rd:Bool} (G:rd=false->F.round=none) {w0:World} (B:HT) (E:Ex) (env:Env) (k:Env->Hp->Prop) (T:List Nat) (b:Nat->Option Value) (a:Act) (w:World),(∀t∈T,keeps n t c B=true)->(∀t∈T,lk env t=b t)->Cg n env a->rM w0 w->
   den P n rd c B E env w.heap k->c.wpIn F m P (QQ n w0 T b E k) a w:=by
 intro c;induction c with
 | skip=>intro F V m rd G w0 B E env k T b a w _ X O Z h;exact wpIn_skip ⟨env,O,Z,X,by simpa[den] using h⟩
 | label l=>intro F V m rd G w0 B E env k T b a w _ X O Z h;exact wpIn_label ⟨env,O,Z,X,by simpa[den] using h⟩
 | exit id=>intro F V m rd G w0 B E env k T b a w _ X O Z h;exact wpIn_exit ⟨env,O,Z,X,by simpa[den] using h⟩
 | ret=>intro F V m rd G w0 B E env k T b a w _ X O Z h;exact wpIn_ret ⟨env,O,Z,X,by simpa[den] using h⟩
 | region id ops draw=>
  intro F V m rd G w0 B E env k T b a w hT X O Z h;have hTd:∀o∈ops.toList,∀d,o.dst=some d->d∉T:=by
   intro o ho d hd hdT;have:=hT d hdT;unfold keeps at this;split at this
   ·rename_i hnd;exact Cm hnd o ho hd
   ·contradiction
  have hTn:n∈T->∀o∈ops.toList,∀c,o.op≠.defer c:=by
   intro hnT;have:=hT n hnT;unfold keeps at this;split at this
   ·have e:Nat.beq n n=true:=by simp
    rw[e] at this;exact G6 this
   ·contradiction
  cases draw with
  | false=>
   simp only[den] at h;split at h
   ·rename_i hn;refine wpIn_region_list (xh V G hn hTd hTn (λq a' w' H U dO Q=>⟨q,H,U,dO,Q⟩) ops.toList env [] a w X (λ_ h=>h) O (wm.nil _ _) Z h)
   ·contradiction
  | true=>
   cases B with
   | o ord=>
    simp only[den] at h;unfold okB at h;split at h
    ·rename_i hok;exact Lq V hm hok hTd (λq a' w' H U dO Q=>⟨q,H,U,dO,Q⟩) X O Z h
    ·contradiction
   | _=>simp[den] at h
 | seq x y iS ihy=>
  intro F V m rd G w0 B E env k T b a w hT X O Z h;cases B with
  | s l r=>
   simp only[den] at h;have aS:∀t∈T,keeps n t x l=true:=λt B=>by have:=hT t B;simp only[keeps] at this;split at this <;> simp_all
   have hTy:∀t∈T,keeps n t y r=true:=λt B=>by have:=hT t B;simp only[keeps] at this;split at this <;> simp_all
   refine wpIn_seq (wpIn_mono (iS V G l E env _ T b a w aS X O Z h) λe a' w' hq=>?_);cases e with
   | normal=>
    obtain⟨q,H,U,dO,Q⟩:=hq;exact ihy V G r E q k T b a' w' hTy dO H U Q
   | _=>exact hq
  | j S K l r=>
   simp only[den] at h;split at h
   ·rename_i kv hka oF;obtain⟨J,hJ,hJK⟩:=PJ h;have aS:∀t∈T,t∈K/\t∉S/\keeps n t x l=true/\keeps n t y r=true:=by
     intro t B;have:=hT t B;simp only[keeps] at this;split at this
     ·rename_i h1 h2 h3;exact⟨yi.1 h1,(λhs=>by rw[yi.2 hs] at h2; cases h2),h3,this⟩
     ·contradiction
    refine wpIn_seq (wpIn_mono (iS V G l E env _ K (lk env) a w (wX hka) (λ_ _=>rfl) O Z hJ) λe a' w' hq=>?_);have oR:∀(q:Env),(∀t∈K,lk q t=lk env t)->∀t∈T,lk q t=b t:=λq hK t B=>(hK t (aS t B).1).trans (X t B);cases e with
    | normal=>
     obtain⟨q,H,U,hK,Q⟩:=hq;unfold Oi at Q;split at Q
     ·rename_i vs hvs;have hsub:∀t v,lk (Q0 (wo S vs) (wo K kv)) t=some v->lk q t=some v:=by
       intro t v hv;rw[CQ] at hv;split at hv
       ·rename_i u hu;rw[tu hvs t u hu];exact hv
       ·have h1:=tu oF t v hv;by_cases hKt:t∈K
        ·rw[hK t hKt];exact h1
        ·rw[sI hKt] at hv;cases hv
      refine ihy V G r E _ k T b a' w' (λt B=>(aS t B).2.2.2) (λt B=>?_) (H.sub hsub) U (hJK _ _ Q);rw[CQ,sI (aS t B).2.1];simp only;rw[AU oF t (aS t B).1];exact X t B
     ·exact Q.elim
    | exit id=>
     obtain⟨q,H,U,hK,Q⟩:=hq;exact⟨q,H,U,oR q hK,Q⟩
    | ret=>
     obtain⟨q,H,U,hK,Q⟩:=hq;exact⟨q,H,U,oR q hK,Q⟩
    | _=>exact hq
   ·contradiction
  | _=>simp[den] at h
 | cond c x y iS ihy=>
  intro F V m rd G w0 B E env k T b a w hT X O Z h;cases B with
  | c l r=>
   simp only[den] at h;have aS:∀t∈T,keeps n t x l=true:=λt B=>by have:=hT t B;simp only[keeps] at this;split at this <;> simp_all
   have hTy:∀t∈T,keeps n t y r=true:=λt B=>by have:=hT t B;simp only[keeps] at this;split at this <;> simp_all
   split at h
   ·rename_i v hv;obtain⟨t,rfl,h1,h2⟩:=Je h;refine wpIn_cond_split (O.holds c _ hv) (λe=>?_) (λe=>?_)
    ·exact iS V G l E env k T b a w aS X O Z (h1 e)
    ·exact ihy V G r E env k T b a w hTy X O Z (h2 e)
   ·contradiction
  | _=>simp[den] at h
 | block id x ih=>
  intro F V m rd G w0 B E env k T b a w hT X O Z h;cases B with
  | b t=>
   simp only[den] at h;have hT':∀s∈T,keeps n s x t=true:=λs hs=>by have:=hT s hs;simpa[keeps] using this
   refine wpIn_block (wpIn_mono (ih V G t _ env k T b a w hT' X O Z h) λe a' w' hq=>?_);cases e with
   | exit i=>
    obtain⟨q,H,U,hK,Q⟩:=hq;simp only[Exit.inBlock];cases hi:Nat.beq i id with
    | true=>
     rw[if_pos (bJ hi)];refine⟨q,H,U,hK,?_⟩;simp only[Xb,hi] at Q;exact Q
    | false=>
     rw[if_neg (λe=>by subst e; simp at hi)];refine⟨q,H,U,hK,?_⟩;simp only[Xb,hi] at Q;exact Q
   | _=>exact hq
  | _=>simp[den] at h
 | scope x ih=>
  intro F V m rd G w0 B E env k T b a w hT X O Z h;simp only[den] at h;have hT':∀s∈T,keeps n s x B=true:=λs hs=>by have:=hT s hs;simpa[keeps] using this
  exact Ld (λ_ _ _ h=>h) (ih V G B E env k T b a w hT' X O Z h)
 | loop x ih=>
  intro F V m rd G w0 B E env k T b a w hT X O Z h;cases B with
  | l S K t=>
   simp only[den] at h;have aS:∀s∈T,s∈K/\s∉S/\keeps n s x t=true:=by
    intro s hs;have:=hT s hs;simp only[keeps] at this;split at this
    ·rename_i h1 h2;exact⟨yi.1 h1,(λhss=>by rw[yi.2 hss] at h2; cases h2),this⟩
    ·contradiction
   split at h
   ·rename_i kv iv hka oF hiv;obtain⟨I,μ,C,h0,hbody,hC⟩:=PX h;let L:List Value->Env:=λvs=>Q0 (wo S vs) (wo K kv);have hLb:∀vs,∀s∈T,lk (L vs) s=b s:=by
     intro vs s hs;show lk (Q0 _ _) s=_;rw[CQ,sI (aS s hs).2.1];simp only;rw[AU oF s (aS s hs).1];exact X s hs
    let M:Act->World->Nat->Prop:=λa w j=>∃vs,Cg n (L vs) a/\I vs w.heap/\μ vs w.heap=j;classical
    have hM0:∃j,M a w j:=⟨_,iv,O.sub (λs v hv=>by
     have aT:lk (Q0 (wo S iv) (wo K kv)) s=some v:=hv;rw[CQ] at aT;split at aT
     ·rename_i u hu;rw[tu hiv s u hu];exact aT
     ·exact tu oF s v aT),h0,rfl⟩
    refine wpIn_loop (λa w=>rM w0 w/\∃j,M a w j) (λa w=>if e:∃j,M a w j then Nat.Bm e else 0) ⟨Z,hM0⟩ λa1 w1 ⟨hR1,hM1⟩=>?_;obtain⟨vs,hA1,hI,hμ⟩:=Nat.tB hM1;have hd:=hbody vs w1.heap hI;refine wpIn_mono (ih V G t E (L vs) _ K (lk (L vs)) a1 w1 (wX hka) (λs hs=>rfl) hA1 hR1 hd) λe a2 w2 hq=>?_;have oR:∀(q:Env),(∀s∈K,lk q s=lk (L vs) s)->∀s∈T,lk q s=b s:=λq hK s hs=>(hK s (aS s hs).1).trans (hLb vs s hs);cases e with
    | normal=>
     obtain⟨q,eQ,iF,rW,Q⟩:=hq;unfold Oi at Q;split at Q
     ·rename_i vs' tO;obtain⟨hI2,hlt⟩:=hC _ _ _ _ Q;have hA2':Cg n (L vs') a2:=eQ.sub λs v hv=>by
       have aT:lk (Q0 (wo S vs') (wo K kv)) s=some v:=hv;rw[CQ] at aT;split at aT
       ·rename_i u hu;rw[tu tO s u hu];exact aT
       ·rename_i uS;have hKs:s∈K:=by
         by_cases h:s∈K
         ·exact h
         ·rw[sI h] at aT;cases aT
        have hSs:s∉S:=by
         intro h;rw[AU tO s h] at uS;have:=Hz tO s h;rw[uS] at this;cases this
        rw[rW s hKs];show lk (Q0 _ _) s=_;rw[CQ,sI hSs];exact aT
      have hM2:M a2 w2 (μ vs' w2.heap):=⟨vs',hA2',hI2,rfl⟩;refine⟨⟨iF,_,hM2⟩,?_⟩;rw[dif_pos ⟨_,hM2⟩,dif_pos hM1];exact fK (Nat.vM ⟨_,hM2⟩ hM2) (by rw[<-hμ]; exact hlt)
     ·exact Q.elim
    | exit id=>
     obtain⟨q,eQ,iF,rW,Q⟩:=hq;exact⟨q,eQ,iF,oR q rW,Q⟩
    | ret=>
     obtain⟨q,eQ,iF,rW,Q⟩:=hq;exact⟨q,eQ,iF,oR q rW,Q⟩
    | _=>exact hq
   ·contradiction
  | _=>simp[den] at h
 | rangeFunc g ps lx x iha iS=>
  intro F V m rd G w0 B E env k T b a w hT X O Z h;cases B with
  | r ta tx=>
   simp only[den] at h;split at h <;> try contradiction
   rename_i gv ds hps hgv hds;have hro:=G rfl;obtain⟨ds',hds',hdf⟩:=O.df _ hds;simp only[Value.tuple.injEq,jE] at hds';subst hds';refine wpIn_rangeFunc λfn _=>?_;let o:Loop:={state:=.ready,pending:=none,fn,tmps:=a.tmps,params:=ps,assign:=lx,body:=x,defers:=w.heap.size};have hround:∀args h' R,Tt o (w.heap.size+1) h'->(Nd ps.toList ((n,.tuple ⟨[]⟩)::env) args λenv0=>den P n true lx ta {S3:=λ_ _ _=>False,ret:=λ_ _=>False} env0 h' λenv1 h1=>Sb (NU (w.heap.size+1) h1) λh2=>
       den P n true x tx {S3:=λid _ h3=>Sb (fin (w.heap.size+1) (some (.exit id)) h3) λh4=>R (.bool false) h4,ret:=λ_ h3=>Sb (fin (w.heap.size+1) (some .ret) h3) λh4=>R (.bool false) h4} env1 h2 λ_ h3=>Sb (fin (w.heap.size+1) none h3) λh4=>R (.bool true) h4)->Sy P (w.heap.size+1) args h' R:=by
    intro args h' R ⟨st,pd,hl⟩ hden;obtain⟨hlen,hden⟩:=Mf hden;intro w1 hw1;subst hw1;refine⟨{o with state:=st,pending:=pd},by simp[Instr.getLoop,getObj,Sem.run,hl],by simpa using hlen,?_⟩;have hA0:Cg n ((n,.tuple ⟨[]⟩)::env) {tmps:=a.tmps,defers:=[]}:=by
     refine⟨O.sz,λt v B hv=>?_,λv hv=>?_⟩
     ·rw[mE,if_neg (by omega)] at hv;exact O.sl t v B hv
     ·rw[mE,if_pos rfl] at hv;simp only[aD] at hv;exact⟨[],hv.symm,rfl⟩
    have hA1:=Nb (args:=args) hps hA0;have etm:(ps.zip args.toArray).foldl (λtmps (x:Nat × Value)=>tmps.setIfInBounds x.1 x.2) a.tmps=(ps.toList.zip args).foldl (λtmps (x:Nat × Value)=>tmps.setIfInBounds x.1 x.2) a.tmps:=by
     rw[<-gY];simp
    refine roundIn_of_wpIn trivial ?_;show lx.wpIn _ 0 P _ {tmps:=(ps.zip args.toArray).foldl (λtmps (x:Nat × Value)=>tmps.setIfInBounds x.1 x.2) a.tmps,defers:=[]} w1;rw[etm];refine wpIn_mono (iha (Wd.wide.inRound _) (m:=0) (rd:=true) (λe=>by cases e) (w0:=w1) ta _ _ _ [] (λ_=>none) _ w1 (λt B=>by cases B) (λt B=>by cases B) hA1 (.refl w1) hden) λe a1 w2 hq=>?_;cases e with
    | normal=>
     obtain⟨env1,eQ,iF,_,h2,hb2,hk2⟩:=hq;obtain⟨w3,e3,rfl,hR3⟩:=U4 (P:=P) hb2;refine⟨w3,e3,?_⟩;refine wpIn_mono (iS (Wd.wide.inRound _) (m:=0) (rd:=true) (λe=>by cases e) (w0:=w1) tx _ _ _ [] (λ_=>none) _ w3 (λt B=>by cases B) (λt B=>by cases B) eQ (iF.trans hR3) hk2) λe a3 w4 hq=>?_;cases e with
     | normal=>
      obtain⟨_,_,iN,_,h4,hf4,hk4⟩:=hq;obtain⟨w5,e5,rfl,hR5⟩:=IW (P:=P) hf4;exact⟨_,w5,e5,_,rfl,hk4,iN.trans hR5⟩
     | ret=>
      obtain⟨_,_,iN,_,h4,hf4,hk4⟩:=hq;obtain⟨w5,e5,rfl,hR5⟩:=IW (P:=P) hf4;exact⟨_,w5,e5,_,rfl,hk4,iN.trans hR5⟩
     | exit id=>
      obtain⟨_,_,iN,_,h4,hf4,hk4⟩:=hq;obtain⟨w5,e5,rfl,hR5⟩:=IW (P:=P) hf4;exact⟨_,w5,e5,_,rfl,hk4,iN.trans hR5⟩
     | _=>exact hq.elim
    | ret=>obtain⟨_,_,_,_,Q⟩:=hq;exact Q.elim
    | exit id=>obtain⟨_,_,_,_,Q⟩:=hq;exact Q.elim
    | _=>exact hq.elim
   obtain⟨f,first,cap,rfl,hf,hc⟩:=h o rfl rfl hround;have hev:=O.holds g _ hgv;let w1:World:={w with heap:=(w.heap.push (.deferred (some []))).push (.loop o)};refine⟨w.heap.size+1,[{target:=.collected w.heap.size,args:=#[]}],w1,{target:=.fn (.func f) cap,args:=first++#[.func (.yield (w.heap.size+1)) #[] #[]]},w1,f,first++#[.func (.yield (w.heap.size+1)) #[] #[]]++cap,w1,?_,?_,λf' _=>V.any f',?_,λe=>(by rw[V.depth] at e; cases e),?_⟩
   ·rw[hro];simp[Instr.enterLoop,newObj,Sem.run,w1,o];rfl
   ·simp only[rangeCall,resolve,hev,Deferred.ofValue,Sem.run_bind,Sem.run_pure,Result.andThen_ok,eE,bS,dS];rfl
   ·simp only[invoke,qM hf]
   ·have e2:first++#[Value.func (.yield (w.heap.size+1)) #[] #[]]++cap=(first.toList++[Value.func (.yield (w.heap.size+1)) #[] #[]]++cap.toList).toArray:=by simp
    rw[e2];refine V.calls (m:=0) (callsIn_wide.2 ((hc w1 rfl).mono ?_));rintro e w3 ⟨v,rfl,⟨j,h3,he,bY⟩,hs⟩;obtain⟨w4,e4,rfl,iN⟩:=RS (P:=P) he;have hRw:rM w0 w4:=(Z.trans ((show rM w w1 from⟨rfl,rfl,rfl⟩).trans hs)).trans iN;have H:Cg n ((n,.tuple ⟨.pointer (some ⟨w.heap.size,0,none⟩)::ds⟩)::env) {a with defers:=[{target:=.collected w.heap.size,args:=#[]}]++a.defers}:=by
     refine⟨O.sz,λt v B hv=>?_,λv hv=>?_⟩
     ·rw[mE,if_neg (by omega)] at hv;exact O.sl t v B hv
     ·rw[mE,if_pos rfl] at hv;simp only[aD] at hv;exact⟨_,hv.symm,by simp[dec,hdf]⟩
    have dO:∀t∈T,lk ((n,.tuple ⟨.pointer (some ⟨w.heap.size,0,none⟩)::ds⟩)::env) t=b t:=λt B=>by
     have h1:=hT t B;unfold keeps at h1;split at h1 <;> try contradiction
     rename_i hne;rw[mE,if_neg (λe=>by subst e; simp at hne)];exact X t B
    refine⟨j,w4,e4,?_⟩;unfold Jp at bY;split at bY
    ·exact⟨_,H,hRw,dO,bY⟩
    ·exact wpIn_ret ⟨_,H,hRw,dO,bY⟩
    ·exact wpIn_exit ⟨_,H,hRw,dO,bY⟩
    ·exact bY.elim
  | _=>simp[den] at h
 | goto l=>intro F V m rd G w0 B E env k T b a w _ X O Z h;cases B <;> simp[den] at h
 | refuse s=>intro F V m rd G w0 B E env k T b a w _ X O Z h;cases B <;> simp[den] at h
def PT {P:Program} {F:Fence} (u:Wd F) {n m:Nat} {rd:Bool} (h:rd=false->F.round=none) (hm:P.follows .mixedOrders=true) {w0:World} (c:Code) (q:HT) (E:Ex) (env:Env) (k:Env->Hp->Prop) (T:List Nat) (b:Nat->Option Value) (a:Act) (w:World)
  (h1:∀t∈T,keeps n t c q=true) (h2:∀t∈T,lk env t=b t) (B:Cg n env a) (G:rM w0 w) (H:den P n rd c q E env w.heap k):c.wpIn F m P (QQ n w0 T b E k) a w:=
 M4 hm c u h q E env k T b a w h1 h2 B G H
def Pe (i:Nat):List Value->Env
 | []=>[]
 | v::r=>(i,v)::Pe (i+1) r
def Lw (P:Program) (env:Env) (h:Hp):List ResultVar->(List Value->Prop)->Prop
 | [],k=>k []
 | .tmp t::r,k=>match lk env t with
  | some v=>Lw P env h r λvs=>k (v::vs)
  | none=>False
 | .cell a t::r,k=>match lk env a with
  | some p=>Vb (WK (L6 P t) p h) λv=>Lw P env h r λvs=>k (v::vs)
  | none=>False
def one (vs:List Value):Value:=
 match vs with
 | [v]=>v
 | vs=>.tuple ⟨vs⟩
def Lb (r:Nat) (h:Hp):Option Hp:=
 match h[r]? with
 | some (.deferred (some []))=>some (h.setIfInBounds r (.deferred none))
 | _=>none
def U8 {P:Program} {w:World} {r:Nat} {h':Hp} (h:Lb r w.heap=some h'):∃w',(Instr.takeDeferred r).run P w=.ok [] w'/\w'.heap=h'/\rM w w':=by
 unfold Lb at h;split at h <;> try contradiction
 rename_i q;simp only[aD] at h;refine⟨{w with heap:=h'},?_,rfl,⟨rfl,rfl,rfl⟩⟩;rw[<-h];simp[Instr.takeDeferred,getObj,setObj,Sem.run,q]
def SG (P:Program) (ds:List Value) (h:Hp) (k:Hp->Prop):Prop:=
 match ds with
 | []=>k h
 | .func (.func f) ⟨first⟩ ⟨[]⟩::r=>match okF P f with
  | true=>SpD P f first h λh'=>SG P r h' k
  | false=>False
 | .pointer (some ⟨q,0,none⟩)::r=>Sb (Lb q h) λh'=>SG P r h' k
 | _=>False
def leave (P:Program) (n:Nat) (q:List ResultVar) (R:Value->Hp->Prop) (env:Env) (h:Hp):Prop:=
 match lk env n with
 | some (.tuple ⟨ds⟩)=>SG P ds h λh=>Lw P env h q λvs=>R (one vs) h
 | _=>False
def EO (n:Nat):List ResultVar->Bool
 | []=>true
 | .tmp t::r=>match Nat.blt t n with
  | true=>EO n r
  | false=>false
 | .cell t _::r=>match Nat.blt t n with
  | true=>EO n r
  | false=>false
def XL (P:Program) (fn:Func) (c:Code) (q:HT) (args:List Value) (h:Hp) (R:Value->Hp->Prop):Prop:=
 match Nat.ble args.length fn.ntmps,EO fn.ntmps fn.results.toList with
 | true,true=>den P fn.ntmps false c q {S3:=λ_ _ _=>False,ret:=leave P fn.ntmps fn.results.toList R} ((fn.ntmps,.tuple ⟨[]⟩)::Pe 0 args) h (leave P fn.ntmps fn.results.toList R)
 | _,_=>False
def Nr:∀(args:List Value) (i t:Nat) (v:Value),lk (Pe i args) t=some v->i<=t/\args[t - i]?=some v
 | [],i,t,v,h=>by simp[Pe,lk] at h
 | u::r,i,t,v,h=>by
  simp only[Pe] at h;rw[mE] at h;split at h
  ·rename_i e;subst e;simpa using h
  ·obtain⟨h1,h2⟩:=Nr r (i+1) t v h;refine⟨by omega,?_⟩;have:t - i=(t - (i+1))+1:=by omega
   rw[this,cR];exact h2
def PV {n:Nat} {args:List Value} (hle:args.length<=n):Cg n ((n,.tuple ⟨[]⟩)::Pe 0 args) {tmps:=args.toArray++Array.replicate (n - args.toArray.size) undef,defers:=[]}:=by
 refine⟨by simp; omega,λt v u hv=>?_,λv hv=>?_⟩
 ·rw[mE,if_neg (by omega)] at hv;obtain⟨_,h2⟩:=Nr args 0 t v hv;have q:t<args.length:=by
   rcases gZ t args.length with h | h
   ·exact h
   ·rw[bW (by simpa using h)] at h2;cases h2
  simp only[Nat.sub_zero] at h2;simp only[cO];rw[fS (by simpa using q)];simp[h2]
 ·rw[mE,if_pos rfl] at hv;simp only[aD] at hv;exact⟨[],hv.symm,rfl⟩
def Zx (tmps:Array Value):ResultVar->Sem Value
 | .tmp t=>pure (tmps.getD t undef)
 | .cell a t=>do loadVar t (<-asAddr (tmps.getD a undef))
def Lr (fn:Func) (tmps:Array Value):results fn tmps=(do let vs <-fn.results.mapM (Zx tmps); pure (if h:vs.size=1 then vs[0] else .tuple vs)):=by
 unfold results;congr 2
def Fk {P:Program} {w:World} {n:Nat} {env:Env} {a:Act} (F:Cg n env a):∀(G:List ResultVar) (k:List Value->Prop),EO n G=true->Lw P env w.heap G k->
  ∃vs,(G.mapM (Zx a.tmps)).run P w=.ok vs w/\k vs
 | [],k,_,h=>⟨[],rfl,h⟩
 | .tmp t::r,k,q,h=>by
  simp only[EO] at q;split at q <;> try contradiction
  rename_i H;have u:t<n:=by simpa[fG] using H
  simp only[Lw] at h;split at h <;> try contradiction
  rename_i v hv;obtain⟨vs,h1,h2⟩:=Fk F r _ q h;refine⟨v::vs,?_,h2⟩;simp only[jD,Sem.run_bind,Zx,Sem.run_pure,Result.andThen_ok,h1,F.sl t v u hv]
 | .cell J t::r,k,q,h=>by
  simp only[EO] at q;split at q <;> try contradiction
  rename_i H;have u:J<n:=by simpa[fG] using H
  simp only[Lw] at h;split at h <;> try contradiction
  rename_i p O;obtain⟨v,hv,h⟩:=h;obtain⟨vs,h1,h2⟩:=Fk F r _ q h;refine⟨v::vs,?_,h2⟩;have M:=ET (P:=P) hv;have K:∃B,p=.pointer (some B):=by
   cases Q:L6 P t <;> rw[Q] at hv <;> simp only[WK] at hv
   ·unfold mH at hv;split at hv <;> first | contradiction | exact⟨_,rfl⟩
   ·unfold kc at hv;split at hv <;> first | contradiction | exact⟨_,rfl⟩
   ·contradiction
  obtain⟨B,rfl⟩:=K;simp only[Instr.loadAt,Instr.sureAddr,Sem.run_bind,Sem.run_pure,Result.andThen_ok] at M;have E:(Zx a.tmps (.cell J t)).run P w=.ok v w:=by
   simp only[Zx,Sem.run_bind,F.sl J _ u O,asAddr,Sem.run_pure,Result.andThen_ok,M]
  simp only[jD,Sem.run_bind,E,Sem.run_pure,Result.andThen_ok,h1]
def Jt {P:Program} {w:World} {fn:Func} {env:Env} {a:Act} {k:Value->Prop} (q:Cg fn.ntmps env a) (u:EO fn.ntmps fn.results.toList=true) (h:Lw P env w.heap fn.results.toList λvs=>k (one vs)) :
  ∃v,(results fn a.tmps).run P w=.ok v w/\k v:=by
 obtain⟨vs,h1,h2⟩:=Fk q fn.results.toList _ u h;refine⟨one vs,?_,h2⟩;rw[Lr];simp only[Sem.run_bind];rw[iC,Sem.run_map,h1];simp only[Result.andThen_ok,Sem.run_pure];congr 1;match vs with
 | []=>rfl
 | [v]=>rfl
 | _::_::_=>simp[one]
def AG {P:Program} {fn:Func} {tmps:Array Value} {R:Value->Hp->Prop} {w0:World} {k:Hp->Prop} (F:∀w,rM w0 w->k w.heap->∃v,(results fn tmps).run P w=.ok v w/\R v w.heap) :
  ∀(ds:List Value) (w:World),rM w0 w->SG P ds w.heap k->LeavesInM Fence.wide 0 P fn tmps (λe w'=>∃v,e=.returned v/\R v w'.heap/\rM w0 w') (ds.map dec) .returning w
 | [],w,E,h=>by
  obtain⟨v,h1,h2⟩:=F w E h;exact⟨v,h1,v,rfl,h2,E⟩
 | d::ds,w,E,h=>by
  unfold SG at h;split at h
  ·rename_i he;cases he
  ·rename_i f first r he
   simp only[eX] at he;obtain⟨rfl,rfl⟩:=he;split at h <;> try contradiction
   rename_i G;refine⟨by simp,.inr ⟨λe=>(by cases e),.func f,#[],f,first.toArray,rfl,?_,λ_ _=>trivial,?_⟩⟩
   ·have:=qM (w:=w) G first.toArray
    show(callFunc f (first.toArray++#[])).run P w=_;simpa using this
   ·refine(h w rfl).mono ?_;rintro e u w' ⟨rfl,⟨v,rfl⟩,B,hs⟩;exact AG F _ w' (E.trans hs) B
  ·rename_i q r he;simp only[eX] at he;obtain⟨rfl,rfl⟩:=he;obtain⟨h',H,B⟩:=h;obtain⟨w',J,rfl,hs⟩:=U8 (P:=P) H;exact⟨by simp,.inl ⟨q,w',rfl,J,AG F _ w' (E.trans hs) B⟩⟩
  ·contradiction
def Py {P:Program} {f:FuncId} {fn:Func} {c:Code} {F:HT} {args:List Value} {h:Hp} {R:Value->Hp->Prop} (M:P.funcs[f]?=some fn) (O:fn.body=some c) (hm:P.follows .mixedOrders=true)
  (H:XL P fn c F args h R):Sp P f args h R:=by
 intro w hw;subst hw;unfold XL at H;split at H <;> try contradiction
 rename_i hle Q;have T:=PV (n:=fn.ntmps) (args:=args) (dX hle);refine callsIn_wide.1 (callsIn_of_wp_marks (n:=0) M O trivial (wpIn_mono (PT Wd.wide (m:=0) (λ_=>rfl) hm (w0:=w) c F _ _ _ [] (λ_=>none) _ w (λt F=>by cases F) (λt F=>by cases F) T (.refl w) H) λe a w' G=>?_));have fin:∀env,Cg fn.ntmps env a->rM w w'->leave P fn.ntmps fn.results.toList R env w'.heap->LeavesInM Fence.wide 0 P fn a.tmps (λe w'=>∃v,e=.returned v/\R v w'.heap/\rM w w') a.defers .returning w':=by
  intro env q u B;unfold leave at B;split at B
  ·rename_i ds J;obtain⟨U,E,K⟩:=q.df _ J;simp only[Value.tuple.injEq,jE] at E;subst E;rw[K];exact AG (λw1 V X=>Jt (k:=λv=>R v w1.heap) q Q X) ds w' u B
  ·contradiction
 cases e with
 | normal=>obtain⟨env,q,u,_,B⟩:=G;exact fin env q u B
 | ret=>obtain⟨env,q,u,_,B⟩:=G;exact fin env q u B
 | exit id=>obtain⟨env,q,u,_,B⟩:=G;exact B.elim
 | goto l=>exact G.elim
 | panic ch=>exact G.elim
 | outgrown=>exact G.elim
structure Sys where
 C:FuncId->List Value->Hp->(Value->Hp->Prop)->Prop
 Y:Nat->List Value->Hp->(Value->Hp->Prop)->Prop
 D:FuncId->List Value->Hp->(Hp->Prop)->Prop
def Sys.of (P:Program):Sys:={C:=Cl P,Y:=Sy P,D:=SpD P}
def vW (P:Program) (fn:Func) (q:HT) (args:List Value) (h:Hp) (R:Value->Hp->Prop):Prop:=
 match fn.body with
 | some c=>XL P fn c q args h R
 | none=>False
def nX {P:Program} {f:FuncId} {fn:Func} {u:HT} {args:List Value} {h:Hp} {R:Value->Hp->Prop} {A:Prop} (B:P.funcs[f]?=some fn) (q:okF P f=true) (hm:P.follows .mixedOrders=true)
  (he:A=vW P fn u args h R) (H:A):(Sys.of P).C f args h R:=by
 subst he;refine⟨q,?_⟩;unfold vW at H;split at H
 ·rename_i c E;exact Py B E hm H
 ·exact H.elim
def T3 (n:Nat) (x:Value) (m:Nat) (y v:Value) (h:Hp) (R:Value->Hp->Prop):Prop:=
 Vb (ext 0 v) λa=>Vb (ext 1 v) λb=>Vb (ext 2 v) λd=>Sb (kq n x a h) λh1=>Sb (kq m y b h1) λh2=>Vb (kc n x h2) λq=>Vb (kc m y h2) λu=>R (.tuple #[q,u,d]) h2
def T2 (m:Nat) (y v:Value) (h:Hp) (R:Value->Hp->Prop):Prop:=
 Vb (ext 0 v) λa=>Vb (ext 1 v) λb=>Vb (ext 2 v) λd=>Sb (kq m y b h) λh1=>Vb (kc m y h1) λq=>R (.tuple #[a,q,d]) h1
section
variable {P:Program} {o o':Option Value} {k k':Value->Prop} {e e':Option (Value × Hp)} {K K':Value->Hp->Prop} {s s':Option Hp} {L L':Hp->Prop} {v v' w w' x x' y y':Value} {A A' B B':Prop} {l l':List Value} {h:Hp} {f f' n n':Nat} {z z':Array Value}
def aaI (h1:o=o') (h2:∀v,k v=k' v):Vb o k=Vb o' k':=by rw[h1,funext h2]
def aaT (h1:e=e') (h2:∀v h,K v h=K' v h):Eb e K=Eb e' K':=by rw[h1,funext λv=>funext (h2 v)]
def aaN (h1:s=s') (h2:∀h,L h=L' h):Sb s L=Sb s' L':=by rw[h1,funext h2]
def aad (h1:v=v') (h2:A=A') (q:B=B'):Br v A B=Br v' A' B':=by rw[h1,h2,q]
def Z4 (h2:A=A'):Br (.bool true) A B=A':=h2
def aaa (h2:B=B'):Br (.bool false) A B=B':=h2
def aaW (h1:l=l') (h2:∀v h,K v h=K' v h):Cl P f l h K=Cl P f l' h K':=by rw[h1,funext λv=>funext (h2 v)]
def Z9 {C M m} (h1:v=v') (h2:l=l') (q:∀v h,K v h=K' v h):Ci C M m v l h K=Ci C M m v' l' h K':=by rw[h1,h2,funext λv=>funext (q v)]
def aa8 {C Y M} (h1:v=v') (h2:l=l') (q:∀v h,K v h=K' v h):Cw C Y M v l h K=Cw C Y M v' l' h K':=by rw[h1,h2,funext λv=>funext (q v)]
def aay {t:TypeId} (h1:z=z') (h2:n=n') (q:f=f') (u:v=v') (E:w=w') (F:∀v h,K v h=K' v h):Ap t z n f v w h K=Ap t z' n' f' v' w' h K':=by rw[h1,h2,q,u,E,funext λv=>funext (F v)]
def aaJ (h1:v=v') (h2:∀v h,K v h=K' v h):Nx v h K=Nx v' h K':=by rw[h1,funext λv=>funext (h2 v)]
def Zr (h1:A=A') (h2:B=B'):(A/\B)=(A'/\B'):=by rw[h1,h2]
def Z1 (h1:o=o') (h2:v=v'):(o=some v)=(o'=some v'):=by rw[h1,h2]
def YP {b q:(Hp->Prop)->Prop} (h1:∀h,L h=L' h) (h2:∀J,b J=q J):HJ L b=HJ L' q:=by rw[funext h1,funext h2]
def Zi {b q:(Value->Hp->Prop)->Prop} (h1:∀v h,K v h=K' v h) (h2:∀J,b J=q J):sV K b=sV K' q:=by rw[funext λv=>funext (h1 v),funext h2]
def Y4 {C q:Value->Value->Hp->Prop} {b u:(Value->Value->Hp->Prop)->Prop} (h1:∀v w h,C v w h=q v w h) (h2:∀J,b J=u J):JU C b=JU q u:=by rw[funext λv=>funext λw=>funext (h1 v w),funext h2]
def Zf {b q:Hp->(Hp->Prop)->Prop} (h1:∀h g,b h g=q h g):KW h b=KW h q:=by rw[funext λh=>funext (h1 h)]
def YB {b q:Value->Hp->(Value->Hp->Prop)->Prop} (u:v=v') (h1:∀v h g,b v h g=q v h g):sO v h b=sO v' h q:=by rw[u,funext λv=>funext λh=>funext (h1 v h)]
def Yy {b q:Value->Value->Hp->(Value->Value->Hp->Prop)->Prop} (u:v=v') (hw:w=w') (h1:∀v w h g,b v w h g=q v w h g):z5 v w h b=z5 v' w' h q:=by rw[u,hw,funext λv=>funext λw=>funext λh=>funext (h1 v w h)]
def Zn {b q:Value->Value->Value->Hp->(Value->Value->Value->Hp->Prop)->Prop} (u:v=v') (hw:w=w') (E:x=x') (h1:∀v w x h g,b v w x h g=q v w x h g):Ri v w x h b=Ri v' w' x' h q:=by rw[u,hw,E,funext λv=>funext λw=>funext λx=>funext λh=>funext (h1 v w x h)]
def aae {C Y} {r q:Nat->List Value->Hp->(Value->Hp->Prop)->Prop} {a u:Option Code->Hp->Prop} (h1:v=v') (h2:∀n l h R,r n l h R=q n l h R) (E:∀j h,a j h=u j h):Rg C Y v h r a=Rg C Y v' h q u:=by rw[h1,funext λn=>funext λl=>funext λh=>funext (h2 n l h),funext λj=>funext (E j)]
def aaK {j:Option Code} {C q:Nat->Prop} (h1:A=A') (h2:B=B') (u:∀n,C n=q n):Jp j A B C=Jp j A' B' q:=by rw[h1,h2,funext u]
def aaS (h:Nat.beq n f=true) (h2:A=A'):Xb n f A B=A':=by unfold Xb; rw[h]; exact h2
def aaA (h:Nat.beq n f=false) (h2:B=B'):Xb n f A B=B':=by unfold Xb; rw[h]; exact h2
def aac (h1:A=A') (h2:B=B'):Xb n f A B=Xb n f A' B':=by rw[h1,h2]
def aan {C q:Value->Value->Prop} (h1:∀v w,C v w=q v w):A2 l C=A2 l q:=by rw[funext λv=>funext (h1 v)]
def Yz {b:Bool} (h:b=true) (h1:A=A'):okB b A=A':=by rw[h,<-h1]; rfl
def aaG {R:Hp->Prop}:R h=R h:=rfl
def aaV {R:Value->Hp->Prop} (h1:v=v'):R v h=R v' h:=by rw[h1]
def aam {R:Value->Value->Hp->Prop} (h1:v=v') (h2:w=w'):R v w h=R v' w' h:=by rw[h1,h2]
def aab {R:Value->Value->Value->Hp->Prop} (h1:v=v') (h2:w=w') (q:x=x'):R v w x h=R v' w' x' h:=by rw[h1,h2,q]
end
def zN (n:Nat):Int.ofNat (no_index (@OfNat.ofNat Nat n _))=@OfNat.ofNat Int n _:=rfl
def zM:Int.negSucc 0 = -1:=rfl
def rd (A:Prop) {Q:Prop} (h:A=Q:=by
    repeat' first
      | intro _
      | (refine jO (by conv=>lhs; whnf) ?_
         first
          | refine Yz (by kernel_rfl) ?_
          | apply aaI
          | apply aaT
          | apply aaN
          | apply aaW
          | apply Z4
          | apply aaa
          | apply aad
          | apply Zi
          | apply aay
          | apply aa8
          | apply Z9
          | apply YB
          | apply Yy
          | apply YP
          | apply Zr
          | apply Z1
          | apply Y4
          | apply Zf
          | apply Zn
          | apply aaJ
          | apply aae
          | apply aaK
          | refine aaS rfl ?_
          | refine aaA rfl ?_
          | apply aac
          | apply aan
          | apply aaG
          | apply aaV
          | apply aam
          | apply aab)
    all_goals (conv=>lhs; reduce; try dsimp only[zN,zM])):A=Q:=h
def vb {o:Option Value} {k:Value->Prop} {v:Value} (h:o=some v) (q:k v):Vb o k:=⟨v,h,q⟩
def eb {o:Option (Value × Hp)} {k:Value->Hp->Prop} {v:Value} {h':Hp} (h:o=some (v,h')) (q:k v h'):Eb o k:=⟨v,h',h,q⟩
def sb {o:Option Hp} {k:Hp->Prop} {h':Hp} (h:o=some h') (q:k h'):Sb o k:=⟨h',h,q⟩
@[go_sem] theorem kf (v:Value) (k:Value->Prop):Vb (some v) k=k v:=by simp[Vb]
@[go_sem] theorem IM (A B:Prop):Br (.bool true) A B=A:=rfl
@[go_sem] theorem p8 (A B:Prop):Br (.bool false) A B=B:=rfl
def br {b:Bool} {A B:Prop} (h1:b=true->A) (h2:b=false->B):Br (.bool b) A B:=by cases b; exact h2 rfl; exact h1 rfl
def lV {p:Prop} [Decidable p] {A B:Prop} (h1:p->A) (h2:¬p->B):Br (.bool (decide p)) A B:=br (λh=>h1 (by simpa using h)) (λh=>h2 (by simpa using h))
section
variable {k:IntKind} {a b:Int}
@[go_sem] theorem DW:bin .add (.int k a) (.int k b)=some (.int k (k.wrap (a+b))):=by simp[bin]
@[go_sem] theorem TE:bin .sub (.int k a) (.int k b)=some (.int k (k.wrap (a - b))):=by simp[bin]
@[go_sem] theorem BS:bin .mul (.int k a) (.int k b)=some (.int k (k.wrap (a*b))):=by simp[bin]
@[go_sem] theorem kU:bin .eql (.int k a) (.int k b)=some (.bool (decide (a=b))):=by simp[bin,iU]
@[go_sem] theorem mh:bin .neq (.int k a) (.int k b)=some (.bool (decide (a≠b))):=by simp[bin,bne,iU]
@[go_sem] theorem j9:bin .lss (.int k a) (.int k b)=some (.bool (decide (a<b))):=by simp[bin]
@[go_sem] theorem zn:bin .leq (.int k a) (.int k b)=some (.bool (decide (a<=b))):=by simp[bin]
@[go_sem] theorem mV:bin .gtr (.int k a) (.int k b)=some (.bool (decide (b<a))):=by simp[bin]
@[go_sem] theorem qf:bin .geq (.int k a) (.int k b)=some (.bool (decide (b<=a))):=by simp[bin]
def zp (q:b≠0):bin .rem (.int k a) (.int k b)=some (.int k (a.tmod b)):=by simp[bin,q]
def Nh (q:b≠0):bin .quo (.int k a) (.int k b)=some (.int k (k.wrap (a.tdiv b))):=by simp[bin,q]
@[go_sem] theorem Ko (x:Bool):uk (some x)=some (.bool !x):=rfl
end
def EN {n:Int} (h : -9223372036854775808<=n/\n<=9223372036854775807):IntKind.i64.wrap n=n:=by
 rw[IntKind.wrap_i64];omega
def wrS {n:Nat} (h:n<9223372036854775807):IntKind.i64.wrap ((n:Int)+1)=((n+1:Nat):Int):=by
 rw[EN (by omega)];rfl
def inc {n:Nat} (h:n<9223372036854775807):bin .add (.int .i64 n) (.int .i64 1)=some (.int .i64 (n+1:Nat)):=by rw[DW,wrS h]
def cl (h:Hp) (r o:Nat):Option Value:=
 match h[r]? with
 | some (.cells c _ _)=>c[o]?
 | _=>none
def fz (h:Hp) (r o:Nat):Bool:=
 match h[r]? with
 | some (.cells _ _ (lo,hi))=>lo<=o&&o<hi
 | _=>false
def vK (h:Hp) (r o:Nat):cellAt h ⟨r,o,none⟩=cl h r o:=by unfold cellAt cl; split <;> simp_all
def J4 (h:Hp) (r o:Nat):frozenAt h ⟨r,o,none⟩=fz h r o:=rfl
def Bu (r o i:Nat):(⟨r,o,none⟩:Addr).add i=⟨r,o+i,none⟩:=by
 unfold Addr.add;split
 ·simp_all
 ·rfl
@[go_sem] theorem oi (r o j:Nat):fa j (.pointer (some ⟨r,o,none⟩))=some (.pointer (some ⟨r,o+j,none⟩)):=by simp[fa,Bu]
def W4 (h:Hp) (r o:Nat):mH (.pointer (some ⟨r,o,none⟩)) h=cl h r o:=by simp[mH,vK]
def Wi {h:Hp} {r o:Nat} {v:Value} (e:cl h r o=some v):r<h.size:=by
 unfold cl at e;split at e <;> try contradiction
 rename_i q;exact(aZ.mp q).1
structure Ch (D:Nat->Prop) (h h':Hp):Prop where
 size:h.size<=h'.size
 same:∀r,r<h.size->¬D r->h'[r]?=h[r]?
abbrev Gr (h h':Hp):Prop:=Ch (λ_=>False) h h'
def Ch.refl (D:Nat->Prop) (h:Hp):Ch D h h:=⟨aP _,λ_ _ _=>rfl⟩
def Ch.trans {D D' E:Nat->Prop} {a b c:Hp} (h:Ch D a b) (k:Ch D' b c) (h1:∀r,r<a.size->D r->E r) (h2:∀r,r<a.size->D' r->E r):Ch E a c:=
 ⟨cD h.size k.size,λr q u=>(k.same r (dA q h.size) λe=>u (h2 r q e)).trans (h.same r q λe=>u (h1 r q e))⟩
def Ch.mono {D D':Nat->Prop} {a b:Hp} (h:Ch D a b) (u:∀r,r<a.size->D r->D' r):Ch D' a b:=⟨h.size,λr q B=>h.same r q λe=>B (u r q e)⟩
def Gr.trans {a b c:Hp} (h:Gr a b) (k:Gr b c):Gr a c:=Ch.trans h k (λ_ _ e=>e) (λ_ _ e=>e)
def Ch.push (h:Hp) (o:Obj):Gr h (h.push o):=⟨by simp,λr q _=>by rw[Array.getElem?_push]; rw[if_neg (by omega)]⟩
def Ch.cl {D:Nat->Prop} {h h':Hp} (c:Ch D h h') {r o:Nat} {v:Value} (q:¬D r) (e:En.cl h r o=some v):En.cl h' r o=some v:=by
 have u:=Wi e;unfold En.cl at e⊢;rw[c.same r u q];exact e
def Ch.fz {D:Nat->Prop} {h h':Hp} (c:Ch D h h') {r o:Nat} (q:r<h.size) (u:¬D r):En.fz h' r o=En.fz h r o:=by
 unfold En.fz;rw[c.same r q u]
def R5 (h:Hp) (r o q B:Nat) (v u:Value) (hu:cl h r o=some u):cl (setAt h ⟨r,o,none⟩ v) q B=if q=r/\B=o then some v else cl h q B:=by
 have K:=Wi hu;unfold cl at hu;unfold cl setAt;rw[gO];by_cases e:r=q
 ·subst e;simp only[if_true,true_and];cases H:h[r]? with
  | none=>rw[H] at hu;contradiction
  | some J=>
   rw[H] at hu;cases J <;> simp only at hu <;> try contradiction
   rename_i c el fr;simp only[cB,Option.isSome_none,cC,if_false];have F:=(aZ.mp hu).1;rw[bI];by_cases G:o=B
   ·subst G;simp[F]
   ·rw[if_neg G,if_neg (λh=>G h.symm)]
 ·rw[if_neg e,if_neg (λh=>e h.1.symm)]
def J7 (h:Hp) (a:Addr) (q u:Nat) (v:Value):fz (setAt h a v) q u=fz h q u:=by
 unfold fz setAt;rw[gO];by_cases e:a.block=q
 ·rw[if_pos e];cases F:h[q]? with
  | none=>rfl
  | some B=>cases B <;> rfl
 ·rw[if_neg e]
def M8 (h:Hp) (a:Addr) (v:Value):(setAt h a v).size=h.size:=by simp[setAt]
def QJ (h:Hp) (r o:Nat) (v:Value):Ch (λx=>x=r) h (setAt h ⟨r,o,none⟩ v):=
 ⟨by simp[setAt],λx _ q=>by unfold setAt; rw[gO,if_neg (λe=>q e.symm)]⟩
structure Up (h h':Hp) (r o:Nat) (vs:List Value):Prop where
 size:h'.size=h.size
 ch:Ch (λx=>x=r) h h'
 fz:∀r' o',fz h' r' o'=fz h r' o'
 put:∀j v,vs[j]?=some v->cl h' r (o+j)=some v
 lQ:∀o',(∀j,j<vs.length->o'≠o+j)->cl h' r o'=cl h r o'
def Up.some {h h':Hp} {r o:Nat} {vs:List Value} (u:Up h h' r o vs) {q:Nat} (e:(cl h r q).isSome=true):(cl h' r q).isSome=true:=by
 by_cases k:∃j,j<vs.length/\q=o+j
 ·obtain⟨j,B,rfl⟩:=k;rw[u.put j vs[j] (by simp[B])];rfl
 ·rw[u.lQ q (λj B e=>k ⟨j,B,e⟩)];exact e
def vR {r o:Nat}:∀(vs:List Value) (i:Nat) (h:Hp),(∀v,v∈vs->v.oneCell'=true)->(∀j,j<vs.length->(cl h r (o+i+j)).isSome=true/\fz h r (o+i+j)=false)->
  ∃h',pS h ⟨r,o,none⟩ i vs=some h'/\Up h h' r (o+i) vs
 | [],i,h,_,_=>⟨h,rfl,rfl,.refl _ _,λ_ _=>rfl,λj v e=>by simp at e,λ_ _=>rfl⟩
 | v::vs,i,h,h1,h2=>by
  have B:=h2 0 (by simp);rw[dG] at B;obtain⟨u,hu⟩:=fX.mp B.1;have H:∀F q,cl (setAt h ⟨r,o+i,none⟩ v) F q=if F=r/\q=o+i then some v else cl h F q:=λF q=>R5 h r (o+i) F q v u hu
  obtain⟨h',e,up⟩:=vR vs (i+1) (setAt h ⟨r,o+i,none⟩ v) (λx J=>h1 x (aL _ J)) (λj G=>by
   have:=h2 (j+1) (by simpa using G);have e:o+(i+1)+j=o+i+(j+1):=by omega
   rw[e,J7,H,if_neg (by omega)];exact this)
  refine⟨h',?_,?_⟩
  ·simp only[pS,Bu,h1 v (by simp),vK,hu,J4,B.2];exact e
  ·refine⟨up.size.trans (M8 _ _ _),Ch.trans (QJ h r (o+i) v) up.ch (λ_ _ e=>e) (λ_ _ e=>e),λF q=>(up.fz F q).trans (J7 _ _ _ _ _),λj w G=>?_,λq ho=>?_⟩
   ·cases j with
    | zero=>
     simp only[aX,aD] at G;subst G;rw[dG,up.lQ (o+i) (λj _=>by omega),H,if_pos ⟨rfl,rfl⟩]
    | succ j=>
     have e:o+i+(j+1)=o+(i+1)+j:=by omega
     rw[e];exact up.put j w (by simpa using G)
   ·rw[up.lQ q (λj G=>by have:=ho (j+1) (by simpa using G); omega),H,if_neg (λe=>ho 0 (by simp) (by omega))]
def Au {h:Hp} {r o:Nat}:∀(vs:List Value) (i:Nat),(∀j v,vs[j]?=some v->cl h r (o+i+j)=some v)->rZ h ⟨r,o,none⟩ i vs.length=some vs
 | [],_,_=>rfl
 | v::vs,i,q=>by
  have u:=q 0 v rfl;rw[dG] at u;have B:=Au (h:=h) (r:=r) (o:=o) vs (i+1) (λj w F=>by
   have:=q (j+1) w (by simpa using F);have e:o+(i+1)+j=o+i+(j+1):=by omega
   rw[e];exact this)
  simp only[aH,rZ,Bu,vK,u,B,dT]
structure pT (α:Type) where
 n:Nat
 c:α->List Value
 len:∀a,(c a).length=n
 one:∀a v,v∈c a->v.oneCell'=true
def Row {α:Type} (E:pT α) (h:Hp) (r o:Nat) (x:α):Prop:=∀j v,(E.c x)[j]?=some v->cl h r (o+j)=some v
def Row.ch {α:Type} {E:pT α} {D:Nat->Prop} {h h':Hp} {r o:Nat} {x:α} (e:Row E h r o x) (c:Ch D h h') (q:¬D r):Row E h' r o x:=λj v hv=>c.cl q (e j v hv)
def Row.kc {α:Type} {E:pT α} {h:Hp} {r o:Nat} {x:α} (e:Row E h r o x) {n:Nat} (q:n=E.n):kc n (.pointer (some ⟨r,o,none⟩)) h=some (.agg (E.c x).toArray):=by
 unfold En.kc;have:=Au (h:=h) (r:=r) (o:=o) (E.c x) 0 (λj v hv=>e j v hv);rw[E.len] at this;simp only[q,this,dT]
def Row.mH {α:Type} {E:pT α} {h:Hp} {r o j:Nat} {x:α} (e:Row E h r o x) {v:Value} (hv:(E.c x)[j]?=some v):mH (.pointer (some ⟨r,o+j,none⟩)) h=some v:=by
 rw[W4];exact e j v hv
def Row.yK {α:Type} {E:pT α} {h:Hp} {r o:Nat} {x:α} (e:Row E h r o x) {v:Value} (hv:(E.c x)[0]?=some v):En.mH (.pointer (some ⟨r,o,none⟩)) h=some v:=e.mH (j:=0) hv
def Sl {α:Type} (E:pT α) (h:Hp) (v:Value) (xs:List α):Prop:=
 ∃a cap,v=.slice a xs.length cap/\xs.length<=cap/\(a=none->cap=0)/\∀i x,xs[i]?=some x->∃r o,a=some ⟨r,o,none⟩/\Row E h r (o+i*E.n) x
def kZ:Value->Option Nat
 | .slice (some a) _ _=>some a.block
 | _=>none
def Ow {α:Type} (E:pT α) (h:Hp) (v:Value) (xs:List α):Prop:=
 (v=.slice none 0 0/\xs=[])\/∃r o cap,v=.slice (some ⟨r,o,none⟩) xs.length cap/\xs.length<=cap/\r<h.size/\(∀i x,xs[i]?=some x->Row E h r (o+i*E.n) x)/\
  ∀j,j<cap*E.n->(cl h r (o+j)).isSome=true/\fz h r (o+j)=false
section
variable {α:Type} {E:pT α} {h h':Hp} {v:Value} {xs:List α} {D:Nat->Prop}
def Ow.sl (H:Ow E h v xs):Sl E h v xs:=by
 rcases H with ⟨rfl,rfl⟩| ⟨r,o,cap,rfl,u,_,B,_⟩
 ·exact⟨none,0,rfl,by simp,λ_=>rfl,λi x q=>by simp at q⟩
 ·exact⟨_,cap,rfl,u,λe=>by simp at e,λi x q=>⟨r,o,rfl,B i x q⟩⟩
def Sl.ch (H:Sl E h v xs) (c:Ch D h h') (q:∀r,kZ v=some r->¬D r):Sl E h' v xs:=by
 obtain⟨a,cap,rfl,h1,h2,u⟩:=H;refine⟨a,cap,rfl,h1,h2,λi x B=>?_⟩;obtain⟨r,o,rfl,F⟩:=u i x B;exact⟨r,o,rfl,F.ch c (q r rfl)⟩
def Sl.gr (H:Sl E h v xs) (c:Gr h h'):Sl E h' v xs:=H.ch c λ_ _ e=>e
def Ow.ch (H:Ow E h v xs) (c:Ch D h h') (q:∀r,kZ v=some r->¬D r):Ow E h' v xs:=by
 rcases H with ⟨rfl,rfl⟩| ⟨r,o,cap,rfl,F,B,G,hw⟩
 ·exact .inl ⟨rfl,rfl⟩
 ·refine .inr ⟨r,o,cap,rfl,F,dA B c.size,λi x J=>(G i x J).ch c (q r rfl),λj K=>?_⟩;obtain⟨a,b⟩:=hw j K;obtain⟨u,hu⟩:=fX.mp a;exact⟨by rw[c.cl (q r rfl) hu]; rfl,by rw[c.fz B (q r rfl)]; exact b⟩
def Ow.nil:Ow E h (.slice none 0 0) []:=.inl ⟨rfl,rfl⟩
def Sl.nil:Sl E h (.slice none 0 0) []:=Ow.nil.sl
def Sl.ln (H:Sl E h v xs):Ej v=some (.int .i64 xs.length):=by obtain⟨a,cap,rfl,_⟩:=H; rfl
def Ow.lt (H:Ow E h v xs) {r:Nat} (q:kZ v=some r):r<h.size:=by
 rcases H with ⟨rfl,rfl⟩| ⟨u,o,cap,rfl,B,F,_⟩
 ·simp[kZ] at q
 ·simp only[kZ,aD] at q;omega
def Sl.ix (H:Sl E h v xs) {i:Nat} {x:α} (u:xs[i]?=some x) {n:Nat} (B:n=E.n) {k:IntKind} {z:Int} (F:z=i) :
  ∃r o,sL n v (.int k z)=some (.pointer (some ⟨r,o,none⟩))/\Row E h r o x/\kZ v=some r:=by
 obtain⟨a,cap,rfl,h1,h2,G⟩:=H;obtain⟨r,o,rfl,J⟩:=G i x u;have q:=(aC.mp u).1;subst F B;exact⟨r,o+i*E.n,by simp[sL,q,Bu],J,rfl⟩
def Sl.whole (H:Sl E h v xs) {n:Nat} (u:n=E.n) {k:Value->Prop} {i:Nat} {x:α} (B:xs[i]?=some x) {q:IntKind} {z:Int} (F:z=i) (G:k (.agg (E.c x).toArray)) :
  Vb (sL n v (.int q z)) λp=>Vb (kc n p h) k:=by
 obtain⟨r,o,e,J,_⟩:=H.ix B u F (k:=q);exact vb e (vb (J.kc u) G)
def Sl.one (H:Sl E h v xs) {n:Nat} (B:n=E.n) {k:Value->Prop} {i:Nat} {x:α} (F:xs[i]?=some x) {q:IntKind} {z:Int} (G:z=i) {u:Value} (hu:(E.c x)[0]?=some u) (J:k u) :
  Vb (sL n v (.int q z)) λp=>Vb (mH p h) k:=by
 obtain⟨r,o,e,K,_⟩:=H.ix F B G (k:=q);exact vb e (vb (K.yK hu) J)
def Sl.sN (H:Sl E h v xs) {n:Nat} (B:n=E.n) {k:Value->Prop} {i:Nat} {x:α} (F:xs[i]?=some x) {q:IntKind} {z:Int} (G:z=i) {j:Nat} {u:Value} (hu:(E.c x)[j]?=some u) (J:k u) :
  Vb (sL n v (.int q z)) λp=>Vb (fa j p) λp=>Vb (mH p h) k:=by
 obtain⟨r,o,e,K,_⟩:=H.ix F B G (k:=q);exact vb e (vb (oi _ _ _) (vb (K.mH hu) J))
def DX (E:pT α):∀(xs:List α) (j:Nat) (u:Value),(xs.flatMap E.c)[j]?=some u->∃i x q,xs[i]?=some x/\(E.c x)[q]?=some u/\j=i*E.n+q
 | [],j,u,h=>by simp at h
 | x::xs,j,u,h=>by
  rw[dE] at h;by_cases B:j<(E.c x).length
  ·rw[aY B] at h;exact⟨0,x,j,rfl,h,by simp⟩
  ·rw[bD (by omega),E.len] at h;obtain⟨i,y,q,h1,h2,F⟩:=DX E xs _ u h;rw[E.len] at B;exact⟨i+1,y,q,by simpa using h1,h2,by rw[cN]; omega⟩
def qS (E:pT α):∀xs:List α,(xs.flatMap E.c).length=xs.length*E.n
 | []=>by simp
 | x::xs=>by rw[dE,aF,qS E xs,E.len,aH,cN];omega
def Sl.row (H:Sl E h v xs) {n:Nat} (B:n=xs.length*E.n):rowOf v n h=some (xs.flatMap E.c):=by
 obtain⟨a,cap,rfl,h1,h2,q⟩:=H;subst B;cases xs with
 | nil=>
  cases a with
  | none=>rfl
  | some a=>simp[rowOf,rZ]
 | cons F G=>
  obtain⟨r,o,rfl,_⟩:=q 0 F rfl;unfold rowOf;rw[<-qS];refine Au _ _ λj u J=>?_;obtain⟨i,x,K,M,O,rfl⟩:=DX E _ j u J;obtain⟨R,T,e,Q⟩:=q i x M;simp only[aD,Addr.mk.injEq,and_true] at e;obtain⟨rfl,rfl⟩:=e;have:=Q K u O;rw[dG,<-fQ];exact this
end
def yo (z:Array Value) (n:Nat):(Builtin.zeroCells z n).size=n*z.size:=by simp[Builtin.zeroCells]
def ap {α:Type} {E:pT α} {e:TypeId} {zero:Array Value} {n bytes:Nat} {s x:Value} {h:Hp} {xs ys:List α} {k:Value->Hp->Prop}
  (hs:Ow E h s xs) (V:Sl E h x ys) (hn:n=E.n) (hz:zero.size=E.n) (X:(xs.length+ys.length)*bytes<=140737488355328) (Z:xs.length+ys.length<=9223372036854775807)
  (Q:∀v h',Ow E h' v (xs++ys)->Ch (λr=>kZ s=some r) h h'->(kZ v=kZ s\/kZ v=some h.size)->k v h'):Ap e zero n bytes s x h k:=by
 obtain⟨xa,xc,ex,aS,bY,R⟩:=id V;have B:=V.row rfl;subst hn;have O:=hs.sl;have F:=O.row rfl;have grow:∀(sn:Option Addr) (sc:Nat),s=.slice sn xs.length sc->∀cap,xs.length+ys.length<=cap->k (.slice (some ⟨h.size,0,none⟩) (xs.length+ys.length) cap) (h.push (.cells ((xs.flatMap E.c).toArray++(ys.flatMap E.c).toArray++Builtin.zeroCells zero (cap - (xs.length+ys.length))) e)):=by
  intro sn sc aT cap H;refine Q _ _ (.inr ⟨h.size,0,cap,by simp,by simpa using H,by simp,λi y G=>?_,λj K=>?_⟩) ((Ch.push h _).mono λ_ _ e=>e.elim) (.inr rfl)
  ·intro j u hu;have J:((xs++ys).flatMap E.c)[i*E.n+j]?=some u:=by
    clear Q V B F O hs X Z H aT R;generalize xs++ys=zs at G;induction zs generalizing i with
    | nil=>simp at G
    | cons z zs ih=>
     rw[dE];cases i with
     | zero=>
      simp only[aX,aD] at G;subst G;rw[eZ,cP,aY (aC.mp hu).1];exact hu
     | succ i=>
      have:=ih i (by simpa using G);rw[bD (by rw[E.len,cN]; omega),E.len];have e2:(i+1)*E.n+j - E.n=i*E.n+j:=by rw[cN];omega
      rw[e2];exact this
   have T:=(aC.mp J).1;unfold cl;simp only[cV,cP];rw[fS (by rw[fB,aF] at T; simpa using T)];rw[fB] at J;simpa using J
  ·unfold cl fz;simp only[cV,cP];refine⟨?_,by simp⟩;have:j<((xs.flatMap E.c).toArray++(ys.flatMap E.c).toArray++Builtin.zeroCells zero (cap - (xs.length+ys.length))).size:=by
    have h1:=qS E xs;have h2:=qS E ys;simp only[iD,gI,yo,hz,h1,h2];have:cap=xs.length+ys.length+(cap - (xs.length+ys.length)):=by omega
    rw[this,eT,eT] at K;exact K
   rw[bZ this];rfl
 rcases hs with ⟨rfl,rfl⟩| ⟨r,o,cap,rfl,H,hr,M,hw⟩
 ·refine⟨none,0,0,xa,ys.length,xc,_,rfl,ex,B,λhle=>?_,λ_=>⟨by simpa using X,by simpa using Z,_,F,λcap hc _=>by simpa using grow none 0 rfl cap (by simpa using hc)⟩⟩;have:ys=[]:=cF.mp (by omega);subst this;simp only[aJ,dG];exact Q _ _ (.inl ⟨rfl,rfl⟩) (.refl _ _) (.inl rfl)
 ·refine⟨_,xs.length,cap,xa,ys.length,xc,_,rfl,ex,B,λhle=>?_,λ_=>⟨X,Z,_,F,λU hc _=>grow _ _ rfl U hc⟩⟩;have ea:(⟨r,o,none⟩:Addr).add (xs.length*E.n)=⟨r,o+xs.length*E.n,none⟩:=Bu _ _ _;show ∃h',pS h ((⟨r,o,none⟩:Addr).add (xs.length*E.n)) 0 (ys.flatMap E.c)=some h'/\_;rw[ea];obtain⟨h',e1,up⟩:=vR (r:=r) (o:=o+xs.length*E.n) (ys.flatMap E.c) 0 h (λu hu=>by
    obtain⟨y,_,G⟩:=iL.mp hu;exact E.one y u G) (λj K=>by
    rw[qS] at K;have:=hw (xs.length*E.n+j) (by
     have:(xs.length+ys.length)*E.n<=cap*E.n:=dF _ hle;rw[eT] at this;omega)
    rw[dG,fQ];exact this)
  refine⟨h',e1,Q _ _ (.inr ⟨r,o,cap,by simp,by simpa using hle,by rw[up.size]; exact hr,λi y G j u hu=>?_,λj K=>?_⟩) (up.ch.mono λx _ e=>by subst e; rfl) (.inl rfl)⟩
  ·have K:j<E.n:=by have:=(aC.mp hu).1;rwa [E.len] at this
   by_cases hi:i<xs.length
   ·rw[aY hi] at G;rw[up.lQ _ (λj' _=>by
     have:(i+1)*E.n<=xs.length*E.n:=dF _ hi;rw[cN] at this;omega)]
    exact M i y G j u hu
   ·rw[bD (by omega)] at G;have J:(ys.flatMap E.c)[(i - xs.length)*E.n+j]?=some u:=by
     generalize i - xs.length=q at G;clear Q V B F O X Z H M hw grow up e1 hle R aS ex;induction ys generalizing q with
     | nil=>simp at G
     | cons z zs ih=>
      rw[dE];cases q with
      | zero=>
       simp only[aX,aD] at G;subst G;rw[eZ,cP,aY (by rw[E.len]; exact K)];exact hu
      | succ q=>
       have:=ih q (by simpa using G);rw[bD (by rw[E.len,cN]; omega),E.len];have e2:(q+1)*E.n+j - E.n=q*E.n+j:=by rw[cN];omega
       rw[e2];exact this
    have:=up.put _ _ J;have hh:o+i*E.n+j=o+xs.length*E.n+0+((i - xs.length)*E.n+j):=by
     obtain⟨q,rfl⟩:∃q,i=xs.length+q:=⟨i - xs.length,by omega⟩;rw[Nat.add_sub_cancel_left,eT];omega
    rw[hh];exact this
  ·exact⟨up.some (hw j K).1,by rw[up.fz]; exact(hw j K).2⟩
section
variable {α:Type} {E:pT α} {h h':Hp} {v:Value} {xs:List α}
def Oc:∀{xs:List α} {i:Nat} {y:α} {j:Nat} {u:Value},xs[i]?=some y->(E.c y)[j]?=some u->(xs.flatMap E.c)[i*E.n+j]?=some u
 | [],_,_,_,_,h,_=>by simp at h
 | z::B,i,y,j,u,q,hu=>by
  rw[dE];cases i with
  | zero=>
   simp only[aX,aD] at q;subst q;rw[eZ,cP,aY (aC.mp hu).1];exact hu
  | succ i=>
   have:=Oc (xs:=B) (i:=i) (by simpa using q) hu;rw[bD (by rw[E.len,cN]; omega),E.len];have F:(i+1)*E.n+j - E.n=i*E.n+j:=by rw[cN];omega
   rw[F];exact this
def Ow.new {cs:Array Value} {e:TypeId} {cap:Nat} (B:∀(j:Nat) (u:Value),(xs.flatMap E.c)[j]?=some u->cs[j]?=some u) (F:xs.length<=cap) (q:cap*E.n<=cs.size) :
  Ow E (h.push (.cells cs e)) (.slice (some ⟨h.size,0,none⟩) xs.length cap) xs:=by
 refine .inr ⟨h.size,0,cap,rfl,F,by simp,λi x G j u hu=>?_,λj H=>?_⟩
 ·unfold cl;simp only[cV,cP];exact B _ _ (Oc G hu)
 ·unfold cl fz;simp only[cV,cP];exact⟨by rw[bZ (by omega)]; rfl,by simp⟩
def Ow.lit {cs:List Value} {e:TypeId} {len:Nat} (q:cs=xs.flatMap E.c) (B:xs.length=len):Ow E (h.push (.cells ⟨cs⟩ e)) (.slice (some ⟨h.size,0,none⟩) len len) xs:=by
 subst B q;exact Ow.new (λ(j:Nat) (u:Value) F=>by simpa using F) (aP _) (by rw[gI,qS]; exact aP _)
def Fo (off:Nat):∀(l:List Value) (i:Nat) (cs:List Value),off+i+l.length<=cs.length->((l.zipIdx i).foldl (λ(cs:Array Value) (x:Value × Nat)=>cs.setIfInBounds (off+x.2) x.1) cs.toArray).toList=cs.take (off+i)++l++cs.drop (off+i+l.length)
 | [],i,cs,_=>by simp
 | u::l,i,cs,h=>by
  rw[aH] at h;rw[List.zipIdx_cons,dY];have e:cs.toArray.setIfInBounds (off+i) u=(cs.set (off+i) u).toArray:=by simp
  simp only[e];rw[Fo off l (i+1) (cs.set (off+i) u) (by rw[aV]; omega),List.set_eq_take_append_cons_drop,if_pos (by omega)];have q:(cs.take (off+i)).length=off+i:=by rw[aR];omega
  have B:(cs.take (off+i)++u::cs.drop (off+i+1)).take (off+(i+1))=cs.take (off+i)++[u]:=by
   rw[List.take_append,q,aW (by omega),show off+(i+1) - (off+i)=1 by omega];rfl
  have F:(cs.take (off+i)++u::cs.drop (off+i+1)).drop (off+(i+1)+l.length)=cs.drop (off+i+(l.length+1)):=by
   rw[List.drop_append,q,eO (by omega),eK,show off+(i+1)+l.length - (off+i)=l.length+1 by omega,List.drop_succ_cons,jC];congr 1;omega
  rw[B,F,aH];simp
def Om {n:Nat}:∀(us:List Value) (i:Nat) (cs:List Value),cs.length=(i+us.length)*n->(∀u,u∈us->u.cells.size=n)->
  Instr.fill (λi=>some (i*n,n)) cs.toArray ((us.zipIdx i).map λx=>(x.2,x.1))=some (cs.take (i*n)++us.flatMap λu=>u.cells.toList).toArray
 | [],i,cs,h,_=>by
  simp only[List.zipIdx_nil,dS,Instr.fill,List.flatMap_nil,cX];rw[aW (by simp at h; omega)]
 | u::us,i,cs,h,hu=>by
  have h1:=hu u (by simp);rw[List.zipIdx_cons,bS];unfold Instr.fill;simp only[aH] at h;have hm:(i+(us.length+1))*n=i*n+n+us.length*n:=by rw[eT,eT,Nat.one_mul];omega
  rw[hm] at h;have F:(u.cells.size≠n||i*n+u.cells.size > cs.toArray.size)=false:=by simp[h1];omega
  simp only[F,cC,if_false];have G:(u.cells.zipIdx.foldl (λcs x=>cs.setIfInBounds (i*n+x.2) x.1) cs.toArray)=(cs.take (i*n)++u.cells.toList++cs.drop (i*n+n)).toArray:=by
   apply fH;rw[<-gY,Array.toList_zipIdx,Fo]
   ·have:u.cells.toList.length=n:=by simpa using h1
    rw[dG,this]
   ·have:u.cells.toList.length=n:=by simpa using h1
    rw[dG,this];omega
  have q:u.cells.toList.length=n:=by simpa using h1
  have B:(cs.take (i*n)).length=i*n:=by rw[aR];omega
  rw[G,Om us (i+1) _ (by rw[aF,aF,B,q,cI,eT,eT,Nat.one_mul]; omega) (λu h=>hu u (aL _ h))];congr 2;rw[cN,dE,<-cY];congr 1;rw[List.take_append,aF,B,q,fA,gM,cX,aW (by rw[aF,B,q]; omega)]
def Ly {zero:Array Value} {n len:Nat} {e:TypeId} {us:List Value} {parts:List (Nat × Value)} (q:parts=us.zipIdx.map λx=>(x.2,x.1)) (B:us.length=len) (hu:∀u,u∈us->u.cells.size=n) :
  ED zero n len e parts h=some (.slice (some ⟨h.size,0,none⟩) len len,h.push (.cells ⟨us.flatMap λu=>u.cells.toList⟩ e)):=by
 unfold ED;subst q;have:=Om (n:=n) us 0 ((Array.range (len*n)).map (zero[· % zero.size]!)).toList (by simp[B]) hu;rw[gT] at this;rw[this];simp
def Ow.ix (H:Ow E h v xs) {i:Nat} {x:α} (q:xs[i]?=some x) {n:Nat} (B:n=E.n) {k:IntKind} {z:Int} (F:z=i) :
  ∃r o cap,v=.slice (some ⟨r,o,none⟩) xs.length cap/\sL n v (.int k z)=some (.pointer (some ⟨r,o+i*E.n,none⟩))/\Row E h r (o+i*E.n) x:=by
 rcases H with ⟨rfl,rfl⟩| ⟨r,o,cap,rfl,J,K,G,hw⟩
 ·simp at q
 ·have u:=(aC.mp q).1;subst F B;exact⟨r,o,cap,rfl,by simp[sL,u,Bu],G i x q⟩
def Ow.put (H:Ow E h v xs) {i:Nat} {x y:α} (X:xs[i]?=some x) {j:Nat} {vs:List Value} (hy:∀B u,(E.c y)[B]?=some u->if j<=B/\B<j+vs.length then vs[B - j]?=some u else(E.c x)[B]?=some u)
  (hj:j+vs.length<=E.n) (M:∀u,u∈vs->u.oneCell'=true) {n:Nat} (hn:n=E.n) {q:IntKind} {z:Int} (hz:z=i) :
  ∃r o h',sL n v (.int q z)=some (.pointer (some ⟨r,o,none⟩))/\pS h ⟨r,o+j,none⟩ 0 vs=some h'/\Ow E h' v (xs.set i y)/\Ch (λr=>kZ v=some r) h h'/\h'.size=h.size:=by
 obtain⟨r,o,cap,rfl,e1,O⟩:=H.ix X hn hz (k:=q);have Q:=(aC.mp X).1;rcases H with ⟨e,_⟩| ⟨r',o',Z,e,hl,hb,hr,hw⟩
 ·simp at e
 simp only[Value.slice.injEq,aD,Addr.mk.injEq,and_true,true_and] at e;obtain⟨⟨rfl,rfl⟩,rfl⟩:=e;have hmul:i*E.n+E.n<=xs.length*E.n:=by have:(i+1)*E.n<=xs.length*E.n:=dF _ Q;rw[cN] at this;exact this
 have U:xs.length*E.n<=cap*E.n:=dF _ hl;obtain⟨h',e2,up⟩:=vR (r:=r) (o:=o+i*E.n+j) vs 0 h M (λB F=>by
  have:=hw (i*E.n+j+B) (by omega);rw[dG,show o+i*E.n+j+B=o+(i*E.n+j+B) by omega];exact this)
 refine⟨r,o+i*E.n,h',e1,e2,.inr ⟨r,o,cap,by simp,by simpa using hl,by rw[up.size]; exact hb,λJ x' G B u hu=>?_,λB F=>?_⟩,up.ch.mono λx _ e=>by subst e; rfl,up.size⟩
 ·have F:B<E.n:=by have:=(aC.mp hu).1;rwa [E.len] at this
  rw[dG] at up;by_cases K:J=i
  ·subst K;rw[fI Q,aD] at G;subst G;have:=hy B u hu;split at this
   ·rename_i hc;have h3:=up.put (B - j) u this;rw[show o+J*E.n+j+(B - j)=o+J*E.n+B by omega] at h3;exact h3
   ·rename_i hc;rw[up.lQ _ (λq hq=>by omega)];exact O B u this
  ·rw[List.getElem?_set_ne (λe=>K e.symm)] at G;have V:∀q,q<vs.length->o+J*E.n+B≠o+i*E.n+j+q:=by
    intro q hq;rcases Nat.lt_or_gt_of_ne K with R | T
    ·have:(J+1)*E.n<=i*E.n:=dF _ R;rw[cN] at this;omega
    ·have:(i+1)*E.n<=J*E.n:=dF _ T;rw[cN] at this;omega
   rw[up.lQ _ V];exact hr J x' G B u hu
 ·exact⟨up.some (hw B F).1,by rw[up.fz]; exact(hw B F).2⟩
def NJ {r o n:Nat} {cs:List Value} (q:cs.length=n):kq n (.pointer (some ⟨r,o,none⟩)) (.agg ⟨cs⟩) h=pS h ⟨r,o,none⟩ 0 cs:=by
 have:Nat.beq (Value.cells (.agg ⟨cs⟩)).size n=true:=by simp[Value.cells,q]
 simp only[kq,this];rfl
def TY {r o:Nat} {u:Value} (hu:u.oneCell'=true):kq 1 (.pointer (some ⟨r,o,none⟩)) u h=pS h ⟨r,o,none⟩ 0 [u]:=by
 cases u <;> first | rfl | contradiction
def Ow.set (H:Ow E h v xs) {i:Nat} (hi:i<xs.length) (y:α) {n:Nat} (B:n=E.n) {q:IntKind} {z:Int} (F:z=i) {k:Hp->Prop} {w:Value} (hw:w=.agg ⟨E.c y⟩)
  (G:∀h',Ow E h' v (xs.set i y)->Ch (λr=>kZ v=some r) h h'->k h'):Vb (sL n v (.int q z)) λp=>Sb (kq n p w h) k:=by
 obtain⟨r,o,h',J,K,M,O,_⟩:=H.put (aB hi) (y:=y) (j:=0) (vs:=E.c y) (λQ u hu=>by
  rw[if_pos ⟨aO _,by have:=(aC.mp hu).1; omega⟩];exact hu) (by rw[E.len];omega) (E.one y) B F (q:=q)
 subst hw;exact vb J (sb ((NJ (by rw[E.len,B])).trans K) (G h' M O))
def Ow.Dw (H:Ow E h v xs) {i:Nat} {x:α} (F:xs[i]?=some x) (y:α) {n:Nat} (G:n=E.n) {q:IntKind} {z:Int} (J:z=i) {j:Nat} {k:Hp->Prop} {w:Value} (hw:w.oneCell'=true) (V:j<E.n) (K:E.c y=(E.c x).set j w)
  (M:∀h',Ow E h' v (xs.set i y)->Ch (λr=>kZ v=some r) h h'->k h'):Vb (sL n v (.int q z)) λp=>Vb (fa j p) λp=>Sb (kq 1 p w h) k:=by
 obtain⟨r,o,h',O,Q,R,T,_⟩:=H.put F (y:=y) (j:=j) (vs:=[w]) (λU u hu=>by
  rw[K,bH] at hu;split
  ·rename_i B;have:j=U:=by simp only[aH,aJ] at B;omega
   subst this;rw[if_pos rfl] at hu;split at hu <;> simp_all
  ·rename_i B;rw[if_neg (λe=>B (by subst e; simp))] at hu;exact hu) (by simp;omega) (by simpa using hw) G J (q:=q)
 exact vb O (vb (oi _ _ _) (sb ((TY hw).trans Q) (M h' R T)))
def MH {n:Nat} {a:Option Addr} {len cap:Nat} {lo hi:Option Value} {l u:Nat} (q:lo=none/\l=0\/∃k z,lo=some (.int k z)/\z=l) (hu:hi=none/\u=len\/∃k z,hi=some (.int k z)/\z=u) (h1:l<=u) (h2:u<=cap) :
  xO n (.slice a len cap) lo hi none=some (.slice (if cap=l then a else a.map (·.add (l*n))) (u - l) (cap - l)):=by
 have B:MF hi len cap=some u:=by
  rcases hu with ⟨rfl,rfl⟩| ⟨k,z,rfl,rfl⟩
  ·rfl
  ·simp[MF,Wm,h2]
 have F:F6 lo u=some l:=by
  rcases q with ⟨rfl,rfl⟩| ⟨k,z,rfl,rfl⟩
  ·rfl
  ·simp[F6,Wm,h1]
 simp[xO,OZ,QS,B,F,P4]
def Sl.sub (H:Sl E h v xs) {n:Nat} (G:n=E.n) {lo hi:Option Value} {l u:Nat} (J:lo=none/\l=0\/∃k z,lo=some (.int k z)/\z=l) (hu:hi=none/\u=xs.length\/∃k z,hi=some (.int k z)/\z=u) (h1:l<=u) (h2:u<=xs.length) :
  ∃w,xO n v lo hi none=some w/\Sl E h w ((xs.take u).drop l)/\(kZ w=kZ v):=by
 obtain⟨a,cap,rfl,K,M,O⟩:=H;refine⟨_,MH J hu h1 (cD h2 K),?_,?_⟩
 ·refine⟨_,_,by rw[cI,aR]; congr 1; omega,by rw[cI,aR]; omega,?_,λi x q=>?_⟩
  ·intro e;split at e
   ·omega
   ·have:=M (by simpa using e);omega
  ·rw[fL] at q;have B:=(aC.mp q).1;rw[aR] at B;rw[dZ (by omega)] at q;obtain⟨r,o,rfl,F⟩:=O _ _ q;rw[if_neg (by omega)];refine⟨r,o+l*n,by simp[Bu],?_⟩;subst G;rw[eT] at F;rw[fQ];exact F
 ·split
  ·cases a <;> rfl
  ·cases a with
   | none=>rfl
   | some a=>simp only[kZ,cB];unfold Addr.add;split <;> rfl
def Ow.sub (H:Ow E h v xs) {n:Nat} (K:n=E.n) {hi:Option Value} {u:Nat} (hu:hi=none/\u=xs.length\/∃k z,hi=some (.int k z)/\z=u) (h2:u<=xs.length) :
  ∃w,xO n v none hi none=some w/\Ow E h w (xs.take u)/\(kZ w=kZ v):=by
 rcases H with ⟨rfl,rfl⟩| ⟨r,o,cap,rfl,F,G,J,hw⟩
 ·have:u=0:=by simpa using h2
  subst this;exact⟨_,MH (.inl ⟨rfl,rfl⟩) hu (aO _) (aO _),.inl ⟨rfl,rfl⟩,rfl⟩
 ·refine⟨_,MH (.inl ⟨rfl,rfl⟩) hu (aO _) (cD h2 F),.inr ⟨r,o,cap,?_,?_,G,λi x q=>?_,hw⟩,?_⟩
  ·rw[aR,iV h2];simp[Bu]
  ·rw[aR];omega
  ·have B:=(aC.mp q).1;rw[aR] at B;rw[dZ (by omega)] at q;exact J i x q
  ·split
   ·rfl
   ·simp[kZ,Bu]
end
def kD {α:Type} (ps:List (Int × α)) (k:Int):Option α:=(ps.find? λp=>p.1 == k).map (·.2)
def qY {α:Type}:List (Int × α)->Int->α->List (Int × α)
 | [],k,x=>[(k,x)]
 | p::ps,k,x=>if p.1=k then(k,x)::ps else p::qY ps k x
def xk {α:Type} (k k':Int) (x:α):∀ps:List (Int × α),kD (qY ps k x) k'=if k'=k then some x else kD ps k'
 | []=>by
  by_cases h:k'=k
  ·subst h;simp[kD,qY]
  ·have h':¬k=k':=λe=>h e.symm;simp[kD,qY,h,h']
 | p::ps=>by
  have u:=xk k k' x ps;unfold kD at u⊢;unfold qY;by_cases h:p.1=k
  ·rw[if_pos h];by_cases h2:k'=k
   ·subst h2;simp
   ·rw[if_neg h2,bX (by simpa using λe=>h2 e.symm),bX (by rw[h]; simpa using λe=>h2 e.symm)]
  ·rw[if_neg h];by_cases q:p.1=k'
   ·rw[cL (by simpa using q),cL (by simpa using q),if_neg (by rw[<-q]; exact h)]
   ·rw[bX (by simpa using q),bX (by simpa using q)];exact u
def Kh {α:Type} {k:Int} {x:α} {p:Int × α}:∀{ps:List (Int × α)},p∈qY ps k x->p=(k,x)\/p∈ps
 | [],h=>by simpa[qY] using h
 | q::ps,h=>by
  unfold qY at h;split at h
  ·rcases aU.mp h with e | e
   ·exact .inl e
   ·exact .inr (aL _ e)
  ·rcases aU.mp h with e | e
   ·exact .inr (by rw[e]; simp)
   ·exact(Kh e).imp id (aL _)
def Ao {α:Type} (k:Int) (x:α):∀{ps:List (Int × α)},(ps.map (·.1)).Nodup->((qY ps k x).map (·.1)).Nodup
 | [],_=>by simp[qY]
 | p::ps,h=>by
  rw[bS,eJ] at h;unfold qY;split
  ·rename_i e;rw[bS,eJ];exact⟨by simpa[<-e] using h.1,h.2⟩
  ·rename_i e;rw[bS,eJ];refine⟨λhm=>?_,Ao k x h.2⟩;obtain⟨q,u,B⟩:=dC.mp hm;rcases Kh u with rfl | u
   ·exact e B.symm
   ·exact h.1 (dC.mpr ⟨q,u,B⟩)
def Cs {α:Type} {ps:List (Int × α)} (u:(ps.map (·.1)).Nodup) {k:Int} {x:α}:(k,x)∈ps↔kD ps k=some x:=by
 induction ps with
 | nil=>simp[kD]
 | cons p ps q=>
  rw[bS,eJ] at u;have q:=q u.2;unfold kD at q⊢;by_cases h:p.1=k
  ·rw[cL (by simpa using h)];simp only[cB,aD,aU];constructor
   ·rintro(e | e)
    ·rw[<-e]
    ·exact absurd (dC.mpr ⟨_,e,h.symm⟩) u.1
   ·intro e;left;rw[<-h,<-e]
  ·rw[bX (by simpa using h),<-q,aU];constructor
   ·rintro(e | e)
    ·exact absurd (by rw[<-e]) h
    ·exact e
   ·exact .inr
structure YM {α:Type} (ik:IntKind) (E:α->Value) (es:List MapEntry) (ps:List (Int × α)) (clock:Nat):Prop where
 Tv:es.map (λe=>(e.key,e.val))=ps.map (λp=>(Value.int ik p.1,E p.2))
 born:∀e,e∈es->e.born<clock
 nodup:(es.map (·.born)).Nodup
def Mp {α:Type} (ik:IntKind) (E:α->Value) (h:Hp) (v:Value) (ps:List (Int × α)):Prop:=
 ∃r es clock,v=.map (some r)/\h[r]?=some (.map es clock)/\YM ik E es.toList ps clock
def A9:Value->Option Nat
 | .map r=>r
 | _=>none
def D3 {α:Type} {ik:IntKind} {E:α->Value} {k:Int}:∀{es:List MapEntry} {ps:List (Int × α)} (i:Nat),es.map (λe=>(e.key,e.val))=ps.map (λp=>(Value.int ik p.1,E p.2))->
  ∃r,Instr.findNow (.int ik) (.int ik k) es i=some r/\r.map (·.2)=(kD ps k).map E/\
   ∀j u,r=some (j,u)->∃B e F ps1 p ps2,es=B++e::F/\ps=ps1++p::ps2/\B.length=j - i/\i<=j/\ps1.length=B.length/\p.1=k/\(∀q∈ps1,q.1≠k)/\e.key=.int ik k
 | [],[],i,_=>⟨none,rfl,rfl,λj u e=>by simp at e⟩
 | [],_::_,_,h=>by simp at h
 | _::_,[],_,h=>by simp at h
 | e::es,p::ps,i,h=>by
  simp only[bS,eX,bV] at h;obtain⟨⟨h1,h2⟩,K⟩:=h;unfold Instr.findNow;rw[h1];simp only[Instr.sameNow,if_true];by_cases H:k=p.1
  ·subst H;simp only[beq_self_eq_true];refine⟨_,rfl,by simp[kD,h2],λj u J=>?_⟩;simp only[aD,bV] at J;obtain⟨rfl,rfl⟩:=J;exact⟨[],e,es,[],p,ps,rfl,rfl,by simp,aP _,rfl,rfl,λq G=>by simp at G,h1⟩
  ·have:(k == p.1)=false:=by simpa using H
   simp only[this];obtain⟨r,M,O,Q⟩:=D3 (k:=k) (i+1) K;refine⟨r,M,?_,λj u J=>?_⟩
   ·rw[O];unfold kD;rw[bX (by simpa using λe=>H e.symm)]
   ·obtain⟨B,e',F,ps1,R,ps2,rfl,rfl,Z,b2,T,U,V,X⟩:=Q j u J;refine⟨e::B,e',F,p::ps1,R,ps2,rfl,rfl,by simp; omega,by omega,by simp[T],U,λq G=>?_,X⟩;rcases aU.mp G with rfl | G
    ·exact λe=>H e.symm
    ·exact V q G
section
variable {α:Type} {ik:IntKind} {E:α->Value} {h h':Hp} {v:Value} {ps:List (Int × α)} {D:Nat->Prop}
def Mp.new:Mp ik E (h.push (.map #[] 0)) (.map (some h.size)) []:=⟨h.size,#[],0,rfl,by simp,rfl,λe he=>by simp at he,by simp⟩
def Mp.ch (H:Mp ik E h v ps) (c:Ch D h h') (u:∀r,A9 v=some r->¬D r):Mp ik E h' v ps:=by
 obtain⟨r,es,clock,rfl,q,he⟩:=H;exact⟨r,es,clock,rfl,(c.same r (aZ.mp q).1 (u r rfl)).trans q,he⟩
def Mp.gr (H:Mp ik E h v ps) (c:Gr h h'):Mp ik E h' v ps:=H.ch c λ_ _ e=>e
def Mp.lt (H:Mp ik E h v ps) {r:Nat} (q:A9 v=some r):r<h.size:=by
 obtain⟨B,es,clock,rfl,u,he⟩:=H;simp only[A9,aD] at q;subst q;exact(aZ.mp u).1
def Mp.look (H:Mp ik E h v ps) {zero:Value} {k:Int}:Pa (.int ik) zero false v (.int ik k) h=some (((kD ps k).map E).getD zero):=by
 obtain⟨r,es,clock,rfl,q,he⟩:=H;obtain⟨f,h1,h2,_⟩:=D3 (k:=k) 0 he.Tv;simp[Pa,yj,q,h1,h2]
def Km {p:Int × α} {k:Int} {x:α}:∀{ps1 ps2:List (Int × α)},(∀q∈ps1,q.1≠k)->p.1=k->qY (ps1++p::ps2) k x=ps1++(k,x)::ps2
 | [],ps2,_,h=>by simp[qY,h]
 | q::ps1,ps2,h1,h2=>by
  rw[dL,qY,if_neg (h1 q (by simp)),Km (λq u=>h1 q (aL _ u)) h2,dL]
def JX {k:Int} {x:α}:∀{ps:List (Int × α)},kD ps k=none->qY ps k x=ps++[(k,x)]
 | [],_=>rfl
 | p::ps,h=>by
  unfold kD at h;by_cases e:p.1=k
  ·rw[cL (by simpa using e)] at h;simp at h
  ·rw[bX (by simpa using e)] at h;rw[qY,if_neg e,JX h,dL]
def Mp.put (H:Mp ik E h v ps) (k:Int) (x:α):∃h',B9 (.int ik) v (.int ik k) (E x) h=some h'/\Mp ik E h' v (qY ps k x)/\Ch (λr=>A9 v=some r) h h'/\h'.size=h.size:=by
 obtain⟨r,es,clock,rfl,M,he⟩:=H;obtain⟨f,h1,h2,T⟩:=D3 (k:=k) 0 he.Tv;have G:=(aZ.mp M).1;have J:∀o,Ch (λQ=>A9 (.map (some r))=some Q) h (h.setIfInBounds r o):=λo=>⟨by simp,λQ _ U=>by rw[bI,if_neg (λe=>U (by rw[<-e]; rfl))]⟩;cases f with
 | some y=>
  obtain⟨j,u⟩:=y;refine⟨_,by simp only[B9,yj,M,h1]; rfl,⟨r,_,clock,rfl,by rw[bI,if_pos rfl,if_pos G],?_⟩,J _,by simp⟩;obtain⟨K,e,O,ps1,p,ps2,F,rfl,a3,a4,V,X,Z,a8⟩:=T j u rfl;have hm:(es.modify j λe=>{e with key:=.int ik k,val:=E x}).toList=K++{e with key:=.int ik k,val:=E x}::O:=by
   rw[Array.toList_modify,F];have:j=K.length:=by omega
   rw[this,List.modify_eq_take_cons_drop (by simp)];simp
  rw[hm];have R:=he.Tv;rw[F,cM,cM,bS,bS] at R;obtain⟨d1,d2⟩:=List.append_inj R (by simp[V]);simp only[eX] at d2;refine⟨?_,?_,?_⟩
  ·rw[Km Z X,cM,cM,bS,bS,d1,d2.2]
  ·intro e' q;rcases bB.mp q with m | m
   ·exact he.born e' (by rw[F]; simp[m])
   ·rcases aU.mp m with rfl | m
    ·exact he.born e (by rw[F]; simp)
    ·exact he.born e' (by rw[F]; simp[m])
  ·have:=he.nodup;rw[F] at this;simpa using this
 | none=>
  have B:kD ps k=none:=by simpa using h2.symm
  refine⟨_,by simp only[B9,yj,M,h1]; rfl,⟨r,_,clock+1,rfl,by rw[bI,if_pos rfl,if_pos G],?_⟩,J _,by simp⟩;rw[Array.toList_push];refine⟨?_,?_,?_⟩
  ·rw[JX B,cM,cM,he.Tv];rfl
  ·intro e' q;rcases bB.mp q with m | m
   ·exact Nat.lt_succ_of_lt (he.born e' m)
   ·simp only[aN] at m;subst m;exact iM _
  ·rw[cM,iE];refine⟨he.nodup,by simp,λa ha b hb=>?_⟩;obtain⟨e',hm,rfl⟩:=dC.mp ha;simp only[bS,dS,aN] at hb;have:=he.born e' hm;omega
end
def Fs (h:Hp) (v:Value):Prop:=∀r,kZ v=some r->h.size<=r
def Nw (h:Hp) (s v:Value):Prop:=∀r,kZ v=some r->kZ s=some r\/h.size<=r
section
variable {α:Type} {E:pT α} {h h0 h':Hp} {v s:Value} {xs ys:List α}
def apw {e:TypeId} {zero:Array Value} {n bytes:Nat} {x:Value} {k:Value->Hp->Prop}
  (hs:Ow E h s xs) (q:Sl E h x ys) (u:n=E.n) (B:zero.size=E.n) (F:(xs.length+ys.length)*bytes<=140737488355328) (G:xs.length+ys.length<=9223372036854775807)
  (H:∀v h',Ow E h' v (xs++ys)->Ch (λr=>kZ s=some r) h h'->Nw h s v->k v h'):Ap e zero n bytes s x h k:=
 ap hs q u B F G λv h' a b c=>H v h' a b λr e=>by
  rcases c with c | c
  ·exact .inl (c▸e)
  ·rw[c] at e;simp only[aD] at e;exact .inr (by omega)
end
structure Va {α:Type} (E:pT α) (h:Hp) (r:Nat) (x:α):Prop where
 lt:r<h.size
 row:Row E h r 0 x
 wr:∀j,j<E.n->(cl h r j).isSome=true/\fz h r j=false
abbrev kC (r:Nat):Value:=.pointer (some ⟨r,0,none⟩)
section
variable {α:Type} {E:pT α} {h h':Hp} {x y:α} {r:Nat} {D:Nat->Prop}
def Va.ch (H:Va E h r x) (c:Ch D h h') (q:¬D r):Va E h' r x:=
 ⟨dA H.lt c.size,H.row.ch c q,λj B=>by
  obtain⟨a,b⟩:=H.wr j B;obtain⟨u,hu⟩:=fX.mp a;exact⟨by rw[c.cl q hu]; rfl,by rw[c.fz H.lt q]; exact b⟩⟩
def Va.whole (H:Va E h r x) {n:Nat} (q:n=E.n):kc n (kC r) h=some (.agg ⟨E.c x⟩):=H.row.kc q
def Va.sN (H:Va E h r x) {j:Nat} {u:Value} (hu:(E.c x)[j]?=some u) {k:Value->Prop} (q:k u):Vb (fa j (kC r)) λp=>Vb (mH p h) k:=
 vb (oi _ _ _) (vb (H.row.mH hu) q)
def Va.new {cs:Array Value} {e:TypeId} (q:cs.toList=E.c x):Va E (h.push (.cells cs e)) h.size x:=by
 have hs:cs.size=E.n:=by rw[<-eL,q,E.len]
 refine⟨by simp,λj u hu=>?_,λj B=>?_⟩
 ·unfold cl;simp only[cV,cP];rw[<-q] at hu;simpa using hu
 ·unfold cl fz;simp only[cV];exact⟨by rw[bZ (by omega)]; rfl,by simp⟩
def Va.put (H:Va E h r x) {j:Nat} {vs:List Value} (K:∀B u,(E.c y)[B]?=some u->if j<=B/\B<j+vs.length then vs[B - j]?=some u else(E.c x)[B]?=some u)
  (O:j+vs.length<=E.n) (G:∀u,u∈vs->u.oneCell'=true):∃h',pS h ⟨r,j,none⟩ 0 vs=some h'/\Va E h' r y/\Ch (λq=>q=r) h h'/\h'.size=h.size:=by
 obtain⟨h',M,up⟩:=vR (r:=r) (o:=j) vs 0 h G (λB F=>by rw[dG]; exact H.wr _ (by omega));rw[dG] at up;refine⟨h',M,⟨by rw[up.size]; exact H.lt,λB u hu=>?_,λB F=>⟨up.some (H.wr B F).1,by rw[up.fz]; exact(H.wr B F).2⟩⟩,up.ch,up.size⟩;rw[cP];have:=K B u hu;split at this
 ·have J:=up.put (B - j) u this;rw[show j+(B - j)=B by omega] at J;exact J
 ·rw[up.lQ _ (λq Q=>by omega)];have:=H.row B u this;rw[cP] at this;exact this
def Va.kq (H:Va E h r x) (y:α) {n:Nat} (B:n=E.n) {w:Value} (hw:w=.agg ⟨E.c y⟩) {k:Hp->Prop} (F:∀h',Va E h' r y->Ch (λq=>q=r) h h'->k h'):Sb (kq n (kC r) w h) k:=by
 obtain⟨h',G,J,K,_⟩:=H.put (y:=y) (j:=0) (vs:=E.c y) (λM u hu=>by
  rw[if_pos ⟨aO _,by have:=(aC.mp hu).1; omega⟩];exact hu) (by rw[E.len];omega) (E.one y)
 subst hw;exact sb ((NJ (by rw[E.len,B])).trans G) (F h' J K)
end
section
variable {α:Type} {ik:IntKind} {E:α->Value} {h h':Hp} {v:Value} {ps:List (Int × α)}
def Mp.B9 (H:Mp ik E h v ps) (k:Int) (x:α) {w:Value} (hw:w=E x) {K:Hp->Prop} (q:∀h',Mp ik E h' v (qY ps k x)->Ch (λr=>A9 v=some r) h h'->K h') :
  Sb (En.B9 (.int ik) v (.int ik k) w h) K:=by
 subst hw;obtain⟨h',a,b,c,_⟩:=H.put k x;exact sb a (q h' b c)
end
def UE {α:Type} {E:pT α} {h:Hp} {H:α} {zero:Array Value} {n size bytes:Nat} {e:TypeId} (R:zero.toList=E.c H) (hs:size=E.n) (U:n<=1000000000) (J:bytes<=10000) {k:Value->Hp->Prop}
  (V:∀h',Ow E h' (.slice (some ⟨h.size,0,none⟩) n n) (List.replicate n H)->Gr h h'->h'.size=h.size+1->k (.slice (some ⟨h.size,0,none⟩) n n) h'):Eb (RB zero size bytes e (.int .i64 n) (.int .i64 n) h) k:=by
 have hm:n*bytes<=1000000000*10000:=Nat.mul_le_mul U J;refine eb (h':=h.push (.cells ((Array.range (n*size)).map (zero[· % zero.size]!)) e)) (v:=.slice (some ⟨h.size,0,none⟩) n n) ?_ (V _ ?_ (Ch.push _ _) (by simp))
 ·simp only[RB];rw[if_pos ⟨by omega,by omega,by omega,by have:((n*bytes:Nat):Int)=(n:Int)*(bytes:Int):=(by simp); omega⟩];simp
 ·have K:zero.size=E.n:=by rw[<-eL,R,E.len]
  have:=Ow.new (E:=E) (h:=h) (xs:=List.replicate n H) (cs:=(Array.range (n*size)).map (zero[· % zero.size]!)) (e:=e) (cap:=n) (λj u X=>?_) (by simp) (by simp[hs])
  ·simpa using this
  ·obtain⟨i,x,q,M,T,rfl⟩:=DX E _ j u X;have Z:x=H:=by rw[dJ] at M;split at M <;> simp_all
   subst Z;have hi:i<n:=by have:=(aC.mp M).1;simpa using this
   have O:q<E.n:=by have:=(aC.mp T).1;rwa [E.len] at this
   have Q:i*E.n+q<n*size:=by
    have:(i+1)*E.n<=n*E.n:=dF _ hi;rw[cN] at this;rw[hs];omega
   have B:(i*E.n+q) % zero.size=q:=by rw[K,Nat.mul_comm,Nat.mul_add_mod,iO O]
   have F:zero[q]?=some u:=by rw[<-Array.getElem?_toList,R];exact T
   simp only[Array.getElem?_map,Array.getElem?_range,Q,if_true,cB,B];have G:q<zero.size:=by omega
   rw[getElem!_pos zero q G];rw[bZ G] at F;exact F
end Go.En
namespace Go.En
open Go.ChangeShapes Go.WideShapes Go.ChangeAt Go.RowKit Go.Deep
section
variable {H:Type} {enc:TypeId × Value->H} {P:Program} {W W':World}
def C2 {w:World} {base:Nat} {spare:Nat->Bool} {held:Bool}:∀{ts:List TypeId} {vs:List Value} {ds:List (DataW H)} {ps:List MemPlace},DataW.TrodAll enc P w base spare held ts vs ds ps->vs.length=ts.length/\ds.length=ts.length
 | [],[],[],_,_=>⟨rfl,rfl⟩
 | _::ts,_::vs,_::ds,_,h=>by
  obtain⟨p,q,_,h2,_⟩:=h;have:=C2 h2;simp[this.1,this.2]
 | [],[],_::_,_,h=>h.elim
 | [],_::_,_,_,h=>h.elim
 | _::_,[],_,_,h=>h.elim
 | _::_,_::_,[],_,h=>h.elim
def zO (F:laidOutB P=true) (G:Below W.heap.size W W'):∀{ts:List TypeId} {vs:List Value} {ds:List (DataW H)} {ps:List MemPlace},(ts.all λt=>P.readableRec t&&decide (t<P.types.size))=true->
  (∀x∈ps,x.block<W.heap.size)->DataW.TrodAll enc P W 0 (λ_=>true) true ts vs ds ps->DataW.TrodAll enc P W' 0 (λb=>decide (b<W.heap.size)) true ts vs ds ps
 | [],[],[],_,_,_,h=>h
 | t::ts,v::vs,d::ds,ps,B,u,h=>by
  obtain⟨p,q,h1,h2,rfl⟩:=h;simp only[jG,bO,decide_eq_true_eq] at B;exact⟨p,q,Below.trod F B.1.1 B.1.2 h1 G (λx E=>u x (eF _ E)),
   zO F G (by simpa using B.2) (λx E=>u x (eR _ E)) h2,rfl⟩
 | [],[],_::_,_,_,_,h=>h.elim
 | [],_::_,_,_,_,_,h=>h.elim
 | _::_,[],_,_,_,_,h=>h.elim
 | _::_,_::_,[],_,_,_,h=>h.elim
theorem true_calls {f:FuncId} {fn:Func} {spec:ChangeSpec} {tb:TypeId} {args:Array Value} {ds gs:List (DataW H)} {before:List MemPlace}
  (X:laidOutB P=true) (Z:(fn.params.toList.all λt=>P.readableRec t&&decide (t<P.types.size))=true) (u:spec.vars=[]) (E:fn.resultTypes=#[tb]) (G:P.underlying tb=some .bool)
  (J:∀ds:List (DataW H),ds.length=fn.params.toList.length->spec.fn H (ds++[])={results:=[.lit (.bool true)],args:=ds})
  (R:DataW.Whole enc P fn.params.toList spec.vars false W args.toList ds gs before)
  (hc:Sp P f args.toList W.heap (λv h'=>v=.bool true/\Gr W.heap h')) :
  Calls P f args W (λe W'=>∃v,e=.returned v/\spec.post enc P fn false true false false W args v W'):=by
 have:=hc W rfl;rw[gT] at this;refine this.mono ?_;rintro e W' ⟨v,rfl,⟨rfl,T⟩,B⟩;refine⟨_,rfl,?_⟩;have U:Below W.heap.size W W':=⟨B.os,B.tape,B.output,T.size,λk hk=>T.same k hk (λe=>e)⟩;have F:=R;obtain⟨p,q,V,K,rfl,hn,ha⟩:=R;rw[u] at K;have M:gs=[]/\q=[]:=by
  cases gs with
  | nil=>exact⟨rfl,K⟩
  | cons g gs=>exact K.elim
 obtain⟨rfl,rfl⟩:=M;have hlen:=C2 V;have O:=J ds hlen.2;have Q:∀x∈p,x.block<W.heap.size:=λx hx=>by simpa using F.lt x (by simpa using hx)
 refine⟨ds,[],p++[],[]++[],p,[],F,?_,?_,?_,U.frame _,λh=>by cases h⟩
 ·rw[O,E];exact⟨[],[],⟨1,by simp[DataW.trod,G,Value.cells]⟩,rfl,rfl⟩
 ·rw[O];exact zO X U Z Q V
 ·rw[u,O];rfl
def BF {α:Type} {Q:Nat->α->Prop}:∀(n:Nat),(∀i,i<n->∃x,Q i x)->∃xs:List α,xs.length=n/\∀i x,xs[i]?=some x->Q i x
 | 0,_=>⟨[],rfl,λi x h=>by simp at h⟩
 | n+1,h=>by
  obtain⟨xs,u,B⟩:=BF n λi hi=>h i (by omega);obtain⟨y,E⟩:=h n (by omega);refine⟨xs++[y],by simp[u],λi x hi=>?_⟩;by_cases q:i<xs.length
  ·rw[aY q] at hi;exact B i x hi
  ·rw[bD (by omega)] at hi;have:i=n:=by
    have:=(aC.mp hi).1;simp at this;omega
   subst this;rw[u,fA] at hi;simp only[aX,aD] at hi;subst hi;exact E
theorem sl_open {α:Type} {E:pT α} {Q:α->Prop} {t e:TypeId} {v:Value} {d:DataW H} {p:List MemPlace} {base:Nat} (ht:P.underlying t=some (.slice e)) (hn:P.cellsOf e=E.n) (G:0<E.n)
  (O:∀n cs y,DataW.trod enc P W 0 (λ_=>true) true n e cs=some y->∃x,cs=E.c x/\Q x)
  (hv:Value.okWide P W .any base t v) (h:DataW.Trod enc P W 0 (λ_=>true) true t v d p):∃xs,Sl E W.heap v xs/\∀x∈xs,Q x:=by
 obtain⟨a0,B,aS,rfl⟩:=okWide_slice ht hv;obtain⟨aT,hf⟩:=h;rcases open_slice ht hf with ⟨q,_⟩| ⟨a,len,cap,m,n,D,Pl,q,_,hl,_,hm,_,hi⟩
 ·simp[Value.cells] at q;obtain⟨rfl,rfl,rfl⟩:=q;exact⟨[],.nil,λx J=>by simp at J⟩
 ·simp[Value.cells] at q;obtain⟨rfl,rfl,rfl⟩:=q;simp only[if_true] at hm;subst hm;have J:∀i,i<B->∃x,(∀j u,(E.c x)[j]?=some u->W.cell? (a.add (i*E.n+j))=some u)/\Q x:=by
   intro i R;obtain⟨bY,T,U⟩:=hi i (by omega);obtain⟨x,rfl,hq⟩:=O _ _ _ U;obtain⟨_,dO,V⟩:=World.cells?_some T;refine⟨x,λj u hu=>?_,hq⟩;have hj:j<P.cellsOf e:=by rw[hn];have:=(aC.mp hu).1;rwa [E.len] at this
   have:=V j hj;rw[hu,hn,Go.Deep.add_add] at this;exact this
  obtain⟨xs,hlen,F⟩:=BF B J;refine⟨xs,⟨some a,m,by rw[hlen],by omega,λe=>by simp at e,λi x K=>?_⟩,λx J=>?_⟩
  ·have T:=(F i x K).1;have R:=(aC.mp K).1;have M:a.spot=none:=by
    have h0:0<xs.length:=by omega
    have X:=(F 0 xs[0] (by simp)).1;have Z:0<(E.c xs[0]).length:=by rw[E.len];exact G
    have:=World.cell?_spot (X 0 _ (aB Z));simpa[Addr.add] using this
   obtain⟨b,off,spot⟩:=a;simp only at M;subst M;refine⟨b,off,rfl,λj u hu=>?_⟩;have:=T j u hu;rw[Bu,zc,vK] at this;rw[fQ];exact this
  ·obtain⟨i,hi,rfl⟩:=bK.mp J;exact(F i _ (aB hi)).2
def X4 (P:Program) (f:Field) (i:Nat) (k:Option IntKind):Bool:=
 Nat.beq f.offset i&&Nat.beq (P.cellsOf f.type) 1&&(match P.underlying f.type,k with
  | some (.int a),some b=>a == b
  | some .bool,none=>true
  | _,_=>false)
def OL (P:Program):List Field->Nat->List (Option IntKind)->Bool
 | [],_,[]=>true
 | f::h,i,k::q=>X4 P f i k&&OL P h (i+1) q
 | _,_,_=>false
def Yf (P:Program) (e:TypeId) (h:List (Option IntKind)):Bool:=
 Nat.beq (P.cellsOf e) h.length&&(match P.underlying e with
  | some (.struct q)=>OL P q.toList 0 h
  | _=>false)
def Ot {P:Program}:∀{u:List Field} {i:Nat} {B:List (Option IntKind)},OL P u i B=true->u.length=B.length/\∀(j:Nat) (k:Option IntKind),B[j]?=some k->∃f,u[j]?=some f/\X4 P f (i+j) k=true
 | [],_,[],_=>⟨rfl,λj k h=>by simp at h⟩
 | f::u,i,k::B,h=>by
  simp only[OL,bO] at h;obtain⟨h1,h2⟩:=Ot h.2;refine⟨by simp[h1],λj q E=>?_⟩;cases j with
  | zero=>
   simp only[aX,aD] at E;subst E;exact⟨f,rfl,h.1⟩
  | succ j=>
   obtain⟨g,a,b⟩:=h2 j q (by simpa using E);exact⟨g,by simpa using a,by rw[show i+(j+1)=i+1+j by omega]; exact b⟩
 | [],_,_::_,h=>by simp[OL] at h
 | _::_,_,[],h=>by simp[OL] at h
def WO (k:Option IntKind) (v:Option Value):Prop:=
 match k with
 | some h=>∃z,v=some (.int h z)/\(Lit.int h z).wf=true
 | none=>∃b,v=some (.bool b)
def Kn {e:TypeId} {B:List (Option IntKind)} (hs:Yf P e B=true):∀n cs y,DataW.trod enc P W 0 (λ_=>true) true n e cs=some y->cs.length=B.length/\∀(j:Nat) (k:Option IntKind),B[j]?=some k->WO k cs[j]?:=by
 intro n cs y h;unfold Yf at hs;rw[bO] at hs;obtain⟨G,hs⟩:=hs;have G:=bJ G;split at hs <;> try contradiction
 rename_i Q hu;obtain⟨R,T⟩:=Ot hs;obtain⟨xs,m,_,_,hlen,J,K⟩:=DataW.trod_struct hu h;rw[G] at hlen;refine⟨hlen,λj k O=>?_⟩;obtain⟨f,h1,h2⟩:=T j k O;have U:j<B.length:=(aC.mp O).1;have t0:=K j f (by simpa using h1);unfold X4 at h2;simp only[bO,cP] at h2;obtain⟨⟨o,c⟩,u⟩:=h2;have o:=bJ o;have c:=bJ c;have E:(cs.drop j).take 1=[cs[j]'(by omega)]:=by
  rw[bP (by omega)];rfl
 rw[o,c,E] at t0;have M:xs[j]?=some (xs[j]'(by rw[J]; have:Q.size=B.length:=(by simpa using R); omega)):=aB _;rw[M] at t0;rw[aB (by omega:j<cs.length)];split at u
 ·rename_i a b q;have:a=b:=by simpa using u
  subst this;obtain⟨z,F,_,w⟩:=DataW.trod_int q t0;simp only[eX,and_true] at F;exact⟨z,by rw[F],w⟩
 ·rename_i q;obtain⟨b,F,_⟩:=DataW.trod_bool q t0;simp only[eX,and_true] at F;exact⟨b,by rw[F]⟩
 ·contradiction
end
end Go.En
namespace Go.En
structure It {α:Type} (ik:IntKind) (E:α->Value) (h:Hp) (r m:Nat) (ps:List (Int × α)) (D:List Nat):Prop where
 ex:∃(es:Array MapEntry) (clock:Nat),h[m]?=some (.map es clock)/\YM ik E es.toList ps clock/\h[r]?=some (.mapIter (some m) clock (D.map λi=>((es.toList[i]?).map (·.born)).getD 0).toArray clock)
 nodup:D.Nodup
 lt:∀i∈D,i<ps.length
 ne:r≠m
section
variable {α:Type} {ik:IntKind} {E:α->Value} {h h':Hp} {r m:Nat} {ps:List (Int × α)} {D:List Nat}
def It.mp (H:It ik E h r m ps D):Mp ik E h (.map (some m)) ps:=by
 obtain⟨es,clock,h1,h2,_⟩:=H.ex;exact⟨m,es,clock,rfl,h1,h2⟩
def It.len (H:It ik E h r m ps D):D.length<=ps.length:=by
 have B:(D++(List.range ps.length).filter λi=>!D.contains i).Perm (List.range ps.length):=by
  refine(List.perm_ext_iff_of_nodup ?_ iK).mpr λi=>?_
  ·rw[iE];refine⟨H.nodup,iK.filter _,λa F b q e=>?_⟩;subst e;rw[gX] at q;have:=q.2;simp only[dI,gS,decide_eq_false_iff_not] at this;exact this F
  ·rw[bB,gX,dP];constructor
   ·rintro(h | h)
    ·exact H.lt i h
    ·exact h.1
   ·intro hi;by_cases u:i∈D
    ·exact .inl u
    ·exact .inr ⟨hi,by simpa using u⟩
 have:=B.length_eq;rw[aF,dV] at this;omega
def UH {es:List MapEntry} {clock:Nat} (H:YM ik E es ps clock):es.length=ps.length:=by have:=congrArg List.length H.Tv; simpa using this
def XP {es:List MapEntry} {clock:Nat} (H:YM ik E es ps clock) {i:Nat} {e:MapEntry} (h:es[i]?=some e):∃p,ps[i]?=some p/\e.key=.int ik p.1/\e.val=E p.2:=by
 have q:=congrArg (λl=>l[i]?) H.Tv;simp only[bU,h,cB] at q;cases u:ps[i]? with
 | none=>rw[u] at q;simp at q
 | some p=>
  rw[u] at q;simp only[cB,aD,bV] at q;exact⟨p,rfl,q.1,q.2⟩
def RM {es:List MapEntry} {clock:Nat} (H:YM ik E es ps clock) {i j:Nat} {e e':MapEntry} (h:es[i]?=some e) (h':es[j]?=some e') (q:e.born=e'.born):i=j:=by
 have hi:=(aC.mp h).1;refine(List.getElem?_inj (l:=es.map (·.born)) (by simpa using hi) H.nodup).mp ?_;rw[bU,bU,h,h'];simp[q]
def PM {es:List MapEntry} {i:Nat} {e:MapEntry} (q:(es.map (·.born)).Nodup) (h:es[i]?=some e):es.find? (·.born == e.born)=some e:=by
 induction es generalizing i with
 | nil=>simp at h
 | cons x es u=>
  rw[bS,eJ] at q;cases i with
  | zero=>
   simp only[aX,aD] at h;subst h;rw[cL (by simp)]
  | succ i=>
   have h:es[i]?=some e:=by simpa using h
   have:x.born≠e.born:=λeq=>q.1 (by rw[eq]; exact dC.mpr ⟨e,aG h,rfl⟩);rw[bX (by simpa using this)];exact u q.2 h
def It.next (H:It ik E h r m ps D) {k:Value->Hp->Prop} (h0:(∀i,i<ps.length->i∈D)->k (.tuple #[.bool false]) h)
  (h1:∀i p h',ps[i]?=some p->i∉D->It ik E h' r m ps (D++[i])->Ch (λq=>q=r) h h'->uX (kC r) h'=some (.tuple #[.int ik p.1,E p.2])->k (.tuple #[.bool true,.int ik p.1,E p.2]) h'):Nx (kC r) h k:=by
 obtain⟨es,clock,hm,he,hr⟩:=H.ex;refine⟨r,rfl,.inr ⟨m,clock,_,clock,es,clock,hr,hm,?_,λJ=>h0 λi hi=>?_,λe R T=>?_⟩⟩
 ·cases U:es.isEmpty with
  | true=>simp
  | false=>
   have V:0<es.size:=by
    rcases gA es.size with h | h
    ·have:es=#[]:=Array.eq_empty_of_size_eq_zero h;subst this;simp at U
    ·exact h
   have:es.all (λe=>decide (e.born>=clock))=false:=by
    rw[Array.all_eq_false];exact⟨0,V,by have:=he.born es[0] (by simp); simpa using this⟩
   rw[this,Bool.and_false]
 ·have hlen:=UH he;have K:i<es.toList.length:=by omega
  have u:es.toList[i]?=some es.toList[i]:=aB K;have M:es.toList[i]∈es:=by simp
  have:=J _ M (he.born _ (dM K));rw[iQ,List.mem_toArray,dC] at this;obtain⟨j,F,e⟩:=this;have aS:=H.lt j F;have B:es.toList[j]?=some (es.toList[j]'(by omega)):=aB _;rw[B] at e;simp only[cB,fE] at e;have:=RM he B u e;subst this;exact F
 ·obtain⟨i,hi,rfl⟩:=bK.mp (cH.mpr R);have u:es.toList[i]?=some es.toList[i]:=aB hi;obtain⟨p,hp,hk,hv⟩:=XP he u;have G:i∉D:=by
   intro hc;have:(D.map λi=>((es.toList[i]?).map (·.born)).getD 0).toArray.contains es.toList[i].born=true:=by
    rw[iQ,List.mem_toArray,dC];exact⟨i,hc,by rw[u]; rfl⟩
   rw[this] at T;contradiction
  have X:=(aZ.mp hr).1;rw[hk,hv];have O:(h.setIfInBounds r (Obj.mapIter (some m) clock ((D.map λi=>((es.toList[i]?).map (·.born)).getD 0).toArray.push es.toList[i].born) clock))[r]?=some (.mapIter (some m) clock ((D.map λi=>((es.toList[i]?).map (·.born)).getD 0).toArray.push es.toList[i].born) clock):=by
   rw[bI,if_pos rfl,if_pos X]
  have Q:(h.setIfInBounds r (Obj.mapIter (some m) clock ((D.map λi=>((es.toList[i]?).map (·.born)).getD 0).toArray.push es.toList[i].born) clock))[m]?=some (.map es clock):=by
   rw[bI,if_neg H.ne];exact hm
  refine h1 i p _ hp G ⟨⟨es,clock,Q,he,?_⟩,?_,λj F=>?_,H.ne⟩ ⟨by simp,λq _ hq=>by rw[bI,if_neg (λe=>hq e.symm)]⟩ ?_
  ·rw[O,cM,bS,dS,u];congr 2;apply fH;simp
  ·rw[iE];exact⟨H.nodup,by simp,λa ha b hb e=>G (by simp only[aN] at hb; rw[<-hb,<-e]; exact ha)⟩
  ·rcases bB.mp F with F | F
   ·exact H.lt j F
   ·simp only[aN] at F;subst F;exact(aC.mp hp).1
  ·unfold uX kC;simp only[O,Q,Array.back?_push];have Z:Nat.beq clock clock=true:=jL clock;have hf:es.find? (·.born == es.toList[i].born)=some es.toList[i]:=by
    have:=PM he.nodup u;rw[<-Array.find?_toList];exact this
   simp only[Z,hf,hk,hv]
end
end Go.En
namespace Go.En
open Go.ChangeShapes Go.WideShapes Go.ChangeAt Go.RowKit Go.Deep
def EAr (ik:IntKind) (n:Nat):pT (Nat->Int):={n:=n,c:=λf=>(List.range n).map λi=>.int ik (f i),len:=λ_=>by simp,one:=λa v h=>by obtain⟨i,_,rfl⟩:=dC.1 h; rfl}
def Uw {ik:IntKind} {n i:Nat} {f:Nat->Int} (h:i<n):((EAr ik n).c f)[i]?=some (.int ik (f i)):=by
 show((List.range n).map λi=>Value.int ik (f i))[i]?=_;simp[h]
section
variable {H:Type} {enc:TypeId × Value->H} {P:Program} {W:World}
def isAgg (P:Program) (t:TypeId):Bool:=match P.underlying t with | some (.struct _)=>true | some (.array _ _)=>true | _=>false
end
section
variable {h:Hp} {r n:Nat} {ik:IntKind} {f:Nat->Int}
def XO {q:IntKind} {z:Int} {i:Nat} (u:z=i) (hi:i<n) (o:Nat):I4 n 1 (.pointer (some ⟨r,o,none⟩)) (.int q z)=some (.pointer (some ⟨r,o+i,none⟩)):=by
 subst u;have:(0:Int)<=(i:Int)/\(i:Int)<n:=by omega
 simp only[I4,this,and_self,if_true,Bu,bQ,Nat.mul_one]
end
end Go.En
