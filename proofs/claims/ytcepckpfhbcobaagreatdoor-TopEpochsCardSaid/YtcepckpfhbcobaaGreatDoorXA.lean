/-
  The engine, part A: what the operations of a function do, as partial functions of values and of the heap.
  The engine, part B: the model runs each operation as part A says.
  The engine, part C: maps, make, append, copy, the range over a map.
  The engine, part D: one operation.
  The engine, part E: operations that turn the heap; calls.
  The engine, part F: a list of operations, in the order of the text.
-/
import Derived.CallsIn
import Derived.OrdersIn
import Derived.DefersIn
import Derived.TacticsIn
import Derived.Laws.Append
import Derived.Laws.CopyRow
import Derived.Laws.Entries
import Derived.Laws.Build
import Derived.KernelRfl
import Derived.Laws.StructEq
import Derived.MapKept
import Derived.Laws.Externs
namespace Go.En

abbrev Hp := Array Obj
abbrev Env := List (Nat × Value)

/-! ### Environments -/
def lk : Env → Nat → Option Value
  | [], _ => none
  | (d, v) :: r, t => match Nat.beq d t with
    | true => some v
    | false => lk r t

def ev (n : Nat) (env : Env) : Operand → Option Value
  | .tmp t => match Nat.blt t n with
    | true => lk env t
    | false => none
  | .const v => some v
  | .global g => some (.pointer (some ⟨g, 0, none⟩))
  | .func f => some (.func (.func f) #[] #[])

def evs (n : Nat) (env : Env) : List Operand → Option (List Value)
  | [] => some []
  | x :: r => (ev n env x).bind fun v => (evs n env r).bind fun vs => some (v :: vs)

def evp (n : Nat) (env : Env) : List (Nat × Operand) → Option (List (Nat × Value))
  | [] => some []
  | (i, x) :: r => (ev n env x).bind fun v => (evp n env r).bind fun vs => some ((i, v) :: vs)

def evo (n : Nat) (env : Env) : Option Operand → Option (Option Value)
  | none => some none
  | some x => (ev n env x).bind fun v => some (some v)

/-! ### The heap -/
def cellAt (h : Hp) (a : Addr) : Option Value :=
  match h[a.block]? with
  | some (.cells c _ _) => if a.spot.isSome then none else c[a.off]?
  | _ => none

def frozenAt (h : Hp) (a : Addr) : Bool :=
  match h[a.block]? with
  | some (.cells _ _ (lo, hi)) => lo ≤ a.off && a.off < hi
  | _ => false

def setAt (h : Hp) (a : Addr) (v : Value) : Hp :=
  h.modify a.block fun
    | .cells c elem frozen => .cells (if a.spot.isSome then c else c.setIfInBounds a.off v) elem frozen
    | o => o

theorem cellAt_eq (w : World) (a : Addr) : w.cell? a = cellAt w.heap a := rfl
theorem frozenAt_eq (w : World) (a : Addr) : w.frozen? a = frozenAt w.heap a := rfl

def rowFrom (h : Hp) (a : Addr) (i : Nat) : Nat → Option (List Value)
  | 0 => some []
  | n + 1 => (cellAt h (a.add i)).bind fun v => (rowFrom h a (i + 1) n).bind fun r => some (v :: r)

def ldc (p : Value) (h : Hp) : Option Value :=
  match p with
  | .pointer (some a) => cellAt h a
  | _ => none

def lda (n : Nat) (p : Value) (h : Hp) : Option Value :=
  match p with
  | .pointer (some a) => (rowFrom h a 0 n).bind fun l => some (.agg l.toArray)
  | _ => none

/-- Stores: cell by cell. -/
def stores (h : Hp) (a : Addr) (i : Nat) : List Value → Option Hp
  | [] => some h
  | v :: r => match v.oneCell', cellAt h (a.add i), frozenAt h (a.add i) with
    | true, some _, false => stores (setAt h (a.add i) v) a (i + 1) r
    | _, _, _ => none

def sto (n : Nat) (p v : Value) (h : Hp) : Option Hp :=
  match p with
  | .pointer (some a) => match Nat.beq v.cells.size n with
    | true => stores h a 0 v.cells.toList
    | false => none
  | _ => none

def nw (cells : Array Value) (e : TypeId) (h : Hp) : Option (Value × Hp) := some (.pointer (some ⟨h.size, 0, none⟩), h.push (.cells cells e))

/-! ### Values -/
def bin (op : BinOp) (x y : Value) : Option Value :=
  match x, y with
  | .int k a, .int k' b =>
    match op with
    | .shl => if b < 0 then none else some (.int k (k.wrap (a * 2 ^ (min b.toNat k.bits))))
    | .shr => if b < 0 then none else some (.int k (a.fdiv (2 ^ (min b.toNat k.bits))))
    | .add => if k = k' then some (.int k (k.wrap (a + b))) else none
    | .sub => if k = k' then some (.int k (k.wrap (a - b))) else none
    | .mul => if k = k' then some (.int k (k.wrap (a * b))) else none
    | .quo => if k = k' then (if b = 0 then none else some (.int k (k.wrap (a.tdiv b)))) else none
    | .rem => if k = k' then (if b = 0 then none else some (.int k (a.tmod b))) else none
    | .eql => if k = k' then some (.bool (a == b)) else none
    | .neq => if k = k' then some (.bool (a != b)) else none
    | .lss => if k = k' then some (.bool (decide (a < b))) else none
    | .leq => if k = k' then some (.bool (decide (a ≤ b))) else none
    | .gtr => if k = k' then some (.bool (decide (a > b))) else none
    | .geq => if k = k' then some (.bool (decide (a ≥ b))) else none
    | .and => if k = k' then some (.int k (k.wrap (BitVec.ofInt k.bits a &&& BitVec.ofInt k.bits b).toNat)) else none
    | .or => if k = k' then some (.int k (k.wrap (BitVec.ofInt k.bits a ||| BitVec.ofInt k.bits b).toNat)) else none
    | .xor => if k = k' then some (.int k (k.wrap (BitVec.ofInt k.bits a ^^^ BitVec.ofInt k.bits b).toNat)) else none
    | .andNot => if k = k' then some (.int k (k.wrap (BitVec.ofInt k.bits a &&& ~~~BitVec.ofInt k.bits b).toNat)) else none
  | _, _ => none

/-- '==' at other kinds of types: bool; against nil. -/
def eqB (x y : Value) : Option Bool :=
  match x, y with
  | .bool a, .bool b => some (a == b)
  | _, _ => none
def eqP (x y : Value) : Option Bool :=
  match x, y with
  | .pointer none, .pointer b => some b.isNone
  | .pointer (some _), .pointer none => some false
  | _, _ => none
def eqS (x y : Value) : Option Bool :=
  match x, y with
  | .slice none _ _, .slice b _ _ => some b.isNone
  | .slice (some _) _ _, .slice none _ _ => some false
  | _, _ => none
def eqM (x y : Value) : Option Bool :=
  match x, y with
  | .map none, .map b => some b.isNone
  | .map (some _), .map none => some false
  | _, _ => none
def eqF (x y : Value) : Option Bool :=
  match x, y with
  | .nilFunc, .nilFunc => some true
  | .nilFunc, .func .. | .func .., .nilFunc => some false
  | _, _ => none
/-- structs and arrays all of whose cells are integers or bools: cell by cell -/
def eq1 (i : Bool) (x y : Value) : Option Bool :=
  match i, x, y with
  | true, .int k a, .int k' b => if k = k' then some (a == b) else none
  | false, .bool a, .bool b => some (a == b)
  | _, _, _ => none
def eqL : List Bool → List Value → List Value → Option Bool
  | [], [], [] => some true
  | i :: l, x :: r, y :: s => (eq1 i x y).bind fun a => (eqL l r s).bind fun q => some (a && q)
  | _, _, _ => none
def eqA (l : List Bool) (x y : Value) : Option Bool :=
  match x, y with
  | .agg xs, .agg ys => eqL l xs.toList ys.toList
  | _, _ => none

def neg? (o : Option Bool) : Option Value := o.bind fun b => some (.bool !b)
def pos? (o : Option Bool) : Option Value := o.bind fun b => some (.bool b)

def uno (op : UnOp) (x : Value) : Option Value :=
  match op, x with
  | .neg, .int k n => some (.int k (k.wrap (0 - n)))
  | .not, .bool b => some (.bool !b)
  | _, _ => none

def cvi (k : IntKind) (x : Value) : Option Value :=
  match x with
  | .int _ n => some (.int k (k.wrap n))
  | _ => none

def fa (off : Nat) (p : Value) : Option Value :=
  match p with
  | .pointer (some a) => some (.pointer (some (a.add off)))
  | _ => none

/-- index address in a slice -/
def ixs (size : Nat) (x i : Value) : Option Value :=
  match x, i with
  | .slice (some a) len _, .int _ n => if 0 ≤ n ∧ n < len then some (.pointer (some (a.add (n.toNat * size)))) else none
  | _, _ => none
/-- index address in an array -/
def ixa (len size : Nat) (x i : Value) : Option Value :=
  match x, i with
  | .pointer (some a), .int _ n => if 0 ≤ n ∧ n < len then some (.pointer (some (a.add (n.toNat * size)))) else none
  | _, _ => none

/-- an element of an array value -/
def idc (len size : Nat) (x i : Value) : Option Value :=
  match x, i with
  | .agg cs, .int _ n => if 0 ≤ n ∧ n < len then cs[n.toNat * size]? else none
  | _, _ => none
def ida (len size : Nat) (x i : Value) : Option Value :=
  match x, i with
  | .agg cs, .int _ n => if 0 ≤ n ∧ n < len then some (.agg (cs.extract (n.toNat * size) (n.toNat * size + size))) else none
  | _, _ => none

def ext (i : Nat) (x : Value) : Option Value :=
  match x with
  | .tuple vs => vs[i]?
  | _ => none

def lnS (x : Value) : Option Value :=
  match x with
  | .slice _ n _ => some (.int .i64 n)
  | _ => none
def lnM (x : Value) (h : Hp) : Option Value :=
  match x with
  | .map none => some (.int .i64 0)
  | .map (some r) => match h[r]? with
    | some (.map es _) => some (.int .i64 es.size)
    | _ => none
  | _ => none
def mn (x y : Value) : Option Value :=
  match x, y with
  | .int k a, .int _ b => some (.int k (if b < a then b else a))
  | _, _ => none
def mx (x y : Value) : Option Value :=
  match x, y with
  | .int k a, .int _ b => some (.int k (if b > a then b else a))
  | _, _ => none

def bnd (x : Value) (y : Nat) : Option Nat :=
  match x with
  | .int _ i => if 0 ≤ i ∧ i ≤ y then some i.toNat else none
  | _ => none
def bndL (lo : Option Value) (h : Nat) : Option Nat :=
  match lo with
  | some v => bnd v h
  | none => some 0
def bndH (hi : Option Value) (len m : Nat) : Option Nat :=
  match hi with
  | some v => bnd v m
  | none => some len
def bndM (mx : Option Value) (cap : Nat) : Option Nat :=
  match mx with
  | some v => bnd v cap
  | none => some cap
def bnds (len cap : Nat) (lo hi mx : Option Value) : Option (Nat × Nat × Nat) :=
  (bndM mx cap).bind fun m => (bndH hi len m).bind fun h => (bndL lo h).bind fun l => some (l, h, m)
def slcA (size : Nat) (a : Option Addr) (b : Nat × Nat × Nat) : Value :=
  .slice (if b.2.2 = b.1 then a else a.map (·.add (b.1 * size))) (b.2.1 - b.1) (b.2.2 - b.1)
/-- a slice of a slice -/
def slc (size : Nat) (x : Value) (lo hi mx : Option Value) : Option Value :=
  match x with
  | .slice a len cap => (bnds len cap lo hi mx).bind fun b => some (slcA size a b)
  | _ => none
/-- a slice of an array -/
def sla (n size : Nat) (x : Value) (lo hi mx : Option Value) : Option Value :=
  match x with
  | .pointer (some a) => (bnds n n lo hi mx).bind fun b => some (slcA size (some a) b)
  | _ => none

/-- a field of a struct value -/
def fdc (off : Nat) (x : Value) : Option Value :=
  match x with
  | .agg cs => cs[off]?
  | _ => none
def fda (off size : Nat) (x : Value) : Option Value :=
  match x with
  | .agg cs => some (.agg (cs.extract off (off + size)))
  | _ => none

def bldS (places : List (Nat × Nat)) (zero : Array Value) (parts : List (Nat × Value)) : Option Value :=
  (Instr.fill (places[·]?) zero parts).bind fun cells => some (.agg cells)
def bldA (size : Nat) (zero : Array Value) (parts : List (Nat × Value)) : Option Value :=
  (Instr.fill (fun i => some (i * size, size)) zero parts).bind fun cells => some (.agg cells)
def bsl (zero : Array Value) (size len : Nat) (e : TypeId) (parts : List (Nat × Value)) (h : Hp) : Option (Value × Hp) :=
  (Instr.fill (fun i => some (i * size, size)) ((Array.range (len * size)).map (zero[· % zero.size]!)) parts).bind fun cells =>
    some (.slice (some ⟨h.size, 0, none⟩) len len, h.push (.cells cells e))

def pk (c x y : Value) : Option Value :=
  match c with
  | .bool b => some (if b then x else y)
  | _ => none

def nck (x : Value) : Option Value :=
  match x with
  | .pointer (some a) => some (.pointer (some a))
  | .func (.func f) first cap => some (.func (.func f) first cap)
  | .iface t v => some (.iface t v)
  | _ => none
/-! ### Interfaces -/
/-- comparison of an interface's value with nil -/
def inl (op : BinOp) (v : Value) : Option Value :=
  match op, v with
  | .eql, .nilIface => some (.bool true)
  | .eql, .iface _ _ => some (.bool false)
  | .neq, .nilIface => some (.bool false)
  | .neq, .iface _ _ => some (.bool true)
  | _, _ => none
def isI (P : Program) (t : TypeId) : Bool :=
  match P.underlying t with
  | some (.interface _) => true
  | _ => false
def noI (P : Program) (t : TypeId) : Bool :=
  match P.underlying t with
  | some (.interface _) => false
  | some _ => true
  | none => false
/-- an interface's value, asserted to be of a type -/
def tas (t : TypeId) (z : Value) (ok : Bool) (x : Value) : Option Value :=
  match x, ok with
  | .iface t' v, true => some (if t' = t then .tuple #[v, .bool true] else .tuple #[z, .bool false])
  | .iface t' v, false => if t' = t then some v else none
  | .nilIface, true => some (.tuple #[z, .bool false])
  | _, _ => none
/-- the function of a type's own method -/
def mtb (P : Program) (t : TypeId) (name : String) : Option FuncId :=
  match P.info? t with
  | none => none
  | some i => match i.methods.find? fun m => m.name == name with
    | none => none
    | some m => match m.path.toList, m.func, P.underlying t with
      | [], some (_, false), some (.pointer _) => none
      | [], some (f, false), some _ => some f
      | _, _, _ => none

/-! ### Maps with plain keys -/
def mkey (m : Value) (h : Hp) : Option (Option (Nat × Array MapEntry × Nat)) :=
  match m with
  | .map none => some none
  | .map (some r) => match h[r]? with
    | some (.map es clock) => some (some (r, es, clock))
    | _ => none
  | _ => none
def lkm (kd : TypeDesc) (zero : Value) (ok : Bool) (m key : Value) (h : Hp) : Option Value :=
  (mkey m h).bind fun r =>
    (Instr.findNow kd key ((r.map fun x => x.2.1.toList).getD []) 0).bind fun f =>
      some (if ok then .tuple #[(f.map (·.2)).getD zero, .bool f.isSome] else (f.map (·.2)).getD zero)
def mup (kd : TypeDesc) (m key val : Value) (h : Hp) : Option Hp :=
  match mkey m h with
  | some (some (r, es, clock)) => match Instr.findNow kd key es.toList 0 with
    | some (some (i, _)) => some (h.setIfInBounds r (.map (es.modify i fun e => { e with key, val := val }) clock))
    | some none => some (h.setIfInBounds r (.map (es.push { key, val := val, born := clock }) (clock + 1)))
    | none => none
  | _ => none
def men (kd : TypeDesc) (zero : Value) (m key : Value) (h : Hp) : Option (Value × Hp) :=
  match mkey m h with
  | some (some (r, es, clock)) => match Instr.findNow kd key es.toList 0 with
    | some (some (i, v)) => some (.tuple #[v, goInt (((es[i]?).map (·.born)).getD 0)], h.setIfInBounds r (.map (es.modify i fun e => { e with key }) clock))
    | some none => some (.tuple #[zero, goInt clock], h.setIfInBounds r (.map (es.push { key, val := zero, born := clock }) (clock + 1)))
    | none => none
  | _ => none
def mst (m stamp val : Value) (h : Hp) : Option Hp :=
  match mkey m h, stamp with
  | some (some (r, es, clock)), .int _ born => match es.findIdx? (fun e => (e.born : Int) == born) with
    | some i => some (h.setIfInBounds r (.map (es.modify i fun e => { e with val := val }) clock))
    | none => none
  | _, _ => none
def mdl (kd : TypeDesc) (m key : Value) (h : Hp) : Option (Value × Hp) :=
  match mkey m h with
  | some none => some (.tuple #[], h)
  | some (some (r, es, clock)) => match Instr.findNow kd key es.toList 0 with
    | some (some (i, _)) => some (.tuple #[], h.setIfInBounds r (.map (es.eraseIdxIfInBounds i) clock))
    | some none => some (.tuple #[], h.setIfInBounds r (.map es clock))
    | none => none
  | _ => none
def mmk (h : Hp) : Option (Value × Hp) := some (.map (some h.size), h.push (.map #[] 0))
def rng (m : Value) (h : Hp) : Option (Value × Hp) :=
  match mkey m h with
  | some none => some (.pointer (some ⟨h.size, 0, none⟩), h.push (.mapIter none 0 #[] 0))
  | some (some (r, _, clock)) => some (.pointer (some ⟨h.size, 0, none⟩), h.push (.mapIter (some r) clock #[] clock))
  | _ => none

/-- the entry at which a range over a map stands -/
def ent (it : Value) (h : Hp) : Option Value :=
  match it with
  | .pointer (some ⟨r, 0, _⟩) => match h[r]? with
    | some (.mapIter (some m) _ seen stepped) => match seen.back?, h[m]? with
      | some stamp, some (.map es clock) => match Nat.beq clock stepped, es.find? (·.born == stamp) with
        | true, some e => some (.tuple #[e.key, e.val])
        | _, _ => none
      | _, _ => none
    | _ => none
  | _ => none

/-- make([]T, l, c) -/
def msl (zero : Array Value) (size bytes : Nat) (e : TypeId) (l c : Value) (h : Hp) : Option (Value × Hp) :=
  match l, c with
  | .int .i64 l, .int .i64 c => if 0 ≤ l ∧ l ≤ c ∧ c ≤ 9223372036854775807 ∧ c * bytes ≤ 281474976710656 then
      some (.slice (some ⟨h.size, 0, none⟩) l.toNat c.toNat, h.push (.cells ((Array.range (c.toNat * size)).map (zero[· % zero.size]!)) e)) else none
  | _, _ => none

def rowOf (x : Value) (m : Nat) (h : Hp) : Option (List Value) :=
  match x with
  | .slice (some a) _ _ => rowFrom h a 0 m
  | .slice none _ _ => some []
  | _ => none
/-- copy -/
def cpy (size : Nat) (d s : Value) (h : Hp) : Option (Value × Hp) :=
  match d, s with
  | .slice base dLen _, .slice _ sLen _ =>
    (rowOf s (Nat.min sLen dLen * size) h).bind fun cells =>
      match base with
      | some a => (stores h a 0 cells).bind fun h' => some (.int .i64 (Nat.min sLen dLen : Nat), h')
      | none => some (.int .i64 (Nat.min sLen dLen : Nat), h)
  | _, _ => none

/-- clear(s) -/
def clrS (zero : Array Value) (x : Value) (h : Hp) : Option (Value × Hp) :=
  match x with
  | .slice none _ _ => some (.tuple #[], h)
  | .slice (some a) n _ => match n with
    | 0 => some (.tuple #[], h)
    | n + 1 => (stores h a 0 (Builtin.zeroCells zero (n + 1)).toList).bind fun h' => some (.tuple #[], h')
  | _ => none

/-! ### The kinds that a type has -/
inductive TK where
  | cell
  | agg (n : Nat)
  | bad
def tyk (P : Program) (t : TypeId) : TK :=
  match P.underlying t, P.info? t with
  | some (.struct _), some i => .agg i.size
  | some (.array ..), some i => .agg i.size
  | some _, some _ => .cell
  | _, _ => .bad
def ldT (k : TK) (p : Value) (h : Hp) : Option Value :=
  match k with
  | .cell => ldc p h
  | .agg n => lda n p h
  | .bad => none

/-- the cells of a type of integers and bools alone: an integer, or a bool -/
def appB : List Bool → List Bool → List Bool
  | [], e => e
  | x :: r, e => x :: appB r e
def repB (l : List Bool) : Nat → List Bool
  | 0 => []
  | n + 1 => appB l (repB l n)
def lenB : List Bool → Nat
  | [] => 0
  | _ :: r => lenB r + 1
def flatFs (P : Program) (flat : TypeId → Option (List Bool)) : List Field → Nat → Option (List Bool)
  | [], _ => some []
  | f :: r, off => match Nat.beq f.offset off, f.name == "_", flat f.type, P.info? f.type with
    | true, false, some l, some i => match Nat.beq i.size (lenB l), flatFs P flat r (off + lenB l) with
      | true, some l' => some (appB l l')
      | _, _ => none
    | _, _, _, _ => none
def flatT (P : Program) : Nat → TypeId → Option (List Bool)
  | 0, _ => none
  | d + 1, t => match P.underlying t with
    | some (.int _) => some [true]
    | some .bool => some [false]
    | some (.struct fs) => match P.stoodInHeld t, flatFs P (flatT P d) fs.toList 0, P.info? t with
      | false, some l, some i => match Nat.beq i.size (lenB l) with
        | true => some l
        | false => none
      | _, _, _ => none
    | some (.array len e) => match flatT P d e, P.info? e, P.info? t with
      | some l, some i, some j => match Nat.beq i.size (lenB l), Nat.beq j.size (lenB (repB l len)) with
        | true, true => some (repB l len)
        | _, _ => none
      | _, _, _ => none
    | _ => none

inductive EK where
  | plain | boolean | ptr | slc | map | fn | agg (l : List Bool) | bad
def eqk (P : Program) (t : TypeId) : EK :=
  match P.underlying t with
  | some (.int _) => .plain
  | some .bool => .boolean
  | some (.pointer _) => .ptr
  | some (.slice _) => .slc
  | some (.map _ _) => .map
  | some (.func ..) => .fn
  | some (.struct _) => match P.eqGuardType P.depth t, flatT P 5 t with
    | false, some l => .agg l
    | _, _ => .bad
  | some (.array _ _) => match P.eqGuardType P.depth t, flatT P 5 t with
    | false, some l => .agg l
    | _, _ => .bad
  | _ => .bad
def eqT (k : EK) (x y : Value) : Option Bool :=
  match k with
  | .boolean => eqB x y
  | .ptr => eqP x y
  | .slc => eqS x y
  | .map => eqM x y
  | .fn => eqF x y
  | .agg l => eqA l x y
  | .plain | .bad => none
def bnT (k : EK) (op : BinOp) (x y : Value) : Option Value :=
  match k, op with
  | .plain, op => bin op x y
  | k, .eql => pos? (eqT k x y)
  | k, .neq => neg? (eqT k x y)
  | _, _ => none

inductive CK where
  | int (k : IntKind)
  | bad
def cvk (P : Program) (src dst : TypeId) : CK :=
  match P.underlying src, P.underlying dst with
  | some (.int _), some (.int k) => .int k
  | _, _ => .bad
def cvT (c : CK) (x : Value) : Option Value :=
  match c with
  | .int k => cvi k x
  | .bad => none

inductive FK where
  | cell (off : Nat)
  | agg (off size : Nat)
  | bad
def fkk (P : Program) (s : TypeId) (f : Nat) : FK :=
  match P.underlying s with
  | some (.struct fs) => match fs[f]? with
    | some fd => match tyk P fd.type, P.info? fd.type with
      | .cell, some i => match i.size with
        | 0 => .bad
        | _ + 1 => .cell fd.offset
      | .agg (n + 1), _ => .agg fd.offset (n + 1)
      | _, _ => .bad
    | none => .bad
  | _ => .bad
def faT (k : FK) (p : Value) : Option Value :=
  match k with
  | .cell off | .agg off _ => fa off p
  | .bad => none
def fdT (k : FK) (x : Value) : Option Value :=
  match k with
  | .cell off => fdc off x
  | .agg off size => fda off size x
  | .bad => none

inductive IK where
  | slc (size : Nat)
  | arr (len size : Nat)
  | bad
def ixk (P : Program) (t : TypeId) : IK :=
  match P.underlying t with
  | some (.slice e) => match P.info? e with
    | some i => .slc i.size
    | none => .bad
  | some (.array n e) => match P.info? e with
    | some i => .arr n i.size
    | none => .bad
  | _ => .bad
def ixT (k : IK) (x i : Value) : Option Value :=
  match k with
  | .slc size => ixs size x i
  | .arr n size => ixa n size x i
  | .bad => none
def slT (k : IK) (x : Value) (lo hi mx : Option Value) : Option Value :=
  match k with
  | .slc size => slc size x lo hi mx
  | .arr n size => sla n size x lo hi mx
  | .bad => none

/-- an array value's elements -/
inductive JK where
  | cell (len size : Nat)
  | agg (len size : Nat)
  | str
  | bad
def idk (P : Program) (t : TypeId) : JK :=
  match P.underlying t with
  | some (.array n e) => match tyk P e, P.info? e with
    | .cell, some i => .cell n i.size
    | .agg s, some _ => .agg n s
    | _, _ => .bad
  | some .string => .str
  | _ => .bad
/-- a byte of a string -/
def idst (x i : Value) : Option Value :=
  match x, i with
  | .string s, .int _ n => (if 0 ≤ n then s[n.toNat]? else none).map fun b => .int .u8 b.toNat
  | _, _ => none
def idT (k : JK) (x i : Value) : Option Value :=
  match k with
  | .cell n s => idc n s x i
  | .agg n s => ida n s x i
  | .str => idst x i
  | .bad => none

inductive BK where
  | struct (places : List (Nat × Nat)) (zero : Array Value)
  | arr (size : Nat) (zero : Array Value)
  | bad
def placesOf (P : Program) : List Field → Option (List (Nat × Nat))
  | [] => some []
  | f :: r => (P.info? f.type).bind fun i => (placesOf P r).bind fun l => some ((f.offset, i.size) :: l)
def bdk (P : Program) (t : TypeId) : BK :=
  match P.info? t with
  | some i => match i.zero with
    | some z => match P.underlying t with
      | some (.struct fs) => match placesOf P fs.toList with
        | some ps => .struct ps z.cells
        | none => .bad
      | some (.array _ e) => match P.info? e with
        | some j => .arr j.size z.cells
        | none => .bad
      | _ => .bad
    | none => .bad
  | none => .bad
def bdT (k : BK) (parts : List (Nat × Value)) : Option Value :=
  match k with
  | .struct ps z => bldS ps z parts
  | .arr size z => bldA size z parts
  | .bad => none

/-- a map type with plain keys: the key's kind, the element's zero value -/
inductive MK where
  | ok (kd : TypeDesc) (zero : Value)
  | bad
def mpk (P : Program) (t : TypeId) : MK :=
  match P.underlying t with
  | some (.map k e) => match P.underlying k, P.info? e with
    | some (.int ik), some i => match i.zero with
      | some z => .ok (.int ik) z
      | none => .bad
    | _, _ => .bad
  | _ => .bad
def lkT (k : MK) (ok : Bool) (m key : Value) (h : Hp) : Option Value :=
  match k with
  | .ok kd z => lkm kd z ok m key h
  | .bad => none

inductive LK where
  | slc | map | bad
def lnk (P : Program) (t : TypeId) : LK :=
  match P.underlying t with
  | some (.slice _) => .slc
  | some (.map ..) => .map
  | _ => .bad
def lnT (k : LK) (x : Value) (h : Hp) : Option Value :=
  match k with
  | .slc => lnS x
  | .map => lnM x h
  | .bad => none

/-- an element type: its number, zero cells, cells, bytes -/
inductive XK where
  | ok (e : TypeId) (zero : Array Value) (size bytes : Nat)
  | bad
def elk (P : Program) (t : TypeId) : XK :=
  match P.underlying t with
  | some (.slice e) => match P.info? e with
    | some i => match i.zero with
      | some z => match Nat.beq z.cells.size i.size, Nat.blt 0 i.size with
        | true, true => .ok e z.cells i.size i.bytes
        | _, _ => .bad
      | none => .bad
    | none => .bad
  | _ => .bad
/-- a type's zero cells -/
def zrk (P : Program) (t : TypeId) : Option (Array Value) := (P.info? t).bind fun i => i.zero.bind fun z => some z.cells

end Go.En
namespace Go.En
section
variable {P : Program} {w : World}

theorem run_cellAt {a : Addr} {v : Value} (h : cellAt w.heap a = some v) : (load a).run P w = .ok v w := by
  rw [run_load]; rw [cellAt_eq, h]

theorem run_rowFrom {a : Addr} : ∀ (n i : Nat) (l : List Value) (acc : Array Value), rowFrom w.heap a i n = some l →
    (loadCellsFrom a i n acc).run P w = .ok (acc ++ l.toArray) w
  | 0, i, l, acc, h => by
    simp only [rowFrom, Option.some.injEq] at h
    subst h
    simp [loadCellsFrom]
  | n + 1, i, l, acc, h => by
    simp only [rowFrom, Option.bind_eq_some_iff] at h
    obtain ⟨v, hv, r, hr, hl⟩ := h
    simp only [Option.some.injEq] at hl
    subst hl
    simp only [loadCellsFrom, Sem.run_bind, run_cellAt hv, Result.andThen_ok]
    rw [run_rowFrom n (i + 1) r (acc.push v) hr]
    simp

theorem run_loadCells {a : Addr} {n : Nat} {l : List Value} (h : rowFrom w.heap a 0 n = some l) : (loadCells a n).run P w = .ok l.toArray w := by
  rw [loadCells, run_rowFrom n 0 l #[] h]; simp

theorem tyk_cell {t : TypeId} (h : tyk P t = .cell) : ∃ d, P.underlying t = some d ∧ (∀ fs, d ≠ .struct fs) ∧ (∀ n e, d ≠ .array n e) := by
  unfold tyk at h
  split at h <;> try contradiction
  rename_i d _ h1 h2 hx _
  exact ⟨d, hx, fun fs e => h1 fs e, fun n e' e => h2 n e' e⟩

theorem run_isAgg_cell {t : TypeId} (h : tyk P t = .cell) : (isAgg t).run P w = .ok false w := by
  obtain ⟨d, hd, h1, h2⟩ := tyk_cell h
  unfold isAgg
  simp only [Sem.run_bind, run_underlying hd, Result.andThen_ok]
  cases d <;> first | rfl | exact (h1 _ rfl).elim | exact (h2 _ _ rfl).elim

theorem tyk_agg {t : TypeId} {n : Nat} (h : tyk P t = .agg n) : (∃ i, P.info? t = some i ∧ i.size = n) ∧ ((∃ fs, P.underlying t = some (.struct fs)) ∨ (∃ k e, P.underlying t = some (.array k e))) := by
  unfold tyk at h
  split at h <;> try contradiction
  · rename_i fs i hu hi; simp only [TK.agg.injEq] at h; exact ⟨⟨i, hi, h⟩, .inl ⟨fs, hu⟩⟩
  · rename_i k e i hu hi; simp only [TK.agg.injEq] at h; exact ⟨⟨i, hi, h⟩, .inr ⟨k, e, hu⟩⟩

theorem run_isAgg_agg {t : TypeId} {n : Nat} (h : tyk P t = .agg n) : (isAgg t).run P w = .ok true w := by
  unfold isAgg
  rcases (tyk_agg h).2 with ⟨fs, hu⟩ | ⟨k, e, hu⟩ <;> simp [run_underlying hu]

theorem run_sizeOf {t : TypeId} {i : TypeInfo} (h : P.info? t = some i) : (sizeOf t).run P w = .ok i.size w := by
  simp [sizeOf, typeInfo, h]

theorem run_zero {t : TypeId} {i : TypeInfo} {z : Value} (h : P.info? t = some i) (hz : i.zero = some z) : (zeroValue t).run P w = .ok z w := by
  simp [zeroValue, typeInfo, h, hz]

theorem run_loadAt {t : TypeId} {p v : Value} (h : ldT (tyk P t) p w.heap = some v) : (Instr.loadAt t p).run P w = .ok v w := by
  unfold Instr.loadAt loadVar
  cases hk : tyk P t with
  | cell =>
    rw [hk] at h
    simp only [ldT] at h
    unfold ldc at h
    split at h <;> try contradiction
    rename_i a
    simp only [Instr.sureAddr, Sem.run_bind, Sem.run_pure, Result.andThen_ok, run_isAgg_cell hk, Bool.false_eq_true, if_false]
    exact run_cellAt h
  | agg n =>
    rw [hk] at h
    simp only [ldT] at h
    unfold lda at h
    split at h <;> try contradiction
    rename_i a
    simp only [Option.bind_eq_some_iff, Option.some.injEq] at h
    obtain ⟨l, hl, hv⟩ := h
    obtain ⟨⟨i, hi, hn⟩, _⟩ := tyk_agg hk
    simp only [Instr.sureAddr, Sem.run_bind, Sem.run_pure, Result.andThen_ok, run_isAgg_agg hk, if_true, run_sizeOf hi, hn, run_loadCells hl, hv]
  | bad => rw [hk] at h; simp [ldT] at h

/-- heap of a store -/
theorem setAt_heap (a : Addr) (v : Value) : (w.setCell a v).heap = setAt w.heap a v := rfl

structure Rst (w w' : World) : Prop where
  os : w'.os = w.os
  tape : w'.tape = w.tape
  output : w'.output = w.output
theorem Rst.refl (w : World) : Rst w w := ⟨rfl, rfl, rfl⟩
theorem Rst.trans {a b c : World} (h : Rst a b) (k : Rst b c) : Rst a c := ⟨k.os.trans h.os, k.tape.trans h.tape, k.output.trans h.output⟩

theorem run_stores {a : Addr} : ∀ (vs : List Value) (i : Nat) (w : World) (h' : Hp), stores w.heap a i vs = some h' →
    ∃ w', (storeCells a vs i).run P w = .ok () w' ∧ w'.heap = h' ∧ Rst w w' ∧ w'.drawn = w.drawn
  | [], i, w, h', h => by
    simp only [stores, Option.some.injEq] at h
    exact ⟨w, rfl, h, .refl w, rfl⟩
  | v :: r, i, w, h', h => by
    simp only [stores] at h
    split at h <;> try contradiction
    rename_i u h1 hc hf
    obtain ⟨w', hr, hh, hs, hd⟩ := run_stores r (i + 1) (w.setCell (a.add i) v) h' h
    refine ⟨w', ?_, hh, ⟨hs.os, hs.tape, hs.output⟩, hd⟩
    unfold storeCells
    simp only [Sem.run_bind]
    rw [run_store P w _ v _ h1]
    rw [cellAt_eq, frozenAt_eq, hc, hf]
    simpa using hr

theorem run_storeAt {t : TypeId} {p v : Value} {i : TypeInfo} {h' : Hp} (hi : P.info? t = some i) (h : sto i.size p v w.heap = some h') :
    ∃ w', (Instr.storeAt t p v).run P w = .ok () w' ∧ w'.heap = h' ∧ Rst w w' := by
  unfold sto at h
  split at h <;> try contradiction
  rename_i a
  split at h <;> try contradiction
  rename_i hsz
  obtain ⟨w', hr, hh, hs, _⟩ := run_stores (P := P) (a := a) v.cells.toList 0 w h' h
  refine ⟨w', ?_, hh, hs⟩
  have hsz' : v.cells.size = i.size := Nat.eq_of_beq_eq_true hsz
  simp only [Instr.storeAt, storeVar, Instr.sureAddr, Sem.run_bind, Sem.run_pure, Result.andThen_ok, run_sizeOf hi, hsz', ne_eq, not_true_eq_false, if_false, hr]

theorem run_bin {op : BinOp} {t : TypeId} {x y v : Value} (h : bin op x y = some v) : (binOp op t x y).run P w = .ok v w := by
  unfold bin at h
  split at h <;> try contradiction
  rename_i k a k' b
  split at h <;> (try contradiction) <;> (try (split at h <;> (try contradiction))) <;> (try (split at h <;> (try contradiction))) <;>
    (simp only [Option.some.injEq] at h; subst h) <;>
    (try subst k') <;>
    (try (rename_i hb; have hb' : ¬ b < 0 := hb)) <;>
    (first
      | (simp only [binOp, Op.shift]; rw [if_neg ‹¬ b < 0›]; rfl)
      | (simp only [binOp, ne_eq, not_true_eq_false, if_false, Op.intDiv]; rw [if_neg ‹¬ b = 0›]; rfl)
      | (simp only [binOp, ne_eq, not_true_eq_false, if_false, Op.intArith, Op.intCmp]; rfl)
      | (simp only [binOp, ne_eq, not_true_eq_false, if_false, Op.intBits]; rfl))

theorem run_eqGuard_int {op : BinOp} {t : TypeId} {x y : Operand} {k k' : IntKind} {a b : Int} : (eqGuard op t x y (.int k a) (.int k' b)).run P w = .ok () w := by
  unfold eqGuard; cases op <;> rfl

theorem bin_ints {op : BinOp} {x y v : Value} (h : bin op x y = some v) : ∃ k a k' b, x = .int k a ∧ y = .int k' b := by
  unfold bin at h
  split at h <;> try contradiction
  exact ⟨_, _, _, _, rfl, rfl⟩

def EKu (P : Program) (t : TypeId) : EK → Prop
    | .boolean => P.underlying t = some .bool
    | .ptr => ∃ e, P.underlying t = some (.pointer e)
    | .slc => ∃ e, P.underlying t = some (.slice e)
    | .map => ∃ a b, P.underlying t = some (.map a b)
    | .fn => ∃ a b c, P.underlying t = some (.func a b c)
    | .agg n => flatT P 5 t = some n ∧ P.eqGuardType P.depth t = false ∧ ((∃ fs, P.underlying t = some (.struct fs)) ∨ (∃ n e, P.underlying t = some (.array n e)))
    | _ => True
theorem eqk_under (P : Program) (t : TypeId) : EKu P t (eqk P t) := by
  cases hk : eqk P t <;> simp only [EKu] <;> (unfold eqk at hk; split at hk <;> (try split at hk) <;> simp_all)

theorem appB_eq : ∀ (a b : List Bool), appB a b = a ++ b
  | [], _ => rfl
  | x :: r, b => by simp [appB, appB_eq r b]
theorem lenB_eq : ∀ l : List Bool, lenB l = l.length
  | [] => rfl
  | _ :: r => by simp [lenB, lenB_eq r]

theorem eqL_append : ∀ {l a a' : List _} {l' b b' : List _} {q : Bool}, l.length = a.length → l.length = a'.length → eqL (l ++ l') (a ++ b) (a' ++ b') = some q → ∃ q1 q2, eqL l a a' = some q1 ∧ eqL l' b b' = some q2 ∧ q = (q1 && q2)
  | [], [], [], l', b, b', q, _, _, h => ⟨true, q, rfl, by simpa using h, by simp⟩
  | i :: l, x :: a, y :: a', l', b, b', q, h1, h2, h => by
    simp only [List.cons_append, eqL, Option.bind_eq_some_iff, Option.some.injEq] at h
    obtain ⟨q0, h0, q', hq', rfl⟩ := h
    obtain ⟨q1, q2, e1, e2, rfl⟩ := eqL_append (by simpa using h1) (by simpa using h2) hq'
    exact ⟨q0 && q1, q2, by simp [eqL, h0, e1], e2, by simp [Bool.and_assoc]⟩
  | [], _ :: _, _, _, _, _, _, h1, _, _ => by simp at h1
  | [], [], _ :: _, _, _, _, _, _, h2, _ => by simp at h2
  | _ :: _, [], _, _, _, _, _, h1, _, _ => by simp at h1
  | _ :: _, _ :: _, [], _, _, _, _, _, h2, _ => by simp at h2

theorem eqL_length : ∀ {l : List Bool} {a b : List Value} {q : Bool}, eqL l a b = some q → a.length = l.length ∧ b.length = l.length
  | [], [], [], _, _ => ⟨rfl, rfl⟩
  | i :: l, x :: a, y :: b, q, h => by
    simp only [eqL, Option.bind_eq_some_iff, Option.some.injEq] at h
    obtain ⟨_, _, _, h2, _⟩ := h
    have := eqL_length h2
    simp [this.1, this.2]
  | [], _ :: _, _, _, h => by simp [eqL] at h
  | [], [], _ :: _, _, h => by simp [eqL] at h
  | _ :: _, [], _, _, h => by simp [eqL] at h
  | _ :: _, _ :: _, [], _, h => by simp [eqL] at h

/-- the cells from o on, n of them -/
def seg (xs : Array Value) (o n : Nat) : List Value := (xs.toList.drop o).take n
theorem seg_length {xs : Array Value} {o n : Nat} (h : o + n ≤ xs.size) : (seg xs o n).length = n := by
  unfold seg; simp; omega
theorem seg_add {xs : Array Value} {o n m : Nat} : seg xs o (n + m) = seg xs o n ++ seg xs (o + n) m := by
  unfold seg
  rw [List.take_add, List.drop_drop]

/-- the part of a type at an offset -/
def FlatAt (P : Program) (d : Nat) (t : TypeId) (l : List Bool) : Prop :=
  ∀ (w : World) (xs ys : Array Value) (o : Nat) (q : Bool), o + l.length ≤ xs.size → o + l.length ≤ ys.size → eqL l (seg xs o l.length) (seg ys o l.length) = some q →
    ∃ x y, (part t xs o).run P w = .ok x w ∧ (part t ys o).run P w = .ok y w ∧ (Op.equalIn d t x y).run P w = .ok q w

theorem flat_fields {d : Nat} {flat : TypeId → Option (List Bool)} (hfl : ∀ t l, flat t = some l → FlatAt P d t l) : ∀ (fs : List Field) (off : Nat) (l : List Bool), flatFs P flat fs off = some l →
    ∀ (w : World) (xs ys : Array Value) (q : Bool), off + l.length ≤ xs.size → off + l.length ≤ ys.size → eqL l (seg xs off l.length) (seg ys off l.length) = some q → (Op.eqFields d xs ys fs).run P w = .ok q w
  | [], off, l, h => by
    simp only [flatFs, Option.some.injEq] at h
    subst h
    intro w xs ys q _ _ hq
    simp only [seg, List.length_nil, List.take_zero, eqL, Option.some.injEq] at hq
    subst hq
    rfl
  | f :: r, off, l, h => by
    unfold flatFs at h
    split at h <;> try contradiction
    rename_i lf i ho hnm hfm hi
    split at h <;> try contradiction
    rename_i l' hsz hrest
    simp only [Option.some.injEq] at h
    subst h
    have hoff := Nat.eq_of_beq_eq_true ho
    rw [lenB_eq] at hrest
    have hrec := flat_fields hfl r (off + lf.length) l' hrest
    intro w xs ys q hx hy hq
    rw [appB_eq, List.length_append] at hx hy hq
    rw [seg_add, seg_add] at hq
    obtain ⟨q1, q2, h1, h2, rfl⟩ := eqL_append (by rw [seg_length (by omega)]) (by rw [seg_length (by omega)]) hq
    obtain ⟨x, y, p1, p2, p3⟩ := hfl _ _ hfm w xs ys off q1 (by omega) (by omega) h1
    have hne : f.name ≠ "_" := fun e => by rw [e] at hnm; simp at hnm
    unfold Op.eqFields
    rw [if_pos hne]
    rw [hoff]
    simp only [Sem.run_bind, p1, p2, p3, Result.andThen_ok]
    cases q1 with
    | false => simp
    | true => simpa using hrec w xs ys q2 (by omega) (by omega) h2

theorem repB_length (l : List Bool) : ∀ n, (repB l n).length = n * l.length
  | 0 => by simp [repB]
  | n + 1 => by simp [repB, appB_eq, repB_length l n, Nat.succ_mul, Nat.add_comm]

theorem run_equalIn_array {d : Nat} {t e : TypeId} {len : Nat} {l : List Bool} {i : TypeInfo} (hu : P.underlying t = some (.array len e)) (hi : P.info? e = some i) (hn : i.size = l.length) (hfl : FlatAt P d e l) (w : World) (xs ys : Array Value) (q : Bool)
    (hx : xs.size = len * l.length) (hy : ys.size = len * l.length) (hq : eqL (repB l len) xs.toList ys.toList = some q) : (Op.equalIn (d + 1) t (.agg xs) (.agg ys)).run P w = .ok q w := by
  simp only [Op.equalIn, Sem.run_bind, run_underlying hu, Result.andThen_ok, run_sizeOf hi, hn]
  rw [Std.Legacy.Range.forIn_eq_forIn_range']
  have hsz : ({ start := 0, stop := len, step := 1, step_pos := by decide } : Std.Legacy.Range).size = len := by simp [Std.Legacy.Range.size]
  simp only [hsz]
  have key : ∀ (k j : Nat) (w : World) (q : Bool), j + k = len → eqL (repB l k) (seg xs (j * l.length) (k * l.length)) (seg ys (j * l.length) (k * l.length)) = some q →
      (forIn (List.range' j k 1) ((none, PUnit.unit) : Option Bool × PUnit) (fun i r => do
        let a ← part e xs (i * l.length)
        let b ← part e ys (i * l.length)
        let c ← Op.equalIn d e a b
        if (!c) = true then pure (ForInStep.done (some false, PUnit.unit)) else do
          pure PUnit.unit
          pure (ForInStep.yield (none, PUnit.unit))) : Sem (Option Bool × PUnit)).run P w = .ok (if q then none else some false, PUnit.unit) w := by
    intro k
    induction k with
    | zero =>
      intro j w q _ h
      simp only [Nat.zero_mul, seg, List.take_zero, repB, eqL, Option.some.injEq] at h
      subst h
      rfl
    | succ k ih =>
      intro j w q hj h
      have hb : j * l.length + l.length ≤ len * l.length := by
        have : (j + 1) * l.length ≤ len * l.length := Nat.mul_le_mul_right _ (by omega)
        rw [Nat.succ_mul] at this; exact this
      rw [repB, appB_eq, Nat.succ_mul, Nat.add_comm (k * l.length) l.length, seg_add, seg_add] at h
      obtain ⟨q1, q2, h1, h2, rfl⟩ := eqL_append (by rw [seg_length (by omega)]) (by rw [seg_length (by omega)]) h
      obtain ⟨x, y, p1, p2, p3⟩ := hfl w xs ys (j * l.length) q1 (by omega) (by omega) h1
      rw [List.range'_succ, List.forIn_cons]
      simp only [Sem.run_bind, p1, p2, p3, Result.andThen_ok]
      cases q1 with
      | false => simp
      | true =>
        simp only [Bool.not_true, Bool.false_eq_true, if_false, Sem.run_pure, Result.andThen_ok, Bool.true_and]
        exact ih (j + 1) w q2 (by omega) (by rw [Nat.succ_mul]; exact h2)
  have h0 : eqL (repB l len) (seg xs (0 * l.length) (len * l.length)) (seg ys (0 * l.length) (len * l.length)) = some q := by
    have ex : seg xs (0 * l.length) (len * l.length) = xs.toList := by unfold seg; rw [Nat.zero_mul, List.drop_zero, List.take_of_length_le (by simp [hx])]
    have ey : seg ys (0 * l.length) (len * l.length) = ys.toList := by unfold seg; rw [Nat.zero_mul, List.drop_zero, List.take_of_length_le (by simp [hy])]
    rw [ex, ey]; exact hq
  have hk := key len 0 w q (by omega) h0
  rw [hk]
  cases q <;> rfl

/-- a flat type, whole -/
theorem flat_eq : ∀ (d : Nat) (t : TypeId) (l : List Bool), flatT P d t = some l → ∀ k, d ≤ k →
    FlatAt P k t l ∧ ((∃ fs, P.underlying t = some (.struct fs)) ∨ (∃ n e, P.underlying t = some (.array n e)) → ∀ (w : World) (xs ys : Array Value) (q : Bool), eqL l xs.toList ys.toList = some q → (Op.equalIn k t (.agg xs) (.agg ys)).run P w = .ok q w)
  | 0, t, n, h, _, _ => by simp [flatT] at h
  | d + 1, t, l, h, k, hk => by
    obtain ⟨k, rfl⟩ : ∃ j, k = j + 1 := ⟨k - 1, by omega⟩
    have hk' : d ≤ k := by omega
    have hagg : ∀ (u : TypeDesc), P.underlying t = some u → ((∃ fs, u = .struct fs) ∨ ∃ l e, u = .array l e) → ∀ (i : TypeInfo), P.info? t = some i → ∀ (w : World) (o : Nat) (a : Array Value), (part t a o).run P w = .ok (.agg (a.extract o (o + i.size))) w := by
      intro u hu hor i hi w o a
      unfold part isAgg
      rcases hor with ⟨fs, rfl⟩ | ⟨l, e, rfl⟩ <;> simp [run_underlying hu, run_sizeOf hi]
    have hseg : ∀ (a : Array Value) (o m : Nat), (a.extract o (o + m)).toList = seg a o m := by
      intro a o m
      unfold seg
      rw [Array.toList_extract, List.extract_eq_drop_take']
      simp [List.drop_take]
    have hcell : ∀ (a : Array Value) (o : Nat), o + 1 ≤ a.size → ∃ v, a[o]? = some v ∧ seg a o 1 = [v] := by
      intro a o ha
      have hlt : o < a.size := by omega
      refine ⟨a[o], Array.getElem?_eq_getElem hlt, ?_⟩
      unfold seg
      rw [List.drop_eq_getElem_cons (by simpa using hlt)]
      simp
    have fromWhole : ∀ (u : TypeDesc), P.underlying t = some u → ((∃ fs, u = .struct fs) ∨ ∃ l e, u = .array l e) → ∀ (i : TypeInfo), P.info? t = some i → i.size = l.length →
        (∀ (w : World) (xs ys : Array Value) (q : Bool), eqL l xs.toList ys.toList = some q → (Op.equalIn (k + 1) t (.agg xs) (.agg ys)).run P w = .ok q w) → FlatAt P (k + 1) t l := by
      intro u hu hor i hi hsz hw w xs ys o q hx hy hq
      refine ⟨_, _, hagg u hu hor i hi w o xs, hagg u hu hor i hi w o ys, hw w _ _ q ?_⟩
      rw [hseg, hseg, hsz]
      exact hq
    unfold flatT at h
    split at h
    · rename_i ik hu
      simp only [Option.some.injEq] at h
      subst h
      refine ⟨fun w xs ys o q hx hy hq => ?_, fun hor => by rcases hor with ⟨fs, h1⟩ | ⟨n, e, h1⟩ <;> (rw [hu] at h1; cases h1)⟩
      obtain ⟨x, hx1, hx2⟩ := hcell xs o hx
      obtain ⟨y, hy1, hy2⟩ := hcell ys o hy
      simp only [List.length_cons, List.length_nil, Nat.zero_add] at hq
      rw [hx2, hy2] at hq
      simp only [eqL, Option.bind_eq_some_iff, Option.some.injEq] at hq
      obtain ⟨q0, h0, q1, hq1, rfl⟩ := hq
      subst hq1
      have hp : ∀ (a : Array Value) (v : Value), a[o]? = some v → (part t a o).run P w = .ok v w := by
        intro a v hv
        unfold part isAgg
        simp [run_underlying hu, hv]
      refine ⟨x, y, hp _ _ hx1, hp _ _ hy1, ?_⟩
      unfold eq1 at h0
      split at h0 <;> try contradiction
      split at h0 <;> try contradiction
      rename_i hkk
      simp only [Option.some.injEq] at h0
      subst h0
      subst hkk
      simp [Op.equalIn, run_underlying hu]
    · rename_i hu
      simp only [Option.some.injEq] at h
      subst h
      refine ⟨fun w xs ys o q hx hy hq => ?_, fun hor => by rcases hor with ⟨fs, h1⟩ | ⟨n, e, h1⟩ <;> (rw [hu] at h1; cases h1)⟩
      obtain ⟨x, hx1, hx2⟩ := hcell xs o hx
      obtain ⟨y, hy1, hy2⟩ := hcell ys o hy
      simp only [List.length_cons, List.length_nil, Nat.zero_add] at hq
      rw [hx2, hy2] at hq
      simp only [eqL, Option.bind_eq_some_iff, Option.some.injEq] at hq
      obtain ⟨q0, h0, q1, hq1, rfl⟩ := hq
      subst hq1
      have hp : ∀ (a : Array Value) (v : Value), a[o]? = some v → (part t a o).run P w = .ok v w := by
        intro a v hv
        unfold part isAgg
        simp [run_underlying hu, hv]
      refine ⟨x, y, hp _ _ hx1, hp _ _ hy1, ?_⟩
      unfold eq1 at h0
      split at h0 <;> try contradiction
      simp only [Option.some.injEq] at h0
      subst h0
      simp [Op.equalIn, run_underlying hu]
    · rename_i fs hu
      split at h <;> try contradiction
      rename_i l' i hst hfs hi
      split at h <;> try contradiction
      rename_i hsz
      simp only [Option.some.injEq] at h
      subst h
      have hsz' : i.size = l'.length := by rw [← lenB_eq]; exact Nat.eq_of_beq_eq_true hsz
      have hfo : P.fieldsOf t = fs := by simp [Program.fieldsOf, hu]
      have hw : ∀ (w : World) (xs ys : Array Value) (q : Bool), eqL l' xs.toList ys.toList = some q → (Op.equalIn (k + 1) t (.agg xs) (.agg ys)).run P w = .ok q w := by
        intro w xs ys q hq
        rw [run_equalIn_struct w k t xs ys (by rw [hfo]; exact hu) hst, hfo]
        have hl := eqL_length hq
        have e1 : ∀ a : Array Value, a.toList.length = l'.length → seg a 0 l'.length = a.toList := fun a ha => by unfold seg; rw [List.drop_zero, List.take_of_length_le (by omega)]
        exact flat_fields (fun t' l'' ht' => (flat_eq d t' l'' ht' k hk').1) fs.toList 0 l' hfs w xs ys q (by have := hl.1; simp at this; omega) (by have := hl.2; simp at this; omega) (by rw [e1 xs hl.1, e1 ys hl.2]; exact hq)
      exact ⟨fromWhole _ hu (.inl ⟨_, rfl⟩) i hi hsz' hw, fun _ => hw⟩
    · rename_i len e hu
      split at h <;> try contradiction
      rename_i le i j hle hi hj
      split at h <;> try contradiction
      rename_i hsz hsz2
      simp only [Option.some.injEq] at h
      subst h
      have hsz' : i.size = le.length := by rw [← lenB_eq]; exact Nat.eq_of_beq_eq_true hsz
      have hsz2' : j.size = (repB le len).length := by rw [← lenB_eq]; exact Nat.eq_of_beq_eq_true hsz2
      have hw : ∀ (w : World) (xs ys : Array Value) (q : Bool), eqL (repB le len) xs.toList ys.toList = some q → (Op.equalIn (k + 1) t (.agg xs) (.agg ys)).run P w = .ok q w := by
        intro w xs ys q hq
        have hl := eqL_length hq
        rw [repB_length] at hl
        exact run_equalIn_array hu hi hsz' (flat_eq d e le hle k hk').1 w xs ys q (by simpa using hl.1) (by simpa using hl.2) hq
      exact ⟨fromWhole _ hu (.inr ⟨_, _, rfl⟩) j hj hsz2' hw, fun _ => hw⟩
    · contradiction
theorem run_equalIn (d : Nat) (hd : 4 ≤ d) {t : TypeId} {x y : Value} {b : Bool} (h : eqT (eqk P t) x y = some b) : (Op.equalIn (d + 1) t x y).run P w = .ok b w := by
  have hu := eqk_under P t
  cases hk : eqk P t <;> rw [hk] at h hu <;> simp only [eqT, EKu] at h hu <;> try contradiction
  · unfold eqB at h
    split at h <;> try contradiction
    simp only [Option.some.injEq] at h
    simp [Op.equalIn, run_underlying hu, h]
  · obtain ⟨e, hu⟩ := hu
    unfold eqP at h
    split at h <;> try contradiction
    all_goals (simp only [Option.some.injEq] at h; simp [Op.equalIn, run_underlying hu, h])
  · obtain ⟨e, hu⟩ := hu
    unfold eqS at h
    split at h <;> try contradiction
    all_goals (simp only [Option.some.injEq] at h; simp [Op.equalIn, run_underlying hu, h])
  · obtain ⟨e, e', hu⟩ := hu
    unfold eqM at h
    split at h <;> try contradiction
    all_goals (simp only [Option.some.injEq] at h; simp [Op.equalIn, run_underlying hu, h])
  · obtain ⟨e, e', e'', hu⟩ := hu
    unfold eqF at h
    split at h <;> try contradiction
    all_goals (simp only [Option.some.injEq] at h; simp [Op.equalIn, run_underlying hu, h])
  · obtain ⟨h1, h2, h3⟩ := hu
    unfold eqA at h
    split at h <;> try contradiction
    exact (flat_eq 5 t _ h1 (d + 1) (by omega)).2 h3 w _ _ b h

theorem run_eqT {t : TypeId} {x y : Value} {b : Bool} (h : eqT (eqk P t) x y = some b) : (Op.equal t x y).run P w = .ok b w :=
  run_equalIn 9999 (by omega) h

/-- the values that 'eqT' takes are none of those that the guard looks into -/
theorem eqT_guard {k : EK} {x y : Value} {b : Bool} (h : eqT k x y = some b) (hk : ∀ ds, k ≠ .agg ds) :
    (∀ (op : BinOp) (t : TypeId) (ox oy : Operand), (eqGuard op t ox oy x y).run P w = .ok () w) ∧
    (∀ t, binOp .eql t x y = (do pure (.bool (← Op.equal t x y)))) ∧ (∀ t, binOp .neq t x y = (do pure (.bool (!(← Op.equal t x y))))) := by
  cases k <;> simp only [eqT] at h <;> try contradiction
  · unfold eqB at h; split at h <;> try contradiction
    exact ⟨fun op _ _ _ => by cases op <;> rfl, fun _ => rfl, fun _ => rfl⟩
  · unfold eqP at h; split at h <;> try contradiction
    all_goals exact ⟨fun op _ _ _ => by cases op <;> rfl, fun _ => rfl, fun _ => rfl⟩
  · unfold eqS at h; split at h <;> try contradiction
    all_goals exact ⟨fun op _ _ _ => by cases op <;> rfl, fun _ => rfl, fun _ => rfl⟩
  · unfold eqM at h; split at h <;> try contradiction
    all_goals exact ⟨fun op _ _ _ => by cases op <;> rfl, fun _ => rfl, fun _ => rfl⟩
  · unfold eqF at h; split at h <;> try contradiction
    all_goals exact ⟨fun op _ _ _ => by cases op <;> rfl, fun _ => rfl, fun _ => rfl⟩
  · exact (hk _ rfl).elim

theorem run_bnT {op : BinOp} {t : TypeId} {ox oy : Operand} {x y v : Value} (h : bnT (eqk P t) op x y = some v) :
    (do eqGuard op t ox oy x y; binOp op t x y : Sem Value).run P w = .ok v w := by
  cases hk : eqk P t with
  | plain =>
    rw [hk] at h
    simp only [bnT] at h
    obtain ⟨k, a, k', b, rfl, rfl⟩ := bin_ints h
    simp only [Sem.run_bind, run_eqGuard_int, Result.andThen_ok, run_bin h]
  | agg l =>
    have hu := eqk_under P t
    rw [hk] at h hu
    obtain ⟨h1, h2, h3⟩ := hu
    cases op <;> simp only [bnT] at h <;> try contradiction
    all_goals
      simp only [pos?, neg?, Option.bind_eq_some_iff, Option.some.injEq] at h
      obtain ⟨b, hb, rfl⟩ := h
      have hr := run_eqT (P := P) (w := w) (t := t) (x := x) (y := y) (b := b) (by rw [hk]; exact hb)
      simp only [eqT, eqA] at hb
      split at hb <;> try contradiction
      simp only [Op.equal, Op.maxDepth] at hr
      simp only [Sem.run_bind, run_eqGuard_agg w _ _ _ _ _ _ h2, Result.andThen_ok, run_eql_struct, run_neq_struct, hr]
  | _ =>
    rw [hk] at h
    cases op <;> simp only [bnT] at h <;> try contradiction
    all_goals
      simp only [pos?, neg?, Option.bind_eq_some_iff, Option.some.injEq] at h
      obtain ⟨b, hb, rfl⟩ := h
      obtain ⟨g1, g2, g3⟩ := eqT_guard (P := P) (w := w) hb (fun ds e => by simp at e)
      rw [← hk] at hb
      have hr := run_eqT (P := P) (w := w) hb
      simp only [Sem.run_bind, g1, g2, g3, Result.andThen_ok, hr, Sem.run_pure]

theorem run_equalI (d : Nat) {t : TypeId} {x : Value} {b : Bool} (hi : isI P t = true) (h : (x = .nilIface ∧ b = true) ∨ ((∃ t' v, x = .iface t' v) ∧ b = false)) : (Op.equalIn (d + 1) t x .nilIface).run P w = .ok b w := by
  unfold isI at hi
  split at hi <;> try contradiction
  rename_i ms hu
  unfold Op.equalIn
  rcases h with ⟨rfl, rfl⟩ | ⟨⟨t', v, rfl⟩, rfl⟩
  · simp only [Sem.run_bind, run_underlying hu, Result.andThen_ok, Sem.run_pure]
  · simp only [Sem.run_bind, run_underlying hu, Result.andThen_ok, Sem.run_pure]
theorem run_inl {op : BinOp} {t : TypeId} {ox : Operand} {x v : Value} (hi : isI P t = true) (h : inl op x = some v) :
    (do eqGuard op t ox (.const .nilIface) x .nilIface; binOp op t x .nilIface : Sem Value).run P w = .ok v w := by
  have e : ∀ b, ((x = .nilIface ∧ b = true) ∨ ((∃ t' v, x = .iface t' v) ∧ b = false)) → (Op.equal t x .nilIface).run P w = .ok b w := fun b hb => run_equalI 9999 hi hb
  unfold inl at h
  split at h <;> try contradiction
  all_goals
    simp only [Option.some.injEq] at h
    subst h
  · have g : (eqGuard .eql t ox (.const .nilIface) .nilIface .nilIface).run P w = .ok () w := by
      unfold eqGuard; simp
    have b : binOp .eql t .nilIface .nilIface = (do pure (.bool (← Op.equal t .nilIface .nilIface))) := rfl
    simp only [Sem.run_bind, g, b, Result.andThen_ok, e true (.inl ⟨rfl, rfl⟩), Sem.run_pure]
  · rename_i t' v'
    have g : (eqGuard .eql t ox (.const .nilIface) (.iface t' v') .nilIface).run P w = .ok () w := rfl
    have b : binOp .eql t (.iface t' v') .nilIface = (do pure (.bool (← Op.equal t (.iface t' v') .nilIface))) := rfl
    simp only [Sem.run_bind, g, b, Result.andThen_ok, e false (.inr ⟨⟨_, _, rfl⟩, rfl⟩), Sem.run_pure]
  · have g : (eqGuard .neq t ox (.const .nilIface) .nilIface .nilIface).run P w = .ok () w := by
      unfold eqGuard; simp
    have b : binOp .neq t .nilIface .nilIface = (do pure (.bool (!(← Op.equal t .nilIface .nilIface)))) := rfl
    simp only [Sem.run_bind, g, b, Result.andThen_ok, e true (.inl ⟨rfl, rfl⟩), Sem.run_pure, Bool.not_true]
  · rename_i t' v'
    have g : (eqGuard .neq t ox (.const .nilIface) (.iface t' v') .nilIface).run P w = .ok () w := rfl
    have b : binOp .neq t (.iface t' v') .nilIface = (do pure (.bool (!(← Op.equal t (.iface t' v') .nilIface)))) := rfl
    simp only [Sem.run_bind, g, b, Result.andThen_ok, e false (.inr ⟨⟨_, _, rfl⟩, rfl⟩), Sem.run_pure, Bool.not_false]
theorem run_mif {t : TypeId} {x : Value} (hi : noI P t = true) : (Instr.makeInterface t x).run P w = .ok (.iface t x) w := by
  unfold noI at hi
  split at hi <;> try contradiction
  rename_i d hn hu
  unfold Instr.makeInterface
  simp only [Sem.run_bind, run_underlying hu, Result.andThen_ok, Sem.run_pure]
theorem run_tas {t xt : TypeId} {i : TypeInfo} {z x v : Value} {ok : Bool} (hi : noI P t = true) (hj : P.info? t = some i) (hz : i.zero = some z) (h : tas t z ok x = some v) : (Instr.typeAssert x xt t ok).run P w = .ok v w := by
  unfold noI at hi
  split at hi <;> try contradiction
  rename_i d hn hu
  have hzr := run_zero (P := P) (w := w) hj hz
  unfold tas at h
  unfold Instr.typeAssert
  split at h <;> try contradiction
  · rename_i t' v'
    simp only [Option.some.injEq] at h
    subst h
    simp only [Sem.run_bind, run_underlying hu, Result.andThen_ok]
    by_cases e : t' = t
    · cases d <;> first | (rename_i ms; exact (hn ms rfl).elim) | simp [e]
    · cases d <;> first | (rename_i ms; exact (hn ms rfl).elim) | simp [e, hzr]
  · rename_i t' v'
    split at h <;> try contradiction
    rename_i e
    simp only [Option.some.injEq] at h
    subst h
    simp only [Sem.run_bind, run_underlying hu, Result.andThen_ok]
    cases d <;> first | (rename_i ms; exact (hn ms rfl).elim) | simp [e]
  · simp only [Option.some.injEq] at h
    subst h
    simp only [Sem.run_bind, run_underlying hu, Result.andThen_ok]
    cases d <;> first | (rename_i ms; exact (hn ms rfl).elim) | simp [hzr]
theorem run_uno {op : UnOp} {x v : Value} (h : uno op x = some v) : (Op.unary op x).run P w = .ok v w := by
  unfold uno at h
  split at h <;> try contradiction
  all_goals (simp only [Option.some.injEq] at h; subst h; simp [Op.unary, Op.intArith])

theorem run_cvT {s d : TypeId} {x v : Value} (h : cvT (cvk P s d) x = some v) : (convert s d x).run P w = .ok v w := by
  unfold cvk at h
  split at h
  · rename_i k' k hs hd
    simp only [cvT] at h
    unfold cvi at h
    split at h <;> try contradiction
    simp only [Option.some.injEq] at h
    subst h
    simp [convert, run_underlying hs, run_underlying hd, Conv.intToInt]
  · simp [cvT] at h

theorem fkk_field {s : TypeId} {f : Nat} {k : FK} (h : fkk P s f = k) (hk : k ≠ .bad) : ∃ fs fd i, P.underlying s = some (.struct fs) ∧ fs[f]? = some fd ∧ P.info? fd.type = some i ∧ i.size ≠ 0 ∧
    ((k = .cell fd.offset ∧ tyk P fd.type = .cell) ∨ (k = .agg fd.offset i.size ∧ tyk P fd.type = .agg i.size)) := by
  unfold fkk at h
  split at h <;> try (exact (hk h.symm).elim)
  rename_i fs hu
  split at h <;> try (exact (hk h.symm).elim)
  rename_i fd hfd
  split at h <;> try (exact (hk h.symm).elim)
  · rename_i i ht hi
    split at h <;> try (exact (hk h.symm).elim)
    rename_i hs
    exact ⟨fs, fd, i, hu, hfd, hi, by omega, .inl ⟨h.symm, ht⟩⟩
  · rename_i n ht
    obtain ⟨⟨i, hi, hn⟩, _⟩ := tyk_agg ht
    exact ⟨fs, fd, i, hu, hfd, hi, by omega, .inr ⟨by rw [← h, hn], by rw [ht, hn]⟩⟩

theorem run_fieldAt {s : TypeId} {f : Nat} {p v : Value} (h : faT (fkk P s f) p = some v) : (Instr.fieldAt s p f).run P w = .ok v w := by
  have hk : fkk P s f ≠ .bad := fun e => by rw [e] at h; simp [faT] at h
  obtain ⟨fs, fd, i, hu, hfd, hi, hne, hc⟩ := fkk_field rfl hk
  have h' : fa fd.offset p = some v := by
    rcases hc with ⟨e, _⟩ | ⟨e, _⟩ <;> (rw [e] at h; simpa [faT] using h)
  unfold fa at h'
  split at h' <;> try contradiction
  simp only [Option.some.injEq] at h'
  subst h'
  simp [Instr.fieldAt, run_underlying hu, hfd, Instr.sureAddr, fieldPlace, run_sizeOf hi, hne]

theorem run_field {s : TypeId} {f : Nat} {x v : Value} (h : fdT (fkk P s f) x = some v) : (Instr.field s x f).run P w = .ok v w := by
  have hk : fkk P s f ≠ .bad := fun e => by rw [e] at h; simp [fdT] at h
  obtain ⟨fs, fd, i, hu, hfd, hi, hne, hc⟩ := fkk_field rfl hk
  rcases hc with ⟨e, ht⟩ | ⟨e, ht⟩ <;> rw [e] at h <;> simp only [fdT] at h
  · unfold fdc at h
    split at h <;> try contradiction
    simp [Instr.field, run_underlying hu, hfd, asAgg, part, run_isAgg_cell ht, h]
  · unfold fda at h
    split at h <;> try contradiction
    simp only [Option.some.injEq] at h
    subst h
    simp [Instr.field, run_underlying hu, hfd, asAgg, part, run_isAgg_agg ht, run_sizeOf hi]

theorem run_indexAt {t : TypeId} {x i v : Value} (h : ixT (ixk P t) x i = some v) : (Instr.indexAt t x i).run P w = .ok v w := by
  unfold ixk at h
  split at h
  · rename_i e hu
    split at h <;> simp only [ixT] at h <;> try contradiction
    rename_i ii hi
    unfold ixs at h
    split at h <;> try contradiction
    split at h <;> try contradiction
    rename_i hb
    simp only [Option.some.injEq] at h
    subst h
    simp [Instr.indexAt, asIntOf, run_underlying hu, hb, run_sizeOf hi]
  · rename_i n e hu
    split at h <;> simp only [ixT] at h <;> try contradiction
    rename_i ii hi
    unfold ixa at h
    split at h <;> try contradiction
    split at h <;> try contradiction
    rename_i hb
    simp only [Option.some.injEq] at h
    subst h
    simp [Instr.indexAt, asIntOf, run_underlying hu, hb, run_sizeOf hi, Instr.sureAddr]
  · simp [ixT] at h

theorem run_index {t : TypeId} {x i v : Value} (h : idT (idk P t) x i = some v) : (Instr.index t x i).run P w = .ok v w := by
  unfold idk at h
  split at h
  · rename_i n e hu
    split at h <;> simp only [idT] at h <;> try contradiction
    · rename_i ii ht hi
      unfold idc at h
      split at h <;> try contradiction
      split at h <;> try contradiction
      rename_i hb
      simp [Instr.index, asIntOf, run_underlying hu, hb, run_sizeOf hi, part, run_isAgg_cell ht, h]
    · rename_i s ii ht hi
      unfold ida at h
      split at h <;> try contradiction
      split at h <;> try contradiction
      rename_i hb
      simp only [Option.some.injEq] at h
      subst h
      obtain ⟨⟨i2, hi2, hn⟩, _⟩ := tyk_agg ht
      have : ii = i2 := by rw [hi] at hi2; simpa using hi2
      subst this
      simp [Instr.index, asIntOf, run_underlying hu, hb, run_sizeOf hi, part, run_isAgg_agg ht, hn]
  · rename_i hu
    simp only [idT] at h
    unfold idst at h
    split at h <;> try contradiction
    rename_i s _ n
    rw [Option.map_eq_some_iff] at h
    obtain ⟨b, hb, rfl⟩ := h
    simp [Instr.index, asIntOf, run_underlying hu, hb]
  · simp [idT] at h

theorem run_ent {it v : Value} (h : ent it w.heap = some v) : (Instr.entry it).run P w = .ok v w := by
  unfold ent at h
  split at h <;> try contradiction
  rename_i r _
  split at h <;> try contradiction
  rename_i m c0 seen stepped hr
  split at h <;> try contradiction
  rename_i stamp es clock hb hm
  split at h <;> try contradiction
  rename_i e hck he
  simp only [Option.some.injEq] at h
  subst h
  have hck' := Nat.eq_of_beq_eq_true hck
  subst hck'
  have g1 : (getObj r).run P w = .ok (.mapIter (some m) c0 seen clock) w := by simp only [getObj, Sem.run, hr]
  have g2 : (getObj m).run P w = .ok (.map es clock) w := by simp only [getObj, Sem.run, hm]
  unfold Instr.entry
  simp only [Sem.run_bind, g1, Result.andThen_ok, hb, g2, bne_self_eq_false, Bool.false_eq_true, if_false, he, Sem.run_pure]

theorem run_bnd {x : Value} {y : Nat} {c : BoundsCode} {m : Nat} (h : bnd x y = some m) : (Instr.sliceBound x y c).run P w = .ok m w := by
  unfold bnd at h
  split at h <;> try contradiction
  split at h <;> try contradiction
  rename_i hb
  simp only [Option.some.injEq] at h
  subst h
  simp [Instr.sliceBound, asIntOf, hb]

theorem run_bnds {isS : Bool} {len cap : Nat} {lo hi mx : Option Value} {b : Nat × Nat × Nat} (hm : hi = none → mx = none) (h : bnds len cap lo hi mx = some b) :
    (Instr.sliceBounds isS len cap lo hi mx).run P w = .ok b w := by
  unfold bnds at h
  simp only [Option.bind_eq_some_iff, Option.some.injEq] at h
  obtain ⟨m, h1, hh, h2, l, h3, rfl⟩ := h
  unfold Instr.sliceBounds
  cases mx with
  | none =>
    simp only [bndM, Option.some.injEq] at h1
    subst h1
    cases hi with
    | none =>
      simp only [bndH, Option.some.injEq] at h2
      subst h2
      cases lo with
      | none => simp only [bndL, Option.some.injEq] at h3; subst h3; rfl
      | some u => simp only [bndL] at h3; simp only [Sem.run_bind, Sem.run_pure, Result.andThen_ok, run_bnd h3]
    | some v =>
      simp only [bndH] at h2
      cases lo with
      | none => simp only [bndL, Option.some.injEq] at h3; subst h3; simp only [Sem.run_bind, Sem.run_pure, Result.andThen_ok, run_bnd h2]
      | some u => simp only [bndL] at h3; simp only [Sem.run_bind, Sem.run_pure, Result.andThen_ok, run_bnd h3, run_bnd h2]
  | some x =>
    simp only [bndM] at h1
    cases hi with
    | none => exact absurd (hm rfl) (by simp)
    | some v =>
      simp only [bndH] at h2
      cases lo with
      | none => simp only [bndL, Option.some.injEq] at h3; subst h3; simp only [Sem.run_bind, Sem.run_pure, Result.andThen_ok, run_bnd h2, run_bnd h1]
      | some u => simp only [bndL] at h3; simp only [Sem.run_bind, Sem.run_pure, Result.andThen_ok, run_bnd h3, run_bnd h2, run_bnd h1]

theorem run_sliceAt {t : TypeId} {x v : Value} {lo hi mx : Option Value} (hm : hi = none → mx = none) (h : slT (ixk P t) x lo hi mx = some v) :
    (Instr.sliceAt t x lo hi mx).run P w = .ok v w := by
  unfold ixk at h
  split at h
  · rename_i e hu
    split at h <;> simp only [slT] at h <;> try contradiction
    rename_i ii hii
    unfold slc at h
    split at h <;> try contradiction
    simp only [Option.bind_eq_some_iff, Option.some.injEq] at h
    obtain ⟨b, hb, rfl⟩ := h
    simp [Instr.sliceAt, Instr.slice, run_underlying hu, run_bnds hm hb, run_sizeOf hii, slcA]
  · rename_i n e hu
    split at h <;> simp only [slT] at h <;> try contradiction
    rename_i ii hii
    unfold sla at h
    split at h <;> try contradiction
    simp only [Option.bind_eq_some_iff, Option.some.injEq] at h
    obtain ⟨b, hb, rfl⟩ := h
    simp only [Instr.sliceAt, Sem.run_bind, run_underlying hu, Result.andThen_ok, Instr.sureAddr, Sem.run_pure, run_bnds hm hb, run_sizeOf hii, slcA]
    congr 2
    split <;> rfl
  · simp [slT] at h

theorem run_ext {x v : Value} {i : Nat} (h : ext i x = some v) : (Instr.extract x i).run P w = .ok v w := by
  unfold ext at h
  split at h <;> try contradiction
  simp [Instr.extract, h]

theorem run_places : ∀ (fs : List Field) (ps : List (Nat × Nat)), placesOf P fs = some ps →
    (fs.mapM fun f => do pure (f.offset, ← sizeOf f.type) : Sem (List (Nat × Nat))).run P w = .ok ps w
  | [], ps, h => by simp only [placesOf, Option.some.injEq] at h; subst h; rfl
  | f :: r, ps, h => by
    simp only [placesOf, Option.bind_eq_some_iff, Option.some.injEq] at h
    obtain ⟨i, hi, l, hl, rfl⟩ := h
    have := run_places r l hl
    simp only [List.mapM_cons, Sem.run_bind, run_sizeOf hi, Result.andThen_ok, Sem.run_pure, this]

theorem run_build {t : TypeId} {parts : Array (Nat × Value)} {v : Value} (h : bdT (bdk P t) parts.toList = some v) : (Instr.build t parts).run P w = .ok v w := by
  unfold bdk at h
  split at h <;> try (simp only [bdT] at h; contradiction)
  rename_i i hi
  split at h <;> try (simp only [bdT] at h; contradiction)
  rename_i z hz
  split at h <;> try (simp only [bdT] at h; contradiction)
  · rename_i fs hu
    split at h <;> try (simp only [bdT] at h; contradiction)
    rename_i ps hps
    simp only [bdT] at h
    unfold bldS at h
    simp only [Option.bind_eq_some_iff, Option.some.injEq] at h
    obtain ⟨cells, hc, rfl⟩ := h
    have hp := run_places (P := P) (w := w) fs.toList ps hps
    have hp' : (fs.mapM fun f => do pure (f.offset, ← sizeOf f.type) : Sem (Array (Nat × Nat))).run P w = .ok ps.toArray w := by
      rw [Array.mapM_eq_mapM_toList, Sem.run_map, hp]; rfl
    have hc' : Instr.fill (fun i => ps.toArray[i]?) z.cells parts.toList = some cells := by simpa using hc
    simp only [Instr.build, Sem.run_bind, run_zero hi hz, Result.andThen_ok, run_underlying hu, hp', hc', Sem.run_pure]
  · rename_i n e hu
    split at h <;> try (simp only [bdT] at h; contradiction)
    rename_i j hj
    simp only [bdT] at h
    unfold bldA at h
    simp only [Option.bind_eq_some_iff, Option.some.injEq] at h
    obtain ⟨cells, hc, rfl⟩ := h
    simp only [Instr.build, Sem.run_bind, run_zero hi hz, Result.andThen_ok, run_underlying hu, run_sizeOf hj, hc, Sem.run_pure]

theorem elk_ok {t e : TypeId} {z : Array Value} {s b : Nat} (h : elk P t = .ok e z s b) : P.underlying t = some (.slice e) ∧ ∃ i v, P.info? e = some i ∧ i.zero = some v ∧ v.cells = z ∧ i.size = s ∧ i.bytes = b ∧ z.size = s ∧ 0 < s := by
  unfold elk at h
  split at h <;> try contradiction
  rename_i e' hu
  split at h <;> try contradiction
  rename_i i hi
  split at h <;> try contradiction
  rename_i v hz
  split at h <;> try contradiction
  rename_i h1 h2
  simp only [XK.ok.injEq] at h
  obtain ⟨rfl, rfl, rfl, rfl⟩ := h
  exact ⟨hu, i, v, hi, hz, rfl, rfl, rfl, Nat.eq_of_beq_eq_true h1, by simpa [Nat.blt_eq] using h2⟩

theorem run_buildSlice {t e : TypeId} {z : Array Value} {s b len : Nat} {parts : Array (Nat × Value)} {v : Value} {h' : Hp} (hk : elk P t = .ok e z s b) (hl : len * s ≤ 16777216)
    (h : bsl z s len e parts.toList w.heap = some (v, h')) : ∃ w', (Instr.buildSlice t len parts).run P w = .ok v w' ∧ w'.heap = h' ∧ Rst w w' := by
  obtain ⟨hu, i, zv, hi, hz, rfl, rfl, rfl, hzs, hpos⟩ := elk_ok hk
  unfold bsl at h
  simp only [Option.bind_eq_some_iff, Option.some.injEq, Prod.mk.injEq] at h
  obtain ⟨cells, hc, rfl, rfl⟩ := h
  have h24 : ¬ (len * i.size > 16777216) := by omega
  by_cases h0 : len * i.size = 0
  · refine ⟨{ w with heap := w.heap.push (.cells cells e) }, ?_, rfl, ⟨rfl, rfl, rfl⟩⟩
    have e0 : (Array.range (len * i.size)).map (fun x => zv.cells[x % zv.cells.size]!) = (Array.range (len * i.size)).map (fun x => (#[] : Array Value)[x % 0]!) := by
      rw [h0]; simp
    rw [e0] at hc
    simp only [Instr.buildSlice, Sem.run_bind, run_underlying hu, Result.andThen_ok, run_sizeOf hi, h24, h0, if_true, if_false, Sem.run_pure, newRow, run_newObj, Nat.reducePow, Nat.not_lt_zero, gt_iff_lt]
    rw [h0] at hc
    simp only [List.size_toArray, List.length_nil]
    rw [hc]
    rfl
  · refine ⟨{ w with heap := w.heap.push (.cells cells e) }, ?_, rfl, ⟨rfl, rfl, rfl⟩⟩
    simp only [Instr.buildSlice, Sem.run_bind, run_underlying hu, Result.andThen_ok, run_sizeOf hi, h24, h0, if_false, Sem.run_pure, newRow, run_newObj, Nat.reducePow, run_zero hi hz, hc]

theorem run_nw_alloc {e : TypeId} {i : TypeInfo} {z v : Value} {h' : Hp} (hi : P.info? e = some i) (hz : i.zero = some z) (h : nw z.cells e w.heap = some (v, h')) :
    ∃ w', (Instr.alloc e true (.tuple #[])).run P w = .ok v w' ∧ w'.heap = h' ∧ Rst w w' := by
  simp only [nw, Option.some.injEq, Prod.mk.injEq] at h
  obtain ⟨rfl, rfl⟩ := h
  refine ⟨{ w with heap := w.heap.push (.cells z.cells e) }, ?_, rfl, ⟨rfl, rfl, rfl⟩⟩
  simp [Instr.alloc, run_zero hi hz, newVar, newRow]

theorem run_nw_box {e : TypeId} {x v : Value} {h' : Hp} (h : nw x.cells e w.heap = some (v, h')) :
    ∃ w', (Instr.box e x).run P w = .ok v w' ∧ w'.heap = h' ∧ Rst w w' := by
  simp only [nw, Option.some.injEq, Prod.mk.injEq] at h
  obtain ⟨rfl, rfl⟩ := h
  refine ⟨{ w with heap := w.heap.push (.cells x.cells e) }, ?_, rfl, ⟨rfl, rfl, rfl⟩⟩
  simp [Instr.box, newVar, newRow]
end
end Go.En
namespace Go.En
section
variable {P : Program} {w : World}

theorem mpk_ok {t : TypeId} {kd : TypeDesc} {z : Value} (h : mpk P t = .ok kd z) : ∃ k e ik i, P.underlying t = some (.map k e) ∧ P.underlying k = some (.int ik) ∧ kd = .int ik ∧ P.info? e = some i ∧ i.zero = some z := by
  unfold mpk at h
  split at h <;> try contradiction
  rename_i k e hu
  split at h <;> try contradiction
  rename_i ik i hk hi
  split at h <;> try contradiction
  rename_i zz hz
  simp only [MK.ok.injEq] at h
  obtain ⟨rfl, rfl⟩ := h
  exact ⟨k, e, ik, i, hu, hk, rfl, hi, hz⟩

theorem run_checkKey (e : Bool) (n : Nat) {k : TypeId} {ik : IntKind} (hk : P.underlying k = some (.int ik)) (v : Value) : (Instr.checkKey e (n + 1) k v).run P w = .ok () w := by
  unfold Instr.checkKey
  simp only [Sem.run_bind, run_underlying hk, Result.andThen_ok]
  cases v <;> rfl

theorem run_findKey {k : TypeId} {kd : TypeDesc} (hk : P.underlying k = some kd) {key : Value} {es : List MapEntry} {r : Option (Nat × Value)} (h : Instr.findNow kd key es 0 = some r) :
    (Instr.findKey k key es).run P w = .ok r w := by
  unfold Instr.findKey
  simp only [Sem.run_bind, run_underlying hk, Result.andThen_ok, h, Sem.run_pure]

theorem mkey_none {m : Value} {h : Hp} (e : mkey m h = some none) : m = .map none := by
  unfold mkey at e
  split at e
  · rfl
  · split at e <;> simp at e
  · simp at e
theorem mkey_some {m : Value} {h : Hp} {r : Nat} {es : Array MapEntry} {c : Nat} (e : mkey m h = some (some (r, es, c))) : m = .map (some r) ∧ h[r]? = some (.map es c) := by
  unfold mkey at e
  split at e
  · simp at e
  · rename_i r'
    split at e
    · rename_i es' c' hh
      simp only [Option.some.injEq, Prod.mk.injEq] at e
      obtain ⟨rfl, rfl, rfl⟩ := e
      exact ⟨rfl, hh⟩
    · simp at e
  · simp at e

theorem run_getMap {r : Nat} {es : Array MapEntry} {c : Nat} (hh : w.heap[r]? = some (.map es c)) : (getObj r).run P w = .ok (.map es c) w := by
  simp only [getObj, Sem.run, hh]
theorem run_setMap {r : Nat} {es : Array MapEntry} {c : Nat} (o : Obj) (hh : w.heap[r]? = some (.map es c)) : (setObj r o).run P w = .ok () { w with heap := w.heap.setIfInBounds r o } := by
  simp only [setObj, Sem.run, hh]

theorem run_lookup {t : TypeId} {ok : Bool} {m key v : Value} (h : lkT (mpk P t) ok m key w.heap = some v) : (Instr.lookup t m key ok).run P w = .ok v w := by
  cases hk : mpk P t with
  | bad => rw [hk] at h; simp [lkT] at h
  | ok kd z =>
    rw [hk] at h
    simp only [lkT] at h
    obtain ⟨k, e, ik, i, hu, hkk, rfl, hi, hz⟩ := mpk_ok hk
    unfold lkm at h
    simp only [Option.bind_eq_some_iff, Option.some.injEq] at h
    obtain ⟨r, hr, f, hf, hv⟩ := h
    have hc := fun (b : Bool) => run_checkKey (P := P) (w := w) b 9999 hkk key
    cases r with
    | none =>
      have := mkey_none hr
      subst this
      simp only [Option.map_none, Option.getD_none, Instr.findNow, Option.some.injEq] at hf
      subst hf
      unfold Instr.lookup
      have hfk := run_findKey (P := P) (w := w) hkk (key := key) (es := []) (r := none) rfl
      simp only [Sem.run_bind, run_underlying hu, Result.andThen_ok, Sem.run_pure, hc, hfk, run_zero hi hz]
      subst hv
      cases ok <;> rfl
    | some x =>
      obtain ⟨r, es, c⟩ := x
      obtain ⟨rfl, hh⟩ := mkey_some hr
      simp only [Option.map_some, Option.getD_some] at hf
      have hfk := run_findKey (P := P) (w := w) hkk hf
      unfold Instr.lookup
      simp only [Sem.run_bind, run_underlying hu, Result.andThen_ok, Sem.run_pure, run_getMap hh, hc, hfk]
      subst hv
      cases f with
      | none => simp only [Sem.run_bind, run_zero hi hz, Result.andThen_ok, Sem.run_pure]; cases ok <;> rfl
      | some y => simp only [Sem.run_pure, Result.andThen_ok]; cases ok <;> rfl

/-- what is found has the key that was asked for -/
theorem findNow_key {ik : IntKind} {key : Value} : ∀ (es : List MapEntry) (i j : Nat) (v : Value), Instr.findNow (.int ik) key es i = some (some (j, v)) →
    i ≤ j ∧ ∃ e, es[j - i]? = some e ∧ e.val = v ∧ (∃ k a, key = .int k a ∧ e.key = .int k a)
  | [], i, j, v, h => by simp [Instr.findNow] at h
  | e :: es, i, j, v, h => by
    unfold Instr.findNow at h
    split at h
    · rename_i hs
      simp only [Option.some.injEq, Prod.mk.injEq] at h
      obtain ⟨rfl, rfl⟩ := h
      refine ⟨Nat.le_refl _, e, by simp, rfl, ?_⟩
      unfold Instr.sameNow at hs
      split at hs <;> try contradiction
      · rename_i hke
        split at hs <;> try contradiction
        rename_i hkk
        simp only [Option.some.injEq, beq_iff_eq] at hs
        exact ⟨_, _, rfl, by rw [hke, hkk, hs]⟩
    · obtain ⟨h1, e', h2, h3, h4⟩ := findNow_key es (i + 1) j v h
      refine ⟨by omega, e', ?_, h3, h4⟩
      have : j - i = (j - (i + 1)) + 1 := by omega
      rw [this, List.getElem?_cons_succ]
      exact h2
    · contradiction

theorem sameBits_int (n : Nat) (k : IntKind) (a : Int) : Instr.sameBits n (.int k a) (.int k a) = true := by
  cases n <;> simp [Instr.sameBits]

theorem run_keyStays {ik : IntKind} {key : Value} {es : Array MapEntry} {j : Nat} {v : Value} (h : Instr.findNow (.int ik) key es.toList 0 = some (some (j, v))) :
    (Instr.keyThatStays (((es[j]?).map (·.key)).getD key) key).run P w = .ok key w := by
  obtain ⟨_, e, h2, _, k, a, rfl, hk⟩ := findNow_key _ _ _ _ h
  have h2' : es[j]? = some e := by simpa using h2
  unfold Instr.keyThatStays
  rw [h2']
  simp only [Option.map_some, Option.getD_some, hk]
  rw [if_pos (sameBits_int _ _ _)]
  rfl

theorem run_mapUpdate {t : TypeId} {kd : TypeDesc} {z m key v : Value} {h' : Hp} (hk : mpk P t = .ok kd z) (h : mup kd m key v w.heap = some h') :
    ∃ w', (Instr.mapUpdate t m key v).run P w = .ok () w' ∧ w'.heap = h' ∧ Rst w w' := by
  obtain ⟨k, e, ik, i, hu, hkk, rfl, hi, hz⟩ := mpk_ok hk
  have hc := fun (b : Bool) => run_checkKey (P := P) (w := w) b 9999 hkk key
  unfold mup at h
  split at h <;> try contradiction
  rename_i r es c hm
  obtain ⟨rfl, hh⟩ := mkey_some hm
  unfold Instr.mapUpdate
  simp only [Sem.run_bind, run_underlying hu, Result.andThen_ok, run_getMap hh, hc]
  split at h <;> try contradiction
  · rename_i j u hf
    simp only [Option.some.injEq] at h
    subst h
    refine ⟨{ w with heap := w.heap.setIfInBounds r _ }, ?_, rfl, ⟨rfl, rfl, rfl⟩⟩
    simp only [run_findKey hkk hf, Result.andThen_ok, Sem.run_bind, run_keyStays hf, run_setMap _ hh]
  · rename_i hf
    simp only [Option.some.injEq] at h
    subst h
    refine ⟨{ w with heap := w.heap.setIfInBounds r _ }, ?_, rfl, ⟨rfl, rfl, rfl⟩⟩
    simp only [run_findKey hkk hf, Result.andThen_ok, run_setMap _ hh]

theorem run_mapEntry {t : TypeId} {kd : TypeDesc} {z m key v : Value} {h' : Hp} (hk : mpk P t = .ok kd z) (h : men kd z m key w.heap = some (v, h')) :
    ∃ w', (Instr.mapEntry t m key).run P w = .ok v w' ∧ w'.heap = h' ∧ Rst w w' := by
  obtain ⟨k, e, ik, i, hu, hkk, rfl, hi, hz⟩ := mpk_ok hk
  have hc := fun (b : Bool) => run_checkKey (P := P) (w := w) b 9999 hkk key
  unfold men at h
  split at h <;> try contradiction
  rename_i r es c hm
  obtain ⟨rfl, hh⟩ := mkey_some hm
  unfold Instr.mapEntry
  simp only [Sem.run_bind, run_underlying hu, Result.andThen_ok, run_getMap hh, hc]
  split at h <;> try contradiction
  · rename_i j u hf
    simp only [Option.some.injEq, Prod.mk.injEq] at h
    obtain ⟨rfl, rfl⟩ := h
    refine ⟨{ w with heap := w.heap.setIfInBounds r _ }, ?_, rfl, ⟨rfl, rfl, rfl⟩⟩
    simp only [run_findKey hkk hf, Result.andThen_ok, Sem.run_bind, run_keyStays hf, run_setMap _ hh, Sem.run_pure]
  · rename_i hf
    simp only [Option.some.injEq, Prod.mk.injEq] at h
    obtain ⟨rfl, rfl⟩ := h
    refine ⟨{ w with heap := w.heap.setIfInBounds r _ }, ?_, rfl, ⟨rfl, rfl, rfl⟩⟩
    simp only [run_findKey hkk hf, Result.andThen_ok, Sem.run_bind, run_zero hi hz, run_setMap _ hh, Sem.run_pure]

theorem run_entryStore {t : TypeId} {m s v : Value} {h' : Hp} (h : mst m s v w.heap = some h') :
    ∃ w', (Instr.entryStore t m s v).run P w = .ok () w' ∧ w'.heap = h' ∧ Rst w w' := by
  unfold mst at h
  split at h <;> try contradiction
  rename_i r es c k born hm
  obtain ⟨rfl, hh⟩ := mkey_some hm
  split at h <;> try contradiction
  rename_i i hf
  simp only [Option.some.injEq] at h
  subst h
  refine ⟨{ w with heap := w.heap.setIfInBounds r _ }, ?_, rfl, ⟨rfl, rfl, rfl⟩⟩
  simp only [Instr.entryStore, Sem.run_bind, run_getMap hh, Result.andThen_ok, asInt, asIntOf, Sem.run_pure, hf, run_setMap _ hh]

theorem run_delete {t ty : TypeId} {ts : Array TypeId} {kd : TypeDesc} {z m key v : Value} {h' : Hp} (ht : ts[0]? = some t) (hk : mpk P t = .ok kd z) (h : mdl kd m key w.heap = some (v, h')) :
    ∃ w', (Builtin.delete_ ts ty #[m, key]).run P w = .ok v w' ∧ w'.heap = h' ∧ Rst w w' := by
  obtain ⟨k, e, ik, i, hu, hkk, rfl, hi, hz⟩ := mpk_ok hk
  have hc := fun (b : Bool) => run_checkKey (P := P) (w := w) b 9999 hkk key
  unfold mdl at h
  unfold Builtin.delete_
  have e0 : (#[m, key] : Array Value)[0]? = some m := rfl
  have e1 : (#[m, key] : Array Value)[1]? = some key := rfl
  rw [ht, e0, e1]
  split at h <;> try contradiction
  · rename_i hm
    have := mkey_none hm
    subst this
    simp only [Option.some.injEq, Prod.mk.injEq] at h
    obtain ⟨rfl, rfl⟩ := h
    exact ⟨w, by simp only [Sem.run_bind, run_underlying hu, Result.andThen_ok, hc, Sem.run_pure], rfl, .refl w⟩
  · rename_i r es c hm
    obtain ⟨rfl, hh⟩ := mkey_some hm
    split at h <;> try contradiction
    · rename_i j u hf
      simp only [Option.some.injEq, Prod.mk.injEq] at h
      obtain ⟨rfl, rfl⟩ := h
      refine ⟨{ w with heap := w.heap.setIfInBounds r _ }, ?_, rfl, ⟨rfl, rfl, rfl⟩⟩
      simp only [Sem.run_bind, run_underlying hu, Result.andThen_ok, hc, run_getMap hh, run_findKey hkk hf, run_setMap _ hh, Sem.run_pure]
    · rename_i hf
      simp only [Option.some.injEq, Prod.mk.injEq] at h
      obtain ⟨rfl, rfl⟩ := h
      refine ⟨{ w with heap := w.heap.setIfInBounds r _ }, ?_, rfl, ⟨rfl, rfl, rfl⟩⟩
      simp only [Sem.run_bind, run_underlying hu, Result.andThen_ok, hc, run_getMap hh, run_findKey hkk hf, run_setMap _ hh, Sem.run_pure]

theorem run_makeMap {t : TypeId} {v : Value} {h' : Hp} (h : mmk w.heap = some (v, h')) : ∃ w', (Instr.makeMap t none).run P w = .ok v w' ∧ w'.heap = h' ∧ Rst w w' := by
  simp only [mmk, Option.some.injEq, Prod.mk.injEq] at h
  obtain ⟨rfl, rfl⟩ := h
  exact ⟨{ w with heap := w.heap.push (.map #[] 0) }, rfl, rfl, ⟨rfl, rfl, rfl⟩⟩

theorem run_range {t k e : TypeId} {m v : Value} {h' : Hp} (hu : P.underlying t = some (.map k e)) (h : rng m w.heap = some (v, h')) : ∃ w', (Instr.range t m).run P w = .ok v w' ∧ w'.heap = h' ∧ Rst w w' := by
  unfold rng at h
  split at h <;> try contradiction
  · rename_i hm
    have := mkey_none hm
    subst this
    simp only [Option.some.injEq, Prod.mk.injEq] at h
    obtain ⟨rfl, rfl⟩ := h
    exact ⟨{ w with heap := w.heap.push (.mapIter none 0 #[] 0) }, by simp only [Instr.range, Sem.run_bind, run_underlying hu, Result.andThen_ok, Sem.run_pure, run_newObj], rfl, ⟨rfl, rfl, rfl⟩⟩
  · rename_i r es c hm
    obtain ⟨rfl, hh⟩ := mkey_some hm
    simp only [Option.some.injEq, Prod.mk.injEq] at h
    obtain ⟨rfl, rfl⟩ := h
    exact ⟨{ w with heap := w.heap.push (.mapIter (some r) c #[] c) }, by simp only [Instr.range, Sem.run_bind, run_underlying hu, Result.andThen_ok, Sem.run_pure, run_newObj, run_getMap hh], rfl, ⟨rfl, rfl, rfl⟩⟩

/-- One step of a range over a map: whatever the tape picks. -/
def Nx (it : Value) (h : Hp) (k : Value → Hp → Prop) : Prop :=
  ∃ r, it = .pointer (some ⟨r, 0, none⟩) ∧
    ((∃ s q l, h[r]? = some (.mapIter none s q l) ∧ k (.tuple #[.bool false]) h) ∨
     (∃ m since seen last es clock, h[r]? = some (.mapIter (some m) since seen last) ∧ h[m]? = some (.map es clock) ∧
       (!seen.isEmpty && !es.isEmpty && es.all (·.born ≥ last)) = false ∧
       ((∀ e ∈ es, e.born < since → seen.contains e.born = true) → k (.tuple #[.bool false]) h) ∧
       (∀ e ∈ es, seen.contains e.born = false → k (.tuple #[.bool true, e.key, e.val]) (h.setIfInBounds r (.mapIter (some m) since (seen.push e.born) clock)))))

theorem mapNext_lt (n t : Nat) (h : 0 < n) : (if Question.forced (.mapNext n) then 0 else Question.cut (.mapNext n) t) < n := by
  split
  · exact h
  · simp only [Question.cut]; exact Nat.mod_lt _ h

theorem run_next {it : Value} {ty : TypeId} {k : Value → Hp → Prop} (h : Nx it w.heap k) : ∃ v w', (Instr.next it false ty).run P w = .ok v w' ∧ Rst w w' ∧ k v w'.heap := by
  obtain ⟨r, rfl, h⟩ := h
  rcases h with ⟨s, q, l, hh, hk⟩ | ⟨m, since, seen, last, es, clock, hh, hm, hg, hover, hmore⟩
  · have hg : (getObj r).run P w = .ok (.mapIter none s q l) w := by simp only [getObj, Sem.run, hh]
    exact ⟨_, w, by simp only [Instr.next, Sem.run_bind, hg, Result.andThen_ok, Sem.run_pure], .refl w, hk⟩
  · have hgo : (getObj r).run P w = .ok (.mapIter (some m) since seen last) w := by simp only [getObj, Sem.run, hh]
    have hset : ∀ (w' : World) (o : Obj), w'.heap = w.heap → (setObj r o).run P w' = .ok () { w' with heap := w'.heap.setIfInBounds r o } := by
      intro w' o e
      simp only [setObj, Sem.run, e, hh]
    unfold Instr.next
    simp only [Sem.run_bind, hgo, Result.andThen_ok, run_getMap hm, hg, Bool.false_eq_true, if_false, Sem.run_pure]
    generalize hC : ((if (((es.filter fun e => !seen.contains e.born).filter (·.born < since))).isEmpty then #[none] else #[]) ++
      (((es.filter fun e => !seen.contains e.born).filter (·.born < since)) ++ ((es.filter fun e => !seen.contains e.born).filter (·.born ≥ since))).map some : Array (Option MapEntry)) = C
    have hpos : 0 < C.size := by
      rw [← hC]
      simp only [Array.size_append, Array.size_map]
      by_cases hE : ((es.filter fun e => !seen.contains e.born).filter (·.born < since)).isEmpty = true
      · rw [if_pos hE]; simp
        omega
      · rw [if_neg hE]
        have : 0 < ((es.filter fun e => !seen.contains e.born).filter (·.born < since)).size := by
          rcases Nat.eq_zero_or_pos ((es.filter fun e => !seen.contains e.born).filter (·.born < since)).size with h0 | h0
          · exact absurd (by rw [Array.isEmpty, h0]; rfl) hE
          · exact h0
        omega
    -- every candidate is fine
    have hall : ∀ j (hj : j < C.size) (w' : World), w'.heap = w.heap → Rst w w' → ∃ v w'', (match C[j]? with
        | some (some e) => do
          setObj r (.mapIter (some m) since (seen.push e.born) clock)
          pure (.tuple #[.bool true, e.key, e.val])
        | some none => pure (.tuple #[.bool false])
        | none => stuck "Next: no such candidate" : Sem Value).run P w' = .ok v w'' ∧ Rst w w'' ∧ k v w''.heap := by
      intro j hj w' hw' hs
      have hmem : C[j] ∈ C := Array.getElem_mem hj
      rw [Array.getElem?_eq_getElem hj]
      cases hc : C[j] with
      | none =>
        rw [hc, ← hC] at hmem
        have hE : ((es.filter fun e => !seen.contains e.born).filter (·.born < since)).isEmpty = true := by
          rcases Array.mem_append.1 hmem with h1 | h1
          · split at h1
            · assumption
            · simp at h1
          · simp at h1
        refine ⟨_, w', rfl, hs, ?_⟩
        rw [hw']
        refine hover fun e he hb => ?_
        cases hsc : seen.contains e.born with
        | true => rfl
        | false =>
          have hin : e ∈ ((es.filter fun e => !seen.contains e.born).filter (·.born < since)) := by
            simp only [Array.mem_filter, decide_eq_true_eq]
            exact ⟨⟨he, by simp only [hsc, Bool.not_false]⟩, hb⟩
          have hz : ((es.filter fun e => !seen.contains e.born).filter (·.born < since)) = #[] := by simpa using hE
          rw [hz] at hin
          simp at hin
      | some e =>
        rw [hc, ← hC] at hmem
        have hin : e ∈ es ∧ seen.contains e.born = false := by
          rcases Array.mem_append.1 hmem with h1 | h1
          · split at h1 <;> simp at h1
          · simp only [Array.mem_map, Option.some.injEq] at h1
            obtain ⟨e', he', rfl⟩ := h1
            rcases Array.mem_append.1 he' with h2 | h2
            · simp only [Array.mem_filter] at h2
              exact ⟨h2.1.1, by simpa using h2.1.2⟩
            · simp only [Array.mem_filter] at h2
              exact ⟨h2.1.1, by simpa using h2.1.2⟩
        refine ⟨.tuple #[.bool true, e.key, e.val], { w' with heap := w'.heap.setIfInBounds r (.mapIter (some m) since (seen.push e.born) clock) }, ?_, ⟨hs.os, hs.tape, hs.output⟩, ?_⟩
        · simp only [Sem.run_bind, hset w' _ hw', Result.andThen_ok, Sem.run_pure]
        · have := hmore e hin.1 hin.2
          rw [← hw'] at this
          exact this
    simp only [run_choose]
    have hlt := mapNext_lt C.size (w.tape w.drawn (.mapNext C.size)) hpos
    split
    · rename_i hf
      rw [if_pos hf] at hlt
      exact hall 0 hlt w rfl (.refl w)
    · rename_i hf
      rw [if_neg hf] at hlt
      exact hall _ hlt { w with drawn := w.drawn + 1 } rfl ⟨rfl, rfl, rfl⟩

theorem run_len {t ty : TypeId} {ts : Array TypeId} {x v : Value} (ht : ts[0]? = some t) (h : lnT (lnk P t) x w.heap = some v) : (Builtin.len_ ts ty #[x]).run P w = .ok v w := by
  unfold Builtin.len_
  have e0 : (#[x] : Array Value)[0]? = some x := rfl
  rw [ht, e0]
  unfold lnk at h
  split at h <;> simp only [lnT] at h <;> try contradiction
  · rename_i e hu
    unfold lnS at h
    split at h <;> try contradiction
    simp only [Option.some.injEq] at h
    subst h
    simp only [Sem.run_bind, run_underlying hu, Result.andThen_ok, Sem.run_pure, goInt]
  · rename_i e e' hu
    unfold lnM at h
    split at h <;> try contradiction
    · simp only [Option.some.injEq] at h
      subst h
      simp only [Sem.run_bind, run_underlying hu, Result.andThen_ok, Sem.run_pure, goInt]
    · split at h <;> try contradiction
      rename_i r es c hh
      simp only [Option.some.injEq] at h
      subst h
      simp only [Sem.run_bind, run_underlying hu, Result.andThen_ok, Sem.run_pure, goInt, run_getMap hh]

theorem run_min2 {x y v : Value} (h : mn x y = some v) : (Builtin.min2 x y).run P w = .ok v w := by
  unfold mn at h
  split at h <;> try contradiction
  simp only [Option.some.injEq] at h
  subst h
  rfl
theorem run_max2 {x y v : Value} (h : mx x y = some v) : (Builtin.max2 x y).run P w = .ok v w := by
  unfold mx at h
  split at h <;> try contradiction
  simp only [Option.some.injEq] at h
  subst h
  rfl

theorem run_makeSlice {t e : TypeId} {z : Array Value} {s b : Nat} {l c v : Value} {h' : Hp} (hk : elk P t = .ok e z s b) (h : msl z s b e l c w.heap = some (v, h')) :
    ∃ w', (Instr.makeSlice t l c).run P w = .ok v w' ∧ w'.heap = h' ∧ Rst w w' := by
  obtain ⟨hu, i, zv, hi, hz, rfl, rfl, rfl, hzs, hpos⟩ := elk_ok hk
  unfold msl at h
  split at h <;> try contradiction
  rename_i l c
  split at h <;> try contradiction
  rename_i hc
  obtain ⟨h1, h2, h3, h4⟩ := hc
  simp only [Option.some.injEq, Prod.mk.injEq] at h
  obtain ⟨rfl, rfl⟩ := h
  have wl : IntKind.i64.wrap l = l := by simp only [IntKind.wrap, IntKind.signed, IntKind.bits]; simp; omega
  have wc : IntKind.i64.wrap c = c := by simp only [IntKind.wrap, IntKind.signed, IntKind.bits]; simp; omega
  refine ⟨{ w with heap := w.heap.push (.cells ((Array.range (c.toNat * i.size)).map (zv.cells[· % zv.cells.size]!)) e) }, ?_, rfl, ⟨rfl, rfl, rfl⟩⟩
  have hb : ¬ ((i.bytes : Int) * c > 2 ^ 48) := by rw [Int.mul_comm]; simpa using h4
  have hno : ((decide (c < 0) || decide ((i.bytes : Int) * c > 2 ^ 48)) || decide (l < 0) || decide (l > c)) = false := by
    simp only [Bool.or_eq_false_iff, decide_eq_false_iff_not]
    exact ⟨⟨⟨by omega, hb⟩, by omega⟩, by omega⟩
  have hbi : (typeInfo e).run P w = .ok i w := by simp [typeInfo, hi]
  unfold Instr.makeSlice
  simp only [Sem.run_bind, run_underlying hu, Result.andThen_ok, asInt, asIntOf, Sem.run_pure, hbi, wl, wc, hno, Bool.false_eq_true, if_false, run_askRoom, run_sizeOf hi]
  by_cases h0 : c.toNat * i.size = 0
  · have er : ∀ f g : Nat → Value, (Array.range 0).map f = (Array.range 0).map g := fun f g => by
      apply Array.ext <;> simp
    simp only [h0, if_true, Sem.run_pure, Result.andThen_ok, newRow, Sem.run_bind, run_newObj]
    exact congrArg (fun c => Result.ok _ (w.alloc (.cells c e))) (er _ _)
  · simp only [h0, if_false, Sem.run_bind, run_zero hi hz, Result.andThen_ok, Sem.run_pure, newRow, run_newObj]

theorem run_rowOf {x : Value} {s n : Nat} {l : List Value} (h : rowOf x (n * s) w.heap = some l) : (Builtin.firstCells s n x).run P w = .ok l.toArray w := by
  unfold rowOf at h
  split at h <;> try contradiction
  · exact run_loadCells h
  · simp only [Option.some.injEq] at h; subst h; rfl

theorem run_copy {td ts ty : TypeId} {e : TypeId} {z : Array Value} {s b : Nat} {d x v : Value} {h' : Hp} (hk : elk P td = .ok e z s b) (h : cpy s d x w.heap = some (v, h')) :
    ∃ w', (Builtin.copy_ #[td, ts] ty #[d, x]).run P w = .ok v w' ∧ w'.heap = h' ∧ Rst w w' := by
  obtain ⟨hu, i, zv, hi, hz, rfl, rfl, rfl, hzs, hpos⟩ := elk_ok hk
  unfold cpy at h
  split at h <;> try contradiction
  rename_i base dLen dc sb sLen sc
  simp only [Option.bind_eq_some_iff] at h
  obtain ⟨cells, hc, h⟩ := h
  have hr := run_rowOf (P := P) hc
  unfold Builtin.copy_
  have e0 : (#[td, ts] : Array TypeId)[0]? = some td := rfl
  have e1 : (#[Value.slice base dLen dc, Value.slice sb sLen sc] : Array Value)[0]? = some (.slice base dLen dc) := rfl
  have e2 : (#[Value.slice base dLen dc, Value.slice sb sLen sc] : Array Value)[1]? = some (.slice sb sLen sc) := rfl
  rw [e0, e1, e2]
  simp only [Sem.run_bind, run_underlying hu, Result.andThen_ok, Builtin.lenOf, Sem.run_pure, run_sizeOf hi, hr]
  cases base with
  | none =>
    simp only [Option.some.injEq, Prod.mk.injEq] at h
    obtain ⟨rfl, rfl⟩ := h
    exact ⟨w, rfl, rfl, .refl w⟩
  | some a =>
    simp only [Option.bind_eq_some_iff, Option.some.injEq, Prod.mk.injEq] at h
    obtain ⟨h1, hs, rfl, rfl⟩ := h
    obtain ⟨w', hr', hh, hs', _⟩ := run_stores (P := P) (a := a) cells 0 w h1 hs
    refine ⟨w', ?_, hh, hs'⟩
    simp only [Sem.run_bind, hr', Result.andThen_ok, goInt, Sem.run_pure]

theorem run_clear {t ty : TypeId} {e : TypeId} {z : Array Value} {s b : Nat} {x v : Value} {h' : Hp} (hk : elk P t = .ok e z s b) (h : clrS z x w.heap = some (v, h')) :
    ∃ w', (Builtin.clear_ #[t] ty #[x]).run P w = .ok v w' ∧ w'.heap = h' ∧ Rst w w' := by
  obtain ⟨hu, i, zv, hi, hz, rfl, rfl, rfl, hzs, hpos⟩ := elk_ok hk
  unfold clrS at h
  unfold Builtin.clear_
  have e0 : (#[t] : Array TypeId)[0]? = some t := rfl
  have e1 : (#[x] : Array Value)[0]? = some x := rfl
  rw [e0, e1]
  split at h
  · simp only [Option.some.injEq, Prod.mk.injEq] at h
    obtain ⟨rfl, rfl⟩ := h
    refine ⟨w, ?_, rfl, .refl w⟩
    simp [Sem.run_bind, run_underlying hu]
  · split at h
    · simp only [Option.some.injEq, Prod.mk.injEq] at h
      obtain ⟨rfl, rfl⟩ := h
      refine ⟨w, ?_, rfl, .refl w⟩
      simp [Sem.run_bind, run_underlying hu]
    · simp only [Option.bind_eq_some_iff, Option.some.injEq, Prod.mk.injEq] at h
      obtain ⟨h1, hs, rfl, rfl⟩ := h
      obtain ⟨w', hr', hh, hs', _⟩ := run_stores (P := P) _ 0 w h1 hs
      refine ⟨w', ?_, hh, hs'⟩
      simp only [Sem.run_bind, run_underlying hu, Result.andThen_ok, run_zero hi hz, hr', Sem.run_pure]
  · contradiction

/-- append(s, x...) -/
def Ap (e : TypeId) (zero : Array Value) (size bytes : Nat) (s x : Value) (h : Hp) (k : Value → Hp → Prop) : Prop :=
  ∃ base sLen sCap xb n xc news, s = .slice base sLen sCap ∧ x = .slice xb n xc ∧ rowOf x (n * size) h = some news ∧
    (sLen + n ≤ sCap → match base with
      | some a => ∃ h', stores h (a.add (sLen * size)) 0 news = some h' ∧ k (.slice base (sLen + n) sCap) h'
      | none => k (.slice base (sLen + n) sCap) h) ∧
    (sCap < sLen + n → (sLen + n) * bytes ≤ 140737488355328 ∧ sLen + n ≤ 9223372036854775807 ∧ ∃ olds, rowOf s (sLen * size) h = some olds ∧
      ∀ cap, sLen + n ≤ cap → cap ≤ 9223372036854775807 → k (.slice (some ⟨h.size, 0, none⟩) (sLen + n) cap) (h.push (.cells (olds.toArray ++ news.toArray ++ Builtin.zeroCells zero (cap - (sLen + n))) e)))

theorem run_append {t ty e : TypeId} {z : Array Value} {sz b : Nat} {s x : Value} {k : Value → Hp → Prop} (hk : elk P t = .ok e z sz b) (h : Ap e z sz b s x w.heap k) :
    ∃ v w', (Builtin.append_ #[t, t] ty #[s, x]).run P w = .ok v w' ∧ Rst w w' ∧ k v w'.heap := by
  obtain ⟨hu, i, zv, hi, hz, rfl, rfl, rfl, hzs, hpos⟩ := elk_ok hk
  obtain ⟨base, sLen, sCap, xb, n, xc, news, rfl, rfl, hx, hroom, hgrow⟩ := h
  have hnews := fun (w' : World) (e' : w'.heap = w.heap) => run_rowOf (P := P) (w := w') (x := .slice xb n xc) (s := i.size) (n := n) (l := news) (by rw [e']; exact hx)
  unfold Builtin.append_
  have e0 : (#[t, t] : Array TypeId)[0]? = some t := rfl
  have e1 : (#[t, t] : Array TypeId)[1]? = some t := rfl
  have e2 : (#[Value.slice base sLen sCap, Value.slice xb n xc] : Array Value)[0]? = some (.slice base sLen sCap) := rfl
  have e3 : (#[Value.slice base sLen sCap, Value.slice xb n xc] : Array Value)[1]? = some (.slice xb n xc) := rfl
  rw [e0, e1, e2, e3]
  simp only [Sem.run_bind, run_underlying hu, Result.andThen_ok, Sem.run_pure, run_sizeOf hi, Builtin.lenOf, Bool.false_eq_true, if_false, Bool.not_false, if_true]
  by_cases hle : sLen + n ≤ sCap
  · have hr := hroom hle
    simp only [hle, if_true, Sem.run_bind, hnews w rfl, Result.andThen_ok]
    cases base with
    | none => exact ⟨_, w, rfl, .refl w, hr⟩
    | some a =>
      simp only at hr
      obtain ⟨h', hs, hk'⟩ := hr
      obtain ⟨w', hr', hh, hs', _⟩ := run_stores (P := P) (a := a.add (sLen * i.size)) news 0 w h' hs
      refine ⟨_, w', ?_, hs', by rw [hh]; exact hk'⟩
      simp only [Sem.run_bind, hr', Result.andThen_ok, Sem.run_pure]
  · obtain ⟨hb, h63, olds, ho, hcap⟩ := hgrow (by omega)
    have hbi : (typeInfo e).run P w = .ok i w := by simp [typeInfo, hi]
    have h48 : ¬ (Builtin.nextslicecap (sLen + n) sCap * i.bytes > 2 ^ 48) := by
      have := growslice_fits (need := sLen + n) (old := sCap) (bytes := i.bytes) (by omega) hb
      simpa using this
    have hbz : i.bytes = 0 ∨ 0 < i.bytes := Nat.eq_zero_or_pos _
    have h63' : ¬ (((sLen + n : Nat) : Int) > IntKind.i64.max) := by
      have : IntKind.i64.max = 9223372036854775807 := rfl
      omega
    have hdrew : (typeInfo e).run P { w with drawn := w.drawn + 1 } = .ok i { w with drawn := w.drawn + 1 } := by simp [typeInfo, hi]
    have hz' : (zeroValue e).run P { w with drawn := w.drawn + 1 } = .ok zv { w with drawn := w.drawn + 1 } := run_zero hi hz
    have hold := run_rowOf (P := P) (w := { w with drawn := w.drawn + 1 }) (x := .slice base sLen sCap) (s := i.size) (n := sLen) (l := olds) ho
    have hnew := hnews { w with drawn := w.drawn + 1 } rfl
    have hf : Question.forced (.appendCap (sLen + n) sCap e) = false := rfl
    simp only [hle, if_false, Sem.run_bind, Sem.run_pure, Result.andThen_ok, hbi, h63', false_and, h48, run_choose, hf, Bool.false_eq_true, run_askRoom, hdrew, hold, hnew, hz', newRow, run_newObj]
    refine ⟨_, _, rfl, ⟨rfl, rfl, rfl⟩, ?_⟩
    have hc1 : sLen + n ≤ Question.cut (.appendCap (sLen + n) sCap e) (w.tape w.drawn (.appendCap (sLen + n) sCap e)) := by simp [Question.cut]
    have hc2 : Question.cut (.appendCap (sLen + n) sCap e) (w.tape w.drawn (.appendCap (sLen + n) sCap e)) ≤ 9223372036854775807 := by
      have hlt := Nat.mod_lt (w.tape w.drawn (.appendCap (sLen + n) sCap e)) (show 0 < 2 ^ 63 - (sLen + n) by omega)
      simp only [Question.cut]
      omega
    exact hcap _ hc1 hc2
end
end Go.En
namespace Go.En

def Vb (o : Option Value) (k : Value → Prop) : Prop := ∃ v, o = some v ∧ k v
def Eb (o : Option (Value × Hp)) (k : Value → Hp → Prop) : Prop := ∃ v h', o = some (v, h') ∧ k v h'
def Sb (o : Option Hp) (k : Hp → Prop) : Prop := ∃ h', o = some h' ∧ k h'

/-- What a call of function f does. -/
def Sp (P : Program) (f : FuncId) (args : List Value) (h : Hp) (R : Value → Hp → Prop) : Prop :=
  ∀ w, w.heap = h → Calls P f args.toArray w fun e w' => ∃ v, e = .returned v ∧ R v w'.heap ∧ Rst w w'

/-- What a deferred call of function f does, at the door of a function that returns. -/
def SpD (P : Program) (f : FuncId) (args : List Value) (h : Hp) (R : Hp → Prop) : Prop :=
  ∀ w, w.heap = h → CallsDIn Fence.wide 0 P f args.toArray .returning w fun e u w' => u = .returning ∧ (∃ v, e = .returned v) ∧ R w'.heap ∧ Rst w w'

theorem Sp.mono {P : Program} {f : FuncId} {args : List Value} {h : Hp} {R R' : Value → Hp → Prop} (hr : ∀ v h, R v h → R' v h) (H : Sp P f args h R) : Sp P f args h R' :=
  fun w hw => (H w hw).mono fun _ _ ⟨v, e, r, s⟩ => ⟨v, e, hr _ _ r, s⟩

/-- A fence that lets everything in. -/
structure Wd (F : Fence) : Prop where
  fn : F.fn = fun _ => True
  depth : F.depth = none
  alive : F.alive = false
theorem Wd.wide : Wd Fence.wide := ⟨rfl, rfl, rfl⟩
theorem Wd.inRound {F : Fence} (h : Wd F) (l : Nat) : Wd (F.inRound l) := ⟨h.fn, h.depth, h.alive⟩
theorem Wd.fenced {F : Fence} (h : Wd F) (P : Program) : Machine.fenced P F = Machine.fenced P Fence.wide := by
  obtain ⟨fn, depth, alive, round⟩ := F
  obtain ⟨h1, h2, h3⟩ := h
  simp only at h1 h2 h3
  subst h1; subst h2; subst h3
  rfl
theorem Wd.calls {F : Fence} (h : Wd F) {n m : Nat} {P : Program} {f : FuncId} {args : Array Value} {w : World} {R : Ending → World → Prop} (hc : CallsIn Fence.wide m P f args w R) : CallsIn F n P f args w R := by
  refine ⟨by rw [h.fn]; trivial, fun cs _ => ?_⟩
  rw [h.fenced P]
  exact hc.2 cs (room_wide _)
theorem Wd.any {F : Fence} (h : Wd F) (f : FuncId) : F.fn f := by rw [h.fn]; trivial

def kcall (P : Program) : Op → Option (FuncId)
  | .call { callee := .value (.func f), .. } => match P.funcs[f]? with
    | some fn => match fn.name == "runtime.NumGoroutine", fn.body with
      | false, some _ => some f
      | _, _ => none
    | none => none
  | _ => none

/-- The functions that can be called: those with a body. -/
def okF (P : Program) (f : FuncId) : Bool :=
  match P.funcs[f]? with
  | some fn => !(fn.name == "runtime.NumGoroutine") && fn.body.isSome
  | none => false

/-! ### Operations that leave the heap alone -/
def vop (P : Program) (n : Nat) (env : Env) (op : Op) (h : Hp) : Option Value :=
  match op with
  | .pick c x y => (ev n env c).bind fun c => (ev n env x).bind fun x => (ev n env y).bind fun y => pk c x y
  | .load t x => (ev n env x).bind fun p => ldT (tyk P t) p h
  | .nilCheck x => (ev n env x).bind fun p => nck p
  | .binOp op t x y _ => match y, isI P t with
    | .const .nilIface, true => (ev n env x).bind fun a => inl op a
    | y, _ => (ev n env x).bind fun a => (ev n env y).bind fun b => bnT (eqk P t) op a b
  | .unOp op _ x => (ev n env x).bind fun a => uno op a
  | .convert s d x => (ev n env x).bind fun a => cvT (cvk P s d) a
  | .makeFunc fn first cap => (evs n env first.toList).bind fun f => (evs n env cap.toList).bind fun c => some (.func fn f.toArray c.toArray)
  | .slice t x lo hi mx => match hi, mx with
    | none, some _ => none
    | _, _ => (ev n env x).bind fun a => (evo n env lo).bind fun l => (evo n env hi).bind fun u => (evo n env mx).bind fun m => slT (ixk P t) a l u m
  | .fieldAddr s x f => (ev n env x).bind fun p => faT (fkk P s f) p
  | .field s x f => (ev n env x).bind fun p => fdT (fkk P s f) p
  | .indexAddr t x i => (ev n env x).bind fun a => (ev n env i).bind fun b => ixT (ixk P t) a b
  | .index t x i => (ev n env x).bind fun a => (ev n env i).bind fun b => idT (idk P t) a b
  | .entry it => (ev n env it).bind fun a => ent a h
  | .lookup t m k ok => (ev n env m).bind fun a => (ev n env k).bind fun b => lkT (mpk P t) ok a b h
  | .extract x i => (ev n env x).bind fun a => ext i a
  | .makeInterface t x => match noI P t with
    | true => (ev n env x).bind fun a => some (.iface t a)
    | false => none
  | .typeAssert x _ t ok => match noI P t, P.info? t with
    | true, some i => i.zero.bind fun z => (ev n env x).bind fun a => tas t z ok a
    | _, _ => none
  | .build t parts => (evp n env parts.toList).bind fun ps => bdT (bdk P t) ps
  | .call { callee := .builtin .len, args := ⟨[x]⟩, argTypes := ⟨t :: _⟩ } => (ev n env x).bind fun a => lnT (lnk P t) a h
  | .call { callee := .builtin .min, args := ⟨[x, y]⟩, .. } => (ev n env x).bind fun a => (ev n env y).bind fun b => mn a b
  | .call { callee := .builtin .max, args := ⟨[x, y]⟩, .. } => (ev n env x).bind fun a => (ev n env y).bind fun b => mx a b
  | _ => none

def isV : Op → Bool
  | .pick .. | .load .. | .nilCheck .. | .binOp .. | .unOp .. | .convert .. | .makeFunc .. | .slice .. | .fieldAddr .. | .field .. | .indexAddr .. | .index .. | .entry .. | .lookup .. | .extract .. | .build .. | .makeInterface .. | .typeAssert .. => true
  | .call { callee := .builtin .len, .. } | .call { callee := .builtin .min, .. } | .call { callee := .builtin .max, .. } => true
  | _ => false

/-- what a frame holds of an environment -/
def Holds (n : Nat) (env : Env) (ρ : Operand → Value) : Prop := ∀ x v, ev n env x = some v → ρ x = v

theorem Holds.evs {n : Nat} {env : Env} {ρ : Operand → Value} (hρ : Holds n env ρ) : ∀ {xs : List Operand} {vs : List Value}, evs n env xs = some vs → xs.map ρ = vs
  | [], vs, h => by simp only [En.evs, Option.some.injEq] at h; subst h; rfl
  | x :: r, vs, h => by
    simp only [En.evs, Option.bind_eq_some_iff, Option.some.injEq] at h
    obtain ⟨v, hv, us, hu, rfl⟩ := h
    simp [hρ _ _ hv, Holds.evs hρ hu]
theorem Holds.evp {n : Nat} {env : Env} {ρ : Operand → Value} (hρ : Holds n env ρ) : ∀ {xs : List (Nat × Operand)} {vs : List (Nat × Value)}, evp n env xs = some vs → xs.map (fun x => (x.1, ρ x.2)) = vs
  | [], vs, h => by simp only [En.evp, Option.some.injEq] at h; subst h; rfl
  | (i, x) :: r, vs, h => by
    simp only [En.evp, Option.bind_eq_some_iff, Option.some.injEq] at h
    obtain ⟨v, hv, us, hu, rfl⟩ := h
    simp [hρ _ _ hv, Holds.evp hρ hu]
theorem Holds.evo {n : Nat} {env : Env} {ρ : Operand → Value} (hρ : Holds n env ρ) {x : Option Operand} {v : Option Value} (h : evo n env x = some v) : x.map ρ = v := by
  cases x with
  | none => simp only [En.evo, Option.some.injEq] at h; subst h; rfl
  | some x =>
    simp only [En.evo, Option.bind_eq_some_iff, Option.some.injEq] at h
    obtain ⟨u, hu, rfl⟩ := h
    simp [hρ _ _ hu]
theorem Holds.parts {n : Nat} {env : Env} {ρ : Operand → Value} (hρ : Holds n env ρ) {xs : Array (Nat × Operand)} {vs : List (Nat × Value)} (h : En.evp n env xs.toList = some vs) :
    (xs.map fun (i, x) => (i, ρ x)) = vs.toArray := by
  rw [← Holds.evp hρ h]
  apply Array.ext'
  simp

theorem run_vop {P : Program} {w : World} {n : Nat} {env : Env} {ρ : Operand → Value} (hρ : Holds n env ρ) {o : Oper} {v : Value} (h : vop P n env o.op w.heap = some v) :
    (execOp ρ o).run P w = .ok (.value v) w := by
  unfold execOp
  cases hop : o.op <;> rw [hop] at h <;> simp only [vop] at h <;> (try contradiction) <;> dsimp only
  case pick c x y =>
    simp only [Option.bind_eq_some_iff] at h
    obtain ⟨cv, hc, xv, hx, yv, hy, h⟩ := h
    unfold pk at h
    split at h <;> try contradiction
    rename_i b
    simp only [Option.some.injEq] at h
    rw [hρ _ _ hc, hρ _ _ hx, hρ _ _ hy]
    simp [asBool, h]
  case load t x =>
    simp only [Option.bind_eq_some_iff] at h
    obtain ⟨p, hp, h⟩ := h
    rw [hρ _ _ hp]
    simp only [Sem.run_bind, run_loadAt h, Result.andThen_ok, Sem.run_pure]
  case nilCheck x =>
    simp only [Option.bind_eq_some_iff] at h
    obtain ⟨p, hp, h⟩ := h
    rw [hρ _ _ hp]
    unfold nck at h
    split at h <;> try contradiction
    all_goals (simp only [Option.some.injEq] at h; subst h; rfl)
  case binOp op t x y yt =>
    split at h
    · rename_i hi
      simp only [Option.bind_eq_some_iff] at h
      obtain ⟨a, ha, h⟩ := h
      have hb : ρ (.const .nilIface) = .nilIface := hρ _ _ rfl
      rw [hρ _ _ ha, hb]
      have := run_inl (P := P) (w := w) (ox := x) hi h
      simp only [Sem.run_bind] at this ⊢
      rw [this]
      rfl
    simp only [Option.bind_eq_some_iff] at h
    obtain ⟨a, ha, b, hb, h⟩ := h
    rw [hρ _ _ ha, hρ _ _ hb]
    have := fun oy => run_bnT (P := P) (w := w) (ox := x) (oy := oy) h
    simp only [Sem.run_bind] at this ⊢
    rw [this]
    rfl
  case unOp op t x =>
    simp only [Option.bind_eq_some_iff] at h
    obtain ⟨p, hp, h⟩ := h
    rw [hρ _ _ hp]
    simp only [Sem.run_bind, run_uno h, Result.andThen_ok, Sem.run_pure]
  case convert s d x =>
    simp only [Option.bind_eq_some_iff] at h
    obtain ⟨p, hp, h⟩ := h
    rw [hρ _ _ hp]
    simp only [Sem.run_bind, run_cvT h, Result.andThen_ok, Sem.run_pure]
  case makeFunc fn first cap =>
    simp only [Option.bind_eq_some_iff, Option.some.injEq] at h
    obtain ⟨f, hf, c, hc, rfl⟩ := h
    have e1 := Holds.evs hρ hf
    have e2 := Holds.evs hρ hc
    have e1' : first.map ρ = f.toArray := by rw [← e1]; apply Array.ext'; simp
    have e2' : cap.map ρ = c.toArray := by rw [← e2]; apply Array.ext'; simp
    rw [e1', e2']
    rfl
  case slice t x lo hi mx =>
    have hm : hi = none → mx = none := by
      intro e
      subst e
      cases mx with
      | none => rfl
      | some _ => simp at h
    have h' : ((ev n env x).bind fun a => (evo n env lo).bind fun l => (evo n env hi).bind fun u => (evo n env mx).bind fun m => slT (ixk P t) a l u m) = some v := by
      split at h
      · contradiction
      · exact h
    simp only [Option.bind_eq_some_iff] at h'
    obtain ⟨a, ha, l, hl, u, hu, m, hmm, h'⟩ := h'
    rw [hρ _ _ ha, Holds.evo hρ hl, Holds.evo hρ hu, Holds.evo hρ hmm]
    have hm' : u = none → m = none := by
      intro e
      have := Holds.evo hρ hu
      rw [e] at this
      have : hi = none := by cases hi <;> simp_all
      have h2 := Holds.evo hρ hmm
      rw [hm this] at h2
      simpa using h2.symm
    simp only [Sem.run_bind, run_sliceAt hm' h', Result.andThen_ok, Sem.run_pure]
  case fieldAddr s x f =>
    simp only [Option.bind_eq_some_iff] at h
    obtain ⟨p, hp, h⟩ := h
    rw [hρ _ _ hp]
    simp only [Sem.run_bind, run_fieldAt h, Result.andThen_ok, Sem.run_pure]
  case field s x f =>
    simp only [Option.bind_eq_some_iff] at h
    obtain ⟨p, hp, h⟩ := h
    rw [hρ _ _ hp]
    simp only [Sem.run_bind, run_field h, Result.andThen_ok, Sem.run_pure]
  case indexAddr t x i =>
    simp only [Option.bind_eq_some_iff] at h
    obtain ⟨p, hp, q, hq, h⟩ := h
    rw [hρ _ _ hp, hρ _ _ hq]
    simp only [Sem.run_bind, run_indexAt h, Result.andThen_ok, Sem.run_pure]
  case index t x i =>
    simp only [Option.bind_eq_some_iff] at h
    obtain ⟨p, hp, q, hq, h⟩ := h
    rw [hρ _ _ hp, hρ _ _ hq]
    simp only [Sem.run_bind, run_index h, Result.andThen_ok, Sem.run_pure]
  case entry it =>
    simp only [Option.bind_eq_some_iff] at h
    obtain ⟨p, hp, h⟩ := h
    rw [hρ _ _ hp]
    simp only [Sem.run_bind, run_ent h, Result.andThen_ok, Sem.run_pure]
  case lookup t m k ok =>
    simp only [Option.bind_eq_some_iff] at h
    obtain ⟨p, hp, q, hq, h⟩ := h
    rw [hρ _ _ hp, hρ _ _ hq]
    simp only [Sem.run_bind, run_lookup h, Result.andThen_ok, Sem.run_pure]
  case extract x i =>
    simp only [Option.bind_eq_some_iff] at h
    obtain ⟨p, hp, h⟩ := h
    rw [hρ _ _ hp]
    simp only [Sem.run_bind, run_ext h, Result.andThen_ok, Sem.run_pure]
  case makeInterface t x =>
    split at h <;> try contradiction
    rename_i hi
    simp only [Option.bind_eq_some_iff, Option.some.injEq] at h
    obtain ⟨p, hp, rfl⟩ := h
    rw [hρ _ _ hp]
    simp only [Sem.run_bind, run_mif hi, Result.andThen_ok, Sem.run_pure]
  case typeAssert x xt t ok =>
    split at h <;> try contradiction
    rename_i i hi hj
    simp only [Option.bind_eq_some_iff] at h
    obtain ⟨z, hz, p, hp, h⟩ := h
    rw [hρ _ _ hp]
    simp only [Sem.run_bind, run_tas hi hj hz h, Result.andThen_ok, Sem.run_pure]
  case build t parts =>
    simp only [Option.bind_eq_some_iff] at h
    obtain ⟨ps, hps, h⟩ := h
    rw [Holds.parts hρ hps]
    simp only [Sem.run_bind, run_build (parts := ps.toArray) h, Result.andThen_ok, Sem.run_pure]
  case call c =>
    split at h <;> try contradiction
    · rename_i hc
      simp only [Op.call.injEq] at hc
      subst hc
      rename_i x t ts
      simp only [Option.bind_eq_some_iff] at h
      obtain ⟨a, ha, h⟩ := h
      have := run_len (P := P) (w := w) (ts := ⟨t :: ts⟩) (ty := o.type) (t := t) (by simp) h
      simp only [resolve, invoke, builtin, Sem.run_bind, Sem.run_pure, Result.andThen_ok, List.map_toArray, List.map_cons, List.map_nil, hρ _ _ ha, this]
    · rename_i hc
      simp only [Op.call.injEq] at hc
      subst hc
      simp only [Option.bind_eq_some_iff] at h
      obtain ⟨a, ha, b, hb, h⟩ := h
      have := run_min2 (P := P) (w := w) h
      simp only [resolve, invoke, builtin, Sem.run_bind, Sem.run_pure, Result.andThen_ok, List.map_toArray, List.map_cons, List.map_nil, hρ _ _ ha, hρ _ _ hb, Builtin.min_, List.foldlM_cons, List.foldlM_nil, this]
    · rename_i hc
      simp only [Op.call.injEq] at hc
      subst hc
      simp only [Option.bind_eq_some_iff] at h
      obtain ⟨a, ha, b, hb, h⟩ := h
      have := run_max2 (P := P) (w := w) h
      simp only [resolve, invoke, builtin, Sem.run_bind, Sem.run_pure, Result.andThen_ok, List.map_toArray, List.map_cons, List.map_nil, hρ _ _ ha, hρ _ _ hb, Builtin.max_, List.foldlM_cons, List.foldlM_nil, this]

end Go.En
namespace Go.En

/-- a call of a function value: 'Y': what a call of a loop's yield does -/
def Cl (P : Program) (f : FuncId) (args : List Value) (h : Hp) (k : Value → Hp → Prop) : Prop := okF P f = true ∧ Sp P f args h k
def Cv (C : FuncId → List Value → Hp → (Value → Hp → Prop) → Prop) (Y : Nat → List Value → Hp → (Value → Hp → Prop) → Prop) (f : Value) (args : List Value) (h : Hp) (k : Value → Hp → Prop) : Prop :=
  (∃ g first cap, f = .func (.func g) first cap ∧ C g (first.toList ++ args ++ cap.toList) h k) ∨
  (∃ l, f = .func (.yield l) #[] #[] ∧ Y l args h k)

/-- a call of a method of an interface's value -/
def Ci (C : FuncId → List Value → Hp → (Value → Hp → Prop) → Prop) (M : TypeId → String → Option FuncId) (name : String) (r : Value) (args : List Value) (h : Hp) (k : Value → Hp → Prop) : Prop :=
  ∃ t v f, r = .iface t v ∧ M t name = some f ∧ C f (v :: args) h k
/-- a call of a function's value, a method's value too -/
def Cw (C : FuncId → List Value → Hp → (Value → Hp → Prop) → Prop) (Y : Nat → List Value → Hp → (Value → Hp → Prop) → Prop) (M : TypeId → String → Option FuncId) (f : Value) (args : List Value) (h : Hp) (k : Value → Hp → Prop) : Prop :=
  Cv C Y f args h k ∨ ∃ name r, f = .func (.method name) #[r] #[] ∧ Ci C M name r args h k

/-- What a call of the loop l's yield does. -/
def Sy (P : Program) (l : Nat) (args : List Value) (h : Hp) (R : Value → Hp → Prop) : Prop :=
  ∀ w, w.heap = h → ∃ r : Loop, (Instr.getLoop l).run P w = .ok r w ∧ args.length = r.params.size ∧
    RoundIn Fence.wide 0 P l r.fn ((r.params.zip args.toArray).foldl (fun tmps (t, a) => tmps.setIfInBounds t a) r.tmps) r.assign r.body w
      fun e w' => ∃ v, e = .returned v ∧ R v w'.heap ∧ Rst w w'

/-- the function behind maps.Clone -/
def isClone (P : Program) (f : FuncId) : Bool :=
  match P.funcs[f]? with
  | some fn => match fn.body with
    | some _ => false
    | none => fn.name == "maps.clone" && fn.origin == ""
  | none => false
def mcl (args : List Value) (h : Hp) : Option (Value × Hp) :=
  match args with
  | [.iface t (.map (some r))] => match h[r]? with
    | some (.map es clock) => some (.iface t (.map (some h.size)), h.push (.map es clock))
    | _ => none
  | _ => none
theorem run_mcl {P : Program} {w : World} {f : FuncId} {vs : List Value} {v : Value} {h' : Hp} (hf : isClone P f = true) (hm : mcl vs w.heap = some (v, h')) : ∃ w', (callFunc f vs.toArray).run P w = .ok (.value v) w' ∧ w'.heap = h' ∧ Rst w w' := by
  unfold isClone at hf
  split at hf <;> try contradiction
  rename_i fn hfn
  split at hf <;> try contradiction
  rename_i hb
  simp only [Bool.and_eq_true, beq_iff_eq] at hf
  obtain ⟨h1, h2⟩ := hf
  unfold mcl at hm
  split at hm <;> try contradiction
  rename_i t r
  split at hm <;> try contradiction
  rename_i es clock hr
  simp only [Option.some.injEq, Prod.mk.injEq] at hm
  obtain ⟨rfl, rfl⟩ := hm
  have hn : Extern.findNext fn = none := by
    unfold Extern.findNext
    rw [h1, h2]
    have a : List.lookup "maps.clone" Extern.allNextRows = none := by kernel_rfl
    have b : List.lookup "" Extern.allNextRows = none := by kernel_rfl
    simp [a, b]
  have he : Extern.find fn = some Extern.MapsClone.clone := by
    unfold Extern.find
    rw [h1]
    have a : List.lookup "maps.clone" Extern.allGenericRows = none := by kernel_rfl
    have b : List.lookup "maps.clone" Extern.allTypedRows = none := by kernel_rfl
    have c : List.lookup "maps.clone" Extern.allRows = some Extern.MapsClone.clone := by kernel_rfl
    simp [a, b, c]
  have hc := run_callFunc_extern hfn (by rw [h1]; rfl) (by rw [hb]; rfl) hn he #[.iface t (.map (some r))] w
  have hcl : (Extern.MapsClone.clone #[.iface t (.map (some r))]).run P w = .ok (.iface t (.map (some w.heap.size))) { w with heap := w.heap.push (.map es clock) } := by
    have e : Extern.MapsClone.clone #[.iface t (.map (some r))] = (getObj r >>= fun o => match o with
      | .map entries clock => (newObj (.map entries clock) >>= fun n => pure (.iface t (.map (some n))))
      | _ => stuck "maps.clone: a map expected") := rfl
    rw [e]
    simp only [Sem.run_bind, MapKept.run_getObj_map hr, Result.andThen_ok, run_newObj, Sem.run_pure]
  rw [hcl] at hc
  exact ⟨_, hc, rfl, ⟨rfl, rfl, rfl⟩⟩

/-- One operation that turns the heap. -/
def eop (P : Program) (n : Nat) (env : Env) (op : Op) (h : Hp) (k : Value → Hp → Prop) : Prop :=
  match op with
  | .alloc e => match zrk P e with
    | some z => Eb (nw z e h) k
    | none => False
  | .box e x => match ev n env x with
    | some v => Eb (nw v.cells e h) k
    | none => False
  | .buildSlice t len parts => match evp n env parts.toList, elk P t with
    | some ps, .ok e z s _ => match Nat.ble (len * s) 16777216 with
      | true => Eb (bsl z s len e ps h) k
      | false => False
    | _, _ => False
  | .store t a x => match ev n env a, ev n env x, P.info? t with
    | some p, some v, some i => Sb (sto i.size p v h) (k undef)
    | _, _, _ => False
  | .mapUpdate t m kk x => match ev n env m, ev n env kk, ev n env x, mpk P t with
    | some m, some q, some v, .ok kd _ => Sb (mup kd m q v h) (k undef)
    | _, _, _, _ => False
  | .insert t m kk x => match ev n env m, ev n env kk, ev n env x, mpk P t with
    | some m, some q, some v, .ok kd _ => Sb (mup kd m q v h) (k undef)
    | _, _, _, _ => False
  | .makeMap _ none => Eb (mmk h) k
  | .makeSlice t l c => match ev n env l, ev n env c, elk P t with
    | some l, some c, .ok e z s b => Eb (msl z s b e l c h) k
    | _, _, _ => False
  | .mapEntry t m kk => match ev n env m, ev n env kk, mpk P t with
    | some m, some q, .ok kd z => Eb (men kd z m q h) k
    | _, _, _ => False
  | .entryStore _ m s x => match ev n env m, ev n env s, ev n env x with
    | some m, some q, some v => Sb (mst m q v h) (k undef)
    | _, _, _ => False
  | .range t m => match ev n env m, P.underlying t with
    | some m, some (.map ..) => Eb (rng m h) k
    | _, _ => False
  | .next it false => match ev n env it with
    | some it => Nx it h k
    | none => False
  | .call { callee := .builtin .append, args := ⟨[x, y]⟩, argTypes := ⟨[t, u]⟩ } => match ev n env x, ev n env y, Nat.beq t u, elk P t with
    | some s, some x, true, .ok e z sz b => Ap e z sz b s x h k
    | _, _, _, _ => False
  | .call { callee := .builtin .copy, args := ⟨[x, y]⟩, argTypes := ⟨[t, _]⟩ } => match ev n env x, ev n env y, elk P t with
    | some d, some s, .ok _ _ sz _ => Eb (cpy sz d s h) k
    | _, _, _ => False
  | .call { callee := .builtin .clear, args := ⟨[x]⟩, argTypes := ⟨[t]⟩ } => match ev n env x, elk P t with
    | some s, .ok _ z _ _ => Eb (clrS z s h) k
    | _, _ => False
  | .call { callee := .builtin .delete, args := ⟨[x, y]⟩, argTypes := ⟨t :: _⟩ } => match ev n env x, ev n env y, mpk P t with
    | some m, some q, .ok kd _ => Eb (mdl kd m q h) k
    | _, _, _ => False
  | .call { callee := .value (.func f), args, .. } => match evs n env args.toList, isClone P f with
    | some vs, true => Eb (mcl vs h) k
    | some vs, false => Cl P f vs h k
    | none, _ => False
  | .call { callee := .value x, args, .. } => match ev n env x, evs n env args.toList with
    | some v, some vs => Cw (Cl P) (Sy P) (mtb P) v vs h k
    | _, _ => False
  | .call { callee := .invoke x name, args, .. } => match ev n env x, evs n env args.toList with
    | some v, some vs => Ci (Cl P) (mtb P) name v vs h k
    | _, _ => False
  | _ => False

/-- a run of one operation that ends in a value, in the model's words -/
def okE (P : Program) (F : Fence) (n : Nat) (o : Oper) (a : Act) (w : World) (k : Value → Hp → Prop) : Prop :=
  ∀ (next : Act → World → Prop) (Q : Exit → Act → World → Prop), (∀ v w', Rst w w' → k v w'.heap → next (a.put o.dst v) w') → o.wpIn F n P a w next Q

theorem okE_value {P : Program} {F : Fence} (hF : Wd F) {n : Nat} {o : Oper} {a : Act} {w w' : World} {v : Value} {k : Value → Hp → Prop} (hd : ∀ c, o.op ≠ .defer c)
    (hr : (execOp a.eval o).run P w = .ok (.value v) w') (hs : Rst w w') (hk : k v w'.heap) : okE P F n o a w k := by
  intro next Q hn
  refine ⟨fun f _ => hF.any f, ?_⟩
  rw [Oper.semAt_eq _ _ _ hd, hr, Oper.uponIn_value]
  exact hn v w' hs hk
theorem okE_skip {P : Program} {F : Fence} (hF : Wd F) {n : Nat} {o : Oper} {a : Act} {w w' : World} {k : Value → Hp → Prop} (hd : ∀ c, o.op ≠ .defer c)
    (hr : (execOp a.eval o).run P w = .ok .skip w') (hs : Rst w w') (hk : k undef w'.heap) : okE P F n o a w k := by
  intro next Q hn
  refine ⟨fun f _ => hF.any f, ?_⟩
  rw [Oper.semAt_eq _ _ _ hd, hr, Oper.uponIn_skip]
  exact hn undef w' hs hk

theorem okF_ok {P : Program} {f : FuncId} (h : okF P f = true) : ∃ fn, P.funcs[f]? = some fn ∧ (fn.name == "runtime.NumGoroutine") = false ∧ fn.body.isNone = false := by
  unfold okF at h
  split at h
  · rename_i fn hf
    simp only [Bool.and_eq_true, Bool.not_eq_true'] at h
    exact ⟨fn, hf, h.1, by cases hb : fn.body <;> simp_all⟩
  · contradiction

theorem run_callFunc {P : Program} {w : World} {f : FuncId} (h : okF P f = true) (args : Array Value) : (callFunc f args).run P w = .ok (.enter f args) w := by
  obtain ⟨fn, hf, h1, h2⟩ := okF_ok h
  unfold callFunc
  simp only [Sem.run_bind, run_program, Result.andThen_ok, hf, h1, h2, Bool.false_eq_true, if_false, Sem.run_pure]

theorem run_method {P : Program} {w : World} {t : TypeId} {u : Value} {name : String} {f : FuncId} (hm : mtb P t name = some f) (d : Nat) : (method (d + 1) t u name).run P w = .ok (f, u) w := by
  unfold mtb at hm
  split at hm <;> try contradiction
  rename_i i hi
  split at hm <;> try contradiction
  rename_i m hf
  split at hm <;> try contradiction
  rename_i f' d' hp hpa hfu hu
  simp only [Option.some.injEq] at hm
  subst hm
  unfold method
  simp only [Sem.run_bind, typeInfo, run_program, Result.andThen_ok, hi, Sem.run_pure, hf, hpa, follow, hfu, receiverAt, run_underlying hu]
  cases d' <;> first | exact (hp _ rfl).elim | (simp only [Place.get, Sem.run_bind, Sem.run_pure, Result.andThen_ok])
theorem run_callMethod {P : Program} {w : World} {t : TypeId} {u : Value} {name : String} {f : FuncId} (hm : mtb P t name = some f) (hf : okF P f = true) (args : List Value) : (callMethod (.iface t u) name args.toArray).run P w = .ok (.enter f (u :: args).toArray) w := by
  unfold callMethod
  have h1 : (method (P.types.size + Made.depth) t u name).run P w = .ok (f, u) w := run_method hm (P.types.size + 99)
  simp only [Sem.run_bind, run_program, Result.andThen_ok, h1]
  have h2 := run_callFunc (w := w) hf (u :: args).toArray
  have e : #[u] ++ args.toArray = (u :: args).toArray := by simp
  rw [e]
  exact h2

theorem okE_enter {P : Program} {F : Fence} (hF : Wd F) {n : Nat} {o : Oper} {a : Act} {w : World} {f : FuncId} {args : List Value} {k : Value → Hp → Prop} (hd : ∀ c, o.op ≠ .defer c)
    (hr : (execOp a.eval o).run P w = .ok (.enter f args.toArray) w) (hc : Sp P f args w.heap k) : okE P F n o a w k := by
  intro next Q hn
  refine ⟨fun f _ => hF.any f, ?_⟩
  rw [Oper.semAt_eq _ _ _ hd, hr, Oper.uponIn_enter]
  refine ⟨fun e => (by rw [hF.depth] at e; cases e), hF.calls (m := 0) (callsIn_wide.2 ((hc w rfl).mono ?_))⟩
  rintro e w' ⟨v, rfl, hk, hs⟩
  exact hn v w' hs hk

theorem Wd.round {F : Fence} (h : Wd F) {n m : Nat} {P : Program} {l : Nat} {f : FuncId} {tmps : Array Value} {as body : Code} {w : World} {R : Ending → World → Prop}
    (hc : RoundIn Fence.wide m P l f tmps as body w R) : RoundIn F n P l f tmps as body w R := by
  refine ⟨h.any f, fun c cs _ => ?_⟩
  rw [h.fenced P]
  exact hc.2 c cs (room_wide _)

theorem okE_round {P : Program} {F : Fence} (hF : Wd F) {n : Nat} {o : Oper} {a : Act} {w : World} {l : Nat} {args : List Value} {k : Value → Hp → Prop} (hd : ∀ c, o.op ≠ .defer c)
    (hr : (execOp a.eval o).run P w = (Instr.yield l args.toArray).run P w) (hc : Sy P l args w.heap k) : okE P F n o a w k := by
  intro next Q hn
  obtain ⟨r, hg, hl, hround⟩ := hc w rfl
  refine ⟨fun f _ => hF.any f, ?_⟩
  have hy : (Instr.yield l args.toArray).run P w = .ok (.round l r.fn ((r.params.zip args.toArray).foldl (fun tmps (t, a) => tmps.setIfInBounds t a) r.tmps) r.assign r.body) w := by
    unfold Instr.yield
    have : args.toArray.size = r.params.size := by simpa using hl
    simp only [Sem.run_bind, hg, Result.andThen_ok, this, ne_eq, not_true_eq_false, if_false, Sem.run_pure]
  rw [Oper.semAt_eq _ _ _ hd, hr, hy, Oper.uponIn_round]
  refine ⟨fun e => (by rw [hF.depth] at e; cases e), (hF.round (m := 0) hround).mono ?_⟩
  rintro e w' ⟨v, rfl, hk, hs⟩
  exact hn v w' hs hk

theorem run_eop {P : Program} {F : Fence} (hF : Wd F) {n : Nat} {m : Nat} {env : Env} {o : Oper} {a : Act} {w : World} {k : Value → Hp → Prop} {ρ : Operand → Value} (hρ : Holds n env ρ) (hcong : execOp a.eval o = execOp ρ o) (h : eop P n env o.op w.heap k) :
    okE P F m o a w k := by
  cases hop : o.op <;> rw [hop] at h <;> simp only [eop] at h <;> try contradiction
  case alloc e =>
    split at h <;> try contradiction
    rename_i z hz
    unfold zrk at hz
    simp only [Option.bind_eq_some_iff, Option.some.injEq] at hz
    obtain ⟨i, hi, zv, hzv, rfl⟩ := hz
    obtain ⟨v, h', he, hk⟩ := h
    obtain ⟨w', hr, rfl, hs⟩ := run_nw_alloc hi hzv he
    refine okE_value hF (by simp [hop]) (w' := w') ?_ hs hk
    rw [hcong]; unfold execOp; rw [hop]; simp only [Sem.run_bind, hr, Result.andThen_ok, Sem.run_pure]
  case box e x =>
    split at h <;> try contradiction
    rename_i u hu
    obtain ⟨v, h', he, hk⟩ := h
    obtain ⟨w', hr, rfl, hs⟩ := run_nw_box (P := P) he
    refine okE_value hF (by simp [hop]) (w' := w') ?_ hs hk
    rw [hcong]; unfold execOp; rw [hop]; simp only [hρ _ _ hu, Sem.run_bind, hr, Result.andThen_ok, Sem.run_pure]
  case buildSlice t len parts =>
    split at h <;> try contradiction
    rename_i ps e z s b hps hel
    split at h <;> try contradiction
    rename_i hle
    obtain ⟨v, h', he, hk⟩ := h
    obtain ⟨w', hr, rfl, hs⟩ := run_buildSlice (P := P) (parts := ps.toArray) hel (Nat.le_of_ble_eq_true hle) he
    refine okE_value hF (by simp [hop]) (w' := w') ?_ hs hk
    rw [hcong]; unfold execOp; rw [hop]; simp only [Holds.parts hρ hps, Sem.run_bind, hr, Result.andThen_ok, Sem.run_pure]
  case insert t m kk x =>
    split at h <;> try contradiction
    rename_i mv q v kd z hm hq hv hkd
    obtain ⟨h', he, hk⟩ := h
    obtain ⟨w', hr, rfl, hs⟩ := run_mapUpdate (P := P) hkd he
    refine okE_skip hF (by simp [hop]) (w' := w') ?_ hs hk
    rw [hcong]; unfold execOp; rw [hop]; simp only [hρ _ _ hm, hρ _ _ hq, hρ _ _ hv, Sem.run_bind, hr, Result.andThen_ok, Sem.run_pure]
  case store t p x =>
    split at h <;> try contradiction
    rename_i pv xv i hp hx hi
    obtain ⟨h', he, hk⟩ := h
    obtain ⟨w', hr, rfl, hs⟩ := run_storeAt (P := P) hi he
    refine okE_skip hF (by simp [hop]) (w' := w') ?_ hs hk
    rw [hcong]; unfold execOp; rw [hop]; simp only [hρ _ _ hp, hρ _ _ hx, Sem.run_bind, hr, Result.andThen_ok, Sem.run_pure]
  case makeMap t r =>
    cases r with
    | some _ => simp only at h
    | none =>
      simp only at h
      obtain ⟨v, h', he, hk⟩ := h
      obtain ⟨w', hr, rfl, hs⟩ := run_makeMap (P := P) (t := t) he
      refine okE_value hF (by simp [hop]) (w' := w') ?_ hs hk
      rw [hcong]; unfold execOp; rw [hop]; simp only [Option.map_none, Sem.run_bind, hr, Result.andThen_ok, Sem.run_pure]
  case makeSlice t l c =>
    split at h <;> try contradiction
    rename_i lv cv e z s b hl hc hel
    obtain ⟨v, h', he, hk⟩ := h
    obtain ⟨w', hr, rfl, hs⟩ := run_makeSlice (P := P) hel he
    refine okE_value hF (by simp [hop]) (w' := w') ?_ hs hk
    rw [hcong]; unfold execOp; rw [hop]; simp only [hρ _ _ hl, hρ _ _ hc, Sem.run_bind, hr, Result.andThen_ok, Sem.run_pure]
  case mapUpdate t m kk x =>
    split at h <;> try contradiction
    rename_i mv q v kd z hm hq hv hkd
    obtain ⟨h', he, hk⟩ := h
    obtain ⟨w', hr, rfl, hs⟩ := run_mapUpdate (P := P) hkd he
    refine okE_skip hF (by simp [hop]) (w' := w') ?_ hs hk
    rw [hcong]; unfold execOp; rw [hop]; simp only [hρ _ _ hm, hρ _ _ hq, hρ _ _ hv, Sem.run_bind, hr, Result.andThen_ok, Sem.run_pure]
  case mapEntry t m kk =>
    split at h <;> try contradiction
    rename_i mv q kd z hm hq hkd
    obtain ⟨v, h', he, hk⟩ := h
    obtain ⟨w', hr, rfl, hs⟩ := run_mapEntry (P := P) hkd he
    refine okE_value hF (by simp [hop]) (w' := w') ?_ hs hk
    rw [hcong]; unfold execOp; rw [hop]; simp only [hρ _ _ hm, hρ _ _ hq, Sem.run_bind, hr, Result.andThen_ok, Sem.run_pure]
  case entryStore t m s x =>
    split at h <;> try contradiction
    rename_i mv q v hm hq hv
    obtain ⟨h', he, hk⟩ := h
    obtain ⟨w', hr, rfl, hs⟩ := run_entryStore (P := P) (t := t) he
    refine okE_skip hF (by simp [hop]) (w' := w') ?_ hs hk
    rw [hcong]; unfold execOp; rw [hop]; simp only [hρ _ _ hm, hρ _ _ hq, hρ _ _ hv, Sem.run_bind, hr, Result.andThen_ok, Sem.run_pure]
  case range t m =>
    split at h <;> try contradiction
    rename_i mv kt et hm hu
    obtain ⟨v, h', he, hk⟩ := h
    obtain ⟨w', hr, rfl, hs⟩ := run_range (P := P) hu he
    refine okE_value hF (by simp [hop]) (w' := w') ?_ hs hk
    rw [hcong]; unfold execOp; rw [hop]; simp only [hρ _ _ hm, Sem.run_bind, hr, Result.andThen_ok, Sem.run_pure]
  case next it s =>
    cases s with
    | true => simp only at h
    | false =>
      simp only at h
      split at h <;> try contradiction
      rename_i iv hi
      obtain ⟨v, w', hr, hs, hk⟩ := run_next (P := P) (ty := o.type) h
      refine okE_value hF (by simp [hop]) (w' := w') ?_ hs hk
      rw [hcong]; unfold execOp; rw [hop]; simp only [hρ _ _ hi, Sem.run_bind, hr, Result.andThen_ok, Sem.run_pure]
  case call c =>
    split at h <;> try contradiction
    · rename_i hc
      simp only [Op.call.injEq] at hc
      subst hc
      split at h <;> try contradiction
      rename_i x y t u s xv e z sz b hs hx htu hel
      have := Nat.eq_of_beq_eq_true htu
      subst this
      obtain ⟨v, w', hr, hs', hk⟩ := run_append (P := P) (ty := o.type) hel h
      refine okE_value hF (by simp [hop]) (w' := w') ?_ hs' hk
      rw [hcong]; unfold execOp; rw [hop]
      simp only [resolve, invoke, builtin, Sem.run_bind, Sem.run_pure, Result.andThen_ok, List.map_toArray, List.map_cons, List.map_nil, hρ _ _ hs, hρ _ _ hx, hr]
    · rename_i op0 x0 y0 t0 u0 hc
      simp only [Op.call.injEq] at hc
      subst hc
      split at h <;> try contradiction
      rename_i d s e z sz b hd hs hel
      obtain ⟨v, h', he, hk⟩ := h
      obtain ⟨w', hr, rfl, hs'⟩ := run_copy (P := P) (ts := u0) (ty := o.type) hel he
      refine okE_value hF (by simp [hop]) (w' := w') ?_ hs' hk
      rw [hcong]; unfold execOp; rw [hop]
      simp only [resolve, invoke, builtin, Sem.run_bind, Sem.run_pure, Result.andThen_ok, List.map_toArray, List.map_cons, List.map_nil, hρ _ _ hd, hρ _ _ hs, hr]
    · rename_i op0 x0 t0 hc
      simp only [Op.call.injEq] at hc
      subst hc
      split at h <;> try contradiction
      rename_i s e z sz b hs hel
      obtain ⟨v, h', he, hk⟩ := h
      obtain ⟨w', hr, rfl, hs'⟩ := run_clear (P := P) (ty := o.type) hel he
      refine okE_value hF (by simp [hop]) (w' := w') ?_ hs' hk
      rw [hcong]; unfold execOp; rw [hop]
      simp only [resolve, invoke, builtin, Sem.run_bind, Sem.run_pure, Result.andThen_ok, List.map_toArray, List.map_cons, List.map_nil, hρ _ _ hs, hr]
    · rename_i op0 x0 y0 t0 ts0 hc
      simp only [Op.call.injEq] at hc
      subst hc
      split at h <;> try contradiction
      rename_i m q kd z hm hq hkd
      obtain ⟨v, h', he, hk⟩ := h
      obtain ⟨w', hr, rfl, hs'⟩ := run_delete (P := P) (ts := ⟨t0 :: ts0⟩) (t := t0) (ty := o.type) (by simp) hkd he
      refine okE_value hF (by simp [hop]) (w' := w') ?_ hs' hk
      rw [hcong]; unfold execOp; rw [hop]
      simp only [resolve, invoke, builtin, Sem.run_bind, Sem.run_pure, Result.andThen_ok, List.map_toArray, List.map_cons, List.map_nil, hρ _ _ hm, hρ _ _ hq, hr]
    · rename_i op0 f args ts hc
      simp only [Op.call.injEq] at hc
      subst hc
      split at h <;> try contradiction
      · rename_i vs hvs hcl
        obtain ⟨v, h', he, hk⟩ := h
        obtain ⟨w', hr, rfl, hs'⟩ := run_mcl hcl he
        refine okE_value hF (by simp [hop]) (w' := w') ?_ hs' hk
        have e1 : args.map ρ = vs.toArray := by rw [← Holds.evs hρ hvs]; apply Array.ext'; simp
        rw [hcong]; unfold execOp; rw [hop]
        have hev : ρ (.func f) = .func (.func f) #[] #[] := hρ _ _ rfl
        simp only [resolve, hev, Deferred.ofValue, invoke, Sem.run_bind, Sem.run_pure, Result.andThen_ok, e1, Array.empty_append, Array.append_empty, hr]
      rename_i vs hvs hcl
      obtain ⟨hf, h⟩ := h
      refine okE_enter hF (by simp [hop]) (f := f) (args := vs) ?_ h
      have e1 : args.map ρ = vs.toArray := by rw [← Holds.evs hρ hvs]; apply Array.ext'; simp
      rw [hcong]; unfold execOp; rw [hop]
      have hev : ρ (.func f) = .func (.func f) #[] #[] := hρ _ _ rfl
      simp only [resolve, hev, Deferred.ofValue, invoke, Sem.run_bind, Sem.run_pure, Result.andThen_ok, e1, Array.empty_append, Array.append_empty, run_callFunc hf]
    · rename_i op0 x args ts hnf hc
      simp only [Op.call.injEq] at hc
      subst hc
      split at h <;> try contradiction
      rename_i fv vs hx hvs
      have e1 : args.map ρ = vs.toArray := by rw [← Holds.evs hρ hvs]; apply Array.ext'; simp
      rcases h with (⟨g, first, cap, rfl, ⟨hg, hc⟩⟩ | ⟨l, rfl, hy⟩) | ⟨name, r, rfl, t, u, f, rfl, hm, hf, hc⟩
      · refine okE_enter hF (by simp [hop]) (f := g) (args := first.toList ++ vs ++ cap.toList) ?_ hc
        rw [hcong]; unfold execOp; rw [hop]
        have e2 : first ++ vs.toArray ++ cap = (first.toList ++ vs ++ cap.toList).toArray := by simp
        simp only [resolve, hρ _ _ hx, Deferred.ofValue, invoke, Sem.run_bind, Sem.run_pure, Result.andThen_ok, e1, e2, run_callFunc hg]
      · refine okE_round hF (by simp [hop]) (l := l) (args := vs) ?_ hy
        rw [hcong]; unfold execOp; rw [hop]
        simp only [resolve, hρ _ _ hx, Deferred.ofValue, invoke, Sem.run_bind, Sem.run_pure, Result.andThen_ok, e1, Array.empty_append]
      · refine okE_enter hF (by simp [hop]) (f := f) (args := u :: vs) ?_ hc
        rw [hcong]; unfold execOp; rw [hop]
        have e3 : (#[Value.iface t u] ++ vs.toArray)[0]? = some (Value.iface t u) := by simp
        have e4 : (#[Value.iface t u] ++ vs.toArray).extract 1 (#[Value.iface t u] ++ vs.toArray).size = vs.toArray := by simp
        simp only [resolve, hρ _ _ hx, Deferred.ofValue, invoke, Sem.run_bind, Sem.run_pure, Result.andThen_ok, e1, e3, e4, run_callMethod hm hf]
    · rename_i op0 x name args ts hc
      simp only [Op.call.injEq] at hc
      subst hc
      split at h <;> try contradiction
      rename_i fv vs hx hvs
      have e1 : args.map ρ = vs.toArray := by rw [← Holds.evs hρ hvs]; apply Array.ext'; simp
      obtain ⟨t, u, f, rfl, hm, hf, hc⟩ := h
      refine okE_enter hF (by simp [hop]) (f := f) (args := u :: vs) ?_ hc
      rw [hcong]; unfold execOp; rw [hop]
      have e3 : (#[Value.iface t u] ++ vs.toArray)[0]? = some (Value.iface t u) := by simp
      have e4 : (#[Value.iface t u] ++ vs.toArray).extract 1 (#[Value.iface t u] ++ vs.toArray).size = vs.toArray := by simp
      simp only [resolve, hρ _ _ hx, invoke, Sem.run_bind, Sem.run_pure, Result.andThen_ok, e1, e3, e4, run_callMethod hm hf]
end Go.En
namespace Go.En

abbrev KB := List (Nat × Option Bool)
def lkb : KB → Nat → Option (Option Bool)
  | [], _ => none
  | (d, r) :: s, t => match Nat.beq d t with
    | true => some r
    | false => lkb s t
def kbd (kb : KB) (dst : Option Nat) : KB :=
  match dst with
  | none => kb
  | some d => kb.filter fun x => !(Nat.beq x.1 d)
def put (env : Env) (dst : Option Nat) (v : Value) : Env :=
  match dst with
  | none => env
  | some d => (d, v) :: env

/-- a test of a truth value -/
def Br (v : Value) (A B : Prop) : Prop :=
  match v with
  | .bool true => A
  | .bool false => B
  | _ => False
theorem Br_ex {v : Value} {A B : Prop} (h : Br v A B) : ∃ b, v = .bool b ∧ (b = true → A) ∧ (b = false → B) := by
  unfold Br at h
  split at h
  · exact ⟨true, rfl, (fun _ => h), (fun e => by cases e)⟩
  · exact ⟨false, rfl, (fun e => by cases e), fun _ => h⟩
  · exact h.elim

def dec : Value → Deferred
  | .func fn first cap => { target := .fn fn cap, args := first }
  | .pointer (some a) => { target := .collected a.block, args := #[] }
  | _ => default

structure Agr (n : Nat) (env : Env) (a : Act) : Prop where
  sz : a.tmps.size = n
  sl : ∀ t v, t < n → lk env t = some v → a.tmps.getD t undef = v
  df : ∀ v, lk env n = some v → ∃ ds : List Value, v = .tuple ⟨ds⟩ ∧ a.defers = ds.map dec

theorem Agr.holds {n : Nat} {env : Env} {a : Act} (h : Agr n env a) : Holds n env a.eval := by
  intro x v hv
  cases x with
  | tmp t =>
    simp only [ev] at hv
    split at hv
    · rename_i hlt
      exact h.sl t v (by simpa [Nat.blt_eq] using hlt) hv
    · contradiction
  | const u => simpa [ev, Act.eval] using hv
  | global g => simpa [ev, Act.eval] using hv
  | func f => simpa [ev, Act.eval] using hv

theorem lk_put {env : Env} {d t : Nat} {v : Value} : lk ((d, v) :: env) t = if d = t then some v else lk env t := by
  simp only [lk]
  by_cases h : d = t
  · subst h; simp
  · have : Nat.beq d t = false := by
      cases hb : Nat.beq d t with
      | false => rfl
      | true => exact absurd (Nat.eq_of_beq_eq_true hb) h
    rw [this]; simp [h]

theorem getD_put {a : Act} {d t : Nat} {v : Value} (hd : d < a.tmps.size) : (a.put (some d) v).tmps.getD t undef = if d = t then v else a.tmps.getD t undef := by
  simp only [Act.put, Array.getD_eq_getD_getElem?, Array.getElem?_setIfInBounds]
  by_cases h : d = t
  · subst h; simp [hd]
  · simp [h]

theorem Agr.put {n : Nat} {env : Env} {a : Act} (h : Agr n env a) {dst : Option Nat} {v : Value} (hd : ∀ d, dst = some d → d < n) : Agr n (put env dst v) (a.put dst v) := by
  cases dst with
  | none => exact h
  | some d =>
    have hdn := hd d rfl
    refine ⟨by simp [Act.put, h.sz], fun t u ht hu => ?_, fun u hu => ?_⟩
    · simp only [En.put] at hu
      rw [lk_put] at hu
      rw [getD_put (by rw [h.sz]; exact hdn)]
      split at hu
      · rename_i e; subst e; simpa using hu
      · rename_i e; rw [if_neg e]; exact h.sl t u ht hu
    · simp only [En.put] at hu
      rw [lk_put, if_neg (by omega)] at hu
      exact h.df u hu

/-- what is known of the truth values: of a slot that holds one, or that was passed over -/
def KBok (n : Nat) (kb : KB) (env : Env) : Prop := ∀ d r, lkb kb d = some r → d < n ∧ ∃ v, lk env d = some v ∧ match r with
  | some b => v = .bool b
  | none => v = undef

theorem lkb_cons {kb : KB} {d t : Nat} {r : Option Bool} : lkb ((d, r) :: kb) t = if d = t then some r else lkb kb t := by
  simp only [lkb]
  by_cases h : d = t
  · subst h; simp
  · have : Nat.beq d t = false := by
      cases hb : Nat.beq d t with
      | false => rfl
      | true => exact absurd (Nat.eq_of_beq_eq_true hb) h
    rw [this]; simp [h]

theorem lkb_filter {kb : KB} {d t : Nat} {r : Option Bool} (h : lkb (kb.filter fun x => !(Nat.beq x.1 d)) t = some r) : lkb kb t = some r ∧ t ≠ d := by
  induction kb with
  | nil => simp [lkb] at h
  | cons x kb ih =>
    obtain ⟨x, q⟩ := x
    by_cases hx : x = d
    · subst hx
      rw [List.filter_cons_of_neg (by simp)] at h
      obtain ⟨h1, h2⟩ := ih h
      exact ⟨by rw [lkb_cons, if_neg (fun e => h2 e.symm)]; exact h1, h2⟩
    · have hb : Nat.beq x d = false := by
        cases hb : Nat.beq x d with
        | false => rfl
        | true => exact absurd (Nat.eq_of_beq_eq_true hb) hx
      rw [List.filter_cons_of_pos (by simp [hb]), lkb_cons] at h
      split at h
      · rename_i e; subst e; exact ⟨by rw [lkb_cons, if_pos rfl]; exact h, hx⟩
      · rename_i e
        obtain ⟨h1, h2⟩ := ih h
        exact ⟨by rw [lkb_cons, if_neg e]; exact h1, h2⟩

theorem KBok.put {n : Nat} {kb : KB} {env : Env} (h : KBok n kb env) (dst : Option Nat) (v : Value) : KBok n (kbd kb dst) (put env dst v) := by
  cases dst with
  | none => exact h
  | some d =>
    intro t r hr
    obtain ⟨h1, h2⟩ := lkb_filter hr
    obtain ⟨h3, u, hu, hm⟩ := h t r h1
    exact ⟨h3, u, by rw [En.put, lk_put, if_neg (fun e => h2 e.symm)]; exact hu, hm⟩
theorem KBok.nil (n : Nat) (env : Env) : KBok n [] env := fun d r h => by simp [lkb] at h
theorem KBok.add {n : Nat} {kb : KB} {env : Env} (h : KBok n kb env) {d : Nat} {r : Option Bool} {v : Value} (hd : d < n) (hl : lk env d = some v) (hv : match r with
    | some b => v = .bool b
    | none => v = undef) : KBok n ((d, r) :: kb) env := by
  intro t q hq
  rw [lkb_cons] at hq
  split at hq
  · rename_i e; subst e; simp only [Option.some.injEq] at hq; subst hq; exact ⟨hd, v, hl, hv⟩
  · exact h t q hq

/-- one operation: moves are seen through -/
def step (P : Program) (n : Nat) (op : Op) (env : Env) (kb : KB) (h : Hp) (k : Value → Hp → Prop) : Prop :=
  match op with
  | .move x => match ev n env x with
    | some v => k v h
    | none => False
  | .assign x => match ev n env x with
    | some v => k v h
    | none => False
  | .pick (.tmp c) x y => match lkb kb c with
    | some (some true) => match ev n env x with
      | some v => k v h
      | none => False
    | some (some false) => match ev n env y with
      | some v => k v h
      | none => False
    | some none => False
    | none => Vb (vop P n env (.pick (.tmp c) x y) h) fun v => k v h
  | op => match isV op with
    | true => Vb (vop P n env op h) fun v => k v h
    | false => eop P n env op h k

theorem vop_not_defer {P : Program} {n : Nat} {env : Env} {op : Op} {h : Hp} {v : Value} (hv : vop P n env op h = some v) : ∀ c, op ≠ .defer c := by
  intro c e; subst e; simp [vop] at hv

theorem run_step {P : Program} {F : Fence} (hF : Wd F) {n m : Nat} {env : Env} {kb : KB} {o : Oper} {a : Act} {w : World} {k : Value → Hp → Prop} (hA : Holds n env a.eval) (hK : KBok n kb env)
    (h : step P n o.op env kb w.heap k) : okE P F m o a w k := by
  have hmove : ∀ x v, (o.op = .move x ∨ o.op = .assign x) → ev n env x = some v → k v w.heap → okE P F m o a w k := by
    intro x v ho hv hk
    refine okE_value hF (w' := w) (v := v) (by rcases ho with e | e <;> simp [e]) ?_ (.refl w) hk
    rw [← hA x v hv]
    rcases ho with e | e <;> (unfold execOp; rw [e]; rfl)
  have hV : ∀ (hv : Vb (vop P n env o.op w.heap) fun v => k v w.heap), okE P F m o a w k := by
    rintro ⟨v, hv, hk⟩
    exact okE_value hF (vop_not_defer hv) (run_vop hA hv) (.refl w) hk
  have hgen : (match isV o.op with
      | true => Vb (vop P n env o.op w.heap) fun v => k v w.heap
      | false => eop P n env o.op w.heap k) → okE P F m o a w k := by
    intro h
    split at h
    · exact hV h
    · exact run_eop hF hA rfl h
  unfold step at h
  split at h
  · rename_i x ho
    split at h <;> try contradiction
    rename_i v hv
    exact hmove x v (.inl ho) hv h
  · rename_i x ho
    split at h <;> try contradiction
    rename_i v hv
    exact hmove x v (.inr ho) hv h
  · rename_i c x y ho
    split at h
    · rename_i hb
      split at h <;> try contradiction
      rename_i v hv
      obtain ⟨hc, u, hu, hm⟩ := hK _ _ hb
      simp only at hm
      subst hm
      refine okE_value hF (w' := w) (v := v) (by simp [ho]) ?_ (.refl w) h
      have hcv : ev n env (.tmp c) = some (.bool true) := by
        have : Nat.blt c n = true := by simpa [Nat.blt_eq] using hc
        simp [ev, this, hu]
      unfold execOp; rw [ho]; simp [hA _ _ hcv, hA _ _ hv, asBool]
    · rename_i hb
      split at h <;> try contradiction
      rename_i v hv
      obtain ⟨hc, u, hu, hm⟩ := hK _ _ hb
      simp only at hm
      subst hm
      refine okE_value hF (w' := w) (v := v) (by simp [ho]) ?_ (.refl w) h
      have hcv : ev n env (.tmp c) = some (.bool false) := by
        have : Nat.blt c n = true := by simpa [Nat.blt_eq] using hc
        simp [ev, this, hu]
      unfold execOp; rw [ho]; simp [hA _ _ hcv, hA _ _ hv, asBool]
    · contradiction
    · rw [← ho] at h; exact hV h
  · exact hgen h

/-- a guard: the operation's run under what is known -/
def grd (ops : Array Oper) (env : Env) (kb : KB) (g : Option (Nat × Bool)) (yes no : KB → Prop) : Prop :=
  match g with
  | none => yes kb
  | some (j, want) => match (ops[j]?).bind (·.dst) with
    | none => False
    | some d => match lkb kb d with
      | some (some b) => match b, want with
        | true, true => yes kb
        | false, false => yes kb
        | _, _ => no kb
      | some none => no kb
      | none => match lk env d with
        | none => False
        | some v => match want with
          | true => Br v (yes ((d, some true) :: kb)) (no ((d, some false) :: kb))
          | false => Br v (no ((d, some true) :: kb)) (yes ((d, some false) :: kb))

def dstOk (n : Nat) (ops : List Oper) : Bool :=
  match ops with
  | [] => true
  | o :: r => match o.dst with
    | none => dstOk n r
    | some d => match Nat.blt d n with
      | true => dstOk n r
      | false => false
theorem dstOk_mem {n : Nat} {ops : List Oper} (h : dstOk n ops = true) : ∀ o ∈ ops, ∀ d, o.dst = some d → d < n := by
  induction ops with
  | nil => intro o ho; cases ho
  | cons o r ih =>
    unfold dstOk at h
    intro x hx d hd
    split at h
    · rename_i hn
      rcases List.mem_cons.1 hx with rfl | hx
      · rw [hn] at hd; cases hd
      · exact ih h x hx d hd
    · rename_i d' hd'
      split at h
      · rename_i hb
        rcases List.mem_cons.1 hx with rfl | hx
        · rw [hd'] at hd; cases hd; simpa [Nat.blt_eq] using hb
        · exact ih h x hx d hd
      · contradiction

def boolOf : Value → Option Bool
  | .bool b => some b
  | _ => none

theorem yielded_of {n : Nat} {env : Env} {a : Act} {ops : Array Oper} (hsz : a.tmps.size = n) {j d : Nat} {v : Value} (hj : (ops[j]?).bind (·.dst) = some d) (hd : d < n) (hv : a.tmps.getD d undef = v) :
    yielded ops a.tmps j = boolOf v := by
  unfold yielded
  rw [hj]
  simp only [Option.bind_some]
  have : a.tmps[d]? = some v := by
    rw [Array.getD_eq_getD_getElem?] at hv
    have hlt : d < a.tmps.size := by omega
    rw [Array.getElem?_eq_getElem hlt] at hv ⊢
    simpa using hv
  rw [this]
  cases v <;> rfl

theorem grd_sound {n : Nat} {ops : Array Oper} {env : Env} {kb : KB} {a : Act} {o : Oper} {yes no : KB → Prop} (hn : dstOk n ops.toList = true) (hsz : a.tmps.size = n) (hK : KBok n kb env)
    (hlook : ∀ d v, (∃ j want, o.guard = some (j, want) ∧ (ops[j]?).bind (·.dst) = some d) → lk env d = some v → a.tmps.getD d undef = v)
    (h : grd ops env kb o.guard yes no) :
    ∃ kb', KBok n kb' env ∧ ((Region.wanted o (yielded ops a.tmps) = true ∧ yes kb') ∨ (Region.wanted o (yielded ops a.tmps) = false ∧ no kb')) := by
  unfold grd at h
  split at h
  · rename_i hg
    exact ⟨kb, hK, .inl ⟨by simp [Region.wanted, hg], h⟩⟩
  · rename_i j want hg
    split at h <;> try contradiction
    rename_i d hd
    have hdn : d < n := by
      cases ho : ops[j]? with
      | none => rw [ho] at hd; cases hd
      | some oj =>
        rw [ho] at hd
        exact dstOk_mem hn oj (by rw [Array.mem_toList_iff]; exact Array.mem_of_getElem? ho) d hd
    have hw : ∀ v, lk env d = some v → Region.wanted o (yielded ops a.tmps) = (boolOf v == some want) := by
      intro v hv
      have := yielded_of (env := env) hsz hd hdn (hlook d v ⟨j, want, hg, hd⟩ hv)
      simp only [Region.wanted, hg, this]
    split at h
    · rename_i b hb
      obtain ⟨_, v, hv, hm⟩ := hK _ _ hb
      simp only at hm
      subst hm
      have := hw _ hv
      split at h
      · exact ⟨kb, hK, .inl ⟨by rw [this]; rfl, h⟩⟩
      · exact ⟨kb, hK, .inl ⟨by rw [this]; rfl, h⟩⟩
      · rename_i h1 h2
        refine ⟨kb, hK, .inr ⟨?_, h⟩⟩
        rw [this]
        cases b <;> cases want <;> first | rfl | exact (h1 rfl rfl).elim | exact (h2 rfl rfl).elim
    · rename_i hb
      obtain ⟨_, v, hv, hm⟩ := hK _ _ hb
      simp only at hm
      subst hm
      exact ⟨kb, hK, .inr ⟨by rw [hw _ hv]; rfl, h⟩⟩
    · split at h <;> try contradiction
      rename_i v hv
      have hwv := hw _ hv
      split at h
      · obtain ⟨b, rfl, ht, hf⟩ := Br_ex h
        cases b with
        | true => exact ⟨_, hK.add hdn hv (r := some true) rfl, .inl ⟨by rw [hwv]; rfl, ht rfl⟩⟩
        | false => exact ⟨_, hK.add hdn hv (r := some false) rfl, .inr ⟨by rw [hwv]; rfl, hf rfl⟩⟩
      · obtain ⟨b, rfl, ht, hf⟩ := Br_ex h
        cases b with
        | true => exact ⟨_, hK.add hdn hv (r := some true) rfl, .inr ⟨by rw [hwv]; rfl, ht rfl⟩⟩
        | false => exact ⟨_, hK.add hdn hv (r := some false) rfl, .inl ⟨by rw [hwv]; rfl, hf rfl⟩⟩

/-- operations in the order of the text -/
def denL (P : Program) (n : Nat) (rd : Bool) (ops : Array Oper) : List Oper → Env → KB → Hp → (Env → Hp → Prop) → Prop
  | [], env, _, h, k => k env h
  | o :: r, env, kb, h, k =>
    grd ops env kb o.guard
      (fun kb => match o.op with
        | .defer { callee := .value (.func f), args, .. } => match rd, okF P f, evs n env args.toList, lk env n with
          | false, true, some vs, some (.tuple ⟨ds⟩) => match o.dst with
            | none => denL P n rd ops r ((n, .tuple ⟨.func (.func f) vs.toArray #[] :: ds⟩) :: env) kb h k
            | some _ => False
          | _, _, _, _ => False
        | op => step P n op env kb h fun v h' => denL P n rd ops r (put env o.dst v) (kbd kb o.dst) h' k)
      (fun kb => denL P n rd ops r (put env o.dst undef) (match o.dst with
        | some d => (d, none) :: kb
        | none => kb) h k)

theorem denL_sound {P : Program} {F : Fence} (hF : Wd F) {n m : Nat} {rd : Bool} (hrd : rd = false → F.round = none) {ops : Array Oper} (hn : dstOk n ops.toList = true) {Q : Exit → Act → World → Prop} {w0 : World} {k : Env → Hp → Prop}
    {T : List Nat} {b : Nat → Option Value} (hT : ∀ o ∈ ops.toList, ∀ d, o.dst = some d → d ∉ T) (hTn : n ∈ T → ∀ o ∈ ops.toList, ∀ c, o.op ≠ .defer c)
    (hQ : ∀ env a w, Agr n env a → Rst w0 w → (∀ t ∈ T, lk env t = b t) → k env w.heap → Q .normal a w) :
    ∀ (l : List Oper) (env : Env) (kb : KB) (a : Act) (w : World), (∀ t ∈ T, lk env t = b t) → (∀ o ∈ l, o ∈ ops.toList) → Agr n env a → KBok n kb env → Rst w0 w → denL P n rd ops l env kb w.heap k → wpListIn F m P ops Q l a w
  | [], env, kb, a, w, hb, _, hA, _, hR, h => hQ env a w hA hR hb h
  | o :: l, env, kb, a, w, hb, hl, hA, hK, hR, h => by
    have hbp : ∀ v, ∀ t ∈ T, lk (put env o.dst v) t = b t := by
      intro v t ht
      cases hd : o.dst with
      | none => exact hb t ht
      | some d =>
        simp only [put]
        rw [lk_put, if_neg (fun (e : d = t) => hT o (hl o (List.mem_cons_self ..)) d hd (by rw [e]; exact ht))]
        exact hb t ht
    have ho := hl o (List.mem_cons_self ..)
    have hl' : ∀ x ∈ l, x ∈ ops.toList := fun x hx => hl x (List.mem_cons_of_mem _ hx)
    have hd : ∀ d, o.dst = some d → d < n := dstOk_mem hn o ho
    unfold denL at h
    obtain ⟨kb', hK', hcase⟩ := grd_sound hn hA.sz hK (fun d v ⟨j, want, hg, hdd⟩ hv => hA.sl d v (by
      cases hoj : ops[j]? with
      | none => rw [hoj] at hdd; cases hdd
      | some oj => rw [hoj] at hdd; exact dstOk_mem hn oj (by rw [Array.mem_toList_iff]; exact Array.mem_of_getElem? hoj) d hdd) hv) h
    refine wpListIn_step fun K hKK => ?_
    rcases hcase with ⟨hw, hy⟩ | ⟨hw, hno⟩
    · rw [hw, if_pos rfl]
      split at hy
      · rename_i f args ts hop
        split at hy <;> try contradiction
        rename_i vs ds hf hvs hds
        split at hy <;> try contradiction
        rename_i hdst
        have hro := hrd rfl
        refine ⟨fun f _ => hF.any f, ?_⟩
        have e1 : args.map a.eval = vs.toArray := by rw [← Holds.evs hA.holds hvs]; apply Array.ext'; simp
        have hrun : (o.semAt F.round a.eval).run P w = .ok (.defer { target := .fn (.func f) #[], args := vs.toArray }) w := by
          rw [hro, Oper.semAt_none]
          unfold execOp; rw [hop]
          have hev : a.eval (.func f) = .func (.func f) #[] #[] := rfl
          simp only [resolve, hev, Deferred.ofValue, Sem.run_bind, Sem.run_pure, Result.andThen_ok, e1, Array.empty_append]
        rw [hrun, Oper.uponIn_defer, hdst]
        refine hKK _ _ (denL_sound hF hrd hn hT hTn hQ l _ kb' _ w ?_ hl' ?_ ?_ hR hy)
        · intro t ht
          by_cases e : n = t
          · subst e; exact absurd hop (hTn ht o ho _)
          · rw [lk_put, if_neg e]; exact hb t ht
        · obtain ⟨ds', hds', hdf⟩ := hA.df _ hds
          simp only [Value.tuple.injEq, Array.mk.injEq] at hds'
          subst hds'
          refine ⟨hA.sz, fun t v ht hv => ?_, fun v hv => ?_⟩
          · rw [lk_put, if_neg (by omega)] at hv
            exact hA.sl t v ht hv
          · rw [lk_put, if_pos rfl] at hv
            simp only [Option.some.injEq] at hv
            refine ⟨_, hv.symm, ?_⟩
            simp [Act.put, dec, hdf]
        · intro t r hr
          obtain ⟨h1, v, h2, h3⟩ := hK' t r hr
          exact ⟨h1, v, by rw [lk_put, if_neg (by omega)]; exact h2, h3⟩
      · refine run_step hF hA.holds hK' hy K Q fun v w' hs hk => hKK _ _ ?_
        exact denL_sound hF hrd hn hT hTn hQ l _ _ _ w' (hbp v) hl' (hA.put hd) (hK'.put _ _) (hR.trans hs) hk
    · rw [hw]
      refine ⟨fun f _ => hF.any f, hKK _ _ (denL_sound hF hrd hn hT hTn hQ l _ _ _ w (hbp _) hl' (hA.put hd) ?_ hR hno)⟩
      cases hdst : o.dst with
      | none => simpa [put] using hK'
      | some d =>
        simp only
        intro t r hr
        rw [lkb_cons] at hr
        by_cases e : d = t
        · subst e
          rw [if_pos rfl] at hr
          simp only [Option.some.injEq] at hr
          subst hr
          exact ⟨hd d hdst, undef, by simp only [put]; rw [lk_put, if_pos rfl], rfl⟩
        · rw [if_neg e] at hr
          obtain ⟨h1, v, h2, h3⟩ := hK' t r hr
          exact ⟨h1, v, by simp only [put]; rw [lk_put, if_neg e]; exact h2, h3⟩
end Go.En
