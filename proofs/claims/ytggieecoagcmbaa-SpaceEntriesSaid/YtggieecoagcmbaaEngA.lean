/-
  The engine, part A: what the operations of a function do, as partial functions of values and of the heap.
-/
import Derived.CallsIn
import Derived.OrdersIn
import Derived.DefersIn
import Derived.TacticsIn
import Derived.Laws.Append
import Derived.Laws.CopyRow
import Derived.Laws.Entries
import Derived.Laws.Build
import Derived.KernelRfl
namespace Go.En

abbrev Hp := Array Obj
abbrev Env := List (Nat × Value)

/-! ### Environments -/
def lk : Env → Nat → Option Value
  | [], _ => none
  | (d, v) :: r, t => match Nat.beq d t with
    | true => some v
    | false => lk r t

def ev (n : Nat) (env : Env) : Operand → Option Value
  | .tmp t => match Nat.blt t n with
    | true => lk env t
    | false => none
  | .const v => some v
  | .global g => some (.pointer (some ⟨g, 0, none⟩))
  | .func f => some (.func (.func f) #[] #[])

def evs (n : Nat) (env : Env) : List Operand → Option (List Value)
  | [] => some []
  | x :: r => (ev n env x).bind fun v => (evs n env r).bind fun vs => some (v :: vs)

def evp (n : Nat) (env : Env) : List (Nat × Operand) → Option (List (Nat × Value))
  | [] => some []
  | (i, x) :: r => (ev n env x).bind fun v => (evp n env r).bind fun vs => some ((i, v) :: vs)

def evo (n : Nat) (env : Env) : Option Operand → Option (Option Value)
  | none => some none
  | some x => (ev n env x).bind fun v => some (some v)

/-! ### The heap -/
def cellAt (h : Hp) (a : Addr) : Option Value :=
  match h[a.block]? with
  | some (.cells c _ _) => if a.spot.isSome then none else c[a.off]?
  | _ => none

def frozenAt (h : Hp) (a : Addr) : Bool :=
  match h[a.block]? with
  | some (.cells _ _ (lo, hi)) => lo ≤ a.off && a.off < hi
  | _ => false

def setAt (h : Hp) (a : Addr) (v : Value) : Hp :=
  h.modify a.block fun
    | .cells c elem frozen => .cells (if a.spot.isSome then c else c.setIfInBounds a.off v) elem frozen
    | o => o

theorem cellAt_eq (w : World) (a : Addr) : w.cell? a = cellAt w.heap a := rfl
theorem frozenAt_eq (w : World) (a : Addr) : w.frozen? a = frozenAt w.heap a := rfl

def rowFrom (h : Hp) (a : Addr) (i : Nat) : Nat → Option (List Value)
  | 0 => some []
  | n + 1 => (cellAt h (a.add i)).bind fun v => (rowFrom h a (i + 1) n).bind fun r => some (v :: r)

def ldc (p : Value) (h : Hp) : Option Value :=
  match p with
  | .pointer (some a) => cellAt h a
  | _ => none

def lda (n : Nat) (p : Value) (h : Hp) : Option Value :=
  match p with
  | .pointer (some a) => (rowFrom h a 0 n).bind fun l => some (.agg l.toArray)
  | _ => none

/-- Stores: cell by cell. -/
def stores (h : Hp) (a : Addr) (i : Nat) : List Value → Option Hp
  | [] => some h
  | v :: r => match v.oneCell', cellAt h (a.add i), frozenAt h (a.add i) with
    | true, some _, false => stores (setAt h (a.add i) v) a (i + 1) r
    | _, _, _ => none

def sto (n : Nat) (p v : Value) (h : Hp) : Option Hp :=
  match p with
  | .pointer (some a) => match Nat.beq v.cells.size n with
    | true => stores h a 0 v.cells.toList
    | false => none
  | _ => none

def nw (cells : Array Value) (e : TypeId) (h : Hp) : Option (Value × Hp) := some (.pointer (some ⟨h.size, 0, none⟩), h.push (.cells cells e))

/-! ### Values -/
def bin (op : BinOp) (x y : Value) : Option Value :=
  match x, y with
  | .int k a, .int k' b =>
    match op with
    | .shl => if b < 0 then none else some (.int k (k.wrap (a * 2 ^ (min b.toNat k.bits))))
    | .shr => if b < 0 then none else some (.int k (a.fdiv (2 ^ (min b.toNat k.bits))))
    | .add => if k = k' then some (.int k (k.wrap (a + b))) else none
    | .sub => if k = k' then some (.int k (k.wrap (a - b))) else none
    | .mul => if k = k' then some (.int k (k.wrap (a * b))) else none
    | .quo => if k = k' then (if b = 0 then none else some (.int k (k.wrap (a.tdiv b)))) else none
    | .rem => if k = k' then (if b = 0 then none else some (.int k (a.tmod b))) else none
    | .eql => if k = k' then some (.bool (a == b)) else none
    | .neq => if k = k' then some (.bool (a != b)) else none
    | .lss => if k = k' then some (.bool (decide (a < b))) else none
    | .leq => if k = k' then some (.bool (decide (a ≤ b))) else none
    | .gtr => if k = k' then some (.bool (decide (a > b))) else none
    | .geq => if k = k' then some (.bool (decide (a ≥ b))) else none
    | .and => if k = k' then some (.int k (k.wrap (BitVec.ofInt k.bits a &&& BitVec.ofInt k.bits b).toNat)) else none
    | .or => if k = k' then some (.int k (k.wrap (BitVec.ofInt k.bits a ||| BitVec.ofInt k.bits b).toNat)) else none
    | .xor => if k = k' then some (.int k (k.wrap (BitVec.ofInt k.bits a ^^^ BitVec.ofInt k.bits b).toNat)) else none
    | .andNot => if k = k' then some (.int k (k.wrap (BitVec.ofInt k.bits a &&& ~~~BitVec.ofInt k.bits b).toNat)) else none
  | _, _ => none

/-- '==' at other kinds of types: bool; against nil. -/
def eqB (x y : Value) : Option Bool :=
  match x, y with
  | .bool a, .bool b => some (a == b)
  | _, _ => none
def eqP (x y : Value) : Option Bool :=
  match x, y with
  | .pointer none, .pointer b => some b.isNone
  | .pointer (some _), .pointer none => some false
  | _, _ => none
def eqS (x y : Value) : Option Bool :=
  match x, y with
  | .slice none _ _, .slice b _ _ => some b.isNone
  | .slice (some _) _ _, .slice none _ _ => some false
  | _, _ => none
def eqM (x y : Value) : Option Bool :=
  match x, y with
  | .map none, .map b => some b.isNone
  | .map (some _), .map none => some false
  | _, _ => none
def eqF (x y : Value) : Option Bool :=
  match x, y with
  | .nilFunc, .nilFunc => some true
  | .nilFunc, .func .. | .func .., .nilFunc => some false
  | _, _ => none
/-- structs and arrays all of whose cells are integers or bools: cell by cell -/
def eq1 (i : Bool) (x y : Value) : Option Bool :=
  match i, x, y with
  | true, .int k a, .int k' b => if k = k' then some (a == b) else none
  | false, .bool a, .bool b => some (a == b)
  | _, _, _ => none
def eqL : List Bool → List Value → List Value → Option Bool
  | [], [], [] => some true
  | i :: l, x :: r, y :: s => (eq1 i x y).bind fun a => (eqL l r s).bind fun q => some (a && q)
  | _, _, _ => none
def eqA (l : List Bool) (x y : Value) : Option Bool :=
  match x, y with
  | .agg xs, .agg ys => eqL l xs.toList ys.toList
  | _, _ => none

def neg? (o : Option Bool) : Option Value := o.bind fun b => some (.bool !b)
def pos? (o : Option Bool) : Option Value := o.bind fun b => some (.bool b)

def uno (op : UnOp) (x : Value) : Option Value :=
  match op, x with
  | .neg, .int k n => some (.int k (k.wrap (0 - n)))
  | .not, .bool b => some (.bool !b)
  | _, _ => none

def cvi (k : IntKind) (x : Value) : Option Value :=
  match x with
  | .int _ n => some (.int k (k.wrap n))
  | _ => none

def fa (off : Nat) (p : Value) : Option Value :=
  match p with
  | .pointer (some a) => some (.pointer (some (a.add off)))
  | _ => none

/-- index address in a slice -/
def ixs (size : Nat) (x i : Value) : Option Value :=
  match x, i with
  | .slice (some a) len _, .int _ n => if 0 ≤ n ∧ n < len then some (.pointer (some (a.add (n.toNat * size)))) else none
  | _, _ => none
/-- index address in an array -/
def ixa (len size : Nat) (x i : Value) : Option Value :=
  match x, i with
  | .pointer (some a), .int _ n => if 0 ≤ n ∧ n < len then some (.pointer (some (a.add (n.toNat * size)))) else none
  | _, _ => none

/-- an element of an array value -/
def idc (len size : Nat) (x i : Value) : Option Value :=
  match x, i with
  | .agg cs, .int _ n => if 0 ≤ n ∧ n < len then cs[n.toNat * size]? else none
  | _, _ => none
def ida (len size : Nat) (x i : Value) : Option Value :=
  match x, i with
  | .agg cs, .int _ n => if 0 ≤ n ∧ n < len then some (.agg (cs.extract (n.toNat * size) (n.toNat * size + size))) else none
  | _, _ => none

def ext (i : Nat) (x : Value) : Option Value :=
  match x with
  | .tuple vs => vs[i]?
  | _ => none

def lnS (x : Value) : Option Value :=
  match x with
  | .slice _ n _ => some (.int .i64 n)
  | _ => none
def lnM (x : Value) (h : Hp) : Option Value :=
  match x with
  | .map none => some (.int .i64 0)
  | .map (some r) => match h[r]? with
    | some (.map es _) => some (.int .i64 es.size)
    | _ => none
  | _ => none
def mn (x y : Value) : Option Value :=
  match x, y with
  | .int k a, .int _ b => some (.int k (if b < a then b else a))
  | _, _ => none
def mx (x y : Value) : Option Value :=
  match x, y with
  | .int k a, .int _ b => some (.int k (if b > a then b else a))
  | _, _ => none

def bnd (x : Value) (y : Nat) : Option Nat :=
  match x with
  | .int _ i => if 0 ≤ i ∧ i ≤ y then some i.toNat else none
  | _ => none
def bndL (lo : Option Value) (h : Nat) : Option Nat :=
  match lo with
  | some v => bnd v h
  | none => some 0
def bndH (hi : Option Value) (len m : Nat) : Option Nat :=
  match hi with
  | some v => bnd v m
  | none => some len
def bndM (mx : Option Value) (cap : Nat) : Option Nat :=
  match mx with
  | some v => bnd v cap
  | none => some cap
def bnds (len cap : Nat) (lo hi mx : Option Value) : Option (Nat × Nat × Nat) :=
  (bndM mx cap).bind fun m => (bndH hi len m).bind fun h => (bndL lo h).bind fun l => some (l, h, m)
def slcA (size : Nat) (a : Option Addr) (b : Nat × Nat × Nat) : Value :=
  .slice (if b.2.2 = b.1 then a else a.map (·.add (b.1 * size))) (b.2.1 - b.1) (b.2.2 - b.1)
/-- a slice of a slice -/
def slc (size : Nat) (x : Value) (lo hi mx : Option Value) : Option Value :=
  match x with
  | .slice a len cap => (bnds len cap lo hi mx).bind fun b => some (slcA size a b)
  | _ => none
/-- a slice of an array -/
def sla (n size : Nat) (x : Value) (lo hi mx : Option Value) : Option Value :=
  match x with
  | .pointer (some a) => (bnds n n lo hi mx).bind fun b => some (slcA size (some a) b)
  | _ => none

/-- a field of a struct value -/
def fdc (off : Nat) (x : Value) : Option Value :=
  match x with
  | .agg cs => cs[off]?
  | _ => none
def fda (off size : Nat) (x : Value) : Option Value :=
  match x with
  | .agg cs => some (.agg (cs.extract off (off + size)))
  | _ => none

def bldS (places : List (Nat × Nat)) (zero : Array Value) (parts : List (Nat × Value)) : Option Value :=
  (Instr.fill (places[·]?) zero parts).bind fun cells => some (.agg cells)
def bldA (size : Nat) (zero : Array Value) (parts : List (Nat × Value)) : Option Value :=
  (Instr.fill (fun i => some (i * size, size)) zero parts).bind fun cells => some (.agg cells)
def bsl (zero : Array Value) (size len : Nat) (e : TypeId) (parts : List (Nat × Value)) (h : Hp) : Option (Value × Hp) :=
  (Instr.fill (fun i => some (i * size, size)) ((Array.range (len * size)).map (zero[· % zero.size]!)) parts).bind fun cells =>
    some (.slice (some ⟨h.size, 0, none⟩) len len, h.push (.cells cells e))

def pk (c x y : Value) : Option Value :=
  match c with
  | .bool b => some (if b then x else y)
  | _ => none

def nck (x : Value) : Option Value :=
  match x with
  | .pointer (some a) => some (.pointer (some a))
  | .func (.func f) first cap => some (.func (.func f) first cap)
  | _ => none

/-! ### Maps with plain keys -/
def mkey (m : Value) (h : Hp) : Option (Option (Nat × Array MapEntry × Nat)) :=
  match m with
  | .map none => some none
  | .map (some r) => match h[r]? with
    | some (.map es clock) => some (some (r, es, clock))
    | _ => none
  | _ => none
def lkm (kd : TypeDesc) (zero : Value) (ok : Bool) (m key : Value) (h : Hp) : Option Value :=
  (mkey m h).bind fun r =>
    (Instr.findNow kd key ((r.map fun x => x.2.1.toList).getD []) 0).bind fun f =>
      some (if ok then .tuple #[(f.map (·.2)).getD zero, .bool f.isSome] else (f.map (·.2)).getD zero)
def mup (kd : TypeDesc) (m key val : Value) (h : Hp) : Option Hp :=
  match mkey m h with
  | some (some (r, es, clock)) => match Instr.findNow kd key es.toList 0 with
    | some (some (i, _)) => some (h.setIfInBounds r (.map (es.modify i fun e => { e with key, val := val }) clock))
    | some none => some (h.setIfInBounds r (.map (es.push { key, val := val, born := clock }) (clock + 1)))
    | none => none
  | _ => none
def men (kd : TypeDesc) (zero : Value) (m key : Value) (h : Hp) : Option (Value × Hp) :=
  match mkey m h with
  | some (some (r, es, clock)) => match Instr.findNow kd key es.toList 0 with
    | some (some (i, v)) => some (.tuple #[v, goInt (((es[i]?).map (·.born)).getD 0)], h.setIfInBounds r (.map (es.modify i fun e => { e with key }) clock))
    | some none => some (.tuple #[zero, goInt clock], h.setIfInBounds r (.map (es.push { key, val := zero, born := clock }) (clock + 1)))
    | none => none
  | _ => none
def mst (m stamp val : Value) (h : Hp) : Option Hp :=
  match mkey m h, stamp with
  | some (some (r, es, clock)), .int _ born => match es.findIdx? (fun e => (e.born : Int) == born) with
    | some i => some (h.setIfInBounds r (.map (es.modify i fun e => { e with val := val }) clock))
    | none => none
  | _, _ => none
def mdl (kd : TypeDesc) (m key : Value) (h : Hp) : Option (Value × Hp) :=
  match mkey m h with
  | some none => some (.tuple #[], h)
  | some (some (r, es, clock)) => match Instr.findNow kd key es.toList 0 with
    | some (some (i, _)) => some (.tuple #[], h.setIfInBounds r (.map (es.eraseIdxIfInBounds i) clock))
    | some none => some (.tuple #[], h.setIfInBounds r (.map es clock))
    | none => none
  | _ => none
def mmk (h : Hp) : Option (Value × Hp) := some (.map (some h.size), h.push (.map #[] 0))
def rng (m : Value) (h : Hp) : Option (Value × Hp) :=
  match mkey m h with
  | some none => some (.pointer (some ⟨h.size, 0, none⟩), h.push (.mapIter none 0 #[] 0))
  | some (some (r, _, clock)) => some (.pointer (some ⟨h.size, 0, none⟩), h.push (.mapIter (some r) clock #[] clock))
  | _ => none

/-- the entry at which a range over a map stands -/
def ent (it : Value) (h : Hp) : Option Value :=
  match it with
  | .pointer (some ⟨r, 0, _⟩) => match h[r]? with
    | some (.mapIter (some m) _ seen stepped) => match seen.back?, h[m]? with
      | some stamp, some (.map es clock) => match Nat.beq clock stepped, es.find? (·.born == stamp) with
        | true, some e => some (.tuple #[e.key, e.val])
        | _, _ => none
      | _, _ => none
    | _ => none
  | _ => none

/-- make([]T, l, c) -/
def msl (zero : Array Value) (size bytes : Nat) (e : TypeId) (l c : Value) (h : Hp) : Option (Value × Hp) :=
  match l, c with
  | .int .i64 l, .int .i64 c => if 0 ≤ l ∧ l ≤ c ∧ c ≤ 9223372036854775807 ∧ c * bytes ≤ 281474976710656 then
      some (.slice (some ⟨h.size, 0, none⟩) l.toNat c.toNat, h.push (.cells ((Array.range (c.toNat * size)).map (zero[· % zero.size]!)) e)) else none
  | _, _ => none

def rowOf (x : Value) (m : Nat) (h : Hp) : Option (List Value) :=
  match x with
  | .slice (some a) _ _ => rowFrom h a 0 m
  | .slice none _ _ => some []
  | _ => none
/-- copy -/
def cpy (size : Nat) (d s : Value) (h : Hp) : Option (Value × Hp) :=
  match d, s with
  | .slice base dLen _, .slice _ sLen _ =>
    (rowOf s (Nat.min sLen dLen * size) h).bind fun cells =>
      match base with
      | some a => (stores h a 0 cells).bind fun h' => some (.int .i64 (Nat.min sLen dLen : Nat), h')
      | none => some (.int .i64 (Nat.min sLen dLen : Nat), h)
  | _, _ => none

/-- clear(s) -/
def clrS (zero : Array Value) (x : Value) (h : Hp) : Option (Value × Hp) :=
  match x with
  | .slice none _ _ => some (.tuple #[], h)
  | .slice (some a) n _ => match n with
    | 0 => some (.tuple #[], h)
    | n + 1 => (stores h a 0 (Builtin.zeroCells zero (n + 1)).toList).bind fun h' => some (.tuple #[], h')
  | _ => none

/-! ### The kinds that a type has -/
inductive TK where
  | cell
  | agg (n : Nat)
  | bad
def tyk (P : Program) (t : TypeId) : TK :=
  match P.underlying t, P.info? t with
  | some (.struct _), some i => .agg i.size
  | some (.array ..), some i => .agg i.size
  | some _, some _ => .cell
  | _, _ => .bad
def ldT (k : TK) (p : Value) (h : Hp) : Option Value :=
  match k with
  | .cell => ldc p h
  | .agg n => lda n p h
  | .bad => none

/-- the cells of a type of integers and bools alone: an integer, or a bool -/
def appB : List Bool → List Bool → List Bool
  | [], e => e
  | x :: r, e => x :: appB r e
def repB (l : List Bool) : Nat → List Bool
  | 0 => []
  | n + 1 => appB l (repB l n)
def lenB : List Bool → Nat
  | [] => 0
  | _ :: r => lenB r + 1
def flatFs (P : Program) (flat : TypeId → Option (List Bool)) : List Field → Nat → Option (List Bool)
  | [], _ => some []
  | f :: r, off => match Nat.beq f.offset off, f.name == "_", flat f.type, P.info? f.type with
    | true, false, some l, some i => match Nat.beq i.size (lenB l), flatFs P flat r (off + lenB l) with
      | true, some l' => some (appB l l')
      | _, _ => none
    | _, _, _, _ => none
def flatT (P : Program) : Nat → TypeId → Option (List Bool)
  | 0, _ => none
  | d + 1, t => match P.underlying t with
    | some (.int _) => some [true]
    | some .bool => some [false]
    | some (.struct fs) => match P.stoodInHeld t, flatFs P (flatT P d) fs.toList 0, P.info? t with
      | false, some l, some i => match Nat.beq i.size (lenB l) with
        | true => some l
        | false => none
      | _, _, _ => none
    | some (.array len e) => match flatT P d e, P.info? e, P.info? t with
      | some l, some i, some j => match Nat.beq i.size (lenB l), Nat.beq j.size (lenB (repB l len)) with
        | true, true => some (repB l len)
        | _, _ => none
      | _, _, _ => none
    | _ => none

inductive EK where
  | plain | boolean | ptr | slc | map | fn | agg (l : List Bool) | bad
def eqk (P : Program) (t : TypeId) : EK :=
  match P.underlying t with
  | some (.int _) => .plain
  | some .bool => .boolean
  | some (.pointer _) => .ptr
  | some (.slice _) => .slc
  | some (.map _ _) => .map
  | some (.func ..) => .fn
  | some (.struct _) => match P.eqGuardType P.depth t, flatT P 5 t with
    | false, some l => .agg l
    | _, _ => .bad
  | some (.array _ _) => match P.eqGuardType P.depth t, flatT P 5 t with
    | false, some l => .agg l
    | _, _ => .bad
  | _ => .bad
def eqT (k : EK) (x y : Value) : Option Bool :=
  match k with
  | .boolean => eqB x y
  | .ptr => eqP x y
  | .slc => eqS x y
  | .map => eqM x y
  | .fn => eqF x y
  | .agg l => eqA l x y
  | .plain | .bad => none
def bnT (k : EK) (op : BinOp) (x y : Value) : Option Value :=
  match k, op with
  | .plain, op => bin op x y
  | k, .eql => pos? (eqT k x y)
  | k, .neq => neg? (eqT k x y)
  | _, _ => none

inductive CK where
  | int (k : IntKind)
  | bad
def cvk (P : Program) (src dst : TypeId) : CK :=
  match P.underlying src, P.underlying dst with
  | some (.int _), some (.int k) => .int k
  | _, _ => .bad
def cvT (c : CK) (x : Value) : Option Value :=
  match c with
  | .int k => cvi k x
  | .bad => none

inductive FK where
  | cell (off : Nat)
  | agg (off size : Nat)
  | bad
def fkk (P : Program) (s : TypeId) (f : Nat) : FK :=
  match P.underlying s with
  | some (.struct fs) => match fs[f]? with
    | some fd => match tyk P fd.type, P.info? fd.type with
      | .cell, some i => match i.size with
        | 0 => .bad
        | _ + 1 => .cell fd.offset
      | .agg (n + 1), _ => .agg fd.offset (n + 1)
      | _, _ => .bad
    | none => .bad
  | _ => .bad
def faT (k : FK) (p : Value) : Option Value :=
  match k with
  | .cell off | .agg off _ => fa off p
  | .bad => none
def fdT (k : FK) (x : Value) : Option Value :=
  match k with
  | .cell off => fdc off x
  | .agg off size => fda off size x
  | .bad => none

inductive IK where
  | slc (size : Nat)
  | arr (len size : Nat)
  | bad
def ixk (P : Program) (t : TypeId) : IK :=
  match P.underlying t with
  | some (.slice e) => match P.info? e with
    | some i => .slc i.size
    | none => .bad
  | some (.array n e) => match P.info? e with
    | some i => .arr n i.size
    | none => .bad
  | _ => .bad
def ixT (k : IK) (x i : Value) : Option Value :=
  match k with
  | .slc size => ixs size x i
  | .arr n size => ixa n size x i
  | .bad => none
def slT (k : IK) (x : Value) (lo hi mx : Option Value) : Option Value :=
  match k with
  | .slc size => slc size x lo hi mx
  | .arr n size => sla n size x lo hi mx
  | .bad => none

/-- an array value's elements -/
inductive JK where
  | cell (len size : Nat)
  | agg (len size : Nat)
  | str
  | bad
def idk (P : Program) (t : TypeId) : JK :=
  match P.underlying t with
  | some (.array n e) => match tyk P e, P.info? e with
    | .cell, some i => .cell n i.size
    | .agg s, some _ => .agg n s
    | _, _ => .bad
  | some .string => .str
  | _ => .bad
/-- a byte of a string -/
def idst (x i : Value) : Option Value :=
  match x, i with
  | .string s, .int _ n => (if 0 ≤ n then s[n.toNat]? else none).map fun b => .int .u8 b.toNat
  | _, _ => none
def idT (k : JK) (x i : Value) : Option Value :=
  match k with
  | .cell n s => idc n s x i
  | .agg n s => ida n s x i
  | .str => idst x i
  | .bad => none

inductive BK where
  | struct (places : List (Nat × Nat)) (zero : Array Value)
  | arr (size : Nat) (zero : Array Value)
  | bad
def placesOf (P : Program) : List Field → Option (List (Nat × Nat))
  | [] => some []
  | f :: r => (P.info? f.type).bind fun i => (placesOf P r).bind fun l => some ((f.offset, i.size) :: l)
def bdk (P : Program) (t : TypeId) : BK :=
  match P.info? t with
  | some i => match i.zero with
    | some z => match P.underlying t with
      | some (.struct fs) => match placesOf P fs.toList with
        | some ps => .struct ps z.cells
        | none => .bad
      | some (.array _ e) => match P.info? e with
        | some j => .arr j.size z.cells
        | none => .bad
      | _ => .bad
    | none => .bad
  | none => .bad
def bdT (k : BK) (parts : List (Nat × Value)) : Option Value :=
  match k with
  | .struct ps z => bldS ps z parts
  | .arr size z => bldA size z parts
  | .bad => none

/-- a map type with plain keys: the key's kind, the element's zero value -/
inductive MK where
  | ok (kd : TypeDesc) (zero : Value)
  | bad
def mpk (P : Program) (t : TypeId) : MK :=
  match P.underlying t with
  | some (.map k e) => match P.underlying k, P.info? e with
    | some (.int ik), some i => match i.zero with
      | some z => .ok (.int ik) z
      | none => .bad
    | _, _ => .bad
  | _ => .bad
def lkT (k : MK) (ok : Bool) (m key : Value) (h : Hp) : Option Value :=
  match k with
  | .ok kd z => lkm kd z ok m key h
  | .bad => none

inductive LK where
  | slc | map | bad
def lnk (P : Program) (t : TypeId) : LK :=
  match P.underlying t with
  | some (.slice _) => .slc
  | some (.map ..) => .map
  | _ => .bad
def lnT (k : LK) (x : Value) (h : Hp) : Option Value :=
  match k with
  | .slc => lnS x
  | .map => lnM x h
  | .bad => none

/-- an element type: its number, zero cells, cells, bytes -/
inductive XK where
  | ok (e : TypeId) (zero : Array Value) (size bytes : Nat)
  | bad
def elk (P : Program) (t : TypeId) : XK :=
  match P.underlying t with
  | some (.slice e) => match P.info? e with
    | some i => match i.zero with
      | some z => match Nat.beq z.cells.size i.size, Nat.blt 0 i.size with
        | true, true => .ok e z.cells i.size i.bytes
        | _, _ => .bad
      | none => .bad
    | none => .bad
  | _ => .bad
/-- a type's zero cells -/
def zrk (P : Program) (t : TypeId) : Option (Array Value) := (P.info? t).bind fun i => i.zero.bind fun z => some z.cells

end Go.En
