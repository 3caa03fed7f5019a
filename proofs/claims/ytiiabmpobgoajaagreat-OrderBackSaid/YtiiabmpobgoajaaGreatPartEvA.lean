/- The abstract machine: a pure evaluator of the model's code over a heap of abstract blocks (definitions only). -/
import Derived.Orders
import Derived.Below
import Derived.Laws.Sem
import Derived.Laws.World
import Derived.KernelRfl
set_option linter.all false
namespace Go.Ev
open Go

inductive Tree (α : Type) where
  | nil
  | node (l : Tree α) (v : Option α) (r : Tree α)

namespace Tree
variable {α : Type}

def get : Tree α → Nat → Option α
  | .nil, _ => none
  | .node l v r, n => cond (n.beq 0) v (cond ((n % 2).beq 1) (l.get (n / 2)) (r.get (n / 2 - 1)))

def set : Nat → Tree α → Nat → Option α → Tree α
  | 0, t, _, _ => t
  | k + 1, .nil, n, v =>
    cond (n.beq 0) (.node .nil v .nil) (cond ((n % 2).beq 1) (.node (set k .nil (n / 2) v) none .nil) (.node .nil none (set k .nil (n / 2 - 1) v)))
  | k + 1, .node l w r, n, v =>
    cond (n.beq 0) (.node l v r) (cond ((n % 2).beq 1) (.node (set k l (n / 2) v) w r) (.node l w (set k r (n / 2 - 1) v)))

def ofList (l : List (Nat × α)) : Tree α := l.foldl (fun t p => t.set (p.1.log2 + 2) p.1 (some p.2)) .nil
end Tree

/-- A block of the abstract heap. -/
inductive AObj where
  | cells (c : List Value) (elem : TypeId) (ro : Bool)
  | map (es : List MapEntry) (clock : Nat)

structure AHeap where
  next : Nat
  tree : Tree AObj

namespace AHeap
def get (H : AHeap) (b : Nat) : Option AObj := cond (b.blt H.next) (H.tree.get b) none
def set (H : AHeap) (b : Nat) (o : AObj) : AHeap := { H with tree := H.tree.set (b.log2 + 2) b (some o) }
def kill (H : AHeap) (b : Nat) : AHeap := { H with tree := H.tree.set (b.log2 + 2) b none }
def alloc (H : AHeap) (o : AObj) : AHeap := { next := H.next + 1, tree := H.tree.set (H.next.log2 + 2) H.next (some o) }
end AHeap

/-- What a type is underneath. -/
inductive TD where
  | bool | int (k : IntKind) | string
  | ptr (e : TypeId) | slice (e : TypeId) | array (n : Nat) (e : TypeId) | map (k e : TypeId)
  | struct (fs : List (TypeId × Nat × Nat))   -- type, offset, cells
  | iface | func | tuple | raw | other

structure TI where
  td : TD
  size : Nat
  bytes : Nat
  zero : Option Value

def TD.agg : TD → Bool
  | .struct _ | .array _ _ => true
  | _ => false

/-- How an operation of a region that draws its order stands. -/
inductive Cls where
  | read (lo hi : Nat)
  | eff
  | alloc

structure FI where
  fn : Func
  draws : List (Nat × List (Nat × Cls))

/-- A cell that can be compared. -/
inductive Leaf where
  | bool | int (k : IntKind) | str

structure Ctx where
  ty : Tree TI
  fn : Tree FI
  meth : List (TypeId × String × FuncId)
  eqs : List (TypeId × List Leaf)
  same : List FuncId
  sum : FuncId → Option (List Value → AHeap → Option (Value × AHeap))

def tdA (C : Ctx) (t : TypeId) : Option TD := (C.ty.get t).map fun ti => ti.td

abbrev Env := List (Option Value)

def atom : Value → Bool
  | .bool _ | .int _ _ | .string _ | .pointer none | .slice none _ _ | .map none | .nilFunc | .nilIface => true
  | _ => false

def plain : Value → Bool
  | .agg cs => cs.toList.all atom
  | v => atom v

def look (ρ : Env) : Operand → Option Value
  | .tmp t => (ρ[t]?).join
  | .const v => cond (plain v) (some v) none
  | .func f => some (.func (.func f) #[] #[])
  | .global _ => none

def put (ρ : Env) (d : Option Tmp) (v : Value) : Env :=
  match d with
  | some t => ρ.set t (some v)
  | none => ρ

def looks (ρ : Env) : List Operand → Option (List Value)
  | [] => some []
  | x :: xs => (look ρ x).bind fun v => (looks ρ xs).map (v :: ·)

def ldCells (H : AHeap) (b off n : Nat) : Option (List Value) :=
  match H.get b with
  | some (.cells c _ _) => cond ((off + n).ble c.length) (some ((c.drop off).take n)) none
  | _ => none

def splice (c : List Value) (off : Nat) (vs : List Value) : List Value := c.take off ++ vs ++ c.drop (off + vs.length)

def stCells (H : AHeap) (b off : Nat) (vs : List Value) : Option AHeap :=
  match H.get b with
  | some (.cells c e false) => cond ((off + vs.length).ble c.length && vs.all Value.oneCell') (some (H.set b (.cells (splice c off vs) e false))) none
  | _ => none

def mkVal (agg : Bool) (cs : List Value) : Option Value :=
  match agg, cs with
  | true, cs => some (.agg ⟨cs⟩)
  | false, [v] => some v
  | _, _ => none

def cellsOf (v : Value) : List Value := v.cells.toList

def loadV (C : Ctx) (H : AHeap) (t : TypeId) (p : Value) : Option Value :=
  match C.ty.get t, p with
  | some ti, .pointer (some ⟨b, off, none⟩) => (ldCells H b off ti.size).bind (mkVal ti.td.agg)
  | _, _ => none

def storeV (C : Ctx) (H : AHeap) (t : TypeId) (p v : Value) : Option AHeap :=
  match C.ty.get t, p with
  | some ti, .pointer (some ⟨b, off, none⟩) => cond ((cellsOf v).length.beq ti.size) (stCells H b off (cellsOf v)) none
  | _, _ => none

def nptr (b off : Nat) : Value := .pointer (some ⟨b, off, none⟩)

/-- The parts of a composite value laid into zero cells. -/
def fillA (place : Nat → Option (Nat × Nat)) (cells : List Value) : List (Nat × Value) → Option (List Value)
  | [] => some cells
  | (i, v) :: rest =>
    match place i with
    | none => none
    | some (off, size) =>
      cond ((cellsOf v).length.beq size && (off + (cellsOf v).length).ble cells.length) (fillA place (splice cells off (cellsOf v)) rest) none

def lookParts (ρ : Env) : List (Nat × Operand) → Option (List (Nat × Value))
  | [] => some []
  | (i, x) :: xs => (look ρ x).bind fun v => (lookParts ρ xs).map ((i, v) :: ·)

def repl (n : Nat) (z : List Value) : List Value :=
  match n with
  | 0 => []
  | n + 1 => z ++ repl n z

def zeroOf (C : Ctx) (t : TypeId) : Option (List Value) := (C.ty.get t).bind fun ti => ti.zero.bind fun z => cond (plain z) (some (cellsOf z)) none

def intBits (op : BinOp) (k : IntKind) (x y : Int) : Option Value :=
  let a := BitVec.ofInt k.bits x
  let b := BitVec.ofInt k.bits y
  match op with
  | .and => some (.int k (k.wrap (a &&& b).toNat))
  | .or => some (.int k (k.wrap (a ||| b).toNat))
  | .xor => some (.int k (k.wrap (a ^^^ b).toNat))
  | .andNot => some (.int k (k.wrap (a &&& ~~~b).toNat))
  | _ => none

def intBin (op : BinOp) (k : IntKind) (x y : Int) : Option Value :=
  match op with
  | .add => some (.int k (k.wrap (x + y)))
  | .sub => some (.int k (k.wrap (x - y)))
  | .mul => some (.int k (k.wrap (x * y)))
  | .quo => if y = 0 then none else some (.int k (k.wrap (x.tdiv y)))
  | .rem => if y = 0 then none else some (.int k (x.tmod y))
  | .eql => some (.bool (x == y))
  | .neq => some (.bool (x != y))
  | .lss => some (.bool (decide (x < y)))
  | .leq => some (.bool (decide (x ≤ y)))
  | .gtr => some (.bool (decide (x > y)))
  | .geq => some (.bool (decide (x ≥ y)))
  | op => intBits op k x y

def shiftA (op : BinOp) (k : IntKind) (x y : Int) : Option Value :=
  if y < 0 then none else
  let n := min y.toNat k.bits
  match op with
  | .shl => some (.int k (k.wrap (x * 2 ^ n)))
  | .shr => some (.int k (x.fdiv (2 ^ n)))
  | _ => none

def strBin (op : BinOp) (x y : ByteArray) : Option Value :=
  let eq := x.data.toList == y.data.toList
  let lt := Op.bytesLess x.data.toList y.data.toList
  match op with
  | .add => if ((x.size + y.size : Nat) : Int) > IntKind.i64.max then none else some (.string (x ++ y))
  | .eql => some (.bool eq)
  | .neq => some (.bool !eq)
  | .lss => some (.bool lt)
  | .leq => some (.bool (lt || eq))
  | .gtr => some (.bool !(lt || eq))
  | .geq => some (.bool !lt)
  | _ => none

def leafEq : Leaf → Value → Value → Option Bool
  | .bool, .bool a, .bool b => some (a == b)
  | .int k, .int i a, .int j b => if i = k ∧ j = k then some (a == b) else none
  | .str, .string a, .string b => some (a == b)
  | _, _, _ => none

def cellsEq : List Leaf → List Value → List Value → Option Bool
  | [], [], [] => some true
  | l :: ls, x :: xs, y :: ys => (leafEq l x y).bind fun a => (cellsEq ls xs ys).map fun b => a && b
  | _, _, _ => none

def leafIs : Leaf → Value → Bool
  | .bool, .bool _ => true
  | .int k, .int j _ => decide (j = k)
  | .str, .string _ => true
  | _, _ => false

def cellsAre : List Leaf → List Value → Bool
  | [], [] => true
  | l :: ls, x :: xs => leafIs l x && cellsAre ls xs
  | _, _ => false

def leavesIn (t : TypeId) : List (TypeId × List Leaf) → Option (List Leaf)
  | [] => none
  | (u, l) :: r => cond (u.beq t) (some l) (leavesIn t r)

def valEq (C : Ctx) (nilConst : Bool) (t : TypeId) (x y : Value) : Option Bool :=
  match tdA C t, x, y with
  | some .bool, .bool a, .bool b => some (a == b)
  | some (.ptr _), .pointer none, .pointer none => some true
  | some (.ptr _), .pointer none, .pointer (some _) => some false
  | some (.ptr _), .pointer (some _), .pointer none => some false
  | some (.ptr e), .pointer (some a), .pointer (some b) =>
    match C.ty.get e with
    | some ti => cond (a.block.beq b.block && a.spot.isNone && b.spot.isNone && !(ti.size.beq 0)) (some (a.off.beq b.off)) none
    | none => none
  | some (.slice _), .slice a _ _, .slice none _ _ => some a.isNone
  | some (.slice _), .slice none _ _, .slice (some _) _ _ => some false
  | some (.map _ _), .map a, .map none => some a.isNone
  | some (.map _ _), .map none, .map (some _) => some false
  | some .func, .nilFunc, .nilFunc => some true
  | some .func, .func _ _ _, .nilFunc => some false
  | some .func, .nilFunc, .func _ _ _ => some false
  | some .iface, .iface _ _, .nilIface => some false
  | some .iface, .nilIface, .iface _ _ => some false
  | some .iface, .nilIface, .nilIface => cond nilConst (some true) none
  | some (.struct _), .agg a, .agg b => (leavesIn t C.eqs).bind fun ls => cellsEq ls a.toList b.toList
  | some (.array _ _), .agg a, .agg b => (leavesIn t C.eqs).bind fun ls => cellsEq ls a.toList b.toList
  | _, _, _ => none

def binA (C : Ctx) (op : BinOp) (t : TypeId) (x y : Value) (nilConst : Bool) : Option Value :=
  match op, x, y with
  | .shl, .int k a, .int _ b => shiftA .shl k a b
  | .shr, .int k a, .int _ b => shiftA .shr k a b
  | op, .int k a, .int k' b => if k = k' then intBin op k a b else none
  | op, .string a, .string b => strBin op a b
  | .eql, x, y => (valEq C nilConst t x y).map fun b => .bool b
  | .neq, x, y => (valEq C nilConst t x y).map fun b => .bool !b
  | _, _, _ => none

def unA (op : UnOp) (x : Value) : Option Value :=
  match op, x with
  | .neg, .int k n => some (.int k (k.wrap (0 - n)))
  | .xor, .int k n => intBits .xor k (if k.signed then -1 else k.max) n
  | .not, .bool b => some (.bool !b)
  | _, _ => none

def idx (i : Value) : Option Int :=
  match i with
  | .int _ n => some n
  | _ => none

/-- Bytes of cells. -/
def bytesOf : List Value → Option (List UInt8)
  | [] => some []
  | .int .u8 n :: cs => if 0 ≤ n ∧ n < 256 then (bytesOf cs).map (UInt8.ofNat n.toNat :: ·) else none
  | _ => none

def convA (C : Ctx) (H : AHeap) (src dst : TypeId) (x : Value) : Option (Value × AHeap) :=
  match tdA C src, tdA C dst, x with
  | some (.int _), some (.int k), .int _ n => some (.int k (k.wrap n), H)
  | some .string, some .string, .string s => some (.string s, H)
  | some .string, some (.slice e), .string s =>
    match tdA C e with
    | some (.int .u8) => some (.slice (some ⟨H.next, 0, some 2⟩) s.size s.size, H.alloc (.cells (s.data.toList.map fun b => .int .u8 b.toNat) e false))
    | _ => none
  | some (.ptr e), some .raw, .pointer (some ⟨b, off, none⟩) =>
    match C.ty.get e, H.get b with
    | some ti, some (.cells c _ _) => cond (!(ti.size.beq 0) && off.blt c.length) (some (nptr b off, H)) none
    | _, _ => none
  | some .raw, some (.ptr e), .pointer (some ⟨b, off, none⟩) =>
    match C.ty.get e, H.get b with
    | some ti, some (.cells c e' false) => cond (!(ti.size.beq 0) && off.beq 0 && e'.beq e && ti.size.ble c.length) (some (nptr b off, H)) none
    | _, _ => none
  | some (.slice e), some .string, .slice none _ _ =>
    match tdA C e with
    | some (.int .u8) => some (.string .empty, H)
    | _ => none
  | some (.slice e), some .string, .slice (some a) l _ =>
    match tdA C e with
    | some (.int .u8) => ((ldCells H a.block a.off l).bind bytesOf).map fun bs => (.string ⟨bs.toArray⟩, H)
    | _ => none
  | _, _, _ => none

/-- The bounds of a cut: low, high, max. -/
def boundsA (len cap : Nat) (lo hi mx : Option Value) : Option (Nat × Nat × Nat) :=
  (match mx with
    | none => some cap
    | some v => (idx v).bind fun i => if 0 ≤ i ∧ i ≤ cap then some i.toNat else none).bind fun m =>
  (match hi with
    | none => cond mx.isNone (some len) none
    | some v => (idx v).bind fun i => if 0 ≤ i ∧ i ≤ m then some i.toNat else none).bind fun h =>
  (match lo with
    | none => some 0
    | some v => (idx v).bind fun i => if 0 ≤ i ∧ i ≤ h then some i.toNat else none).bind fun l =>
  some (l, h, m)

def cutSlice (e : Nat) (a : Addr) (len cap : Nat) (lo hi mx : Option Value) : Option Value :=
  match a.spot with
  | none => (boundsA len cap lo hi mx).bind fun (l, h, m) => some (.slice (some (cond (m.beq l) a ⟨a.block, a.off + l * e, none⟩)) (h - l) (m - l))
  | some s =>
    -- a slice that may grow: its end is known, its room is not
    cond (!s.beq (2 * e)) none <|
    match mx with
    | none =>
      (boundsA len len lo hi none).bind fun (l, h, _) =>
        cond (l.beq 0) (some (.slice (some a) h h)) <|
        cond (l.beq len) (some (.slice (some ⟨a.block, a.off, some (s + 1)⟩) 0 0)) <|
        some (.slice (some ⟨a.block, a.off + l * e, some s⟩) (h - l) (h - l))
    | some _ =>
      (boundsA len len lo hi mx).bind fun (l, h, m) =>
        some (.slice (some (cond (m.beq l) ⟨a.block, a.off, none⟩ ⟨a.block, a.off + l * e, none⟩)) (h - l) (m - l))

def sliceA (C : Ctx) (t : TypeId) (x : Value) (lo hi mx : Option Value) : Option Value :=
  match tdA C t, x with
  | some .string, .string s =>
    cond mx.isNone ((boundsA s.size s.size lo hi none).bind fun (l, h, _) => some (.string (s.extract l h))) none
  | some (.slice e), .slice none len cap =>
    (boundsA len cap lo hi mx).bind fun (l, h, m) => (C.ty.get e).bind fun _ => some (.slice none (h - l) (m - l))
  | some (.slice e), .slice (some a) len cap => (C.ty.get e).bind fun ti => cond (ti.size.beq 0) none (cutSlice ti.size a len cap lo hi mx)
  | some (.array n e), .pointer (some a) =>
    (C.ty.get e).bind fun ti => cond (a.spot.isNone && (!(ti.size.beq 0)) && mx.isNone) (cutSlice ti.size a n n lo hi mx) none
  | _, _ => none

def isAggV : Value → Bool
  | .agg _ => true
  | _ => false

/-- Where a key stands. -/
def findA (ls : List Leaf) (k : Value) : List MapEntry → Nat → Option (Option (Nat × Value))
  | [], _ => some none
  | e :: es, i => (cond (isAggV k == isAggV e.key) (cellsEq ls (cellsOf k) (cellsOf e.key)) none).bind fun
    | true => some (some (i, e.val))
    | false => findA ls k es (i + 1)

/-- How a key is compared, if it can be. -/
def keyOk (C : Ctx) (t : TypeId) (k : Value) : Option (List Leaf) :=
  (match tdA C t, k with
  | some (.int k), .int _ _ => some [Leaf.int k]
  | some .string, .string _ => some [Leaf.str]
  | some (.struct _), .agg _ => leavesIn t C.eqs
  | _, _ => none).bind fun ls => cond (cellsAre ls (cellsOf k)) (some ls) none

def lookupA (C : Ctx) (H : AHeap) (t : TypeId) (m k : Value) (ok : Bool) : Option Value :=
  match tdA C t, m with
  | some (.map kt et), .map r =>
    (keyOk C kt k).bind fun ls =>
    ((match r with
        | none => some []
        | some r => match H.get r with
          | some (.map es _) => some es
          | _ => none).bind fun es => findA ls k es 0).bind fun f =>
        (match f with
          | some (_, v) => some (v, true)
          | none => (C.ty.get et).bind fun ti => ti.zero.bind fun z => cond (plain z) (some (z, false)) none).map fun (v, b) => cond ok (.tuple #[v, .bool b]) v
  | _, _ => none

def updA (C : Ctx) (H : AHeap) (t : TypeId) (m k v : Value) : Option AHeap :=
  match tdA C t, m with
  | some (.map kt _), .map (some r) =>
    (keyOk C kt k).bind fun ls =>
      match H.get r with
        | some (.map es clock) => (findA ls k es 0).map fun
          | some (i, _) => H.set r (.map (es.modify i fun e => { e with key := k, val := v }) clock)
          | none => H.set r (.map (es ++ [{ key := k, val := v, born := clock }]) (clock + 1))
        | _ => none
  | _, _ => none

def delA (C : Ctx) (H : AHeap) (t : TypeId) (m k : Value) : Option AHeap :=
  match tdA C t, m with
  | some (.map kt _), .map (some r) =>
    (keyOk C kt k).bind fun ls =>
      match H.get r with
        | some (.map es clock) => (findA ls k es 0).map fun
          | some (i, _) => H.set r (.map (es.eraseIdx i) clock)
          | none => H.set r (.map es clock)
        | _ => none
  | _, _ => none

def entA (C : Ctx) (H : AHeap) (t : TypeId) (m k : Value) : Option (Value × AHeap) :=
  match tdA C t, m with
  | some (.map kt et), .map (some r) =>
    (keyOk C kt k).bind fun ls =>
      match H.get r with
        | some (.map es clock) => (findA ls k es 0).bind fun
          | some (i, v) => some (.tuple #[v, .int .i64 (((es[i]?).map (·.born)).getD 0 : Nat)], H.set r (.map (es.modify i fun e => { e with key := k }) clock))
          | none => (C.ty.get et).bind fun ti => ti.zero.bind fun z => cond (plain z)
              (some (.tuple #[z, .int .i64 (clock : Nat)], H.set r (.map (es ++ [{ key := k, val := z, born := clock }]) (clock + 1)))) none
        | _ => none
  | _, _ => none

def entStA (H : AHeap) (m s v : Value) : Option AHeap :=
  match m, s with
  | .map (some r), .int _ born =>
    match H.get r with
    | some (.map es clock) => (es.findIdx? fun e => (e.born : Int) == born).map fun i => H.set r (.map (es.modify i fun e => { e with val := v }) clock)
    | _ => none
  | _, _ => none

/-- The cells of a slice, as what is appended or copied. -/
def rowOf (C : Ctx) (H : AHeap) (e : Nat) (n : Nat) : Value → Option (List Value)
  | .slice none _ _ => some []
  | .slice (some a) _ _ => cond (n.beq 0) (some []) (ldCells H a.block a.off (n * e))
  | .string s => some ((s.data.toList.take n).map fun b => .int .u8 b.toNat)
  | _ => none

def lenA : Value → Option Nat
  | .slice _ n _ => some n
  | .string s => some s.size
  | _ => none

def appendA (C : Ctx) (H : AHeap) (t : TypeId) (s x : Value) : Option (Value × AHeap) :=
  match tdA C t, s with
  | some (.slice et), .slice base len cap =>
    (C.ty.get et).bind fun ti =>
    cond (ti.size.beq 0 || ti.bytes.beq 0) none <|
    (lenA x).bind fun n =>
    (zeroOf C et).bind fun z =>
    cond (!(z.length.beq ti.size)) none <|
    cond ((2 ^ 47 : Nat).ble ((2 * (len + n) + 1024) * ti.bytes)) none <|
    cond (n.beq 0) (cond (len.ble cap) (some (s, H)) none) <|
    (rowOf C H ti.size n x).bind fun new =>
    cond (!(new.all Value.oneCell' && new.length.beq (n * ti.size))) none <|
    match base with
    | none => cond (len.beq 0 && cap.beq 0) (some (.slice (some ⟨H.next, 0, some (2 * ti.size)⟩) n n, H.alloc (.cells new et false))) none
    | some a =>
      match a.spot with
      | none =>
        cond ((len + n).ble cap)
          ((stCells H a.block (a.off + len * ti.size) new).map fun H' => (.slice base (len + n) cap, H'))
          ((cond (len.beq 0) (some []) (ldCells H a.block a.off (len * ti.size))).bind fun old =>
            some (.slice (some ⟨H.next, 0, some (2 * ti.size)⟩) (len + n) (len + n), H.alloc (.cells (old ++ new) et false)))
      | some sp =>
        cond (sp.beq (2 * ti.size) && a.off.beq 0)
          (match H.get a.block with
            | some (.cells c e' false) =>
              cond ((len * ti.size).ble c.length && e'.beq et)
                (some (.slice (some ⟨H.next, 0, some sp⟩) (len + n) (len + n), (H.kill a.block).alloc (.cells (c.take (len * ti.size) ++ new) et false))) none
            | _ => none) none
  | _, _ => none

def copyA (C : Ctx) (H : AHeap) (t : TypeId) (d s : Value) : Option (Value × AHeap) :=
  match tdA C t, d with
  | some (.slice et), .slice base len _ =>
    (C.ty.get et).bind fun ti =>
    cond (ti.size.beq 0) none <|
    (lenA s).bind fun n0 =>
    let n := Nat.min n0 len
    (rowOf C H ti.size n s).bind fun new =>
    match base with
    | none => cond (n.beq 0) (some (.int .i64 0, H)) none
    | some a => cond (n.beq 0) (some (.int .i64 0, H)) ((stCells H a.block a.off new).map fun H' => (.int .i64 n, H'))
  | _, _ => none

def minMax (mx : Bool) : Value → List Value → Option Value
  | x, [] => some x
  | .int k x, .int k' y :: rest => cond (decide (k = k')) (minMax mx (.int k (if mx then (if y > x then y else x) else (if y < x then y else x))) rest) none
  | _, _ => none

inductive OpRes where
  | val (v : Value) (H : AHeap)
  | call (f : FuncId) (args : List Value)

def retV (H : AHeap) (v : Option Value) : Option OpRes := v.map fun v => .val v H
def retH (H : Option AHeap) : Option OpRes := H.map fun H => .val undef H
def retVH (r : Option (Value × AHeap)) : Option OpRes := r.map fun r => .val r.1 r.2

def methA (C : Ctx) (t : TypeId) (name : String) : Option FuncId := (C.meth.find? fun m => m.1.beq t && m.2.1 == name).map (·.2.2)

def known (C : Ctx) (f : FuncId) : Bool := (C.fn.get f).isSome || C.same.contains f

def toCall (C : Ctx) (f : FuncId) (args : List Value) : Option OpRes := cond (known C f) (some (.call f args)) none

def callA (C : Ctx) (ρ : Env) (c : Call) : Option OpRes :=
  match c.callee with
  | .value f => (look ρ f).bind fun fv => (looks ρ c.args.toList).bind fun args =>
    match fv with
    | .func (.func f) first cap => toCall C f (first.toList ++ args ++ cap.toList)
    | .func (.method name) first _ =>
      match first.toList ++ args with
      | .iface t v :: rest => (methA C t name).bind fun f => toCall C f (v :: rest)
      | _ => none
    | _ => none
  | .invoke r name => (look ρ r).bind fun rv => (looks ρ c.args.toList).bind fun args =>
    match rv with
    | .iface t v => (methA C t name).bind fun f => toCall C f (v :: args)
    | _ => none
  | .builtin _ => none

def builtinA (C : Ctx) (ρ : Env) (H : AHeap) (b : Builtin) (ts : Array TypeId) (args : Array Operand) : Option OpRes :=
  (looks ρ args.toList).bind fun vs =>
  match b, vs with
  | .len, [x] =>
    match ((ts[0]?).bind fun t => tdA C t), x with
    | some .string, .string s => some (.val (.int .i64 (s.size : Nat)) H)
    | some (.array n _), _ => some (.val (.int .i64 (n : Nat)) H)
    | some (.ptr a), _ =>
      match tdA C a with
      | some (.array n _) => some (.val (.int .i64 (n : Nat)) H)
      | _ => none
    | some (.slice _), .slice _ n _ => some (.val (.int .i64 (n : Nat)) H)
    | some (.map _ _), .map none => some (.val (.int .i64 0) H)
    | some (.map _ _), .map (some r) =>
      match H.get r with
      | some (.map es _) => some (.val (.int .i64 (es.length : Nat)) H)
      | _ => none
    | _, _ => none
  | .cap, [.slice (some ⟨_, _, none⟩) _ c] =>
    match ((ts[0]?).bind fun t => tdA C t) with
    | some (.slice _) => some (.val (.int .i64 (c : Nat)) H)
    | _ => none
  | .append, [s, x] => (ts[0]?).bind fun t => (ts[1]?).bind fun t1 =>
    match tdA C t1 with
    | some (.slice _) => retVH (appendA C H t s x)
    | some .string => retVH (appendA C H t s x)
    | _ => none
  | .copy, [d, s] => (ts[0]?).bind fun t => retVH (copyA C H t d s)
  | .delete, [m, k] => (ts[0]?).bind fun t => (delA C H t m k).map fun H' => .val (.tuple #[]) H'
  | .max, x :: xs => retV H (minMax true x xs)
  | .min, x :: xs => retV H (minMax false x xs)
  | .unsafeSliceData, [.slice (some a) n k] =>
    cond (n.beq 0 || k.beq 0 || (a.spot.any fun s => (s % 2).beq 1)) none (some (.val (.pointer (some ⟨a.block, a.off, none⟩)) H))
  | .unsafeString, [.pointer (some ⟨b, 0, none⟩), .int .i64 n] =>
    if n ≤ 0 ∨ n > 9223372036854775807 then none else
    match H.get b, ts.toList with
    | some (.cells c e false), [t, _] =>
      match tdA C t, C.ty.get e with
      | some (.ptr e0), some ti =>
        cond (n.toNat.ble c.length && e0.beq e && ti.size.beq 1)
          ((bytesOf (c.take n.toNat)).map fun bs => .val (.string ⟨bs.toArray⟩) (H.kill b)) none
      | _, _ => none
    | _, _ => none
  | _, _ => none

def isConst : Operand → Bool
  | .const _ => true
  | _ => false

def opEval (C : Ctx) (ρ : Env) (H : AHeap) (o : Oper) : Option OpRes :=
  match o.op with
  | .move x => retV H (look ρ x)
  | .assign x => retV H (look ρ x)
  | .pick c a b => (look ρ c).bind fun
    | .bool true => retV H (look ρ a)
    | .bool false => retV H (look ρ b)
    | _ => none
  | .alloc e => (zeroOf C e).map fun z => .val (nptr H.next 0) (H.alloc (.cells z e false))
  | .box e x => (look ρ x).map fun v => .val (nptr H.next 0) (H.alloc (.cells (cellsOf v) e false))
  | .build t parts =>
    match C.ty.get t with
    | some ⟨.struct fs, _, _, _⟩ => (zeroOf C t).bind fun z => (lookParts ρ parts.toList).bind fun ps =>
        retV H ((fillA (fun i => (fs[i]?).map fun f => f.2) z ps).map fun cs => .agg ⟨cs⟩)
    | some ⟨.array _ e, _, _, _⟩ => (zeroOf C t).bind fun z => (C.ty.get e).bind fun ti => (lookParts ρ parts.toList).bind fun ps =>
        retV H ((fillA (fun i => some (i * ti.size, ti.size)) z ps).map fun cs => .agg ⟨cs⟩)
    | _ => none
  | .buildSlice t len parts =>
    match C.ty.get t with
    | some ⟨.slice e, _, _, _⟩ => (C.ty.get e).bind fun ti => (zeroOf C e).bind fun z => (lookParts ρ parts.toList).bind fun ps =>
        cond (z.length.beq ti.size && !(ti.size.beq 0) && (len * ti.size).ble (2 ^ 24))
          ((fillA (fun i => some (i * ti.size, ti.size)) (repl len z) ps).map fun cs => .val (.slice (some ⟨H.next, 0, none⟩) len len) (H.alloc (.cells cs e false))) none
    | _ => none
  | .load t x => (look ρ x).bind fun p => retV H (loadV C H t p)
  | .store t x y => (look ρ x).bind fun p => (look ρ y).bind fun v => retH (storeV C H t p v)
  | .nilCheck x => (look ρ x).bind fun
    | .pointer (some a) => some (.val (.pointer (some a)) H)
    | .iface t v => some (.val (.iface t v) H)
    | .func (.func f) a b => some (.val (.func (.func f) a b) H)
    | .func (.method name) first cap =>
      match first.toList with
      | [.iface t _] => (methA C t name).map fun _ => .val (.func (.method name) first cap) H
      | _ => none
    | _ => none
  | .binOp op t x y _ => (look ρ x).bind fun a => (look ρ y).bind fun b => retV H (binA C op t a b (isConst x || isConst y))
  | .unOp op _ x => (look ρ x).bind fun a => retV H (unA op a)
  | .convert s d x => (look ρ x).bind fun a => retVH (convA C H s d a)
  | .makeInterface t x =>
    match tdA C t with
    | some .iface => none
    | none => none
    | some _ => (look ρ x).map fun v => .val (.iface t v) H
  | .makeFunc fn first cap =>
    match fn with
    | .func f => (looks ρ first.toList).bind fun a => (looks ρ cap.toList).map fun b => .val (.func (.func f) ⟨a⟩ ⟨b⟩) H
    | .method n => (looks ρ first.toList).bind fun a => (looks ρ cap.toList).map fun b => .val (.func (.method n) ⟨a⟩ ⟨b⟩) H
    | _ => none
  | .makeMap t none =>
    match tdA C t with
    | some (.map _ _) => some (.val (.map (some H.next)) (H.alloc (.map [] 0)))
    | _ => none
  | .makeSlice t l c =>
    match tdA C t with
    | some (.slice e) => (C.ty.get e).bind fun ti => (zeroOf C e).bind fun z => (look ρ l).bind fun lv => (look ρ c).bind fun cv => (idx lv).bind fun l => (idx cv).bind fun c =>
        if 0 ≤ l ∧ l ≤ c ∧ c < 2 ^ 47 ∧ ti.bytes * c ≤ 2 ^ 47 ∧ ti.size ≠ 0 ∧ z.length = ti.size then
          some (.val (.slice (some ⟨H.next, 0, none⟩) l.toNat c.toNat) (H.alloc (.cells (repl c.toNat z) e false)))
        else none
    | _ => none
  | .slice t x lo hi mx => (look ρ x).bind fun v => (looks ρ (lo.toList)).bind fun a => (looks ρ hi.toList).bind fun b => (looks ρ mx.toList).bind fun c =>
      retV H (sliceA C t v a.head? b.head? c.head?)
  | .fieldAddr s x f => (look ρ x).bind fun v =>
    match C.ty.get s, v with
    | some ⟨.struct fs, _, _, _⟩, .pointer (some ⟨b, off, none⟩) =>
      match fs[f]? with
      | some (_, o, sz) => cond (sz.beq 0) none (some (.val (nptr b (off + o)) H))
      | none => none
    | _, _ => none
  | .field s x f => (look ρ x).bind fun v =>
    match C.ty.get s, v with
    | some ⟨.struct fs, _, _, _⟩, .agg cs =>
      match fs[f]? with
      | some (ft, o, sz) => (C.ty.get ft).bind fun ti => cond ((o + sz).ble cs.size && sz.beq ti.size) (retV H (mkVal ti.td.agg ((cs.toList.drop o).take sz))) none
      | none => none
    | _, _ => none
  | .indexAddr t x i => (look ρ x).bind fun v => (look ρ i).bind fun iv => (idx iv).bind fun n =>
    match tdA C t, v with
    | some (.array len e), .pointer (some ⟨b, off, none⟩) => (C.ty.get e).bind fun ti =>
        if 0 ≤ n ∧ n < len then some (.val (nptr b (off + n.toNat * ti.size)) H) else none
    | some (.slice e), .slice (some a) len _ => (C.ty.get e).bind fun ti =>
        if 0 ≤ n ∧ n < len then some (.val (nptr a.block (a.off + n.toNat * ti.size)) H) else none
    | _, _ => none
  | .index t x i => (look ρ x).bind fun v => (look ρ i).bind fun iv => (idx iv).bind fun n =>
    match tdA C t, v with
    | some (.array len e), .agg cs => (C.ty.get e).bind fun ti =>
        if 0 ≤ n ∧ n < len ∧ (n.toNat + 1) * ti.size ≤ cs.size then retV H (mkVal ti.td.agg ((cs.toList.drop (n.toNat * ti.size)).take ti.size)) else none
    | some .string, .string s =>
        if 0 ≤ n then (s.data.toList[n.toNat]?).map fun b => .val (.int .u8 b.toNat) H else none
    | _, _ => none
  | .lookup t m k ok => (look ρ m).bind fun mv => (look ρ k).bind fun kv => retV H (lookupA C H t mv kv ok)
  | .mapUpdate t m k x => (look ρ m).bind fun mv => (look ρ k).bind fun kv => (look ρ x).bind fun v => retH (updA C H t mv kv v)
  | .insert t m k x => (look ρ m).bind fun mv => (look ρ k).bind fun kv => (look ρ x).bind fun v => retH (updA C H t mv kv v)
  | .mapEntry t m k => (look ρ m).bind fun mv => (look ρ k).bind fun kv => retVH (entA C H t mv kv)
  | .entryStore _ m s x => (look ρ m).bind fun mv => (look ρ s).bind fun sv => (look ρ x).bind fun v => retH (entStA H mv sv v)
  | .extract x i => (look ρ x).bind fun
    | .tuple vs => retV H (vs.toList[i]?)
    | _ => none
  | .call c =>
    match c.callee with
    | .builtin b => builtinA C ρ H b c.argTypes c.args
    | _ => callA C ρ c
  | _ => none

inductive Ex where
  | normal
  | exit (id : Nat)
  | ret

abbrev Fun := FuncId → List Value → AHeap → Option (Value × AHeap)

/-- Whether an operation runs: its guard. -/
def wantedA (ops : Array Oper) (ρ : Env) (o : Oper) : Option Bool :=
  match o.guard with
  | none => some true
  | some (j, want) =>
    match (ops.toList[j]?).bind (·.dst) with
    | some d => match (ρ[d]?).join with
      | some (.bool b) => some (b == want)
      | _ => none
    | none => none

/-- What an operation gives, and the heap behind it. -/
def stepV (C : Ctx) (call : Fun) (ops : Array Oper) (o : Oper) (ρ : Env) (H : AHeap) : Option (Value × AHeap) :=
  (wantedA ops ρ o).bind fun
  | false => some (undef, H)
  | true => (opEval C ρ H o).bind fun
    | .val v H' => some (v, H')
    | .call f args => call f args H

def evOps (C : Ctx) (call : Fun) (ops : Array Oper) : List Oper → Env → AHeap → Option (Env × AHeap)
  | [], ρ, H => some (ρ, H)
  | o :: os, ρ, H => (stepV C call ops o ρ H).bind fun r => evOps C call ops os (put ρ o.dst r.1) r.2

mutual
def same : Value → Value → Bool
  | .bool a, .bool b => a == b
  | .int k a, .int j b => decide (k = j) && a == b
  | .string a, .string b => decide (a = b)
  | .pointer a, .pointer b => decide (a = b)
  | .slice a l c, .slice b m d => decide (a = b) && l == m && c == d
  | .map a, .map b => decide (a = b)
  | .func f ⟨a⟩ ⟨c⟩, .func g ⟨b⟩ ⟨d⟩ => decide (f = g) && sameL a b && sameL c d
  | .nilFunc, .nilFunc => true
  | .iface t v, .iface u w => t == u && same v w
  | .nilIface, .nilIface => true
  | .agg ⟨a⟩, .agg ⟨b⟩ => sameL a b
  | .tuple ⟨a⟩, .tuple ⟨b⟩ => sameL a b
  | _, _ => false
def sameL : List Value → List Value → Bool
  | [], [] => true
  | x :: xs, y :: ys => same x y && sameL xs ys
  | _, _ => false
end

/-- Whether a read gives this, too, in another heap. -/
def readAt (C : Ctx) (ops : Array Oper) (ρ : Env) (o : Oper) (v : Value) (H : AHeap) : Bool :=
  match wantedA ops ρ o with
  | some false => true
  | some true =>
    match opEval C ρ H o with
    | some (.val u _) => same u v
    | _ => false
  | none => false

/-- An operation of a drawn region as the canonical order made it. -/
structure Ent where
  i : Nat
  o : Oper
  c : Cls
  ρ : Env
  H : AHeap
  v : Value
  H' : AHeap

def drRun (C : Ctx) (call : Fun) (ops : Array Oper) : List (Nat × Cls) → Env → AHeap → Option (List Ent × Env × AHeap)
  | [], ρ, H => some ([], ρ, H)
  | (i, c) :: is, ρ, H => (ops.toList[i]?).bind fun o => (stepV C call ops o ρ H).bind fun r =>
      (drRun C call ops is (put ρ o.dst r.1) r.2).map fun d => (⟨i, o, c, ρ, H, r.1, r.2⟩ :: d.1, d.2)

/-- The heaps ahead of each effect, and the last one. -/
def phases : List Ent → AHeap → List AHeap
  | [], Hf => [Hf]
  | e :: es, Hf =>
    match e.c with
    | .eff => e.H :: phases es Hf
    | _ => phases es Hf

def stable (C : Ctx) (ops : Array Oper) (hs : List AHeap) (e : Ent) : Bool :=
  match e.c with
  | .read lo hi => ((hs.drop lo).take (hi + 1 - lo)).all (readAt C ops e.ρ e.o e.v)
  | _ => true

def evDraw (C : Ctx) (call : Fun) (ops : Array Oper) (items : List (Nat × Cls)) (ρ : Env) (H : AHeap) : Option (Env × AHeap) :=
  (drRun C call ops items ρ H).bind fun d => cond (d.1.all (stable C ops (phases d.1 d.2.2))) (some d.2) none

def loopN (f : Env → AHeap → Option (Ex × Env × AHeap)) : Nat → Env → AHeap → Option (Ex × Env × AHeap)
  | 0, _, _ => none
  | n + 1, ρ, H => (f ρ H).bind fun
    | (.normal, ρ', H') => loopN f n ρ' H'
    | r => some r

def assoc (id : Nat) : List (Nat × List (Nat × Cls)) → Option (List (Nat × Cls))
  | [] => none
  | (i, x) :: l => cond (i.beq id) (some x) (assoc id l)

def evCode (C : Ctx) (dr : List (Nat × List (Nat × Cls))) (call : Fun) (lp : (Env → AHeap → Option (Ex × Env × AHeap)) → Env → AHeap → Option (Ex × Env × AHeap)) :
    Code → Env → AHeap → Option (Ex × Env × AHeap)
  | .skip, ρ, H => some (.normal, ρ, H)
  | .region _ ops false, ρ, H => (evOps C call ops ops.toList ρ H).map fun r => (.normal, r.1, r.2)
  | .region id ops true, ρ, H => (assoc id dr).bind fun items => (evDraw C call ops items ρ H).map fun r => (.normal, r.1, r.2)
  | .seq a b, ρ, H => (evCode C dr call lp a ρ H).bind fun
    | (.normal, ρ', H') => evCode C dr call lp b ρ' H'
    | r => some r
  | .cond c a b, ρ, H => (look ρ c).bind fun
    | .bool true => evCode C dr call lp a ρ H
    | .bool false => evCode C dr call lp b ρ H
    | _ => none
  | .block id b, ρ, H => (evCode C dr call lp b ρ H).map fun
    | (.exit i, ρ', H') => cond (i.beq id) (.normal, ρ', H') (.exit i, ρ', H')
    | r => r
  | .loop b, ρ, H => lp (evCode C dr call lp b) ρ H
  | .exit id, ρ, H => some (.exit id, ρ, H)
  | .ret, ρ, H => some (.ret, ρ, H)
  | _, _, _ => none

def resOf (C : Ctx) (ρ : Env) (H : AHeap) : ResultVar → Option Value
  | .tmp t => (ρ[t]?).join
  | .cell a t => ((ρ[a]?).join).bind (loadV C H t)

def resAll (C : Ctx) (ρ : Env) (H : AHeap) : List ResultVar → Option (List Value)
  | [] => some []
  | r :: rs => (resOf C ρ H r).bind fun v => (resAll C ρ H rs).map (v :: ·)

def resV (C : Ctx) (fn : Func) (ρ : Env) (H : AHeap) : Option Value :=
  (resAll C ρ H fn.results.toList).map fun
  | [v] => v
  | vs => .tuple ⟨vs⟩

def mkEnv (n : Nat) (args : List Value) : Env := args.map some ++ List.replicate (n - args.length) (some undef)

def body (C : Ctx) (call : Fun) (lp : (Env → AHeap → Option (Ex × Env × AHeap)) → Env → AHeap → Option (Ex × Env × AHeap)) (fi : FI) (args : List Value) (H : AHeap) : Option (Value × AHeap) :=
  match fi.fn.body with
  | none => none
  | some c => (evCode C fi.draws call lp c (mkEnv fi.fn.ntmps args) H).bind fun
    | (.exit _, _, _) => none
    | (_, ρ, H') => (resV C fi.fn ρ H').map fun v => (v, H')

def run (C : Ctx) : Nat → Fun
  | 0, _, _, _ => none
  | n + 1, f, args, H =>
    match C.sum f with
    | some s => s args H
    | none =>
      cond (C.same.contains f) (match args with | [v] => some (v, H) | _ => none) <|
      match C.fn.get f with
      | none => none
      | some fi => body C (run C n) (fun g => loopN g n) fi args H

end Go.Ev

namespace Go.Ev
open Go Go.RowKit

theorem beq_false {a b : Nat} (h : ¬ a = b) : a.beq b = false := Bool.eq_false_iff.2 fun e => h (Nat.eq_of_beq_eq_true e)
theorem beq_true {a b : Nat} (h : a.beq b = true) : a = b := Nat.eq_of_beq_eq_true h
theorem ble_true {a b : Nat} (h : a.ble b = true) : a ≤ b := Nat.le_of_ble_eq_true h
theorem blt_true {a b : Nat} (h : a.blt b = true) : a < b := Nat.le_of_ble_eq_true h
theorem blt_false {a b : Nat} (h : ¬ a < b) : a.blt b = false := Bool.eq_false_iff.2 fun e => h (blt_true e)

namespace Tree
variable {α : Type}

theorem get_set : ∀ (k : Nat) (t : Tree α) (n m : Nat) (v : Option α), n + 1 < 2 ^ k → (t.set k n v).get m = if m = n then v else t.get m := by
  intro k
  induction k with
  | zero => intro t n m v h; simp at h
  | succ k ih =>
    intro t n m v h
    have key : ∀ (l r : Tree α) (w : Option α), (Tree.get (cond (n.beq 0) (Tree.node l v r) (cond ((n % 2).beq 1) (.node (set k l (n / 2) v) w r) (.node l w (set k r (n / 2 - 1) v)))) m) =
        if m = n then v else Tree.get (.node l (if n = 0 then none else w) r) m := by
      intro l r w
      by_cases h0 : n = 0
      · subst h0
        by_cases hm : m = 0
        · subst hm; simp [Tree.get]
        · simp only [Nat.beq_refl, cond_true, if_neg hm, Tree.get]
          have : m.beq 0 = false := beq_false hm
          simp [this]
      · have hb : n.beq 0 = false := beq_false h0
        by_cases ho : n % 2 = 1
        · have hb2 : (n % 2).beq 1 = true := by simp [ho]
          simp only [hb, hb2, cond_false, cond_true, if_neg h0, Tree.get]
          have ihl := ih l (n / 2) (m / 2) v (by rw [Nat.pow_succ] at h; omega)
          by_cases hm0 : m = 0
          · subst hm0; simp [Ne.symm h0]
          · have hmb : m.beq 0 = false := beq_false hm0
            by_cases hmo : m % 2 = 1
            · have hmb2 : (m % 2).beq 1 = true := by simp [hmo]
              simp only [hmb, hmb2, cond_false, cond_true, ihl]
              by_cases e : m = n
              · simp [e]
              · rw [if_neg e, if_neg (by omega)]
            · have hmb2 : (m % 2).beq 1 = false := beq_false hmo
              simp only [hmb, hmb2, cond_false]
              rw [if_neg (by rintro rfl; exact hmo ho)]
        · have hb2 : (n % 2).beq 1 = false := beq_false ho
          simp only [hb, hb2, cond_false, if_neg h0, Tree.get]
          have ihr := ih r (n / 2 - 1) (m / 2 - 1) v (by rw [Nat.pow_succ] at h; omega)
          by_cases hm0 : m = 0
          · subst hm0; simp [Ne.symm h0]
          · have hmb : m.beq 0 = false := beq_false hm0
            by_cases hmo : m % 2 = 1
            · have hmb2 : (m % 2).beq 1 = true := by simp [hmo]
              simp only [hmb, hmb2, cond_false, cond_true]
              rw [if_neg (by rintro rfl; exact ho hmo)]
            · have hmb2 : (m % 2).beq 1 = false := beq_false hmo
              simp only [hmb, hmb2, cond_false, ihr]
              by_cases e : m = n
              · simp [e]
              · rw [if_neg e, if_neg (by omega)]
    cases t with
    | nil =>
      have := key .nil .nil none
      simp only [Tree.set]
      rw [this]
      by_cases e : m = n
      · simp [e]
      · simp only [if_neg e, Tree.get]
        cases m.beq 0 <;> cases (m % 2).beq 1 <;> simp
    | node l w r =>
      have := key l r w
      simp only [Tree.set]
      rw [this]
      by_cases e : m = n
      · simp [e]
      · simp only [if_neg e, Tree.get]
        by_cases h0 : n = 0
        · have hmb : m.beq 0 = false := beq_false (by rw [← h0]; exact e)
          simp [hmb]
        · simp [h0]

theorem get_set' (t : Tree α) (n m : Nat) (v : Option α) : (t.set (n.log2 + 2) n v).get m = if m = n then v else t.get m :=
  get_set _ t n m v (by
    have := @Nat.lt_log2_self n
    have e : 2 ^ (n.log2 + 2) = 2 * 2 ^ (n.log2 + 1) := by rw [Nat.pow_succ, Nat.mul_comm]
    rw [e]; omega)
end Tree

namespace AHeap
variable (H : AHeap) (b c : Nat) (o : AObj)
theorem get_def : H.get b = if b < H.next then H.tree.get b else none := by
  unfold AHeap.get
  by_cases h : b < H.next
  · have : b.blt H.next = true := by simpa using h
    rw [this, if_pos h]; rfl
  · have : b.blt H.next = false := blt_false h
    rw [this, if_neg h]; rfl

theorem lt_of_get {H : AHeap} {b : Nat} {o : AObj} (h : H.get b = some o) : b < H.next := by
  rw [get_def] at h
  by_cases hb : b < H.next
  · exact hb
  · simp [hb] at h

theorem get_ge (h : H.next ≤ b) : H.get b = none := by rw [get_def, if_neg (by omega)]

@[simp] theorem next_set : (H.set b o).next = H.next := rfl
@[simp] theorem next_kill : (H.kill b).next = H.next := rfl
@[simp] theorem next_alloc : (H.alloc o).next = H.next + 1 := rfl

theorem get_alloc : (H.alloc o).get b = if b = H.next then some o else H.get b := by
  simp only [get_def, alloc, Tree.get_set']
  by_cases h : b = H.next
  · subst h; simp
  · by_cases h2 : b < H.next
    · rw [if_pos (by omega), if_neg h, if_neg h, if_pos h2]
    · rw [if_neg (by omega), if_neg h, if_neg h2]

theorem get_set : (H.set b o).get c = if c = b then (if b < H.next then some o else none) else H.get c := by
  simp only [get_def, set, Tree.get_set']
  by_cases h : c = b
  · subst h; simp
  · simp [h]

theorem get_set_of {x : AObj} (h : H.get b = some x) : (H.set b o).get c = if c = b then some o else H.get c := by
  rw [get_set, if_pos (lt_of_get h)]

theorem get_kill : (H.kill b).get c = if c = b then none else H.get c := by
  simp only [get_def, kill, Tree.get_set']
  by_cases h : c = b
  · subst h; simp
  · simp [h]
end AHeap

/-- Two lists, element by element. -/
inductive All2 {α β : Type} (R : α → β → Prop) : List α → List β → Prop where
  | nil : All2 R [] []
  | cons {a : α} {b : β} {l : List α} {m : List β} : R a b → All2 R l m → All2 R (a :: l) (b :: m)

namespace All2
variable {α β : Type} {R S : α → β → Prop}
theorem mono {l : List α} {m : List β} (h : All2 R l m) (f : ∀ a b, R a b → S a b) : All2 S l m := by
  induction h with
  | nil => exact .nil
  | cons h _ ih => exact .cons (f _ _ h) ih
theorem length {l : List α} {m : List β} (h : All2 R l m) : l.length = m.length := by
  induction h with
  | nil => rfl
  | cons _ _ ih => simp [ih]
theorem append {l l' : List α} {m m' : List β} (h : All2 R l m) (h' : All2 R l' m') : All2 R (l ++ l') (m ++ m') := by
  induction h with
  | nil => exact h'
  | cons h _ ih => exact .cons h ih
theorem take {l : List α} {m : List β} (h : All2 R l m) (n : Nat) : All2 R (l.take n) (m.take n) := by
  induction h generalizing n with
  | nil => simp; exact .nil
  | cons h _ ih => cases n with
    | zero => exact .nil
    | succ n => exact .cons h (ih n)
theorem drop {l : List α} {m : List β} (h : All2 R l m) (n : Nat) : All2 R (l.drop n) (m.drop n) := by
  induction h generalizing n with
  | nil => simp; exact .nil
  | cons h t ih => cases n with
    | zero => exact .cons h t
    | succ n => exact ih n
theorem get {l : List α} {m : List β} (h : All2 R l m) {i : Nat} {a : α} (ha : l[i]? = some a) : ∃ b, m[i]? = some b ∧ R a b := by
  induction h generalizing i with
  | nil => simp at ha
  | cons h _ ih => cases i with
    | zero => simp at ha; subst ha; exact ⟨_, rfl, h⟩
    | succ i => simp at ha; simpa using ih ha
theorem set {l : List α} {m : List β} (h : All2 R l m) (i : Nat) {a : α} {b : β} (r : R a b) : All2 R (l.set i a) (m.set i b) := by
  induction h generalizing i with
  | nil => exact .nil
  | cons h t ih => cases i with
    | zero => exact .cons r t
    | succ i => exact .cons h (ih i)
theorem modify {l : List α} {m : List β} (h : All2 R l m) (i : Nat) {f : α → α} {g : β → β} (r : ∀ a b, R a b → R (f a) (g b)) : All2 R (l.modify i f) (m.modify i g) := by
  induction h generalizing i with
  | nil => simp; exact .nil
  | cons h t ih => cases i with
    | zero => exact .cons (r _ _ h) t
    | succ i => simpa using .cons h (ih i)
theorem eraseIdx {l : List α} {m : List β} (h : All2 R l m) (i : Nat) : All2 R (l.eraseIdx i) (m.eraseIdx i) := by
  induction h generalizing i with
  | nil => simp; exact .nil
  | cons h t ih => cases i with
    | zero => exact t
    | succ i => simpa using .cons h (ih i)
theorem of_get {l : List α} {m : List β} (h : l.length = m.length) (f : ∀ (i : Nat) (a : α) (b : β), l[i]? = some a → m[i]? = some b → R a b) : All2 R l m := by
  induction l generalizing m with
  | nil => cases m with
    | nil => exact .nil
    | cons _ _ => simp at h
  | cons a l ih => cases m with
    | nil => simp at h
    | cons b m => exact .cons (f 0 a b rfl rfl) (ih (by simpa using h) fun i x y hx hy => f (i + 1) x y (by simpa using hx) (by simpa using hy))
theorem get2 {l : List α} {m : List β} (h : All2 R l m) {i : Nat} {a : α} {b : β} (ha : l[i]? = some a) (hb : m[i]? = some b) : R a b := by
  obtain ⟨b', hb', r⟩ := h.get ha
  rw [hb] at hb'; cases hb'; exact r
theorem nil_right {m : List β} (h : All2 R [] m) : m = [] := by cases h; rfl
theorem cons_right {a : α} {l : List α} {m : List β} (h : All2 R (a :: l) m) : ∃ b m', m = b :: m' ∧ R a b ∧ All2 R l m' := by
  cases h with
  | cons h t => exact ⟨_, _, rfl, h, t⟩
theorem one {a : α} {m : List β} (h : All2 R [a] m) : ∃ b, m = [b] ∧ R a b := by
  obtain ⟨b, m', rfl, r, t⟩ := h.cons_right
  rw [t.nil_right]; exact ⟨b, rfl, r⟩
end All2

/-- Where the abstract blocks lie: the real block, and how many cells it has. -/
abbrev Mu := Nat → Option (Nat × Nat)

inductive VRel (μ : Mu) : Value → Value → Prop where
  | bool (b : Bool) : VRel μ (.bool b) (.bool b)
  | int (k : IntKind) (n : Int) : VRel μ (.int k n) (.int k n)
  | string (s : ByteArray) : VRel μ (.string s) (.string s)
  | ptr0 : VRel μ (.pointer none) (.pointer none)
  | ptr (b r n o : Nat) : μ b = some (r, n) → VRel μ (.pointer (some ⟨b, o, none⟩)) (.pointer (some ⟨r, o, none⟩))
  | slice0 (l c : Nat) : VRel μ (.slice none l c) (.slice none l c)
  | slice (b r n o l c : Nat) : μ b = some (r, n) → VRel μ (.slice (some ⟨b, o, none⟩) l c) (.slice (some ⟨r, o, none⟩) l c)
  | grow (b r n o e l c' : Nat) : μ b = some (r, n) → l ≤ c' → o + c' * e ≤ n → VRel μ (.slice (some ⟨b, o, some (2 * e)⟩) l l) (.slice (some ⟨r, o, none⟩) l c')
  | loose (b o e c' : Nat) (a : Addr) : VRel μ (.slice (some ⟨b, o, some (2 * e + 1)⟩) 0 0) (.slice (some a) 0 c')
  | map0 : VRel μ (.map none) (.map none)
  | map (b r n : Nat) : μ b = some (r, n) → VRel μ (.map (some b)) (.map (some r))
  | func (fn : Fn) (a a' c c' : Array Value) : a.size = a'.size → c.size = c'.size → (∀ (i : Nat) (v v' : Value), a[i]? = some v → a'[i]? = some v' → VRel μ v v') →
      (∀ (i : Nat) (v v' : Value), c[i]? = some v → c'[i]? = some v' → VRel μ v v') → VRel μ (.func fn a c) (.func fn a' c')
  | nilFunc : VRel μ .nilFunc .nilFunc
  | nilIface : VRel μ .nilIface .nilIface
  | iface (t : TypeId) (v v' : Value) : VRel μ v v' → VRel μ (.iface t v) (.iface t v')
  | agg (c c' : Array Value) : c.size = c'.size → (∀ (i : Nat) (v v' : Value), c[i]? = some v → c'[i]? = some v' → VRel μ v v') → VRel μ (.agg c) (.agg c')
  | tuple (c c' : Array Value) : c.size = c'.size → (∀ (i : Nat) (v v' : Value), c[i]? = some v → c'[i]? = some v' → VRel μ v v') → VRel μ (.tuple c) (.tuple c')

abbrev VRelL (μ : Mu) := All2 (VRel μ)

def Mu.le (μ μ' : Mu) : Prop := ∀ b x, μ b = some x → μ' b = some x
theorem Mu.le_refl (μ : Mu) : μ.le μ := fun _ _ h => h
theorem Mu.le_trans {a b c : Mu} (h : a.le b) (k : b.le c) : a.le c := fun x y e => k _ _ (h x y e)

theorem VRel.mono {μ μ' : Mu} (hle : μ.le μ') {v v' : Value} (h : VRel μ v v') : VRel μ' v v' := by
  induction h with
  | bool b => exact .bool b
  | int k n => exact .int k n
  | string s => exact .string s
  | ptr0 => exact .ptr0
  | ptr b r n o h => exact .ptr b r n o (hle _ _ h)
  | slice0 l c => exact .slice0 l c
  | slice b r n o l c h => exact .slice b r n o l c (hle _ _ h)
  | grow b r n o e l c' h h1 h2 => exact .grow b r n o e l c' (hle _ _ h) h1 h2
  | loose b o e c' a => exact .loose b o e c' a
  | map0 => exact .map0
  | map b r n h => exact .map b r n (hle _ _ h)
  | func fn a a' c c' h1 h2 _ _ i1 i2 => exact .func fn a a' c c' h1 h2 i1 i2
  | nilFunc => exact .nilFunc
  | nilIface => exact .nilIface
  | iface t v v' _ i => exact .iface t v v' i
  | agg c c' h _ i => exact .agg c c' h i
  | tuple c c' h _ i => exact .tuple c c' h i

theorem VRelL.mono {μ μ' : Mu} (hle : μ.le μ') {v v' : List Value} (h : VRelL μ v v') : VRelL μ' v v' := All2.mono h fun _ _ => VRel.mono hle

theorem VRel.agg' {μ : Mu} {c c' : List Value} (h : VRelL μ c c') : VRel μ (.agg ⟨c⟩) (.agg ⟨c'⟩) :=
  .agg _ _ (by simpa using h.length) fun i v v' hv hv' => h.get2 (i := i) (by simpa using hv) (by simpa using hv')
theorem VRel.tuple' {μ : Mu} {c c' : List Value} (h : VRelL μ c c') : VRel μ (.tuple ⟨c⟩) (.tuple ⟨c'⟩) :=
  .tuple _ _ (by simpa using h.length) fun i v v' hv hv' => h.get2 (i := i) (by simpa using hv) (by simpa using hv')
theorem VRel.func' {μ : Mu} (fn : Fn) {a a' c c' : List Value} (h : VRelL μ a a') (h2 : VRelL μ c c') : VRel μ (.func fn ⟨a⟩ ⟨c⟩) (.func fn ⟨a'⟩ ⟨c'⟩) :=
  .func fn _ _ _ _ (by simpa using h.length) (by simpa using h2.length) (fun i v v' hv hv' => h.get2 (i := i) (by simpa using hv) (by simpa using hv'))
    (fun i v v' hv hv' => h2.get2 (i := i) (by simpa using hv) (by simpa using hv'))

theorem VRelL.of_arr {μ : Mu} {c c' : Array Value} (h : c.size = c'.size) (f : ∀ (i : Nat) (v v' : Value), c[i]? = some v → c'[i]? = some v' → VRel μ v v') : VRelL μ c.toList c'.toList :=
  All2.of_get (by simpa using h) fun i a b ha hb => f i a b (by simpa using ha) (by simpa using hb)

theorem VRel.undef {μ : Mu} : VRel μ undef undef := .tuple _ _ rfl fun i v v' h => by simp at h

theorem VRel.agg_inv {μ : Mu} {c : Array Value} {v : Value} (h : VRel μ (.agg c) v) : ∃ c', v = .agg c' ∧ VRelL μ c.toList c'.toList := by
  cases h with
  | agg _ c' h f => exact ⟨c', rfl, VRelL.of_arr h f⟩
theorem VRel.tuple_inv {μ : Mu} {c : Array Value} {v : Value} (h : VRel μ (.tuple c) v) : ∃ c', v = .tuple c' ∧ VRelL μ c.toList c'.toList := by
  cases h with
  | tuple _ c' h f => exact ⟨c', rfl, VRelL.of_arr h f⟩

theorem VRel.cells {μ : Mu} {v v' : Value} (h : VRel μ v v') : VRelL μ (cellsOf v) (cellsOf v') := by
  have one : ∀ {v v' : Value}, VRel μ v v' → VRelL μ [v] [v'] := fun h => .cons h .nil
  cases h with
  | agg c c' h f => exact VRelL.of_arr h f
  | bool b => exact one (.bool b)
  | int k n => exact one (.int k n)
  | string s => exact one (.string s)
  | ptr0 => exact one .ptr0
  | ptr b r n o h => exact one (.ptr b r n o h)
  | slice0 l c => exact one (.slice0 l c)
  | slice b r n o l c h => exact one (.slice b r n o l c h)
  | grow b r n o e l c' h h1 h2 => exact one (.grow b r n o e l c' h h1 h2)
  | loose b o e c' a => exact one (.loose b o e c' a)
  | map0 => exact one .map0
  | map b r n h => exact one (.map b r n h)
  | func fn a a' c c' h1 h2 i1 i2 => exact one (.func fn a a' c c' h1 h2 i1 i2)
  | nilFunc => exact one .nilFunc
  | nilIface => exact one .nilIface
  | iface t v v' i => exact one (.iface t v v' i)
  | tuple c c' h i => exact one (.tuple c c' h i)

theorem VRel.oneCell {μ : Mu} {v v' : Value} (h : VRel μ v v') : v'.oneCell' = v.oneCell' := by cases h <;> rfl

theorem atom_refl {μ : Mu} {v : Value} (h : atom v = true) : VRel μ v v := by
  cases v with
  | bool b => exact .bool b
  | int k n => exact .int k n
  | string s => exact .string s
  | pointer a => cases a with
    | none => exact .ptr0
    | some _ => simp [atom] at h
  | slice a l c => cases a with
    | none => exact .slice0 l c
    | some _ => simp [atom] at h
  | map a => cases a with
    | none => exact .map0
    | some _ => simp [atom] at h
  | nilFunc => exact .nilFunc
  | nilIface => exact .nilIface
  | _ => simp [atom] at h

theorem atoms_refl {μ : Mu} : ∀ {l : List Value}, l.all atom = true → VRelL μ l l
  | [], _ => .nil
  | v :: l, h => by simp at h; exact .cons (atom_refl h.1) (atoms_refl (by simpa using h.2))

theorem plain_refl {μ : Mu} {v : Value} (h : plain v = true) : VRel μ v v := by
  cases v with
  | agg c => obtain ⟨c⟩ := c; exact .agg' (atoms_refl h)
  | _ => exact atom_refl (by simpa [plain] using h)

theorem plain_cells {v : Value} (h : plain v = true) {μ : Mu} : VRelL μ (cellsOf v) (cellsOf v) := (plain_refl h).cells

/-- A map's entries. -/
structure ERel (μ : Mu) (e e' : MapEntry) : Prop where
  key : VRel μ e.key e'.key
  val : VRel μ e.val e'.val
  born : e.born = e'.born

def ORel (μ : Mu) (B : Nat) (w : World) (r n : Nat) : AObj → Prop
  | .cells c e ro => ∃ c' t fz, w.heap[r]? = some (.cells c' t fz) ∧ c'.size = n ∧ c.length ≤ n ∧ VRelL μ c (c'.toList.take c.length) ∧
      (ro = false → B ≤ r ∧ t = e ∧ ∀ i, i < n → ¬ (fz.1 ≤ i ∧ i < fz.2))
  | .map es clock => ∃ es', w.heap[r]? = some (.map es' clock) ∧ B ≤ r ∧ All2 (ERel μ) es es'.toList

structure WRel (μ : Mu) (B : Nat) (H : AHeap) (w : World) : Prop where
  dom : ∀ b, H.next ≤ b → μ b = none
  obj : ∀ b o r n, H.get b = some o → μ b = some (r, n) → ORel μ B w r n o
  inj : ∀ b b' o o' r n n', H.get b = some o → H.get b' = some o' → μ b = some (r, n) → μ b' = some (r, n') → b = b'
  base : B ≤ w.heap.size

/-- What stays: the blocks that aren't there yet. -/
structure Keep (μ μ' : Mu) (H H' : AHeap) : Prop where
  next : H.next ≤ H'.next
  le : μ.le μ'
  pend : ∀ b, b < H.next → μ b = none → μ' b = none ∧ H'.get b = H.get b

theorem Keep.refl (μ : Mu) (H : AHeap) : Keep μ μ H H := ⟨Nat.le_refl _, Mu.le_refl _, fun _ _ h => ⟨h, rfl⟩⟩
theorem Keep.trans {μ μ' μ'' : Mu} {H H' H'' : AHeap} (h : Keep μ μ' H H') (k : Keep μ' μ'' H' H'') : Keep μ μ'' H H'' :=
  ⟨Nat.le_trans h.next k.next, Mu.le_trans h.le k.le, fun b hb hn => by
    obtain ⟨h1, h2⟩ := h.pend b hb hn
    obtain ⟨h3, h4⟩ := k.pend b (Nat.lt_of_lt_of_le hb h.next) h1
    exact ⟨h3, h4.trans h2⟩⟩

structure Went (B : Nat) (μ : Mu) (H : AHeap) (w : World) (μ' : Mu) (H' : AHeap) (w' : World) : Prop where
  rel : WRel μ' B H' w'
  keep : Keep μ μ' H H'
  below : Below B w w'

theorem Went.refl {B : Nat} {μ : Mu} {H : AHeap} {w : World} (h : WRel μ B H w) : Went B μ H w μ H w := ⟨h, .refl _ _, .refl _ _⟩
theorem Went.trans {B : Nat} {μ μ' μ'' : Mu} {H H' H'' : AHeap} {w w' w'' : World} (h : Went B μ H w μ' H' w') (k : Went B μ' H' w' μ'' H'' w'') :
    Went B μ H w μ'' H'' w'' := ⟨k.rel, h.keep.trans k.keep, h.below.trans k.below⟩

theorem ORel.of_heap {μ : Mu} {B : Nat} {w w' : World} {r n : Nat} {o : AObj} (h : ORel μ B w r n o) (e : w'.heap[r]? = w.heap[r]?) : ORel μ B w' r n o := by
  cases o with
  | cells c t ro => obtain ⟨c', t', fz, h1, h2⟩ := h; exact ⟨c', t', fz, e.trans h1, h2⟩
  | map es clock => obtain ⟨es', h1, h2⟩ := h; exact ⟨es', e.trans h1, h2⟩

theorem ORel.mono {μ μ' : Mu} (hle : μ.le μ') {B : Nat} {w : World} {r n : Nat} {o : AObj} (h : ORel μ B w r n o) : ORel μ' B w r n o := by
  cases o with
  | cells c t ro => obtain ⟨c', t', fz, h1, h2, h3, h4, h5⟩ := h; exact ⟨c', t', fz, h1, h2, h3, VRelL.mono hle h4, h5⟩
  | map es clock => obtain ⟨es', h1, h2, h3⟩ := h; exact ⟨es', h1, h2, h3.mono fun _ _ e => ⟨e.key.mono hle, e.val.mono hle, e.born⟩⟩

theorem ORel.there {μ : Mu} {B : Nat} {w : World} {r n : Nat} {o : AObj} (h : ORel μ B w r n o) : r < w.heap.size := by
  have : ∃ x, w.heap[r]? = some x := by
    cases o with
    | cells c t ro => obtain ⟨c', t', fz, h1, _⟩ := h; exact ⟨_, h1⟩
    | map es clock => obtain ⟨es', h1, _⟩ := h; exact ⟨_, h1⟩
  obtain ⟨x, hx⟩ := this
  exact (Array.getElem?_eq_some_iff.1 hx).1

/-- A draw changes nothing of it. -/
theorem WRel.of_heap {μ : Mu} {B : Nat} {H : AHeap} {w w' : World} (h : WRel μ B H w) (e : w'.heap = w.heap) : WRel μ B H w' :=
  ⟨h.dom, fun b o r n hb hm => (h.obj b o r n hb hm).of_heap (by rw [e]), h.inj, by rw [e]; exact h.base⟩

def Mu.put (μ : Mu) (b : Nat) (x : Nat × Nat) : Mu := fun c => if c = b then some x else μ c
theorem Mu.put_le {μ : Mu} {b : Nat} {x : Nat × Nat} (h : μ b = none) : μ.le (μ.put b x) := fun c y hy => by
  unfold Mu.put
  by_cases e : c = b
  · subst e; rw [h] at hy; cases hy
  · rw [if_neg e]; exact hy
theorem Mu.put_same (μ : Mu) (b : Nat) (x : Nat × Nat) : μ.put b x b = some x := by simp [Mu.put]
theorem Mu.put_ne (μ : Mu) {b c : Nat} (x : Nat × Nat) (h : c ≠ b) : μ.put b x c = μ c := by simp [Mu.put, h]

/-- A block that comes to be: abstract block b (there, but not laid yet), real block at the end. -/
theorem WRel.lay {μ : Mu} {B : Nat} {H : AHeap} {w : World} (h : WRel μ B H w) {b : Nat} {o : AObj} {ob : Obj} {n : Nat} (hb : H.get b = some o) (hm : μ b = none)
    (ho : ORel (μ.put b (w.heap.size, n)) B (w.alloc ob) w.heap.size n o) : WRel (μ.put b (w.heap.size, n)) B H (w.alloc ob) := by
  have hle : μ.le (μ.put b (w.heap.size, n)) := Mu.put_le hm
  have hlt := AHeap.lt_of_get hb
  have old : ∀ c o' r k, H.get c = some o' → μ c = some (r, k) → r < w.heap.size := fun c o' r k hc hk => (h.obj c o' r k hc hk).there
  refine ⟨fun c hc => ?_, fun c o' r k hc hk => ?_, fun c c' o1 o2 r k k' h1 h2 h3 h4 => ?_, by simp; have := h.base; omega⟩
  · rw [Mu.put_ne _ _ (by omega)]; exact h.dom c hc
  · by_cases e : c = b
    · subst e
      rw [Mu.put_same] at hk; cases hk
      rw [hb] at hc; cases hc
      exact ho
    · rw [Mu.put_ne _ _ e] at hk
      have := h.obj c o' r k hc hk
      exact (this.of_heap (w' := w.alloc ob) (Below.heap_alloc w ob r this.there)).mono hle
  · by_cases e : c = b
    · by_cases e' : c' = b
      · rw [e, e']
      · subst e
        rw [Mu.put_same] at h3; cases h3
        rw [Mu.put_ne _ _ e'] at h4
        have := old c' o2 _ _ h2 h4
        omega
    · rw [Mu.put_ne _ _ e] at h3
      by_cases e' : c' = b
      · subst e'
        rw [Mu.put_same] at h4; cases h4
        have := old c o1 _ _ h1 h3
        omega
      · rw [Mu.put_ne _ _ e'] at h4
        exact h.inj c c' o1 o2 r k k' h1 h2 h3 h4

/-- The abstract heap has one block more, that isn't laid. -/
theorem WRel.more {μ : Mu} {B : Nat} {H : AHeap} {w : World} (h : WRel μ B H w) (o : AObj) : WRel μ B (H.alloc o) w := by
  have hn := h.dom H.next (Nat.le_refl _)
  refine ⟨fun c hc => h.dom c (by simp at hc; omega), fun c o' r k hc hk => ?_, fun c c' o1 o2 r k k' h1 h2 h3 h4 => ?_, h.base⟩
  · rw [AHeap.get_alloc] at hc
    by_cases e : c = H.next
    · subst e; rw [hn] at hk; cases hk
    · rw [if_neg e] at hc; exact h.obj c o' r k hc hk
  · have e1 : c ≠ H.next := by rintro rfl; rw [hn] at h3; cases h3
    have e2 : c' ≠ H.next := by rintro rfl; rw [hn] at h4; cases h4
    rw [AHeap.get_alloc, if_neg e1] at h1
    rw [AHeap.get_alloc, if_neg e2] at h2
    exact h.inj c c' o1 o2 r k k' h1 h2 h3 h4

/-- A new block on both sides. -/
theorem WRel.alloc {μ : Mu} {B : Nat} {H : AHeap} {w : World} (h : WRel μ B H w) {o : AObj} {ob : Obj} {n : Nat}
    (ho : ORel (μ.put H.next (w.heap.size, n)) B (w.alloc ob) w.heap.size n o) :
    Went B μ H w (μ.put H.next (w.heap.size, n)) (H.alloc o) (w.alloc ob) := by
  have hn := h.dom H.next (Nat.le_refl _)
  refine ⟨(h.more o).lay (b := H.next) (o := o) (by simp [AHeap.get_alloc]) hn ho, ⟨by simp, Mu.put_le hn, fun b hb hm => ?_⟩, (Below.refl B w).alloc h.base _⟩
  exact ⟨by rw [Mu.put_ne _ _ (by omega)]; exact hm, by rw [AHeap.get_alloc, if_neg (by omega)]⟩

theorem heap_new (w : World) (o : Obj) : (w.alloc o).heap[w.heap.size]? = some o := by
  show (w.heap.push o)[w.heap.size]? = some o
  simp

theorem ORel.new_cells {μ : Mu} {B : Nat} {w : World} (hB : B ≤ w.heap.size) {c c' : List Value} {e : TypeId} {ro : Bool} (h : VRelL μ c c') :
    ORel μ B (w.alloc (.cells ⟨c'⟩ e)) w.heap.size c'.length (.cells c e ro) := by
  refine ⟨⟨c'⟩, e, (0, 0), ?_, rfl, by rw [h.length]; exact Nat.le_refl _, ?_, fun _ => ⟨hB, rfl, fun i _ => by simp⟩⟩
  · exact heap_new _ _
  · rw [h.length]; simpa using h

end Go.Ev

namespace Go.Ev
open Go Go.RowKit

/-- A block holds something else. -/
def setBlock (w : World) (r : Nat) (o : Obj) : World := { w with heap := w.heap.setIfInBounds r o }

@[simp] theorem setBlock_size (w : World) (r : Nat) (o : Obj) : (setBlock w r o).heap.size = w.heap.size := by simp [setBlock]
theorem setBlock_same {w : World} {r : Nat} {o : Obj} (h : r < w.heap.size) : (setBlock w r o).heap[r]? = some o := by simp [setBlock, h]
theorem setBlock_ne {w : World} {r k : Nat} {o : Obj} (h : k ≠ r) : (setBlock w r o).heap[k]? = w.heap[k]? := by
  simp only [setBlock]
  rw [Array.getElem?_setIfInBounds_ne (Ne.symm h)]
theorem setBlock_twice (w : World) (r : Nat) (o o' : Obj) : setBlock (setBlock w r o) r o' = setBlock w r o' := by
  simp only [setBlock]
  congr 1
  apply Array.ext_getElem?
  intro i
  simp only [Array.getElem?_setIfInBounds, Array.size_setIfInBounds]
  split <;> rfl
theorem setBlock_self {w : World} {r : Nat} {o : Obj} (h : w.heap[r]? = some o) : setBlock w r o = w := by
  cases w with
  | mk heap tape drawn os output =>
    simp only [setBlock]
    congr 1
    apply Array.ext_getElem?
    intro i
    simp only [Array.getElem?_setIfInBounds]
    by_cases e : r = i
    · subst e
      obtain ⟨hl, hv⟩ := Array.getElem?_eq_some_iff.1 h
      simp only at hv hl ⊢
      simp [hl, hv]
    · simp [e]

theorem setCell_eq {w : World} {r off : Nat} {c : Array Value} {t : TypeId} {fz : Nat × Nat} (h : w.heap[r]? = some (.cells c t fz)) (v : Value) :
    w.setCell ⟨r, off, none⟩ v = setBlock w r (.cells (c.setIfInBounds off v) t fz) := by
  simp only [World.setCell, setBlock]
  congr 1
  apply Array.ext_getElem?
  intro i
  simp only [Array.getElem?_modify, Array.getElem?_setIfInBounds]
  by_cases e : r = i
  · subst e
    obtain ⟨hl, hv⟩ := Array.getElem?_eq_some_iff.1 h
    simp [hl, hv]
  · simp [e]

theorem below_setBlock {B : Nat} {a w : World} (h : Below B a w) {r : Nat} (hr : B ≤ r) (o : Obj) : Below B a (setBlock w r o) :=
  h.trans ⟨rfl, rfl, rfl, by simp, fun k hk => setBlock_ne (by omega)⟩

theorem add_none (r off i : Nat) : (⟨r, off, none⟩ : Addr).add i = ⟨r, off + i, none⟩ := by
  unfold Addr.add
  by_cases h : i = 0
  · subst h; simp
  · simp [h]

theorem cell_of {w : World} {r : Nat} {c : Array Value} {t : TypeId} {fz : Nat × Nat} (h : w.heap[r]? = some (.cells c t fz)) (i : Nat) :
    w.cell? ⟨r, i, none⟩ = c[i]? := by
  unfold World.cell?
  simp [h]

theorem frozen_of {w : World} {r : Nat} {c : Array Value} {t : TypeId} {fz : Nat × Nat} (h : w.heap[r]? = some (.cells c t fz)) (i : Nat) :
    w.frozen? ⟨r, i, none⟩ = (decide (fz.1 ≤ i) && decide (i < fz.2)) := by
  unfold World.frozen?
  simp [h]

theorem run_loadCellsFrom (P : Program) {w : World} {r : Nat} {c : Array Value} {t : TypeId} {fz : Nat × Nat} (hw : w.heap[r]? = some (.cells c t fz)) (off : Nat) :
    ∀ (n i : Nat) (acc : Array Value), off + i + n ≤ c.size →
      (loadCellsFrom ⟨r, off, none⟩ i n acc).run P w = .ok ⟨acc.toList ++ (c.toList.drop (off + i)).take n⟩ w := by
  intro n
  induction n with
  | zero => intro i acc _; simp [loadCellsFrom]
  | succ n ih =>
    intro i acc h
    have hlt : off + i < c.size := by omega
    simp only [loadCellsFrom, Sem.run_bind, run_load, add_none, cell_of hw]
    rw [Array.getElem?_eq_getElem hlt]
    simp only [Result.andThen_ok]
    rw [ih (i + 1) _ (by omega)]
    congr 2
    have : c.toList.drop (off + i) = c[off + i] :: c.toList.drop (off + (i + 1)) := by
      rw [List.drop_eq_getElem_cons (by simpa using hlt)]; rfl
    rw [this]
    simp

theorem run_loadCells (P : Program) {w : World} {r : Nat} {c : Array Value} {t : TypeId} {fz : Nat × Nat} (hw : w.heap[r]? = some (.cells c t fz)) (off n : Nat)
    (h : off + n ≤ c.size) : (loadCells ⟨r, off, none⟩ n).run P w = .ok ⟨(c.toList.drop off).take n⟩ w := by
  have := run_loadCellsFrom P hw off n 0 #[] (by omega)
  simpa [loadCells] using this

theorem splice_length {c vs : List Value} {off : Nat} (h : off + vs.length ≤ c.length) : (splice c off vs).length = c.length := by
  simp [splice]; omega

theorem splice_cons {c : List Value} {off : Nat} {v : Value} {vs : List Value} (h : off + (vs.length + 1) ≤ c.length) :
    splice c off (v :: vs) = splice (c.set off v) (off + 1) vs := by
  unfold splice
  have h1 : (c.set off v).take (off + 1) = c.take off ++ [v] := by
    rw [List.take_set, List.take_succ_eq_append_getElem (by omega : off < c.length), List.set_append_right _ _ (by simp; omega)]
    have e0 : (c.take off).length = off := by simp; omega
    rw [e0, Nat.sub_self]; rfl
  have h2 : (c.set off v).drop (off + 1 + vs.length) = c.drop (off + (v :: vs).length) := by
    rw [List.drop_set_of_lt (by omega)]
    congr 1
    simp; omega
  rw [h1, h2]
  simp

theorem run_storeCells (P : Program) {t : TypeId} {fz : Nat × Nat} (r off : Nat) : ∀ (vs : List Value) (i : Nat) (w : World) (c : Array Value),
    w.heap[r]? = some (.cells c t fz) → off + i + vs.length ≤ c.size → vs.all Value.oneCell' = true → (∀ j, j < c.size → ¬ (fz.1 ≤ j ∧ j < fz.2)) →
    (storeCells ⟨r, off, none⟩ vs i).run P w = .ok () (setBlock w r (.cells ⟨splice c.toList (off + i) vs⟩ t fz)) := by
  intro vs
  induction vs with
  | nil =>
    intro i w c hw h _ _
    simp only [storeCells, Sem.run_pure]
    have : (⟨splice c.toList (off + i) []⟩ : Array Value) = c := by simp [splice]
    rw [this, setBlock_self hw]
  | cons v vs ih =>
    intro i w c hw h h1 hf
    simp only [List.all_cons, Bool.and_eq_true] at h1
    have hlen : off + i < c.size := by simp at h; omega
    simp only [storeCells, Sem.run_bind, add_none]
    rw [run_store _ _ _ _ _ h1.1]
    rw [cell_of hw, frozen_of hw, Array.getElem?_eq_getElem hlen]
    have hfz : (decide (fz.1 ≤ off + i) && decide (off + i < fz.2)) = false := by
      have := hf _ hlen
      simp only [Bool.and_eq_false_iff, decide_eq_false_iff_not]
      omega
    simp only [hfz, Bool.false_eq_true, if_false, Result.andThen_ok]
    rw [setCell_eq hw]
    have hl := (Array.getElem?_eq_some_iff.1 hw).1
    rw [ih (i + 1) _ (c.setIfInBounds (off + i) v) (setBlock_same hl) (by simp at h ⊢; omega) h1.2 (by simpa using hf), setBlock_twice]
    congr 3
    have := splice_cons (c := c.toList) (off := off + i) (v := v) (vs := vs) (by simp at h ⊢; omega)
    rw [this]
    simp [Nat.add_assoc]

/-- What stands in a row after a write. -/
theorem VRelL.splice {μ : Mu} {c d vs us : List Value} (h : VRelL μ c d) (k : VRelL μ vs us) (off : Nat) : VRelL μ (splice c off vs) (splice d off us) := by
  unfold Ev.splice
  rw [k.length]
  exact ((h.take off).append k).append (h.drop _)

theorem splice_take {d us : List Value} {off k : Nat} (h : off + us.length ≤ k) (hk : k ≤ d.length) : (splice d off us).take k = splice (d.take k) off us := by
  unfold splice
  have e1 : (d.take k).take off = d.take off := by rw [List.take_take]; congr 1; omega
  have e2 : (d.take k).drop (off + us.length) = (d.drop (off + us.length)).take (k - (off + us.length)) := by
    rw [List.drop_take]
  rw [e1, e2, List.take_append, List.take_of_length_le (by simp; omega)]
  congr 1
  have : (d.take off ++ us).length = off + us.length := by simp; omega
  rw [this]

theorem WRel.set {μ : Mu} {B : Nat} {H : AHeap} {w : World} (h : WRel μ B H w) {b r n : Nat} {o o' : AObj} {ob : Obj} (hb : H.get b = some o) (hm : μ b = some (r, n)) (hr : B ≤ r)
    (ho : ORel μ B (setBlock w r ob) r n o') : Went B μ H w μ (H.set b o') (setBlock w r ob) := by
  refine ⟨⟨fun c hc => h.dom c (by simpa using hc), fun c o1 r1 k hc hk => ?_, fun c c' o1 o2 r1 k k' h1 h2 h3 h4 => ?_, by simpa using h.base⟩,
    ⟨by simp, Mu.le_refl _, fun c hc hn => ⟨hn, by rw [AHeap.get_set, if_neg (by rintro rfl; rw [hn] at hm; cases hm)]⟩⟩, below_setBlock (Below.refl _ _) hr _⟩
  · rw [AHeap.get_set_of _ _ _ _ hb] at hc
    by_cases e : c = b
    · subst e
      rw [if_pos rfl] at hc; cases hc
      rw [hm] at hk; cases hk
      exact ho
    · rw [if_neg e] at hc
      have hne : r1 ≠ r := by rintro rfl; exact e (h.inj c b o1 o r1 k n hc hb hk hm)
      exact (h.obj c o1 r1 k hc hk).of_heap (setBlock_ne hne)
  · rw [AHeap.get_set_of _ _ _ _ hb] at h1 h2
    have g1 : ∃ x, H.get c = some x := by
      by_cases e : c = b
      · subst e; exact ⟨_, hb⟩
      · rw [if_neg e] at h1; exact ⟨_, h1⟩
    have g2 : ∃ x, H.get c' = some x := by
      by_cases e : c' = b
      · subst e; exact ⟨_, hb⟩
      · rw [if_neg e] at h2; exact ⟨_, h2⟩
    obtain ⟨x, hx⟩ := g1
    obtain ⟨y, hy⟩ := g2
    exact h.inj c c' x y r1 k k' hx hy h3 h4

theorem WRel.kill {μ : Mu} {B : Nat} {H : AHeap} {w : World} (h : WRel μ B H w) (b : Nat) : WRel μ B (H.kill b) w := by
  refine ⟨fun c hc => h.dom c (by simpa using hc), fun c o1 r1 k hc hk => ?_, fun c c' o1 o2 r1 k k' h1 h2 h3 h4 => ?_, h.base⟩
  · rw [AHeap.get_kill] at hc
    by_cases e : c = b
    · rw [if_pos e] at hc; cases hc
    · rw [if_neg e] at hc; exact h.obj c o1 r1 k hc hk
  · rw [AHeap.get_kill] at h1 h2
    by_cases e : c = b
    · rw [if_pos e] at h1; cases h1
    · by_cases e' : c' = b
      · rw [if_pos e'] at h2; cases h2
      · rw [if_neg e] at h1; rw [if_neg e'] at h2
        exact h.inj c c' o1 o2 r1 k k' h1 h2 h3 h4

theorem keep_kill {μ : Mu} {H : AHeap} {b : Nat} {x : Nat × Nat} (hm : μ b = some x) : Keep μ μ H (H.kill b) :=
  ⟨by simp, Mu.le_refl _, fun c _ hn => ⟨hn, by rw [AHeap.get_kill, if_neg (by rintro rfl; rw [hn] at hm; cases hm)]⟩⟩

/-- A new abstract block over a real block that no living one has. -/
theorem WRel.reuse {μ : Mu} {B : Nat} {H : AHeap} {w : World} (h : WRel μ B H w) {r n : Nat} {o : AObj} {ob : Obj}
    (hfree : ∀ c x k, H.get c = some x → μ c ≠ some (r, k)) (hr : B ≤ r) (ho : ORel (μ.put H.next (r, n)) B (setBlock w r ob) r n o) :
    Went B μ H w (μ.put H.next (r, n)) (H.alloc o) (setBlock w r ob) := by
  have hn := h.dom H.next (Nat.le_refl _)
  have hle : μ.le (μ.put H.next (r, n)) := Mu.put_le hn
  refine ⟨⟨fun c hc => ?_, fun c o1 r1 k hc hk => ?_, fun c c' o1 o2 r1 k k' h1 h2 h3 h4 => ?_, by simpa using h.base⟩, ⟨by simp, hle, fun b hb hm => ?_⟩, below_setBlock (Below.refl _ _) hr _⟩
  · simp at hc; rw [Mu.put_ne _ _ (by omega)]; exact h.dom c (by omega)
  · rw [AHeap.get_alloc] at hc
    by_cases e : c = H.next
    · subst e
      rw [if_pos rfl] at hc; cases hc
      rw [Mu.put_same] at hk; cases hk
      exact ho
    · rw [if_neg e] at hc
      rw [Mu.put_ne _ _ e] at hk
      have hne : r1 ≠ r := by rintro rfl; exact hfree c o1 k hc hk
      exact ((h.obj c o1 r1 k hc hk).of_heap (setBlock_ne hne)).mono hle
  · rw [AHeap.get_alloc] at h1 h2
    by_cases e : c = H.next
    · by_cases e' : c' = H.next
      · rw [e, e']
      · subst e
        rw [Mu.put_same] at h3; cases h3
        rw [if_neg e'] at h2; rw [Mu.put_ne _ _ e'] at h4
        exact absurd h4 (hfree c' o2 k' h2)
    · rw [if_neg e] at h1; rw [Mu.put_ne _ _ e] at h3
      by_cases e' : c' = H.next
      · subst e'
        rw [Mu.put_same] at h4; cases h4
        exact absurd h3 (hfree c o1 k h1)
      · rw [if_neg e'] at h2; rw [Mu.put_ne _ _ e'] at h4
        exact h.inj c c' o1 o2 r1 k k' h1 h2 h3 h4
  · exact ⟨by rw [Mu.put_ne _ _ (by omega)]; exact hm, by rw [AHeap.get_alloc, if_neg (by omega)]⟩

/-- Cells that are read. -/
theorem ldCells_sound {μ : Mu} {B : Nat} {H : AHeap} {w : World} (hW : WRel μ B H w) {b r n off k : Nat} {cs : List Value} (hm : μ b = some (r, n))
    (h : ldCells H b off k = some cs) : ∃ c t fz cs', w.heap[r]? = some (.cells c t fz) ∧ off + k ≤ c.size ∧ cs' = (c.toList.drop off).take k ∧ VRelL μ cs cs' ∧ cs.length = k ∧ c.size = n := by
  unfold ldCells at h
  split at h
  · rename_i c e ro hb
    obtain ⟨c', t, fz, h1, h2, h3, h4, _⟩ := hW.obj b _ r n hb hm
    cases hle : (off + k).ble c.length with
    | false => simp [hle] at h
    | true =>
      have hle := ble_true hle
      rw [Nat.ble_eq_true_of_le hle] at h
      simp only [cond_true, Option.some.injEq] at h
      refine ⟨c', t, fz, _, h1, by omega, rfl, ?_, by rw [← h]; simp; omega, h2⟩
      have := (h4.drop off).take k
      rw [← h]
      have e : (c'.toList.take c.length).drop off = (c'.toList.drop off).take (c.length - off) := by rw [List.drop_take]
      rw [e, List.take_take] at this
      have e2 : min k (c.length - off) = k := by omega
      rw [e2] at this
      exact this
  · simp at h

/-- Cells that are written. -/
theorem stCells_sound {μ : Mu} {B : Nat} {H H' : AHeap} {w : World} (P : Program) (hW : WRel μ B H w) {b r n off : Nat} {vs us : List Value} (hm : μ b = some (r, n))
    (hv : VRelL μ vs us) (h : stCells H b off vs = some H') : ∃ w', (storeCells ⟨r, off, none⟩ us).run P w = .ok () w' ∧ Went B μ H w μ H' w' := by
  unfold stCells at h
  split at h
  · rename_i c e hb
    obtain ⟨c', t, fz, h1, h2, h3, h4, h5⟩ := hW.obj b _ r n hb hm
    obtain ⟨hBr, hte, hfz⟩ := h5 rfl
    cases hc : ((off + vs.length).ble c.length && vs.all Value.oneCell') with
    | false => simp [hc] at h
    | true =>
      simp only [hc, cond_true, Option.some.injEq] at h
      simp only [Bool.and_eq_true] at hc
      have hle := ble_true hc.1
      have hus : us.all Value.oneCell' = true := by
        clear h
        have := hc.2
        clear hc hle
        induction hv with
        | nil => rfl
        | cons hr _ ih => simp only [List.all_cons, Bool.and_eq_true] at this ⊢; exact ⟨by rw [hr.oneCell]; exact this.1, ih this.2⟩
      have hlen := hv.length
      refine ⟨_, by simpa using run_storeCells P r off us 0 w c' h1 (by omega) hus (by simpa [h2] using hfz), ?_⟩
      subst h
      have hl := (Array.getElem?_eq_some_iff.1 h1).1
      refine hW.set hb hm hBr ⟨_, t, fz, setBlock_same hl, ?_, ?_, ?_, fun _ => ⟨hBr, hte, hfz⟩⟩
      · rw [← h2]; simpa using splice_length (c := c'.toList) (vs := us) (off := off) (by simp; omega)
      · rw [splice_length hle]; exact h3
      · rw [splice_length hle]
        have : (splice c'.toList off us).take c.length = splice (c'.toList.take c.length) off us := splice_take (by omega) (by simp; omega)
        simp only [this]
        exact h4.splice hv off
  · simp at h

end Go.Ev

namespace Go.Ev
open Go Go.RowKit

def TDOk (P : Program) : TypeDesc → TD → Prop
  | .bool, .bool => True
  | .int k, .int k' => k = k'
  | .string, .string => True
  | .pointer e, .ptr e' => e = e'
  | .slice e, .slice e' => e = e'
  | .array n e, .array n' e' => n = n' ∧ e = e'
  | .map k e, .map k' e' => k = k' ∧ e = e'
  | .struct fs, .struct gs => fs.toList.map (fun f => (f.type, f.offset, P.cellsOf f.type)) = gs ∧ ∀ f ∈ fs.toList, (P.info? f.type).isSome
  | .interface _, .iface => True
  | .func _ _ _, .func => True
  | .tuple _, .tuple => True
  | .unsafePointer, .raw => True
  | .chan _ _, .other => True
  | .float _, .other => True
  | .complex _, .other => True
  | _, _ => False

structure TyOk (P : Program) (t : TypeId) (ti : TI) : Prop where
  info : ∃ i, P.info? t = some i ∧ i.size = ti.size ∧ i.bytes = ti.bytes ∧ i.zero = ti.zero
  under : ∃ d, P.underlying t = some d ∧ TDOk P d ti.td

structure MethOk (P : Program) (t : TypeId) (name : String) (f : FuncId) : Prop where
  meth : ∀ v w, (method (P.types.size + Made.depth) t v name).run P w = .ok (f, v) w
  ahead : ∀ v w, (nilAhead (P.types.size + Made.depth) t v name).run P w = .ok (some false) w

structure EqOk (P : Program) (t : TypeId) (ls : List Leaf) : Prop where
  guard : P.eqGuardType P.depth t = false
  eq : ∀ (xs ys : Array Value) b w, cellsEq ls xs.toList ys.toList = some b → (Op.equal t (.agg xs) (.agg ys)).run P w = .ok b w
  key : ∀ (e : Bool) (xs : Array Value) w, cellsAre ls xs.toList = true → (Instr.checkKey e 10000 t (.agg xs)).run P w = .ok () w

structure CtxOk (P : Program) (C : Ctx) : Prop where
  ty : ∀ t ti, C.ty.get t = some ti → TyOk P t ti
  fn : ∀ f fi, C.fn.get f = some fi → P.funcs[f]? = some fi.fn ∧ (fi.fn.name == "runtime.NumGoroutine") = false ∧ fi.fn.body.isSome = true
  meth : ∀ t name f, methA C t name = some f → MethOk P t name f
  eqs : ∀ t ls, leavesIn t C.eqs = some ls → EqOk P t ls
  same : ∀ f, C.same.contains f = true → ∀ x w, (callFunc f #[x]).run P w = .ok (.value x) w

section
variable {P : Program} {C : Ctx} (hC : CtxOk P C)
include hC

theorem under_int {t : TypeId} {k : IntKind} (h : tdA C t = some (.int k)) : P.underlying t = some (.int k) := by
  simp only [tdA, Option.map_eq_some_iff] at h
  obtain ⟨ti, h1, h2⟩ := h
  obtain ⟨d, h3, h4⟩ := (hC.ty _ _ h1).under
  rw [h2] at h4
  cases d <;> simp [TDOk] at h4
  subst h4; exact h3
theorem under_bool {t : TypeId} (h : tdA C t = some .bool) : P.underlying t = some .bool := by
  simp only [tdA, Option.map_eq_some_iff] at h
  obtain ⟨ti, h1, h2⟩ := h
  obtain ⟨d, h3, h4⟩ := (hC.ty _ _ h1).under
  rw [h2] at h4
  cases d <;> simp [TDOk] at h4
  exact h3
theorem under_string {t : TypeId} (h : tdA C t = some .string) : P.underlying t = some .string := by
  simp only [tdA, Option.map_eq_some_iff] at h
  obtain ⟨ti, h1, h2⟩ := h
  obtain ⟨d, h3, h4⟩ := (hC.ty _ _ h1).under
  rw [h2] at h4
  cases d <;> simp [TDOk] at h4
  exact h3
theorem under_raw {t : TypeId} (h : tdA C t = some .raw) : P.underlying t = some .unsafePointer := by
  simp only [tdA, Option.map_eq_some_iff] at h
  obtain ⟨ti, h1, h2⟩ := h
  obtain ⟨d, h3, h4⟩ := (hC.ty _ _ h1).under
  rw [h2] at h4
  cases d <;> simp [TDOk] at h4
  exact h3
theorem under_ptr {t e : TypeId} (h : tdA C t = some (.ptr e)) : P.underlying t = some (.pointer e) := by
  simp only [tdA, Option.map_eq_some_iff] at h
  obtain ⟨ti, h1, h2⟩ := h
  obtain ⟨d, h3, h4⟩ := (hC.ty _ _ h1).under
  rw [h2] at h4
  cases d <;> simp [TDOk] at h4
  subst h4; exact h3
theorem under_slice {t e : TypeId} (h : tdA C t = some (.slice e)) : P.underlying t = some (.slice e) := by
  simp only [tdA, Option.map_eq_some_iff] at h
  obtain ⟨ti, h1, h2⟩ := h
  obtain ⟨d, h3, h4⟩ := (hC.ty _ _ h1).under
  rw [h2] at h4
  cases d <;> simp [TDOk] at h4
  subst h4; exact h3
theorem under_array {t e : TypeId} {n : Nat} (h : tdA C t = some (.array n e)) : P.underlying t = some (.array n e) := by
  simp only [tdA, Option.map_eq_some_iff] at h
  obtain ⟨ti, h1, h2⟩ := h
  obtain ⟨d, h3, h4⟩ := (hC.ty _ _ h1).under
  rw [h2] at h4
  cases d <;> simp [TDOk] at h4
  obtain ⟨rfl, rfl⟩ := h4; exact h3
theorem under_map {t k e : TypeId} (h : tdA C t = some (.map k e)) : P.underlying t = some (.map k e) := by
  simp only [tdA, Option.map_eq_some_iff] at h
  obtain ⟨ti, h1, h2⟩ := h
  obtain ⟨d, h3, h4⟩ := (hC.ty _ _ h1).under
  rw [h2] at h4
  cases d <;> simp [TDOk] at h4
  obtain ⟨rfl, rfl⟩ := h4; exact h3
theorem under_iface {t : TypeId} (h : tdA C t = some .iface) : ∃ ms, P.underlying t = some (.interface ms) := by
  simp only [tdA, Option.map_eq_some_iff] at h
  obtain ⟨ti, h1, h2⟩ := h
  obtain ⟨d, h3, h4⟩ := (hC.ty _ _ h1).under
  rw [h2] at h4
  cases d <;> simp [TDOk] at h4
  exact ⟨_, h3⟩
theorem under_func {t : TypeId} (h : tdA C t = some .func) : ∃ a b c, P.underlying t = some (.func a b c) := by
  simp only [tdA, Option.map_eq_some_iff] at h
  obtain ⟨ti, h1, h2⟩ := h
  obtain ⟨d, h3, h4⟩ := (hC.ty _ _ h1).under
  rw [h2] at h4
  cases d <;> simp [TDOk] at h4
  exact ⟨_, _, _, h3⟩
theorem under_struct {t : TypeId} {gs : List (TypeId × Nat × Nat)} (h : tdA C t = some (.struct gs)) :
    ∃ fs, P.underlying t = some (.struct fs) ∧ fs.toList.map (fun f => (f.type, f.offset, P.cellsOf f.type)) = gs ∧ ∀ f ∈ fs.toList, (P.info? f.type).isSome := by
  simp only [tdA, Option.map_eq_some_iff] at h
  obtain ⟨ti, h1, h2⟩ := h
  obtain ⟨d, h3, h4⟩ := (hC.ty _ _ h1).under
  rw [h2] at h4
  cases d <;> simp only [TDOk] at h4
  exact ⟨_, h3, h4⟩
theorem under_any {t : TypeId} {td : TD} (h : tdA C t = some td) (hi : td ≠ .iface) : ∃ d, P.underlying t = some d ∧ ∀ ms, d ≠ .interface ms := by
  simp only [tdA, Option.map_eq_some_iff] at h
  obtain ⟨ti, h1, h2⟩ := h
  obtain ⟨d, h3, h4⟩ := (hC.ty _ _ h1).under
  refine ⟨d, h3, fun ms e => ?_⟩
  subst e
  rw [h2] at h4
  cases td <;> simp [TDOk] at h4
  exact hi rfl
omit hC in
theorem tdA_of {t : TypeId} {ti : TI} (h : C.ty.get t = some ti) : tdA C t = some ti.td := by simp [tdA, h]

theorem run_sizeOf {t : TypeId} {ti : TI} (h : C.ty.get t = some ti) (w : World) : (sizeOf t).run P w = .ok ti.size w := by
  obtain ⟨i, h1, h2, _⟩ := (hC.ty _ _ h).info
  simp [sizeOf, typeInfo, h1, h2]
theorem run_typeInfo {t : TypeId} {ti : TI} (h : C.ty.get t = some ti) (w : World) : ∃ i, (typeInfo t).run P w = .ok i w ∧ i.size = ti.size ∧ i.bytes = ti.bytes ∧ i.zero = ti.zero := by
  obtain ⟨i, h1, h2⟩ := (hC.ty _ _ h).info
  exact ⟨i, by simp [typeInfo, h1], h2⟩
theorem run_isAgg {t : TypeId} {ti : TI} (h : C.ty.get t = some ti) (w : World) : (isAgg t).run P w = .ok ti.td.agg w := by
  obtain ⟨d, h3, h4⟩ := (hC.ty _ _ h).under
  simp only [isAgg, underlying, Sem.run_bind, run_program, Result.andThen_ok, h3, Sem.run_pure]
  generalize ti.td = x at h4
  cases d <;> cases x <;> first | exact h4.elim | rfl
theorem run_zero {t : TypeId} {ti : TI} {z : Value} (h : C.ty.get t = some ti) (hz : ti.zero = some z) (w : World) : (zeroValue t).run P w = .ok z w := by
  obtain ⟨i, h1, h2, h3, h4⟩ := (hC.ty _ _ h).info
  simp [zeroValue, typeInfo, h1, h4, hz]
omit hC
theorem run_und {t : TypeId} {d : TypeDesc} (h : P.underlying t = some d) (w : World) : (underlying t).run P w = .ok d w := by simp [underlying, h]
end

/-- The slots of a frame. -/
structure EnvRel (μ : Mu) (ρ : Env) (tmps : Array Value) : Prop where
  size : ρ.length = tmps.size
  get : ∀ (t : Nat) (v : Value), ρ[t]? = some (some v) → ∃ v', tmps[t]? = some v' ∧ VRel μ v v'

theorem EnvRel.mono {μ μ' : Mu} (h : μ.le μ') {ρ : Env} {tmps : Array Value} (e : EnvRel μ ρ tmps) : EnvRel μ' ρ tmps :=
  ⟨e.size, fun t v hv => let ⟨v', h1, h2⟩ := e.get t v hv; ⟨v', h1, h2.mono h⟩⟩

theorem EnvRel.put {μ : Mu} {ρ : Env} {a : Act} (e : EnvRel μ ρ a.tmps) (d : Option Tmp) {v v' : Value} (h : VRel μ v v') : EnvRel μ (put ρ d v) (a.put d v').tmps := by
  cases d with
  | none => exact e
  | some d =>
    refine ⟨by simp [Ev.put, Act.put, e.size], fun t u hu => ?_⟩
    simp only [Ev.put, Act.put] at hu ⊢
    by_cases ht : d = t
    · subst ht
      have hl : d < ρ.length := by
        rcases Nat.lt_or_ge d ρ.length with h | h
        · exact h
        · rw [List.getElem?_eq_none (by simpa using h)] at hu; cases hu
      rw [List.getElem?_set_self hl] at hu
      cases hu
      exact ⟨v', by rw [Array.getElem?_setIfInBounds_self_of_lt (by rw [← e.size]; exact hl)], h⟩
    · rw [List.getElem?_set_ne ht] at hu
      rw [Array.getElem?_setIfInBounds_ne ht]
      exact e.get t u hu

theorem look_sound {μ : Mu} {ρ : Env} {a : Act} (e : EnvRel μ ρ a.tmps) {x : Operand} {v : Value} (h : look ρ x = some v) : VRel μ v (a.eval x) := by
  cases x with
  | tmp t =>
    simp only [look] at h
    cases hg : ρ[t]? with
    | none => simp [hg] at h
    | some o =>
      simp [hg] at h; subst h
      obtain ⟨v', h1, h2⟩ := e.get t v hg
      simp only [Act.eval]
      rw [Array.getD_eq_getD_getElem?, h1]
      exact h2
  | const c =>
    simp only [look] at h
    cases hp : plain c with
    | false => simp [hp] at h
    | true => simp [hp] at h; subst h; exact plain_refl hp
  | global g => simp [look] at h
  | func f => simp only [look, Option.some.injEq] at h; subst h; exact .func' (a := []) (c := []) _ .nil .nil

theorem looks_sound {μ : Mu} {ρ : Env} {a : Act} (e : EnvRel μ ρ a.tmps) : ∀ {xs : List Operand} {vs : List Value}, looks ρ xs = some vs → VRelL μ vs (xs.map a.eval)
  | [], vs, h => by simp [looks] at h; subst h; exact .nil
  | x :: xs, vs, h => by
    simp only [looks, Option.bind_eq_some_iff, Option.map_eq_some_iff] at h
    obtain ⟨v, h1, us, h2, rfl⟩ := h
    exact .cons (look_sound e h1) (looks_sound e h2)

theorem lookParts_sound {μ : Mu} {ρ : Env} {a : Act} (e : EnvRel μ ρ a.tmps) : ∀ {xs : List (Nat × Operand)} {vs : List (Nat × Value)}, lookParts ρ xs = some vs →
    All2 (fun p q => p.1 = q.1 ∧ VRel μ p.2 q.2) vs (xs.map fun p => (p.1, a.eval p.2))
  | [], vs, h => by simp [lookParts] at h; subst h; exact .nil
  | (i, x) :: xs, vs, h => by
    simp only [lookParts, Option.bind_eq_some_iff, Option.map_eq_some_iff] at h
    obtain ⟨v, h1, us, h2, rfl⟩ := h
    exact .cons ⟨rfl, look_sound e h1⟩ (lookParts_sound e h2)

section
variable {P : Program} {C : Ctx} (hC : CtxOk P C) {μ : Mu} {B : Nat} {H : AHeap} {w : World}
include hC

theorem loadV_sound (hW : WRel μ B H w) {t : TypeId} {p p' v : Value} (hp : VRel μ p p') (h : loadV C H t p = some v) :
    ∃ v', (Instr.loadAt t p').run P w = .ok v' w ∧ (∃ a, p' = .pointer (some a) ∧ (loadVar t a).run P w = .ok v' w) ∧ VRel μ v v' := by
  unfold loadV at h
  split at h
  · rename_i ti b off hti
    cases hp with
    | ptr _ r n _ hm =>
      simp only [Option.bind_eq_some_iff] at h
      obtain ⟨cs, h1, h2⟩ := h
      obtain ⟨c, ty, fz, cs', g1, g2, g3, g4, g5, g6⟩ := ldCells_sound hW hm h1
      suffices hs : ∃ v', (loadVar t ⟨r, off, none⟩).run P w = .ok v' w ∧ VRel μ v v' by
        obtain ⟨v', e1, e2⟩ := hs
        exact ⟨v', by simp [Instr.loadAt, Instr.sureAddr, e1], ⟨_, rfl, e1⟩, e2⟩
      simp only [loadVar, Sem.run_bind, run_isAgg hC hti, Result.andThen_ok]
      cases ha : ti.td.agg with
      | true =>
        rw [ha] at h2
        simp only [mkVal, Option.some.injEq] at h2
        subst h2
        refine ⟨.agg ⟨cs'⟩, ?_, .agg' g4⟩
        simp [run_sizeOf hC hti, run_loadCells P g1 off ti.size g2, g3]
      | false =>
        rw [ha] at h2
        cases cs with
        | nil => simp [mkVal] at h2
        | cons x xs =>
          cases xs with
          | cons _ _ => simp [mkVal] at h2
          | nil =>
            simp only [mkVal, Option.some.injEq] at h2
            subst h2
            obtain ⟨y, hy, hr⟩ := g4.one
            refine ⟨y, ?_, hr⟩
            have hlt : off < c.size := by simp at g5; omega
            have : c[off]? = some y := by
              have e : ((c.toList.drop off).take ti.size)[0]? = some y := by rw [← g3, hy]; rfl
              rw [List.getElem?_take_of_lt (by simp at g5; omega), List.getElem?_drop] at e
              simpa using e
            simp [cell_of g1, this]
  · simp at h

theorem storeV_sound (hW : WRel μ B H w) {t : TypeId} {p p' v v' : Value} {H' : AHeap} (hp : VRel μ p p') (hv : VRel μ v v') (h : storeV C H t p v = some H') :
    ∃ w', (Instr.storeAt t p' v').run P w = .ok () w' ∧ Went B μ H w μ H' w' := by
  unfold storeV at h
  split at h
  · rename_i ti b off hti
    cases hp with
    | ptr _ r n _ hm =>
      cases hs : (cellsOf v).length.beq ti.size with
      | false => simp [hs] at h
      | true =>
        simp only [hs, cond_true] at h
        have hsz := beq_true hs
        obtain ⟨w', e1, e2⟩ := stCells_sound P hW hm hv.cells h
        refine ⟨w', ?_, e2⟩
        have hl : v'.cells.size = ti.size := by
          have := hv.cells.length
          simp only [cellsOf, Array.length_toList] at this hsz
          omega
        simp only [Instr.storeAt, Instr.sureAddr, storeVar, Sem.run_bind, Sem.run_pure, Result.andThen_ok, run_sizeOf hC hti]
        simp only [hl, ne_eq, not_true_eq_false, if_false]
        simpa [cellsOf] using e1
  · simp at h

omit hC in
/-- A new variable. -/
theorem newVar_sound (hW : WRel μ B H w) (e : TypeId) {c c' : List Value} (hc : VRelL μ c c') :
    ∃ μ' w', (Go.newRow e ⟨c'⟩).run P w = .ok ⟨w.heap.size, 0, none⟩ w' ∧ μ' H.next = some (w.heap.size, c'.length) ∧ Went B μ H w μ' (H.alloc (.cells c e false)) w' := by
  refine ⟨_, w.alloc (.cells ⟨c'⟩ e), by simp [Go.newRow], Mu.put_same _ _ _, hW.alloc (n := c'.length) (ORel.new_cells hW.base ?_)⟩
  exact VRelL.mono (Mu.put_le (hW.dom _ (Nat.le_refl _))) hc

theorem zeroOf_sound {t : TypeId} {z : List Value} (h : zeroOf C t = some z) (w : World) : ∃ v, (zeroValue t).run P w = .ok v w ∧ v.cells.toList = z ∧ plain v = true := by
  simp only [zeroOf, Option.bind_eq_some_iff] at h
  obtain ⟨ti, h1, v, h2, h3⟩ := h
  cases hp : plain v with
  | false => simp [hp] at h3
  | true => simp [hp] at h3; exact ⟨v, run_zero hC h1 h2 w, h3, hp⟩
end

/-- Parts laid into zero cells. -/
theorem foldl_splice : ∀ (vs : List Value) (k off : Nat) (cells : Array Value), off + k + vs.length ≤ cells.size →
    ((vs.zipIdx k).foldl (fun cs (p : Value × Nat) => cs.setIfInBounds (off + p.2) p.1) cells).toList = splice cells.toList (off + k) vs := by
  intro vs
  induction vs with
  | nil => intro k off cells _; simp [splice]
  | cons v vs ih =>
    intro k off cells h
    simp only [List.zipIdx_cons, List.foldl_cons]
    rw [ih (k + 1) off _ (by simp at h ⊢; omega)]
    rw [splice_cons (by simp at h ⊢; omega)]
    simp [Nat.add_assoc]

theorem fillA_sound {μ : Mu} {place place' : Nat → Option (Nat × Nat)} (hpl : ∀ i x, place i = some x → place' i = some x) :
    ∀ {ps : List (Nat × Value)} {qs : List (Nat × Value)} {cells cs : List Value} {cells' : Array Value},
      All2 (fun p q => p.1 = q.1 ∧ VRel μ p.2 q.2) ps qs → VRelL μ cells cells'.toList → fillA place cells ps = some cs →
      ∃ cs', Instr.fill place' cells' qs = some cs' ∧ VRelL μ cs cs'.toList := by
  intro ps
  induction ps with
  | nil =>
    intro qs cells cs cells' h hc hf
    rw [h.nil_right]
    simp only [fillA, Option.some.injEq] at hf
    subst hf
    exact ⟨cells', rfl, hc⟩
  | cons p ps ih =>
    intro qs cells cs cells' h hc hf
    obtain ⟨q, qs', rfl, ⟨e1, e2⟩, t⟩ := h.cons_right
    obtain ⟨i, v⟩ := p
    obtain ⟨j, u⟩ := q
    simp only at e1 e2; subst e1
    simp only [fillA] at hf
    cases hp : place i with
    | none => simp [hp] at hf
    | some x =>
      obtain ⟨off, size⟩ := x
      simp only [hp] at hf
      cases hc2 : ((cellsOf v).length.beq size && (off + (cellsOf v).length).ble cells.length) with
      | false => simp [hc2] at hf
      | true =>
        simp only [hc2, cond_true] at hf
        simp only [Bool.and_eq_true] at hc2
        have l1 := beq_true hc2.1
        have l2 := ble_true hc2.2
        have l3 := e2.cells.length
        have l4 := hc.length
        simp only [cellsOf, Array.length_toList] at l1 l2 l3 l4
        simp only [Instr.fill, hpl _ _ hp]
        have hno : ¬ (u.cells.size ≠ size ∨ off + u.cells.size > cells'.size) := by omega
        simp only [Bool.or_eq_true, decide_eq_true_eq, hno, if_false]
        refine ih t ?_ hf
        have := foldl_splice u.cells.toList 0 off cells' (by simp; omega)
        rw [← Array.foldl_toList, Array.toList_zipIdx]
        simp only [Nat.add_zero] at this
        rw [this]
        exact hc.splice e2.cells off

theorem repl_eq (z : Array Value) (n : Nat) : ((Array.range (n * z.size)).map fun i => z[i % z.size]!).toList = repl n z.toList := by
  induction n with
  | zero => simp [repl]
  | succ n ih =>
    simp only [repl]
    apply List.ext_getElem?
    intro i
    have ih' : ∀ (i : Nat), ((Array.range (n * z.size)).map fun i => z[i % z.size]!).toList[i]? = (repl n z.toList)[i]? := by rw [ih]; simp
    simp only [Array.toList_map, Array.toList_range, List.getElem?_map, List.getElem?_range'] at ih' ⊢
    rw [List.getElem?_append]
    by_cases hi : i < z.size
    · have h1 : i < (n + 1) * z.size := by rw [Nat.succ_mul]; omega
      simp only [Array.length_toList, hi, if_true]
      rw [List.getElem?_range h1]
      simp [Nat.mod_eq_of_lt hi, hi]
    · simp only [Array.length_toList, hi, if_false]
      rw [← ih']
      by_cases h2 : i < (n + 1) * z.size
      · have h3 : i - z.size < n * z.size := by rw [Nat.succ_mul] at h2; omega
        rw [List.getElem?_range h2, List.getElem?_range h3]
        have : (i - z.size) % z.size = i % z.size := by
          conv => rhs; rw [show i = (i - z.size) + z.size by omega]
          rw [Nat.add_mod_right]
        simp [this]
      · have h3 : ¬ i - z.size < n * z.size := by rw [Nat.succ_mul] at h2; omega
        rw [List.getElem?_eq_none (by simpa using h2), List.getElem?_eq_none (by simpa using h3)]

theorem VRelL.repl {μ : Mu} {z : List Value} (h : VRelL μ z z) : ∀ n, VRelL μ (repl n z) (repl n z)
  | 0 => .nil
  | n + 1 => h.append (VRelL.repl h n)

end Go.Ev
