/-
  An interpreter of the model code over plain values, and the relation between its states and the model worlds: the operations. Conditions: those of each theorem.
-/
import GoSem.Dispatch
import Derived.Laws.AppendOwn
import Derived.Below
import Derived.Laws.Entries
import Derived.Laws.Strings
import Derived.Laws.Slices
import Derived.Laws.IdiomCopy
import Derived.Laws.StructEq
import Derived.ChangeKeysEq
import Derived.Laws.Strings2
set_option linter.all false
set_option autoImplicit true
namespace MI
open Go

/-! ### Values -/

inductive V where
  | bool (b : Bool)
  | int (k : IntKind) (n : Int)
  | str (s : List UInt8)
  | nilptr
  | ptr (l g off : Nat)
  | eptr (x : V) (off : Nat)
  | row (xs : List V)
  | own (e : TypeId) (xs : List V)
  | nils
  | msl (l g off len : Nat) (e : TypeId)
  | func (fn : Fn) (first captured : List V)
  | nilfn
  | iface (t : TypeId) (v : V)
  | niliface
  | agg (cs : List V)
  | tuple (vs : List V)
  | junk
  deriving Inhabited

def V.cells : V → List V
  | .agg cs => cs
  | v => [v]

def flatV : List V → List V
  | [] => []
  | x :: r => x.cells ++ flatV r

/-- A copy owns nothing. -/
def V.un : V → V
  | .own _ xs => .row xs
  | v => v

mutual
/-- A copy as a part of another value: empty slices are all alike. -/
def V.unD : V → V
  | .own _ xs => .row xs
  | .nils => .row []
  | .agg cs => .agg (unDL cs)
  | .tuple cs => .tuple (unDL cs)
  | .iface t v => .iface t v.unD
  | v => v
def unDL : List V → List V
  | [] => []
  | v :: r => v.unD :: unDL r
end

/-- The value of one cell. -/
def V.one : V → Bool
  | .agg _ => false
  | .tuple _ => false
  | .junk => false
  | .own _ _ => false
  | _ => true

def oneL : List V → Bool
  | [] => true
  | v :: r => v.one && oneL r

mutual
/-- No way into mutable memory from block n on. -/
def V.low (n : Nat) : V → Bool
  | .ptr l _ _ => Nat.blt l n
  | .msl l _ _ _ _ => Nat.blt l n
  | .agg cs => lowL n cs
  | .tuple cs => lowL n cs
  | .iface _ v => v.low n
  | .func _ a b => lowL n a && lowL n b
  | _ => true
def lowL (n : Nat) : List V → Bool
  | [] => true
  | v :: r => v.low n && lowL n r
end

/-- A block of mutable memory. grow: a row that may be appended to; kind 0: a variable, or a row that may be written; 2: what goes through a text. -/
structure Blk where
  cells : List V
  ty : TypeId
  gen : Nat
  frozen : Bool
  grow : Bool
  kind : Nat
  deriving Inhabited

abbrev Mem := List Blk
abbrev Fr := List V

inductive Out where
  | normal
  | exit (id : Nat)
  | ret

/-- What an evaluation asks on its way. -/
inductive Ask (α : Type) where
  | ret (a : α)
  | fail
  | cond (b : Bool) (k : Bool → Ask α)
  | chk (b : Bool) (k : Ask α)
  | elem (xs : List V) (i : Nat) (k : V → Ask α)
  | call (g : FuncId) (args : List V) (σ : Mem) (k : V → Mem → Ask α)
  | loop (b : Code) (fr : Fr) (σ : Mem) (k : Out → Fr → Mem → Ask α)

def Ask.bind {α β : Type} : Ask α → (α → Ask β) → Ask β
  | .ret a, f => f a
  | .fail, _ => .fail
  | .cond b k, f => .cond b fun x => (k x).bind f
  | .chk b k, f => .chk b (k.bind f)
  | .elem xs i k, f => .elem xs i fun v => (k v).bind f
  | .call g args σ k, f => .call g args σ fun v σ => (k v σ).bind f
  | .loop b fr σ k, f => .loop b fr σ fun o fr σ => (k o fr σ).bind f

def ofO {α : Type} : Option α → Ask α
  | some a => .ret a
  | none => .fail

structure Env where
  call : FuncId → List V → Mem → Option (V × Mem)
  loop : Code → Fr → Mem → Option (Out × Fr × Mem)

def Ask.run {α : Type} (E : Env) : Ask α → Option α
  | .ret a => some a
  | .fail => none
  | .cond b k => (k b).run E
  | .chk b k => match b with | true => k.run E | false => none
  | .elem xs i k => match xs[i]? with | some v => (k v).run E | none => none
  | .call g args σ k => match E.call g args σ with | some (v, σ) => (k v σ).run E | none => none
  | .loop b fr σ k => match E.loop b fr σ with | some (o, fr, σ) => (k o fr σ).run E | none => none

/-! ### What the interpreter knows of a program -/

/-- In which order a region's operations are taken: one next, or one of two. -/
inductive Plan where
  | stop
  | take (i : Nat) (r : Plan)
  | both (i j : Nat) (p q : Plan)
  deriving Inhabited

mutual
/-- Are two values one? -/
def V.same : V → V → Bool
  | .bool a, .bool b => a == b
  | .int k a, .int k' b => k == k' && a == b
  | .str a, .str b => a == b
  | .nilptr, .nilptr => true
  | .ptr l g o, .ptr l' g' o' => Nat.beq l l' && (Nat.beq g g' && Nat.beq o o')
  | .eptr x o, .eptr x' o' => x.same x' && Nat.beq o o'
  | .row a, .row b => sameL a b
  | .own e a, .own e' b => Nat.beq e e' && sameL a b
  | .nils, .nils => true
  | .msl l g o n e, .msl l' g' o' n' e' => Nat.beq l l' && (Nat.beq g g' && (Nat.beq o o' && (Nat.beq n n' && Nat.beq e e')))
  | .nilfn, .nilfn => true
  | .iface t a, .iface t' b => Nat.beq t t' && a.same b
  | .niliface, .niliface => true
  | .agg a, .agg b => sameL a b
  | .tuple a, .tuple b => sameL a b
  | .junk, .junk => true
  | .func (.func f) a b, .func (.func f') a' b' => Nat.beq f f' && (sameL a a' && sameL b b')
  | _, _ => false
def sameL : List V → List V → Bool
  | [], [] => true
  | a :: r, b :: s => a.same b && sameL r s
  | _, _ => false
end

def sameM : Mem → Mem → Bool
  | [], [] => true
  | a :: r, b :: s => (sameL a.cells b.cells && (Nat.beq a.ty b.ty && (Nat.beq a.gen b.gen && (a.frozen == b.frozen && (a.grow == b.grow && Nat.beq a.kind b.kind))))) && sameM r s
  | _, _ => false

structure Cfg where
  P : Program
  fn : FuncId → Option Func
  und : TypeId → Option TypeDesc
  siz : TypeId → Option Nat
  zero : TypeId → Option V
  glob : Nat → Option V
  /-- types whose new variables are never written: their addresses are values -/
  imm : TypeId → Bool
  /-- types in which no interface lies -/
  eqOK : TypeId → Bool
  /-- functions that are handed, and hand back, rows as they are -/
  keep : FuncId → Bool
  /-- functions that are handed no way into memory -/
  mild : FuncId → Bool
  /-- an order for a region that draws its own -/
  ord : FuncId → Nat → Plan
  mutB : FuncId → Bool
  /-- functions whose rows lie in memory that may be written -/
  memF : FuncId → Bool
  ext : FuncId → List V → Option V
  extM : FuncId → List V → Mem → Option (V × Mem)

def cv1 : Value → V
  | .bool b => .bool b
  | .int k n => .int k n
  | .string s => .str s.data.toList
  | .pointer none => .nilptr
  | .slice none 0 0 => .nils
  | .nilFunc => .nilfn
  | .nilIface => .niliface
  | _ => .junk

def cv : Value → V
  | .agg cs => .agg (cs.toList.map cv1)
  | .tuple cs => .tuple (cs.toList.map cv1)
  | .iface t v => .iface t (cv1 v)
  | v => cv1 v

variable (C : Cfg)

def undef' : V := .tuple []

def evalV (fr : Fr) : Operand → V
  | .tmp t => fr.getD t undef'
  | .const v => cv v
  | .global g => match C.glob g with | some v => .eptr v 0 | none => .junk
  | .func f => .func (.func f) [] []

def evalL (fr : Fr) : List Operand → List V
  | [] => []
  | x :: r => evalV C fr x :: evalL fr r

def evalP (fr : Fr) : List (Nat × Operand) → List (Nat × V)
  | [] => []
  | p :: r => (p.1, (evalV C fr p.2).un) :: evalP fr r

def putV (fr : Fr) (dst : Option Tmp) (v : V) : Fr :=
  match dst with
  | some d => fr.set d v
  | none => fr

def isAggT (t : TypeId) : Option Bool :=
  match C.und t with
  | some (.struct _) => some true
  | some (.array _ _) => some true
  | some _ => some false
  | none => none

/-- Part of cells as a value of a type. -/
def partV (t : TypeId) (cs : List V) (off : Nat) : Option V :=
  match isAggT C t, C.siz t with
  | some true, some n => if off + n ≤ cs.length then some (.agg ((cs.drop off).take n)) else none
  | some false, _ => cs[off]?
  | _, _ => none

def getBlk (σ : Mem) (l g : Nat) : Option Blk :=
  match σ[l]? with
  | some b => if b.gen = g ∧ b.kind = 0 then some b else none
  | none => none

def setRange {α : Type} (cs : List α) (off : Nat) : List α → List α
  | [] => cs
  | v :: r => setRange (cs.set off v) (off + 1) r

def loadV (t : TypeId) (σ : Mem) : V → Option V
  | .ptr l g off => match getBlk σ l g with
    | some b => partV C t b.cells off
    | none => none
  | .eptr x off => partV C t x.cells off
  | _ => none

def storeV (t : TypeId) (σ : Mem) (v : V) : V → Option Mem
  | .ptr l g off => match getBlk σ l g, C.siz t with
    | some b, some n =>
      let cs := v.cells
      if !b.frozen && oneL cs && cs.length = n && off + n ≤ b.cells.length then
        some (σ.set l { b with cells := setRange b.cells off cs })
      else none
    | _, _ => none
  | _ => none

def intOp (op : BinOp) (k : IntKind) (a b : Int) : Ask V :=
  match op with
  | .add => .ret (.int k (k.wrap (a + b)))
  | .sub => .ret (.int k (k.wrap (a - b)))
  | .mul => .ret (.int k (k.wrap (a * b)))
  | .quo => .chk (b != 0) (.ret (.int k (k.wrap (a.tdiv b))))
  | .rem => .chk (b != 0) (.ret (.int k (a.tmod b)))
  | .and => .ret (.int k (k.wrap (BitVec.ofInt k.bits a &&& BitVec.ofInt k.bits b).toNat))
  | .or => .ret (.int k (k.wrap (BitVec.ofInt k.bits a ||| BitVec.ofInt k.bits b).toNat))
  | .xor => .ret (.int k (k.wrap (BitVec.ofInt k.bits a ^^^ BitVec.ofInt k.bits b).toNat))
  | .andNot => .ret (.int k (k.wrap (BitVec.ofInt k.bits a &&& ~~~ BitVec.ofInt k.bits b).toNat))
  | .eql => .ret (.bool (a == b))
  | .neq => .ret (.bool (a != b))
  | .lss => .ret (.bool (decide (a < b)))
  | .leq => .ret (.bool (decide (a ≤ b)))
  | .gtr => .ret (.bool (decide (a > b)))
  | .geq => .ret (.bool (decide (a ≥ b)))
  | .shl => .chk (decide (0 ≤ b)) (.ret (.int k (k.wrap (a * 2 ^ (min b.toNat k.bits)))))
  | .shr => .chk (decide (0 ≤ b)) (.ret (.int k (a.fdiv (2 ^ (min b.toNat k.bits)))))

def strOp (op : BinOp) (a b : List UInt8) : Ask V :=
  match op with
  | .add => .chk (decide (a.length + b.length ≤ 9223372036854775807)) (.ret (.str (a ++ b)))
  | .eql => .ret (.bool (a == b))
  | .neq => .ret (.bool (!(a == b)))
  | _ => .fail

def eqFieldsV (eq : TypeId → V → V → Option Bool) (xs ys : List V) : List Field → Option Bool
  | [] => some true
  | f :: r =>
    if f.name = "_" then none else
    match partV C f.type xs f.offset, partV C f.type ys f.offset with
    | some a, some b => match eq f.type a b, eqFieldsV eq xs ys r with
      | some p, some q => some (p && q)
      | _, _ => none
    | _, _ => none

def eqItemsV (eq : TypeId → V → V → Option Bool) (e : TypeId) (k : Nat) (xs ys : List V) : List Nat → Option Bool
  | [] => some true
  | i :: r =>
    match partV C e xs (i * k), partV C e ys (i * k) with
    | some a, some b => match eq e a b, eqItemsV eq e k xs ys r with
      | some p, some q => some (p && q)
      | _, _ => none
    | _, _ => none

/-- '==' at a type: what it says, where it can be told. -/
def eqT : Nat → TypeId → V → V → Option Bool
  | 0, _, _, _ => none
  | d + 1, t, x, y =>
    match C.und t, x, y with
    | some .bool, .bool a, .bool b => some (a == b)
    | some (.int _), .int k a, .int k' b => if k = k' then some (a == b) else none
    | some .string, .str a, .str b => some (a == b)
    | some (.pointer _), .nilptr, .nilptr => some true
    | some (.pointer _), .nilptr, .ptr _ _ _ => some false
    | some (.pointer _), .nilptr, .eptr _ _ => some false
    | some (.pointer _), .ptr _ _ _, .nilptr => some false
    | some (.pointer _), .eptr _ _, .nilptr => some false
    | some (.interface _), .niliface, .niliface => some true
    | some (.interface _), .niliface, .iface _ _ => some false
    | some (.interface _), .iface _ _, .niliface => some false
    | some (.interface _), .iface t _, .iface t' _ => if t = t' then none else some false
    | some (.func _ _ _), .nilfn, .nilfn => some true
    | some (.func _ _ _), .nilfn, .func _ _ _ => some false
    | some (.func _ _ _), .func _ _ _, .nilfn => some false
    | some (.struct fs), .agg xs, .agg ys => eqFieldsV C (eqT d) xs ys fs.toList
    | some (.array n e), .agg xs, .agg ys => match C.siz e with
      | some k => eqItemsV C (eqT d) e k xs ys (List.range n)
      | none => none
    | _, _, _ => none

def isConst : Operand → Bool
  | .const _ => true
  | _ => false

def eqV (t : TypeId) (c : Bool) (x y : V) : Option Bool :=
  match x, y with
  | .niliface, .niliface => if c then eqT C 20 t x y else none
  | .agg _, .agg _ => if C.eqOK t then eqT C 20 t x y else none
  | x, y => eqT C 20 t x y

def binV (op : BinOp) (t : TypeId) (c : Bool) (x y : V) : Ask V :=
  match x, y with
  | .int k a, .int k' b =>
    match op with
    | .shl => intOp op k a b
    | .shr => intOp op k a b
    | _ => if k = k' then intOp op k a b else .fail
  | .str a, .str b => strOp op a b
  | x, y =>
    match op with
    | .eql => match eqV C t c x y with | some b => .ret (.bool b) | none => .fail
    | .neq => match eqV C t c x y with | some b => .ret (.bool (!b)) | none => .fail
    | _ => .fail

def unV (op : UnOp) (x : V) : Ask V :=
  match op, x with
  | .not, .bool b => .ret (.bool (!b))
  | .neg, .int k n => .ret (.int k (k.wrap (0 - n)))
  | .xor, .int k n => intOp .xor k (if k.signed then -1 else k.max) n
  | _, _ => .fail

def byteV (b : UInt8) : V := .int .u8 b.toNat

def bytesOf : List V → Option (List UInt8)
  | [] => some []
  | .int .u8 n :: r => match bytesOf r with
    | some l => some (UInt8.ofNat n.toNat :: l)
    | none => none
  | _ => none

def okBytes : List V → Bool
  | [] => true
  | .int .u8 n :: r => decide (0 ≤ n ∧ n < 256) && okBytes r
  | _ => false

/-- n elements of size k out of cells. -/
def elems (agg : Bool) (k : Nat) : Nat → List V → List V
  | 0, _ => []
  | n + 1, cs => (if agg then .agg (cs.take k) else cs.headD .junk) :: elems agg k n (cs.drop k)

/-- A slice of mutable memory, as a list of elements. -/
def readMsl (e : TypeId) (σ : Mem) (l g off len : Nat) : Option (List V) :=
  match getBlk σ l g, isAggT C e, C.siz e with
  | some b, some agg, some k =>
    if (off + len) * k ≤ b.cells.length ∧ 0 < k ∧ (agg = true ∨ k = 1) then some (elems agg k len (b.cells.drop (off * k))) else none
  | _, _, _ => none

def elemT (t : TypeId) : Option TypeId :=
  match C.und t with
  | some (.slice e) => some e
  | _ => none

def isByteT (e : TypeId) : Bool :=
  match C.und e, C.siz e with
  | some (.int .u8), some 1 => true
  | _, _ => false

def newRow (σ : Mem) (e : TypeId) (cs : List V) (len : Nat) (grow : Bool) : V × Mem := (.msl σ.length 0 0 len e, σ ++ [⟨cs, e, 0, false, grow, 0⟩])

def convV (f : FuncId) (src dst : TypeId) (x : V) (σ : Mem) : Ask (V × Mem) :=
  match C.und src, C.und dst, x with
  | some _, some (.int k), .int _ n => .ret (.int k (k.wrap n), σ)
  | some (.int _), some .string, .int _ n => .ret (.str (Utf8.encode n).data.toList, σ)
  | some .string, some .string, .str s => .ret (.str s, σ)
  | some .string, some (.slice e), .str s =>
    if isByteT C e then
      (if C.mutB f then .ret (newRow σ e (s.map byteV) s.length false) else .ret (.row (s.map byteV), σ))
    else .fail
  | some (.slice e), some .string, x =>
    if isByteT C e then
      match x with
      | .row xs => match bytesOf xs with | some s => .ret (.str s, σ) | none => .fail
      | .own _ xs => match bytesOf xs with | some s => .ret (.str s, σ) | none => .fail
      | .nils => .ret (.str [], σ)
      | .msl l g off len e' => if e' = e then match readMsl C e σ l g off len with
        | some xs => match bytesOf xs with | some s => .ret (.str s, σ) | none => .fail
        | none => .fail
        else .fail
      | _ => .fail
    else .fail
  | _, _, _ => .fail

/-- So many cells has each element. -/
def headK (k : Nat) : List V → Bool
  | [] => true
  | x :: _ => x.cells.length == k

def inB (n : Int) (m : Nat) : Bool := decide (0 ≤ n ∧ n ≤ (m : Int))

/-- The bounds of a slice expression over so many places. -/
def bounds (lo hi : Option V) (len : Nat) (k : Nat → Nat → Ask V) : Ask V :=
  match hi with
  | none => match lo with
    | none => k 0 len
    | some (.int _ n) => .chk (inB n len) (k n.toNat len)
    | some _ => .fail
  | some (.int _ m) => .chk (inB m len) (match lo with
    | none => k 0 m.toNat
    | some (.int _ n) => .chk (inB n m.toNat) (k n.toNat m.toNat)
    | some _ => .fail)
  | some _ => .fail

/-- Part of a row. -/
def rowPart (e : TypeId) (xs : List V) (lo hi : Option V) : Ask V :=
  match C.siz e with
  | none => .fail
  | some k => match lo with
    | none => bounds lo hi xs.length fun l h => .ret (.row ((xs.take h).drop l))
    | some _ => .chk (headK k xs) (bounds lo hi xs.length fun l h => .ret (.row ((xs.take h).drop l)))

def sliceV (t : TypeId) (σ : Mem) (x : V) (lo hi : Option V) : Ask V :=
  match C.und t, x with
  | some .string, .str s => bounds lo hi s.length fun l h => .ret (.str ((s.take h).drop l))
  | some (.slice e), .row xs => rowPart C e xs lo hi
  | some (.slice e), .own _ xs => rowPart C e xs lo hi
  | some (.slice e), .nils => match C.siz e with
    | some _ => bounds lo hi 0 fun _ _ => .ret .nils
    | none => .fail
  | some (.slice e), .msl a g off len e' => match C.siz e with
    | some _ => if e = e' then bounds lo hi len fun l h => .ret (.msl a g (off + l) (h - l) e') else .fail
    | none => .fail
  | some (.array n e), .ptr a g 0 => match getBlk σ a g, C.siz e with
    | some b, some _ => if b.grow then .fail else bounds lo hi n fun l h => .ret (.msl a g l (h - l) e)
    | _, _ => .fail
  | some (.array n e), .eptr x off => match isAggT C e, C.siz e with
    | some agg, some k => if (agg = true ∨ k = 1) ∧ 0 < k ∧ off + n * k ≤ x.cells.length then bounds lo hi n fun l h => .ret (.row (((elems agg k n (x.cells.drop off)).take h).drop l)) else .fail
    | _, _ => .fail
  | _, _ => .fail

def ltB (n : Int) (m : Nat) : Bool := decide (0 ≤ n ∧ n < (m : Int))

def indexAddrV (t : TypeId) (x i : V) : Ask V :=
  match i with
  | .int _ n =>
    match C.und t, x with
    | some (.slice e), .row xs => match C.siz e with
      | some k => .chk (decide (0 ≤ n)) (.elem xs n.toNat fun v => if v.cells.length = k then .ret (.eptr v 0) else .fail)
      | none => .fail
    | some (.slice e), .own _ xs => match C.siz e with
      | some k => .chk (decide (0 ≤ n)) (.elem xs n.toNat fun v => if v.cells.length = k then .ret (.eptr v 0) else .fail)
      | none => .fail
    | some (.slice e), .msl l g off len e' => match C.siz e with
      | some k => if e = e' then .chk (ltB n len) (.ret (.ptr l g ((off + n.toNat) * k))) else .fail
      | none => .fail
    | some (.array len e), .ptr l g off => match C.siz e with
      | some k => .chk (ltB n len) (.ret (.ptr l g (off + n.toNat * k)))
      | none => .fail
    | some (.array len e), .eptr x off => match C.siz e with
      | some k => .chk (ltB n len) (.ret (.eptr x (off + n.toNat * k)))
      | none => .fail
    | _, _ => .fail
  | _ => .fail

def indexV (t : TypeId) (x i : V) : Ask V :=
  match i with
  | .int _ n =>
    match C.und t, x with
    | some .string, .str s => .chk (ltB n s.length) (.ret (byteV (s.getD n.toNat 0)))
    | some (.array len e), .agg cs => match C.siz e with
      | some k => .chk (ltB n len) (match partV C e cs (n.toNat * k) with | some v => .ret v.un | none => .fail)
      | none => .fail
    | _, _ => .fail
  | _ => .fail

def fieldAt (s : TypeId) (f : Nat) : Option (Nat × TypeId) :=
  match C.und s with
  | some (.struct fs) => match fs[f]? with
    | some f => some (f.offset, f.type)
    | none => none
  | _ => none

def lenV (t : TypeId) (x : V) : Option Nat :=
  match C.und t, x with
  | some .string, .str s => some s.length
  | some (.slice _), .row xs => some xs.length
  | some (.slice _), .own _ xs => some xs.length
  | some (.slice _), .nils => some 0
  | some (.slice _), .msl _ _ _ len _ => some len
  | some (.array n _), _ => some n
  | _, _ => none

def findP (i : Nat) : List (Nat × V) → Option V
  | [] => none
  | p :: r => if p.1 = i then some p.2 else findP i r

/-- Cells with parts laid over them, in order. -/
def layV (place : Nat → Option (Nat × Nat)) (cs : List V) : List (Nat × V) → Option (List V)
  | [] => some cs
  | p :: r => match place p.1 with
    | some (off, size) =>
      if p.2.cells.length = size ∧ off + size ≤ cs.length ∧ oneL p.2.cells then layV place (setRange cs off p.2.cells) r else none
    | none => none

def placesV : List Field → Option (List (Nat × Nat))
  | [] => some []
  | f :: r => match C.siz f.type, placesV r with
    | some n, some l => some ((f.offset, n) :: l)
    | _, _ => none

def repL {α : Type} (cs : List α) : Nat → List α
  | 0 => []
  | n + 1 => cs ++ repL cs n

/-- Does a region append to a temporary, or hand it to a function that does? -/
def takes (t : Tmp) (o : Oper) : Bool :=
  match o.op with
  | .call c => match c.callee, c.args.toList with
    | .builtin .append, Operand.tmp u :: _ => u == t
    | .value (.func g), Operand.tmp u :: _ => C.keep g && u == t
    | _, _ => false
  | _ => false

def takesL (t : Tmp) : List Oper → Bool
  | [] => false
  | o :: r => takes C t o || takesL t r

/-- What is appended, as elements; do they hold no way into memory? -/
def srcV (e : TypeId) (σ : Mem) (x : V) : Option (List V × Bool) :=
  match x with
  | .row xs => some (xs, true)
  | .own _ xs => some (xs, true)
  | .nils => some ([], true)
  | .str s => some (s.map byteV, true)
  | .msl l g off len e' => if e = e' then match readMsl C e σ l g off len with
    | some xs => some (xs, lowL 0 xs)
    | none => none
    else none
  | _ => none

def mostRow : Nat := 4294967296

def appendV (t : TypeId) (x y : V) (σ : Mem) : Ask (V × Mem) :=
  match elemT C t with
  | none => .fail
  | some e =>
    match srcV C e σ y, C.siz e, C.zero e with
    | some (ys, low), some k, some z =>
      if k = 0 ∨ z.cells.length ≠ k then .fail else
      .chk (headK k ys) <|
      match x with
      | .own e' xs => if e = e' ∧ low = true then .chk (decide (xs.length + ys.length ≤ mostRow)) (.ret (.own e (xs ++ ys), σ)) else .fail
      | .nils => .chk (decide (ys.length ≤ mostRow)) (.cond ys.isEmpty fun t => match t with
          | true => .ret (.nils, σ)
          | false => .ret (newRow σ e (flatV ys) ys.length true))
      | .msl l g off len e' => match getBlk σ l g with
        | some b =>
          if b.frozen || !b.grow || off != 0 || e != e' || e != b.ty || len * k > b.cells.length then .fail else
          .chk (decide (len + ys.length ≤ mostRow))
            (.ret (.msl l (g + 1) 0 (len + ys.length) e, σ.set l { b with cells := b.cells.take (len * k) ++ flatV ys, gen := g + 1 }))
        | none => .fail
      | _ => .fail
    | _, _, _ => .fail

/- An argument, or a result, of another function: mutable slices are told as rows, and written no more. -/
mutual
def frz : V → Mem → Option (V × Mem)
  | .msl l g off len e, σ => match readMsl C e σ l g off len, σ[l]? with
    | some xs, some b => if lowL 0 xs && oneL (flatV xs) then some (.row xs, σ.set l { b with frozen := true }) else none
    | _, _ => none
  | .agg cs, σ => match frzL cs σ with
    | some (cs, σ) => some (.agg cs, σ)
    | none => none
  | .tuple cs, σ => match frzL cs σ with
    | some (cs, σ) => some (.tuple cs, σ)
    | none => none
  | .own _ xs, σ => some (.row xs, σ)
  | .nils, σ => some (.row [], σ)
  | .iface t v, σ => match frz v σ with
    | some (v, σ) => some (.iface t v, σ)
    | none => none
  | v, σ => some (v, σ)
def frzL : List V → Mem → Option (List V × Mem)
  | [], σ => some ([], σ)
  | v :: r, σ => match frz v σ with
    | some (v, σ) => match frzL r σ with
      | some (r, σ) => some (v :: r, σ)
      | none => none
    | none => none
end

def resL (fr : Fr) (σ : Mem) : List ResultVar → Option (List V)
  | [] => some []
  | .tmp t :: r => match resL fr σ r with | some l => some (fr.getD t undef' :: l) | none => none
  | .cell a t :: r => match loadV C t σ (fr.getD a undef') with
    | some v => match resL fr σ r with | some l => some (v :: l) | none => none
    | none => none

def resultsV (fn : Func) (fr : Fr) (σ : Mem) : Option V :=
  match resL C fr σ fn.results.toList with
  | some [v] => some v
  | some vs => some (.tuple vs)
  | none => none

def lowBlks (n : Nat) : List Blk → Bool
  | [] => true
  | b :: r => lowL n b.cells && lowBlks n r

/-- Behind a call: what nobody can reach any more goes. -/
def gc (n : Nat) (v : V) (σ : Mem) : Mem :=
  if v.low n && lowBlks n (σ.take n) then σ.take n else σ

mutual
/-- Behind so many other blocks. -/
def shift (n : Nat) : V → V
  | .ptr l g off => .ptr (n + l) g off
  | .msl l g off len e => .msl (n + l) g off len e
  | .agg cs => .agg (shiftL n cs)
  | .tuple cs => .tuple (shiftL n cs)
  | .iface t v => .iface t (shift n v)
  | .func f a b => .func f (shiftL n a) (shiftL n b)
  | v => v
def shiftL (n : Nat) : List V → List V
  | [] => []
  | v :: r => shift n v :: shiftL n r
end

def shiftB (n : Nat) : List Blk → List Blk
  | [] => []
  | b :: r => { b with cells := shiftL n b.cells } :: shiftB n r

/-- What a function's body is run by. -/
abbrev Exec := FuncId → Code → Fr → Mem → Option (Out × Fr × Mem)

def enterF (E : Exec) (f : FuncId) (fn : Func) (args : List V) (σ : Mem) : Option (V × Mem) :=
  match fn.body with
  | none => none
  | some c =>
    match E f c (args ++ List.replicate (fn.ntmps - args.length) undef') σ with
    | some (.exit _, _, _) => none
    | some (_, fr', σ') => match resultsV C fn fr' σ' with
      | some v => some (v, σ')
      | none => none
    | none => none

/-- A body, and what it hands back. -/
def bodyF (E : Exec) (f : FuncId) (fn : Func) (args : List V) (σ : Mem) : Option (V × Mem) :=
  match enterF C E f fn args σ with
  | some (v, σ') => match C.keep f with
    | true => some (v, σ')
    | false => frz C v σ'
  | none => none

/-- A call whose arguments are at rest. -/
def callG (E : Exec) (f : FuncId) (args : List V) (σ : Mem) : Option (V × Mem) :=
  match C.ext f args with
  | some r => some (r, σ)
  | none =>
  match C.extM f args σ with
  | some r => some r
  | none =>
    match C.fn f with
    | none => none
    | some fn =>
      match lowL 0 args with
      | true => match bodyF C E f fn args [] with
        | some (v, σ') => match v.low 0 with
          | true => some (v, σ)
          | false => some (shift σ.length v, σ ++ shiftB σ.length σ')
        | none => none
      | false => match bodyF C E f fn args σ with
        | some (v, σ') => some (v, gc σ.length v σ')
        | none => none

/-- A call. -/
def callF (E : Exec) (f : FuncId) (args : List V) (σ : Mem) : Option (V × Mem) :=
  match C.keep f with
  | true => callG C E f args σ
  | false => match frzL C args σ with
    | some (args, σ) => callG C E f args σ
    | none => none

abbrev Got := V × Fr × Mem

def unL : List V → List V
  | [] => []
  | v :: r => v.un :: unL r

def got (fr : Fr) (σ : Mem) (v : Option V) : Ask Got :=
  match v with
  | some v => .ret (v, fr, σ)
  | none => .fail

def gotA (fr : Fr) (σ : Mem) (v : Ask V) : Ask Got := v.bind fun v => .ret (v, fr, σ)

def unTmp (fr : Fr) : Operand → Fr
  | .tmp t => fr.set t (fr.getD t undef').un
  | _ => fr

/-- A variable's value: a nil slice is an empty row of its own. -/
def slotV (t : TypeId) (v : V) : V :=
  match v with
  | .nils => match elemT C t with
    | some e => match C.siz e with
      | some (_ + 1) => .own e []
      | _ => .nils
    | none => .nils
  | v => v

/-- One operation: its value, the frame (of which a row may have been taken), the memory. -/
def opV (f : FuncId) (ops : List Oper) (o : Oper) (fr : Fr) (σ : Mem) : Ask Got :=
  match o.op with
  | .move x =>
    match o.dst with
    | some d => if takesL C d ops then .ret (evalV C fr x, unTmp fr x, σ) else .ret ((evalV C fr x).un, fr, σ)
    | none => .ret ((evalV C fr x).un, fr, σ)
  | .assign x => match C.memF f with
    | true => .ret (evalV C fr x, unTmp fr x, σ)
    | false => .ret (slotV C o.type (evalV C fr x), unTmp fr x, σ)
  | .pick c a b => match evalV C fr c with
    | .bool t => .cond t fun t => match t with
      | true => .ret ((evalV C fr a).un, fr, σ)
      | false => .ret ((evalV C fr b).un, fr, σ)
    | _ => .fail
  | .alloc e => match C.zero e with
    | some z => .ret (.ptr σ.length 0 0, fr, σ ++ [⟨z.cells, e, 0, false, false, 0⟩])
    | none => .fail
  | .box e x =>
    if C.imm e then
      (if (evalV C fr x).unD.low 0 && oneL (evalV C fr x).unD.cells then .ret (.eptr (evalV C fr x).unD 0, fr, σ) else .fail)
    else
      if oneL (evalV C fr x).un.cells then .ret (.ptr σ.length 0 0, fr, σ ++ [⟨(evalV C fr x).un.cells, e, 0, false, false, 0⟩]) else .fail
  | .build t parts =>
    match C.zero t, C.und t with
    | some z, some (.struct fs) => match placesV C fs.toList with
      | some ps => match layV (fun i => ps[i]?) z.cells (evalP C fr parts.toList) with
        | some cs => .ret (.agg cs, fr, σ)
        | none => .fail
      | none => .fail
    | some z, some (.array _ e) => match C.siz e with
      | some k => match layV (fun i => some (i * k, k)) z.cells (evalP C fr parts.toList) with
        | some cs => .ret (.agg cs, fr, σ)
        | none => .fail
      | none => .fail
    | _, _ => .fail
  | .buildSlice t len parts =>
    match elemT C t with
    | none => .fail
    | some e => match C.zero e, isAggT C e, C.siz e with
      | some z, some agg, some k =>
        if z.cells.length = k ∧ 0 < k ∧ len * k ≤ 16777216 ∧ (agg = true ∨ k = 1) then
          match layV (fun i => some (i * k, k)) (repL z.cells len) (evalP C fr parts.toList) with
          | some cs =>
            if C.mutB f then .ret ((newRow σ e cs len false).1, fr, (newRow σ e cs len false).2)
            else if lowL 0 cs then .ret (.own e (elems agg k len (unDL cs)), fr, σ)
            else if len = 0 then .fail else .ret ((newRow σ e cs len true).1, fr, (newRow σ e cs len true).2)
          | none => .fail
        else .fail
      | _, _, _ => .fail
  | .load t x => got fr σ (loadV C t σ (evalV C fr x))
  | .store t a x => match storeV C t σ (evalV C fr x).un (evalV C fr a) with
    | some σ' => .ret (undef', fr, σ')
    | none => .fail
  | .nilCheck x => match evalV C fr x with
    | .ptr l g o => .ret (.ptr l g o, fr, σ)
    | .eptr x o => .ret (.eptr x o, fr, σ)
    | .func (.func a) b c => .ret (.func (.func a) b c, fr, σ)
    | _ => .fail
  | .binOp op t x y _ => gotA fr σ (binV C op t (isConst x || isConst y) (evalV C fr x) (evalV C fr y))
  | .unOp op _ x => gotA fr σ (unV op (evalV C fr x))
  | .convert src dst x =>
    match elemT C src, (evalV C fr x).un with
    | some e, .msl l g 0 len e' =>
      if src = dst then
        match getBlk σ l g with
        | some b => if isByteT C e && !b.grow then .ret (.msl l g 0 len e', fr, σ) else .fail
        | none => .fail
      else (convV C f src dst (.msl l g 0 len e') σ).bind fun p => .ret (p.1, fr, p.2)
    | _, v => (convV C f src dst v σ).bind fun p => .ret (p.1, fr, p.2)
  | .makeInterface t x => match C.und t with
    | some (.interface _) => .fail
    | some _ => .ret (.iface t (evalV C fr x).unD, fr, σ)
    | none => .fail
  | .makeFunc fn first captured => .ret (.func fn (unDL (evalL C fr first.toList)) (unDL (evalL C fr captured.toList)), fr, σ)
  | .makeSlice t l c => match evalV C fr l, evalV C fr c, elemT C t with
    | .int .i64 l, .int .i64 c, some e => match C.zero e, C.siz e with
      | some z, some k =>
        if z.cells.length = k ∧ 0 < k then
          .chk (decide (0 ≤ l ∧ l ≤ c ∧ c ≤ (mostRow : Int))) (.cond (decide (l = 0)) fun b => match b with
            | true => .ret (.own e [], fr, σ)
            | false => .ret ((newRow σ e (repL z.cells l.toNat) l.toNat true).1, fr, (newRow σ e (repL z.cells l.toNat) l.toNat true).2))
        else .fail
      | _, _ => .fail
    | _, _, _ => .fail
  | .slice t x lo hi mx => match mx with
    | none => gotA fr σ (sliceV C t σ (evalV C fr x) (lo.map (evalV C fr)) (hi.map (evalV C fr)))
    | some _ => .fail
  | .fieldAddr s x i => match fieldAt C s i with
    | some (off, t) => match C.siz t with
      | some (_ + 1) => match evalV C fr x with
        | .ptr l g o => .ret (.ptr l g (o + off), fr, σ)
        | .eptr v o => .ret (.eptr v (o + off), fr, σ)
        | _ => .fail
      | _ => .fail
    | none => .fail
  | .field s x i => match fieldAt C s i with
    | some (off, t) => match evalV C fr x with
      | .agg cs => match partV C t cs off with
        | some v => .ret (v.un, fr, σ)
        | none => .fail
      | _ => .fail
    | none => .fail
  | .indexAddr t x i => gotA fr σ (indexAddrV C t (evalV C fr x) (evalV C fr i))
  | .index t x i => gotA fr σ (indexV C t (evalV C fr x) (evalV C fr i))
  | .extract x i => match evalV C fr x with
    | .tuple vs => match vs[i]? with
      | some v => .ret (v.un, fr, σ)
      | none => .fail
    | _ => .fail
  | .typeAssert x _ asserted commaOk => match evalV C fr x, C.und asserted with
    | .iface _ _, some (.interface _) => .fail
    | .iface t v, some _ =>
      if t = asserted then .ret (if commaOk then .tuple [v.un, .bool true] else v.un, fr, σ)
      else if commaOk then (match C.zero asserted with | some z => .ret (.tuple [z, .bool false], fr, σ) | none => .fail) else .fail
    | .niliface, some _ => if commaOk then (match C.zero asserted with | some z => .ret (.tuple [z, .bool false], fr, σ) | none => .fail) else .fail
    | _, _ => .fail
  | .call c =>
    match c.callee with
    | .builtin .len => match c.args.toList, c.argTypes.toList with
      | [x], [t] => match lenV C t (evalV C fr x) with
        | some n => .ret (.int .i64 n, fr, σ)
        | none => .fail
      | _, _ => .fail
    | .builtin .append => match c.args.toList, c.argTypes.toList with
      | [x, y], [t, t'] => match C.und t' with
        | some (.int _) => .fail
        | some _ => (appendV C t (evalV C fr x) (evalV C fr y) σ).bind fun p => .ret (p.1, unTmp fr x, p.2)
        | none => .fail
      | _, _ => .fail
    | .builtin .min => match evalL C fr c.args.toList with
      | [.int k a, .int _ b] => .ret (.int k (if b < a then b else a), fr, σ)
      | _ => .fail
    | .builtin .max => match evalL C fr c.args.toList with
      | [.int k a, .int _ b] => .ret (.int k (if b > a then b else a), fr, σ)
      | _ => .fail
    | .builtin .unsafeSliceData => match c.args.toList with
      | [x] => match evalV C fr x with
        | .nils => .ret (.nilptr, fr, σ)
        | .msl l g 0 (_ + 1) e => if isByteT C e then .ret (.ptr l g 0, fr, σ) else .fail
        | _ => .fail
      | _ => .fail
    | .builtin .unsafeString => match c.args.toList with
      | [x, y] => match evalV C fr x, evalV C fr y with
        | .nilptr, .int .i64 n => match c.argTypes.toList with
          | [_, _] => .chk (n == 0) (.ret (.str [], fr, σ))
          | _ => .fail
        | .ptr l g 0, .int .i64 n => match getBlk σ l g, c.argTypes.toList with
          | some b, [pt, _] =>
            match C.und pt with
            | some (.pointer e) =>
              if e = b.ty && isByteT C b.ty && b.grow && decide (0 < b.cells.length) && decide (b.cells.length ≤ mostRow) && okBytes b.cells then
                match bytesOf b.cells with
                | some s => .chk (n == (b.cells.length : Int)) (.ret (.str s, fr, σ.set l { b with frozen := true }))
                | none => .fail
              else .fail
            | _ => .fail
          | _, _ => .fail
        | _, _ => .fail
      | _ => .fail
    | .builtin _ => .fail
    | .value g => match evalV C fr g with
      | .func (.func g) first captured => match C.keep g with
        | true => match first, captured, c.args.toList with
          | [], [], x :: r => .call g (evalV C fr x :: unL (evalL C fr r)) σ fun v σ' => .ret (v, unTmp fr x, σ')
          | _, _, _ => .fail
        | false => .call g (first ++ evalL C fr c.args.toList ++ captured) σ fun v σ' => .ret (v, fr, σ')
      | _ => .fail
    | .invoke _ _ => .fail
  | _ => .fail

/-- Is an operation wanted, by its guard? -/
def wantedV (ops : List Oper) (fr : Fr) (o : Oper) (k : Bool → Ask α) : Ask α :=
  match o.guard with
  | none => k true
  | some (j, want) => match ops[j]? with
    | some p => match p.dst with
      | some d => match fr[d]? with
        | some (.bool b) => .cond b fun b => k (b == want)
        | some (.tuple []) => k false
        | _ => .fail
      | none => .fail
    | none => .fail

def opsV (f : FuncId) (all : List Oper) : List Oper → Fr → Mem → Ask (Fr × Mem)
  | [], fr, σ => .ret (fr, σ)
  | o :: r, fr, σ => wantedV all fr o fun w => match w with
    | true => (opV C f all o fr σ).bind fun p => opsV f all r (putV p.2.1 o.dst p.1) p.2.2
    | false => opsV f all r (putV fr o.dst undef') σ

/-- What an operation's doing hangs on, and what it does: 0 nothing; 1 it looks at memory; 2 it makes new memory; 3 whatever else. -/
def kindO (o : Oper) : Nat :=
  match o.op with
  | .move _ | .assign _ | .pick _ _ _ | .nilCheck _ | .binOp _ _ _ _ _ | .unOp _ _ _ | .makeInterface _ _ | .makeFunc _ _ _ | .slice _ _ _ _ _ | .fieldAddr _ _ _ | .field _ _ _ | .indexAddr _ _ _ | .index _ _ _ | .extract _ _ | .typeAssert _ _ _ _ | .build _ _ => 0
  | .load _ _ => 1
  | .convert s d _ => if s = d then 3 else match C.und d with
    | some .string => 1
    | _ => 2
  | .alloc _ | .box _ _ | .buildSlice _ _ _ | .makeSlice _ _ _ => 2
  | .call c => match c.callee with
    | .builtin .len | .builtin .min | .builtin .max | .builtin .unsafeSliceData => 0
    | .builtin _ => 3
    | .value (.func g) => if C.keep g then 3 else if C.mild g then 2 else 3
    | _ => 3
  | _ => 3

/-- Is a call that may come before a load handed no way into memory? -/
def lowArgs (fr : Fr) (o : Oper) : Bool :=
  match o.op with
  | .call c => match c.callee with
    | .value (.func _) => lowL 0 (evalL C fr c.args.toList)
    | _ => true
  | _ => true

/-- One operation of a region of its own order. -/
def stepV (f : FuncId) (all : List Oper) (i : Nat) (fr : Fr) (σ : Mem) (k : Fr → Mem → Ask (Fr × Mem)) : Ask (Fr × Mem) :=
  match all[i]? with
  | none => .fail
  | some o => wantedV all fr o fun w => match w with
    | true => match kindO C o == 2 && !lowArgs C fr o with
      | true => .fail
      | false => (opV C f all o fr σ).bind fun p => k (putV p.2.1 o.dst p.1) p.2.2
    | false => k (putV fr o.dst undef') σ

/-- What a region of its own order does, by a plan. -/
def drawV (f : FuncId) (all : List Oper) : Plan → Fr → Mem → Ask (Fr × Mem)
  | .stop, fr, σ => .ret (fr, σ)
  | .take i r, fr, σ => stepV C f all i fr σ (drawV f all r)
  | .both i j p q, fr, σ => (stepV C f all i fr σ (drawV f all p)).bind fun x => (stepV C f all j fr σ (drawV f all q)).bind fun y =>
      .chk (sameL x.1 y.1 && sameM x.2 y.2) (.ret x)

def junkHigh (n : Nat) : Fr → Fr
  | [] => []
  | v :: r => (match v.low n with | true => v | false => .junk) :: junkHigh n r

/-- At a round's end: what the round alone has made goes. -/
def sweep (n : Nat) (fr : Fr) (σ : Mem) : Fr × Mem :=
  match lowBlks n (σ.take n) with
  | true => (junkHigh n fr, σ.take n)
  | false => (fr, σ)

abbrev Res := Out × Fr × Mem

def thenA (x : Ask Res) (k : Fr → Mem → Ask Res) : Ask Res :=
  x.bind fun r => match r.1 with
    | .normal => k r.2.1 r.2.2
    | .exit id => .ret (.exit id, r.2.1, r.2.2)
    | .ret => .ret (.ret, r.2.1, r.2.2)

/-- A stretch of code, its loops and calls asked for. -/
def codeA (f : FuncId) : Code → Fr → Mem → Ask Res
  | .skip, fr, σ => .ret (.normal, fr, σ)
  | .seq a b, fr, σ => thenA (codeA f a fr σ) (codeA f b)
  | .cond c a b, fr, σ => match evalV C fr c with
    | .bool t => .cond t fun t => match t with
      | true => codeA f a fr σ
      | false => codeA f b fr σ
    | _ => .fail
  | .block id c, fr, σ => (codeA f c fr σ).bind fun r => match r.1 with
    | .exit j => if j = id then .ret (.normal, r.2.1, r.2.2) else .ret r
    | _ => .ret r
  | .loop b, fr, σ => .loop b fr σ fun o fr σ => .ret (o, fr, σ)
  | .exit id, fr, σ => .ret (.exit id, fr, σ)
  | .ret, fr, σ => .ret (.ret, fr, σ)
  | .region _ ops false, fr, σ => (opsV C f ops.toList ops.toList fr σ).bind fun p => .ret (.normal, p.1, p.2)
  | .region id ops true, fr, σ => (drawV C f ops.toList (C.ord f id) fr σ).bind fun p => .ret (.normal, p.1, p.2)
  | _, _, _ => .fail

/-- A loop, so many rounds at most. -/
def loopN (E : Env) (f : FuncId) (b : Code) : Nat → Fr → Mem → Option Res
  | 0, _, _ => none
  | n + 1, fr, σ => match (codeA C f b fr σ).run E with
    | some (.normal, fr', σ') => match C.memF f with
      | true => loopN E f b n fr' σ'
      | false => loopN E f b n (sweep σ.length fr' σ').1 (sweep σ.length fr' σ').2
    | some r => some r
    | none => none

/-- Calls and loops nested so deep at most. -/
def envN : Nat → FuncId → Env
  | 0, _ => ⟨fun _ _ _ => none, fun _ _ _ => none⟩
  | n + 1, f => ⟨fun g args σ => callF C (fun f c fr σ => (codeA C f c fr σ).run (envN n f)) g args σ, fun b fr σ => loopN C (envN n f) f b n fr σ⟩

def exec (n : Nat) (f : FuncId) (c : Code) (fr : Fr) (σ : Mem) : Option Res := (codeA C f c fr σ).run (envN C n f)

def runF (n : Nat) (f : FuncId) (args : List V) (σ : Mem) : Option (V × Mem) := (envN C n f).call f args σ

end MI

namespace MI
open Go

/-! ### What a value stands for -/

/-- Cells that never change any more. -/
abbrev Kf := Addr → Option Value
/-- Where the generations of a block lie: the block, and how many elements it has room for. -/
abbrev Hist := Nat → Option (Nat × Nat)

def Holds (K : Kf) (b o : Nat) (cvs : List Value) : Prop := ∀ j c, cvs[j]? = some c → K ⟨b, o + j, none⟩ = some c

mutual
inductive Rel (C : Cfg) (K : Kf) : List Hist → V → Value → Prop
  | bool {η} (b : Bool) : Rel C K η (.bool b) (.bool b)
  | int {η} (k : IntKind) (n : Int) : Rel C K η (.int k n) (.int k n)
  | str {η} (b : ByteArray) : Rel C K η (.str b.data.toList) (.string b)
  | nilptr {η} : Rel C K η .nilptr (.pointer none)
  | ptr {η} (l g off b room : Nat) (h : Hist) (h1 : η[l]? = some h) (h2 : h g = some (b, room)) : Rel C K η (.ptr l g off) (.pointer (some ⟨b, off, none⟩))
  | eptr {η} (x : V) (off b o : Nat) (cvs : List Value) (h1 : Holds K b o cvs) (h2 : RelL C K [] x.cells cvs) (h3 : oneL x.cells = true) : Rel C K η (.eptr x off) (.pointer (some ⟨b, o + off, none⟩))
  | row {η} (xs : List V) (b o cap k : Nat) (cvs : List Value) (h0 : xs.length ≤ cap) (h1 : ∀ x ∈ xs, x.cells.length = k) (h2 : oneL (flatV xs) = true)
      (h3 : Holds K b o cvs) (h4 : RelL C K [] (flatV xs) cvs) : Rel C K η (.row xs) (.slice (some ⟨b, o, none⟩) xs.length cap)
  | rowNil {η} (a : Option Addr) (cap : Nat) : Rel C K η (.row []) (.slice a 0 cap)
  | own {η} (e : TypeId) (xs : List V) (v : Value) (h : Rel C K [] (.row xs) v) : Rel C K η (.own e xs) v
  | nils {η} : Rel C K η .nils (.slice none 0 0)
  | msl {η} (l g off len : Nat) (e : TypeId) (b room k cap : Nat) (h : Hist) (h1 : η[l]? = some h) (h2 : h g = some (b, room)) (h3 : C.siz e = some k) (h4 : len ≤ cap) (h5 : 0 < room → cap = room - off ∧ off + len ≤ room) :
      Rel C K η (.msl l g off len e) (.slice (some ⟨b, off * k, none⟩) len cap)
  | mslNil {η} (l g off : Nat) (e : TypeId) (b room : Nat) (h : Hist) (h1 : η[l]? = some h) (h2 : h g = some (b, room)) (h3 : off ≠ 0) (a : Option Addr) (cap : Nat) : Rel C K η (.msl l g off 0 e) (.slice a 0 cap)
  | func {η} (fn : Fn) (a b : List V) (a' b' : Array Value) (h1 : RelL C K η a a'.toList) (h2 : RelL C K η b b'.toList) : Rel C K η (.func fn a b) (.func fn a' b')
  | nilfn {η} : Rel C K η .nilfn .nilFunc
  | iface {η} (t : TypeId) (v : V) (x : Value) (h : Rel C K η v x) : Rel C K η (.iface t v) (.iface t x)
  | niliface {η} : Rel C K η .niliface .nilIface
  | agg {η} (cs : List V) (vs : Array Value) (h : RelL C K η cs vs.toList) : Rel C K η (.agg cs) (.agg vs)
  | tuple {η} (cs : List V) (vs : Array Value) (h : RelL C K η cs vs.toList) : Rel C K η (.tuple cs) (.tuple vs)
  | junk {η} (v : Value) : Rel C K η .junk v
inductive RelL (C : Cfg) (K : Kf) : List Hist → List V → List Value → Prop
  | nil {η} : RelL C K η [] []
  | cons {η} (v : V) (x : Value) (r : List V) (s : List Value) (h : Rel C K η v x) (t : RelL C K η r s) : RelL C K η (v :: r) (x :: s)
end

def Kf.le (K K' : Kf) : Prop := ∀ a v, K a = some v → K' a = some v
theorem Kf.le_refl (K : Kf) : K.le K := fun _ _ h => h
theorem Kf.le_trans {K K' K'' : Kf} (h : K.le K') (h' : K'.le K'') : K.le K'' := fun a v e => h' a v (h a v e)
theorem Holds.mono {K K' : Kf} (h : K.le K') {b o : Nat} {cvs : List Value} (hh : Holds K b o cvs) : Holds K' b o cvs := fun j c e => h _ _ (hh j c e)

/-- η' knows what η knows. -/
def Hle (η η' : List Hist) : Prop := ∀ (l : Nat) (h : Hist), η[l]? = some h → ∃ h', η'[l]? = some h' ∧ ∀ (g : Nat) (x : Nat × Nat), h g = some x → h' g = some x
theorem Hle.refl (η : List Hist) : Hle η η := fun _ h e => ⟨h, e, fun _ _ e => e⟩
theorem Hle.trans {a b c : List Hist} (h : Hle a b) (h' : Hle b c) : Hle a c := fun l x e => by
  obtain ⟨y, e1, f1⟩ := h l x e
  obtain ⟨z, e2, f2⟩ := h' l y e1
  exact ⟨z, e2, fun g q hq => f2 g q (f1 g q hq)⟩
theorem Hle.length {a b : List Hist} (h : Hle a b) : a.length ≤ b.length := by
  rcases Nat.lt_or_ge b.length a.length with hlt | hge
  · obtain ⟨x, e, _⟩ := h b.length a[b.length] (by simp [hlt])
    simp at e
  · exact hge
theorem Hle.nil (η : List Hist) : Hle [] η := fun _ _ e => by simp at e
theorem Hle.append (η : List Hist) (z : List Hist) : Hle η (η ++ z) := fun l h e => ⟨h, by
  have : l < η.length := (List.getElem?_eq_some_iff.1 e).1
  rw [List.getElem?_append_left this]; exact e, fun _ _ e => e⟩
theorem Hle.take {a b : List Hist} (h : Hle a b) (n : Nat) (hn : a.length ≤ n) : Hle a (b.take n) := fun l x e => by
  obtain ⟨y, e1, f1⟩ := h l x e
  have : l < a.length := (List.getElem?_eq_some_iff.1 e).1
  exact ⟨y, by rw [List.getElem?_take_of_lt (by omega)]; exact e1, f1⟩

section
variable {C : Cfg} {K K' : Kf}
mutual
theorem Rel.mono (hK : K.le K') {η η' : List Hist} (hη : Hle η η') : {v : V} → {x : Value} → Rel C K η v x → Rel C K' η' v x
  | _, _, .bool b => .bool b
  | _, _, .int k n => .int k n
  | _, _, .str b => .str b
  | _, _, .nilptr => .nilptr
  | _, _, .ptr l g off b room h h1 h2 => by
    obtain ⟨h', e, f⟩ := hη l h h1
    exact .ptr l g off b room h' e (f _ _ h2)
  | _, _, .eptr x off b o cvs h1 h2 h3 => .eptr x off b o cvs (h1.mono hK) (RelL.mono hK (Hle.refl _) h2) h3
  | _, _, .row xs b o cap k cvs h0 h1 h2 h3 h4 => .row xs b o cap k cvs h0 h1 h2 (h3.mono hK) (RelL.mono hK (Hle.refl _) h4)
  | _, _, .rowNil a cap => .rowNil a cap
  | _, _, .own e xs v h => .own e xs v (Rel.mono hK (Hle.refl _) h)
  | _, _, .nils => .nils
  | _, _, .msl l g off len e b room k cap h h1 h2 h3 h4 h5 => by
    obtain ⟨h', e1, f⟩ := hη l h h1
    exact .msl l g off len e b room k cap h' e1 (f _ _ h2) h3 h4 h5
  | _, _, .mslNil l g off e b room h h1 h2 h3 a cap => by
    obtain ⟨h', e1, f⟩ := hη l h h1
    exact .mslNil l g off e b room h' e1 (f _ _ h2) h3 a cap
  | _, _, .func fn a b a' b' h1 h2 => .func fn a b a' b' (RelL.mono hK hη h1) (RelL.mono hK hη h2)
  | _, _, .nilfn => .nilfn
  | _, _, .iface t v x h => .iface t v x (Rel.mono hK hη h)
  | _, _, .niliface => .niliface
  | _, _, .agg cs vs h => .agg cs vs (RelL.mono hK hη h)
  | _, _, .tuple cs vs h => .tuple cs vs (RelL.mono hK hη h)
  | _, _, .junk v => .junk v
theorem RelL.mono (hK : K.le K') {η η' : List Hist} (hη : Hle η η') : {vs : List V} → {xs : List Value} → RelL C K η vs xs → RelL C K' η' vs xs
  | _, _, .nil => .nil
  | _, _, .cons v x r s h t => .cons v x r s (Rel.mono hK hη h) (RelL.mono hK hη t)
end

theorem take_get {η : List Hist} {n l : Nat} {h : Hist} (e : η[l]? = some h) (hl : Nat.blt l n = true) : (η.take n)[l]? = some h := by
  rw [Nat.blt_eq] at hl
  rw [List.getElem?_take_of_lt hl]; exact e

mutual
theorem Rel.low {η : List Hist} (n : Nat) : {v : V} → {x : Value} → Rel C K η v x → v.low n = true → Rel C K (η.take n) v x
  | _, _, .bool b, _ => .bool b
  | _, _, .int k n, _ => .int k n
  | _, _, .str b, _ => .str b
  | _, _, .nilptr, _ => .nilptr
  | _, _, .ptr l g off b room h h1 h2, hl => .ptr l g off b room h (take_get h1 (by simpa [V.low] using hl)) h2
  | _, _, .eptr x off b o cvs h1 h2 h3, _ => .eptr x off b o cvs h1 h2 h3
  | _, _, .row xs b o cap k cvs h0 h1 h2 h3 h4, _ => .row xs b o cap k cvs h0 h1 h2 h3 h4
  | _, _, .rowNil a cap, _ => .rowNil a cap
  | _, _, .own e xs v h, _ => .own e xs v h
  | _, _, .nils, _ => .nils
  | _, _, .msl l g off len e b room k cap h h1 h2 h3 h4 h5, hl => .msl l g off len e b room k cap h (take_get h1 (by simpa [V.low] using hl)) h2 h3 h4 h5
  | _, _, .mslNil l g off e b room h h1 h2 h3 a cap, hl => .mslNil l g off e b room h (take_get h1 (by simpa [V.low] using hl)) h2 h3 a cap
  | _, _, .func fn a b a' b' h1 h2, hl => by
    simp only [V.low, Bool.and_eq_true] at hl
    exact .func fn a b a' b' (RelL.low n h1 hl.1) (RelL.low n h2 hl.2)
  | _, _, .nilfn, _ => .nilfn
  | _, _, .iface t v x h, hl => .iface t v x (Rel.low n h (by simpa [V.low] using hl))
  | _, _, .niliface, _ => .niliface
  | _, _, .agg cs vs h, hl => .agg cs vs (RelL.low n h (by simpa [V.low] using hl))
  | _, _, .tuple cs vs h, hl => .tuple cs vs (RelL.low n h (by simpa [V.low] using hl))
  | _, _, .junk v, _ => .junk v
theorem RelL.low {η : List Hist} (n : Nat) : {vs : List V} → {xs : List Value} → RelL C K η vs xs → lowL n vs = true → RelL C K (η.take n) vs xs
  | _, _, .nil, _ => .nil
  | _, _, .cons v x r s h t, hl => by
    simp only [lowL, Bool.and_eq_true] at hl
    exact .cons v x r s (Rel.low n h hl.1) (RelL.low n t hl.2)
end

variable {η : List Hist}

theorem RelL.length : {vs : List V} → {xs : List Value} → RelL C K η vs xs → vs.length = xs.length
  | _, _, .nil => rfl
  | _, _, .cons _ _ _ _ _ t => by simp [RelL.length t]

theorem RelL.get : {vs : List V} → {xs : List Value} → RelL C K η vs xs → ∀ {i : Nat} {v : V}, vs[i]? = some v → ∃ x, xs[i]? = some x ∧ Rel C K η v x
  | _, _, .nil, i, v, e => by simp at e
  | _, _, .cons v' x r s h t, 0, v, e => by simp at e; exact ⟨x, by simp, e ▸ h⟩
  | _, _, .cons v' x r s h t, i + 1, v, e => by
    simp at e
    obtain ⟨y, e1, h1⟩ := RelL.get t e
    exact ⟨y, by simpa using e1, h1⟩

theorem RelL.getD {vs : List V} {xs : List Value} (h : RelL C K η vs xs) (i : Nat) : Rel C K η (vs.getD i undef') (xs.getD i undef) := by
  by_cases hi : i < vs.length
  · obtain ⟨x, e, hr⟩ := h.get (i := i) (v := vs[i]) (by simp [hi])
    simp only [List.getD, e, List.getElem?_eq_getElem hi, Option.getD_some]; exact hr
  · have hx : ¬ i < xs.length := by rw [← h.length]; exact hi
    simp only [List.getD, List.getElem?_eq_none (Nat.le_of_not_lt hi), List.getElem?_eq_none (Nat.le_of_not_lt hx), Option.getD_none]
    exact .tuple [] #[] .nil

theorem RelL.append : {vs : List V} → {xs : List Value} → RelL C K η vs xs → {us : List V} → {ys : List Value} → RelL C K η us ys → RelL C K η (vs ++ us) (xs ++ ys)
  | _, _, .nil, _, _, h => h
  | _, _, .cons v x r s h t, _, _, h' => .cons _ _ _ _ h (t.append h')

theorem RelL.take : {vs : List V} → {xs : List Value} → RelL C K η vs xs → (n : Nat) → RelL C K η (vs.take n) (xs.take n)
  | _, _, .nil, n => by simpa using RelL.nil
  | _, _, .cons v x r s h t, 0 => .nil
  | _, _, .cons v x r s h t, n + 1 => by simpa using .cons v x _ _ h (t.take n)

theorem RelL.drop : {vs : List V} → {xs : List Value} → RelL C K η vs xs → (n : Nat) → RelL C K η (vs.drop n) (xs.drop n)
  | _, _, .nil, n => by simpa using RelL.nil
  | _, _, .cons v x r s h t, 0 => .cons v x r s h t
  | _, _, .cons v x r s h t, n + 1 => by simpa using t.drop n

theorem RelL.set : {vs : List V} → {xs : List Value} → RelL C K η vs xs → (i : Nat) → {v : V} → {x : Value} → Rel C K η v x → RelL C K η (vs.set i v) (xs.set i x)
  | _, _, .nil, i, _, _, _ => by simpa using RelL.nil
  | _, _, .cons v x r s h t, 0, _, _, h' => .cons _ _ _ _ h' t
  | _, _, .cons v x r s h t, i + 1, _, _, h' => by simpa using .cons v x _ _ h (t.set i h')

theorem Rel.un {v : V} {x : Value} (h : Rel C K η v x) : Rel C K η v.un x := by
  cases h <;> simp only [V.un]
  case own e xs h => exact h.mono (Kf.le_refl K) (Hle.nil η)
  all_goals (constructor <;> assumption)

theorem oneL_append (a b : List V) : oneL (a ++ b) = (oneL a && oneL b) := by
  induction a with
  | nil => simp [oneL]
  | cons x r ih => simp [oneL, ih, Bool.and_assoc]

theorem oneL_get {l : List V} (h : oneL l = true) {i : Nat} {v : V} (e : l[i]? = some v) : v.one = true := by
  induction l generalizing i with
  | nil => simp at e
  | cons x r ih =>
    simp only [oneL, Bool.and_eq_true] at h
    cases i with
    | zero => simp at e; exact e ▸ h.1
    | succ i => simp at e; exact ih h.2 e

/-- A value of one cell is one. -/
theorem Rel.one {v : V} {x : Value} (h : Rel C K η v x) (h1 : v.one = true) : x.cells = #[x] ∧ x.oneCell' = true := by
  cases h <;> simp [V.one] at h1 <;> exact ⟨rfl, rfl⟩

theorem V.one_cells {v : V} (h : v.one = true) : v.cells = [v] := by cases v <;> simp [V.one] at h <;> rfl

/-- The cells of a value. -/
theorem Rel.cells {v : V} {x : Value} (h : Rel C K η v x) (h1 : oneL v.cells = true) : RelL C K η v.cells x.cells.toList := by
  cases v with
  | agg cs => cases h with | agg _ vs h => exact h
  | junk => simp [V.cells, oneL, V.one] at h1
  | tuple _ => simp [V.cells, oneL, V.one] at h1
  | own _ _ => simp [V.cells, oneL, V.one] at h1
  | _ => 
    have hx := (Rel.one h rfl).1
    simp only [V.cells, hx]
    exact .cons _ _ _ _ h .nil

theorem RelL.ones : {vs : List V} → {xs : List Value} → RelL C K η vs xs → oneL vs = true → ∀ x ∈ xs, x.oneCell' = true
  | _, _, .nil, _ => by simp
  | _, _, .cons v x r s h t, h1 => by
    simp only [oneL, Bool.and_eq_true] at h1
    intro y hy
    rcases List.mem_cons.1 hy with rfl | hy
    · exact (h.one h1.1).2
    · exact t.ones h1.2 y hy

end
end MI

namespace MI
open Go

structure Chg (S : Nat → Prop) (w w' : World) : Prop where
  os : w'.os = w.os
  tape : w'.tape = w.tape
  output : w'.output = w.output
  size : w.heap.size ≤ w'.heap.size
  block : ∀ k, k < w.heap.size → ¬ S k → w'.heap[k]? = w.heap[k]?

theorem Chg.refl (S : Nat → Prop) (w : World) : Chg S w w := ⟨rfl, rfl, rfl, Nat.le_refl _, fun _ _ _ => rfl⟩
theorem Chg.trans {S : Nat → Prop} {a b c : World} (h : Chg S a b) (k : Chg S b c) : Chg S a c :=
  ⟨k.os.trans h.os, k.tape.trans h.tape, k.output.trans h.output, Nat.le_trans h.size k.size, fun i hi hs => (k.block i (Nat.lt_of_lt_of_le hi h.size) hs).trans (h.block i hi hs)⟩
theorem Chg.mono {S S' : Nat → Prop} {a b : World} (h : Chg S a b) (hs : ∀ n, S n → S' n) : Chg S' a b :=
  ⟨h.os, h.tape, h.output, h.size, fun k hk hn => h.block k hk fun e => hn (hs k e)⟩
theorem Chg.drew (S : Nat → Prop) (w : World) : Chg S w w.drew := ⟨rfl, rfl, rfl, Nat.le_refl _, fun _ _ _ => rfl⟩
theorem Chg.alloc (S : Nat → Prop) (w : World) (o : Obj) : Chg S w (w.alloc o) :=
  ⟨rfl, rfl, rfl, by simp, fun k hk _ => RowKit.Below.heap_alloc _ _ _ hk⟩

/-- Nothing that was turns. -/
def Grows (w w2 : World) : Prop := Chg (fun n => w.heap.size ≤ n) w w2
theorem Grows.refl (w : World) : Grows w w := Chg.refl _ _
theorem Grows.trans {a b c : World} (h : Grows a b) (k : Grows b c) : Grows a c := Chg.trans h (k.mono fun n hn => Nat.le_trans h.size hn)

def Fresh (S : Nat → Prop) (w : World) : Prop := ∀ n, w.heap.size ≤ n → S n
theorem Fresh.chg {S S' : Nat → Prop} {w w' : World} (h : Fresh S w) (hc : Chg S' w w') : Fresh S w' := fun n hn => h n (Nat.le_trans hc.size hn)

def Touch (η : List Hist) (n : Nat) : Prop := ∃ (l : Nat) (h : Hist) (g room : Nat), η[l]? = some h ∧ h g = some (n, room)
theorem Touch.mono {η η' : List Hist} (h : Hle η η') {n : Nat} : Touch η n → Touch η' n := fun ⟨l, x, g, r, e, f⟩ => by
  obtain ⟨y, e1, f1⟩ := h l x e
  exact ⟨l, y, g, r, e1, f1 _ _ f⟩
theorem Touch.take {η : List Hist} {k n : Nat} (h : Touch (η.take k) n) : Touch η n := by
  obtain ⟨l, x, g, r, e, f⟩ := h
  refine ⟨l, x, g, r, ?_, f⟩
  rw [List.getElem?_take] at e
  split at e
  · exact e
  · simp at e

def KIn (S : Nat → Prop) (K K' : Kf) : Prop := ∀ a v, K' a = some v → K a = some v ∨ S a.block
theorem KIn.refl (S : Nat → Prop) (K : Kf) : KIn S K K := fun _ _ h => .inl h
theorem KIn.trans {S : Nat → Prop} {K K' K'' : Kf} (h : KIn S K K') (h' : KIn S K' K'') : KIn S K K'' := fun a v e => by
  rcases h' a v e with e | e
  · exact h a v e
  · exact .inr e
theorem KIn.mono {S S' : Nat → Prop} {K K' : Kf} (h : KIn S K K') (hs : ∀ n, S n → S' n) : KIn S' K K' := fun a v e => (h a v e).imp id (hs _)

/-- A row that a slot owns. -/
structure OwnAt (C : Cfg) (K : Kf) (S : Nat → Prop) (η : List Hist) (w : World) (e : TypeId) (ys : List V) (x : Value) (k : Nat) (cells : List Value) : Prop where
  siz : C.siz e = some k
  pos : 0 < k
  row : w.ownsRow 0 e k x ys.length cells
  rel : RelL C K [] (flatV ys) cells
  each : ∀ y ∈ ys, y.cells.length = k
  one : oneL (flatV ys) = true
  blk : ∀ g, x.ownBlock = some g → S g ∧ (∀ a c, K a = some c → a.block = g → a.off < ys.length * k) ∧ ¬ Touch η g

structure FrOK (C : Cfg) (K : Kf) (S : Nat → Prop) (η : List Hist) (w : World) (fr : Fr) (xs : List Value) : Prop where
  rel : RelL C K η fr xs
  own : ∀ (i : Nat) (e : TypeId) (ys : List V) (x : Value), fr[i]? = some (.own e ys) → xs[i]? = some x → ∃ k cells, OwnAt C K S η w e ys x k cells
  apart : ∀ (i j : Nat) (e : TypeId) (ys : List V) (x : Value) (e' : TypeId) (ys' : List V) (x' : Value) (g : Nat), i ≠ j → fr[i]? = some (.own e ys) → xs[i]? = some x → fr[j]? = some (.own e' ys') → xs[j]? = some x' →
    x.ownBlock = some g → x'.ownBlock ≠ some g

/-- What is marked as frozen lies beyond the cells. -/
def FzOK (fz : Nat × Nat) (n : Nat) : Prop := fz.1 = fz.2 ∨ (n ≤ fz.1 ∧ fz.1 ≤ fz.2)
theorem FzOK.clear {fz : Nat × Nat} {n : Nat} (h : FzOK fz n) (i : Nat) (hi : i < n) : (fz.1 ≤ i && i < fz.2) = false := by
  rcases h with h | h
  · simp; omega
  · simp; omega

/-- A block of memory as it is known. -/
structure BlkOK (C : Cfg) (K : Kf) (η : List Hist) (w : World) (b : Blk) (n room : Nat) : Prop where
  kind : b.kind = 0
  heap : ∃ cur fz, w.heap[n]? = some (.cells cur b.ty fz) ∧ b.cells.length ≤ cur.size ∧ RelL C K η b.cells (cur.toList.take b.cells.length) ∧ (b.frozen = false → FzOK fz b.cells.length) ∧
    (b.grow = true → b.frozen = false → fz = (0, 0) ∧ ∃ k, C.siz b.ty = some k ∧ 0 < k ∧ cur.size = room * k ∧ room ≤ maxLen ∧ 0 < room)
  one : oneL b.cells = true
  still : b.grow = false → room = 0
  free : b.frozen = false → ∀ a v, K a = some v → a.block ≠ n
  held : b.frozen = true → ∃ vs, RelL C K η b.cells vs ∧ Holds K n 0 vs
  exact : b.grow = false → isByteT C b.ty = false → ∃ cur fz, w.heap[n]? = some (.cells cur b.ty fz) ∧ cur.size = b.cells.length

structure Inv (C : Cfg) (K : Kf) (S : Nat → Prop) (η : List Hist) (σ : Mem) (w : World) : Prop where
  kf : ∀ a v, K a = some v → w.cell? a = some v
  len : η.length = σ.length
  blk : ∀ (l : Nat) (b : Blk), σ[l]? = some b → ∃ h n room, η[l]? = some h ∧ h b.gen = some (n, room) ∧ BlkOK C K η w b n room
  inj : ∀ (l l' : Nat) (b b' : Blk) (h h' : Hist) (n r n' r' : Nat), l ≠ l' → σ[l]? = some b → σ[l']? = some b' → η[l]? = some h → η[l']? = some h' → h b.gen = some (n, r) → h' b'.gen = some (n', r') → n ≠ n'
  tlt : ∀ n, Touch η n → n < w.heap.size ∧ S n
  top : ∀ (l : Nat) (b : Blk) (h : Hist), σ[l]? = some b → η[l]? = some h → ∀ q x, h q = some x → q ≤ b.gen

/-- From a state to a later one. -/
structure To (C : Cfg) (S : Nat → Prop) (K : Kf) (η : List Hist) (w : World) (K' : Kf) (η' : List Hist) (σ' : Mem) (w' : World) (fr' : Fr) (xs' : List Value) : Prop where
  kle : K.le K'
  kin : KIn S K K'
  hle : Hle η η'
  chg : Chg S w w'
  inv : Inv C K' S η' σ' w'
  fr : FrOK C K' S η' w' fr' xs'

theorem To.refl {C : Cfg} {S : Nat → Prop} {K : Kf} {η : List Hist} {σ : Mem} {w : World} {fr : Fr} {xs : List Value} (hi : Inv C K S η σ w) (hf : FrOK C K S η w fr xs) : To C S K η w K η σ w fr xs :=
  ⟨Kf.le_refl _, KIn.refl _ _, Hle.refl _, Chg.refl _ _, hi, hf⟩
theorem To.trans {C : Cfg} {S : Nat → Prop} {K K' K'' : Kf} {η η' η'' : List Hist} {σ' σ'' : Mem} {w w' w'' : World} {fr' fr'' : Fr} {xs' xs'' : List Value}
    (h : To C S K η w K' η' σ' w' fr' xs') (h' : To C S K' η' w' K'' η'' σ'' w'' fr'' xs'') : To C S K η w K'' η'' σ'' w'' fr'' xs'' :=
  ⟨Kf.le_trans h.kle h'.kle, h.kin.trans h'.kin, h.hle.trans h'.hle, h.chg.trans h'.chg, h'.inv, h'.fr⟩

section
variable {C : Cfg} {K K' : Kf} {S : Nat → Prop} {η η' : List Hist} {w w' : World}

theorem ownsRow_of_heap {w w' : World} {base : Nat} {e : TypeId} {k : Nat} {x : Value} {n : Nat} {cells : List Value} (h : w.ownsRow base e k x n cells) (hb : ∀ g, x.ownBlock = some g → w'.heap[g]? = w.heap[g]?) : w'.ownsRow base e k x n cells := by
  obtain ⟨h1, h2⟩ := h
  refine ⟨h1, h2.imp id ?_⟩
  rintro ⟨g, cap, cur, rfl, hg, hh, r⟩
  exact ⟨g, cap, cur, rfl, hg, by rw [hb g rfl]; exact hh, r⟩

/-- The own row through a step that leaves its block alone. -/
theorem OwnAt.step {e : TypeId} {ys : List V} {x : Value} {k : Nat} {cells : List Value} (h : OwnAt C K S η w e ys x k cells) (hK : K.le K')
    (hb : ∀ g, x.ownBlock = some g → w'.heap[g]? = w.heap[g]? ∧ (∀ a c, K' a = some c → a.block = g → K a = some c) ∧ ¬ Touch η' g) : OwnAt C K' S η' w' e ys x k cells :=
  ⟨h.siz, h.pos, ownsRow_of_heap h.row fun g hg => (hb g hg).1, h.rel.mono hK (Hle.refl _), h.each, h.one, fun g hg =>
    ⟨(h.blk g hg).1, fun a c e1 e2 => (h.blk g hg).2.1 a c ((hb g hg).2.1 a c e1 e2) e2, (hb g hg).2.2⟩⟩

theorem FrOK.step {fr : Fr} {xs : List Value} (h : FrOK C K S η w fr xs) (hK : K.le K') (hη : Hle η η')
    (hb : ∀ (i : Nat) (e : TypeId) (ys : List V) (x : Value) (g : Nat), fr[i]? = some (.own e ys) → xs[i]? = some x → x.ownBlock = some g → w'.heap[g]? = w.heap[g]? ∧ (∀ a c, K' a = some c → a.block = g → K a = some c) ∧ ¬ Touch η' g) :
    FrOK C K' S η' w' fr xs := by
  refine ⟨h.rel.mono hK hη, fun i e ys x hi hx => ?_, h.apart⟩
  obtain ⟨k, cells, ho⟩ := h.own i e ys x hi hx
  exact ⟨k, cells, ho.step hK fun g hg => hb i e ys x g hi hx hg⟩

/-- A slot's row's block. -/
theorem FrOK.ownBlk {fr : Fr} {xs : List Value} (h : FrOK C K S η w fr xs) {i : Nat} {e : TypeId} {ys : List V} {x : Value} {g : Nat} (hi : fr[i]? = some (.own e ys)) (hx : xs[i]? = some x) (hg : x.ownBlock = some g) :
    g < w.heap.size ∧ S g ∧ ¬ Touch η g := by
  obtain ⟨k, cells, ho⟩ := h.own i e ys x hi hx
  refine ⟨?_, (ho.blk g hg).1, (ho.blk g hg).2.2⟩
  rcases ho.row.2 with ⟨rfl, _⟩ | ⟨g', cap, cur, rfl, _, hh, _⟩
  · simp [Value.ownBlock] at hg
  · simp only [Value.ownBlock, Option.some.injEq] at hg
    subst hg
    exact (Array.getElem?_eq_some_iff.1 hh).1

/-- The frame through a step that turns only blocks that no slot owns. -/
theorem FrOK.world {fr : Fr} {xs : List Value} (h : FrOK C K S η w fr xs) (hK : K.le K') (hη : Hle η η') {T : Nat → Prop} (hc : Chg T w w') (hk : KIn T K K') (ht : ∀ n, Touch η' n → Touch η n ∨ T n)
    (hT : ∀ n, T n → n < w.heap.size → Touch η n) : FrOK C K' S η' w' fr xs :=
  h.step hK hη fun i e ys x g hi hx hg => by
    obtain ⟨h1, h2, h3⟩ := h.ownBlk hi hx hg
    have hnt : ¬ T g := fun hh => h3 (hT g hh h1)
    refine ⟨hc.block g h1 hnt, fun a c e1 e2 => (hk a c e1).resolve_right (by rw [e2]; exact hnt), fun hh => (ht g hh).elim h3 hnt⟩

def V.isOwn : V → Bool
  | .own _ _ => true
  | _ => false

theorem V.un_not_own (v : V) (e : TypeId) (ys : List V) : v.un ≠ .own e ys := by cases v <;> simp [V.un]

theorem FrOK.cons {fr : Fr} {xs : List Value} (h : FrOK C K S η w fr xs) {v : V} {x : Value} (hr : Rel C K η v x) (hv : ∀ e ys, v ≠ .own e ys) : FrOK C K S η w (v :: fr) (x :: xs) := by
  refine ⟨.cons _ _ _ _ hr h.rel, fun i e ys y hi hx => ?_, fun i j e ys y e' ys' y' g hij hi hx hj hy hg => ?_⟩
  · cases i with
    | zero => simp at hi; exact absurd hi (hv e ys)
    | succ i => simp at hi hx; exact h.own i e ys y hi hx
  · cases i with
    | zero => simp at hi; exact absurd hi (hv e ys)
    | succ i =>
      cases j with
      | zero => simp at hj; exact absurd hj (hv e' ys')
      | succ j => simp at hi hx hj hy; exact h.apart i j e ys y e' ys' y' g (by omega) hi hx hj hy hg

/-- A slot gives up what it owns. -/
theorem FrOK.unset {fr : Fr} {xs : List Value} (h : FrOK C K S η w fr xs) (t : Nat) {v : V} (hv : ∀ e ys, v ≠ .own e ys) (hr : ∀ x, xs[t]? = some x → Rel C K η v x) : FrOK C K S η w (fr.set t v) xs := by
  have key : ∀ (i : Nat) (e : TypeId) (ys : List V), (fr.set t v)[i]? = some (.own e ys) → fr[i]? = some (.own e ys) := fun i e ys hi => by
    rw [List.getElem?_set] at hi
    split at hi
    · split at hi
      · simp at hi; exact absurd hi (hv e ys)
      · simp at hi
    · exact hi
  refine ⟨?_, fun i e ys x hi hx => h.own i e ys x (key i e ys hi) hx, fun i j e ys x e' ys' x' g hij hi hx hj hy => h.apart i j e ys x e' ys' x' g hij (key _ _ _ hi) hx (key _ _ _ hj) hy⟩
  by_cases ht : t < xs.length
  · have := h.rel.set t (hr xs[t] (by simp [ht]))
    simpa [List.set_getElem_self] using this
  · rw [List.set_eq_of_length_le (by rw [h.rel.length]; omega)]
    exact h.rel

theorem FrOK.unTmp {fr : Fr} {xs : List Value} (h : FrOK C K S η w fr xs) (x : Operand) : FrOK C K S η w (unTmp fr x) xs := by
  cases x with
  | tmp t =>
    refine h.unset t (fun e ys => V.un_not_own _ e ys) fun y hy => ?_
    have := h.rel.getD t
    simp only [List.getD, hy, Option.getD_some] at this
    exact this.un
  | _ => exact h

/-- What a slot owns goes over to a new one. -/
theorem FrOK.take {fr : Fr} {xs : List Value} (h : FrOK C K S η w fr xs) (t : Nat) : FrOK C K S η w (fr.getD t undef' :: fr.set t (fr.getD t undef').un) (xs.getD t undef :: xs) := by
  have hu := h.unTmp (.tmp t)
  simp only [MI.unTmp] at hu
  by_cases ho : ∃ e ys, fr.getD t undef' = .own e ys
  · obtain ⟨e, ys, ho⟩ := ho
    have hlt : t < fr.length := by
      rcases Nat.lt_or_ge t fr.length with h' | h'
      · exact h'
      · simp [List.getD, List.getElem?_eq_none h', undef'] at ho
    have hxt : t < xs.length := by rw [← h.rel.length]; exact hlt
    have hft : fr[t]? = some (.own e ys) := by rw [List.getElem?_eq_getElem hlt]; simp only [List.getD, List.getElem?_eq_getElem hlt, Option.getD_some] at ho; rw [ho]
    have hx : xs.getD t undef = xs[t] := by simp [List.getD, List.getElem?_eq_getElem hxt]
    have hxs : xs[t]? = some xs[t] := List.getElem?_eq_getElem hxt
    have key : ∀ (i : Nat) (e' : TypeId) (ys' : List V), (fr.set t (fr.getD t undef').un)[i]? = some (.own e' ys') → i ≠ t ∧ fr[i]? = some (.own e' ys') := fun i e' ys' hi => by
      rw [List.getElem?_set] at hi
      by_cases hit : t = i
      · rw [if_pos hit] at hi
        rw [if_pos hlt] at hi
        simp only [Option.some.injEq] at hi
        exact absurd hi (V.un_not_own _ _ _)
      · rw [if_neg hit] at hi
        exact ⟨fun e => hit e.symm, hi⟩
    refine ⟨.cons _ _ _ _ (h.rel.getD t) hu.rel, fun i e' ys' y hi hy => ?_, fun i j e1 y1 x1 e2 y2 x2 g hij hi hx1 hj hx2 hg => ?_⟩
    · cases i with
      | zero =>
        simp only [List.getElem?_cons_zero, Option.some.injEq] at hi hy
        rw [ho] at hi
        cases hi
        rw [hx] at hy
        subst hy
        exact h.own t e ys xs[t] hft hxs
      | succ i =>
        simp only [List.getElem?_cons_succ] at hi hy
        exact h.own i e' ys' y (key i e' ys' hi).2 hy
    · cases i with
      | zero =>
        cases j with
        | zero => exact absurd rfl hij
        | succ j =>
          simp only [List.getElem?_cons_zero, List.getElem?_cons_succ, Option.some.injEq] at hi hx1 hj hx2
          rw [ho] at hi
          cases hi
          rw [hx] at hx1
          subst hx1
          obtain ⟨hne, hj'⟩ := key j e2 y2 hj
          exact h.apart t j e ys _ e2 y2 x2 g (fun e => hne e.symm) hft hxs hj' hx2 hg
      | succ i =>
        cases j with
        | zero =>
          simp only [List.getElem?_cons_zero, List.getElem?_cons_succ, Option.some.injEq] at hi hx1 hj hx2
          rw [ho] at hj
          cases hj
          rw [hx] at hx2
          subst hx2
          obtain ⟨hne, hi'⟩ := key i e1 y1 hi
          exact h.apart i t e1 y1 x1 e ys _ g hne hi' hx1 hft hxs hg
        | succ j =>
          simp only [List.getElem?_cons_succ] at hi hx1 hj hx2
          exact h.apart i j e1 y1 x1 e2 y2 x2 g (by omega) (key _ _ _ hi).2 hx1 (key _ _ _ hj).2 hx2 hg
  · have hno : ∀ e ys, fr.getD t undef' ≠ .own e ys := fun e ys e1 => ho ⟨e, ys, e1⟩
    exact hu.cons (h.rel.getD t) hno

theorem FrOK.tail {fr : Fr} {xs : List Value} {v : V} {x : Value} (h : FrOK C K S η w (v :: fr) (x :: xs)) : FrOK C K S η w fr xs := by
  refine ⟨by cases h.rel with | cons _ _ _ _ _ t => exact t, fun i e ys y hi hy => h.own (i + 1) e ys y (by simpa using hi) (by simpa using hy), fun i j e ys y e' ys' y' g hij hi hx hj hy => h.apart (i + 1) (j + 1) e ys y e' ys' y' g (by omega) (by simpa using hi) (by simpa using hx) (by simpa using hj) (by simpa using hy)⟩

/-- A new value takes a slot. -/
theorem FrOK.put {fr : Fr} {xs : List Value} {v : V} {x : Value} (h : FrOK C K S η w (v :: fr) (x :: xs)) (d : Nat) : FrOK C K S η w (fr.set d v) (xs.set d x) := by
  have ht := h.tail
  have hvx : Rel C K η v x := by cases h.rel with | cons _ _ _ _ hh _ => exact hh
  -- where a slot's value stands in the longer frame
  have key : ∀ (i : Nat) (u : V) (y : Value), (fr.set d v)[i]? = some u → (xs.set d x)[i]? = some y → ∃ j, (v :: fr)[j]? = some u ∧ (x :: xs)[j]? = some y ∧ (j = 0 ↔ i = d) ∧ (j ≠ 0 → j = i + 1) := fun i u y hi hy => by
    rw [List.getElem?_set] at hi hy
    by_cases hid : d = i
    · rw [if_pos hid] at hi hy
      split at hi
      · split at hy
        · exact ⟨0, by simpa using hi, by simpa using hy, by simp [hid], by simp⟩
        · simp at hy
      · simp at hi
    · rw [if_neg hid] at hi hy
      exact ⟨i + 1, by simpa using hi, by simpa using hy, by simp; omega, by simp⟩
  refine ⟨ht.rel.set d hvx, fun i e ys y hi hy => ?_, fun i j e ys y e' ys' y' g hij hi hx hj hy hg => ?_⟩
  · obtain ⟨j, h1, h2, _⟩ := key i _ y hi hy
    exact h.own j e ys y h1 h2
  · obtain ⟨a, h1, h2, h3, h3'⟩ := key i _ y hi hx
    obtain ⟨b, h4, h5, h6, h6'⟩ := key j _ y' hj hy
    refine h.apart a b e ys y e' ys' y' g (fun hab => hij ?_) h1 h2 h4 h5 hg
    by_cases ha : a = 0
    · have := h3.1 ha; have := h6.1 (hab ▸ ha); omega
    · have := h3' ha; have := h6' (hab ▸ ha); omega

end
end MI

namespace MI
open Go

/-- What the tables say is so. -/
structure Good (C : Cfg) : Prop where
  fn : ∀ f fn, C.fn f = some fn → C.P.funcs[f]? = some fn
  und : ∀ t d, C.und t = some d → C.P.underlying t = some d
  siz : ∀ t n, C.siz t = some n → ∃ i, C.P.info? t = some i ∧ i.size = n ∧ i.bytes ≤ 32768
  zero : ∀ t z, C.zero t = some z → ∃ i zr, C.P.info? t = some i ∧ i.zero = some zr ∧ z = cv zr ∧ oneL z.cells = true ∧ z.cells.length = i.size
  eqOK : ∀ t, C.eqOK t = true → C.P.eqGuardType C.P.depth t = false
  stood : ∀ t fs, C.und t = some (.struct fs) → C.P.stoodInHeld t = false

def GlobOK (C : Cfg) (K : Kf) : Prop := ∀ g v, C.glob g = some v → ∃ cvs, Holds K g 0 cvs ∧ RelL C K [] v.cells cvs ∧ oneL v.cells = true
theorem GlobOK.mono {C : Cfg} {K K' : Kf} (h : GlobOK C K) (hK : K.le K') : GlobOK C K' := fun g v e => by
  obtain ⟨cvs, h1, h2, h3⟩ := h g v e
  exact ⟨cvs, h1.mono hK, h2.mono hK (Hle.refl _), h3⟩

section
variable {C : Cfg} {K : Kf} {η : List Hist}

theorem cv1_rel (v : Value) : Rel C K η (cv1 v) v := by
  unfold cv1
  split
  · exact .bool _
  · exact .int _ _
  · exact .str _
  · exact .nilptr
  · exact .nils
  · exact .nilfn
  · exact .niliface
  · exact .junk _

theorem cv1L_rel : (vs : List Value) → RelL C K η (vs.map cv1) vs
  | [] => .nil
  | v :: r => .cons _ _ _ _ (cv1_rel v) (cv1L_rel r)

theorem cv_rel (v : Value) : Rel C K η (cv v) v := by
  unfold cv
  split
  · exact .agg _ _ (cv1L_rel _)
  · exact .tuple _ _ (cv1L_rel _)
  · exact .iface _ _ _ (cv1_rel _)
  · exact cv1_rel _

theorem cv_not_own (v : Value) (e : TypeId) (ys : List V) : cv v ≠ .own e ys := by
  intro h
  unfold cv cv1 at h
  split at h <;> try (cases h; done)
  split at h <;> cases h

theorem evalV_rel (hG : GlobOK C K) {fr : Fr} {a : Act} (h : RelL C K η fr a.tmps.toList) (x : Operand) : Rel C K η (evalV C fr x) (a.eval x) := by
  cases x with
  | tmp t =>
    simp only [evalV, Act.eval]
    have := h.getD t
    simpa [Array.getD_eq_getD_getElem?, List.getD] using this
  | const v => simp only [evalV, Act.eval]; exact cv_rel v
  | global g =>
    simp only [evalV, Act.eval]
    cases hg : C.glob g with
    | none => exact .junk _
    | some v =>
      obtain ⟨cvs, h1, h2, h3⟩ := hG g v hg
      exact .eptr v 0 g 0 cvs h1 h2 h3
  | func f => simp only [evalV, Act.eval]; exact .func _ _ _ _ _ .nil .nil

theorem evalL_rel (hG : GlobOK C K) {fr : Fr} {a : Act} (h : RelL C K η fr a.tmps.toList) : (l : List Operand) → RelL C K η (evalL C fr l) (l.map a.eval)
  | [] => .nil
  | x :: r => .cons _ _ _ _ (evalV_rel hG h x) (evalL_rel hG h r)

end

def OpOK (C : Cfg) (S : Nat → Prop) (K : Kf) (η : List Hist) (w : World) (a : Act) (o : Oper) (v : V) (fr' : Fr) (σ' : Mem) (m : Prop := False) : Prop :=
  ∀ (next : Act → World → Prop) (Q : Exit → Act → World → Prop),
    (∀ K' η' w' x, To C S K η w K' η' σ' w' (v :: fr') (x :: a.tmps.toList) → (m → Grows w w') → next (a.put o.dst x) w') → o.wp C.P a w next Q

section
variable {C : Cfg} {S : Nat → Prop} {K : Kf} {η : List Hist} {σ : Mem} {w : World} {a : Act} {o : Oper} {fr : Fr}

theorem OpOK.value {v : V} {fr' : Fr} {σ' : Mem} {x : Value} {K' : Kf} {η' : List Hist} {w' : World} (h : (execOp a.eval o).run C.P w = .ok (.value x) w') (ht : To C S K η w K' η' σ' w' (v :: fr') (x :: a.tmps.toList)) {m : Prop} (hg : m → Grows w w' := by intro h; exact h.elim) :
    OpOK C S K η w a o v fr' σ' m := fun next Q hn => by
  unfold Oper.wp; rw [h]; exact hn _ _ _ _ ht hg

theorem OpOK.skip {v : V} {fr' : Fr} {σ' : Mem} {K' : Kf} {η' : List Hist} {w' : World} (h : (execOp a.eval o).run C.P w = .ok .skip w') (ht : To C S K η w K' η' σ' w' (v :: fr') (undef :: a.tmps.toList)) :
    OpOK C S K η w a o v fr' σ' := fun next Q hn => by
  unfold Oper.wp; rw [h]; exact hn _ _ _ _ ht False.elim

/-- What an operation leaves, in every world of a kind, and nothing else. -/
def Still (C : Cfg) (S : Nat → Prop) (K : Kf) (η : List Hist) (w : World) (a : Act) (o : Oper) (v : V) (fr' : Fr) (T : World → Prop) : Prop :=
  ∃ x, FrOK C K S η w (v :: fr') (x :: a.tmps.toList) ∧ ∀ w2, T w2 → (execOp a.eval o).run C.P w2 = .ok (.value x) w2

theorem Still.ok {v : V} {fr' : Fr} {T : World → Prop} (h : Still C S K η w a o v fr' T) (hi : Inv C K S η σ w) (hT : T w) {m : Prop} : OpOK C S K η w a o v fr' σ m := by
  obtain ⟨x, h1, h2⟩ := h
  exact .value (h2 w hT) (.refl hi h1) (fun _ => Grows.refl w)

/-- An operation that only computes. -/
theorem Still.mk' {v : V} {fr' : Fr} {x : Value} {T : World → Prop} (hf : FrOK C K S η w fr' a.tmps.toList) (h : ∀ w2, T w2 → (execOp a.eval o).run C.P w2 = .ok (.value x) w2) (hr : Rel C K η v x) (hv : ∀ e ys, v ≠ .own e ys) :
    Still C S K η w a o v fr' T := ⟨x, hf.cons hr hv, h⟩

/-- Of no world. -/
theorem Still.mk0 {v : V} {fr' : Fr} {x : Value} (hf : FrOK C K S η w fr' a.tmps.toList) (h : ∀ w, (execOp a.eval o).run C.P w = .ok (.value x) w) (hr : Rel C K η v x) (hv : ∀ e ys, v ≠ .own e ys) :
    Still C S K η w a o v fr' (fun _ => True) := ⟨x, hf.cons hr hv, fun w _ => h w⟩

/-- An operation that only computes. -/
theorem OpOK.pure' (hi : Inv C K S η σ w) {v : V} {fr' : Fr} {x : Value} (hf : FrOK C K S η w fr' a.tmps.toList) (h : (execOp a.eval o).run C.P w = .ok (.value x) w) (hr : Rel C K η v x) (hv : ∀ e ys, v ≠ .own e ys) :
    OpOK C S K η w a o v fr' σ := .value h (.refl hi (hf.cons hr hv))

theorem V.un_ne (v : V) : ∀ e ys, v.un ≠ .own e ys := V.un_not_own v

theorem run_pureV (x : Value) : ((do let y ← (pure x : Sem Value); pure (.value y)) : Sem Next).run C.P w = .ok (.value x) w := rfl

theorem run_v (s : Sem Value) (x : Value) (w' : World) (h : s.run C.P w = .ok x w') : ((do let y ← s; pure (.value y)) : Sem Next).run C.P w = .ok (.value x) w' := by
  simp [h]

/-! ### Moves -/
theorem ok_move (hG : GlobOK C K) (hf : FrOK C K S η w fr a.tmps.toList) (x : Operand) (ho : o.op = .move x) : Still C S K η w a o (evalV C fr x).un fr (fun _ => True) :=
  .mk0 hf (x := a.eval x) (fun w => by simp only [execOp, ho]; rfl) (evalV_rel hG hf.rel x).un (V.un_ne _)

theorem getD_toList (a : Act) (t : Nat) : a.tmps.toList.getD t undef = a.eval (.tmp t) := by
  simp [Act.eval, Array.getD_eq_getD_getElem?, List.getD]

/-- What is handed over whole: a slot gives up what it owns. -/
theorem FrOK.hand (hG : GlobOK C K) (hf : FrOK C K S η w fr a.tmps.toList) (x : Operand) : FrOK C K S η w (evalV C fr x :: MI.unTmp fr x) (a.eval x :: a.tmps.toList) := by
  cases x with
  | tmp t =>
    have := hf.take t
    rw [getD_toList] at this
    exact this
  | const v => exact hf.cons (evalV_rel hG hf.rel (.const v)) (cv_not_own v)
  | global g =>
    refine hf.cons (evalV_rel hG hf.rel (.global g)) ?_
    intro e ys
    simp only [evalV]
    split <;> simp
  | func f => exact hf.cons (evalV_rel hG hf.rel (.func f)) (by simp [evalV])

theorem ok_take (hG : GlobOK C K) (hf : FrOK C K S η w fr a.tmps.toList) (x : Operand) (ho : o.op = .move x) : Still C S K η w a o (evalV C fr x) (MI.unTmp fr x) (fun _ => True) :=
  ⟨a.eval x, hf.hand hG x, fun w _ => by simp only [execOp, ho]; rfl⟩

theorem FrOK.slot {v : V} {x : Value} {xs : List Value} (h : FrOK C K S η w (v :: fr) (x :: xs)) (t : TypeId) : FrOK C K S η w (slotV C t v :: fr) (x :: xs) := by
  unfold slotV
  split
  · have hx : x = .slice none 0 0 := by cases h.rel with | cons _ _ _ _ hh _ => cases hh; rfl
    subst hx
    split
    · rename_i e he
      split
      · rename_i n hn
        refine ⟨.cons _ _ _ _ (.own _ _ _ (.rowNil _ _)) h.tail.rel, fun i e' ys y hi hy => ?_, fun i j e1 y1 x1 e2 y2 x2 g hij hi hx1 hj hx2 hg => ?_⟩
        · cases i with
          | zero =>
            simp only [List.getElem?_cons_zero, Option.some.injEq] at hi hy
            cases hi; subst hy
            exact ⟨n + 1, [], hn, by omega, ⟨by simp, .inl ⟨rfl, rfl⟩⟩, .nil, by simp, rfl, by simp [Value.ownBlock]⟩
          | succ i => exact h.tail.own i e' ys y (by simpa using hi) (by simpa using hy)
        · cases i with
          | zero =>
            simp only [List.getElem?_cons_zero, Option.some.injEq] at hx1
            subst hx1
            simp [Value.ownBlock] at hg
          | succ i =>
            cases j with
            | zero =>
              simp only [List.getElem?_cons_zero, Option.some.injEq] at hx2
              subst hx2
              simp [Value.ownBlock]
            | succ j => exact h.tail.apart i j e1 y1 x1 e2 y2 x2 g (by omega) (by simpa using hi) (by simpa using hx1) (by simpa using hj) (by simpa using hx2) hg
      · exact h
    · exact h
  · exact h

theorem ok_assign (hG : GlobOK C K) (hf : FrOK C K S η w fr a.tmps.toList) (x : Operand) (ho : o.op = .assign x) :
    Still C S K η w a o (slotV C o.type (evalV C fr x)) (MI.unTmp fr x) (fun _ => True) :=
  ⟨a.eval x, (hf.hand hG x).slot o.type, fun w _ => by simp only [execOp, ho]; rfl⟩

theorem ok_assignRaw (hG : GlobOK C K) (hf : FrOK C K S η w fr a.tmps.toList) (x : Operand) (ho : o.op = .assign x) : Still C S K η w a o (evalV C fr x) (MI.unTmp fr x) (fun _ => True) :=
  ⟨a.eval x, hf.hand hG x, fun w _ => by simp only [execOp, ho]; rfl⟩

theorem ok_pick (hG : GlobOK C K) (hf : FrOK C K S η w fr a.tmps.toList) (c x y : Operand) (ho : o.op = .pick c x y) (t : Bool) (hc : evalV C fr c = .bool t) :
    Still C S K η w a o (match t with | true => (evalV C fr x).un | false => (evalV C fr y).un) fr (fun _ => True) := by
  have hb : a.eval c = .bool t := by
    have := evalV_rel hG hf.rel c
    rw [hc] at this
    generalize a.eval c = z at this
    cases this
    rfl
  cases t with
  | true => exact .mk0 hf (x := a.eval x) (fun w => by simp only [execOp, ho, hb]; rfl) (evalV_rel hG hf.rel x).un (V.un_ne _)
  | false => exact .mk0 hf (x := a.eval y) (fun w => by simp only [execOp, ho, hb]; rfl) (evalV_rel hG hf.rel y).un (V.un_ne _)

/-! ### Parts -/
theorem isAggT_run (hS : Good C) {t : TypeId} {b : Bool} (h : isAggT C t = some b) : (isAgg t).run C.P w = .ok b w := by
  unfold isAggT at h
  cases hu : C.und t with
  | none => simp [hu] at h
  | some d =>
    have hd := hS.und t d hu
    rw [hu] at h
    cases d <;> simp at h <;> subst h <;> simp [isAgg, run_underlying hd]

theorem siz_run (hS : Good C) {t : TypeId} {n : Nat} (h : C.siz t = some n) : (Go.sizeOf t).run C.P w = .ok n w := by
  obtain ⟨i, hi, hn, _⟩ := hS.siz t n h
  simp [Go.sizeOf, typeInfo, hi, hn]

theorem partV_run (hS : Good C) {t : TypeId} {cs : List V} {vs : Array Value} {off : Nat} {v : V} (h : partV C t cs off = some v) (hr : RelL C K η cs vs.toList) :
    ∃ x, (∀ w : World, (part t vs off).run C.P w = .ok x w) ∧ Rel C K η v x := by
  unfold partV at h
  split at h
  · rename_i n hb hn
    split at h
    · rename_i hle
      simp only [Option.some.injEq] at h
      subst h
      refine ⟨.agg (vs.extract off (off + n)), fun w => by simp [part, isAggT_run hS hb, siz_run hS hn], .agg _ _ ?_⟩
      have := (hr.drop off).take n
      simpa [Array.toList_extract, List.extract_eq_take_drop, Nat.add_sub_cancel_left] using this
    · simp at h
  · rename_i hb
    obtain ⟨x, hx, hrx⟩ := hr.get h
    refine ⟨x, fun w => ?_, hrx⟩
    have : vs[off]? = some x := by simpa using hx
    simp [part, isAggT_run hS hb, this]
  · simp at h

end
end MI

namespace MI
open Go

theorem get_set {α : Type} {l : List α} {i j : Nat} {a x : α} (h : (l.set i a)[j]? = some x) : (j = i ∧ x = a) ∨ (j ≠ i ∧ l[j]? = some x) := by
  by_cases hij : i = j
  · subst hij
    rw [List.getElem?_set, if_pos rfl] at h
    by_cases hl : i < l.length
    · rw [if_pos hl] at h; exact .inl ⟨rfl, (Option.some.inj h).symm⟩
    · rw [if_neg hl] at h; cases h
  · rw [List.getElem?_set, if_neg hij] at h
    exact .inr ⟨fun e => hij e.symm, h⟩

theorem length_setRange {α : Type} : ∀ (vs cs : List α) (off : Nat), (setRange cs off vs).length = cs.length
  | [], _, _ => rfl
  | v :: r, cs, off => by simp [setRange, length_setRange r]

theorem oneL_set {cs : List V} (h : oneL cs = true) (i : Nat) {v : V} (hv : v.one = true) : oneL (cs.set i v) = true := by
  induction cs generalizing i with
  | nil => simp [oneL]
  | cons x r ih =>
    simp only [oneL, Bool.and_eq_true] at h
    cases i with
    | zero => simp [oneL, hv, h.2]
    | succ i => simp [oneL, h.1, ih h.2]

theorem oneL_setRange : ∀ (vs cs : List V) (off : Nat), oneL cs = true → oneL vs = true → oneL (setRange cs off vs) = true
  | [], _, _, h, _ => h
  | v :: r, cs, off, h, hv => by
    simp only [oneL, Bool.and_eq_true] at hv
    exact oneL_setRange r _ _ (oneL_set h off hv.1) hv.2

theorem oneL_take {cs : List V} (h : oneL cs = true) (n : Nat) : oneL (cs.take n) = true := by
  induction cs generalizing n with
  | nil => simp [oneL]
  | cons x r ih =>
    simp only [oneL, Bool.and_eq_true] at h
    cases n with
    | zero => simp [oneL]
    | succ n => simp [oneL, h.1, ih h.2]

theorem oneL_drop {cs : List V} (h : oneL cs = true) (n : Nat) : oneL (cs.drop n) = true := by
  induction cs generalizing n with
  | nil => simp [oneL]
  | cons x r ih =>
    cases n with
    | zero => simpa using h
    | succ n =>
      simp only [oneL, Bool.and_eq_true] at h
      simpa using ih h.2 n

section
variable {C : Cfg} {K : Kf} {η : List Hist}
theorem RelL.setRange : ∀ {us : List V} {ys : List Value} (_ : RelL C K η us ys) {vs : List V} {xs : List Value} (_ : RelL C K η vs xs) (off : Nat), RelL C K η (setRange vs off us) (MI.setRange xs off ys)
  | _, _, .nil, _, _, h, _ => h
  | _, _, .cons _ _ _ _ hx t, _, _, h, off => RelL.setRange t (h.set off hx) (off + 1)
end

theorem heap_setCells (b : Nat) (t : TypeId) (fz : Nat × Nat) : ∀ (vs : List Value) (o : Nat) (w : World) (cur : Array Value), w.heap[b]? = some (.cells cur t fz) →
    ∃ cur', (w.setCells b o vs).heap[b]? = some (.cells cur' t fz) ∧ cur'.toList = setRange cur.toList o vs
  | [], _, _, cur, h => ⟨cur, h, rfl⟩
  | v :: r, o, w, cur, h => by
    have h1 : (w.setCell ⟨b, o, none⟩ v).heap[b]? = some (.cells (cur.setIfInBounds o v) t fz) := by
      simp [World.setCell, Array.getElem?_modify, h]
    obtain ⟨cur', h2, h3⟩ := heap_setCells b t fz r (o + 1) _ _ h1
    exact ⟨cur', h2, by simpa [setRange] using h3⟩

theorem heap_setCells_other (b : Nat) : ∀ (vs : List Value) (o : Nat) (w : World) (k : Nat), k ≠ b → (w.setCells b o vs).heap[k]? = w.heap[k]?
  | [], _, _, _, _ => rfl
  | v :: r, o, w, k, h => by
    simp only [World.setCells]
    rw [heap_setCells_other b r _ _ k h]
    exact RowKit.Below.heap_setCell _ _ _ _ h

theorem size_setCells (b : Nat) : ∀ (vs : List Value) (o : Nat) (w : World), (w.setCells b o vs).heap.size = w.heap.size
  | [], _, _ => rfl
  | v :: r, o, w => by simp [World.setCells, size_setCells b r]

theorem chg_setCells (b : Nat) : ∀ (vs : List Value) (o : Nat) (w : World), Chg (fun k => k = b) w (w.setCells b o vs)
  | [], _, w => .refl _ _
  | v :: r, o, w => by
    refine Chg.trans (b := w.setCell ⟨b, o, none⟩ v) ⟨rfl, rfl, rfl, by simp, fun k _ hk => RowKit.Below.heap_setCell _ _ _ _ hk⟩ ?_
    simp only [World.setCells]
    exact chg_setCells b r _ _

section
variable {C : Cfg} {K : Kf} {S : Nat → Prop} {η : List Hist} {σ : Mem} {w w' : World}

theorem Hle.set {l : Nat} {h h' : Hist} (he : η[l]? = some h) (hx : ∀ g x, h g = some x → h' g = some x) : Hle η (η.set l h') := fun i x e => by
  by_cases hi : l = i
  · subst hi
    rw [he] at e
    cases e
    have : l < η.length := (List.getElem?_eq_some_iff.1 he).1
    exact ⟨h', by simp [this], hx⟩
  · exact ⟨x, by rw [List.getElem?_set, if_neg hi]; exact e, fun _ _ e => e⟩

theorem BlkOK.step {K' : Kf} {η' : List Hist} {b : Blk} {n room : Nat} (h : BlkOK C K η w b n room) (hK : K.le K') (hη : Hle η η') (hw : w'.heap[n]? = w.heap[n]?) (hf : b.frozen = false → ∀ a v, K' a = some v → a.block ≠ n) : BlkOK C K' η' w' b n room := by
  obtain ⟨cur, fz, h1, h2, h3, h4, h5⟩ := h.heap
  exact ⟨h.kind, ⟨cur, fz, by rw [hw]; exact h1, h2, h3.mono hK hη, h4, h5⟩, h.one, h.still, hf, fun hfz => by
    obtain ⟨vs, e1, e2⟩ := h.held hfz
    exact ⟨vs, e1.mono hK hη, e2.mono hK⟩, fun q1 q2 => by
    obtain ⟨cur, fz, e1, e2⟩ := h.exact q1 q2
    exact ⟨cur, fz, by rw [hw]; exact e1, e2⟩⟩

/-- One block turns, or moves. -/
theorem Inv.upd (hi : Inv C K S η σ w) {l : Nat} {b : Blk} {h : Hist} {n room : Nat} (hb : σ[l]? = some b) (he : η[l]? = some h) (hg : h b.gen = some (n, room)) (hfz : b.frozen = false)
    {b' : Blk} {h' : Hist} {n' room' : Nat} (hx : ∀ g x, h g = some x → h' g = some x) (hg' : h' b'.gen = some (n', room')) (hn' : n' = n ∨ w.heap.size ≤ n') (hS' : S n')
    (hh' : ∀ g m r, h' g = some (m, r) → h g = some (m, r) ∨ m = n') (hc : Chg (fun k => k = n ∨ k = n') w w') (hlt : n' < w'.heap.size) (hok : BlkOK C K (η.set l h') w' b' n' room') (htop : ∀ q x, h' q = some x → q ≤ b'.gen) :
    Inv C K S (η.set l h') (σ.set l b') w' := by
  have hl : l < η.length := (List.getElem?_eq_some_iff.1 he).1
  have hlσ : l < σ.length := (List.getElem?_eq_some_iff.1 hb).1
  have hnt : n < w.heap.size ∧ S n := hi.tlt n ⟨l, h, b.gen, room, he, hg⟩
  have hle := Hle.set he hx
  obtain ⟨h0, n0, r0, he0, hg0, hok0⟩ := hi.blk l b hb
  rw [he] at he0; cases he0
  rw [hg] at hg0; cases hg0
  have hkn : ∀ a v, K a = some v → a.block ≠ n ∧ a.block ≠ n' := fun a v ha => by
    have h1 := hok0.free hfz a v ha
    have h2 := World.block_lt_of_cell? w a (hi.kf a v ha)
    exact ⟨h1, fun e => hn'.elim (fun e' => h1 (e.trans e')) (fun e' => by omega)⟩
  refine ⟨fun a v ha => ?_, by simp [hi.len], fun l1 b1 hb1 => ?_, fun l1 l2 b1 b2 h1 h2 n1 r1 n2 r2 hne hb1 hb2 he1 he2 hg1 hg2 => ?_, fun m hm => ?_, fun i c x hc1 hx1 => ?_⟩
  · have h1 := hkn a v ha
    have h2 := World.block_lt_of_cell? w a (hi.kf a v ha)
    rw [World.cell?_of_block (w := w) (hc.block a.block h2 (fun hh => hh.elim h1.1 h1.2))]
    exact hi.kf a v ha
  · by_cases hll : l = l1
    · subst hll
      rw [List.getElem?_set, if_pos rfl, if_pos hlσ] at hb1
      cases hb1
      exact ⟨h', n', room', by simp [hl], hg', hok⟩
    · rw [List.getElem?_set, if_neg hll] at hb1
      obtain ⟨h1, n1, r1, he1, hg1, hok1⟩ := hi.blk l1 b1 hb1
      have hn1 := hi.tlt n1 ⟨l1, h1, b1.gen, r1, he1, hg1⟩
      have hne : n1 ≠ n := hi.inj l1 l b1 b h1 h n1 r1 n room (fun e => hll e.symm) hb1 hb he1 he hg1 hg
      have hne' : n1 ≠ n' := fun e => hn'.elim (fun e' => hne (e.trans e')) (fun e' => by omega)
      refine ⟨h1, n1, r1, by rw [List.getElem?_set, if_neg hll]; exact he1, hg1, hok1.step (Kf.le_refl _) hle (hc.block n1 hn1.1 (fun hh => hh.elim hne hne')) hok1.free⟩
  · -- apart
    have key : ∀ (i : Nat) (c : Blk) (x : Hist) (m r : Nat), i ≠ l → (σ.set l b')[i]? = some c → (η.set l h')[i]? = some x → x c.gen = some (m, r) → m ≠ n' := fun i c x m r hil hc1 hx1 hm1 => by
      rw [List.getElem?_set, if_neg (fun e => hil e.symm)] at hc1 hx1
      have hmt := hi.tlt m ⟨i, x, c.gen, r, hx1, hm1⟩
      have hne : m ≠ n := hi.inj i l c b x h m r n room hil hc1 hb hx1 he hm1 hg
      exact fun e => hn'.elim (fun e' => hne (e.trans e')) (fun e' => by omega)
    by_cases h1l : l1 = l
    · have h2l : l2 ≠ l := fun e => hne (h1l.trans e.symm)
      subst h1l
      rw [List.getElem?_set, if_pos rfl, if_pos hlσ] at hb1
      cases hb1
      rw [List.getElem?_set, if_pos rfl, if_pos hl] at he1
      cases he1
      rw [hg'] at hg1; cases hg1
      exact fun e => key l2 b2 h2 n2 r2 h2l hb2 he2 hg2 e.symm
    · by_cases h2l : l2 = l
      · subst h2l
        rw [List.getElem?_set, if_pos rfl, if_pos hlσ] at hb2
        cases hb2
        rw [List.getElem?_set, if_pos rfl, if_pos hl] at he2
        cases he2
        rw [hg'] at hg2; cases hg2
        exact key l1 b1 h1 n1 r1 h1l hb1 he1 hg1
      · rw [List.getElem?_set, if_neg (fun e => h1l e.symm)] at hb1 he1
        rw [List.getElem?_set, if_neg (fun e => h2l e.symm)] at hb2 he2
        exact hi.inj l1 l2 b1 b2 h1 h2 n1 r1 n2 r2 hne hb1 hb2 he1 he2 hg1 hg2
  · obtain ⟨i, x, g, r, e1, e2⟩ := hm
    rcases get_set e1 with ⟨_, rfl⟩ | ⟨_, e1⟩
    · rcases hh' g m r e2 with e3 | e3
      · have := hi.tlt m ⟨l, h, g, r, he, e3⟩
        exact ⟨Nat.lt_of_lt_of_le this.1 hc.size, this.2⟩
      · subst e3; exact ⟨hlt, hS'⟩
    · have := hi.tlt m ⟨i, x, g, r, e1, e2⟩
      exact ⟨Nat.lt_of_lt_of_le this.1 hc.size, this.2⟩
  · rcases get_set hc1 with ⟨rfl, rfl⟩ | ⟨hil, hc1⟩
    · rw [List.getElem?_set, if_pos rfl, if_pos hl] at hx1
      cases hx1
      exact htop
    · rw [List.getElem?_set, if_neg (fun e => hil e.symm)] at hx1
      exact hi.top i c x hc1 hx1

/-- A step that turns one block, or moves it. -/
theorem To.upd (hi : Inv C K S η σ w) {fr : Fr} {xs : List Value} (hf : FrOK C K S η w fr xs) {l : Nat} {b : Blk} {h : Hist} {n room : Nat} (hb : σ[l]? = some b) (he : η[l]? = some h) (hg : h b.gen = some (n, room)) (hfz : b.frozen = false)
    {b' : Blk} {h' : Hist} {n' room' : Nat} (hx : ∀ g x, h g = some x → h' g = some x) (hg' : h' b'.gen = some (n', room')) (hn' : n' = n ∨ w.heap.size ≤ n') (hS' : S n')
    (hh' : ∀ g m r, h' g = some (m, r) → h g = some (m, r) ∨ m = n') (hc : Chg (fun k => k = n ∨ k = n') w w') (hlt : n' < w'.heap.size) (hok : BlkOK C K (η.set l h') w' b' n' room') (htop : ∀ q x, h' q = some x → q ≤ b'.gen) :
    To C S K η w K (η.set l h') (σ.set l b') w' fr xs := by
  have hnt : n < w.heap.size ∧ S n := hi.tlt n ⟨l, h, b.gen, room, he, hg⟩
  refine ⟨Kf.le_refl _, KIn.refl _ _, Hle.set he hx, hc.mono (fun k hk => hk.elim (fun e => e ▸ hnt.2) (fun e => e ▸ hS')), hi.upd hb he hg hfz hx hg' hn' hS' hh' hc hlt hok htop, ?_⟩
  refine hf.world (Kf.le_refl _) (Hle.set he hx) hc (KIn.refl _ _) (fun m hm => ?_) (fun m hm hlt' => ?_)
  · obtain ⟨i, x, g, r, e1, e2⟩ := hm
    rcases get_set e1 with ⟨_, rfl⟩ | ⟨_, e1⟩
    · rcases hh' g m r e2 with e3 | e3
      · exact .inl ⟨l, h, g, r, he, e3⟩
      · exact .inr (.inr e3)
    · exact .inl ⟨i, x, g, r, e1, e2⟩
  · rcases hm with rfl | rfl
    · exact ⟨l, h, b.gen, room, he, hg⟩
    · rcases hn' with e | e
      · subst e; exact ⟨l, h, b.gen, room, he, hg⟩
      · omega

end
end MI

namespace MI
open Go

/-- What is known, and the cells of a block besides. -/
def addK (K : Kf) (n : Nat) (cells : List Value) : Kf := fun a => if a.block = n ∧ a.spot = none then cells[a.off]? else K a

theorem addK_holds (K : Kf) (n : Nat) (cells : List Value) : Holds (addK K n cells) n 0 cells := fun j c h => by
  simp [addK, h]
theorem addK_le {K : Kf} {n : Nat} {cells : List Value} (h : ∀ a v, K a = some v → a.block = n → a.spot = none → cells[a.off]? = some v) : K.le (addK K n cells) := fun a v e => by
  unfold addK
  split
  · rename_i hh; exact h a v e hh.1 hh.2
  · exact e
theorem addK_in {S : Nat → Prop} {K : Kf} {n : Nat} {cells : List Value} (hS : S n) : KIn S K (addK K n cells) := fun a v e => by
  unfold addK at e
  split at e
  · rename_i hh; exact .inr (hh.1 ▸ hS)
  · exact .inl e
theorem addK_old {K : Kf} {n : Nat} {cells : List Value} {a : Addr} {v : Value} (e : addK K n cells a = some v) (h : a.block ≠ n) : K a = some v := by
  unfold addK at e
  rw [if_neg (fun hh => h hh.1)] at e
  exact e

section
variable {C : Cfg} {S : Nat → Prop} {K : Kf} {η : List Hist} {σ : Mem} {w w' : World} {fr : Fr} {xs : List Value}

theorem Inv.kblock (hi : Inv C K S η σ w) {a : Addr} {v : Value} (h : K a = some v) : a.block < w.heap.size := World.block_lt_of_cell? w a (hi.kf a v h)

/-- Nothing known turns where only a block that is new is laid. -/
theorem chg_push {T : Nat → Prop} {o : Obj} (hw : w'.heap = w.heap.push o) (h1 : w'.os = w.os) (h2 : w'.tape = w.tape) (h3 : w'.output = w.output) : Chg T w w' :=
  ⟨h1, h2, h3, by simp [hw], fun k hk _ => by rw [hw, Array.getElem?_push, if_neg (by omega)]⟩

/-- New memory whose cells never change. -/
theorem To.newK (hi : Inv C K S η σ w) (hf : FrOK C K S η w fr xs) (hF : Fresh S w) {arr : Array Value} {ty : TypeId} {fz : Nat × Nat} (hw : w'.heap = w.heap.push (.cells arr ty fz)) (h1 : w'.os = w.os) (h2 : w'.tape = w.tape) (h3 : w'.output = w.output)
    (cells : List Value) (hc : ∀ (j : Nat) (c : Value), cells[j]? = some c → arr[j]? = some c) :
    To C S K η w (addK K w.heap.size cells) η σ w' fr xs := by
  have hle : K.le (addK K w.heap.size cells) := addK_le fun a v e hb => absurd (hi.kblock e) (by omega)
  have hin : KIn (fun k => k = w.heap.size) K (addK K w.heap.size cells) := addK_in rfl
  have hchg : Chg (fun k => k = w.heap.size) w w' := chg_push hw h1 h2 h3
  have hS : S w.heap.size := hF _ (Nat.le_refl _)
  have hold : ∀ k, k < w.heap.size → w'.heap[k]? = w.heap[k]? := fun k hk => by rw [hw, Array.getElem?_push, if_neg (by omega)]
  refine ⟨hle, hin.mono (fun k e => e ▸ hS), Hle.refl _, hchg.mono (fun k e => e ▸ hS), ⟨fun a v e => ?_, hi.len, fun l b hb => ?_, hi.inj, fun n hn => ?_, hi.top⟩, ?_⟩
  · by_cases hb : a.block = w.heap.size
    · unfold addK at e
      split at e
      · rename_i hh
        have := hc _ _ e
        have hw2 : w'.heap[w.heap.size]? = some (.cells arr ty fz) := by rw [hw]; simp
        simp [World.cell?, hb, hw2, hh.2, this]
      · exact absurd (hi.kblock e) (by omega)
    · have hk := addK_old e hb
      rw [World.cell?_of_block (w := w) (hold _ (hi.kblock hk))]
      exact hi.kf a v hk
  · obtain ⟨h, n, room, he, hg, hok⟩ := hi.blk l b hb
    have hn := hi.tlt n ⟨l, h, b.gen, room, he, hg⟩
    refine ⟨h, n, room, he, hg, hok.step hle (Hle.refl _) (hold n hn.1) fun hfr a v e => ?_⟩
    by_cases hb2 : a.block = w.heap.size
    · omega
    · exact hok.free hfr a v (addK_old e hb2)
  · have := hi.tlt n hn
    exact ⟨Nat.lt_of_lt_of_le this.1 hchg.size, this.2⟩
  · exact hf.world hle (Hle.refl _) hchg hin (fun n hn => .inl hn) fun n hn hlt => absurd hlt (by omega)

/-- A new block of memory that may be written. -/
theorem To.alloc (hi : Inv C K S η σ w) (hf : FrOK C K S η w fr xs) (hF : Fresh S w) {arr : Array Value} {ty : TypeId} {fz : Nat × Nat} (hw : w'.heap = w.heap.push (.cells arr ty fz)) (h1 : w'.os = w.os) (h2 : w'.tape = w.tape) (h3 : w'.output = w.output)
    (cs : List V) (grow : Bool) (room : Nat) (hr : RelL C K η cs (arr.toList.take cs.length)) (hl : cs.length ≤ arr.size) (ho : oneL cs = true) (hz : FzOK fz cs.length)
    (hst : grow = false → room = 0) (hgr : grow = true → fz = (0, 0) ∧ ∃ k, C.siz ty = some k ∧ 0 < k ∧ arr.size = room * k ∧ room ≤ maxLen ∧ 0 < room) (hex : grow = false → isByteT C ty = false → arr.size = cs.length) :
    To C S K η w K (η ++ [fun g => if g = 0 then some (w.heap.size, room) else none]) (σ ++ [⟨cs, ty, 0, false, grow, 0⟩]) w' fr xs := by
  have hlen := hi.len
  have hle : Hle η (η ++ [fun g => if g = 0 then some (w.heap.size, room) else none]) := Hle.append _ _
  have hchg : Chg (fun k => k = w.heap.size) w w' := chg_push hw h1 h2 h3
  have hS : S w.heap.size := hF _ (Nat.le_refl _)
  have hold : ∀ k, k < w.heap.size → w'.heap[k]? = w.heap[k]? := fun k hk => by rw [hw, Array.getElem?_push, if_neg (by omega)]
  have hnew : w'.heap[w.heap.size]? = some (.cells arr ty fz) := by rw [hw]; simp
  have htouch : ∀ n, Touch (η ++ [fun g => if g = 0 then some (w.heap.size, room) else none]) n → Touch η n ∨ n = w.heap.size := fun n hn => by
    obtain ⟨l, h, g, r, e1, e2⟩ := hn
    rcases Nat.lt_or_ge l η.length with hl' | hl'
    · rw [List.getElem?_append_left hl'] at e1
      exact .inl ⟨l, h, g, r, e1, e2⟩
    · rw [List.getElem?_append_right hl'] at e1
      cases hd : l - η.length with
      | zero =>
        simp only [hd, List.getElem?_cons_zero, Option.some.injEq] at e1
        subst e1
        simp only at e2
        split at e2
        · simp at e2; exact .inr e2.1.symm
        · cases e2
      | succ d => simp [hd] at e1
  have hget : ∀ (l : Nat) (b : Blk), (σ ++ [(⟨cs, ty, 0, false, grow, 0⟩ : Blk)])[l]? = some b → σ[l]? = some b ∨ (l = σ.length ∧ b = ⟨cs, ty, 0, false, grow, 0⟩) := fun l b hb => by
    rcases Nat.lt_or_ge l σ.length with hl' | hl'
    · rw [List.getElem?_append_left hl'] at hb; exact .inl hb
    · rw [List.getElem?_append_right hl'] at hb
      cases hd : l - σ.length with
      | zero =>
        simp only [hd, List.getElem?_cons_zero, Option.some.injEq] at hb
        exact .inr ⟨by omega, hb.symm⟩
      | succ d => simp [hd] at hb
  refine ⟨Kf.le_refl _, KIn.refl _ _, hle, hchg.mono (fun k e => e ▸ hS), ⟨fun a v e => ?_, by simp [hi.len], fun l b hb => ?_, fun l l' b b' h h' n r n' r' hne hb hb' he he' hg hg' => ?_, fun n hn => ?_, fun l b h hb he q x hq => ?_⟩, ?_⟩
  · rw [World.cell?_of_block (w := w) (hold _ (hi.kblock e))]
    exact hi.kf a v e
  · rcases hget l b hb with hb | ⟨rfl, rfl⟩
    · obtain ⟨h, n, room', he, hg, hok⟩ := hi.blk l b hb
      have hn := hi.tlt n ⟨l, h, b.gen, room', he, hg⟩
      have : l < η.length := (List.getElem?_eq_some_iff.1 he).1
      exact ⟨h, n, room', by rw [List.getElem?_append_left this]; exact he, hg, hok.step (Kf.le_refl _) hle (hold n hn.1) hok.free⟩
    · exact ⟨fun g => if g = 0 then some (w.heap.size, room) else none, w.heap.size, room, by rw [List.getElem?_append_right (Nat.le_of_eq hlen)]; simp [hlen], by simp,
        ⟨rfl, ⟨arr, fz, hnew, hl, hr.mono (Kf.le_refl _) hle, fun _ => hz, fun hg _ => hgr hg⟩, ho, hst, fun _ a v e h => absurd (hi.kblock e) (by omega), (fun h => by cases h), fun q1 q2 => ⟨arr, fz, hnew, hex q1 q2⟩⟩⟩
  · -- apart
    have key : ∀ (i : Nat) (c : Blk) (x : Hist) (m r : Nat), σ[i]? = some c → (η ++ [fun g => if g = 0 then some (w.heap.size, room) else none])[i]? = some x → x c.gen = some (m, r) → η[i]? = some x ∧ m < w.heap.size := fun i c x m r hc hx hm => by
      have : i < η.length := by rw [hi.len]; exact (List.getElem?_eq_some_iff.1 hc).1
      rw [List.getElem?_append_left this] at hx
      exact ⟨hx, (hi.tlt m ⟨i, x, c.gen, r, hx, hm⟩).1⟩
    have knew : ∀ (x : Hist) (m r : Nat), (η ++ [fun g => if g = 0 then some (w.heap.size, room) else none])[σ.length]? = some x → x 0 = some (m, r) → m = w.heap.size := fun x m r hx hm => by
      rw [List.getElem?_append_right (by omega)] at hx
      simp only [hi.len, Nat.sub_self, List.getElem?_cons_zero, Option.some.injEq] at hx
      subst hx
      simp at hm
      exact hm.1.symm
    rcases hget l b hb with hb | ⟨rfl, rfl⟩
    · obtain ⟨h1, h2⟩ := key l b h n r hb he hg
      rcases hget l' b' hb' with hb' | ⟨rfl, rfl⟩
      · obtain ⟨h3, h4⟩ := key l' b' h' n' r' hb' he' hg'
        exact hi.inj l l' b b' h h' n r n' r' hne hb hb' h1 h3 hg hg'
      · have := knew h' n' r' he' hg'; omega
    · have hn := knew h n r he hg
      rcases hget l' b' hb' with hb' | ⟨rfl, rfl⟩
      · obtain ⟨_, h4⟩ := key l' b' h' n' r' hb' he' hg'
        omega
      · exact absurd rfl hne
  · rcases htouch n hn with h | h
    · have := hi.tlt n h
      exact ⟨Nat.lt_of_lt_of_le this.1 hchg.size, this.2⟩
    · subst h; exact ⟨by simp [hw], hS⟩
  · rcases hget l b hb with hb | ⟨rfl, rfl⟩
    · have : l < η.length := by rw [hi.len]; exact (List.getElem?_eq_some_iff.1 hb).1
      rw [List.getElem?_append_left this] at he
      exact hi.top l b h hb he q x hq
    · rw [List.getElem?_append_right (by omega)] at he
      simp only [hi.len, Nat.sub_self, List.getElem?_cons_zero, Option.some.injEq] at he
      subst he
      simp only at hq
      split at hq
      · omega
      · cases hq
  · exact hf.world (Kf.le_refl _) hle hchg (KIn.refl _ _) htouch fun n hn hlt => absurd hlt (by omega)

/-! ### Reading -/
theorem Grows.cell {w w2 : World} (h : Grows w w2) {a : Addr} {v : Value} (hc : w.cell? a = some v) : w2.cell? a = some v := by
  have := World.block_lt_of_cell? w a hc
  rw [World.cell?_of_block (w := w) (h.block _ this (by omega))]
  exact hc

theorem getBlk_some {l g : Nat} {b : Blk} (h : getBlk σ l g = some b) : σ[l]? = some b ∧ b.gen = g ∧ b.kind = 0 := by
  unfold getBlk at h
  split at h
  · rename_i c hc
    split at h
    · rename_i hh; cases h; exact ⟨hc, hh.1, hh.2⟩
    · cases h
  · cases h

/-- A block's cells lie in the world. -/
theorem Inv.cells (hi : Inv C K S η σ w) {l g : Nat} {b : Blk} (hb : getBlk σ l g = some b) {n room : Nat} {h : Hist} (he : η[l]? = some h) (hg : h g = some (n, room)) :
    ∃ vs : List Value, RelL C K η b.cells vs ∧ (∀ j c, vs[j]? = some c → w.cell? ⟨n, j, none⟩ = some c) ∧ (b.frozen = false → ∀ j, j < b.cells.length → w.frozen? ⟨n, j, none⟩ = false) := by
  obtain ⟨h1, h2, h3⟩ := getBlk_some hb
  obtain ⟨h', n', room', he', hg', hok⟩ := hi.blk l b h1
  rw [he] at he'; cases he'
  rw [h2, hg] at hg'; cases hg'
  obtain ⟨cur, fz, hh, hl, hr, hz, _⟩ := hok.heap
  refine ⟨cur.toList.take b.cells.length, hr, fun j c hj => ?_, fun hf j hj => ?_⟩
  · rw [List.getElem?_take] at hj
    split at hj
    · simp [World.cell?, hh]; simpa using hj
    · cases hj
  · simp only [World.frozen?, hh]
    exact (hz hf).clear j hj

theorem run_loadVar (hS : Good C) {t : TypeId} {cs : List V} {vs : List Value} {n o off : Nat} {v : V} (h : partV C t cs off = some v) (hr : RelL C K η cs vs) (hc : ∀ j c, vs[j]? = some c → w.cell? ⟨n, o + j, none⟩ = some c) :
    ∃ x, (∀ w2, Grows w w2 → (loadVar t ⟨n, o + off, none⟩).run C.P w2 = .ok x w2) ∧ Rel C K η v x := by
  unfold partV at h
  split at h
  · rename_i m hb hm
    split at h
    · rename_i hle
      cases h
      have hlen : ((vs.drop off).take m).length = m := by rw [← (((hr.drop off).take m).length)]; simp; omega
      have hl : ∀ w2, Grows w w2 → _ := fun w2 hw => run_loadCells_list (P := C.P) w2 ⟨n, o + off, none⟩ ((vs.drop off).take m) (fun j u hj => by
        rw [List.getElem?_take] at hj
        split at hj
        · rw [List.getElem?_drop] at hj
          have := hc _ _ hj
          rw [Addr.add_lit, Nat.add_assoc]
          exact hw.cell this
        · cases hj)
      rw [hlen] at hl
      refine ⟨.agg ((vs.drop off).take m).toArray, fun w2 hw => by simp [loadVar, isAggT_run hS hb, siz_run hS hm, hl w2 hw], .agg _ _ ?_⟩
      simpa using (hr.drop off).take m
    · cases h
  · rename_i hb
    obtain ⟨x, hx, hrx⟩ := hr.get h
    have := hc _ _ hx
    exact ⟨x, fun w2 hw => by simp [loadVar, isAggT_run hS hb, hw.cell this], hrx⟩
  · cases h

theorem partV_ne {t : TypeId} {cs : List V} {off : Nat} {v : V} (h : partV C t cs off = some v) (h1 : oneL cs = true) : ∀ e ys, v ≠ .own e ys := by
  unfold partV at h
  split at h
  · split at h
    · cases h; simp
    · cases h
  · have := oneL_get h1 h
    intro e ys e1
    subst e1
    simp [V.one] at this
  · cases h

/-- A load. -/
theorem loadV_run (hS : Good C) (hi : Inv C K S η σ w) {t : TypeId} {p : V} {v : V} {a : Value} (hp : Rel C K η p a) (h : loadV C t σ p = some v) :
    ∃ x, (∀ w2, Grows w w2 → (Instr.loadAt t a).run C.P w2 = .ok x w2) ∧ Rel C K η v x ∧ ∀ e ys, v ≠ .own e ys := by
  unfold loadV at h
  split at h
  · rename_i l g off
    cases hp with
    | ptr _ _ _ n room hh he hg =>
      cases hb : getBlk σ l g with
      | none => simp [hb] at h
      | some b =>
        simp only [hb] at h
        obtain ⟨vs, hr, hc, _⟩ := hi.cells hb he hg
        obtain ⟨x, hx, hrx⟩ := run_loadVar (w := w) (n := n) (o := 0) hS h hr (by simpa using hc)
        obtain ⟨h1, h2, _⟩ := getBlk_some hb
        obtain ⟨_, _, _, _, _, hok⟩ := hi.blk l b h1
        exact ⟨x, fun w2 hw => by simpa [Instr.loadAt, Instr.sureAddr] using hx w2 hw, hrx, partV_ne h hok.one⟩
  · rename_i x off
    cases hp with
    | eptr _ _ n o cvs h1 h2 h3 =>
      obtain ⟨y, hy, hry⟩ := run_loadVar (w := w) (n := n) (o := o) hS h h2 (fun j c hj => hi.kf _ _ (h1 j c hj))
      exact ⟨y, fun w2 hw => by simpa [Instr.loadAt, Instr.sureAddr] using hy w2 hw, hry.mono (Kf.le_refl _) (Hle.nil _), partV_ne h h3⟩
  · cases h

theorem ok_load (hS : Good C) (hG : GlobOK C K) {a : Act} {o : Oper} (hi : Inv C K S η σ w) (hf : FrOK C K S η w fr a.tmps.toList) (t : TypeId) (p : Operand) (ho : o.op = .load t p) {v : V} (h : loadV C t σ (evalV C fr p) = some v) :
    Still C S K η w a o v fr (Grows w) := by
  obtain ⟨x, hx, hr, hv⟩ := loadV_run hS hi (evalV_rel hG hf.rel p) h
  exact .mk' hf (x := x) (fun w2 hw => by simp only [execOp, ho]; exact run_v _ _ _ (hx w2 hw)) hr hv

end
end MI

namespace MI
open Go

theorem take_setRange {α : Type} : ∀ (vs cs : List α) (off n : Nat), (setRange cs off vs).take n = setRange (cs.take n) off vs
  | [], _, _, _ => rfl
  | v :: r, cs, off, n => by rw [setRange, take_setRange r, setRange, List.take_set]

section
variable {C : Cfg} {S : Nat → Prop} {K : Kf} {η : List Hist} {σ : Mem} {w w' : World} {fr : Fr} {xs : List Value} {a : Act} {o : Oper}

theorem run_u (s : Sem Unit) (w w' : World) (h : s.run C.P w = .ok () w') : ((do s; pure .skip) : Sem Next).run C.P w = .ok .skip w' := by
  simp [h]

theorem ok_store (hS : Good C) (hG : GlobOK C K) (hi : Inv C K S η σ w) (hf : FrOK C K S η w fr a.tmps.toList) (t : TypeId) (pa px : Operand) (ho : o.op = .store t pa px) {σ' : Mem}
    (h : storeV C t σ (evalV C fr px).un (evalV C fr pa) = some σ') : OpOK C S K η w a o undef' fr σ' := by
  have hx := (evalV_rel hG hf.rel px).un
  have hp := evalV_rel hG hf.rel pa
  generalize (evalV C fr px).un = v at h hx
  generalize evalV C fr pa = p at h hp
  unfold storeV at h
  split at h
  · rename_i l g off
    split at h
    · rename_i b m hb hm
      simp only at h
      split at h
      · rename_i hcond
        simp only [Bool.and_eq_true, Bool.not_eq_true', decide_eq_true_eq] at hcond
        obtain ⟨⟨⟨hfz, hone⟩, hlen⟩, hle⟩ := hcond
        cases h
        obtain ⟨q, hq⟩ : ∃ q, q = a.eval pa := ⟨_, rfl⟩
        rw [← hq] at hp
        cases hp with
        | ptr _ _ _ n room hh he hg =>
          obtain ⟨hb1, hb2, hb3⟩ := getBlk_some hb
          obtain ⟨h', n', room', he', hg', hok⟩ := hi.blk l b hb1
          rw [he] at he'; cases he'
          rw [hb2, hg] at hg'; cases hg'
          obtain ⟨cur, fz, hheap, hcl, hcr, hcz, hgr⟩ := hok.heap
          have hxc := hx.cells hone
          have hxl : (a.eval px).cells.toList.length = m := by rw [← hxc.length, hlen]
          have hones := hxc.ones hone
          have hst := run_storeCells_cells (P := C.P) n off (a.eval px).cells.toList 0 w (fun j hj => by
              have : off + 0 + j < cur.size := by omega
              simp [World.cell?, hheap]
              omega) (fun j hj => by
              simp only [World.frozen?, hheap]
              exact (hcz hfz).clear _ (by omega)) hones
          obtain ⟨cur', hheap', hcur'⟩ := heap_setCells n b.ty fz (a.eval px).cells.toList off w cur hheap
          have hsz : (a.eval px).cells.size = m := by simpa using hxl
          refine .skip (K' := K) (η' := η.set l hh) (w' := w.setCells n off (a.eval px).cells.toList) ?_ ?_
          · simp only [execOp, ho]
            refine run_u _ _ _ ?_
            rw [← hq]
            simp only [Instr.storeAt, Instr.sureAddr, storeVar, Sem.run_bind, Sem.run_pure, Result.andThen_ok, siz_run hS hm, hsz]
            simpa using hst
          · have hto : To C S K η w K (η.set l hh) (σ.set l { b with cells := setRange b.cells off v.cells }) (w.setCells n off (a.eval px).cells.toList) fr a.tmps.toList := by
              refine To.upd hi hf hb1 he (by rw [hb2]; exact hg) hfz (n' := n) (room' := room) (fun _ _ e => e) (by simpa [hb2] using hg) (.inl rfl) (hi.tlt n ⟨l, hh, g, room, he, hg⟩).2 (fun _ _ _ e => .inl e)
                ((chg_setCells n _ off w).mono fun k e => .inl e) (by rw [size_setCells]; exact (hi.tlt n ⟨l, hh, g, room, he, hg⟩).1) ?_ (hi.top l b hh hb1 he)
              refine ⟨hok.kind, ⟨cur', fz, hheap', ?_, ?_, ?_, ?_⟩, oneL_setRange _ _ _ hok.one hone, hok.still, hok.free, (fun e => by simp [hfz] at e), fun q1 q2 => by
                obtain ⟨cur2, fz2, e1, e2⟩ := hok.exact q1 q2
                rw [hheap] at e1; cases e1
                exact ⟨cur', fz, hheap', by rw [← Array.length_toList, hcur', length_setRange, Array.length_toList, length_setRange]; exact e2⟩⟩
              · have : cur'.size = cur.size := by rw [← Array.length_toList, hcur', length_setRange, Array.length_toList]
                simp only [length_setRange]; omega
              · have hr2 := RelL.setRange hxc hcr off
                have hle' : Hle η (η.set l hh) := Hle.set he fun _ _ e => e
                simp only [length_setRange, hcur', take_setRange]
                exact hr2.mono (Kf.le_refl _) hle'
              · simpa only [length_setRange] using hcz
              · intro h1 h2
                have : cur'.size = cur.size := by rw [← Array.length_toList, hcur', length_setRange, Array.length_toList]
                rw [this]
                exact hgr h1 h2
            exact ⟨hto.kle, hto.kin, hto.hle, hto.chg, hto.inv, hto.fr.cons (.tuple [] #[] .nil) (by simp [undef'])⟩
      · cases h
    · cases h
  · cases h


theorem ok_alloc (hS : Good C) (hi : Inv C K S η σ w) (hf : FrOK C K S η w fr a.tmps.toList) (hF : Fresh S w) (e : TypeId) (ho : o.op = .alloc e) {z : V} (hz : C.zero e = some z) :
    OpOK C S K η w a o (.ptr σ.length 0 0) fr (σ ++ [⟨z.cells, e, 0, false, false, 0⟩]) True := by
  obtain ⟨i, zr, h1, h2, rfl, h4, h5⟩ := hS.zero e z hz
  have hr := (cv_rel (C := C) (K := K) (η := η) zr).cells h4
  have hl : (cv zr).cells.length = zr.cells.size := by rw [hr.length]; simp
  have hto := To.alloc hi hf hF (w' := w.alloc (.cells zr.cells e)) (arr := zr.cells) (ty := e) (fz := (0, 0)) rfl rfl rfl rfl (cv zr).cells false 0 (by rw [hl, List.take_of_length_le (by simp)]; exact hr) (by omega) h4 (.inl rfl) (by simp) (by simp) (fun _ _ => hl.symm)
  refine .value (x := .pointer (some ⟨w.heap.size, 0, none⟩)) ?_ ⟨hto.kle, hto.kin, hto.hle, hto.chg, hto.inv, hto.fr.cons (.ptr _ _ _ _ 0 (fun g => if g = 0 then some (w.heap.size, 0) else none) ?_ (by simp)) (by simp)⟩ (fun _ => Chg.alloc _ w _)
  · simp only [execOp, ho]
    refine run_v _ _ _ ?_
    simp [Instr.alloc, zeroValue, typeInfo, h1, h2, newVar, Go.newRow]
  · rw [List.getElem?_append_right (by rw [hi.len]; exact Nat.le_refl _)]; simp [hi.len]

/-- What is told of a value's copy: frozen slices, nothing owned. Without memory nothing is looked up. -/
theorem frz_nil_aux : True := trivial

end
end MI

namespace MI
open Go

theorem lowL_append (n : Nat) (a b : List V) : lowL n (a ++ b) = (lowL n a && lowL n b) := by
  induction a with
  | nil => simp [lowL]
  | cons x r ih => simp [lowL, ih, Bool.and_assoc]

theorem low_cells (n : Nat) (v : V) : lowL n v.cells = v.low n := by
  cases v <;> simp [V.cells, lowL, V.low]

theorem lowL_flat (n : Nat) : ∀ xs : List V, lowL n (flatV xs) = lowL n xs
  | [] => rfl
  | x :: r => by simp [flatV, lowL_append, lowL, lowL_flat n r, low_cells]

theorem oneL_head {c : V} {r : List V} (h : oneL (c :: r) = true) : c.one = true ∧ oneL r = true := by
  simpa [oneL] using h

/-- Elements out of cells are those cells. -/
theorem elems_flat (agg : Bool) (k : Nat) (hk : 0 < k) (ha : agg = true ∨ k = 1) : ∀ (n : Nat) (cs : List V), n * k ≤ cs.length → oneL cs = true →
    flatV (elems agg k n cs) = cs.take (n * k) ∧ (∀ x ∈ elems agg k n cs, x.cells.length = k) ∧ (elems agg k n cs).length = n
  | 0, cs, _, _ => by simp [elems, flatV]
  | n + 1, cs, h, h1 => by
    have hle : k ≤ cs.length := by rw [Nat.add_mul] at h; omega
    obtain ⟨e1, e2, e3⟩ := elems_flat agg k hk ha n (cs.drop k) (by rw [Nat.add_mul] at h; simp; omega) (oneL_drop h1 k)
    have hc : (if agg = true then V.agg (cs.take k) else cs.headD .junk).cells = cs.take k := by
      rcases ha with rfl | rfl
      · simp [V.cells]
      · cases agg
        · cases cs with
          | nil => simp at hle
          | cons c r => simp [V.one_cells (oneL_head h1).1]
        · simp [V.cells]
    refine ⟨?_, fun x hx => ?_, by simp [elems, e3]⟩
    · simp only [elems, flatV, hc, e1]
      rw [show (n + 1) * k = k + n * k by rw [Nat.add_mul]; omega, List.take_add]
    · simp only [elems, List.mem_cons] at hx
      rcases hx with rfl | hx
      · rw [hc]; simp; omega
      · exact e2 x hx

section
variable {C : Cfg} {S : Nat → Prop} {K : Kf} {η : List Hist} {σ : Mem} {w w' : World} {fr : Fr} {xs : List Value} {a : Act} {o : Oper}

theorem set_self {l : Nat} {b : Blk} (h : σ[l]? = some b) : σ.set l b = σ := by
  apply List.ext_getElem?
  intro i
  by_cases hi : l = i
  · subst hi
    have : l < σ.length := (List.getElem?_eq_some_iff.1 h).1
    rw [List.getElem?_set, if_pos rfl, if_pos this, h]
  · rw [List.getElem?_set, if_neg hi]

/-- A block that is written no more. -/
theorem Inv.freeze (hi : Inv C K S η σ w) {l : Nat} {b : Blk} (hb : σ[l]? = some b) :
    ∃ K', K.le K' ∧ KIn (Touch η) K K' ∧ Inv C K' S η (σ.set l { b with frozen := true }) w ∧ ∀ h n room, η[l]? = some h → h b.gen = some (n, room) → ∃ vs, RelL C K' η b.cells vs ∧ Holds K' n 0 vs := by
  obtain ⟨h, n, room, he, hg, hok⟩ := hi.blk l b hb
  have hlσ : l < σ.length := (List.getElem?_eq_some_iff.1 hb).1
  cases hfz : b.frozen with
  | true =>
    refine ⟨K, Kf.le_refl _, KIn.refl _ _, ?_, fun h' n' room' he' hg' => ?_⟩
    · have : ({ b with frozen := true } : Blk) = b := by cases b; simp at hfz; simp [hfz]
      rw [this, set_self hb]
      exact hi
    · rw [he] at he'; cases he'
      rw [hg] at hg'; cases hg'
      exact hok.held hfz
  | false =>
    obtain ⟨cur, fz, hh, hl, hr, hz, hgr⟩ := hok.heap
    have hn := hi.tlt n ⟨l, h, b.gen, room, he, hg⟩
    have hle : K.le (addK K n (cur.toList.take b.cells.length)) := addK_le fun a v e hb' => absurd hb' (hok.free hfz a v e)
    have hcell : ∀ (j : Nat) (c : Value), (cur.toList.take b.cells.length)[j]? = some c → w.cell? ⟨n, j, none⟩ = some c := fun j c hj => by
      rw [List.getElem?_take] at hj
      split at hj
      · simp [World.cell?, hh]; simpa using hj
      · cases hj
    refine ⟨_, hle, addK_in ⟨l, h, b.gen, room, he, hg⟩, ⟨fun a v e => ?_, by simp [hi.len], fun l' b' hb' => ?_, fun l1 l2 b1 b2 h1 h2 n1 r1 n2 r2 hne hb1 hb2 he1 he2 hg1 hg2 => ?_, hi.tlt, fun l1 b1 h1 hb1 he1 => by
      rcases get_set hb1 with ⟨rfl, rfl⟩ | ⟨_, hb1⟩
      · exact hi.top l1 b h1 hb he1
      · exact hi.top l1 b1 h1 hb1 he1⟩, fun h' n' room' he' hg' => ?_⟩
    · unfold addK at e
      split at e
      · rename_i hc
        have := hcell _ _ e
        obtain ⟨ab, ao, asp⟩ := a
        simp at hc
        rw [hc.1, hc.2]
        exact this
      · exact hi.kf a v e
    · rcases get_set hb' with ⟨rfl, rfl⟩ | ⟨hne, hb'⟩
      · exact ⟨h, n, room, he, hg, ⟨hok.kind, ⟨cur, fz, hh, hl, hr.mono hle (Hle.refl _), (fun h => by cases h), (fun _ h => by cases h)⟩, hok.one, hok.still, (fun h => by cases h), fun _ => ⟨_, hr.mono hle (Hle.refl _), addK_holds _ _ _⟩, fun q1 q2 => hok.exact q1 q2⟩⟩
      · obtain ⟨h', n', room', he', hg', hok'⟩ := hi.blk l' b' hb'
        have hnn : n' ≠ n := hi.inj l' l b' b h' h n' room' n room hne hb' hb he' he hg' hg
        exact ⟨h', n', room', he', hg', hok'.step hle (Hle.refl _) rfl fun hf a v e hab => hok'.free hf a v (addK_old e (by rw [hab]; exact hnn)) hab⟩
    · have key : ∀ (i : Nat) (c : Blk), (σ.set l { b with frozen := true })[i]? = some c → ∃ c', σ[i]? = some c' ∧ c'.gen = c.gen := fun i c hc => by
        rcases get_set hc with ⟨rfl, rfl⟩ | ⟨_, hc⟩
        · exact ⟨b, hb, rfl⟩
        · exact ⟨c, hc, rfl⟩
      obtain ⟨c1, d1, f1⟩ := key l1 b1 hb1
      obtain ⟨c2, d2, f2⟩ := key l2 b2 hb2
      exact hi.inj l1 l2 c1 c2 h1 h2 n1 r1 n2 r2 hne d1 d2 he1 he2 (by rw [f1]; exact hg1) (by rw [f2]; exact hg2)
    · rw [he] at he'; cases he'
      rw [hg] at hg'; cases hg'
      exact ⟨_, hr.mono hle (Hle.refl _), addK_holds _ _ _⟩

/-- A mutable slice's elements. -/
theorem readMsl_some {e : TypeId} {l g off len : Nat} {ys : List V} (h : readMsl C e σ l g off len = some ys) :
    ∃ b agg k, getBlk σ l g = some b ∧ isAggT C e = some agg ∧ C.siz e = some k ∧ (off + len) * k ≤ b.cells.length ∧ 0 < k ∧ (agg = true ∨ k = 1) ∧ ys = elems agg k len (b.cells.drop (off * k)) := by
  unfold readMsl at h
  split at h
  · rename_i b agg k h1 h2 h3
    split at h
    · rename_i hh
      cases h
      exact ⟨b, agg, k, h1, h2, h3, hh.1, hh.2.1, hh.2.2, rfl⟩
    · cases h
  · cases h

/-- What is left of a state when only more is known to stay. -/
structure Knows (C : Cfg) (S : Nat → Prop) (η : List Hist) (w : World) (K K' : Kf) (σ' : Mem) : Prop where
  kle : K.le K'
  kin : KIn (Touch η) K K'
  inv : Inv C K' S η σ' w

theorem Knows.refl (hi : Inv C K S η σ w) : Knows C S η w K K σ := ⟨Kf.le_refl _, KIn.refl _ _, hi⟩
theorem Knows.trans {K' K'' : Kf} {σ' σ'' : Mem} (h : Knows C S η w K K' σ') (h' : Knows C S η w K' K'' σ'') : Knows C S η w K K'' σ'' := ⟨Kf.le_trans h.kle h'.kle, h.kin.trans h'.kin, h'.inv⟩
theorem Knows.to {K' : Kf} {σ' : Mem} (h : Knows C S η w K K' σ') (hf : FrOK C K S η w fr xs) : To C S K η w K' η σ' w fr xs := by
  refine ⟨h.kle, h.kin.mono fun n hn => ?_, Hle.refl _, Chg.refl _ _, h.inv, hf.step h.kle (Hle.refl _) fun i e ys x g hi' hx hg => ?_⟩
  · exact (h.inv.tlt n hn).2
  · have ho := hf.ownBlk hi' hx hg
    exact ⟨rfl, fun a c e1 e2 => (h.kin a c e1).resolve_right (by rw [e2]; exact ho.2.2), ho.2.2⟩

mutual
theorem frz_ok : (v : V) → {K : Kf} → {σ : Mem} → Inv C K S η σ w → {x : Value} → Rel C K η v x → {v' : V} → {σ' : Mem} → frz C v σ = some (v', σ') →
    ∃ K', Knows C S η w K K' σ' ∧ Rel C K' η v' x ∧ ∀ e ys, v' ≠ .own e ys
  | .msl l g off len e, K, σ, hi, x, hr, v', σ', h => by
    simp only [frz] at h
    split at h
    · rename_i ys b hy hb
      split at h
      · rename_i hh
        cases h
        simp only [Bool.and_eq_true] at hh
        obtain ⟨b', agg, k, h1, h2, h3, h4, h5, h6, rfl⟩ := readMsl_some hy
        obtain ⟨h7, h8, _⟩ := getBlk_some h1
        rw [hb] at h7; cases h7
        obtain ⟨K', hle, hin, hinv, hvs⟩ := hi.freeze hb
        refine ⟨K', ⟨hle, hin, hinv⟩, ?_, by simp⟩
        obtain ⟨_, _, _, _, _, hok⟩ := hi.blk l b hb
        have hdl : len * k ≤ (b.cells.drop (off * k)).length := by rw [Nat.add_mul] at h4; simp; omega
        obtain ⟨f1, f2, f3⟩ := elems_flat agg k h5 h6 len (b.cells.drop (off * k)) hdl (oneL_drop hok.one _)
        cases hr with
        | msl _ _ _ _ _ n room k' cap hh' he hg h3' hcap h5' =>
          rw [h3] at h3'; cases h3'
          obtain ⟨vs, hvr, hvh⟩ := hvs _ n room he (by rw [h8]; exact hg)
          have hrel : RelL C K' η (flatV (elems agg k len (b.cells.drop (off * k)))) ((vs.drop (off * k)).take (len * k)) := by
            rw [f1]; exact (hvr.drop _).take _
          have hlow := hrel.low 0 (by rw [lowL_flat]; exact hh.1)
          rw [List.take_zero] at hlow
          have := Rel.row (C := C) (K := K') (η := η) (elems agg k len (b.cells.drop (off * k))) n (off * k) cap k _ (by rw [f3]; exact hcap) f2 hh.2 (fun j c hj => by
            rw [List.getElem?_take] at hj
            split at hj
            · rw [List.getElem?_drop] at hj
              have := hvh _ _ hj
              simpa using this
            · cases hj) hlow
          rw [f3] at this
          exact this
        | mslNil _ _ _ _ n room hh' he hg hne ad cap =>
          simp only [elems]
          exact .rowNil _ _
      · cases h
    · cases h
  | .agg cs, K, σ, hi, x, hr, v', σ', h => by
    simp only [frz] at h
    split at h
    · rename_i cs' σ'' hc
      cases h
      cases hr with
      | agg _ vs hr =>
        obtain ⟨K', hk, hr'⟩ := frzL_ok cs hi hr hc
        exact ⟨K', hk, .agg _ _ hr'.1, by simp⟩
    · cases h
  | .tuple cs, K, σ, hi, x, hr, v', σ', h => by
    simp only [frz] at h
    split at h
    · rename_i cs' σ'' hc
      cases h
      cases hr with
      | tuple _ vs hr =>
        obtain ⟨K', hk, hr'⟩ := frzL_ok cs hi hr hc
        exact ⟨K', hk, .tuple _ _ hr'.1, by simp⟩
    · cases h
  | .own e ys, K, σ, hi, x, hr, v', σ', h => by
    simp only [frz] at h
    cases h
    exact ⟨K, .refl hi, hr.un, by simp⟩
  | .nils, K, σ, hi, x, hr, v', σ', h => by
    simp only [frz] at h
    cases h
    cases hr
    exact ⟨K, .refl hi, .rowNil _ _, by simp⟩
  | .iface t v, K, σ, hi, x, hr, v', σ', h => by
    simp only [frz] at h
    split at h
    · rename_i u σ'' hc
      cases h
      cases hr with
      | iface _ _ y hr =>
        obtain ⟨K', hk, hr', _⟩ := frz_ok v hi hr hc
        exact ⟨K', hk, .iface _ _ _ hr', by simp⟩
    · cases h
  | .bool _, K, σ, hi, x, hr, v', σ', h => by simp only [frz] at h; cases h; exact ⟨K, .refl hi, hr, by simp⟩
  | .int _ _, K, σ, hi, x, hr, v', σ', h => by simp only [frz] at h; cases h; exact ⟨K, .refl hi, hr, by simp⟩
  | .str _, K, σ, hi, x, hr, v', σ', h => by simp only [frz] at h; cases h; exact ⟨K, .refl hi, hr, by simp⟩
  | .nilptr, K, σ, hi, x, hr, v', σ', h => by simp only [frz] at h; cases h; exact ⟨K, .refl hi, hr, by simp⟩
  | .ptr _ _ _, K, σ, hi, x, hr, v', σ', h => by simp only [frz] at h; cases h; exact ⟨K, .refl hi, hr, by simp⟩
  | .eptr _ _, K, σ, hi, x, hr, v', σ', h => by simp only [frz] at h; cases h; exact ⟨K, .refl hi, hr, by simp⟩
  | .row _, K, σ, hi, x, hr, v', σ', h => by simp only [frz] at h; cases h; exact ⟨K, .refl hi, hr, by simp⟩
  | .func _ _ _, K, σ, hi, x, hr, v', σ', h => by simp only [frz] at h; cases h; exact ⟨K, .refl hi, hr, by simp⟩
  | .nilfn, K, σ, hi, x, hr, v', σ', h => by simp only [frz] at h; cases h; exact ⟨K, .refl hi, hr, by simp⟩
  | .niliface, K, σ, hi, x, hr, v', σ', h => by simp only [frz] at h; cases h; exact ⟨K, .refl hi, hr, by simp⟩
  | .junk, K, σ, hi, x, hr, v', σ', h => by simp only [frz] at h; cases h; exact ⟨K, .refl hi, hr, by simp⟩
theorem frzL_ok : (vs : List V) → {K : Kf} → {σ : Mem} → Inv C K S η σ w → {xs : List Value} → RelL C K η vs xs → {vs' : List V} → {σ' : Mem} → frzL C vs σ = some (vs', σ') →
    ∃ K', Knows C S η w K K' σ' ∧ RelL C K' η vs' xs ∧ ∀ (i : Nat) (e : TypeId) (ys : List V), vs'[i]? ≠ some (.own e ys)
  | [], K, σ, hi, xs, hr, vs', σ', h => by
    simp only [frzL] at h
    cases h
    exact ⟨K, .refl hi, hr, by simp⟩
  | v :: r, K, σ, hi, xs, hr, vs', σ', h => by
    simp only [frzL] at h
    split at h
    · rename_i v1 σ1 h1
      split at h
      · rename_i r2 σ2 h2
        cases h
        cases hr with
        | cons _ x _ s hv hs =>
          obtain ⟨K1, hk1, hr1, hn1⟩ := frz_ok v hi hv h1
          obtain ⟨K2, hk2, hr2, hn2⟩ := frzL_ok r hk1.inv (hs.mono hk1.kle (Hle.refl _)) h2
          refine ⟨K2, hk1.trans hk2, .cons _ _ _ _ (hr1.mono hk2.kle (Hle.refl _)) hr2, fun i e ys => ?_⟩
          cases i with
          | zero => simpa using hn1 e ys
          | succ i => simpa using hn2 i e ys
      · cases h
    · cases h
end

end
end MI

namespace MI
open Go

section
variable {C : Cfg} {S : Nat → Prop} {K : Kf} {η : List Hist} {σ : Mem} {w w' : World} {fr : Fr} {xs : List Value} {a : Act} {o : Oper}

mutual
theorem Rel.unD : {v : V} → {x : Value} → Rel C K η v x → Rel C K η v.unD x
  | _, _, .bool b => by simp only [V.unD]; exact .bool b
  | _, _, .int k n => by simp only [V.unD]; exact .int k n
  | _, _, .str b => by simp only [V.unD]; exact .str b
  | _, _, .nilptr => by simp only [V.unD]; exact .nilptr
  | _, _, .ptr l g off b room h h1 h2 => by simp only [V.unD]; exact .ptr l g off b room h h1 h2
  | _, _, .eptr x off b o cvs h1 h2 h3 => by simp only [V.unD]; exact .eptr x off b o cvs h1 h2 h3
  | _, _, .row xs b o cap k cvs h0 h1 h2 h3 h4 => by simp only [V.unD]; exact .row xs b o cap k cvs h0 h1 h2 h3 h4
  | _, _, .rowNil a cap => by simp only [V.unD]; exact .rowNil a cap
  | _, _, .own e xs v h => by simp only [V.unD]; exact h.mono (Kf.le_refl _) (Hle.nil _)
  | _, _, .nils => by simp only [V.unD]; exact .rowNil _ _
  | _, _, .msl l g off len e b room k cap h h1 h2 h3 h4 h5 => by simp only [V.unD]; exact .msl l g off len e b room k cap h h1 h2 h3 h4 h5
  | _, _, .mslNil l g off e b room h h1 h2 h3 a cap => by simp only [V.unD]; exact .mslNil l g off e b room h h1 h2 h3 a cap
  | _, _, .func fn a b a' b' h1 h2 => by simp only [V.unD]; exact .func fn a b a' b' h1 h2
  | _, _, .nilfn => by simp only [V.unD]; exact .nilfn
  | _, _, .iface t v x h => by simp only [V.unD]; exact .iface t _ x h.unD
  | _, _, .niliface => by simp only [V.unD]; exact .niliface
  | _, _, .agg cs vs h => by simp only [V.unD]; exact .agg _ vs h.unD
  | _, _, .tuple cs vs h => by simp only [V.unD]; exact .tuple _ vs h.unD
  | _, _, .junk v => by simp only [V.unD]; exact .junk v
theorem RelL.unD : {vs : List V} → {xs : List Value} → RelL C K η vs xs → RelL C K η (unDL vs) xs
  | _, _, .nil => by simp only [unDL]; exact .nil
  | _, _, .cons v x r s h t => by simp only [unDL]; exact .cons _ _ _ _ h.unD t.unD
end

theorem V.unD_ne (v : V) (e : TypeId) (ys : List V) : v.unD ≠ .own e ys := by cases v <;> simp [V.unD]

/-! ### Operations that only compute -/

theorem ok_nilCheck (hG : GlobOK C K) (hf : FrOK C K S η w fr a.tmps.toList) (x : Operand) (ho : o.op = .nilCheck x) (v : V) (hv : evalV C fr x = v)
    (hk : (∃ l g o, v = .ptr l g o) ∨ (∃ y o, v = .eptr y o) ∨ (∃ f b c, v = .func (.func f) b c)) : Still C S K η w a o v fr (fun _ => True) := by
  have hr := evalV_rel hG hf.rel x
  rw [hv] at hr
  obtain ⟨q, hq⟩ : ∃ q, q = a.eval x := ⟨_, rfl⟩
  rw [← hq] at hr
  refine .mk0 hf (x := q) (fun w => ?_) hr ?_
  · simp only [execOp, ho, ← hq]
    rcases hk with ⟨l, g, o, rfl⟩ | ⟨y, o, rfl⟩ | ⟨f, b, c, rfl⟩ <;> cases hr <;> rfl
  · rcases hk with ⟨l, g, o, rfl⟩ | ⟨y, o, rfl⟩ | ⟨f, b, c, rfl⟩ <;> simp

theorem intBits_run {op : BinOp} {k : IntKind} {x y : Int} {E : Env} {v : V} (h : (intOp op k x y).run E = some v) (hop : op = .and ∨ op = .or ∨ op = .xor ∨ op = .andNot) :
    ∃ r, (∀ w : World, (Op.intBits op k x y).run C.P w = .ok r w) ∧ Rel C K η v r ∧ ∀ e ys, v ≠ .own e ys := by
  rcases hop with rfl | rfl | rfl | rfl <;> simp only [intOp, Ask.run, Option.some.injEq] at h <;> subst h <;> exact ⟨_, fun w => rfl, .int _ _, by simp⟩

theorem intOp_run {op : BinOp} {k : IntKind} {x y : Int} {E : Env} {v : V} (t : TypeId) (h : (intOp op k x y).run E = some v) :
    ∃ r, (∀ w : World, (binOp op t (.int k x) (.int k y)).run C.P w = .ok r w) ∧ Rel C K η v r ∧ ∀ e ys, v ≠ .own e ys := by
  have hbits : (op = .and ∨ op = .or ∨ op = .xor ∨ op = .andNot) → ∃ r, (∀ w : World, (binOp op t (.int k x) (.int k y)).run C.P w = .ok r w) ∧ Rel C K η v r ∧ ∀ e ys, v ≠ .own e ys := fun hop => by
    obtain ⟨r, h1, h2⟩ := intBits_run (C := C) (K := K) (η := η) h hop
    refine ⟨r, fun w => ?_, h2⟩
    rcases hop with rfl | rfl | rfl | rfl <;> simpa [binOp] using h1 w
  cases op with
  | and => exact hbits (by simp)
  | or => exact hbits (by simp)
  | xor => exact hbits (by simp)
  | andNot => exact hbits (by simp)
  | quo =>
    simp only [intOp, Ask.run] at h
    split at h
    · rename_i hb
      cases h
      have hy : y ≠ 0 := by simpa using hb
      exact ⟨_, fun w => by simp [binOp, Op.intDiv, hy], .int _ _, by simp⟩
    · cases h
  | rem =>
    simp only [intOp, Ask.run] at h
    split at h
    · rename_i hb
      cases h
      have hy : y ≠ 0 := by simpa using hb
      exact ⟨_, fun w => by simp [binOp, Op.intDiv, hy], .int _ _, by simp⟩
    · cases h
  | shl =>
    simp only [intOp, Ask.run] at h
    split at h
    · rename_i hb
      cases h
      have hy : ¬ y < 0 := by simp at hb; omega
      exact ⟨_, fun w => by simp [binOp, Op.shift, hy], .int _ _, by simp⟩
    · cases h
  | shr =>
    simp only [intOp, Ask.run] at h
    split at h
    · rename_i hb
      cases h
      have hy : ¬ y < 0 := by simp at hb; omega
      exact ⟨_, fun w => by simp [binOp, Op.shift, hy], .int _ _, by simp⟩
    · cases h
  | add => simp only [intOp, Ask.run] at h; cases h; exact ⟨_, fun w => by simp [binOp, Op.intArith], .int _ _, by simp⟩
  | sub => simp only [intOp, Ask.run] at h; cases h; exact ⟨_, fun w => by simp [binOp, Op.intArith], .int _ _, by simp⟩
  | mul => simp only [intOp, Ask.run] at h; cases h; exact ⟨_, fun w => by simp [binOp, Op.intArith], .int _ _, by simp⟩
  | eql => simp only [intOp, Ask.run] at h; cases h; exact ⟨_, fun w => by simp [binOp, Op.intCmp], .bool _, by simp⟩
  | neq => simp only [intOp, Ask.run] at h; cases h; exact ⟨_, fun w => by simp [binOp, Op.intCmp], .bool _, by simp⟩
  | lss => simp only [intOp, Ask.run] at h; cases h; exact ⟨_, fun w => by simp [binOp, Op.intCmp], .bool _, by simp⟩
  | leq => simp only [intOp, Ask.run] at h; cases h; exact ⟨_, fun w => by simp [binOp, Op.intCmp], .bool _, by simp⟩
  | gtr => simp only [intOp, Ask.run] at h; cases h; exact ⟨_, fun w => by simp [binOp, Op.intCmp], .bool _, by simp⟩
  | geq => simp only [intOp, Ask.run] at h; cases h; exact ⟨_, fun w => by simp [binOp, Op.intCmp], .bool _, by simp⟩

theorem strOp_run {op : BinOp} {p q : ByteArray} {E : Env} {v : V} (t : TypeId) (h : (strOp op p.data.toList q.data.toList).run E = some v) :
    ∃ r, (∀ w : World, (binOp op t (.string p) (.string q)).run C.P w = .ok r w) ∧ Rel C K η v r ∧ ∀ e ys, v ≠ .own e ys := by
  cases op <;> simp only [strOp, Ask.run] at h <;> try (cases h; done)
  case add =>
    split at h
    · rename_i hb
      cases h
      have hb' : ¬ (((p.size + q.size : Nat) : Int) > IntKind.i64.max) := by
        have h1 : p.data.toList.length = p.size := Array.length_toList
        have h2 : q.data.toList.length = q.size := Array.length_toList
        simp only [decide_eq_true_eq] at hb
        rw [IntKind.max_i64]
        omega
      refine ⟨.string (p ++ q), fun w => by simp only [binOp, Op.stringOp, if_neg hb']; rfl, ?_, by simp⟩
      have := Rel.str (C := C) (K := K) (η := η) (p ++ q)
      simpa [ByteArray.data_append] using this
    · cases h
  case eql => cases h; exact ⟨.bool (p.toList == q.toList), fun w => by simp [binOp, Op.stringOp], by rw [ByteArray.toList_eq, ByteArray.toList_eq]; exact .bool _, by simp⟩
  case neq => cases h; exact ⟨.bool (!(p.toList == q.toList)), fun w => by simp [binOp, Op.stringOp], by rw [ByteArray.toList_eq, ByteArray.toList_eq]; exact .bool _, by simp⟩


/-! ### Equality -/
theorem bytes_beq (p q : ByteArray) : (p == q) = (p.data.toList == q.data.toList) := by
  rw [beq_toListBytes, ByteArray.toList_eq, ByteArray.toList_eq]

theorem eqT_run (hS : Good C) : ∀ (n : Nat) (t : TypeId) (x y : V) (X Y : Value) (r : Bool), eqT C n t x y = some r → Rel C K η x X → Rel C K η y Y → ∀ m, (Op.equalIn (n + m) t X Y).run C.P w = .ok r w
  | 0, _, _, _, _, _, _, h, _, _, _ => by simp [eqT] at h
  | n + 1, t, x, y, X, Y, r, h, hx, hy, m => by
    rw [show n + 1 + m = (n + m) + 1 by omega]
    have ih := eqT_run hS n
    have hfields : ∀ (xs ys : List V) (us vs : Array Value) (fs : List Field) (r : Bool), eqFieldsV C (eqT C n) xs ys fs = some r → RelL C K η xs us.toList → RelL C K η ys vs.toList →
        (Op.eqFields (n + m) us vs fs).run C.P w = .ok r w := by
      intro xs ys us vs fs
      induction fs with
      | nil => intro r h _ _; simp only [eqFieldsV] at h; cases h; simp [Op.eqFields]
      | cons f fs ihf =>
        intro r h hxs hys
        simp only [eqFieldsV] at h
        split at h
        · cases h
        · rename_i hname
          split at h
          · rename_i a b ha hb
            split at h
            · rename_i p q hp hq
              cases h
              obtain ⟨A, hA, hrA⟩ := partV_run hS ha hxs
              obtain ⟨B, hB, hrB⟩ := partV_run hS hb hys
              have he := ih f.type a b A B p hp hrA hrB m
              have hr := ihf q hq hxs hys
              simp only [Op.eqFields, ne_eq, hname, not_false_eq_true, if_true, Sem.run_bind, hA, hB, he, Result.andThen_ok]
              cases p
              · simp
              · simpa using hr
            · cases h
          · cases h
    have hitems : ∀ (e : TypeId) (k : Nat) (xs ys : List V) (us vs : Array Value) (is : List Nat) (r : Bool), eqItemsV C (eqT C n) e k xs ys is = some r → RelL C K η xs us.toList → RelL C K η ys vs.toList →
        (Op.eqItems (n + m) e k us vs is).run C.P w = .ok r w := by
      intro e k xs ys us vs is
      induction is with
      | nil => intro r h _ _; simp only [eqItemsV] at h; cases h; simp [Op.eqItems]
      | cons i is ihf =>
        intro r h hxs hys
        simp only [eqItemsV] at h
        split at h
        · rename_i a b ha hb
          split at h
          · rename_i p q hp hq
            cases h
            obtain ⟨A, hA, hrA⟩ := partV_run hS ha hxs
            obtain ⟨B, hB, hrB⟩ := partV_run hS hb hys
            have he := ih e a b A B p hp hrA hrB m
            have hr := ihf q hq hxs hys
            simp only [Op.eqItems, Sem.run_bind, hA, hB, he, Result.andThen_ok]
            cases p
            · simp
            · simpa using hr
          · cases h
        · cases h
    unfold eqT at h
    split at h
    all_goals try (cases h; done)
    all_goals (rename_i hu; have hu' := hS.und _ _ hu)
    · cases h; cases hx; cases hy; exact run_equalIn_bool w _ _ _ _ hu'
    · split at h
      · rename_i hk; cases h; subst hk; cases hx; cases hy; exact run_equalIn_int w _ _ _ _ _ _ hu'
      · cases h
    · cases h; cases hx; cases hy; rw [run_equalIn_string w _ _ _ _ hu', ByteArray.toList_eq, ByteArray.toList_eq]
    · cases h; cases hx; cases hy; simp [Op.equalIn, run_underlying hu']
    · cases h; cases hx; cases hy; simp [Op.equalIn, run_underlying hu']
    · cases h; cases hx; cases hy; simp [Op.equalIn, run_underlying hu']
    · cases h; cases hx; cases hy; simp [Op.equalIn, run_underlying hu']
    · cases h; cases hx; cases hy; simp [Op.equalIn, run_underlying hu']
    · cases h; cases hx; cases hy; simp [Op.equalIn, run_underlying hu']
    · cases h; cases hx; cases hy; simp [Op.equalIn, run_underlying hu']
    · cases h; cases hx; cases hy; simp [Op.equalIn, run_underlying hu']
    · split at h
      · cases h
      · rename_i hne; cases h; cases hx; cases hy; simp [Op.equalIn, run_underlying hu', hne]
    · cases h; cases hx; cases hy; simp [Op.equalIn, run_underlying hu']
    · cases h; cases hx; cases hy; simp [Op.equalIn, run_underlying hu']
    · cases h; cases hx; cases hy; simp [Op.equalIn, run_underlying hu']
    · cases hx with | agg _ us hx => cases hy with | agg _ vs hy =>
        have hfo : ∀ fs, C.P.underlying t = some (.struct fs) → C.P.fieldsOf t = fs := fun fs h => by simp [Program.fieldsOf, h]
        rw [run_equalIn_struct w (n + m) t us vs (by rw [hfo _ hu']; exact hu') (hS.stood _ _ hu), hfo _ hu']
        exact hfields _ _ _ _ _ _ h hx hy
    · split at h
      · rename_i k hk
        cases hx with | agg _ us hx => cases hy with | agg _ vs hy =>
          obtain ⟨i, hi1, hi2, _⟩ := hS.siz _ _ hk
          have hco : ∀ e, C.P.info? e = some i → C.P.cellsOf e = k := fun e h => by unfold Program.cellsOf; rw [h]; simpa using hi2
          rw [run_equalIn_array w (n + m) us vs hu' hi1, hco _ hi1]
          exact hitems _ _ _ _ _ _ _ _ h hx hy
      · cases h


theorem eqV_run (hS : Good C) {t : TypeId} {c : Bool} {x y : V} {X Y : Value} {r : Bool} (h : eqV C t c x y = some r) (hx : Rel C K η x X) (hy : Rel C K η y Y) : (Op.equal t X Y).run C.P w = .ok r w := by
  unfold Op.equal Op.maxDepth
  unfold eqV at h
  split at h
  · split at h
    · exact eqT_run hS 20 t _ _ X Y r h hx hy 9980
    · cases h
  · split at h
    · exact eqT_run hS 20 t _ _ X Y r h hx hy 9980
    · cases h
  · exact eqT_run hS 20 t _ _ X Y r h hx hy 9980

theorem eqT_own (n : Nat) (t : TypeId) (e : TypeId) (xs : List V) (y : V) : eqT C n t (.own e xs) y = none := by
  cases n with
  | zero => rfl
  | succ n => unfold eqT; split <;> simp_all

theorem eqT_junk (n : Nat) (t : TypeId) (y : V) : eqT C n t .junk y = none := by
  cases n with
  | zero => rfl
  | succ n => unfold eqT; split <;> simp_all

theorem eqT_ownR (n : Nat) (t : TypeId) (x : V) (e : TypeId) (xs : List V) : eqT C n t x (.own e xs) = none := by
  cases n with
  | zero => rfl
  | succ n => unfold eqT; split <;> simp_all

theorem eqT_junkR (n : Nat) (t : TypeId) (x : V) : eqT C n t x .junk = none := by
  cases n with
  | zero => rfl
  | succ n => unfold eqT; split <;> simp_all

theorem eqGuard_run (hS : Good C) {t : TypeId} {px py : Operand} {x y : V} {X Y : Value} {r : Bool} (op : BinOp) (h : eqV C t (isConst px || isConst py) x y = some r) (hx : Rel C K η x X) (hy : Rel C K η y Y) :
    (eqGuard op t px py X Y).run C.P w = .ok () w := by
  by_cases hop : (op matches .eql | .neq) = true
  · unfold eqV at h
    split at h
    · split at h
      · rename_i hc
        cases hx; cases hy
        simp only [eqGuard]
        cases px <;> cases py <;> simp [isConst] at hc <;> cases op <;> rfl
      · cases h
    · split at h
      · rename_i hc
        cases hx with | agg _ us hx => cases hy with | agg _ vs hy =>
          exact run_eqGuard_agg w op t px py us vs (hS.eqOK t hc)
      · cases h
    · rename_i h1 h2
      unfold eqGuard
      cases hx <;> cases hy <;> first
        | (cases op <;> rfl)
        | exact absurd rfl (h1 rfl)
        | exact (h1 rfl rfl).elim
        | exact (h2 _ _ rfl rfl).elim
        | (rw [eqT_own] at h; cases h)
        | (rw [eqT_junk] at h; cases h)
        | (rw [eqT_junkR] at h; cases h)
        | (rw [eqT_ownR] at h; cases h)
  · cases op <;> simp at hop <;> rfl

end
end MI

namespace MI
open Go

section
variable {C : Cfg} {S : Nat → Prop} {K : Kf} {η : List Hist} {σ : Mem} {w w' : World} {fr : Fr} {xs : List Value} {a : Act} {o : Oper} {E : Env}

theorem shift_run {op : BinOp} {k k' : IntKind} {x y : Int} {v : V} (t : TypeId) (hop : op = .shl ∨ op = .shr) (h : (intOp op k x y).run E = some v) :
    ∃ r, (∀ w : World, (binOp op t (.int k x) (.int k' y)).run C.P w = .ok r w) ∧ Rel C K η v r ∧ ∀ e ys, v ≠ .own e ys := by
  rcases hop with rfl | rfl
  all_goals
    simp only [intOp, Ask.run] at h
    split at h
    · rename_i hb
      cases h
      have hy : ¬ y < 0 := by simp at hb; omega
      exact ⟨_, fun w => by simp [binOp, Op.shift, hy], .int _ _, by simp⟩
    · cases h

theorem eqGuard_int (op : BinOp) (t : TypeId) (px py : Operand) (k : IntKind) (n : Int) (v : Value) : (eqGuard op t px py (.int k n) v).run C.P w = .ok () w := by
  rw [eqGuard_at_int]; rfl
theorem eqGuard_str (op : BinOp) (t : TypeId) (px py : Operand) (s : ByteArray) (v : Value) : (eqGuard op t px py (.string s) v).run C.P w = .ok () w := by
  rw [eqGuard_at_string]; rfl

theorem binV_run (hS : Good C) {op : BinOp} {t : TypeId} {px py : Operand} {x y : V} {X Y : Value} {v : V} (h : (binV C op t (isConst px || isConst py) x y).run E = some v) (hx : Rel C K η x X) (hy : Rel C K η y Y) :
    ∃ r, (∀ w : World, (do eqGuard op t px py X Y; binOp op t X Y : Sem Value).run C.P w = .ok r w) ∧ Rel C K η v r ∧ ∀ e ys, v ≠ .own e ys := by
  unfold binV at h
  split at h
  · rename_i k a k' b
    cases hx; cases hy
    have key : ∀ {r}, (∃ r, (∀ w : World, (binOp op t (.int k a) (.int k' b)).run C.P w = .ok r w) ∧ Rel C K η v r ∧ ∀ e ys, v ≠ .own e ys) → r → ∃ r, (∀ w : World, (do eqGuard op t px py (.int k a) (.int k' b); binOp op t (.int k a) (.int k' b) : Sem Value).run C.P w = .ok r w) ∧ Rel C K η v r ∧ ∀ e ys, v ≠ .own e ys := fun hh _ => by
      obtain ⟨r, h1, h2⟩ := hh
      exact ⟨r, fun w => by simp only [Sem.run_bind, eqGuard_int, Result.andThen_ok, h1], h2⟩
    split at h
    · exact key (r := True) (shift_run t (.inl rfl) h) trivial
    · exact key (r := True) (shift_run t (.inr rfl) h) trivial
    · split at h
      · rename_i hk
        subst hk
        exact key (r := True) (intOp_run t h) trivial
      · cases h
  · rename_i p q
    obtain ⟨X', hX⟩ : ∃ s, X = .string s := by generalize hp : V.str p = z at hx; cases hx <;> cases hp; exact ⟨_, rfl⟩
    subst hX
    obtain ⟨Y', hY⟩ : ∃ s, Y = .string s := by generalize hp : V.str q = z at hy; cases hy <;> cases hp; exact ⟨_, rfl⟩
    subst hY
    have hp : p = X'.data.toList := by generalize hz : V.str p = z at hx; cases hx <;> cases hz; rfl
    have hq : q = Y'.data.toList := by generalize hz : V.str q = z at hy; cases hy <;> cases hz; rfl
    subst hp; subst hq
    obtain ⟨r, h1, h2⟩ := strOp_run (C := C) (K := K) (η := η) t h
    exact ⟨r, fun w => by simp only [Sem.run_bind, eqGuard_str, Result.andThen_ok, h1], h2⟩
  · rename_i h1 h2
    have hg : ∀ (w : World) r op, eqV C t (isConst px || isConst py) x y = some r → (eqGuard op t px py X Y).run C.P w = .ok () w := fun w r op he => eqGuard_run hS op he hx hy
    have hb : ∀ r, eqV C t (isConst px || isConst py) x y = some r → binOp .eql t X Y = (do pure (.bool (← Op.equal t X Y))) ∧ binOp .neq t X Y = (do pure (.bool (!(← Op.equal t X Y)))) := fun r he => by
      cases hx <;> cases hy <;> first
        | exact ⟨rfl, rfl⟩
        | exact (h1 _ _ _ _ rfl rfl).elim
        | exact (h2 _ _ rfl rfl).elim
        | (exfalso; unfold eqV at he; simp only at he; first | (rw [eqT_own] at he; cases he) | (rw [eqT_junk] at he; cases he) | (rw [eqT_ownR] at he; cases he) | (rw [eqT_junkR] at he; cases he))
    split at h
    · split at h
      · rename_i b he
        cases h
        exact ⟨.bool b, fun w => by simp only [Sem.run_bind, hg w b .eql he, Result.andThen_ok, (hb b he).1, eqV_run (w := w) hS he hx hy]; rfl, .bool _, by simp⟩
      · cases h
    · split at h
      · rename_i b he
        cases h
        exact ⟨.bool (!b), fun w => by simp only [Sem.run_bind, hg w b .neq he, Result.andThen_ok, (hb b he).2, eqV_run (w := w) hS he hx hy]; rfl, .bool _, by simp⟩
      · cases h
    · cases h

theorem ok_binOp (hS : Good C) (hG : GlobOK C K) (hf : FrOK C K S η w fr a.tmps.toList) (op : BinOp) (t yt : TypeId) (px py : Operand) (ho : o.op = .binOp op t px py yt) {v : V}
    (h : (binV C op t (isConst px || isConst py) (evalV C fr px) (evalV C fr py)).run E = some v) : Still C S K η w a o v fr (fun _ => True) := by
  obtain ⟨r, h1, h2, h3⟩ := binV_run hS h (evalV_rel hG hf.rel px) (evalV_rel hG hf.rel py)
  exact .mk0 hf (x := r) (fun w => by simp only [execOp, ho]; exact run_v _ _ _ (h1 w)) h2 h3

theorem ok_unOp (hG : GlobOK C K) (hf : FrOK C K S η w fr a.tmps.toList) (op : UnOp) (t : TypeId) (x : Operand) (ho : o.op = .unOp op t x) {v : V}
    (h : (unV op (evalV C fr x)).run E = some v) : Still C S K η w a o v fr (fun _ => True) := by
  have hr := evalV_rel hG hf.rel x
  have key : ∃ r, (∀ w : World, (Op.unary op (a.eval x)).run C.P w = .ok r w) ∧ Rel C K η v r ∧ ∀ e ys, v ≠ .own e ys := by
    generalize evalV C fr x = z at h hr
    generalize a.eval x = q at hr
    unfold unV at h
    split at h
    · cases h; cases hr; exact ⟨_, fun w => rfl, .bool _, by simp⟩
    · cases h; cases hr; exact ⟨_, fun w => by simp [Op.unary, Op.intArith], .int _ _, by simp⟩
    · cases hr
      obtain ⟨r, h1, h2⟩ := intBits_run (C := C) (K := K) (η := η) h (by simp)
      exact ⟨r, fun w => by simpa [Op.unary] using h1 w, h2⟩
    · cases h
  obtain ⟨r, h1, h2, h3⟩ := key
  exact .mk0 hf (x := r) (fun w => by simp only [execOp, ho]; exact run_v _ _ _ (h1 w)) h2 h3

theorem ok_makeInterface (hS : Good C) (hG : GlobOK C K) (hf : FrOK C K S η w fr a.tmps.toList) (t : TypeId) (x : Operand) (ho : o.op = .makeInterface t x) {d : TypeDesc} (hd : C.und t = some d) (hn : ∀ ms, d ≠ .interface ms) :
    Still C S K η w a o (.iface t (evalV C fr x).unD) fr (fun _ => True) := by
  refine .mk0 hf (x := .iface t (a.eval x)) (fun w => ?_) (.iface _ _ _ (evalV_rel hG hf.rel x).unD) (by simp)
  simp only [execOp, ho]
  refine run_v _ _ _ ?_
  simp only [Instr.makeInterface, Sem.run_bind, run_underlying (hS.und t d hd), Result.andThen_ok]
  rfl

theorem evalL_arr (hG : GlobOK C K) {fr : Fr} {a : Act} (h : RelL C K η fr a.tmps.toList) (l : Array Operand) : RelL C K η (evalL C fr l.toList) (l.map a.eval).toList := by
  simpa using evalL_rel hG h l.toList

theorem ok_makeFunc (hG : GlobOK C K) (hf : FrOK C K S η w fr a.tmps.toList) (fn : Fn) (p q : Array Operand) (ho : o.op = .makeFunc fn p q) :
    Still C S K η w a o (.func fn (unDL (evalL C fr p.toList)) (unDL (evalL C fr q.toList))) fr (fun _ => True) := by
  refine .mk0 hf (x := .func fn (p.map a.eval) (q.map a.eval)) (fun w => ?_) (.func _ _ _ _ _ (evalL_arr hG hf.rel p).unD (evalL_arr hG hf.rel q).unD) (by simp)
  simp only [execOp, ho]
  rfl

theorem ok_field (hS : Good C) (hG : GlobOK C K) (hf : FrOK C K S η w fr a.tmps.toList) (s : TypeId) (x : Operand) (i : Nat) (ho : o.op = .field s x i) {off : Nat} {t : TypeId} (hfa : fieldAt C s i = some (off, t)) {cs : List V} (hx : evalV C fr x = .agg cs)
    {v : V} (h : partV C t cs off = some v) : Still C S K η w a o v.un fr (fun _ => True) := by
  have hr := evalV_rel hG hf.rel x
  rw [hx] at hr
  generalize hq : a.eval x = q at hr
  cases hr with | agg _ vs hr =>
  obtain ⟨r, h1, h2⟩ := partV_run hS h hr
  refine .mk0 hf (x := r) (fun w => ?_) h2.un (V.un_ne _)
  unfold fieldAt at hfa
  split at hfa
  · rename_i fs hu
    split at hfa
    · rename_i f hfi
      cases hfa
      simp only [execOp, ho, hq]
      refine run_v _ _ _ ?_
      simp only [Instr.field, Sem.run_bind, run_underlying (hS.und s _ hu), Result.andThen_ok, hfi, asAgg, Sem.run_pure]
      exact h1 w
    · cases hfa
  · cases hfa

theorem ok_extract (hG : GlobOK C K) (hf : FrOK C K S η w fr a.tmps.toList) (x : Operand) (i : Nat) (ho : o.op = .extract x i) {vs : List V} (hx : evalV C fr x = .tuple vs) {v : V} (h : vs[i]? = some v) :
    Still C S K η w a o v.un fr (fun _ => True) := by
  have hr := evalV_rel hG hf.rel x
  rw [hx] at hr
  generalize hq : a.eval x = q at hr
  cases hr with | tuple _ us hr =>
  obtain ⟨y, h1, h2⟩ := hr.get h
  have h1' : us[i]? = some y := by simpa using h1
  exact .mk0 hf (x := y) (fun w => by simp only [execOp, ho, hq]; exact run_v _ _ _ (by simp [Instr.extract, h1'])) h2.un (V.un_ne _)

theorem zero_run (hS : Good C) {t : TypeId} {z : V} (h : C.zero t = some z) : ∃ zr, (∀ w : World, (zeroValue t).run C.P w = .ok zr w) ∧ Rel C K η z zr ∧ (∀ e ys, z ≠ .own e ys) ∧ oneL z.cells = true := by
  obtain ⟨i, zr, h1, h2, rfl, h4, _⟩ := hS.zero t z h
  exact ⟨zr, fun w => by simp [zeroValue, typeInfo, h1, h2], cv_rel zr, cv_not_own zr, h4⟩

theorem ok_assert_holds (hS : Good C) (hG : GlobOK C K) (hf : FrOK C K S η w fr a.tmps.toList) (x : Operand) (xt t : TypeId) (ok : Bool) (ho : o.op = .typeAssert x xt t ok) {v : V} (hx : evalV C fr x = .iface t v) {d : TypeDesc} (hd : C.und t = some d) (hn : ∀ ms, d ≠ .interface ms) :
    Still C S K η w a o (if ok then .tuple [v.un, .bool true] else v.un) fr (fun _ => True) := by
  have hr := evalV_rel hG hf.rel x
  rw [hx] at hr
  generalize hq : a.eval x = q at hr
  cases hr with | iface _ _ y hr =>
  have hd' := hS.und t d hd
  refine .mk0 hf (x := if ok then .tuple #[y, .bool true] else y) (fun w => ?_) ?_ ?_
  · simp only [execOp, ho, hq]
    refine run_v _ _ _ ?_
    simp only [Instr.typeAssert, Sem.run_bind, run_underlying hd', Result.andThen_ok]
    cases d <;> first | exact absurd rfl (hn _) | (simp)
  · cases ok
    · simpa using hr.un
    · simpa using Rel.tuple _ #[y, .bool true] (.cons _ _ _ _ hr.un (.cons _ _ _ _ (.bool true) .nil))
  · cases ok <;> simp [V.un_ne]

theorem ok_assert_fails (hS : Good C) (hG : GlobOK C K) (hf : FrOK C K S η w fr a.tmps.toList) (x : Operand) (xt t : TypeId) (ho : o.op = .typeAssert x xt t true) {d : TypeDesc} (hd : C.und t = some d)
    (hx : evalV C fr x = .niliface ∨ ∃ t' v, evalV C fr x = .iface t' v ∧ t' ≠ t ∧ ∀ ms, d ≠ .interface ms) {z : V} (hz : C.zero t = some z) :
    Still C S K η w a o (.tuple [z, .bool false]) fr (fun _ => True) := by
  have hr := evalV_rel hG hf.rel x
  obtain ⟨zr, h1, h2, _, _⟩ := zero_run (K := K) (η := η) hS hz
  have hd' := hS.und t d hd
  refine .mk0 hf (x := .tuple #[zr, .bool false]) (fun w => ?_) (.tuple _ _ (.cons _ _ _ _ h2 (.cons _ _ _ _ (.bool false) .nil))) (by simp)
  simp only [execOp, ho]
  refine run_v _ _ _ ?_
  generalize hq : a.eval x = q at hr
  rcases hx with hx | ⟨t', v, hx, hne, hn⟩
  · rw [hx] at hr
    cases hr
    simp only [Instr.typeAssert, Sem.run_bind, run_underlying hd', Result.andThen_ok]
    cases d <;> simp [h1]
  · rw [hx] at hr
    cases hr with | iface _ _ y hr =>
    simp only [Instr.typeAssert, Sem.run_bind, run_underlying hd', Result.andThen_ok]
    cases d <;> first | exact absurd rfl (hn _) | (simp [hne, h1])

end
end MI

namespace MI
open Go

section
variable {C : Cfg} {S : Nat → Prop} {K : Kf} {η : List Hist} {σ : Mem} {w w' : World} {fr : Fr} {xs : List Value} {a : Act} {o : Oper} {E : Env}

theorem rel_int {k : IntKind} {n : Int} {x : Value} (h : Rel C K η (.int k n) x) : x = .int k n := by cases h; rfl
theorem rel_bool {b : Bool} {x : Value} (h : Rel C K η (.bool b) x) : x = .bool b := by cases h; rfl
theorem rel_str {p : List UInt8} {x : Value} (h : Rel C K η (.str p) x) : ∃ s : ByteArray, x = .string s ∧ p = s.data.toList := by cases h; exact ⟨_, rfl, rfl⟩
theorem rel_nils {x : Value} (h : Rel C K η .nils x) : x = .slice none 0 0 := by cases h; rfl
theorem rel_own {e : TypeId} {ys : List V} {x : Value} (h : Rel C K η (.own e ys) x) : Rel C K η (.row ys) x := h.un
theorem rel_agg {cs : List V} {x : Value} (h : Rel C K η (.agg cs) x) : ∃ vs, x = .agg vs ∧ RelL C K η cs vs.toList := by cases h; exact ⟨_, rfl, by assumption⟩
theorem rel_row {ys : List V} {x : Value} (h : Rel C K η (.row ys) x) : ∃ p cap, x = .slice p ys.length cap := by cases h <;> exact ⟨_, _, rfl⟩

theorem exec_builtin {c : Call} {b : Builtin} (ho : o.op = .call c) (hc : c.callee = .builtin b) (ρ : Operand → Value) :
    execOp ρ o = builtin b c.argTypes o.type (c.args.map fun | .const _ => true | _ => false) (c.args.map ρ) := by
  simp only [execOp, ho, resolve, hc]
  rfl

theorem toList_one {α : Type} {l : Array α} {x : α} (h : l.toList = [x]) : l = #[x] := by
  apply Array.ext'; simpa using h
theorem toList_two {α : Type} {l : Array α} {x y : α} (h : l.toList = [x, y]) : l = #[x, y] := by
  apply Array.ext'; simpa using h

theorem lenV_run (hS : Good C) {t ty : TypeId} {x : V} {X : Value} {n : Nat} (h : lenV C t x = some n) (hx : Rel C K η x X) : (Builtin.len_ #[t] ty #[X]).run C.P w = .ok (.int .i64 n) w := by
  unfold lenV at h
  split at h
  · rename_i s hu
    cases h
    obtain ⟨s', rfl, rfl⟩ := rel_str hx
    have := run_len_string (P := C.P) (w := w) t ty s' (hS.und t _ hu)
    rw [this]
    rfl
  · rename_i e ys hu
    cases h
    obtain ⟨p, cap, rfl⟩ := rel_row hx
    simp [Builtin.len_, run_underlying (hS.und t _ hu), goInt]
  · rename_i e e' ys hu
    cases h
    obtain ⟨p, cap, rfl⟩ := rel_row (rel_own hx)
    simp [Builtin.len_, run_underlying (hS.und t _ hu), goInt]
  · rename_i e hu
    cases h
    rw [rel_nils hx]
    simp [Builtin.len_, run_underlying (hS.und t _ hu), goInt]
  · rename_i e l g off len e' hu
    cases h
    cases hx <;> simp [Builtin.len_, run_underlying (hS.und t _ hu), goInt]
  · rename_i m e hu
    cases h
    cases X <;> simp [Builtin.len_, run_underlying (hS.und t _ hu), goInt]
  · cases h

theorem ok_len (hS : Good C) (hG : GlobOK C K) (hf : FrOK C K S η w fr a.tmps.toList) (c : Call) (ho : o.op = .call c) (hc : c.callee = .builtin .len) (x : Operand) (t : TypeId) (ha : c.args.toList = [x]) (ht : c.argTypes.toList = [t]) {n : Nat}
    (h : lenV C t (evalV C fr x) = some n) : Still C S K η w a o (.int .i64 n) fr (fun _ => True) := by
  refine .mk0 hf (x := .int .i64 n) (fun w => ?_) (.int _ _) (by simp)
  rw [exec_builtin ho hc, toList_one ha, toList_one ht, show #[x].map a.eval = #[a.eval x] by simp]
  exact run_v _ _ _ (lenV_run (ty := o.type) (w := w) hS h (evalV_rel hG hf.rel x))

theorem ok_minmax (hG : GlobOK C K) (hf : FrOK C K S η w fr a.tmps.toList) (c : Call) (ho : o.op = .call c) {k k' : IntKind} {p q : Int} (hv : evalL C fr c.args.toList = [.int k p, .int k' q]) :
    (c.callee = .builtin .min → Still C S K η w a o (.int k (if q < p then q else p)) fr (fun _ => True)) ∧ (c.callee = .builtin .max → Still C S K η w a o (.int k (if q > p then q else p)) fr (fun _ => True)) := by
  have hr := evalL_arr hG hf.rel c.args
  rw [hv] at hr
  have hm : (c.args.map a.eval) = #[.int k p, .int k' q] := by
    apply Array.ext'
    generalize hz : (c.args.map a.eval).toList = z at hr
    cases hr with | cons _ x1 _ _ h1 hr =>
    cases hr with | cons _ x2 _ _ h2 hr =>
    cases hr
    rw [rel_int h1, rel_int h2]
  constructor
  · intro hc
    refine .mk0 hf (x := .int k (if q < p then q else p)) (fun w => ?_) (.int _ _) (by simp)
    rw [exec_builtin ho hc, hm]
    exact run_v _ _ _ (by simp [Builtin.min_, Builtin.min2])
  · intro hc
    refine .mk0 hf (x := .int k (if q > p then q else p)) (fun w => ?_) (.int _ _) (by simp)
    rw [exec_builtin ho hc, hm]
    exact run_v _ _ _ (by simp [Builtin.max_, Builtin.max2])

theorem ok_fieldAddr (hS : Good C) (hG : GlobOK C K) (hf : FrOK C K S η w fr a.tmps.toList) (s : TypeId) (x : Operand) (i : Nat) (ho : o.op = .fieldAddr s x i) {off : Nat} {t : TypeId} (hfa : fieldAt C s i = some (off, t)) {n : Nat} (hn : C.siz t = some (n + 1)) :
    (∀ l g p, evalV C fr x = .ptr l g p → Still C S K η w a o (.ptr l g (p + off)) fr (fun _ => True)) ∧ (∀ y p, evalV C fr x = .eptr y p → Still C S K η w a o (.eptr y (p + off)) fr (fun _ => True)) := by
  have hr := evalV_rel hG hf.rel x
  unfold fieldAt at hfa
  split at hfa
  · rename_i fs hu
    split at hfa
    · rename_i f hfi
      cases hfa
      have key : ∀ b q, a.eval x = .pointer (some ⟨b, q, none⟩) → ∀ w : World, (execOp a.eval o).run C.P w = .ok (.value (.pointer (some ⟨b, q + f.offset, none⟩))) w := fun b q hq w => by
        simp only [execOp, ho, hq]
        refine run_v _ _ _ ?_
        simp [Instr.fieldAt, run_underlying (hS.und s _ hu), hfi, Instr.sureAddr, Go.fieldPlace, siz_run hS hn, Addr.add_lit]
      constructor
      · intro l g p hx
        rw [hx] at hr
        generalize hq : a.eval x = q at hr
        cases hr with | ptr _ _ _ b room h h1 h2 =>
        exact .mk0 hf (key _ _ hq) (.ptr _ _ _ b room h h1 h2) (by simp)
      · intro y p hx
        rw [hx] at hr
        generalize hq : a.eval x = q at hr
        cases hr with | eptr _ _ b q cvs h1 h2 h3 =>
        refine .mk0 hf (key _ _ hq) ?_ (by simp)
        rw [Nat.add_assoc]
        exact .eptr _ _ b q cvs h1 h2 h3
    · cases hfa
  · cases hfa

theorem ltB_iff {n : Int} {m : Nat} : ltB n m = true ↔ 0 ≤ n ∧ n < (m : Int) := by simp [ltB]

theorem ok_index (hS : Good C) (hG : GlobOK C K) (hf : FrOK C K S η w fr a.tmps.toList) (t : TypeId) (x i : Operand) (ho : o.op = .index t x i) {v : V}
    (h : (indexV C t (evalV C fr x) (evalV C fr i)).run E = some v) : Still C S K η w a o v fr (fun _ => True) := by
  have hx := evalV_rel hG hf.rel x
  have hii := evalV_rel hG hf.rel i
  have key : ∃ r, (∀ w : World, (Instr.index t (a.eval x) (a.eval i)).run C.P w = .ok r w) ∧ Rel C K η v r ∧ ∀ e ys, v ≠ .own e ys := by
    generalize evalV C fr x = p at h hx
    generalize evalV C fr i = q at h hii
    unfold indexV at h
    split at h
    · rename_i k n
      rw [rel_int hii]
      split at h
      · rename_i s hu
        obtain ⟨s', hs, rfl⟩ := rel_str hx
        rw [hs]
        simp only [Ask.run] at h
        split at h
        · rename_i hb
          rw [ltB_iff] at hb
          simp only [Option.some.injEq] at h
          subst h
          have hlt : n.toNat < s'.size := by have : s'.data.toList.length = s'.size := rfl; omega
          refine ⟨.int .u8 s'[n.toNat].toNat, fun w => ?_, ?_, by simp [byteV]⟩
          · simp [Instr.index, asIntOf, run_underlying (hS.und t _ hu), hb.1, ByteArray.getElem?_lt' s' _ hlt]
          · have hgd : s'.data.toList.getD n.toNat 0 = s'[n.toNat] := by
              have hl2 : n.toNat < s'.data.toList.length := hlt
              simp only [List.getD, List.getElem?_eq_getElem hl2, Option.getD_some, Array.getElem_toList]
              rfl
            rw [hgd]
            exact .int _ _
        · cases h
      · rename_i len e cs hu
        obtain ⟨vs, hs, hr⟩ := rel_agg hx
        rw [hs]
        split at h
        · rename_i m hm
          simp only [Ask.run] at h
          split at h
          · rename_i hb
            rw [ltB_iff] at hb
            cases hp : partV C e cs (n.toNat * m) with
            | none => simp [hp, Ask.run] at h
            | some y =>
              simp only [hp, Ask.run, Option.some.injEq] at h
              subst h
              obtain ⟨r, h1, h2⟩ := partV_run hS hp hr
              exact ⟨r, fun w => by simp [Instr.index, asIntOf, run_underlying (hS.und t _ hu), hb.1, hb.2, siz_run hS hm, h1], h2.un, V.un_ne _⟩
          · cases h
        · cases h
      · cases h
    · cases h
  obtain ⟨r, h1, h2, hone⟩ := key
  exact .mk0 hf (x := r) (fun w => by simp only [execOp, ho]; exact run_v _ _ _ (h1 w)) h2 hone

/-- The cells of an element. -/
theorem flat_at {k : Nat} : ∀ {ys : List V} (n : Nat) {v : V}, (∀ y ∈ ys, y.cells.length = k) → ys[n]? = some v → ((flatV ys).drop (n * k)).take k = v.cells
  | [], n, v, _, h => by simp at h
  | y :: r, 0, v, hk, h => by
    simp at h
    subst h
    have := hk y (by simp)
    simp [flatV, ← this]
  | y :: r, n + 1, v, hk, h => by
    simp at h
    have h1 := hk y (by simp)
    have ih := flat_at (ys := r) n (fun z hz => hk z (by simp [hz])) h
    rw [← ih]
    simp only [flatV]
    rw [show (n + 1) * k = y.cells.length + n * k by rw [h1, Nat.add_mul]; omega, ← List.drop_drop]
    simp

theorem Holds.part {b o : Nat} {cvs : List Value} (h : Holds K b o cvs) (n m : Nat) : Holds K b (o + n) ((cvs.drop n).take m) := fun j c e => by
  rw [List.getElem?_take] at e
  split at e
  · rw [List.getElem?_drop] at e
    have := h _ _ e
    rwa [← Nat.add_assoc] at this
  · cases e

theorem indexAddr_row (hS : Good C) {t e : TypeId} (hu : C.und t = some (.slice e)) {k : Nat} (hk : C.siz e = some k) {ys : List V} {X : Value} (hx : Rel C K η (.row ys) X) {kk : IntKind} {n : Int} (h0 : 0 ≤ n) {v : V} (hv : ys[n.toNat]? = some v) (hvk : v.cells.length = k) :
    ∃ r, (∀ w : World, (Instr.indexAt t X (.int kk n)).run C.P w = .ok r w) ∧ Rel C K η (.eptr v 0) r := by
  have hlt : n.toNat < ys.length := (List.getElem?_eq_some_iff.1 hv).1
  cases hx with
  | row _ b o cap k' cvs g0 g1 g2 g3 g4 =>
    have hkk : k' = k := by rw [← hvk]; exact (g1 v (List.mem_of_getElem? hv)).symm
    subst hkk
    have hn : n < (ys.length : Int) := by omega
    refine ⟨.pointer (some ⟨b, o + n.toNat * k', none⟩), fun w => ?_, ?_⟩
    · simp [Instr.indexAt, asIntOf, run_underlying (hS.und t _ hu), h0, hn, siz_run hS hk, Addr.add_lit]
    · have hfl := flat_at n.toNat g1 hv
      refine .eptr v 0 b (o + n.toNat * k') ((cvs.drop (n.toNat * k')).take k') (g3.part _ _) ?_ ?_
      · rw [← hfl]; exact (g4.drop _).take _
      · rw [← hfl]; exact oneL_take (oneL_drop g2 _) _
  | rowNil _ cap => simp at hlt

theorem ok_indexAddr (hS : Good C) (hG : GlobOK C K) (hf : FrOK C K S η w fr a.tmps.toList) (t : TypeId) (x i : Operand) (ho : o.op = .indexAddr t x i) {v : V}
    (h : (indexAddrV C t (evalV C fr x) (evalV C fr i)).run E = some v) : Still C S K η w a o v fr (fun _ => True) := by
  have hx := evalV_rel hG hf.rel x
  have hii := evalV_rel hG hf.rel i
  have key : ∃ r, (∀ w : World, (Instr.indexAt t (a.eval x) (a.eval i)).run C.P w = .ok r w) ∧ Rel C K η v r ∧ ∀ e ys, v ≠ .own e ys := by
    generalize evalV C fr x = p at h hx
    generalize evalV C fr i = q at h hii
    have row : ∀ {e : TypeId} {ys : List V} {k : Nat} {kk : IntKind} {n : Int}, C.und t = some (.slice e) → C.siz e = some k → Rel C K η (.row ys) (a.eval x) → a.eval i = .int kk n →
        (Ask.chk (decide (0 ≤ n)) (.elem ys n.toNat fun v => if v.cells.length = k then .ret (.eptr v 0) else .fail) : Ask V).run E = some v →
        ∃ r, (∀ w : World, (Instr.indexAt t (a.eval x) (a.eval i)).run C.P w = .ok r w) ∧ Rel C K η v r ∧ ∀ e ys, v ≠ .own e ys := fun {e ys k kk n} hu hk hr hin hh => by
      simp only [Ask.run] at hh
      split at hh
      · rename_i h0
        split at hh
        · rename_i u hu'
          by_cases hc : u.cells.length = k
          · simp only [hc, if_true, Ask.run, Option.some.injEq] at hh
            subst hh
            obtain ⟨r, h1, h2⟩ := indexAddr_row (kk := kk) hS hu hk hr (by simpa using h0) hu' hc
            rw [hin]
            exact ⟨r, h1, h2, by simp⟩
          · simp [hc, Ask.run] at hh
        · cases hh
      · cases hh
    unfold indexAddrV at h
    split at h
    · rename_i k n
      have hin := rel_int hii
      split at h
      · rename_i e ys hu
        split at h
        · rename_i m hm
          exact row hu hm hx hin h
        · cases h
      · rename_i e e' ys hu
        split at h
        · rename_i m hm
          exact row hu hm (rel_own hx) hin h
        · cases h
      · rename_i e l g off len e' hu
        split at h
        · rename_i m hm
          split at h
          · rename_i he
            subst he
            simp only [Ask.run] at h
            split at h
            · rename_i hb
              rw [ltB_iff] at hb
              simp only [Option.some.injEq] at h
              subst h
              rw [hin]
              generalize hX : a.eval x = X at hx
              cases hx with
              | msl _ _ _ _ _ b room k' cap hh h1 h2 h3 h4 h5 =>
                rw [hm] at h3; cases h3
                refine ⟨.pointer (some ⟨b, (off + n.toNat) * m, none⟩), fun w => ?_, .ptr _ _ _ b room hh h1 h2, by simp⟩
                simp [Instr.indexAt, asIntOf, run_underlying (hS.und t _ hu), hb.1, hb.2, siz_run hS hm, Addr.add_lit, Nat.add_mul]
              | mslNil _ _ _ _ b room hh h1 h2 h3 ad cap => omega
            · cases h
          · cases h
        · cases h
      · rename_i len e l g off hu
        split at h
        · rename_i m hm
          simp only [Ask.run] at h
          split at h
          · rename_i hb
            rw [ltB_iff] at hb
            simp only [Option.some.injEq] at h
            subst h
            rw [hin]
            generalize hX : a.eval x = X at hx
            cases hx with
            | ptr _ _ _ b room hh h1 h2 =>
              refine ⟨.pointer (some ⟨b, off + n.toNat * m, none⟩), fun w => ?_, .ptr _ _ _ b room hh h1 h2, by simp⟩
              simp [Instr.indexAt, asIntOf, run_underlying (hS.und t _ hu), Instr.sureAddr, hb.1, hb.2, siz_run hS hm, Addr.add_lit]
          · cases h
        · cases h
      · rename_i len e y off hu
        split at h
        · rename_i m hm
          simp only [Ask.run] at h
          split at h
          · rename_i hb
            rw [ltB_iff] at hb
            simp only [Option.some.injEq] at h
            subst h
            rw [hin]
            generalize hX : a.eval x = X at hx
            cases hx with
            | eptr _ _ b o' cvs h1 h2 h3 =>
              refine ⟨.pointer (some ⟨b, o' + (off + n.toNat * m), none⟩), fun w => ?_, .eptr _ _ b o' cvs h1 h2 h3, by simp⟩
              simp [Instr.indexAt, asIntOf, run_underlying (hS.und t _ hu), Instr.sureAddr, hb.1, hb.2, siz_run hS hm, Addr.add_lit, Nat.add_assoc]
          · cases h
        · cases h
      · cases h
    · cases h
  obtain ⟨r, h1, h2, h3⟩ := key
  exact .mk0 hf (x := r) (fun w => by simp only [execOp, ho]; exact run_v _ _ _ (h1 w)) h2 h3

end
end MI

namespace MI
open Go

inductive ORel (C : Cfg) (K : Kf) (η : List Hist) : Option V → Option Value → Prop
  | none : ORel C K η none none
  | some (v : V) (x : Value) (h : Rel C K η v x) : ORel C K η (some v) (some x)

section
variable {C : Cfg} {S : Nat → Prop} {K : Kf} {η : List Hist} {σ : Mem} {w w' : World} {fr : Fr} {xs : List Value} {a : Act} {o : Oper} {E : Env}

theorem ORel.eval (hG : GlobOK C K) (hr : RelL C K η fr a.tmps.toList) (x : Option Operand) : ORel C K η (x.map (evalV C fr)) (x.map a.eval) := by
  cases x with
  | none => exact .none
  | some x => exact .some _ _ (evalV_rel hG hr x)

theorem inB_iff {n : Int} {m : Nat} : inB n m = true ↔ 0 ≤ n ∧ n ≤ (m : Int) := by simp [inB]

theorem run_sliceBound_in (P : Program) (w : World) (k : IntKind) (n : Int) (y : Nat) (code : BoundsCode) (h : 0 ≤ n ∧ n ≤ (y : Int)) : (Instr.sliceBound (.int k n) y code).run P w = .ok n.toNat w := by
  simp [Instr.sliceBound, asIntOf, h]

theorem bounds_run {lo hi : Option V} {lo' hi' : Option Value} (hlo : ORel C K η lo lo') (hhi : ORel C K η hi hi') {len : Nat} {k : Nat → Nat → Ask V} {v : V} (h : (bounds lo hi len k).run E = some v) :
    ∃ l r, l ≤ r ∧ r ≤ len ∧ (lo = none → l = 0) ∧ (k l r).run E = some v ∧ ∀ (w : World) (b : Bool) (cap : Nat), len ≤ cap → (Instr.sliceBounds b len cap lo' hi' none).run C.P w = .ok (l, r, cap) w := by
  unfold bounds at h
  cases hhi with
  | none =>
    cases hlo with
    | none => exact ⟨0, len, Nat.zero_le _, by omega, fun _ => rfl, h, fun w b cap hc => by simp [Instr.sliceBounds]⟩
    | some y x hr =>
      try simp only at h
      split at h
      · rename_i hz; cases hz
      · rename_i k' n heq
        cases heq
        simp only [Ask.run] at h
        split at h
        · rename_i hb
          rw [inB_iff] at hb
          rw [rel_int hr]
          exact ⟨n.toNat, len, by omega, by omega, by simp, h, fun w b cap hc => by simp [Instr.sliceBounds, run_sliceBound_in _ _ _ _ _ _ hb]⟩
        · cases h
      · cases h
  | some y x hr =>
    try simp only at h
    split at h
    · rename_i hz; cases hz
    · rename_i k' m heq
      cases heq
      simp only [Ask.run] at h
      split at h
      · rename_i hb
        rw [inB_iff] at hb
        rw [rel_int hr]
        have hb2 : ∀ cap : Nat, len ≤ cap → 0 ≤ m ∧ m ≤ (cap : Int) := fun cap hc => ⟨hb.1, by omega⟩
        cases hlo with
        | none => exact ⟨0, m.toNat, by omega, by omega, fun _ => rfl, h, fun w b cap hc => by simp [Instr.sliceBounds, run_sliceBound_in _ _ _ _ _ _ (hb2 cap hc)]⟩
        | some y x hr =>
          try simp only at h
          split at h
          · rename_i hz; cases hz
          · rename_i k2 n heq
            cases heq
            simp only [Ask.run] at h
            split at h
            · rename_i hb3
              rw [inB_iff] at hb3
              rw [rel_int hr]
              exact ⟨n.toNat, m.toNat, by omega, by omega, by simp, h, fun w b cap hc => by simp [Instr.sliceBounds, run_sliceBound_in _ _ _ _ _ _ (hb2 cap hc), run_sliceBound_in _ _ _ _ _ _ hb3]⟩
            · cases h
          · cases h
      · cases h
    · cases h

theorem flatV_append (a b : List V) : flatV (a ++ b) = flatV a ++ flatV b := by
  induction a with
  | nil => rfl
  | cons x r ih => simp [flatV, ih]

theorem length_flatV {k : Nat} : ∀ {ys : List V}, (∀ y ∈ ys, y.cells.length = k) → (flatV ys).length = ys.length * k
  | [], _ => by simp [flatV]
  | y :: r, h => by
    simp only [flatV, List.length_append, List.length_cons]
    rw [h y (by simp), length_flatV fun z hz => h z (by simp [hz]), Nat.add_mul]
    omega

theorem flatV_drop {k : Nat} : ∀ {ys : List V} (n : Nat), (∀ y ∈ ys, y.cells.length = k) → flatV (ys.drop n) = (flatV ys).drop (n * k)
  | [], n, _ => by simp [flatV]
  | y :: r, 0, _ => by simp
  | y :: r, n + 1, h => by
    have h1 := h y (by simp)
    simp only [List.drop_succ_cons, flatV]
    rw [flatV_drop n fun z hz => h z (by simp [hz]), show (n + 1) * k = y.cells.length + n * k by rw [h1, Nat.add_mul]; omega, ← List.drop_drop]
    simp

theorem flatV_take {k : Nat} : ∀ {ys : List V} (n : Nat), (∀ y ∈ ys, y.cells.length = k) → flatV (ys.take n) = (flatV ys).take (n * k)
  | [], n, _ => by simp [flatV]
  | y :: r, 0, _ => by simp [flatV]
  | y :: r, n + 1, h => by
    have h1 := h y (by simp)
    simp only [List.take_succ_cons, flatV]
    rw [flatV_take n fun z hz => h z (by simp [hz]), show (n + 1) * k = y.cells.length + n * k by rw [h1, Nat.add_mul]; omega, List.take_length_add_append]

theorem row_slice {ys : List V} {p : Option Addr} {cap l r size : Nat} (h : Rel C K η (.row ys) (.slice p ys.length cap)) (hlr : l ≤ r) (hr : r ≤ ys.length) (hk : l = 0 ∨ headK size ys = true) :
    ys.length ≤ cap ∧ Rel C K η (.row ((ys.take r).drop l)) (.slice (if cap = l then p else p.map (·.add (l * size))) (r - l) (cap - l)) := by
  have hlen : ((ys.take r).drop l).length = r - l := by simp; omega
  generalize hn : ys.length = n at h
  cases h with
  | row _ b o _ k cvs g0 g1 g2 g3 g4 =>
    refine ⟨g0, ?_⟩
    split
    · rename_i hc
      have h0 : r - l = 0 := by omega
      have : (ys.take r).drop l = [] := List.eq_nil_of_length_eq_zero (by omega)
      rw [this, h0]
      exact .rowNil _ _
    · have hsz : l * size = l * k := by
        rcases hk with rfl | hk
        · simp
        · cases ys with
          | nil => simp at hr; have : l = 0 := by omega
                   subst this; simp
          | cons y t =>
            have h1 := g1 y (by simp)
            simp only [headK, beq_iff_eq] at hk
            rw [← hk, h1]
      have hfl : flatV ((ys.take r).drop l) = ((flatV ys).drop (l * k)).take ((r - l) * k) := by
        rw [flatV_drop l fun z hz => g1 z (List.mem_of_mem_take hz), flatV_take r g1, List.drop_take, Nat.sub_mul]
      have := Rel.row (C := C) (K := K) (η := η) ((ys.take r).drop l) b (o + l * k) (cap - l) k ((cvs.drop (l * k)).take ((r - l) * k)) (by omega) (fun z hz => g1 z (List.mem_of_mem_take (List.mem_of_mem_drop hz)))
        (by rw [hfl]; exact oneL_take (oneL_drop g2 _) _) (g3.part _ _) (by rw [hfl]; exact (g4.drop _).take _)
      rw [hlen] at this
      simpa only [Option.map_some, Addr.add_lit, hsz] using this
  | rowNil _ _ =>
    have hr0 : r = 0 := by simpa using hr
    subst hr0
    have h0 : l = 0 := by omega
    subst h0
    refine ⟨by simp, ?_⟩
    simp only [List.take_nil, List.drop_nil, Nat.sub_zero]
    exact .rowNil _ _

theorem rowPart_run (hS : Good C) {t e : TypeId} (hu : C.und t = some (.slice e)) {ys : List V} {X : Value} (hx : Rel C K η (.row ys) X) {lo hi : Option V} {lo' hi' : Option Value} (hlo : ORel C K η lo lo') (hhi : ORel C K η hi hi') {v : V}
    (h : (rowPart C e ys lo hi).run E = some v) : ∃ r, (∀ w : World, (Instr.sliceAt t X lo' hi' none).run C.P w = .ok r w) ∧ Rel C K η v r ∧ ∀ e ys, v ≠ .own e ys := by
  obtain ⟨p, cap, rfl⟩ := rel_row hx
  unfold rowPart at h
  split at h
  · cases h
  · rename_i m hm
    have key : ∃ l r, l ≤ r ∧ r ≤ ys.length ∧ (l = 0 ∨ headK m ys = true) ∧ v = .row ((ys.take r).drop l) ∧ ∀ (w : World) (b : Bool) (cap : Nat), ys.length ≤ cap → (Instr.sliceBounds b ys.length cap lo' hi' none).run C.P w = .ok (l, r, cap) w := by
      split at h
      · obtain ⟨l, r, h1, h2, h3, h4, h5⟩ := bounds_run hlo hhi h
        simp only [Ask.run, Option.some.injEq] at h4
        exact ⟨l, r, h1, h2, .inl (h3 rfl), h4.symm, h5⟩
      · simp only [Ask.run] at h
        split at h
        · rename_i hk
          obtain ⟨l, r, h1, h2, h3, h4, h5⟩ := bounds_run hlo hhi h
          simp only [Ask.run, Option.some.injEq] at h4
          exact ⟨l, r, h1, h2, .inr hk, h4.symm, h5⟩
        · cases h
    obtain ⟨l, r, h1, h2, h3, rfl, h5⟩ := key
    obtain ⟨h6, h7⟩ := row_slice hx h1 h2 h3
    refine ⟨_, fun w => ?_, h7, by simp⟩
    simp only [Instr.sliceAt, Instr.slice, Sem.run_bind, run_underlying (hS.und t _ hu), Result.andThen_ok, h5 w true cap h6, siz_run hS hm, Sem.run_pure]

theorem ok_slice (hS : Good C) (hG : GlobOK C K) (hi : Inv C K S η σ w) (hf : FrOK C K S η w fr a.tmps.toList) (t : TypeId) (x : Operand) (lo hh : Option Operand) (ho : o.op = .slice t x lo hh none) {v : V}
    (h : (sliceV C t σ (evalV C fr x) (lo.map (evalV C fr)) (hh.map (evalV C fr))).run E = some v) : Still C S K η w a o v fr (fun _ => True) := by
  have hx := evalV_rel hG hf.rel x
  have hlo := ORel.eval hG hf.rel lo
  have hhi := ORel.eval hG hf.rel hh
  have key : ∃ r, (∀ w : World, (Instr.sliceAt t (a.eval x) (lo.map a.eval) (hh.map a.eval) none).run C.P w = .ok r w) ∧ Rel C K η v r ∧ ∀ e ys, v ≠ .own e ys := by
    generalize evalV C fr x = p at h hx
    generalize lo.map (evalV C fr) = lv at h hlo
    generalize hh.map (evalV C fr) = hv at h hhi
    generalize lo.map a.eval = lx at hlo ⊢
    generalize hh.map a.eval = hx' at hhi ⊢
    generalize a.eval x = X at hx ⊢
    unfold sliceV at h
    split at h
    · rename_i s hu
      obtain ⟨s', rfl, rfl⟩ := rel_str hx
      obtain ⟨l, r, h1, h2, h3, h4, h5⟩ := bounds_run hlo hhi h
      simp only [Ask.run, Option.some.injEq] at h4
      subst h4
      have h6 : ∀ w : World, (Instr.sliceBounds false s'.size s'.size lx hx' none).run C.P w = .ok (l, r, s'.size) w := fun w => h5 w false _ (Nat.le_refl _)
      refine ⟨.string (s'.extract l r), fun w => ?_, ?_, by simp⟩
      · simp [Instr.sliceAt, Instr.slice, run_underlying (hS.und t _ hu), h6]
      · have : (s'.data.toList.take r).drop l = (s'.extract l r).data.toList := by simp [List.extract_eq_take_drop, List.drop_take]
        rw [this]
        exact .str _
    · rename_i e ys hu
      exact rowPart_run hS hu hx hlo hhi h
    · rename_i e e' ys hu
      exact rowPart_run hS hu (rel_own hx) hlo hhi h
    · rename_i e hu
      split at h
      · rename_i m hm
        obtain ⟨l, r, h1, h2, h3, h4, h5⟩ := bounds_run hlo hhi h
        simp only [Ask.run, Option.some.injEq] at h4
        subst h4
        rw [rel_nils hx]
        have hr0 : r = 0 := by omega
        have hl0 : l = 0 := by omega
        subst hr0; subst hl0
        refine ⟨.slice none 0 0, fun w => ?_, .nils, by simp⟩
        simp [Instr.sliceAt, Instr.slice, run_underlying (hS.und t _ hu), h5 w true 0 (Nat.le_refl _), siz_run hS hm]
      · cases h
    · rename_i e ad g off len e' hu
      split at h
      · rename_i m hm
        by_cases he : e = e'
        case neg => simp [he, Ask.run] at h
        rw [if_pos he] at h
        subst he
        obtain ⟨l, r, h1, h2, h3, h4, h5⟩ := bounds_run hlo hhi h
        simp only [Ask.run, Option.some.injEq] at h4
        subst h4
        cases hx with
        | msl _ _ _ _ _ b room k cap hh g1 g2 g3 g4 g5 =>
          refine ⟨_, fun w => by simp only [Instr.sliceAt, Instr.slice, Sem.run_bind, run_underlying (hS.und t _ hu), Result.andThen_ok, h5 w true cap g4, siz_run hS g3, Sem.run_pure] <;> rfl, ?_, by simp⟩
          split
          · rename_i hc
            have hrl : r - l = 0 := by omega
            by_cases hl : l = 0
            · subst hl
              rw [hrl]
              simp only [Nat.add_zero, Nat.sub_zero]
              exact .msl _ _ _ _ _ b room k cap hh g1 g2 g3 (by omega) fun hr => ⟨(g5 hr).1, by have := (g5 hr).2; omega⟩
            · rw [hrl]
              exact .mslNil _ _ _ _ b room hh g1 g2 (by omega) _ _
          · simp only [Option.map_some, Addr.add_lit, ← Nat.add_mul]
            exact .msl _ _ _ _ _ b room k (cap - l) hh g1 g2 g3 (by omega) fun hr => by have := g5 hr; omega
        | mslNil _ _ _ _ b room hh g1 g2 g3 ad' cap =>
          have hl : l = 0 := by omega
          have hr : r = 0 := by omega
          subst hl; subst hr
          refine ⟨_, fun w => by simp only [Instr.sliceAt, Instr.slice, Sem.run_bind, run_underlying (hS.und t _ hu), Result.andThen_ok, h5 w true cap (by omega), siz_run hS hm, Sem.run_pure] <;> rfl, ?_, by simp⟩
          · simp only [Nat.add_zero, Nat.sub_zero]
            exact .mslNil _ _ _ _ b room hh g1 g2 g3 _ _
      · cases h
    · rename_i n e ad g hu
      split at h
      · rename_i b m hb hm
        split at h
        · cases h
        · rename_i hg
          obtain ⟨l, r, h1, h2, h3, h4, h5⟩ := bounds_run hlo hhi h
          simp only [Ask.run, Option.some.injEq] at h4
          subst h4
          obtain ⟨q1, q2, q3⟩ := getBlk_some hb
          obtain ⟨h', n', room', he', hg', hok⟩ := hi.blk ad b q1
          cases hx with
          | ptr _ _ _ bb room hh g1 g2 =>
            rw [g1] at he'; cases he'
            rw [q2, g2] at hg'; cases hg'
            have hroom : room' = 0 := hok.still (by simpa using hg)
            refine ⟨_, fun w => by simp only [Instr.sliceAt, Sem.run_bind, run_underlying (hS.und t _ hu), Result.andThen_ok, Instr.sureAddr, h5 w false n (Nat.le_refl _), siz_run hS hm, Sem.run_pure] <;> rfl, ?_, by simp⟩
            split
            · rename_i hc
              have hrl : r - l = 0 := by omega
              by_cases hl : l = 0
              · subst hl
                rw [hrl]
                have := Rel.msl (C := C) (K := K) (η := η) ad g 0 0 e n' room' m (n - 0) h' g1 g2 hm (by omega) (fun h => by omega)
                simpa using this
              · rw [hrl]
                exact .mslNil _ _ _ _ n' room' h' g1 g2 hl _ _
            · simp only [Addr.add_lit, Nat.zero_add]
              exact .msl _ _ _ _ _ n' room' m (n - l) h' g1 g2 hm (by omega) fun h => by omega
      · cases h
    · rename_i n e y off hu
      split at h
      · rename_i agg m hagg hm
        split at h
        · rename_i hc
          obtain ⟨c1, c2, c3⟩ := hc
          obtain ⟨l, r, h1, h2, h3, h4, h5⟩ := bounds_run hlo hhi h
          simp only [Ask.run, Option.some.injEq] at h4
          subst h4
          cases hx with
          | eptr _ _ b o' cvs g1 g2 g3 =>
            obtain ⟨f1, f2, f3⟩ := elems_flat agg m c2 c1 n (y.cells.drop off) (by simp; omega) (oneL_drop g3 _)
            have hrow : Rel C K η (.row (elems agg m n (y.cells.drop off))) (.slice (some ⟨b, o' + off, none⟩) (elems agg m n (y.cells.drop off)).length n) := by
              refine .row _ b (o' + off) n m ((cvs.drop off).take (n * m)) (by omega) f2 ?_ (g1.part _ _) ?_
              · rw [f1]; exact oneL_take (oneL_drop g3 _) _
              · rw [f1]; exact (g2.drop _).take _
            obtain ⟨h6, h7⟩ := row_slice (size := m) hrow h1 (by omega) (.inr (by
              cases hz : elems agg m n (y.cells.drop off) with
              | nil => rfl
              | cons z t => simpa [headK] using f2 z (by simp [hz])))
            refine ⟨_, fun w => by simp only [Instr.sliceAt, Sem.run_bind, run_underlying (hS.und t _ hu), Result.andThen_ok, Instr.sureAddr, h5 w false n (Nat.le_refl _), siz_run hS hm, Sem.run_pure] <;> rfl, ?_, by simp⟩
            have e1 : (some (if n = l then (⟨b, o' + off, none⟩ : Addr) else (⟨b, o' + off, none⟩ : Addr).add (l * m)) : Option Addr) = if n = l then some ⟨b, o' + off, none⟩ else (some (⟨b, o' + off, none⟩ : Addr)).map (·.add (l * m)) := by split <;> rfl
            rw [e1]
            exact h7
        · cases h
      · cases h
    · cases h
  obtain ⟨r, h1, h2, h3⟩ := key
  exact .mk0 hf (x := r) (fun w => by simp only [execOp, ho]; exact run_v _ _ _ (h1 w)) h2 h3

end
end MI

