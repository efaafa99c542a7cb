/- An executor over a small domain of values (whole numbers, arrays and slices of whole numbers, structs of these), for Go functions in the kit's model; its definitions. Conditions: none. -/
import Derived.WalkKit
import Derived.Orders
import Derived.OrdersIn
import Derived.RangeFuncNested
import Derived.RangeFuncLeaves
import Derived.ChangeKeysEq
import Derived.Laws.StructEq
import Derived.RangeFuncCalls
import Derived.Deep.AppendSrc
import Derived.Laws.CopyRow
import Derived.Laws.IdiomCopy
set_option linter.all false
namespace Go.Proofs.SX
open Go

def leN (x y : Nat) : Bool := decide (x ≤ y)
def eqN (x y : Nat) : Bool := decide (x = y)
@[simp] theorem leN_eq {x y : Nat} : (leN x y = true) = (x ≤ y) := by simp [leN]
@[simp] theorem eqN_eq {x y : Nat} : (eqN x y = true) = (x = y) := by simp [eqN]
theorem leN_true {x y : Nat} (h : leN x y = true) : x ≤ y := of_decide_eq_true h
theorem eqN_true {x y : Nat} (h : eqN x y = true) : x = y := of_decide_eq_true h
theorem eqN_refl (x : Nat) : eqN x x = true := decide_eq_true rfl

/-- Values: what is known of a slot. -/
inductive AV where
  | any
  | lit (k : IntKind) (n : Nat)
  | int (k : IntKind) (x : Int)
  | lb (b : Bool)
  | bool (b : Bool)
  | arr (k : IntKind) (n : Nat) (xs : List Int)
  | agg (l : List AV)
  | tup (l : List AV)
  | sli (k : IntKind) (xs : List Int)
  | osl (nm : Nat) (lo len : Int)
  | ptr (nm off : Nat)
  | pti (nm off : Nat) (i : Int)
  | pta (nm : Nat) (lo : Int) (m : Nat)
  | rpi (k : IntKind) (xs : List Int) (i : Int)
  | rpa (k : IntKind) (xs : List Int)
  | str (xs : List Int)
  | itd (f : FuncId) (k : IntKind) (xs : List Int)
  | raw (v : Value)
  deriving Inhabited

/-- The arithmetic, as functions that the executor does not look into. -/
structure Ar where
  bin : BinOp → IntKind → Int → Int → Int
  cmp : BinOp → Int → Int → Bool
  not : Bool → Bool
  and : Bool → Bool → Bool
  beq : Bool → Bool → Bool
  inv : IntKind → Int → Int
  neg : IntKind → Int → Int
  wrap : IntKind → Int → Int
  rd : List Int → Int → Int
  set : List Int → Int → Int → List Int
  len : List Int → Int
  sub : List Int → Int → Int → List Int
  cat : List Int → List Int → List Int
  cpy : List Int → Int → List Int → List Int
  eqs : List Int → List Int → Bool
  zeros : Nat → List Int
  zerosI : Int → List Int
  ofNat : Nat → Int
  plus : Int → Int → Int
  diff : Int → Int → Int
  max : Int → Int → Int
  min : Int → Int → Int

/-- A type's shape. -/
inductive Sh where
  | int (k : IntKind)
  | bool
  | str
  | arr (n : Nat) (k : IntKind)
  | st (l : List Sh)
  | sl (k : IntKind)
  | other
  deriving Inhabited

/-- A block of the call's own. -/
inductive Blk where
  | cells (l : List AV)
  | row (k : IntKind) (xs : List Int)
  | gone
  deriving Inhabited

/-- What an operation does to the call's own blocks. -/
inductive Eff where
  | none
  | new (b : Blk)
  | wr (nm : Nat) (b : Blk)
  | mv (nm : Nat) (b : Blk)
  | kill (l : List Nat)
  deriving Inhabited

/-- Is a block made? -/
def isNew : Eff → Bool
  | .new _ | .mv _ _ => true
  | _ => false

abbrev Ob := List (Bool × Bool)

structure St where
  fr : List AV
  hp : List Blk
  deriving Inhabited

structure Out where
  v : AV
  e : Eff
  ob : Ob
  deriving Inhabited

/-- What is known of a called function: its answer as a function of its arguments. -/
inductive Con where
  | fn (g : List AV → Option (AV × Ob))
  | mut (g : IntKind → List Int → Int → Int → List AV → Option (AV × List Int × Ob))

structure Cx where
  na : Bool
  A : Ar
  T : TypeId → Sh
  G : FuncId → Option Con

def nth : List AV → Nat → AV
  | [], _ => .any
  | x :: _, 0 => x
  | _ :: l, n + 1 => nth l n
def upd : List AV → Nat → AV → List AV
  | [], _, _ => []
  | _ :: l, 0, v => v :: l
  | x :: l, n + 1, v => x :: upd l n v
def nthB : List Blk → Nat → Blk
  | [], _ => .gone
  | x :: _, 0 => x
  | _ :: l, n + 1 => nthB l n
def updB : List Blk → Nat → Blk → List Blk
  | [], _, _ => []
  | _ :: l, 0, v => v :: l
  | x :: l, n + 1, v => x :: updB l n v
def lenB : List Blk → Nat
  | [] => 0
  | _ :: l => lenB l + 1

mutual
def shSize : Sh → Nat
  | .arr n _ => n
  | .st l => shSizes l
  | _ => 1
def shSizes : List Sh → Nat
  | [] => 0
  | s :: l => shSize s + shSizes l
end

/-- Size in cells of a chunk. -/
def chSize : AV → Nat
  | .arr _ n _ => n
  | _ => 1
def chSizes : List AV → Nat
  | [] => 0
  | x :: l => chSize x + chSizes l

/-- May it lie in a block as one chunk? -/
def chunky : AV → Bool
  | .any | .agg _ | .tup _ | .raw (.agg _) | .raw (.tuple _) => false
  | _ => true
def chunkies : List AV → Bool
  | [] => true
  | x :: l => Bool.and (chunky x) (chunkies l)

/-- A value as the chunks of a block. -/
def chunks : AV → List AV
  | .agg l => l
  | x => [x]

/-- The chunks behind the first `off` cells. -/
def dropC : List AV → Nat → Option (List AV)
  | l, 0 => some l
  | [], _ + 1 => none
  | x :: l, m + 1 => if leN (chSize x) (m + 1) then dropC l (m + 1 - chSize x) else none
/-- The chunks of the first `n` cells. -/
def takeC : List AV → Nat → Option (List AV)
  | _, 0 => some []
  | [], _ + 1 => none
  | x :: l, n + 1 => if leN (chSize x) (n + 1) then (match takeC l (n + 1 - chSize x) with | some r => some (x :: r) | none => none) else none
/-- The chunk that begins at offset `off`. -/
def chunkAt (l : List AV) (off : Nat) : Option AV :=
  match dropC l off with
  | some (x :: _) => some x
  | _ => none
def kindEq : IntKind → IntKind → Bool
  | .i8, .i8 | .i16, .i16 | .i32, .i32 | .i64, .i64 | .u8, .u8 | .u16, .u16 | .u32, .u32 | .u64, .u64 => true
  | _, _ => false
/-- Are two chunks of one make? -/
def sameCh : AV → AV → Bool
  | .arr k n _, .arr k' n' _ => Bool.and (kindEq k k') (eqN n n')
  | .arr _ _ _, _ => false
  | _, .arr _ _ _ => false
  | _, _ => true
/-- The chunks `vs` in the place of those that begin the list. -/
def putC : List AV → List AV → Option (List AV)
  | l, [] => some l
  | x :: l, v :: vs => if sameCh x v then (match putC l vs with | some r => some (v :: r) | none => none) else none
  | [], _ :: _ => none
def setC : List AV → Nat → List AV → Option (List AV)
  | l, 0, vs => putC l vs
  | [], _ + 1, _ => none
  | x :: l, m + 1, vs => if leN (chSize x) (m + 1) then (match setC l (m + 1 - chSize x) vs with | some r => some (x :: r) | none => none) else none

mutual
/-- The zero of a shape. -/
def zeroOf (A : Ar) : Sh → Option AV
  | .int k => some (.lit k 0)
  | .bool => some (.lb false)
  | .str => some (.str [])
  | .arr n k => some (.arr k n (A.zeros n))
  | .sl k => some (.sli k [])
  | .st l => match zerosOf A l with | some r => some (.agg r) | none => none
  | .other => none
def zerosOf (A : Ar) : List Sh → Option (List AV)
  | [] => some []
  | .st _ :: _ => none
  | s :: l => match zeroOf A s with
    | some x => match zerosOf A l with
      | some r => some (x :: r)
      | none => none
    | none => none
end

/-- The greatest number of a kind. -/
def kmax : IntKind → Nat
  | .i8 => 127 | .i16 => 32767 | .i32 => 2147483647 | .i64 => 9223372036854775807
  | .u8 => 255 | .u16 => 65535 | .u32 => 4294967295 | .u64 => 18446744073709551615
def kneg : IntKind → Nat
  | .i8 => 128 | .i16 => 32768 | .i32 => 2147483648 | .i64 => 9223372036854775808
  | _ => 0
def ofConst : Value → AV
  | .int k (.ofNat n) => if leN n (kmax k) then .lit k n else .any
  | .int k (.negSucc n) => if leN (n + 1) (kneg k) then .int k (.negSucc n) else .any
  | .bool b => .lb b
  | .slice none 0 0 => .sli .u8 []
  | v => .raw v

def evF (fr : Nat → AV) : Operand → AV
  | .tmp t => fr t
  | .const v => ofConst v
  | .func f => .raw (.func (.func f) #[] #[])
  | .global _ => .any

def toI (A : Ar) : AV → Option (IntKind × Int)
  | .lit k n => some (k, A.ofNat n)
  | .int k x => some (k, x)
  | _ => none

def natOp : BinOp → Nat → Nat → Option (Nat ⊕ Bool)
  | .add, a, b => if leN (a + b) 2147483647 then some (.inl (a + b)) else none
  | .sub, a, b => if leN b a then (if leN a 2147483647 then some (.inl (a - b)) else none) else none
  | .mul, a, b => if leN (a * b) 2147483647 then some (.inl (a * b)) else none
  | .quo, a, b => if eqN b 0 then none else if leN a 2147483647 then some (.inl (a / b)) else none
  | .rem, a, b => if eqN b 0 then none else if leN a 2147483647 then some (.inl (a % b)) else none
  | .eql, a, b => some (.inr (eqN a b))
  | .neq, a, b => some (.inr (Bool.not (eqN a b)))
  | .lss, a, b => some (.inr (leN (a + 1) b))
  | .leq, a, b => some (.inr (leN a b))
  | .gtr, a, b => some (.inr (leN (b + 1) a))
  | .geq, a, b => some (.inr (leN b a))
  | _, _, _ => none

/-- A number's operation. -/
def intBin (A : Ar) (op : BinOp) (k : IntKind) (x y : Int) : AV × Ob :=
  match op with
  | .eql | .neq | .lss | .leq | .gtr | .geq => (.bool (A.cmp op x y), [])
  | .quo | .rem => (.int k (A.bin op k x y), [(A.cmp .eql y 0, false)])
  | .shl | .shr => (.int k (A.bin op k x y), [(A.cmp .leq 0 y, true)])
  | _ => (.int k (A.bin op k x y), [])

def isShift : BinOp → Bool
  | .shl | .shr => true
  | _ => false
def wide : IntKind → Bool
  | .i32 | .i64 | .u32 | .u64 => true
  | _ => false

def eqAVs (A : Ar) : List AV → List AV → Option Bool
  | [], [] => some true
  | .arr k n xs :: l, .arr k' n' ys :: m => if Bool.and (kindEq k k') (eqN n n') then (match eqAVs A l m with | some r => some (A.and (A.eqs xs ys) r) | none => none) else none
  | _, _ => none
def toB : AV → Option Bool
  | .lb b => some b
  | .bool b => some b
  | _ => none
def eqAV (A : Ar) : Sh → AV → AV → Option Bool
  | .bool, x, y => match toB x, toB y with
    | some a, some b => some (A.beq a b)
    | _, _ => none
  | .arr n0 k0, .arr k n xs, .arr k' n' ys => if Bool.and (Bool.and (kindEq k k') (eqN n n')) (Bool.and (kindEq k0 k) (eqN n0 n)) then some (A.eqs xs ys) else none
  | .st sh, .agg l, .agg m => match eqShs sh l with
    | true => eqAVs A l m
    | false => none
  | _, _, _ => none
  where eqShs : List Sh → List AV → Bool
  | [], [] => true
  | .arr n k :: sh, .arr k' n' _ :: l => Bool.and (Bool.and (kindEq k k') (eqN n n')) (eqShs sh l)
  | _, _ => false

def binAV (A : Ar) (sh : Sh) (op : BinOp) (x y : AV) : Option (AV × Ob) :=
  match x, y with
  | .lit k n, .lit k' m =>
    if Bool.or (isShift op) (kindEq k k') then
      match (match wide k with | true => natOp op n m | false => none) with
      | some (.inl r) => some (.lit k r, [])
      | some (.inr b) => some (.lb b, [])
      | none => some (intBin A op k (A.ofNat n) (A.ofNat m))
    else none
  | .lit k n, .int k' y => if Bool.or (isShift op) (kindEq k k') then some (intBin A op k (A.ofNat n) y) else none
  | .int k x, .lit k' m => if Bool.or (isShift op) (kindEq k k') then some (intBin A op k x (A.ofNat m)) else none
  | .int k x, .int k' y => if Bool.or (isShift op) (kindEq k k') then some (intBin A op k x y) else none
  | .str xs, .str ys => match op with
    | .eql => some (.bool (A.eqs xs ys), [])
    | .neq => some (.bool (A.not (A.eqs xs ys)), [])
    | _ => none
  | x, y => match op with
    | .eql => match eqAV A sh x y with
      | some b => some (.bool b, [])
      | none => none
    | .neq => match eqAV A sh x y with
      | some b => some (.bool (A.not b), [])
      | none => none
    | _ => none

def ix (A : Ar) (i : AV) (len : Int) : Option (Int × Ob) :=
  match toI A i with
  | some (_, x) => some (x, [(A.cmp .leq 0 x, true), (A.cmp .lss x len, true)])
  | none => none

/-- Is a chunk one of a shape? -/
def fits : Sh → AV → Bool
  | .arr n k, .arr k' n' _ => Bool.and (kindEq k k') (eqN n n')
  | .arr _ _, _ => false
  | .st _, _ | .other, _ => false
  | _, .arr _ _ _ => false
  | _, x => chunky x

def fitHd (s : Sh) : List AV → Option AV
  | x :: _ => if fits s x then some x else none
  | [] => none

/-- An index, of so many. -/
def ixS (A : Ar) (i : AV) (m : Nat) : Option (Int × Ob) :=
  match i with
  | .lit _ n => if leN (n + 1) m then some (A.ofNat n, []) else none
  | i => ix A i (A.ofNat m)

def ints1 : List AV → Option (IntKind × List Int)
  | [.arr k _ xs] => some (k, xs)
  | _ => none

/-- The block's numbers, if it holds numbers of one kind alone. -/
def blkInts : Blk → Option (IntKind × List Int)
  | .cells [.arr k _ xs] => some (k, xs)
  | .row k xs => some (k, xs)
  | _ => none

def loadAV (c : Cx) (get : Nat → Blk) (t : TypeId) : AV → Option AV
  | .ptr nm off => match get nm with
    | .cells l => match dropC l off with
      | some r => match c.T t with
        | .st sh => match takeC r (shSizes sh) with
          | some q => some (.agg q)
          | none => none
        | sh => fitHd sh r
      | none => none
    | _ => none
  | .pti nm off i => match c.T t with
    | .int _ => match get nm with
      | .cells l => match chunkAt l off with
        | some (.arr k _ xs) => some (.int k (c.A.rd xs i))
        | _ => none
      | .row k xs => if eqN off 0 then some (.int k (c.A.rd xs i)) else none
      | .gone => none
    | _ => none
  | .rpi k xs i => match c.T t with
    | .int _ => some (.int k (c.A.rd xs i))
    | _ => none
  | .pta nm lo m => match c.T t with
    | .arr m' _ => if eqN m m' then (match blkInts (get nm) with
      | some (k, xs) => some (.arr k m (c.A.sub xs lo (c.A.plus lo (c.A.ofNat m))))
      | none => none) else none
    | _ => none
  | _ => none

def known : Sh → Bool
  | .other => false
  | _ => true

/-- The new content of the block that is written. -/
def storeAV (c : Cx) (get : Nat → Blk) (t : TypeId) (a v : AV) : Option (Nat × Blk) :=
  match a with
  | .ptr nm off => match get nm with
    | .cells l => if Bool.and (Bool.and (chunkies (chunks v)) (known (c.T t))) (eqN (shSize (c.T t)) (chSizes (chunks v))) then
        match setC l off (chunks v) with
        | some l' => some (nm, .cells l')
        | none => none
      else none
    | _ => none
  | .pti nm off i => match c.T t with
    | .int k0 => match toI c.A v with
      | some (kv, x) => match get nm with
        | .cells l => match chunkAt l off with
          | some (.arr k n xs) => if Bool.and (kindEq k kv) (kindEq k0 k) then
              match setC l off [.arr k n (c.A.set xs i x)] with
              | some l' => some (nm, .cells l')
              | none => none
            else none
          | _ => none
        | .row k xs => if Bool.and (Bool.and (kindEq k kv) (kindEq k0 k)) (eqN off 0) then some (nm, .row k (c.A.set xs i x)) else none
        | .gone => none
      | none => none
    | _ => none
  | _ => none

def fieldOff : List Sh → Nat → Nat
  | [], _ => 0
  | _, 0 => 0
  | s :: l, n + 1 => shSize s + fieldOff l n

def evL (ev : Operand → AV) : List Operand → List AV
  | [] => []
  | o :: l => ev o :: evL ev l

def rep0 : Nat → List Int
  | 0 => []
  | n + 1 => 0 :: rep0 n
def setI : List Int → Nat → Int → List Int
  | [], _, _ => []
  | _ :: l, 0, v => v :: l
  | x :: l, n + 1, v => x :: setI l n v
def setParts (A : Ar) (k : IntKind) (n : Nat) : List Int → List (Nat × AV) → Option (List Int)
  | xs, [] => some xs
  | xs, (i, v) :: l => if leN (i + 1) n then (match toI A v with
    | some (k', x) => if kindEq k k' then setParts A k n (setI xs i x) l else none
    | none => none) else none
def setFields (sh : List Sh) : List AV → List (Nat × AV) → Option (List AV)
  | l, [] => some l
  | l, (i, v) :: r => if Bool.and (leN (i + 1) sh.length) (chunky v) then (match setC l (fieldOff sh i) [v] with
    | some l' => setFields sh l' r
    | none => none) else none
def evP (ev : Operand → AV) : List (Nat × Operand) → List (Nat × AV)
  | [] => []
  | (i, o) :: l => (i, ev o) :: evP ev l

/-- Chunks that name no block of the call's own. -/
def closedC : AV → Bool
  | .any | .agg _ | .tup _ | .osl _ _ _ | .ptr _ _ | .pti _ _ _ | .pta _ _ _ => false
  | _ => true
def closedL : List AV → Bool
  | [] => true
  | x :: l => Bool.and (closedC x) (closedL l)
/-- A value, as what it holds. -/
def closeAV (A : Ar) (get : Nat → Blk) : AV → Option AV
  | .osl nm lo len => match blkInts (get nm) with
    | some (k, xs) => some (.sli k (A.sub xs lo (A.plus lo len)))
    | none => none
  | .agg l => if closedL l then some (.agg l) else none
  | x => if closedC x then some x else none
def closeL (A : Ar) (get : Nat → Blk) : List AV → Option (List AV)
  | [] => some []
  | x :: l => match closeAV A get x with
    | some y => match closeL A get l with
      | some r => some (y :: r)
      | none => none
    | none => none
def hasOwn : List AV → Bool
  | [] => false
  | .osl _ _ _ :: _ => true
  | _ :: l => hasOwn l
def nmOf : AV → List Nat
  | .ptr nm _ | .pti nm _ _ | .osl nm _ _ | .pta nm _ _ => [nm]
  | _ => []
def nmsOf : List AV → List Nat
  | [] => []
  | x :: l => nmOf x ++ nmsOf l
def mem : Nat → List Nat → Bool
  | _, [] => false
  | x, y :: l => Bool.or (eqN x y) (mem x l)
/-- Values without memory. -/
def dry0 : AV → Bool
  | .lit _ _ | .int _ _ | .lb _ | .bool _ | .arr _ _ _ | .str _ => true
  | _ => false
def dryL : List AV → Bool
  | [] => true
  | x :: l => Bool.and (dry0 x) (dryL l)
def dry1 : AV → Bool
  | .agg l => dryL l
  | x => dry0 x
def dry1L : List AV → Bool
  | [] => true
  | x :: l => Bool.and (dry1 x) (dry1L l)
def dry : AV → Bool
  | .tup l => dry1L l
  | x => dry1 x

/-- Bounds of a slice. -/
def bnd (A : Ar) (ev : Operand → AV) (d : Int) : Option Operand → Option Int
  | none => some d
  | some o => match toI A (ev o) with
    | some (_, x) => some x
    | none => none
def bnds (A : Ar) (ev : Operand → AV) (lo hi : Option Operand) (len : Int) : Option (Int × Int × Ob) :=
  match bnd A ev (A.ofNat 0) lo, bnd A ev len hi with
  | some l, some h => some (l, h, [(A.cmp .leq 0 l, true), (A.cmp .leq l h, true), (A.cmp .leq h len, true)])
  | _, _ => none

/-- Bounds of a slice, and of what is behind. -/
def bnds3 (A : Ar) (ev : Operand → AV) (lo : Option Operand) (hi mx : Operand) (len : Int) : Option (Int × Int × Ob) :=
  match bnd A ev (A.ofNat 0) lo, toI A (ev hi), toI A (ev mx) with
  | some l, some (_, h), some (_, m) => some (l, h, [(A.cmp .leq 0 l, true), (A.cmp .leq l h, true), (A.cmp .leq h m, true), (A.cmp .leq m len, true)])
  | _, _, _ => none

/-- More numbers than these are not made. -/
def mostN : Nat := 17592186044416
def nilOp : Operand → Bool
  | .const (.slice none 0 0) => true
  | _ => false
/-- The operations that the language has. -/
def xbi (c : Cx) (ev : Operand → AV) (get : Nat → Blk) (n : Nat) (b : Builtin) (ts : List TypeId) (os : List Operand) : Option Out :=
  match b with
  | .len => match ts with
    | [t] => match c.T t with
      | .sl _ => match evL ev os with
        | [.sli _ xs] => some ⟨.int .i64 (c.A.len xs), .none, []⟩
        | [.osl _ _ len] => some ⟨.int .i64 len, .none, []⟩
        | _ => none
      | _ => none
    | _ => none
  | .max => match evL ev os with
    | [x, y] => match toI c.A x, toI c.A y with
      | some (k, x), some (k', y) => if kindEq k k' then some ⟨.int k (c.A.max x y), .none, []⟩ else none
      | _, _ => none
    | _ => none
  | .min => match evL ev os with
    | [x, y] => match toI c.A x, toI c.A y with
      | some (k, x), some (k', y) => if kindEq k k' then some ⟨.int k (c.A.min x y), .none, []⟩ else none
      | _, _ => none
    | _ => none
  | .append => match ts with
    | [t, t'] => match c.T t with
      | .sl k0 => match c.T t' with
        | .sl _ => match os with
          | [o1, o2] => match closeAV c.A get (ev o2) with
            | some (.sli ky ys) => match kindEq k0 ky with
              | true => match nilOp o1 with
                | true => some ⟨.sli k0 ys, .none, [(c.A.cmp .leq (c.A.len ys) (c.A.ofNat mostN), true)]⟩
                | false => match ev o1 with
                  | .osl nm lo len => match get nm with
                    | .row k xs => match kindEq k0 k with
                      | true => some ⟨.osl n 0 (c.A.plus len (c.A.len ys)), .mv nm (.row k0 (c.A.cat (c.A.sub xs lo (c.A.plus lo len)) ys)), [(c.A.cmp .eql lo 0, true), (c.A.cmp .leq (c.A.plus len (c.A.len ys)) (c.A.ofNat mostN), true)]⟩
                      | false => none
                    | _ => none
                  | _ => none
              | false => none
            | _ => none
          | _ => none
        | _ => none
      | _ => none
    | _ => none
  | .copy => match ts with
    | [t, t'] => match c.T t with
      | .sl k0 => match c.T t' with
        | .sl _ => match os with
          | [o1, o2] => match closeAV c.A get (ev o2) with
            | some (.sli ky ys) => match kindEq k0 ky with
              | true => match ev o1 with
                | .osl nm lo len => match get nm with
                  | .row k xs => match kindEq k0 k with
                    | true => some ⟨.int .i64 (c.A.len ys), .wr nm (.row k0 (c.A.cpy xs lo ys)), [(c.A.cmp .leq (c.A.len ys) len, true)]⟩
                    | false => none
                  | _ => none
                | _ => none
              | false => none
            | _ => none
          | _ => none
        | _ => none
      | _ => none
    | _ => none
  | _ => none

/-- A call that turns its first argument's numbers. -/
def xmut (c : Cx) (get : Nat → Blk) (g : IntKind → List Int → Int → Int → List AV → Option (AV × List Int × Ob)) (l : List AV) : Option Out :=
  match l with
  | .osl nm lo len :: rest => match get nm with
    | .row k xs => match mem nm (nmsOf rest) with
      | true => none
      | false => match closeL c.A get rest with
        | some l => match g k xs lo len l with
          | some (v, xs', ob) => match dry v with
            | true => some ⟨v, .wr nm (.row k xs'), ob⟩
            | false => none
          | none => none
        | none => none
    | _ => none
  | _ => none

/-- One operation. `n`: the name of a new block. -/
def xop (c : Cx) (ev : Operand → AV) (get : Nat → Blk) (n : Nat) : Op → Option Out
  | .move x | .assign x => some ⟨ev x, .none, []⟩
  | .alloc t => match zeroOf c.A (c.T t) with
    | some z => some ⟨.ptr n 0, .new (.cells (chunks z)), []⟩
    | none => none
  | .box _ x => if chunkies (chunks (ev x)) then some ⟨.ptr n 0, .new (.cells (chunks (ev x))), []⟩ else none
  | .build t ps => match c.T t with
    | .arr m k => match setParts c.A k m (rep0 m) (evP ev ps.toList) with
      | some xs => some ⟨.arr k m xs, .none, []⟩
      | none => none
    | .st sh => match zerosOf c.A sh with
      | some z => match setFields sh z (evP ev ps.toList) with
        | some l => some ⟨.agg l, .none, []⟩
        | none => none
      | none => none
    | _ => none
  | .load t a => match loadAV c get t (ev a) with
    | some v => some ⟨v, .none, []⟩
    | none => none
  | .store t a v => match storeAV c get t (ev a) (ev v) with
    | some (nm, b) => some ⟨.any, .wr nm b, []⟩
    | none => none
  | .indexAddr t x i => match ev x with
    | .ptr nm off => match c.T t with
      | .arr m _ => match get nm with
        | .cells l => match chunkAt l off with
          | some (.arr _ m' _) => if eqN m m' then (match ixS c.A (ev i) m with
            | some (i, ob) => some ⟨.pti nm off i, .none, ob⟩
            | none => none) else none
          | _ => none
        | _ => none
      | _ => none
    | .sli k xs => match c.T t with
      | .sl _ => match ix c.A (ev i) (c.A.len xs) with
        | some (i, ob) => some ⟨.rpi k xs i, .none, ob⟩
        | none => none
      | _ => none
    | .osl nm lo len => match c.T t with
      | .sl _ => match ix c.A (ev i) len with
        | some (i, ob) => some ⟨.pti nm 0 (c.A.plus lo i), .none, ob⟩
        | none => none
      | _ => none
    | _ => none
  | .index t x i => match ev x, c.T t with
    | .arr k m xs, .arr m' _ => if eqN m m' then (match ixS c.A (ev i) m with
      | some (i, ob) => some ⟨.int k (c.A.rd xs i), .none, ob⟩
      | none => none) else none
    | _, _ => none
  | .fieldAddr t x f => match ev x, c.T t with
    | .ptr nm off, .st sh => if leN (f + 1) sh.length then some ⟨.ptr nm (off + fieldOff sh f), .none, []⟩ else none
    | _, _ => none
  | .field t x f => match ev x, c.T t with
    | .agg l, .st sh => if leN (f + 1) sh.length then (match chunkAt l (fieldOff sh f) with
        | some v => if fits (sh.getD f .other) v then some ⟨v, .none, []⟩ else none
        | none => none) else none
    | _, _ => none
  | .slice t x lo hi none => match ev x with
    | .ptr nm off => match c.T t with
      | .arr m _ => match get nm with
        | .cells [.arr _ m' _] => if Bool.and (Bool.and (eqN off 0) (eqN m m')) (leN m 9223372036854775807) then (match bnds c.A ev lo hi (c.A.ofNat m) with
          | some (l, h, ob) => some ⟨.osl nm l (c.A.diff h l), .none, ob⟩
          | none => none) else none
        | _ => none
      | _ => none
    | .sli k xs => match c.T t with
      | .sl _ => match bnds c.A ev lo hi (c.A.len xs) with
        | some (l, h, ob) => some ⟨.sli k (c.A.sub xs l h), .none, ob⟩
        | none => none
      | _ => none
    | .osl nm lo0 len => match c.T t with
      | .sl _ => match bnds c.A ev lo hi len with
        | some (l, h, ob) => some ⟨.osl nm (c.A.plus lo0 l) (c.A.diff h l), .none, ob⟩
        | none => none
      | _ => none
    | _ => none
  | .slice t x lo (some hi) (some mx) => match c.T t with
    | .sl _ => match ev x with
      | .sli k xs => match bnds3 c.A ev lo hi mx (c.A.len xs) with
        | some (l, h, ob) => some ⟨.sli k (c.A.sub xs l h), .none, ob⟩
        | none => none
      | .osl nm lo0 len => match bnds3 c.A ev lo hi mx len with
        | some (l, h, ob) => some ⟨.osl nm (c.A.plus lo0 l) (c.A.diff h l), .none, ob⟩
        | none => none
      | _ => none
    | _ => none
  | .makeSlice t x y => match c.T t with
    | .sl k => match toI c.A (ev x), toI c.A (ev y) with
      | some (_, x), some (_, y) => some ⟨.osl n 0 x, .new (.row k (c.A.zerosI y)), [(c.A.cmp .leq 0 x, true), (c.A.cmp .leq x y, true), (c.A.cmp .leq y (c.A.ofNat mostN), true)]⟩
      | _, _ => none
    | _ => none
  | .buildSlice t m ps => match c.T t with
    | .sl k => if leN m 65536 then (match setParts c.A k m (rep0 m) (evP ev ps.toList) with
      | some xs => some ⟨.osl n 0 (c.A.ofNat m), .new (.row k xs), []⟩
      | none => none) else none
    | _ => none
  | .sliceToArrayPointer t x => match ev x with
    | .osl nm lo len => match c.T t with
      | .arr m _ => if leN 1 m then some ⟨.pta nm lo m, .none, [(c.A.cmp .leq (c.A.ofNat m) len, true)]⟩ else none
      | _ => none
    | _ => none
  | .extract x i => match ev x with
    | .tup l => if leN (i + 1) l.length then some ⟨nth l i, .none, []⟩ else none
    | _ => none
  | .binOp op t x y _ => match binAV c.A (c.T t) op (ev x) (ev y) with
    | some (v, ob) => some ⟨v, .none, ob⟩
    | none => none
  | .unOp op _ x => match op with
    | .not => match ev x with
      | .lb b => some ⟨.lb (Bool.not b), .none, []⟩
      | .bool b => some ⟨.bool (c.A.not b), .none, []⟩
      | _ => none
    | .xor => match toI c.A (ev x) with
      | some (k, x) => some ⟨.int k (c.A.inv k x), .none, []⟩
      | none => none
    | .neg => match toI c.A (ev x) with
      | some (k, x) => some ⟨.int k (c.A.neg k x), .none, []⟩
      | none => none
    | _ => none
  | .convert s t x => match c.T s with
    | .int _ => match c.T t with
      | .int k => match ev x with
        | .lit _ m => if leN m 127 then some ⟨.lit k m, .none, []⟩ else some ⟨.int k (c.A.wrap k (c.A.ofNat m)), .none, []⟩
        | .int _ x => some ⟨.int k (c.A.wrap k x), .none, []⟩
        | _ => none
      | _ => none
    | .sl .u8 => match c.T t with
      | .str => match closeAV c.A get (ev x) with
        | some (.sli .u8 xs) => some ⟨.str xs, .none, []⟩
        | _ => none
      | _ => none
    | _ => none
  | .makeFunc (.func f) fs cs => match fs.toList, evL ev cs.toList with
    | [], [.ptr nm off] => if eqN off 0 then (match get nm with
      | .cells [.sli k xs] => some ⟨.itd f k xs, .kill [nm], []⟩
      | _ => none) else none
    | _, _ => none
  | .call cl => match cl.callee with
    | .builtin b => xbi c ev get n b cl.argTypes.toList cl.args.toList
    | .value (.func f) => match c.G f with
      | some (.fn g) => match closeL c.A get (evL ev cl.args.toList) with
        | some l => match g l with
          | some (v, ob) => if Bool.or (Bool.not (hasOwn (evL ev cl.args.toList))) (dry v) then some ⟨v, .none, ob⟩ else some ⟨v, .kill (nmsOf (evL ev cl.args.toList)), ob⟩
          | none => none
        | none => none
      | some (.mut g) => xmut c get g (evL ev cl.args.toList)
      | none => none
    | _ => none
  | _ => none

/-- An answer that the decisions give. -/
def ask (ds : List Bool) : AV → Option (Bool × List Bool × Ob)
  | .lb b => some (b, ds, [])
  | .bool b => match ds with
    | d :: ds => some (d, ds, [(b, d)])
    | [] => none
  | _ => none

def nthOp : List Oper → Nat → Option Oper
  | [], _ => none
  | o :: _, 0 => some o
  | _ :: l, n + 1 => nthOp l n

/-- Is it carried out? -/
def wantedAV (all : List Oper) (fr : Nat → AV) (ds : List Bool) (o : Oper) : Option (Bool × List Bool × Ob) :=
  match o.guard with
  | none => some (true, ds, [])
  | some (j, want) => match nthOp all j with
    | some g => match g.dst with
      | some d => match fr d with
        | .tup [] => some (false, ds, [])
        | x => match ask ds x with
          | some (b, ds, ob) => some (Bool.or (Bool.and b want) (Bool.and (Bool.not b) (Bool.not want)), ds, ob)
          | none => none
      | none => none
    | none => none

/-- One operation of a region, with its guard. -/
def xstep (c : Cx) (all : List Oper) (fr : Nat → AV) (get : Nat → Blk) (n : Nat) (ds : List Bool) (o : Oper) : Option (Out × List Bool) :=
  match wantedAV all fr ds o with
  | some (false, ds, ob) => some (⟨.tup [], .none, ob⟩, ds)
  | some (true, ds, ob) => match o.op with
    | .pick x a b => match ask ds (evF fr x) with
      | some (t, ds, ob') => some (⟨bif t then evF fr a else evF fr b, .none, ob' ++ ob⟩, ds)
      | none => none
    | op => match xop c (evF fr) get n op with
      | some q => match Bool.and c.na (isNew q.e) with
        | true => none
        | false => some (⟨q.v, q.e, q.ob ++ ob⟩, ds)
      | none => none
  | none => none

def killB (hp : List Blk) : List Nat → List Blk
  | [] => hp
  | nm :: l => updB (killB hp l) nm .gone
def putF (fr : List AV) (dst : Option Nat) (v : AV) : List AV :=
  match dst with
  | some d => upd fr d v
  | none => fr
def putE (hp : List Blk) (e : Eff) : List Blk :=
  match e with
  | .none => hp
  | .new b => hp ++ [b]
  | .wr nm b => updB hp nm b
  | .mv nm b => updB hp nm .gone ++ [b]
  | .kill l => killB hp l

structure XR where
  s : St
  ds : List Bool
  ob : Ob
  deriving Inhabited

/-- The operations in the order of the text. -/
def xops (c : Cx) (all : List Oper) : List Oper → XR → Option XR
  | [], r => some r
  | o :: l, r => match xstep c all (nth r.s.fr) (nthB r.s.hp) (lenB r.s.hp) r.ds o with
    | some (q, ds) => xops c all l ⟨⟨putF r.s.fr o.dst q.v, putE r.s.hp q.e⟩, ds, q.ob ++ r.ob⟩
    | none => none

inductive XE where
  | normal | exit (id : Nat) | ret
  deriving Inhabited

end Go.Proofs.SX

namespace Go.Proofs.SX
open Go Go.RowKit

/-- A number of its kind. -/
def Rg (k : IntKind) (x : Int) : Prop := k.wrap x = x
def RgL (k : IntKind) (xs : List Int) : Prop := ∀ x ∈ xs, Rg k x
def ints (k : IntKind) (xs : List Int) : List Value := xs.map (.int k)

/-- What stays: which blocks of those that were there; whether none may be made. -/
structure Bd where
  keep : Nat → Prop
  na : Bool
def NewOk (B : Bd) (w : World) : Prop := B.na = false → ∀ b, w.heap.size ≤ b → ¬ B.keep b
structure Kept (B : Bd) (w w' : World) : Prop where
  os : w'.os = w.os
  tape : w'.tape = w.tape
  output : w'.output = w.output
  size : w.heap.size ≤ w'.heap.size
  block : ∀ k, k < w.heap.size → B.keep k → w'.heap[k]? = w.heap[k]?
  rows : ∀ (k : Nat) (cs : Array Value) (ty : TypeId), w.heap[k]? = some (Obj.cells cs ty (0, 0)) → ∃ (cs' : Array Value) (ty' : TypeId), w'.heap[k]? = some (Obj.cells cs' ty' (0, 0)) ∧ cs'.size = cs.size
theorem Kept.refl (B : Bd) (w : World) : Kept B w w := ⟨rfl, rfl, rfl, Nat.le_refl _, fun _ _ _ => rfl, fun _ cs ty h => ⟨cs, ty, h, rfl⟩⟩
theorem Kept.trans {B : Bd} {a b c : World} (h : Kept B a b) (k : Kept B b c) : Kept B a c :=
  ⟨k.os.trans h.os, k.tape.trans h.tape, k.output.trans h.output, Nat.le_trans h.size k.size, fun i hi hk => (k.block i (Nat.lt_of_lt_of_le hi h.size) hk).trans (h.block i hi hk), fun i cs ty hc => by
    obtain ⟨cs1, ty1, h1, h2⟩ := h.rows i cs ty hc
    obtain ⟨cs2, ty2, h3, h4⟩ := k.rows i cs1 ty1 h1
    exact ⟨cs2, ty2, h3, h4.trans h2⟩⟩
theorem Kept.below {B : Bd} {a b c : World} (h : Kept B a b) (k : Below b.heap.size b c) : Kept B a c :=
  h.trans ⟨k.os, k.tape, k.output, k.size, fun i hi _ => k.block i hi, fun i cs ty hc => ⟨cs, ty, (k.block i (Array.getElem?_eq_some_iff.1 hc).1).trans hc, rfl⟩⟩
theorem Kept.alloc {B : Bd} {a w : World} (h : Kept B a w) (o : Obj) : Kept B a (w.alloc o) :=
  h.below ((Below.refl _ w).alloc (Nat.le_refl _) o)
theorem NewOk.mono {B : Bd} {w w' : World} (h : NewOk B w) (hs : w.heap.size ≤ w'.heap.size) : NewOk B w' :=
  fun hn b hb => h hn b (Nat.le_trans hs hb)

/-- What values are held against. -/
structure RC where
  own : Nat → Prop
  al : Nat → Prop
  ρ : Nat → Nat
  ln : Nat → Nat → Nat
  rs : Nat → Nat
  w : World

/-- Numbers lie in memory that nobody writes. -/
structure Rd (R : RC) (k : IntKind) (xs : List Int) (ad : Addr) : Prop where
  cell : ∀ (j : Nat) (x : Int), xs[j]? = some x → R.w.cell? (ad.add j) = some (.int k x)
  far : ¬ R.own ad.block

def oneCell : Value → Prop
  | .agg _ | .tuple _ => False
  | _ => True

/-- A chunk's value. -/
def VR0 (R : RC) : AV → Value → Prop
  | .any, _ => True
  | .lit k n, v => v = .int k n ∧ Rg k n
  | .int k x, v => v = .int k x ∧ Rg k x
  | .lb b, v => v = .bool b
  | .bool b, v => v = .bool b
  | .arr k n xs, v => v = .agg (ints k xs).toArray ∧ xs.length = n ∧ RgL k xs
  | .sli k xs, v => ∃ a cap, v = .slice a xs.length cap ∧ xs.length ≤ cap ∧ xs.length ≤ 9223372036854775807 ∧ RgL k xs ∧ (xs ≠ [] → ∃ ad, a = some ad ∧ Rd R k xs ad)
  | .osl nm lo len, v => R.al nm ∧ ∃ lo' len' cap : Nat, lo = lo' ∧ len = len' ∧ (∃ ad : Addr, v = .slice (some ad) len' cap ∧ (cap ≠ 0 → ad = ⟨R.ρ nm, lo', none⟩)) ∧ len' ≤ cap ∧ lo' + cap ≤ R.rs nm ∧ lo' + len' ≤ R.ln nm 0 ∧ len' ≤ 9223372036854775807
  | .ptr nm off, v => R.al nm ∧ v = .pointer (some ⟨R.ρ nm, off, none⟩)
  | .pti nm off i, v => R.al nm ∧ ∃ j : Nat, i = j ∧ j < R.ln nm off ∧ v = .pointer (some ⟨R.ρ nm, off + j, none⟩)
  | .pta nm lo m, v => R.al nm ∧ ∃ j : Nat, lo = j ∧ j + m ≤ R.ln nm 0 ∧ v = .pointer (some ⟨R.ρ nm, j, none⟩)
  | .rpi k xs i, v => ∃ (ad : Addr) (j : Nat) (x : Int), i = j ∧ xs[j]? = some x ∧ Rg k x ∧ v = .pointer (some ad) ∧ R.w.cell? ad = some (.int k x) ∧ ¬ R.own ad.block
  | .rpa k xs, v => RgL k xs ∧ ∃ p, v = .pointer p ∧ (xs ≠ [] → ∃ ad, p = some ad ∧ Rd R k xs ad)
  | .str xs, v => ∃ s : ByteArray, v = .string s ∧ s.data.toList.map (fun b => (b.toNat : Int)) = xs
  | .itd f k xs, v => ∃ (ad : Addr) (u : Value), v = .func (.func f) #[] #[.pointer (some ad)] ∧ R.w.cell? ad = some u ∧ ¬ R.own ad.block ∧ ∃ a cap, u = .slice a xs.length cap ∧ xs.length ≤ cap ∧ xs.length ≤ 9223372036854775807 ∧ RgL k xs ∧ (xs ≠ [] → ∃ ad, a = some ad ∧ Rd R k xs ad)
  | .raw u, v => v = u
  | .agg _, _ => False
  | .tup _, _ => False

/-- Chunks as cells. -/
def CRL (R : RC) : List AV → List Value → Prop
  | [], cs => cs = []
  | .arr k n xs :: l, cs => ∃ cs', cs = ints k xs ++ cs' ∧ xs.length = n ∧ RgL k xs ∧ CRL R l cs'
  | x :: l, cs => ∃ v cs', cs = v :: cs' ∧ VR0 R x v ∧ oneCell v ∧ chunky x = true ∧ CRL R l cs'

def VR1 (R : RC) : AV → Value → Prop
  | .agg l, v => ∃ cs : List Value, v = .agg cs.toArray ∧ CRL R l cs
  | x, v => VR0 R x v

def VRL (R : RC) : List AV → List Value → Prop
  | [], vs => vs = []
  | x :: l, vs => ∃ v vs', vs = v :: vs' ∧ VR1 R x v ∧ VRL R l vs'

def VR (R : RC) : AV → Value → Prop
  | .tup l, v => ∃ vs : List Value, v = .tuple vs.toArray ∧ VRL R l vs
  | x, v => VR1 R x v

/-- What stays when the world goes on. -/
structure Ext (R R' : RC) : Prop where
  al : ∀ nm, R.al nm → R'.al nm
  ρ : ∀ nm, R.al nm → R'.ρ nm = R.ρ nm
  ln : ∀ nm, R.al nm → R'.ln nm = R.ln nm
  rs : ∀ nm, R.al nm → R'.rs nm = R.rs nm
  cell : ∀ ad v, R.w.cell? ad = some v → ¬ R.own ad.block → R'.w.cell? ad = some v ∧ ¬ R'.own ad.block

theorem Ext.refl (R : RC) : Ext R R := ⟨fun _ h => h, fun _ _ => rfl, fun _ _ => rfl, fun _ _ => rfl, fun _ _ h h' => ⟨h, h'⟩⟩
theorem Ext.trans {R R' R'' : RC} (h : Ext R R') (k : Ext R' R'') : Ext R R'' :=
  ⟨fun nm x => k.al nm (h.al nm x), fun nm x => (k.ρ nm (h.al nm x)).trans (h.ρ nm x), fun nm x => (k.ln nm (h.al nm x)).trans (h.ln nm x),
   fun nm x => (k.rs nm (h.al nm x)).trans (h.rs nm x), fun ad v c o => let ⟨c', o'⟩ := h.cell ad v c o; k.cell ad v c' o'⟩

theorem block_add (ad : Addr) (j : Nat) : (ad.add j).block = ad.block := by unfold Addr.add; split <;> rfl

theorem Rd.ext {R R' : RC} (e : Ext R R') {k : IntKind} {xs : List Int} {ad : Addr} (hne : xs ≠ []) (h : Rd R k xs ad) : Rd R' k xs ad := by
  refine ⟨fun j x hx => (e.cell _ _ (h.cell j x hx) (by rw [block_add]; exact h.far)).1, ?_⟩
  cases xs with
  | nil => exact absurd rfl hne
  | cons x l =>
    have := (e.cell _ _ (h.cell 0 x rfl) (by rw [block_add]; exact h.far)).2
    rwa [block_add] at this

theorem VR0.ext {R R' : RC} (e : Ext R R') {x : AV} {v : Value} (h : VR0 R x v) : VR0 R' x v := by
  cases x with
  | sli k xs =>
    obtain ⟨a, cap, hv, h1, h2, h3, h4⟩ := h
    exact ⟨a, cap, hv, h1, h2, h3, fun hne => let ⟨ad, ha, hr⟩ := h4 hne; ⟨ad, ha, hr.ext e hne⟩⟩
  | osl nm lo len =>
    obtain ⟨ha, lo', len', cap, h1, h2, h3, h4, h5, h6, h7⟩ := h
    refine ⟨e.al _ ha, lo', len', cap, h1, h2, ?_, h4, ?_, ?_, h7⟩
    · rw [e.ρ _ ha]; exact h3
    · rw [e.rs _ ha]; exact h5
    · rw [e.ln _ ha]; exact h6
  | ptr nm off => obtain ⟨ha, h1⟩ := h; exact ⟨e.al _ ha, by rw [e.ρ _ ha]; exact h1⟩
  | pti nm off i =>
    obtain ⟨ha, j, h1, h2, h3⟩ := h
    exact ⟨e.al _ ha, j, h1, by rw [e.ln _ ha]; exact h2, by rw [e.ρ _ ha]; exact h3⟩
  | pta nm lo m =>
    obtain ⟨ha, j, h1, h2, h3⟩ := h
    exact ⟨e.al _ ha, j, h1, by rw [e.ln _ ha]; exact h2, by rw [e.ρ _ ha]; exact h3⟩
  | rpi k xs i =>
    obtain ⟨ad, j, x, h1, h2, h3, h4, h5, h6⟩ := h
    obtain ⟨h7, h8⟩ := e.cell _ _ h5 h6
    exact ⟨ad, j, x, h1, h2, h3, h4, h7, h8⟩
  | rpa k xs =>
    obtain ⟨h1, p, hp, h2⟩ := h
    exact ⟨h1, p, hp, fun hne => let ⟨ad, ha, hr⟩ := h2 hne; ⟨ad, ha, hr.ext e hne⟩⟩
  | itd f k xs =>
    obtain ⟨ad, u, h1, h2, h3, a, cap, h4, h5, h6, h7, h8⟩ := h
    obtain ⟨g1, g2⟩ := e.cell _ _ h2 h3
    exact ⟨ad, u, h1, g1, g2, a, cap, h4, h5, h6, h7, fun hne => let ⟨ad, ha, hr⟩ := h8 hne; ⟨ad, ha, hr.ext e hne⟩⟩
  | _ => exact h

/-- A chunk that is one cell. -/
theorem CRL.cons {R : RC} {x : AV} {l : List AV} {cs : List Value} (hx : ∀ k n xs, x ≠ .arr k n xs) :
    CRL R (x :: l) cs ↔ ∃ v cs', cs = v :: cs' ∧ VR0 R x v ∧ oneCell v ∧ chunky x = true ∧ CRL R l cs' := by
  cases x <;> first | exact Iff.rfl | exact absurd rfl (hx _ _ _)

theorem CRL.ext {R R' : RC} (e : Ext R R') : ∀ {l : List AV} {cs : List Value}, CRL R l cs → CRL R' l cs
  | [], _, h => h
  | x :: l, cs, h => by
    by_cases hx : ∃ k n xs, x = .arr k n xs
    · obtain ⟨k, n, xs, rfl⟩ := hx
      obtain ⟨cs', h1, h2, h3, h4⟩ := h
      exact ⟨cs', h1, h2, h3, CRL.ext e h4⟩
    · have hx' : ∀ k n xs, x ≠ .arr k n xs := fun k n xs he => hx ⟨k, n, xs, he⟩
      rw [CRL.cons hx'] at h ⊢
      obtain ⟨v, cs', h1, h2, h3, h4, h5⟩ := h
      exact ⟨v, cs', h1, h2.ext e, h3, h4, CRL.ext e h5⟩

theorem VR1.ext {R R' : RC} (e : Ext R R') {x : AV} {v : Value} (h : VR1 R x v) : VR1 R' x v := by
  cases x with
  | agg l => obtain ⟨cs, h1, h2⟩ := h; exact ⟨cs, h1, h2.ext e⟩
  | _ => simp only [VR1] at h ⊢; exact h.ext e

theorem VRL.ext {R R' : RC} (e : Ext R R') : ∀ {l : List AV} {vs : List Value}, VRL R l vs → VRL R' l vs
  | [], _, h => h
  | _ :: _, _, h => by
    obtain ⟨v, vs', h1, h2, h3⟩ := h
    exact ⟨v, vs', h1, h2.ext e, VRL.ext e h3⟩

theorem VR.ext {R R' : RC} (e : Ext R R') {x : AV} {v : Value} (h : VR R x v) : VR R' x v := by
  cases x with
  | tup l => obtain ⟨vs, h1, h2⟩ := h; exact ⟨vs, h1, h2.ext e⟩
  | _ => simp only [VR] at h ⊢; exact h.ext e

theorem VR.any (R : RC) (v : Value) : VR R .any v := trivial

/-- How many numbers begin at a block's offset. -/
def lenAt : Blk → Nat → Nat
  | .cells l, off => match chunkAt l off with
    | some (.arr _ n _) => n
    | _ => 0
  | .row _ xs, off => if off = 0 then xs.length else 0
  | .gone, _ => 0

/-- A block of the call's own, as it lies in memory. -/
def BlkR (R : RC) (B : Bd) (nm : Nat) : Blk → Prop
  | .gone => True
  | .cells l => R.al nm ∧ ¬ B.keep (R.ρ nm) ∧ ∃ (cs : List Value) (ty : TypeId), R.w.heap[R.ρ nm]? = some (.cells cs.toArray ty (0, 0)) ∧ CRL R l cs ∧ cs.length = R.rs nm ∧ ∀ off, R.ln nm off = lenAt (.cells l) off
  | .row k xs => R.al nm ∧ ¬ B.keep (R.ρ nm) ∧ ∃ (rest : List Value) (ty : TypeId), R.w.heap[R.ρ nm]? = some (.cells (ints k xs ++ rest).toArray ty (0, 0)) ∧ RgL k xs ∧ xs.length + rest.length = R.rs nm ∧ ∀ off, R.ln nm off = lenAt (.row k xs) off

/-- What is no cells lies as it lay. -/
structure Oth (w w' : World) : Prop where
  size : w.heap.size ≤ w'.heap.size
  same : ∀ (k : Nat) (o : Obj), w.heap[k]? = some o → o.isCells = false → w'.heap[k]? = some o
theorem Oth.refl (w : World) : Oth w w := ⟨Nat.le_refl _, fun _ _ h _ => h⟩
theorem Oth.trans {a b c : World} (h : Oth a b) (k : Oth b c) : Oth a c := ⟨Nat.le_trans h.size k.size, fun i o hi ho => k.same i o (h.same i o hi ho) ho⟩
theorem Oth.below {w w' : World} (h : Below w.heap.size w w') : Oth w w' := ⟨h.size, fun k o hk _ => (h.block k (Array.getElem?_eq_some_iff.1 hk).1).trans hk⟩

/-- The marks that loops over iterators have left among the deferred calls. -/
def Marks (w0 w : World) : Nat → List Deferred → Prop
  | _, [] => True
  | B, d :: l => ∃ D, D < B ∧ w0.heap.size ≤ D ∧ d = { target := .collected D, args := #[] } ∧ w.heap[D]? = some (.deferred (some [])) ∧ Marks w0 w D l
theorem Marks.oth {w0 w w' : World} (h : Oth w w') : ∀ {B B' : Nat} {l : List Deferred}, B ≤ B' → Marks w0 w B l → Marks w0 w' B' l
  | _, _, [], _, _ => trivial
  | _, _, d :: l, hB, ⟨D, h1, h2, h3, h4, h5⟩ => ⟨D, Nat.lt_of_lt_of_le h1 hB, h2, h3, h.same _ _ h4 rfl, Marks.oth h (Nat.le_refl _) h5⟩

/-- How an operation's world stands to the one before. -/
structure Rel (R R' : RC) : Prop where
  ext : Ext R R'
  oth : Oth R.w R'.w
theorem Rel.refl (R : RC) : Rel R R := ⟨Ext.refl R, Oth.refl _⟩
theorem Rel.trans {R R' R'' : RC} (h : Rel R R') (k : Rel R' R'') : Rel R R'' := ⟨h.ext.trans k.ext, h.oth.trans k.oth⟩

/-- A state of the machine is as the executor says; `L`: how many slots it has. -/
structure Conc (O : Nat → Prop) (B : Bd) (w0 : World) (L : Nat) (R : RC) (fr : Nat → AV) (hp : Nat → Blk) (a : Act) : Prop where
  tm : ∀ t, VR R (fr t) (a.tmps.getD t undef)
  sz : ∀ t, L ≤ t → fr t = .any
  le : L ≤ a.tmps.size
  own : ∀ b, R.own b ↔ O b ∨ ∃ nm, hp nm ≠ .gone ∧ R.ρ nm = b
  oB : ∀ b, O b → B.keep b ∧ b < w0.heap.size
  bl : ∀ nm, BlkR R B nm (hp nm)
  inj : ∀ nm nm', hp nm ≠ .gone → hp nm' ≠ .gone → R.ρ nm = R.ρ nm' → nm = nm'
  bw : Kept B w0 R.w
  df : Marks w0 R.w R.w.heap.size a.defers

theorem BlkR.al {R : RC} {B : Bd} {nm : Nat} {b : Blk} (h : BlkR R B nm b) (hb : b ≠ .gone) : R.al nm := by
  cases b with
  | gone => exact absurd rfl hb
  | _ => exact h.1

theorem Conc.weaken {O : Nat → Prop} {B : Bd} {w0 : World} {L : Nat} {R : RC} {fr fr' : Nat → AV} {hp : Nat → Blk} {a : Act} (h : Conc O B w0 L R fr hp a)
    (hf : ∀ t, fr' t = fr t ∨ fr' t = .any) : Conc O B w0 L R fr' hp a :=
  ⟨fun t => by rcases hf t with e | e <;> rw [e]; exact h.tm t; exact trivial,
   fun t ht => by rcases hf t with e | e; rw [e]; exact h.sz t ht; exact e, h.le, h.own, h.oB, h.bl, h.inj, h.bw, h.df⟩

/-- A slot is written. -/
def updF (L : Nat) (fr : Nat → AV) (dst : Option Nat) (v : AV) : Nat → AV :=
  match dst with
  | some d => fun t => if t = d ∧ d < L then v else fr t
  | none => fr

theorem updF_some (L : Nat) (fr : Nat → AV) (d : Nat) (v : AV) (t : Nat) : updF L fr (some d) v t = if t = d ∧ d < L then v else fr t := rfl

theorem getD_put (a : Act) (d t : Nat) (v : Value) : (a.put (some d) v).tmps.getD t undef = if t = d ∧ d < a.tmps.size then v else a.tmps.getD t undef := by
  simp only [Act.put, Array.getD_eq_getD_getElem?, Array.getElem?_setIfInBounds]
  by_cases h : d = t
  · subst h
    by_cases h2 : d < a.tmps.size
    · simp [h2]
    · simp [h2]
  · rw [if_neg h, if_neg (fun hh => h hh.1.symm)]

theorem size_put (a : Act) (d : Option Nat) (v : Value) : (a.put d v).tmps.size = a.tmps.size := by
  cases d <;> simp [Act.put]
theorem defers_put (a : Act) (d : Option Nat) (v : Value) : (a.put d v).defers = a.defers := by
  cases d <;> rfl

/-- The frame's part of a step. -/
theorem tm_put {L : Nat} {R R' : RC} {fr : Nat → AV} {a : Act} (e : Ext R R') (tm : ∀ t, VR R (fr t) (a.tmps.getD t undef)) (sz : ∀ t, L ≤ t → fr t = .any) (le : L ≤ a.tmps.size)
    (dst : Option Nat) {x : AV} {v : Value} (hx : VR R' x v) :
    (∀ t, VR R' (updF L fr dst x t) ((a.put dst v).tmps.getD t undef)) ∧ (∀ t, L ≤ t → updF L fr dst x t = .any) ∧ L ≤ (a.put dst v).tmps.size := by
  rw [size_put]
  cases dst with
  | none => exact ⟨fun t => (tm t).ext e, sz, le⟩
  | some d =>
    refine ⟨fun t => ?_, fun t ht => ?_, le⟩
    · rw [getD_put, updF_some]
      by_cases h : t = d
      · by_cases hd : d < L
        · rw [if_pos ⟨h, hd⟩, if_pos ⟨h, Nat.lt_of_lt_of_le hd le⟩]; exact hx
        · rw [if_neg (fun hh => hd hh.2), sz t (by omega)]; exact trivial
      · rw [if_neg (fun hh => h hh.1), if_neg (fun hh => h hh.1)]; exact (tm t).ext e
    · rw [updF_some, if_neg (by omega)]; exact sz t ht

/-- The blocks behind an effect. -/
def putH (hp : Nat → Blk) (n : Nat) (e : Eff) : Nat → Blk :=
  match e with
  | .none => hp
  | .new b => fun m => if m = n then b else hp m
  | .wr nm b => fun m => if m = nm then b else hp m
  | .mv nm b => fun m => if m = n then b else if m = nm then .gone else hp m
  | .kill l => fun m => if mem m l then .gone else hp m

theorem BlkR.ext {R R' : RC} (e : Ext R R') {B : Bd} {nm : Nat} {b : Blk} (hb : b ≠ .gone → R'.w.heap[R.ρ nm]? = R.w.heap[R.ρ nm]?) (h : BlkR R B nm b) : BlkR R' B nm b := by
  cases b with
  | gone => trivial
  | cells l =>
    obtain ⟨h1, h2, cs, ty, h3, h4, h5, h6⟩ := h
    refine ⟨e.al _ h1, by rw [e.ρ _ h1]; exact h2, cs, ty, ?_, h4.ext e, by rw [e.rs _ h1]; exact h5, fun off => by rw [e.ln _ h1]; exact h6 off⟩
    rw [e.ρ _ h1, hb (by simp)]; exact h3
  | row k xs =>
    obtain ⟨h1, h2, rest, ty, h3, h4, h5, h6⟩ := h
    refine ⟨e.al _ h1, by rw [e.ρ _ h1]; exact h2, rest, ty, ?_, h4, by rw [e.rs _ h1]; exact h5, fun off => by rw [e.ln _ h1]; exact h6 off⟩
    rw [e.ρ _ h1, hb (by simp)]; exact h3
end Go.Proofs.SX

namespace Go.Proofs.SX
open Go Go.RowKit

variable {O : Nat → Prop} {B : Bd} {w0 : World} {L : Nat} {R : RC} {fr : Nat → AV} {hp : Nat → Blk} {a : Act}

theorem BlkR.heap {R : RC} {B : Bd} {nm : Nat} {b : Blk} (h : BlkR R B nm b) (hb : b ≠ .gone) : R.ρ nm < R.w.heap.size ∧ ¬ B.keep (R.ρ nm) ∧ R.al nm := by
  cases b with
  | gone => exact absurd rfl hb
  | cells l => obtain ⟨h1, h2, cs, ty, h3, _⟩ := h; exact ⟨(Array.getElem?_eq_some_iff.1 h3).1, h2, h1⟩
  | row k xs => obtain ⟨h1, h2, cs, ty, h3, _⟩ := h; exact ⟨(Array.getElem?_eq_some_iff.1 h3).1, h2, h1⟩

theorem block_lt_of_cell {w : World} {ad : Addr} {v : Value} (h : w.cell? ad = some v) : ad.block < w.heap.size := by
  unfold World.cell? at h
  split at h
  · rename_i hb; exact (Array.getElem?_eq_some_iff.1 hb).1
  · simp at h

/-- Memory stays. -/
theorem Conc.plain (h : Conc O B w0 L R fr hp a) (n : Nat) (dst : Option Nat) {x : AV} {v : Value} (hx : VR R x v) :
    Conc O B w0 L R (updF L fr dst x) (putH hp n .none) (a.put dst v) := by
  obtain ⟨h1, h2, h3⟩ := tm_put (Ext.refl R) h.tm h.sz h.le dst hx
  exact ⟨h1, h2, h3, h.own, h.oB, h.bl, h.inj, h.bw, by rw [defers_put]; exact h.df⟩

/-- What is known of the world behind a new block. -/
def RC.alloc (R : RC) (n : Nat) (o : Obj) (ln : Nat → Nat) (rs : Nat) : RC where
  own := fun b => R.own b ∨ b = R.w.heap.size
  al := fun m => R.al m ∨ m = n
  ρ := fun m => if m = n then R.w.heap.size else R.ρ m
  ln := fun m => if m = n then ln else R.ln m
  rs := fun m => if m = n then rs else R.rs m
  w := R.w.alloc o

theorem Ext.alloc (R : RC) (n : Nat) (o : Obj) (ln : Nat → Nat) (rs : Nat) (hn : ¬ R.al n) : Ext R (R.alloc n o ln rs) := by
  have hne : ∀ nm, R.al nm → nm ≠ n := fun nm ha e => hn (e ▸ ha)
  refine ⟨fun nm ha => .inl ha, fun nm ha => ?_, fun nm ha => ?_, fun nm ha => ?_, fun ad v hc ho => ?_⟩
  · exact if_neg (hne nm ha)
  · exact if_neg (hne nm ha)
  · exact if_neg (hne nm ha)
  · have hl := block_lt_of_cell hc
    refine ⟨(World.cell?_alloc_lt _ _ _ hl).trans hc, ?_⟩
    rintro (h | h)
    · exact ho h
    · omega

theorem Conc.new (h : Conc O B w0 L R fr hp a) (n : Nat) (hn : ¬ R.al n) (b : Blk) (hb : b ≠ .gone) (cs : List Value) (ty : TypeId) (dst : Option Nat) {x : AV} {v : Value}
    (hx : VR (R.alloc n (.cells cs.toArray ty) (lenAt b) cs.length) x v)
    (hblk : BlkR (R.alloc n (.cells cs.toArray ty) (lenAt b) cs.length) B n b) :
    Conc O B w0 L (R.alloc n (.cells cs.toArray ty) (lenAt b) cs.length) (updF L fr dst x) (putH hp n (.new b)) (a.put dst v) := by
  have e := Ext.alloc R n (.cells cs.toArray ty) (lenAt b) cs.length hn
  obtain ⟨h1, h2, h3⟩ := tm_put e h.tm h.sz h.le dst hx
  have hgn : hp n = .gone := by
    by_cases hg : hp n = .gone
    · exact hg
    · exact absurd ((h.bl n).heap hg).2.2 hn
  refine ⟨h1, h2, h3, fun b' => ⟨?_, ?_⟩, h.oB, fun nm => ?_, fun nm nm' hl hl' he => ?_, ?_, by rw [defers_put]; exact h.df.oth (Oth.below ((Below.refl _ _).alloc (Nat.le_refl _) _)) (by simp [RC.alloc])⟩
  · rintro (ho | rfl)
    · rcases (h.own b').1 ho with hO | ⟨nm, hl, hr⟩
      · exact .inl hO
      refine .inr ?_
      have hne : nm ≠ n := fun e => hl (e ▸ hgn)
      exact ⟨nm, by simp only [putH]; rw [if_neg hne]; exact hl, by simp only [RC.alloc]; rw [if_neg hne]; exact hr⟩
    · exact .inr ⟨n, by simp [putH, hb], by simp [RC.alloc]⟩
  · rintro (hO | ⟨nm, hl, hr⟩)
    · exact .inl ((h.own b').2 (.inl hO))
    by_cases hne : nm = n
    · subst hne; simp [RC.alloc] at hr; exact .inr hr.symm
    · simp only [putH] at hl; rw [if_neg hne] at hl
      simp only [RC.alloc] at hr; rw [if_neg hne] at hr
      exact .inl ((h.own b').2 (.inr ⟨nm, hl, hr⟩))
  · simp only [putH]
    by_cases hne : nm = n
    · rw [if_pos hne, hne]; exact hblk
    · rw [if_neg hne]
      refine (h.bl nm).ext e fun hg => ?_
      exact Below.heap_alloc _ _ _ ((h.bl nm).heap hg).1
  · simp only [putH] at hl hl'
    simp only [RC.alloc] at he
    by_cases hne : nm = n <;> by_cases hne' : nm' = n
    · rw [hne, hne']
    · rw [if_pos hne, if_neg hne'] at he
      rw [if_neg hne'] at hl'
      have := ((h.bl nm').heap hl').1
      omega
    · rw [if_neg hne, if_pos hne'] at he
      rw [if_neg hne] at hl
      have := ((h.bl nm).heap hl).1
      omega
    · rw [if_neg hne, if_neg hne'] at he
      rw [if_neg hne] at hl; rw [if_neg hne'] at hl'
      exact h.inj nm nm' hl hl' he
  · exact h.bw.alloc _

/-- A block of the world's is another one now. -/
def setBlk (w : World) (b : Nat) (o : Obj) : World := { w with heap := w.heap.setIfInBounds b o }

theorem heap_setBlk (w : World) (b : Nat) (o : Obj) (k : Nat) : (setBlk w b o).heap[k]? = if k = b ∧ b < w.heap.size then some o else w.heap[k]? := by
  simp only [setBlk, Array.getElem?_setIfInBounds]
  by_cases h : b = k
  · subst h
    by_cases h2 : b < w.heap.size
    · simp [h2]
    · simp [h2]
  · rw [if_neg h, if_neg (fun hh => h hh.1.symm)]

theorem cell_other {w : World} {b : Nat} {o : Obj} {ad : Addr} (h : ad.block ≠ b) : (setBlk w b o).cell? ad = w.cell? ad := by
  unfold World.cell?
  rw [heap_setBlk, if_neg (fun hh => h hh.1)]

theorem Oth.setBlk {w : World} {b : Nat} {cs cs' : List Value} {ty ty' : TypeId} (h : w.heap[b]? = some (.cells cs'.toArray ty' (0, 0))) : Oth w (setBlk w b (.cells cs.toArray ty)) :=
  ⟨by simp [SX.setBlk], fun k o hk ho => by
    rw [heap_setBlk, if_neg (fun (e : k = b ∧ _) => ?_)]
    · exact hk
    · rw [e.1, h] at hk
      simp only [Option.some.injEq] at hk
      subst hk
      simp [Obj.isCells] at ho⟩
def RC.wr (R : RC) (b : Nat) (o : Obj) : RC := { R with w := setBlk R.w b o }

theorem Ext.wr (R : RC) (b : Nat) (o : Obj) (hb : R.own b) : Ext R (R.wr b o) :=
  ⟨fun _ h => h, fun _ _ => rfl, fun _ _ => rfl, fun _ _ => rfl, fun ad v hc ho => by
    have hne : ad.block ≠ b := fun e => ho (e ▸ hb)
    exact ⟨(cell_other hne).trans hc, ho⟩⟩

theorem below_setBlk {B : Bd} {w0 w : World} (h : Kept B w0 w) {b : Nat} (hb : ¬ B.keep b) {cs cs' : List Value} {ty ty' : TypeId} (h0 : w.heap[b]? = some (.cells cs'.toArray ty' (0, 0))) (hl : cs.length = cs'.length) : Kept B w0 (setBlk w b (.cells cs.toArray ty)) :=
  h.trans ⟨rfl, rfl, rfl, by simp [setBlk], fun k _ hk => by rw [heap_setBlk, if_neg (fun (e : k = b ∧ _) => hb (e.1 ▸ hk))], fun k cs1 ty1 hc => by
    rw [heap_setBlk]
    by_cases hk : k = b ∧ b < w.heap.size
    · rw [if_pos hk]
      rw [hk.1, h0] at hc
      simp only [Option.some.injEq, Obj.cells.injEq] at hc
      exact ⟨_, _, rfl, by rw [← hc.1]; simp [hl]⟩
    · rw [if_neg hk]; exact ⟨cs1, ty1, hc, rfl⟩⟩
/-- How many cells a block has. -/
theorem BlkR.cells {R : RC} {B : Bd} {nm : Nat} {b : Blk} (h : BlkR R B nm b) (hb : b ≠ .gone) : ∃ (cs : List Value) (ty : TypeId), R.w.heap[R.ρ nm]? = some (.cells cs.toArray ty (0, 0)) ∧ cs.length = R.rs nm := by
  cases b with
  | gone => exact absurd rfl hb
  | cells l => obtain ⟨h1, h2, cs, ty, h3, h4, h5, _⟩ := h; exact ⟨cs, ty, h3, h5⟩
  | row k xs => obtain ⟨h1, h2, rest, ty, h3, h4, h5, _⟩ := h; exact ⟨_, ty, h3, by simp [ints, h5]⟩
theorem cells_len {w : World} {b : Nat} {cs cs' : List Value} {ty ty' : TypeId} (h : w.heap[b]? = some (.cells cs.toArray ty (0, 0))) (h' : w.heap[b]? = some (.cells cs'.toArray ty' (0, 0))) : cs = cs' := by
  rw [h] at h'
  simp only [Option.some.injEq, Obj.cells.injEq] at h'
  simpa using h'.1

theorem Conc.wrote (h : Conc O B w0 L R fr hp a) (n nm : Nat) (b : Blk) (hb : b ≠ .gone) (hg : hp nm ≠ .gone) (cs : List Value) (ty : TypeId) (dst : Option Nat) {x : AV} {v : Value}
    (hx : VR (R.wr (R.ρ nm) (.cells cs.toArray ty)) x v) (hblk : BlkR (R.wr (R.ρ nm) (.cells cs.toArray ty)) B nm b) :
    Conc O B w0 L (R.wr (R.ρ nm) (.cells cs.toArray ty)) (updF L fr dst x) (putH hp n (.wr nm b)) (a.put dst v) := by
  have ho : R.own (R.ρ nm) := (h.own _).2 (.inr ⟨nm, hg, rfl⟩)
  have e := Ext.wr R (R.ρ nm) (.cells cs.toArray ty) ho
  obtain ⟨h1, h2, h3⟩ := tm_put e h.tm h.sz h.le dst hx
  have hlive : ∀ m, putH hp n (.wr nm b) m ≠ .gone ↔ hp m ≠ .gone := by
    intro m
    simp only [putH]
    by_cases hm : m = nm
    · rw [if_pos hm, hm]; exact ⟨fun _ => hg, fun _ => hb⟩
    · rw [if_neg hm]
  have hoth : Oth R.w (R.wr (R.ρ nm) (.cells cs.toArray ty)).w := by
    obtain ⟨cs0, ty0, g1, g2⟩ := (h.bl nm).cells hg
    exact Oth.setBlk g1
  refine ⟨h1, h2, h3, fun b' => ?_, h.oB, fun m => ?_, fun m m' hl hl' he => ?_, ?_, by rw [defers_put]; exact h.df.oth hoth hoth.size⟩
  · rw [show (R.wr (R.ρ nm) (.cells cs.toArray ty)).own b' ↔ R.own b' from Iff.rfl, h.own b']
    constructor
    · rintro (hO | ⟨m, hl, hr⟩)
      · exact .inl hO
      · exact .inr ⟨m, (hlive m).2 hl, hr⟩
    · rintro (hO | ⟨m, hl, hr⟩)
      · exact .inl hO
      · exact .inr ⟨m, (hlive m).1 hl, hr⟩
  · by_cases hm : m = nm
    · simp only [putH]; rw [if_pos hm, hm]; exact hblk
    · simp only [putH]; rw [if_neg hm]
      refine (h.bl m).ext e fun hgm => ?_
      have : R.ρ m ≠ R.ρ nm := fun e => hm (h.inj m nm hgm hg e)
      show (setBlk R.w (R.ρ nm) _).heap[R.ρ m]? = _
      rw [heap_setBlk, if_neg (fun hh => this hh.1)]
  · exact h.inj m m' ((hlive m).1 hl) ((hlive m').1 hl') he
  · obtain ⟨cs0, ty0, g1, g2⟩ := (h.bl nm).cells hg
    obtain ⟨cs1, ty1, g3, g4⟩ := hblk.cells hb
    have g5 : (R.wr (R.ρ nm) (.cells cs.toArray ty)).w.heap[R.ρ nm]? = some (.cells cs.toArray ty (0, 0)) := by
      show (setBlk R.w (R.ρ nm) _).heap[R.ρ nm]? = _
      rw [heap_setBlk, if_pos ⟨rfl, ((h.bl nm).heap hg).1⟩]
    have g6 := cells_len g5 g3
    exact below_setBlk h.bw ((h.bl nm).heap hg).2.1 g1 (by rw [g6, g4, g2]; rfl)

theorem Conc.wrote_rel (h : Conc O B w0 L R fr hp a) {nm : Nat} (hg : hp nm ≠ .gone) {cs : List Value} {ty : TypeId} : Rel R (R.wr (R.ρ nm) (.cells cs.toArray ty)) := by
  obtain ⟨cs0, ty0, g1, g2⟩ := (h.bl nm).cells hg
  exact ⟨Ext.wr R _ _ ((h.own _).2 (.inr ⟨nm, hg, rfl⟩)), Oth.setBlk g1⟩

/-- A call that leaves what was there. -/
def RC.on (R : RC) (w' : World) : RC := { R with w := w' }

theorem Ext.on (R : RC) {w' : World} (hb : Below R.w.heap.size R.w w') : Ext R (R.on w') :=
  ⟨fun _ h => h, fun _ _ => rfl, fun _ _ => rfl, fun _ _ => rfl, fun ad v hc ho => ⟨(hb.cell (block_lt_of_cell hc)).trans hc, ho⟩⟩

theorem Conc.called (h : Conc O B w0 L R fr hp a) {w' : World} (hb : Below R.w.heap.size R.w w') (n : Nat) (dst : Option Nat) {x : AV} {v : Value} (hx : VR (R.on w') x v) :
    Conc O B w0 L (R.on w') (updF L fr dst x) (putH hp n .none) (a.put dst v) := by
  have e := Ext.on R hb
  obtain ⟨h1, h2, h3⟩ := tm_put e h.tm h.sz h.le dst hx
  refine ⟨h1, h2, h3, h.own, h.oB, fun m => (h.bl m).ext e fun hg => hb.block _ ((h.bl m).heap hg).1, h.inj, ?_, by rw [defers_put]; exact h.df.oth (Oth.below hb) hb.size⟩
  exact h.bw.below hb

/-- Blocks are given up. -/
def RC.drop (R : RC) (O : Nat → Prop) (hp : Nat → Blk) : RC := { R with own := fun b => O b ∨ ∃ nm, hp nm ≠ .gone ∧ R.ρ nm = b }

theorem Conc.killed (h : Conc O B w0 L R fr hp a) (n : Nat) (l : List Nat) : Conc O B w0 L (R.drop O (putH hp n (.kill l))) fr (putH hp n (.kill l)) a ∧ Ext R (R.drop O (putH hp n (.kill l))) := by
  have sub : ∀ m, putH hp n (.kill l) m ≠ .gone → putH hp n (.kill l) m = hp m := by
    intro m hm
    simp only [putH] at hm ⊢
    by_cases hml : mem m l = true
    · rw [if_pos hml] at hm; exact absurd rfl hm
    · rw [if_neg hml]
  have e : Ext R (R.drop O (putH hp n (.kill l))) := by
    refine ⟨fun _ h => h, fun _ _ => rfl, fun _ _ => rfl, fun _ _ => rfl, fun ad v hc ho => ⟨hc, ?_⟩⟩
    rintro (hO | ⟨nm, hg, hr⟩)
    · exact ho ((h.own _).2 (.inl hO))
    · exact ho ((h.own _).2 (.inr ⟨nm, by rw [← sub nm hg]; exact hg, hr⟩))
  refine ⟨⟨fun t => (h.tm t).ext e, h.sz, h.le, fun b => Iff.rfl, h.oB, fun nm => ?_, fun nm nm' hg hg' he => ?_, h.bw, h.df⟩, e⟩
  · by_cases hg : putH hp n (.kill l) nm = .gone
    · rw [hg]; trivial
    · rw [sub nm hg]; exact (h.bl nm).ext e fun _ => rfl
  · exact h.inj nm nm' (by rw [← sub nm hg]; exact hg) (by rw [← sub nm' hg']; exact hg') he

/-- A block goes on under another name, turned where it lies. -/
def RC.re (R : RC) (n nm : Nat) (o : Obj) (ln : Nat → Nat) : RC where
  own := R.own
  al := fun m => R.al m ∨ m = n
  ρ := fun m => if m = n then R.ρ nm else R.ρ m
  ln := fun m => if m = n then ln else R.ln m
  rs := fun m => if m = n then R.rs nm else R.rs m
  w := setBlk R.w (R.ρ nm) o

theorem Ext.re (R : RC) (n nm : Nat) (o : Obj) (ln : Nat → Nat) (hn : ¬ R.al n) (hb : R.own (R.ρ nm)) : Ext R (R.re n nm o ln) := by
  have hne : ∀ m, R.al m → m ≠ n := fun m ha e => hn (e ▸ ha)
  refine ⟨fun m ha => .inl ha, fun m ha => if_neg (hne m ha), fun m ha => if_neg (hne m ha), fun m ha => if_neg (hne m ha), fun ad v hc ho => ?_⟩
  have hne : ad.block ≠ R.ρ nm := fun e => ho (e ▸ hb)
  exact ⟨(cell_other hne).trans hc, ho⟩

theorem Conc.moved (h : Conc O B w0 L R fr hp a) (n nm : Nat) (hn : ¬ R.al n) (b : Blk) (hb : b ≠ .gone) (hg : hp nm ≠ .gone) (cs : List Value) (ty : TypeId) (dst : Option Nat) {x : AV} {v : Value}
    (hx : VR (R.re n nm (.cells cs.toArray ty) (lenAt b)) x v) (hblk : BlkR (R.re n nm (.cells cs.toArray ty) (lenAt b)) B n b) :
    Conc O B w0 L (R.re n nm (.cells cs.toArray ty) (lenAt b)) (updF L fr dst x) (putH hp n (.mv nm b)) (a.put dst v) := by
  have ho : R.own (R.ρ nm) := (h.own _).2 (.inr ⟨nm, hg, rfl⟩)
  have e := Ext.re R n nm (.cells cs.toArray ty) (lenAt b) hn ho
  obtain ⟨h1, h2, h3⟩ := tm_put e h.tm h.sz h.le dst hx
  have hgn : hp n = .gone := by
    by_cases hg : hp n = .gone
    · exact hg
    · exact absurd ((h.bl n).heap hg).2.2 hn
  have hnm : nm ≠ n := fun e => hg (e ▸ hgn)
  have hoth : Oth R.w (R.re n nm (.cells cs.toArray ty) (lenAt b)).w := by
    obtain ⟨cs0, ty0, g1, g2⟩ := (h.bl nm).cells hg
    exact Oth.setBlk g1
  refine ⟨h1, h2, h3, fun b' => ?_, h.oB, fun m => ?_, fun m m' hl hl' he => ?_, ?_, by rw [defers_put]; exact h.df.oth hoth hoth.size⟩
  · show R.own b' ↔ _
    rw [h.own b']
    constructor
    · rintro (hO | ⟨m, hl, hr⟩)
      · exact .inl hO
      · by_cases hm : m = nm
        · exact .inr ⟨n, by simp [putH, hb], by simp [RC.re]; rw [← hm]; exact hr⟩
        · have hmn : m ≠ n := fun e => hl (e ▸ hgn)
          exact .inr ⟨m, by simp only [putH]; rw [if_neg hmn, if_neg hm]; exact hl, by simp only [RC.re]; rw [if_neg hmn]; exact hr⟩
    · rintro (hO | ⟨m, hl, hr⟩)
      · exact .inl hO
      · by_cases hmn : m = n
        · subst hmn; simp [RC.re] at hr; exact .inr ⟨nm, hg, hr⟩
        · simp only [putH] at hl; rw [if_neg hmn] at hl
          simp only [RC.re] at hr; rw [if_neg hmn] at hr
          by_cases hm : m = nm
          · rw [if_pos hm] at hl; exact absurd rfl hl
          · rw [if_neg hm] at hl; exact .inr ⟨m, hl, hr⟩
  · simp only [putH]
    by_cases hmn : m = n
    · rw [if_pos hmn, hmn]; exact hblk
    · rw [if_neg hmn]
      by_cases hm : m = nm
      · rw [if_pos hm]; trivial
      · rw [if_neg hm]
        refine (h.bl m).ext e fun hgm => ?_
        have : R.ρ m ≠ R.ρ nm := fun e => hm (h.inj m nm hgm hg e)
        show (setBlk R.w (R.ρ nm) _).heap[R.ρ m]? = _
        rw [heap_setBlk, if_neg (fun hh => this hh.1)]
  · simp only [putH] at hl hl'
    simp only [RC.re] at he
    by_cases hmn : m = n <;> by_cases hmn' : m' = n
    · rw [hmn, hmn']
    · rw [if_pos hmn, if_neg hmn'] at he
      rw [if_neg hmn'] at hl'
      by_cases hm : m' = nm
      · rw [if_pos hm] at hl'; exact absurd rfl hl'
      · rw [if_neg hm] at hl'; exact absurd (h.inj nm m' hg hl' he).symm hm
    · rw [if_neg hmn, if_pos hmn'] at he
      rw [if_neg hmn] at hl
      by_cases hm : m = nm
      · rw [if_pos hm] at hl; exact absurd rfl hl
      · rw [if_neg hm] at hl; exact absurd (h.inj m nm hl hg he) hm
    · rw [if_neg hmn, if_neg hmn'] at he
      rw [if_neg hmn] at hl; rw [if_neg hmn'] at hl'
      by_cases hm : m = nm
      · rw [if_pos hm] at hl; exact absurd rfl hl
      · by_cases hm' : m' = nm
        · rw [if_pos hm'] at hl'; exact absurd rfl hl'
        · rw [if_neg hm] at hl; rw [if_neg hm'] at hl'
          exact h.inj m m' hl hl' he
  · obtain ⟨cs0, ty0, g1, g2⟩ := (h.bl nm).cells hg
    obtain ⟨cs1, ty1, g3, g4⟩ := hblk.cells hb
    have en : (R.re n nm (.cells cs.toArray ty) (lenAt b)).ρ n = R.ρ nm := if_pos rfl
    have er : (R.re n nm (.cells cs.toArray ty) (lenAt b)).rs n = R.rs nm := if_pos rfl
    rw [en] at g3
    rw [er] at g4
    have g5 : (R.re n nm (.cells cs.toArray ty) (lenAt b)).w.heap[R.ρ nm]? = some (.cells cs.toArray ty (0, 0)) := by
      show (setBlk R.w (R.ρ nm) _).heap[R.ρ nm]? = _
      rw [heap_setBlk, if_pos ⟨rfl, ((h.bl nm).heap hg).1⟩]
    have g6 := cells_len g5 g3
    exact below_setBlk h.bw ((h.bl nm).heap hg).2.1 g1 (by rw [g6, g4, g2])

theorem Conc.moved_rel (h : Conc O B w0 L R fr hp a) {n nm : Nat} (hn : ¬ R.al n) (hg : hp nm ≠ .gone) {cs : List Value} {ty : TypeId} {ln : Nat → Nat} : Rel R (R.re n nm (.cells cs.toArray ty) ln) := by
  obtain ⟨cs0, ty0, g1, g2⟩ := (h.bl nm).cells hg
  exact ⟨Ext.re R n nm _ _ hn ((h.own _).2 (.inr ⟨nm, hg, rfl⟩)), Oth.setBlk g1⟩

/-- A call that turns one block. -/
theorem ext_mut (h : Conc O B w0 L R fr hp a) {nm : Nat} (hg : hp nm ≠ .gone) {w' : World} (hbk : ∀ k, k < R.w.heap.size → k ≠ R.ρ nm → w'.heap[k]? = R.w.heap[k]?) : Ext R (R.on w') := by
  have ho : R.own (R.ρ nm) := (h.own _).2 (.inr ⟨nm, hg, rfl⟩)
  exact ⟨fun _ h => h, fun _ _ => rfl, fun _ _ => rfl, fun _ _ => rfl, fun ad v hc hno => by
    have hne : ad.block ≠ R.ρ nm := fun e => hno (e ▸ ho)
    refine ⟨?_, hno⟩
    have hlt := block_lt_of_cell hc
    have := hbk ad.block hlt hne
    show w'.cell? ad = some v
    rw [← hc]
    unfold World.cell?
    rw [this]⟩
theorem oth_mut {w w' : World} {b : Nat} {cs : List Value} {ty : TypeId} (h : w.heap[b]? = some (.cells cs.toArray ty (0, 0))) (hsz : w.heap.size ≤ w'.heap.size) (hbk : ∀ k, k < w.heap.size → k ≠ b → w'.heap[k]? = w.heap[k]?) : Oth w w' :=
  ⟨hsz, fun k o hk ho => by
    rw [hbk k (Array.getElem?_eq_some_iff.1 hk).1 (fun e => ?_)]
    · exact hk
    · rw [e, h] at hk
      simp only [Option.some.injEq] at hk
      subst hk
      simp [Obj.isCells] at ho⟩
theorem Conc.mutated (h : Conc O B w0 L R fr hp a) (n nm : Nat) (b : Blk) (hb : b ≠ .gone) (hg : hp nm ≠ .gone) {w' : World} (hos : w'.os = R.w.os) (htp : w'.tape = R.w.tape) (hou : w'.output = R.w.output) (hsz : R.w.heap.size ≤ w'.heap.size)
    (hbk : ∀ k, k < R.w.heap.size → k ≠ R.ρ nm → w'.heap[k]? = R.w.heap[k]?) (dst : Option Nat) {x : AV} {v : Value} (hx : VR (R.on w') x v) (hblk : BlkR (R.on w') B nm b) :
    Conc O B w0 L (R.on w') (updF L fr dst x) (putH hp n (.wr nm b)) (a.put dst v) := by
  have ho : R.own (R.ρ nm) := (h.own _).2 (.inr ⟨nm, hg, rfl⟩)
  have e : Ext R (R.on w') := ⟨fun _ h => h, fun _ _ => rfl, fun _ _ => rfl, fun _ _ => rfl, fun ad v hc hno => by
    have hne : ad.block ≠ R.ρ nm := fun e => hno (e ▸ ho)
    refine ⟨?_, hno⟩
    have hlt := block_lt_of_cell hc
    have := hbk ad.block hlt hne
    show w'.cell? ad = some v
    rw [← hc]
    unfold World.cell?
    rw [this]⟩
  obtain ⟨h1, h2, h3⟩ := tm_put e h.tm h.sz h.le dst hx
  have hlive : ∀ m, putH hp n (.wr nm b) m ≠ .gone ↔ hp m ≠ .gone := by
    intro m
    simp only [putH]
    by_cases hm : m = nm
    · rw [if_pos hm, hm]; exact ⟨fun _ => hg, fun _ => hb⟩
    · rw [if_neg hm]
  have hoth : Oth R.w w' := by
    obtain ⟨cs0, ty0, g1, g2⟩ := (h.bl nm).cells hg
    exact oth_mut g1 hsz hbk
  refine ⟨h1, h2, h3, fun b' => ?_, h.oB, fun m => ?_, fun m m' hl hl' he => ?_, ?_, by rw [defers_put]; exact h.df.oth hoth hsz⟩
  · rw [show (R.on w').own b' ↔ R.own b' from Iff.rfl, h.own b']
    constructor
    · rintro (hO | ⟨m, hl, hr⟩)
      · exact .inl hO
      · exact .inr ⟨m, (hlive m).2 hl, hr⟩
    · rintro (hO | ⟨m, hl, hr⟩)
      · exact .inl hO
      · exact .inr ⟨m, (hlive m).1 hl, hr⟩
  · by_cases hm : m = nm
    · simp only [putH]; rw [if_pos hm, hm]; exact hblk
    · simp only [putH]; rw [if_neg hm]
      refine (h.bl m).ext e fun hgm => ?_
      exact hbk _ ((h.bl m).heap hgm).1 (fun e => hm (h.inj m nm hgm hg e))
  · exact h.inj m m' ((hlive m).1 hl) ((hlive m').1 hl') he
  · refine h.bw.trans ⟨hos, htp, hou, hsz, fun k hk hkp => hbk k hk (fun e => ((h.bl nm).heap hg).2.1 (e ▸ hkp)), fun k cs ty hc => ?_⟩
    by_cases hk : k = R.ρ nm
    · subst hk
      obtain ⟨cs0, ty0, g1, g2⟩ := (h.bl nm).cells hg
      obtain ⟨cs1, ty1, g3, g4⟩ := hblk.cells hb
      rw [g1] at hc
      simp only [Option.some.injEq, Obj.cells.injEq] at hc
      refine ⟨_, _, g3, ?_⟩
      rw [← hc.1]
      simp
      rw [g4, g2]; rfl
    · exact ⟨cs, ty, (hbk k (Array.getElem?_eq_some_iff.1 hc).1 hk).trans hc, rfl⟩
end Go.Proofs.SX

namespace Go.Proofs.SX
open Go Go.RowKit
set_option linter.unusedVariables false

/-- The arithmetic as it is. -/
def stdAr : Ar where
  bin := fun op k x y => match op with
    | .add => k.wrap (x + y)
    | .sub => k.wrap (x - y)
    | .mul => k.wrap (x * y)
    | .quo => k.wrap (x.tdiv y)
    | .rem => k.wrap (x.tmod y)
    | .and => k.wrap (BitVec.ofInt k.bits x &&& BitVec.ofInt k.bits y).toNat
    | .or => k.wrap (BitVec.ofInt k.bits x ||| BitVec.ofInt k.bits y).toNat
    | .xor => k.wrap (BitVec.ofInt k.bits x ^^^ BitVec.ofInt k.bits y).toNat
    | .andNot => k.wrap (BitVec.ofInt k.bits x &&& ~~~BitVec.ofInt k.bits y).toNat
    | .shl => k.wrap (x * 2 ^ (min y.toNat k.bits))
    | .shr => k.wrap (x.fdiv (2 ^ (min y.toNat k.bits)))
    | _ => 0
  cmp := fun op x y => match op with
    | .eql => x == y
    | .neq => x != y
    | .lss => decide (x < y)
    | .leq => decide (x ≤ y)
    | .gtr => decide (x > y)
    | .geq => decide (x ≥ y)
    | _ => false
  not := fun b => !b
  and := fun a b => a && b
  beq := fun a b => a == b
  inv := fun k x => k.wrap (BitVec.ofInt k.bits (if k.signed then -1 else k.max) ^^^ BitVec.ofInt k.bits x).toNat
  neg := fun k x => k.wrap (0 - x)
  wrap := fun k x => k.wrap x
  rd := fun xs i => xs.getD i.toNat 0
  set := fun xs i v => xs.set i.toNat v
  len := fun xs => xs.length
  diff := fun x y => x - y
  sub := fun xs lo hi => (xs.drop lo.toNat).take (hi.toNat - lo.toNat)
  cat := fun xs ys => xs ++ ys
  cpy := fun xs lo ys => xs.take lo.toNat ++ ys ++ xs.drop (lo.toNat + ys.length)
  eqs := fun xs ys => xs == ys
  zeros := fun n => List.replicate n 0
  zerosI := fun n => List.replicate n.toNat 0
  ofNat := fun n => (n : Int)
  plus := fun x y => x + y
  max := fun x y => if y > x then y else x
  min := fun x y => if y < x then y else x

/-! ### Numbers of a kind -/
theorem rg_iff (k : IntKind) (x : Int) : Rg k x ↔ k.min ≤ x ∧ x ≤ k.max := by
  constructor
  · intro h
    have := wrap_within k x
    rw [h] at this
    exact this
  · rintro ⟨h1, h2⟩
    unfold Rg
    cases k <;> simp only [IntKind.wrap, IntKind.min, IntKind.max, IntKind.bits, IntKind.signed] at * <;> simp at * <;> (try split) <;> omega
theorem rg_wrap (k : IntKind) (x : Int) : Rg k (k.wrap x) := (rg_iff k _).2 (wrap_within k x)
theorem rg_lit (k : IntKind) (n : Nat) (h : n ≤ kmax k) : Rg k n := by
  rw [rg_iff]
  cases k <;> simp [IntKind.min, IntKind.max, IntKind.bits, IntKind.signed, kmax] at * <;> omega
theorem rg_neg (k : IntKind) (n : Nat) (h : n + 1 ≤ kneg k) : Rg k (Int.negSucc n) := by
  rw [rg_iff]
  cases k <;> simp [IntKind.min, IntKind.max, IntKind.bits, IntKind.signed, kneg] at * <;> omega
theorem rg_wrap_eq {k : IntKind} {x : Int} (h : Rg k x) : k.wrap x = x := h
theorem kindEq_iff {k k' : IntKind} : kindEq k k' = true ↔ k = k' := by cases k <;> cases k' <;> simp [kindEq]

/-! ### Types -/
mutual
def zcells : Sh → List Value
  | .int k => [.int k 0]
  | .bool => [.bool false]
  | .str => [.string .empty]
  | .arr n k => List.replicate n (.int k 0)
  | .sl _ => [.slice none 0 0]
  | .st l => zcellsL l
  | .other => []
def zcellsL : List Sh → List Value
  | [] => []
  | s :: l => zcells s ++ zcellsL l
end
def isAggSh : Sh → Bool
  | .arr _ _ | .st _ => true
  | _ => false
def zval (s : Sh) : Value := if isAggSh s then .agg (zcells s).toArray else (zcells s).headD undef
def aggD : TypeDesc → Bool
  | .struct _ | .array _ _ => true
  | _ => false

def IntTy (P : Program) (e : TypeId) (k : IntKind) : Prop := P.underlying e = some (.int k) ∧ (P.info? e).map (·.size) = some 1

/-- A struct's fields lie as the shapes say. -/
def FsOk (P : Program) : List Sh → Nat → List Field → Prop
  | [], _, [] => True
  | s :: l, off, f :: fs => f.offset = off ∧ (f.name == "_") = false ∧ (P.info? f.type).map (·.size) = some (shSize s) ∧ 0 < shSize s ∧
      (∃ d, P.underlying f.type = some d ∧ aggD d = isAggSh s ∧ ∀ n k, s = .arr n k → ∃ e, d = .array n e ∧ IntTy P e k) ∧ FsOk P l (off + shSize s) fs
  | _, _, _ => False

def UOk (P : Program) (t : TypeId) : Sh → Prop
  | .int k => P.underlying t = some (.int k)
  | .bool => P.underlying t = some .bool
  | .str => P.underlying t = some .string
  | .arr n k => (∃ e, P.underlying t = some (.array n e) ∧ IntTy P e k) ∧ P.eqGuardType P.depth t = false
  | .sl k => ∃ e, P.underlying t = some (.slice e) ∧ P.underlying e = some (.int k) ∧ ∃ b, (P.info? e).map (fun i => (i.zero, i.size, i.bytes)) = some (some (.int k 0), 1, b) ∧ 0 < b ∧ b ≤ 8
  | .st l => (∃ fs, P.underlying t = some (.struct fs) ∧ FsOk P l 0 fs.toList) ∧ P.eqGuardType P.depth t = false ∧ P.stoodInHeld t = false
  | .other => True

def TyOk (P : Program) (t : TypeId) : Sh → Prop
  | .other => True
  | s => (P.info? t).map (fun i => (i.zero, i.size)) = some (some (zval s), shSize s) ∧ UOk P t s

section
variable {P : Program} {w : World}
theorem info_size {t : TypeId} {n : Nat} (h : (P.info? t).map (·.size) = some n) : (sizeOf t).run P w = .ok n w := by
  cases hi : P.info? t with
  | none => rw [hi] at h; simp at h
  | some i => rw [hi] at h; simp at h; simp [sizeOf, typeInfo, hi, h]
theorem ty_info {t : TypeId} {s : Sh} (h : TyOk P t s) (hs : s ≠ .other) : (P.info? t).map (fun i => (i.zero, i.size)) = some (some (zval s), shSize s) ∧ UOk P t s := by
  cases s <;> first | exact h | exact absurd rfl hs
theorem ty_size {t : TypeId} {s : Sh} (h : TyOk P t s) (hs : s ≠ .other) : (sizeOf t).run P w = .ok (shSize s) w := by
  have := (ty_info h hs).1
  refine info_size ?_
  cases hi : P.info? t with
  | none => rw [hi] at this; simp at this
  | some i => rw [hi] at this; simp at this; simp [this]
theorem ty_zero {t : TypeId} {s : Sh} (h : TyOk P t s) (hs : s ≠ .other) : (zeroValue t).run P w = .ok (zval s) w := by
  have := (ty_info h hs).1
  cases hi : P.info? t with
  | none => rw [hi] at this; simp at this
  | some i => rw [hi] at this; simp at this; simp [zeroValue, typeInfo, hi, this.1]
theorem ty_isAgg {t : TypeId} {s : Sh} (h : TyOk P t s) (hs : s ≠ .other) : (isAgg t).run P w = .ok (isAggSh s) w := by
  have hu := (ty_info h hs).2
  unfold isAgg
  rw [Sem.run_bind]
  cases s with
  | int k => rw [run_underlying hu]; rfl
  | bool => rw [run_underlying hu]; rfl
  | str => rw [run_underlying hu]; rfl
  | arr n k => obtain ⟨⟨e, he, _⟩, _⟩ := hu; rw [run_underlying he]; rfl
  | sl k => obtain ⟨e, he, _⟩ := hu; rw [run_underlying he]; rfl
  | st l => obtain ⟨⟨fs, he, _⟩, _⟩ := hu; rw [run_underlying he]; rfl
  | other => exact absurd rfl hs
end

/-! ### Cells -/
theorem cells_ints (k : IntKind) (xs : List Int) : (ints k xs).length = xs.length := by simp [ints]
theorem ints_append (k : IntKind) (xs ys : List Int) : ints k (xs ++ ys) = ints k xs ++ ints k ys := by simp [ints]
theorem ints_get (k : IntKind) (xs : List Int) (j : Nat) : (ints k xs)[j]? = (xs[j]?).map (Value.int k) := by simp [ints]

/-- A chunk and its cells. -/
theorem CRL.split {R : RC} {x : AV} {l : List AV} {cs : List Value} (h : CRL R (x :: l) cs) : ∃ xc cs', cs = xc ++ cs' ∧ CRL R [x] xc ∧ xc.length = chSize x ∧ CRL R l cs' := by
  by_cases hx : ∃ k n xs, x = .arr k n xs
  · obtain ⟨k, n, xs, rfl⟩ := hx
    obtain ⟨cs', h1, h2, h3, h4⟩ := h
    exact ⟨ints k xs, cs', h1, ⟨[], by simp, h2, h3, rfl⟩, by simp [cells_ints, chSize, h2], h4⟩
  · have hx' : ∀ k n xs, x ≠ .arr k n xs := fun k n xs he => hx ⟨k, n, xs, he⟩
    rw [CRL.cons hx'] at h
    obtain ⟨v, cs', h1, h2, h3, h4, h5⟩ := h
    refine ⟨[v], cs', by simpa using h1, (CRL.cons hx').2 ⟨v, [], rfl, h2, h3, h4, rfl⟩, ?_, h5⟩
    cases x <;> first | rfl | exact absurd rfl (hx' _ _ _)

theorem CRL.join {R : RC} {x : AV} {l : List AV} {xc cs : List Value} (h : CRL R [x] xc) (h' : CRL R l cs) : CRL R (x :: l) (xc ++ cs) := by
  by_cases hx : ∃ k n xs, x = .arr k n xs
  · obtain ⟨k, n, xs, rfl⟩ := hx
    obtain ⟨cs', h1, h2, h3, h4⟩ := h
    have : cs' = [] := h4
    subst this
    exact ⟨cs, by simpa using congrArg (· ++ cs) h1, h2, h3, h'⟩
  · have hx' : ∀ k n xs, x ≠ .arr k n xs := fun k n xs he => hx ⟨k, n, xs, he⟩
    rw [CRL.cons hx'] at h ⊢
    obtain ⟨v, cs', h1, h2, h3, h4, h5⟩ := h
    have : cs' = [] := h5
    subst this
    exact ⟨v, cs, by simp [h1], h2, h3, h4, h'⟩

theorem CRL.append {R : RC} : ∀ {l m : List AV} {cs ds : List Value}, CRL R l cs → CRL R m ds → CRL R (l ++ m) (cs ++ ds)
  | [], m, cs, ds, h, h' => by have : cs = [] := h; subst this; exact h'
  | x :: l, m, cs, ds, h, h' => by
    obtain ⟨xc, cs', rfl, h1, _, h3⟩ := h.split
    rw [List.append_assoc]
    exact h1.join (CRL.append h3 h')

theorem CRL.length {R : RC} : ∀ {l : List AV} {cs : List Value}, CRL R l cs → cs.length = chSizes l
  | [], cs, h => by have : cs = [] := h; subst this; rfl
  | x :: l, cs, h => by
    obtain ⟨xc, cs', rfl, _, h2, h3⟩ := h.split
    rw [List.length_append, h2, h3.length]; rfl

theorem CRL.dropC {R : RC} : ∀ {l : List AV} {cs : List Value} {off : Nat} {r : List AV}, CRL R l cs → SX.dropC l off = some r → ∃ pre, cs = pre ++ cs.drop off ∧ pre.length = off ∧ CRL R r (cs.drop off)
  | l, cs, 0, r, h, hd => by
    simp only [SX.dropC, Option.some.injEq] at hd
    subst hd
    exact ⟨[], by simp, rfl, by simpa using h⟩
  | [], _, _ + 1, _, _, hd => by simp [SX.dropC] at hd
  | x :: l, cs, m + 1, r, h, hd => by
    obtain ⟨xc, cs', rfl, h1, h2, h3⟩ := h.split
    simp only [SX.dropC] at hd
    split at hd
    · rename_i hle
      rw [leN_eq] at hle
      obtain ⟨pre, h4, h5, h6⟩ := h3.dropC hd
      have e : (xc ++ cs').drop (m + 1) = cs'.drop (m + 1 - chSize x) := by
        rw [List.drop_append, List.drop_eq_nil_of_le (by omega), h2, List.nil_append]
      rw [e]
      exact ⟨xc ++ pre, by rw [List.append_assoc, ← h4], by simp [h2, h5]; omega, h6⟩
    · exact absurd hd (by simp)

theorem CRL.takeC {R : RC} : ∀ {l : List AV} {cs : List Value} {n : Nat} {r : List AV}, CRL R l cs → SX.takeC l n = some r → CRL R r (cs.take n) ∧ n ≤ cs.length
  | l, cs, 0, r, h, hd => by
    simp only [SX.takeC, Option.some.injEq] at hd
    subst hd
    exact ⟨by simp [CRL], by simp⟩
  | [], _, _ + 1, _, _, hd => by simp [SX.takeC] at hd
  | x :: l, cs, m + 1, r, h, hd => by
    obtain ⟨xc, cs', rfl, h1, h2, h3⟩ := h.split
    simp only [SX.takeC] at hd
    split at hd
    · rename_i hle
      rw [leN_eq] at hle
      split at hd
      · rename_i r' hr
        simp only [Option.some.injEq] at hd
        subst hd
        obtain ⟨h4, h5⟩ := h3.takeC hr
        refine ⟨?_, by simp [h2]; omega⟩
        rw [List.take_append, List.take_of_length_le (by omega), h2]
        exact h1.join h4
      · exact absurd hd (by simp)
    · exact absurd hd (by simp)

/-- How many numbers a chunk has, if it is an array. -/
def shp : AV → Option Nat
  | .arr _ n _ => some n
  | _ => none
theorem chSize_shp (x : AV) : chSize x = (shp x).getD 1 := by cases x <;> rfl
theorem sameCh_shp {x y : AV} (h : sameCh x y = true) : shp y = shp x := by
  cases x <;> cases y <;> simp [sameCh, shp] at h ⊢
  exact h.2.symm
theorem sameCh_size {x y : AV} (h : sameCh x y = true) : chSize x = chSize y := by rw [chSize_shp, chSize_shp, sameCh_shp h]

theorem lenAt_congr : ∀ {l m : List AV} (off : Nat), l.map shp = m.map shp → lenAt (.cells l) off = lenAt (.cells m) off
  | [], [], off, _ => rfl
  | [], _ :: _, _, h => by simp at h
  | _ :: _, [], _, h => by simp at h
  | x :: l, y :: m, 0, h => by
    simp only [List.map_cons, List.cons.injEq] at h
    have h1 := h.1
    simp only [lenAt, chunkAt, SX.dropC]
    cases x <;> cases y <;> simp [shp] at h1 ⊢
    exact h1
  | x :: l, y :: m, off + 1, h => by
    simp only [List.map_cons, List.cons.injEq] at h
    have hs : chSize x = chSize y := by rw [chSize_shp, chSize_shp, h.1]
    have ih := lenAt_congr (off + 1 - chSize y) h.2
    simp only [lenAt, chunkAt, SX.dropC, hs] at ih ⊢
    by_cases hb : leN (chSize y) (off + 1) = true
    · rw [if_pos hb, if_pos hb]; exact ih
    · rw [if_neg hb, if_neg hb]

theorem putC_shp : ∀ {l vs r : List AV}, SX.putC l vs = some r → r.map shp = l.map shp
  | l, [], r, h => by cases l <;> (simp [SX.putC] at h; subst h; rfl)
  | [], _ :: _, _, h => by simp [SX.putC] at h
  | x :: l, v :: vs, r, h => by
    simp only [SX.putC] at h
    split at h
    · rename_i hs
      split at h
      · rename_i r' hr
        simp only [Option.some.injEq] at h
        subst h
        rw [List.map_cons, List.map_cons, putC_shp hr, sameCh_shp hs]
      · simp at h
    · simp at h
theorem setC_shp : ∀ {l : List AV} {off : Nat} {vs r : List AV}, SX.setC l off vs = some r → r.map shp = l.map shp
  | l, 0, vs, r, h => by
    have h' : SX.putC l vs = some r := by cases l <;> simpa [SX.setC] using h
    exact putC_shp h'
  | [], _ + 1, _, _, h => by simp [SX.setC] at h
  | x :: l, off + 1, vs, r, h => by
    simp only [SX.setC] at h
    split at h
    · split at h
      · rename_i r' hr
        simp only [Option.some.injEq] at h
        subst h
        rw [List.map_cons, List.map_cons, setC_shp hr]
      · simp at h
    · simp at h

theorem CRL.putC {R : RC} : ∀ {l : List AV} {cs : List Value} {vs : List AV} {vc : List Value} {r : List AV}, CRL R l cs → CRL R vs vc → SX.putC l vs = some r → CRL R r (vc ++ cs.drop vc.length) ∧ vc.length ≤ cs.length
  | l, cs, [], vc, r, h, hv, hd => by
    have : vc = [] := hv
    subst this
    cases l <;> (simp only [SX.putC, Option.some.injEq] at hd; subst hd; exact ⟨by simpa using h, by simp⟩)
  | [], _, _ :: _, _, _, _, _, hd => by simp [SX.putC] at hd
  | x :: l, cs, v :: vs, vc, r, h, hv, hd => by
    obtain ⟨xc, cs', rfl, h1, h2, h3⟩ := h.split
    obtain ⟨vc1, vc', rfl, k1, k2, k3⟩ := hv.split
    simp only [SX.putC] at hd
    split at hd
    · rename_i hle
      have hle := sameCh_size hle
      split at hd
      · rename_i r' hr
        simp only [Option.some.injEq] at hd
        subst hd
        obtain ⟨h4, h5⟩ := h3.putC k3 hr
        refine ⟨?_, by simp; omega⟩
        have e : (xc ++ cs').drop (vc1 ++ vc').length = cs'.drop vc'.length := by
          rw [List.drop_append, List.drop_eq_nil_of_le (by simp; omega), List.nil_append]
          congr 1
          simp; omega
        rw [e, List.append_assoc]
        exact k1.join h4
      · exact absurd hd (by simp)
    · exact absurd hd (by simp)

theorem CRL.setC {R : RC} : ∀ {l : List AV} {cs : List Value} {off : Nat} {vs : List AV} {vc : List Value} {r : List AV}, CRL R l cs → CRL R vs vc → SX.setC l off vs = some r →
    CRL R r (cs.take off ++ vc ++ cs.drop (off + vc.length)) ∧ off + vc.length ≤ cs.length
  | l, cs, 0, vs, vc, r, h, hv, hd => by
    have hd' : SX.putC l vs = some r := by cases l <;> simpa [SX.setC] using hd
    obtain ⟨h1, h2⟩ := h.putC hv hd'
    exact ⟨by simpa using h1, by omega⟩
  | [], _, _ + 1, _, _, _, _, _, hd => by simp [SX.setC] at hd
  | x :: l, cs, m + 1, vs, vc, r, h, hv, hd => by
    obtain ⟨xc, cs', rfl, h1, h2, h3⟩ := h.split
    simp only [SX.setC] at hd
    split at hd
    · rename_i hle
      rw [leN_eq] at hle
      split at hd
      · rename_i r' hr
        simp only [Option.some.injEq] at hd
        subst hd
        obtain ⟨h4, h5⟩ := h3.setC hv hr
        refine ⟨?_, by simp; omega⟩
        rw [List.take_append, List.take_of_length_le (by omega), List.drop_append, List.drop_eq_nil_of_le (show xc.length ≤ m + 1 + vc.length by omega), List.nil_append, h2]
        rw [show m + 1 + vc.length - chSize x = m + 1 - chSize x + vc.length by omega]
        rw [List.append_assoc, List.append_assoc]
        rw [List.append_assoc] at h4
        exact h1.join h4
      · exact absurd hd (by simp)
    · exact absurd hd (by simp)
end Go.Proofs.SX

namespace Go.Proofs.SX
open Go Go.RowKit
set_option linter.unusedVariables false
set_option linter.unusedSimpArgs false

def Obs (ob : Ob) : Prop := ∀ p ∈ ob, p.1 = p.2

/-- The names that an effect lays. -/
def AlN (R R' : RC) (n : Nat) (e : Eff) : Prop := ∀ m, R'.al m ↔ R.al m ∨ (isNew e = true ∧ m = n)

/-- All functions may be called; in a round of a loop over an iterator, or not. -/
def rF (rd : Option Nat) : Fence := { Fence.wide with round := rd }
theorem rF_none : rF none = Fence.wide := rfl
theorem rF_some (l : Nat) : rF (some l) = Fence.wide.inRound l := rfl

/-- An operation comes to what the executor says. -/
def OpS (P : Program) (O : Nat → Prop) (B : Bd) (w0 : World) (L : Nat) (R : RC) (fr : Nat → AV) (hp : Nat → Blk) (n : Nat) (a : Act) (o : Oper) (q : Out) : Prop :=
  (∀ c, o.op ≠ .defer c) → ∀ (K : Act → World → Prop) (Q : Exit → Act → World → Prop) (rd : Option Nat) (nn : Nat),
    (∀ a' R', Conc O B w0 L R' (updF L fr o.dst q.v) (putH hp n q.e) a' → AlN R R' n q.e → Rel R R' → K a' R'.w) → o.wpIn (rF rd) nn P a R.w K Q

section
variable {P : Program} {O : Nat → Prop} {B : Bd} {w0 : World} {L : Nat} {R : RC} {fr : Nat → AV} {hp : Nat → Blk} {n : Nat} {a : Act} {o : Oper}

theorem wp_of_value {w w' : World} {K : Act → World → Prop} {Q : Exit → Act → World → Prop} {v : Value} {rd : Option Nat} {nn : Nat} (hd : ∀ c, o.op ≠ .defer c) (h : (execOp a.eval o).run P w = .ok (.value v) w') (hk : K (a.put o.dst v) w') : o.wpIn (rF rd) nn P a w K Q := by
  refine ⟨fun _ _ => trivial, ?_⟩
  rw [Oper.semAt_eq _ _ _ hd, h]; exact hk
theorem wp_of_skip {w w' : World} {K : Act → World → Prop} {Q : Exit → Act → World → Prop} {rd : Option Nat} {nn : Nat} (hd : ∀ c, o.op ≠ .defer c) (h : (execOp a.eval o).run P w = .ok .skip w') (hk : K (a.put o.dst undef) w') : o.wpIn (rF rd) nn P a w K Q := by
  refine ⟨fun _ _ => trivial, ?_⟩
  rw [Oper.semAt_eq _ _ _ hd, h]; exact hk

/-- An operation that only reckons. -/
theorem OpS.value (hc : Conc O B w0 L R fr hp a) {v : Value} {x : AV} {ob : Ob} (h : (execOp a.eval o).run P R.w = .ok (.value v) R.w) (hx : VR R x v) :
    OpS P O B w0 L R fr hp n a o ⟨x, .none, ob⟩ := by
  intro hd K Q rd nn hk
  exact wp_of_value hd h (hk _ R (hc.plain n o.dst hx) (fun m => by simp [isNew]) (Rel.refl _))

theorem OpS.newblk (hc : Conc O B w0 L R fr hp a) (hn : ¬ R.al n) {v : Value} {x : AV} {ob : Ob} {b : Blk} (hb : b ≠ .gone) {cs : List Value} {ty : TypeId}
    (h : (execOp a.eval o).run P R.w = .ok (.value v) (R.w.alloc (.cells cs.toArray ty)))
    (hx : VR (R.alloc n (.cells cs.toArray ty) (lenAt b) cs.length) x v) (hblk : BlkR (R.alloc n (.cells cs.toArray ty) (lenAt b) cs.length) B n b) :
    OpS P O B w0 L R fr hp n a o ⟨x, .new b, ob⟩ := by
  intro hd K Q rd nn hk
  refine wp_of_value hd h (hk _ _ (hc.new n hn b hb cs ty o.dst hx hblk) (fun m => ?_) ⟨Ext.alloc _ _ _ _ _ hn, Oth.below ((Below.refl _ _).alloc (Nat.le_refl _) _)⟩)
  simp [RC.alloc, isNew]

theorem OpS.wrote (hc : Conc O B w0 L R fr hp a) {nm : Nat} (hg : hp nm ≠ .gone) {x : AV} {ob : Ob} {b : Blk} (hb : b ≠ .gone) {cs : List Value} {ty : TypeId}
    (h : (execOp a.eval o).run P R.w = .ok .skip (setBlk R.w (R.ρ nm) (.cells cs.toArray ty)))
    (hx : VR (R.wr (R.ρ nm) (.cells cs.toArray ty)) x undef) (hblk : BlkR (R.wr (R.ρ nm) (.cells cs.toArray ty)) B nm b) :
    OpS P O B w0 L R fr hp n a o ⟨x, .wr nm b, ob⟩ := by
  intro hd K Q rd nn hk
  refine wp_of_skip hd h (hk _ _ (hc.wrote n nm b hb hg cs ty o.dst hx hblk) (fun m => ?_) (hc.wrote_rel hg))
  simp [RC.wr, isNew]

/-- Operands. -/
theorem VR.const (R : RC) (v : Value) : VR R (ofConst v) v := by
  unfold ofConst
  split
  · split
    · rename_i h; rw [leN_eq] at h; exact ⟨rfl, rg_lit _ _ h⟩
    · trivial
  · split
    · rename_i h; rw [leN_eq] at h; exact ⟨rfl, rg_neg _ _ h⟩
    · trivial
  · rfl
  · exact ⟨none, 0, rfl, Nat.le_refl _, by simp, by simp [RgL], fun h => absurd rfl h⟩
  · rfl

theorem Conc.ev (hc : Conc O B w0 L R fr hp a) (x : Operand) : VR R (evF fr x) (a.eval x) := by
  cases x with
  | tmp t => exact hc.tm t
  | const v => exact VR.const R v
  | global g => trivial
  | func f => rfl

/-- What a value that is a number is. -/
theorem VR.toI {A : Ar} (hA : A.ofNat = fun n : Nat => (n : Int)) {x : AV} {v : Value} {k : IntKind} {i : Int} (h : VR R x v) (hi : SX.toI A x = some (k, i)) : v = .int k i ∧ Rg k i := by
  cases x <;> simp [SX.toI] at hi
  · obtain ⟨rfl, rfl⟩ := hi; rw [hA]; exact h
  · obtain ⟨rfl, rfl⟩ := hi; exact h

theorem VR.ofVR0 {x : AV} {v : Value} (h : VR0 R x v) : VR R x v := by
  cases x <;> first | exact h | exact absurd h (by simp [VR0])
theorem VR.toVR0 {x : AV} {v : Value} (h : VR R x v) (hx : chunky x = true) : VR0 R x v := by
  cases x <;> first | exact h | exact absurd hx (by simp [chunky])

theorem VR0.oneCell {y : AV} {u : Value} (hv : VR0 R y u) (hy : ∀ k n xs, y ≠ .arr k n xs) (hcy : chunky y = true) : SX.oneCell u := by
  cases y with
  | any => simp [chunky] at hcy
  | lit k n => obtain ⟨rfl, _⟩ := hv; trivial
  | int k n => obtain ⟨rfl, _⟩ := hv; trivial
  | lb b => have : u = .bool b := hv; subst this; trivial
  | bool b => have : u = .bool b := hv; subst this; trivial
  | arr k n xs => exact absurd rfl (hy _ _ _)
  | agg l => exact hv.elim
  | tup l => exact hv.elim
  | sli k xs => obtain ⟨a, cap, rfl, _⟩ := hv; trivial
  | osl nm lo len => obtain ⟨_, lo', len', cap, _, _, ⟨ad, rfl, _⟩, _⟩ := hv; trivial
  | pta nm lo m => obtain ⟨_, j, _, _, rfl⟩ := hv; trivial
  | ptr nm off => obtain ⟨_, rfl⟩ := hv; trivial
  | pti nm off i => obtain ⟨_, j, _, _, rfl⟩ := hv; trivial
  | rpi k xs i => obtain ⟨ad, j, x, _, _, _, rfl, _⟩ := hv; trivial
  | rpa k xs => obtain ⟨_, p, rfl, _⟩ := hv; trivial
  | str xs => obtain ⟨s, rfl, _⟩ := hv; trivial
  | itd f k xs => obtain ⟨ad, u, rfl, _⟩ := hv; trivial
  | raw w => have : u = w := hv; subst this; cases u <;> first | trivial | (simp [chunky] at hcy)

theorem cells_one {u : Value} (h : SX.oneCell u) : u.cells.toList = [u] := by
  cases u <;> first | rfl | exact absurd h (by simp [SX.oneCell])

/-- Cells of a value that may lie in a block. -/
theorem VR.cells {x : AV} {v : Value} (h : VR R x v) (hx : chunkies (chunks x) = true) : CRL R (chunks x) v.cells.toList ∧ (∀ vs, v ≠ .tuple vs) := by
  have one : ∀ {y : AV} {u : Value}, (∀ k n xs, y ≠ .arr k n xs) → chunks y = [y] → VR R y u → chunkies (chunks y) = true → CRL R (chunks y) u.cells.toList ∧ (∀ vs, u ≠ .tuple vs) := by
    intro y u hy hch hv hcy
    rw [hch] at hcy ⊢
    have hcy' : chunky y = true := by simpa [chunkies] using hcy
    have hv0 := hv.toVR0 hcy'
    have hoc := hv0.oneCell hy hcy'
    refine ⟨?_, fun vs e => by subst e; exact hoc⟩
    rw [CRL.cons hy, cells_one hoc]
    exact ⟨u, [], rfl, hv0, hoc, hcy', rfl⟩
  cases x with
  | arr k n xs =>
    obtain ⟨rfl, h1, h2⟩ := h
    exact ⟨⟨[], by simp [Value.cells], h1, h2, rfl⟩, fun vs e => by cases e⟩
  | agg l =>
    obtain ⟨cs, rfl, h1⟩ := h
    exact ⟨by simpa [Value.cells, chunks] using h1, fun vs e => by cases e⟩
  | _ => exact one (fun _ _ _ e => by cases e) rfl h hx
end
end Go.Proofs.SX

namespace Go.Proofs.SX
open Go Go.RowKit
set_option linter.unusedVariables false
set_option linter.unusedSimpArgs false

section
variable {P : Program} {O : Nat → Prop} {B : Bd} {w0 : World} {L : Nat} {R : RC} {fr : Nat → AV} {hp : Nat → Blk} {n : Nat} {a : Act} {o : Oper} {c : Cx}

/-! ### Zeros -/
theorem rg_zero (k : IntKind) : Rg k 0 := rg_lit k 0 (by cases k <;> decide)
theorem rgL_zeros (k : IntKind) (n : Nat) : RgL k (List.replicate n 0) := by
  intro x hx
  rw [(List.mem_replicate.1 hx).2]; exact rg_zero k
theorem ints_zeros (k : IntKind) (n : Nat) : ints k (List.replicate n 0) = List.replicate n (.int k 0) := by simp [ints]

theorem zero_one {s : Sh} {z : AV} (h : zeroOf stdAr s = some z) (hs : ∀ l, s ≠ .st l) : CRL R [z] (zcells s) ∧ chunks z = [z] := by
  cases s with
  | int k => simp [zeroOf] at h; subst h; exact ⟨⟨_, [], rfl, ⟨rfl, rg_zero k⟩, trivial, rfl, rfl⟩, rfl⟩
  | bool => simp [zeroOf] at h; subst h; exact ⟨⟨_, [], rfl, rfl, trivial, rfl, rfl⟩, rfl⟩
  | str => simp [zeroOf] at h; subst h; exact ⟨⟨_, [], rfl, ⟨.empty, rfl, rfl⟩, trivial, rfl, rfl⟩, rfl⟩
  | arr m k =>
    simp [zeroOf] at h; subst h
    exact ⟨⟨[], by simp [stdAr, ints, zcells], by simp [stdAr], rgL_zeros k m, rfl⟩, rfl⟩
  | sl k =>
    simp [zeroOf] at h; subst h
    exact ⟨⟨_, [], rfl, ⟨none, 0, rfl, Nat.le_refl _, by simp, by simp [RgL], fun e => absurd rfl e⟩, trivial, rfl, rfl⟩, rfl⟩
  | st l => exact absurd rfl (hs l)
  | other => simp [zeroOf] at h

theorem zeros_list : ∀ {l : List Sh} {r : List AV}, zerosOf stdAr l = some r → CRL R r (zcellsL l)
  | [], r, h => by simp [zerosOf] at h; subst h; rfl
  | s :: l, r, h => by
    have hs : ∀ m, s ≠ .st m := by intro m e; subst e; simp [zerosOf] at h
    have hz : (match zeroOf stdAr s with
      | some x => match zerosOf stdAr l with
        | some r => some (x :: r)
        | none => none
      | none => none) = some r := by
      cases s <;> first | exact h | exact absurd rfl (hs _)
    cases h1 : zeroOf stdAr s with
    | none => rw [h1] at hz; simp at hz
    | some x =>
      rw [h1] at hz
      cases h2 : zerosOf stdAr l with
      | none => rw [h2] at hz; simp at hz
      | some r' =>
        rw [h2] at hz
        simp only [Option.some.injEq] at hz
        subst hz
        exact (zero_one h1 hs).1.join (zeros_list h2)

theorem zero_cells {s : Sh} {z : AV} (h : zeroOf stdAr s = some z) : CRL R (chunks z) (zcells s) ∧ (zval s).cells.toList = zcells s ∧ s ≠ .other := by
  have hlen : ∀ v : Value, ∀ l : List Value, l = [v] → oneCell v → (l.headD undef).cells.toList = l := by
    intro v l hl ho; subst hl; exact cells_one ho
  cases s with
  | st l =>
    simp only [zeroOf] at h
    cases h1 : zerosOf stdAr l with
    | none => rw [h1] at h; simp at h
    | some r =>
      rw [h1] at h
      simp only [Option.some.injEq] at h
      subst h
      exact ⟨zeros_list h1, by simp [zval, isAggSh, Value.cells], by simp⟩
  | other => simp [zeroOf] at h
  | arr m k =>
    obtain ⟨h1, h2⟩ := zero_one (R := R) h (by simp)
    rw [h2]; exact ⟨h1, by simp [zval, isAggSh, Value.cells], by simp⟩
  | _ =>
    obtain ⟨h1, h2⟩ := zero_one (R := R) h (by simp)
    rw [h2]; exact ⟨h1, hlen _ _ rfl trivial, by simp⟩

/-! ### New blocks -/
theorem blkR_new (hB : ¬ B.keep R.w.heap.size) (hn : ¬ R.al n) {l : List AV} {cs : List Value} {ty : TypeId} (h : CRL R l cs) :
    BlkR (R.alloc n (.cells cs.toArray ty) (lenAt (.cells l)) cs.length) B n (.cells l) := by
  refine ⟨.inr rfl, ?_, cs, ty, ?_, h.ext (Ext.alloc R n _ _ _ hn), ?_, fun off => ?_⟩
  · simp [RC.alloc]; exact hB
  · show (R.w.heap.push _)[(R.alloc n _ _ _).ρ n]? = _
    simp [RC.alloc]
  · simp [RC.alloc]
  · simp [RC.alloc]

theorem op_alloc (hc : Conc O B w0 L R fr hp a) (hB : ¬ B.keep R.w.heap.size) (hn : ¬ R.al n) {t : TypeId} {s : Sh} (ho : o.op = .alloc t) (hT : TyOk P t s) {z : AV} (hz : zeroOf stdAr s = some z) {ob : Ob} :
    OpS P O B w0 L R fr hp n a o ⟨.ptr n 0, .new (.cells (chunks z)), ob⟩ := by
  obtain ⟨h1, h2, h3⟩ := zero_cells (R := R) hz
  refine OpS.newblk hc hn (v := .pointer (some ⟨R.w.heap.size, 0, none⟩)) (cs := zcells s) (ty := t) (by simp) ?_ ?_ (blkR_new hB hn h1)
  · have hz0 := ty_zero (w := R.w) hT h3
    have hcells : (zval s).cells = (zcells s).toArray := by rw [← h2]
    simp [execOp, ho, Instr.alloc, hz0, newVar, newRow, hcells]
  · exact ⟨.inr rfl, by simp [RC.alloc]⟩

theorem op_box (hc : Conc O B w0 L R fr hp a) (hB : ¬ B.keep R.w.heap.size) (hn : ¬ R.al n) {t : TypeId} {x : Operand} (ho : o.op = .box t x) (hx : chunkies (chunks (evF fr x)) = true) {ob : Ob} :
    OpS P O B w0 L R fr hp n a o ⟨.ptr n 0, .new (.cells (chunks (evF fr x))), ob⟩ := by
  obtain ⟨h1, h2⟩ := (hc.ev x).cells hx
  refine OpS.newblk hc hn (v := .pointer (some ⟨R.w.heap.size, 0, none⟩)) (cs := (a.eval x).cells.toList) (ty := t) (by simp) ?_ ?_ (blkR_new hB hn h1)
  · simp [execOp, ho, Instr.box, newVar, newRow]
  · exact ⟨.inr rfl, by simp [RC.alloc]⟩

/-! ### Reading -/
theorem add_at (b off j : Nat) : (⟨b, off, none⟩ : Addr).add j = ⟨b, off + j, none⟩ := by
  unfold Addr.add
  split
  · rename_i h; subst h; rfl
  · rfl
theorem cell_blk {w : World} {b off : Nat} {cs : List Value} {ty : TypeId} {f : Nat × Nat} (h : w.heap[b]? = some (.cells cs.toArray ty f)) (j : Nat) : w.cell? ((⟨b, off, none⟩ : Addr).add j) = cs[off + j]? := by
  rw [add_at]
  simp [World.cell?, h]

theorem dropC_head {l r : List AV} {off : Nat} {x : AV} (h : dropC l off = some (x :: r)) : chunkAt l off = some x := by
  unfold chunkAt; rw [h]
theorem chunkAt_drop {l : List AV} {off : Nat} {x : AV} (h : chunkAt l off = some x) : ∃ r, dropC l off = some (x :: r) := by
  unfold chunkAt at h
  cases hd : dropC l off with
  | none => rw [hd] at h; simp at h
  | some r =>
    rw [hd] at h
    cases r with
    | nil => simp at h
    | cons y r => simp at h; subst h; exact ⟨r, rfl⟩

theorem fits_scalar {s : Sh} {x : AV} (h : fits s x = true) (hs : isAggSh s = false) : chunky x = true ∧ (∀ k n xs, x ≠ .arr k n xs) := by
  cases s <;> simp [isAggSh] at hs <;> (cases x <;> simp [fits, chunky] at h ⊢) <;> (try (rename_i v; cases v <;> simp [fits, chunky] at h ⊢))
theorem fits_arr {n : Nat} {k : IntKind} {x : AV} (h : fits (.arr n k) x = true) : ∃ xs, x = .arr k n xs := by
  cases x <;> simp [fits] at h
  obtain ⟨h1, h2⟩ := h
  rw [kindEq_iff] at h1
  subst h1 h2
  exact ⟨_, rfl⟩

/-- A variable of a shape that holds one chunk is read. -/
theorem load_chunk {t : TypeId} {s : Sh} (hT : TyOk P t s) (hs : s ≠ .other) (hst : ∀ l, s ≠ .st l) {w : World} {b off : Nat} {cs : List Value} {ty : TypeId} {f : Nat × Nat} (hb : w.heap[b]? = some (.cells cs.toArray ty f))
    {x : AV} {r : List AV} {R : RC} (hcr : CRL R (x :: r) (cs.drop off)) (hfit : fits s x = true) :
    ∃ v, (loadVar t ⟨b, off, none⟩).run P w = .ok v w ∧ VR R x v := by
  have hag := ty_isAgg (w := w) hT hs
  cases hsa : isAggSh s with
  | true =>
    cases s with
    | arr m k =>
      obtain ⟨xs, rfl⟩ := fits_arr hfit
      obtain ⟨cs', h1, h2, h3, _⟩ := hcr
      have hsz := ty_size (w := w) hT hs
      have hl := run_loadCells_list (P := P) w ⟨b, off, none⟩ (ints k xs) (fun j v hv => by
        rw [cell_blk hb, ← List.getElem?_drop, h1, List.getElem?_append_left]
        · exact hv
        · exact (List.getElem?_eq_some_iff.1 hv).1)
      rw [cells_ints, h2] at hl
      refine ⟨.agg (ints k xs).toArray, ?_, ⟨rfl, h2, h3⟩⟩
      simp [loadVar, hag, hsa, hsz, shSize, hl]
    | st l => exact absurd rfl (hst l)
    | _ => simp [isAggSh] at hsa
  | false =>
    obtain ⟨h1, h2⟩ := fits_scalar hfit hsa
    rw [CRL.cons h2] at hcr
    obtain ⟨v, cs', h3, h4, h5, h6, _⟩ := hcr
    refine ⟨v, ?_, VR.ofVR0 h4⟩
    have hcell : w.cell? ⟨b, off, none⟩ = some v := by
      have := cell_blk hb (off := off) 0
      rw [show (⟨b, off, none⟩ : Addr).add 0 = ⟨b, off, none⟩ from rfl] at this
      rw [this, ← List.getElem?_drop, h3]; rfl
    simp [loadVar, hag, hsa, hcell]

theorem load_struct {t : TypeId} {l : List Sh} (hT : TyOk P t (.st l)) {w : World} {b off : Nat} {cs : List Value} {ty : TypeId} {f : Nat × Nat} (hb : w.heap[b]? = some (.cells cs.toArray ty f))
    {r q : List AV} {R : RC} (hcr : CRL R r (cs.drop off)) (hq : takeC r (shSizes l) = some q) :
    ∃ v, (loadVar t ⟨b, off, none⟩).run P w = .ok v w ∧ VR R (.agg q) v := by
  have hs : (Sh.st l) ≠ .other := by simp
  have hag := ty_isAgg (w := w) hT hs
  have hsz := ty_size (w := w) hT hs
  obtain ⟨h1, h2⟩ := hcr.takeC hq
  have hl := run_loadCells_list (P := P) w ⟨b, off, none⟩ ((cs.drop off).take (shSizes l)) (fun j v hv => by
    rw [cell_blk hb, ← List.getElem?_drop]
    rw [List.getElem?_take] at hv
    split at hv
    · exact hv
    · simp at hv)
  rw [List.length_take, Nat.min_eq_left h2] at hl
  refine ⟨.agg ((cs.drop off).take (shSizes l)).toArray, ?_, ⟨_, rfl, h1⟩⟩
  simp [loadVar, hag, isAggSh, hsz, shSize, hl]

theorem Conc.blk (hc : Conc O B w0 L R fr hp a) {nm : Nat} {l : List AV} (hb : hp nm = .cells l) : ∃ (cs : List Value) (ty : TypeId), R.w.heap[R.ρ nm]? = some (.cells cs.toArray ty (0, 0)) ∧ CRL R l cs ∧ cs.length = R.rs nm ∧ (∀ off, R.ln nm off = lenAt (.cells l) off) ∧ R.al nm ∧ ¬ B.keep (R.ρ nm) := by
  have := hc.bl nm
  rw [hb] at this
  obtain ⟨h1, h2, cs, ty, h3, h4, h5, h6⟩ := this
  exact ⟨cs, ty, h3, h4, h5, h6, h1, h2⟩

theorem Conc.rowb (hc : Conc O B w0 L R fr hp a) {nm : Nat} {k : IntKind} {xs : List Int} (hb : hp nm = .row k xs) : ∃ (rest : List Value) (ty : TypeId), R.w.heap[R.ρ nm]? = some (.cells (ints k xs ++ rest).toArray ty (0, 0)) ∧ RgL k xs ∧ xs.length + rest.length = R.rs nm ∧ (∀ off, R.ln nm off = lenAt (.row k xs) off) ∧ R.al nm ∧ ¬ B.keep (R.ρ nm) := by
  have := hc.bl nm
  rw [hb] at this
  obtain ⟨h1, h2, cs, ty, h3, h4, h5, h6⟩ := this
  exact ⟨cs, ty, h3, h4, h5, h6, h1, h2⟩

theorem rgL_get {k : IntKind} {xs : List Int} (h : RgL k xs) {j : Nat} {x : Int} (hx : xs[j]? = some x) : Rg k x := h x (List.mem_of_getElem? hx)
theorem rd_get {xs : List Int} {j : Nat} {x : Int} (hx : xs[j]? = some x) : stdAr.rd xs (j : Int) = x := by
  simp [stdAr, hx]

/-- A whole number is read at its place. -/
theorem load_int {t : TypeId} {k0 : IntKind} (hT : TyOk P t (.int k0)) {w : World} {ad : Addr} {v : Value} (hc : w.cell? ad = some v) : (loadVar t ad).run P w = .ok v w := by
  have hag := ty_isAgg (w := w) hT (by simp)
  simp [loadVar, hag, isAggSh, hc]

theorem Conc.pti (hc : Conc O B w0 L R fr hp a) {nm off j : Nat} (hj : j < R.ln nm off) {k : IntKind} {xs : List Int}
    (hb : (∃ l m, hp nm = .cells l ∧ chunkAt l off = some (.arr k m xs)) ∨ (hp nm = .row k xs ∧ off = 0)) :
    ∃ x, xs[j]? = some x ∧ Rg k x ∧ R.w.cell? ⟨R.ρ nm, off + j, none⟩ = some (.int k x) := by
  rcases hb with ⟨l, m, hb, hch⟩ | ⟨hb, rfl⟩
  · obtain ⟨cs, ty, h1, h2, h3, h4, _⟩ := hc.blk hb
    obtain ⟨r, hr⟩ := chunkAt_drop hch
    obtain ⟨pre, h5, h6, h7⟩ := h2.dropC hr
    obtain ⟨cs', h8, h9, h10, _⟩ := h7
    rw [h4] at hj
    simp only [lenAt, hch] at hj
    have hx : j < xs.length := by omega
    refine ⟨xs[j], List.getElem?_eq_getElem hx, rgL_get h10 (List.getElem?_eq_getElem hx), ?_⟩
    have := cell_blk h1 (off := off) j
    rw [add_at] at this
    rw [this, ← List.getElem?_drop, h8, List.getElem?_append_left (by rw [cells_ints]; exact hx), ints_get]
    simp [hx]
  · obtain ⟨rest, ty, h1, h2, h3, h4, _⟩ := hc.rowb hb
    rw [h4] at hj
    simp only [lenAt, if_true] at hj
    refine ⟨xs[j], List.getElem?_eq_getElem hj, rgL_get h2 (List.getElem?_eq_getElem hj), ?_⟩
    have := cell_blk h1 (off := 0) j
    rw [add_at] at this
    rw [this, Nat.zero_add, List.getElem?_append_left (by rw [cells_ints]; exact hj), ints_get]
    simp [hj]

/-- A block of numbers alone. -/
theorem Conc.nums (hc : Conc O B w0 L R fr hp a) {nm : Nat} {k : IntKind} {xs : List Int} (hb : blkInts (hp nm) = some (k, xs)) :
    RgL k xs ∧ R.ln nm 0 = xs.length ∧ ∀ (j : Nat) (x : Int), xs[j]? = some x → R.w.cell? ⟨R.ρ nm, j, none⟩ = some (.int k x) := by
  have e : ∀ j, (⟨R.ρ nm, 0, none⟩ : Addr).add j = ⟨R.ρ nm, j, none⟩ := fun j => by rw [add_at, Nat.zero_add]
  cases hh : hp nm with
  | gone => rw [hh] at hb; simp [blkInts] at hb
  | cells l =>
    rw [hh] at hb
    obtain ⟨cs, ty, h1, h2, h3, h4, _⟩ := hc.blk hh
    match l, hb with
    | [.arr k' m ys], hb =>
      simp only [blkInts, Option.some.injEq, Prod.mk.injEq] at hb
      obtain ⟨rfl, rfl⟩ := hb
      obtain ⟨cs', h5, h6, h7, h8⟩ := h2
      have : cs' = [] := h8
      subst this
      rw [List.append_nil] at h5
      refine ⟨h7, by rw [h4]; simp [lenAt, chunkAt, dropC, h6], fun j x hj => ?_⟩
      have := cell_blk h1 (off := 0) j
      rw [e] at this
      rw [this, h5, Nat.zero_add, ints_get, hj]; rfl
  | row k' ys =>
    rw [hh] at hb
    simp only [blkInts, Option.some.injEq, Prod.mk.injEq] at hb
    obtain ⟨rfl, rfl⟩ := hb
    obtain ⟨rest, ty, h1, h2, h3, h4, _⟩ := hc.rowb hh
    refine ⟨h2, by rw [h4]; simp [lenAt], fun j x hj => ?_⟩
    have hlt := (List.getElem?_eq_some_iff.1 hj).1
    have := cell_blk h1 (off := 0) j
    rw [e] at this
    rw [this, Nat.zero_add, List.getElem?_append_left (by rw [cells_ints]; exact hlt), ints_get, hj]; rfl

theorem rgL_sub {k : IntKind} {xs : List Int} (h : RgL k xs) (p q : Nat) : RgL k ((xs.drop p).take q) :=
  fun x hx => h x (List.mem_of_mem_drop (List.mem_of_mem_take hx))

theorem load_any (hc : Conc O B w0 L R fr hp a) (hA : c.A = stdAr) (hTy : ∀ t, TyOk P t (c.T t)) {t : TypeId} {x v : AV} {u0 : Value} (hx : VR R x u0) (hv : loadAV c hp t x = some v) :
    ∃ ad u, u0 = .pointer (some ad) ∧ (loadVar t ad).run P R.w = .ok u R.w ∧ VR R v u := by
  have fin : ∀ {u : Value} {ad : Addr}, u0 = .pointer (some ad) → (loadVar t ad).run P R.w = .ok u R.w → VR R v u → ∃ ad u, u0 = .pointer (some ad) ∧ (loadVar t ad).run P R.w = .ok u R.w ∧ VR R v u := by
    intro u ad he hr hvr
    exact ⟨ad, u, he, hr, hvr⟩
  cases he : x with
  | ptr nm off =>
    rw [he] at hv hx
    obtain ⟨hal, hval⟩ := hx
    simp only [loadAV] at hv
    cases hb : hp nm with
    | cells l =>
      rw [hb] at hv
      simp only at hv
      cases hd : dropC l off with
      | none => rw [hd] at hv; simp at hv
      | some r =>
        rw [hd] at hv
        simp only at hv
        obtain ⟨cs, ty, h1, h2, h3, h4, _⟩ := hc.blk hb
        obtain ⟨pre, h5, h6, h7⟩ := h2.dropC hd
        have hTt := hTy t
        have single : ∀ s, c.T t = s → (∀ l, s ≠ .st l) → fitHd s r = some v → ∃ ad u, u0 = .pointer (some ad) ∧ (loadVar t ad).run P R.w = .ok u R.w ∧ VR R v u := by
          intro s hs hst hm
          rw [hs] at hTt
          cases r with
          | nil => simp [fitHd] at hm
          | cons y r =>
            simp only [fitHd] at hm
            split at hm
            · rename_i hf
              simp only [Option.some.injEq] at hm
              subst hm
              have hno : s ≠ .other := by intro e; rw [e] at hf; simp [fits] at hf
              obtain ⟨u, hr, hvr⟩ := load_chunk hTt hno hst h1 h7 hf
              exact fin hval hr hvr
            · simp at hm
        cases hsh : c.T t with
        | st sh =>
          rw [hsh] at hv hTt
          simp only at hv
          cases hq : takeC r (shSizes sh) with
          | none => rw [hq] at hv; simp at hv
          | some q =>
            rw [hq] at hv
            simp only [Option.some.injEq] at hv
            subst hv
            obtain ⟨u, hr, hvr⟩ := load_struct hTt h1 h7 hq
            exact fin hval hr hvr
        | _ =>
          refine single _ hsh (by simp) ?_
          rw [hsh] at hv
          exact hv
    | row k xs => rw [hb] at hv; simp at hv
    | gone => rw [hb] at hv; simp at hv
  | pti nm off i =>
    rw [he] at hv hx
    obtain ⟨hal, j, rfl, hj, hval⟩ := hx
    simp only [loadAV] at hv
    cases hsh : c.T t with
    | int k0 =>
      rw [hsh] at hv
      simp only at hv
      have hTt := hTy t
      rw [hsh] at hTt
      have done : ∀ {k : IntKind} {xs : List Int}, ((∃ l m, hp nm = .cells l ∧ chunkAt l off = some (.arr k m xs)) ∨ (hp nm = .row k xs ∧ off = 0)) → v = .int k (c.A.rd xs j) → ∃ ad u, u0 = .pointer (some ad) ∧ (loadVar t ad).run P R.w = .ok u R.w ∧ VR R v u := by
        intro k xs hbk hve
        obtain ⟨y, hy, hrg, hcell⟩ := hc.pti hj hbk
        refine fin hval (load_int hTt hcell) ?_
        rw [hve, hA, rd_get hy]
        exact ⟨rfl, hrg⟩
      cases hb : hp nm with
      | cells l =>
        rw [hb] at hv
        simp only at hv
        cases hch : chunkAt l off with
        | none => rw [hch] at hv; simp at hv
        | some y =>
          rw [hch] at hv
          cases y <;> simp at hv
          exact done (.inl ⟨l, _, hb, hch⟩) hv.symm
      | row k xs =>
        rw [hb] at hv
        simp only at hv
        split at hv
        · rename_i h0
          rw [eqN_eq] at h0
          simp only [Option.some.injEq] at hv
          exact done (.inr ⟨hb, h0⟩) hv.symm
        · simp at hv
      | gone => rw [hb] at hv; simp at hv
    | _ => rw [hsh] at hv; simp at hv
  | rpi k xs i =>
    rw [he] at hv hx
    obtain ⟨ad, j, y, rfl, hy, hrg, hval, hcell, _⟩ := hx
    simp only [loadAV] at hv
    cases hsh : c.T t with
    | int k0 =>
      rw [hsh] at hv
      simp only [Option.some.injEq] at hv
      have hTt := hTy t
      rw [hsh] at hTt
      refine fin hval (load_int hTt hcell) ?_
      rw [← hv, hA, rd_get hy]
      exact ⟨rfl, hrg⟩
    | _ => rw [hsh] at hv; simp at hv
  | pta nm lo m =>
    rw [he] at hv hx
    obtain ⟨hal, j, rfl, hj, hval⟩ := hx
    simp only [loadAV] at hv
    cases hsh : c.T t with
    | arr m' k0 =>
      rw [hsh] at hv
      simp only at hv
      have hTt := hTy t
      rw [hsh] at hTt
      split at hv
      · rename_i hm
        rw [eqN_eq] at hm
        subst hm
        split at hv
        · rename_i k xs hb
          simp only [Option.some.injEq] at hv
          obtain ⟨h5, h6, h7⟩ := hc.nums hb
          rw [h6] at hj
          have hsub : c.A.sub xs (j : Int) (c.A.plus (j : Int) (c.A.ofNat m)) = (xs.drop j).take m := by
            rw [hA]
            simp only [stdAr]
            congr 1
            omega
          rw [hsub] at hv
          subst hv
          have hl : ((xs.drop j).take m).length = m := by simp; omega
          have hag := ty_isAgg (w := R.w) hTt (by simp)
          have hsz := ty_size (w := R.w) hTt (by simp)
          have hld := run_loadCells_list (P := P) R.w ⟨R.ρ nm, j, none⟩ (ints k ((xs.drop j).take m)) (fun i v hv => by
            rw [add_at]
            rw [ints_get] at hv
            cases hg : ((xs.drop j).take m)[i]? with
            | none => rw [hg] at hv; simp at hv
            | some y =>
              rw [hg] at hv
              simp at hv
              subst hv
              rw [List.getElem?_take] at hg
              split at hg
              · rw [List.getElem?_drop] at hg; exact h7 _ _ hg
              · simp at hg)
          rw [cells_ints, hl] at hld
          refine ⟨_, _, hval, ?_, rfl, hl, rgL_sub h5 _ _⟩
          simp [loadVar, hag, isAggSh, hsz, shSize, hld]
        · simp at hv
      · simp at hv
    | _ => rw [hsh] at hv; simp at hv
  | _ => rw [he] at hv; simp [loadAV] at hv

theorem op_load (hc : Conc O B w0 L R fr hp a) (hA : c.A = stdAr) (hTy : ∀ t, TyOk P t (c.T t)) {t : TypeId} {x : Operand} (ho : o.op = .load t x) {v : AV} (hv : loadAV c hp t (evF fr x) = some v) {ob : Ob} :
    OpS P O B w0 L R fr hp n a o ⟨v, .none, ob⟩ := by
  obtain ⟨ad, u, he, hr, hvr⟩ := load_any hc hA hTy (hc.ev x) hv
  refine OpS.value hc (v := u) ?_ hvr
  simp [execOp, ho, Instr.loadAt, Instr.sureAddr, he, hr]

/-! ### Writing -/
theorem setCell_blk {w : World} {b j : Nat} {cs : List Value} {ty : TypeId} (hb : w.heap[b]? = some (.cells cs.toArray ty (0, 0))) (v : Value) :
    w.setCell ⟨b, j, none⟩ v = setBlk w b (.cells (cs.set j v).toArray ty (0, 0)) := by
  have hlt := (Array.getElem?_eq_some_iff.1 hb).1
  have hget := (Array.getElem?_eq_some_iff.1 hb).2
  unfold World.setCell setBlk
  congr 1
  apply Array.ext_getElem?
  intro i
  rw [Array.getElem?_modify, Array.getElem?_setIfInBounds]
  by_cases hi : b = i
  · subst hi
    rw [if_pos rfl, hb]
    simp [hlt]
  · rw [if_neg hi, if_neg hi]

theorem setBlk_setBlk (w : World) (b : Nat) (o o' : Obj) : setBlk (setBlk w b o) b o' = setBlk w b o' := by
  unfold setBlk
  simp

theorem run_store {w : World} {b j : Nat} {cs : List Value} {ty : TypeId} (hb : w.heap[b]? = some (.cells cs.toArray ty (0, 0))) (hj : j < cs.length) {v : Value} (hv : oneCell v) :
    (store ⟨b, j, none⟩ v).run P w = .ok () (setBlk w b (.cells (cs.set j v).toArray ty (0, 0))) := by
  have hc : w.cell? ⟨b, j, none⟩ = some cs[j] := by simp [World.cell?, hb, hj]
  have hf : w.frozen? ⟨b, j, none⟩ = false := by simp [World.frozen?, hb]
  rw [← setCell_blk hb v]
  unfold store
  cases v <;> first
    | (simp only [Sem.run, hc, hf]; rfl)
    | exact absurd hv (by simp [oneCell])

theorem setBlk_same {w : World} {b : Nat} {o : Obj} (h : w.heap[b]? = some o) : setBlk w b o = w := by
  unfold setBlk
  congr 1
  apply Array.ext_getElem?
  intro i
  rw [Array.getElem?_setIfInBounds]
  by_cases hi : b = i
  · subst hi
    rw [if_pos rfl, if_pos (Array.getElem?_eq_some_iff.1 h).1, h]
  · rw [if_neg hi]

/-- Cells are written one behind the other. -/
theorem run_storeCells {b : Nat} {ty : TypeId} {off : Nat} {post : List Value} : ∀ (vs mid pre : List Value) (w : World) (i : Nat), w.heap[b]? = some (.cells (pre ++ mid ++ post).toArray ty (0, 0)) → pre.length = off + i → mid.length = vs.length → (∀ v ∈ vs, oneCell v) →
    (storeCells ⟨b, off, none⟩ vs i).run P w = .ok () (setBlk w b (.cells (pre ++ vs ++ post).toArray ty (0, 0)))
  | [], mid, pre, w, i, hb, hp, hm, _ => by
    have : mid = [] := List.eq_nil_of_length_eq_zero hm
    subst this
    rw [setBlk_same hb]
    simp [storeCells]
  | v :: vs, [], pre, w, i, _, _, hm, _ => by simp at hm
  | v :: vs, m :: mid, pre, w, i, hb, hp, hm, hv => by
    have hj : off + i < (pre ++ (m :: mid) ++ post).length := by simp; omega
    have h1 := run_store (P := P) hb hj (hv v (by simp))
    have hlt := (Array.getElem?_eq_some_iff.1 hb).1
    have hset : (pre ++ (m :: mid) ++ post).set (off + i) v = (pre ++ [v]) ++ mid ++ post := by
      rw [← hp]; simp
    rw [hset] at h1
    have hb' : (setBlk w b (.cells ((pre ++ [v]) ++ mid ++ post).toArray ty (0, 0))).heap[b]? = some (.cells ((pre ++ [v]) ++ mid ++ post).toArray ty (0, 0)) := by
      rw [heap_setBlk, if_pos ⟨rfl, hlt⟩]
    have h2 := run_storeCells (off := off) vs mid (pre ++ [v]) _ (i + 1) hb' (by simp; omega) (by simpa using hm) (fun u hu => hv u (by simp [hu]))
    have e : pre ++ (v :: vs) ++ post = pre ++ [v] ++ vs ++ post := by simp
    rw [e]
    simp only [storeCells, Sem.run_bind, add_at, h1, Result.andThen_ok, h2, setBlk_setBlk]

theorem CRL.one : ∀ {l : List AV} {cs : List Value}, CRL R l cs → ∀ v ∈ cs, oneCell v
  | [], cs, h, v, hv => by have : cs = [] := h; subst this; simp at hv
  | x :: l, cs, h, v, hv => by
    by_cases hx : ∃ k n xs, x = .arr k n xs
    · obtain ⟨k, n, xs, rfl⟩ := hx
      obtain ⟨cs', rfl, _, _, h4⟩ := h
      rcases List.mem_append.1 hv with h5 | h5
      · simp [ints] at h5; obtain ⟨y, _, rfl⟩ := h5; trivial
      · exact CRL.one h4 v h5
    · have hx' : ∀ k n xs, x ≠ .arr k n xs := fun k n xs he => hx ⟨k, n, xs, he⟩
      rw [CRL.cons hx'] at h
      obtain ⟨u, cs', rfl, h2, h3, h4, h5⟩ := h
      rcases List.mem_cons.1 hv with rfl | h6
      · exact h3
      · exact CRL.one h5 v h6

theorem store_cells {t : TypeId} {w : World} {b off : Nat} {cs vc : List Value} {ty : TypeId} {v : Value} (hb : w.heap[b]? = some (.cells cs.toArray ty (0, 0))) (hv : v.cells.toList = vc) (hs : (sizeOf t).run P w = .ok vc.length w)
    (hle : off + vc.length ≤ cs.length) (h1 : ∀ u ∈ vc, oneCell u) :
    (storeVar t ⟨b, off, none⟩ v).run P w = .ok () (setBlk w b (.cells (cs.take off ++ vc ++ cs.drop (off + vc.length)).toArray ty (0, 0))) := by
  have hcs : cs = cs.take off ++ (cs.drop off).take vc.length ++ cs.drop (off + vc.length) := by
    rw [← List.drop_drop, List.append_assoc, List.take_append_drop, List.take_append_drop]
  have hb' := hb
  rw [hcs] at hb'
  have hr := run_storeCells (P := P) (off := off) vc ((cs.drop off).take vc.length) (cs.take off) w 0 hb' (by simp; omega) (by simp; omega) h1
  have hsz : v.cells.size = vc.length := by rw [← hv]; simp
  simp [storeVar, hs, hsz, hv, hr]

theorem op_store_gen (hc : Conc O B w0 L R fr hp a) {t : TypeId} {x y : Operand} (ho : o.op = .store t x y) {nm off : Nat} {b b' : Blk} (hb : hp nm = b) (hbg : b ≠ .gone) (hbg' : b' ≠ .gone)
    (hval : a.eval x = .pointer (some ⟨R.ρ nm, off, none⟩)) {cs vc : List Value} {ty : TypeId} (hh : R.w.heap[R.ρ nm]? = some (.cells cs.toArray ty (0, 0)))
    (hv : (a.eval y).cells.toList = vc) (hs : (sizeOf t).run P R.w = .ok vc.length R.w) (hle : off + vc.length ≤ cs.length) (h1 : ∀ u ∈ vc, oneCell u)
    (hblk : BlkR (R.wr (R.ρ nm) (.cells (cs.take off ++ vc ++ cs.drop (off + vc.length)).toArray ty)) B nm b') {ob : Ob} :
    OpS P O B w0 L R fr hp n a o ⟨.any, .wr nm b', ob⟩ := by
  refine OpS.wrote hc (by rw [hb]; exact hbg) hbg' (cs := cs.take off ++ vc ++ cs.drop (off + vc.length)) (ty := ty) ?_ trivial hblk
  have := store_cells (P := P) hh hv hs hle h1
  simp [execOp, ho, Instr.storeAt, Instr.sureAddr, hval, this]

theorem blkR_wrote {nm : Nat} {l l' : List AV} {cs' : List Value} {ty : TypeId} (hal : R.al nm) (hB : ¬ B.keep (R.ρ nm)) (ho : R.own (R.ρ nm)) (hlt : R.ρ nm < R.w.heap.size)
    (h : CRL R l' cs') (hl : cs'.length = R.rs nm) (hln : ∀ off, R.ln nm off = lenAt (.cells l) off) (hs : l'.map shp = l.map shp) : BlkR (R.wr (R.ρ nm) (.cells cs'.toArray ty)) B nm (.cells l') := by
  refine ⟨hal, hB, cs', ty, ?_, h.ext (Ext.wr R _ _ ho), hl, fun off => ?_⟩
  · show (setBlk R.w (R.ρ nm) _).heap[R.ρ nm]? = _
    rw [heap_setBlk, if_pos ⟨rfl, hlt⟩]
  · rw [lenAt_congr off hs]; exact hln off

theorem kindSize {s : Sh} (h : isAggSh s = false) : shSize s = 1 := by cases s <;> simp [isAggSh] at h <;> rfl

theorem rgL_set {k : IntKind} {xs : List Int} (h : RgL k xs) (i : Nat) {x : Int} (hx : Rg k x) : RgL k (xs.set i x) := by
  intro y hy
  rcases List.mem_or_eq_of_mem_set hy with h1 | rfl
  · exact h y h1
  · exact hx

theorem op_store (hc : Conc O B w0 L R fr hp a) (hA : c.A = stdAr) (hTy : ∀ t, TyOk P t (c.T t)) {t : TypeId} {x y : Operand} (ho : o.op = .store t x y) {nm : Nat} {b' : Blk} (hv : storeAV c hp t (evF fr x) (evF fr y) = some (nm, b')) {ob : Ob} :
    OpS P O B w0 L R fr hp n a o ⟨.any, .wr nm b', ob⟩ := by
  have hx := hc.ev x
  have hy := hc.ev y
  have ownOf : ∀ {m}, hp m ≠ .gone → R.own (R.ρ m) := fun h => (hc.own _).2 (.inr ⟨_, h, rfl⟩)
  cases he : evF fr x with
  | ptr m off =>
    rw [he] at hv hx
    obtain ⟨hal, hval⟩ := hx
    simp only [storeAV] at hv
    cases hb : hp m with
    | cells l =>
      rw [hb] at hv
      simp only at hv
      split at hv
      · rename_i hck
        simp only [Bool.and_eq_true, eqN_eq] at hck
        obtain ⟨⟨hck, hkn⟩, hsz⟩ := hck
        have hno : c.T t ≠ .other := by intro e; rw [e] at hkn; simp [known] at hkn
        cases hset : setC l off (chunks (evF fr y)) with
        | none => rw [hset] at hv; simp at hv
        | some l' =>
          rw [hset] at hv
          simp only [Option.some.injEq, Prod.mk.injEq] at hv
          obtain ⟨rfl, rfl⟩ := hv
          obtain ⟨cs, ty, h1, h2, h3, h4, h5, h6⟩ := hc.blk hb
          obtain ⟨h7, _⟩ := hy.cells hck
          obtain ⟨h8, h9⟩ := h2.setC h7 hset
          have hlen := h7.length
          have hsize : (sizeOf t).run P R.w = .ok (a.eval y).cells.toList.length R.w := by
            rw [ty_size (hTy t) hno, hsz, hlen]
          refine op_store_gen hc ho hb (by simp) (by simp) hval h1 rfl hsize h9 h7.one ?_
          refine blkR_wrote (l := l) h5 h6 (ownOf (by rw [hb]; simp)) (Array.getElem?_eq_some_iff.1 h1).1 h8 ?_ h4 (setC_shp hset)
          rw [← h3]
          simp only [List.length_append, List.length_take, List.length_drop]
          omega
      · simp at hv
    | row k xs => rw [hb] at hv; simp at hv
    | gone => rw [hb] at hv; simp at hv
  | pti m off i =>
    rw [he] at hv hx
    obtain ⟨hal, j, rfl, hj, hval⟩ := hx
    simp only [storeAV] at hv
    cases hsh : c.T t with
    | int k0 =>
      rw [hsh] at hv
      simp only at hv
      have hTt := hTy t
      rw [hsh] at hTt
      cases hti : toI c.A (evF fr y) with
      | none => rw [hti] at hv; simp at hv
      | some p =>
        obtain ⟨kv, z⟩ := p
        rw [hti] at hv
        simp only at hv
        obtain ⟨hvy, hrg⟩ := hy.toI (A := c.A) (by rw [hA]; rfl) hti
        have hcy : (a.eval y).cells.toList = [.int kv z] := by rw [hvy]; rfl
        have hsize : (sizeOf t).run P R.w = .ok [Value.int kv z].length R.w := by
          rw [ty_size hTt (by simp)]; rfl
        cases hb : hp m with
        | cells l =>
          rw [hb] at hv
          simp only at hv
          cases hch : chunkAt l off with
          | none => rw [hch] at hv; simp at hv
          | some q =>
            rw [hch] at hv
            cases q <;> simp at hv
            rename_i k mm xs
            obtain ⟨⟨hk1, hk2⟩, hv⟩ := hv
            rw [kindEq_iff] at hk1 hk2
            subst hk1
            cases hset : setC l off [.arr k mm (c.A.set xs j z)] with
            | none => rw [hset] at hv; simp at hv
            | some l' =>
              rw [hset] at hv
              simp only [Option.some.injEq, Prod.mk.injEq] at hv
              obtain ⟨rfl, rfl⟩ := hv
              obtain ⟨cs, ty, h1, h2, h3, h4, h5, h6⟩ := hc.blk hb
              obtain ⟨r, hr⟩ := chunkAt_drop hch
              obtain ⟨pre, h7, h8, h9⟩ := h2.dropC hr
              obtain ⟨cs', h10, h11, h12, h13⟩ := h9
              rw [h4] at hj
              simp only [lenAt, hch] at hj
              have hjx : j < xs.length := by omega
              have hset' : c.A.set xs j z = xs.set j z := by rw [hA]; simp [stdAr]
              rw [hset'] at hset
              have hnew : CRL R [.arr k mm (xs.set j z)] (ints k (xs.set j z)) := ⟨[], by simp, by simpa using h11, rgL_set h12 j hrg, rfl⟩
              obtain ⟨h14, h15⟩ := h2.setC hnew hset
              have hcslen : cs.length = off + (xs.length + cs'.length) := by
                have h77 := congrArg List.length h7
                rw [h10] at h77
                simp [cells_ints, h8] at h77
                omega
              have hcells : cs.take off ++ ints k (xs.set j z) ++ cs.drop (off + (ints k (xs.set j z)).length) = cs.take (off + j) ++ [.int k z] ++ cs.drop (off + j + 1) := by
                have hd : cs = pre ++ (ints k xs ++ cs') := by rw [← h10]; exact h7
                rw [cells_ints, List.length_set]
                have e1 : cs.take off = pre := by rw [hd, ← h8]; simp
                have e2 : cs.drop (off + xs.length) = cs' := by
                  rw [← List.drop_drop, h10]; rw [List.drop_left' (by rw [cells_ints])]
                have e3 : cs.take (off + j) = pre ++ (ints k xs).take j := by
                  rw [hd, ← h8, List.take_length_add_append, List.take_append_of_le_length (by rw [cells_ints]; omega)]
                have e4 : cs.drop (off + j + 1) = (ints k xs).drop (j + 1) ++ cs' := by
                  rw [Nat.add_assoc, ← List.drop_drop, h10, List.drop_append, show j + 1 - (ints k xs).length = 0 by rw [cells_ints]; omega]; simp
                rw [e1, e2, e3, e4]
                have e5 : ints k (xs.set j z) = (ints k xs).take j ++ .int k z :: (ints k xs).drop (j + 1) := by
                  unfold ints
                  rw [List.map_set, List.set_eq_take_append_cons_drop, if_pos (by simpa using hjx)]
                rw [e5]; simp
              have hown := ownOf (m := m) (by rw [hb]; simp)
              refine op_store_gen hc ho hb (by simp) (by simp) (off := off + j) hval h1 hcy hsize (by simp; omega) (by simp [oneCell]) ?_
              simp only [List.length_cons, List.length_nil, Nat.zero_add]
              rw [← hcells]
              refine blkR_wrote (l := l) h5 h6 hown (Array.getElem?_eq_some_iff.1 h1).1 h14 ?_ h4 (setC_shp hset)
              rw [hcells]
              simp
              omega
        | row k xs =>
          rw [hb] at hv
          simp only at hv
          split at hv
          · rename_i hk
            simp only [Bool.and_eq_true, eqN_eq, kindEq_iff] at hk
            obtain ⟨⟨rfl, hk2⟩, rfl⟩ := hk
            simp only [Option.some.injEq, Prod.mk.injEq] at hv
            obtain ⟨rfl, rfl⟩ := hv
            obtain ⟨rest, ty, h1, h2, h3, h4, h5, h6⟩ := hc.rowb hb
            rw [h4] at hj
            simp only [lenAt, if_true] at hj
            have hset' : c.A.set xs j z = xs.set j z := by rw [hA]; simp [stdAr]
            have hown := ownOf (m := m) (by rw [hb]; simp)
            have e5 : ints k (xs.set j z) = (ints k xs).take j ++ .int k z :: (ints k xs).drop (j + 1) := by
              unfold ints
              rw [List.map_set, List.set_eq_take_append_cons_drop, if_pos (by simpa using hj)]
            refine op_store_gen hc ho hb (by simp) (by simp) (off := 0 + j) hval h1 hcy hsize (by simp [cells_ints]; omega) (by simp [oneCell]) ?_
            refine ⟨h5, h6, rest, ty, ?_, ?_, ?_, fun off => ?_⟩
            · show (setBlk R.w (R.ρ m) _).heap[R.ρ m]? = _
              rw [heap_setBlk, if_pos ⟨rfl, (Array.getElem?_eq_some_iff.1 h1).1⟩, hset', e5]
              simp only [List.length_cons, List.length_nil, Nat.zero_add]
              rw [List.take_append, List.drop_append, show j - (ints k xs).length = 0 by rw [cells_ints]; omega, show j + 1 - (ints k xs).length = 0 by rw [cells_ints]; omega]
              simp
            · rw [hset']; exact rgL_set h2 j hrg
            · rw [hset', List.length_set]; exact h3
            · rw [hset']
              have := h4 off
              simp only [lenAt, List.length_set] at this ⊢
              exact this
          · simp at hv
        | gone => rw [hb] at hv; simp at hv
    | _ => rw [hsh] at hv; simp at hv
  | _ => rw [he] at hv; simp [storeAV] at hv
end
end Go.Proofs.SX

namespace Go.Proofs.SX
open Go Go.RowKit
set_option linter.unusedVariables false
set_option linter.unusedSimpArgs false

section
variable {P : Program} {O : Nat → Prop} {B : Bd} {w0 : World} {L : Nat} {R : RC} {fr : Nat → AV} {hp : Nat → Blk} {n : Nat} {a : Act} {o : Oper} {c : Cx}

theorem op_move (hc : Conc O B w0 L R fr hp a) {x : Operand} (ho : o.op = .move x ∨ o.op = .assign x) {ob : Ob} : OpS P O B w0 L R fr hp n a o ⟨evF fr x, .none, ob⟩ := by
  refine OpS.value hc (v := a.eval x) ?_ (hc.ev x)
  rcases ho with ho | ho <;> simp [execOp, ho]

/-! ### Numbers -/
theorem shr_rg {k : IntKind} {x : Int} (h : Rg k x) (m : Nat) : k.wrap (x.fdiv (2 ^ m)) = x.fdiv (2 ^ m) := by
  have hp : (0 : Int) < 2 ^ m := Int.pow_pos (by decide)
  have hp1 : (1 : Int) ≤ 2 ^ m := hp
  rw [rg_iff] at h
  refine (rg_iff k _).2 ?_
  rw [Int.fdiv_eq_ediv_of_nonneg _ (by omega)]
  have hk : k.min ≤ 0 ∧ 0 ≤ k.max := by cases k <;> decide
  by_cases hx : 0 ≤ x
  · have h1 : 0 ≤ x / 2 ^ m := Int.ediv_nonneg hx (by omega)
    have h2 : x / 2 ^ m ≤ x := Int.ediv_le_self _ hx
    omega
  · have h1 : x / 2 ^ m < 0 := Int.ediv_neg_of_neg_of_pos (by omega) hp
    have h3 : x * 2 ^ m ≤ x * 1 := Int.mul_le_mul_of_nonpos_left (by omega) hp1
    have h2 : x ≤ x / 2 ^ m := Int.le_ediv_of_mul_le hp (by omega)
    omega

theorem rem_rg {k : IntKind} {x y : Int} (h : Rg k x) : k.wrap (x.tmod y) = x.tmod y := by
  rw [rg_iff] at h
  refine (rg_iff k _).2 ?_
  have hk : k.min ≤ 0 ∧ 0 ≤ k.max := by cases k <;> decide
  have h1 : (x.tmod y).natAbs ≤ x.natAbs := by
    rw [Int.natAbs_tmod]; exact Nat.mod_le _ _
  by_cases hx : 0 ≤ x
  · have h2 : 0 ≤ x.tmod y := Int.tmod_nonneg _ hx
    omega
  · have h2 : x.tmod y ≤ 0 := by
      have := Int.tmod_nonneg y (show 0 ≤ -x by omega)
      rw [Int.neg_tmod] at this
      omega
    omega

theorem run_intBin {op : BinOp} {k : IntKind} {x y : Int} {k' : IntKind} (hk : (isShift op || kindEq k k') = true) (hx : Rg k x) (hy : Rg k' y) (ho : Obs (intBin stdAr op k x y).2) {t : TypeId} {R : RC} {w : World} :
    ∃ v, (binOp op t (.int k x) (.int k' y)).run P w = .ok v w ∧ VR R (intBin stdAr op k x y).1 v := by
  have kk : isShift op = false → k = k' := by
    intro h
    rw [h, Bool.false_or, kindEq_iff] at hk
    exact hk
  have ob1 : ∀ {p q : Bool}, (p, q) ∈ (intBin stdAr op k x y).2 → p = q := fun h => ho _ h
  cases op with
  | add => obtain rfl := kk rfl; exact ⟨.int k (k.wrap (x + y)), by simp [binOp, Op.intArith], rfl, rg_wrap _ _⟩
  | sub => obtain rfl := kk rfl; exact ⟨.int k (k.wrap (x - y)), by simp [binOp, Op.intArith], rfl, rg_wrap _ _⟩
  | mul => obtain rfl := kk rfl; exact ⟨.int k (k.wrap (x * y)), by simp [binOp, Op.intArith], rfl, rg_wrap _ _⟩
  | quo =>
    obtain rfl := kk rfl
    have hy0 : y ≠ 0 := by
      have := ob1 (p := stdAr.cmp .eql y 0) (q := false) (by simp [intBin])
      simpa [stdAr] using this
    exact ⟨.int k (k.wrap (x.tdiv y)), by simp [binOp, Op.intDiv, hy0], rfl, rg_wrap _ _⟩
  | rem =>
    obtain rfl := kk rfl
    have hy0 : y ≠ 0 := by
      have := ob1 (p := stdAr.cmp .eql y 0) (q := false) (by simp [intBin])
      simpa [stdAr] using this
    exact ⟨.int k (x.tmod y), by simp [binOp, Op.intDiv, hy0], by simp only [stdAr]; rw [rem_rg hx], by simp only [intBin, stdAr]; exact rg_wrap _ _⟩
  | and => obtain rfl := kk rfl; exact ⟨_, by simp only [binOp, ne_eq, not_true_eq_false, if_false, Op.intBits]; rfl, rfl, rg_wrap _ _⟩
  | or => obtain rfl := kk rfl; exact ⟨_, by simp only [binOp, ne_eq, not_true_eq_false, if_false, Op.intBits]; rfl, rfl, rg_wrap _ _⟩
  | xor => obtain rfl := kk rfl; exact ⟨_, by simp only [binOp, ne_eq, not_true_eq_false, if_false, Op.intBits]; rfl, rfl, rg_wrap _ _⟩
  | andNot => obtain rfl := kk rfl; exact ⟨_, by simp only [binOp, ne_eq, not_true_eq_false, if_false, Op.intBits]; rfl, rfl, rg_wrap _ _⟩
  | shl =>
    have hy0 : ¬ y < 0 := by
      have := ob1 (p := stdAr.cmp .leq 0 y) (q := true) (by simp [intBin])
      simp [stdAr] at this; omega
    exact ⟨.int k (k.wrap (x * 2 ^ (min y.toNat k.bits))), by simp [binOp, Op.shift, hy0], rfl, rg_wrap _ _⟩
  | shr =>
    have hy0 : ¬ y < 0 := by
      have := ob1 (p := stdAr.cmp .leq 0 y) (q := true) (by simp [intBin])
      simp [stdAr] at this; omega
    exact ⟨.int k (x.fdiv (2 ^ (min y.toNat k.bits))), by simp [binOp, Op.shift, hy0], by simp only [stdAr]; rw [shr_rg hx], by simp only [intBin, stdAr]; exact rg_wrap _ _⟩
  | eql => obtain rfl := kk rfl; exact ⟨_, by simp [binOp, Op.intCmp]; rfl, rfl⟩
  | neq => obtain rfl := kk rfl; exact ⟨_, by simp [binOp, Op.intCmp]; rfl, rfl⟩
  | lss => obtain rfl := kk rfl; exact ⟨_, by simp [binOp, Op.intCmp]; rfl, rfl⟩
  | leq => obtain rfl := kk rfl; exact ⟨_, by simp [binOp, Op.intCmp]; rfl, rfl⟩
  | gtr => obtain rfl := kk rfl; exact ⟨_, by simp [binOp, Op.intCmp]; rfl, rfl⟩
  | geq => obtain rfl := kk rfl; exact ⟨_, by simp [binOp, Op.intCmp]; rfl, rfl⟩

theorem eqGuard_int (op : BinOp) (t : TypeId) (x y : Operand) (k k' : IntKind) (i j : Int) (w : World) : (eqGuard op t x y (.int k i) (.int k' j)).run P w = .ok () w := by
  cases op <;> simp [eqGuard]
theorem eqGuard_str (op : BinOp) (t : TypeId) (x y : Operand) (i j : ByteArray) (w : World) : (eqGuard op t x y (.string i) (.string j)).run P w = .ok () w := by
  cases op <;> simp [eqGuard]

/-! ### Equality of arrays and structs -/
theorem run_eqItems {d : Nat} {e : TypeId} {k : IntKind} (he : IntTy P e k) {xs ys : List Int} (w : World) : ∀ (m i : Nat), i + m = xs.length → i + m = ys.length →
    (Op.eqItems (d + 1) e 1 (ints k xs).toArray (ints k ys).toArray (List.range' i m)).run P w = .ok (decide (xs.drop i = ys.drop i)) w
  | 0, i, h1, h2 => by
    simp only [List.range'_zero, Op.eqItems, Sem.run_pure]
    rw [List.drop_eq_nil_of_le (by omega), List.drop_eq_nil_of_le (by omega)]
    simp
  | m + 1, i, h1, h2 => by
    have hx : i < xs.length := by omega
    have hy : i < ys.length := by omega
    have pt : ∀ {zs : List Int} (hz : i < zs.length), (part e (ints k zs).toArray (i * 1)).run P w = .ok (.int k zs[i]) w := by
      intro zs hz
      unfold part isAgg
      simp only [Sem.run_bind, run_underlying he.1, Result.andThen_ok, Sem.run_pure, Bool.false_eq_true, if_false, Nat.mul_one]
      have : (ints k zs).toArray[i]? = some (.int k zs[i]) := by simp [ints_get, hz]
      simp [this]
    have ih := run_eqItems (d := d) he (xs := xs) (ys := ys) w m (i + 1) (by omega) (by omega)
    simp only [List.range'_succ, Op.eqItems, Sem.run_bind, pt hx, pt hy, Result.andThen_ok, run_equalIn_int w d e k k xs[i] ys[i] he.1]
    rw [List.drop_eq_getElem_cons hx, List.drop_eq_getElem_cons hy]
    by_cases hxy : xs[i] = ys[i]
    · have : (xs[i] == ys[i]) = true := by simp [hxy]
      simp only [this, Bool.not_true, Bool.false_eq_true, if_false]
      rw [ih]
      congr 1
      exact decide_eq_decide.2 ⟨fun h => by rw [hxy, h], fun h => (List.cons.inj h).2⟩
    · have : (xs[i] == ys[i]) = false := by simp [hxy]
      simp only [this, Bool.not_false, if_true, Sem.run_pure]
      congr 1
      exact (decide_eq_false (fun h => hxy (List.cons.inj h).1)).symm

theorem run_eqArr {d m : Nat} {e t : TypeId} {k : IntKind} (ht : P.underlying t = some (.array m e)) (he : IntTy P e k) {xs ys : List Int} (hx : xs.length = m) (hy : ys.length = m) (w : World) :
    (Op.equalIn (d + 2) t (.agg (ints k xs).toArray) (.agg (ints k ys).toArray)).run P w = .ok (xs == ys) w := by
  cases hi : P.info? e with
  | none => have := he.2; rw [hi] at this; simp at this
  | some i =>
    have hs : P.cellsOf e = 1 := by have := he.2; rw [hi] at this; simp at this; simp [Program.cellsOf, hi, this]
    rw [run_equalIn_array _ (d + 1) _ _ ht hi, hs, List.range_eq_range']
    rw [run_eqItems (d := d) he w m 0 (by omega) (by omega)]
    simp only [List.drop_zero]
    congr 1
    rw [Bool.eq_iff_iff]; simp

theorem eqShs_cons {s : Sh} {sh : List Sh} {x : AV} {l : List AV} (h : eqAV.eqShs (s :: sh) (x :: l) = true) : ∃ n k xs, s = .arr n k ∧ x = .arr k n xs ∧ eqAV.eqShs sh l = true := by
  unfold eqAV.eqShs at h
  split at h
  · rename_i h1 h2; simp at h1
  · rename_i n k sh' k' n' xs l' h1 h2
    simp only [List.cons.injEq] at h1 h2
    obtain ⟨rfl, rfl⟩ := h1
    obtain ⟨rfl, rfl⟩ := h2
    simp only [Bool.and_eq_true, eqN_eq, kindEq_iff] at h
    obtain ⟨⟨rfl, rfl⟩, h3⟩ := h
    exact ⟨_, _, _, rfl, rfl, h3⟩
  · exact absurd h (by simp)
theorem eqShs_nil {l : List AV} (h : eqAV.eqShs [] l = true) : l = [] := by
  cases l with
  | nil => rfl
  | cons x l => simp [eqAV.eqShs] at h
theorem eqShs_nil' {s : Sh} {sh : List Sh} (h : eqAV.eqShs (s :: sh) [] = true) : False := by
  unfold eqAV.eqShs at h
  split at h
  · rename_i h1 h2; simp at h1
  · rename_i h1 h2; simp at h2
  · exact absurd h (by simp)

/-- Structs of arrays. -/
theorem run_eqFields {d : Nat} {w : World} {R : RC} : ∀ {sh : List Sh} {fs : List Field} {l m : List AV} {pre pre' cs ds : List Value} {b : Bool}, FsOk P sh pre.length fs → pre'.length = pre.length → eqAV.eqShs sh l = true → eqAV.eqShs sh m = true →
    CRL R l cs → CRL R m ds → eqAVs stdAr l m = some b → (Op.eqFields (d + 2) (pre ++ cs).toArray (pre' ++ ds).toArray fs).run P w = .ok b w := by
  intro sh
  induction sh with
  | nil =>
    intro fs l m pre pre' cs ds b hf hp hl hm hc hd hb
    obtain rfl := eqShs_nil hl
    obtain rfl := eqShs_nil hm
    simp only [eqAVs, Option.some.injEq] at hb
    subst hb
    cases fs with
    | nil => simp [Op.eqFields]
    | cons f fs => exact hf.elim
  | cons s sh ih =>
    intro fs l m pre pre' cs ds b hf hp hl hm hc hd hb
    cases fs with
    | nil => exact hf.elim
    | cons f fs =>
      obtain ⟨hoff, hname, hsize, hpos, ⟨dd, hdd, hagg, harr⟩, hrest⟩ := hf
      cases l with
      | nil => exact (eqShs_nil' hl).elim
      | cons x l =>
        cases m with
        | nil => exact (eqShs_nil' hm).elim
        | cons y m =>
          obtain ⟨q, k, xs, rfl, rfl, h3⟩ := eqShs_cons hl
          obtain ⟨q', k', ys, hq, rfl, h6⟩ := eqShs_cons hm
          simp only [Sh.arr.injEq] at hq
          obtain ⟨rfl, rfl⟩ := hq
          obtain ⟨e, rfl, he⟩ := harr _ _ rfl
          obtain ⟨cs', rfl, hx1, hx2, hc'⟩ := hc
          obtain ⟨ds', rfl, hy1, hy2, hd'⟩ := hd
          have hnm : f.name ≠ "_" := by
            intro e; rw [e] at hname; simp at hname
          have hsz : (sizeOf f.type).run P w = .ok q w := info_size hsize
          have hpart : ∀ {pr : List Value} {zs : List Int} {es : List Value}, pr.length = pre.length → zs.length = q → (part f.type (pr ++ (ints k zs ++ es)).toArray f.offset).run P w = .ok (.agg (ints k zs).toArray) w := by
            intro pr zs es hpr hz
            unfold part isAgg
            simp only [Sem.run_bind, run_underlying hdd, Result.andThen_ok, Sem.run_pure, if_true, hsz]
            congr 2
            apply Array.ext'
            rw [hoff]
            simp only [Array.toList_extract, List.extract_eq_take_drop, Nat.add_sub_cancel_left]
            rw [← hpr, List.drop_left, List.take_left' (by rw [cells_ints]; exact hz)]
          simp only [Op.eqFields]
          rw [if_pos hnm]
          simp only [Sem.run_bind, hpart rfl hx1, hpart hp hy1, Result.andThen_ok, run_eqArr (d := d) hdd he hx1 hy1 w]
          have rest : ∀ b', eqAVs stdAr l m = some b' → (Op.eqFields (d + 2) (pre ++ (ints k xs ++ cs')).toArray (pre' ++ (ints k ys ++ ds')).toArray fs).run P w = .ok b' w := by
            intro b' hb'
            rw [← List.append_assoc, ← List.append_assoc]
            refine ih (pre := pre ++ ints k xs) (pre' := pre' ++ ints k ys) ?_ ?_ h3 h6 hc' hd' hb'
            · rw [List.length_append, cells_ints, hx1]; exact hrest
            · rw [List.length_append, List.length_append, cells_ints, cells_ints, hx1, hy1, hp]
          have hkk : (kindEq k k).and (eqN q q) = true := by simp [kindEq_iff]
          simp only [eqAVs, hkk, if_true] at hb
          cases hr : eqAVs stdAr l m with
          | none => rw [hr] at hb; simp at hb
          | some b' =>
            rw [hr] at hb
            simp only [Option.some.injEq] at hb
            have := rest b' hr
            cases hxy : (xs == ys) with
            | false => simp only [Bool.not_false, if_true, Sem.run_pure]; rw [← hb]; simp [stdAr, hxy]
            | true => simp only [Bool.not_true, Bool.false_eq_true, if_false]; rw [this, ← hb]; simp [stdAr, hxy]
end
end Go.Proofs.SX

namespace Go.Proofs.SX
open Go Go.RowKit
set_option linter.unusedVariables false
set_option linter.unusedSimpArgs false

section
variable {P : Program} {O : Nat → Prop} {B : Bd} {w0 : World} {L : Nat} {R : RC} {fr : Nat → AV} {hp : Nat → Blk} {n : Nat} {a : Act} {o : Oper} {c : Cx}

/-! ### Binary operators -/
theorem natOp_int {k : IntKind} (hk : wide k = true) {op : BinOp} {x y : Nat} (hx : Rg k x) (hy : Rg k y) : ∀ {r : Nat ⊕ Bool}, natOp op x y = some r →
    (match r with
      | .inl m => Rg k m ∧ (intBin stdAr op k x y).1 = .int k m ∧ Obs (intBin stdAr op k x y).2
      | .inr b => (intBin stdAr op k x y).1 = .bool b ∧ Obs (intBin stdAr op k x y).2) := by
  intro r h
  have small : ∀ {m : Nat}, m ≤ 2147483647 → Rg k m := by
    intro m hm
    refine rg_lit k m ?_
    cases k <;> simp [wide] at hk <;> simp [kmax] <;> omega
  have wr : ∀ {m : Nat}, m ≤ 2147483647 → k.wrap (m : Int) = m := fun hm => small hm
  cases op <;> simp only [natOp] at h
  case add =>
    split at h
    · rename_i hm; rw [leN_eq] at hm
      simp only [Option.some.injEq] at h; subst h
      refine ⟨small hm, ?_, by simp [intBin, Obs]⟩
      simp only [intBin, stdAr]; rw [← Int.natCast_add, wr hm]
    · simp at h
  case sub =>
    split at h
    · split at h
      · rename_i h1 hm; rw [leN_eq] at hm h1
        simp only [Option.some.injEq] at h; subst h
        have hm' : x - y ≤ 2147483647 := by omega
        refine ⟨small hm', ?_, by simp [intBin, Obs]⟩
        simp only [intBin, stdAr]; rw [← Int.ofNat_sub h1, wr hm']
      · simp at h
    · simp at h
  case mul =>
    split at h
    · rename_i hm; rw [leN_eq] at hm
      simp only [Option.some.injEq] at h; subst h
      refine ⟨small hm, ?_, by simp [intBin, Obs]⟩
      simp only [intBin, stdAr]; rw [← Int.natCast_mul, wr hm]
    · simp at h
  case quo =>
    split at h
    · simp at h
    · split at h
      · rename_i h0 hm
        rw [leN_eq] at hm
        have h0' : y ≠ 0 := by intro e; apply h0; rw [eqN_eq]; exact e
        simp only [Option.some.injEq] at h; subst h
        have hm' : x / y ≤ 2147483647 := Nat.le_trans (Nat.div_le_self _ _) hm
        refine ⟨small hm', ?_, ?_⟩
        · simp only [intBin, stdAr]
          rw [← Int.ofNat_tdiv, wr hm']
        · intro p hp
          simp only [intBin, List.mem_singleton] at hp
          subst hp
          simp [stdAr, h0']
      · simp at h
  case rem =>
    split at h
    · simp at h
    · split at h
      · rename_i h0 hm
        rw [leN_eq] at hm
        have h0' : y ≠ 0 := by intro e; apply h0; rw [eqN_eq]; exact e
        simp only [Option.some.injEq] at h; subst h
        have hm' : x % y ≤ 2147483647 := Nat.le_trans (Nat.mod_le _ _) hm
        refine ⟨small hm', ?_, ?_⟩
        · simp only [intBin, stdAr]
          rw [← Int.ofNat_tmod, wr hm']
        · intro p hp
          simp only [intBin, List.mem_singleton] at hp
          subst hp
          simp [stdAr, h0']
      · simp at h
  case eql =>
    simp only [Option.some.injEq] at h; subst h
    refine ⟨?_, by simp [intBin, Obs]⟩
    simp only [intBin, stdAr]; congr 1; rw [Bool.eq_iff_iff, eqN_eq, beq_iff_eq]; omega
  case neq =>
    simp only [Option.some.injEq] at h; subst h
    refine ⟨?_, by simp [intBin, Obs]⟩
    simp only [intBin, stdAr, bne]; congr 2; rw [Bool.eq_iff_iff, eqN_eq, beq_iff_eq]; omega
  case lss =>
    simp only [Option.some.injEq] at h; subst h
    refine ⟨?_, by simp [intBin, Obs]⟩
    simp only [intBin, stdAr]; congr 1; rw [Bool.eq_iff_iff, leN_eq, decide_eq_true_eq]; omega
  case leq =>
    simp only [Option.some.injEq] at h; subst h
    refine ⟨?_, by simp [intBin, Obs]⟩
    simp only [intBin, stdAr]; congr 1; rw [Bool.eq_iff_iff, leN_eq, decide_eq_true_eq]; omega
  case gtr =>
    simp only [Option.some.injEq] at h; subst h
    refine ⟨?_, by simp [intBin, Obs]⟩
    simp only [intBin, stdAr]; congr 1; rw [Bool.eq_iff_iff, leN_eq, decide_eq_true_eq]; omega
  case geq =>
    simp only [Option.some.injEq] at h; subst h
    refine ⟨?_, by simp [intBin, Obs]⟩
    simp only [intBin, stdAr]; congr 1; rw [Bool.eq_iff_iff, leN_eq, decide_eq_true_eq]; omega
  all_goals simp at h

theorem beq_bytes (s t : ByteArray) : (s == t) = (s.data.toList.map (fun b => (b.toNat : Int)) == t.data.toList.map (fun b => (b.toNat : Int))) := by
  rw [beq_toListBytes, ByteArray.toList_eq, ByteArray.toList_eq, Bool.eq_iff_iff]
  simp only [beq_iff_eq]
  constructor
  · intro h; rw [h]
  · intro h
    refine List.map_inj_right ?_ |>.1 h
    intro u v huv
    exact UInt8.toNat_inj.1 (by omega)

theorem run_eqGuard_bool (w : World) (op : BinOp) (t : TypeId) (x y : Operand) (p q : Bool) : (eqGuard op t x y (.bool p) (.bool q)).run P w = .ok () w := by
  cases op <;> simp [eqGuard]
theorem run_binAV {op : BinOp} {t : TypeId} (hT : TyOk P t (c.T t)) {x y : AV} {u v : Value} {r : AV} {ob : Ob} (hx : VR R x u) (hy : VR R y v) (h : binAV stdAr (c.T t) op x y = some (r, ob)) (hob : Obs ob) (xo yo : Operand) {w : World} :
    ∃ z, (eqGuard op t xo yo u v).run P w = .ok () w ∧ (binOp op t u v).run P w = .ok z w ∧ VR R r z := by
  have num : ∀ {k k' : IntKind} {i j : Int}, u = .int k i → v = .int k' j → Rg k i → Rg k' j → (isShift op || kindEq k k') = true → (r, ob) = intBin stdAr op k i j →
      ∃ z, (eqGuard op t xo yo u v).run P w = .ok () w ∧ (binOp op t u v).run P w = .ok z w ∧ VR R r z := by
    intro k k' i j hu hv hi hj hk hr
    have h1 : r = (intBin stdAr op k i j).1 := by rw [← hr]
    have h2 : ob = (intBin stdAr op k i j).2 := by rw [← hr]
    subst h1 h2 hu hv
    obtain ⟨z, h3, h4⟩ := run_intBin hk hi hj hob (t := t) (R := R) (w := w)
    exact ⟨z, eqGuard_int _ _ _ _ _ _ _ _ _, h3, h4⟩
  have eqv : ∀ {b : Bool}, eqAV stdAr (c.T t) x y = some b → (eqGuard op t xo yo u v).run P w = .ok () w ∧ (binOp .eql t u v).run P w = .ok (.bool b) w ∧ (binOp .neq t u v).run P w = .ok (.bool (!b)) w := by
    intro b hb
    have agg : ∀ {b : Bool}, ((eqGuard op t xo yo u v).run P w = .ok () w ∧ ∃ xs ys : Array Value, u = .agg xs ∧ v = .agg ys ∧ (Op.equalIn 10000 t (.agg xs) (.agg ys)).run P w = .ok b w) →
        (eqGuard op t xo yo u v).run P w = .ok () w ∧ (binOp .eql t u v).run P w = .ok (.bool b) w ∧ (binOp .neq t u v).run P w = .ok (.bool (!b)) w := by
      rintro b ⟨h1, xs, ys, rfl, rfl, h2⟩
      exact ⟨h1, by rw [run_eql_struct, h2]; rfl, by rw [run_neq_struct, h2]; rfl⟩
    unfold eqAV at hb
    split at hb
    · rename_i hTt
      rw [hTt] at hT
      have hbt : P.underlying t = some .bool := (ty_info hT (by simp)).2
      split at hb
      · rename_i p q hp hq
        simp only [Option.some.injEq] at hb
        subst hb
        have vb : ∀ {z : AV} {u : Value} {p : Bool}, toB z = some p → VR R z u → u = .bool p := by
          intro z u p hz hzu
          cases z <;> simp [toB] at hz <;> (subst hz; exact hzu)
        obtain rfl := vb hp hx
        obtain rfl := vb hq hy
        exact ⟨run_eqGuard_bool w op t xo yo p q, run_eql_bool w t p q hbt, run_neq_bool w t p q hbt⟩
      · simp at hb
    · rename_i n0 k0 k m xs k' m' ys hTt
      rw [hTt] at hT
      simp only [Bool.and_eq_true, eqN_eq, kindEq_iff] at hb
      split at hb
      · rename_i hh
        obtain ⟨⟨rfl, rfl⟩, rfl, rfl⟩ := hh
        simp only [Option.some.injEq] at hb
        subst hb
        obtain ⟨rfl, hx1, hx2⟩ := hx
        obtain ⟨rfl, hy1, hy2⟩ := hy
        obtain ⟨⟨e, he, hie⟩, hg⟩ := (ty_info hT (by simp)).2
        exact agg ⟨run_eqGuard_agg w op t xo yo _ _ hg, _, _, rfl, rfl, run_eqArr (d := 9998) he hie hx1 hy1 w⟩
      · simp at hb
    · rename_i sh l m hTt
      rw [hTt] at hT
      obtain ⟨⟨fs, he, hfs⟩, hg, hst⟩ := (ty_info hT (by simp)).2
      cases hsh : eqAV.eqShs sh l with
      | false => rw [hsh] at hb; simp at hb
      | true =>
        rw [hsh] at hb
        simp only at hb
        obtain ⟨cs, rfl, hcs⟩ := hx
        obtain ⟨ds, rfl, hds⟩ := hy
        have hsm : ∀ {sh : List Sh} {l m : List AV} {b : Bool}, eqAV.eqShs sh l = true → eqAVs stdAr l m = some b → eqAV.eqShs sh m = true := by
          intro sh
          induction sh with
          | nil =>
            intro l m b h1 h2
            rw [eqShs_nil h1] at h2
            cases m with
            | nil => rfl
            | cons x m => simp [eqAVs] at h2
          | cons s sh ih =>
            intro l m b h1 h2
            cases l with
            | nil => exact (eqShs_nil' h1).elim
            | cons x l =>
              obtain ⟨q, k, xs, rfl, rfl, h3⟩ := eqShs_cons h1
              cases m with
              | nil => simp [eqAVs] at h2
              | cons y m =>
                cases y with
                | arr k' q' ys =>
                  simp only [eqAVs] at h2
                  split at h2
                  · rename_i hkk
                    simp only [Bool.and_eq_true, kindEq_iff, eqN_eq] at hkk
                    split at h2
                    · rename_i r hr
                      simp only [eqAV.eqShs, Bool.and_eq_true]
                      exact ⟨by simp [kindEq_iff, hkk.1, hkk.2], ih h3 hr⟩
                    · simp at h2
                  · simp at h2
                | _ => simp [eqAVs] at h2
        have hrun := run_eqFields (P := P) (d := 9997) (w := w) (pre := []) (pre' := []) hfs rfl hsh (hsm hsh hb) hcs hds hb
        simp only [List.nil_append] at hrun
        refine agg ⟨run_eqGuard_agg w op t xo yo _ _ hg, _, _, rfl, rfl, ?_⟩
        have hfo : P.fieldsOf t = fs := by simp [Program.fieldsOf, he]
        rw [run_equalIn_struct w 9999 t _ _ (by rw [hfo]; exact he) hst, hfo]
        exact hrun
    · simp at hb
  unfold binAV at h
  split at h
  · -- two written numbers
    rename_i k i k' j
    obtain ⟨rfl, hi⟩ := hx
    obtain ⟨rfl, hj⟩ := hy
    split at h
    · rename_i hk
      have hk' : (isShift op || kindEq k k') = true := hk
      split at h
      · rename_i m hm
        cases hw : wide k with
        | false => rw [hw] at hm; simp at hm
        | true =>
          rw [hw] at hm
          simp only [Option.some.injEq, Prod.mk.injEq] at h
          obtain ⟨rfl, rfl⟩ := h
          have hns : isShift op = false := by cases op <;> first | rfl | (simp [natOp] at hm)
          have hkk : k = k' := by rw [hns, Bool.false_or, kindEq_iff] at hk'; exact hk'
          obtain ⟨h1, h2, h3⟩ := natOp_int hw hi (show Rg k j by rw [hkk]; exact hj) hm
          obtain ⟨z, h4, h5⟩ := run_intBin hk' hi hj h3 (t := t) (R := R) (w := w)
          rw [h2] at h5
          exact ⟨z, eqGuard_int _ _ _ _ _ _ _ _ _, h4, h5⟩
      · rename_i b hm
        cases hw : wide k with
        | false => rw [hw] at hm; simp at hm
        | true =>
          rw [hw] at hm
          simp only [Option.some.injEq, Prod.mk.injEq] at h
          obtain ⟨rfl, rfl⟩ := h
          have hns : isShift op = false := by cases op <;> first | rfl | (simp [natOp] at hm)
          have hkk : k = k' := by rw [hns, Bool.false_or, kindEq_iff] at hk'; exact hk'
          obtain ⟨h2, h3⟩ := natOp_int hw hi (show Rg k j by rw [hkk]; exact hj) hm
          obtain ⟨z, h4, h5⟩ := run_intBin hk' hi hj h3 (t := t) (R := R) (w := w)
          rw [h2] at h5
          exact ⟨z, eqGuard_int _ _ _ _ _ _ _ _ _, h4, h5⟩
      · simp only [Option.some.injEq] at h
        exact num rfl rfl hi hj hk' h.symm
    · simp at h
  · rename_i k i k' j
    obtain ⟨rfl, hi⟩ := hx
    obtain ⟨rfl, hj⟩ := hy
    split at h
    · rename_i hk
      simp only [Option.some.injEq] at h
      exact num rfl rfl hi hj hk h.symm
    · simp at h
  · rename_i k i k' j
    obtain ⟨rfl, hi⟩ := hx
    obtain ⟨rfl, hj⟩ := hy
    split at h
    · rename_i hk
      simp only [Option.some.injEq] at h
      exact num rfl rfl hi hj hk h.symm
    · simp at h
  · rename_i k i k' j
    obtain ⟨rfl, hi⟩ := hx
    obtain ⟨rfl, hj⟩ := hy
    split at h
    · rename_i hk
      simp only [Option.some.injEq] at h
      exact num rfl rfl hi hj hk h.symm
    · simp at h
  · rename_i xs ys
    obtain ⟨s, rfl, hs⟩ := hx
    obtain ⟨s', rfl, hs'⟩ := hy
    split at h
    · simp only [Option.some.injEq, Prod.mk.injEq] at h
      obtain ⟨rfl, rfl⟩ := h
      exact ⟨_, eqGuard_str _ _ _ _ _ _ _, by simp [binOp, Op.stringOp]; rfl, by simp only [stdAr]; rw [← hs, ← hs', ← beq_bytes, beq_toListBytes]; rfl⟩
    · simp only [Option.some.injEq, Prod.mk.injEq] at h
      obtain ⟨rfl, rfl⟩ := h
      exact ⟨_, eqGuard_str _ _ _ _ _ _ _, by simp [binOp, Op.stringOp]; rfl, by simp only [stdAr]; rw [← hs, ← hs', ← beq_bytes, beq_toListBytes]; rfl⟩
    · simp at h
  · split at h
    · split at h
      · rename_i b hb
        simp only [Option.some.injEq, Prod.mk.injEq] at h
        obtain ⟨rfl, rfl⟩ := h
        obtain ⟨h1, h2, h3⟩ := eqv hb
        exact ⟨.bool b, h1, h2, rfl⟩
      · simp at h
    · split at h
      · rename_i b hb
        simp only [Option.some.injEq, Prod.mk.injEq] at h
        obtain ⟨rfl, rfl⟩ := h
        obtain ⟨h1, h2, h3⟩ := eqv hb
        exact ⟨.bool (!b), h1, h3, rfl⟩
      · simp at h
    · simp at h

theorem op_binOp (hc : Conc O B w0 L R fr hp a) (hA : c.A = stdAr) (hTy : ∀ t, TyOk P t (c.T t)) {op : BinOp} {t t' : TypeId} {x y : Operand} (ho : o.op = .binOp op t x y t') {v : AV} {ob : Ob}
    (h : binAV c.A (c.T t) op (evF fr x) (evF fr y) = some (v, ob)) (hob : Obs ob) {ob' : Ob} : OpS P O B w0 L R fr hp n a o ⟨v, .none, ob'⟩ := by
  rw [hA] at h
  obtain ⟨z, h1, h2, h3⟩ := run_binAV (hTy t) (hc.ev x) (hc.ev y) h hob x y (w := R.w)
  refine OpS.value hc (v := z) ?_ h3
  simp [execOp, ho, h1, h2]

theorem op_not (hc : Conc O B w0 L R fr hp a) {t : TypeId} {x : Operand} (ho : o.op = .unOp .not t x) {v : AV} (h : (∃ b, evF fr x = .lb b ∧ v = .lb (Bool.not b)) ∨ (∃ b, evF fr x = .bool b ∧ v = .bool (stdAr.not b))) {ob : Ob} :
    OpS P O B w0 L R fr hp n a o ⟨v, .none, ob⟩ := by
  have hx := hc.ev x
  rcases h with ⟨b, he, rfl⟩ | ⟨b, he, rfl⟩ <;> rw [he] at hx
  · have hv : a.eval x = .bool b := hx
    refine OpS.value hc (v := .bool (!b)) ?_ rfl
    simp [execOp, ho, hv, Op.unary]
  · have hv : a.eval x = .bool b := hx
    refine OpS.value hc (v := .bool (!b)) ?_ rfl
    simp [execOp, ho, hv, Op.unary]

theorem op_inv (hc : Conc O B w0 L R fr hp a) {t : TypeId} {x : Operand} (ho : o.op = .unOp .xor t x) {k : IntKind} {i : Int} (h : toI stdAr (evF fr x) = some (k, i)) {ob : Ob} :
    OpS P O B w0 L R fr hp n a o ⟨.int k (stdAr.inv k i), .none, ob⟩ := by
  obtain ⟨hv, _⟩ := (hc.ev x).toI (A := stdAr) rfl h
  refine OpS.value hc (v := .int k (stdAr.inv k i)) ?_ ⟨rfl, rg_wrap _ _⟩
  simp only [execOp, ho, hv, Op.unary, Op.intBits]
  rfl

theorem op_neg (hc : Conc O B w0 L R fr hp a) {t : TypeId} {x : Operand} (ho : o.op = .unOp .neg t x) {k : IntKind} {i : Int} (h : toI stdAr (evF fr x) = some (k, i)) {ob : Ob} :
    OpS P O B w0 L R fr hp n a o ⟨.int k (stdAr.neg k i), .none, ob⟩ := by
  obtain ⟨hv, _⟩ := (hc.ev x).toI (A := stdAr) rfl h
  refine OpS.value hc (v := .int k (stdAr.neg k i)) ?_ ⟨rfl, rg_wrap _ _⟩
  simp only [execOp, ho, hv, Op.unary, Op.intArith]
  rfl

theorem op_convInt (hc : Conc O B w0 L R fr hp a) {s t : TypeId} {x : Operand} (ho : o.op = .convert s t x) {ks k : IntKind} (hs : TyOk P s (.int ks)) (ht : TyOk P t (.int k)) {kx : IntKind} {i : Int} (h : toI stdAr (evF fr x) = some (kx, i)) {v : AV}
    (hv : v = .int k (k.wrap i) ∨ ∃ m : Nat, v = .lit k m ∧ i = m ∧ m ≤ 127) {ob : Ob} :
    OpS P O B w0 L R fr hp n a o ⟨v, .none, ob⟩ := by
  obtain ⟨hvx, _⟩ := (hc.ev x).toI (A := stdAr) rfl h
  refine OpS.value hc (v := .int k (k.wrap i)) ?_ ?_
  · simp [execOp, ho, hvx, convert, run_underlying (ty_info hs (by simp)).2, run_underlying (ty_info ht (by simp)).2, Conv.intToInt]
  · rcases hv with rfl | ⟨m, rfl, rfl, hm⟩
    · exact ⟨rfl, rg_wrap _ _⟩
    · have hr : Rg k m := rg_lit k m (by cases k <;> simp [kmax] <;> omega)
      exact ⟨by rw [hr], hr⟩

theorem op_extract (hc : Conc O B w0 L R fr hp a) {x : Operand} {i : Nat} (ho : o.op = .extract x i) {l : List AV} (h : evF fr x = .tup l) (hi : i < l.length) {ob : Ob} :
    OpS P O B w0 L R fr hp n a o ⟨nth l i, .none, ob⟩ := by
  have hx := hc.ev x
  rw [h] at hx
  obtain ⟨vs, hv, hvs⟩ := hx
  have get : ∀ {l : List AV} {vs : List Value} {i : Nat}, VRL R l vs → i < l.length → ∃ v, vs[i]? = some v ∧ VR1 R (nth l i) v := by
    intro l
    induction l with
    | nil => intro vs i _ hi; simp at hi
    | cons x l ih =>
      intro vs i hvs hi
      obtain ⟨v, vs', rfl, h1, h2⟩ := hvs
      cases i with
      | zero => exact ⟨v, rfl, h1⟩
      | succ i => exact ih h2 (by simpa using hi)
  obtain ⟨v, h1, h2⟩ := get hvs hi
  refine OpS.value hc (v := v) ?_ ?_
  · simp [execOp, ho, hv, Instr.extract, h1]
  · cases hn : nth l i <;> rw [hn] at h2 <;> first | exact h2 | exact h2.elim

/-! ### Places -/
theorem ix_spec {i : AV} {len x : Int} {ob : Ob} (h : ix stdAr i len = some (x, ob)) (hob : Obs ob) {v : Value} (hv : VR R i v) : ∃ k, v = .int k x ∧ Rg k x ∧ 0 ≤ x ∧ x < len := by
  unfold ix at h
  split at h
  · rename_i k y hy
    simp only [Option.some.injEq, Prod.mk.injEq] at h
    obtain ⟨rfl, rfl⟩ := h
    obtain ⟨h1, h2⟩ := hv.toI (A := stdAr) rfl hy
    have h3 := hob (stdAr.cmp .leq 0 y, true) (by simp)
    have h4 := hob (stdAr.cmp .lss y len, true) (by simp)
    simp [stdAr] at h3 h4
    exact ⟨k, h1, h2, h3, h4⟩
  · simp at h

theorem ixS_spec {i : AV} {m : Nat} {x : Int} {ob : Ob} (h : ixS stdAr i m = some (x, ob)) (hob : Obs ob) {v : Value} (hv : VR R i v) : ∃ k, v = .int k x ∧ Rg k x ∧ 0 ≤ x ∧ x < (m : Int) := by
  unfold ixS at h
  split at h
  · rename_i k j
    split at h
    · rename_i hj
      rw [leN_eq] at hj
      simp only [Option.some.injEq, Prod.mk.injEq] at h
      obtain ⟨rfl, rfl⟩ := h
      obtain ⟨h1, h2⟩ := hv
      exact ⟨k, h1, h2, Int.natCast_nonneg j, by show (j : Int) < m; omega⟩
    · simp at h
  · exact ix_spec h hob hv

theorem op_indexAddr_arr (hc : Conc O B w0 L R fr hp a) {t : TypeId} {x y : Operand} (ho : o.op = .indexAddr t x y) {m : Nat} {k : IntKind} (ht : TyOk P t (.arr m k)) {nm off : Nat} (hx : evF fr x = .ptr nm off) {l : List AV} (hb : hp nm = .cells l)
    {k' : IntKind} {xs : List Int} (hch : chunkAt l off = some (.arr k' m xs)) {i : Int} {ob : Ob} (hi : ixS stdAr (evF fr y) m = some (i, ob)) (hob : Obs ob) {ob' : Ob} :
    OpS P O B w0 L R fr hp n a o ⟨.pti nm off i, .none, ob'⟩ := by
  have hvx := hc.ev x
  rw [hx] at hvx
  obtain ⟨hal, hval⟩ := hvx
  obtain ⟨ky, hy, hrg, h0, hlt⟩ := ixS_spec hi hob (hc.ev y)
  obtain ⟨⟨e, he, hie⟩, _⟩ := (ty_info ht (by simp)).2
  obtain ⟨j, rfl⟩ := Int.eq_ofNat_of_zero_le h0
  have hln : R.ln nm off = m := by
    obtain ⟨cs, ty, _, _, _, h4, _⟩ := hc.blk hb
    rw [h4]; simp [lenAt, hch]
  refine OpS.value hc (v := .pointer (some ⟨R.ρ nm, off + j, none⟩)) ?_ ⟨hal, j, rfl, by rw [hln]; omega, rfl⟩
  have hs : (sizeOf e).run P R.w = .ok 1 R.w := info_size hie.2
  have hj : j < m := by omega
  simp [execOp, ho, hval, hy, Instr.indexAt, asIntOf, run_underlying he, Instr.sureAddr, hj, hs, add_at]

theorem op_indexAddr_sli (hc : Conc O B w0 L R fr hp a) {t : TypeId} {x y : Operand} (ho : o.op = .indexAddr t x y) {k0 : IntKind} (ht : TyOk P t (.sl k0)) {k : IntKind} {xs : List Int} (hx : evF fr x = .sli k xs)
    {i : Int} {ob : Ob} (hi : ix stdAr (evF fr y) (xs.length : Int) = some (i, ob)) (hob : Obs ob) {ob' : Ob} :
    OpS P O B w0 L R fr hp n a o ⟨.rpi k xs i, .none, ob'⟩ := by
  have hvx := hc.ev x
  rw [hx] at hvx
  obtain ⟨ad0, cap, hval, h1, h2, h3, h4⟩ := hvx
  obtain ⟨ky, hy, hrg, h0, hlt⟩ := ix_spec hi hob (hc.ev y)
  obtain ⟨e, he, hu, b, hb, _⟩ := (ty_info ht (by simp)).2
  obtain ⟨j, rfl⟩ := Int.eq_ofNat_of_zero_le h0
  have hj : j < xs.length := by omega
  obtain ⟨ad, rfl, hrd⟩ := h4 (by intro e; subst e; simp at hj)
  have hget := List.getElem?_eq_getElem hj
  refine OpS.value hc (v := .pointer (some (ad.add j))) ?_ ⟨ad.add j, j, xs[j], rfl, hget, rgL_get h3 hget, rfl, hrd.cell j _ hget, by rw [block_add]; exact hrd.far⟩
  have hs : (sizeOf e).run P R.w = .ok 1 R.w := by
    refine info_size ?_
    cases hi : P.info? e with
    | none => rw [hi] at hb; simp at hb
    | some i => rw [hi] at hb; simp at hb; simp [hb.2.1]
  simp [execOp, ho, hval, hy, Instr.indexAt, asIntOf, run_underlying he, hj, hs]

theorem op_indexAddr_osl (hc : Conc O B w0 L R fr hp a) {t : TypeId} {x y : Operand} (ho : o.op = .indexAddr t x y) {k0 : IntKind} (ht : TyOk P t (.sl k0)) {nm : Nat} {lo len : Int} (hx : evF fr x = .osl nm lo len)
    {i : Int} {ob : Ob} (hi : ix stdAr (evF fr y) len = some (i, ob)) (hob : Obs ob) {ob' : Ob} :
    OpS P O B w0 L R fr hp n a o ⟨.pti nm 0 (lo + i), .none, ob'⟩ := by
  have hvx := hc.ev x
  rw [hx] at hvx
  obtain ⟨hal, lo', len', cap, rfl, rfl, ⟨ad, hval, had⟩, h1, h2, h3, _⟩ := hvx
  obtain ⟨ky, hy, hrg, h0, hlt⟩ := ix_spec hi hob (hc.ev y)
  obtain ⟨e, he, hu, b, hb, _⟩ := (ty_info ht (by simp)).2
  obtain ⟨j, rfl⟩ := Int.eq_ofNat_of_zero_le h0
  have hj : j < len' := by omega
  rw [had (by omega)] at hval
  refine OpS.value hc (v := .pointer (some ⟨R.ρ nm, lo' + j, none⟩)) ?_ ⟨hal, lo' + j, by simp, by omega, by simp⟩
  have hs : (sizeOf e).run P R.w = .ok 1 R.w := by
    refine info_size ?_
    cases hi : P.info? e with
    | none => rw [hi] at hb; simp at hb
    | some i => rw [hi] at hb; simp at hb; simp [hb.2.1]
  simp [execOp, ho, hval, hy, Instr.indexAt, asIntOf, run_underlying he, hj, hs, add_at]

theorem op_index (hc : Conc O B w0 L R fr hp a) {t : TypeId} {x y : Operand} (ho : o.op = .index t x y) {m : Nat} {k0 : IntKind} (ht : TyOk P t (.arr m k0)) {k : IntKind} {xs : List Int} (hx : evF fr x = .arr k m xs)
    {i : Int} {ob : Ob} (hi : ixS stdAr (evF fr y) m = some (i, ob)) (hob : Obs ob) {ob' : Ob} :
    OpS P O B w0 L R fr hp n a o ⟨.int k (stdAr.rd xs i), .none, ob'⟩ := by
  have hvx := hc.ev x
  rw [hx] at hvx
  obtain ⟨hval, h1, h2⟩ := hvx
  obtain ⟨ky, hy, hrg, h0, hlt⟩ := ixS_spec hi hob (hc.ev y)
  obtain ⟨⟨e, he, hie⟩, _⟩ := (ty_info ht (by simp)).2
  obtain ⟨j, rfl⟩ := Int.eq_ofNat_of_zero_le h0
  have hj : j < xs.length := by omega
  have hget := List.getElem?_eq_getElem hj
  refine OpS.value hc (v := .int k xs[j]) ?_ ?_
  · have hs : (sizeOf e).run P R.w = .ok 1 R.w := info_size hie.2
    have hag : (isAgg e).run P R.w = .ok false R.w := by unfold isAgg; rw [Sem.run_bind, run_underlying hie.1]; rfl
    have hcell : (ints k xs)[j]? = some (.int k xs[j]) := by rw [ints_get, hget]; rfl
    have hjm : j < m := by omega
    simp [execOp, ho, hval, hy, Instr.index, asIntOf, run_underlying he, hjm, hs, part, hag, hcell]
  · rw [rd_get hget]
    exact ⟨rfl, rgL_get h2 hget⟩

theorem fs_get : ∀ {sh : List Sh} {fs : List Field} {off f : Nat}, FsOk P sh off fs → f < sh.length → ∃ fd, fs[f]? = some fd ∧ fd.offset = off + fieldOff sh f ∧ (P.info? fd.type).map (·.size) = some (shSize (sh.getD f .other)) ∧ 0 < shSize (sh.getD f .other) ∧
      ∃ d, P.underlying fd.type = some d ∧ aggD d = isAggSh (sh.getD f .other)
  | [], _, _, _, _, h => by simp at h
  | s :: sh, [], _, _, h, _ => h.elim
  | s :: sh, fd :: fs, off, 0, h, _ => by
    obtain ⟨h1, h2, h3, h4, ⟨d, h5, h6, _⟩, h7⟩ := h
    exact ⟨fd, rfl, by simp [fieldOff, h1], by simpa using h3, by simpa using h4, d, h5, by simpa using h6⟩
  | s :: sh, fd :: fs, off, f + 1, h, hf => by
    obtain ⟨h1, h2, h3, h4, _, h7⟩ := h
    obtain ⟨fd', h8, h9, h10, h11, h12⟩ := fs_get h7 (show f < sh.length by simpa using hf)
    exact ⟨fd', by simpa using h8, by simp only [fieldOff]; omega, by simpa using h10, by simpa using h11, by simpa using h12⟩

theorem op_fieldAddr (hc : Conc O B w0 L R fr hp a) {t : TypeId} {x : Operand} {f : Nat} (ho : o.op = .fieldAddr t x f) {sh : List Sh} (ht : TyOk P t (.st sh)) {nm off : Nat} (hx : evF fr x = .ptr nm off) (hf : f < sh.length) {ob : Ob} :
    OpS P O B w0 L R fr hp n a o ⟨.ptr nm (off + fieldOff sh f), .none, ob⟩ := by
  have hvx := hc.ev x
  rw [hx] at hvx
  obtain ⟨hal, hval⟩ := hvx
  obtain ⟨⟨fs, he, hfs⟩, _⟩ := (ty_info ht (by simp)).2
  obtain ⟨fd, h1, h2, h3, h4, _⟩ := fs_get hfs hf
  refine OpS.value hc (v := .pointer (some ⟨R.ρ nm, off + fieldOff sh f, none⟩)) ?_ ⟨hal, rfl⟩
  have hs : (sizeOf fd.type).run P R.w = .ok (shSize (sh.getD f .other)) R.w := info_size h3
  have h1' : fs[f]? = some fd := by rw [← Array.getElem?_toList]; exact h1
  have hne : shSize (sh.getD f .other) ≠ 0 := by omega
  simp only [execOp, ho, hval, Instr.fieldAt, Sem.run_bind, run_underlying he, Result.andThen_ok, h1', Instr.sureAddr, fieldPlace, Sem.run_pure, hs, hne, if_false, h2, Nat.zero_add, add_at]

theorem op_field (hc : Conc O B w0 L R fr hp a) {t : TypeId} {x : Operand} {f : Nat} (ho : o.op = .field t x f) {sh : List Sh} (ht : TyOk P t (.st sh)) {l : List AV} (hx : evF fr x = .agg l) (hf : f < sh.length) {v : AV} (hch : chunkAt l (fieldOff sh f) = some v) (hfit : fits (sh.getD f .other) v = true) {ob : Ob} :
    OpS P O B w0 L R fr hp n a o ⟨v, .none, ob⟩ := by
  have hvx := hc.ev x
  rw [hx] at hvx
  obtain ⟨cs, hval, hcs⟩ := hvx
  obtain ⟨⟨fs, he, hfs⟩, _⟩ := (ty_info ht (by simp)).2
  obtain ⟨fd, h1, h2, h3, h4, d, h5, h6⟩ := fs_get hfs hf
  have hs : (sizeOf fd.type).run P R.w = .ok (shSize (sh.getD f .other)) R.w := info_size h3
  have h1' : fs[f]? = some fd := by rw [← Array.getElem?_toList]; exact h1
  have hag : (isAgg fd.type).run P R.w = .ok (isAggSh (sh.getD f .other)) R.w := by
    unfold isAgg; rw [Sem.run_bind, run_underlying h5, ← h6]; cases d <;> rfl
  obtain ⟨r, hr⟩ := chunkAt_drop hch
  obtain ⟨pre, h7, h8, h9⟩ := hcs.dropC hr
  cases hsa : isAggSh (sh.getD f .other) with
  | true =>
    generalize sh.getD f .other = s at *
    cases s with
    | arr m k =>
      obtain ⟨xs, rfl⟩ := fits_arr hfit
      obtain ⟨cs', h10, h11, h12, _⟩ := h9
      refine OpS.value hc (v := .agg (ints k xs).toArray) ?_ ⟨rfl, h11, h12⟩
      simp only [execOp, ho, hval, Instr.field, Sem.run_bind, run_underlying he, Result.andThen_ok, h1', asAgg, Sem.run_pure, part, hag, hsa, if_true, hs]
      congr 3
      apply Array.ext'
      simp only [Array.toList_extract, List.extract_eq_take_drop, Nat.add_sub_cancel_left, h2, Nat.zero_add, shSize]
      rw [h10, List.take_left' (by rw [cells_ints]; exact h11)]
    | st l => simp [fits] at hfit
    | _ => simp [isAggSh] at hsa
  | false =>
    obtain ⟨h10, h11⟩ := fits_scalar hfit hsa
    rw [CRL.cons h11] at h9
    obtain ⟨u, cs', h12, h13, h14, h15, _⟩ := h9
    refine OpS.value hc (v := u) ?_ (VR.ofVR0 h13)
    have hcell : cs[fieldOff sh f]? = some u := by
      have := congrArg (fun z => z[0]?) h12
      simpa using this
    simp only [execOp, ho, hval, Instr.field, Sem.run_bind, run_underlying he, Result.andThen_ok, h1', asAgg, Sem.run_pure, part, hag, hsa, Bool.false_eq_true, if_false, h2, Nat.zero_add]
    simp [hcell]
end
end Go.Proofs.SX

namespace Go.Proofs.SX
open Go Go.RowKit
set_option linter.unusedVariables false
set_option linter.unusedSimpArgs false

section
variable {P : Program} {O : Nat → Prop} {B : Bd} {w0 : World} {L : Nat} {R : RC} {fr : Nat → AV} {hp : Nat → Blk} {n : Nat} {a : Act} {o : Oper} {c : Cx}

theorem fold_set (off : Nat) : ∀ (vc : List Value) (j : Nat) (cs : List Value), off + j + vc.length ≤ cs.length →
    ((vc.zipIdx j).foldl (fun (acc : Array Value) (p : Value × Nat) => acc.setIfInBounds (off + p.2) p.1) cs.toArray) = (cs.take (off + j) ++ vc ++ cs.drop (off + j + vc.length)).toArray
  | [], j, cs, h => by simp
  | v :: vc, j, cs, h => by
    simp only [List.length_cons] at h
    have hj : off + j < cs.length := by omega
    rw [List.zipIdx_cons, List.foldl_cons]
    simp only [List.setIfInBounds_toArray]
    rw [fold_set off vc (j + 1) (cs.set (off + j) v) (by simp; omega)]
    congr 1
    rw [show off + (j + 1) = off + j + 1 by omega, List.length_cons, show off + j + (vc.length + 1) = off + j + 1 + vc.length by omega]
    have e1 : (cs.set (off + j) v).take (off + j + 1) = cs.take (off + j) ++ [v] := by
      rw [List.set_eq_take_append_cons_drop, if_pos hj, List.take_append, List.take_of_length_le (by simp; omega)]
      have : off + j + 1 - (cs.take (off + j)).length = 1 := by simp; omega
      rw [this]; simp
    have e2 : (cs.set (off + j) v).drop (off + j + 1 + vc.length) = cs.drop (off + j + 1 + vc.length) := by
      rw [List.drop_set_of_lt (by omega)]
    rw [e1, e2]; simp

theorem fill_step {place : Nat → Option (Nat × Nat)} {cs vc : List Value} {i off size : Nat} {v : Value} {rest : List (Nat × Value)} (hp : place i = some (off, size)) (hv : v.cells.toList = vc) (hs : vc.length = size) (hle : off + vc.length ≤ cs.length) :
    Instr.fill place cs.toArray ((i, v) :: rest) = Instr.fill place (cs.take off ++ vc ++ cs.drop (off + vc.length)).toArray rest := by
  have hsz : v.cells.size = vc.length := by rw [← hv]; simp
  simp only [Instr.fill, hp, hsz]
  rw [if_neg (by simp; omega)]
  congr 1
  have := fold_set off vc 0 cs (by omega)
  rw [Nat.add_zero] at this
  rw [← this, ← hv, ← Array.foldl_toList, Array.toList_zipIdx]

theorem setI_eq : ∀ (xs : List Int) (i : Nat) (x : Int), setI xs i x = xs.set i x
  | [], _, _ => rfl
  | _ :: _, 0, _ => rfl
  | y :: l, i + 1, x => by simp [setI, setI_eq l i x]
theorem rep0_eq : ∀ n, rep0 n = List.replicate n (0 : Int)
  | 0 => rfl
  | n + 1 => by simp [rep0, rep0_eq n, List.replicate_succ]

theorem take_set_drop {xs : List Int} {k : IntKind} {i : Nat} {x : Int} (h : i < xs.length) : (ints k xs).take i ++ [.int k x] ++ (ints k xs).drop (i + 1) = ints k (xs.set i x) := by
  unfold ints
  rw [List.map_set, List.set_eq_take_append_cons_drop, if_pos (by simpa using h)]
  simp

/-- An array's literal. -/
theorem fill_arr (hc : Conc O B w0 L R fr hp a) {k : IntKind} {m : Nat} : ∀ (ps : List (Nat × Operand)) {xs ys : List Int}, xs.length = m → RgL k xs → setParts stdAr k m xs (evP (evF fr) ps) = some ys →
    Instr.fill (fun i => some (i * 1, 1)) (ints k xs).toArray (ps.map fun p => (p.1, a.eval p.2)) = some (ints k ys).toArray ∧ ys.length = m ∧ RgL k ys
  | [], xs, ys, hl, hr, h => by
    simp only [evP, setParts, Option.some.injEq] at h
    subst h
    exact ⟨rfl, hl, hr⟩
  | (i, x) :: ps, xs, ys, hl, hr, h => by
    simp only [evP, setParts] at h
    split at h
    · rename_i hi
      rw [leN_eq] at hi
      split at h
      · rename_i k' y hy
        split at h
        · rename_i hk
          rw [kindEq_iff] at hk
          subst hk
          obtain ⟨hv, hrg⟩ := (hc.ev x).toI (A := stdAr) rfl hy
          rw [setI_eq] at h
          obtain ⟨h1, h2, h3⟩ := fill_arr hc ps (by simpa using hl) (rgL_set hr i hrg) h
          refine ⟨?_, h2, h3⟩
          rw [List.map_cons]
          rw [fill_step (off := i * 1) (size := 1) (vc := [.int k y]) rfl (by simp only [hv]; rfl) rfl (by rw [cells_ints]; simp; omega)]
          rw [show ([Value.int k y].length) = 1 from rfl, show i * 1 = i from Nat.mul_one i, take_set_drop (by omega)]
          exact h1
        · simp at h
      · simp at h
    · simp at h

theorem op_build_arr (hc : Conc O B w0 L R fr hp a) {t : TypeId} {ps : Array (Nat × Operand)} (ho : o.op = .build t ps) {m : Nat} {k : IntKind} (ht : TyOk P t (.arr m k)) {xs : List Int} (h : setParts stdAr k m (rep0 m) (evP (evF fr) ps.toList) = some xs) {ob : Ob} :
    OpS P O B w0 L R fr hp n a o ⟨.arr k m xs, .none, ob⟩ := by
  rw [rep0_eq] at h
  obtain ⟨h1, h2, h3⟩ := fill_arr hc ps.toList (by simp) (rgL_zeros k m) h
  obtain ⟨⟨e, he, hie⟩, _⟩ := (ty_info ht (by simp)).2
  refine OpS.value hc (v := .agg (ints k xs).toArray) ?_ ⟨rfl, h2, h3⟩
  have hz := ty_zero (w := R.w) ht (by simp)
  have hs : (sizeOf e).run P R.w = .ok 1 R.w := info_size hie.2
  have hzc : (zval (.arr m k)).cells = (ints k (List.replicate m 0)).toArray := by simp [zval, isAggSh, Value.cells, zcells, ints_zeros]
  simp only [execOp, ho, Instr.build, Sem.run_bind, hz, Result.andThen_ok, run_underlying he, hs, hzc]
  have hmap : (ps.map fun x => (x.1, a.eval x.2)).toList = ps.toList.map fun p => (p.1, a.eval p.2) := by simp
  have h1' : Instr.fill (fun i => some (i * 1, 1)) (ints k (List.replicate m 0)).toArray (ps.map fun x => (x.1, a.eval x.2)).toList = some (ints k xs).toArray := by rw [hmap]; exact h1
  simp only [h1']
  rfl

/-! ### Lengths -/
theorem op_len_sli (hc : Conc O B w0 L R fr hp a) {cl : Call} (ho : o.op = .call cl) (hb : cl.callee = .builtin .len) {x : Operand} (hargs : cl.args = #[x]) {t : TypeId} (htys : cl.argTypes = #[t]) {k0 : IntKind} (ht : TyOk P t (.sl k0))
    {v : AV} (h : (∃ k xs, evF fr x = .sli k xs ∧ v = .int .i64 (xs.length : Int)) ∨ (∃ nm lo len, evF fr x = .osl nm lo len ∧ v = .int .i64 len)) {ob : Ob} :
    OpS P O B w0 L R fr hp n a o ⟨v, .none, ob⟩ := by
  obtain ⟨e, he, hu, b, hb', _⟩ := (ty_info ht (by simp)).2
  have small : ∀ m : Nat, m ≤ 9223372036854775807 → Rg .i64 m := fun m hm => rg_lit .i64 m (by simp [kmax]; omega)
  have run : ∀ {ad : Option Addr} {ln cap : Nat}, a.eval x = .slice ad ln cap → (execOp a.eval o).run P R.w = .ok (.value (.int .i64 (ln : Int))) R.w := by
    intro ad ln cap hv
    simp [execOp, ho, resolve, hb, invoke, builtin, Builtin.len_, hargs, htys, hv, run_underlying he, goInt]
  have hx := hc.ev x
  rcases h with ⟨k, xs, hxe, rfl⟩ | ⟨nm, lo, len, hxe, rfl⟩ <;> rw [hxe] at hx
  · obtain ⟨ad, cap, hv, h1, h2, _⟩ := hx
    exact OpS.value hc (run hv) ⟨rfl, small _ h2⟩
  · obtain ⟨hal, lo', len', cap, rfl, rfl, ⟨ad, hv, _⟩, h1, h2, h3, h4⟩ := hx
    exact OpS.value hc (run hv) ⟨rfl, small _ h4⟩
end
end Go.Proofs.SX

namespace Go.Proofs.SX
open Go Go.RowKit
set_option linter.unusedVariables false
set_option linter.unusedSimpArgs false

section
variable {P : Program} {O : Nat → Prop} {B : Bd} {w0 : World} {L : Nat} {R : RC} {fr : Nat → AV} {hp : Nat → Blk} {n : Nat} {a : Act} {o : Oper} {c : Cx}

theorem bnd_spec (hc : Conc O B w0 L R fr hp a) {d x : Int} {b : Option Operand} (h : bnd stdAr (evF fr) d b = some x) : (b = none ∧ x = d) ∨ ∃ p k, b = some p ∧ a.eval p = .int k x := by
  cases b with
  | none => simp only [bnd, Option.some.injEq] at h; exact .inl ⟨rfl, h.symm⟩
  | some p =>
    simp only [bnd] at h
    split at h
    · rename_i k y hy
      simp only [Option.some.injEq] at h
      subst h
      exact .inr ⟨p, k, rfl, ((hc.ev p).toI (A := stdAr) rfl hy).1⟩
    · simp at h

/-- The bounds that the model finds. -/
theorem bnds_run (hc : Conc O B w0 L R fr hp a) {lo hi : Option Operand} {len cap : Nat} {isS : Bool} {l h : Int} {ob : Ob} (hb : bnds stdAr (evF fr) lo hi (len : Int) = some (l, h, ob)) (ho : Obs ob) (hlc : len ≤ cap) (w : World) :
    ∃ l' h' : Nat, l = l' ∧ h = h' ∧ l' ≤ h' ∧ h' ≤ len ∧ (Instr.sliceBounds isS len cap (lo.map a.eval) (hi.map a.eval) none).run P w = .ok (l', h', cap) w := by
  unfold bnds at hb
  split at hb
  · rename_i x y hx hy
    simp only [Option.some.injEq, Prod.mk.injEq] at hb
    obtain ⟨rfl, rfl, rfl⟩ := hb
    have h1 := ho (stdAr.cmp .leq 0 x, true) (by simp)
    have h2 := ho (stdAr.cmp .leq x y, true) (by simp)
    have h3 := ho (stdAr.cmp .leq y (len : Int), true) (by simp)
    simp [stdAr] at h1 h2 h3
    obtain ⟨l', rfl⟩ := Int.eq_ofNat_of_zero_le h1
    obtain ⟨h', rfl⟩ := Int.eq_ofNat_of_zero_le (a := y) (by omega)
    refine ⟨l', h', rfl, rfl, by omega, by omega, ?_⟩
    rcases bnd_spec hc hx with ⟨rfl, h4⟩ | ⟨p, k, rfl, h4⟩ <;> rcases bnd_spec hc hy with ⟨rfl, h5⟩ | ⟨q, k', rfl, h5⟩
    · have e1 : l' = 0 := by simp [stdAr] at h4; omega
      have e2 : h' = len := by omega
      subst e1 e2
      simp [Instr.sliceBounds]
    · have e1 : l' = 0 := by simp [stdAr] at h4; omega
      subst e1
      have : (h' : Int) ≤ cap := by omega
      simp [Instr.sliceBounds, h5, run_sliceBound, this]
    · have e2 : h' = len := by omega
      subst e2
      have : (l' : Int) ≤ h' := by omega
      simp [Instr.sliceBounds, h4, run_sliceBound, this]
    · have e1 : (l' : Int) ≤ h' := by omega
      have : (h' : Int) ≤ cap := by omega
      simp [Instr.sliceBounds, h4, h5, run_sliceBound, this, e1]
  · simp at hb

theorem add_add (ad : Addr) (i j : Nat) : (ad.add i).add j = ad.add (i + j) := by
  unfold Addr.add
  by_cases hi : i = 0
  · subst hi; simp
  · by_cases hj : j = 0
    · subst hj; simp
    · rw [if_neg hi, if_neg hj, if_neg (by omega)]
      simp [Nat.add_assoc]

theorem elem_size {t : TypeId} {k : IntKind} (ht : TyOk P t (.sl k)) (w : World) : ∃ e, P.underlying t = some (.slice e) ∧ (sizeOf e).run P w = .ok 1 w := by
  obtain ⟨e, he, hu, b, hb, _⟩ := (ty_info ht (by simp)).2
  refine ⟨e, he, info_size ?_⟩
  cases hi : P.info? e with
  | none => rw [hi] at hb; simp at hb
  | some i => rw [hi] at hb; simp at hb; simp [hb.2.1]

theorem op_slice_sli (hc : Conc O B w0 L R fr hp a) {t : TypeId} {x : Operand} {lo hi : Option Operand} (ho : o.op = .slice t x lo hi none) {k0 : IntKind} (ht : TyOk P t (.sl k0)) {k : IntKind} {xs : List Int} (hx : evF fr x = .sli k xs)
    {l h : Int} {ob : Ob} (hb : bnds stdAr (evF fr) lo hi (stdAr.len xs) = some (l, h, ob)) (hob : Obs ob) {ob' : Ob} :
    OpS P O B w0 L R fr hp n a o ⟨.sli k (stdAr.sub xs l h), .none, ob'⟩ := by
  have hvx := hc.ev x
  rw [hx] at hvx
  obtain ⟨ad0, cap, hval, h1, h2, h3, h4⟩ := hvx
  obtain ⟨e, he, hs⟩ := elem_size ht R.w
  obtain ⟨l', h', rfl, rfl, h5, h6, h7⟩ := bnds_run (P := P) (isS := true) (cap := cap) hc hb hob h1 R.w
  have hsub : stdAr.sub xs (l' : Int) (h' : Int) = (xs.drop l').take (h' - l') := by
    simp only [stdAr, Int.toNat_natCast]
  have hl : ((xs.drop l').take (h' - l')).length = h' - l' := by simp; omega
  rw [hsub]
  refine OpS.value hc (v := .slice (if cap = l' then ad0 else ad0.map (·.add l')) (h' - l') (cap - l')) ?_ ?_
  · simp [execOp, ho, hval, Instr.sliceAt, Instr.slice, run_underlying he, h7, hs]
  · refine ⟨_, _, by rw [hl], by omega, by omega, rgL_sub h3 _ _, fun hne => ?_⟩
    have hpos : 0 < h' - l' := by
      rcases Nat.eq_zero_or_pos (h' - l') with h0 | h0
      · exact absurd (List.eq_nil_of_length_eq_zero (by rw [hl]; exact h0)) hne
      · exact h0
    obtain ⟨ad, rfl, hrd⟩ := h4 (by intro e; subst e; simp at h6; omega)
    refine ⟨ad.add l', by rw [if_neg (by omega)]; rfl, ⟨fun j y hj => ?_, by rw [block_add]; exact hrd.far⟩⟩
    rw [add_add]
    refine hrd.cell _ _ ?_
    rw [List.getElem?_take] at hj
    split at hj
    · rw [List.getElem?_drop] at hj; exact hj
    · simp at hj

theorem op_slice_osl (hc : Conc O B w0 L R fr hp a) {t : TypeId} {x : Operand} {lo hi : Option Operand} (ho : o.op = .slice t x lo hi none) {k0 : IntKind} (ht : TyOk P t (.sl k0)) {nm : Nat} {lo0 len : Int} (hx : evF fr x = .osl nm lo0 len)
    {l h : Int} {ob : Ob} (hb : bnds stdAr (evF fr) lo hi len = some (l, h, ob)) (hob : Obs ob) {ob' : Ob} :
    OpS P O B w0 L R fr hp n a o ⟨.osl nm (stdAr.plus lo0 l) (stdAr.diff h l), .none, ob'⟩ := by
  have hvx := hc.ev x
  rw [hx] at hvx
  obtain ⟨hal, lo', len', cap, rfl, rfl, ⟨ad, hval, had⟩, h1, h2, h3, h4⟩ := hvx
  obtain ⟨e, he, hs⟩ := elem_size ht R.w
  obtain ⟨l', h', rfl, rfl, h5, h6, h7⟩ := bnds_run (P := P) (isS := true) (cap := cap) hc hb hob h1 R.w
  refine OpS.value hc (v := .slice (some (if cap = l' then ad else ad.add l')) (h' - l') (cap - l')) ?_ ?_
  · simp [execOp, ho, hval, Instr.sliceAt, Instr.slice, run_underlying he, h7, hs]
    by_cases hcl : cap = l' <;> simp [hcl]
  · refine ⟨hal, lo' + l', h' - l', cap - l', by simp [stdAr], by simp [stdAr]; omega, ⟨_, rfl, fun hne => ?_⟩, by omega, by omega, by omega, by omega⟩
    rw [if_neg (by omega), had (by omega), add_at]

theorem op_slice_arr (hc : Conc O B w0 L R fr hp a) {t : TypeId} {x : Operand} {lo hi : Option Operand} (ho : o.op = .slice t x lo hi none) {m : Nat} {k0 : IntKind} (ht : TyOk P t (.arr m k0)) {nm : Nat} (hx : evF fr x = .ptr nm 0)
    {k : IntKind} {xs : List Int} (hbk : hp nm = .cells [.arr k m xs]) (hm : m ≤ 9223372036854775807) {l h : Int} {ob : Ob} (hb : bnds stdAr (evF fr) lo hi (stdAr.ofNat m) = some (l, h, ob)) (hob : Obs ob) {ob' : Ob} :
    OpS P O B w0 L R fr hp n a o ⟨.osl nm l (stdAr.diff h l), .none, ob'⟩ := by
  have hvx := hc.ev x
  rw [hx] at hvx
  obtain ⟨hal, hval⟩ := hvx
  obtain ⟨⟨e, he, hie⟩, _⟩ := (ty_info ht (by simp)).2
  have hs : (sizeOf e).run P R.w = .ok 1 R.w := info_size hie.2
  obtain ⟨l', h', rfl, rfl, h5, h6, h7⟩ := bnds_run (P := P) (isS := false) (cap := m) hc hb hob (Nat.le_refl _) R.w
  obtain ⟨cs, ty, g1, g2, g3, g4, _⟩ := hc.blk hbk
  have hln : R.ln nm 0 = m := by rw [g4]; simp [lenAt, chunkAt, dropC]
  have hrs : R.rs nm = m := by rw [← g3, g2.length]; simp [chSizes, chSize]
  refine OpS.value hc (v := .slice (some (if m = l' then ⟨R.ρ nm, 0, none⟩ else (⟨R.ρ nm, 0, none⟩ : Addr).add l')) (h' - l') (m - l')) ?_ ?_
  · simp [execOp, ho, hval, Instr.sliceAt, Instr.sureAddr, run_underlying he, h7, hs]
  · refine ⟨hal, l', h' - l', m - l', rfl, by simp [stdAr]; omega, ⟨_, rfl, fun hne => ?_⟩, by omega, by omega, by omega, by omega⟩
    rw [if_neg (by omega), add_at, Nat.zero_add]

theorem op_s2a (hc : Conc O B w0 L R fr hp a) {t : TypeId} {x : Operand} (ho : o.op = .sliceToArrayPointer t x) {m : Nat} {k0 : IntKind} (ht : TyOk P t (.arr m k0)) (hm : 1 ≤ m) {nm : Nat} {lo len : Int} (hx : evF fr x = .osl nm lo len)
    (hob : stdAr.cmp .leq (stdAr.ofNat m) len = true) {ob' : Ob} :
    OpS P O B w0 L R fr hp n a o ⟨.pta nm lo m, .none, ob'⟩ := by
  have hvx := hc.ev x
  rw [hx] at hvx
  obtain ⟨hal, lo', len', cap, rfl, rfl, ⟨ad, hval, had⟩, h1, h2, h3, h4⟩ := hvx
  obtain ⟨⟨e, he, hie⟩, _⟩ := (ty_info ht (by simp)).2
  simp [stdAr] at hob
  have hlt : ¬ len' < m := by omega
  rw [had (by omega)] at hval
  refine OpS.value hc (v := .pointer (some ⟨R.ρ nm, lo', none⟩)) ?_ ⟨hal, lo', rfl, by omega, rfl⟩
  simp [execOp, ho, hval, Instr.arrayAt, run_underlying he, hlt]
end
end Go.Proofs.SX

namespace Go.Proofs.SX
open Go Go.RowKit
set_option linter.unusedVariables false
set_option linter.unusedSimpArgs false

/-- Nothing is the call's own. -/
def RC0 (own : Nat → Prop) (w : World) : RC := { own := own, al := fun _ => False, ρ := id, ln := fun _ _ => 0, rs := fun _ => 0, w := w }

/-- A call, whether it has a body or not. -/
def CallsX (P : Program) (f : FuncId) (args : Array Value) (w : World) (S : Ending → World → Prop) : Prop :=
  match (callFunc f args).run P w with
  | .ok (.enter f' args') w' => Calls P f' args' w' S
  | .ok (.value v) w' => S (.returned v) w'
  | _ => False

/-- What a call answers, whatever the memory. -/
def FCall (P : Program) (f : FuncId) (args : List AV) (r : AV) : Prop :=
  ∀ (own : Nat → Prop) (w : World) (vs : List Value), (∀ b, own b → b < w.heap.size) → VRL (RC0 own w) args vs →
    CallsX P f vs.toArray w fun e w' => ∃ v, e = .returned v ∧ VR (RC0 own w') r v ∧ Below w.heap.size w w'

/-- A slice's value at a block. -/
def SlAt (b tot ln : Nat) (lo len : Int) (v : Value) : Prop :=
  ∃ lo' len' cap : Nat, lo = lo' ∧ len = len' ∧ (∃ ad : Addr, v = .slice (some ad) len' cap ∧ (cap ≠ 0 → ad = ⟨b, lo', none⟩)) ∧ len' ≤ cap ∧ lo' + cap ≤ tot ∧ lo' + len' ≤ ln ∧ len' ≤ 9223372036854775807

/-- Behind a call that turns one row alone. -/
def MPost (w : World) (b : Nat) (k : IntKind) (xs : List Int) (rest : List Value) (r : AV) (xs' : List Int) (v : Value) (w' : World) : Prop :=
  VR (RC0 (fun _ => False) w') r v ∧ xs'.length = xs.length ∧ RgL k xs' ∧ (∃ (rest' : List Value) (ty' : TypeId), w'.heap[b]? = some (.cells (ints k xs' ++ rest').toArray ty' (0, 0)) ∧ rest'.length = rest.length) ∧
    w'.os = w.os ∧ w'.tape = w.tape ∧ w'.output = w.output ∧ w.heap.size ≤ w'.heap.size ∧ ∀ i, i < w.heap.size → i ≠ b → w'.heap[i]? = w.heap[i]?

/-- What a call answers that turns the numbers of its first argument, a slice of a row of the caller's. -/
def MCall (P : Program) (f : FuncId) (k : IntKind) (xs : List Int) (lo len : Int) (args : List AV) (r : AV) (xs' : List Int) : Prop :=
  ∀ (b : Nat) (w : World) (v0 : Value) (vs : List Value) (rest : List Value) (ty : TypeId), w.heap[b]? = some (.cells (ints k xs ++ rest).toArray ty (0, 0)) → RgL k xs → SlAt b (xs.length + rest.length) xs.length lo len v0 → VRL (RC0 (fun x => x = b) w) args vs →
    CallsX P f (v0 :: vs).toArray w fun e w' => ∃ v, e = .returned v ∧ MPost w b k xs rest r xs' v w'

/-- All contracts of a table hold. -/
structure GOk (P : Program) (G : FuncId → Option Con) : Prop where
  fn : ∀ f g args r ob, G f = some (.fn g) → g args = some (r, ob) → Obs ob → FCall P f args r
  mt : ∀ f g k xs lo len args r xs' ob, G f = some (.mut g) → g k xs lo len args = some (r, xs', ob) → Obs ob → MCall P f k xs lo len args r xs'

section
variable {P : Program} {O : Nat → Prop} {B : Bd} {w0 : World} {L : Nat} {R : RC} {fr : Nat → AV} {hp : Nat → Blk} {n : Nat} {a : Act} {o : Oper} {c : Cx}

theorem VR0.close {R R' : RC} (hw : R'.w = R.w) (ho : ∀ b, R'.own b → R.own b) {x : AV} {v : Value} (hx : closedC x = true) (h : VR0 R x v) : VR0 R' x v := by
  have rd : ∀ {k : IntKind} {xs : List Int} {ad : Addr}, Rd R k xs ad → Rd R' k xs ad := fun h => ⟨fun j x hj => by rw [hw]; exact h.cell j x hj, fun hb => h.far (ho _ hb)⟩
  cases x with
  | sli k xs =>
    obtain ⟨ad, cap, hv, h1, h2, h3, h4⟩ := h
    exact ⟨ad, cap, hv, h1, h2, h3, fun hne => let ⟨ad, ha, hr⟩ := h4 hne; ⟨ad, ha, rd hr⟩⟩
  | rpi k xs i =>
    obtain ⟨ad, j, x, h1, h2, h3, h4, h5, h6⟩ := h
    exact ⟨ad, j, x, h1, h2, h3, h4, by rw [hw]; exact h5, fun hb => h6 (ho _ hb)⟩
  | rpa k xs =>
    obtain ⟨h1, p, hp, h2⟩ := h
    exact ⟨h1, p, hp, fun hne => let ⟨ad, ha, hr⟩ := h2 hne; ⟨ad, ha, rd hr⟩⟩
  | itd f k xs =>
    obtain ⟨ad, u, h1, h2, h3, a, cap, h4, h5, h6, h7, h8⟩ := h
    exact ⟨ad, u, h1, by rw [hw]; exact h2, fun hb => h3 (ho _ hb), a, cap, h4, h5, h6, h7, fun hne => let ⟨ad, ha, hr⟩ := h8 hne; ⟨ad, ha, rd hr⟩⟩
  | osl nm lo len => simp [closedC] at hx
  | ptr nm off => simp [closedC] at hx
  | pti nm off i => simp [closedC] at hx
  | pta nm lo m => simp [closedC] at hx
  | any => simp [closedC] at hx
  | agg l => simp [closedC] at hx
  | tup l => simp [closedC] at hx
  | _ => exact h

theorem CRL.close {R R' : RC} (hw : R'.w = R.w) (ho : ∀ b, R'.own b → R.own b) : ∀ {l : List AV} {cs : List Value}, closedL l = true → CRL R l cs → CRL R' l cs
  | [], _, _, h => h
  | x :: l, cs, hl, h => by
    simp only [closedL, Bool.and_eq_true] at hl
    by_cases hx : ∃ k n xs, x = .arr k n xs
    · obtain ⟨k, n, xs, rfl⟩ := hx
      obtain ⟨cs', h1, h2, h3, h4⟩ := h
      exact ⟨cs', h1, h2, h3, CRL.close hw ho hl.2 h4⟩
    · have hx' : ∀ k n xs, x ≠ .arr k n xs := fun k n xs he => hx ⟨k, n, xs, he⟩
      rw [CRL.cons hx'] at h ⊢
      obtain ⟨v, cs', h1, h2, h3, h4, h5⟩ := h
      exact ⟨v, cs', h1, h2.close hw ho hl.1, h3, h4, CRL.close hw ho hl.2 h5⟩

theorem VR.toVR0' {x : AV} {v : Value} (h : VR R x v) (hx : closedC x = true) : VR0 R x v := by
  cases x <;> first | exact h | exact absurd hx (by simp [closedC])

theorem closeAV_spec (hc : Conc O B w0 L R fr hp a) {own : Nat → Prop} (ho : ∀ b, own b → R.own b) {x y : AV} {v : Value} (hno : ∀ nm lo len, x = .osl nm lo len → ¬ own (R.ρ nm)) (hx : VR R x v) (h : closeAV stdAr hp x = some y) : VR1 (RC0 own R.w) y v := by
  have lift : ∀ {z : AV} {u : Value}, closedC z = true → VR R z u → VR1 (RC0 own R.w) z u := by
    intro z u hz hu
    have := VR0.close (R := R) (R' := RC0 own R.w) rfl ho hz (hu.toVR0' hz)
    cases z <;> first | exact this | exact absurd hz (by simp [closedC])
  unfold closeAV at h
  split at h
  · rename_i nm lo len
    split at h
    · rename_i k xs hb
      simp only [Option.some.injEq] at h
      subst h
      obtain ⟨hal, lo', len', cap, rfl, rfl, ⟨ad, hv, had⟩, h1, h2, h3, h4⟩ := hx
      obtain ⟨h5, h6, h7⟩ := hc.nums hb
      rw [h6] at h3
      have hsub : stdAr.sub xs (lo' : Int) (stdAr.plus (lo' : Int) (len' : Int)) = (xs.drop lo').take len' := by
        simp only [stdAr]
        congr 1
        omega
      rw [hsub]
      have hl : ((xs.drop lo').take len').length = len' := by simp; omega
      refine ⟨some ad, cap, by rw [hl]; exact hv, by rw [hl]; exact h1, by rw [hl]; exact h4, rgL_sub h5 _ _, fun hne => ⟨_, rfl, ?_⟩⟩
      have hcap : cap ≠ 0 := by
        intro e
        apply hne
        apply List.eq_nil_of_length_eq_zero
        omega
      rw [had hcap]
      refine ⟨fun j x hj => ?_, hno nm _ _ rfl⟩
      rw [add_at]
      refine h7 _ _ ?_
      rw [List.getElem?_take] at hj
      split at hj
      · rw [List.getElem?_drop] at hj; exact hj
      · simp at hj
    · simp at h
  · split at h
    · rename_i l hl
      simp only [Option.some.injEq] at h
      subst h
      obtain ⟨cs, rfl, hcs⟩ := hx
      exact ⟨cs, rfl, CRL.close (R := R) (R' := RC0 own R.w) rfl ho hl hcs⟩
    · simp at h
  · split at h
    · rename_i hz
      simp only [Option.some.injEq] at h
      subst h
      exact lift hz hx
    · simp at h

theorem closeL_spec (hc : Conc O B w0 L R fr hp a) {own : Nat → Prop} (ho : ∀ b, own b → R.own b) : ∀ {os : List Operand} {l : List AV}, (∀ nm lo len, AV.osl nm lo len ∈ evL (evF fr) os → ¬ own (R.ρ nm)) → closeL stdAr hp (evL (evF fr) os) = some l → VRL (RC0 own R.w) l (os.map a.eval)
  | [], l, _, h => by simp only [evL, closeL, Option.some.injEq] at h; subst h; rfl
  | x :: os, l, hno, h => by
    simp only [evL, closeL] at h
    simp only [evL] at hno
    split at h
    · rename_i y hy
      split at h
      · rename_i r hr
        simp only [Option.some.injEq] at h
        subst h
        exact ⟨a.eval x, _, rfl, closeAV_spec hc ho (fun nm lo len e => hno nm lo len (by rw [e]; simp)) (hc.ev x) hy, closeL_spec hc ho (fun nm lo len hm => hno nm lo len (by simp [hm])) hr⟩
      · simp at h
    · simp at h

theorem hasOwn_mem : ∀ {l : List AV}, hasOwn l = false → ∀ nm lo len, AV.osl nm lo len ∉ l
  | [], _, _, _, _ => by simp
  | x :: l, h, nm, lo, len => by
    intro hm
    rcases List.mem_cons.1 hm with e | hm
    · subst e; simp [hasOwn] at h
    · have : hasOwn l = false := by cases x <;> simp [hasOwn] at h <;> exact h
      exact hasOwn_mem this nm lo len hm
theorem nmsOf_osl : ∀ {l : List AV} {nm : Nat} {lo len : Int}, AV.osl nm lo len ∈ l → nm ∈ nmsOf l
  | [], _, _, _, h => by simp at h
  | x :: l, nm, lo, len, h => by
    simp only [nmsOf, List.mem_append]
    rcases List.mem_cons.1 h with e | hm
    · subst e; left; simp [nmOf]
    · exact .inr (nmsOf_osl hm)
theorem mem_iff : ∀ {l : List Nat} {x : Nat}, mem x l = true ↔ x ∈ l
  | [], x => by simp [mem]
  | y :: l, x => by simp [mem, mem_iff]

/-! ### Values without memory -/
theorem VR0.dry {R' : RC} {x : AV} {v : Value} (hx : dry0 x = true) (h : VR0 R x v) : VR0 R' x v := by
  cases x <;> first | (simp [dry0] at hx; done) | exact h
theorem CRL.dry {R' : RC} : ∀ {l : List AV} {cs : List Value}, dryL l = true → CRL R l cs → CRL R' l cs
  | [], _, _, h => h
  | x :: l, cs, hl, h => by
    simp only [dryL, Bool.and_eq_true] at hl
    by_cases hx : ∃ k n xs, x = .arr k n xs
    · obtain ⟨k, n, xs, rfl⟩ := hx
      obtain ⟨cs', h1, h2, h3, h4⟩ := h
      exact ⟨cs', h1, h2, h3, CRL.dry hl.2 h4⟩
    · have hx' : ∀ k n xs, x ≠ .arr k n xs := fun k n xs he => hx ⟨k, n, xs, he⟩
      rw [CRL.cons hx'] at h ⊢
      obtain ⟨v, cs', h1, h2, h3, h4, h5⟩ := h
      exact ⟨v, cs', h1, h2.dry hl.1, h3, h4, CRL.dry hl.2 h5⟩
theorem VR1.dry {R' : RC} {x : AV} {v : Value} (hx : dry1 x = true) (h : VR1 R x v) : VR1 R' x v := by
  cases x with
  | agg l => obtain ⟨cs, h1, h2⟩ := h; exact ⟨cs, h1, h2.dry hx⟩
  | _ => simp only [VR1, dry1] at hx h ⊢; exact h.dry hx
theorem VRL.dry {R' : RC} : ∀ {l : List AV} {vs : List Value}, dry1L l = true → VRL R l vs → VRL R' l vs
  | [], _, _, h => h
  | _ :: _, _, hl, h => by
    simp only [dry1L, Bool.and_eq_true] at hl
    obtain ⟨v, vs', h1, h2, h3⟩ := h
    exact ⟨v, vs', h1, h2.dry hl.1, VRL.dry hl.2 h3⟩
theorem VR.dry {R' : RC} {x : AV} {v : Value} (hx : dry x = true) (h : VR R x v) : VR R' x v := by
  cases x with
  | tup l => obtain ⟨vs, h1, h2⟩ := h; exact ⟨vs, h1, h2.dry hx⟩
  | _ => simp only [VR, SX.dry] at hx h ⊢; exact h.dry hx

/-- What comes back, seen from the caller. -/
theorem Ext.back (R : RC) {own : Nat → Prop} {w' : World} (ho : ∀ b, R.own b → own b) : Ext (RC0 own w') (R.on w') :=
  ⟨fun _ h => h.elim, fun _ h => h.elim, fun _ h => h.elim, fun _ h => h.elim, fun ad v hc hn => ⟨hc, fun hb => hn (ho _ hb)⟩⟩

theorem own_lt (hc : Conc O B w0 L R fr hp a) {b : Nat} (h : R.own b) : b < R.w.heap.size := by
  rcases (hc.own b).1 h with hO | ⟨nm, hg, rfl⟩
  · exact Nat.lt_of_lt_of_le (hc.oB b hO).2 hc.bw.size
  · exact ((hc.bl nm).heap hg).1

theorem calls_rF {f : FuncId} {args : Array Value} {w : World} {S : Ending → World → Prop} {rd : Option Nat} {nn : Nat} (h : Calls P f args w S) : CallsIn (rF rd) nn P f args w S := by
  have h1 : CallsIn Fence.wide nn P f args w S := callsIn_wide.2 h
  cases rd with
  | none => exact h1
  | some l => exact CallsIn.inRound l h1

/-- A call, seen from the caller; `R1`: what it has not given up. -/
theorem OpS.called {e1 : Eff} {R1 : RC} (hc : Conc O B w0 L R1 fr (putH hp n e1) a) (hw : R1.w = R.w) (hal : R1.al = R.al) (hext : Ext R R1) (he1 : isNew e1 = false) {cl : Call} {f : FuncId} (ho : o.op = .call cl) (hcl : cl.callee = .value (.func f)) {x : AV}
    (h : CallsX P f (cl.args.toList.map a.eval).toArray R.w fun e w' => ∃ v, e = .returned v ∧ VR (R1.on w') x v ∧ Below R.w.heap.size R.w w') {ob : Ob} :
    OpS P O B w0 L R fr hp n a o ⟨x, e1, ob⟩ := by
  intro hdf K Q rd nn hk
  have hexec : (execOp a.eval o).run P R.w = (callFunc f (cl.args.toList.map a.eval).toArray).run P R.w := by
    have hm : cl.args.map a.eval = (cl.args.toList.map a.eval).toArray := Array.ext' (by simp)
    simp [execOp, ho, resolve, hcl, Act.eval, Deferred.ofValue, invoke, hm]
  have fin : ∀ {e : Ending} {w' : World}, (∃ v, e = .returned v ∧ VR (R1.on w') x v ∧ Below R.w.heap.size R.w w') → ∃ v, e = .returned v ∧ K (a.put o.dst v) w' := by
    rintro e w' ⟨v, rfl, hv, hb⟩
    refine ⟨v, rfl, ?_⟩
    rw [← hw] at hb
    exact hk _ (R1.on w') (hc.called hb n o.dst hv) (fun m => ⟨fun h => .inl (by rw [← hal]; exact h), fun h => h.elim (fun h => by rw [← hal] at h; exact h) (fun h => absurd h.1 (by simp [he1]))⟩) ⟨hext.trans (Ext.on R1 hb), by rw [← hw]; exact Oth.below hb⟩
  refine ⟨fun _ _ => trivial, ?_⟩
  rw [Oper.semAt_eq _ _ _ hdf, hexec]
  unfold CallsX at h
  cases hr : (callFunc f (cl.args.toList.map a.eval).toArray).run P R.w with
  | halt x w' => rw [hr] at h; exact h.elim
  | ok nx w' =>
    rw [hr] at h
    cases nx <;> first
      | exact h.elim
      | (obtain ⟨v, he, hv⟩ := fin h; cases he; exact hv)
      | (exact ⟨fun h => by simp [rF, Fence.wide] at h, calls_rF (Calls.mono h (fun e w'' he => by obtain ⟨v, rfl, hv⟩ := fin he; exact hv))⟩)

theorem CallsX.mono {f : FuncId} {args : Array Value} {w : World} {S S' : Ending → World → Prop} (h : CallsX P f args w S) (hs : ∀ e w', S e w' → S' e w') : CallsX P f args w S' := by
  unfold CallsX at h ⊢
  cases hr : (callFunc f args).run P w with
  | halt x w' => rw [hr] at h; exact h.elim
  | ok nx w' =>
    rw [hr] at h
    cases nx <;> first
      | exact h.elim
      | exact hs _ _ h
      | exact Calls.mono h hs

theorem op_fn (hc : Conc O B w0 L R fr hp a) {cl : Call} {f : FuncId} (ho : o.op = .call cl) (hcl : cl.callee = .value (.func f)) {l : List AV} (hl : closeL stdAr hp (evL (evF fr) cl.args.toList) = some l) {x : AV} (h : FCall P f l x)
    (hd : hasOwn (evL (evF fr) cl.args.toList) = false ∨ dry x = true) {ob : Ob} :
    OpS P O B w0 L R fr hp n a o ⟨x, .none, ob⟩ := by
  refine OpS.called (e1 := .none) (R1 := R) hc rfl rfl (Ext.refl R) rfl ho hcl ?_
  rcases hd with hd | hd
  · refine CallsX.mono (h R.own R.w _ (fun b hb => own_lt hc hb) (closeL_spec hc (fun _ hb => hb) (fun nm lo len hm => absurd hm (hasOwn_mem hd nm lo len)) hl)) ?_
    rintro e w' ⟨v, he, hv, hb⟩
    exact ⟨v, he, hv.ext (Ext.back R fun _ hb => hb), hb⟩
  · refine CallsX.mono (h (fun _ => False) R.w _ (fun b hb => hb.elim) (closeL_spec hc (fun _ hb => hb.elim) (fun nm lo len hm hb => hb) hl)) ?_
    rintro e w' ⟨v, he, hv, hb⟩
    exact ⟨v, he, hv.dry hd, hb⟩

theorem op_fnKill (hc : Conc O B w0 L R fr hp a) {cl : Call} {f : FuncId} (ho : o.op = .call cl) (hcl : cl.callee = .value (.func f)) {l : List AV} (hl : closeL stdAr hp (evL (evF fr) cl.args.toList) = some l) {x : AV} (h : FCall P f l x) {ob : Ob} :
    OpS P O B w0 L R fr hp n a o ⟨x, .kill (nmsOf (evL (evF fr) cl.args.toList)), ob⟩ := by
  obtain ⟨hk, he⟩ := hc.killed n (nmsOf (evL (evF fr) cl.args.toList))
  refine OpS.called (R := R) hk rfl rfl he rfl ho hcl ?_
  have sub : ∀ b, (R.drop O (putH hp n (.kill (nmsOf (evL (evF fr) cl.args.toList))))).own b → R.own b := by
    rintro b (hO | ⟨nm, hg, hr⟩)
    · exact (hc.own b).2 (.inl hO)
    · refine (hc.own b).2 (.inr ⟨nm, ?_, hr⟩)
      simp only [putH] at hg
      split at hg
      · exact absurd rfl hg
      · exact hg
  have hno : ∀ nm lo len, AV.osl nm lo len ∈ evL (evF fr) cl.args.toList → ¬ (R.drop O (putH hp n (.kill (nmsOf (evL (evF fr) cl.args.toList))))).own (R.ρ nm) := by
    intro nm lo len hm
    have hkl : putH hp n (.kill (nmsOf (evL (evF fr) cl.args.toList))) nm = .gone := by
      simp only [putH]
      rw [if_pos (mem_iff.2 (nmsOf_osl hm))]
    have hlive : hp nm ≠ .gone := by
      intro hg
      have : ∀ {l : List AV} {r : List AV}, closeL stdAr hp l = some r → AV.osl nm lo len ∈ l → False := by
        intro l
        induction l with
        | nil => intro r _ h; simp at h
        | cons y l ih =>
          intro r h hm
          simp only [closeL] at h
          split at h
          · rename_i z hz
            split at h
            · rename_i r' hr'
              rcases List.mem_cons.1 hm with e | hm
              · subst e
                simp [closeAV, hg, blkInts] at hz
              · exact ih hr' hm
            · simp at h
          · simp at h
      exact this hl hm
    rintro (hO | ⟨m, hg, hr⟩)
    · exact ((hc.bl nm).heap hlive).2.1 (hc.oB _ hO).1
    · have hm2 : putH hp n (.kill (nmsOf (evL (evF fr) cl.args.toList))) m = hp m := by
        simp only [putH] at hg ⊢
        split at hg
        · exact absurd rfl hg
        · rename_i hh; rw [if_neg hh]
      have : m = nm := hc.inj m nm (by rw [← hm2]; exact hg) hlive hr
      subst this
      exact hg hkl
  refine CallsX.mono (h _ R.w _ (fun b hb => own_lt hc (sub b hb)) (closeL_spec hc sub hno hl)) ?_
  rintro e w' ⟨v, he', hv, hb⟩
  exact ⟨v, he', hv.ext (Ext.back _ fun _ hb => hb), hb⟩
end
end Go.Proofs.SX

namespace Go.Proofs.SX
open Go Go.RowKit
set_option linter.unusedVariables false
set_option linter.unusedSimpArgs false

section
variable {P : Program} {O : Nat → Prop} {B : Bd} {w0 : World} {L : Nat} {R : RC} {fr : Nat → AV} {hp : Nat → Blk} {n : Nat} {a : Act} {o : Oper} {c : Cx}

theorem elem_info {t : TypeId} {k : IntKind} (ht : TyOk P t (.sl k)) : ∃ e i, P.underlying t = some (.slice e) ∧ P.info? e = some i ∧ i.zero = some (.int k 0) ∧ i.size = 1 ∧ 1 ≤ i.bytes ∧ i.bytes ≤ 8 := by
  obtain ⟨e, he, hu, b, hb, h1, h2⟩ := (ty_info ht (by simp)).2
  cases hi : P.info? e with
  | none => rw [hi] at hb; simp at hb
  | some i =>
    rw [hi] at hb
    simp at hb
    exact ⟨e, i, he, hi, hb.1, hb.2.1, by omega, by omega⟩

/-- A new row. -/
theorem blkR_row (hB : ¬ B.keep R.w.heap.size) (hn : ¬ R.al n) {k : IntKind} {xs : List Int} (rest : List Value) {ty : TypeId} (hr : RgL k xs) :
    BlkR (R.alloc n (.cells (ints k xs ++ rest).toArray ty) (lenAt (.row k xs)) (ints k xs ++ rest).length) B n (.row k xs) := by
  refine ⟨.inr rfl, by simp [RC.alloc]; exact hB, rest, ty, ?_, hr, ?_, fun off => ?_⟩
  · show (R.w.heap.push _)[(R.alloc n _ _ _).ρ n]? = _
    simp [RC.alloc]
  · simp [RC.alloc, ints]
  · simp [RC.alloc]
theorem osl_new {k : IntKind} {xs : List Int} {o : Obj} {rs len cap : Nat} (h1 : len ≤ cap) (h2 : cap ≤ rs) (h3 : len ≤ xs.length) (h4 : len ≤ 9223372036854775807) :
    VR (R.alloc n o (lenAt (.row k xs)) rs) (.osl n 0 (len : Int)) (.slice (some ⟨R.w.heap.size, 0, none⟩) len cap) := by
  refine ⟨.inr rfl, 0, len, cap, rfl, rfl, ⟨_, rfl, fun _ => by simp [RC.alloc]⟩, h1, by simp [RC.alloc]; omega, by simp [RC.alloc, lenAt]; omega, h4⟩

theorem madeCells_ints (k : IntKind) (m : Nat) : madeCells (Value.int k 0).cells m = (ints k (List.replicate m 0) ++ []).toArray := by
  have e : (Value.int k 0).cells = #[.int k 0] := rfl
  rw [e]
  apply Array.ext'
  simp [madeCells, ints, Nat.mod_one]
  apply List.ext_getElem
  · simp
  · intro i h1 h2
    simp

theorem op_makeSlice (hc : Conc O B w0 L R fr hp a) (hB : ¬ B.keep R.w.heap.size) (hn : ¬ R.al n) {t : TypeId} {x y : Operand} (ho : o.op = .makeSlice t x y) {k : IntKind} (ht : TyOk P t (.sl k)) {k1 k2 : IntKind} {x' y' : Int}
    (hx : toI stdAr (evF fr x) = some (k1, x')) (hy : toI stdAr (evF fr y) = some (k2, y')) (h0 : 0 ≤ x') (h1 : x' ≤ y') (h2 : y' ≤ (mostN : Int)) {ob : Ob} :
    OpS P O B w0 L R fr hp n a o ⟨.osl n 0 x', .new (.row k (stdAr.zerosI y')), ob⟩ := by
  obtain ⟨e, i, he, hi, hz, hs, hb1, hb2⟩ := elem_info ht
  obtain ⟨hvx, _⟩ := (hc.ev x).toI (A := stdAr) rfl hx
  obtain ⟨hvy, _⟩ := (hc.ev y).toI (A := stdAr) rfl hy
  simp only [mostN] at h2
  have hbb : (i.bytes : Int) * y' ≤ 281474976710656 := by
    have h3 : (i.bytes : Int) * y' ≤ 8 * y' := Int.mul_le_mul_of_nonneg_right (by omega) (by omega)
    omega
  have hrun := run_make (P := P) R.w t e i (.int k 0) he hi hz k1 k2 x' y' h0 h1 hbb (by omega)
  rw [hs, Nat.mul_one, madeCells_ints] at hrun
  obtain ⟨x'', rfl⟩ := Int.eq_ofNat_of_zero_le h0
  obtain ⟨y'', rfl⟩ := Int.eq_ofNat_of_zero_le (a := y') (by omega)
  rw [Int.toNat_natCast, Int.toNat_natCast] at hrun
  show OpS P O B w0 L R fr hp n a o ⟨.osl n 0 (x'' : Int), .new (.row k (List.replicate y'' 0)), ob⟩
  refine OpS.newblk hc hn (v := .slice (some ⟨R.w.heap.size, 0, none⟩) x'' y'') (cs := ints k (List.replicate y'' 0) ++ []) (ty := e) (by simp) ?_ ?_ (blkR_row hB hn [] (rgL_zeros k y''))
  · simp [execOp, ho, hvx, hvy, hrun]
  · refine osl_new (by omega) (by simp [ints]) (by simp; omega) (by omega)

theorem op_buildSlice (hc : Conc O B w0 L R fr hp a) (hB : ¬ B.keep R.w.heap.size) (hn : ¬ R.al n) {t : TypeId} {m : Nat} {ps : Array (Nat × Operand)} (ho : o.op = .buildSlice t m ps) {k : IntKind} (ht : TyOk P t (.sl k)) (hm : m ≤ 65536) {xs : List Int}
    (h : setParts stdAr k m (rep0 m) (evP (evF fr) ps.toList) = some xs) {ob : Ob} :
    OpS P O B w0 L R fr hp n a o ⟨.osl n 0 (stdAr.ofNat m), .new (.row k xs), ob⟩ := by
  obtain ⟨e, i, he, hi, hz, hs, hb1, hb2⟩ := elem_info ht
  rw [rep0_eq] at h
  obtain ⟨h1, h2, h3⟩ := fill_arr hc ps.toList (by simp) (rgL_zeros k m) h
  have hmap : (ps.map fun x => (x.1, a.eval x.2)).toList = ps.toList.map fun p => (p.1, a.eval p.2) := by simp
  have hz0 : ((Array.range m).map (((if m = 0 then #[] else (Value.int k 0).cells) : Array Value)[· % ((if m = 0 then #[] else (Value.int k 0).cells) : Array Value).size]!)) = (ints k (List.replicate m 0)).toArray := by
    by_cases hm0 : m = 0
    · subst hm0; simp [ints, Array.range_zero']
    · rw [if_neg hm0]
      have := madeCells_ints k m
      rw [List.append_nil] at this
      exact this
  have hfill : Instr.fill (fun i => some (i * 1, 1)) (ints k (List.replicate m 0)).toArray (ps.map fun x => (x.1, a.eval x.2)).toList = some (ints k xs).toArray := by rw [hmap]; exact h1
  refine OpS.newblk hc hn (v := .slice (some ⟨R.w.heap.size, 0, none⟩) m m) (cs := ints k xs ++ []) (ty := e) (by simp) ?_ ?_ (blkR_row hB hn [] h3)
  · have hne : ¬ (16777216 < m) := by omega
    by_cases hm0 : m = 0
    · subst hm0
      have hf0 : Instr.fill (fun i => some (i, 1)) #[] (ps.toList.map fun x => (x.1, a.eval x.2)) = some (ints k xs).toArray := by
        have := hfill
        simpa [ints] using this
      simp [execOp, ho, Instr.buildSlice, run_underlying he, sizeOf, typeInfo, hi, hs, hf0, newRow, Array.range_zero']
    · rw [if_neg hm0] at hz0
      have hf0 : Instr.fill (fun i => some (i, 1)) (ints k (List.replicate m 0)).toArray (ps.toList.map fun x => (x.1, a.eval x.2)) = some (ints k xs).toArray := by
        have := hfill
        simpa using this
      have e1 : (Array.map (fun x => (Value.int k 0).cells[x % (Value.int k 0).cells.size]!) (Array.range m)) = (ints k (List.replicate m 0)).toArray := hz0
      simp [execOp, ho, Instr.buildSlice, run_underlying he, sizeOf, typeInfo, hi, hs, hne, hm0, zeroValue, hz, e1, hf0, newRow]
  · exact osl_new (Nat.le_refl _) (by simp [ints, h2]) (by omega) (by omega)

/-! ### The greater one, the lesser one -/
theorem op_max (hc : Conc O B w0 L R fr hp a) {cl : Call} (ho : o.op = .call cl) (hb : cl.callee = .builtin .max) {x y : Operand} (hargs : cl.args = #[x, y]) {k : IntKind} {i j : Int}
    (hx : toI stdAr (evF fr x) = some (k, i)) (hy : toI stdAr (evF fr y) = some (k, j)) {ob : Ob} : OpS P O B w0 L R fr hp n a o ⟨.int k (stdAr.max i j), .none, ob⟩ := by
  obtain ⟨hvx, hrx⟩ := (hc.ev x).toI (A := stdAr) rfl hx
  obtain ⟨hvy, hry⟩ := (hc.ev y).toI (A := stdAr) rfl hy
  refine OpS.value hc (v := .int k (if j > i then j else i)) ?_ ⟨rfl, ?_⟩
  · simp [execOp, ho, resolve, hb, invoke, builtin, Builtin.max_, Builtin.max2, hargs, hvx, hvy]
  · show Rg k (if j > i then j else i)
    split <;> assumption
theorem op_min (hc : Conc O B w0 L R fr hp a) {cl : Call} (ho : o.op = .call cl) (hb : cl.callee = .builtin .min) {x y : Operand} (hargs : cl.args = #[x, y]) {k : IntKind} {i j : Int}
    (hx : toI stdAr (evF fr x) = some (k, i)) (hy : toI stdAr (evF fr y) = some (k, j)) {ob : Ob} : OpS P O B w0 L R fr hp n a o ⟨.int k (stdAr.min i j), .none, ob⟩ := by
  obtain ⟨hvx, hrx⟩ := (hc.ev x).toI (A := stdAr) rfl hx
  obtain ⟨hvy, hry⟩ := (hc.ev y).toI (A := stdAr) rfl hy
  refine OpS.value hc (v := .int k (if j < i then j else i)) ?_ ⟨rfl, ?_⟩
  · simp [execOp, ho, resolve, hb, invoke, builtin, Builtin.min_, Builtin.min2, hargs, hvx, hvy]
  · show Rg k (if j < i then j else i)
    split <;> assumption

/-! ### Bounds with what is behind -/
theorem bnds3_run (hc : Conc O B w0 L R fr hp a) {lo : Option Operand} {hi mx : Operand} {len cap : Nat} {l h : Int} {ob : Ob} (hb : bnds3 stdAr (evF fr) lo hi mx (len : Int) = some (l, h, ob)) (ho : Obs ob) (hlc : len ≤ cap) (w : World) :
    ∃ l' h' m' : Nat, l = l' ∧ h = h' ∧ l' ≤ h' ∧ h' ≤ m' ∧ m' ≤ len ∧ (Instr.sliceBounds true len cap (lo.map a.eval) (some (a.eval hi)) (some (a.eval mx))).run P w = .ok (l', h', m') w := by
  unfold bnds3 at hb
  split at hb
  · rename_i x ky y km m hx hy hm
    simp only [Option.some.injEq, Prod.mk.injEq] at hb
    obtain ⟨rfl, rfl, rfl⟩ := hb
    have h1 := ho (stdAr.cmp .leq 0 x, true) (by simp)
    have h2 := ho (stdAr.cmp .leq x y, true) (by simp)
    have h3 := ho (stdAr.cmp .leq y m, true) (by simp)
    have h4 := ho (stdAr.cmp .leq m (len : Int), true) (by simp)
    simp [stdAr] at h1 h2 h3 h4
    obtain ⟨l', rfl⟩ := Int.eq_ofNat_of_zero_le h1
    obtain ⟨h', rfl⟩ := Int.eq_ofNat_of_zero_le (a := y) (by omega)
    obtain ⟨m', rfl⟩ := Int.eq_ofNat_of_zero_le (a := m) (by omega)
    obtain ⟨hvy, _⟩ := (hc.ev hi).toI (A := stdAr) rfl hy
    obtain ⟨hvm, _⟩ := (hc.ev mx).toI (A := stdAr) rfl hm
    refine ⟨l', h', m', rfl, rfl, by omega, by omega, by omega, ?_⟩
    have e1 : (m' : Int) ≤ cap := by omega
    have e2 : (h' : Int) ≤ m' := by omega
    have e3 : (l' : Int) ≤ h' := by omega
    rcases bnd_spec hc hx with ⟨rfl, h5⟩ | ⟨p, k, rfl, h5⟩
    · have e4 : l' = 0 := by simp [stdAr] at h5; omega
      subst e4
      simp [Instr.sliceBounds, hvy, hvm, run_sliceBound, e1, e2]
    · simp [Instr.sliceBounds, hvy, hvm, h5, run_sliceBound, e1, e2, e3]
  · simp at hb

theorem op_slice3_sli (hc : Conc O B w0 L R fr hp a) {t : TypeId} {x : Operand} {lo : Option Operand} {hi mx : Operand} (ho : o.op = .slice t x lo (some hi) (some mx)) {k0 : IntKind} (ht : TyOk P t (.sl k0)) {k : IntKind} {xs : List Int} (hx : evF fr x = .sli k xs)
    {l h : Int} {ob : Ob} (hb : bnds3 stdAr (evF fr) lo hi mx (stdAr.len xs) = some (l, h, ob)) (hob : Obs ob) {ob' : Ob} :
    OpS P O B w0 L R fr hp n a o ⟨.sli k (stdAr.sub xs l h), .none, ob'⟩ := by
  have hvx := hc.ev x
  rw [hx] at hvx
  obtain ⟨ad0, cap, hval, h1, h2, h3, h4⟩ := hvx
  obtain ⟨e, he, hs⟩ := elem_size ht R.w
  obtain ⟨l', h', m', rfl, rfl, h5, h6, h6', h7⟩ := bnds3_run (P := P) (cap := cap) hc hb hob h1 R.w
  have hsub : stdAr.sub xs (l' : Int) (h' : Int) = (xs.drop l').take (h' - l') := by
    simp only [stdAr, Int.toNat_natCast]
  have hl : ((xs.drop l').take (h' - l')).length = h' - l' := by simp; omega
  rw [hsub]
  refine OpS.value hc (v := .slice (if m' = l' then ad0 else ad0.map (·.add l')) (h' - l') (m' - l')) ?_ ?_
  · simp [execOp, ho, hval, Instr.sliceAt, Instr.slice, run_underlying he, h7, hs]
  · refine ⟨_, _, by rw [hl], by omega, by omega, rgL_sub h3 _ _, fun hne => ?_⟩
    have hpos : 0 < h' - l' := by
      rcases Nat.eq_zero_or_pos (h' - l') with h0 | h0
      · exact absurd (List.eq_nil_of_length_eq_zero (by rw [hl]; exact h0)) hne
      · exact h0
    obtain ⟨ad, rfl, hrd⟩ := h4 (by intro e; subst e; simp at h6'; omega)
    refine ⟨ad.add l', by rw [if_neg (by omega)]; rfl, ⟨fun j y hj => ?_, by rw [block_add]; exact hrd.far⟩⟩
    rw [add_add]
    refine hrd.cell _ _ ?_
    rw [List.getElem?_take] at hj
    split at hj
    · rw [List.getElem?_drop] at hj; exact hj
    · simp at hj

theorem op_slice3_osl (hc : Conc O B w0 L R fr hp a) {t : TypeId} {x : Operand} {lo : Option Operand} {hi mx : Operand} (ho : o.op = .slice t x lo (some hi) (some mx)) {k0 : IntKind} (ht : TyOk P t (.sl k0)) {nm : Nat} {lo0 len : Int} (hx : evF fr x = .osl nm lo0 len)
    {l h : Int} {ob : Ob} (hb : bnds3 stdAr (evF fr) lo hi mx len = some (l, h, ob)) (hob : Obs ob) {ob' : Ob} :
    OpS P O B w0 L R fr hp n a o ⟨.osl nm (stdAr.plus lo0 l) (stdAr.diff h l), .none, ob'⟩ := by
  have hvx := hc.ev x
  rw [hx] at hvx
  obtain ⟨hal, lo', len', cap, rfl, rfl, ⟨ad, hval, had⟩, h1, h2, h3, h4⟩ := hvx
  obtain ⟨e, he, hs⟩ := elem_size ht R.w
  obtain ⟨l', h', m', rfl, rfl, h5, h6, h6', h7⟩ := bnds3_run (P := P) (cap := cap) hc hb hob h1 R.w
  refine OpS.value hc (v := .slice (some (if m' = l' then ad else ad.add l')) (h' - l') (m' - l')) ?_ ?_
  · simp [execOp, ho, hval, Instr.sliceAt, Instr.slice, run_underlying he, h7, hs]
    by_cases hcl : m' = l' <;> simp [hcl]
  · refine ⟨hal, lo' + l', h' - l', m' - l', by simp [stdAr], by simp [stdAr]; omega, ⟨_, rfl, fun hne => ?_⟩, by omega, by omega, by omega, by omega⟩
    rw [if_neg (by omega), had (by omega), add_at]

/-! ### An iterator that goes down -/
theorem op_itd (hc : Conc O B w0 L R fr hp a) {f : FuncId} {fs cs : Array Operand} (ho : o.op = .makeFunc (.func f) fs cs) (hfs : fs.toList = []) {x : Operand} (hcs : cs.toList = [x]) {nm : Nat} (hx : evF fr x = .ptr nm 0) {k : IntKind} {xs : List Int} (hbk : hp nm = .cells [.sli k xs]) {ob : Ob} :
    OpS P O B w0 L R fr hp n a o ⟨.itd f k xs, .kill [nm], ob⟩ := by
  intro hd K Q rd nn hk
  have hvx := hc.ev x
  rw [hx] at hvx
  obtain ⟨hal, hv⟩ := hvx
  obtain ⟨cl, ty, g1, g2, g3, _⟩ := hc.blk hbk
  rw [CRL.cons (by intro k n xs e; cases e)] at g2
  obtain ⟨u, cs', rfl, hu, _, _, hnil⟩ := g2
  have : cs' = [] := hnil
  subst this
  obtain ⟨hkl, hke⟩ := hc.killed n [nm]
  have hfs' : fs = #[] := Array.ext' hfs
  have hcs' : cs = #[x] := Array.ext' hcs
  have hg : hp nm ≠ .gone := by rw [hbk]; simp
  refine wp_of_value hd (v := .func (.func f) #[] #[.pointer (some ⟨R.ρ nm, 0, none⟩)]) (w' := R.w) ?_ ?_
  · simp [execOp, ho, hfs', hcs', hv, Instr.makeFunc]
  · have hcell : R.w.cell? ⟨R.ρ nm, 0, none⟩ = some u := by
      have := cell_blk g1 (off := 0) 0
      rw [add_at] at this
      simpa using this
    have hno : ¬ (R.drop O (putH hp n (.kill [nm]))).own (R.ρ nm) := by
      rintro (hO | ⟨m, hgm, hr⟩)
      · exact ((hc.bl nm).heap hg).2.1 (hc.oB _ hO).1
      · have hmk : mem m [nm] = false := by
          cases hm : mem m [nm] with
          | false => rfl
          | true => simp only [putH, hm, if_true] at hgm; exact absurd rfl hgm
        have hm2 : putH hp n (.kill [nm]) m = hp m := by simp only [putH, hmk]; rfl
        rw [hm2] at hgm
        have : m = nm := hc.inj m nm hgm hg hr
        subst this
        simp [mem, eqN_refl] at hmk
    have hpl := hkl.plain n o.dst (x := .itd f k xs) (v := .func (.func f) #[] #[.pointer (some ⟨R.ρ nm, 0, none⟩)]) (by
      have hu' := VR0.ext hke hu
      exact ⟨⟨R.ρ nm, 0, none⟩, u, rfl, hcell, hno, hu'⟩)
    exact hk _ (R.drop O (putH hp n (.kill [nm]))) hpl (fun m => by simp [isNew, RC.drop]) ⟨hke, Oth.refl _⟩

/-! ### Append -/
/-- What is appended, as the model asks for it. -/
theorem sli_src {own : Nat → Prop} {R : RC} {k : IntKind} {ys : List Int} {v : Value} {tx e' : TypeId} (htx : P.underlying tx = some (.slice e')) (h : VR1 (RC0 own R.w) (.sli k ys) v) : Src P 1 tx v ys.length (ints k ys) R.w := by
  obtain ⟨ad, cap, rfl, h1, h2, h3, h4⟩ := h
  cases ys with
  | nil =>
    cases ad with
    | none => exact Src.ofNil R.w htx cap
    | some ad => exact Src.ofSlice R.w htx ad 0 cap [] (by simp) (by simp) (by simp)
  | cons y ys =>
    obtain ⟨ad, rfl, hrd⟩ := h4 (by simp)
    refine Src.ofSlice R.w htx ad _ cap _ (by simp [ints]) (fun j u hj => ?_) (fun u hu => ?_)
    · rw [ints_get] at hj
      cases hq : (y :: ys)[j]? with
      | none => rw [hq] at hj; simp at hj
      | some x => rw [hq] at hj; simp at hj; subst hj; exact hrd.cell _ _ hq
    · simp [ints] at hu
      rcases hu with rfl | ⟨x, _, rfl⟩ <;> rfl

theorem zeroCells_ints (k : IntKind) (m : Nat) : Builtin.zeroCells (Value.int k 0).cells m = (ints k (List.replicate m 0)).toArray := by
  have e : (Value.int k 0).cells = #[.int k 0] := rfl
  rw [e]
  apply Array.ext'
  simp [Builtin.zeroCells, ints, Nat.mod_one]
  apply List.ext_getElem
  · simp
  · intro i h1 h2
    simp

theorem exec_append {cl : Call} (ho : o.op = .call cl) (hb : cl.callee = .builtin .append) {x y : Operand} (hargs : cl.args = #[x, y]) {t t' : TypeId} (htys : cl.argTypes = #[t, t']) {w w' : World} {v : Value}
    (h : (Builtin.append_ #[t, t'] o.type #[a.eval x, a.eval y]).run P w = .ok v w') : (execOp a.eval o).run P w = .ok (.value v) w' := by
  simp [execOp, ho, resolve, hb, invoke, builtin, hargs, htys, h]

theorem nil_eval {x : Operand} (h : nilOp x = true) : a.eval x = .slice none 0 0 := by
  unfold nilOp at h
  split at h
  · rfl
  · simp at h

/-- A world that has only drawn. -/
theorem below_drew (w : World) : Below w.heap.size w w.drew := (Below.refl _ w).drew

/-- Onto nothing. -/
theorem op_appendNil (hc : Conc O B w0 L R fr hp a) {cl : Call} (ho : o.op = .call cl) (hb : cl.callee = .builtin .append) {x y : Operand} (hargs : cl.args = #[x, y]) {t t' : TypeId} (htys : cl.argTypes = #[t, t']) {k : IntKind} (ht : TyOk P t (.sl k)) {k' : IntKind} (ht' : TyOk P t' (.sl k'))
    {ys : List Int} (hy : closeAV stdAr hp (evF fr y) = some (.sli k ys)) (hx : nilOp x = true) (hob : stdAr.cmp .leq (stdAr.len ys) (stdAr.ofNat mostN) = true) {ob : Ob} :
    OpS P O B w0 L R fr hp n a o ⟨.sli k ys, .none, ob⟩ := by
  obtain ⟨e, i, he, hi, hz, hs, hb1, hb2⟩ := elem_info ht
  obtain ⟨e', he', _⟩ := (ty_info ht' (by simp)).2
  have hv := closeAV_spec hc (own := fun _ => False) (fun _ h => h.elim) (fun _ _ _ _ h => h) (hc.ev y) hy
  have hsrc := sli_src (P := P) he' hv
  have hlen : ys.length ≤ 17592186044416 := by simp [stdAr, mostN] at hob; omega
  have hr : RgL k ys := by obtain ⟨_, _, _, _, _, h, _⟩ := hv; exact h
  by_cases hys : ys = []
  · subst hys
    refine OpS.value hc (v := .slice none 0 0) (exec_append ho hb hargs htys ?_) ⟨none, 0, rfl, Nat.le_refl _, by simp, by intro x hx; simp at hx, fun h => absurd rfl h⟩
    rw [nil_eval hx]
    have h1 := hsrc.len R.w
    have h2 := hsrc.cells
    simp only [List.length_nil] at h1 h2
    simp [Builtin.append_, run_underlying he, run_underlying he', sizeOf, typeInfo, hi, hs, h1, h2]
  · have hpos : 0 < ys.length := List.length_pos_iff.2 hys
    have hgrow := run_append_grow_src (P := P) R.w t t' o.type e i (.int k 0) he hi hz none 0 0 [] (by simp [Builtin.firstCells]) (a.eval y) ys.length (ints k ys) (by rw [hs]; exact hsrc) (by omega) (by omega)
      (growslice_fits (by omega) (by have : (0 + ys.length) * i.bytes ≤ (0 + ys.length) * 8 := Nat.mul_le_mul_left _ hb2; omega))
    intro hd K Q rd nn hk
    have e9 : (((([] : List Value) ++ ints k ys).toArray : Array Value) ++ Builtin.zeroCells (Value.int k 0).cells (grownCap R.w (0 + ys.length) 0 e - (0 + ys.length)) : Array Value) = (ints k ys ++ ints k (List.replicate (grownCap R.w (0 + ys.length) 0 e - (0 + ys.length)) 0)).toArray := by rw [zeroCells_ints]; simp
    rw [e9] at hgrow
    have hge := grownCap_ge R.w (0 + ys.length) 0 e
    refine wp_of_value hd (exec_append ho hb hargs htys (by rw [nil_eval hx]; exact hgrow)) ?_
    have hbl : Below R.w.heap.size R.w (R.w.drew.alloc (.cells (ints k ys ++ ints k (List.replicate (grownCap R.w (0 + ys.length) 0 e - (0 + ys.length)) 0)).toArray e)) := (below_drew R.w).alloc (by simp) _
    refine hk _ _ (hc.called hbl n o.dst (x := .sli k ys) ?_) (fun m => by simp [isNew, RC.on]) ⟨Ext.on R hbl, Oth.below hbl⟩
    refine ⟨some ⟨R.w.heap.size, 0, none⟩, grownCap R.w (0 + ys.length) 0 e, by simp, by omega, by omega, hr, fun _ => ⟨_, rfl, fun j z hj => ?_, fun ho => ?_⟩⟩
    · rw [add_at, Nat.zero_add]
      have hh : (R.w.drew.alloc (.cells (ints k ys ++ ints k (List.replicate (grownCap R.w (0 + ys.length) 0 e - (0 + ys.length)) 0)).toArray e)).heap[R.w.heap.size]? = some (.cells (ints k ys ++ ints k (List.replicate (grownCap R.w (0 + ys.length) 0 e - (0 + ys.length)) 0)).toArray e (0, 0)) := by
        show (R.w.heap.push _)[R.w.heap.size]? = _
        simp
      have := cell_blk hh (off := 0) j
      rw [add_at] at this
      simp only [Nat.zero_add] at this
      have hj2 := (List.getElem?_eq_some_iff.1 hj).1
      rw [List.getElem?_append_left (by simp [ints]; exact hj2), ints_get, hj] at this
      simpa [RC.on, RC0] using this
    · have := own_lt hc ho
      simp at this

/-- Onto an own row. -/
theorem op_appendOwn (hc : Conc O B w0 L R fr hp a) (hB : ¬ B.keep R.w.heap.size) (hn : ¬ R.al n) {cl : Call} (ho : o.op = .call cl) (hb : cl.callee = .builtin .append) {x y : Operand} (hargs : cl.args = #[x, y]) {t t' : TypeId} (htys : cl.argTypes = #[t, t']) {k : IntKind} (ht : TyOk P t (.sl k)) {k' : IntKind} (ht' : TyOk P t' (.sl k'))
    {ys : List Int} (hy : closeAV stdAr hp (evF fr y) = some (.sli k ys)) {nm : Nat} {len : Int} (hx : evF fr x = .osl nm 0 len) {xs : List Int} (hbk : hp nm = .row k xs) (hob : len + ys.length ≤ (mostN : Int)) {ob : Ob} :
    OpS P O B w0 L R fr hp n a o ⟨.osl n 0 (len + (ys.length : Int)), .mv nm (.row k (xs.take len.toNat ++ ys)), ob⟩ := by
  obtain ⟨e, i, he, hi, hz, hs, hb1, hb2⟩ := elem_info ht
  obtain ⟨e', he', _⟩ := (ty_info ht' (by simp)).2
  have hv := closeAV_spec hc (own := fun _ => False) (fun _ h => h.elim) (fun _ _ _ _ h => h) (hc.ev y) hy
  have hsrc := sli_src (P := P) he' hv
  have hry : RgL k ys := by obtain ⟨_, _, _, _, _, h, _⟩ := hv; exact h
  have hvx := hc.ev x
  rw [hx] at hvx
  obtain ⟨hal, lo', len', cap, hlo, rfl, ⟨ad, hval, had⟩, h1, h2, h3, h4⟩ := hvx
  obtain rfl : lo' = 0 := by omega
  simp only [mostN] at hob
  obtain ⟨rest, ty, g1, g2, g3, g4, _, g5'⟩ := hc.rowb hbk
  have hln : R.ln nm 0 = xs.length := by rw [g4]; simp [lenAt]
  rw [hln] at h3
  have hg : hp nm ≠ .gone := by rw [hbk]; simp
  have htl : (xs.take len').length = len' := by simp; omega
  have hrn : RgL k (xs.take len' ++ ys) := fun z hz => by
    rcases List.mem_append.1 hz with h | h
    · exact g2 z (List.mem_of_mem_take h)
    · exact hry z h
  rw [Int.toNat_natCast]
  by_cases hroom : len' + ys.length ≤ cap
  · -- in place
    have hcs : ints k xs ++ rest = ints k (xs.take len') ++ ((ints k xs ++ rest).drop len').take ys.length ++ (ints k xs ++ rest).drop (len' + ys.length) := by
      have e1 : ints k (xs.take len') = (ints k xs ++ rest).take len' := by
        rw [List.take_append_of_le_length (by simp [ints]; omega)]; simp [ints, List.map_take]
      rw [e1, List.append_assoc, ← List.drop_drop, List.take_append_drop, List.take_append_drop]
    have hml : (((ints k xs ++ rest).drop len').take ys.length).length = (ints k ys).length := by simp [ints]; omega
    have hst := run_storeCells (P := P) (b := R.ρ nm) (ty := ty) (off := 0 + len' * 1) (post := (ints k xs ++ rest).drop (len' + ys.length)) (ints k ys) (((ints k xs ++ rest).drop len').take ys.length) (ints k (xs.take len')) R.w 0 (by rw [← hcs]; exact g1) (by simp [ints]; omega) hml (by intro v hv; simp [ints] at hv; obtain ⟨_, _, rfl⟩ := hv; trivial)
    have had' : ys ≠ [] → ad = ⟨R.ρ nm, 0, none⟩ := fun hne => had (by have := List.length_pos_iff.2 hne; omega)
    have hstore : (storeCells (ad.add (len' * 1)) (ints k ys)).run P R.w = .ok () (setBlk R.w (R.ρ nm) (.cells (ints k (xs.take len') ++ ints k ys ++ (ints k xs ++ rest).drop (len' + ys.length)).toArray ty)) := by
      by_cases hne : ys = []
      · subst hne
        have : ints k (xs.take len') ++ ints k [] ++ (ints k xs ++ rest).drop (len' + ([] : List Int).length) = ints k xs ++ rest := by
          conv => rhs; rw [hcs]
          simp [ints]
        rw [this, setBlk_same g1]
        rfl
      · rw [had' hne, add_at]
        exact hst
    intro hd K Q rd nn hk
    refine wp_of_value hd (v := .slice (some ad) (len' + ys.length) cap) (exec_append ho hb hargs htys (w' := setBlk R.w (R.ρ nm) (.cells (ints k (xs.take len') ++ ints k ys ++ (ints k xs ++ rest).drop (len' + ys.length)).toArray ty)) ?_) ?_
    · rw [hval]
      have q1 := hsrc.len R.w
      have q2 := hsrc.cells
      simp [Builtin.append_, run_underlying he, run_underlying he', sizeOf, typeInfo, hi, hs, q1, hroom, q2, -List.append_assoc]
      rw [Nat.mul_one] at hstore
      rw [hstore]
      rfl
    · have hblk : BlkR (R.re n nm (.cells (ints k (xs.take len') ++ ints k ys ++ (ints k xs ++ rest).drop (len' + ys.length)).toArray ty) (lenAt (.row k (xs.take len' ++ ys)))) B n (.row k (xs.take len' ++ ys)) := by
        refine ⟨.inr rfl, by simp only [RC.re, if_pos]; exact g5', (ints k xs ++ rest).drop (len' + ys.length), ty, ?_, hrn, ?_, fun off => by simp only [RC.re, if_pos]⟩
        · simp only [RC.re, if_pos]
          rw [heap_setBlk, if_pos ⟨rfl, (Array.getElem?_eq_some_iff.1 g1).1⟩]
          simp [ints]
        · simp only [RC.re, if_pos]
          rw [← g3]
          simp [ints]; omega
      refine hk _ _ (hc.moved n nm hn (.row k (xs.take len' ++ ys)) (by simp) hg _ ty o.dst (x := .osl n 0 ((len' : Int) + (ys.length : Int))) ?_ hblk) (fun m => by simp [isNew, RC.re]) (hc.moved_rel hn hg)
      refine ⟨.inr rfl, 0, len' + ys.length, cap, rfl, by simp, ⟨ad, rfl, fun hne => by simp only [RC.re, if_pos]; exact had hne⟩, hroom, by simp only [RC.re, if_pos]; exact h2, by simp [RC.re, lenAt]; omega, by omega⟩
  · -- a new row
    have hread : (Builtin.firstCells 1 len' (.slice (some ad) len' cap)).run P R.w.drew = .ok (ints k (xs.take len')).toArray R.w.drew := by
      by_cases hl0 : len' = 0
      · subst hl0
        simp [Builtin.firstCells, ints]
        rfl
      · have hc0 : cap ≠ 0 := by omega
        rw [had hc0]
        refine run_firstCells_some R.w.drew 1 len' ⟨R.ρ nm, 0, none⟩ len' cap _ (by simp [ints]; omega) (fun j u hj => ?_)
        have := cell_blk g1 (off := 0) j
        rw [show R.w.drew.cell? ((⟨R.ρ nm, 0, none⟩ : Addr).add j) = R.w.cell? ((⟨R.ρ nm, 0, none⟩ : Addr).add j) from rfl, this, Nat.zero_add]
        rw [ints_get] at hj
        rw [List.getElem?_take] at hj
        split at hj
        · rename_i hjl
          rw [List.getElem?_append_left (by simp [ints]; omega), ints_get]
          exact hj
        · simp at hj
    have hgrow := run_append_grow_src (P := P) R.w t t' o.type e i (.int k 0) he hi hz (some ad) len' cap (ints k (xs.take len')) (by rw [hs]; exact hread) (a.eval y) ys.length (ints k ys) (by rw [hs]; exact hsrc) (by omega) (by omega)
      (growslice_fits (by omega) (by have : (len' + ys.length) * i.bytes ≤ (len' + ys.length) * 8 := Nat.mul_le_mul_left _ hb2; omega))
    have hge := grownCap_ge R.w (len' + ys.length) cap e
    have e9 : (((ints k (xs.take len') ++ ints k ys).toArray : Array Value) ++ Builtin.zeroCells (Value.int k 0).cells (grownCap R.w (len' + ys.length) cap e - (len' + ys.length)) : Array Value) = (ints k (xs.take len' ++ ys) ++ ints k (List.replicate (grownCap R.w (len' + ys.length) cap e - (len' + ys.length)) 0)).toArray := by rw [zeroCells_ints]; simp [ints]
    rw [e9] at hgrow
    intro hd K Q rd nn hk
    refine wp_of_value hd (exec_append ho hb hargs htys (by rw [hval]; exact hgrow)) ?_
    have hdr := hc.called (below_drew R.w) n none (x := .any) (v := undef) trivial
    have hnd : ¬ (R.on R.w.drew).al n := hn
    obtain ⟨hkl, hke⟩ := hdr.killed n [nm]
    generalize hR1 : (R.on R.w.drew).drop O (putH (putH hp n .none) n (.kill [nm])) = R1 at hkl hke
    have hw1 : R1.w = R.w.drew := by rw [← hR1]; rfl
    have hal1 : R1.al = R.al := by rw [← hR1]; rfl
    have hnew := hkl.new n (by rw [hal1]; exact hn) (.row k (xs.take len' ++ ys)) (by simp) (ints k (xs.take len' ++ ys) ++ ints k (List.replicate (grownCap R.w (len' + ys.length) cap e - (len' + ys.length)) 0)) e o.dst (x := .osl n 0 ((len' : Int) + (ys.length : Int)))
      (v := .slice (some ⟨R.w.heap.size, 0, none⟩) (len' + ys.length) (grownCap R.w (len' + ys.length) cap e)) (by
        have := osl_new (R := R1) (n := n) (k := k) (xs := xs.take len' ++ ys) (o := .cells (ints k (xs.take len' ++ ys) ++ ints k (List.replicate (grownCap R.w (len' + ys.length) cap e - (len' + ys.length)) 0)).toArray e) (rs := (ints k (xs.take len' ++ ys) ++ ints k (List.replicate (grownCap R.w (len' + ys.length) cap e - (len' + ys.length)) 0)).length) (len := len' + ys.length) (cap := grownCap R.w (len' + ys.length) cap e) hge (by simp [ints]; omega) (by simp; omega) (by omega)
        rw [hw1] at this
        simpa using this)
      (blkR_row (R := R1) (B := B) (by rw [hw1]; exact hB) (by rw [hal1]; exact hn) _ hrn)
    have hh : putH (putH (putH hp n .none) n (.kill [nm])) n (.new (.row k (xs.take len' ++ ys))) = putH hp n (.mv nm (.row k (xs.take len' ++ ys))) := by
      funext m
      simp only [putH, mem, Bool.or_false, eqN_eq]
    rw [hh] at hnew
    have hw2 : (R1.alloc n (.cells (ints k (xs.take len' ++ ys) ++ ints k (List.replicate (grownCap R.w (len' + ys.length) cap e - (len' + ys.length)) 0)).toArray e) (lenAt (.row k (xs.take len' ++ ys))) (ints k (xs.take len' ++ ys) ++ ints k (List.replicate (grownCap R.w (len' + ys.length) cap e - (len' + ys.length)) 0)).length).w = R.w.drew.alloc (.cells (ints k (xs.take len' ++ ys) ++ ints k (List.replicate (grownCap R.w (len' + ys.length) cap e - (len' + ys.length)) 0)).toArray e) := by
      show R1.w.alloc _ = _
      rw [hw1]
    have hrel : Rel R (R1.alloc n (.cells (ints k (xs.take len' ++ ys) ++ ints k (List.replicate (grownCap R.w (len' + ys.length) cap e - (len' + ys.length)) 0)).toArray e) (lenAt (.row k (xs.take len' ++ ys))) (ints k (xs.take len' ++ ys) ++ ints k (List.replicate (grownCap R.w (len' + ys.length) cap e - (len' + ys.length)) 0)).length) := by
      refine ⟨((Ext.on R (below_drew R.w)).trans hke).trans (Ext.alloc R1 n _ _ _ (by rw [hal1]; exact hn)), ?_⟩
      rw [hw2]
      exact Oth.below ((below_drew R.w).alloc (by simp) _)
    have hfin := hk _ _ hnew (fun m => by simp [isNew, RC.alloc, hal1]) hrel
    rw [hw2] at hfin
    exact hfin

/-! ### Copy -/
theorem op_copy (hc : Conc O B w0 L R fr hp a) {cl : Call} (ho : o.op = .call cl) (hb : cl.callee = .builtin .copy) {x y : Operand} (hargs : cl.args = #[x, y]) {t t' : TypeId} (htys : cl.argTypes = #[t, t']) {k : IntKind} (ht : TyOk P t (.sl k)) {k' : IntKind} (ht' : TyOk P t' (.sl k'))
    {ys : List Int} (hy : closeAV stdAr hp (evF fr y) = some (.sli k ys)) {nm : Nat} {lo len : Int} (hx : evF fr x = .osl nm lo len) {xs : List Int} (hbk : hp nm = .row k xs) (hob : (ys.length : Int) ≤ len) {ob : Ob} :
    OpS P O B w0 L R fr hp n a o ⟨.int .i64 (ys.length : Int), .wr nm (.row k (stdAr.cpy xs lo ys)), ob⟩ := by
  obtain ⟨e, i, he, hi, hz, hs, hb1, hb2⟩ := elem_info ht
  obtain ⟨e', he', _⟩ := (ty_info ht' (by simp)).2
  have hv := closeAV_spec hc (own := fun _ => False) (fun _ h => h.elim) (fun _ _ _ _ h => h) (hc.ev y) hy
  have hsrc := sli_src (P := P) he' hv
  have hry : RgL k ys := by obtain ⟨_, _, _, _, _, h, _⟩ := hv; exact h
  have hvx := hc.ev x
  rw [hx] at hvx
  obtain ⟨hal, lo', len', cap, rfl, rfl, ⟨ad, hval, had⟩, h1, h2, h3, h4⟩ := hvx
  obtain ⟨rest, ty, g1, g2, g3, g4, _, g5⟩ := hc.rowb hbk
  have hln : R.ln nm 0 = xs.length := by rw [g4]; simp [lenAt]
  rw [hln] at h3
  have hg : hp nm ≠ .gone := by rw [hbk]; simp
  have hle : ys.length ≤ len' := by omega
  have hcpy : stdAr.cpy xs (lo' : Int) ys = xs.take lo' ++ ys ++ xs.drop (lo' + ys.length) := by simp [stdAr]
  rw [hcpy]
  have hrn : RgL k (xs.take lo' ++ ys ++ xs.drop (lo' + ys.length)) := fun z hz => by
    rcases List.mem_append.1 hz with h | h
    · rcases List.mem_append.1 h with h | h
      · exact g2 z (List.mem_of_mem_take h)
      · exact hry z h
    · exact g2 z (List.mem_of_mem_drop h)
  have hcs : ints k xs ++ rest = ints k (xs.take lo') ++ ints k ((xs.drop lo').take ys.length) ++ (ints k (xs.drop (lo' + ys.length)) ++ rest) := by
    rw [← List.append_assoc, ← ints_append, ← ints_append]
    congr 2
    rw [List.append_assoc, ← List.drop_drop, List.take_append_drop, List.take_append_drop]
  have hst := run_storeCells (P := P) (b := R.ρ nm) (ty := ty) (off := lo') (post := ints k (xs.drop (lo' + ys.length)) ++ rest) (ints k ys) (ints k ((xs.drop lo').take ys.length)) (ints k (xs.take lo')) R.w 0 (by rw [← hcs]; exact g1) (by simp [ints]; omega) (by simp [ints]; omega) (by intro v hv; simp [ints] at hv; obtain ⟨_, _, rfl⟩ := hv; trivial)
  have hstore : (storeCells ad (ints k ys)).run P R.w = .ok () (setBlk R.w (R.ρ nm) (.cells (ints k (xs.take lo' ++ ys ++ xs.drop (lo' + ys.length)) ++ rest).toArray ty)) := by
    have e0 : ints k (xs.take lo' ++ ys ++ xs.drop (lo' + ys.length)) ++ rest = ints k (xs.take lo') ++ ints k ys ++ (ints k (xs.drop (lo' + ys.length)) ++ rest) := by simp [ints]
    rw [e0]
    by_cases hne : ys = []
    · subst hne
      rw [← hcs.trans (by simp [ints] : _ = ints k (xs.take lo') ++ ints k ([] : List Int) ++ (ints k (xs.drop (lo' + ([] : List Int).length)) ++ rest)), setBlk_same g1]
      rfl
    · have hp := List.length_pos_iff.2 hne
      rw [had (by omega)]
      exact hst
  have hmin : Nat.min ys.length len' = ys.length := Nat.min_eq_left hle
  intro hd K Q rd nn hk
  refine wp_of_value hd (v := .int .i64 (ys.length : Int)) (w' := setBlk R.w (R.ρ nm) (.cells (ints k (xs.take lo' ++ ys ++ xs.drop (lo' + ys.length)) ++ rest).toArray ty)) ?_ ?_
  · have q1 := hsrc.len R.w
    have q2 := hsrc.cells
    simp [execOp, ho, resolve, hb, invoke, builtin, hargs, htys, hval, Builtin.copy_, run_underlying he, sizeOf, typeInfo, hi, hs, q1, hmin, q2, hstore, goInt]
  · refine hk _ _ (hc.wrote n nm (.row k (xs.take lo' ++ ys ++ xs.drop (lo' + ys.length))) (by simp) hg _ ty o.dst (x := .int .i64 (ys.length : Int)) ⟨rfl, rg_lit .i64 _ (by simp [kmax]; omega)⟩ ?_) (fun m => by simp [isNew, RC.wr]) (hc.wrote_rel hg)
    refine ⟨hal, g5, rest, ty, ?_, hrn, ?_, fun off => ?_⟩
    · show (setBlk R.w (R.ρ nm) _).heap[R.ρ nm]? = _
      rw [heap_setBlk, if_pos ⟨rfl, (Array.getElem?_eq_some_iff.1 g1).1⟩]
    · show _ = R.rs nm
      rw [← g3]
      simp; omega
    · show R.ln nm off = _
      rw [g4]
      simp only [lenAt]
      congr 1
      simp; omega

/-! ### Calls that turn their first argument's numbers -/
theorem op_mut (hc : Conc O B w0 L R fr hp a) {cl : Call} {f : FuncId} (ho : o.op = .call cl) (hcl : cl.callee = .value (.func f)) {x : Operand} {os : List Operand} (hargs : cl.args.toList = x :: os) {nm : Nat} {lo len : Int} (hx : evF fr x = .osl nm lo len)
    {k : IntKind} {xs : List Int} (hbk : hp nm = .row k xs) (hno : mem nm (nmsOf (evL (evF fr) os)) = false) {l : List AV} (hl : closeL stdAr hp (evL (evF fr) os) = some l) {v : AV} {xs' : List Int} (h : MCall P f k xs lo len l v xs') (hd : dry v = true) {ob : Ob} :
    OpS P O B w0 L R fr hp n a o ⟨v, .wr nm (.row k xs'), ob⟩ := by
  have hvx := hc.ev x
  rw [hx] at hvx
  obtain ⟨hal, hsl⟩ := hvx
  obtain ⟨rest, ty, g1, g2, g3, g4, _, g5⟩ := hc.rowb hbk
  have hg : hp nm ≠ .gone := by rw [hbk]; simp
  have hln : R.ln nm 0 = xs.length := by rw [g4]; simp [lenAt]
  rw [hln, ← g3] at hsl
  have hown : R.own (R.ρ nm) := (hc.own _).2 (.inr ⟨nm, hg, rfl⟩)
  have hvs : VRL (RC0 (fun b => b = R.ρ nm) R.w) l (os.map a.eval) := by
    refine closeL_spec hc (own := fun b => b = R.ρ nm) (fun b hb => hb ▸ hown) (fun nm' lo' len' hm he => ?_) hl
    have hlive : hp nm' ≠ .gone := by
      intro hg'
      have : ∀ {l : List AV} {r : List AV}, closeL stdAr hp l = some r → AV.osl nm' lo' len' ∈ l → False := by
        intro l
        induction l with
        | nil => intro r _ h; simp at h
        | cons y l ih =>
          intro r h hm
          simp only [closeL] at h
          split at h
          · rename_i z hz
            split at h
            · rename_i r' hr'
              rcases List.mem_cons.1 hm with e | hm
              · subst e
                simp [closeAV, hg', blkInts] at hz
              · exact ih hr' hm
            · simp at h
          · simp at h
      exact this hl hm
    have : nm' = nm := hc.inj nm' nm hlive hg he
    subst this
    have := nmsOf_osl hm
    rw [mem_iff.2 this] at hno
    simp at hno
  have hcall := h (R.ρ nm) R.w (a.eval x) (os.map a.eval) rest ty g1 g2 hsl hvs
  intro hdf K Q rd nn hk
  have hexec : (execOp a.eval o).run P R.w = (callFunc f (a.eval x :: os.map a.eval).toArray).run P R.w := by
    have hm : cl.args.map a.eval = (a.eval x :: os.map a.eval).toArray := Array.ext' (by simp [hargs])
    simp [execOp, ho, resolve, hcl, Act.eval, Deferred.ofValue, invoke, hm]
  have fin : ∀ {e : Ending} {w' : World}, (∃ u, e = .returned u ∧ MPost R.w (R.ρ nm) k xs rest v xs' u w') → ∃ u, e = .returned u ∧ K (a.put o.dst u) w' := by
    rintro e w' ⟨u, rfl, hv, hl', hr', ⟨rest', ty', hh, hrl⟩, hos, htp, hou, hsz, hbb⟩
    refine ⟨u, rfl, ?_⟩
    refine hk _ (R.on w') (hc.mutated n nm (.row k xs') (by simp) hg hos htp hou hsz hbb o.dst (x := v) (v := u) (hv.dry hd) ?_) (fun m => by simp [isNew, RC.on]) ⟨ext_mut hc hg hbb, oth_mut g1 hsz hbb⟩
    refine ⟨hal, g5, rest', ty', hh, hr', ?_, fun off => ?_⟩
    · show _ = R.rs nm
      rw [← g3, hl', hrl]
    · show R.ln nm off = _
      rw [g4]
      simp [lenAt, hl']
  refine ⟨fun _ _ => trivial, ?_⟩
  rw [Oper.semAt_eq _ _ _ hdf, hexec]
  unfold CallsX at hcall
  cases hr : (callFunc f (a.eval x :: os.map a.eval).toArray).run P R.w with
  | halt x w' => rw [hr] at hcall; exact hcall.elim
  | ok nx w' =>
    rw [hr] at hcall
    cases nx <;> first
      | exact hcall.elim
      | (obtain ⟨v, he, hv⟩ := fin hcall; cases he; exact hv)
      | (exact ⟨fun h => by simp [rF, Fence.wide] at h, calls_rF (Calls.mono hcall (fun e w'' he => by obtain ⟨v, rfl, hv⟩ := fin he; exact hv))⟩)
end
end Go.Proofs.SX
