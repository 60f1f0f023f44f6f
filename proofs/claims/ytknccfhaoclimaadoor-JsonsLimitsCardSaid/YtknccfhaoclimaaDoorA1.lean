/- The abstract interpreter: its values, its objects, its operations. Definitions alone; nothing is proved here. -/
import Derived.WalkKit

set_option linter.unusedVariables false
noncomputable section
namespace Go.Ab
open Go

/-! ### Kinds of plain data -/
inductive Ty where
  | int (k : IntKind) | bool | str | sl (t : Ty) | un | pr (a b : Ty) | ar (n : Nat) (t : Ty) | tree (l : Ty)
  deriving DecidableEq

inductive Tree (α : Type) where
  | node (x : α) (kids : List (Tree α))
def Tree.val {α : Type} : Tree α → α | .node x _ => x
def Tree.kids {α : Type} : Tree α → List (Tree α) | .node _ k => k

@[reducible] def Ty.T : Ty → Type
  | .int _ => Int | .bool => Bool | .str => List Int | .sl t => List t.T | .un => Unit | .pr a b => a.T × b.T | .ar _ t => List t.T | .tree l => Tree l.T
def Ty.size : Ty → Nat
  | .int _ => 1 | .bool => 1 | .str => 1 | .sl _ => 1 | .un => 0 | .pr a b => a.size + b.size | .ar n t => n * t.size | .tree l => l.size + 1
def Ty.dflt : (t : Ty) → t.T
  | .int _ => (0 : Int) | .bool => false | .str => ([] : List Int) | .sl _ => [] | .un => () | .pr a b => (a.dflt, b.dflt) | .ar n t => List.replicate n t.dflt | .tree l => .node l.dflt []

def castL {t' t : Ty} (h : t' = t) (xs : List t'.T) : List t.T := h ▸ xs
def castS {t : Ty} (h : t = .int .u8) (xs : List Int) : List t.T := h ▸ xs

/-! ### Cells, fields, values -/
inductive C where
  | any | int (k : IntKind) (n : Int) | bool (b : Bool)
  /-- a bool that is known as the code is gone through -/
  | kb (b : Bool)
  | str (s : List Int) | nilp | nilf | nils
  | fn (f : FuncId) (caps : List (Nat × Nat))
  /-- a slice whose elements nobody changes any more -/
  | ro (t : Ty) (xs : List t.T)
  /-- the same, without room behind -/
  | rox (t : Ty) (xs : List t.T)
  /-- the whole of a row of our own -/
  | ow (i v : Nat)
  /-- a part of a row of our own -/
  | os (i v lo n : Nat)
  /-- a part of an array within a box of our own -/
  | oa (i v p lo n : Nat)
  /-- a pointer to a box, at its field p -/
  | pb (i v p : Nat)
  /-- a pointer to an element of an array within a box -/
  | pa (i v p e q : Nat)
  /-- a pointer to an element of a row -/
  | pe (i v e q : Nat)
  /-- a pointer to what nobody changes any more -/
  | rop (t : Ty) (x : t.T) (q : Nat)
  /-- an iterator over a string -/
  | pi (i v : Nat)
inductive Fld where
  | c (x : C) | a (n : Nat) (t : Ty) (xs : List t.T)
inductive AV where
  | one (c : C) | agg (fs : List Fld)
inductive TV where
  | v (x : AV) | tup (l : List AV)
inductive Obj where
  | box (fs : List Fld) | row (t : Ty) (xs : List t.T) | it (s : List Int) (pos : Nat) | dead
abbrev Heap := List (Nat × Nat × Obj)

def lk {α : Type} : List (Nat × α) → Nat → Option α
  | [], _ => none
  | (i, a) :: r, j => bif Nat.beq i j then some a else lk r j

def Fld.width : Fld → Nat
  | .c _ => 1
  | .a n t _ => n * t.size
def skipW : List Fld → Nat → Option Nat
  | _, 0 => some 0
  | [], _ + 1 => none
  | f :: r, w + 1 => bif Nat.ble f.width (w + 1) then (skipW r (w + 1 - f.width)).map (· + 1) else none

def Ty.flds : (t : Ty) → t.T → List Fld
  | .int k, n => [.c (.int k n)] | .bool, b => [.c (.bool b)] | .str, s => [.c (.str s)] | .sl t, xs => [.c (.ro t xs)] | .un, _ => []
  | .pr a b, x => a.flds x.1 ++ b.flds x.2 | .ar n t, xs => [.a n t xs] | .tree l, x => l.flds x.val ++ [.c (.ro (.tree l) x.kids)]
def Fld.int? (k : IntKind) : Fld → Option Int
  | .c (.int k' n) => bif decide (k' = k) then some n else none
  | _ => none
def Fld.bool? : Fld → Option Bool
  | .c (.bool b) => some b
  | .c (.kb b) => some b
  | _ => none
def Fld.str? : Fld → Option (List Int)
  | .c (.str s) => some s
  | _ => none
def Fld.sl? (t : Ty) : Fld → Option (List t.T)
  | .c (.ro t' xs) => if h : t' = t then some (castL h xs) else none
  | .c (.rox t' xs) => if h : t' = t then some (castL h xs) else none
  | .c .nils => some []
  | _ => none
def Fld.ar? (n : Nat) (t : Ty) : Fld → Option (List t.T)
  | .a n' t' xs => if h : t' = t then (bif Nat.beq n' n then some (castL h xs) else none) else none
  | _ => none
def hd1 {α : Type} (g : Fld → Option α) : List Fld → Option (α × List Fld)
  | f :: r => match g f with
    | some x => some (x, r)
    | none => none
  | [] => none
def Ty.of : (t : Ty) → List Fld → Option (t.T × List Fld)
  | .int k, fs => hd1 (Fld.int? k) fs
  | .bool, fs => hd1 Fld.bool? fs
  | .str, fs => hd1 Fld.str? fs
  | .sl t, fs => hd1 (Fld.sl? t) fs
  | .un, fs => some ((), fs)
  | .pr a b, fs => match a.of fs with
    | some (x, r) => match b.of r with
      | some (y, r) => some ((x, y), r)
      | none => none
    | none => none
  | .ar n t, fs => hd1 (Fld.ar? n t) fs
  | .tree l, fs => match l.of fs with
    | some (x, r) => match hd1 (Fld.sl? (.tree l)) r with
      | some (k, r) => some (.node x k, r)
      | none => none
    | none => none
def Ty.exact (t : Ty) (fs : List Fld) : Option t.T :=
  match t.of fs with
  | some (x, []) => some x
  | _ => none

/-! ### Types of the program -/
def tyFields (g : TypeId → Option Ty) : List Field → Option Ty
  | [] => some .un
  | f :: r => match g f.type, tyFields g r with
    | some a, some b => some (.pr a b)
    | _, _ => none
def tyOf (P : Program) : Nat → TypeId → Option Ty
  | 0, _ => none
  | d + 1, T => match P.underlying T with
    | some (.int k) => some (.int k)
    | some .bool => some .bool
    | some .string => some .str
    | some (.slice e) => (tyOf P d e).map .sl
    | some (.array n e) => (tyOf P d e).map (.ar n)
    | some (.struct fs) => tyFields (tyOf P d) fs.toList
    | _ => none
/-- The kind of a struct whose last field is a slice of such structs. -/
def treeOf (P : Program) (T : TypeId) : Option Ty :=
  match P.underlying T with
  | some (.struct fs) => match fs.toList.reverse with
    | f :: r => match P.underlying f.type with
      | some (.slice e) => bif Nat.beq e T then (tyFields (tyOf P 10) r.reverse).map .tree else none
      | _ => none
    | _ => none
  | _ => none
def kindOf (P : Program) (T : TypeId) : Option Ty :=
  match treeOf P T with
  | some t => some t
  | none => tyOf P 10 T

/-- What a variable of a type begins as. -/
def zeroFields (g : TypeId → Option (List Fld)) : List Field → Option (List Fld)
  | [] => some []
  | f :: r => match g f.type, zeroFields g r with
    | some a, some b => some (a ++ b)
    | _, _ => none
def zeroF (P : Program) : Nat → TypeId → Option (List Fld)
  | 0, _ => none
  | d + 1, T => match P.underlying T with
    | some (.int k) => some [.c (.int k 0)]
    | some .bool => some [.c (.bool false)]
    | some .string => some [.c (.str [])]
    | some (.slice _) => some [.c .nils]
    | some (.pointer _) => some [.c .nilp]
    | some (.func ..) => some [.c .nilf]
    | some (.array n e) => (tyOf P 10 e).map fun t => [.a n t (List.replicate n t.dflt)]
    | some (.struct fs) => zeroFields (zeroF P d) fs.toList
    | _ => none

def strBytes (s : ByteArray) : List Int := s.data.toList.map fun b => (b.toNat : Int)
def inRb (k : IntKind) (n : Int) : Bool := decide (k.min ≤ n) && decide (n ≤ k.max)
def maxStr : Nat := 70368744177664   -- 2^46: how long a string may become here
def maxBytes : Nat := 140737488355328   -- 2^47
def ofConst : Value → Option C
  | .int k n => bif inRb k n then some (.int k n) else none
  | .bool b => some (.bool b)
  | .string s => bif decide (s.size ≤ maxStr) then some (.str (strBytes s)) else none
  | .slice none 0 0 => some .nils
  | .pointer none => some .nilp
  | .nilFunc => some .nilf
  | _ => none
/-- Do these fields stand for these cells (constants alone)? -/
def sameC : C → Value → Bool
  | .int k n, .int k' n' => decide (k = k') && (decide (n = n') && inRb k n)
  | .bool b, .bool b' => b == b'
  | .str s, .string s' => decide (s = strBytes s') && decide (s'.size ≤ maxStr)
  | .nils, .slice none 0 0 => true
  | .ro _ [], .slice none 0 0 => true
  | .nilp, .pointer none => true
  | .nilf, .nilFunc => true
  | _, _ => false
def sameF : Nat → List Fld → List Value → Bool
  | _, [], [] => true
  | k + 1, .c x :: r, v :: vs => sameC x v && sameF k r vs
  | k + 1, .a n t xs :: r, vs => Nat.beq xs.length n && sameF k (xs.flatMap t.flds ++ r) vs
  | _, _, _ => false
def zeroOf (P : Program) (T : TypeId) : Option (List Fld) :=
  match zeroF P 10 T, (P.info? T).bind (·.zero) with
  | some fs, some z => bif sameF 4000 fs z.cells.toList then some fs else none
  | _, _ => none
/-- Is a type's value an aggregate? -/
def aggT (P : Program) (T : TypeId) : Option Bool :=
  match P.underlying T with
  | some (.struct _) | some (.array ..) => some true
  | some _ => some false
  | none => none
def szT (P : Program) (T : TypeId) : Option Nat := (P.info? T).map (·.size)

/-! ### Objects -/
def Heap.obj (H : Heap) (i v : Nat) : Option Obj :=
  match lk H i with
  | some (v', o) => bif Nat.beq v' v then some o else none
  | none => none
def Heap.ver (H : Heap) (i : Nat) : Nat := match lk H i with | some (v, _) => v + 1 | none => 0
/-- A slice's elements, if it is plain data or of our own: its kind, the elements. -/
def Heap.data (H : Heap) : C → Option ((t : Ty) × List t.T)
  | .ro t xs => some ⟨t, xs⟩
  | .rox t xs => some ⟨t, xs⟩
  | .ow i v => match H.obj i v with
    | some (.row t xs) => some ⟨t, xs⟩
    | _ => none
  | .os i v lo n => match H.obj i v with
    | some (.row t xs) => some ⟨t, (xs.drop lo).take n⟩
    | _ => none
  | .oa i v p lo n => match H.obj i v with
    | some (.box fs) => match fs[p]? with
      | some (.a m t xs) => bif Nat.ble m maxBytes then some ⟨t, (xs.drop lo).take n⟩ else none
      | _ => none
    | _ => none
  | _ => none
/-- A cell that becomes plain data: a row of our own is ours no more. What turns in the heap is told alone. -/
def Heap.plain (H : Heap) : C → Option (C × Heap)
  | .ow i v => match H.obj i v with
    | some (.row t xs) => some (.ro t xs, [(i, v + 1, .dead)])
    | _ => none
  | .os i v lo n => match H.obj i v with
    | some (.row t xs) => some (.ro t ((xs.drop lo).take n), [(i, v + 1, .dead)])
    | _ => none
  | c => some (c, [])
def Heap.plainF (H : Heap) : List Fld → Option (List Fld × Heap)
  | [] => some ([], [])
  | .c x :: r => match H.plain x with
    | some (x', U) => match Heap.plainF (U ++ H) r with
      | some (r', V) => some (.c x' :: r', V ++ U)
      | none => none
    | none => none
  | f :: r => match H.plainF r with
    | some (r', V) => some (f :: r', V)
    | none => none

def AV.flds : AV → List Fld
  | .one c => [.c c]
  | .agg fs => fs
/-- Is something known of it? -/
def AV.known : AV → Bool
  | .one .any => false
  | _ => true
def avOf (P : Program) (T : TypeId) (fs : List Fld) : Option AV :=
  match aggT P T, fs with
  | some true, fs => some (.agg fs)
  | some false, [.c x] => some (.one x)
  | _, _ => none
/-- The fields that take so many cells. -/
def takeW (fs : List Fld) (w : Nat) : Option (List Fld) := (skipW fs w).map fun n => fs.take n
def simB : List Fld → List Fld → Bool
  | [], [] => true
  | .c _ :: r, .c _ :: s => simB r s
  | .a n t _ :: r, .a m u _ :: s => Nat.beq n m && (decide (t = u) && simB r s)
  | _, _ => false
def splice (fs : List Fld) (p w : Nat) (new : List Fld) : Option (List Fld) :=
  match skipW (fs.drop p) w with
  | some n => bif simB ((fs.drop p).take n) new then some (fs.take p ++ (new ++ fs.drop (p + n))) else none
  | _ => none

/-! ### The operations -/
abbrev R3 := Option (List Bool × AV × Heap)
def ok1 (c : C) : R3 := some ([], .one c, [])

def cmpI (op : BinOp) (a b : Int) : Option Bool :=
  match op with
  | .eql => some (decide (a = b)) | .neq => some (!decide (a = b)) | .lss => some (decide (a < b)) | .leq => some (decide (a ≤ b))
  | .gtr => some (decide (a > b)) | .geq => some (decide (a ≥ b)) | _ => none
def intOp (op : BinOp) (k : IntKind) (a b : Int) : Option (List Bool × C) :=
  match op with
  | .add => some ([], .int k (k.wrap (a + b)))
  | .sub => some ([], .int k (k.wrap (a - b)))
  | .mul => some ([], .int k (k.wrap (a * b)))
  | .quo => some ([!decide (b = 0)], .int k (k.wrap (a.tdiv b)))
  | .rem => some ([!decide (b = 0)], .int k (a.tmod b))
  | .and => some ([], .int k (k.wrap (BitVec.ofInt k.bits a &&& BitVec.ofInt k.bits b).toNat))
  | .or => some ([], .int k (k.wrap (BitVec.ofInt k.bits a ||| BitVec.ofInt k.bits b).toNat))
  | .xor => some ([], .int k (k.wrap (BitVec.ofInt k.bits a ^^^ BitVec.ofInt k.bits b).toNat))
  | .andNot => some ([], .int k (k.wrap (BitVec.ofInt k.bits a &&& ~~~(BitVec.ofInt k.bits b)).toNat))
  | op => (cmpI op a b).map fun b => ([], .bool b)
def shiftOp (op : BinOp) (k : IntKind) (a : Int) (b : Int) : Option (List Bool × C) :=
  match op with
  | .shl => some ([decide (0 ≤ b)], .int k (k.wrap (a * 2 ^ min b.toNat k.bits)))
  | .shr => some ([decide (0 ≤ b)], .int k (a.fdiv (2 ^ min b.toNat k.bits)))
  | _ => none
def strOp (op : BinOp) (a b : List Int) : Option (List Bool × C) :=
  match op with
  | .add => some ([decide (a.length + b.length ≤ maxStr)], .str (a ++ b))
  | .eql => some ([], .bool (decide (a = b)))
  | .neq => some ([], .bool (!decide (a = b)))
  | _ => none
def binV (op : BinOp) (x y : C) : Option (List Bool × C) :=
  match op, x, y with
  | .shl, .int k a, .int _ b => shiftOp .shl k a b
  | .shr, .int k a, .int _ b => shiftOp .shr k a b
  | op, .int k a, .int k' b => bif decide (k = k') then intOp op k a b else none
  | op, .str a, .str b => strOp op a b
  | _, _, _ => none
def C.bit? : C → Option Bool
  | .bool b => some b
  | .kb b => some b
  | _ => none
def unV (op : UnOp) (x : C) : Option C :=
  match op, x with
  | .not, .bool b => some (.bool (!b))
  | .not, .kb b => some (.kb (!b))
  | .neg, .int k n => some (.int k (k.wrap (0 - n)))
  | .xor, .int k n => some (.int k (k.wrap (BitVec.ofInt k.bits (if k.signed then -1 else k.max) ^^^ BitVec.ofInt k.bits n).toNat))
  | _, _ => none

/-- Where a pointer leads: the fields there. -/
def Heap.at (H : Heap) : C → Option (List Fld)
  | .pb i v p => match H.obj i v with
    | some (.box fs) => some (fs.drop p)
    | _ => none
  | .pa i v p e q => match H.obj i v with
    | some (.box fs) => match fs[p]? with
      | some (.a _ t xs) => some ((t.flds (xs.getD e t.dflt)).drop q)
      | _ => none
    | _ => none
  | .pe i v e q => match H.obj i v with
    | some (.row t xs) => some ((t.flds (xs.getD e t.dflt)).drop q)
    | _ => none
  | .rop t x q => some ((t.flds x).drop q)
  | _ => none
/-- Is a pointer nil? -/
def Heap.nil? (H : Heap) : C → Option Bool
  | .nilp => some true
  | c => match H.at c with
    | some _ => some false
    | none => none
def eqB (op : BinOp) (b : Bool) : Option Bool :=
  match op with
  | .eql => some b
  | .neq => some (!b)
  | _ => none
/-- Equality of bools, and of pointers one of which is nil. -/
def eqV (P : Program) (H : Heap) (T : TypeId) (op : BinOp) (x y : C) : Option Bool :=
  match P.underlying T with
  | some .bool => match x.bit?, y.bit? with
    | some a, some b => eqB op (a == b)
    | _, _ => none
  | some (.pointer _) => match H.nil? x, H.nil? y with
    | some true, some b => eqB op b
    | some false, some true => eqB op false
    | _, _ => none
  | some (.slice _) => match x, y with
    | .nils, .nils => eqB op true
    | _, _ => none
  | _ => none
def movedBy (c : C) (n : Nat) : Option C :=
  match c with
  | .pb i v p => some (.pb i v (p + n))
  | .pa i v p e q => some (.pa i v p e (q + n))
  | .pe i v e q => some (.pe i v e (q + n))
  | .rop t x q => some (.rop t x (q + n))
  | _ => none
def fieldAt? (P : Program) (S : TypeId) (f : Nat) : Option (Nat × Nat) :=
  match P.underlying S with
  | some (.struct fs) => match fs[f]? with
    | some fd => (szT P fd.type).map fun w => (fd.offset, w)
    | none => none
  | _ => none
/-- Of a slice or an array: how many elements (an array), the elements' type, their size. -/
def elemSz (P : Program) (T : TypeId) : Option (Option Nat × TypeId × Nat) :=
  match P.underlying T with
  | some (.slice e) => (szT P e).map fun z => (none, e, z)
  | some (.array n e) => (szT P e).map fun z => (some n, e, z)
  | _ => none
def elemT (P : Program) (T : TypeId) : Option TypeId :=
  match P.underlying T with
  | some (.slice e) => some e
  | _ => none
def Heap.store (H : Heap) (a : C) (w : Nat) (new : List Fld) : Option Heap :=
  match a with
  | .pb i v p => match H.obj i v with
    | some (.box fs) => (splice fs p w new).map fun fs' => [(i, v, .box fs')]
    | _ => none
  | .pa i v p e q => match H.obj i v with
    | some (.box fs) => match fs[p]? with
      | some (.a n t xs) => match splice (t.flds (xs.getD e t.dflt)) q w new with
        | some el => match t.exact el with
          | some y => some [(i, v, .box (fs.set p (.a n t (xs.set e y))))]
          | none => none
        | none => none
      | _ => none
    | _ => none
  | .pe i v e q => match H.plainF new with
    | some (new, U) => match Heap.obj (U ++ H) i v with
      | some (.row t xs) => match splice (t.flds (xs.getD e t.dflt)) q w new with
        | some el => match t.exact el with
          | some y => some ((i, v, .row t (xs.set e y)) :: U)
          | none => none
        | none => none
      | _ => none
    | none => none
  | _ => none

def idxCond (i : Int) (n : Nat) : List Bool := [decide (0 ≤ i), decide (i < (n : Int))]
def indexAddrV (P : Program) (T : TypeId) (H : Heap) (x : C) (i : Int) : Option (List Bool × C) :=
  match elemSz P T with
  | some (none, _, z) => match x with
    | .ro t xs => bif Nat.beq z t.size then some (idxCond i xs.length, .rop t (xs.getD i.toNat t.dflt) 0) else none
    | .rox t xs => bif Nat.beq z t.size then some (idxCond i xs.length, .rop t (xs.getD i.toNat t.dflt) 0) else none
    | .ow j v => match H.obj j v with
      | some (.row t xs) => bif Nat.beq z t.size then some (idxCond i xs.length, .pe j v i.toNat 0) else none
      | _ => none
    | .os j v lo n => match H.obj j v with
      | some (.row t xs) => bif Nat.beq z t.size then some (idxCond i n, .pe j v (lo + i.toNat) 0) else none
      | _ => none
    | .oa j v p lo n => match H.obj j v with
      | some (.box fs) => match fs[p]? with
        | some (.a _ t _) => bif Nat.beq z t.size then some (idxCond i n, .pa j v p (lo + i.toNat) 0) else none
        | _ => none
      | _ => none
    | _ => none
  | some (some m, _, z) => match x with
    | .pb j v p => match H.obj j v with
      | some (.box fs) => match fs[p]? with
        | some (.a n t _) => bif Nat.beq z t.size && (Nat.beq m n && Nat.blt 1 m) then some (idxCond i n, .pa j v p i.toNat 0) else none
        | _ => none
      | _ => none
    | _ => none
  | none => none
def cutBounds (n : Nat) (lo hi : Option Int) : List Bool × Nat × Nat :=
  match lo, hi with
  | none, none => ([], 0, n)
  | some l, none => ([decide (0 ≤ l), decide (l ≤ (n : Int))], l.toNat, n)
  | none, some h => ([decide (0 ≤ h), decide (h ≤ (n : Int))], 0, h.toNat)
  | some l, some h => ([decide (0 ≤ l), decide (l ≤ h), decide (h ≤ (n : Int))], l.toNat, h.toNat)
def cutList {α : Type} (xs : List α) (lo hi : Option Int) (l h : Nat) : List α :=
  match lo, hi with
  | none, none => xs
  | some _, none => xs.drop l
  | none, some _ => xs.take h
  | some _, some _ => (xs.take h).drop l
def sliceV (P : Program) (T : TypeId) (H : Heap) (x : C) (lo hi : Option Int) : Option (List Bool × C) :=
  match x with
  | .str s => match P.underlying T with
    | some .string => some ((cutBounds s.length lo hi).1, .str (cutList s lo hi (cutBounds s.length lo hi).2.1 (cutBounds s.length lo hi).2.2))
    | _ => none
  | x => match elemSz P T with
    | some (none, _, z) => match x with
      | .ro t xs => bif Nat.beq z t.size then some ((cutBounds xs.length lo hi).1, .ro t (cutList xs lo hi (cutBounds xs.length lo hi).2.1 (cutBounds xs.length lo hi).2.2)) else none
      | .rox t xs => bif Nat.beq z t.size then some ((cutBounds xs.length lo hi).1, .ro t (cutList xs lo hi (cutBounds xs.length lo hi).2.1 (cutBounds xs.length lo hi).2.2)) else none
      | .ow j v => match H.obj j v with
        | some (.row t xs) => bif Nat.beq z t.size then some ((cutBounds xs.length lo hi).1, .os j v (cutBounds xs.length lo hi).2.1 ((cutBounds xs.length lo hi).2.2 - (cutBounds xs.length lo hi).2.1)) else none
        | _ => none
      | .os j v o n => match H.obj j v with
        | some (.row t xs) => bif Nat.beq z t.size then some ((cutBounds n lo hi).1, .os j v (o + (cutBounds n lo hi).2.1) ((cutBounds n lo hi).2.2 - (cutBounds n lo hi).2.1)) else none
        | _ => none
      | _ => none
    | some (some m, _, z) => match x with
      | .pb j v p => match H.obj j v with
        | some (.box fs) => match fs[p]? with
          | some (.a n t _) => bif Nat.beq z t.size && Nat.beq m n then some ((cutBounds n lo hi).1, .oa j v p (cutBounds n lo hi).2.1 ((cutBounds n lo hi).2.2 - (cutBounds n lo hi).2.1)) else none
          | _ => none
        | _ => none
      | _ => none
    | none => none

def lenV (P : Program) (T : TypeId) (H : Heap) (x : AV) : Option Int :=
  match P.underlying T with
  | some .string => match x with
    | .one (.str s) => some (s.length : Int)
    | _ => none
  | some (.array n _) => bif Nat.ble n maxBytes then some (n : Int) else none
  | some (.slice _) => match x with
    | .one (.ro _ xs) => some (xs.length : Int)
    | .one (.rox _ xs) => some (xs.length : Int)
    | .one .nils => some 0
    | .one (.ow i v) => match H.obj i v with
      | some (.row _ xs) => some (xs.length : Int)
      | _ => none
    | .one (.os i v _ n) => match H.obj i v with
      | some (.row _ xs) => some (n : Int)
      | _ => none
    | .one (.oa i v p _ n) => match H.obj i v with
      | some (.box fs) => match fs[p]? with
        | some (.a m _ _) => bif Nat.ble m maxBytes then some (n : Int) else none
        | _ => none
      | _ => none
    | _ => none
  | _ => none
def slOrStr (P : Program) (T : TypeId) : Bool :=
  match P.underlying T with
  | some (.slice _) | some .string => true
  | _ => false
/-- append: what is there, of which kind, how many bytes an element takes, what comes behind. -/
def appendV (H : Heap) (dst : Nat) (t : Ty) (bytes : Nat) (s : C) (ys : List t.T) : R3 :=
  match s with
  | .nils => some ([decide (ys.length * bytes ≤ maxBytes)], .one (.ow dst (H.ver dst)), [(dst, H.ver dst, .row t ys)])
  | .ow i v => match H.obj i v with
    | some (.row t' xs) => if h : t' = t then
        some ([decide ((xs.length + ys.length) * bytes ≤ maxBytes)], .one (.ow i (v + 1)), [(i, v + 1, .row t (castL h xs ++ ys))])
      else none
    | _ => none
  | _ => none
/-- What is appended: a slice's elements or a string's bytes. -/
def srcData (H : Heap) (t : Ty) (x : C) : Option (List t.T) :=
  match x with
  | .nils => some []
  | .str s => if h : t = .int .u8 then some (castS h s) else none
  | x => match H.data x with
    | some ⟨t', xs⟩ => if h : t' = t then some (castL h xs) else none
    | none => none

/-- Are all fields' sizes known? -/
def fieldsOk (P : Program) (S : TypeId) : Bool :=
  match P.underlying S with
  | some (.struct fs) => fs.toList.all fun f => (szT P f.type).isSome
  | _ => false
def partsAt (P : Program) (T : TypeId) (base : List Fld) : List (Nat × AV) → Option (List Fld)
  | [] => some base
  | (f, v) :: r => match fieldAt? P T f with
    | some (off, w) => match skipW base off with
      | some p => match splice base p w v.flds with
          | some b => partsAt P T b r
          | none => none
      | none => none
    | none => none
def elemsAt (t : Ty) (n : Nat) (xs : List t.T) : List (Nat × AV) → Option (List t.T)
  | [] => some xs
  | (i, v) :: r => bif Nat.blt i n then match t.exact v.flds with
    | some y => elemsAt t n (xs.set i y) r
    | none => none else none
/-- The elements' kind, if the cells of a zero are the kind's own; how many cells, how many bytes. -/
def rowOf (P : Program) (e : TypeId) : Option (Ty × Nat) :=
  match kindOf P e, P.info? e with
  | some t, some i => match i.zero with
    | some z => bif sameF 4000 (t.flds t.dflt) z.cells.toList && (Nat.beq i.size t.size && (Nat.blt 0 t.size && Nat.blt 0 i.bytes)) then some (t, i.bytes) else none
    | none => none
  | _, _ => none
def evalParts (ev : Operand → Option AV) : List (Nat × Operand) → Option (List (Nat × AV))
  | [] => some []
  | (i, o) :: r => match ev o, evalParts ev r with
    | some v, some r => bif v.known then some ((i, v) :: r) else none
    | _, _ => none
def mergeC (g : Bool) : C → C → C
  | .bool a, .bool b => .bool (bif g then a else b)
  | .bool a, .kb b => .bool (bif g then a else b)
  | .kb a, .bool b => .bool (bif g then a else b)
  | .kb a, .kb b => .bool (bif g then a else b)
  | .int k a, .int k' b => bif decide (k = k') then .int k (bif g then a else b) else .any
  | .str a, .str b => .str (bif g then a else b)
  | a, b => bif g then a else b
def mergeAV (g : Bool) : AV → AV → AV
  | .one a, .one b => .one (mergeC g a b)
  | a, b => bif g then a else b
def intOf? : Option AV → Option (Option Int)
  | some (.one (.int _ n)) => some (some n)
  | _ => none
def optInt (ev : Operand → Option AV) : Option Operand → Option (Option Int)
  | none => some none
  | some o => match ev o with
    | some (.one (.int _ n)) => some (some n)
    | _ => none

/-- A number as a text of one sign. -/
def encR (n : Int) : List Int := strBytes (Utf8.encode n)
/-- One operation that is no call of a Go function. -/
def opV (P : Program) (dst : Nat) (ev : Operand → Option AV) (H : Heap) : Op → R3
  | .move x | .assign x => match ev x with | some v => some ([], v, []) | none => none
  | .pick c a b => match ev c, ev a, ev b with
    | some (.one (.bool g)), some x, some y => some ([], mergeAV g x y, [])
    | some (.one (.kb g)), some x, some y => some ([], bif g then x else y, [])
    | _, _, _ => none
  | .alloc T => match zeroOf P T with
    | some fs => some ([], .one (.pb dst (H.ver dst) 0), [(dst, H.ver dst, .box fs)])
    | none => none
  | .box T x => match ev x with
    | some v => bif v.known then some ([], .one (.pb dst (H.ver dst) 0), [(dst, H.ver dst, .box v.flds)]) else none
    | none => none
  | .build T parts => match zeroOf P T, evalParts ev parts.toList with
    | some z, some ps => bif fieldsOk P T then match partsAt P T z ps with
      | some fs => some ([], .agg fs, [])
      | none => none else none
    | _, _ => none
  | .buildSlice T n parts => match elemT P T with
    | some e => match rowOf P e, evalParts ev parts.toList with
      | some (t, _), some ps => bif Nat.ble (n * t.size) 16777216 && (Nat.blt 0 n || parts.toList.isEmpty) then match elemsAt t n (List.replicate n t.dflt) ps with
        | some xs => some ([], .one (.ow dst (H.ver dst)), [(dst, H.ver dst, .row t xs)])
        | none => none else none
      | _, _ => none
    | none => none
  | .load T a => match ev a with
    | some (.one c) => match H.at c with
      | some fs => match szT P T with
        | some w => match takeW fs w with
          | some fs => match avOf P T fs with
            | some v => some ([], v, [])
            | none => none
          | none => none
        | none => none
      | none => none
    | _ => none
  | .store T a x => match ev a, ev x with
    | some (.one c), some v => bif v.known then match szT P T with
      | some w => match H.store c w v.flds with
        | some H' => some ([], .one .any, H')
        | none => none
      | none => none else none
    | _, _ => none
  | .nilCheck x => match ev x with
    | some (.one (.fn f c)) => ok1 (.fn f c)
    | some (.one c) => match H.at c with
      | some _ => ok1 c
      | none => none
    | _ => none
  | .binOp op T x y _ => match ev x, ev y with
    | some (.one a), some (.one b) => match binV op a b with
      | some (cs, c) => some (cs, .one c, [])
      | none => match eqV P H T op a b with
        | some r => ok1 (.bool r)
        | none => none
    | _, _ => none
  | .unOp op _ x => match ev x with
    | some (.one a) => match unV op a with
      | some c => ok1 c
      | none => none
    | _ => none
  | .convert src dstT x => match P.underlying src, P.underlying dstT, ev x with
    | some _, some (.int k), some (.one (.int _ n)) => ok1 (.int k (k.wrap n))
    | some _, some .string, some (.one (.str s)) => ok1 (.str s)
    | some _, some .string, some (.one (.int _ n)) => ok1 (.str (encR n))
    | some (.slice _), some (.slice e), some (.one (.ow i v)) => match H.obj i v with
      | some (.row t xs) => match P.underlying e with
        | some (.int .u8) => bif Nat.beq src dstT && Nat.beq t.size 1 then some ([decide (0 < xs.length)], .one (.ow i v), [(i, v, .row t xs)]) else none
        | _ => none
      | _ => none
    | some (.slice e), some .string, some (.one c) => match P.underlying e, srcData H (.int .u8) c with
      | some (.int .u8), some xs => some ([decide (xs.length ≤ maxStr)], .one (.str xs), [])
      | _, _ => none
    | some _, some (.slice e), some (.one (.str s)) => match P.underlying e with
      | some (.int .u8) => some ([], .one (.ow dst (H.ver dst)), [(dst, H.ver dst, .row (.int .u8) s)])
      | _ => none
    | _, _, _ => none
  | .makeFunc (.func f) first caps => match first.toList, capsOf ev caps.toList with
    | [], some l => ok1 (.fn f l)
    | _, _ => none
  | .slice T x lo hi none => match ev x, optInt ev lo, optInt ev hi with
    | some (.one c), some l, some h => match sliceV P T H c l h with
      | some (cs, c) => some (cs, .one c, [])
      | none => none
    | _, _, _ => none
  | .fieldAddr S x f => match ev x, fieldAt? P S f with
    | some (.one c), some (off, _ + 1) => match H.at c with
      | some fs => match skipW fs off with
        | some n => match movedBy c n with
          | some c => ok1 c
          | none => none
        | none => none
      | none => none
    | _, _ => none
  | .indexAddr T x i => match ev x, ev i with
    | some (.one c), some (.one (.int _ n)) => match indexAddrV P T H c n with
      | some (cs, c) => some (cs, .one c, [])
      | none => none
    | _, _ => none
  | .index T x i => match P.underlying T, ev x, ev i with
    | some .string, some (.one (.str s)), some (.one (.int _ n)) => some (idxCond n s.length, .one (.int .u8 (s.getD n.toNat 0)), [])
    | some (.array l e), some (.agg [.a m t xs]), some (.one (.int _ n)) => match aggT P e, szT P e, t.flds (xs.getD n.toNat t.dflt) with
      | some false, some z, [.c x] => bif Nat.beq l m && Nat.beq z t.size then some (idxCond n m, .one x, []) else none
      | _, _, _ => none
    | _, _, _ => none
  | .field S x f => match ev x, P.underlying S with
    | some (.agg fs), some (.struct l) => match l[f]? with
      | some fd => match skipW fs fd.offset, szT P fd.type with
        | some p, some w => match takeW (fs.drop p) w with
          | some fs => match avOf P fd.type fs with
            | some v => some ([], v, [])
            | none => none
          | none => none
        | _, _ => none
      | _ => none
    | _, _ => none
  | .makeSlice T l c => match elemT P T, ev l, ev c with
    | some e, some (.one (.int .i64 n)), some (.one (.int .i64 m)) => match rowOf P e with
      | some (t, bytes) => some ([decide (0 ≤ n), decide (n ≤ m), decide (m * (bytes : Int) ≤ (maxBytes : Int))], .one (.ow dst (H.ver dst)),
          [(dst, H.ver dst, .row t (List.replicate n.toNat t.dflt))])
      | _ => none
    | _, _, _ => none
  | .range T x => match ev x, P.underlying T with
    | some (.one (.str s)), some .string => some ([], .one (.pi dst (H.ver dst)), [(dst, H.ver dst, .it s 0)])
    | _, _ => none
  | .call { callee := .builtin .len, args, argTypes } => match args.toList, argTypes.toList with
    | [x], [T] => match ev x with
      | some v => match lenV P T H v with
        | some n => ok1 (.int .i64 n)
        | none => none
      | none => none
    | _, _ => none
  | .call { callee := .builtin .min, args, argTypes } => match args.toList with
    | [x, y] => match ev x, ev y with
      | some (.one (.int k a)), some (.one (.int k' b)) => bif decide (k = k') then ok1 (.int k (bif decide (b < a) then b else a)) else none
      | _, _ => none
    | _ => none
  | .call { callee := .builtin .max, args, argTypes } => match args.toList with
    | [x, y] => match ev x, ev y with
      | some (.one (.int k a)), some (.one (.int k' b)) => bif decide (k = k') then ok1 (.int k (bif decide (b > a) then b else a)) else none
      | _, _ => none
    | _ => none
  | .call { callee := .builtin .append, args, argTypes } => match args.toList, argTypes.toList with
    | [s, x], [T, V] => match ev s, ev x, elemT P T, slOrStr P V with
      | some (.one c), some (.one d), some e, true => match rowOf P e with
        | some (t, bytes) => match srcData H t d with
          | some ys => appendV H dst t bytes c ys
          | none => none
        | none => none
      | _, _, _, _ => none
    | _, _ => none
  | _ => none
where
  capsOf (ev : Operand → Option AV) : List Operand → Option (List (Nat × Nat))
    | [] => some []
    | o :: r => match ev o, capsOf ev r with
      | some (.one (.pb i v 0)), some l => some ((i, v) :: l)
      | _, _ => none
end Go.Ab
end

/- The abstract interpreter: frames, regions, calls, cuts. Definitions alone; nothing is proved here. -/
set_option linter.unusedVariables false
noncomputable section
namespace Go.Ab
open Go

structure Dfr where
  f : FuncId
  args : List AV
structure Fr where
  fn : FuncId
  todo : List Item
  t : List (Nat × TV)
  n : Nat
  d : List Dfr
  base : Nat
  ret : Bool
  dfr : Bool
structure St where
  fr : Fr
  up : List Fr
  h : Heap

def tmpAV (t : List (Nat × TV)) (i : Nat) : AV :=
  match lk t i with
  | some (.v x) => x
  | _ => .one .any
def evT (t : List (Nat × TV)) : Operand → Option AV
  | .tmp i => some (tmpAV t i)
  | .const v => (ofConst v).map .one
  | .func f => some (.one (.fn f []))
  | .global _ => none
def putT (n : Nat) (t : List (Nat × TV)) (dst : Option Nat) (v : TV) : List (Nat × TV) :=
  match dst with
  | some d => bif Nat.blt d n then (d, v) :: t else t
  | none => t

/-! ### Regions -/
inductive Guard where
  | yes | kn (b : Bool) | lost
def guardOf (ops : Array Oper) (t : List (Nat × TV)) (o : Oper) : Guard :=
  match o.guard with
  | none => .yes
  | some (j, want) => match (ops[j]?).bind (·.dst) with
    | some d => match lk t d with
      | some (.v (.one (.kb b))) => .kn (bif want then b else !b)
      | some (.tup []) => .kn false
      | _ => .lost
    | none => .lost
def isGuard (ops : Array Oper) (i : Nat) : Bool :=
  ops.toList.any fun o => match o.guard with
    | some (j, _) => Nat.beq j i
    | none => false
/-- Is this a bool that later operations ask? -/
def splitG (ops : Array Oper) (i : Nat) (v : TV) : Option Bool :=
  match v with
  | .v (.one (.bool g)) => bif isGuard ops i then some g else none
  | _ => none
def isCall : Op → Bool
  | .call { callee := .builtin _, .. } => false
  | .call _ => true
  | .defer _ => true
  | .next .. => true
  | _ => false
def mergeTV (g : Bool) : TV → TV → TV
  | .v a, .v b => .v (mergeAV g a b)
  | _, _ => .v (.one .any)
def mergeT (g : Bool) : Nat → List (Nat × TV) → List (Nat × TV) → List (Nat × TV) → Option (List (Nat × TV))
  | 0, _, _, t => some t
  | n + 1, (i, a) :: r, (j, b) :: s, t => bif Nat.beq i j then (match mergeT g n r s t with
    | some l => some ((i, mergeTV g a b) :: l)
    | none => none) else none
  | _, _, _, _ => none
def allB : List Bool → Bool
  | [] => true
  | [c] => c
  | c :: r => c && allB r
def mergeCs (g : Bool) (a b : List Bool) : List Bool :=
  match a, b with
  | [], [] => []
  | a, b => [bif g then allB a else allB b]
/-- What an operation looks at and turns: its place, temporaries, objects. -/
structure FP where
  i : Nat
  looks : List Nat
  ids : List Nat
  w : List Nat
def opdsOf : Op → List Operand
  | .move x | .assign x | .box _ x | .load _ x | .nilCheck x | .unOp _ _ x | .convert _ _ x | .fieldAddr _ x _ | .field _ x _ | .range _ x | .extract x _ | .next x _ => [x]
  | .pick c a b => [c, a, b]
  | .build _ l | .buildSlice _ _ l => l.toList.map (·.2)
  | .store _ a x | .binOp _ _ a x _ | .makeSlice _ a x | .indexAddr _ a x | .index _ a x => [a, x]
  | .slice _ x lo hi m => x :: (lo.toList ++ (hi.toList ++ m.toList))
  | .makeFunc _ a b => a.toList ++ b.toList
  | .call c => match c.callee with
    | .value f => f :: c.args.toList
    | _ => c.args.toList
  | _ => []
def tmpsOf : List Operand → List Nat
  | [] => []
  | .tmp t :: r => t :: tmpsOf r
  | _ :: r => tmpsOf r
def looksOf (ops : Array Oper) (o : Oper) : List Nat :=
  match o.guard with
  | none => tmpsOf (opdsOf o.op)
  | some (j, _) => match (ops[j]?).bind (·.dst) with
    | some d => d :: tmpsOf (opdsOf o.op)
    | none => tmpsOf (opdsOf o.op)
def lookT (t : List (Nat × TV)) : List Nat → List (Nat × TV)
  | [] => []
  | d :: r => match lk t d with
    | some v => (d, v) :: lookT t r
    | none => lookT t r
def restrict (H : Heap) : List Nat → Heap
  | [] => []
  | i :: r => match lk H i with
    | some (v, o) => (i, v, o) :: restrict H r
    | none => restrict H r
def C.ids : C → List Nat
  | .ow i _ | .os i _ _ _ | .oa i _ _ _ _ | .pb i _ _ | .pa i _ _ _ _ | .pe i _ _ _ | .pi i _ => [i]
  | .fn _ l => l.map (·.1)
  | _ => []
def Fld.ids : Fld → List Nat
  | .c x => x.ids
  | _ => []
def AV.ids (v : AV) : List Nat := v.flds.flatMap Fld.ids
def TV.ids : TV → List Nat
  | .v x => x.ids
  | .tup l => l.flatMap AV.ids
def Obj.ids : Obj → List Nat
  | .box fs => fs.flatMap Fld.ids
  | _ => []
def inL (i : Nat) : List Nat → Bool
  | [] => false
  | j :: r => bif Nat.beq i j then true else inL i r
/-- One operation that is no call. -/
def op1 (P : Program) (o : Oper) (base : Nat) (t : List (Nat × TV)) (H : Heap) : Option (List Bool × TV × Heap) :=
  match o.op with
  | .extract (.tmp x) n => match lk t x with
    | some (.tup l) => match l[n]? with
      | some v => some ([], .v v, [])
      | none => none
    | _ => none
  | .move (.tmp x) => match lk t x with
    | some v => some ([], v, [])
    | none => none
  | op => match opV P (base + o.dst.getD 999) (evT t) H op with
    | some (cs, v, U) => some (cs, .v v, U)
    | none => none
def idsOf (base : Nat) (o : Oper) (t : List (Nat × TV)) : List Nat := (base + o.dst.getD 999) :: t.flatMap fun x => x.2.ids
/-- The same, with nothing in sight but what it looks at. -/
def opR (P : Program) (ops : Array Oper) (i : Nat) (o : Oper) (base : Nat) (t : List (Nat × TV)) (H : Heap) : Option (List Bool × TV × Heap × FP) :=
  match looksOf ops o with
  | ds => match lookT t ds with
    | t' => match idsOf base o t' with
      | R => match op1 P o base t' (restrict H R) with
        | some (cs, v, U) => bif U.all (fun e => inL e.1 R) then some (cs, v, U, ⟨i, ds, R, U.map (·.1)⟩) else none
        | none => none
abbrev Seg := Option (List Bool × List (Nat × TV) × Heap × List FP)
/-- One operation that is no call, and those behind it. -/
def segStep (P : Program) (ops : Array Oper) (base n i : Nat) (go : List (Nat × TV) → Heap → Seg) (t : List (Nat × TV)) (H : Heap) : Seg :=
  match ops[i]? with
    | none => none
    | some o => match guardOf ops t o with
      | .lost => none
      | .kn false => match go (putT n t o.dst (.tup [])) H with
        | some (cs, t, H, fs) => some (cs, t, H, ⟨i, looksOf ops o, [], []⟩ :: fs)
        | none => none
      | _ => match opR P ops i o base t H with
        | some (cs, v, U, fp) => match splitG ops i v, o.dst with
          | some g, some d => bif Nat.blt d n then
              match go ((d, .v (.one (.kb true))) :: t) (U ++ H), go ((d, .v (.one (.kb false))) :: t) (U ++ H) with
              | some (c1, t1, H1, f1), some (c2, t2, H2, f2) => bif Nat.beq H1.length (U ++ H).length && (Nat.beq H2.length (U ++ H).length && Nat.beq t1.length t2.length) then
                  match mergeT g (t1.length - (t.length + 1)) t1 t2 ((d, v) :: t) with
                  | some t' => some (cs ++ mergeCs g c1 c2, t', U ++ H, fp :: (f1 ++ f2))
                  | none => none
                else none
              | _, _ => none
            else none
          | _, _ => match go (putT n t o.dst v) (U ++ H) with
            | some (cs', t', H', fs) => some (cs ++ cs', t', H', fp :: fs)
            | none => none
        | none => none
/-- Operations that are no calls, one behind the other. -/
def seg (P : Program) (ops : Array Oper) (base n : Nat) : List Nat → List (Nat × TV) → Heap → Seg
  | [], t, H => some ([], t, H, [])
  | i :: r, t, H => segStep P ops base n i (seg P ops base n r) t H
def callFree (ops : Array Oper) (i : Nat) : Bool :=
  match ops[i]? with
  | some o => !isCall o.op
  | none => true
/-- Where calls follow, a bool that later operations ask is gone through, not merged. -/
def cutG (ops : Array Oper) : List Nat → List Nat × List Nat
  | [] => ([], [])
  | i :: r => bif callFree ops i then (bif isGuard ops i then ([i], r) else (i :: (cutG ops r).1, (cutG ops r).2)) else ([], i :: r)
def cutSeg (ops : Array Oper) (l : List Nat) : List Nat × List Nat := bif l.all (callFree ops) then (l, []) else cutG ops l
def splitT (ops : Array Oper) (l rest : List Nat) (t : List (Nat × TV)) : Option (Nat × Bool) :=
  match rest, l.getLast? with
  | _ :: _, some i => match (ops[i]?).bind (·.dst) with
    | some d => match lk t d with
      | some (.v (.one (.bool g))) => bif isGuard ops i then some (d, g) else none
      | _ => none
    | none => none
  | _, _ => none
def contG {R : Type} (o : Option (Nat × Bool)) (t : List (Nat × TV)) (k : List (Nat × TV) → Option R) : Option R :=
  match o with
  | some (d, g) => bif g then k ((d, .v (.one (.kb true))) :: t) else k ((d, .v (.one (.kb false))) :: t)
  | none => k t
/-! What may go in another order. -/
def bindOns (o : Oper) : List Nat := o.after.toList.filterMap fun e => bif Region.binds .any e then some e.on else none
/-- Which operations stand ahead, through any of those between: a number's bits. -/
def ancMask (acc : List (Nat × Nat)) : List Nat → Nat
  | [] => 0
  | k :: r => Nat.lor (Nat.lor (Nat.shiftLeft 1 k) ((lk acc k).getD 0)) (ancMask acc r)
def masks : List Oper → Nat → List (Nat × Nat) → List (Nat × Nat)
  | [], _, acc => acc
  | o :: r, i, acc => masks r (i + 1) ((i, ancMask acc (bindOns o)) :: acc)
def apartB (ops : Array Oper) (a b : FP) : Bool :=
  (match (ops[a.i]?).bind (·.dst) with
    | some d => !inL d b.looks && (match (ops[b.i]?).bind (·.dst) with | some e => !Nat.beq d e | none => true)
    | none => true) &&
  ((match (ops[b.i]?).bind (·.dst) with
    | some d => !inL d a.looks
    | none => true) && (a.w.all (fun i => !inL i b.ids) && b.w.all (fun i => !inL i a.ids)))
def okPairs (ops : Array Oper) (ms : List (Nat × Nat)) (a : FP) : List FP → Bool
  | [] => true
  | b :: r => (bif Nat.blt a.i b.i then Nat.testBit ((lk ms b.i).getD 0) a.i || apartB ops a b else true) && okPairs ops ms a r
def okFPs (ops : Array Oper) (ms : List (Nat × Nat)) (all : List FP) : List FP → Bool
  | [] => true
  | a :: r => okPairs ops ms a all && okFPs ops ms all r
def backB (ops : Array Oper) : Nat → List Oper → Bool
  | _, [] => true
  | i, o :: r => (o.after.toList.all fun e => !Region.binds .any e || Nat.blt e.on i) && backB ops (i + 1) r
def okDraw (ops : Array Oper) (fs : List FP) : Bool := backB ops 0 ops.toList && okFPs ops (masks ops.toList 0 []) fs fs

/-! ### Calls -/
/-- The shape of an argument (of one of its cells), of an object that is handed over. -/
inductive Sh where
  | int (k : IntKind) | bool | str | ro (t : Ty) | arr (n : Nat) (t : Ty) | nilp
  /-- the whole of the row that is the j-th object; a pointer to the box that is the j-th object -/
  | ow (j : Nat) | pb (j : Nat)
  | fn (f : FuncId) (caps : List Nat)
@[reducible] def Sh.T : Sh → Type
  | .int _ => Int | .bool => Bool | .str => List Int | .ro t => List t.T | .arr _ t => List t.T | _ => Unit
inductive ShA where
  | one (s : Sh) | agg (l : List Sh)
inductive ShO where
  | row (t : Ty) | box (l : List Sh)
@[reducible] def shT : List Sh → Type
  | [] => Unit
  | s :: r => s.T × shT r
@[reducible] def ShA.T : ShA → Type
  | .one s => s.T
  | .agg l => shT l
@[reducible] def ShO.T : ShO → Type
  | .row t => List t.T
  | .box l => shT l
@[reducible] def shAT : List ShA → Type
  | [] => Unit
  | s :: r => s.T × shAT r
@[reducible] def shOT : List ShO → Type
  | [] => Unit
  | s :: r => s.T × shOT r
def par (j : Nat) : Nat := 100000 + j
def Sh.mk : (s : Sh) → s.T → Fld
  | .int k, n => .c (.int k n) | .bool, b => .c (.bool b) | .str, l => .c (.str l) | .ro t, xs => .c (.ro t xs) | .arr n t, xs => .a n t xs | .nilp, _ => .c .nilp
  | .ow j, _ => .c (.ow (par j) 0) | .pb j, _ => .c (.pb (par j) 0 0) | .fn f l, _ => .c (.fn f (l.map fun j => (par j, 0)))
def mkL : (l : List Sh) → shT l → List Fld
  | [], _ => []
  | s :: r, x => s.mk x.1 :: mkL r x.2
def ShA.mk : (s : ShA) → s.T → AV
  | .one s, x => match s.mk x with | .c c => .one c | f => .agg [f]
  | .agg l, x => .agg (mkL l x)
def ShO.mk : (s : ShO) → s.T → Obj
  | .row t, xs => .row t xs
  | .box l, x => .box (mkL l x)
def mkA : (l : List ShA) → shAT l → List AV
  | [], _ => []
  | s :: r, x => s.mk x.1 :: mkA r x.2
def mkO : (l : List ShO) → Nat → shOT l → Heap
  | [], _, _ => []
  | s :: r, j, x => (par j, 0, s.mk x.1) :: mkO r (j + 1) x.2
/-- Reading an argument by its shape. -/
def Fld.sh? (s : Sh) (f : Fld) : Bool :=
  match s, f with
  | .nilp, .c .nilp => true
  | .ow j, .c (.ow i v) => Nat.beq v 0 && Nat.beq i (par j)
  | .pb j, .c (.pb i v p) => Nat.beq v 0 && (Nat.beq p 0 && Nat.beq i (par j))
  | .fn f l, .c (.fn f' l') => Nat.beq f' f && decide (l' = l.map fun j => (par j, 0))
  | _, _ => false
def Sh.rd (s : Sh) (f : Fld) : Option s.T :=
  match s with
  | .int k => f.int? k
  | .bool => f.bool?
  | .str => f.str?
  | .ro t => f.sl? t
  | .arr n t => f.ar? n t
  | .nilp => bif f.sh? .nilp then some () else none
  | .ow j => bif f.sh? (.ow j) then some () else none
  | .pb j => bif f.sh? (.pb j) then some () else none
  | .fn g l => bif f.sh? (.fn g l) then some () else none
def rdL : (l : List Sh) → List Fld → Option (shT l)
  | [], [] => some ()
  | s :: r, f :: fs => match s.rd f, rdL r fs with
    | some x, some y => some (x, y)
    | _, _ => none
  | _, _ => none
def ShA.rd : (s : ShA) → AV → Option s.T
  | .one s, .one c => s.rd (.c c)
  | .agg l, .agg fs => rdL l fs
  | _, _ => none
def ShO.rd : (s : ShO) → Obj → Option s.T
  | .row t, .row t' xs => if h : t' = t then some (castL h xs) else none
  | .box l, .box fs => rdL l fs
  | _, _ => none
def rdA : (l : List ShA) → List AV → Option (shAT l)
  | [], [] => some ()
  | s :: r, f :: fs => match s.rd f, rdA r fs with
    | some x, some y => some (x, y)
    | _, _ => none
  | _, _ => none
def rdO : (l : List ShO) → Nat → Heap → Option (shOT l)
  | [], _, [] => some ()
  | s :: r, j, (i, 0, o) :: H => bif Nat.beq i (par j) then (match s.rd o, rdO r (j + 1) H with
    | some x, some y => some (x, y)
    | _, _ => none) else none
  | _, _, _ => none
/-- A contract: what it takes, what it tells, how that is laid into values and objects. 'still': plain data in, nothing but numbers, bools and texts out. -/
structure Con where
  X : Type
  args : List ShA
  objs : List ShO
  still : Bool
  spec : shAT args → shOT objs → Option X
  ren : shAT args → shOT objs → X → List AV × Heap
abbrev Cons := FuncId → Option Con
/-- An argument is made plain data where a contract wants that: what turns in the heap is told. -/
def coerce (H : Heap) : List ShA → List AV → Option (List AV × Heap)
  | .one (.ro _) :: r, .one c :: as => match H.plain c with
    | some (c, U) => match coerce (U ++ H) r as with
      | some (as, V) => some (.one c :: as, V ++ U)
      | none => none
    | none => none
  | _ :: r, a :: as => match coerce H r as with
    | some (as, V) => some (a :: as, V)
    | none => none
  | _, as => some (as, [])
/-- A row of our own, looked at as plain data. -/
def Heap.readS (H : Heap) : C → C
  | .ow i v => match H.data (.ow i v) with
    | some ⟨t, xs⟩ => .ro t xs
    | none => .any
  | .os i v lo n => match H.data (.os i v lo n) with
    | some ⟨t, xs⟩ => .ro t xs
    | none => .any
  | c => c
/-- The same for a contract that keeps nothing: what is handed over is only read. -/
def coerceS (H : Heap) : List ShA → List AV → List AV
  | .one (.ro _) :: r, .one c :: as => .one (H.readS c) :: coerceS H r as
  | _ :: r, a :: as => a :: coerceS H r as
  | _, as => as
def C.flat : C → Bool
  | .int .. | .bool _ | .kb _ | .str _ | .nilp | .nilf | .nils => true
  | _ => false
def AV.flat : AV → Bool
  | .one c => c.flat
  | .agg _ => false
def reach (H : Heap) : Nat → List Nat → List Nat → List Nat
  | 0, _, seen => seen
  | _ + 1, [], seen => seen
  | k + 1, i :: r, seen => bif inL i seen then reach H k r seen else
    match lk H i with
    | some (_, o) => reach H k (o.ids ++ r) (seen ++ [i])
    | none => reach H k r (seen ++ [i])
def idxOf (i : Nat) : List Nat → Nat → Option Nat
  | [], _ => none
  | j :: r, n => bif Nat.beq i j then some n else idxOf i r (n + 1)
/-- A cell with other names of objects; one that names what isn't told becomes 'any'. -/
def C.ren (f : Nat → Nat → Option (Nat × Nat)) : C → C
  | .ow i v => match f i v with | some (i, v) => .ow i v | none => .any
  | .os i v lo n => match f i v with | some (i, v) => .os i v lo n | none => .any
  | .oa i v p lo n => match f i v with | some (i, v) => .oa i v p lo n | none => .any
  | .pb i v p => match f i v with | some (i, v) => .pb i v p | none => .any
  | .pa i v p e q => match f i v with | some (i, v) => .pa i v p e q | none => .any
  | .pe i v e q => match f i v with | some (i, v) => .pe i v e q | none => .any
  | .pi i v => match f i v with | some (i, v) => .pi i v | none => .any
  | .fn g l => match renCaps f l with | some l => .fn g l | none => .any
  | c => c
where
  renCaps (f : Nat → Nat → Option (Nat × Nat)) : List (Nat × Nat) → Option (List (Nat × Nat))
    | [] => some []
    | (i, v) :: r => match f i v, renCaps f r with
      | some x, some r => some (x :: r)
      | _, _ => none
def Fld.ren (f : Nat → Nat → Option (Nat × Nat)) : Fld → Fld
  | .c x => .c (x.ren f)
  | x => x
def AV.ren (f : Nat → Nat → Option (Nat × Nat)) : AV → AV
  | .one c => .one (c.ren f)
  | .agg fs => .agg (fs.map (·.ren f))
def Obj.ren (f : Nat → Nat → Option (Nat × Nat)) : Obj → Obj
  | .box fs => .box (fs.map (·.ren f))
  | o => o
/-- A heap told with other names: of the objects named. -/
def normH (H : Heap) (f : Nat → Nat → Option (Nat × Nat)) : List Nat → Heap
  | [] => []
  | i :: r => match lk H i with
    | some (v, o) => match f i v with
      | some (j, w) => (j, w, o.ren f) :: normH H f r
      | none => normH H f r
    | none => normH H f r
/-- Into a call: the objects that are handed over, from 'par 0' on, each of the version 0. -/
def intoF (H : Heap) (ids : List Nat) (i v : Nat) : Option (Nat × Nat) :=
  match lk H i, idxOf i ids 0 with
  | some (v', _), some j => bif Nat.beq v v' then some (par j, 0) else none
  | _, _ => none
def into (H : Heap) (ids : List Nat) : Heap := normH H (intoF H ids) ids
/-- The object handed over under that name. -/
def parAt : List Nat → Nat → Nat → Option Nat
  | [], _, _ => none
  | k :: r, i, j => bif Nat.beq i (par j) then some k else parAt r i (j + 1)
/-- Back: the k-th object handed over is the caller's own again, of a later version; what was made is named by 'new'. -/
def backF (H H' : Heap) (ids : List Nat) (new : Nat) (i v : Nat) : Option (Nat × Nat) :=
  match lk H' i with
  | some (v', _) => bif Nat.beq v v' then
      (bif Nat.ble 100000 i then match parAt ids i 0 with
        | some j => match lk H j with
          | some (w, _) => some (j, w + v)
          | none => none
        | none => none
      else bif inL (new + i) ids then none else some (new + i, H.ver (new + i))) else none
  | none => none
/-- What is handed over is the caller's no more, till it is told anew. -/
def kill (H : Heap) : List Nat → Heap
  | [] => []
  | i :: r => match lk H i with
    | some (v, _) => (i, v + 1, .dead) :: kill H r
    | none => kill H r
def callIds (H : Heap) (args : List AV) : List Nat := reach H 100 (args.flatMap AV.ids) []
/-- What a call gives back: its values; what turns in the heap. -/
def backRes (H : Heap) (ids : List Nat) (new : Nat) (r : List AV × Heap) : List AV × Heap :=
  (r.1.map (·.ren (backF H r.2 ids new)), normH r.2 (backF H r.2 ids new) (r.2.map (·.1)) ++ kill H ids)
def conIn (c : Con) (H : Heap) (ids : List Nat) (args : List AV) : Option (shAT c.args × shOT c.objs) :=
  match rdA c.args (args.map (·.ren (intoF H ids))), rdO c.objs 0 (into H ids) with
  | some p, some q => some (p, q)
  | _, _ => none
def conInS (c : Con) (H : Heap) (args : List AV) : Option (shAT c.args × shOT c.objs) :=
  match rdA c.args ((coerceS H c.args args).map (·.ren fun _ _ => none)), rdO c.objs 0 [] with
  | some p, some q => some (p, q)
  | _, _ => none
def tvOf : List AV → TV
  | [v] => .v v
  | l => .tup l
def zipT : List AV → Nat → List (Nat × TV)
  | [], _ => []
  | v :: r, i => (i, .v v) :: zipT r (i + 1)
def enterF (P : Program) (f : FuncId) (args : List AV) (base : Nat) (dfr : Bool) : Option Fr :=
  match P.funcs[f]? with
  | some fn => match fn.body with
    | some c => bif !(fn.name == "runtime.NumGoroutine") && Nat.ble args.length fn.ntmps then some { fn := f, todo := [.code c], t := zipT args 0, n := fn.ntmps, d := [], base, ret := false, dfr } else none
    | none => none
  | none => none
def evArgs (ev : Operand → Option AV) : List Operand → Option (List AV)
  | [] => some []
  | o :: r => match ev o, evArgs ev r with
    | some v, some l => some (v :: l)
    | _, _ => none
def capsAV (l : List (Nat × Nat)) : List AV := l.map fun x => .one (.pb x.1 x.2 0)
/-- Which function, with which arguments. -/
def callee (ev : Operand → Option AV) (c : Call) : Option (FuncId × List AV) :=
  match c.callee with
  | .value g => match ev g, evArgs ev c.args.toList with
    | some (.one (.fn f l)), some as => some (f, as ++ capsAV l)
    | _, _ => none
  | _ => none

/-- A rune at a place of a text: what it is, how many bytes it takes. -/
def runeAt (s : List Int) (p : Nat) : Int × Nat := let r := Utf8.decode ⟨(s.map fun x => UInt8.ofNat x.toNat).toArray⟩ p; (r.1, r.2)

section
variable {R : Type}
/-- Behind the operation that stands first: its value goes where it belongs; a bool that later operations ask is split. -/
def finishK (fr : Fr) (v : TV) (k : Fr → Option R) : Option R :=
  match fr.todo with
  | .inRegion ops (i :: r) :: rest => match ops[i]? with
    | some o => match splitG ops i v, o.dst with
      | some g, some d => bif Nat.blt d fr.n then
          (bif g then k { fr with t := (d, .v (.one (.kb true))) :: fr.t, todo := .inRegion ops r :: rest } else k { fr with t := (d, .v (.one (.kb false))) :: fr.t, todo := .inRegion ops r :: rest })
        else none
      | _, _ => k { fr with t := putT fr.n fr.t o.dst v, todo := .inRegion ops r :: rest }
    | none => none
  | _ => none
/-- A call by its contract: its values, what turns in the heap, what it touches. -/
def conK (c : Con) (H : Heap) (new : Nat) (args : List AV) (k : List AV → Heap → List Nat → Option R) : Option R :=
  bif c.still then match conInS c H args with
    | some (p, q) => (c.spec p q).bind fun x => match (c.ren p q x).1 with
      | vs => bif vs.all AV.flat then k vs [] (args.flatMap AV.ids) else none
    | none => none
  else match coerce H c.args args with
    | some (args', U) => match callIds (U ++ H) args' with
      | ids => match conIn c (U ++ H) ids args' with
        | some (p, q) => (c.spec p q).bind fun x => match c.ren p q x with
          | r => match backRes (U ++ H) ids new r with
            | (vs, V) => k vs (V ++ U) (args.flatMap AV.ids ++ (ids ++ r.2.map fun e => new + e.1))
        | none => none
    | none => none
def newOf (base dst : Nat) : Nat := 1000000 * (base + dst + 1)
def callK (Γ : Cons) (P : Program) (s : St) (dst : Nat) (f : FuncId) (args : List AV) (k : St → Option R) : Option R :=
  match Γ f with
  | some c => conK c s.h (newOf s.fr.base dst) args fun vs U _ => finishK s.fr (tvOf vs) fun fr => k { s with fr, h := U ++ s.h }
  | none => match enterF P f args (s.fr.base + 1000) false with
    | some fr => k { fr, up := s.fr :: s.up, h := s.h }
    | none => none
def conds (cs : List Bool) (x : Option R) : Option R :=
  match cs with
  | [] => x
  | c :: r => bif c then conds r x else none
/-- The operation that stands first, a call. -/
def callOp (Γ : Cons) (P : Program) (s : St) (o : Oper) (k : St → Option R) : Option R :=
  match o.op with
  | .call c => match callee (evT s.fr.t) c with
    | some (f, args) => callK Γ P s (o.dst.getD 999) f args k
    | none => none
  | .defer c => match callee (evT s.fr.t) c with
    | some (f, args) => finishK s.fr (.v (.one .any)) fun fr => k { s with fr := { fr with d := ⟨f, args⟩ :: fr.d } }
    | none => none
  | .next it true => match evT s.fr.t it with
    | some (.one (.pi i v)) => match s.h.obj i v with
      | some (.it str p) => bif decide (p < str.length) then
          finishK s.fr (.tup [.one (.kb true), .one (.int .i64 p), .one (.int .i32 (runeAt str p).1)]) fun fr => k { s with fr, h := (i, v, .it str (p + (runeAt str p).2)) :: s.h }
        else finishK s.fr (.tup [.one (.kb false)]) fun fr => k { s with fr }
      | _ => none
    | _ => none
  | _ => none
/-- Operations that may go in another order: all of them, in the order of the text; then it is looked whether the order matters. -/
def drawStep (Γ : Cons) (P : Program) (ops : Array Oper) (base n : Nat) (k : List (Nat × TV) → Heap → Option R) (go : List Nat → List (Nat × TV) → Heap → List FP → Option R) : List Nat → List (Nat × TV) → Heap → List FP → Option R
  | [], t, H, fs => bif okDraw ops fs then k t H else none
  | i :: r, t, H, fs => match ops[i]? with
    | none => none
    | some o => bif isCall o.op then match guardOf ops t o with
        | .lost => none
        | .kn false => go r (putT n t o.dst (.tup [])) H (⟨i, looksOf ops o, [], []⟩ :: fs)
        | _ => match o.op with
          | .call c => match callee (evT (lookT t (looksOf ops o))) c with
            | some (f, args) => match Γ f with
              | some con => conK con H (newOf base (o.dst.getD 999)) args fun vs U ids => bif U.all (fun e => inL e.1 ids) then match splitG ops i (tvOf vs), o.dst with
                | some g, some d => bif Nat.blt d n then
                    (bif g then go r ((d, .v (.one (.kb true))) :: t) (U ++ H) (⟨i, looksOf ops o, ids, U.map (·.1)⟩ :: fs)
                    else go r ((d, .v (.one (.kb false))) :: t) (U ++ H) (⟨i, looksOf ops o, ids, U.map (·.1)⟩ :: fs)) else none
                | _, _ => go r (putT n t o.dst (tvOf vs)) (U ++ H) (⟨i, looksOf ops o, ids, U.map (·.1)⟩ :: fs) else none
              | none => none
            | none => none
          | _ => none
      else match seg P ops base n (cutSeg ops (i :: r)).1 t H with
        | some (cs, t, H, f) => conds cs (contG (splitT ops (cutSeg ops (i :: r)).1 (cutSeg ops (i :: r)).2 t) t fun t => go (cutSeg ops (i :: r)).2 t H (f ++ fs))
        | none => none
def drawK (Γ : Cons) (P : Program) (ops : Array Oper) (base n : Nat) (k : List (Nat × TV) → Heap → Option R) : Nat → List Nat → List (Nat × TV) → Heap → List FP → Option R
  | 0, _, _, _, _ => none
  | m + 1, l, t, H, fs => drawStep Γ P ops base n k (drawK Γ P ops base n k m) l t H fs
def resultsOf (P : Program) (s : St) : List ResultVar → Option (List AV)
  | [] => some []
  | .tmp t :: r => match resultsOf P s r with
    | some l => some (tmpAV s.fr.t t :: l)
    | none => none
  | .cell a T :: r => match opV P 0 (evT s.fr.t) s.h (.load T (.tmp a)), resultsOf P s r with
    | some ([], v, _), some l => some (v :: l)
    | _, _ => none
/-- A frame that returns. -/
def retK (P : Program) (s : St) (k : St → Option R) (fin : List AV → Heap → Option R) : Option R :=
  match s.fr.d with
  | d :: ds => match enterF P d.f d.args (s.fr.base + 1000) true with
    | some fr => k { fr, up := { s.fr with d := ds, ret := true } :: s.up, h := s.h }
    | none => none
  | [] => match P.funcs[s.fr.fn]? with
    | some fn => match resultsOf P s fn.results.toList with
      | some vs => match s.up with
        | [] => bif s.fr.dfr then none else fin vs s.h
        | c :: up => bif s.fr.dfr then (bif c.ret then k { fr := c, up, h := s.h } else none) else bif c.ret then none else finishK c (tvOf vs) fun c => k { fr := c, up, h := s.h }
      | none => none
    | none => none
def stepK (Γ : Cons) (P : Program) (s : St) (k : St → Option R) (fin : List AV → Heap → Option R) : Option R :=
  bif s.fr.ret then retK P s k fin else
  match s.fr.todo with
  | [] => retK P s k fin
  | .code .ret :: _ => retK P s k fin
  | .code .skip :: r => k { s with fr := { s.fr with todo := r } }
  | .code (.label _) :: r => k { s with fr := { s.fr with todo := r } }
  | .inBlock _ :: r => k { s with fr := { s.fr with todo := r } }
  | .inScope _ :: r => k { s with fr := { s.fr with todo := r } }
  | .code (.seq a b) :: r => k { s with fr := { s.fr with todo := .code a :: .code b :: r } }
  | .code (.cond c a b) :: r => match evT s.fr.t c with
    | some (.one (.bool x)) => bif x then k { s with fr := { s.fr with todo := .code a :: r } } else k { s with fr := { s.fr with todo := .code b :: r } }
    | some (.one (.kb x)) => bif x then k { s with fr := { s.fr with todo := .code a :: r } } else k { s with fr := { s.fr with todo := .code b :: r } }
    | _ => none
  | .code (.block id c) :: r => k { s with fr := { s.fr with todo := .code c :: .inBlock id :: r } }
  | .code (.loop c) :: r => k { s with fr := { s.fr with todo := .inLoop c :: r } }
  | .inLoop c :: r => k { s with fr := { s.fr with todo := .code c :: .inLoop c :: r } }
  | .code (.scope c) :: r => k { s with fr := { s.fr with todo := .code c :: .inScope c :: r } }
  | .code (.exit id) :: r => match exitTo id r with
    | some r' => k { s with fr := { s.fr with todo := r' } }
    | none => none
  | .code (.region id ops false) :: r => k { s with fr := { s.fr with todo := .inRegion ops (List.range ops.size) :: r } }
  | .code (.region id ops true) :: r => drawK Γ P ops s.fr.base s.fr.n (fun t H => k { s with fr := { s.fr with t, todo := .inRegion ops [] :: r }, h := H }) 200 (List.range ops.size) s.fr.t s.h []
  | .inRegion _ [] :: r => k { s with fr := { s.fr with todo := r } }
  | .inRegion ops (i :: is) :: r => match ops[i]? with
    | none => none
    | some o => bif isCall o.op then
        match guardOf ops s.fr.t o with
        | .lost => none
        | .kn false => k { s with fr := { s.fr with t := putT s.fr.n s.fr.t o.dst (.tup []), todo := .inRegion ops is :: r } }
        | _ => callOp Γ P s o k
      else match seg P ops s.fr.base s.fr.n (cutSeg ops (i :: is)).1 s.fr.t s.h with
        | some (cs, t, H, _) => conds cs (contG (splitT ops (cutSeg ops (i :: is)).1 (cutSeg ops (i :: is)).2 t) t fun t => k { s with fr := { s.fr with t, todo := .inRegion ops (cutSeg ops (i :: is)).2 :: r }, h := H })
        | none => none
  | _ => none

/-! ### Cuts -/
def firstRegion : Code → Option Nat
  | .region id _ _ => some id
  | .seq a _ => firstRegion a
  | .cond _ a _ => firstRegion a
  | .block _ c => firstRegion c
  | .loop c => firstRegion c
  | .scope c => firstRegion c
  | _ => none
/-- How a variable is carried through a cut. -/
inductive CP where
  | keep | own (t : Ty) | ro (t : Ty)
/-- A cut: the temporaries that live on, and how; of which boxes (the temporary that points there) which fields turn, and how; of which objects handed in the version is told anew. -/
structure Cut where
  t : List (Nat × CP)
  b : List (Nat × Nat × CP) := []
  vs : List (Nat × Nat) := []
def cutKey (s : St) : Option Nat :=
  match s.up, s.fr.ret, s.fr.todo with
  | [], false, .inLoop c :: _ => firstRegion c
  | [], false, .code (.region id _ _) :: _ => some (1000 + id)
  | _, _, _ => none
/-- A cell carried on; names of new rows: 300000 and on. -/
def normC (H : Heap) (new : Nat) (p : CP) (c : C) : Option (C × Heap) :=
  match p, c with
  | .keep, .kb b => some (.bool b, H)
  | .keep, c => some (c, H)
  | .own ty, .nils => some (.ow new (H.ver new), (new, H.ver new, .row ty []) :: H)
  | .own _, c => some (c, H)
  | .ro ty, .nils => some (.ro ty [], H)
  | .ro _, .rox t xs => some (.ro t xs, H)
  | .ro _, c => match H.plain c with
    | some (c, U) => some (c, U ++ H)
    | none => none
def normT (t : List (Nat × TV)) : List (Nat × CP) → Heap → Option (List (Nat × TV) × Heap)
  | [], H => some ([], H)
  | (i, p) :: r, H => match lk t i with
    | some (.v (.one c)) => match normC H (300000 + i) p c with
      | some (c, H) => match normT t r H with
        | some (l, H) => some ((i, .v (.one c)) :: l, H)
        | none => none
      | none => none
    | some (.v v) => match normT t r H with
      | some (l, H) => some ((i, .v v) :: l, H)
      | none => none
    | _ => none
/-- A field of a box carried on. -/
def normBox (H : Heap) (i f : Nat) (new : Nat) (p : CP) : Option Heap :=
  match lk H i with
  | some (v, .box fs) => match fs[f]? with
    | some (.c c) => match normC H new p c with
      | some (c, H) => match H.obj i v with
        | some (.box gs) => match gs[f]? with
          | some (.c _) => some ((i, v, .box (gs.set f (.c c))) :: H)
          | _ => none
        | _ => none
      | none => none
    | _ => none
  | _ => none
def normB (t : List (Nat × TV)) : List (Nat × Nat × CP) → Heap → Option Heap
  | [], H => some H
  | (x, f, p) :: r, H => match tmpAV t x with
    | .one (.pb i _ _) => match normBox H i f (400000 + 100 * x + f) p with
      | some H => normB t r H
      | none => none
    | _ => none
def TV.ren (f : Nat → Nat → Option (Nat × Nat)) : TV → TV
  | .v x => .v (x.ren f)
  | .tup l => .tup (l.map (·.ren f))
/-- The names of the objects handed in. -/
def params : Heap → List Nat → List Nat
  | [], acc => acc
  | (i, _, _) :: r, acc => params r (bif Nat.ble 100000 i && Nat.blt i 200000 && !inL i acc then acc ++ [i] else acc)
def verOf (vs : List (Nat × Nat)) (i v : Nat) : Option Nat :=
  match lk vs i with
  | some w => bif Nat.beq v 0 || !Nat.beq w 0 then some w else none
  | none => some v
def normF (H : Heap) (vs : List (Nat × Nat)) (new : Nat) (ids : List Nat) (i v : Nat) : Option (Nat × Nat) :=
  match lk H i, idxOf i ids 0 with
  | some (v', _), some j => bif Nat.beq v v' then
      (bif Nat.ble 100000 i && Nat.blt i 200000 then (verOf vs i v).map fun w => (i, w) else bif Nat.ble 100000 (new + j) && Nat.blt (new + j) 200000 then none else some (new + j, 0)) else none
  | _, _ => none
def sortedPar (l : List Nat) : List Nat := (List.range 12).filterMap fun j => bif inL (par j) l then some (par j) else none
def norm (c : Cut) (s : St) : Option St :=
  match normB s.fr.t c.b s.h with
  | some H => match normT s.fr.t c.t H with
    | some (t, H) => match reach H 100 (sortedPar (params H []) ++ t.flatMap (fun x => x.2.ids) ++ s.fr.d.flatMap (fun d => d.args.flatMap AV.ids)) [] with
      | ids => match normF H c.vs 200000 ids with
        | f => bif (params s.h []).all fun i => (lk (normH H f ids) i).isSome then
            some { fr := { s.fr with t := t.map fun x => (x.1, x.2.ren f), d := s.fr.d.map fun d => ⟨d.f, d.args.map (·.ren f)⟩ }, up := s.up, h := normH H f ids } else none
    | none => none
  | none => none
/-- How a function's answers are told: as plain data, or as they are; the versions of what was handed in. -/
structure Fin where
  r : List (List CP)
  vs : List (Nat × Nat) := []
  b : List (Nat × Nat × CP) := []
def normFs (H : Heap) (new : Nat) : List CP → List Fld → Option (List Fld × Heap)
  | p :: r, .c c :: fs => match normC H new p c with
    | some (c, H) => match normFs H (new + 1) r fs with
      | some (fs, H) => some (.c c :: fs, H)
      | none => none
    | none => none
  | _, fs => some (fs, H)
def normR (H : Heap) (new : Nat) : List (List CP) → List AV → Option (List AV × Heap)
  | p :: r, .one c :: vs => match normC H new (p.headD .keep) c with
    | some (c, H) => match normR H (new + 100) r vs with
      | some (vs, H) => some (.one c :: vs, H)
      | none => none
    | none => none
  | p :: r, .agg fs :: vs => match normFs H new p fs with
    | some (fs, H) => match normR H (new + 100) r vs with
      | some (vs, H) => some (.agg fs :: vs, H)
      | none => none
    | none => none
  | _, vs => some (vs, H)
def normFb : List (Nat × Nat × CP) → Heap → Option Heap
  | [], H => some H
  | (i, f, p) :: r, H => match normBox H i f (500000 + f) p with
    | some H => normFb r H
    | none => none
def finish (c : Fin) (vs : List AV) (H : Heap) : Option (List AV × Heap) :=
  match normFb c.b H with
  | some H => match normR H 300000 c.r vs with
    | some (vs, H) => match reach H 100 (sortedPar (params H []) ++ vs.flatMap AV.ids) [] with
      | ids => match normF H c.vs 0 ids with
        | f => some (vs.map (·.ren f), normH H f ids)
    | none => none
  | none => none
/-- One function's way through the interpreter. -/
structure Way where
  cuts : List (Nat × Cut)
  fin : Fin
def cutAt (w : Way) (s : St) : Option Cut :=
  match cutKey s with
  | some k => lk w.cuts k
  | none => none
def runK (Γ : Cons) (P : Program) (w : Way) (K : St → Option (List AV × Heap)) : Nat → St → Option (List AV × Heap)
  | 0, _ => none
  | m + 1, s => stepK Γ P s (fun s' => match cutAt w s' with
    | some c => match norm c s' with
      | some s'' => K s''
      | none => none
    | none => runK Γ P w K m s') (fun vs H => finish w.fin vs H)
/-- The interpreter, from cut to cut. -/
def goK (Γ : Cons) (P : Program) (w : Way) : Nat → St → Option (List AV × Heap)
  | 0, _ => none
  | k + 1, s => runK Γ P w (goK Γ P w k) 4000 s
/-- Where a cut lies in a function's text. -/
def locate (key : Nat) : Code → List Item → Option (List Item)
  | .seq a b, r => match locate key a (.code b :: r) with
    | some x => some x
    | none => locate key b r
  | .cond _ a b, r => match locate key a r with
    | some x => some x
    | none => locate key b r
  | .block id c, r => locate key c (.inBlock id :: r)
  | .loop c, r => match firstRegion c with
    | some k => bif Nat.beq k key then some (.inLoop c :: r) else locate key c (.inLoop c :: r)
    | none => locate key c (.inLoop c :: r)
  | .scope c, r => locate key c (.inScope c :: r)
  | .region id ops d, r => bif Nat.beq (1000 + id) key then some (.code (.region id ops d) :: r) else none
  | _, _ => none
def todoOf (P : Program) (f : FuncId) (key : Nat) : List Item :=
  match P.funcs[f]? with
  | some fn => match fn.body with
    | some c => (locate key c []).getD []
    | none => []
  | none => []
def startSt (P : Program) (f : FuncId) (args : List AV) (H : Heap) : Option St :=
  (enterF P f args 0 false).map fun fr => { fr, up := [], h := H }
end
end Go.Ab
end
