/-
  A computable weakest precondition over the loaded code, with the heap alone as its state. Definitions.
-/
import Derived.WalkKit
import Derived.KernelRfl
import Derived.RangeFuncRecord
import Derived.RangeFuncSeq
import Derived.OrdersIn
import Derived.TacticsIn
import Derived.MapKept
namespace Go.Proofs.Ytnbfaokpaiiojaa.Wx
open Go

abbrev Heap := Array Obj
abbrev Fr := List (Nat × Value)

/-- the key under which deferred calls stand, the last one first -/
def dKey : Nat := 1000000000
def getL : Fr → Nat → Option Value
  | [], _ => none
  | (i, v) :: r, t => bif Nat.beq i t then some v else getL r t
/-- What is known of a slot. -/
def Fr.get (f : Fr) (t : Nat) : Option Value := bif Nat.beq t dKey then none else getL f t
/-- the deferred calls, and what is known without them -/
def dfs : Fr → List Value
  | [] => []
  | (i, v) :: r => bif Nat.beq i dKey then v :: dfs r else dfs r
def noD : Fr → Fr
  | [] => []
  | (i, v) :: r => bif Nat.beq i dKey then noD r else (i, v) :: noD r
def addDs : List Value → Fr → Fr
  | [], f => f
  | v :: r, f => (dKey, v) :: addDs r f

/-- What a type is, as far as the walk asks. -/
inductive D where
  | bool | int (k : IntKind) | str | ptr (e : Nat) | slice (e : Nat) | arr (n e : Nat) | struct (fs : List (Nat × Nat)) | fn | map (k e : Nat) | other

structure TI where
  ok : Bool
  d : D
  cells : Nat
  bytes : Nat
  zero : List Value
  eq : List D
def noTI : TI := ⟨false, .other, 0, 0, [], []⟩
def okX (t : TI) (p : Prop) : Prop := bif t.ok then p else False
/-- a table of types, by number -/
def tiOf (l : List (Nat × TI)) (t : Nat) : TI :=
  match l with
  | [] => noTI
  | (i, x) :: r => bif Nat.beq i t then x else tiOf r t
def sigOf {α : Type} (l : List (Nat × List α)) (t : Nat) : List α :=
  match l with
  | [] => []
  | (i, x) :: r => bif Nat.beq i t then x else sigOf r t

/-- How a value of unknown content is spelt. -/
inductive Ty where
  | int (k : IntKind) | bool | str | ptr | slice | agg | any | map | clo

def D.ty : D → Ty
  | .int k => .int k | .bool => .bool | .str => .str | .ptr _ => .ptr | .slice _ => .slice | .arr _ _ => .agg | .struct _ => .agg | .fn => .any | .map _ _ => .map | .other => .any

/-- an order of a region's operations: op, the operation i with the reads that are held still behind it; alt, the operation i and then r, or else one of the others -/
inductive Od where
  | nil
  | op (i : Nat) (st : List Nat) (r : Od)
  | alt (i : Nat) (st : List Nat) (r o : Od)

structure Ctx where
  P : Program
  ti : Nat → TI
  sig : Nat → List Ty
  loops : Nat → List Nat × List (Nat × Ty)
  orders : Nat → Od
  nat : List Nat
  pan : List Nat

/-! Cells. -/
def cellOf (h : Heap) (a : Addr) : Option Value :=
  match h[a.block]? with
  | some (.cells c _ _) => if a.spot.isSome then none else c[a.off]?
  | _ => none
def frozenOf (h : Heap) (a : Addr) : Bool :=
  match h[a.block]? with
  | some (.cells _ _ (lo, hi)) => lo ≤ a.off && a.off < hi
  | _ => false
def setOf (h : Heap) (a : Addr) (v : Value) : Heap :=
  h.modify a.block fun
      | .cells c elem frozen => .cells (if a.spot.isSome then c else c.setIfInBounds a.off v) elem frozen
      | o => o
/-- cells from a on hold xs -/
def Cells (h : Heap) (a : Addr) (xs : List Value) : Prop := ∀ (i : Nat) (v : Value), xs[i]? = some v → cellOf h (a.add i) = some v
def SlCells (h : Heap) (a : Option Addr) (xs : List Value) : Prop :=
  match a with
  | some p => Cells h p xs
  | none => xs = []
/-- a cell that may be written -/
def Wr (h : Heap) (a : Addr) : Prop := (∃ u, cellOf h a = some u) ∧ frozenOf h a = false
def WrN (h : Heap) (a : Addr) (n : Nat) : Prop := ∀ i, i < n → Wr h (a.add i)
def setRow (h : Heap) (a : Addr) : List Value → (i : Nat) → Heap
  | [], _ => h
  | v :: r, i => setRow (setOf h (a.add i) v) a r (i + 1)
/-- a row of n cells may be stored at a -/
def StRow (h : Heap) (a : Addr) (cs : List Value) (n : Nat) : Prop := cs.length = n ∧ (∀ v ∈ cs, v.oneCell' = true) ∧ WrN h a n
def bv (b : UInt8) : Value := .int .u8 b.toNat
def mkStr (bs : List UInt8) : ByteArray := ⟨⟨bs⟩⟩
def StrAt (h : Heap) (a : Option Addr) (l : Nat) (bs : List UInt8) : Prop := bs.length = l ∧ SlCells h a (bs.map bv)
def repCells (z : List Value) (n : Nat) : List Value :=
  match z with
  | [v] => List.replicate n v
  | z => (List.replicate n z).flatten
def cellsL (v : Value) : List Value :=
  match v with
  | .agg a => a.toList
  | v => [v]
def pNew (h : Heap) : Value := .pointer (some ⟨h.size, 0, none⟩)
def newO (h : Heap) (cs : List Value) (t : Nat) : Heap := h.push (.cells ⟨cs⟩ t)
def scale (n size : Nat) : Nat := bif Nat.beq size 1 then n else n * size

/-! Taking values apart. -/
def onSome {α : Type} (o : Option α) (k : α → Prop) : Prop :=
  match o with
  | some a => k a
  | none => False
def onV (f : Fr) (x : Operand) (k : Value → Prop) : Prop :=
  match x with
  | .tmp t => onSome (Fr.get f t) k
  | .const v => k v
  | .global g => k (.pointer (some ⟨g, 0, none⟩))
  | .func g => k (.func (.func g) #[] #[])
def onInt (v : Value) (k : IntKind → Int → Prop) : Prop :=
  match v with
  | .int kd n => k kd n
  | _ => False
def onBool (v : Value) (k : Bool → Prop) : Prop :=
  match v with
  | .bool b => k b
  | _ => False
def onPtr (v : Value) (k : Option Addr → Prop) : Prop :=
  match v with
  | .pointer q => k q
  | _ => False
def onSlice (v : Value) (k : Option Addr → Nat → Nat → Prop) : Prop :=
  match v with
  | .slice a l c => k a l c
  | _ => False
def onAgg (v : Value) (k : List Value → Prop) : Prop :=
  match v with
  | .agg a => k a.toList
  | _ => False
def onStr (v : Value) (k : ByteArray → Prop) : Prop :=
  match v with
  | .string s => k s
  | _ => False
def onMap (v : Value) (k : Option Nat → Prop) : Prop :=
  match v with
  | .map q => k q
  | _ => False
def onTup (v : Value) (k : List Value → Prop) : Prop :=
  match v with
  | .tuple a => k a.toList
  | _ => False
/-- a value of unknown content that meets C -/
def exT (ty : Ty) (C K : Value → Prop) : Prop :=
  match ty with
  | .int k => ∃ n : Int, C (.int k n) ∧ K (.int k n)
  | .bool => ∃ b : Bool, C (.bool b) ∧ K (.bool b)
  | .str => ∃ s : ByteArray, C (.string s) ∧ K (.string s)
  | .ptr => ∃ q : Option Addr, C (.pointer q) ∧ K (.pointer q)
  | .slice => ∃ (a : Option Addr) (l c : Nat), C (.slice a l c) ∧ K (.slice a l c)
  | .agg => ∃ cs : List Value, C (.agg ⟨cs⟩) ∧ K (.agg ⟨cs⟩)
  | .any => ∃ v : Value, C v ∧ K v
  | .map => ∃ q : Option Nat, C (.map q) ∧ K (.map q)
  | .clo => ∃ (g : Nat) (fs cs : List Value), C (.func (.func g) ⟨fs⟩ ⟨cs⟩) ∧ K (.func (.func g) ⟨fs⟩ ⟨cs⟩)
/-- several, in a tuple -/
def exTs (tys : List Ty) (acc : List Value) (C K : List Value → Prop) : Prop :=
  match tys with
  | [] => C acc ∧ K acc
  | .int k :: r => ∃ n : Int, exTs r (acc ++ [.int k n]) C K
  | .bool :: r => ∃ b : Bool, exTs r (acc ++ [.bool b]) C K
  | .str :: r => ∃ s : ByteArray, exTs r (acc ++ [.string s]) C K
  | .ptr :: r => ∃ q : Option Addr, exTs r (acc ++ [.pointer q]) C K
  | .slice :: r => ∃ (a : Option Addr) (l c : Nat), exTs r (acc ++ [.slice a l c]) C K
  | .agg :: r => ∃ cs : List Value, exTs r (acc ++ [.agg ⟨cs⟩]) C K
  | .any :: r => ∃ v : Value, exTs r (acc ++ [v]) C K
  | .map :: r => ∃ q : Option Nat, exTs r (acc ++ [.map q]) C K
  | .clo :: r => ∃ (g : Nat) (fs cs : List Value), exTs r (acc ++ [.func (.func g) ⟨fs⟩ ⟨cs⟩]) C K

/-! Calls, as the heap sees them. -/
def SameRest (w w' : World) : Prop := w'.os = w.os ∧ w'.tape = w.tape ∧ w'.output = w.output
def Callable (P : Program) (g : Nat) : Prop := ∃ fn, P.funcs[g]? = some fn ∧ (fn.name == "runtime.NumGoroutine") = false ∧ fn.body.isNone = false
def HCalls (P : Program) (g : Nat) (args : List Value) (h : Heap) (k : Value → Heap → Prop) : Prop :=
  Callable P g ∧ ∀ w : World, w.heap = h → Calls P g ⟨args⟩ w fun e w' => ∃ v, e = .returned v ∧ SameRest w w' ∧ k v w'.heap

/-- a call that may end in a panic -/
def PCalls (P : Program) (g : Nat) (args : List Value) (h : Heap) (k kp : Value → Heap → Prop) : Prop :=
  Callable P g ∧ ∀ w : World, w.heap = h → Calls P g ⟨args⟩ w fun e w' => SameRest w w' ∧ ((∃ v, e = .returned v ∧ k v w'.heap) ∨ (∃ v, e = .panicked [{ v := v, recovered := false }] ∧ kp v w'.heap))
/-- a deferred call that takes a panic up -/
def PDCalls (P : Program) (g : Nat) (args : List Value) (v : Value) (h : Heap) (k : Heap → Prop) : Prop :=
  Callable P g ∧ ∀ w : World, w.heap = h → CallsDIn Fence.wide 0 P g ⟨args⟩ (.panicking [{ v := v, recovered := false }]) w fun e u w' => u = .panicking [{ v := v, recovered := true }] ∧ (∃ r, e = .returned r) ∧ SameRest w w' ∧ k w'.heap
def PDCallsV (P : Program) (c : Value) (args : List Value) (v : Value) (h : Heap) (k : Heap → Prop) : Prop :=
  match c with
  | .func (.func g) fs cs => PDCalls P g (fs.toList ++ args ++ cs.toList) v h k
  | _ => False
/-- a round of a loop over a function, as the heap sees it -/
def YCalls (P : Program) (l : Nat) (args : List Value) (h : Heap) (k : Value → Heap → Prop) : Prop :=
  ∀ w : World, w.heap = h → YieldAt Fence.wide 0 P l ⟨args⟩ w fun e w' => ∃ v, e = .returned v ∧ SameRest w w' ∧ k v w'.heap
/-- a call that is deferred -/
def DCalls (P : Program) (g : Nat) (args : List Value) (h : Heap) (k : Heap → Prop) : Prop :=
  Callable P g ∧ ∀ w : World, w.heap = h → CallsDIn Fence.wide 0 P g ⟨args⟩ .returning w fun e u w' => u = .returning ∧ (∃ v, e = .returned v) ∧ SameRest w w' ∧ k w'.heap
def DCallsV (P : Program) (v : Value) (args : List Value) (h : Heap) (k : Heap → Prop) : Prop :=
  match v with
  | .func (.func g) fs cs => DCalls P g (fs.toList ++ args ++ cs.toList) h k
  | _ => False
/-! The record of a loop over a function. -/
def LoopOn (h : Heap) (l : Nat) (R : Loop) (st : LoopState) (p : Option Code) : Prop := h[l]? = some (.loop { R with state := st, pending := p })
def setLoop (h : Heap) (l : Nat) (R : Loop) (st : LoopState) (p : Option Code) : Heap := h.setIfInBounds l (.loop { R with state := st, pending := p })
def beginL (h : Heap) (R : Loop) : Heap := (h.push (.deferred (some []))).push (.loop { R with state := .ready, pending := none })
def endD (h : Heap) (b : Nat) : Heap := h.setIfInBounds b (.deferred none)
/-- what follows a loop over a function, by the jump that its rounds have left -/
def pendX (p : Option Code) (n r : Prop) (e : Nat → Prop) : Prop :=
  match p with
  | none => n
  | some .ret => r
  | some (.exit i) => e i
  | _ => False
def exX : List Nat → Nat → (Nat → Prop) → Prop
  | [], _, _ => False
  | j :: r, i, E => bif Nat.beq i j then E j else exX r i E

/-! Operations. -/
def bitsI (op : BinOp) (kd : IntKind) (a b : Int) : Int :=
  let x := BitVec.ofInt kd.bits a
  let y := BitVec.ofInt kd.bits b
  match op with
  | .and => kd.wrap (x &&& y).toNat
  | .or => kd.wrap (x ||| y).toNat
  | .xor => kd.wrap (x ^^^ y).toNat
  | _ => kd.wrap (x &&& ~~~y).toNat
def intB (op : BinOp) (kd : IntKind) (a b : Int) (k : Value → Prop) : Prop :=
  match op with
  | .add => k (.int kd (kd.wrap (a + b)))
  | .sub => k (.int kd (kd.wrap (a - b)))
  | .mul => k (.int kd (kd.wrap (a * b)))
  | .quo => if b = 0 then False else k (.int kd (kd.wrap (a.tdiv b)))
  | .rem => if b = 0 then False else k (.int kd (a.tmod b))
  | .eql => k (.bool (a == b))
  | .neq => k (.bool (a != b))
  | .lss => k (.bool (decide (a < b)))
  | .leq => k (.bool (decide (a ≤ b)))
  | .gtr => k (.bool (decide (a > b)))
  | .geq => k (.bool (decide (a ≥ b)))
  | .and => k (.int kd (bitsI .and kd a b))
  | .or => k (.int kd (bitsI .or kd a b))
  | .xor => k (.int kd (bitsI .xor kd a b))
  | .andNot => k (.int kd (bitsI .andNot kd a b))
  | _ => False
def shiftB (op : BinOp) (kd : IntKind) (a b : Int) (k : Value → Prop) : Prop :=
  match op with
  | .shl => if b < 0 then False else k (.int kd (kd.wrap (a * 2 ^ min b.toNat kd.bits)))
  | .shr => if b < 0 then False else k (.int kd (a.fdiv (2 ^ min b.toNat kd.bits)))
  | _ => False
def strB (op : BinOp) (a b : ByteArray) (k : Value → Prop) : Prop :=
  match op with
  | .add => ((a.size + b.size : Nat) : Int) ≤ 9223372036854775807 ∧ k (.string (a ++ b))
  | .eql => k (.bool (a.toList == b.toList))
  | .neq => k (.bool !(a.toList == b.toList))
  | .lss => k (.bool (Op.bytesLess a.toList b.toList))
  | .leq => k (.bool (Op.bytesLess a.toList b.toList || a.toList == b.toList))
  | .gtr => k (.bool !(Op.bytesLess a.toList b.toList || a.toList == b.toList))
  | .geq => k (.bool !(Op.bytesLess a.toList b.toList))
  | _ => False
def isShift : BinOp → Bool
  | .shl | .shr => true
  | _ => false
def kindEq : IntKind → IntKind → Bool
  | .i8, .i8 | .i16, .i16 | .i32, .i32 | .i64, .i64 | .u8, .u8 | .u16, .u16 | .u32, .u32 | .u64, .u64 => true
  | _, _ => false
def eqB (op : BinOp) (b : Bool) (k : Value → Prop) : Prop :=
  match op with
  | .eql => k (.bool b)
  | .neq => k (.bool !b)
  | _ => False
def isNilFn : Value → Bool
  | .nilFunc => true
  | _ => false
def isFnV : Value → Bool
  | .nilFunc => true
  | .func _ _ _ => true
  | _ => false
/-- a call of a function value -/
def HCallsV (P : Program) (v : Value) (args : List Value) (h : Heap) (k : Value → Heap → Prop) : Prop :=
  match v with
  | .func (.func g) fs cs => HCalls P g (fs.toList ++ args ++ cs.toList) h k
  | .func (.yield l) fs _ => YCalls P l (fs.toList ++ args) h k
  | _ => False
/-- a call of a function value that is no round -/
def HCallsF (P : Program) (v : Value) (args : List Value) (h : Heap) (k : Value → Heap → Prop) : Prop :=
  match v with
  | .func (.func g) fs cs => HCalls P g (fs.toList ++ args ++ cs.toList) h k
  | _ => False
def binX (d : D) (op : BinOp) (x y : Value) (k : Value → Prop) : Prop :=
  match d with
  | .fn => (match y with | .nilFunc => isFnV x = true ∧ eqB op (isNilFn x) k | _ => False)
  | d => match x, y with
  | .int kd a, .int kd' b => bif isShift op then shiftB op kd a b k else bif kindEq kd kd' then intB op kd a b k else False
  | .string a, .string b => strB op a b k
  | .bool a, .bool b => (match d with | .bool => eqB op (a == b) k | _ => False)
  | .pointer a, .pointer none => (match d with | .ptr _ => eqB op a.isNone k | _ => False)
  | .slice a _ _, .slice none _ _ => (match d with | .slice _ => eqB op a.isNone k | _ => False)
  | _, _ => False
/-- pairs of cells that may be compared -/
def pairsOk : List D → List Value → List Value → Bool
  | [], [], [] => true
  | .int kd :: ks, .int ka _ :: xs, .int kb _ :: ys => kindEq kd ka && kindEq kd kb && pairsOk ks xs ys
  | .str :: ks, .string _ :: xs, .string _ :: ys => pairsOk ks xs ys
  | .bool :: ks, .bool _ :: xs, .bool _ :: ys => pairsOk ks xs ys
  | _, _, _ => false
def cellsEq : List Value → List Value → Bool
  | .int _ a :: xs, .int _ b :: ys => (a == b) && cellsEq xs ys
  | .string a :: xs, .string b :: ys => (a.toList == b.toList) && cellsEq xs ys
  | .bool a :: xs, .bool b :: ys => (a == b) && cellsEq xs ys
  | [], [] => true
  | _, _ => false
/-- a binary operation, on composites too -/
def binA (t : TI) (op : BinOp) (x y : Value) (k : Value → Prop) : Prop :=
  match t.eq with
  | [] => binX t.d op x y k
  | ks => (match x, y with
      | .agg a, .agg b => pairsOk ks a.toList b.toList = true ∧ eqB op (cellsEq a.toList b.toList) k
      | _, _ => False)
def unX (op : UnOp) (x : Value) (k : Value → Prop) : Prop :=
  match op, x with
  | .not, .bool b => k (.bool !b)
  | .neg, .int kd n => k (.int kd (kd.wrap (0 - n)))
  | .xor, .int kd n => k (.int kd (bitsI .xor kd (if kd.signed then -1 else kd.max) n))
  | _, _ => False
def loadX (t : TI) (p : Addr) (h : Heap) (k : Value → Prop) : Prop :=
  match t.d.ty with
  | .agg => ∃ cs : List Value, cs.length = t.cells ∧ Cells h p cs ∧ k (.agg ⟨cs⟩)
  | ty => exT ty (fun v => cellOf h p = some v) k
def storeX (t : TI) (p : Addr) (v : Value) (h : Heap) (k : Heap → Prop) : Prop :=
  match v with
  | .agg a => StRow h p a.toList t.cells ∧ k (setRow h p a.toList 0)
  | .tuple _ => False
  | v => bif Nat.beq t.cells 1 then Wr h p ∧ k (setOf h p v) else False
/-- the parts of a composite, one behind the other -/
def catAll : List (List Value) → List Value
  | [] => []
  | [x] => x
  | x :: r => x ++ catAll r
def findPart (f : Fr) (i : Nat) : List (Nat × Operand) → Option (Option Value)
  | [] => none
  | (j, x) :: r => bif Nat.beq j i then some (match x with | .tmp t => Fr.get f t | .const v => some v | .global g => some (.pointer (some ⟨g, 0, none⟩)) | .func g => some (.func (.func g) #[] #[])) else findPart f i r
/-- the parts at places i, i+1, ..: what is given (of the right size), or zeros -/
def partsX (f : Fr) (parts : List (Nat × Operand)) (Z : List Value) : (segs : List (Nat × Nat)) → (i : Nat) → (acc : List (List Value)) → (k : List (List Value) → Prop) → Prop
  | [], _, acc, k => k acc
  | (off, size) :: r, i, acc, k =>
    match findPart f i parts with
    | none => partsX f parts Z r (i + 1) (acc ++ [(Z.drop off).take size]) k
    | some o => onSome o fun v => (match v with
        | .agg a => a.toList.length = size ∧ partsX f parts Z r (i + 1) (acc ++ [a.toList]) k
        | .tuple _ => False
        | v => bif Nat.beq size 1 then partsX f parts Z r (i + 1) (acc ++ [[v]]) k else False)
/-- segments that lie one behind the other, n cells in all -/
def layB : List (Nat × Nat) → (at_ n : Nat) → Bool
  | [], m, n => Nat.beq m n
  | (off, size) :: r, m, n => Nat.beq off m && layB r (m + size) n
def evenSegs (size : Nat) : (n i : Nat) → List (Nat × Nat)
  | 0, _ => []
  | n + 1, i => (i * size, size) :: evenSegs size n (i + 1)
def sorted (n : Nat) : List (Nat × Operand) → (from_ : Nat) → Bool
  | [], _ => true
  | (j, _) :: r, m => Nat.ble m j && Nat.blt j n && sorted n r (j + 1)
/-- x[lo:hi] -/
def subSlice (a : Option Addr) (l h m size : Nat) : Value := .slice (if m = l then a else a.map (·.add (scale l size))) (h - l) (m - l)
def loX (f : Fr) (lo : Option Operand) (k : Option Int → Prop) : Prop :=
  match lo with
  | none => k none
  | some x => onV f x fun v => onInt v fun _ n => k (some n)
def cutX (a : Option Addr) (len cap size : Nat) (lo hi mx : Option Int) (k : Value → Prop) : Prop :=
  match lo, hi, mx with
  | none, none, none => k (.slice a len cap)
  | none, some h, none => (0 ≤ h ∧ h ≤ (cap : Int)) ∧ k (.slice a h.toNat cap)
  | some l, none, none => (0 ≤ l ∧ l ≤ (len : Int)) ∧ k (subSlice a l.toNat len cap size)
  | some l, some h, none => (0 ≤ l ∧ l ≤ h ∧ h ≤ (cap : Int)) ∧ k (subSlice a l.toNat h.toNat cap size)
  | none, some h, some m => (0 ≤ h ∧ h ≤ m ∧ m ≤ (cap : Int)) ∧ k (.slice a h.toNat m.toNat)
  | some l, some h, some m => (0 ≤ l ∧ l ≤ h ∧ h ≤ m ∧ m ≤ (cap : Int)) ∧ k (subSlice a l.toNat h.toNat m.toNat size)
  | _, _, _ => False
def cutStr (s : ByteArray) (lo hi mx : Option Int) (k : Value → Prop) : Prop :=
  match lo, hi, mx with
  | none, none, none => k (.string s)
  | none, some h, none => (0 ≤ h ∧ h ≤ (s.size : Int)) ∧ k (.string (s.extract 0 h.toNat))
  | some l, none, none => (0 ≤ l ∧ l ≤ (s.size : Int)) ∧ k (.string (s.extract l.toNat s.size))
  | some l, some h, none => (0 ≤ l ∧ l ≤ h ∧ h ≤ (s.size : Int)) ∧ k (.string (s.extract l.toNat h.toNat))
  | _, _, _ => False
def sliceX (d : D) (size : Nat) (x : Value) (lo hi mx : Option Int) (k : Value → Prop) : Prop :=
  match d, x with
  | .str, .string s => cutStr s lo hi mx k
  | .slice _, .slice a len cap => cutX a len cap size lo hi mx k
  | .arr n _, .pointer q => onSome q fun p => cutX (some p) n n size lo hi mx k
  | _, _ => False
/-- what an append takes in -/
def srcX (elem : TI) (h : Heap) (x : Value) (k : Nat → List Value → Prop) : Prop :=
  match x with
  | .slice b n _ => ∃ new : List Value, new.length = n * elem.cells ∧ SlCells h b new ∧ (∀ v ∈ new, v.oneCell' = true) ∧ k n new
  | .string s => bif Nat.beq elem.cells 1 then k s.size (s.toList.map bv) else False
  | _ => False
def WrS (h : Heap) (a : Option Addr) (o n : Nat) : Prop :=
  match a with
  | some p => WrN h (p.add o) n
  | none => n = 0
def setS (h : Heap) (a : Option Addr) (o : Nat) (new : List Value) : Heap :=
  match a with
  | some p => setRow h (p.add o) new 0
  | none => h
/-- append: s has l of c elements; n more -/
def AppendP (elem : TI) (e : Nat) (a : Option Addr) (l c n : Nat) (new : List Value) (h : Heap) (k : Option Addr → Nat → Nat → Heap → Prop) : Prop :=
  ∃ old : List Value, old.length = l * elem.cells ∧ SlCells h a old ∧ (l + n) * elem.bytes ≤ 140737488355328 ∧ (l + n ≤ 140737488355328) ∧
    (l + n ≤ c → WrS h a (l * elem.cells) (n * elem.cells) ∧ k a (l + n) c (setS h a (l * elem.cells) new)) ∧
    (c < l + n → ∀ cap, l + n ≤ cap → k (some ⟨h.size, 0, none⟩) (l + n) cap (newO h (old ++ new ++ repCells elem.zero (cap - (l + n))) e))
def CopyP (elem : TI) (a : Option Addr) (n : Nat) (src : Value) (h : Heap) (k : Nat → Heap → Prop) : Prop :=
  match src with
  | .slice b m _ => ∃ new : List Value, new.length = min m n * elem.cells ∧ SlCells h b new ∧ (∀ v ∈ new, v.oneCell' = true) ∧ WrS h a 0 (min m n * elem.cells) ∧ k (min m n) (setS h a 0 new)
  | .string s => (bif Nat.beq elem.cells 1 then True else False) ∧ WrS h a 0 (min s.size n) ∧ k (min s.size n) (setS h a 0 ((s.toList.take (min s.size n)).map bv))
  | _ => False
/-- clear, of a slice -/
def ClearP (elem : TI) (a : Option Addr) (n : Nat) (h : Heap) (k : Heap → Prop) : Prop :=
  (bif elem.zero.all Value.oneCell' then True else False) ∧ WrS h a 0 (n * elem.cells) ∧ k (setS h a 0 (repCells elem.zero n))
def MakeP (elem : TI) (e : Nat) (l c : Int) (h : Heap) (k : Value → Heap → Prop) : Prop :=
  (0 ≤ l ∧ l ≤ c ∧ (elem.bytes : Int) * c ≤ 281474976710656 ∧ c ≤ 281474976710656) ∧ k (.slice (some ⟨h.size, 0, none⟩) l.toNat c.toNat) (newO h (repCells elem.zero c.toNat) e)
def lenX (d : D) (v : Value) (k : Value → Prop) : Prop :=
  match d, v with
  | .slice _, .slice _ n _ => k (.int .i64 (n : Int))
  | .str, .string s => k (.int .i64 (s.size : Int))
  | .arr n _, _ => k (.int .i64 (n : Int))
  | _, _ => False
def capX (d : D) (v : Value) (k : Value → Prop) : Prop :=
  match d, v with
  | .slice _, .slice _ _ c => k (.int .i64 (c : Int))
  | _, _ => False
def minX (x y : Value) (k : Value → Prop) : Prop :=
  match x, y with
  | .int kd a, .int kd' b => bif kindEq kd kd' then k (.int kd (if b < a then b else a)) else False
  | _, _ => False
def maxX (x y : Value) (k : Value → Prop) : Prop :=
  match x, y with
  | .int kd a, .int kd' b => bif kindEq kd kd' then k (.int kd (if b > a then b else a)) else False
  | _, _ => False
def isU8 : D → Bool
  | .int .u8 => true
  | _ => false
def isSliceD : D → Bool
  | .slice _ => true
  | _ => false
/-- a new block whose mark says that it came of a text (its mark bars no cell) -/
def newS (h : Heap) (cs : List Value) (t : Nat) : Heap := h.push (.cells ⟨cs⟩ t (cs.length, cs.length + 1))
/-- a text as bytes: a new block; how much room it has, is open -/
def markO (n : Nat) : Obj → Obj
  | .cells c e (lo, hi) => .cells c e (if lo == hi then (n, n + 1) else (min lo n, max hi (n + 1)))
  | o => o
/-- such a mark is set -/
def markH (h : Heap) (b : Nat) : Heap :=
  match h[b]? with
  | some (.cells c _ _) => h.modify b (markO c.size)
  | _ => h
def bytesX (C : Ctx) (same : Bool) (src dst : D) (v : Value) (h : Heap) (k : Value → Heap → Prop) : Prop :=
  match src, dst with
  | .str, .slice e => bif isU8 (C.ti e).d then onStr v fun s => ∀ cap : Nat, s.size ≤ cap → k (.slice (some ⟨h.size, 0, none⟩) s.size cap) (newS h (s.toList.map bv ++ List.replicate (cap - s.size) (bv 0)) e) else False
  | .slice _, .slice e => bif same && isU8 (C.ti e).d then onSlice v fun a l c => onSome a fun p => k (.slice (some p) l c) (markH h p.block) else False
  | _, _ => False
def convX (C : Ctx) (src dst : D) (v : Value) (h : Heap) (k : Value → Heap → Prop) : Prop :=
  match src, dst, v with
  | .int _, .int kd, .int _ n => k (.int kd (kd.wrap n)) h
  | .str, .str, .string s => k (.string s) h
  | .int _, .str, .int _ n => k (.string (Utf8.encode n)) h
  | .slice e, .str, .slice a l _ => bif isU8 (C.ti e).d then ∃ bs : List UInt8, StrAt h a l bs ∧ k (.string (mkStr bs)) h else False
  | _, _, _ => False
def elemOf (C : Ctx) (t : Nat) : Nat :=
  match (C.ti t).d with
  | .slice e => e
  | .arr _ e => e
  | .ptr e => e
  | _ => 0
def evs (f : Fr) : List Operand → (acc : List Value) → (k : List Value → Prop) → Prop
  | [], acc, k => k acc
  | x :: r, acc, k => onV f x fun v => evs f r (acc ++ [v]) k
/-- what comes back of a call -/
def backX (tys : List Ty) (k : Value → Heap → Prop) (v : Value) (h : Heap) : Prop :=
  match tys with
  | [] => v = .tuple #[] ∧ k (.tuple #[]) h
  | [ty] => exT ty (fun u => v = u) (fun u => k u h)
  | tys => exTs tys [] (fun us => v = .tuple ⟨us⟩) (fun us => k (.tuple ⟨us⟩) h)
def fieldOf (C : Ctx) (t i : Nat) : Option (Nat × Nat) :=
  match (C.ti t).d with
  | .struct fs => fs[i]?
  | _ => none
def insP (q : Nat × Operand) : List (Nat × Operand) → List (Nat × Operand)
  | [] => [q]
  | x :: r => bif Nat.ble q.1 x.1 then q :: x :: r else x :: insP q r
def sortP : List (Nat × Operand) → List (Nat × Operand)
  | [] => []
  | q :: r => insP q (sortP r)
/-- the parts, brought into their order, are parts of different places -/
def isFull (len : Nat) (parts : List (Nat × Operand)) : Bool := sorted len (sortP parts) 0

/-! Maps: their keys are numbers or texts. -/
inductive MKey where
  | i (n : Int)
  | s (b : List UInt8)
def MKey.same : MKey → MKey → Bool
  | .i a, .i b => a == b
  | .s a, .s b => a == b
  | _, _ => false
def keyV (d : D) : MKey → Value
  | .i n => (match d with | .int k => .int k n | _ => .nilFunc)
  | .s b => .string (mkStr b)
def keyFit (d : D) : MKey → Bool
  | .i _ => (match d with | .int _ => true | _ => false)
  | .s _ => (match d with | .str => true | _ => false)
def keyX (d : D) (v : Value) (k : MKey → Prop) : Prop :=
  match d, v with
  | .int kd, .int kd' n => bif kindEq kd kd' then k (.i n) else False
  | .str, .string s => k (.s s.toList)
  | _, _ => False
abbrev MapC := List (MKey × Value)
def MapAt (d : D) (h : Heap) (r : Nat) (m : MapC) : Prop :=
  ∃ es clock, h[r]? = some (.map es clock) ∧ es.toList.map (fun e => (e.key, e.val)) = m.map (fun p => (keyV d p.1, p.2)) ∧ (∀ p ∈ m, keyFit d p.1 = true) ∧ MapKept.Stamped es clock
/-- h' is h, with the map r now m -/
structure MapTo (d : D) (h : Heap) (r : Nat) (m : MapC) (h' : Heap) : Prop where
  size : h'.size = h.size
  same : ∀ b, b ≠ r → h'[b]? = h[b]?
  at_ : MapAt d h' r m
/-- h' is h, with the key x gone from the map r; the other entries stay, with their stamps -/
structure MapDl (d : D) (h : Heap) (r : Nat) (x : MKey) (m : MapC) (h' : Heap) : Prop extends MapTo d h r m h' where
  del : ∀ es clock, h[r]? = some (.map es clock) → ∃ es', h'[r]? = some (.map es' clock) ∧ es'.toList = es.toList.filter fun e => @decide (e.key ≠ keyV d x) (Classical.propDecidable _)
def mget : MapC → MKey → Option Value
  | [], _ => none
  | (k, v) :: r, x => bif MKey.same x k then some v else mget r x
def mput : MapC → MKey → Value → MapC
  | [], x, v => [(x, v)]
  | (k, u) :: r, x, v => bif MKey.same x k then (x, v) :: r else (k, u) :: mput r x v
def mdel : MapC → MKey → MapC
  | [], _ => []
  | (k, u) :: r, x => bif MKey.same x k then r else (k, u) :: mdel r x
def MapIn (d : D) (q : Option Nat) (h : Heap) (K : MapC → Prop) : Prop :=
  match q with
  | none => K []
  | some r => ∃ m, MapAt d h r m ∧ K m
def MapPut (d : D) (r : Nat) (x : MKey) (v : Value) (h : Heap) (K : Heap → Prop) : Prop := ∃ m, MapAt d h r m ∧ ∀ h', MapTo d h r (mput m x v) h' → K h'
def MapDel (d : D) (q : Option Nat) (x : MKey) (h : Heap) (K : Heap → Prop) : Prop :=
  match q with
  | none => K h
  | some r => ∃ m, MapAt d h r m ∧ ∀ h', MapDl d h r x (mdel m x) h' → K h'
def newM (h : Heap) : Heap := h.push (.map #[] 0)
def zeroV (t : TI) : Value :=
  match t.d.ty with
  | .agg => .agg ⟨t.zero⟩
  | _ => t.zero.headD .nilFunc
/-- a walk along a text -/
structure IterTo (h : Heap) (r : Nat) (s : ByteArray) (pos : Nat) (h' : Heap) : Prop where
  size : h'.size = h.size
  same : ∀ b, b ≠ r → h'[b]? = h[b]?
  at_ : h'[r]? = some (.stringIter s pos)
def newI (h : Heap) (s : ByteArray) : Heap := h.push (.stringIter s 0)
/-- a walk along a map of numbers by numbers: what is left of it; the entry that it stands at -/
abbrev MapI := List (Int × Int)
def mI (l : MapI) : MapC := l.map fun p => (.i p.1, .int .i64 p.2)
def isI64 : D → Bool
  | .int .i64 => true
  | _ => false
def kvI (p : Int × Int) : Value × Value := (.int .i64 p.1, .int .i64 p.2)
def MItAt (h : Heap) (b r : Nat) (m left : MapI) : Prop :=
  ∃ es clock since seen last, h[r]? = some (.map es clock) ∧ h[b]? = some (.mapIter (some r) since seen last) ∧ es.toList.map (fun e => (e.key, e.val)) = m.map kvI ∧ MapKept.Stamped es clock ∧
    (∀ x ∈ es.toList, x.born < since) ∧ since ≤ last ∧ since ≤ clock ∧ (es.toList.filter fun e => !seen.contains e.born).map (fun e => (e.key, e.val)) = left.map kvI
def MCur (h : Heap) (b r : Nat) (n v : Int) : Prop :=
  ∃ es clock since seen e, h[r]? = some (.map es clock) ∧ h[b]? = some (.mapIter (some r) since seen clock) ∧ seen.back? = some e.born ∧ es.find? (·.born == e.born) = some e ∧ e.key = .int .i64 n ∧ e.val = .int .i64 v
/-- the stamp of an entry; an entry is looked up to be written, made where there is none -/
def StAt (h : Heap) (r : Nat) (x : MKey) (s : Int) : Prop := ∃ es clock e, h[r]? = some (.map es clock) ∧ e ∈ es.toList ∧ (e.born : Int) = s ∧ e.key = keyV (.int .i64) x
structure EntTo (h : Heap) (r : Nat) (m : MapI) (x : MKey) (z s : Int) (h' : Heap) : Prop where
  to : MapTo (.int .i64) h r (mput (mI m) x (.int .i64 z)) h'
  st : StAt h' r x s
structure NewIt (h : Heap) (r : Nat) (m : MapI) (h' : Heap) : Prop where
  size : h'.size = h.size + 1
  same : ∀ b, b < h.size → h'[b]? = h[b]?
  at_ : MItAt h' h.size r m m
structure ItTo (h : Heap) (b r : Nat) (m left : MapI) (e : Int × Int) (h' : Heap) : Prop where
  size : h'.size = h.size
  same : ∀ b', b' ≠ b → h'[b']? = h[b']?
  at_ : MItAt h' b r m (left.filter fun p => p.1 != e.1)
  cur : MCur h' b r e.1 e.2
/-- the first place of a byte -/
def byteIn : List UInt8 → UInt8 → Int
  | [], _ => -1
  | b :: l, c => if b == c then 0 else if byteIn l c == -1 then -1 else byteIn l c + 1

def stepX (C : Ctx) (f : Fr) (op : Op) (ty : Nat) (k : Value → Heap → Prop) (h : Heap) : Prop :=
  match op with
  | .move x | .assign x => onV f x fun v => k v h
  | .pick c a b => onV f c fun vc => onBool vc fun t => bif t then onV f a (fun v => k v h) else onV f b (fun v => k v h)
  | .alloc e => okX (C.ti e) (k (pNew h) (newO h (C.ti e).zero e))
  | .box e x => onV f x fun v => k (pNew h) (newO h (cellsL v) e)
  | .build t parts => okX (C.ti t) (match (C.ti t).d with
      | .struct fs => bif isFull fs.length parts.toList && (fs.all fun x => (C.ti x.2).ok) && layB (fs.map fun x => (x.1, (C.ti x.2).cells)) 0 (C.ti t).cells then
          partsX f parts.toList (C.ti t).zero (fs.map fun x => (x.1, (C.ti x.2).cells)) 0 [] fun xs => k (.agg ⟨catAll xs⟩) h else False
      | .arr n e => okX (C.ti e) (bif isFull n parts.toList && Nat.beq (n * (C.ti e).cells) (C.ti t).cells then
          partsX f parts.toList (C.ti t).zero (evenSegs (C.ti e).cells n 0) 0 [] fun xs => k (.agg ⟨catAll xs⟩) h else False)
      | _ => False)
  | .buildSlice t n parts => (match (C.ti t).d with
      | .slice e => okX (C.ti e) (bif isFull n parts.toList && Nat.ble (n * (C.ti e).cells) 16777216 then
          partsX f parts.toList (repCells (C.ti e).zero n) (evenSegs (C.ti e).cells n 0) 0 [] fun xs => k (.slice (some ⟨h.size, 0, none⟩) n n) (newO h (catAll xs) e) else False)
      | _ => False)
  | .load t x => onV f x fun v => onPtr v fun q => onSome q fun p => okX (C.ti t) (loadX (C.ti t) p h (fun u => k u h))
  | .store t x y => onV f x fun v => onPtr v fun q => onSome q fun p => onV f y fun u => okX (C.ti t) (storeX (C.ti t) p u h (fun h' => k undef h'))
  | .nilCheck x => onV f x fun v => (match v with
      | .pointer q => onSome q fun p => k (.pointer (some p)) h
      | .func (.func g) fs cs => k (.func (.func g) fs cs) h
      | _ => False)
  | .binOp op t x y _ => onV f x fun u => onV f y fun v => binA (C.ti t) op u v (fun r => k r h)
  | .unOp op _ x => onV f x fun u => unX op u (fun r => k r h)
  | .convert s t x => onV f x fun u => bif isSliceD (C.ti t).d then bytesX C (Nat.beq s t) (C.ti s).d (C.ti t).d u h k else convX C (C.ti s).d (C.ti t).d u h k
  | .makeFunc (.func g) fs cs => evs f fs.toList [] fun a => evs f cs.toList [] fun b => (match a with | [] => k (.func (.func g) #[] ⟨b⟩) h | a => k (.func (.func g) ⟨a⟩ ⟨b⟩) h)
  | .makeSlice t x y => onV f x fun u => onV f y fun v => onInt u fun _ l => onInt v fun _ c => (match (C.ti t).d with
      | .slice e => okX (C.ti e) (MakeP (C.ti e) e l c h k)
      | _ => False)
  | .slice t x lo hi mx => onV f x fun v => loX f lo fun l => loX f hi fun u => loX f mx fun m => (match (C.ti t).d with
      | .str => sliceX .str 1 v l u m (fun r => k r h)
      | d => okX (C.ti (elemOf C t)) (sliceX d (C.ti (elemOf C t)).cells v l u m (fun r => k r h)))
  | .fieldAddr t x i => onV f x fun v => onPtr v fun q => onSome q fun p => onSome (fieldOf C t i) fun o => bif Nat.beq (C.ti o.2).cells 0 then False else k (.pointer (some (p.add o.1))) h
  | .field t x i => onV f x fun v => onAgg v fun cs => onSome (fieldOf C t i) fun o => okX (C.ti o.2) (match (C.ti o.2).d.ty with
      | .agg => k (.agg ⟨(cs.drop o.1).take (C.ti o.2).cells⟩) h
      | ty => exT ty (fun u => cs[o.1]? = some u) (fun u => k u h))
  | .indexAddr t x y => onV f x fun u => onV f y fun v => onInt v fun _ i => (match (C.ti t).d, u with
      | .slice e, .slice a l _ => okX (C.ti e) ((0 ≤ i ∧ i < (l : Int)) ∧ onSome a fun p => k (.pointer (some (p.add (scale i.toNat (C.ti e).cells)))) h)
      | .arr n e, .pointer q => okX (C.ti e) (onSome q fun p => (0 ≤ i ∧ i < (n : Int)) ∧ k (.pointer (some (p.add (scale i.toNat (C.ti e).cells)))) h)
      | _, _ => False)
  | .index t x y => onV f x fun u => onV f y fun v => onInt v fun _ i => (match (C.ti t).d, u with
      | .arr n e, .agg cs => okX (C.ti e) ((0 ≤ i ∧ i < (n : Int)) ∧ match (C.ti e).d.ty with
          | .agg => k (.agg ⟨(cs.toList.drop (scale i.toNat (C.ti e).cells)).take (C.ti e).cells⟩) h
          | ty => exT ty (fun r => cs.toList[scale i.toNat (C.ti e).cells]? = some r) (fun r => k r h))
      | .str, .string s => (0 ≤ i ∧ i < (s.size : Int)) ∧ ∃ b : UInt8, s.toList[i.toNat]? = some b ∧ k (bv b) h
      | _, _ => False)
  | .extract x i => onV f x fun v => onTup v fun us => onSome us[i]? fun u => k u h
  | .call { callee := .builtin .len, args, argTypes } => evs f args.toList [] fun us => (match us, argTypes.toList with
      | [u], [t] => (match (C.ti t).d with
          | .map kt _ => onMap u fun q => okX (C.ti kt) (MapIn (C.ti kt).d q h fun m => k (.int .i64 (m.length : Int)) h)
          | d => lenX d u (fun r => k r h))
      | _, _ => False)
  | .call { callee := .builtin .cap, args, argTypes } => evs f args.toList [] fun us => (match us, argTypes.toList with
      | [u], [t] => capX (C.ti t).d u (fun r => k r h)
      | _, _ => False)
  | .call { callee := .builtin .min, args, argTypes := _ } => evs f args.toList [] fun us => (match us with
      | [u, v] => minX u v (fun r => k r h)
      | _ => False)
  | .call { callee := .builtin .max, args, argTypes := _ } => evs f args.toList [] fun us => (match us with
      | [u, v] => maxX u v (fun r => k r h)
      | _ => False)
  | .call { callee := .builtin .append, args, argTypes } => evs f args.toList [] fun us => (match us, argTypes.toList with
      | [u, v], [t, t'] => (match (C.ti t).d, (C.ti t').d with
          | .slice e, .slice _ | .slice e, .str => okX (C.ti e) (onSlice u fun a l c => srcX (C.ti e) h v fun n new => AppendP (C.ti e) e a l c n new h fun a' l' c' h' => k (.slice a' l' c') h')
          | _, _ => False)
      | _, _ => False)
  | .call { callee := .builtin .copy, args, argTypes } => evs f args.toList [] fun us => (match us, argTypes.toList with
      | [u, v], [t, _] => (match (C.ti t).d with
          | .slice e => okX (C.ti e) (onSlice u fun a l _ => CopyP (C.ti e) a l v h fun n h' => k (.int .i64 (n : Int)) h')
          | _ => False)
      | _, _ => False)
  | .call { callee := .builtin .clear, args, argTypes } => evs f args.toList [] fun us => (match us, argTypes.toList with
      | [u], [t] => (match (C.ti t).d with
          | .slice e => okX (C.ti e) (onSlice u fun a l _ => ClearP (C.ti e) a l h fun h' => k (.tuple #[]) h')
          | _ => False)
      | _, _ => False)
  | .call { callee := .builtin .delete, args, argTypes } => evs f args.toList [] fun us => (match us, argTypes.toList with
      | [u, v], t :: _ => (match (C.ti t).d with
          | .map kt _ => keyX (C.ti kt).d v fun x => onMap u fun q => MapDel (C.ti kt).d q x h fun h' => k (.tuple #[]) h'
          | _ => False)
      | _, _ => False)
  | .call { callee := .value (.func g), args, argTypes := _ } => evs f args.toList [] fun us => bif C.nat.any (Nat.beq g) then
      (match us with
        | [u, v] => onStr u fun s => onInt v fun kd c => kd = .u8 ∧ k (.int .i64 (byteIn s.toList (UInt8.ofNat c.toNat))) h
        | _ => False)
      else HCalls C.P g us h (backX (C.sig ty) k)
  | .makeMap _ none => k (.map (some h.size)) (newM h)
  | .insert t m x y | .mapUpdate t m x y => onV f m fun u => onV f x fun v => onV f y fun z => (match (C.ti t).d with
      | .map kt _ => keyX (C.ti kt).d v fun key => onMap u fun q => onSome q fun r => MapPut (C.ti kt).d r key z h fun h' => k undef h'
      | _ => False)
  | .lookup t m x ok => onV f m fun u => onV f x fun v => (match (C.ti t).d with
      | .map kt et => okX (C.ti et) (keyX (C.ti kt).d v fun key => onMap u fun q => MapIn (C.ti kt).d q h fun m =>
          exT (C.ti et).d.ty (fun r => (mget m key).getD (zeroV (C.ti et)) = r) fun r => bif ok then k (.tuple #[r, .bool (mget m key).isSome]) h else k r h)
      | _ => False)
  | .mapEntry t m x => onV f m fun u => onV f x fun v => (match (C.ti t).d with
      | .map kt et => okX (C.ti et) (bif isI64 (C.ti kt).d && isI64 (C.ti et).d then zeroV (C.ti et) = .int .i64 0 ∧ keyX (C.ti kt).d v fun key => onMap u fun q => onSome q fun r => ∃ mm : MapI, MapAt (.int .i64) h r (mI mm) ∧ ∀ (z s : Int) (h' : Heap), EntTo h r mm key z s h' → k (.tuple #[.int .i64 z, .int .i64 s]) h' else False)
      | _ => False)
  | .entryStore t m s x => onV f m fun u => onV f s fun vs => onV f x fun vx => (match (C.ti t).d with
      | .map kt et => bif isI64 (C.ti kt).d && isI64 (C.ti et).d then onMap u fun q => onSome q fun r => onInt vs fun _ sn => onInt vx fun kd z => kd = .i64 ∧ ∃ (mm : MapI) (key : MKey), MapAt (.int .i64) h r (mI mm) ∧ StAt h r key sn ∧ ∀ h' : Heap, MapTo (.int .i64) h r (mput (mI mm) key (.int .i64 z)) h' → k undef h' else False
      | _ => False)
  | .range t x => onV f x fun u => (match (C.ti t).d with
      | .str => onStr u fun s => k (pNew h) (newI h s)
      | .map kt et => bif isI64 (C.ti kt).d && isI64 (C.ti et).d then onMap u fun q => onSome q fun r => ∃ m : MapI, MapAt (.int .i64) h r (mI m) ∧ ∀ h', NewIt h r m h' → k (pNew h) h' else False
      | _ => False)
  | .next x false => onV f x fun u => onPtr u fun q => onSome q fun p => p.off = 0 ∧ ∃ (r : Nat) (m left : MapI), MItAt h p.block r m left ∧
      (left = [] → k (.tuple #[.bool false]) h) ∧
      ∀ e ∈ left, ∀ h', ItTo h p.block r m left e h' → k (.tuple #[.bool true, .int .i64 e.1, .int .i64 e.2]) h'
  | .entry x => onV f x fun u => onPtr u fun q => onSome q fun p => p.off = 0 ∧ ∃ (r : Nat) (n v : Int), MCur h p.block r n v ∧ k (.tuple #[.int .i64 n, .int .i64 v]) h
  | .next x true => onV f x fun u => onPtr u fun q => onSome q fun p => p.off = 0 ∧ ∃ (s : ByteArray) (pos : Nat), h[p.block]? = some (.stringIter s pos) ∧
      (pos < s.size → ∀ h', IterTo h p.block s (pos + (Utf8.decode s pos).2) h' → k (.tuple #[.bool true, .int .i64 (pos : Int), .int .i32 (Utf8.decode s pos).1]) h') ∧
      (¬ pos < s.size → k (.tuple #[.bool false]) h)
  | .call { callee := .value (.tmp s), args, argTypes := _ } => onV f (.tmp s) fun v => evs f args.toList [] fun us => HCallsV C.P v us h (backX (C.sig ty) k)
  | .sliceToArrayPointer t x => onV f x fun v => onSlice v fun a l _ => (match (C.ti t).d with
      | .arr n _ => n ≤ l ∧ k (.pointer a) h
      | _ => False)
  | _ => False

def putD (f : Fr) (dst : Option Nat) (v : Value) : Fr :=
  match dst with
  | some d => (d, v) :: f
  | none => f
/-- does a later operation ask what this one yields? -/
def guards (full : List Oper) (o : Oper) : Bool :=
  match o.op, o.dst with
  | .move _, some d => full.any fun o' => match o'.guard with
      | some (j, _) => (match full[j]? with | some oj => (match oj.dst with | some e => Nat.beq e d | none => false) | none => false)
      | none => false
  | _, _ => false
def splitX (b : Bool) (v : Value) (k : Value → Prop) : Prop :=
  bif b then (match v with
    | .bool t => bif t then k (.bool true) else k (.bool false)
    | v => k v) else k v
def wantX (full : List Oper) (f : Fr) (g : Option (Nat × Bool)) (k : Bool → Prop) : Prop :=
  match g with
  | none => k true
  | some (j, want) => onSome (full[j]?) fun oj => onSome oj.dst fun d => onSome (Fr.get f d) fun v => (match v with
      | .bool b => k (b == want)
      | .tuple _ => k false
      | _ => False)
/-- a call is deferred -/
def deferX (f : Fr) (c : Call) (k : Value → Prop) : Prop :=
  match c with
  | { callee := .value x, args, argTypes := _ } => onV f x fun v => (match v with
      | .func (.func g) fs cs => evs f args.toList [] fun us => k (.tuple ⟨.func (.func g) fs cs :: us⟩)
      | _ => False)
  | _ => False
def isDefer : Op → Bool
  | .defer _ => true
  | _ => false
def callOf : Op → Call
  | .defer c => c
  | _ => default
def opsX (C : Ctx) (full : List Oper) : List Oper → (Fr → Heap → Prop) → Fr → Heap → Prop
  | [], N, f, h => N f h
  | o :: rest, N, f, h => wantX full f o.guard fun w =>
      bif w then bif isDefer o.op then deferX f (callOf o.op) fun d => opsX C full rest N (putD ((dKey, d) :: f) o.dst undef) h
        else stepX C f o.op o.type (fun v h' => splitX (guards full o) v fun v => opsX C full rest N (putD f o.dst v) h') h
      else opsX C full rest N (putD f o.dst undef) h

/-- calls that may end in a panic; a panic of the text's own -/
def isP (C : Ctx) (o : Oper) : Bool :=
  match o.op with
  | .call { callee := .value (.func g), args := _, argTypes := _ } => C.pan.any (Nat.beq g)
  | .panic _ => true
  | _ => false
def callP (C : Ctx) (f : Fr) (op : Op) (ty : Nat) (k : Value → Heap → Prop) (X : Value → Heap → Prop) (h : Heap) : Prop :=
  match op with
  | .call { callee := .value (.func g), args, argTypes := _ } => evs f args.toList [] fun us => PCalls C.P g us h (backX (C.sig ty) k) X
  | .panic x => onV f x fun v => (match v with | .iface T u => X (.iface T u) h | _ => False)
  | _ => False
def opsP (C : Ctx) (full : List Oper) (X : Value → Fr → Heap → Prop) : List Oper → (Fr → Heap → Prop) → Fr → Heap → Prop
  | [], N, f, h => N f h
  | o :: rest, N, f, h => wantX full f o.guard fun w =>
      bif w then bif isP C o then callP C f o.op o.type (fun v h' => opsP C full X rest N (putD f o.dst v) h') (fun v h' => X v f h') h
        else bif isDefer o.op then deferX f (callOf o.op) fun d => opsP C full X rest N (putD ((dKey, d) :: f) o.dst undef) h
        else stepX C f o.op o.type (fun v h' => splitX (guards full o) v fun v => opsP C full X rest N (putD f o.dst v) h') h
      else opsP C full X rest N (putD f o.dst undef) h
/-- a read that was done early still reads the same -/
def stillX (C : Ctx) (f : Fr) (h : Heap) (o : Oper) : Prop :=
  match o.dst with
  | none => False
  | some d => onSome (Fr.get f d) fun v =>
    match o.op with
    | .load t x => onV f x fun u => onPtr u fun q => onSome q fun p => okX (C.ti t) (match (C.ti t).d.ty with
        | .agg => onAgg v fun cs => cs.length = (C.ti t).cells ∧ Cells h p cs
        | _ => cellOf h p = some v)
    | .convert s t x => (match (C.ti s).d, (C.ti t).d with
        | .slice e, .str => bif isU8 (C.ti e).d then onV f x fun u => onSlice u fun a l _ => onStr v fun b => StrAt h a l b.toList else False
        | _, _ => False)
    | _ => False
def stills (C : Ctx) (full : List Oper) (f : Fr) (h : Heap) : List Nat → Prop → Prop
  | [], K => K
  | j :: r, K => onSome (full[j]?) fun o => wantX full f o.guard fun w => bif w then stillX C f h o ∧ stills C full f h r K else stills C full f h r K
/-- one operation of a region whose order is open, the reads that may come later held still -/
def doX (C : Ctx) (full : List Oper) (i : Nat) (st : List Nat) (K : Fr → Heap → Prop) (f : Fr) (h : Heap) : Prop :=
  onSome (full[i]?) fun o => wantX full f o.guard fun w =>
      bif w then stepX C f o.op o.type (fun v h' => stills C full f h' st (splitX (guards full o) v fun v => K (putD f o.dst v) h')) h
      else K (putD f o.dst undef) h
/-- a region whose order is open: in one order, or, where effects may come in any order, in each -/
def earlyX (C : Ctx) (full : List Oper) : Od → (Fr → Heap → Prop) → Fr → Heap → Prop
  | .nil, N, f, h => N f h
  | .op i st r, N, f, h => doX C full i st (fun f h => earlyX C full r N f h) f h
  | .alt i st r o, N, f, h => doX C full i st (fun f h => earlyX C full r N f h) f h ∧ earlyX C full o N f h

/-! Code. -/
structure Ks where
  exit : Nat → Fr → Heap → Prop
  ret : Fr → Heap → Prop
  pan : Value → Fr → Heap → Prop := fun _ _ _ => False

def Curry : List (Nat × Ty) → Type → Type
  | [], R => R
  | (_, .int _) :: r, R => Int → Curry r R
  | (_, .bool) :: r, R => Bool → Curry r R
  | (_, .str) :: r, R => ByteArray → Curry r R
  | (_, .ptr) :: r, R => Option Addr → Curry r R
  | (_, .slice) :: r, R => Option Addr → Nat → Nat → Curry r R
  | (_, .agg) :: r, R => List Value → Curry r R
  | (_, .any) :: r, R => Value → Curry r R
  | (_, .map) :: r, R => Option Nat → Curry r R
  | (_, .clo) :: r, R => Value → Curry r R
/-- for whatever values of the slots -/
def allT {R S : Type} : (l : List (Nat × Ty)) → Curry l R → Curry l S → Fr → (R → S → Fr → Prop) → Prop
  | [], i, m, f, K => K i m f
  | (t, .int k) :: r, i, m, f, K => ∀ n : Int, allT r (i n) (m n) ((t, .int k n) :: f) K
  | (t, .bool) :: r, i, m, f, K => ∀ b : Bool, allT r (i b) (m b) ((t, .bool b) :: f) K
  | (t, .str) :: r, i, m, f, K => ∀ s : ByteArray, allT r (i s) (m s) ((t, .string s) :: f) K
  | (t, .ptr) :: r, i, m, f, K => ∀ q : Option Addr, allT r (i q) (m q) ((t, .pointer q) :: f) K
  | (t, .slice) :: r, i, m, f, K => ∀ (a : Option Addr) (l c : Nat), allT r (i a l c) (m a l c) ((t, .slice a l c) :: f) K
  | (t, .agg) :: r, i, m, f, K => ∀ cs : List Value, allT r (i cs) (m cs) ((t, .agg ⟨cs⟩) :: f) K
  | (t, .any) :: r, i, m, f, K => ∀ v : Value, allT r (i v) (m v) ((t, v) :: f) K
  | (t, .map) :: r, i, m, f, K => ∀ q : Option Nat, allT r (i q) (m q) ((t, .map q) :: f) K
  | (t, .clo) :: r, i, m, f, K => ∀ v : Value, allT r (i v) (m v) ((t, v) :: f) K
/-- at the values that the slots hold -/
def atT {R S : Type} : (l : List (Nat × Ty)) → Curry l R → Curry l S → Fr → (R → S → Prop) → Prop
  | [], i, m, _, K => K i m
  | (t, .int k) :: r, i, m, f, K => onSome (Fr.get f t) fun v => onInt v fun k' n => bif kindEq k k' then atT r (i n) (m n) f K else False
  | (t, .bool) :: r, i, m, f, K => onSome (Fr.get f t) fun v => onBool v fun b => atT r (i b) (m b) f K
  | (t, .str) :: r, i, m, f, K => onSome (Fr.get f t) fun v => onStr v fun s => atT r (i s) (m s) f K
  | (t, .ptr) :: r, i, m, f, K => onSome (Fr.get f t) fun v => onPtr v fun q => atT r (i q) (m q) f K
  | (t, .slice) :: r, i, m, f, K => onSome (Fr.get f t) fun v => onSlice v fun a l c => atT r (i a l c) (m a l c) f K
  | (t, .agg) :: r, i, m, f, K => onSome (Fr.get f t) fun v => onAgg v fun cs => atT r (i cs) (m cs) f K
  | (t, .any) :: r, i, m, f, K => onSome (Fr.get f t) fun v => atT r (i v) (m v) f K
  | (t, .map) :: r, i, m, f, K => onSome (Fr.get f t) fun v => onMap v fun q => atT r (i q) (m q) f K
  | (t, .clo) :: r, i, m, f, K => onSome (Fr.get f t) fun v => atT r (i v) (m v) f K
def keepF (f : Fr) : List Nat → Fr
  | [] => []
  | t :: r => match Fr.get f t with
    | some v => (t, v) :: keepF f r
    | none => keepF f r
def firstReg : Code → Option Nat
  | .region id _ _ => some id
  | .seq a b => (match firstReg a with | some i => some i | none => firstReg b)
  | .cond _ a b => (match firstReg a with | some i => some i | none => firstReg b)
  | .block _ a | .loop a | .scope a => firstReg a
  | _ => none
def loopNo (c : Code) : Nat := (firstReg c).getD 0
/-- the loops over functions have numbers of their own -/
def rfNo (assign body : Code) : Nat := (firstReg (.seq assign body)).getD 0 + 1000000
/-- by which exits, not caught within, can this code be left -/
def exitsOf : Code → List Nat
  | .exit i => [i]
  | .seq a b => exitsOf a ++ (exitsOf b).filter fun i => !((exitsOf a).any (Nat.beq i))
  | .cond _ a b => exitsOf a ++ (exitsOf b).filter fun i => !((exitsOf a).any (Nat.beq i))
  | .block id a => (exitsOf a).filter fun i => !(Nat.beq i id)
  | .loop a | .scope a => exitsOf a
  | _ => []
def hasRet : Code → Bool
  | .ret => true
  | .seq a b => hasRet a || hasRet b
  | .cond _ a b => hasRet a || hasRet b
  | .block _ a | .loop a | .scope a => hasRet a
  | _ => false
/-- for whatever arguments -/
def allA : List (Nat × Ty) → Fr → List Value → (Fr → List Value → Prop) → Prop
  | [], f, acc, K => K f acc
  | (t, .int k) :: r, f, acc, K => ∀ n : Int, allA r ((t, .int k n) :: f) (acc ++ [.int k n]) K
  | (t, .bool) :: r, f, acc, K => ∀ b : Bool, allA r ((t, .bool b) :: f) (acc ++ [.bool b]) K
  | (t, .str) :: r, f, acc, K => ∀ s : ByteArray, allA r ((t, .string s) :: f) (acc ++ [.string s]) K
  | (t, .ptr) :: r, f, acc, K => ∀ q : Option Addr, allA r ((t, .pointer q) :: f) (acc ++ [.pointer q]) K
  | (t, .slice) :: r, f, acc, K => ∀ (a : Option Addr) (l c : Nat), allA r ((t, .slice a l c) :: f) (acc ++ [.slice a l c]) K
  | (t, .agg) :: r, f, acc, K => ∀ cs : List Value, allA r ((t, .agg ⟨cs⟩) :: f) (acc ++ [.agg ⟨cs⟩]) K
  | (t, .any) :: r, f, acc, K => ∀ v : Value, allA r ((t, v) :: f) (acc ++ [v]) K
  | (t, .map) :: r, f, acc, K => ∀ q : Option Nat, allA r ((t, .map q) :: f) (acc ++ [.map q]) K
  | (t, .clo) :: r, f, acc, K => ∀ v : Value, allA r ((t, v) :: f) (acc ++ [v]) K

def wpx (C : Ctx) : Code → Ks → (Fr → Heap → Prop) → Fr → Heap → Prop
  | .skip, _, N, f, h => N f h
  | .seq a b, Q, N, f, h => wpx C a Q (fun f h => wpx C b Q N f h) f h
  | .cond c a b, Q, N, f, h => onV f c fun v => onBool v fun t => bif t then wpx C a Q N f h else wpx C b Q N f h
  | .block id a, Q, N, f, h => wpx C a { exit := fun i f h => bif Nat.beq i id then N f h else Q.exit i f h, ret := Q.ret, pan := Q.pan } N f h
  | .exit id, Q, _, f, h => Q.exit id f h
  | .ret, Q, _, f, h => Q.ret f h
  | .scope a, Q, N, f, h => wpx C a Q N f h
  | .label _, _, N, f, h => N f h
  | .region id ops draw, Q, N, f, h => bif draw then earlyX C ops.toList (C.orders id) N f h else bif ops.toList.any (isP C) then opsP C ops.toList Q.pan ops.toList N f h else opsX C ops.toList ops.toList N f h
  | .loop body, Q, _, f, h =>
    let hint := C.loops (loopNo body)
    ∃ (I : Curry hint.2 (Heap → Prop)) (μ : Curry hint.2 (Heap → Nat)),
      atT hint.2 I μ f (fun i _ => i h) ∧
      allT hint.2 I μ (addDs (dfs f) (keepF f hint.1)) fun i m f' => ∀ h', i h' →
        wpx C body Q (fun f2 h2 => atT hint.2 I μ f2 fun i2 m2 => i2 h2 ∧ m2 h2 < m h') f' h'
  | .rangeFunc g _ assign body, Q, N, f, h => onV f g fun v => ∀ R : Loop,
      (allA (C.loops (rfNo assign body)).2 (noD f) [] fun f' args => ∀ (h3 : Heap) (k : Value → Heap → Prop),
        LoopOn h3 (h.size + 1) R .ready none →
        wpx C assign { exit := fun _ _ _ => False, ret := fun _ _ => False }
          (fun f2 h4 => LoopOn h4 (h.size + 1) R .ready none ∧
            wpx C body { exit := fun i _ h5 => LoopOn h5 (h.size + 1) R .busy none ∧ k (.bool false) (setLoop h5 (h.size + 1) R .done (some (.exit i))),
                         ret := fun _ h5 => LoopOn h5 (h.size + 1) R .busy none ∧ k (.bool false) (setLoop h5 (h.size + 1) R .done (some .ret)) }
              (fun _ h5 => LoopOn h5 (h.size + 1) R .busy none ∧ k (.bool true) (setLoop h5 (h.size + 1) R .ready none)) f2 (setLoop h4 (h.size + 1) R .busy none)) f' h3 →
        YCalls C.P (h.size + 1) args h3 k) →
      HCallsF C.P v [.func (.yield (h.size + 1)) #[] #[]] (beginL h R) fun _ h6 => ∃ (st : LoopState) (p : Option Code), LoopOn h6 (h.size + 1) R st p ∧ st ≠ .busy ∧
        pendX p (N ((dKey, .pointer (some ⟨h.size, 0, none⟩)) :: f) (setLoop h6 (h.size + 1) R .exhausted p))
          (bif hasRet body then Q.ret ((dKey, .pointer (some ⟨h.size, 0, none⟩)) :: f) (setLoop h6 (h.size + 1) R .exhausted p) else False)
          (fun i => exX (exitsOf body) i fun j => Q.exit j ((dKey, .pointer (some ⟨h.size, 0, none⟩)) :: f) (setLoop h6 (h.size + 1) R .exhausted p))
  | _, _, _, _, _ => False

/-- the results -/
def resX (C : Ctx) (rs : List ResultVar) (f : Fr) (h : Heap) (acc : List Value) (k : List Value → Prop) : Prop :=
  match rs with
  | [] => k acc
  | .tmp t :: r => onSome (Fr.get f t) fun v => resX C r f h (acc ++ [v]) k
  | .cell t ty :: r => onSome (Fr.get f t) fun v => onPtr v fun q => onSome q fun p => okX (C.ti ty) (loadX (C.ti ty) p h fun u => resX C r f h (acc ++ [u]) k)
def retV (vs : List Value) : Value :=
  match vs with
  | [v] => v
  | vs => .tuple ⟨vs⟩
def argsF : List Value → Nat → Fr
  | [], _ => []
  | v :: r, i => (i, v) :: argsF r (i + 1)
/-- the deferred calls are made, then the results are read -/
def leaveX (C : Ctx) (rs : List ResultVar) (f : Fr) (k : Value → Heap → Prop) : List Value → Heap → Prop
  | [], h => resX C rs f h [] fun vs => k (retV vs) h
  | .pointer (some a) :: ds, h => h[a.block]? = some (.deferred (some [])) ∧ leaveX C rs f k ds (endD h a.block)
  | .tuple ⟨v :: us⟩ :: ds, h => DCallsV C.P v us h fun h' => leaveX C rs f k ds h'
  | _, _ => False
def fnX (C : Ctx) (fn : Func) (c : Code) (args : List Value) (k : Value → Heap → Prop) (h : Heap) : Prop :=
  wpx C c { exit := fun _ _ _ => False, ret := fun f h => leaveX C fn.results.toList f k (dfs f) h }
    (fun f h => leaveX C fn.results.toList f k (dfs f) h) (argsF args 0) h
/-- a panic leaves the function: the last deferred call takes it up -/
def leaveP (C : Ctx) (rs : List ResultVar) (f : Fr) (k kp : Value → Heap → Prop) (v : Value) : List Value → Heap → Prop
  | [], h => kp v h
  | .tuple ⟨c :: us⟩ :: ds, h => PDCallsV C.P c us v h fun h' => leaveX C rs f k ds h'
  | _, _ => False
def fnPX (C : Ctx) (fn : Func) (c : Code) (args : List Value) (k kp : Value → Heap → Prop) (h : Heap) : Prop :=
  wpx C c { exit := fun _ _ _ => False, ret := fun f h => leaveX C fn.results.toList f k (dfs f) h, pan := fun v f h => leaveP C fn.results.toList f k kp v (dfs f) h }
    (fun f h => leaveX C fn.results.toList f k (dfs f) h) (argsF args 0) h

end Go.Proofs.Ytnbfaokpaiiojaa.Wx
