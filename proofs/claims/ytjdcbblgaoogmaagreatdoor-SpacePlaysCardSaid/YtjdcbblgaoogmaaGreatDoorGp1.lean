/-
  TEXTS FOR spacePlays_card: WxDef WxD WxE.
-/
import Derived.WalkKit
import Derived.KernelRfl
import Derived.RangeFuncRecord
import Derived.RangeFuncSeq
import Derived.OrdersIn
import Derived.TacticsIn
import Derived.MapKept
import Derived.Laws.CopyRow
import Derived.Scope
import Derived.Lib.Bytealg
namespace Go.Proofs.YtjdcbblgaoogmaaGreatDoor
namespace Ad
end Ad
namespace Av
end Av
namespace Bt
end Bt
namespace Gl
end Gl
namespace Hd
end Hd
namespace Hp
end Hp
namespace L3
end L3
namespace Pn
end Pn
namespace Re
end Re
namespace Rf
end Rf
namespace Rg
end Rg
namespace Rx
end Rx
namespace Spc
end Spc
namespace Su
end Su
namespace Tm
end Tm
namespace Tp
end Tp
namespace W
end W
namespace Wc
end Wc
namespace Wx
end Wx
end Go.Proofs.YtjdcbblgaoogmaaGreatDoor
namespace Go.Proofs.YtjdcbblgaoogmaaGreatDoor.Wx
open Go
abbrev Heap := Array Obj
abbrev Fr := List (Nat × Value)
/-- the key under which deferred calls stand, the last one first -/
def dKey : Nat := 1000000000
def getL : Fr → Nat → Option Value
  | [], _ => none
  | (i, v) :: r, t => bif Nat.beq i t then some v else getL r t
/-- What is known of a slot. -/
def Fr.get (f : Fr) (t : Nat) : Option Value := bif Nat.beq t dKey then none else getL f t
/-- the deferred calls, and what is known without them -/
def dfs : Fr → List Value
  | [] => []
  | (i, v) :: r => bif Nat.beq i dKey then v :: dfs r else dfs r
def noD : Fr → Fr
  | [] => []
  | (i, v) :: r => bif Nat.beq i dKey then noD r else (i, v) :: noD r
def addDs : List Value → Fr → Fr
  | [], f => f
  | v :: r, f => (dKey, v) :: addDs r f
/-- What a type is, as far as the walk asks. -/
inductive D where
  | bool | int (k : IntKind) | str | ptr (e : Nat) | slice (e : Nat) | arr (n e : Nat) | struct (fs : List (Nat × Nat)) | fn | map (k e : Nat) | other
structure TI where
  ok : Bool
  d : D
  cells : Nat
  bytes : Nat
  zero : List Value
  eq : List D
def noTI : TI := ⟨false, .other, 0, 0, [], []⟩
def okX (t : TI) (p : Prop) : Prop := bif t.ok then p else False
/-- a table of types, by number -/
def tiOf (l : List (Nat × TI)) (t : Nat) : TI :=
  match l with
  | [] => noTI
  | (i, x) :: r => bif Nat.beq i t then x else tiOf r t
def sigOf {α : Type} (l : List (Nat × List α)) (t : Nat) : List α :=
  match l with
  | [] => []
  | (i, x) :: r => bif Nat.beq i t then x else sigOf r t
/-- How a value of unknown content is spelt. -/
inductive Ty where
  | int (k : IntKind) | bool | str | ptr | slice | agg | any | map | clo
def D.ty : D → Ty
  | .int k => .int k | .bool => .bool | .str => .str | .ptr _ => .ptr | .slice _ => .slice | .arr _ _ => .agg | .struct _ => .agg | .fn => .any | .map _ _ => .map | .other => .any
/-- an order of a region's operations: op, the operation i with the reads that are held still behind it; alt, the operation i and then r, or else one of the others -/
inductive Od where
  | nil
  | op (i : Nat) (st : List Nat) (r : Od)
  | alt (i : Nat) (st : List Nat) (r o : Od)
structure Ctx where
  P : Program
  ti : Nat → TI
  sig : Nat → List Ty
  loops : Nat → List Nat × List (Nat × Ty)
  orders : Nat → Od
  nat : List Nat
  pan : List Nat
def cellOf (h : Heap) (a : Addr) : Option Value :=
  match h[a.block]? with
  | some (.cells c _ _) => if a.spot.isSome then none else c[a.off]?
  | _ => none
def frozenOf (h : Heap) (a : Addr) : Bool :=
  match h[a.block]? with
  | some (.cells _ _ (lo, hi)) => lo ≤ a.off && a.off < hi
  | _ => false
def setOf (h : Heap) (a : Addr) (v : Value) : Heap :=
  h.modify a.block fun
      | .cells c elem frozen => .cells (if a.spot.isSome then c else c.setIfInBounds a.off v) elem frozen
      | o => o
/-- cells from a on hold xs -/
def Cells (h : Heap) (a : Addr) (xs : List Value) : Prop := ∀ (i : Nat) (v : Value), xs[i]? = some v → cellOf h (a.add i) = some v
def SlCells (h : Heap) (a : Option Addr) (xs : List Value) : Prop :=
  match a with
  | some p => Cells h p xs
  | none => xs = []
/-- a cell that may be written -/
def Wr (h : Heap) (a : Addr) : Prop := (∃ u, cellOf h a = some u) ∧ frozenOf h a = false
def WrN (h : Heap) (a : Addr) (n : Nat) : Prop := ∀ i, i < n → Wr h (a.add i)
def setRow (h : Heap) (a : Addr) : List Value → (i : Nat) → Heap
  | [], _ => h
  | v :: r, i => setRow (setOf h (a.add i) v) a r (i + 1)
/-- a row of n cells may be stored at a -/
def StRow (h : Heap) (a : Addr) (cs : List Value) (n : Nat) : Prop := cs.length = n ∧ (∀ v ∈ cs, v.oneCell' = true) ∧ WrN h a n
def bv (b : UInt8) : Value := .int .u8 b.toNat
def mkStr (bs : List UInt8) : ByteArray := ⟨⟨bs⟩⟩
def StrAt (h : Heap) (a : Option Addr) (l : Nat) (bs : List UInt8) : Prop := bs.length = l ∧ SlCells h a (bs.map bv)
def repCells (z : List Value) (n : Nat) : List Value :=
  match z with
  | [v] => List.replicate n v
  | z => (List.replicate n z).flatten
def cellsL (v : Value) : List Value :=
  match v with
  | .agg a => a.toList
  | v => [v]
def pNew (h : Heap) : Value := .pointer (some ⟨h.size, 0, none⟩)
def newO (h : Heap) (cs : List Value) (t : Nat) : Heap := h.push (.cells ⟨cs⟩ t)
def scale (n size : Nat) : Nat := bif Nat.beq size 1 then n else n * size
def onSome {α : Type} (o : Option α) (k : α → Prop) : Prop :=
  match o with
  | some a => k a
  | none => False
def onV (f : Fr) (x : Operand) (k : Value → Prop) : Prop :=
  match x with
  | .tmp t => onSome (Fr.get f t) k
  | .const v => k v
  | .global g => k (.pointer (some ⟨g, 0, none⟩))
  | .func g => k (.func (.func g) #[] #[])
def onInt (v : Value) (k : IntKind → Int → Prop) : Prop :=
  match v with
  | .int kd n => k kd n
  | _ => False
def onBool (v : Value) (k : Bool → Prop) : Prop :=
  match v with
  | .bool b => k b
  | _ => False
def onPtr (v : Value) (k : Option Addr → Prop) : Prop :=
  match v with
  | .pointer q => k q
  | _ => False
def onSlice (v : Value) (k : Option Addr → Nat → Nat → Prop) : Prop :=
  match v with
  | .slice a l c => k a l c
  | _ => False
def onAgg (v : Value) (k : List Value → Prop) : Prop :=
  match v with
  | .agg a => k a.toList
  | _ => False
def onStr (v : Value) (k : ByteArray → Prop) : Prop :=
  match v with
  | .string s => k s
  | _ => False
def onMap (v : Value) (k : Option Nat → Prop) : Prop :=
  match v with
  | .map q => k q
  | _ => False
def onTup (v : Value) (k : List Value → Prop) : Prop :=
  match v with
  | .tuple a => k a.toList
  | _ => False
/-- a value of unknown content that meets C -/
def exT (ty : Ty) (C K : Value → Prop) : Prop :=
  match ty with
  | .int k => ∃ n : Int, C (.int k n) ∧ K (.int k n)
  | .bool => ∃ b : Bool, C (.bool b) ∧ K (.bool b)
  | .str => ∃ s : ByteArray, C (.string s) ∧ K (.string s)
  | .ptr => ∃ q : Option Addr, C (.pointer q) ∧ K (.pointer q)
  | .slice => ∃ (a : Option Addr) (l c : Nat), C (.slice a l c) ∧ K (.slice a l c)
  | .agg => ∃ cs : List Value, C (.agg ⟨cs⟩) ∧ K (.agg ⟨cs⟩)
  | .any => ∃ v : Value, C v ∧ K v
  | .map => ∃ q : Option Nat, C (.map q) ∧ K (.map q)
  | .clo => ∃ (g : Nat) (fs cs : List Value), C (.func (.func g) ⟨fs⟩ ⟨cs⟩) ∧ K (.func (.func g) ⟨fs⟩ ⟨cs⟩)
/-- several, in a tuple -/
def exTs (tys : List Ty) (acc : List Value) (C K : List Value → Prop) : Prop :=
  match tys with
  | [] => C acc ∧ K acc
  | .int k :: r => ∃ n : Int, exTs r (acc ++ [.int k n]) C K
  | .bool :: r => ∃ b : Bool, exTs r (acc ++ [.bool b]) C K
  | .str :: r => ∃ s : ByteArray, exTs r (acc ++ [.string s]) C K
  | .ptr :: r => ∃ q : Option Addr, exTs r (acc ++ [.pointer q]) C K
  | .slice :: r => ∃ (a : Option Addr) (l c : Nat), exTs r (acc ++ [.slice a l c]) C K
  | .agg :: r => ∃ cs : List Value, exTs r (acc ++ [.agg ⟨cs⟩]) C K
  | .any :: r => ∃ v : Value, exTs r (acc ++ [v]) C K
  | .map :: r => ∃ q : Option Nat, exTs r (acc ++ [.map q]) C K
  | .clo :: r => ∃ (g : Nat) (fs cs : List Value), exTs r (acc ++ [.func (.func g) ⟨fs⟩ ⟨cs⟩]) C K
def SameRest (w w' : World) : Prop := w'.os = w.os ∧ w'.tape = w.tape ∧ w'.output = w.output
def Callable (P : Program) (g : Nat) : Prop := ∃ fn, P.funcs[g]? = some fn ∧ (fn.name == "runtime.NumGoroutine") = false ∧ fn.body.isNone = false
def HCalls (P : Program) (g : Nat) (args : List Value) (h : Heap) (k : Value → Heap → Prop) : Prop :=
  Callable P g ∧ ∀ w : World, w.heap = h → Calls P g ⟨args⟩ w fun e w' => ∃ v, e = .returned v ∧ SameRest w w' ∧ k v w'.heap
/-- a call that may end in a panic -/
def PCalls (P : Program) (g : Nat) (args : List Value) (h : Heap) (k kp : Value → Heap → Prop) : Prop :=
  Callable P g ∧ ∀ w : World, w.heap = h → Calls P g ⟨args⟩ w fun e w' => SameRest w w' ∧ ((∃ v, e = .returned v ∧ k v w'.heap) ∨ (∃ v, e = .panicked [{ v := v, recovered := false }] ∧ kp v w'.heap))
/-- a deferred call that takes a panic up -/
def PDCalls (P : Program) (g : Nat) (args : List Value) (v : Value) (h : Heap) (k : Heap → Prop) : Prop :=
  Callable P g ∧ ∀ w : World, w.heap = h → CallsDIn Fence.wide 0 P g ⟨args⟩ (.panicking [{ v := v, recovered := false }]) w fun e u w' => u = .panicking [{ v := v, recovered := true }] ∧ (∃ r, e = .returned r) ∧ SameRest w w' ∧ k w'.heap
def PDCallsV (P : Program) (c : Value) (args : List Value) (v : Value) (h : Heap) (k : Heap → Prop) : Prop :=
  match c with
  | .func (.func g) fs cs => PDCalls P g (fs.toList ++ args ++ cs.toList) v h k
  | _ => False
/-- a round of a loop over a function, as the heap sees it -/
def YCalls (P : Program) (l : Nat) (args : List Value) (h : Heap) (k : Value → Heap → Prop) : Prop :=
  ∀ w : World, w.heap = h → YieldAt Fence.wide 0 P l ⟨args⟩ w fun e w' => ∃ v, e = .returned v ∧ SameRest w w' ∧ k v w'.heap
/-- a call that is deferred -/
def DCalls (P : Program) (g : Nat) (args : List Value) (h : Heap) (k : Heap → Prop) : Prop :=
  Callable P g ∧ ∀ w : World, w.heap = h → CallsDIn Fence.wide 0 P g ⟨args⟩ .returning w fun e u w' => u = .returning ∧ (∃ v, e = .returned v) ∧ SameRest w w' ∧ k w'.heap
def DCallsV (P : Program) (v : Value) (args : List Value) (h : Heap) (k : Heap → Prop) : Prop :=
  match v with
  | .func (.func g) fs cs => DCalls P g (fs.toList ++ args ++ cs.toList) h k
  | _ => False
def LoopOn (h : Heap) (l : Nat) (R : Loop) (st : LoopState) (p : Option Code) : Prop := h[l]? = some (.loop { R with state := st, pending := p })
def setLoop (h : Heap) (l : Nat) (R : Loop) (st : LoopState) (p : Option Code) : Heap := h.setIfInBounds l (.loop { R with state := st, pending := p })
def beginL (h : Heap) (R : Loop) : Heap := (h.push (.deferred (some []))).push (.loop { R with state := .ready, pending := none })
def endD (h : Heap) (b : Nat) : Heap := h.setIfInBounds b (.deferred none)
/-- what follows a loop over a function, by the jump that its rounds have left -/
def pendX (p : Option Code) (n r : Prop) (e : Nat → Prop) : Prop :=
  match p with
  | none => n
  | some .ret => r
  | some (.exit i) => e i
  | _ => False
def exX : List Nat → Nat → (Nat → Prop) → Prop
  | [], _, _ => False
  | j :: r, i, E => bif Nat.beq i j then E j else exX r i E
def bitsI (op : BinOp) (kd : IntKind) (a b : Int) : Int :=
  let x := BitVec.ofInt kd.bits a
  let y := BitVec.ofInt kd.bits b
  match op with
  | .and => kd.wrap (x &&& y).toNat
  | .or => kd.wrap (x ||| y).toNat
  | .xor => kd.wrap (x ^^^ y).toNat
  | _ => kd.wrap (x &&& ~~~y).toNat
def intB (op : BinOp) (kd : IntKind) (a b : Int) (k : Value → Prop) : Prop :=
  match op with
  | .add => k (.int kd (kd.wrap (a + b)))
  | .sub => k (.int kd (kd.wrap (a - b)))
  | .mul => k (.int kd (kd.wrap (a * b)))
  | .quo => if b = 0 then False else k (.int kd (kd.wrap (a.tdiv b)))
  | .rem => if b = 0 then False else k (.int kd (a.tmod b))
  | .eql => k (.bool (a == b))
  | .neq => k (.bool (a != b))
  | .lss => k (.bool (decide (a < b)))
  | .leq => k (.bool (decide (a ≤ b)))
  | .gtr => k (.bool (decide (a > b)))
  | .geq => k (.bool (decide (a ≥ b)))
  | .and => k (.int kd (bitsI .and kd a b))
  | .or => k (.int kd (bitsI .or kd a b))
  | .xor => k (.int kd (bitsI .xor kd a b))
  | .andNot => k (.int kd (bitsI .andNot kd a b))
  | _ => False
def shiftB (op : BinOp) (kd : IntKind) (a b : Int) (k : Value → Prop) : Prop :=
  match op with
  | .shl => if b < 0 then False else k (.int kd (kd.wrap (a * 2 ^ min b.toNat kd.bits)))
  | .shr => if b < 0 then False else k (.int kd (a.fdiv (2 ^ min b.toNat kd.bits)))
  | _ => False
def strB (op : BinOp) (a b : ByteArray) (k : Value → Prop) : Prop :=
  match op with
  | .add => ((a.size + b.size : Nat) : Int) ≤ 9223372036854775807 ∧ k (.string (a ++ b))
  | .eql => k (.bool (a.toList == b.toList))
  | .neq => k (.bool !(a.toList == b.toList))
  | .lss => k (.bool (Op.bytesLess a.toList b.toList))
  | .leq => k (.bool (Op.bytesLess a.toList b.toList || a.toList == b.toList))
  | .gtr => k (.bool !(Op.bytesLess a.toList b.toList || a.toList == b.toList))
  | .geq => k (.bool !(Op.bytesLess a.toList b.toList))
  | _ => False
def isShift : BinOp → Bool
  | .shl | .shr => true
  | _ => false
def kindEq : IntKind → IntKind → Bool
  | .i8, .i8 | .i16, .i16 | .i32, .i32 | .i64, .i64 | .u8, .u8 | .u16, .u16 | .u32, .u32 | .u64, .u64 => true
  | _, _ => false
def eqB (op : BinOp) (b : Bool) (k : Value → Prop) : Prop :=
  match op with
  | .eql => k (.bool b)
  | .neq => k (.bool !b)
  | _ => False
def isNilFn : Value → Bool
  | .nilFunc => true
  | _ => false
def isFnV : Value → Bool
  | .nilFunc => true
  | .func _ _ _ => true
  | _ => false
/-- a call of a function value -/
def HCallsV (P : Program) (v : Value) (args : List Value) (h : Heap) (k : Value → Heap → Prop) : Prop :=
  match v with
  | .func (.func g) fs cs => HCalls P g (fs.toList ++ args ++ cs.toList) h k
  | .func (.yield l) fs _ => YCalls P l (fs.toList ++ args) h k
  | _ => False
/-- a call of a function value that is no round -/
def HCallsF (P : Program) (v : Value) (args : List Value) (h : Heap) (k : Value → Heap → Prop) : Prop :=
  match v with
  | .func (.func g) fs cs => HCalls P g (fs.toList ++ args ++ cs.toList) h k
  | _ => False
def binX (d : D) (op : BinOp) (x y : Value) (k : Value → Prop) : Prop :=
  match d with
  | .fn => (match y with | .nilFunc => isFnV x = true ∧ eqB op (isNilFn x) k | _ => False)
  | d => match x, y with
  | .int kd a, .int kd' b => bif isShift op then shiftB op kd a b k else bif kindEq kd kd' then intB op kd a b k else False
  | .string a, .string b => strB op a b k
  | .bool a, .bool b => (match d with | .bool => eqB op (a == b) k | _ => False)
  | .pointer a, .pointer none => (match d with | .ptr _ => eqB op a.isNone k | _ => False)
  | .slice a _ _, .slice none _ _ => (match d with | .slice _ => eqB op a.isNone k | _ => False)
  | _, _ => False
/-- pairs of cells that may be compared -/
def pairsOk : List D → List Value → List Value → Bool
  | [], [], [] => true
  | .int kd :: ks, .int ka _ :: xs, .int kb _ :: ys => kindEq kd ka && kindEq kd kb && pairsOk ks xs ys
  | .str :: ks, .string _ :: xs, .string _ :: ys => pairsOk ks xs ys
  | .bool :: ks, .bool _ :: xs, .bool _ :: ys => pairsOk ks xs ys
  | _, _, _ => false
def cellsEq : List Value → List Value → Bool
  | .int _ a :: xs, .int _ b :: ys => (a == b) && cellsEq xs ys
  | .string a :: xs, .string b :: ys => (a.toList == b.toList) && cellsEq xs ys
  | .bool a :: xs, .bool b :: ys => (a == b) && cellsEq xs ys
  | [], [] => true
  | _, _ => false
/-- a binary operation, on composites too -/
def binA (t : TI) (op : BinOp) (x y : Value) (k : Value → Prop) : Prop :=
  match t.eq with
  | [] => binX t.d op x y k
  | ks => (match x, y with
      | .agg a, .agg b => pairsOk ks a.toList b.toList = true ∧ eqB op (cellsEq a.toList b.toList) k
      | _, _ => False)
def unX (op : UnOp) (x : Value) (k : Value → Prop) : Prop :=
  match op, x with
  | .not, .bool b => k (.bool !b)
  | .neg, .int kd n => k (.int kd (kd.wrap (0 - n)))
  | .xor, .int kd n => k (.int kd (bitsI .xor kd (if kd.signed then -1 else kd.max) n))
  | _, _ => False
def loadX (t : TI) (p : Addr) (h : Heap) (k : Value → Prop) : Prop :=
  match t.d.ty with
  | .agg => ∃ cs : List Value, cs.length = t.cells ∧ Cells h p cs ∧ k (.agg ⟨cs⟩)
  | ty => exT ty (fun v => cellOf h p = some v) k
def storeX (t : TI) (p : Addr) (v : Value) (h : Heap) (k : Heap → Prop) : Prop :=
  match v with
  | .agg a => StRow h p a.toList t.cells ∧ k (setRow h p a.toList 0)
  | .tuple _ => False
  | v => bif Nat.beq t.cells 1 then Wr h p ∧ k (setOf h p v) else False
/-- the parts of a composite, one behind the other -/
def catAll : List (List Value) → List Value
  | [] => []
  | [x] => x
  | x :: r => x ++ catAll r
def findPart (f : Fr) (i : Nat) : List (Nat × Operand) → Option (Option Value)
  | [] => none
  | (j, x) :: r => bif Nat.beq j i then some (match x with | .tmp t => Fr.get f t | .const v => some v | .global g => some (.pointer (some ⟨g, 0, none⟩)) | .func g => some (.func (.func g) #[] #[])) else findPart f i r
/-- the parts at places i, i+1, ..: what is given (of the right size), or zeros -/
def partsX (f : Fr) (parts : List (Nat × Operand)) (Z : List Value) : (segs : List (Nat × Nat)) → (i : Nat) → (acc : List (List Value)) → (k : List (List Value) → Prop) → Prop
  | [], _, acc, k => k acc
  | (off, size) :: r, i, acc, k =>
    match findPart f i parts with
    | none => partsX f parts Z r (i + 1) (acc ++ [(Z.drop off).take size]) k
    | some o => onSome o fun v => (match v with
        | .agg a => a.toList.length = size ∧ partsX f parts Z r (i + 1) (acc ++ [a.toList]) k
        | .tuple _ => False
        | v => bif Nat.beq size 1 then partsX f parts Z r (i + 1) (acc ++ [[v]]) k else False)
/-- segments that lie one behind the other, n cells in all -/
def layB : List (Nat × Nat) → (at_ n : Nat) → Bool
  | [], m, n => Nat.beq m n
  | (off, size) :: r, m, n => Nat.beq off m && layB r (m + size) n
def evenSegs (size : Nat) : (n i : Nat) → List (Nat × Nat)
  | 0, _ => []
  | n + 1, i => (i * size, size) :: evenSegs size n (i + 1)
def sorted (n : Nat) : List (Nat × Operand) → (from_ : Nat) → Bool
  | [], _ => true
  | (j, _) :: r, m => Nat.ble m j && Nat.blt j n && sorted n r (j + 1)
/-- x[lo:hi] -/
def subSlice (a : Option Addr) (l h m size : Nat) : Value := .slice (if m = l then a else a.map (·.add (scale l size))) (h - l) (m - l)
def loX (f : Fr) (lo : Option Operand) (k : Option Int → Prop) : Prop :=
  match lo with
  | none => k none
  | some x => onV f x fun v => onInt v fun _ n => k (some n)
def cutX (a : Option Addr) (len cap size : Nat) (lo hi mx : Option Int) (k : Value → Prop) : Prop :=
  match lo, hi, mx with
  | none, none, none => k (.slice a len cap)
  | none, some h, none => (0 ≤ h ∧ h ≤ (cap : Int)) ∧ k (.slice a h.toNat cap)
  | some l, none, none => (0 ≤ l ∧ l ≤ (len : Int)) ∧ k (subSlice a l.toNat len cap size)
  | some l, some h, none => (0 ≤ l ∧ l ≤ h ∧ h ≤ (cap : Int)) ∧ k (subSlice a l.toNat h.toNat cap size)
  | none, some h, some m => (0 ≤ h ∧ h ≤ m ∧ m ≤ (cap : Int)) ∧ k (.slice a h.toNat m.toNat)
  | some l, some h, some m => (0 ≤ l ∧ l ≤ h ∧ h ≤ m ∧ m ≤ (cap : Int)) ∧ k (subSlice a l.toNat h.toNat m.toNat size)
  | _, _, _ => False
def cutStr (s : ByteArray) (lo hi mx : Option Int) (k : Value → Prop) : Prop :=
  match lo, hi, mx with
  | none, none, none => k (.string s)
  | none, some h, none => (0 ≤ h ∧ h ≤ (s.size : Int)) ∧ k (.string (s.extract 0 h.toNat))
  | some l, none, none => (0 ≤ l ∧ l ≤ (s.size : Int)) ∧ k (.string (s.extract l.toNat s.size))
  | some l, some h, none => (0 ≤ l ∧ l ≤ h ∧ h ≤ (s.size : Int)) ∧ k (.string (s.extract l.toNat h.toNat))
  | _, _, _ => False
def sliceX (d : D) (size : Nat) (x : Value) (lo hi mx : Option Int) (k : Value → Prop) : Prop :=
  match d, x with
  | .str, .string s => cutStr s lo hi mx k
  | .slice _, .slice a len cap => cutX a len cap size lo hi mx k
  | .arr n _, .pointer q => onSome q fun p => cutX (some p) n n size lo hi mx k
  | _, _ => False
/-- what an append takes in -/
def srcX (elem : TI) (h : Heap) (x : Value) (k : Nat → List Value → Prop) : Prop :=
  match x with
  | .slice b n _ => ∃ new : List Value, new.length = n * elem.cells ∧ SlCells h b new ∧ (∀ v ∈ new, v.oneCell' = true) ∧ k n new
  | .string s => bif Nat.beq elem.cells 1 then k s.size (s.toList.map bv) else False
  | _ => False
def WrS (h : Heap) (a : Option Addr) (o n : Nat) : Prop :=
  match a with
  | some p => WrN h (p.add o) n
  | none => n = 0
def setS (h : Heap) (a : Option Addr) (o : Nat) (new : List Value) : Heap :=
  match a with
  | some p => setRow h (p.add o) new 0
  | none => h
/-- append: s has l of c elements; n more -/
def AppendP (elem : TI) (e : Nat) (a : Option Addr) (l c n : Nat) (new : List Value) (h : Heap) (k : Option Addr → Nat → Nat → Heap → Prop) : Prop :=
  ∃ old : List Value, old.length = l * elem.cells ∧ SlCells h a old ∧ (l + n) * elem.bytes ≤ 140737488355328 ∧ (l + n ≤ 140737488355328) ∧
    (l + n ≤ c → WrS h a (l * elem.cells) (n * elem.cells) ∧ k a (l + n) c (setS h a (l * elem.cells) new)) ∧
    (c < l + n → ∀ cap, l + n ≤ cap → k (some ⟨h.size, 0, none⟩) (l + n) cap (newO h (old ++ new ++ repCells elem.zero (cap - (l + n))) e))
def CopyP (elem : TI) (a : Option Addr) (n : Nat) (src : Value) (h : Heap) (k : Nat → Heap → Prop) : Prop :=
  match src with
  | .slice b m _ => ∃ new : List Value, new.length = min m n * elem.cells ∧ SlCells h b new ∧ (∀ v ∈ new, v.oneCell' = true) ∧ WrS h a 0 (min m n * elem.cells) ∧ k (min m n) (setS h a 0 new)
  | .string s => (bif Nat.beq elem.cells 1 then True else False) ∧ WrS h a 0 (min s.size n) ∧ k (min s.size n) (setS h a 0 ((s.toList.take (min s.size n)).map bv))
  | _ => False
/-- clear, of a slice -/
def ClearP (elem : TI) (a : Option Addr) (n : Nat) (h : Heap) (k : Heap → Prop) : Prop :=
  (bif elem.zero.all Value.oneCell' then True else False) ∧ WrS h a 0 (n * elem.cells) ∧ k (setS h a 0 (repCells elem.zero n))
def MakeP (elem : TI) (e : Nat) (l c : Int) (h : Heap) (k : Value → Heap → Prop) : Prop :=
  (0 ≤ l ∧ l ≤ c ∧ (elem.bytes : Int) * c ≤ 281474976710656 ∧ c ≤ 281474976710656) ∧ k (.slice (some ⟨h.size, 0, none⟩) l.toNat c.toNat) (newO h (repCells elem.zero c.toNat) e)
def lenX (d : D) (v : Value) (k : Value → Prop) : Prop :=
  match d, v with
  | .slice _, .slice _ n _ => k (.int .i64 (n : Int))
  | .str, .string s => k (.int .i64 (s.size : Int))
  | .arr n _, _ => k (.int .i64 (n : Int))
  | _, _ => False
def capX (d : D) (v : Value) (k : Value → Prop) : Prop :=
  match d, v with
  | .slice _, .slice _ _ c => k (.int .i64 (c : Int))
  | _, _ => False
def minX (x y : Value) (k : Value → Prop) : Prop :=
  match x, y with
  | .int kd a, .int kd' b => bif kindEq kd kd' then k (.int kd (if b < a then b else a)) else False
  | _, _ => False
def maxX (x y : Value) (k : Value → Prop) : Prop :=
  match x, y with
  | .int kd a, .int kd' b => bif kindEq kd kd' then k (.int kd (if b > a then b else a)) else False
  | _, _ => False
def isU8 : D → Bool
  | .int .u8 => true
  | _ => false
def isSliceD : D → Bool
  | .slice _ => true
  | _ => false
/-- a new block whose mark says that it came of a text (its mark bars no cell) -/
def newS (h : Heap) (cs : List Value) (t : Nat) : Heap := h.push (.cells ⟨cs⟩ t (cs.length, cs.length + 1))
/-- a text as bytes: a new block; how much room it has, is open -/
def markO (n : Nat) : Obj → Obj
  | .cells c e (lo, hi) => .cells c e (if lo == hi then (n, n + 1) else (min lo n, max hi (n + 1)))
  | o => o
/-- such a mark is set -/
def markH (h : Heap) (b : Nat) : Heap :=
  match h[b]? with
  | some (.cells c _ _) => h.modify b (markO c.size)
  | _ => h
def bytesX (C : Ctx) (same : Bool) (src dst : D) (v : Value) (h : Heap) (k : Value → Heap → Prop) : Prop :=
  match src, dst with
  | .str, .slice e => bif isU8 (C.ti e).d then onStr v fun s => ∀ cap : Nat, s.size ≤ cap → k (.slice (some ⟨h.size, 0, none⟩) s.size cap) (newS h (s.toList.map bv ++ List.replicate (cap - s.size) (bv 0)) e) else False
  | .slice _, .slice e => bif same && isU8 (C.ti e).d then onSlice v fun a l c => onSome a fun p => k (.slice (some p) l c) (markH h p.block) else False
  | _, _ => False
def convX (C : Ctx) (src dst : D) (v : Value) (h : Heap) (k : Value → Heap → Prop) : Prop :=
  match src, dst, v with
  | .int _, .int kd, .int _ n => k (.int kd (kd.wrap n)) h
  | .str, .str, .string s => k (.string s) h
  | .int _, .str, .int _ n => k (.string (Utf8.encode n)) h
  | .slice e, .str, .slice a l _ => bif isU8 (C.ti e).d then ∃ bs : List UInt8, StrAt h a l bs ∧ k (.string (mkStr bs)) h else False
  | _, _, _ => False
def elemOf (C : Ctx) (t : Nat) : Nat :=
  match (C.ti t).d with
  | .slice e => e
  | .arr _ e => e
  | .ptr e => e
  | _ => 0
def evs (f : Fr) : List Operand → (acc : List Value) → (k : List Value → Prop) → Prop
  | [], acc, k => k acc
  | x :: r, acc, k => onV f x fun v => evs f r (acc ++ [v]) k
/-- what comes back of a call -/
def backX (tys : List Ty) (k : Value → Heap → Prop) (v : Value) (h : Heap) : Prop :=
  match tys with
  | [] => v = .tuple #[] ∧ k (.tuple #[]) h
  | [ty] => exT ty (fun u => v = u) (fun u => k u h)
  | tys => exTs tys [] (fun us => v = .tuple ⟨us⟩) (fun us => k (.tuple ⟨us⟩) h)
def fieldOf (C : Ctx) (t i : Nat) : Option (Nat × Nat) :=
  match (C.ti t).d with
  | .struct fs => fs[i]?
  | _ => none
def insP (q : Nat × Operand) : List (Nat × Operand) → List (Nat × Operand)
  | [] => [q]
  | x :: r => bif Nat.ble q.1 x.1 then q :: x :: r else x :: insP q r
def sortP : List (Nat × Operand) → List (Nat × Operand)
  | [] => []
  | q :: r => insP q (sortP r)
/-- the parts, brought into their order, are parts of different places -/
def isFull (len : Nat) (parts : List (Nat × Operand)) : Bool := sorted len (sortP parts) 0
inductive MKey where
  | i (n : Int)
  | s (b : List UInt8)
def MKey.same : MKey → MKey → Bool
  | .i a, .i b => a == b
  | .s a, .s b => a == b
  | _, _ => false
def keyV (d : D) : MKey → Value
  | .i n => (match d with | .int k => .int k n | _ => .nilFunc)
  | .s b => .string (mkStr b)
def keyFit (d : D) : MKey → Bool
  | .i _ => (match d with | .int _ => true | _ => false)
  | .s _ => (match d with | .str => true | _ => false)
def keyX (d : D) (v : Value) (k : MKey → Prop) : Prop :=
  match d, v with
  | .int kd, .int kd' n => bif kindEq kd kd' then k (.i n) else False
  | .str, .string s => k (.s s.toList)
  | _, _ => False
abbrev MapC := List (MKey × Value)
def MapAt (d : D) (h : Heap) (r : Nat) (m : MapC) : Prop :=
  ∃ es clock, h[r]? = some (.map es clock) ∧ es.toList.map (fun e => (e.key, e.val)) = m.map (fun p => (keyV d p.1, p.2)) ∧ (∀ p ∈ m, keyFit d p.1 = true) ∧ MapKept.Stamped es clock
/-- h' is h, with the map r now m -/
structure MapTo (d : D) (h : Heap) (r : Nat) (m : MapC) (h' : Heap) : Prop where
  size : h'.size = h.size
  same : ∀ b, b ≠ r → h'[b]? = h[b]?
  at_ : MapAt d h' r m
/-- h' is h, with the key x gone from the map r; the other entries stay, with their stamps -/
structure MapDl (d : D) (h : Heap) (r : Nat) (x : MKey) (m : MapC) (h' : Heap) : Prop extends MapTo d h r m h' where
  del : ∀ es clock, h[r]? = some (.map es clock) → ∃ es', h'[r]? = some (.map es' clock) ∧ es'.toList = es.toList.filter fun e => @decide (e.key ≠ keyV d x) (Classical.propDecidable _)
def mget : MapC → MKey → Option Value
  | [], _ => none
  | (k, v) :: r, x => bif MKey.same x k then some v else mget r x
def mput : MapC → MKey → Value → MapC
  | [], x, v => [(x, v)]
  | (k, u) :: r, x, v => bif MKey.same x k then (x, v) :: r else (k, u) :: mput r x v
def mdel : MapC → MKey → MapC
  | [], _ => []
  | (k, u) :: r, x => bif MKey.same x k then r else (k, u) :: mdel r x
def MapIn (d : D) (q : Option Nat) (h : Heap) (K : MapC → Prop) : Prop :=
  match q with
  | none => K []
  | some r => ∃ m, MapAt d h r m ∧ K m
def MapPut (d : D) (r : Nat) (x : MKey) (v : Value) (h : Heap) (K : Heap → Prop) : Prop := ∃ m, MapAt d h r m ∧ ∀ h', MapTo d h r (mput m x v) h' → K h'
def MapDel (d : D) (q : Option Nat) (x : MKey) (h : Heap) (K : Heap → Prop) : Prop :=
  match q with
  | none => K h
  | some r => ∃ m, MapAt d h r m ∧ ∀ h', MapDl d h r x (mdel m x) h' → K h'
def newM (h : Heap) : Heap := h.push (.map #[] 0)
def zeroV (t : TI) : Value :=
  match t.d.ty with
  | .agg => .agg ⟨t.zero⟩
  | _ => t.zero.headD .nilFunc
/-- a walk along a text -/
structure IterTo (h : Heap) (r : Nat) (s : ByteArray) (pos : Nat) (h' : Heap) : Prop where
  size : h'.size = h.size
  same : ∀ b, b ≠ r → h'[b]? = h[b]?
  at_ : h'[r]? = some (.stringIter s pos)
def newI (h : Heap) (s : ByteArray) : Heap := h.push (.stringIter s 0)
/-- a walk along a map of numbers by numbers: what is left of it; the entry that it stands at -/
abbrev MapI := List (Int × Int)
def mI (l : MapI) : MapC := l.map fun p => (.i p.1, .int .i64 p.2)
def isI64 : D → Bool
  | .int .i64 => true
  | _ => false
def kvI (p : Int × Int) : Value × Value := (.int .i64 p.1, .int .i64 p.2)
def MItAt (h : Heap) (b r : Nat) (m left : MapI) : Prop :=
  ∃ es clock since seen last, h[r]? = some (.map es clock) ∧ h[b]? = some (.mapIter (some r) since seen last) ∧ es.toList.map (fun e => (e.key, e.val)) = m.map kvI ∧ MapKept.Stamped es clock ∧
    (∀ x ∈ es.toList, x.born < since) ∧ since ≤ last ∧ since ≤ clock ∧ (es.toList.filter fun e => !seen.contains e.born).map (fun e => (e.key, e.val)) = left.map kvI
def MCur (h : Heap) (b r : Nat) (n v : Int) : Prop :=
  ∃ es clock since seen e, h[r]? = some (.map es clock) ∧ h[b]? = some (.mapIter (some r) since seen clock) ∧ seen.back? = some e.born ∧ es.find? (·.born == e.born) = some e ∧ e.key = .int .i64 n ∧ e.val = .int .i64 v
/-- the stamp of an entry; an entry is looked up to be written, made where there is none -/
def StAt (h : Heap) (r : Nat) (x : MKey) (s : Int) : Prop := ∃ es clock e, h[r]? = some (.map es clock) ∧ e ∈ es.toList ∧ (e.born : Int) = s ∧ e.key = keyV (.int .i64) x
structure EntTo (h : Heap) (r : Nat) (m : MapI) (x : MKey) (z s : Int) (h' : Heap) : Prop where
  to : MapTo (.int .i64) h r (mput (mI m) x (.int .i64 z)) h'
  st : StAt h' r x s
structure NewIt (h : Heap) (r : Nat) (m : MapI) (h' : Heap) : Prop where
  size : h'.size = h.size + 1
  same : ∀ b, b < h.size → h'[b]? = h[b]?
  at_ : MItAt h' h.size r m m
structure ItTo (h : Heap) (b r : Nat) (m left : MapI) (e : Int × Int) (h' : Heap) : Prop where
  size : h'.size = h.size
  same : ∀ b', b' ≠ b → h'[b']? = h[b']?
  at_ : MItAt h' b r m (left.filter fun p => p.1 != e.1)
  cur : MCur h' b r e.1 e.2
/-- the first place of a byte -/
def byteIn : List UInt8 → UInt8 → Int
  | [], _ => -1
  | b :: l, c => if b == c then 0 else if byteIn l c == -1 then -1 else byteIn l c + 1
def stepX (C : Ctx) (f : Fr) (op : Op) (ty : Nat) (k : Value → Heap → Prop) (h : Heap) : Prop :=
  match op with
  | .move x | .assign x => onV f x fun v => k v h
  | .pick c a b => onV f c fun vc => onBool vc fun t => bif t then onV f a (fun v => k v h) else onV f b (fun v => k v h)
  | .alloc e => okX (C.ti e) (k (pNew h) (newO h (C.ti e).zero e))
  | .box e x => onV f x fun v => k (pNew h) (newO h (cellsL v) e)
  | .build t parts => okX (C.ti t) (match (C.ti t).d with
      | .struct fs => bif isFull fs.length parts.toList && (fs.all fun x => (C.ti x.2).ok) && layB (fs.map fun x => (x.1, (C.ti x.2).cells)) 0 (C.ti t).cells then
          partsX f parts.toList (C.ti t).zero (fs.map fun x => (x.1, (C.ti x.2).cells)) 0 [] fun xs => k (.agg ⟨catAll xs⟩) h else False
      | .arr n e => okX (C.ti e) (bif isFull n parts.toList && Nat.beq (n * (C.ti e).cells) (C.ti t).cells then
          partsX f parts.toList (C.ti t).zero (evenSegs (C.ti e).cells n 0) 0 [] fun xs => k (.agg ⟨catAll xs⟩) h else False)
      | _ => False)
  | .buildSlice t n parts => (match (C.ti t).d with
      | .slice e => okX (C.ti e) (bif isFull n parts.toList && Nat.ble (n * (C.ti e).cells) 16777216 then
          partsX f parts.toList (repCells (C.ti e).zero n) (evenSegs (C.ti e).cells n 0) 0 [] fun xs => k (.slice (some ⟨h.size, 0, none⟩) n n) (newO h (catAll xs) e) else False)
      | _ => False)
  | .load t x => onV f x fun v => onPtr v fun q => onSome q fun p => okX (C.ti t) (loadX (C.ti t) p h (fun u => k u h))
  | .store t x y => onV f x fun v => onPtr v fun q => onSome q fun p => onV f y fun u => okX (C.ti t) (storeX (C.ti t) p u h (fun h' => k undef h'))
  | .nilCheck x => onV f x fun v => (match v with
      | .pointer q => onSome q fun p => k (.pointer (some p)) h
      | .func (.func g) fs cs => k (.func (.func g) fs cs) h
      | _ => False)
  | .binOp op t x y _ => onV f x fun u => onV f y fun v => binA (C.ti t) op u v (fun r => k r h)
  | .unOp op _ x => onV f x fun u => unX op u (fun r => k r h)
  | .convert s t x => onV f x fun u => bif isSliceD (C.ti t).d then bytesX C (Nat.beq s t) (C.ti s).d (C.ti t).d u h k else convX C (C.ti s).d (C.ti t).d u h k
  | .makeFunc (.func g) fs cs => evs f fs.toList [] fun a => evs f cs.toList [] fun b => (match a with | [] => k (.func (.func g) #[] ⟨b⟩) h | a => k (.func (.func g) ⟨a⟩ ⟨b⟩) h)
  | .makeSlice t x y => onV f x fun u => onV f y fun v => onInt u fun _ l => onInt v fun _ c => (match (C.ti t).d with
      | .slice e => okX (C.ti e) (MakeP (C.ti e) e l c h k)
      | _ => False)
  | .slice t x lo hi mx => onV f x fun v => loX f lo fun l => loX f hi fun u => loX f mx fun m => (match (C.ti t).d with
      | .str => sliceX .str 1 v l u m (fun r => k r h)
      | d => okX (C.ti (elemOf C t)) (sliceX d (C.ti (elemOf C t)).cells v l u m (fun r => k r h)))
  | .fieldAddr t x i => onV f x fun v => onPtr v fun q => onSome q fun p => onSome (fieldOf C t i) fun o => bif Nat.beq (C.ti o.2).cells 0 then False else k (.pointer (some (p.add o.1))) h
  | .field t x i => onV f x fun v => onAgg v fun cs => onSome (fieldOf C t i) fun o => okX (C.ti o.2) (match (C.ti o.2).d.ty with
      | .agg => k (.agg ⟨(cs.drop o.1).take (C.ti o.2).cells⟩) h
      | ty => exT ty (fun u => cs[o.1]? = some u) (fun u => k u h))
  | .indexAddr t x y => onV f x fun u => onV f y fun v => onInt v fun _ i => (match (C.ti t).d, u with
      | .slice e, .slice a l _ => okX (C.ti e) ((0 ≤ i ∧ i < (l : Int)) ∧ onSome a fun p => k (.pointer (some (p.add (scale i.toNat (C.ti e).cells)))) h)
      | .arr n e, .pointer q => okX (C.ti e) (onSome q fun p => (0 ≤ i ∧ i < (n : Int)) ∧ k (.pointer (some (p.add (scale i.toNat (C.ti e).cells)))) h)
      | _, _ => False)
  | .index t x y => onV f x fun u => onV f y fun v => onInt v fun _ i => (match (C.ti t).d, u with
      | .arr n e, .agg cs => okX (C.ti e) ((0 ≤ i ∧ i < (n : Int)) ∧ match (C.ti e).d.ty with
          | .agg => k (.agg ⟨(cs.toList.drop (scale i.toNat (C.ti e).cells)).take (C.ti e).cells⟩) h
          | ty => exT ty (fun r => cs.toList[scale i.toNat (C.ti e).cells]? = some r) (fun r => k r h))
      | .str, .string s => (0 ≤ i ∧ i < (s.size : Int)) ∧ ∃ b : UInt8, s.toList[i.toNat]? = some b ∧ k (bv b) h
      | _, _ => False)
  | .extract x i => onV f x fun v => onTup v fun us => onSome us[i]? fun u => k u h
  | .call { callee := .builtin .len, args, argTypes } => evs f args.toList [] fun us => (match us, argTypes.toList with
      | [u], [t] => (match (C.ti t).d with
          | .map kt _ => onMap u fun q => okX (C.ti kt) (MapIn (C.ti kt).d q h fun m => k (.int .i64 (m.length : Int)) h)
          | d => lenX d u (fun r => k r h))
      | _, _ => False)
  | .call { callee := .builtin .cap, args, argTypes } => evs f args.toList [] fun us => (match us, argTypes.toList with
      | [u], [t] => capX (C.ti t).d u (fun r => k r h)
      | _, _ => False)
  | .call { callee := .builtin .min, args, argTypes := _ } => evs f args.toList [] fun us => (match us with
      | [u, v] => minX u v (fun r => k r h)
      | _ => False)
  | .call { callee := .builtin .max, args, argTypes := _ } => evs f args.toList [] fun us => (match us with
      | [u, v] => maxX u v (fun r => k r h)
      | _ => False)
  | .call { callee := .builtin .append, args, argTypes } => evs f args.toList [] fun us => (match us, argTypes.toList with
      | [u, v], [t, t'] => (match (C.ti t).d, (C.ti t').d with
          | .slice e, .slice _ | .slice e, .str => okX (C.ti e) (onSlice u fun a l c => srcX (C.ti e) h v fun n new => AppendP (C.ti e) e a l c n new h fun a' l' c' h' => k (.slice a' l' c') h')
          | _, _ => False)
      | _, _ => False)
  | .call { callee := .builtin .copy, args, argTypes } => evs f args.toList [] fun us => (match us, argTypes.toList with
      | [u, v], [t, _] => (match (C.ti t).d with
          | .slice e => okX (C.ti e) (onSlice u fun a l _ => CopyP (C.ti e) a l v h fun n h' => k (.int .i64 (n : Int)) h')
          | _ => False)
      | _, _ => False)
  | .call { callee := .builtin .clear, args, argTypes } => evs f args.toList [] fun us => (match us, argTypes.toList with
      | [u], [t] => (match (C.ti t).d with
          | .slice e => okX (C.ti e) (onSlice u fun a l _ => ClearP (C.ti e) a l h fun h' => k (.tuple #[]) h')
          | _ => False)
      | _, _ => False)
  | .call { callee := .builtin .delete, args, argTypes } => evs f args.toList [] fun us => (match us, argTypes.toList with
      | [u, v], t :: _ => (match (C.ti t).d with
          | .map kt _ => keyX (C.ti kt).d v fun x => onMap u fun q => MapDel (C.ti kt).d q x h fun h' => k (.tuple #[]) h'
          | _ => False)
      | _, _ => False)
  | .call { callee := .value (.func g), args, argTypes := _ } => evs f args.toList [] fun us => bif C.nat.any (Nat.beq g) then
      (match us with
        | [u, v] => onStr u fun s => onInt v fun kd c => kd = .u8 ∧ k (.int .i64 (byteIn s.toList (UInt8.ofNat c.toNat))) h
        | _ => False)
      else HCalls C.P g us h (backX (C.sig ty) k)
  | .makeMap _ none => k (.map (some h.size)) (newM h)
  | .insert t m x y | .mapUpdate t m x y => onV f m fun u => onV f x fun v => onV f y fun z => (match (C.ti t).d with
      | .map kt _ => keyX (C.ti kt).d v fun key => onMap u fun q => onSome q fun r => MapPut (C.ti kt).d r key z h fun h' => k undef h'
      | _ => False)
  | .lookup t m x ok => onV f m fun u => onV f x fun v => (match (C.ti t).d with
      | .map kt et => okX (C.ti et) (keyX (C.ti kt).d v fun key => onMap u fun q => MapIn (C.ti kt).d q h fun m =>
          exT (C.ti et).d.ty (fun r => (mget m key).getD (zeroV (C.ti et)) = r) fun r => bif ok then k (.tuple #[r, .bool (mget m key).isSome]) h else k r h)
      | _ => False)
  | .mapEntry t m x => onV f m fun u => onV f x fun v => (match (C.ti t).d with
      | .map kt et => okX (C.ti et) (bif isI64 (C.ti kt).d && isI64 (C.ti et).d then zeroV (C.ti et) = .int .i64 0 ∧ keyX (C.ti kt).d v fun key => onMap u fun q => onSome q fun r => ∃ mm : MapI, MapAt (.int .i64) h r (mI mm) ∧ ∀ (z s : Int) (h' : Heap), EntTo h r mm key z s h' → k (.tuple #[.int .i64 z, .int .i64 s]) h' else False)
      | _ => False)
  | .entryStore t m s x => onV f m fun u => onV f s fun vs => onV f x fun vx => (match (C.ti t).d with
      | .map kt et => bif isI64 (C.ti kt).d && isI64 (C.ti et).d then onMap u fun q => onSome q fun r => onInt vs fun _ sn => onInt vx fun kd z => kd = .i64 ∧ ∃ (mm : MapI) (key : MKey), MapAt (.int .i64) h r (mI mm) ∧ StAt h r key sn ∧ ∀ h' : Heap, MapTo (.int .i64) h r (mput (mI mm) key (.int .i64 z)) h' → k undef h' else False
      | _ => False)
  | .range t x => onV f x fun u => (match (C.ti t).d with
      | .str => onStr u fun s => k (pNew h) (newI h s)
      | .map kt et => bif isI64 (C.ti kt).d && isI64 (C.ti et).d then onMap u fun q => onSome q fun r => ∃ m : MapI, MapAt (.int .i64) h r (mI m) ∧ ∀ h', NewIt h r m h' → k (pNew h) h' else False
      | _ => False)
  | .next x false => onV f x fun u => onPtr u fun q => onSome q fun p => p.off = 0 ∧ ∃ (r : Nat) (m left : MapI), MItAt h p.block r m left ∧
      (left = [] → k (.tuple #[.bool false]) h) ∧
      ∀ e ∈ left, ∀ h', ItTo h p.block r m left e h' → k (.tuple #[.bool true, .int .i64 e.1, .int .i64 e.2]) h'
  | .entry x => onV f x fun u => onPtr u fun q => onSome q fun p => p.off = 0 ∧ ∃ (r : Nat) (n v : Int), MCur h p.block r n v ∧ k (.tuple #[.int .i64 n, .int .i64 v]) h
  | .next x true => onV f x fun u => onPtr u fun q => onSome q fun p => p.off = 0 ∧ ∃ (s : ByteArray) (pos : Nat), h[p.block]? = some (.stringIter s pos) ∧
      (pos < s.size → ∀ h', IterTo h p.block s (pos + (Utf8.decode s pos).2) h' → k (.tuple #[.bool true, .int .i64 (pos : Int), .int .i32 (Utf8.decode s pos).1]) h') ∧
      (¬ pos < s.size → k (.tuple #[.bool false]) h)
  | .call { callee := .value (.tmp s), args, argTypes := _ } => onV f (.tmp s) fun v => evs f args.toList [] fun us => HCallsV C.P v us h (backX (C.sig ty) k)
  | .sliceToArrayPointer t x => onV f x fun v => onSlice v fun a l _ => (match (C.ti t).d with
      | .arr n _ => n ≤ l ∧ k (.pointer a) h
      | _ => False)
  | _ => False
def putD (f : Fr) (dst : Option Nat) (v : Value) : Fr :=
  match dst with
  | some d => (d, v) :: f
  | none => f
/-- does a later operation ask what this one yields? -/
def guards (full : List Oper) (o : Oper) : Bool :=
  match o.op, o.dst with
  | .move _, some d => full.any fun o' => match o'.guard with
      | some (j, _) => (match full[j]? with | some oj => (match oj.dst with | some e => Nat.beq e d | none => false) | none => false)
      | none => false
  | _, _ => false
def splitX (b : Bool) (v : Value) (k : Value → Prop) : Prop :=
  bif b then (match v with
    | .bool t => bif t then k (.bool true) else k (.bool false)
    | v => k v) else k v
def wantX (full : List Oper) (f : Fr) (g : Option (Nat × Bool)) (k : Bool → Prop) : Prop :=
  match g with
  | none => k true
  | some (j, want) => onSome (full[j]?) fun oj => onSome oj.dst fun d => onSome (Fr.get f d) fun v => (match v with
      | .bool b => k (b == want)
      | .tuple _ => k false
      | _ => False)
/-- a call is deferred -/
def deferX (f : Fr) (c : Call) (k : Value → Prop) : Prop :=
  match c with
  | { callee := .value x, args, argTypes := _ } => onV f x fun v => (match v with
      | .func (.func g) fs cs => evs f args.toList [] fun us => k (.tuple ⟨.func (.func g) fs cs :: us⟩)
      | _ => False)
  | _ => False
def isDefer : Op → Bool
  | .defer _ => true
  | _ => false
def callOf : Op → Call
  | .defer c => c
  | _ => default
def opsX (C : Ctx) (full : List Oper) : List Oper → (Fr → Heap → Prop) → Fr → Heap → Prop
  | [], N, f, h => N f h
  | o :: rest, N, f, h => wantX full f o.guard fun w =>
      bif w then bif isDefer o.op then deferX f (callOf o.op) fun d => opsX C full rest N (putD ((dKey, d) :: f) o.dst undef) h
        else stepX C f o.op o.type (fun v h' => splitX (guards full o) v fun v => opsX C full rest N (putD f o.dst v) h') h
      else opsX C full rest N (putD f o.dst undef) h
/-- calls that may end in a panic; a panic of the text's own -/
def isP (C : Ctx) (o : Oper) : Bool :=
  match o.op with
  | .call { callee := .value (.func g), args := _, argTypes := _ } => C.pan.any (Nat.beq g)
  | .panic _ => true
  | _ => false
def callP (C : Ctx) (f : Fr) (op : Op) (ty : Nat) (k : Value → Heap → Prop) (X : Value → Heap → Prop) (h : Heap) : Prop :=
  match op with
  | .call { callee := .value (.func g), args, argTypes := _ } => evs f args.toList [] fun us => PCalls C.P g us h (backX (C.sig ty) k) X
  | .panic x => onV f x fun v => (match v with | .iface T u => X (.iface T u) h | _ => False)
  | _ => False
def opsP (C : Ctx) (full : List Oper) (X : Value → Fr → Heap → Prop) : List Oper → (Fr → Heap → Prop) → Fr → Heap → Prop
  | [], N, f, h => N f h
  | o :: rest, N, f, h => wantX full f o.guard fun w =>
      bif w then bif isP C o then callP C f o.op o.type (fun v h' => opsP C full X rest N (putD f o.dst v) h') (fun v h' => X v f h') h
        else bif isDefer o.op then deferX f (callOf o.op) fun d => opsP C full X rest N (putD ((dKey, d) :: f) o.dst undef) h
        else stepX C f o.op o.type (fun v h' => splitX (guards full o) v fun v => opsP C full X rest N (putD f o.dst v) h') h
      else opsP C full X rest N (putD f o.dst undef) h
/-- a read that was done early still reads the same -/
def stillX (C : Ctx) (f : Fr) (h : Heap) (o : Oper) : Prop :=
  match o.dst with
  | none => False
  | some d => onSome (Fr.get f d) fun v =>
    match o.op with
    | .load t x => onV f x fun u => onPtr u fun q => onSome q fun p => okX (C.ti t) (match (C.ti t).d.ty with
        | .agg => onAgg v fun cs => cs.length = (C.ti t).cells ∧ Cells h p cs
        | _ => cellOf h p = some v)
    | .convert s t x => (match (C.ti s).d, (C.ti t).d with
        | .slice e, .str => bif isU8 (C.ti e).d then onV f x fun u => onSlice u fun a l _ => onStr v fun b => StrAt h a l b.toList else False
        | _, _ => False)
    | _ => False
def stills (C : Ctx) (full : List Oper) (f : Fr) (h : Heap) : List Nat → Prop → Prop
  | [], K => K
  | j :: r, K => onSome (full[j]?) fun o => wantX full f o.guard fun w => bif w then stillX C f h o ∧ stills C full f h r K else stills C full f h r K
/-- one operation of a region whose order is open, the reads that may come later held still -/
def doX (C : Ctx) (full : List Oper) (i : Nat) (st : List Nat) (K : Fr → Heap → Prop) (f : Fr) (h : Heap) : Prop :=
  onSome (full[i]?) fun o => wantX full f o.guard fun w =>
      bif w then stepX C f o.op o.type (fun v h' => stills C full f h' st (splitX (guards full o) v fun v => K (putD f o.dst v) h')) h
      else K (putD f o.dst undef) h
/-- a region whose order is open: in one order, or, where effects may come in any order, in each -/
def earlyX (C : Ctx) (full : List Oper) : Od → (Fr → Heap → Prop) → Fr → Heap → Prop
  | .nil, N, f, h => N f h
  | .op i st r, N, f, h => doX C full i st (fun f h => earlyX C full r N f h) f h
  | .alt i st r o, N, f, h => doX C full i st (fun f h => earlyX C full r N f h) f h ∧ earlyX C full o N f h
structure Ks where
  exit : Nat → Fr → Heap → Prop
  ret : Fr → Heap → Prop
  pan : Value → Fr → Heap → Prop := fun _ _ _ => False
def Curry : List (Nat × Ty) → Type → Type
  | [], R => R
  | (_, .int _) :: r, R => Int → Curry r R
  | (_, .bool) :: r, R => Bool → Curry r R
  | (_, .str) :: r, R => ByteArray → Curry r R
  | (_, .ptr) :: r, R => Option Addr → Curry r R
  | (_, .slice) :: r, R => Option Addr → Nat → Nat → Curry r R
  | (_, .agg) :: r, R => List Value → Curry r R
  | (_, .any) :: r, R => Value → Curry r R
  | (_, .map) :: r, R => Option Nat → Curry r R
  | (_, .clo) :: r, R => Value → Curry r R
/-- for whatever values of the slots -/
def allT {R S : Type} : (l : List (Nat × Ty)) → Curry l R → Curry l S → Fr → (R → S → Fr → Prop) → Prop
  | [], i, m, f, K => K i m f
  | (t, .int k) :: r, i, m, f, K => ∀ n : Int, allT r (i n) (m n) ((t, .int k n) :: f) K
  | (t, .bool) :: r, i, m, f, K => ∀ b : Bool, allT r (i b) (m b) ((t, .bool b) :: f) K
  | (t, .str) :: r, i, m, f, K => ∀ s : ByteArray, allT r (i s) (m s) ((t, .string s) :: f) K
  | (t, .ptr) :: r, i, m, f, K => ∀ q : Option Addr, allT r (i q) (m q) ((t, .pointer q) :: f) K
  | (t, .slice) :: r, i, m, f, K => ∀ (a : Option Addr) (l c : Nat), allT r (i a l c) (m a l c) ((t, .slice a l c) :: f) K
  | (t, .agg) :: r, i, m, f, K => ∀ cs : List Value, allT r (i cs) (m cs) ((t, .agg ⟨cs⟩) :: f) K
  | (t, .any) :: r, i, m, f, K => ∀ v : Value, allT r (i v) (m v) ((t, v) :: f) K
  | (t, .map) :: r, i, m, f, K => ∀ q : Option Nat, allT r (i q) (m q) ((t, .map q) :: f) K
  | (t, .clo) :: r, i, m, f, K => ∀ v : Value, allT r (i v) (m v) ((t, v) :: f) K
/-- at the values that the slots hold -/
def atT {R S : Type} : (l : List (Nat × Ty)) → Curry l R → Curry l S → Fr → (R → S → Prop) → Prop
  | [], i, m, _, K => K i m
  | (t, .int k) :: r, i, m, f, K => onSome (Fr.get f t) fun v => onInt v fun k' n => bif kindEq k k' then atT r (i n) (m n) f K else False
  | (t, .bool) :: r, i, m, f, K => onSome (Fr.get f t) fun v => onBool v fun b => atT r (i b) (m b) f K
  | (t, .str) :: r, i, m, f, K => onSome (Fr.get f t) fun v => onStr v fun s => atT r (i s) (m s) f K
  | (t, .ptr) :: r, i, m, f, K => onSome (Fr.get f t) fun v => onPtr v fun q => atT r (i q) (m q) f K
  | (t, .slice) :: r, i, m, f, K => onSome (Fr.get f t) fun v => onSlice v fun a l c => atT r (i a l c) (m a l c) f K
  | (t, .agg) :: r, i, m, f, K => onSome (Fr.get f t) fun v => onAgg v fun cs => atT r (i cs) (m cs) f K
  | (t, .any) :: r, i, m, f, K => onSome (Fr.get f t) fun v => atT r (i v) (m v) f K
  | (t, .map) :: r, i, m, f, K => onSome (Fr.get f t) fun v => onMap v fun q => atT r (i q) (m q) f K
  | (t, .clo) :: r, i, m, f, K => onSome (Fr.get f t) fun v => atT r (i v) (m v) f K
def keepF (f : Fr) : List Nat → Fr
  | [] => []
  | t :: r => match Fr.get f t with
    | some v => (t, v) :: keepF f r
    | none => keepF f r
def firstReg : Code → Option Nat
  | .region id _ _ => some id
  | .seq a b => (match firstReg a with | some i => some i | none => firstReg b)
  | .cond _ a b => (match firstReg a with | some i => some i | none => firstReg b)
  | .block _ a | .loop a | .scope a => firstReg a
  | _ => none
def loopNo (c : Code) : Nat := (firstReg c).getD 0
/-- the loops over functions have numbers of their own -/
def rfNo (assign body : Code) : Nat := (firstReg (.seq assign body)).getD 0 + 1000000
/-- by which exits, not caught within, can this code be left -/
def exitsOf : Code → List Nat
  | .exit i => [i]
  | .seq a b => exitsOf a ++ (exitsOf b).filter fun i => !((exitsOf a).any (Nat.beq i))
  | .cond _ a b => exitsOf a ++ (exitsOf b).filter fun i => !((exitsOf a).any (Nat.beq i))
  | .block id a => (exitsOf a).filter fun i => !(Nat.beq i id)
  | .loop a | .scope a => exitsOf a
  | _ => []
def hasRet : Code → Bool
  | .ret => true
  | .seq a b => hasRet a || hasRet b
  | .cond _ a b => hasRet a || hasRet b
  | .block _ a | .loop a | .scope a => hasRet a
  | _ => false
/-- for whatever arguments -/
def allA : List (Nat × Ty) → Fr → List Value → (Fr → List Value → Prop) → Prop
  | [], f, acc, K => K f acc
  | (t, .int k) :: r, f, acc, K => ∀ n : Int, allA r ((t, .int k n) :: f) (acc ++ [.int k n]) K
  | (t, .bool) :: r, f, acc, K => ∀ b : Bool, allA r ((t, .bool b) :: f) (acc ++ [.bool b]) K
  | (t, .str) :: r, f, acc, K => ∀ s : ByteArray, allA r ((t, .string s) :: f) (acc ++ [.string s]) K
  | (t, .ptr) :: r, f, acc, K => ∀ q : Option Addr, allA r ((t, .pointer q) :: f) (acc ++ [.pointer q]) K
  | (t, .slice) :: r, f, acc, K => ∀ (a : Option Addr) (l c : Nat), allA r ((t, .slice a l c) :: f) (acc ++ [.slice a l c]) K
  | (t, .agg) :: r, f, acc, K => ∀ cs : List Value, allA r ((t, .agg ⟨cs⟩) :: f) (acc ++ [.agg ⟨cs⟩]) K
  | (t, .any) :: r, f, acc, K => ∀ v : Value, allA r ((t, v) :: f) (acc ++ [v]) K
  | (t, .map) :: r, f, acc, K => ∀ q : Option Nat, allA r ((t, .map q) :: f) (acc ++ [.map q]) K
  | (t, .clo) :: r, f, acc, K => ∀ v : Value, allA r ((t, v) :: f) (acc ++ [v]) K
def wpx (C : Ctx) : Code → Ks → (Fr → Heap → Prop) → Fr → Heap → Prop
  | .skip, _, N, f, h => N f h
  | .seq a b, Q, N, f, h => wpx C a Q (fun f h => wpx C b Q N f h) f h
  | .cond c a b, Q, N, f, h => onV f c fun v => onBool v fun t => bif t then wpx C a Q N f h else wpx C b Q N f h
  | .block id a, Q, N, f, h => wpx C a { exit := fun i f h => bif Nat.beq i id then N f h else Q.exit i f h, ret := Q.ret, pan := Q.pan } N f h
  | .exit id, Q, _, f, h => Q.exit id f h
  | .ret, Q, _, f, h => Q.ret f h
  | .scope a, Q, N, f, h => wpx C a Q N f h
  | .label _, _, N, f, h => N f h
  | .region id ops draw, Q, N, f, h => bif draw then earlyX C ops.toList (C.orders id) N f h else bif ops.toList.any (isP C) then opsP C ops.toList Q.pan ops.toList N f h else opsX C ops.toList ops.toList N f h
  | .loop body, Q, _, f, h =>
    let hint := C.loops (loopNo body)
    ∃ (I : Curry hint.2 (Heap → Prop)) (μ : Curry hint.2 (Heap → Nat)),
      atT hint.2 I μ f (fun i _ => i h) ∧
      allT hint.2 I μ (addDs (dfs f) (keepF f hint.1)) fun i m f' => ∀ h', i h' →
        wpx C body Q (fun f2 h2 => atT hint.2 I μ f2 fun i2 m2 => i2 h2 ∧ m2 h2 < m h') f' h'
  | .rangeFunc g _ assign body, Q, N, f, h => onV f g fun v => ∀ R : Loop,
      (allA (C.loops (rfNo assign body)).2 (noD f) [] fun f' args => ∀ (h3 : Heap) (k : Value → Heap → Prop),
        LoopOn h3 (h.size + 1) R .ready none →
        wpx C assign { exit := fun _ _ _ => False, ret := fun _ _ => False }
          (fun f2 h4 => LoopOn h4 (h.size + 1) R .ready none ∧
            wpx C body { exit := fun i _ h5 => LoopOn h5 (h.size + 1) R .busy none ∧ k (.bool false) (setLoop h5 (h.size + 1) R .done (some (.exit i))),
                         ret := fun _ h5 => LoopOn h5 (h.size + 1) R .busy none ∧ k (.bool false) (setLoop h5 (h.size + 1) R .done (some .ret)) }
              (fun _ h5 => LoopOn h5 (h.size + 1) R .busy none ∧ k (.bool true) (setLoop h5 (h.size + 1) R .ready none)) f2 (setLoop h4 (h.size + 1) R .busy none)) f' h3 →
        YCalls C.P (h.size + 1) args h3 k) →
      HCallsF C.P v [.func (.yield (h.size + 1)) #[] #[]] (beginL h R) fun _ h6 => ∃ (st : LoopState) (p : Option Code), LoopOn h6 (h.size + 1) R st p ∧ st ≠ .busy ∧
        pendX p (N ((dKey, .pointer (some ⟨h.size, 0, none⟩)) :: f) (setLoop h6 (h.size + 1) R .exhausted p))
          (bif hasRet body then Q.ret ((dKey, .pointer (some ⟨h.size, 0, none⟩)) :: f) (setLoop h6 (h.size + 1) R .exhausted p) else False)
          (fun i => exX (exitsOf body) i fun j => Q.exit j ((dKey, .pointer (some ⟨h.size, 0, none⟩)) :: f) (setLoop h6 (h.size + 1) R .exhausted p))
  | _, _, _, _, _ => False
/-- the results -/
def resX (C : Ctx) (rs : List ResultVar) (f : Fr) (h : Heap) (acc : List Value) (k : List Value → Prop) : Prop :=
  match rs with
  | [] => k acc
  | .tmp t :: r => onSome (Fr.get f t) fun v => resX C r f h (acc ++ [v]) k
  | .cell t ty :: r => onSome (Fr.get f t) fun v => onPtr v fun q => onSome q fun p => okX (C.ti ty) (loadX (C.ti ty) p h fun u => resX C r f h (acc ++ [u]) k)
def retV (vs : List Value) : Value :=
  match vs with
  | [v] => v
  | vs => .tuple ⟨vs⟩
def argsF : List Value → Nat → Fr
  | [], _ => []
  | v :: r, i => (i, v) :: argsF r (i + 1)
/-- the deferred calls are made, then the results are read -/
def leaveX (C : Ctx) (rs : List ResultVar) (f : Fr) (k : Value → Heap → Prop) : List Value → Heap → Prop
  | [], h => resX C rs f h [] fun vs => k (retV vs) h
  | .pointer (some a) :: ds, h => h[a.block]? = some (.deferred (some [])) ∧ leaveX C rs f k ds (endD h a.block)
  | .tuple ⟨v :: us⟩ :: ds, h => DCallsV C.P v us h fun h' => leaveX C rs f k ds h'
  | _, _ => False
def fnX (C : Ctx) (fn : Func) (c : Code) (args : List Value) (k : Value → Heap → Prop) (h : Heap) : Prop :=
  wpx C c { exit := fun _ _ _ => False, ret := fun f h => leaveX C fn.results.toList f k (dfs f) h }
    (fun f h => leaveX C fn.results.toList f k (dfs f) h) (argsF args 0) h
end Go.Proofs.YtjdcbblgaoogmaaGreatDoor.Wx
namespace Go.Proofs.YtjdcbblgaoogmaaGreatDoor.Wx
open Go
def descSum : TypeDesc → D
  | .bool => .bool | .int k => .int k | .string => .str | .pointer e => .ptr e | .slice e => .slice e | .array n e => .arr n e
  | .struct fs => .struct (fs.toList.map fun f => (f.offset, f.type)) | .func _ _ _ => .fn | .map k e => .map k e | _ => .other
def infoSum (i : TypeInfo) : Nat × Nat × Option (List Value) := (i.size, i.bytes, i.zero.map cellsL)
/-- fields that lie one behind the other, each with what is in it -/
def flatFs (g : Nat → Option (List D)) : List Field → Nat → Option (List D)
  | [], _ => some []
  | fd :: r, off => bif fd.name == "_" then none else bif Nat.beq fd.offset off then (match g fd.type with
      | some ks => (flatFs g r (off + ks.length)).map (ks ++ ·)
      | none => none) else none
/-- the kinds of the cells of a type whose values are compared cell by cell -/
def flatD (P : Program) (g : Nat → Option (List D)) (t : Nat) : Option (List D) :=
  match P.underlying t with
  | some (.int k) => some [D.int k]
  | some .string => some [D.str]
  | some .bool => some [D.bool]
  | some (.struct fs) => bif P.stoodInHeld t then none else flatFs g fs.toList 0
  | some (.array n e) => (g e).map fun ks => (List.replicate n ks).flatten
  | _ => none
def flatZ (P : Program) (t : Nat) : Option (List D) → Option (List D)
  | some ks => bif (match P.info? t with | some i => Nat.beq i.size ks.length | none => false) then some ks else none
  | none => none
def flatK (P : Program) : Nat → Nat → Option (List D)
  | 0, _ => none
  | f + 1, t => flatZ P t (flatD P (flatK P f) t)
def dSame : D → D → Bool
  | .int a, .int b => kindEq a b
  | .str, .str => true
  | .bool, .bool => true
  | _, _ => false
def dsSame : List D → List D → Bool
  | [], [] => true
  | a :: r, b :: s => dSame a b && dsSame r s
  | _, _ => false
def eqsOk (P : Program) (t : Nat) (ks : List D) : Bool :=
  match ks with
  | [] => true
  | ks => (match flatK P 6 t with | some l => dsSame ks l && !(P.eqGuardType P.depth t) && (match P.underlying t with | some (.struct _) => true | some (.array _ _) => true | _ => false) | none => false)
def isAggV : Value → Bool
  | .agg _ => true
  | _ => false
def isAggTy : Ty → Bool
  | .agg => true
  | _ => false
structure TIok (P : Program) (t : Nat) (x : TI) : Prop where
  eqs : eqsOk P t x.eq = true
  zag : ((P.info? t).bind (·.zero)).map isAggV = some (isAggTy x.d.ty)
  info : (P.info? t).map infoSum = some (x.cells, x.bytes, some x.zero)
  desc : (P.underlying t).map descSum = some x.d
  len : x.zero.length = x.cells
/-- the search for a byte in a text, which the model does itself -/
def NatOk (P : Program) (g : Nat) : Prop := ∀ (s : ByteArray) (c : Int) (w : World), (callFunc g #[.string s, .int .u8 c]).run P w = .ok (.value (.int .i64 (byteIn s.toList (UInt8.ofNat c.toNat)))) w
structure CtxOk (C : Ctx) : Prop where
  nat : ∀ g ∈ C.nat, NatOk C.P g
  ti : ∀ t, C.ti t = noTI ∨ TIok C.P t (C.ti t)
  mixed : C.P.follows .mixedOrders = true
theorem tiOf_ok {P : Program} : ∀ (l : List (Nat × TI)), (∀ x ∈ l, TIok P x.1 x.2) → ∀ t, tiOf l t = noTI ∨ TIok P t (tiOf l t)
  | [], _, t => .inl rfl
  | (i, x) :: r, h, t => by
    unfold tiOf
    cases hb : Nat.beq i t with
    | true =>
      have e : i = t := Nat.eq_of_beq_eq_true hb
      subst e
      exact .inr (h (i, x) (by simp))
    | false => exact tiOf_ok r (fun y hy => h y (by simp [hy])) t
theorem CtxOk.ok {C : Ctx} (hC : CtxOk C) {t : Nat} (h : (C.ti t).ok = true) : TIok C.P t (C.ti t) := by
  rcases hC.ti t with e | e
  · rw [e] at h; simp [noTI] at h
  · exact e
theorem CtxOk.okX {C : Ctx} (hC : CtxOk C) {t : Nat} {p : Prop} (h : okX (C.ti t) p) : TIok C.P t (C.ti t) ∧ p := by
  unfold Wx.okX at h
  cases e : (C.ti t).ok with
  | true => rw [e] at h; exact ⟨hC.ok e, h⟩
  | false => rw [e] at h; exact h.elim
theorem CtxOk.okD {C : Ctx} (hC : CtxOk C) {t : Nat} (h : (C.ti t).d ≠ .other) : TIok C.P t (C.ti t) := by
  rcases hC.ti t with e | e
  · rw [e] at h; exact (h rfl).elim
  · exact e
theorem TIok.get {P : Program} {t : Nat} {x : TI} (h : TIok P t x) :
    ∃ i d z, P.info? t = some i ∧ P.underlying t = some d ∧ descSum d = x.d ∧ i.size = x.cells ∧ i.bytes = x.bytes ∧ i.zero = some z ∧ cellsL z = x.zero := by
  obtain ⟨_, _, h1, h2, _⟩ := h
  cases hi : P.info? t with
  | none => simp [hi] at h1
  | some i =>
    cases hd : P.underlying t with
    | none => simp [hd] at h2
    | some d =>
      simp only [hi, hd, Option.map_some, Option.some.injEq, infoSum, Prod.mk.injEq] at h1 h2
      obtain ⟨h1a, h1b, h1c⟩ := h1
      cases hz : i.zero with
      | none => simp [hz] at h1c
      | some z =>
        simp [hz] at h1c
        exact ⟨i, d, z, rfl, rfl, h2, h1a, h1b, hz, h1c⟩
theorem cellsL_eq (v : Value) : cellsL v = v.cells.toList := by cases v <;> simp [cellsL, Value.cells]
theorem cell_eq (w : World) (a : Addr) : w.cell? a = cellOf w.heap a := rfl
theorem frozen_eq (w : World) (a : Addr) : w.frozen? a = frozenOf w.heap a := rfl
theorem setCell_heap (w : World) (a : Addr) (v : Value) : (w.setCell a v).heap = setOf w.heap a v := rfl
theorem SameRest.refl (w : World) : SameRest w w := ⟨rfl, rfl, rfl⟩
theorem SameRest.trans {a b c : World} (h : SameRest a b) (k : SameRest b c) : SameRest a c := ⟨k.1.trans h.1, k.2.1.trans h.2.1, k.2.2.trans h.2.2⟩
def To {α : Type} (P : Program) (s : Sem α) (w : World) (k : α → Heap → Prop) : Prop :=
  ∃ v w', s.run P w = .ok v w' ∧ SameRest w w' ∧ k v w'.heap
theorem To.mono {α : Type} {P : Program} {s : Sem α} {w : World} {k k' : α → Heap → Prop} (h : To P s w k) (hk : ∀ v h, k v h → k' v h) : To P s w k' :=
  let ⟨v, w', a, b, c⟩ := h; ⟨v, w', a, b, hk _ _ c⟩
theorem run_typeInfo_ok {P : Program} {t : Nat} {i : TypeInfo} (h : P.info? t = some i) (w : World) : (typeInfo t).run P w = .ok i w := by
  simp [typeInfo, h]
theorem run_sizeOf_ok {P : Program} {t : Nat} {i : TypeInfo} (h : P.info? t = some i) (w : World) : (sizeOf t).run P w = .ok i.size w := by
  simp [sizeOf, run_typeInfo_ok h]
def isAggD : D → Bool
  | .arr _ _ => true
  | .struct _ => true
  | _ => false
theorem run_isAgg_ok {P : Program} {t : Nat} {d : TypeDesc} (h : P.underlying t = some d) (w : World) :
    (isAgg t).run P w = .ok (isAggD (descSum d)) w := by
  unfold isAgg
  rw [Sem.run_bind, run_underlying h w]
  cases d <;> simp [descSum, isAggD]
theorem exT_elim {ty : Ty} {C K : Value → Prop} (h : exT ty C K) : ∃ v, C v ∧ K v := by
  cases ty <;> simp only [exT] at h <;> (first | (obtain ⟨a, l, c, h1, h2⟩ := h; exact ⟨_, h1, h2⟩) | (obtain ⟨a, h1, h2⟩ := h; exact ⟨_, h1, h2⟩))
theorem loadVar_to {P : Program} {t : Nat} {x : TI} (hx : TIok P t x) {p : Addr} {w : World} {k : Value → Prop} (h : loadX x p w.heap k) :
    ∃ v, (loadVar t p).run P w = .ok v w ∧ k v := by
  obtain ⟨i, d, z, hi, hd, hdx, hsz, _, _, _⟩ := hx.get
  unfold loadX at h
  unfold loadVar
  have hag := run_isAgg_ok hd w
  cases hq : descSum d with
  | arr n e =>
    rw [← hdx, hq] at h; simp only [D.ty] at h; rw [hq] at hag; simp only [isAggD] at hag
    obtain ⟨cs, hl, hc, hk⟩ := h
    have hlo := run_loadCells_list (P := P) w p cs (fun j v hv => hc j v hv)
    refine ⟨.agg ⟨cs⟩, ?_, hk⟩
    simp only [Sem.run_bind, hag, Result.andThen_ok, if_true, run_sizeOf_ok hi, hsz, ← hl, hlo, Sem.run_pure]
  | struct fs =>
    rw [← hdx, hq] at h; simp only [D.ty] at h; rw [hq] at hag; simp only [isAggD] at hag
    obtain ⟨cs, hl, hc, hk⟩ := h
    have hlo := run_loadCells_list (P := P) w p cs (fun j v hv => hc j v hv)
    refine ⟨.agg ⟨cs⟩, ?_, hk⟩
    simp only [Sem.run_bind, hag, Result.andThen_ok, if_true, run_sizeOf_ok hi, hsz, ← hl, hlo, Sem.run_pure]
  | bool => rw [← hdx, hq] at h; simp only [D.ty] at h; rw [hq] at hag; simp only [isAggD] at hag; obtain ⟨v, hc, hk⟩ := exT_elim h; exact ⟨v, by simp [Sem.run_bind, hag, cell_eq, hc], hk⟩
  | int kd => rw [← hdx, hq] at h; simp only [D.ty] at h; rw [hq] at hag; simp only [isAggD] at hag; obtain ⟨v, hc, hk⟩ := exT_elim h; exact ⟨v, by simp [Sem.run_bind, hag, cell_eq, hc], hk⟩
  | str => rw [← hdx, hq] at h; simp only [D.ty] at h; rw [hq] at hag; simp only [isAggD] at hag; obtain ⟨v, hc, hk⟩ := exT_elim h; exact ⟨v, by simp [Sem.run_bind, hag, cell_eq, hc], hk⟩
  | ptr e => rw [← hdx, hq] at h; simp only [D.ty] at h; rw [hq] at hag; simp only [isAggD] at hag; obtain ⟨v, hc, hk⟩ := exT_elim h; exact ⟨v, by simp [Sem.run_bind, hag, cell_eq, hc], hk⟩
  | slice e => rw [← hdx, hq] at h; simp only [D.ty] at h; rw [hq] at hag; simp only [isAggD] at hag; obtain ⟨v, hc, hk⟩ := exT_elim h; exact ⟨v, by simp [Sem.run_bind, hag, cell_eq, hc], hk⟩
  | fn => rw [← hdx, hq] at h; simp only [D.ty] at h; rw [hq] at hag; simp only [isAggD] at hag; obtain ⟨v, hc, hk⟩ := exT_elim h; exact ⟨v, by simp [Sem.run_bind, hag, cell_eq, hc], hk⟩
  | map k e => rw [← hdx, hq] at h; simp only [D.ty] at h; rw [hq] at hag; simp only [isAggD] at hag; obtain ⟨v, hc, hk⟩ := exT_elim h; exact ⟨v, by simp [Sem.run_bind, hag, cell_eq, hc], hk⟩
  | other => rw [← hdx, hq] at h; simp only [D.ty] at h; rw [hq] at hag; simp only [isAggD] at hag; obtain ⟨v, hc, hk⟩ := exT_elim h; exact ⟨v, by simp [Sem.run_bind, hag, cell_eq, hc], hk⟩
theorem cellOf_setOf (h : Heap) (a b : Addr) (v : Value) : (∃ u, cellOf h b = some u) → ∃ u, cellOf (setOf h a v) b = some u := by
  rintro ⟨u, hu⟩
  unfold cellOf setOf at *
  simp only [Array.getElem?_modify]
  by_cases e : a.block = b.block
  · rw [e]; simp only [if_true]
    cases hb : h[b.block]? with
    | none => rw [hb] at hu; simp at hu
    | some o =>
      rw [hb] at hu
      cases o with
      | cells c t fr =>
        simp only at hu
        simp only [Option.map_some]
        cases hs : b.spot with
        | some q => simp [hs] at hu
        | none =>
          simp [hs] at hu ⊢
          have hlt : b.off < c.size := by
            rcases Nat.lt_or_ge b.off c.size with h1 | h1
            · exact h1
            · simp [Array.getElem?_eq_none h1] at hu
          by_cases hsp : a.spot.isSome = true
          · simp [hsp, hlt]
          · simp only [hsp]
            simp [hlt]
      | _ => simp at hu
  · simp only [if_neg e]; exact ⟨u, hu⟩
theorem frozenOf_setOf (h : Heap) (a b : Addr) (v : Value) : frozenOf (setOf h a v) b = frozenOf h b := by
  unfold frozenOf setOf
  simp only [Array.getElem?_modify]
  by_cases e : a.block = b.block
  · rw [e]; simp only [if_true]
    cases hb : h[b.block]? with
    | none => simp
    | some o => cases o <;> simp
  · simp only [if_neg e]
theorem Wr.set {h : Heap} {a b : Addr} (v : Value) (hw : Wr h b) : Wr (setOf h a v) b := ⟨cellOf_setOf h a b v hw.1, by rw [frozenOf_setOf]; exact hw.2⟩
theorem store_to {P : Program} {w : World} {a : Addr} {v : Value} (hv : v.oneCell' = true) (hw : Wr w.heap a) : (store a v).run P w = .ok () (w.setCell a v) := by
  obtain ⟨⟨u, hu⟩, hf⟩ := hw
  rw [run_store P w a v .plain hv, cell_eq, hu]
  simp [frozen_eq, hf]
def setW (w : World) (h : Heap) : World := { w with heap := h }
theorem setW_rest (w : World) (h : Heap) : SameRest w (setW w h) := ⟨rfl, rfl, rfl⟩
theorem storeCells_to {P : Program} (a : Addr) : ∀ (cs : List Value) (i : Nat) (w : World), (∀ v ∈ cs, v.oneCell' = true) → (∀ j, j < cs.length → Wr w.heap (a.add (i + j))) →
    (storeCells a cs i).run P w = .ok () (setW w (setRow w.heap a cs i))
  | [], i, w, _, _ => rfl
  | v :: r, i, w, h1, h2 => by
    have hs := store_to (P := P) (w := w) (a := a.add i) (h1 v (by simp)) (by simpa using h2 0 (by simp))
    have ih := storeCells_to (P := P) a r (i + 1) (w.setCell (a.add i) v) (fun x hx => h1 x (by simp [hx]))
      (fun j hj => by
        rw [setCell_heap]
        have := h2 (j + 1) (by simp; omega)
        rw [show i + 1 + j = i + (j + 1) by omega]
        exact this.set v)
    simp only [storeCells, Sem.run_bind, hs, Result.andThen_ok, ih]
    rfl
theorem storeVar_to {P : Program} {t : Nat} {x : TI} (hx : TIok P t x) {p : Addr} {v : Value} {w : World} {k : Heap → Prop} (h : storeX x p v w.heap k) :
    ∃ w', (storeVar t p v).run P w = .ok () w' ∧ SameRest w w' ∧ k w'.heap := by
  obtain ⟨i, d, z, hi, hd, hdx, hsz, _, _, _⟩ := hx.get
  have one : ∀ u : Value, u.oneCell' = true → u.cells = #[u] → Nat.beq x.cells 1 = true → Wr w.heap p → k (setOf w.heap p u) →
      ∃ w', (storeVar t p u).run P w = .ok () w' ∧ SameRest w w' ∧ k w'.heap := by
    intro u hu hcs hb hw hk
    have hone : x.cells = 1 := Nat.eq_of_beq_eq_true hb
    have hs := storeCells_to (P := P) p [u] 0 w (by simpa using hu) (fun j hj => by
      have : j = 0 := by simpa using hj
      subst this; simpa [Addr.add] using hw)
    refine ⟨setW w (setRow w.heap p [u] 0), ?_, setW_rest w _, ?_⟩
    · simp only [storeVar, Sem.run_bind, run_sizeOf_ok hi, Result.andThen_ok, hcs, hsz, hone]
      simp only [List.size_toArray, List.length_cons, List.length_nil]
      simpa using hs
    · simpa [setRow, setW, Addr.add] using hk
  cases v with
  | agg a =>
    obtain ⟨⟨h1, h2, h3⟩, hk⟩ := h
    have hs := storeCells_to (P := P) p a.toList 0 w h2 (fun j hj => by
      rw [Nat.zero_add]; exact h3 j (by omega))
    refine ⟨setW w (setRow w.heap p a.toList 0), ?_, setW_rest w _, ?_⟩
    · simp only [storeVar, Sem.run_bind, run_sizeOf_ok hi, Result.andThen_ok, Value.cells, hsz]
      have e : a.size = x.cells := by simpa using h1
      simp only [e]
      simpa using hs
    · exact hk
  | tuple a => exact h.elim
  | _ =>
    simp only [storeX] at h
    cases hb : Nat.beq x.cells 1 with
    | false => rw [hb] at h; exact h.elim
    | true => rw [hb] at h; exact one _ rfl rfl hb h.1 h.2
end Go.Proofs.YtjdcbblgaoogmaaGreatDoor.Wx
namespace Go.Proofs.YtjdcbblgaoogmaaGreatDoor.Wx
open Go
/-- quietly: the value is known, whatever the world, and that stands -/
def Qt {α : Type} (P : Program) (s : Sem α) (k : α → Prop) : Prop := ∃ v, (∀ w : World, s.run P w = .ok v w) ∧ k v
theorem kindEq_eq {a b : IntKind} (h : kindEq a b = true) : a = b := by cases a <;> cases b <;> first | rfl | (simp [kindEq] at h)
theorem intB_to {P : Program} {t : Nat} {op : BinOp} {kd : IntKind} {a b : Int} {k : Value → Prop} (hs : isShift op = false) (h : intB op kd a b k) :
    Qt P (binOp op t (.int kd a) (.int kd b)) k := by
  cases op with
  | shl => simp [isShift] at hs
  | shr => simp [isShift] at hs
  | add => exact ⟨_, by simp [Op.intArith, binOp], h⟩
  | sub => exact ⟨_, by simp [Op.intArith, binOp], h⟩
  | mul => exact ⟨_, by simp [Op.intArith, binOp], h⟩
  | quo =>
    by_cases hb : b = 0
    · simp [intB, hb] at h
    · simp only [intB, if_neg hb] at h
      exact ⟨_, by simp [Op.intDiv, binOp, hb], h⟩
  | rem =>
    by_cases hb : b = 0
    · simp [intB, hb] at h
    · simp only [intB, if_neg hb] at h
      exact ⟨_, by simp [Op.intDiv, binOp, hb], h⟩
  | eql => exact ⟨_, by simp [Op.intCmp, binOp], h⟩
  | neq => exact ⟨_, by simp [Op.intCmp, binOp], h⟩
  | lss => exact ⟨_, by simp [Op.intCmp, binOp], h⟩
  | leq => exact ⟨_, by simp [Op.intCmp, binOp], h⟩
  | gtr => exact ⟨_, fun w => by simp only [Op.intCmp, binOp]; simp, h⟩
  | geq => exact ⟨_, fun w => by simp only [Op.intCmp, binOp]; simp, h⟩
  | and => exact ⟨_, by simp [Op.intBits, binOp, bitsI], h⟩
  | or => exact ⟨_, by simp [Op.intBits, binOp, bitsI], h⟩
  | xor => exact ⟨_, by simp [Op.intBits, binOp, bitsI], h⟩
  | andNot => exact ⟨_, by simp [Op.intBits, binOp, bitsI], h⟩
theorem shiftB_to {P : Program} {t : Nat} {op : BinOp} {kd kd' : IntKind} {a b : Int} {k : Value → Prop} (h : shiftB op kd a b k) :
    Qt P (binOp op t (.int kd a) (.int kd' b)) k := by
  cases op with
  | shl =>
    by_cases hb : b < 0
    · simp [shiftB, hb] at h
    · simp only [shiftB, if_neg hb] at h
      exact ⟨_, fun w => by simp only [binOp, Op.shift]; rw [if_neg hb]; rfl, h⟩
  | shr =>
    by_cases hb : b < 0
    · simp [shiftB, hb] at h
    · simp only [shiftB, if_neg hb] at h
      exact ⟨_, fun w => by simp only [binOp, Op.shift]; rw [if_neg hb]; rfl, h⟩
  | _ => exact h.elim
theorem strB_to {P : Program} {t : Nat} {op : BinOp} {a b : ByteArray} {k : Value → Prop} (h : strB op a b k) :
    Qt P (binOp op t (.string a) (.string b)) k := by
  cases op with
  | add =>
    obtain ⟨h1, h2⟩ := h
    refine ⟨_, fun w => ?_, h2⟩
    have e : IntKind.max .i64 = 9223372036854775807 := by decide
    simp only [binOp, Op.stringOp]
    rw [if_neg (by rw [e]; omega)]
    rfl
  | eql => exact ⟨_, by simp [Op.stringOp, binOp], h⟩
  | neq => exact ⟨_, by simp [Op.stringOp, binOp], h⟩
  | lss => exact ⟨_, by simp [Op.stringOp, binOp], h⟩
  | leq => exact ⟨_, by simp [Op.stringOp, binOp], h⟩
  | gtr => exact ⟨_, fun w => by simp only [Op.stringOp, binOp]; rfl, h⟩
  | geq => exact ⟨_, fun w => by simp only [Op.stringOp, binOp]; rfl, h⟩
  | _ => exact h.elim
theorem eq_to {P : Program} {t : Nat} {op : BinOp} {x y : Value} {b : Bool} {k : Value → Prop} (h : eqB op b k)
    (he : ∀ w : World, (Op.equal t x y).run P w = .ok b w) (h1 : binOp .eql t x y = (do Pure.pure (.bool (← Op.equal t x y)))) (h2 : binOp .neq t x y = (do Pure.pure (.bool (!(← Op.equal t x y))))) :
    Qt P (binOp op t x y) k := by
  cases op with
  | eql => exact ⟨_, fun w => by rw [h1]; simp [he], h⟩
  | neq => exact ⟨_, fun w => by rw [h2]; simp [he], h⟩
  | _ => exact h.elim
theorem equal_run {P : Program} {t : Nat} {d : TypeDesc} (hd : P.underlying t = some d) {x y : Value} {b : Bool}
    (h : (match d, x, y with
      | .bool, .bool a, .bool c => b = (a == c)
      | .pointer _, .pointer none, .pointer q => b = q.isNone
      | .pointer _, .pointer (some _), .pointer none => b = false
      | .slice _, .slice none _ _, .slice q _ _ => b = q.isNone
      | .slice _, .slice (some _) _ _, .slice none _ _ => b = false
      | .func _ _ _, .nilFunc, .nilFunc => b = true
      | .func _ _ _, .func _ _ _, .nilFunc => b = false
      | _, _, _ => False)) : ∀ w : World, (Op.equal t x y).run P w = .ok b w := by
  intro w
  unfold Op.equal Op.maxDepth
  rw [show (10000 : Nat) = 9999 + 1 from rfl]
  unfold Op.equalIn
  rw [Sem.run_bind, run_underlying hd w]
  simp only [Result.andThen_ok]
  split at h <;> first | (subst h; rfl) | exact h.elim
theorem binX_to {P : Program} {t : Nat} {d : TypeDesc} (hd : P.underlying t = some d) {op : BinOp} {x y : Value} {k : Value → Prop} (h : binX (descSum d) op x y k) :
    Qt P (binOp op t x y) k := by
  by_cases hf : descSum d = .fn
  · rw [hf] at h
    cases d <;> simp [descSum] at hf
    simp only [binX] at h
    cases y <;> try exact h.elim
    obtain ⟨h1, h2⟩ := h
    cases x <;> simp [isFnV] at h1
    · exact eq_to h2 (equal_run hd rfl) rfl rfl
    · exact eq_to h2 (equal_run hd rfl) rfl rfl
  · cases x with
    | int kd a =>
      cases y with
      | int kd' b =>
        have h' : bif isShift op then shiftB op kd a b k else bif kindEq kd kd' then intB op kd a b k else False := by
          unfold binX at h; split at h
          · exact (hf (by assumption)).elim
          · exact h
        cases hs : isShift op with
        | true => rw [hs] at h'; exact shiftB_to h'
        | false =>
          rw [hs] at h'
          cases hk : kindEq kd kd' with
          | false => rw [hk] at h'; exact h'.elim
          | true => rw [hk] at h'; obtain rfl := kindEq_eq hk; exact intB_to hs h'
      | _ => unfold binX at h; split at h <;> first | exact (hf (by assumption)).elim | exact h.elim
    | string a =>
      cases y with
      | string b => unfold binX at h; split at h <;> first | exact (hf (by assumption)).elim | exact strB_to h
      | _ => unfold binX at h; split at h <;> first | exact (hf (by assumption)).elim | exact h.elim
    | bool a =>
      cases y with
      | bool b =>
        unfold binX at h; split at h
        · exact (hf (by assumption)).elim
        · cases d <;> simp [descSum] at h
          exact eq_to h (equal_run hd rfl) rfl rfl
      | _ => unfold binX at h; split at h <;> first | exact (hf (by assumption)).elim | exact h.elim
    | pointer a =>
      cases y with
      | pointer b =>
        unfold binX at h; split at h
        · exact (hf (by assumption)).elim
        · cases b with
          | some q => exact h.elim
          | none =>
            cases d <;> simp [descSum] at h
            cases a with
            | none => exact eq_to h (equal_run hd rfl) rfl rfl
            | some p => exact eq_to h (equal_run hd rfl) rfl rfl
      | _ => unfold binX at h; split at h <;> first | exact (hf (by assumption)).elim | exact h.elim
    | slice a l c =>
      cases y with
      | slice b l' c' =>
        unfold binX at h; split at h
        · exact (hf (by assumption)).elim
        · cases b with
          | some q => exact h.elim
          | none =>
            cases d <;> simp [descSum] at h
            cases a with
            | none => exact eq_to h (equal_run hd rfl) rfl rfl
            | some p => exact eq_to h (equal_run hd rfl) rfl rfl
      | _ => unfold binX at h; split at h <;> first | exact (hf (by assumption)).elim | exact h.elim
    | _ => unfold binX at h; split at h <;> first | exact (hf (by assumption)).elim | exact h.elim
theorem unX_to {P : Program} {op : UnOp} {x : Value} {k : Value → Prop} (h : unX op x k) : Qt P (Op.unary op x) k := by
  cases op with
  | not => cases x <;> first | exact h.elim | exact ⟨_, fun _ => rfl, h⟩
  | neg => cases x <;> first | exact h.elim | exact ⟨_, fun _ => rfl, h⟩
  | xor => cases x <;> first | exact h.elim | exact ⟨_, fun _ => rfl, h⟩
  | plus => cases x <;> exact h.elim
def plainPair (a b : Value) : Bool :=
  match a, b with
  | .nilIface, .nilIface => false
  | .agg _, .agg _ => false
  | _, _ => true
theorem eqGuard_run {P : Program} {op : BinOp} {t : Nat} {x y : Operand} {a b : Value} {w : World} (h : plainPair a b = true) :
    (eqGuard op t x y a b).run P w = .ok () w := by
  have key : ∀ c : Bool, (if c = true then (Pure.pure () : Sem Unit) else Pure.pure ()).run P w = .ok () w := fun c => by cases c <;> rfl
  unfold eqGuard
  cases a <;> cases b <;> first | exact key _ | (simp [plainPair] at h; done)
theorem binX_guard {d : D} {op : BinOp} {x y : Value} {k : Value → Prop} (h : binX d op x y k) : plainPair x y = true := by
  unfold binX at h
  cases x <;> cases y <;> first | rfl | (split at h <;> exact h.elim)
end Go.Proofs.YtjdcbblgaoogmaaGreatDoor.Wx
namespace Go.Proofs.YtjdcbblgaoogmaaGreatDoor.Wx
open Go
theorem scale_eq (n s : Nat) : scale n s = n * s := by
  unfold scale
  cases h : Nat.beq s 1 with
  | false => rfl
  | true => have := Nat.eq_of_beq_eq_true h; subst this; simp
theorem Addr.add_zero (a : Addr) : a.add 0 = a := by simp [Addr.add]
theorem range_mul_map (z : List Value) (n : Nat) : (List.range (n * z.length)).map (fun i => z[i % z.length]!) = (List.replicate n z).flatten := by
  by_cases hz : z.length = 0
  · have : z = [] := List.eq_nil_of_length_eq_zero hz
    subst this
    induction n with
    | zero => rfl
    | succ n ih => simp
  · induction n with
    | zero => simp
    | succ n ih =>
      have e : (List.replicate (n + 1) z).flatten = (List.replicate n z).flatten ++ z := by
        rw [List.replicate_succ', List.flatten_append]; simp
      rw [e, ← ih, Nat.add_mul, Nat.one_mul, List.range_add, List.map_append, List.map_map]
      congr 1
      apply List.ext_getElem?
      intro i
      simp only [List.getElem?_map]
      by_cases hi : i < z.length
      · simp [hi, Nat.mod_eq_of_lt hi]
      · simp [hi]
theorem repCells_eq (z : List Value) (n : Nat) : repCells z n = (List.replicate n z).flatten := by
  unfold repCells
  split
  · rename_i v
    induction n with
    | zero => rfl
    | succ n ih => rw [List.replicate_succ, ih, List.replicate_succ, List.flatten_cons]; rfl
  · rfl
theorem bang_getD (z : Array Value) (i : Nat) : z[i]! = z[i]?.getD default := by simp [getElem!_def]; split <;> simp_all
theorem zeroCells_eq (z : Value) (n : Nat) : Builtin.zeroCells z.cells n = ⟨repCells (cellsL z) n⟩ := by
  apply Array.ext'
  rw [repCells_eq, cellsL_eq, ← range_mul_map]
  simp only [Builtin.zeroCells, Array.toList_map, Array.toList_range, Array.length_toList]
  apply List.map_congr_left
  intro i _
  simp [bang_getD]
theorem madeCells_eq (z : Value) (n : Nat) : madeCells z.cells (n * z.cells.size) = ⟨repCells (cellsL z) n⟩ := by
  apply Array.ext'
  rw [repCells_eq, cellsL_eq, ← range_mul_map]
  simp only [madeCells, Array.toList_map, Array.toList_range, Array.length_toList]
  apply List.map_congr_left
  intro i _
  simp [bang_getD]
theorem length_repCells (z : List Value) (n : Nat) : (repCells z n).length = n * z.length := by
  rw [repCells_eq]
  induction n with
  | zero => simp
  | succ n ih => rw [List.replicate_succ, List.flatten_cons, List.length_append, ih, Nat.add_mul, Nat.one_mul, Nat.add_comm]
theorem makeP_to {P : Program} {t e : Nat} {x : TI} (ht : ∃ d, P.underlying t = some d ∧ descSum d = .slice e) (hx : TIok P e x) {kl kc : IntKind} {l c : Int} {w : World} {k : Value → Heap → Prop}
    (h : MakeP x e l c w.heap k) : To P (Instr.makeSlice t (.int kl l) (.int kc c)) w k := by
  obtain ⟨i, d, z, hi, hd, hdx, hsz, hb, hz, hzc⟩ := hx.get
  obtain ⟨dt, hdt, hse⟩ := ht
  have hu : P.underlying t = some (.slice e) := by cases dt <;> simp [descSum] at hse; subst hse; exact hdt
  obtain ⟨⟨h0, h1, h2, h3⟩, hk⟩ := h
  have hr := run_make (P := P) w t e i z hu hi hz kl kc l c h0 h1 (by rw [hb]; exact h2) (by omega)
  have hl : z.cells.size = i.size := by
    have := hx.len
    rw [← hzc, cellsL_eq] at this
    rw [hsz, ← this]; simp
  rw [← hl, madeCells_eq, hzc] at hr
  exact ⟨_, _, hr, ⟨rfl, rfl, rfl⟩, hk⟩
def ivs (o : Option (IntKind × Int)) : Option Value := o.map fun p => .int p.1 p.2
def ins (o : Option (IntKind × Int)) : Option Int := o.map (·.2)
theorem bound_run {P : Program} {w : World} (kd : IntKind) (i : Int) (y : Nat) (code : BoundsCode) (h0 : 0 ≤ i) (h1 : i ≤ (y : Int)) :
    (Instr.sliceBound (.int kd i) y code).run P w = .ok i.toNat w := by
  simp [Instr.sliceBound, asIntOf, h0, h1]
theorem cutX_run {P : Program} {isS : Bool} {a : Option Addr} {len cap size : Nat} {lo hi mx : Option (IntKind × Int)} {k : Value → Prop}
    (h : cutX a len cap size (ins lo) (ins hi) (ins mx) k) :
    ∃ l u m, (∀ w : World, (Instr.sliceBounds isS len cap (ivs lo) (ivs hi) (ivs mx)).run P w = .ok (l, u, m) w) ∧ k (.slice (if m = l then a else a.map (·.add (l * size))) (u - l) (m - l)) := by
  have hid : ∀ m : Nat, (if m = 0 then a else a.map (·.add (0 * size))) = a := fun m => by
    split
    · rfl
    · cases a <;> simp [Addr.add]
  have hid' : ∀ m : Nat, (if m = 0 then a else a.map (·.add 0)) = a := fun m => by
    split
    · rfl
    · cases a <;> simp [Addr.add]
  rcases lo with _ | ⟨kl, l⟩ <;> rcases hi with _ | ⟨kh, u⟩ <;> rcases mx with _ | ⟨km, m⟩ <;> simp only [cutX, ins, Option.map_none, Option.map_some] at h
  · refine ⟨0, len, cap, by simp [Instr.sliceBounds, ivs], ?_⟩
    rw [hid]; simpa using h
  · obtain ⟨⟨h0, h1⟩, hk⟩ := h
    refine ⟨0, u.toNat, cap, by simp [Instr.sliceBounds, ivs, bound_run kh u cap _ h0 h1], ?_⟩
    rw [hid]; simpa using hk
  · obtain ⟨⟨h0, h1, h2⟩, hk⟩ := h
    have e1 := fun w => bound_run (P := P) (w := w) km m cap (if isS then .slice3Acap else .slice3Alen) (by omega) h2
    have e2 := fun w => bound_run (P := P) (w := w) kh u m.toNat .slice3B h0 (by omega)
    refine ⟨0, u.toNat, m.toNat, by simp [Instr.sliceBounds, ivs, e1, e2], ?_⟩
    rw [hid]; simpa using hk
  · obtain ⟨⟨h0, h1⟩, hk⟩ := h
    refine ⟨l.toNat, len, cap, by simp [Instr.sliceBounds, ivs, bound_run kl l len _ h0 h1], ?_⟩
    simpa [subSlice, scale_eq] using hk
  · obtain ⟨⟨h0, h1, h2⟩, hk⟩ := h
    have e1 := fun w => bound_run (P := P) (w := w) kh u cap (if isS then .sliceAcap else .sliceAlen) (by omega) h2
    have e2 := fun w => bound_run (P := P) (w := w) kl l u.toNat .sliceB h0 (by omega)
    refine ⟨l.toNat, u.toNat, cap, by simp [Instr.sliceBounds, ivs, e1, e2], ?_⟩
    simpa [subSlice, scale_eq] using hk
  · obtain ⟨⟨h0, h1, h2, h3⟩, hk⟩ := h
    have e1 := fun w => bound_run (P := P) (w := w) km m cap (if isS then .slice3Acap else .slice3Alen) (by omega) h3
    have e2 := fun w => bound_run (P := P) (w := w) kh u m.toNat .slice3B (by omega) (by omega)
    have e3 := fun w => bound_run (P := P) (w := w) kl l u.toNat .slice3C h0 (by omega)
    refine ⟨l.toNat, u.toNat, m.toNat, by simp [Instr.sliceBounds, ivs, e1, e2, e3], ?_⟩
    simpa [subSlice, scale_eq] using hk
theorem cutStr_run {P : Program} {s : ByteArray} {lo hi mx : Option (IntKind × Int)} {k : Value → Prop} (h : cutStr s (ins lo) (ins hi) (ins mx) k) :
    mx = none ∧ ∃ l u m, (∀ w : World, (Instr.sliceBounds false s.size s.size (ivs lo) (ivs hi) none).run P w = .ok (l, u, m) w) ∧ k (.string (s.extract l u)) := by
  rcases lo with _ | ⟨kl, l⟩ <;> rcases hi with _ | ⟨kh, u⟩ <;> rcases mx with _ | ⟨km, m⟩ <;> simp only [cutStr, ins, Option.map_none, Option.map_some] at h <;> first | exact h.elim | refine ⟨rfl, ?_⟩
  · refine ⟨0, s.size, s.size, by simp [Instr.sliceBounds, ivs], ?_⟩
    rw [ByteArray.extract_zero_size]; exact h
  · obtain ⟨⟨h0, h1⟩, hk⟩ := h
    exact ⟨0, u.toNat, s.size, by simp [Instr.sliceBounds, ivs, bound_run kh u s.size _ h0 h1], hk⟩
  · obtain ⟨⟨h0, h1⟩, hk⟩ := h
    exact ⟨l.toNat, s.size, s.size, by simp [Instr.sliceBounds, ivs, bound_run kl l s.size _ h0 h1], hk⟩
  · obtain ⟨⟨h0, h1, h2⟩, hk⟩ := h
    have e1 := fun w => bound_run (P := P) (w := w) kh u s.size .sliceAlen (by omega) h2
    have e2 := fun w => bound_run (P := P) (w := w) kl l u.toNat .sliceB h0 (by omega)
    exact ⟨l.toNat, u.toNat, s.size, by simp [Instr.sliceBounds, ivs, e1, e2], hk⟩
theorem sliceX_to {P : Program} {t : Nat} {d : TypeDesc} (hd : P.underlying t = some d) {size : Nat}
    (he : ∀ e, (descSum d = .slice e ∨ ∃ n, descSum d = .arr n e) → ∃ i, P.info? e = some i ∧ i.size = size) {x : Value} {lo hi mx : Option (IntKind × Int)} {k : Value → Prop}
    (h : sliceX (descSum d) size x (ins lo) (ins hi) (ins mx) k) : Qt P (Instr.sliceAt t x (ivs lo) (ivs hi) (ivs mx)) k := by
  cases d with
  | string =>
    cases x <;> try exact h.elim
    rename_i s
    obtain ⟨rfl, l, u, m, hr, hk⟩ := cutStr_run (P := P) h
    refine ⟨_, fun w => ?_, hk⟩
    simp only [Instr.sliceAt, Instr.slice, Sem.run_bind, run_underlying hd, Result.andThen_ok]
    simp [ivs] at hr ⊢
    simp [hr]
  | slice e =>
    cases x <;> try exact h.elim
    rename_i a l c
    obtain ⟨i, hi', hs⟩ := he e (.inl rfl)
    obtain ⟨l', u, m, hr, hk⟩ := cutX_run (P := P) (isS := true) h
    refine ⟨_, fun w => ?_, hk⟩
    simp only [Instr.sliceAt, Instr.slice, Sem.run_bind, run_underlying hd, Result.andThen_ok, hr, run_sizeOf_ok hi', hs, Sem.run_pure]
  | array n e =>
    cases x <;> try exact h.elim
    rename_i q
    cases q with
    | none => exact h.elim
    | some p =>
      obtain ⟨i, hi', hs⟩ := he e (.inr ⟨n, rfl⟩)
      obtain ⟨l', u, m, hr, hk⟩ := cutX_run (P := P) (isS := false) (show cutX (some p) n n size (ins lo) (ins hi) (ins mx) k from h)
      refine ⟨_, fun w => ?_, hk⟩
      simp only [Instr.sliceAt, Instr.sureAddr, Sem.run_bind, run_underlying hd, Result.andThen_ok, hr, run_sizeOf_ok hi', hs, Sem.run_pure]
      congr 2
      split <;> simp
  | _ => cases x <;> exact h.elim
theorem firstCells_some_to {P : Program} {w : World} {size n : Nat} {b : Option Addr} {len cap : Nat} {cs : List Value} (hl : cs.length = n * size) (h : SlCells w.heap b cs) :
    (Builtin.firstCells size n (.slice b len cap)).run P w = .ok ⟨cs⟩ w := by
  cases b with
  | none =>
    have : cs = [] := h
    subst this
    simp [Builtin.firstCells]
  | some p => exact run_firstCells_some (P := P) w size n p len cap cs hl (fun j v hv => h j v hv)
theorem firstCells_str {P : Program} {w : World} {s : ByteArray} {n : Nat} :
    (Builtin.firstCells 1 n (.string s)).run P w = .ok ⟨(s.toList.take n).map bv⟩ w := by
  simp only [Builtin.firstCells, Sem.run_pure]
  congr 1
  apply Array.ext'
  simp [ByteArray.toList_eq]
  rfl
/-- what a source comes to -/
structure Src (P : Program) (size : Nat) (x : Value) (h : Heap) (n : Nat) (new : List Value) : Prop where
  len : ∀ w : World, w.heap = h → (Builtin.lenOf x).run P w = .ok n w
  cells : ∀ w : World, w.heap = h → (Builtin.firstCells size n x).run P w = .ok ⟨new⟩ w
  length : new.length = n * size
  one : ∀ v ∈ new, v.oneCell' = true
theorem srcX_to {P : Program} {x : TI} {v : Value} {h : Heap} {k : Nat → List Value → Prop} (hk : srcX x h v k) : ∃ n new, Src P x.cells v h n new ∧ k n new := by
  cases v <;> try exact hk.elim
  · rename_i s
    unfold srcX at hk
    cases hb : Nat.beq x.cells 1 with
    | false => simp [hb] at hk
    | true =>
      have e : x.cells = 1 := Nat.eq_of_beq_eq_true hb
      simp [hb] at hk
      refine ⟨_, _, ⟨fun w _ => rfl, fun w _ => ?_, ?_, ?_⟩, hk⟩
      · rw [e]
        have := firstCells_str (P := P) (w := w) (s := s) (n := s.size)
        have hl : s.toList.length = s.size := by rw [ByteArray.toList_eq]; simp
        rw [List.take_of_length_le (by omega)] at this
        exact this
      · rw [e, ByteArray.toList_eq]; simp
      · intro v hv
        obtain ⟨b, _, rfl⟩ := List.mem_map.1 hv
        rfl
  · rename_i b n c
    obtain ⟨new, h1, h2, h3, hk⟩ := hk
    exact ⟨n, new, ⟨fun w _ => rfl, fun w hw => firstCells_some_to h1 (hw ▸ h2), h1, h3⟩, hk⟩
theorem append_to {P : Program} {t t' e ty : Nat} {x : TI} (ht : ∃ d, P.underlying t = some d ∧ descSum d = .slice e) (ht' : (∃ e', P.underlying t' = some (.slice e')) ∨ P.underlying t' = some .string)
    (hx : TIok P e x) {a : Option Addr} {l c n : Nat} {v : Value} {new : List Value} {w : World} {k : Option Addr → Nat → Nat → Heap → Prop} (hs : Src P x.cells v w.heap n new)
    (h : AppendP x e a l c n new w.heap k) : To P (Builtin.append_ #[t, t'] ty #[.slice a l c, v]) w fun r h' => ∃ a' l' c', r = .slice a' l' c' ∧ k a' l' c' h' := by
  obtain ⟨i, d, z, hi, hd, hdx, hsz, hb, hz, hzc⟩ := hx.get
  obtain ⟨dt, hdt, hse⟩ := ht
  have hu : P.underlying t = some (.slice e) := by cases dt <;> simp [descSum] at hse; subst hse; exact hdt
  obtain ⟨old, ho, hoc, hbytes, hlen, hfit, hgrow⟩ := h
  by_cases hc : l + n ≤ c
  · obtain ⟨hwr, hk⟩ := hfit hc
    have hst : ∃ w', (match a with | some a => storeCells (a.add (l * i.size)) new | none => Pure.pure () : Sem Unit).run P w = .ok () w' ∧ SameRest w w' ∧ w'.heap = setS w.heap a (l * x.cells) new := by
      cases a with
      | none => exact ⟨w, rfl, .refl _, rfl⟩
      | some p =>
        have := storeCells_to (P := P) (p.add (l * x.cells)) new 0 w hs.one (fun j hj => by
          rw [Nat.zero_add]; exact hwr j (by rw [← hs.length]; exact hj))
        exact ⟨_, by rw [hsz]; exact this, setW_rest _ _, rfl⟩
    obtain ⟨w', h1, h2, h3⟩ := hst
    refine ⟨.slice a (l + n) c, w', ?_, h2, a, l + n, c, rfl, by rw [h3]; exact hk⟩
    have hcs := hs.cells w rfl
    rw [← hsz] at hcs
    rcases ht' with ⟨e', ht'⟩ | ht'
    all_goals
      simp only [Builtin.append_, List.getElem?_toArray, List.getElem?_cons_zero, List.getElem?_cons_succ, Sem.run_bind, run_underlying hu, run_underlying ht', Result.andThen_ok, run_sizeOf_ok hi, Sem.run_pure, Bool.false_eq_true, if_false, Bool.not_false, if_true, hs.len w rfl, Sem.run_ite, if_pos hc, hcs]
      cases a with
      | none => simp at h1 ⊢; exact h1
      | some p => simp only at h1; simp [h1]
  · have hg : c < l + n := by omega
    have hk := hgrow hg
    have hfits := growslice_fits (bytes := i.bytes) hg (by rw [hb]; exact hbytes)
    have h48 : ¬ (Builtin.nextslicecap (l + n) c * i.bytes > 2 ^ 48) := by
      have e : (2 : Nat) ^ 48 = 281474976710656 := by decide
      rw [e]; omega
    have h63 : ¬ (((l + n : Nat) : Int) > IntKind.i64.max ∧ (false = true ∨ i.bytes = 0)) := by
      have e : IntKind.max .i64 = 9223372036854775807 := by decide
      rw [e]; omega
    let w1 : World := { w with drawn := w.drawn + 1 }
    let cap := (Question.appendCap (l + n) c e).cut (w.tape w.drawn (Question.appendCap (l + n) c e))
    have hcap : l + n ≤ cap := by show l + n ≤ Question.cut _ _; simp [Question.cut]
    have hcs := hs.cells w1 rfl
    rw [← hsz] at hcs
    have hos := firstCells_some_to (P := P) (w := w1) (size := i.size) (n := l) (len := l) (cap := c) (by rw [hsz]; exact ho) hoc
    refine ⟨.slice (some ⟨w.heap.size, 0, none⟩) (l + n) cap, w1.alloc (.cells ⟨old ++ new ++ repCells x.zero (cap - (l + n))⟩ e), ?_, ⟨rfl, rfl, rfl⟩, _, _, _, rfl, hk cap hcap⟩
    have hzv : (zeroValue e).run P w1 = .ok z w1 := by simp [zeroValue, run_typeInfo_ok hi, hz]
    have hch : (choose (Question.appendCap (l + n) c e)).run P w = .ok cap w1 := by simp [Question.forced, w1, cap]
    rcases ht' with ⟨e', ht'⟩ | ht'
    all_goals
      simp only [Builtin.append_, List.getElem?_toArray, List.getElem?_cons_zero, List.getElem?_cons_succ, Sem.run_bind, run_underlying hu, run_underlying ht', Result.andThen_ok, run_sizeOf_ok hi, Sem.run_pure, Bool.false_eq_true, if_false, Bool.not_false, if_true, hs.len w rfl, Sem.run_ite, if_neg hc, run_typeInfo_ok hi, if_neg h48]
      rw [if_neg (by simpa using h63)]
      simp only [Sem.run_bind, Result.andThen_ok, hch, run_askRoom, hos, hcs, hzv, newRow, run_newObj, Sem.run_pure, zeroCells_eq, hzc]
      congr 2
      simp
end Go.Proofs.YtjdcbblgaoogmaaGreatDoor.Wx
namespace Go.Proofs.YtjdcbblgaoogmaaGreatDoor.Wx
open Go
theorem setS_to {P : Program} {w : World} (a : Option Addr) (o : Nat) (new : List Value) (h1 : ∀ v ∈ new, v.oneCell' = true) (h2 : WrS w.heap a o new.length) :
    ∃ w', (match a with | some a => storeCells (a.add o) new | none => Pure.pure () : Sem Unit).run P w = .ok () w' ∧ SameRest w w' ∧ w'.heap = setS w.heap a o new := by
  cases a with
  | none => exact ⟨w, rfl, .refl _, rfl⟩
  | some p =>
    have := storeCells_to (P := P) (p.add o) new 0 w h1 (fun j hj => by rw [Nat.zero_add]; exact h2 j hj)
    exact ⟨_, this, setW_rest _ _, rfl⟩
theorem clear_to {P : Program} {t e ty : Nat} {x : TI} (ht : ∃ d, P.underlying t = some d ∧ descSum d = .slice e)
    (hx : TIok P e x) {a : Option Addr} {n c : Nat} {w : World} {k : Heap → Prop}
    (h : ClearP x a n w.heap k) : To P (Builtin.clear_ #[t] ty #[.slice a n c]) w fun r h' => r = .tuple #[] ∧ k h' := by
  obtain ⟨i, d, z, hi, hd, hdx, hsz, hb, hz, hzc⟩ := hx.get
  obtain ⟨dt, hdt, hse⟩ := ht
  have hu : P.underlying t = some (.slice e) := by cases dt <;> simp [descSum] at hse; subst hse; exact hdt
  obtain ⟨h1, h2, h3⟩ := h
  have hzv : (zeroValue e).run P w = .ok z w := by simp [zeroValue, run_typeInfo_ok hi, hz]
  have hone : ∀ v ∈ x.zero, v.oneCell' = true := by
    cases hb : x.zero.all Value.oneCell' with
    | true => exact List.all_eq_true.1 hb
    | false => rw [hb] at h1; exact h1.elim
  have hrep : ∀ v ∈ repCells x.zero n, v.oneCell' = true := by
    intro v hv
    unfold repCells at hv
    split at hv
    · rename_i u hu; exact hone v (by rw [hu]; simp [List.eq_of_mem_replicate hv])
    · obtain ⟨l, hl, hv⟩ := List.mem_flatten.1 hv
      rw [List.eq_of_mem_replicate hl] at hv
      exact hone v hv
  have hlen : (repCells x.zero n).length = n * x.cells := by rw [length_repCells, hx.len]
  cases a with
  | none => exact ⟨.tuple #[], w, by simp [Builtin.clear_, run_underlying hu], ⟨rfl, rfl, rfl⟩, rfl, h3⟩
  | some p =>
    cases n with
    | zero =>
      refine ⟨.tuple #[], w, by simp [Builtin.clear_, run_underlying hu], ⟨rfl, rfl, rfl⟩, rfl, ?_⟩
      have e0 : repCells x.zero 0 = [] := List.eq_nil_of_length_eq_zero (by rw [hlen, Nat.zero_mul])
      rw [e0] at h3; exact h3
    | succ n =>
      obtain ⟨w', hs1, hs2, hs3⟩ := setS_to (P := P) (w := w) (some p) 0 (repCells x.zero (n + 1)) hrep (by rw [hlen]; exact h2)
      simp only [Addr.add_zero] at hs1
      refine ⟨.tuple #[], w', ?_, hs2, rfl, by rw [hs3]; exact h3⟩
      simp [Builtin.clear_, run_underlying hu, hzv, zeroCells_eq, hzc, hs1]
theorem copy_to {P : Program} {t t' e ty : Nat} {x : TI} (ht : ∃ d, P.underlying t = some d ∧ descSum d = .slice e)
    (hx : TIok P e x) {a : Option Addr} {n c : Nat} {v : Value} {w : World} {k : Nat → Heap → Prop}
    (h : CopyP x a n v w.heap k) : To P (Builtin.copy_ #[t, t'] ty #[.slice a n c, v]) w fun r h' => ∃ m : Nat, r = .int .i64 (m : Int) ∧ k m h' := by
  obtain ⟨i, d, z, hi, hd, hdx, hsz, hb, hz, hzc⟩ := hx.get
  obtain ⟨dt, hdt, hse⟩ := ht
  have hu : P.underlying t = some (.slice e) := by cases dt <;> simp [descSum] at hse; subst hse; exact hdt
  have key : ∀ (m : Nat) (new : List Value), (∀ w' : World, w'.heap = w.heap → (Builtin.lenOf v).run P w' = .ok m w') →
      (∀ w' : World, w'.heap = w.heap → (Builtin.firstCells x.cells (min m n) v).run P w' = .ok ⟨new⟩ w') → (∀ u ∈ new, u.oneCell' = true) → WrS w.heap a 0 new.length → k (min m n) (setS w.heap a 0 new) →
      To P (Builtin.copy_ #[t, t'] ty #[.slice a n c, v]) w fun r h' => ∃ m : Nat, r = .int .i64 (m : Int) ∧ k m h' := by
    intro m new hl hc h1 hw hk
    obtain ⟨w', hs1, hs2, hs3⟩ := setS_to (P := P) (w := w) a 0 new h1 hw
    refine ⟨.int .i64 ((min m n : Nat) : Int), w', ?_, hs2, min m n, rfl, by rw [hs3]; exact hk⟩
    have hcs := hc w rfl
    rw [← hsz] at hcs
    have e : Nat.min m n = min m n := rfl
    cases a with
    | none =>
      simp only [Sem.run_pure, Result.ok.injEq, true_and] at hs1
      subst hs1
      simp [Builtin.copy_, run_underlying hu, hl w rfl, run_sizeOf_ok hi, e, hcs, goInt]
    | some p =>
      simp only [Addr.add_zero] at hs1
      simp [Builtin.copy_, run_underlying hu, hl w rfl, run_sizeOf_ok hi, e, hcs, hs1, goInt]
  cases v <;> try exact h.elim
  · rename_i s
    obtain ⟨hb1, hw, hk⟩ := h
    have e1 : x.cells = 1 := by
      cases hbb : Nat.beq x.cells 1 with
      | true => exact Nat.eq_of_beq_eq_true hbb
      | false => simp [hbb] at hb1
    refine key s.size ((s.toList.take (min s.size n)).map bv) (fun w' _ => rfl) (fun w' _ => ?_) ?_ ?_ hk
    · rw [e1]; exact firstCells_str
    · intro u hu
      obtain ⟨b, _, rfl⟩ := List.mem_map.1 hu
      rfl
    · have hl : s.toList.length = s.size := by rw [ByteArray.toList_eq]; simp
      have : ((s.toList.take (min s.size n)).map bv).length = min s.size n := by simp [hl]
      rw [this]; exact hw
  · rename_i b m c'
    obtain ⟨new, hl, hc, h1, hw, hk⟩ := h
    refine key m new (fun w' _ => rfl) (fun w' hw' => firstCells_some_to hl (hw' ▸ hc)) h1 ?_ hk
    rw [hl]; exact hw
theorem foldl_set (v : List Value) : ∀ (off j : Nat) (cells : Array Value), off + j + v.length ≤ cells.size →
    ((v.zipIdx j).foldl (fun cs (p : Value × Nat) => cs.setIfInBounds (off + p.2) p.1) cells).toList = cells.toList.take (off + j) ++ v ++ cells.toList.drop (off + j + v.length) := by
  induction v with
  | nil => intro off j cells _; simp
  | cons x r ih =>
    intro off j cells hl
    simp only [List.length_cons] at hl
    simp only [List.zipIdx_cons, List.foldl_cons]
    rw [ih off (j + 1) _ (by simp; omega)]
    have hlt : off + j < cells.toList.length := by simp; omega
    simp only [Array.toList_setIfInBounds, ← Nat.add_assoc]
    have e := list_seg_step cells.toList (off + j) x r (by simp; omega)
    simpa [Nat.add_assoc, Nat.add_comm, Nat.add_left_comm] using e
def fstep (place : Nat → Option (Nat × Nat)) (l : List Value) (q : Nat × Value) : List Value :=
  match place q.1 with | some (off, size) => l.take off ++ cellsL q.2 ++ l.drop (off + size) | none => l
theorem fill_to (place : Nat → Option (Nat × Nat)) (Z : List Value) : ∀ (parts : List (Nat × Value)) (cells : Array Value), cells.size = Z.length →
    (∀ q ∈ parts, ∃ off size, place q.1 = some (off, size) ∧ q.2.cells.size = size ∧ off + size ≤ Z.length) →
    ∃ cells', Instr.fill place cells parts = some cells' ∧ cells'.size = Z.length ∧
      cells'.toList = parts.foldl (fstep place) cells.toList
  | [], cells, hs, _ => ⟨cells, rfl, hs, rfl⟩
  | (i, v) :: r, cells, hs, h => by
    obtain ⟨off, size, hp, hv, hle⟩ := h (i, v) (by simp)
    simp only at hp hv
    have hle' : off + v.cells.size ≤ cells.size := by rw [hs, hv]; exact hle
    have hf := foldl_set v.cells.toList off 0 cells (by simpa using hle')
    simp only [Nat.add_zero] at hf
    have e1 : (v.cells.zipIdx.foldl (fun cs (p : Value × Nat) => cs.setIfInBounds (off + p.2) p.1) cells) = (v.cells.toList.zipIdx.foldl (fun cs (p : Value × Nat) => cs.setIfInBounds (off + p.2) p.1) cells) := by
      rw [← Array.foldl_toList, Array.toList_zipIdx]
    have hsz' : (v.cells.zipIdx.foldl (fun cs (p : Value × Nat) => cs.setIfInBounds (off + p.2) p.1) cells).size = Z.length := by
      rw [e1, ← Array.length_toList, hf]
      simp only [List.length_append, List.length_take, List.length_drop, Array.length_toList]
      omega
    obtain ⟨c', h1, h2, h3⟩ := fill_to place Z r _ hsz' (fun q hq => h q (by simp [hq]))
    refine ⟨c', ?_, h2, ?_⟩
    · simp only [Instr.fill, hp]
      rw [if_neg]
      · exact h1
      · simp only [Bool.or_eq_true, decide_eq_true_eq, not_or, ne_eq, Decidable.not_not, Nat.not_lt]
        exact ⟨hv, hle'⟩
    · rw [h3, e1, hf]
      simp only [List.foldl_cons, fstep, hp, cellsL_eq]
      rw [← hv]
      simp
theorem catAll_eq : ∀ xs : List (List Value), catAll xs = xs.flatten
  | [] => rfl
  | [x] => by simp [catAll]
  | x :: y :: r => by
    show x ++ catAll (y :: r) = _
    rw [catAll_eq (y :: r)]; simp
def evalO (f : Fr) (x : Operand) : Option Value :=
  match x with | .tmp t => Fr.get f t | .const v => some v | .global g => some (.pointer (some ⟨g, 0, none⟩)) | .func g => some (.func (.func g) #[] #[])
theorem findPart_cons (f : Fr) (i j : Nat) (x : Operand) (r : List (Nat × Operand)) : findPart f i ((j, x) :: r) = bif Nat.beq j i then some (evalO f x) else findPart f i r := rfl
theorem sorted_cons {n m j : Nat} {x : Operand} {r : List (Nat × Operand)} (h : sorted n ((j, x) :: r) m = true) : m ≤ j ∧ j < n ∧ sorted n r (j + 1) = true := by
  simp only [sorted, Bool.and_eq_true] at h
  exact ⟨Nat.le_of_ble_eq_true h.1.1, Nat.le_of_ble_eq_true h.1.2, h.2⟩
theorem sorted_weak {n : Nat} : ∀ {r : List (Nat × Operand)} {m m' : Nat}, sorted n r m = true → m' ≤ m → sorted n r m' = true
  | [], _, _, _, _ => rfl
  | (j, x) :: r, m, m', h, hm => by
    obtain ⟨h1, h2, h3⟩ := sorted_cons h
    simp only [sorted, Bool.and_eq_true]
    exact ⟨⟨Nat.ble_eq_true_of_le (by omega), Nat.ble_eq_true_of_le h2⟩, h3⟩
theorem findPart_none {f : Fr} {n i : Nat} : ∀ {r : List (Nat × Operand)} {m : Nat}, sorted n r m = true → i < m → findPart f i r = none
  | [], _, _, _ => rfl
  | (j, x) :: r, m, h, hm => by
    obtain ⟨h1, h2, h3⟩ := sorted_cons h
    have : Nat.beq j i = false := by
      cases hb : Nat.beq j i with
      | false => rfl
      | true => have := Nat.eq_of_beq_eq_true hb; omega
    rw [findPart_cons, this]
    exact findPart_none h3 (by omega)
theorem parts_fold {f : Fr} {ρ : Operand → Value} (hρ : ∀ x v, evalO f x = some v → ρ x = v) (place : Nat → Option (Nat × Nat)) (Z : List Value) :
    ∀ (segs : List (Nat × Nat)) (i m : Nat) (parts : List (Nat × Operand)) (acc : List (List Value)) (k : List (List Value) → Prop) (pre : List Value),
    partsX f parts Z segs i acc k → sorted (i + segs.length) parts i = true → (∀ idx, idx < segs.length → place (i + idx) = segs[idx]?) → layB segs m Z.length = true → pre.length = m →
    ∃ pcs : List (List Value), k (acc ++ pcs) ∧ (parts.map fun q => (q.1, ρ q.2)).foldl (fstep place) (pre ++ Z.drop m) = pre ++ pcs.flatten ∧
      ∀ q ∈ parts, ∃ off size, place q.1 = some (off, size) ∧ (ρ q.2).cells.size = size ∧ off + size ≤ Z.length
  | [], i, m, parts, acc, k, pre, h, hs, hp, hl, hm => by
    have hz : m = Z.length := Nat.eq_of_beq_eq_true hl
    cases parts with
    | nil => exact ⟨[], by simpa [partsX] using h, by simp [hz], by simp⟩
    | cons q r =>
      obtain ⟨h1, h2, _⟩ := sorted_cons (x := q.2) (j := q.1) (r := r) hs
      simp at h2; omega
  | (off, size) :: r, i, m, parts, acc, k, pre, h, hs, hp, hl, hm => by
    simp only [layB, Bool.and_eq_true] at hl
    have ho : off = m := Nat.eq_of_beq_eq_true hl.1
    subst ho
    have hlay := hl.2
    have hmZ : ∀ (s : List (Nat × Nat)) (a : Nat), layB s a Z.length = true → a ≤ Z.length := by
      intro s
      induction s with
      | nil => intro a ha; exact Nat.le_of_eq (Nat.eq_of_beq_eq_true ha)
      | cons x s ih =>
        intro a ha
        obtain ⟨x1, x2⟩ := x
        simp only [layB, Bool.and_eq_true] at ha
        have := ih _ ha.2
        omega
    have hle := hmZ _ _ hlay
    have hp0 : place i = some (off, size) := by simpa using hp 0 (by simp)
    have hp' : ∀ idx, idx < r.length → place (i + 1 + idx) = r[idx]? := fun idx hi => by
      have := hp (idx + 1) (by simp; omega)
      rw [show i + 1 + idx = i + (idx + 1) by omega]
      simpa using this
    have hlen : i + ((off, size) :: r).length = i + 1 + r.length := by simp; omega
    rw [hlen] at hs
    have skip : (∀ q ∈ parts, i < q.1) → findPart f i parts = none → ∃ pcs : List (List Value), k (acc ++ pcs) ∧ (parts.map fun q => (q.1, ρ q.2)).foldl (fstep place) (pre ++ Z.drop off) = pre ++ pcs.flatten ∧
        ∀ q ∈ parts, ∃ off size, place q.1 = some (off, size) ∧ (ρ q.2).cells.size = size ∧ off + size ≤ Z.length := by
      intro hgt hnone
      have hs' : sorted (i + 1 + r.length) parts (i + 1) = true := by
        cases parts with
        | nil => rfl
        | cons q t =>
          obtain ⟨q1, q2⟩ := q
          obtain ⟨a1, a2, a3⟩ := sorted_cons hs
          have := hgt (q1, q2) (by simp)
          simp only [sorted, Bool.and_eq_true]
          exact ⟨⟨Nat.ble_eq_true_of_le this, Nat.ble_eq_true_of_le a2⟩, a3⟩
      simp only [partsX, hnone] at h
      obtain ⟨pcs, h1, h2, h3⟩ := parts_fold hρ place Z r (i + 1) (off + size) parts _ k (pre ++ (Z.drop off).take size) h hs' hp' hlay (by simp; omega)
      refine ⟨(Z.drop off).take size :: pcs, by simpa using h1, ?_, h3⟩
      have e : pre ++ (Z.drop off).take size ++ Z.drop (off + size) = pre ++ Z.drop off := by
        rw [List.append_assoc, ← List.drop_drop, List.take_append_drop]
      rw [e] at h2
      rw [h2]; simp
    cases parts with
    | nil => exact skip (by simp) rfl
    | cons q t =>
      obtain ⟨j, x⟩ := q
      obtain ⟨a1, a2, a3⟩ := sorted_cons hs
      cases hb : Nat.beq j i with
      | false =>
        have hne : j ≠ i := fun e => by subst e; rw [Nat.beq_refl] at hb; cases hb
        refine skip ?_ ?_
        · intro q hq
          rcases List.mem_cons.1 hq with rfl | hq
          · exact Nat.lt_of_le_of_ne a1 (Ne.symm hne)
          · have : ∀ (l : List (Nat × Operand)) (b : Nat), sorted (i + 1 + r.length) l b = true → ∀ q ∈ l, b ≤ q.1 := by
              intro l
              induction l with
              | nil => intro b _ q hq; simp at hq
              | cons y l ih =>
                intro b hb q hq
                obtain ⟨y1, y2⟩ := y
                obtain ⟨b1, b2, b3⟩ := sorted_cons hb
                rcases List.mem_cons.1 hq with rfl | hq
                · exact b1
                · have := ih _ b3 q hq; omega
            have := this t _ a3 q hq
            omega
        · rw [findPart_cons, hb]; exact findPart_none a3 (by omega)
      | true =>
        have he : j = i := Nat.eq_of_beq_eq_true hb
        subst he
        have hfp : findPart f j ((j, x) :: t) = some (evalO f x) := by rw [findPart_cons, hb]; rfl
        -- the rest of the parts lies behind
        have rest : ∀ (v : Value), evalO f x = some v → (cellsL v).length = size → partsX f ((j, x) :: t) Z r (j + 1) (acc ++ [cellsL v]) k → (∃ pcs : List (List Value), k (acc ++ pcs) ∧ (((j, x) :: t).map fun q => (q.1, ρ q.2)).foldl (fstep place) (pre ++ Z.drop off) = pre ++ pcs.flatten ∧
              ∀ q ∈ (j, x) :: t, ∃ off size, place q.1 = some (off, size) ∧ (ρ q.2).cells.size = size ∧ off + size ≤ Z.length) := fun v hv hsz hpx => by
          have hpx' : partsX f t Z r (j + 1) (acc ++ [cellsL v]) k := by
            have drop : ∀ (s : List (Nat × Nat)) (b : Nat) (ac : List (List Value)), j < b → partsX f ((j, x) :: t) Z s b ac k → partsX f t Z s b ac k := by
              intro s
              induction s with
              | nil => intro b ac _ h; exact h
              | cons y s ih =>
                intro b ac hb h
                obtain ⟨y1, y2⟩ := y
                have hf : findPart f b ((j, x) :: t) = findPart f b t := by
                  rw [findPart_cons]
                  have : Nat.beq j b = false := by
                    cases hbb : Nat.beq j b with
                    | false => rfl
                    | true => have := Nat.eq_of_beq_eq_true hbb; omega
                  rw [this]; rfl
                simp only [partsX, hf] at h ⊢
                cases hfb : findPart f b t with
                | none => rw [hfb] at h; exact ih _ _ (by omega) h
                | some o =>
                  rw [hfb] at h
                  cases o with
                  | none => exact h
                  | some v =>
                    simp only [onSome] at h ⊢
                    cases v with
                    | agg a => exact ⟨h.1, ih _ _ (by omega) h.2⟩
                    | tuple a => exact h
                    | _ =>
                      simp only at h ⊢
                      cases hq : Nat.beq y2 1 with
                      | false => rw [hq] at h; exact h
                      | true => rw [hq] at h; exact ih _ _ (by omega) h
            exact drop r (j + 1) _ (by omega) hpx
          obtain ⟨pcs, h1, h2, h3⟩ := parts_fold hρ place Z r (j + 1) (off + size) t _ k (pre ++ cellsL v) hpx' a3 hp' hlay (by simp; omega)
          have hv' := hρ x v hv
          refine ⟨cellsL v :: pcs, by simpa using h1, ?_, ?_⟩
          · have e : fstep place (pre ++ Z.drop off) (j, ρ x) = pre ++ cellsL v ++ Z.drop (off + size) := by
              simp only [fstep, hp0, hv']
              rw [List.take_append_of_le_length (by omega), List.take_of_length_le (by omega), List.drop_append]
              rw [List.drop_of_length_le (by omega)]
              simp [hm, List.drop_drop]
            simp only [List.map_cons, List.foldl_cons, e, h2]
            simp
          · intro q hq
            rcases List.mem_cons.1 hq with rfl | hq
            · exact ⟨off, size, hp0, by rw [hv', ← Array.length_toList, ← cellsL_eq]; exact hsz, hle⟩
            · exact h3 q hq
        simp only [partsX, hfp] at h
        cases hev : evalO f x with
        | none => rw [hev] at h; exact h.elim
        | some v =>
          rw [hev] at h
          simp only [onSome] at h
          cases v with
          | agg a => exact rest (.agg a) hev h.1 h.2
          | tuple a => exact h.elim
          | _ =>
            simp only at h
            cases hq : Nat.beq size 1 with
            | false => rw [hq] at h; exact h.elim
            | true =>
              rw [hq] at h
              have : size = 1 := Nat.eq_of_beq_eq_true hq
              exact rest _ hev (by rw [this]; rfl) h
end Go.Proofs.YtjdcbblgaoogmaaGreatDoor.Wx
namespace Go.Proofs.YtjdcbblgaoogmaaGreatDoor.Wx
open Go
theorem key_is {dc : TypeDesc} {x : MKey} (h : keyFit (descSum dc) x = true) : MapKept.IsKey dc (keyV (descSum dc) x) := by
  cases dc <;> cases x <;> simp_all [keyFit, descSum, keyV, MapKept.IsKey]
theorem mkStr_inj {a b : List UInt8} (h : mkStr a = mkStr b) : a = b := by
  have := congrArg (fun s : ByteArray => s.data.toList) h
  simpa [mkStr] using this
theorem key_same {d : D} {x y : MKey} (hx : keyFit d x = true) (hy : keyFit d y = true) : MKey.same x y = true ↔ keyV d x = keyV d y := by
  cases d <;> cases x <;> cases y <;> simp [keyFit, MKey.same, keyV] at *
  · exact ⟨fun h => by rw [h], mkStr_inj⟩
def mfind : MapC → MKey → Nat → Option (Nat × Value)
  | [], _, _ => none
  | (k, v) :: r, x, i => bif MKey.same x k then some (i, v) else mfind r x (i + 1)
theorem mfind_get : ∀ (m : MapC) (x : MKey) (i : Nat), mget m x = (mfind m x i).map (·.2)
  | [], _, _ => rfl
  | (k, v) :: r, x, i => by
    rw [mget, mfind]
    cases MKey.same x k with
    | true => rfl
    | false => exact mfind_get r x (i + 1)
theorem mput_set : ∀ (m : MapC) (x : MKey) (v : Value) (i : Nat), mput m x v = (match mfind m x i with | some (j, _) => m.set (j - i) (x, v) | none => m ++ [(x, v)]) ∧ ∀ j u, mfind m x i = some (j, u) → i ≤ j
  | [], _, _, _ => ⟨rfl, fun _ _ h => by cases h⟩
  | (k, u) :: r, x, v, i => by
    rw [mput, mfind]
    cases hk : MKey.same x k with
    | true => exact ⟨by simp, fun j u h => by simp at h; omega⟩
    | false =>
      obtain ⟨h1, h2⟩ := mput_set r x v (i + 1)
      rw [cond_false, cond_false, h1]
      cases hf : mfind r x (i + 1) with
      | none => exact ⟨rfl, fun j u h => by cases h⟩
      | some p =>
        obtain ⟨j, u'⟩ := p
        have := h2 j u' hf
        refine ⟨?_, fun j' u h => by cases h; omega⟩
        show (k, u) :: r.set (j - (i + 1)) (x, v) = ((k, u) :: r).set (j - i) (x, v)
        rw [show j - i = (j - (i + 1)) + 1 by omega, List.set_cons_succ]
theorem mdel_erase : ∀ (m : MapC) (x : MKey) (i : Nat), mdel m x = (match mfind m x i with | some (j, _) => m.eraseIdx (j - i) | none => m) ∧ ∀ j u, mfind m x i = some (j, u) → i ≤ j
  | [], _, _ => ⟨rfl, fun _ _ h => by cases h⟩
  | (k, u) :: r, x, i => by
    rw [mdel, mfind]
    cases hk : MKey.same x k with
    | true => exact ⟨by simp, fun j u h => by simp at h; omega⟩
    | false =>
      obtain ⟨h1, h2⟩ := mdel_erase r x (i + 1)
      rw [cond_false, cond_false, h1]
      cases hf : mfind r x (i + 1) with
      | none => exact ⟨rfl, fun j u h => by cases h⟩
      | some p =>
        obtain ⟨j, u'⟩ := p
        have := h2 j u' hf
        refine ⟨?_, fun j' u h => by cases h; omega⟩
        show (k, u) :: r.eraseIdx (j - (i + 1)) = ((k, u) :: r).eraseIdx (j - i)
        rw [show j - i = (j - (i + 1)) + 1 by omega, List.eraseIdx_cons_succ]
theorem map_erase {α β : Type} (f : α → β) : ∀ (l : List α) (i : Nat), (l.eraseIdx i).map f = (l.map f).eraseIdx i
  | [], _ => rfl
  | _ :: _, 0 => rfl
  | a :: l, i + 1 => by simp [List.eraseIdx_cons_succ, map_erase f l i]
theorem findNow_m {dc : TypeDesc} {x : MKey} (hx : keyFit (descSum dc) x = true) : ∀ (es : List MapEntry) (m : MapC) (i : Nat), es.map (fun e => (e.key, e.val)) = m.map (fun p => (keyV (descSum dc) p.1, p.2)) → (∀ p ∈ m, keyFit (descSum dc) p.1 = true) →
    Instr.findNow dc (keyV (descSum dc) x) es i = some (mfind m x i)
  | [], [], _, _, _ => rfl
  | [], _ :: _, _, h, _ => by simp at h
  | _ :: _, [], _, h, _ => by simp at h
  | e :: es, (k, v) :: m, i, h, hm => by
    simp only [List.map_cons, List.cons.injEq, Prod.mk.injEq] at h
    obtain ⟨⟨h1, h2⟩, h3⟩ := h
    have hk : keyFit (descSum dc) k = true := hm (k, v) List.mem_cons_self
    obtain ⟨r, hr, hiff⟩ := MapKept.sameNow_of_keys (key_is hx) (key_is hk)
    have hs := key_same hx hk
    rw [Instr.findNow, h1, hr, mfind]
    cases r with
    | true =>
      have : MKey.same x k = true := hs.mpr (hiff.mp rfl)
      rw [this, h2]; rfl
    | false =>
      have : MKey.same x k = false := by
        cases hq : MKey.same x k with
        | false => rfl
        | true => exact absurd (hiff.mpr (hs.mp hq)) Bool.false_ne_true
      rw [this]
      exact findNow_m hx es m (i + 1) h3 fun p hp => hm p (List.mem_cons_of_mem _ hp)
section
variable {P : Program} {t kt et r : Nat} {dc : TypeDesc} {m : MapC} {x : MKey} {w : World}
theorem setObj_mapTo {es : Array MapEntry} {clock : Nat} {es' : Array MapEntry} {clock' : Nat} {m' : MapC} (hb : w.heap[r]? = some (.map es clock)) (h1 : es'.toList.map (fun e => (e.key, e.val)) = m'.map (fun p => (keyV (descSum dc) p.1, p.2))) (h2 : ∀ p ∈ m', keyFit (descSum dc) p.1 = true) (h3 : MapKept.Stamped es' clock') :
    MapTo (descSum dc) w.heap r m' (w.heap.setIfInBounds r (.map es' clock')) :=
  ⟨by simp, fun b hb' => (MapKept.heap_set hb).2 b hb', _, _, (MapKept.heap_set hb).1, h1, h2, h3⟩
theorem mapUpdate_to {v : Value} (hm : P.underlying t = some (.map kt et)) (hd : P.underlying kt = some dc) (hA : MapAt (descSum dc) w.heap r m) (hx : keyFit (descSum dc) x = true) :
    ∃ h', MapTo (descSum dc) w.heap r (mput m x v) h' ∧ (Instr.mapUpdate t (.map (some r)) (keyV (descSum dc) x) v).run P w = .ok () { w with heap := h' } := by
  obtain ⟨es, clock, hb, he, hf, hst⟩ := hA
  have hk := key_is hx
  have h1 := findNow_m hx es.toList m 0 he hf
  obtain ⟨hp, _⟩ := mput_set m x v 0
  have hks : ∀ e ∈ es.toList, MapKept.IsKey dc e.key := fun e hee => by
    have : (e.key, e.val) ∈ es.toList.map (fun e => (e.key, e.val)) := List.mem_map.mpr ⟨e, hee, rfl⟩
    rw [he] at this
    obtain ⟨p, hp, e1⟩ := List.mem_map.mp this
    have e1 : keyV (descSum dc) p.1 = e.key := congrArg Prod.fst e1
    rw [← e1]; exact key_is (hf p hp)
  cases hfi : mfind m x 0 with
  | none =>
    rw [hfi] at h1 hp
    have hne : ∀ x_1 ∈ es.toList, x_1.key ≠ keyV (descSum dc) x := by
      rcases MapKept.findNow_spec hk es.toList 0 hks with ⟨_, g1⟩ | ⟨j', e, g1, g2, g3⟩
      · exact g1
      · rw [h1] at g1; cases g1
    refine ⟨_, setObj_mapTo hb (es' := es.push { key := keyV (descSum dc) x, val := v, born := clock }) (clock' := clock + 1) (by rw [hp, List.map_append, Array.toList_push, List.map_append, he]; rfl) ?_ (MapKept.stamped_push hst hne), ?_⟩
    · intro p hp'
      rw [hp] at hp'
      rcases List.mem_append.mp hp' with h | h
      · exact hf p h
      · rw [List.mem_singleton.mp h]; exact hx
    · simp [Instr.mapUpdate, run_underlying hm, MapKept.run_getObj_map hb, MapKept.run_checkKey hd hk, MapKept.run_findKey hd h1, MapKept.run_setObj_map _ hb, Result.andThen]
  | some q =>
    obtain ⟨j, u⟩ := q
    rw [hfi] at h1 hp
    have hp : mput m x v = m.set j (x, v) := hp
    rcases MapKept.findNow_spec hk es.toList 0 hks with ⟨g1, _⟩ | ⟨j', e, g1, g2, g3⟩
    · rw [h1] at g1; cases g1
    · rw [h1] at g1
      have ej : j = j' := by simp at g1; omega
      subst ej
      have hj : es[j]? = some e := by simpa using g2
      refine ⟨_, setObj_mapTo hb (es' := es.modify j fun e => { e with key := keyV (descSum dc) x, val := v }) (clock' := clock) ?_ ?_ (MapKept.stamped_modify hst j _ (fun _ _ => rfl) fun e' _ h' => by rw [hj] at h'; cases h'; exact g3.symm), ?_⟩
      · rw [hp]
        apply List.ext_getElem?
        intro i
        have hi : (es.toList.map (fun e => (e.key, e.val)))[i]? = (m.map (fun p => (keyV (descSum dc) p.1, p.2)))[i]? := by rw [he]
        rw [List.getElem?_map, List.getElem?_map, Array.getElem?_toList] at hi
        simp only [List.getElem?_map, Array.getElem?_toList, Array.getElem?_modify, List.getElem?_set]
        by_cases hij : j = i
        · subst hij
          have hl : j < m.length := by
            rcases Nat.lt_or_ge j m.length with h | h
            · exact h
            · rw [hj, List.getElem?_eq_none h] at hi; simp at hi
          simp [hj, hl]
        · simp [hij, hi]
      · intro p hp'
        rw [hp] at hp'
        rcases List.mem_or_eq_of_mem_set hp' with h | h
        · exact hf p h
        · rw [h]; exact hx
      · simp [Instr.mapUpdate, run_underlying hm, MapKept.run_getObj_map hb, MapKept.run_checkKey hd hk, MapKept.run_findKey hd h1, hj, g3, MapKept.run_keyThatStays hk, MapKept.run_setObj_map _ hb, Result.andThen]
theorem erase_filter : ∀ (l : List MapEntry) (j : Nat) (e : MapEntry), l[j]? = some e → (l.map (·.key)).Nodup → l.eraseIdx j = l.filter fun a => @decide (a.key ≠ e.key) (Classical.propDecidable _)
  | [], _, _, h, _ => by simp at h
  | a :: l, 0, e, h, nd => by
    have h : a = e := by simpa using h
    subst h
    rw [List.map_cons, List.nodup_cons] at nd
    rw [List.eraseIdx_zero, List.tail_cons, List.filter_cons, if_neg (by simp)]
    refine (List.filter_eq_self.mpr fun b hb => ?_).symm
    exact @decide_eq_true _ (Classical.propDecidable _) fun y => nd.1 (y ▸ List.mem_map.mpr ⟨b, hb, rfl⟩)
  | a :: l, j + 1, e, h, nd => by
    have h : l[j]? = some e := by simpa using h
    rw [List.map_cons, List.nodup_cons] at nd
    have hm : e ∈ l := List.mem_of_getElem? h
    have ha : a.key ≠ e.key := fun y => nd.1 (by rw [y]; exact List.mem_map.mpr ⟨e, hm, rfl⟩)
    rw [List.eraseIdx_cons_succ, erase_filter l j e h nd.2, List.filter_cons, if_pos (@decide_eq_true _ (Classical.propDecidable _) ha)]
theorem delete_to {ty : TypeId} (hm : P.underlying t = some (.map kt et)) (hd : P.underlying kt = some dc) (hA : MapAt (descSum dc) w.heap r m) (hx : keyFit (descSum dc) x = true) (ts : List TypeId) :
    ∃ h', MapDl (descSum dc) w.heap r x (mdel m x) h' ∧ (Builtin.delete_ ⟨t :: ts⟩ ty #[.map (some r), keyV (descSum dc) x]).run P w = .ok (.tuple #[]) { w with heap := h' } := by
  obtain ⟨es, clock, hb, he, hf, hst⟩ := hA
  have hk := key_is hx
  have h1 := findNow_m hx es.toList m 0 he hf
  obtain ⟨hp, _⟩ := mdel_erase m x 0
  have hks : ∀ e ∈ es.toList, MapKept.IsKey dc e.key := fun e hee => by
    have : (e.key, e.val) ∈ es.toList.map (fun e => (e.key, e.val)) := List.mem_map.mpr ⟨e, hee, rfl⟩
    rw [he] at this
    obtain ⟨p, hp, e1⟩ := List.mem_map.mp this
    have e1 : keyV (descSum dc) p.1 = e.key := congrArg Prod.fst e1
    rw [← e1]; exact key_is (hf p hp)
  have hset : ∀ o : Obj, (w.heap.setIfInBounds r o)[r]? = some o := fun o => (MapKept.heap_set hb).1
  cases hfi : mfind m x 0 with
  | none =>
    rw [hfi] at h1 hp
    refine ⟨_, ⟨setObj_mapTo hb (es' := es) (clock' := clock) (by rw [hp]; exact he) (by rw [hp]; exact hf) hst, fun es0 ck0 h0 => ?_⟩, ?_⟩
    · rw [hb] at h0; cases h0
      refine ⟨_, hset _, (List.filter_eq_self.mpr fun b hb' => ?_).symm⟩
      rcases MapKept.findNow_spec hk es.toList 0 hks with ⟨_, g1⟩ | ⟨j', e, g1, _, _⟩
      · exact @decide_eq_true _ (Classical.propDecidable _) (g1 b hb')
      · rw [h1] at g1; cases g1
    simp [Builtin.delete_, run_underlying hm, MapKept.run_getObj_map hb, MapKept.run_checkKey hd hk, MapKept.run_findKey hd h1, MapKept.run_setObj_map _ hb, Result.andThen]
  | some q =>
    obtain ⟨j, u⟩ := q
    rw [hfi] at h1 hp
    have hp : mdel m x = m.eraseIdx j := hp
    have el : (es.eraseIdxIfInBounds j).toList = es.toList.eraseIdx j := by
      unfold Array.eraseIdxIfInBounds
      split
      · simp
      · rw [List.eraseIdx_of_length_le (by simp; omega)]
    refine ⟨_, ⟨setObj_mapTo hb (es' := es.eraseIdxIfInBounds j) (clock' := clock) ?_ ?_ (MapKept.stamped_erase hst j), fun es0 ck0 h0 => ?_⟩, ?_⟩
    rotate_left
    rotate_left
    · rw [hb] at h0; cases h0
      refine ⟨_, hset _, ?_⟩
      rcases MapKept.findNow_spec hk es.toList 0 hks with ⟨g1, _⟩ | ⟨j', e, g1, g2, g3⟩
      · rw [h1] at g1; cases g1
      · rw [h1] at g1
        have ej : j = j' := by simp at g1; omega
        subst ej
        rw [el, erase_filter es.toList j e (by simpa using g2) hst.2.2, g3]
    rotate_left
    · rw [hp, map_erase, ← he, ← map_erase, el]
    · intro p hp'
      rw [hp] at hp'
      exact hf p ((List.eraseIdx_sublist _ _).subset hp')
    · simp [Builtin.delete_, run_underlying hm, MapKept.run_getObj_map hb, MapKept.run_checkKey hd hk, MapKept.run_findKey hd h1, MapKept.run_setObj_map _ hb, Result.andThen]
theorem born_eq : ∀ {l : List MapEntry}, (l.map (·.born)).Nodup → ∀ {x y : MapEntry}, x ∈ l → y ∈ l → x.born = y.born → x = y
  | [], _, _, _, hx, _, _ => by cases hx
  | a :: r, hn, x, y, hx, hy, e => by
    rw [List.map_cons, List.nodup_cons] at hn
    have no : ∀ z, z ∈ r → z.born ≠ a.born := fun z hz e => hn.1 (List.mem_map.mpr ⟨z, hz, e⟩)
    rcases List.mem_cons.mp hx with h1 | h1
    · rcases List.mem_cons.mp hy with h2 | h2
      · rw [h1, h2]
      · exact absurd (by rw [← e, h1]) (no y h2)
    · rcases List.mem_cons.mp hy with h2 | h2
      · exact absurd (by rw [e, h2]) (no x h1)
      · exact born_eq hn.2 h1 h2 e
theorem keys_int {m : MapI} {x : MKey} {es : List MapEntry} (hx : keyFit (descSum (.int .i64)) x = true) (he : es.map (fun e => (e.key, e.val)) = (mI m).map (fun p => (keyV (descSum (.int .i64)) p.1, p.2))) : (∀ e ∈ es, MapKept.IsKey (.int .i64) e.key) ∧ ∀ (j : Nat) (e : MapEntry), es[j]? = some e → ∃ z : Int, e.val = .int .i64 z := by
  constructor
  · intro e hee
    have : (e.key, e.val) ∈ es.map (fun e => (e.key, e.val)) := List.mem_map.mpr ⟨e, hee, rfl⟩
    rw [he] at this
    obtain ⟨p, hp, e1⟩ := List.mem_map.mp this
    obtain ⟨q, _, rfl⟩ := List.mem_map.mp hp
    have e1 : keyV (descSum (.int .i64)) (.i q.1) = e.key := congrArg Prod.fst e1
    rw [← e1]; exact key_is rfl
  · intro j e hj
    have hi : (es.map (fun e => (e.key, e.val)))[j]? = ((mI m).map (fun p => (keyV (descSum (.int .i64)) p.1, p.2)))[j]? := by rw [he]
    rw [List.getElem?_map, hj, mI, List.map_map, List.getElem?_map] at hi
    cases hm : m[j]? with
    | none => rw [hm] at hi; cases hi
    | some p =>
      rw [hm] at hi
      have := (Option.some.inj hi)
      exact ⟨p.2, congrArg Prod.snd this⟩
theorem mapEntry_to {m : MapI} (hm : P.underlying t = some (.map kt et)) (hd : P.underlying kt = some (.int .i64)) (hz : (zeroValue et).run P w = .ok (.int .i64 0) w) (hA : MapAt (.int .i64) w.heap r (mI m)) (hx : keyFit (.int .i64) x = true) :
    ∃ (z s : Int) (h' : Heap), EntTo w.heap r m x z s h' ∧ (Instr.mapEntry t (.map (some r)) (keyV (.int .i64) x)).run P w = .ok (.tuple #[.int .i64 z, .int .i64 s]) { w with heap := h' } := by
  have hA : MapAt (descSum (.int .i64)) w.heap r (mI m) := hA
  have hx : keyFit (descSum (.int .i64)) x = true := hx
  obtain ⟨es, clock, hb, he, hf, hst⟩ := hA
  have hk := key_is hx
  have h1 := findNow_m hx es.toList (mI m) 0 he hf
  obtain ⟨hks, hvs⟩ := keys_int hx he
  have hset : ∀ o : Obj, (w.heap.setIfInBounds r o)[r]? = some o := fun o => (MapKept.heap_set hb).1
  show ∃ (z s : Int) (h' : Heap), EntTo w.heap r m x z s h' ∧ (Instr.mapEntry t (.map (some r)) (keyV (descSum (.int .i64)) x)).run P w = _
  cases hfi : mfind (mI m) x 0 with
  | none =>
    obtain ⟨hp, _⟩ := mput_set (mI m) x (.int .i64 0) 0
    rw [hfi] at h1 hp
    have hne : ∀ y ∈ es.toList, y.key ≠ keyV (descSum (.int .i64)) x := by
      rcases MapKept.findNow_spec hk es.toList 0 hks with ⟨_, g1⟩ | ⟨j', e, g1, g2, g3⟩
      · exact g1
      · rw [h1] at g1; cases g1
    refine ⟨0, clock, _, ⟨setObj_mapTo (dc := .int .i64) (m' := mput (mI m) x (.int .i64 0)) hb (es' := es.push { key := keyV (descSum (.int .i64)) x, val := .int .i64 0, born := clock }) (clock' := clock + 1) (by rw [hp, List.map_append, Array.toList_push, List.map_append, he]; rfl) ?_ (MapKept.stamped_push hst hne), ⟨_, _, _, hset _, by rw [Array.toList_push]; exact List.mem_append_right _ (List.mem_singleton.mpr rfl), rfl, rfl⟩⟩, ?_⟩
    · intro p hp'
      rw [hp] at hp'
      rcases List.mem_append.mp hp' with h | h
      · exact hf p h
      · rw [List.mem_singleton.mp h]; exact hx
    · simp [Instr.mapEntry, run_underlying hm, MapKept.run_getObj_map hb, MapKept.run_checkKey hd hk, MapKept.run_findKey hd h1, hz, MapKept.run_setObj_map _ hb, Result.andThen, goInt]
  | some q =>
    obtain ⟨j, u⟩ := q
    rw [hfi] at h1
    rcases MapKept.findNow_spec hk es.toList 0 hks with ⟨g1, _⟩ | ⟨j', e, g1, g2, g3⟩
    · rw [h1] at g1; cases g1
    · rw [h1] at g1
      have ej : j = j' := by simp at g1; omega
      have eu : u = e.val := by simp at g1; exact g1.2
      subst ej
      have hj : es[j]? = some e := by simpa using g2
      obtain ⟨z, hz'⟩ := hvs j e g2
      obtain ⟨hp, _⟩ := mput_set (mI m) x (.int .i64 z) 0
      rw [hfi] at hp
      have hp : mput (mI m) x (.int .i64 z) = (mI m).set j (x, .int .i64 z) := hp
      refine ⟨z, e.born, _, ⟨setObj_mapTo (dc := .int .i64) (m' := mput (mI m) x (.int .i64 z)) hb (es' := es.modify j fun e => { e with key := keyV (descSum (.int .i64)) x }) (clock' := clock) ?_ ?_ (MapKept.stamped_modify hst j _ (fun _ _ => rfl) fun e' _ h' => by rw [hj] at h'; cases h'; exact g3.symm), ⟨_, _, { e with key := keyV (descSum (.int .i64)) x }, hset _, ?_, rfl, rfl⟩⟩, ?_⟩
      · rw [hp]
        apply List.ext_getElem?
        intro i
        have hi : (es.toList.map (fun e => (e.key, e.val)))[i]? = ((mI m).map (fun p => (keyV (descSum (.int .i64)) p.1, p.2)))[i]? := by rw [he]
        rw [List.getElem?_map, List.getElem?_map, Array.getElem?_toList] at hi
        simp only [List.getElem?_map, Array.getElem?_toList, Array.getElem?_modify, List.getElem?_set]
        by_cases hij : j = i
        · subst hij
          have hl : j < (mI m).length := by
            rcases Nat.lt_or_ge j (mI m).length with h | h
            · exact h
            · rw [hj, List.getElem?_eq_none h] at hi; simp at hi
          simp [hj, hl, hz']
        · simp [hij, hi]
      · intro p hp'
        rw [hp] at hp'
        rcases List.mem_or_eq_of_mem_set hp' with h | h
        · exact hf p h
        · rw [h]; exact hx
      · refine List.mem_of_getElem? (i := j) ?_
        simp [hj]
      · simp [Instr.mapEntry, run_underlying hm, MapKept.run_getObj_map hb, MapKept.run_checkKey hd hk, MapKept.run_findKey hd h1, hj, g3, MapKept.run_keyThatStays hk, MapKept.run_setObj_map _ hb, Result.andThen, eu, hz', goInt]
theorem entryStore_to {m : MapI} {s z : Int} (hA : MapAt (.int .i64) w.heap r (mI m)) (hS : StAt w.heap r x s) (hx : keyFit (.int .i64) x = true) :
    ∃ h', MapTo (.int .i64) w.heap r (mput (mI m) x (.int .i64 z)) h' ∧ (Instr.entryStore t (.map (some r)) (.int .i64 s) (.int .i64 z)).run P w = .ok () { w with heap := h' } := by
  have hA : MapAt (descSum (.int .i64)) w.heap r (mI m) := hA
  have hx : keyFit (descSum (.int .i64)) x = true := hx
  obtain ⟨es, clock, hb, he, hf, hst⟩ := hA
  obtain ⟨es2, ck2, e, hb2, hmem, hborn, hkey⟩ := hS
  rw [hb] at hb2
  cases hb2
  have hk := key_is hx
  have h1 := findNow_m hx es.toList (mI m) 0 he hf
  obtain ⟨hks, _⟩ := keys_int hx he
  obtain ⟨hp, _⟩ := mput_set (mI m) x (.int .i64 z) 0
  cases hfi : mfind (mI m) x 0 with
  | none =>
    rw [hfi] at h1
    rcases MapKept.findNow_spec hk es.toList 0 hks with ⟨_, g1⟩ | ⟨j', e, g1, g2, g3⟩
    · exact absurd hkey (g1 e hmem)
    · rw [h1] at g1; cases g1
  | some q =>
    obtain ⟨j, u⟩ := q
    rw [hfi] at h1 hp
    have hp : mput (mI m) x (.int .i64 z) = (mI m).set j (x, .int .i64 z) := hp
    rcases MapKept.findNow_spec hk es.toList 0 hks with ⟨g1, _⟩ | ⟨j', e', g1, g2, g3⟩
    · rw [h1] at g1; cases g1
    · rw [h1] at g1
      have ej : j = j' := by simp at g1; omega
      subst ej
      have hj : es[j]? = some e' := by simpa using g2
      have hjl : j < es.size := by
        rcases Nat.lt_or_ge j es.size with h | h
        · exact h
        · rw [Array.getElem?_eq_none h] at hj; cases hj
      have hje : es[j] = e' := by rw [Array.getElem?_eq_getElem hjl] at hj; exact Option.some.inj hj
      have key_eq : ∀ {l : List MapEntry}, (l.map (·.key)).Nodup → ∀ {x y : MapEntry}, x ∈ l → y ∈ l → x.key = y.key → x = y := by
        intro l hn x y hx hy e
        induction l with
        | nil => cases hx
        | cons a r ih =>
          rw [List.map_cons, List.nodup_cons] at hn
          have no : ∀ z, z ∈ r → z.key ≠ a.key := fun z hz e => hn.1 (List.mem_map.mpr ⟨z, hz, e⟩)
          rcases List.mem_cons.mp hx with h1 | h1
          · rcases List.mem_cons.mp hy with h2 | h2
            · rw [h1, h2]
            · exact absurd (by rw [← e, h1]) (no y h2)
          · rcases List.mem_cons.mp hy with h2 | h2
            · exact absurd (by rw [e, h2]) (no x h1)
            · exact ih hn.2 h1 h2
      have hee : e = e' := key_eq hst.2.2 hmem (List.mem_of_getElem? g2) (hkey.trans g3.symm)
      subst hee
      have hfind : es.findIdx? (fun a => (a.born : Int) == s) = some j := by
        rw [Array.findIdx?_eq_some_iff_getElem]
        refine ⟨hjl, by rw [hje]; simpa using hborn, fun i hij => ?_⟩
        have hil : i < es.size := by omega
        intro hc
        have hc : (es[i].born : Int) = s := by simpa using hc
        have : es[i] = es[j] := born_eq hst.2.1 (by simp) (by simp) (by rw [hje]; omega)
        have nd : (es.toList.map (·.born)).Nodup := hst.2.1
        have h2 := (List.getElem_inj (xs := es.toList.map (·.born)) (i := i) (j := j) (h₀ := by simp; omega) (h₁ := by simp; omega) nd).mp (by simp [this])
        omega
      refine ⟨_, setObj_mapTo (dc := .int .i64) (m' := mput (mI m) x (.int .i64 z)) hb (es' := es.modify j fun e => { e with val := .int .i64 z }) (clock' := clock) ?_ ?_ (MapKept.stamped_modify hst j _ (fun _ _ => rfl) fun e' _ h' => rfl), ?_⟩
      · rw [hp]
        apply List.ext_getElem?
        intro i
        have hi : (es.toList.map (fun e => (e.key, e.val)))[i]? = ((mI m).map (fun p => (keyV (descSum (.int .i64)) p.1, p.2)))[i]? := by rw [he]
        rw [List.getElem?_map, List.getElem?_map, Array.getElem?_toList] at hi
        simp only [List.getElem?_map, Array.getElem?_toList, Array.getElem?_modify, List.getElem?_set]
        by_cases hij : j = i
        · subst hij
          have hl : j < (mI m).length := by
            rcases Nat.lt_or_ge j (mI m).length with h | h
            · exact h
            · rw [hj, List.getElem?_eq_none h] at hi; simp at hi
          simp [hj, hl, g3]
        · simp [hij, hi]
      · intro p hp'
        rw [hp] at hp'
        rcases List.mem_or_eq_of_mem_set hp' with h | h
        · exact hf p h
        · rw [h]; exact hx
      · simp [Instr.entryStore, MapKept.run_getObj_map hb, asInt, asIntOf, hfind, MapKept.run_setObj_map _ hb, Result.andThen]
theorem lookup_to {q : Option Nat} {z : Value} {ok : Bool} (hm : P.underlying t = some (.map kt et)) (hd : P.underlying kt = some dc) (hz : (zeroValue et).run P w = .ok z w) (hA : match q with | none => m = [] | some r => MapAt (descSum dc) w.heap r m) (hx : keyFit (descSum dc) x = true) :
    (Instr.lookup t (.map q) (keyV (descSum dc) x) ok).run P w = .ok (bif ok then .tuple #[(mget m x).getD z, .bool (mget m x).isSome] else (mget m x).getD z) w := by
  have hk := key_is hx
  cases q with
  | none =>
    have hA : m = [] := hA
    subst hA
    have h1 := findNow_m hx [] [] 0 rfl (fun _ h => by cases h)
    cases ok <;> simp [Instr.lookup, run_underlying hm, MapKept.run_checkKey hd hk, MapKept.run_findKey hd h1, mfind, hz, mget, Result.andThen]
  | some r =>
    obtain ⟨es, clock, hb, he, hf, hst⟩ := hA
    have h1 := findNow_m hx es.toList m 0 he hf
    rw [mfind_get m x 0]
    cases hfi : mfind m x 0 with
    | none =>
      rw [hfi] at h1
      cases ok <;> simp [Instr.lookup, run_underlying hm, MapKept.run_getObj_map hb, MapKept.run_checkKey hd hk, MapKept.run_findKey hd h1, hz, Result.andThen]
    | some p =>
      rw [hfi] at h1
      cases ok <;> simp [Instr.lookup, run_underlying hm, MapKept.run_getObj_map hb, MapKept.run_checkKey hd hk, MapKept.run_findKey hd h1, Result.andThen]
theorem maplen_to {q : Option Nat} {ty : TypeId} (hm : P.underlying t = some (.map kt et)) (hA : match q with | none => m = [] | some r => MapAt (descSum dc) w.heap r m) :
    (Builtin.len_ #[t] ty #[.map q]).run P w = .ok (.int .i64 (m.length : Int)) w := by
  cases q with
  | none =>
    have hA : m = [] := hA
    subst hA
    simp [Builtin.len_, run_underlying hm, goInt]
  | some r =>
    obtain ⟨es, clock, hb, he, hf, hst⟩ := hA
    have hl := congrArg List.length he
    simp only [List.length_map] at hl
    have : es.size = m.length := by rw [← hl]; simp
    simp [Builtin.len_, run_underlying hm, MapKept.run_getObj_map hb, goInt, this]
end
theorem keyX_elim {d : D} {v : Value} {k : MKey → Prop} (h : keyX d v k) : ∃ x, keyFit d x = true ∧ v = keyV d x ∧ k x ∧ d ≠ .other := by
  cases d <;> cases v <;> try exact h.elim
  · rename_i kd kd' n
    simp only [keyX] at h
    cases hk : kindEq kd kd' with
    | false => rw [hk] at h; exact h.elim
    | true =>
      rw [hk] at h
      obtain rfl := kindEq_eq hk
      exact ⟨.i n, rfl, rfl, h, by intro e; cases e⟩
  · rename_i s
    refine ⟨.s s.toList, rfl, ?_, h, by intro e; cases e⟩
    show Value.string s = .string (mkStr s.toList)
    congr 1
    obtain ⟨⟨l⟩⟩ := s
    simp [mkStr]
theorem pairsOk_app : ∀ (ks : List D) (ls : List D) (xs ys : List Value), pairsOk (ks ++ ls) xs ys = true → pairsOk ks (xs.take ks.length) (ys.take ks.length) = true ∧ pairsOk ls (xs.drop ks.length) (ys.drop ks.length) = true ∧
    cellsEq xs ys = (cellsEq (xs.take ks.length) (ys.take ks.length) && cellsEq (xs.drop ks.length) (ys.drop ks.length))
  | [], ls, xs, ys, h => ⟨rfl, h, by simp [cellsEq]⟩
  | k :: ks, ls, xs, ys, h => by
    cases xs with
    | nil => cases k <;> simp [pairsOk] at h
    | cons x xs =>
      cases ys with
      | nil => cases k <;> cases x <;> simp [pairsOk] at h
      | cons y ys =>
        cases k <;> cases x <;> cases y <;> simp [pairsOk] at h
        · obtain ⟨h1, h2, h3⟩ := pairsOk_app ks ls xs ys h
          exact ⟨by simpa [pairsOk] using h1, by simpa using h2, by simp [cellsEq, h3, Bool.and_assoc]⟩
        · obtain ⟨h1, h2, h3⟩ := pairsOk_app ks ls xs ys h.2
          exact ⟨by simp [pairsOk, h.1.1, h.1.2, h1], by simpa using h2, by simp [cellsEq, h3, Bool.and_assoc]⟩
        · obtain ⟨h1, h2, h3⟩ := pairsOk_app ks ls xs ys h
          exact ⟨by simpa [pairsOk] using h1, by simpa using h2, by simp [cellsEq, h3, Bool.and_assoc]⟩
theorem pairsOk_len : ∀ (ks : List D) (xs ys : List Value), pairsOk ks xs ys = true → xs.length = ks.length ∧ ys.length = ks.length
  | [], xs, ys, h => by cases xs <;> cases ys <;> simp [pairsOk] at *
  | k :: ks, xs, ys, h => by
    cases xs with
    | nil => cases k <;> simp [pairsOk] at h
    | cons x xs =>
      cases ys with
      | nil => cases k <;> cases x <;> simp [pairsOk] at h
      | cons y ys =>
        have : pairsOk ks xs ys = true := by cases k <;> cases x <;> cases y <;> simp [pairsOk] at h <;> first | exact h | exact h.2
        have := pairsOk_len ks xs ys this
        simp; omega
theorem forIn_early {α β : Type} {P : Program} (body : α → β → Sem (ForInStep β)) (b0 bF : β) (p : α → Bool) (w : World) : ∀ l : List α, (∀ a ∈ l, (body a b0).run P w = .ok (if p a then .yield b0 else .done bF) w) →
    (forIn l b0 body).run P w = .ok (if l.all p then b0 else bF) w
  | [], _ => by simp [Sem.run_pure]
  | a :: l, h => by
    have h1 := h a List.mem_cons_self
    rw [List.forIn_cons, Sem.run_bind, h1]
    cases hp : p a with
    | true =>
      simp only [if_true, Result.andThen_ok]
      rw [forIn_early body b0 bF p w l fun x hx => h x (List.mem_cons_of_mem _ hx)]
      simp [hp]
    | false => simp [hp, Sem.run_pure]
/-- what is known of a flat type, at a fuel -/
def FlatLaw (P : Program) (n t : Nat) (ks : List D) : Prop :=
  ∀ (X Y : Array Value) (o o' : Nat), pairsOk ks ((X.toList.drop o).take ks.length) ((Y.toList.drop o').take ks.length) = true →
    ∃ x y, (∀ w, (part t X o).run P w = .ok x w) ∧ (∀ w, (part t Y o').run P w = .ok y w) ∧ ∀ w, (Op.equalIn n t x y).run P w = .ok (cellsEq ((X.toList.drop o).take ks.length) ((Y.toList.drop o').take ks.length)) w
theorem flatFs_all {P : Program} {n : Nat} {g : Nat → Option (List D)} (hg : ∀ u ks, g u = some ks → FlatLaw P n u ks) (X Y : Array Value) : ∀ (fs : List Field) (off : Nat) (ks : List D), flatFs g fs off = some ks →
    pairsOk ks ((X.toList.drop off).take ks.length) ((Y.toList.drop off).take ks.length) = true →
    (∀ fd ∈ fs, fd.name ≠ "_" ∧ ∃ x y, (∀ w, (part fd.type X fd.offset).run P w = .ok x w) ∧ (∀ w, (part fd.type Y fd.offset).run P w = .ok y w) ∧
      ∀ w, (Op.equalIn n fd.type x y).run P w = .ok (cellsEq ((X.toList.drop fd.offset).take ((g fd.type).getD []).length) ((Y.toList.drop fd.offset).take ((g fd.type).getD []).length)) w) ∧
    (fs.all fun fd => cellsEq ((X.toList.drop fd.offset).take ((g fd.type).getD []).length) ((Y.toList.drop fd.offset).take ((g fd.type).getD []).length)) = cellsEq ((X.toList.drop off).take ks.length) ((Y.toList.drop off).take ks.length)
  | [], off, ks, h, _ => by
    simp only [flatFs, Option.some.injEq] at h
    subst h
    exact ⟨fun fd hfd => absurd hfd List.not_mem_nil, rfl⟩
  | fd :: fs, off, ks, h, hp => by
    rw [flatFs] at h
    cases hn : (fd.name == "_") with
    | true => rw [hn] at h; cases h
    | false =>
    rw [hn, cond_false] at h
    cases ho : Nat.beq fd.offset off with
    | false => rw [ho] at h; cases h
    | true =>
    rw [ho, cond_true] at h
    have ho := Nat.eq_of_beq_eq_true ho
    cases hk : g fd.type with
    | none => rw [hk] at h; cases h
    | some k1 =>
    rw [hk] at h
    have h : (flatFs g fs (off + k1.length)).map (k1 ++ ·) = some ks := h
    cases hr : flatFs g fs (off + k1.length) with
    | none => rw [hr] at h; cases h
    | some k2 =>
    rw [hr] at h
    have h : k1 ++ k2 = ks := Option.some.inj h
    subst h
    obtain ⟨p1, p2, p3⟩ := pairsOk_app k1 k2 _ _ hp
    have hl : k1.length + k2.length = (k1 ++ k2).length := by rw [List.length_append]
    have t1 : ∀ l : List Value, (((l.drop off).take (k1 ++ k2).length).take k1.length) = (l.drop off).take k1.length := fun l => by rw [List.take_take]; congr 1; omega
    have t2 : ∀ l : List Value, (((l.drop off).take (k1 ++ k2).length).drop k1.length) = (l.drop (off + k1.length)).take k2.length := fun l => by rw [List.drop_take, List.drop_drop]; congr 1; omega
    rw [t1, t1] at p1 p3
    rw [t2, t2] at p2 p3
    obtain ⟨q1, q2⟩ := flatFs_all hg X Y fs (off + k1.length) k2 hr p2
    refine ⟨fun x hx => ?_, ?_⟩
    · rcases List.mem_cons.mp hx with rfl | hx
      · refine ⟨beq_eq_false_iff_ne.mp hn, ?_⟩
        have := hg _ _ hk X Y x.offset x.offset (by rw [ho]; exact p1)
        rw [hk]
        exact this
      · exact q1 x hx
    · rw [List.all_cons, q2, p3, hk, ho]; rfl
theorem replicate_all {P : Program} {n e : Nat} {ks : List D} (hg : FlatLaw P n e ks) (X Y : Array Value) : ∀ (len i : Nat),
    pairsOk (List.replicate len ks).flatten ((X.toList.drop (i * ks.length)).take (len * ks.length)) ((Y.toList.drop (i * ks.length)).take (len * ks.length)) = true →
    (∀ j ∈ List.range' i len, ∃ x y, (∀ w, (part e X (j * ks.length)).run P w = .ok x w) ∧ (∀ w, (part e Y (j * ks.length)).run P w = .ok y w) ∧
      ∀ w, (Op.equalIn n e x y).run P w = .ok (cellsEq ((X.toList.drop (j * ks.length)).take ks.length) ((Y.toList.drop (j * ks.length)).take ks.length)) w) ∧
    ((List.range' i len).all fun j => cellsEq ((X.toList.drop (j * ks.length)).take ks.length) ((Y.toList.drop (j * ks.length)).take ks.length)) = cellsEq ((X.toList.drop (i * ks.length)).take (len * ks.length)) ((Y.toList.drop (i * ks.length)).take (len * ks.length))
  | 0, i, _ => ⟨fun j hj => by simp at hj, by simp [cellsEq]⟩
  | len + 1, i, hp => by
    rw [List.replicate_succ, List.flatten_cons] at hp
    obtain ⟨p1, p2, p3⟩ := pairsOk_app ks _ _ _ hp
    have hm : (len + 1) * ks.length = ks.length + len * ks.length := by rw [Nat.add_mul, Nat.one_mul, Nat.add_comm]
    have t1 : ∀ l : List Value, ((l.take ((len + 1) * ks.length)).take ks.length) = l.take ks.length := fun l => by rw [List.take_take]; congr 1; omega
    have t2 : ∀ l : List Value, (((l.drop (i * ks.length)).take ((len + 1) * ks.length)).drop ks.length) = (l.drop ((i + 1) * ks.length)).take (len * ks.length) := fun l => by
      rw [List.drop_take, List.drop_drop, hm, Nat.add_mul, Nat.one_mul]; congr 1; omega
    rw [t1, t1] at p1 p3
    rw [t2, t2] at p2 p3
    obtain ⟨q1, q2⟩ := replicate_all hg X Y len (i + 1) p2
    refine ⟨fun j hj => ?_, ?_⟩
    · rw [List.range'_succ] at hj
      rcases List.mem_cons.mp hj with rfl | hj
      · exact hg X Y _ _ p1
      · exact q1 j hj
    · rw [List.range'_succ, List.all_cons, q2, p3]
theorem one_seg {X : Array Value} {o : Nat} {v : Value} (h : (X.toList.drop o).take 1 = [v]) : X[o]? = some v := by
  have := congrArg (·[0]?) h
  simpa using this
theorem seg1 {ks : List D} {l m : List Value} (h : pairsOk ks l m = true) (hk : ks.length = 1) : ∃ x y, l = [x] ∧ m = [y] := by
  obtain ⟨h1, h2⟩ := pairsOk_len _ _ _ h
  match l, m, h1, h2 with
  | [x], [y], _, _ => exact ⟨x, y, rfl, rfl⟩
  | [], _, h1, _ => simp at h1; omega
  | _ :: _ :: _, _, h1, _ => simp at h1; omega
  | [_], [], _, h2 => simp at h2; omega
  | [_], _ :: _ :: _, _, h2 => simp at h2; omega
theorem part_one {P : Program} {t : Nat} {d : TypeDesc} (hd : P.underlying t = some d) (ha : isAggD (descSum d) = false) {X : Array Value} {o : Nat} {v : Value} (h : X[o]? = some v) (w : World) : (part t X o).run P w = .ok v w := by
  unfold part
  simp only [Sem.run_bind, run_isAgg_ok hd, ha, Result.andThen_ok, Bool.false_eq_true, if_false, h, Sem.run_pure]
theorem part_agg {P : Program} {t : Nat} {d : TypeDesc} {i : TypeInfo} (hd : P.underlying t = some d) (hi : P.info? t = some i) (ha : isAggD (descSum d) = true) (X : Array Value) (o : Nat) (w : World) : (part t X o).run P w = .ok (.agg (X.extract o (o + i.size))) w := by
  unfold part
  simp only [Sem.run_bind, run_isAgg_ok hd, ha, Result.andThen_ok, if_true, run_sizeOf_ok hi, Sem.run_pure]
theorem flat_size {P : Program} {f t : Nat} {ks : List D} (h : flatK P f t = some ks) : ∃ i, P.info? t = some i ∧ i.size = ks.length := by
  cases f with
  | zero => cases h
  | succ f =>
    rw [flatK] at h
    generalize flatD P (flatK P f) t = q at h
    unfold flatZ at h
    cases q with
    | none => cases h
    | some k0 =>
    cases hi : P.info? t with
    | none => rw [hi] at h; cases h
    | some i =>
    rw [hi] at h
    cases hz : Nat.beq i.size k0.length with
    | false => simp only [hz] at h; cases h
    | true =>
    simp only [hz] at h
    have h : k0 = ks := Option.some.inj h
    subst h
    exact ⟨i, rfl, Nat.eq_of_beq_eq_true hz⟩
theorem flat_law {P : Program} : ∀ (f t : Nat) (ks : List D), flatK P f t = some ks → ∀ n, f ≤ n → FlatLaw P n t ks := by
  intro f
  induction f with
  | zero => intro t ks h; cases h
  | succ f ih =>
    intro t ks h n hn X Y o o' hp
    obtain ⟨n, rfl⟩ : ∃ m, n = m + 1 := ⟨n - 1, by omega⟩
    rw [flatK] at h
    generalize hq : flatD P (flatK P f) t = q at h
    unfold flatD at hq
    unfold flatZ at h
    cases q with
    | none => cases h
    | some k0 =>
    cases hi : P.info? t with
    | none => rw [hi] at h; cases h
    | some i =>
    rw [hi] at h
    cases hz : Nat.beq i.size k0.length with
    | false => simp only [hz] at h; cases h
    | true =>
    simp only [hz] at h
    have hz := Nat.eq_of_beq_eq_true hz
    have h : k0 = ks := Option.some.inj h
    subst h
    cases hd : P.underlying t with
    | none => rw [hd] at hq; cases hq
    | some d =>
    rw [hd] at hq
    cases d with
    | int k =>
      have hq : [D.int k] = k0 := Option.some.inj hq
      subst hq
      obtain ⟨x, y, e1, e2⟩ := seg1 hp rfl
      rw [e1, e2] at hp ⊢
      refine ⟨x, y, part_one hd rfl (one_seg e1), part_one hd rfl (one_seg e2), fun w => ?_⟩
      cases x <;> cases y <;> simp [pairsOk] at hp
      obtain ⟨h1, h2⟩ := hp
      obtain rfl := kindEq_eq h1
      obtain rfl := kindEq_eq h2
      simp [Op.equalIn, run_underlying hd, cellsEq, Result.andThen]
    | string =>
      have hq : [D.str] = k0 := Option.some.inj hq
      subst hq
      obtain ⟨x, y, e1, e2⟩ := seg1 hp rfl
      rw [e1, e2] at hp ⊢
      refine ⟨x, y, part_one hd rfl (one_seg e1), part_one hd rfl (one_seg e2), fun w => ?_⟩
      cases x <;> cases y <;> simp [pairsOk] at hp
      rename_i a b
      have : (a == b) = (a.toList == b.toList) := by
        rw [Bool.eq_iff_iff, MapKept.bytes_beq, beq_iff_eq]
        exact ⟨fun h => by rw [h], fun h => by
          have : mkStr a.toList = mkStr b.toList := by rw [h]
          obtain ⟨⟨l⟩⟩ := a
          obtain ⟨⟨m⟩⟩ := b
          simpa [mkStr] using this⟩
      simp [Op.equalIn, run_underlying hd, cellsEq, Result.andThen, this]
    | bool =>
      have hq : [D.bool] = k0 := Option.some.inj hq
      subst hq
      obtain ⟨x, y, e1, e2⟩ := seg1 hp rfl
      rw [e1, e2] at hp ⊢
      refine ⟨x, y, part_one hd rfl (one_seg e1), part_one hd rfl (one_seg e2), fun w => ?_⟩
      cases x <;> cases y <;> simp [pairsOk] at hp
      simp [Op.equalIn, run_underlying hd, cellsEq, Result.andThen]
    | struct fs =>
      have hq : (bif P.stoodInHeld t then none else flatFs (flatK P f) fs.toList 0) = some k0 := hq
      cases hs : P.stoodInHeld t with
      | true => rw [hs] at hq; cases hq
      | false =>
      rw [hs] at hq
      have hq : flatFs (flatK P f) fs.toList 0 = some k0 := hq
      have ex : ∀ (Z : Array Value) (b : Nat), ((Z.extract b (b + i.size)).toList.drop 0).take k0.length = (Z.toList.drop b).take k0.length := fun Z b => by
        rw [List.drop_zero, Array.toList_extract, List.extract_eq_take_drop, List.take_take]
        congr 1; omega
      have hp' : pairsOk k0 (((X.extract o (o + i.size)).toList.drop 0).take k0.length) (((Y.extract o' (o' + i.size)).toList.drop 0).take k0.length) = true := by rw [ex, ex]; exact hp
      obtain ⟨q1, q2⟩ := flatFs_all (n := n) (fun u ks hu => ih u ks hu n (by omega)) _ _ fs.toList 0 k0 hq hp'
      rw [ex, ex] at q2
      refine ⟨_, _, part_agg hd hi rfl X o, part_agg hd hi rfl Y o', fun w => ?_⟩
      rw [Op.equalIn]
      simp only [Sem.run_bind, run_underlying hd, Result.andThen_ok, run_program, hs, Bool.false_eq_true, if_false]
      rw [← Array.forIn_toList, forIn_early _ _ ⟨some false, ()⟩ (fun fd => cellsEq (((X.extract o (o + i.size)).toList.drop fd.offset).take ((flatK P f fd.type).getD []).length) (((Y.extract o' (o' + i.size)).toList.drop fd.offset).take ((flatK P f fd.type).getD []).length)) w]
      · rw [q2]
        cases cellsEq ((X.toList.drop o).take k0.length) ((Y.toList.drop o').take k0.length) <;> simp [Sem.run_pure]
      · intro fd hfd
        obtain ⟨hne, x, y, e1, e2, e3⟩ := q1 fd hfd
        rw [if_pos hne]
        simp only [Sem.run_bind, e1, e2, e3, Result.andThen_ok]
        cases cellsEq (((X.extract o (o + i.size)).toList.drop fd.offset).take ((flatK P f fd.type).getD []).length) (((Y.extract o' (o' + i.size)).toList.drop fd.offset).take ((flatK P f fd.type).getD []).length) <;> simp [Sem.run_pure]
    | array len e =>
      have hq : (flatK P f e).map (fun ks => (List.replicate len ks).flatten) = some k0 := hq
      cases he : flatK P f e with
      | none => rw [he] at hq; cases hq
      | some k1 =>
      rw [he] at hq
      have hq : (List.replicate len k1).flatten = k0 := Option.some.inj hq
      subst hq
      have hL : (List.replicate len k1).flatten.length = len * k1.length := by simp
      obtain ⟨ie, hie, hse⟩ := flat_size he
      have ex : ∀ (Z : Array Value) (b : Nat), ((Z.extract b (b + i.size)).toList.drop (0 * k1.length)).take (len * k1.length) = (Z.toList.drop b).take (List.replicate len k1).flatten.length := fun Z b => by
        rw [Nat.zero_mul, List.drop_zero, Array.toList_extract, List.extract_eq_take_drop, List.take_take]
        congr 1; omega
      have hp' : pairsOk (List.replicate len k1).flatten (((X.extract o (o + i.size)).toList.drop (0 * k1.length)).take (len * k1.length)) (((Y.extract o' (o' + i.size)).toList.drop (0 * k1.length)).take (len * k1.length)) = true := by rw [ex, ex]; exact hp
      obtain ⟨q1, q2⟩ := replicate_all (n := n) (ih e k1 he n (by omega)) _ _ len 0 hp'
      rw [ex, ex] at q2
      refine ⟨_, _, part_agg hd hi rfl X o, part_agg hd hi rfl Y o', fun w => ?_⟩
      rw [Op.equalIn]
      simp only [Sem.run_bind, run_underlying hd, Result.andThen_ok, run_sizeOf_ok hie, hse]
      rw [Std.Legacy.Range.forIn_eq_forIn_range']
      simp only [Std.Legacy.Range.size, Nat.sub_zero, Nat.add_sub_cancel, Nat.div_one]
      rw [forIn_early _ _ ⟨some false, ()⟩ (fun j => cellsEq (((X.extract o (o + i.size)).toList.drop (j * k1.length)).take k1.length) (((Y.extract o' (o' + i.size)).toList.drop (j * k1.length)).take k1.length)) w]
      · rw [q2]
        cases cellsEq ((X.toList.drop o).take (List.replicate len k1).flatten.length) ((Y.toList.drop o').take (List.replicate len k1).flatten.length) <;> simp [Sem.run_pure]
      · intro j hj
        obtain ⟨x, y, e1, e2, e3⟩ := q1 j hj
        simp only [Sem.run_bind, e1, e2, e3, Result.andThen_ok]
        cases cellsEq (((X.extract o (o + i.size)).toList.drop (j * k1.length)).take k1.length) (((Y.extract o' (o' + i.size)).toList.drop (j * k1.length)).take k1.length) <;> simp [Sem.run_pure]
    | _ => cases hq
theorem dsSame_eq : ∀ {a b : List D}, dsSame a b = true → a = b
  | [], [], _ => rfl
  | [], _ :: _, h => by simp [dsSame] at h
  | _ :: _, [], h => by simp [dsSame] at h
  | a :: r, b :: s, h => by
    simp only [dsSame, Bool.and_eq_true] at h
    have h1 : a = b := by
      have := h.1
      cases a <;> cases b <;> simp [dSame] at this <;> first | rfl | (rw [kindEq_eq this])
    rw [h1, dsSame_eq h.2]
theorem agg_equal {P : Program} {t : Nat} {x : TI} (hx : TIok P t x) (hne : x.eq ≠ []) {a b : Array Value} (hp : pairsOk x.eq a.toList b.toList = true) (w : World) :
    (Op.equal t (.agg a) (.agg b)).run P w = .ok (cellsEq a.toList b.toList) w ∧ P.eqGuardType P.depth t = false := by
  have h := hx.eqs
  unfold eqsOk at h
  split at h
  · rename_i he; exact absurd he hne
  rename_i ks hks
  cases hf : flatK P 6 t with
  | none => rw [hf] at h; cases h
  | some l =>
  rw [hf] at h
  simp only [Bool.and_eq_true, Bool.not_eq_true'] at h
  obtain ⟨⟨h1, h2⟩, hu⟩ := h
  have h1 := dsSame_eq h1
  rw [← h1] at hf
  refine ⟨?_, h2⟩
  obtain ⟨i, d, z, hi, hd, hdx, hsz, _, _, _⟩ := hx.get
  obtain ⟨l1, l2⟩ := pairsOk_len _ _ _ hp
  have ta : a.toList.take x.eq.length = a.toList := List.take_of_length_le (by omega)
  have tb : b.toList.take x.eq.length = b.toList := List.take_of_length_le (by omega)
  obtain ⟨i', hi', hs'⟩ := flat_size hf
  have hp0 : pairsOk x.eq ((a.toList.drop 0).take x.eq.length) ((b.toList.drop 0).take x.eq.length) = true := by rw [List.drop_zero, List.drop_zero, ta, tb]; exact hp
  obtain ⟨u, v, e1, e2, e3⟩ := flat_law 6 t _ hf Op.maxDepth (by decide) a b 0 0 hp0
  rw [List.drop_zero, List.drop_zero, ta, tb] at e3
  cases ha : isAggD (descSum d) with
  | true =>
    have g1 := part_agg hd hi' ha a 0 w
    have g2 := part_agg hd hi' ha b 0 w
    rw [e1] at g1
    rw [e2] at g2
    have ea : a.extract 0 (0 + i'.size) = a := by
      apply Array.ext'
      rw [Array.toList_extract, List.extract_eq_take_drop, List.drop_zero, hs']
      exact List.take_of_length_le (by omega)
    have eb : b.extract 0 (0 + i'.size) = b := by
      apply Array.ext'
      rw [Array.toList_extract, List.extract_eq_take_drop, List.drop_zero, hs']
      exact List.take_of_length_le (by omega)
    rw [ea] at g1
    rw [eb] at g2
    have g1 : u = .agg a := by injection g1
    have g2 : v = .agg b := by injection g2
    have := e3 w
    rw [g1, g2] at this
    exact this
  | false =>
    rw [hd] at hu
    cases d <;> simp [isAggD, descSum] at ha hu
end Go.Proofs.YtjdcbblgaoogmaaGreatDoor.Wx
