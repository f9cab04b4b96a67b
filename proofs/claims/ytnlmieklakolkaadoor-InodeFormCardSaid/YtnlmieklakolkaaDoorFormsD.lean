/-
  WHAT THE FUNCTIONS COMPUTE, as formulas; each held against the loaded code by the kernel. Written by program (gen.py).
-/
import Derived.Test.YtnlmieklakolkaaDoorTab
namespace Go.Proofs.YtnlmieklakolkaaDoor.W
open Go Go.Proofs Go.Proofs.YtnlmieklakolkaaDoor.Wx
-- 47
def adisk_New (n1 : Int) (K : Value → Heap → Prop) (h1 : Heap) : Prop :=
  bif (decide (n1 < 1)) then (
  K (.tuple #[.pointer none, .int .i64 32]) h1) else (
  bif (decide (n1 > 16384)) then (
  K (.tuple #[.pointer none, .int .i64 32]) h1) else (
  (0 ≤ n1 ∧ n1 ≤ n1 ∧ (512 : Int) * n1 ≤ 281474976710656 ∧ n1 ≤ 281474976710656) ∧
  New (repCells z141 (Int.toNat n1)) 141 h1 fun h2 =>
  New [.slice (some ⟨h1.size, 0, none⟩) (Int.toNat n1) (Int.toNat n1), .slice none 0 0, .int .i64 0, .slice none 0 0, .bool false, .int .i64 0, .int .i64 0, .slice none 0 0] 115 h2 fun h3 =>
  K (.tuple #[.pointer (some ⟨h2.size, 0, none⟩), .int .i64 0]) h3))
def adisk_New.lo : Nat → List Nat × List (Nat × Ty) := fun n => match n with | _ => ([], [])
def adisk_New.od : Nat → Od := fun n => match n with | _ => .nil
theorem adisk_New.eq (n1 : Int) (K : Value → Heap → Prop) (h : Heap) : fnX (cx adisk_New.lo adisk_New.od) Tryd.f47 (Tryd.f47.body.getD .skip) [.int .i64 n1] K h = adisk_New n1 K h := by kernel_rfl
theorem adisk_New.chk : fnOk (cx adisk_New.lo adisk_New.od) Tryd.f47 (Tryd.f47.body.getD .skip) 1 = true := by kernel_rfl
theorem adisk_New.ok {n1 : Int} {K : Value → Heap → Prop} {h : Heap} (hx : adisk_New n1 K h) : C.adisk_New n1 h K :=
  fn_to (cxOk _ _) Tryd.func47 (by kernel_rfl) adisk_New.chk (by rw [adisk_New.eq]; exact hx)

-- 48
def boleref07_Of.k1 (n1 : Int) (h1 : Heap) (h5 : Heap) (K : Value → Heap → Prop) : Prop :=
  NewRow z87 87 [.int .i64 n1, .int .i64 98, .int .i64 98, .int .i64 0, .int .i64 0] 5 h5 fun h7 =>
  ∃ (I1 : Int → Heap → Prop) (M1 : Int → Heap → Nat), I1 0 h7 ∧
  ∀ (told1 : Int), ∀ h8 : Heap, I1 told1 h8 →
  bif (decide (told1 < n1)) then (
  ∃ (n2 : Int), cellOf h8 (Addr.add ⟨h5.size, 0, none⟩ 2) = some (.int .i64 n2) ∧
  Put (Addr.add ⟨h5.size, 0, none⟩ 2) (.int .i64 (IntKind.wrap .i64 (n2 + 1))) h8 fun h9 =>
  I1 (IntKind.wrap .i64 (told1 + 4096)) h9 ∧ M1 (IntKind.wrap .i64 (told1 + 4096)) h9 < M1 told1 h8) else (
  ∃ (n3 : Int), cellOf h8 (Addr.add ⟨h5.size, 0, none⟩ 2) = some (.int .i64 n3) ∧
  Put (Addr.add ⟨h5.size, 0, none⟩ 3) (.int .i64 n3) h8 fun h10 =>
  ∃ (I2 : Int → Heap → Prop) (M2 : Int → Heap → Nat), I2 64 h10 ∧
  ∀ (row1 : Int), ∀ h11 : Heap, I2 row1 h11 →
  bif (decide (row1 ≤ n1)) then (
  ∃ (n4 : Int), cellOf h11 (Addr.add ⟨h5.size, 0, none⟩ 3) = some (.int .i64 n4) ∧
  Put (Addr.add ⟨h5.size, 0, none⟩ 3) (.int .i64 (IntKind.wrap .i64 (n4 + 1))) h11 fun h12 =>
  ∃ (n5 : Int), cellOf h12 (Addr.add ⟨h5.size, 0, none⟩ 4) = some (.int .i64 n5) ∧
  Put (Addr.add ⟨h5.size, 0, none⟩ 4) (.int .i64 (IntKind.wrap .i64 (n5 + 8))) h12 fun h13 =>
  I2 (IntKind.wrap .i64 (row1 + 64)) h13 ∧ M2 (IntKind.wrap .i64 (row1 + 64)) h13 < M2 row1 h11) else (
  ∃ cs1 : List Value, List.length cs1 = 5 ∧ Cells h11 ⟨h5.size, 0, none⟩ cs1 ∧
  PutRow ⟨h1.size, 0, none⟩ cs1 5 h11 fun h14 =>
  ∃ res3 : List Value, List.length res3 = 5 ∧ Cells h14 ⟨h1.size, 0, none⟩ res3 ∧
  K (.tuple #[.agg ⟨res3⟩, .int .i64 0]) h14))
def boleref07_Of (n1 : Int) (K : Value → Heap → Prop) (h1 : Heap) : Prop :=
  New z87 87 h1 fun h2 =>
  bif (decide (n1 < 128)) then (
  PutRow ⟨h1.size, 0, none⟩ [.int .i64 0, .int .i64 0, .int .i64 0, .int .i64 0, .int .i64 0] 5 h2 fun h3 =>
  ∃ res1 : List Value, List.length res1 = 5 ∧ Cells h3 ⟨h1.size, 0, none⟩ res1 ∧
  K (.tuple #[.agg ⟨res1⟩, .int .i64 70]) h3) else (
  bif (decide (n1 > 16384)) then (
  PutRow ⟨h1.size, 0, none⟩ [.int .i64 0, .int .i64 0, .int .i64 0, .int .i64 0, .int .i64 0] 5 h2 fun h4 =>
  ∃ res2 : List Value, List.length res2 = 5 ∧ Cells h4 ⟨h1.size, 0, none⟩ res2 ∧
  K (.tuple #[.agg ⟨res2⟩, .int .i64 70]) h4) else (
  boleref07_Of.k1 n1 h1 h2 K))
def boleref07_Of.lo : Nat → List Nat × List (Nat × Ty) := fun n => match n with | 5 => ([0, 2, 4], [(5, .int .i64)]) | 10 => ([0, 2, 4], [(6, .int .i64)]) | _ => ([], [])
def boleref07_Of.od : Nat → Od := fun n => match n with | _ => .nil
theorem boleref07_Of.eq (n1 : Int) (K : Value → Heap → Prop) (h : Heap) : fnX (cx boleref07_Of.lo boleref07_Of.od) Tryd.f48 (Tryd.f48.body.getD .skip) [.int .i64 n1] K h = boleref07_Of n1 K h := by kernel_rfl
theorem boleref07_Of.chk : fnOk (cx boleref07_Of.lo boleref07_Of.od) Tryd.f48 (Tryd.f48.body.getD .skip) 1 = true := by kernel_rfl
theorem boleref07_Of.ok {n1 : Int} {K : Value → Heap → Prop} {h : Heap} (hx : boleref07_Of n1 K h) : C.boleref07_Of n1 h K :=
  fn_to (cxOk _ _) Tryd.func48 (by kernel_rfl) boleref07_Of.chk (by rw [boleref07_Of.eq]; exact hx)

-- 49
def txn_Begin (d1 : Option Addr) (K : Value → Heap → Prop) (h1 : Heap) : Prop :=
  NewM h1 fun h2 =>
  New [.pointer d1, .map (some h1.size), .slice none 0 0, .bool false] 119 h2 fun h3 =>
  K (.pointer (some ⟨h2.size, 0, none⟩)) h3
def txn_Begin.lo : Nat → List Nat × List (Nat × Ty) := fun n => match n with | _ => ([], [])
def txn_Begin.od : Nat → Od := fun n => match n with | _ => .nil
theorem txn_Begin.eq (d1 : Option Addr) (K : Value → Heap → Prop) (h : Heap) : fnX (cx txn_Begin.lo txn_Begin.od) Tryd.f49 (Tryd.f49.body.getD .skip) [.pointer d1] K h = txn_Begin d1 K h := by kernel_rfl
theorem txn_Begin.chk : fnOk (cx txn_Begin.lo txn_Begin.od) Tryd.f49 (Tryd.f49.body.getD .skip) 1 = true := by kernel_rfl
theorem txn_Begin.ok {d1 : Option Addr} {K : Value → Heap → Prop} {h : Heap} (hx : txn_Begin d1 K h) : C.txn_Begin d1 h K :=
  fn_to (cxOk _ _) Tryd.func49 (by kernel_rfl) txn_Begin.chk (by rw [txn_Begin.eq]; exact hx)

-- 50
def bolelaw11_plain  (K : Value → Heap → Prop) (h1 : Heap) : Prop :=
  New z58 58 h1 fun h2 =>
  NewRow z58 58 [.int .i64 1, .int .i64 1, .int .i64 5, .int .i64 0, .int .i64 0, .int .i64 0, .int .i64 0, .int .i64 0, .int .i64 0, .int .i64 0, .int .i64 0, .int .i64 0, .int .i64 0, .int .i64 0, .int .i64 0] 15 h2 fun h4 =>
  (0 ≤ (0 : Int) ∧ 0 < (10 : Int)) ∧
  Put (Addr.add (Addr.add ⟨h2.size, 0, none⟩ 3) (Int.toNat 0)) (.int .i64 101) h4 fun h5 =>
  ∃ cs1 : List Value, List.length cs1 = 15 ∧ Cells h5 ⟨h2.size, 0, none⟩ cs1 ∧
  PutRow ⟨h1.size, 0, none⟩ cs1 15 h5 fun h6 =>
  ∃ res1 : List Value, List.length res1 = 15 ∧ Cells h6 ⟨h1.size, 0, none⟩ res1 ∧
  K (.agg ⟨res1⟩) h6
def bolelaw11_plain.lo : Nat → List Nat × List (Nat × Ty) := fun n => match n with | _ => ([], [])
def bolelaw11_plain.od : Nat → Od := fun n => match n with | _ => .nil
theorem bolelaw11_plain.eq  (K : Value → Heap → Prop) (h : Heap) : fnX (cx bolelaw11_plain.lo bolelaw11_plain.od) Tryd.f50 (Tryd.f50.body.getD .skip) [] K h = bolelaw11_plain  K h := by kernel_rfl
theorem bolelaw11_plain.chk : fnOk (cx bolelaw11_plain.lo bolelaw11_plain.od) Tryd.f50 (Tryd.f50.body.getD .skip) 0 = true := by kernel_rfl
theorem bolelaw11_plain.ok  {K : Value → Heap → Prop} {h : Heap} (hx : bolelaw11_plain  K h) : C.bolelaw11_plain  h K :=
  fn_to (cxOk _ _) Tryd.func50 (by kernel_rfl) bolelaw11_plain.chk (by rw [bolelaw11_plain.eq]; exact hx)

-- 51
def inode_Put (t1 : Option Addr) (g1 : List Value) (n1 : Int) (x1 : List Value) (K : Value → Heap → Prop) (h1 : Heap) : Prop :=
  New g1 87 h1 fun h2 =>
  New x1 58 h2 fun h3 =>
  ∃ cs1 : List Value, List.length cs1 = 5 ∧ Cells h3 ⟨h1.size, 0, none⟩ cs1 ∧
  C.inode_isInode cs1 n1 h3 fun r1 h4 =>
  ∃ (b1 : Bool), r1 = .bool b1 ∧
  bif (!b1) then (
  K (.int .i64 110) h4) else (
  ∃ cs2 : List Value, List.length cs2 = 15 ∧ Cells h4 ⟨h2.size, 0, none⟩ cs2 ∧
  C.inode_Encode cs2 h4 fun r2 h5 =>
  ∃ (sA1 : Option Addr) (sL1 : Nat) (sC1 : Nat) (n2 : Int), r2 = .tuple #[.slice sA1 sL1 sC1, .int .i64 n2] ∧
  bif (n2 != 0) then (
  K (.int .i64 n2) h5) else (
  ∃ cs3 : List Value, List.length cs3 = 5 ∧ Cells h5 ⟨h1.size, 0, none⟩ cs3 ∧
  C.inode_place t1 cs3 n1 h5 fun r3 h6 =>
  ∃ (n3 : Int) (sA2 : Option Addr) (sL2 : Nat) (sC2 : Nat) (n4 : Int) (n5 : Int), r3 = .tuple #[.int .i64 n3, .slice sA2 sL2 sC2, .int .i64 n4, .int .i64 n5] ∧
  bif (n5 != 0) then (
  K (.int .i64 n5) h6) else (
  (0 ≤ n4 ∧ n4 ≤ (sL2 : Int)) ∧
  CopyP ti5 (if sC2 = (Int.toNat n4) then sA2 else Option.map (Addr.add · (Int.toNat n4)) sA2) (sL2 - (Int.toNat n4)) (.slice sA1 sL1 sC1) h6 fun n6 h7 =>
  C.txn_Txn_Write t1 n3 sA2 sL2 sC2 h7 fun r4 h8 =>
  ∃ (n7 : Int), r4 = .int .i64 n7 ∧
  K (.int .i64 n7) h8)))
def inode_Put.lo : Nat → List Nat × List (Nat × Ty) := fun n => match n with | _ => ([], [])
def inode_Put.od : Nat → Od := fun n => match n with | _ => .nil
theorem inode_Put.eq (t1 : Option Addr) (g1 : List Value) (n1 : Int) (x1 : List Value) (K : Value → Heap → Prop) (h : Heap) : fnX (cx inode_Put.lo inode_Put.od) Tryd.f51 (Tryd.f51.body.getD .skip) [.pointer t1, .agg ⟨g1⟩, .int .i64 n1, .agg ⟨x1⟩] K h = inode_Put t1 g1 n1 x1 K h := by kernel_rfl
theorem inode_Put.chk : fnOk (cx inode_Put.lo inode_Put.od) Tryd.f51 (Tryd.f51.body.getD .skip) 4 = true := by kernel_rfl
theorem inode_Put.ok {t1 : Option Addr} {g1 : List Value} {n1 : Int} {x1 : List Value} {K : Value → Heap → Prop} {h : Heap} (hx : inode_Put t1 g1 n1 x1 K h) : C.inode_Put t1 g1 n1 x1 h K :=
  fn_to (cxOk _ _) Tryd.func51 (by kernel_rfl) inode_Put.chk (by rw [inode_Put.eq]; exact hx)

-- 52
def inode_Take.k1 (t1 : Option Addr) (h1 : Heap) (h2 : Heap) (h5 : Heap) (K : Value → Heap → Prop) : Prop :=
  ∃ (I1 : Int → Heap → Prop) (M1 : Int → Heap → Nat), I1 1 h5 ∧
  ∀ (n2 : Int), ∀ h6 : Heap, I1 n2 h6 →
  ∃ (n3 : Int), cellOf h6 (Addr.add ⟨h1.size, 0, none⟩ 4) = some (.int .i64 n3) ∧
  bif (decide (n2 < n3)) then (
  ∃ cs2 : List Value, List.length cs2 = 5 ∧ Cells h6 ⟨h1.size, 0, none⟩ cs2 ∧
  C.inode_Get t1 cs2 n2 h6 fun r2 h7 =>
  ∃ (cs3 : List Value) (n4 : Int), r2 = .tuple #[.agg ⟨cs3⟩, .int .i64 n4] ∧
  NewRow z58 58 cs3 15 h7 fun h9 =>
  bif (n4 != 0) then (
  K (.tuple #[.int .i64 0, .int .i64 n4]) h9) else (
  ∃ cs4 : List Value, List.length cs4 = 15 ∧ Cells h9 ⟨h7.size, 0, none⟩ cs4 ∧
  pairsOk [(.int .i64), (.int .i64), (.int .i64), (.int .i64), (.int .i64), (.int .i64), (.int .i64), (.int .i64), (.int .i64), (.int .i64), (.int .i64), (.int .i64), (.int .i64), (.int .i64), (.int .i64)] cs4 [.int .i64 0, .int .i64 0, .int .i64 0, .int .i64 0, .int .i64 0, .int .i64 0, .int .i64 0, .int .i64 0, .int .i64 0, .int .i64 0, .int .i64 0, .int .i64 0, .int .i64 0, .int .i64 0, .int .i64 0] = true ∧
  bif (cellsEq cs4 [.int .i64 0, .int .i64 0, .int .i64 0, .int .i64 0, .int .i64 0, .int .i64 0, .int .i64 0, .int .i64 0, .int .i64 0, .int .i64 0, .int .i64 0, .int .i64 0, .int .i64 0, .int .i64 0, .int .i64 0]) then (
  ∃ cs5 : List Value, List.length cs5 = 5 ∧ Cells h9 ⟨h1.size, 0, none⟩ cs5 ∧
  ∃ cs6 : List Value, List.length cs6 = 15 ∧ Cells h9 ⟨h2.size, 0, none⟩ cs6 ∧
  C.inode_Put t1 cs5 n2 cs6 h9 fun r3 h10 =>
  ∃ (n5 : Int), r3 = .int .i64 n5 ∧
  bif (n5 != 0) then (
  K (.tuple #[.int .i64 0, .int .i64 n5]) h10) else (
  K (.tuple #[.int .i64 n2, .int .i64 0]) h10)) else (
  I1 (IntKind.wrap .i64 (n2 + 1)) h9 ∧ M1 (IntKind.wrap .i64 (n2 + 1)) h9 < M1 n2 h6))) else (
  K (.tuple #[.int .i64 0, .int .i64 90]) h6)
def inode_Take (t1 : Option Addr) (g1 : List Value) (x1 : List Value) (K : Value → Heap → Prop) (h1 : Heap) : Prop :=
  New g1 87 h1 fun h2 =>
  New x1 58 h2 fun h3 =>
  ∃ cs1 : List Value, List.length cs1 = 15 ∧ Cells h3 ⟨h2.size, 0, none⟩ cs1 ∧
  C.inode_may cs1 h3 fun r1 h4 =>
  ∃ (b1 : Bool), r1 = .bool b1 ∧
  bif (!b1) then (
  K (.tuple #[.int .i64 0, .int .i64 111]) h4) else (
  ∃ (n1 : Int), cellOf h4 (Addr.add ⟨h2.size, 0, none⟩ 0) = some (.int .i64 n1) ∧
  bif (n1 == 0) then (
  K (.tuple #[.int .i64 0, .int .i64 111]) h4) else (
  inode_Take.k1 t1 h1 h2 h4 K))
def inode_Take.lo : Nat → List Nat × List (Nat × Ty) := fun n => match n with | 4 => ([0, 4, 5], [(8, .int .i64)]) | _ => ([], [])
def inode_Take.od : Nat → Od := fun n => match n with | _ => .nil
theorem inode_Take.eq (t1 : Option Addr) (g1 : List Value) (x1 : List Value) (K : Value → Heap → Prop) (h : Heap) : fnX (cx inode_Take.lo inode_Take.od) Tryd.f52 (Tryd.f52.body.getD .skip) [.pointer t1, .agg ⟨g1⟩, .agg ⟨x1⟩] K h = inode_Take t1 g1 x1 K h := by kernel_rfl
theorem inode_Take.chk : fnOk (cx inode_Take.lo inode_Take.od) Tryd.f52 (Tryd.f52.body.getD .skip) 3 = true := by kernel_rfl
theorem inode_Take.ok {t1 : Option Addr} {g1 : List Value} {x1 : List Value} {K : Value → Heap → Prop} {h : Heap} (hx : inode_Take t1 g1 x1 K h) : C.inode_Take t1 g1 x1 h K :=
  fn_to (cxOk _ _) Tryd.func52 (by kernel_rfl) inode_Take.chk (by rw [inode_Take.eq]; exact hx)

-- 53
def inode_Get (t1 : Option Addr) (g1 : List Value) (n1 : Int) (K : Value → Heap → Prop) (h1 : Heap) : Prop :=
  New g1 87 h1 fun h2 =>
  New z58 58 h2 fun h3 =>
  ∃ cs1 : List Value, List.length cs1 = 5 ∧ Cells h3 ⟨h1.size, 0, none⟩ cs1 ∧
  C.inode_isInode cs1 n1 h3 fun r1 h4 =>
  ∃ (b1 : Bool), r1 = .bool b1 ∧
  bif (!b1) then (
  PutRow ⟨h2.size, 0, none⟩ [.int .i64 0, .int .i64 0, .int .i64 0, .int .i64 0, .int .i64 0, .int .i64 0, .int .i64 0, .int .i64 0, .int .i64 0, .int .i64 0, .int .i64 0, .int .i64 0, .int .i64 0, .int .i64 0, .int .i64 0] 15 h4 fun h5 =>
  ∃ res1 : List Value, List.length res1 = 15 ∧ Cells h5 ⟨h2.size, 0, none⟩ res1 ∧
  K (.tuple #[.agg ⟨res1⟩, .int .i64 110]) h5) else (
  ∃ cs2 : List Value, List.length cs2 = 5 ∧ Cells h4 ⟨h1.size, 0, none⟩ cs2 ∧
  C.inode_place t1 cs2 n1 h4 fun r2 h6 =>
  ∃ (n2 : Int) (sA1 : Option Addr) (sL1 : Nat) (sC1 : Nat) (n3 : Int) (n4 : Int), r2 = .tuple #[.int .i64 n2, .slice sA1 sL1 sC1, .int .i64 n3, .int .i64 n4] ∧
  bif (n4 != 0) then (
  PutRow ⟨h2.size, 0, none⟩ [.int .i64 0, .int .i64 0, .int .i64 0, .int .i64 0, .int .i64 0, .int .i64 0, .int .i64 0, .int .i64 0, .int .i64 0, .int .i64 0, .int .i64 0, .int .i64 0, .int .i64 0, .int .i64 0, .int .i64 0] 15 h6 fun h7 =>
  ∃ res2 : List Value, List.length res2 = 15 ∧ Cells h7 ⟨h2.size, 0, none⟩ res2 ∧
  K (.tuple #[.agg ⟨res2⟩, .int .i64 n4]) h7) else (
  (0 ≤ n3 ∧ n3 ≤ (IntKind.wrap .i64 (n3 + 64)) ∧ (IntKind.wrap .i64 (n3 + 64)) ≤ (sC1 : Int)) ∧
  C.inode_Decode (if sC1 = (Int.toNat n3) then sA1 else Option.map (Addr.add · (Int.toNat n3)) sA1) ((Int.toNat (IntKind.wrap .i64 (n3 + 64))) - (Int.toNat n3)) (sC1 - (Int.toNat n3)) h6 fun r3 h8 =>
  ∃ (cs3 : List Value) (n5 : Int), r3 = .tuple #[.agg ⟨cs3⟩, .int .i64 n5] ∧
  PutRow ⟨h2.size, 0, none⟩ cs3 15 h8 fun h9 =>
  ∃ res3 : List Value, List.length res3 = 15 ∧ Cells h9 ⟨h2.size, 0, none⟩ res3 ∧
  K (.tuple #[.agg ⟨res3⟩, .int .i64 n5]) h9))
def inode_Get.lo : Nat → List Nat × List (Nat × Ty) := fun n => match n with | _ => ([], [])
def inode_Get.od : Nat → Od := fun n => match n with | _ => .nil
theorem inode_Get.eq (t1 : Option Addr) (g1 : List Value) (n1 : Int) (K : Value → Heap → Prop) (h : Heap) : fnX (cx inode_Get.lo inode_Get.od) Tryd.f53 (Tryd.f53.body.getD .skip) [.pointer t1, .agg ⟨g1⟩, .int .i64 n1] K h = inode_Get t1 g1 n1 K h := by kernel_rfl
theorem inode_Get.chk : fnOk (cx inode_Get.lo inode_Get.od) Tryd.f53 (Tryd.f53.body.getD .skip) 3 = true := by kernel_rfl
theorem inode_Get.ok {t1 : Option Addr} {g1 : List Value} {n1 : Int} {K : Value → Heap → Prop} {h : Heap} (hx : inode_Get t1 g1 n1 K h) : C.inode_Get t1 g1 n1 h K :=
  fn_to (cxOk _ _) Tryd.func53 (by kernel_rfl) inode_Get.chk (by rw [inode_Get.eq]; exact hx)

-- 54
def inode_Free (t1 : Option Addr) (g1 : List Value) (K : Value → Heap → Prop) (h1 : Heap) : Prop :=
  New g1 87 h1 fun h2 =>
  ∃ (I1 : Int → Int → Heap → Prop) (M1 : Int → Int → Heap → Nat), I1 0 1 h2 ∧
  ∀ (many1 : Int) (n1 : Int), ∀ h3 : Heap, I1 many1 n1 h3 →
  ∃ (n2 : Int), cellOf h3 (Addr.add ⟨h1.size, 0, none⟩ 4) = some (.int .i64 n2) ∧
  bif (decide (n1 < n2)) then (
  ∃ cs1 : List Value, List.length cs1 = 5 ∧ Cells h3 ⟨h1.size, 0, none⟩ cs1 ∧
  C.inode_Get t1 cs1 n1 h3 fun r1 h4 =>
  ∃ (cs2 : List Value) (n3 : Int), r1 = .tuple #[.agg ⟨cs2⟩, .int .i64 n3] ∧
  NewRow z58 58 cs2 15 h4 fun h6 =>
  bif (n3 != 0) then (
  K (.tuple #[.int .i64 0, .int .i64 n3]) h6) else (
  ∃ cs3 : List Value, List.length cs3 = 15 ∧ Cells h6 ⟨h4.size, 0, none⟩ cs3 ∧
  pairsOk [(.int .i64), (.int .i64), (.int .i64), (.int .i64), (.int .i64), (.int .i64), (.int .i64), (.int .i64), (.int .i64), (.int .i64), (.int .i64), (.int .i64), (.int .i64), (.int .i64), (.int .i64)] cs3 [.int .i64 0, .int .i64 0, .int .i64 0, .int .i64 0, .int .i64 0, .int .i64 0, .int .i64 0, .int .i64 0, .int .i64 0, .int .i64 0, .int .i64 0, .int .i64 0, .int .i64 0, .int .i64 0, .int .i64 0] = true ∧
  bif (cellsEq cs3 [.int .i64 0, .int .i64 0, .int .i64 0, .int .i64 0, .int .i64 0, .int .i64 0, .int .i64 0, .int .i64 0, .int .i64 0, .int .i64 0, .int .i64 0, .int .i64 0, .int .i64 0, .int .i64 0, .int .i64 0]) then (
  I1 (IntKind.wrap .i64 (many1 + 1)) (IntKind.wrap .i64 (n1 + 1)) h6 ∧ M1 (IntKind.wrap .i64 (many1 + 1)) (IntKind.wrap .i64 (n1 + 1)) h6 < M1 many1 n1 h3) else (
  I1 many1 (IntKind.wrap .i64 (n1 + 1)) h6 ∧ M1 many1 (IntKind.wrap .i64 (n1 + 1)) h6 < M1 many1 n1 h3))) else (
  K (.tuple #[.int .i64 many1, .int .i64 0]) h3)
def inode_Free.lo : Nat → List Nat × List (Nat × Ty) := fun n => match n with | 3 => ([0, 3], [(6, .int .i64), (7, .int .i64)]) | _ => ([], [])
def inode_Free.od : Nat → Od := fun n => match n with | _ => .nil
theorem inode_Free.eq (t1 : Option Addr) (g1 : List Value) (K : Value → Heap → Prop) (h : Heap) : fnX (cx inode_Free.lo inode_Free.od) Tryd.f54 (Tryd.f54.body.getD .skip) [.pointer t1, .agg ⟨g1⟩] K h = inode_Free t1 g1 K h := by kernel_rfl
theorem inode_Free.chk : fnOk (cx inode_Free.lo inode_Free.od) Tryd.f54 (Tryd.f54.body.getD .skip) 2 = true := by kernel_rfl
theorem inode_Free.ok {t1 : Option Addr} {g1 : List Value} {K : Value → Heap → Prop} {h : Heap} (hx : inode_Free t1 g1 K h) : C.inode_Free t1 g1 h K :=
  fn_to (cxOk _ _) Tryd.func54 (by kernel_rfl) inode_Free.chk (by rw [inode_Free.eq]; exact hx)

-- 55
def boleref11_May.k1 (h1 : Heap) (h7 : Heap) (K : Value → Heap → Prop) : Prop :=
  ∃ (n4 : Int), cellOf h7 (Addr.add ⟨h1.size, 0, none⟩ 0) = some (.int .i64 n4) ∧
  bif (n4 == 0) then (
  ∃ cs1 : List Value, List.length cs1 = 15 ∧ Cells h7 ⟨h1.size, 0, none⟩ cs1 ∧
  pairsOk [(.int .i64), (.int .i64), (.int .i64), (.int .i64), (.int .i64), (.int .i64), (.int .i64), (.int .i64), (.int .i64), (.int .i64), (.int .i64), (.int .i64), (.int .i64), (.int .i64), (.int .i64)] cs1 [.int .i64 0, .int .i64 0, .int .i64 0, .int .i64 0, .int .i64 0, .int .i64 0, .int .i64 0, .int .i64 0, .int .i64 0, .int .i64 0, .int .i64 0, .int .i64 0, .int .i64 0, .int .i64 0, .int .i64 0] = true ∧
  K (.bool (cellsEq cs1 [.int .i64 0, .int .i64 0, .int .i64 0, .int .i64 0, .int .i64 0, .int .i64 0, .int .i64 0, .int .i64 0, .int .i64 0, .int .i64 0, .int .i64 0, .int .i64 0, .int .i64 0, .int .i64 0, .int .i64 0])) h7) else (
  bif (n4 == 1) then (
  ∃ (n5 : Int), cellOf h7 (Addr.add ⟨h1.size, 0, none⟩ 1) = some (.int .i64 n5) ∧
  C.boleref11_within n5 0 1000 h7 fun r4 h8 =>
  ∃ (b4 : Bool), r4 = .bool b4 ∧
  bif b4 then (
  ∃ (n6 : Int), cellOf h8 (Addr.add ⟨h1.size, 0, none⟩ 2) = some (.int .i64 n6) ∧
  C.boleref11_within n6 0 8459264 h8 fun r5 h9 =>
  ∃ (b5 : Bool), r5 = .bool b5 ∧
  K (.bool b5) h9) else (
  K (.bool false) h8)) else (
  bif (n4 == 2) then (
  ∃ (n7 : Int), cellOf h7 (Addr.add ⟨h1.size, 0, none⟩ 1) = some (.int .i64 n7) ∧
  C.boleref11_within n7 2 65535 h7 fun r6 h10 =>
  ∃ (b6 : Bool), r6 = .bool b6 ∧
  bif b6 then (
  ∃ (n8 : Int), cellOf h10 (Addr.add ⟨h1.size, 0, none⟩ 2) = some (.int .i64 n8) ∧
  C.boleref11_within n8 0 8459264 h10 fun r7 h11 =>
  ∃ (b7 : Bool), r7 = .bool b7 ∧
  bif b7 then (
  ∃ (n9 : Int), cellOf h11 (Addr.add ⟨h1.size, 0, none⟩ 2) = some (.int .i64 n9) ∧
  K (.bool ((Int.tmod n9 512) == 0)) h11) else (
  K (.bool false) h11)) else (
  K (.bool false) h10)) else (
  bif (n4 == 3) then (
  ∃ (n10 : Int), cellOf h7 (Addr.add ⟨h1.size, 0, none⟩ 1) = some (.int .i64 n10) ∧
  C.boleref11_within n10 1 1000 h7 fun r8 h12 =>
  ∃ (b8 : Bool), r8 = .bool b8 ∧
  bif b8 then (
  ∃ (n11 : Int), cellOf h12 (Addr.add ⟨h1.size, 0, none⟩ 2) = some (.int .i64 n11) ∧
  C.boleref11_within n11 1 1024 h12 fun r9 h13 =>
  ∃ (b9 : Bool), r9 = .bool b9 ∧
  K (.bool b9) h13) else (
  K (.bool false) h12)) else (
  K (.bool false) h7))))
def boleref11_May (x1 : List Value) (K : Value → Heap → Prop) (h1 : Heap) : Prop :=
  New x1 58 h1 fun h2 =>
  ∃ (I1 : Int → Heap → Prop) (M1 : Int → Heap → Nat), I1 0 h2 ∧
  ∀ (i1 : Int), ∀ h3 : Heap, I1 i1 h3 →
  bif (decide (i1 < 10)) then (
  (0 ≤ i1 ∧ i1 < (10 : Int)) ∧
  ∃ (n1 : Int), cellOf h3 (Addr.add (Addr.add ⟨h1.size, 0, none⟩ 3) (Int.toNat i1)) = some (.int .i64 n1) ∧
  C.boleref11_within n1 0 4294967295 h3 fun r1 h4 =>
  ∃ (b1 : Bool), r1 = .bool b1 ∧
  bif (!b1) then (
  K (.bool false) h4) else (
  I1 (IntKind.wrap .i64 (i1 + 1)) h4 ∧ M1 (IntKind.wrap .i64 (i1 + 1)) h4 < M1 i1 h3)) else (
  ∃ (n2 : Int), cellOf h3 (Addr.add ⟨h1.size, 0, none⟩ 13) = some (.int .i64 n2) ∧
  C.boleref11_within n2 0 4294967295 h3 fun r2 h5 =>
  ∃ (b2 : Bool), r2 = .bool b2 ∧
  bif (!b2) then (
  K (.bool false) h5) else (
  ∃ (n3 : Int), cellOf h5 (Addr.add ⟨h1.size, 0, none⟩ 14) = some (.int .i64 n3) ∧
  C.boleref11_within n3 0 4294967295 h5 fun r3 h6 =>
  ∃ (b3 : Bool), r3 = .bool b3 ∧
  bif (!b3) then (
  K (.bool false) h6) else (
  boleref11_May.k1 h1 h6 K)))
def boleref11_May.lo : Nat → List Nat × List (Nat × Ty) := fun n => match n with | 2 => ([1], [(3, .int .i64)]) | _ => ([], [])
def boleref11_May.od : Nat → Od := fun n => match n with | _ => .nil
theorem boleref11_May.eq (x1 : List Value) (K : Value → Heap → Prop) (h : Heap) : fnX (cx boleref11_May.lo boleref11_May.od) Tryd.f55 (Tryd.f55.body.getD .skip) [.agg ⟨x1⟩] K h = boleref11_May x1 K h := by kernel_rfl
theorem boleref11_May.chk : fnOk (cx boleref11_May.lo boleref11_May.od) Tryd.f55 (Tryd.f55.body.getD .skip) 1 = true := by kernel_rfl
theorem boleref11_May.ok {x1 : List Value} {K : Value → Heap → Prop} {h : Heap} (hx : boleref11_May x1 K h) : C.boleref11_May x1 h K :=
  fn_to (cxOk _ _) Tryd.func55 (by kernel_rfl) boleref11_May.chk (by rw [boleref11_May.eq]; exact hx)

-- 56
def boleref11_laid (x1 : List Value) (K : Value → Heap → Prop) (h1 : Heap) : Prop :=
  New x1 58 h1 fun h2 =>
  ∃ (n1 : Int), cellOf h2 (Addr.add ⟨h1.size, 0, none⟩ 0) = some (.int .i64 n1) ∧
  New [.int .u8 (IntKind.wrap .u8 (n1)), .int .u8 0] 5 h2 fun h3 =>
  ∃ (n2 : Int), cellOf h3 (Addr.add ⟨h1.size, 0, none⟩ 1) = some (.int .i64 n2) ∧
  C.boleref11_low n2 2 h3 fun r1 h4 =>
  ∃ (sA1 : Option Addr) (sL1 : Nat) (sC1 : Nat), r1 = .slice sA1 sL1 sC1 ∧
  ∃ new1 : List Value, List.length new1 = sL1 * 1 ∧ SlCells h4 sA1 new1 ∧ (∀ v ∈ new1, v.oneCell' = true) ∧
  AppendP ti5 5 (some ⟨h2.size, 0, none⟩) 2 2 sL1 new1 h4 fun sA2 sL2 sC2 h5 =>
  ∃ (n3 : Int), cellOf h5 (Addr.add ⟨h1.size, 0, none⟩ 2) = some (.int .i64 n3) ∧
  C.boleref11_low n3 4 h5 fun r2 h6 =>
  ∃ (sA3 : Option Addr) (sL3 : Nat) (sC3 : Nat), r2 = .slice sA3 sL3 sC3 ∧
  ∃ new2 : List Value, List.length new2 = sL3 * 1 ∧ SlCells h6 sA3 new2 ∧ (∀ v ∈ new2, v.oneCell' = true) ∧
  AppendP ti5 5 sA2 sL2 sC2 sL3 new2 h6 fun sA4 sL4 sC4 h7 =>
  ∃ (I1 : Option Addr → Nat → Nat → Int → Heap → Prop) (M1 : Option Addr → Nat → Nat → Int → Heap → Nat), I1 sA4 sL4 sC4 0 h7 ∧
  ∀ (bA1 : Option Addr) (bL1 : Nat) (bC1 : Nat) (i1 : Int), ∀ h8 : Heap, I1 bA1 bL1 bC1 i1 h8 →
  bif (decide (i1 < 10)) then (
  (0 ≤ i1 ∧ i1 < (10 : Int)) ∧
  ∃ (n4 : Int), cellOf h8 (Addr.add (Addr.add ⟨h1.size, 0, none⟩ 3) (Int.toNat i1)) = some (.int .i64 n4) ∧
  C.boleref11_low n4 4 h8 fun r3 h9 =>
  ∃ (sA5 : Option Addr) (sL5 : Nat) (sC5 : Nat), r3 = .slice sA5 sL5 sC5 ∧
  ∃ new3 : List Value, List.length new3 = sL5 * 1 ∧ SlCells h9 sA5 new3 ∧ (∀ v ∈ new3, v.oneCell' = true) ∧
  AppendP ti5 5 bA1 bL1 bC1 sL5 new3 h9 fun sA6 sL6 sC6 h10 =>
  I1 sA6 sL6 sC6 (IntKind.wrap .i64 (i1 + 1)) h10 ∧ M1 sA6 sL6 sC6 (IntKind.wrap .i64 (i1 + 1)) h10 < M1 bA1 bL1 bC1 i1 h8) else (
  ∃ (n5 : Int), cellOf h8 (Addr.add ⟨h1.size, 0, none⟩ 13) = some (.int .i64 n5) ∧
  C.boleref11_low n5 4 h8 fun r4 h11 =>
  ∃ (sA7 : Option Addr) (sL7 : Nat) (sC7 : Nat), r4 = .slice sA7 sL7 sC7 ∧
  ∃ new4 : List Value, List.length new4 = sL7 * 1 ∧ SlCells h11 sA7 new4 ∧ (∀ v ∈ new4, v.oneCell' = true) ∧
  AppendP ti5 5 bA1 bL1 bC1 sL7 new4 h11 fun sA8 sL8 sC8 h12 =>
  ∃ (n6 : Int), cellOf h12 (Addr.add ⟨h1.size, 0, none⟩ 14) = some (.int .i64 n6) ∧
  C.boleref11_low n6 4 h12 fun r5 h13 =>
  ∃ (sA9 : Option Addr) (sL9 : Nat) (sC9 : Nat), r5 = .slice sA9 sL9 sC9 ∧
  ∃ new5 : List Value, List.length new5 = sL9 * 1 ∧ SlCells h13 sA9 new5 ∧ (∀ v ∈ new5, v.oneCell' = true) ∧
  AppendP ti5 5 sA8 sL8 sC8 sL9 new5 h13 fun sA10 sL10 sC10 h14 =>
  New [.int .u8 0, .int .u8 0, .int .u8 0, .int .u8 0, .int .u8 0, .int .u8 0, .int .u8 0, .int .u8 0] 5 h14 fun h15 =>
  ∃ new6 : List Value, List.length new6 = 8 * 1 ∧ SlCells h15 (some ⟨h14.size, 0, none⟩) new6 ∧ (∀ v ∈ new6, v.oneCell' = true) ∧
  AppendP ti5 5 sA10 sL10 sC10 8 new6 h15 fun sA11 sL11 sC11 h16 =>
  K (.slice sA11 sL11 sC11) h16)
def boleref11_laid.lo : Nat → List Nat × List (Nat × Ty) := fun n => match n with | 5 => ([1], [(3, .slice), (4, .int .i64)]) | _ => ([], [])
def boleref11_laid.od : Nat → Od := fun n => match n with | _ => .nil
theorem boleref11_laid.eq (x1 : List Value) (K : Value → Heap → Prop) (h : Heap) : fnX (cx boleref11_laid.lo boleref11_laid.od) Tryd.f56 (Tryd.f56.body.getD .skip) [.agg ⟨x1⟩] K h = boleref11_laid x1 K h := by kernel_rfl
theorem boleref11_laid.chk : fnOk (cx boleref11_laid.lo boleref11_laid.od) Tryd.f56 (Tryd.f56.body.getD .skip) 1 = true := by kernel_rfl
theorem boleref11_laid.ok {x1 : List Value} {K : Value → Heap → Prop} {h : Heap} (hx : boleref11_laid x1 K h) : C.boleref11_laid x1 h K :=
  fn_to (cxOk _ _) Tryd.func56 (by kernel_rfl) boleref11_laid.chk (by rw [boleref11_laid.eq]; exact hx)

-- 57
def inode_may (x1 : List Value) (K : Value → Heap → Prop) (h1 : Heap) : Prop :=
  New x1 58 h1 fun h2 =>
  ∃ cs1 : List Value, List.length cs1 = 15 ∧ Cells h2 ⟨h1.size, 0, none⟩ cs1 ∧
  C.inode_numbers cs1 h2 fun r1 h3 =>
  ∃ (cs2 : List Value), r1 = .agg ⟨cs2⟩ ∧
  ∃ (I1 : Int → Heap → Prop) (M1 : Int → Heap → Nat), I1 0 h3 ∧
  ∀ (n1 : Int), ∀ h4 : Heap, I1 n1 h4 →
  bif (decide (n1 < 12)) then (
  (0 ≤ n1 ∧ n1 < (12 : Int)) ∧
  ∃ (n2 : Int), cs2[(Int.toNat n1)]? = some (.int .i64 n2) ∧
  C.inode_within n2 0 4294967295 h4 fun r2 h5 =>
  ∃ (b1 : Bool), r2 = .bool b1 ∧
  bif (!b1) then (
  K (.bool false) h5) else (
  I1 (IntKind.wrap .i64 (n1 + 1)) h5 ∧ M1 (IntKind.wrap .i64 (n1 + 1)) h5 < M1 n1 h4)) else (
  ∃ (n3 : Int), cellOf h4 (Addr.add ⟨h1.size, 0, none⟩ 0) = some (.int .i64 n3) ∧
  bif (n3 == 0) then (
  ∃ cs3 : List Value, List.length cs3 = 15 ∧ Cells h4 ⟨h1.size, 0, none⟩ cs3 ∧
  pairsOk [(.int .i64), (.int .i64), (.int .i64), (.int .i64), (.int .i64), (.int .i64), (.int .i64), (.int .i64), (.int .i64), (.int .i64), (.int .i64), (.int .i64), (.int .i64), (.int .i64), (.int .i64)] cs3 [.int .i64 0, .int .i64 0, .int .i64 0, .int .i64 0, .int .i64 0, .int .i64 0, .int .i64 0, .int .i64 0, .int .i64 0, .int .i64 0, .int .i64 0, .int .i64 0, .int .i64 0, .int .i64 0, .int .i64 0] = true ∧
  K (.bool (cellsEq cs3 [.int .i64 0, .int .i64 0, .int .i64 0, .int .i64 0, .int .i64 0, .int .i64 0, .int .i64 0, .int .i64 0, .int .i64 0, .int .i64 0, .int .i64 0, .int .i64 0, .int .i64 0, .int .i64 0, .int .i64 0])) h4) else (
  bif (n3 == 1) then (
  ∃ (n4 : Int), cellOf h4 (Addr.add ⟨h1.size, 0, none⟩ 1) = some (.int .i64 n4) ∧
  C.inode_within n4 0 1000 h4 fun r3 h6 =>
  ∃ (b2 : Bool), r3 = .bool b2 ∧
  bif b2 then (
  ∃ (n5 : Int), cellOf h6 (Addr.add ⟨h1.size, 0, none⟩ 2) = some (.int .i64 n5) ∧
  C.inode_within n5 0 8459264 h6 fun r4 h7 =>
  ∃ (b3 : Bool), r4 = .bool b3 ∧
  K (.bool b3) h7) else (
  K (.bool false) h6)) else (
  bif (n3 == 2) then (
  ∃ (n6 : Int), cellOf h4 (Addr.add ⟨h1.size, 0, none⟩ 1) = some (.int .i64 n6) ∧
  C.inode_within n6 2 65535 h4 fun r5 h8 =>
  ∃ (b4 : Bool), r5 = .bool b4 ∧
  bif b4 then (
  ∃ (n7 : Int), cellOf h8 (Addr.add ⟨h1.size, 0, none⟩ 2) = some (.int .i64 n7) ∧
  C.inode_within n7 0 8459264 h8 fun r6 h9 =>
  ∃ (b5 : Bool), r6 = .bool b5 ∧
  bif b5 then (
  ∃ (n8 : Int), cellOf h9 (Addr.add ⟨h1.size, 0, none⟩ 2) = some (.int .i64 n8) ∧
  K (.bool ((Int.tmod n8 512) == 0)) h9) else (
  K (.bool false) h9)) else (
  K (.bool false) h8)) else (
  bif (n3 == 3) then (
  ∃ (n9 : Int), cellOf h4 (Addr.add ⟨h1.size, 0, none⟩ 1) = some (.int .i64 n9) ∧
  C.inode_within n9 1 1000 h4 fun r7 h10 =>
  ∃ (b6 : Bool), r7 = .bool b6 ∧
  bif b6 then (
  ∃ (n10 : Int), cellOf h10 (Addr.add ⟨h1.size, 0, none⟩ 2) = some (.int .i64 n10) ∧
  C.inode_within n10 1 1024 h10 fun r8 h11 =>
  ∃ (b7 : Bool), r8 = .bool b7 ∧
  K (.bool b7) h11) else (
  K (.bool false) h10)) else (
  K (.bool false) h4)))))
def inode_may.lo : Nat → List Nat × List (Nat × Ty) := fun n => match n with | 2 => ([1, 6], [(7, .int .i64)]) | _ => ([], [])
def inode_may.od : Nat → Od := fun n => match n with | _ => .nil
theorem inode_may.eq (x1 : List Value) (K : Value → Heap → Prop) (h : Heap) : fnX (cx inode_may.lo inode_may.od) Tryd.f57 (Tryd.f57.body.getD .skip) [.agg ⟨x1⟩] K h = inode_may x1 K h := by kernel_rfl
theorem inode_may.chk : fnOk (cx inode_may.lo inode_may.od) Tryd.f57 (Tryd.f57.body.getD .skip) 1 = true := by kernel_rfl
theorem inode_may.ok {x1 : List Value} {K : Value → Heap → Prop} {h : Heap} (hx : inode_may x1 K h) : C.inode_may x1 h K :=
  fn_to (cxOk _ _) Tryd.func57 (by kernel_rfl) inode_may.chk (by rw [inode_may.eq]; exact hx)

-- 58
def inode_numbers (x1 : List Value) (K : Value → Heap → Prop) (h1 : Heap) : Prop :=
  New x1 58 h1 fun h2 =>
  New z100 100 h2 fun h3 =>
  New z100 100 h3 fun h4 =>
  CopyP ti3 (some ⟨h3.size, 0, none⟩) 12 (.slice (some (Addr.add ⟨h1.size, 0, none⟩ 3)) 10 10) h4 fun n1 h5 =>
  ∃ (n2 : Int), cellOf h5 (Addr.add ⟨h1.size, 0, none⟩ 13) = some (.int .i64 n2) ∧
  ∃ (n3 : Int), cellOf h5 (Addr.add ⟨h1.size, 0, none⟩ 14) = some (.int .i64 n3) ∧
  (0 ≤ (10 : Int) ∧ 10 < (12 : Int)) ∧
  Put (Addr.add ⟨h3.size, 0, none⟩ (Int.toNat 10)) (.int .i64 n2) h5 fun h6 =>
  (0 ≤ (11 : Int) ∧ 11 < (12 : Int)) ∧
  Put (Addr.add ⟨h3.size, 0, none⟩ (Int.toNat 11)) (.int .i64 n3) h6 fun h7 =>
  ∃ cs1 : List Value, List.length cs1 = 12 ∧ Cells h7 ⟨h3.size, 0, none⟩ cs1 ∧
  PutRow ⟨h2.size, 0, none⟩ cs1 12 h7 fun h8 =>
  ∃ res1 : List Value, List.length res1 = 12 ∧ Cells h8 ⟨h2.size, 0, none⟩ res1 ∧
  K (.agg ⟨res1⟩) h8
def inode_numbers.lo : Nat → List Nat × List (Nat × Ty) := fun n => match n with | _ => ([], [])
def inode_numbers.od : Nat → Od := fun n => match n with | 2 => (.op 0 [] (.op 1 [] (.op 2 [] (.op 3 [] .nil)))) | _ => .nil
theorem inode_numbers.eq (x1 : List Value) (K : Value → Heap → Prop) (h : Heap) : fnX (cx inode_numbers.lo inode_numbers.od) Tryd.f58 (Tryd.f58.body.getD .skip) [.agg ⟨x1⟩] K h = inode_numbers x1 K h := by kernel_rfl
theorem inode_numbers.chk : fnOk (cx inode_numbers.lo inode_numbers.od) Tryd.f58 (Tryd.f58.body.getD .skip) 1 = true := by kernel_rfl
theorem inode_numbers.ok {x1 : List Value} {K : Value → Heap → Prop} {h : Heap} (hx : inode_numbers x1 K h) : C.inode_numbers x1 h K :=
  fn_to (cxOk _ _) Tryd.func58 (by kernel_rfl) inode_numbers.chk (by rw [inode_numbers.eq]; exact hx)

-- 59
def boleref11_number (bA1 : Option Addr) (bL1 : Nat) (bC1 : Nat) (K : Value → Heap → Prop) (h1 : Heap) : Prop :=
  ∃ (I1 : Int → Int → Heap → Prop) (M1 : Int → Int → Heap → Nat), I1 0 (IntKind.wrap .i64 ((bL1 : Int) - 1)) h1 ∧
  ∀ (n1 : Int) (i1 : Int), ∀ h2 : Heap, I1 n1 i1 h2 →
  bif (decide (i1 ≥ 0)) then (
  (0 ≤ i1 ∧ i1 < (bL1 : Int)) ∧
  onSome bA1 fun p1 =>
  ∃ (n2 : Int), cellOf h2 (Addr.add p1 (Int.toNat i1)) = some (.int .u8 n2) ∧
  I1 (IntKind.wrap .i64 ((IntKind.wrap .i64 (n1 * 256)) + (IntKind.wrap .i64 (n2)))) (IntKind.wrap .i64 (i1 - 1)) h2 ∧ M1 (IntKind.wrap .i64 ((IntKind.wrap .i64 (n1 * 256)) + (IntKind.wrap .i64 (n2)))) (IntKind.wrap .i64 (i1 - 1)) h2 < M1 n1 i1 h2) else (
  K (.int .i64 n1) h2)
def boleref11_number.lo : Nat → List Nat × List (Nat × Ty) := fun n => match n with | 3 => ([0], [(3, .int .i64), (4, .int .i64)]) | _ => ([], [])
def boleref11_number.od : Nat → Od := fun n => match n with | _ => .nil
theorem boleref11_number.eq (bA1 : Option Addr) (bL1 : Nat) (bC1 : Nat) (K : Value → Heap → Prop) (h : Heap) : fnX (cx boleref11_number.lo boleref11_number.od) Tryd.f59 (Tryd.f59.body.getD .skip) [.slice bA1 bL1 bC1] K h = boleref11_number bA1 bL1 bC1 K h := by kernel_rfl
theorem boleref11_number.chk : fnOk (cx boleref11_number.lo boleref11_number.od) Tryd.f59 (Tryd.f59.body.getD .skip) 1 = true := by kernel_rfl
theorem boleref11_number.ok {bA1 : Option Addr} {bL1 : Nat} {bC1 : Nat} {K : Value → Heap → Prop} {h : Heap} (hx : boleref11_number bA1 bL1 bC1 K h) : C.boleref11_number bA1 bL1 bC1 h K :=
  fn_to (cxOk _ _) Tryd.func59 (by kernel_rfl) boleref11_number.chk (by rw [boleref11_number.eq]; exact hx)

-- 60
def inode_Decode_c1 (at1 : Int) (n1 : Int) (cap1 : Option Addr) (K : Value → Heap → Prop) (h1 : Heap) : Prop :=
  onSome cap1 fun p1 =>
  ∃ (sA1 : Option Addr) (sL1 : Nat) (sC1 : Nat), cellOf h1 p1 = some (.slice sA1 sL1 sC1) ∧
  C.rec_Get sA1 sL1 sC1 at1 n1 h1 fun r1 h2 =>
  ∃ (n2 : Int) (n3 : Int), r1 = .tuple #[.int .u64 n2, .int .i64 n3] ∧
  K (.int .i64 (IntKind.wrap .i64 (n2))) h2
def inode_Decode_c1.lo : Nat → List Nat × List (Nat × Ty) := fun n => match n with | _ => ([], [])
def inode_Decode_c1.od : Nat → Od := fun n => match n with | _ => .nil
theorem inode_Decode_c1.eq (at1 : Int) (n1 : Int) (cap1 : Option Addr) (K : Value → Heap → Prop) (h : Heap) : fnX (cx inode_Decode_c1.lo inode_Decode_c1.od) Tryd.f60 (Tryd.f60.body.getD .skip) [.int .i64 at1, .int .i64 n1, .pointer cap1] K h = inode_Decode_c1 at1 n1 cap1 K h := by kernel_rfl
theorem inode_Decode_c1.chk : fnOk (cx inode_Decode_c1.lo inode_Decode_c1.od) Tryd.f60 (Tryd.f60.body.getD .skip) 3 = true := by kernel_rfl
theorem inode_Decode_c1.ok {at1 : Int} {n1 : Int} {cap1 : Option Addr} {K : Value → Heap → Prop} {h : Heap} (hx : inode_Decode_c1 at1 n1 cap1 K h) : C.inode_Decode_c1 at1 n1 cap1 h K :=
  fn_to (cxOk _ _) Tryd.func60 (by kernel_rfl) inode_Decode_c1.chk (by rw [inode_Decode_c1.eq]; exact hx)

-- 61
def head_may_c1 (i1 : Int) (cap1 : Option Addr) (cap2 : Option Addr) (K : Value → Heap → Prop) (h1 : Heap) : Prop :=
  onSome cap1 fun p1 =>
  ∃ (n1 : Int), cellOf h1 p1 = some (.int .i64 n1) ∧
  onSome cap1 fun p2 =>
  Put p2 (.int .i64 i1) h1 fun h2 =>
  bif (decide (i1 ≤ n1)) then (
  K (.bool true) h2) else (
  onSome cap2 fun p3 =>
  ∃ (n2 : Int), cellOf h2 p3 = some (.int .i64 n2) ∧
  K (.bool (decide (i1 ≥ n2))) h2)
def head_may_c1.lo : Nat → List Nat × List (Nat × Ty) := fun n => match n with | _ => ([], [])
def head_may_c1.od : Nat → Od := fun n => match n with | _ => .nil
theorem head_may_c1.eq (i1 : Int) (cap1 : Option Addr) (cap2 : Option Addr) (K : Value → Heap → Prop) (h : Heap) : fnX (cx head_may_c1.lo head_may_c1.od) Tryd.f61 (Tryd.f61.body.getD .skip) [.int .i64 i1, .pointer cap1, .pointer cap2] K h = head_may_c1 i1 cap1 cap2 K h := by kernel_rfl
theorem head_may_c1.chk : fnOk (cx head_may_c1.lo head_may_c1.od) Tryd.f61 (Tryd.f61.body.getD .skip) 3 = true := by kernel_rfl
theorem head_may_c1.ok {i1 : Int} {cap1 : Option Addr} {cap2 : Option Addr} {K : Value → Heap → Prop} {h : Heap} (hx : head_may_c1 i1 cap1 cap2 K h) : C.head_may_c1 i1 cap1 cap2 h K :=
  fn_to (cxOk _ _) Tryd.func61 (by kernel_rfl) head_may_c1.chk (by rw [head_may_c1.eq]; exact hx)

-- 62
def rec_ahead (bA1 : Option Addr) (bL1 : Nat) (bC1 : Nat) (K : Value → Heap → Prop) (h1 : Heap) : Prop :=
  ∃ (I1 : Int → Heap → Prop) (M1 : Int → Heap → Nat), I1 0 h1 ∧
  ∀ (n1 : Int), ∀ h2 : Heap, I1 n1 h2 →
  bif (decide (n1 < (bL1 : Int))) then (
  (0 ≤ n1 ∧ n1 < (bL1 : Int)) ∧
  onSome bA1 fun p1 =>
  ∃ (n2 : Int), cellOf h2 (Addr.add p1 (Int.toNat n1)) = some (.int .u8 n2) ∧
  bif (n2 == 0) then (
  K (.int .i64 n1) h2) else (
  I1 (IntKind.wrap .i64 (n1 + 1)) h2 ∧ M1 (IntKind.wrap .i64 (n1 + 1)) h2 < M1 n1 h2)) else (
  K (.int .i64 (bL1 : Int)) h2)
def rec_ahead.lo : Nat → List Nat × List (Nat × Ty) := fun n => match n with | 2 => ([0, 5, 6], [(7, .int .i64)]) | _ => ([], [])
def rec_ahead.od : Nat → Od := fun n => match n with | _ => .nil
theorem rec_ahead.eq (bA1 : Option Addr) (bL1 : Nat) (bC1 : Nat) (K : Value → Heap → Prop) (h : Heap) : fnX (cx rec_ahead.lo rec_ahead.od) Tryd.f62 (Tryd.f62.body.getD .skip) [.slice bA1 bL1 bC1] K h = rec_ahead bA1 bL1 bC1 K h := by kernel_rfl
theorem rec_ahead.chk : fnOk (cx rec_ahead.lo rec_ahead.od) Tryd.f62 (Tryd.f62.body.getD .skip) 1 = true := by kernel_rfl
theorem rec_ahead.ok {bA1 : Option Addr} {bL1 : Nat} {bC1 : Nat} {K : Value → Heap → Prop} {h : Heap} (hx : rec_ahead bA1 bL1 bC1 K h) : C.rec_ahead bA1 bL1 bC1 h K :=
  fn_to (cxOk _ _) Tryd.func62 (by kernel_rfl) rec_ahead.chk (by rw [rec_ahead.eq]; exact hx)

-- 63
def rec_lie (bA1 : Option Addr) (bL1 : Nat) (bC1 : Nat) (at1 : Int) (n1 : Int) (K : Value → Heap → Prop) (h1 : Heap) : Prop :=
  bif (decide (at1 ≥ 0)) then (
  bif (decide (n1 ≥ 0)) then (
  bif (decide (at1 ≤ (bL1 : Int))) then (
  K (.bool (decide (n1 ≤ (IntKind.wrap .i64 ((bL1 : Int) - at1))))) h1) else (
  K (.bool false) h1)) else (
  K (.bool false) h1)) else (
  K (.bool false) h1)
def rec_lie.lo : Nat → List Nat × List (Nat × Ty) := fun n => match n with | _ => ([], [])
def rec_lie.od : Nat → Od := fun n => match n with | _ => .nil
theorem rec_lie.eq (bA1 : Option Addr) (bL1 : Nat) (bC1 : Nat) (at1 : Int) (n1 : Int) (K : Value → Heap → Prop) (h : Heap) : fnX (cx rec_lie.lo rec_lie.od) Tryd.f63 (Tryd.f63.body.getD .skip) [.slice bA1 bL1 bC1, .int .i64 at1, .int .i64 n1] K h = rec_lie bA1 bL1 bC1 at1 n1 K h := by kernel_rfl
theorem rec_lie.chk : fnOk (cx rec_lie.lo rec_lie.od) Tryd.f63 (Tryd.f63.body.getD .skip) 3 = true := by kernel_rfl
theorem rec_lie.ok {bA1 : Option Addr} {bL1 : Nat} {bC1 : Nat} {at1 : Int} {n1 : Int} {K : Value → Heap → Prop} {h : Heap} (hx : rec_lie bA1 bL1 bC1 at1 n1 K h) : C.rec_lie bA1 bL1 bC1 at1 n1 h K :=
  fn_to (cxOk _ _) Tryd.func63 (by kernel_rfl) rec_lie.chk (by rw [rec_lie.eq]; exact hx)

-- 64
def rec_isWidth (n1 : Int) (K : Value → Heap → Prop) (h1 : Heap) : Prop :=
  bif (decide (n1 ≥ 0)) then (
  bif (decide (n1 < 9)) then (
  (0 ≤ n1 ∧ n1 < (9 : Int)) ∧
  ∃ (b1 : Bool), cellOf h1 (Addr.add ⟨0, 0, none⟩ (Int.toNat n1)) = some (.bool b1) ∧
  K (.bool b1) h1) else (
  K (.bool false) h1)) else (
  K (.bool false) h1)
def rec_isWidth.lo : Nat → List Nat × List (Nat × Ty) := fun n => match n with | _ => ([], [])
def rec_isWidth.od : Nat → Od := fun n => match n with | _ => .nil
theorem rec_isWidth.eq (n1 : Int) (K : Value → Heap → Prop) (h : Heap) : fnX (cx rec_isWidth.lo rec_isWidth.od) Tryd.f64 (Tryd.f64.body.getD .skip) [.int .i64 n1] K h = rec_isWidth n1 K h := by kernel_rfl
theorem rec_isWidth.chk : fnOk (cx rec_isWidth.lo rec_isWidth.od) Tryd.f64 (Tryd.f64.body.getD .skip) 1 = true := by kernel_rfl
theorem rec_isWidth.ok {n1 : Int} {K : Value → Heap → Prop} {h : Heap} (hx : rec_isWidth n1 K h) : C.rec_isWidth n1 h K :=
  fn_to (cxOk _ _) Tryd.func64 (by kernel_rfl) rec_isWidth.chk (by rw [rec_isWidth.eq]; exact hx)

-- 65
def bytes_Clone (bA1 : Option Addr) (bL1 : Nat) (bC1 : Nat) (K : Value → Heap → Prop) (h1 : Heap) : Prop :=
  bif (Option.isNone bA1) then (
  K (.slice none 0 0) h1) else (
  New [] 5 h1 fun h2 =>
  ∃ new1 : List Value, List.length new1 = bL1 * 1 ∧ SlCells h2 bA1 new1 ∧ (∀ v ∈ new1, v.oneCell' = true) ∧
  AppendP ti5 5 (some ⟨h1.size, 0, none⟩) 0 0 bL1 new1 h2 fun sA1 sL1 sC1 h3 =>
  K (.slice sA1 sL1 sC1) h3)
def bytes_Clone.lo : Nat → List Nat × List (Nat × Ty) := fun n => match n with | _ => ([], [])
def bytes_Clone.od : Nat → Od := fun n => match n with | _ => .nil
theorem bytes_Clone.eq (bA1 : Option Addr) (bL1 : Nat) (bC1 : Nat) (K : Value → Heap → Prop) (h : Heap) : fnX (cx bytes_Clone.lo bytes_Clone.od) Tryd.f65 (Tryd.f65.body.getD .skip) [.slice bA1 bL1 bC1] K h = bytes_Clone bA1 bL1 bC1 K h := by kernel_rfl
theorem bytes_Clone.chk : fnOk (cx bytes_Clone.lo bytes_Clone.od) Tryd.f65 (Tryd.f65.body.getD .skip) 1 = true := by kernel_rfl
theorem bytes_Clone.ok {bA1 : Option Addr} {bL1 : Nat} {bC1 : Nat} {K : Value → Heap → Prop} {h : Heap} (hx : bytes_Clone bA1 bL1 bC1 K h) : C.bytes_Clone bA1 bL1 bC1 h K :=
  fn_to (cxOk _ _) Tryd.func65 (by kernel_rfl) bytes_Clone.chk (by rw [bytes_Clone.eq]; exact hx)

-- 66
def sum_Of (bA1 : Option Addr) (bL1 : Nat) (bC1 : Nat) (K : Value → Heap → Prop) (h1 : Heap) : Prop :=
  ∃ (I1 : Int → Int → Heap → Prop) (M1 : Int → Int → Heap → Nat), I1 4294967295 0 h1 ∧
  ∀ (v1 : Int) (n1 : Int), ∀ h2 : Heap, I1 v1 n1 h2 →
  bif (decide (n1 < (bL1 : Int))) then (
  (0 ≤ n1 ∧ n1 < (bL1 : Int)) ∧
  onSome bA1 fun p1 =>
  ∃ (n2 : Int), cellOf h2 (Addr.add p1 (Int.toNat n1)) = some (.int .u8 n2) ∧
  C.sum_step v1 n2 h2 fun r1 h3 =>
  ∃ (n3 : Int), r1 = .int .u32 n3 ∧
  I1 n3 (IntKind.wrap .i64 (n1 + 1)) h3 ∧ M1 n3 (IntKind.wrap .i64 (n1 + 1)) h3 < M1 v1 n1 h2) else (
  K (.int .u32 (bitsI .xor .u32 (IntKind.max .u32) v1)) h2)
def sum_Of.lo : Nat → List Nat × List (Nat × Ty) := fun n => match n with | 3 => ([6, 7], [(3, .int .u32), (8, .int .i64)]) | _ => ([], [])
def sum_Of.od : Nat → Od := fun n => match n with | _ => .nil
theorem sum_Of.eq (bA1 : Option Addr) (bL1 : Nat) (bC1 : Nat) (K : Value → Heap → Prop) (h : Heap) : fnX (cx sum_Of.lo sum_Of.od) Tryd.f66 (Tryd.f66.body.getD .skip) [.slice bA1 bL1 bC1] K h = sum_Of bA1 bL1 bC1 K h := by kernel_rfl
theorem sum_Of.chk : fnOk (cx sum_Of.lo sum_Of.od) Tryd.f66 (Tryd.f66.body.getD .skip) 1 = true := by kernel_rfl
theorem sum_Of.ok {bA1 : Option Addr} {bL1 : Nat} {bC1 : Nat} {K : Value → Heap → Prop} {h : Heap} (hx : sum_Of bA1 bL1 bC1 K h) : C.sum_Of bA1 bL1 bC1 h K :=
  fn_to (cxOk _ _) Tryd.func66 (by kernel_rfl) sum_Of.chk (by rw [sum_Of.eq]; exact hx)

-- 67
def sum_Join.k1 (a1 : Int) (b1 : Int) (n1 : Int) (h1 : Heap) (K : Value → Heap → Prop) : Prop :=
  C.sum_behind a1 n1 h1 fun r1 h2 =>
  ∃ (n2 : Int), r1 = .int .u32 n2 ∧
  K (.tuple #[.int .u32 (bitsI .xor .u32 n2 b1), .int .i64 0]) h2
def sum_Join (a1 : Int) (b1 : Int) (n1 : Int) (K : Value → Heap → Prop) (h1 : Heap) : Prop :=
  bif (decide (n1 < 0)) then (
  K (.tuple #[.int .u32 0, .int .i64 1]) h1) else (
  bif (decide (n1 > 1099511627776)) then (
  K (.tuple #[.int .u32 0, .int .i64 1]) h1) else (
  sum_Join.k1 a1 b1 n1 h1 K))
def sum_Join.lo : Nat → List Nat × List (Nat × Ty) := fun n => match n with | _ => ([], [])
def sum_Join.od : Nat → Od := fun n => match n with | _ => .nil
theorem sum_Join.eq (a1 : Int) (b1 : Int) (n1 : Int) (K : Value → Heap → Prop) (h : Heap) : fnX (cx sum_Join.lo sum_Join.od) Tryd.f67 (Tryd.f67.body.getD .skip) [.int .u32 a1, .int .u32 b1, .int .i64 n1] K h = sum_Join a1 b1 n1 K h := by kernel_rfl
theorem sum_Join.chk : fnOk (cx sum_Join.lo sum_Join.od) Tryd.f67 (Tryd.f67.body.getD .skip) 3 = true := by kernel_rfl
theorem sum_Join.ok {a1 : Int} {b1 : Int} {n1 : Int} {K : Value → Heap → Prop} {h : Heap} (hx : sum_Join a1 b1 n1 K h) : C.sum_Join a1 b1 n1 h K :=
  fn_to (cxOk _ _) Tryd.func67 (by kernel_rfl) sum_Join.chk (by rw [sum_Join.eq]; exact hx)

-- 68
def boleref01_Of (bA1 : Option Addr) (bL1 : Nat) (bC1 : Nat) (K : Value → Heap → Prop) (h1 : Heap) : Prop :=
  ∃ (I1 : Int → Int → Heap → Prop) (M1 : Int → Int → Heap → Nat), I1 4294967295 0 h1 ∧
  ∀ (w1 : Int) (i1 : Int), ∀ h2 : Heap, I1 w1 i1 h2 →
  bif (decide (i1 < (bL1 : Int))) then (
  (0 ≤ i1 ∧ i1 < (bL1 : Int)) ∧
  onSome bA1 fun p1 =>
  ∃ (n1 : Int), cellOf h2 (Addr.add p1 (Int.toNat i1)) = some (.int .u8 n1) ∧
  ∃ (I2 : Int → Int → Heap → Prop) (M2 : Int → Int → Heap → Nat), I2 (bitsI .xor .u32 w1 (IntKind.wrap .u32 (n1))) 0 h2 ∧
  ∀ (w2 : Int) (k1 : Int), ∀ h3 : Heap, I2 w2 k1 h3 →
  bif (decide (k1 < 8)) then (
  C.boleref01_one w2 h3 fun r1 h4 =>
  ∃ (n2 : Int), r1 = .int .u32 n2 ∧
  I2 n2 (IntKind.wrap .i64 (k1 + 1)) h4 ∧ M2 n2 (IntKind.wrap .i64 (k1 + 1)) h4 < M2 w2 k1 h3) else (
  I1 w2 (IntKind.wrap .i64 (i1 + 1)) h3 ∧ M1 w2 (IntKind.wrap .i64 (i1 + 1)) h3 < M1 w1 i1 h2)) else (
  K (.int .u32 (bitsI .xor .u32 w1 4294967295)) h2)
def boleref01_Of.lo : Nat → List Nat × List (Nat × Ty) := fun n => match n with | 3 => ([0], [(3, .int .u32), (4, .int .i64)]) | 7 => ([0, 4], [(3, .int .u32), (5, .int .i64)]) | _ => ([], [])
def boleref01_Of.od : Nat → Od := fun n => match n with | _ => .nil
theorem boleref01_Of.eq (bA1 : Option Addr) (bL1 : Nat) (bC1 : Nat) (K : Value → Heap → Prop) (h : Heap) : fnX (cx boleref01_Of.lo boleref01_Of.od) Tryd.f68 (Tryd.f68.body.getD .skip) [.slice bA1 bL1 bC1] K h = boleref01_Of bA1 bL1 bC1 K h := by kernel_rfl
theorem boleref01_Of.chk : fnOk (cx boleref01_Of.lo boleref01_Of.od) Tryd.f68 (Tryd.f68.body.getD .skip) 1 = true := by kernel_rfl
theorem boleref01_Of.ok {bA1 : Option Addr} {bL1 : Nat} {bC1 : Nat} {K : Value → Heap → Prop} {h : Heap} (hx : boleref01_Of bA1 bL1 bC1 K h) : C.boleref01_Of bA1 bL1 bC1 h K :=
  fn_to (cxOk _ _) Tryd.func68 (by kernel_rfl) boleref01_Of.chk (by rw [boleref01_Of.eq]; exact hx)

-- 69
def rec_zeros (bA1 : Option Addr) (bL1 : Nat) (bC1 : Nat) (K : Value → Heap → Prop) (h1 : Heap) : Prop :=
  ∃ (I1 : Int → Heap → Prop) (M1 : Int → Heap → Nat), I1 0 h1 ∧
  ∀ (n1 : Int), ∀ h2 : Heap, I1 n1 h2 →
  bif (decide (n1 < (bL1 : Int))) then (
  (0 ≤ n1 ∧ n1 < (bL1 : Int)) ∧
  onSome bA1 fun p1 =>
  ∃ (n2 : Int), cellOf h2 (Addr.add p1 (Int.toNat n1)) = some (.int .u8 n2) ∧
  bif (n2 != 0) then (
  K (.bool false) h2) else (
  I1 (IntKind.wrap .i64 (n1 + 1)) h2 ∧ M1 (IntKind.wrap .i64 (n1 + 1)) h2 < M1 n1 h2)) else (
  K (.bool true) h2)
def rec_zeros.lo : Nat → List Nat × List (Nat × Ty) := fun n => match n with | 2 => ([5, 6], [(7, .int .i64)]) | _ => ([], [])
def rec_zeros.od : Nat → Od := fun n => match n with | _ => .nil
theorem rec_zeros.eq (bA1 : Option Addr) (bL1 : Nat) (bC1 : Nat) (K : Value → Heap → Prop) (h : Heap) : fnX (cx rec_zeros.lo rec_zeros.od) Tryd.f69 (Tryd.f69.body.getD .skip) [.slice bA1 bL1 bC1] K h = rec_zeros bA1 bL1 bC1 K h := by kernel_rfl
theorem rec_zeros.chk : fnOk (cx rec_zeros.lo rec_zeros.od) Tryd.f69 (Tryd.f69.body.getD .skip) 1 = true := by kernel_rfl
theorem rec_zeros.ok {bA1 : Option Addr} {bL1 : Nat} {bC1 : Nat} {K : Value → Heap → Prop} {h : Heap} (hx : rec_zeros bA1 bL1 bC1 K h) : C.rec_zeros bA1 bL1 bC1 h K :=
  fn_to (cxOk _ _) Tryd.func69 (by kernel_rfl) rec_zeros.chk (by rw [rec_zeros.eq]; exact hx)

-- 70
def inode_isInode (g1 : List Value) (n1 : Int) (K : Value → Heap → Prop) (h1 : Heap) : Prop :=
  New g1 87 h1 fun h2 =>
  ∃ (n2 : Int), cellOf h2 (Addr.add ⟨h1.size, 0, none⟩ 4) = some (.int .i64 n2) ∧
  C.inode_within n1 1 (IntKind.wrap .i64 (n2 - 1)) h2 fun r1 h3 =>
  ∃ (b1 : Bool), r1 = .bool b1 ∧
  K (.bool b1) h3
def inode_isInode.lo : Nat → List Nat × List (Nat × Ty) := fun n => match n with | _ => ([], [])
def inode_isInode.od : Nat → Od := fun n => match n with | _ => .nil
theorem inode_isInode.eq (g1 : List Value) (n1 : Int) (K : Value → Heap → Prop) (h : Heap) : fnX (cx inode_isInode.lo inode_isInode.od) Tryd.f70 (Tryd.f70.body.getD .skip) [.agg ⟨g1⟩, .int .i64 n1] K h = inode_isInode g1 n1 K h := by kernel_rfl
theorem inode_isInode.chk : fnOk (cx inode_isInode.lo inode_isInode.od) Tryd.f70 (Tryd.f70.body.getD .skip) 2 = true := by kernel_rfl
theorem inode_isInode.ok {g1 : List Value} {n1 : Int} {K : Value → Heap → Prop} {h : Heap} (hx : inode_isInode g1 n1 K h) : C.inode_isInode g1 n1 h K :=
  fn_to (cxOk _ _) Tryd.func70 (by kernel_rfl) inode_isInode.chk (by rw [inode_isInode.eq]; exact hx)

-- 71
def inode_place (t1 : Option Addr) (g1 : List Value) (n1 : Int) (K : Value → Heap → Prop) (h1 : Heap) : Prop :=
  New g1 87 h1 fun h2 =>
  ∃ cs1 : List Value, List.length cs1 = 5 ∧ Cells h2 ⟨h1.size, 0, none⟩ cs1 ∧
  C.geo_Record cs1 n1 h2 fun r1 h3 =>
  ∃ (n2 : Int) (n3 : Int) (n4 : Int), r1 = .tuple #[.int .i64 n2, .int .i64 n3, .int .i64 n4] ∧
  bif (n4 != 0) then (
  K (.tuple #[.int .i64 0, .slice none 0 0, .int .i64 0, .int .i64 n4]) h3) else (
  C.txn_Txn_Read t1 n2 h3 fun r2 h4 =>
  ∃ (sA1 : Option Addr) (sL1 : Nat) (sC1 : Nat) (n5 : Int), r2 = .tuple #[.slice sA1 sL1 sC1, .int .i64 n5] ∧
  K (.tuple #[.int .i64 n2, .slice sA1 sL1 sC1, .int .i64 n3, .int .i64 n5]) h4)
def inode_place.lo : Nat → List Nat × List (Nat × Ty) := fun n => match n with | _ => ([], [])
def inode_place.od : Nat → Od := fun n => match n with | _ => .nil
theorem inode_place.eq (t1 : Option Addr) (g1 : List Value) (n1 : Int) (K : Value → Heap → Prop) (h : Heap) : fnX (cx inode_place.lo inode_place.od) Tryd.f71 (Tryd.f71.body.getD .skip) [.pointer t1, .agg ⟨g1⟩, .int .i64 n1] K h = inode_place t1 g1 n1 K h := by kernel_rfl
theorem inode_place.chk : fnOk (cx inode_place.lo inode_place.od) Tryd.f71 (Tryd.f71.body.getD .skip) 3 = true := by kernel_rfl
theorem inode_place.ok {t1 : Option Addr} {g1 : List Value} {n1 : Int} {K : Value → Heap → Prop} {h : Heap} (hx : inode_place t1 g1 n1 K h) : C.inode_place t1 g1 n1 h K :=
  fn_to (cxOk _ _) Tryd.func71 (by kernel_rfl) inode_place.chk (by rw [inode_place.eq]; exact hx)
end Go.Proofs.YtnlmieklakolkaaDoor.W
