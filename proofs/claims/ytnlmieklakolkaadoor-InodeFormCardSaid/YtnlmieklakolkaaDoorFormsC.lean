/-
  WHAT THE FUNCTIONS COMPUTE, as formulas; each held against the loaded code by the kernel. Written by program (gen.py).
-/
import Derived.Test.YtnlmieklakolkaaDoorTab
namespace Go.Proofs.YtnlmieklakolkaaDoor.W
open Go Go.Proofs Go.Proofs.YtnlmieklakolkaaDoor.Wx
-- 28
def bolelaw11_fixed.k2 (h3 : Heap) (h6 : Heap) (q2 : Option Addr) (K : Value → Heap → Prop) : Prop :=
  C.bolelaw11_plain  h6 fun r4 h7 =>
  ∃ (cs2 : List Value), r4 = .agg ⟨cs2⟩ ∧
  NewRow z58 58 cs2 15 h7 fun h9 =>
  ∃ cs3 : List Value, List.length cs3 = 15 ∧ Cells h9 ⟨h7.size, 0, none⟩ cs3 ∧
  C.inode_Encode cs3 h9 fun r5 h10 =>
  ∃ (sA1 : Option Addr) (sL1 : Nat) (sC1 : Nat) (n3 : Int), r5 = .tuple #[.slice sA1 sL1 sC1, .int .i64 n3] ∧
  ∃ cs4 : List Value, List.length cs4 = 5 ∧ Cells h10 ⟨h3.size, 0, none⟩ cs4 ∧
  ∃ cs5 : List Value, List.length cs5 = 15 ∧ Cells h10 ⟨h7.size, 0, none⟩ cs5 ∧
  C.inode_Put q2 cs4 8 cs5 h10 fun r6 h11 =>
  ∃ (n4 : Int), r6 = .int .i64 n4 ∧
  ∃ cs6 : List Value, List.length cs6 = 5 ∧ Cells h11 ⟨h3.size, 0, none⟩ cs6 ∧
  ∃ cs7 : List Value, List.length cs7 = 15 ∧ Cells h11 ⟨h7.size, 0, none⟩ cs7 ∧
  C.inode_Take q2 cs6 cs7 h11 fun r7 h12 =>
  ∃ (n5 : Int) (n6 : Int), r7 = .tuple #[.int .i64 n5, .int .i64 n6] ∧
  ∃ cs8 : List Value, List.length cs8 = 5 ∧ Cells h12 ⟨h3.size, 0, none⟩ cs8 ∧
  C.inode_Get q2 cs8 8 h12 fun r8 h13 =>
  ∃ (cs9 : List Value) (n7 : Int), r8 = .tuple #[.agg ⟨cs9⟩, .int .i64 n7] ∧
  NewRow z58 58 cs9 15 h13 fun h15 =>
  ∃ cs10 : List Value, List.length cs10 = 5 ∧ Cells h15 ⟨h3.size, 0, none⟩ cs10 ∧
  C.inode_Free q2 cs10 h15 fun r9 h16 =>
  ∃ (n8 : Int) (n9 : Int), r9 = .tuple #[.int .i64 n8, .int .i64 n9] ∧
  New [.int .u8 0] 5 h16 fun h17 =>
  ∃ new1 : List Value, List.length new1 = 1 * 1 ∧ SlCells h17 (some ⟨h16.size, 0, none⟩) new1 ∧ (∀ v ∈ new1, v.oneCell' = true) ∧
  AppendP ti5 5 sA1 sL1 sC1 1 new1 h17 fun sA2 sL2 sC2 h18 =>
  C.inode_Decode sA2 sL2 sC2 h18 fun r10 h19 =>
  ∃ (cs11 : List Value) (n10 : Int), r10 = .tuple #[.agg ⟨cs11⟩, .int .i64 n10] ∧
  NewRow z58 58 cs11 15 h19 fun h21 =>
  C.inode_Decode sA1 sL1 sC1 h21 fun r11 h22 =>
  ∃ (cs12 : List Value) (n11 : Int), r11 = .tuple #[.agg ⟨cs12⟩, .int .i64 n11] ∧
  NewRow z58 58 cs12 15 h22 fun h24 =>
  bif (n3 == 0) then (
  bif ((sL1 : Int) == 64) then (
  (0 ≤ (8 : Int) ∧ 8 < (sL1 : Int)) ∧
  onSome sA1 fun p1 =>
  ∃ (n12 : Int), cellOf h24 (Addr.add p1 (Int.toNat 8)) = some (.int .u8 n12) ∧
  bif (n12 == 101) then (
  bif (n4 == 0) then (
  bif (n6 == 0) then (
  bif (n5 == 1) then (
  bif (n7 == 0) then (
  ∃ cs13 : List Value, List.length cs13 = 15 ∧ Cells h24 ⟨h13.size, 0, none⟩ cs13 ∧
  ∃ cs14 : List Value, List.length cs14 = 15 ∧ Cells h24 ⟨h7.size, 0, none⟩ cs14 ∧
  pairsOk [(.int .i64), (.int .i64), (.int .i64), (.int .i64), (.int .i64), (.int .i64), (.int .i64), (.int .i64), (.int .i64), (.int .i64), (.int .i64), (.int .i64), (.int .i64), (.int .i64), (.int .i64)] cs13 cs14 = true ∧
  bif (cellsEq cs13 cs14) then (
  bif (n9 == 0) then (
  bif (n8 == 13) then (
  bif (n10 == 32) then (
  bif (n11 == 0) then (
  ∃ cs15 : List Value, List.length cs15 = 15 ∧ Cells h24 ⟨h22.size, 0, none⟩ cs15 ∧
  ∃ cs16 : List Value, List.length cs16 = 15 ∧ Cells h24 ⟨h7.size, 0, none⟩ cs16 ∧
  pairsOk [(.int .i64), (.int .i64), (.int .i64), (.int .i64), (.int .i64), (.int .i64), (.int .i64), (.int .i64), (.int .i64), (.int .i64), (.int .i64), (.int .i64), (.int .i64), (.int .i64), (.int .i64)] cs15 cs16 = true ∧
  K (.bool (cellsEq cs15 cs16)) h24) else (
  K (.bool false) h24)) else (
  K (.bool false) h24)) else (
  K (.bool false) h24)) else (
  K (.bool false) h24)) else (
  K (.bool false) h24)) else (
  K (.bool false) h24)) else (
  K (.bool false) h24)) else (
  K (.bool false) h24)) else (
  K (.bool false) h24)) else (
  K (.bool false) h24)) else (
  K (.bool false) h24)) else (
  K (.bool false) h24)
def bolelaw11_fixed.k1 (h2 : Heap) (q1 : Option Addr) (K : Value → Heap → Prop) : Prop :=
  C.boleref07_Of 128 h2 fun r2 h3 =>
  ∃ (cs1 : List Value) (n2 : Int), r2 = .tuple #[.agg ⟨cs1⟩, .int .i64 n2] ∧
  NewRow z87 87 cs1 5 h3 fun h5 =>
  C.txn_Begin q1 h5 fun r3 h6 =>
  ∃ (q2 : Option Addr), r3 = .pointer q2 ∧
  bif (n2 != 0) then (
  K (.bool false) h6) else (
  bif (Option.isNone q2) then (
  K (.bool false) h6) else (
  bolelaw11_fixed.k2 h3 h6 q2 K))
def bolelaw11_fixed  (K : Value → Heap → Prop) (h1 : Heap) : Prop :=
  C.adisk_New 128 h1 fun r1 h2 =>
  ∃ (q1 : Option Addr) (n1 : Int), r1 = .tuple #[.pointer q1, .int .i64 n1] ∧
  bif (n1 != 0) then (
  K (.bool false) h2) else (
  bif (Option.isNone q1) then (
  K (.bool false) h2) else (
  bolelaw11_fixed.k1 h2 q1 K))
def bolelaw11_fixed.lo : Nat → List Nat × List (Nat × Ty) := fun n => match n with | _ => ([], [])
def bolelaw11_fixed.od : Nat → Od := fun n => match n with | _ => .nil
theorem bolelaw11_fixed.eq  (K : Value → Heap → Prop) (h : Heap) : fnX (cx bolelaw11_fixed.lo bolelaw11_fixed.od) Tryd.f28 (Tryd.f28.body.getD .skip) [] K h = bolelaw11_fixed  K h := by kernel_rfl
theorem bolelaw11_fixed.chk : fnOk (cx bolelaw11_fixed.lo bolelaw11_fixed.od) Tryd.f28 (Tryd.f28.body.getD .skip) 0 = true := by kernel_rfl
theorem bolelaw11_fixed.ok  {K : Value → Heap → Prop} {h : Heap} (hx : bolelaw11_fixed  K h) : C.bolelaw11_fixed  h K :=
  fn_to (cxOk _ _) Tryd.func28 (by kernel_rfl) bolelaw11_fixed.chk (by rw [bolelaw11_fixed.eq]; exact hx)

-- 29
def boleref11_Encode (x1 : List Value) (K : Value → Heap → Prop) (h1 : Heap) : Prop :=
  New x1 58 h1 fun h2 =>
  ∃ cs1 : List Value, List.length cs1 = 15 ∧ Cells h2 ⟨h1.size, 0, none⟩ cs1 ∧
  C.boleref11_May cs1 h2 fun r1 h3 =>
  ∃ (b1 : Bool), r1 = .bool b1 ∧
  bif (!b1) then (
  K (.tuple #[.slice none 0 0, .int .i64 111]) h3) else (
  ∃ cs2 : List Value, List.length cs2 = 15 ∧ Cells h3 ⟨h1.size, 0, none⟩ cs2 ∧
  C.boleref11_laid cs2 h3 fun r2 h4 =>
  ∃ (sA1 : Option Addr) (sL1 : Nat) (sC1 : Nat), r2 = .slice sA1 sL1 sC1 ∧
  K (.tuple #[.slice sA1 sL1 sC1, .int .i64 0]) h4)
def boleref11_Encode.lo : Nat → List Nat × List (Nat × Ty) := fun n => match n with | _ => ([], [])
def boleref11_Encode.od : Nat → Od := fun n => match n with | _ => .nil
theorem boleref11_Encode.eq (x1 : List Value) (K : Value → Heap → Prop) (h : Heap) : fnX (cx boleref11_Encode.lo boleref11_Encode.od) Tryd.f29 (Tryd.f29.body.getD .skip) [.agg ⟨x1⟩] K h = boleref11_Encode x1 K h := by kernel_rfl
theorem boleref11_Encode.chk : fnOk (cx boleref11_Encode.lo boleref11_Encode.od) Tryd.f29 (Tryd.f29.body.getD .skip) 1 = true := by kernel_rfl
theorem boleref11_Encode.ok {x1 : List Value} {K : Value → Heap → Prop} {h : Heap} (hx : boleref11_Encode x1 K h) : C.boleref11_Encode x1 h K :=
  fn_to (cxOk _ _) Tryd.func29 (by kernel_rfl) boleref11_Encode.chk (by rw [boleref11_Encode.eq]; exact hx)

-- 30
def inode_Encode (x1 : List Value) (K : Value → Heap → Prop) (h1 : Heap) : Prop :=
  New x1 58 h1 fun h2 =>
  ∃ cs1 : List Value, List.length cs1 = 15 ∧ Cells h2 ⟨h1.size, 0, none⟩ cs1 ∧
  C.inode_may cs1 h2 fun r1 h3 =>
  ∃ (b1 : Bool), r1 = .bool b1 ∧
  bif (!b1) then (
  K (.tuple #[.slice none 0 0, .int .i64 111]) h3) else (
  (0 ≤ (64 : Int) ∧ (64 : Int) ≤ 64 ∧ (1 : Int) * 64 ≤ 281474976710656 ∧ (64 : Int) ≤ 281474976710656) ∧
  New (repCells z5 (Int.toNat 64)) 5 h3 fun h4 =>
  ∃ (n1 : Int), cellOf h4 (Addr.add ⟨h1.size, 0, none⟩ 0) = some (.int .i64 n1) ∧
  C.rec_Put (some ⟨h3.size, 0, none⟩) (Int.toNat 64) (Int.toNat 64) 0 1 (IntKind.wrap .u64 (n1)) h4 fun r2 h5 =>
  ∃ (n2 : Int), r2 = .int .i64 n2 ∧
  ∃ (n3 : Int), cellOf h5 (Addr.add ⟨h1.size, 0, none⟩ 1) = some (.int .i64 n3) ∧
  C.rec_Put (some ⟨h3.size, 0, none⟩) (Int.toNat 64) (Int.toNat 64) 2 2 (IntKind.wrap .u64 (n3)) h5 fun r3 h6 =>
  ∃ (n4 : Int), r3 = .int .i64 n4 ∧
  ∃ (n5 : Int), cellOf h6 (Addr.add ⟨h1.size, 0, none⟩ 2) = some (.int .i64 n5) ∧
  C.rec_Put (some ⟨h3.size, 0, none⟩) (Int.toNat 64) (Int.toNat 64) 4 4 (IntKind.wrap .u64 (n5)) h6 fun r4 h7 =>
  ∃ (n6 : Int), r4 = .int .i64 n6 ∧
  ∃ cs2 : List Value, List.length cs2 = 15 ∧ Cells h7 ⟨h1.size, 0, none⟩ cs2 ∧
  C.inode_numbers cs2 h7 fun r5 h8 =>
  ∃ (cs3 : List Value), r5 = .agg ⟨cs3⟩ ∧
  ∃ (I1 : Int → Heap → Prop) (M1 : Int → Heap → Nat), I1 0 h8 ∧
  ∀ (n7 : Int), ∀ h9 : Heap, I1 n7 h9 →
  bif (decide (n7 < 12)) then (
  (0 ≤ n7 ∧ n7 < (12 : Int)) ∧
  ∃ (n8 : Int), cs3[(Int.toNat n7)]? = some (.int .i64 n8) ∧
  C.rec_Put (some ⟨h3.size, 0, none⟩) (Int.toNat 64) (Int.toNat 64) (IntKind.wrap .i64 (8 + (IntKind.wrap .i64 (4 * n7)))) 4 (IntKind.wrap .u64 (n8)) h9 fun r6 h10 =>
  ∃ (n9 : Int), r6 = .int .i64 n9 ∧
  I1 (IntKind.wrap .i64 (n7 + 1)) h10 ∧ M1 (IntKind.wrap .i64 (n7 + 1)) h10 < M1 n7 h9) else (
  K (.tuple #[.slice (some ⟨h3.size, 0, none⟩) (Int.toNat 64) (Int.toNat 64), .int .i64 0]) h9))
def inode_Encode.lo : Nat → List Nat × List (Nat × Ty) := fun n => match n with | 8 => ([4, 27], [(28, .int .i64)]) | _ => ([], [])
def inode_Encode.od : Nat → Od := fun n => match n with | _ => .nil
theorem inode_Encode.eq (x1 : List Value) (K : Value → Heap → Prop) (h : Heap) : fnX (cx inode_Encode.lo inode_Encode.od) Tryd.f30 (Tryd.f30.body.getD .skip) [.agg ⟨x1⟩] K h = inode_Encode x1 K h := by kernel_rfl
theorem inode_Encode.chk : fnOk (cx inode_Encode.lo inode_Encode.od) Tryd.f30 (Tryd.f30.body.getD .skip) 1 = true := by kernel_rfl
theorem inode_Encode.ok {x1 : List Value} {K : Value → Heap → Prop} {h : Heap} (hx : inode_Encode x1 K h) : C.inode_Encode x1 h K :=
  fn_to (cxOk _ _) Tryd.func30 (by kernel_rfl) inode_Encode.chk (by rw [inode_Encode.eq]; exact hx)

-- 31
def bolelaw11_mod (k1 : Int) (n1 : Int) (K : Value → Heap → Prop) (h1 : Heap) : Prop :=
  if n1 = 0 then False else
  bif (decide ((Int.tmod k1 n1) < 0)) then (
  K (.int .i64 (IntKind.wrap .i64 ((Int.tmod k1 n1) + n1))) h1) else (
  K (.int .i64 (Int.tmod k1 n1)) h1)
def bolelaw11_mod.lo : Nat → List Nat × List (Nat × Ty) := fun n => match n with | _ => ([], [])
def bolelaw11_mod.od : Nat → Od := fun n => match n with | _ => .nil
theorem bolelaw11_mod.eq (k1 : Int) (n1 : Int) (K : Value → Heap → Prop) (h : Heap) : fnX (cx bolelaw11_mod.lo bolelaw11_mod.od) Tryd.f31 (Tryd.f31.body.getD .skip) [.int .i64 k1, .int .i64 n1] K h = bolelaw11_mod k1 n1 K h := by kernel_rfl
theorem bolelaw11_mod.chk : fnOk (cx bolelaw11_mod.lo bolelaw11_mod.od) Tryd.f31 (Tryd.f31.body.getD .skip) 2 = true := by kernel_rfl
theorem bolelaw11_mod.ok {k1 : Int} {n1 : Int} {K : Value → Heap → Prop} {h : Heap} (hx : bolelaw11_mod k1 n1 K h) : C.bolelaw11_mod k1 n1 h K :=
  fn_to (cxOk _ _) Tryd.func31 (by kernel_rfl) bolelaw11_mod.chk (by rw [bolelaw11_mod.eq]; exact hx)

-- 32
def boleref11_Decode.k1 (bA1 : Option Addr) (bL1 : Nat) (bC1 : Nat) (h1 : Heap) (x1 : Option Addr) (h9 : Heap) (K : Value → Heap → Prop) : Prop :=
  ∃ (I1 : Int → Heap → Prop) (M1 : Int → Heap → Nat), I1 0 h9 ∧
  ∀ (i1 : Int), ∀ h10 : Heap, I1 i1 h10 →
  bif (decide (i1 < 10)) then (
  (0 ≤ (IntKind.wrap .i64 (8 + (IntKind.wrap .i64 (4 * i1)))) ∧ (IntKind.wrap .i64 (8 + (IntKind.wrap .i64 (4 * i1)))) ≤ (IntKind.wrap .i64 (12 + (IntKind.wrap .i64 (4 * i1)))) ∧ (IntKind.wrap .i64 (12 + (IntKind.wrap .i64 (4 * i1)))) ≤ (bC1 : Int)) ∧
  C.boleref11_number (if bC1 = (Int.toNat (IntKind.wrap .i64 (8 + (IntKind.wrap .i64 (4 * i1))))) then bA1 else Option.map (Addr.add · (Int.toNat (IntKind.wrap .i64 (8 + (IntKind.wrap .i64 (4 * i1)))))) bA1) ((Int.toNat (IntKind.wrap .i64 (12 + (IntKind.wrap .i64 (4 * i1))))) - (Int.toNat (IntKind.wrap .i64 (8 + (IntKind.wrap .i64 (4 * i1)))))) (bC1 - (Int.toNat (IntKind.wrap .i64 (8 + (IntKind.wrap .i64 (4 * i1)))))) h10 fun r4 h11 =>
  ∃ (n4 : Int), r4 = .int .i64 n4 ∧
  onSome x1 fun p1 =>
  (0 ≤ i1 ∧ i1 < (10 : Int)) ∧
  Put (Addr.add (Addr.add p1 3) (Int.toNat i1)) (.int .i64 n4) h11 fun h12 =>
  I1 (IntKind.wrap .i64 (i1 + 1)) h12 ∧ M1 (IntKind.wrap .i64 (i1 + 1)) h12 < M1 i1 h10) else (
  (0 ≤ (48 : Int) ∧ (48 : Int) ≤ (52 : Int) ∧ (52 : Int) ≤ (bC1 : Int)) ∧
  C.boleref11_number (if bC1 = (Int.toNat 48) then bA1 else Option.map (Addr.add · (Int.toNat 48)) bA1) ((Int.toNat 52) - (Int.toNat 48)) (bC1 - (Int.toNat 48)) h10 fun r5 h13 =>
  ∃ (n5 : Int), r5 = .int .i64 n5 ∧
  onSome x1 fun p2 =>
  Put (Addr.add p2 13) (.int .i64 n5) h13 fun h14 =>
  (0 ≤ (52 : Int) ∧ (52 : Int) ≤ (56 : Int) ∧ (56 : Int) ≤ (bC1 : Int)) ∧
  C.boleref11_number (if bC1 = (Int.toNat 52) then bA1 else Option.map (Addr.add · (Int.toNat 52)) bA1) ((Int.toNat 56) - (Int.toNat 52)) (bC1 - (Int.toNat 52)) h14 fun r6 h15 =>
  ∃ (n6 : Int), r6 = .int .i64 n6 ∧
  onSome x1 fun p3 =>
  Put (Addr.add p3 14) (.int .i64 n6) h15 fun h16 =>
  onSome x1 fun p4 =>
  ∃ cs1 : List Value, List.length cs1 = 15 ∧ Cells h16 p4 cs1 ∧
  C.boleref11_Encode cs1 h16 fun r7 h17 =>
  ∃ (sA1 : Option Addr) (sL1 : Nat) (sC1 : Nat) (n7 : Int), r7 = .tuple #[.slice sA1 sL1 sC1, .int .i64 n7] ∧
  bif (n7 != 0) then (
  PutRow ⟨h1.size, 0, none⟩ [.int .i64 0, .int .i64 0, .int .i64 0, .int .i64 0, .int .i64 0, .int .i64 0, .int .i64 0, .int .i64 0, .int .i64 0, .int .i64 0, .int .i64 0, .int .i64 0, .int .i64 0, .int .i64 0, .int .i64 0] 15 h17 fun h18 =>
  ∃ res2 : List Value, List.length res2 = 15 ∧ Cells h18 ⟨h1.size, 0, none⟩ res2 ∧
  K (.tuple #[.agg ⟨res2⟩, .int .i64 111]) h18) else (
  ∃ bs1 : List UInt8, StrAt h17 sA1 sL1 bs1 ∧
  ∃ bs2 : List UInt8, StrAt h17 bA1 bL1 bs2 ∧
  bif (!((mkStr bs1).toList == (mkStr bs2).toList)) then (
  PutRow ⟨h1.size, 0, none⟩ [.int .i64 0, .int .i64 0, .int .i64 0, .int .i64 0, .int .i64 0, .int .i64 0, .int .i64 0, .int .i64 0, .int .i64 0, .int .i64 0, .int .i64 0, .int .i64 0, .int .i64 0, .int .i64 0, .int .i64 0] 15 h17 fun h19 =>
  ∃ res3 : List Value, List.length res3 = 15 ∧ Cells h19 ⟨h1.size, 0, none⟩ res3 ∧
  K (.tuple #[.agg ⟨res3⟩, .int .i64 111]) h19) else (
  onSome x1 fun p5 =>
  ∃ cs2 : List Value, List.length cs2 = 15 ∧ Cells h17 p5 cs2 ∧
  PutRow ⟨h1.size, 0, none⟩ cs2 15 h17 fun h20 =>
  ∃ res4 : List Value, List.length res4 = 15 ∧ Cells h20 ⟨h1.size, 0, none⟩ res4 ∧
  K (.tuple #[.agg ⟨res4⟩, .int .i64 0]) h20)))
def boleref11_Decode (bA1 : Option Addr) (bL1 : Nat) (bC1 : Nat) (K : Value → Heap → Prop) (h1 : Heap) : Prop :=
  New z58 58 h1 fun h2 =>
  bif ((bL1 : Int) != 64) then (
  PutRow ⟨h1.size, 0, none⟩ [.int .i64 0, .int .i64 0, .int .i64 0, .int .i64 0, .int .i64 0, .int .i64 0, .int .i64 0, .int .i64 0, .int .i64 0, .int .i64 0, .int .i64 0, .int .i64 0, .int .i64 0, .int .i64 0, .int .i64 0] 15 h2 fun h3 =>
  ∃ res1 : List Value, List.length res1 = 15 ∧ Cells h3 ⟨h1.size, 0, none⟩ res1 ∧
  K (.tuple #[.agg ⟨res1⟩, .int .i64 32]) h3) else (
  (0 ≤ (0 : Int) ∧ (0 : Int) ≤ (1 : Int) ∧ (1 : Int) ≤ (bC1 : Int)) ∧
  (0 ≤ (2 : Int) ∧ (2 : Int) ≤ (4 : Int) ∧ (4 : Int) ≤ (bC1 : Int)) ∧
  (0 ≤ (4 : Int) ∧ (4 : Int) ≤ (8 : Int) ∧ (8 : Int) ≤ (bC1 : Int)) ∧
  (
  C.boleref11_number (if bC1 = (Int.toNat 0) then bA1 else Option.map (Addr.add · (Int.toNat 0)) bA1) ((Int.toNat 1) - (Int.toNat 0)) (bC1 - (Int.toNat 0)) h2 fun r1 h4 =>
  ∃ (n1 : Int), r1 = .int .i64 n1 ∧
  (
  C.boleref11_number (if bC1 = (Int.toNat 2) then bA1 else Option.map (Addr.add · (Int.toNat 2)) bA1) ((Int.toNat 4) - (Int.toNat 2)) (bC1 - (Int.toNat 2)) h4 fun r2 h5 =>
  ∃ (n2 : Int), r2 = .int .i64 n2 ∧
  (
  C.boleref11_number (if bC1 = (Int.toNat 4) then bA1 else Option.map (Addr.add · (Int.toNat 4)) bA1) ((Int.toNat 8) - (Int.toNat 4)) (bC1 - (Int.toNat 4)) h5 fun r3 h6 =>
  ∃ (n3 : Int), r3 = .int .i64 n3 ∧
  NewRow z58 58 [.int .i64 n1, .int .i64 n2, .int .i64 n3, .int .i64 0, .int .i64 0, .int .i64 0, .int .i64 0, .int .i64 0, .int .i64 0, .int .i64 0, .int .i64 0, .int .i64 0, .int .i64 0, .int .i64 0, .int .i64 0] 15 h6 fun h8 =>
  boleref11_Decode.k1 bA1 bL1 bC1 h1 (some ⟨h6.size, 0, none⟩) h8 K) ∧
  New z58 58 h5 fun h21 =>
  C.boleref11_number (if bC1 = (Int.toNat 4) then bA1 else Option.map (Addr.add · (Int.toNat 4)) bA1) ((Int.toNat 8) - (Int.toNat 4)) (bC1 - (Int.toNat 4)) h21 fun r8 h22 =>
  ∃ (n8 : Int), r8 = .int .i64 n8 ∧
  PutRow ⟨h5.size, 0, none⟩ [.int .i64 n1, .int .i64 n2, .int .i64 n8, .int .i64 0, .int .i64 0, .int .i64 0, .int .i64 0, .int .i64 0, .int .i64 0, .int .i64 0, .int .i64 0, .int .i64 0, .int .i64 0, .int .i64 0, .int .i64 0] 15 h22 fun h23 =>
  boleref11_Decode.k1 bA1 bL1 bC1 h1 (some ⟨h5.size, 0, none⟩) h23 K) ∧
  New z58 58 h4 fun h24 =>
  C.boleref11_number (if bC1 = (Int.toNat 2) then bA1 else Option.map (Addr.add · (Int.toNat 2)) bA1) ((Int.toNat 4) - (Int.toNat 2)) (bC1 - (Int.toNat 2)) h24 fun r9 h25 =>
  ∃ (n9 : Int), r9 = .int .i64 n9 ∧
  C.boleref11_number (if bC1 = (Int.toNat 4) then bA1 else Option.map (Addr.add · (Int.toNat 4)) bA1) ((Int.toNat 8) - (Int.toNat 4)) (bC1 - (Int.toNat 4)) h25 fun r10 h26 =>
  ∃ (n10 : Int), r10 = .int .i64 n10 ∧
  PutRow ⟨h4.size, 0, none⟩ [.int .i64 n1, .int .i64 n9, .int .i64 n10, .int .i64 0, .int .i64 0, .int .i64 0, .int .i64 0, .int .i64 0, .int .i64 0, .int .i64 0, .int .i64 0, .int .i64 0, .int .i64 0, .int .i64 0, .int .i64 0] 15 h26 fun h27 =>
  boleref11_Decode.k1 bA1 bL1 bC1 h1 (some ⟨h4.size, 0, none⟩) h27 K) ∧
  New z58 58 h2 fun h28 =>
  C.boleref11_number (if bC1 = (Int.toNat 0) then bA1 else Option.map (Addr.add · (Int.toNat 0)) bA1) ((Int.toNat 1) - (Int.toNat 0)) (bC1 - (Int.toNat 0)) h28 fun r11 h29 =>
  ∃ (n11 : Int), r11 = .int .i64 n11 ∧
  C.boleref11_number (if bC1 = (Int.toNat 2) then bA1 else Option.map (Addr.add · (Int.toNat 2)) bA1) ((Int.toNat 4) - (Int.toNat 2)) (bC1 - (Int.toNat 2)) h29 fun r12 h30 =>
  ∃ (n12 : Int), r12 = .int .i64 n12 ∧
  C.boleref11_number (if bC1 = (Int.toNat 4) then bA1 else Option.map (Addr.add · (Int.toNat 4)) bA1) ((Int.toNat 8) - (Int.toNat 4)) (bC1 - (Int.toNat 4)) h30 fun r13 h31 =>
  ∃ (n13 : Int), r13 = .int .i64 n13 ∧
  PutRow ⟨h2.size, 0, none⟩ [.int .i64 n11, .int .i64 n12, .int .i64 n13, .int .i64 0, .int .i64 0, .int .i64 0, .int .i64 0, .int .i64 0, .int .i64 0, .int .i64 0, .int .i64 0, .int .i64 0, .int .i64 0, .int .i64 0, .int .i64 0] 15 h31 fun h32 =>
  boleref11_Decode.k1 bA1 bL1 bC1 h1 (some ⟨h2.size, 0, none⟩) h32 K)
def boleref11_Decode.lo : Nat → List Nat × List (Nat × Ty) := fun n => match n with | 5 => ([0, 2, 4], [(5, .int .i64)]) | _ => ([], [])
def boleref11_Decode.od : Nat → Od := fun n => match n with | 3 => (.op 0 [] (.op 1 [] (.op 3 [] (.op 4 [] (.op 6 [] (.op 7 [] (.alt 2 [] (.alt 5 [] (.alt 8 [] (.op 9 [] (.op 10 [] (.op 11 [] .nil))) (.op 10 [] (.op 8 [] (.op 9 [] (.op 11 [] .nil))))) (.op 10 [] (.op 5 [] (.op 8 [] (.op 9 [] (.op 11 [] .nil)))))) (.op 10 [] (.op 2 [] (.op 5 [] (.op 8 [] (.op 9 [] (.op 11 [] .nil))))))))))))) | _ => .nil
theorem boleref11_Decode.eq (bA1 : Option Addr) (bL1 : Nat) (bC1 : Nat) (K : Value → Heap → Prop) (h : Heap) : fnX (cx boleref11_Decode.lo boleref11_Decode.od) Tryd.f32 (Tryd.f32.body.getD .skip) [.slice bA1 bL1 bC1] K h = boleref11_Decode bA1 bL1 bC1 K h := by kernel_rfl
theorem boleref11_Decode.chk : fnOk (cx boleref11_Decode.lo boleref11_Decode.od) Tryd.f32 (Tryd.f32.body.getD .skip) 1 = true := by kernel_rfl
theorem boleref11_Decode.ok {bA1 : Option Addr} {bL1 : Nat} {bC1 : Nat} {K : Value → Heap → Prop} {h : Heap} (hx : boleref11_Decode bA1 bL1 bC1 K h) : C.boleref11_Decode bA1 bL1 bC1 h K :=
  fn_to (cxOk _ _) Tryd.func32 (by kernel_rfl) boleref11_Decode.chk (by rw [boleref11_Decode.eq]; exact hx)

-- 33
def inode_Decode (bA1 : Option Addr) (bL1 : Nat) (bC1 : Nat) (K : Value → Heap → Prop) (h1 : Heap) : Prop :=
  New [.slice bA1 bL1 bC1] 26 h1 fun h2 =>
  New z58 58 h2 fun h3 =>
  ∃ (sA1 : Option Addr) (sL1 : Nat) (sC1 : Nat), cellOf h3 ⟨h1.size, 0, none⟩ = some (.slice sA1 sL1 sC1) ∧
  bif ((sL1 : Int) != 64) then (
  PutRow ⟨h2.size, 0, none⟩ [.int .i64 0, .int .i64 0, .int .i64 0, .int .i64 0, .int .i64 0, .int .i64 0, .int .i64 0, .int .i64 0, .int .i64 0, .int .i64 0, .int .i64 0, .int .i64 0, .int .i64 0, .int .i64 0, .int .i64 0] 15 h3 fun h4 =>
  ∃ res1 : List Value, List.length res1 = 15 ∧ Cells h4 ⟨h2.size, 0, none⟩ res1 ∧
  K (.tuple #[.agg ⟨res1⟩, .int .i64 32]) h4) else (
  C.inode_Decode_c1 0 1 (some ⟨h1.size, 0, none⟩) h3 fun r1 h5 =>
  ∃ (n1 : Int), r1 = .int .i64 n1 ∧
  C.inode_Decode_c1 2 2 (some ⟨h1.size, 0, none⟩) h5 fun r2 h6 =>
  ∃ (n2 : Int), r2 = .int .i64 n2 ∧
  C.inode_Decode_c1 4 4 (some ⟨h1.size, 0, none⟩) h6 fun r3 h7 =>
  ∃ (n3 : Int), r3 = .int .i64 n3 ∧
  C.inode_Decode_c1 48 4 (some ⟨h1.size, 0, none⟩) h7 fun r4 h8 =>
  ∃ (n4 : Int), r4 = .int .i64 n4 ∧
  C.inode_Decode_c1 52 4 (some ⟨h1.size, 0, none⟩) h8 fun r5 h9 =>
  ∃ (n5 : Int), r5 = .int .i64 n5 ∧
  NewRow z58 58 [.int .i64 n1, .int .i64 n2, .int .i64 n3, .int .i64 0, .int .i64 0, .int .i64 0, .int .i64 0, .int .i64 0, .int .i64 0, .int .i64 0, .int .i64 0, .int .i64 0, .int .i64 0, .int .i64 n4, .int .i64 n5] 15 h9 fun h11 =>
  ∃ (I1 : Int → Heap → Prop) (M1 : Int → Heap → Nat), I1 0 h11 ∧
  ∀ (n6 : Int), ∀ h12 : Heap, I1 n6 h12 →
  bif (decide (n6 < 10)) then (
  C.inode_Decode_c1 (IntKind.wrap .i64 (8 + (IntKind.wrap .i64 (4 * n6)))) 4 (some ⟨h1.size, 0, none⟩) h12 fun r6 h13 =>
  ∃ (n7 : Int), r6 = .int .i64 n7 ∧
  (0 ≤ n6 ∧ n6 < (10 : Int)) ∧
  Put (Addr.add (Addr.add ⟨h9.size, 0, none⟩ 3) (Int.toNat n6)) (.int .i64 n7) h13 fun h14 =>
  I1 (IntKind.wrap .i64 (n6 + 1)) h14 ∧ M1 (IntKind.wrap .i64 (n6 + 1)) h14 < M1 n6 h12) else (
  ∃ (sA2 : Option Addr) (sL2 : Nat) (sC2 : Nat), cellOf h12 ⟨h1.size, 0, none⟩ = some (.slice sA2 sL2 sC2) ∧
  C.rec_Zero sA2 sL2 sC2 1 1 h12 fun r7 h15 =>
  ∃ (b1 : Bool) (n8 : Int), r7 = .tuple #[.bool b1, .int .i64 n8] ∧
  ∃ (sA3 : Option Addr) (sL3 : Nat) (sC3 : Nat), cellOf h15 ⟨h1.size, 0, none⟩ = some (.slice sA3 sL3 sC3) ∧
  C.rec_Zero sA3 sL3 sC3 56 8 h15 fun r8 h16 =>
  ∃ (b2 : Bool) (n9 : Int), r8 = .tuple #[.bool b2, .int .i64 n9] ∧
  bif (!b1) then (
  PutRow ⟨h2.size, 0, none⟩ [.int .i64 0, .int .i64 0, .int .i64 0, .int .i64 0, .int .i64 0, .int .i64 0, .int .i64 0, .int .i64 0, .int .i64 0, .int .i64 0, .int .i64 0, .int .i64 0, .int .i64 0, .int .i64 0, .int .i64 0] 15 h16 fun h17 =>
  ∃ res2 : List Value, List.length res2 = 15 ∧ Cells h17 ⟨h2.size, 0, none⟩ res2 ∧
  K (.tuple #[.agg ⟨res2⟩, .int .i64 111]) h17) else (
  bif (!b2) then (
  PutRow ⟨h2.size, 0, none⟩ [.int .i64 0, .int .i64 0, .int .i64 0, .int .i64 0, .int .i64 0, .int .i64 0, .int .i64 0, .int .i64 0, .int .i64 0, .int .i64 0, .int .i64 0, .int .i64 0, .int .i64 0, .int .i64 0, .int .i64 0] 15 h16 fun h18 =>
  ∃ res3 : List Value, List.length res3 = 15 ∧ Cells h18 ⟨h2.size, 0, none⟩ res3 ∧
  K (.tuple #[.agg ⟨res3⟩, .int .i64 111]) h18) else (
  ∃ cs1 : List Value, List.length cs1 = 15 ∧ Cells h16 ⟨h9.size, 0, none⟩ cs1 ∧
  C.inode_may cs1 h16 fun r9 h19 =>
  ∃ (b3 : Bool), r9 = .bool b3 ∧
  bif (!b3) then (
  PutRow ⟨h2.size, 0, none⟩ [.int .i64 0, .int .i64 0, .int .i64 0, .int .i64 0, .int .i64 0, .int .i64 0, .int .i64 0, .int .i64 0, .int .i64 0, .int .i64 0, .int .i64 0, .int .i64 0, .int .i64 0, .int .i64 0, .int .i64 0] 15 h19 fun h20 =>
  ∃ res4 : List Value, List.length res4 = 15 ∧ Cells h20 ⟨h2.size, 0, none⟩ res4 ∧
  K (.tuple #[.agg ⟨res4⟩, .int .i64 111]) h20) else (
  ∃ cs2 : List Value, List.length cs2 = 15 ∧ Cells h19 ⟨h9.size, 0, none⟩ cs2 ∧
  PutRow ⟨h2.size, 0, none⟩ cs2 15 h19 fun h21 =>
  ∃ res5 : List Value, List.length res5 = 15 ∧ Cells h21 ⟨h2.size, 0, none⟩ res5 ∧
  K (.tuple #[.agg ⟨res5⟩, .int .i64 0]) h21)))))
def inode_Decode.lo : Nat → List Nat × List (Nat × Ty) := fun n => match n with | 6 => ([1, 2, 4, 5], [(27, .int .i64)]) | _ => ([], [])
def inode_Decode.od : Nat → Od := fun n => match n with | _ => .nil
theorem inode_Decode.eq (bA1 : Option Addr) (bL1 : Nat) (bC1 : Nat) (K : Value → Heap → Prop) (h : Heap) : fnX (cx inode_Decode.lo inode_Decode.od) Tryd.f33 (Tryd.f33.body.getD .skip) [.slice bA1 bL1 bC1] K h = inode_Decode bA1 bL1 bC1 K h := by kernel_rfl
theorem inode_Decode.chk : fnOk (cx inode_Decode.lo inode_Decode.od) Tryd.f33 (Tryd.f33.body.getD .skip) 1 = true := by kernel_rfl
theorem inode_Decode.ok {bA1 : Option Addr} {bL1 : Nat} {bC1 : Nat} {K : Value → Heap → Prop} {h : Heap} (hx : inode_Decode bA1 bL1 bC1 K h) : C.inode_Decode bA1 bL1 bC1 h K :=
  fn_to (cxOk _ _) Tryd.func33 (by kernel_rfl) inode_Decode.chk (by rw [inode_Decode.eq]; exact hx)

-- 34
def bolelaw11_brought (x1 : List Value) (K : Value → Heap → Prop) (h1 : Heap) : Prop :=
  New x1 58 h1 fun h2 =>
  New z58 58 h2 fun h3 =>
  ∃ (n1 : Int), cellOf h3 (Addr.add ⟨h1.size, 0, none⟩ 0) = some (.int .i64 n1) ∧
  C.bolelaw11_mod n1 3 h3 fun r1 h4 =>
  ∃ (n2 : Int), r1 = .int .i64 n2 ∧
  NewRow z58 58 [.int .i64 (IntKind.wrap .i64 (1 + n2)), .int .i64 0, .int .i64 0, .int .i64 0, .int .i64 0, .int .i64 0, .int .i64 0, .int .i64 0, .int .i64 0, .int .i64 0, .int .i64 0, .int .i64 0, .int .i64 0, .int .i64 0, .int .i64 0] 15 h4 fun h6 =>
  ∃ (n3 : Int), cellOf h6 (Addr.add ⟨h4.size, 0, none⟩ 0) = some (.int .i64 n3) ∧
  bif (n3 == 1) then (
  ∃ (n4 : Int), cellOf h6 (Addr.add ⟨h1.size, 0, none⟩ 1) = some (.int .i64 n4) ∧
  C.bolelaw11_mod n4 1001 h6 fun r2 h7 =>
  ∃ (n5 : Int), r2 = .int .i64 n5 ∧
  Put (Addr.add ⟨h4.size, 0, none⟩ 1) (.int .i64 n5) h7 fun h8 =>
  ∃ (n6 : Int), cellOf h8 (Addr.add ⟨h1.size, 0, none⟩ 2) = some (.int .i64 n6) ∧
  C.bolelaw11_mod n6 8459265 h8 fun r3 h9 =>
  ∃ (n7 : Int), r3 = .int .i64 n7 ∧
  Put (Addr.add ⟨h4.size, 0, none⟩ 2) (.int .i64 n7) h9 fun h10 =>
  ∃ (I1 : Int → Heap → Prop) (M1 : Int → Heap → Nat), I1 0 h10 ∧
  ∀ (i1 : Int), ∀ h11 : Heap, I1 i1 h11 →
  bif (decide (i1 < 10)) then (
  (0 ≤ i1 ∧ i1 < (10 : Int)) ∧
  ∃ (n8 : Int), cellOf h11 (Addr.add (Addr.add ⟨h1.size, 0, none⟩ 3) (Int.toNat i1)) = some (.int .i64 n8) ∧
  C.bolelaw11_mod n8 4294967296 h11 fun r4 h12 =>
  ∃ (n9 : Int), r4 = .int .i64 n9 ∧
  (0 ≤ i1 ∧ i1 < (10 : Int)) ∧
  Put (Addr.add (Addr.add ⟨h4.size, 0, none⟩ 3) (Int.toNat i1)) (.int .i64 n9) h12 fun h13 =>
  I1 (IntKind.wrap .i64 (i1 + 1)) h13 ∧ M1 (IntKind.wrap .i64 (i1 + 1)) h13 < M1 i1 h11) else (
  ∃ (n10 : Int), cellOf h11 (Addr.add ⟨h1.size, 0, none⟩ 13) = some (.int .i64 n10) ∧
  C.bolelaw11_mod n10 4294967296 h11 fun r5 h14 =>
  ∃ (n11 : Int), r5 = .int .i64 n11 ∧
  Put (Addr.add ⟨h4.size, 0, none⟩ 13) (.int .i64 n11) h14 fun h15 =>
  ∃ (n12 : Int), cellOf h15 (Addr.add ⟨h1.size, 0, none⟩ 14) = some (.int .i64 n12) ∧
  C.bolelaw11_mod n12 4294967296 h15 fun r6 h16 =>
  ∃ (n13 : Int), r6 = .int .i64 n13 ∧
  Put (Addr.add ⟨h4.size, 0, none⟩ 14) (.int .i64 n13) h16 fun h17 =>
  ∃ cs1 : List Value, List.length cs1 = 15 ∧ Cells h17 ⟨h4.size, 0, none⟩ cs1 ∧
  PutRow ⟨h2.size, 0, none⟩ cs1 15 h17 fun h18 =>
  ∃ res1 : List Value, List.length res1 = 15 ∧ Cells h18 ⟨h2.size, 0, none⟩ res1 ∧
  K (.agg ⟨res1⟩) h18)) else (
  bif (n3 == 2) then (
  ∃ (n14 : Int), cellOf h6 (Addr.add ⟨h1.size, 0, none⟩ 1) = some (.int .i64 n14) ∧
  C.bolelaw11_mod n14 65534 h6 fun r7 h19 =>
  ∃ (n15 : Int), r7 = .int .i64 n15 ∧
  Put (Addr.add ⟨h4.size, 0, none⟩ 1) (.int .i64 (IntKind.wrap .i64 (2 + n15))) h19 fun h20 =>
  ∃ (n16 : Int), cellOf h20 (Addr.add ⟨h1.size, 0, none⟩ 2) = some (.int .i64 n16) ∧
  C.bolelaw11_mod n16 16523 h20 fun r8 h21 =>
  ∃ (n17 : Int), r8 = .int .i64 n17 ∧
  Put (Addr.add ⟨h4.size, 0, none⟩ 2) (.int .i64 (IntKind.wrap .i64 (512 * n17))) h21 fun h22 =>
  ∃ (I2 : Int → Heap → Prop) (M2 : Int → Heap → Nat), I2 0 h22 ∧
  ∀ (i2 : Int), ∀ h23 : Heap, I2 i2 h23 →
  bif (decide (i2 < 10)) then (
  (0 ≤ i2 ∧ i2 < (10 : Int)) ∧
  ∃ (n18 : Int), cellOf h23 (Addr.add (Addr.add ⟨h1.size, 0, none⟩ 3) (Int.toNat i2)) = some (.int .i64 n18) ∧
  C.bolelaw11_mod n18 4294967296 h23 fun r9 h24 =>
  ∃ (n19 : Int), r9 = .int .i64 n19 ∧
  (0 ≤ i2 ∧ i2 < (10 : Int)) ∧
  Put (Addr.add (Addr.add ⟨h4.size, 0, none⟩ 3) (Int.toNat i2)) (.int .i64 n19) h24 fun h25 =>
  I2 (IntKind.wrap .i64 (i2 + 1)) h25 ∧ M2 (IntKind.wrap .i64 (i2 + 1)) h25 < M2 i2 h23) else (
  ∃ (n20 : Int), cellOf h23 (Addr.add ⟨h1.size, 0, none⟩ 13) = some (.int .i64 n20) ∧
  C.bolelaw11_mod n20 4294967296 h23 fun r10 h26 =>
  ∃ (n21 : Int), r10 = .int .i64 n21 ∧
  Put (Addr.add ⟨h4.size, 0, none⟩ 13) (.int .i64 n21) h26 fun h27 =>
  ∃ (n22 : Int), cellOf h27 (Addr.add ⟨h1.size, 0, none⟩ 14) = some (.int .i64 n22) ∧
  C.bolelaw11_mod n22 4294967296 h27 fun r11 h28 =>
  ∃ (n23 : Int), r11 = .int .i64 n23 ∧
  Put (Addr.add ⟨h4.size, 0, none⟩ 14) (.int .i64 n23) h28 fun h29 =>
  ∃ cs2 : List Value, List.length cs2 = 15 ∧ Cells h29 ⟨h4.size, 0, none⟩ cs2 ∧
  PutRow ⟨h2.size, 0, none⟩ cs2 15 h29 fun h30 =>
  ∃ res2 : List Value, List.length res2 = 15 ∧ Cells h30 ⟨h2.size, 0, none⟩ res2 ∧
  K (.agg ⟨res2⟩) h30)) else (
  ∃ (n24 : Int), cellOf h6 (Addr.add ⟨h1.size, 0, none⟩ 1) = some (.int .i64 n24) ∧
  C.bolelaw11_mod n24 1000 h6 fun r12 h31 =>
  ∃ (n25 : Int), r12 = .int .i64 n25 ∧
  Put (Addr.add ⟨h4.size, 0, none⟩ 1) (.int .i64 (IntKind.wrap .i64 (1 + n25))) h31 fun h32 =>
  ∃ (n26 : Int), cellOf h32 (Addr.add ⟨h1.size, 0, none⟩ 2) = some (.int .i64 n26) ∧
  C.bolelaw11_mod n26 1024 h32 fun r13 h33 =>
  ∃ (n27 : Int), r13 = .int .i64 n27 ∧
  Put (Addr.add ⟨h4.size, 0, none⟩ 2) (.int .i64 (IntKind.wrap .i64 (1 + n27))) h33 fun h34 =>
  ∃ (I3 : Int → Heap → Prop) (M3 : Int → Heap → Nat), I3 0 h34 ∧
  ∀ (i3 : Int), ∀ h35 : Heap, I3 i3 h35 →
  bif (decide (i3 < 10)) then (
  (0 ≤ i3 ∧ i3 < (10 : Int)) ∧
  ∃ (n28 : Int), cellOf h35 (Addr.add (Addr.add ⟨h1.size, 0, none⟩ 3) (Int.toNat i3)) = some (.int .i64 n28) ∧
  C.bolelaw11_mod n28 4294967296 h35 fun r14 h36 =>
  ∃ (n29 : Int), r14 = .int .i64 n29 ∧
  (0 ≤ i3 ∧ i3 < (10 : Int)) ∧
  Put (Addr.add (Addr.add ⟨h4.size, 0, none⟩ 3) (Int.toNat i3)) (.int .i64 n29) h36 fun h37 =>
  I3 (IntKind.wrap .i64 (i3 + 1)) h37 ∧ M3 (IntKind.wrap .i64 (i3 + 1)) h37 < M3 i3 h35) else (
  ∃ (n30 : Int), cellOf h35 (Addr.add ⟨h1.size, 0, none⟩ 13) = some (.int .i64 n30) ∧
  C.bolelaw11_mod n30 4294967296 h35 fun r15 h38 =>
  ∃ (n31 : Int), r15 = .int .i64 n31 ∧
  Put (Addr.add ⟨h4.size, 0, none⟩ 13) (.int .i64 n31) h38 fun h39 =>
  ∃ (n32 : Int), cellOf h39 (Addr.add ⟨h1.size, 0, none⟩ 14) = some (.int .i64 n32) ∧
  C.bolelaw11_mod n32 4294967296 h39 fun r16 h40 =>
  ∃ (n33 : Int), r16 = .int .i64 n33 ∧
  Put (Addr.add ⟨h4.size, 0, none⟩ 14) (.int .i64 n33) h40 fun h41 =>
  ∃ cs3 : List Value, List.length cs3 = 15 ∧ Cells h41 ⟨h4.size, 0, none⟩ cs3 ∧
  PutRow ⟨h2.size, 0, none⟩ cs3 15 h41 fun h42 =>
  ∃ res3 : List Value, List.length res3 = 15 ∧ Cells h42 ⟨h2.size, 0, none⟩ res3 ∧
  K (.agg ⟨res3⟩) h42)))
def bolelaw11_brought.lo : Nat → List Nat × List (Nat × Ty) := fun n => match n with | 12 => ([1, 2, 3], [(4, .int .i64)]) | _ => ([], [])
def bolelaw11_brought.od : Nat → Od := fun n => match n with | _ => .nil
theorem bolelaw11_brought.eq (x1 : List Value) (K : Value → Heap → Prop) (h : Heap) : fnX (cx bolelaw11_brought.lo bolelaw11_brought.od) Tryd.f34 (Tryd.f34.body.getD .skip) [.agg ⟨x1⟩] K h = bolelaw11_brought x1 K h := by kernel_rfl
theorem bolelaw11_brought.chk : fnOk (cx bolelaw11_brought.lo bolelaw11_brought.od) Tryd.f34 (Tryd.f34.body.getD .skip) 1 = true := by kernel_rfl
theorem bolelaw11_brought.ok {x1 : List Value} {K : Value → Heap → Prop} {h : Heap} (hx : bolelaw11_brought x1 K h) : C.bolelaw11_brought x1 h K :=
  fn_to (cxOk _ _) Tryd.func34 (by kernel_rfl) bolelaw11_brought.chk (by rw [bolelaw11_brought.eq]; exact hx)

-- 35
def head_may (numsA1 : Option Addr) (numsL1 : Nat) (numsC1 : Nat) (n1 : Int) (K : Value → Heap → Prop) (h1 : Heap) : Prop :=
  New [.int .i64 n1] 3 h1 fun h2 =>
  New z3 3 h2 fun h3 =>
  Put ⟨h2.size, 0, none⟩ (.int .i64 97) h3 fun h4 =>
  ∃ (I1 : Int → Heap → Prop) (M1 : Int → Heap → Nat), I1 0 h4 ∧
  ∀ (n2 : Int), ∀ h5 : Heap, I1 n2 h5 →
  bif (decide (n2 < (numsL1 : Int))) then (
  (0 ≤ n2 ∧ n2 < (numsL1 : Int)) ∧
  onSome numsA1 fun p1 =>
  ∃ (n3 : Int), cellOf h5 (Addr.add p1 (Int.toNat n2)) = some (.int .i64 n3) ∧
  C.head_may_c1 n3 (some ⟨h2.size, 0, none⟩) (some ⟨h1.size, 0, none⟩) h5 fun r1 h6 =>
  ∃ (b1 : Bool), r1 = .bool b1 ∧
  bif b1 then (
  K (.bool false) h6) else (
  I1 (IntKind.wrap .i64 (n2 + 1)) h6 ∧ M1 (IntKind.wrap .i64 (n2 + 1)) h6 < M1 n2 h5)) else (
  bif (decide ((numsL1 : Int) ≥ 1)) then (
  K (.bool (decide ((numsL1 : Int) ≤ 96))) h5) else (
  K (.bool false) h5))
def head_may.lo : Nat → List Nat × List (Nat × Ty) := fun n => match n with | 4 => ([0, 6, 10, 11], [(12, .int .i64)]) | _ => ([], [])
def head_may.od : Nat → Od := fun n => match n with | _ => .nil
theorem head_may.eq (numsA1 : Option Addr) (numsL1 : Nat) (numsC1 : Nat) (n1 : Int) (K : Value → Heap → Prop) (h : Heap) : fnX (cx head_may.lo head_may.od) Tryd.f35 (Tryd.f35.body.getD .skip) [.slice numsA1 numsL1 numsC1, .int .i64 n1] K h = head_may numsA1 numsL1 numsC1 n1 K h := by kernel_rfl
theorem head_may.chk : fnOk (cx head_may.lo head_may.od) Tryd.f35 (Tryd.f35.body.getD .skip) 2 = true := by kernel_rfl
theorem head_may.ok {numsA1 : Option Addr} {numsL1 : Nat} {numsC1 : Nat} {n1 : Int} {K : Value → Heap → Prop} {h : Heap} (hx : head_may numsA1 numsL1 numsC1 n1 K h) : C.head_may numsA1 numsL1 numsC1 n1 h K :=
  fn_to (cxOk _ _) Tryd.func35 (by kernel_rfl) head_may.chk (by rw [head_may.eq]; exact hx)

-- 36
def head_areBlocks (dataA1 : Option Addr) (dataL1 : Nat) (dataC1 : Nat) (n1 : Int) (K : Value → Heap → Prop) (h1 : Heap) : Prop :=
  ∃ (I1 : Int → Heap → Prop) (M1 : Int → Heap → Nat), I1 0 h1 ∧
  ∀ (n2 : Int), ∀ h2 : Heap, I1 n2 h2 →
  bif (decide (n2 < (dataL1 : Int))) then (
  (0 ≤ n2 ∧ n2 < (dataL1 : Int)) ∧
  onSome dataA1 fun p1 =>
  ∃ (sA1 : Option Addr) (sL1 : Nat) (sC1 : Nat), cellOf h2 (Addr.add p1 (Int.toNat n2)) = some (.slice sA1 sL1 sC1) ∧
  bif ((sL1 : Int) != 512) then (
  K (.bool false) h2) else (
  I1 (IntKind.wrap .i64 (n2 + 1)) h2 ∧ M1 (IntKind.wrap .i64 (n2 + 1)) h2 < M1 n2 h2)) else (
  K (.bool ((dataL1 : Int) == n1)) h2)
def head_areBlocks.lo : Nat → List Nat × List (Nat × Ty) := fun n => match n with | 2 => ([0, 1, 7, 8], [(9, .int .i64)]) | _ => ([], [])
def head_areBlocks.od : Nat → Od := fun n => match n with | _ => .nil
theorem head_areBlocks.eq (dataA1 : Option Addr) (dataL1 : Nat) (dataC1 : Nat) (n1 : Int) (K : Value → Heap → Prop) (h : Heap) : fnX (cx head_areBlocks.lo head_areBlocks.od) Tryd.f36 (Tryd.f36.body.getD .skip) [.slice dataA1 dataL1 dataC1, .int .i64 n1] K h = head_areBlocks dataA1 dataL1 dataC1 n1 K h := by kernel_rfl
theorem head_areBlocks.chk : fnOk (cx head_areBlocks.lo head_areBlocks.od) Tryd.f36 (Tryd.f36.body.getD .skip) 2 = true := by kernel_rfl
theorem head_areBlocks.ok {dataA1 : Option Addr} {dataL1 : Nat} {dataC1 : Nat} {n1 : Int} {K : Value → Heap → Prop} {h : Heap} (hx : head_areBlocks dataA1 dataL1 dataC1 n1 K h) : C.head_areBlocks dataA1 dataL1 dataC1 n1 h K :=
  fn_to (cxOk _ _) Tryd.func36 (by kernel_rfl) head_areBlocks.chk (by rw [head_areBlocks.eq]; exact hx)

-- 37
def rec_PutText (bA1 : Option Addr) (bL1 : Nat) (bC1 : Nat) (at1 : Int) (n1 : Int) (s1 : ByteArray) (K : Value → Heap → Prop) (h1 : Heap) : Prop :=
  bif (decide (n1 < 0)) then (
  K (.int .i64 1) h1) else (
  bif (decide ((s1.size : Int) > n1)) then (
  K (.int .i64 1) h1) else (
  NewS s1 5 h1 fun cap1 h2 =>
  C.rec_ahead (some ⟨h1.size, 0, none⟩) s1.size cap1 h2 fun r1 h3 =>
  ∃ (n2 : Int), r1 = .int .i64 n2 ∧
  bif (decide (n2 < (s1.size : Int))) then (
  K (.int .i64 1) h3) else (
  C.rec_lie bA1 bL1 bC1 at1 n1 h3 fun r2 h4 =>
  ∃ (b1 : Bool), r2 = .bool b1 ∧
  bif (!b1) then (
  K (.int .i64 20) h4) else (
  (0 ≤ at1 ∧ at1 ≤ (IntKind.wrap .i64 (at1 + n1)) ∧ (IntKind.wrap .i64 (at1 + n1)) ≤ (bC1 : Int)) ∧
  CopyP ti5 (if bC1 = (Int.toNat at1) then bA1 else Option.map (Addr.add · (Int.toNat at1)) bA1) ((Int.toNat (IntKind.wrap .i64 (at1 + n1))) - (Int.toNat at1)) (.string s1) h4 fun n3 h5 =>
  (0 ≤ (IntKind.wrap .i64 (at1 + (n3 : Int))) ∧ (IntKind.wrap .i64 (at1 + (n3 : Int))) ≤ (IntKind.wrap .i64 (at1 + n1)) ∧ (IntKind.wrap .i64 (at1 + n1)) ≤ (bC1 : Int)) ∧
  ClearP ti5 (if bC1 = (Int.toNat (IntKind.wrap .i64 (at1 + (n3 : Int)))) then bA1 else Option.map (Addr.add · (Int.toNat (IntKind.wrap .i64 (at1 + (n3 : Int))))) bA1) ((Int.toNat (IntKind.wrap .i64 (at1 + n1))) - (Int.toNat (IntKind.wrap .i64 (at1 + (n3 : Int))))) h5 fun h6 =>
  K (.int .i64 0) h6))))
def rec_PutText.lo : Nat → List Nat × List (Nat × Ty) := fun n => match n with | _ => ([], [])
def rec_PutText.od : Nat → Od := fun n => match n with | _ => .nil
theorem rec_PutText.eq (bA1 : Option Addr) (bL1 : Nat) (bC1 : Nat) (at1 : Int) (n1 : Int) (s1 : ByteArray) (K : Value → Heap → Prop) (h : Heap) : fnX (cx rec_PutText.lo rec_PutText.od) Tryd.f37 (Tryd.f37.body.getD .skip) [.slice bA1 bL1 bC1, .int .i64 at1, .int .i64 n1, .string s1] K h = rec_PutText bA1 bL1 bC1 at1 n1 s1 K h := by kernel_rfl
theorem rec_PutText.chk : fnOk (cx rec_PutText.lo rec_PutText.od) Tryd.f37 (Tryd.f37.body.getD .skip) 4 = true := by kernel_rfl
theorem rec_PutText.ok {bA1 : Option Addr} {bL1 : Nat} {bC1 : Nat} {at1 : Int} {n1 : Int} {s1 : ByteArray} {K : Value → Heap → Prop} {h : Heap} (hx : rec_PutText bA1 bL1 bC1 at1 n1 s1 K h) : C.rec_PutText bA1 bL1 bC1 at1 n1 s1 h K :=
  fn_to (cxOk _ _) Tryd.func37 (by kernel_rfl) rec_PutText.chk (by rw [rec_PutText.eq]; exact hx)

-- 38
def rec_Put (bA1 : Option Addr) (bL1 : Nat) (bC1 : Nat) (at1 : Int) (n1 : Int) (v1 : Int) (K : Value → Heap → Prop) (h1 : Heap) : Prop :=
  C.rec_isWidth n1 h1 fun r1 h2 =>
  ∃ (b1 : Bool), r1 = .bool b1 ∧
  bif (!b1) then (
  K (.int .i64 1) h2) else (
  bif (decide (n1 < 8)) then (
  if (IntKind.wrap .i64 (8 * n1)) < 0 then False else
  bif ((Int.fdiv v1 (2 ^ min (Int.toNat (IntKind.wrap .i64 (8 * n1))) 64)) != 0) then (
  K (.int .i64 1) h2) else (
  C.rec_lie bA1 bL1 bC1 at1 n1 h2 fun r2 h3 =>
  ∃ (b2 : Bool), r2 = .bool b2 ∧
  bif (!b2) then (
  K (.int .i64 20) h3) else (
  ∃ (I1 : Int → Heap → Prop) (M1 : Int → Heap → Nat), I1 0 h3 ∧
  ∀ (n2 : Int), ∀ h4 : Heap, I1 n2 h4 →
  bif (decide (n2 < n1)) then (
  if (IntKind.wrap .i64 (8 * n2)) < 0 then False else
  (0 ≤ (IntKind.wrap .i64 (at1 + n2)) ∧ (IntKind.wrap .i64 (at1 + n2)) < (bL1 : Int)) ∧
  onSome bA1 fun p1 =>
  Put (Addr.add p1 (Int.toNat (IntKind.wrap .i64 (at1 + n2)))) (.int .u8 (IntKind.wrap .u8 ((Int.fdiv v1 (2 ^ min (Int.toNat (IntKind.wrap .i64 (8 * n2))) 64))))) h4 fun h5 =>
  I1 (IntKind.wrap .i64 (n2 + 1)) h5 ∧ M1 (IntKind.wrap .i64 (n2 + 1)) h5 < M1 n2 h4) else (
  K (.int .i64 0) h4)))) else (
  C.rec_lie bA1 bL1 bC1 at1 n1 h2 fun r3 h6 =>
  ∃ (b3 : Bool), r3 = .bool b3 ∧
  bif (!b3) then (
  K (.int .i64 20) h6) else (
  ∃ (I2 : Int → Heap → Prop) (M2 : Int → Heap → Nat), I2 0 h6 ∧
  ∀ (n3 : Int), ∀ h7 : Heap, I2 n3 h7 →
  bif (decide (n3 < n1)) then (
  if (IntKind.wrap .i64 (8 * n3)) < 0 then False else
  (0 ≤ (IntKind.wrap .i64 (at1 + n3)) ∧ (IntKind.wrap .i64 (at1 + n3)) < (bL1 : Int)) ∧
  onSome bA1 fun p2 =>
  Put (Addr.add p2 (Int.toNat (IntKind.wrap .i64 (at1 + n3)))) (.int .u8 (IntKind.wrap .u8 ((Int.fdiv v1 (2 ^ min (Int.toNat (IntKind.wrap .i64 (8 * n3))) 64))))) h7 fun h8 =>
  I2 (IntKind.wrap .i64 (n3 + 1)) h8 ∧ M2 (IntKind.wrap .i64 (n3 + 1)) h8 < M2 n3 h7) else (
  K (.int .i64 0) h7))))
def rec_Put.lo : Nat → List Nat × List (Nat × Ty) := fun n => match n with | 6 => ([0, 1, 3, 31], [(32, .int .i64)]) | _ => ([], [])
def rec_Put.od : Nat → Od := fun n => match n with | _ => .nil
theorem rec_Put.eq (bA1 : Option Addr) (bL1 : Nat) (bC1 : Nat) (at1 : Int) (n1 : Int) (v1 : Int) (K : Value → Heap → Prop) (h : Heap) : fnX (cx rec_Put.lo rec_Put.od) Tryd.f38 (Tryd.f38.body.getD .skip) [.slice bA1 bL1 bC1, .int .i64 at1, .int .i64 n1, .int .u64 v1] K h = rec_Put bA1 bL1 bC1 at1 n1 v1 K h := by kernel_rfl
theorem rec_Put.chk : fnOk (cx rec_Put.lo rec_Put.od) Tryd.f38 (Tryd.f38.body.getD .skip) 4 = true := by kernel_rfl
theorem rec_Put.ok {bA1 : Option Addr} {bL1 : Nat} {bC1 : Nat} {at1 : Int} {n1 : Int} {v1 : Int} {K : Value → Heap → Prop} {h : Heap} (hx : rec_Put bA1 bL1 bC1 at1 n1 v1 K h) : C.rec_Put bA1 bL1 bC1 at1 n1 v1 h K :=
  fn_to (cxOk _ _) Tryd.func38 (by kernel_rfl) rec_Put.chk (by rw [rec_Put.eq]; exact hx)

-- 39
def head_sumOf (headA1 : Option Addr) (headL1 : Nat) (headC1 : Nat) (piecesA1 : Option Addr) (piecesL1 : Nat) (piecesC1 : Nat) (K : Value → Heap → Prop) (h1 : Heap) : Prop :=
  C.bytes_Clone headA1 headL1 headC1 h1 fun r1 h2 =>
  ∃ (sA1 : Option Addr) (sL1 : Nat) (sC1 : Nat), r1 = .slice sA1 sL1 sC1 ∧
  C.rec_Put sA1 sL1 sC1 12 4 0 h2 fun r2 h3 =>
  ∃ (n1 : Int), r2 = .int .i64 n1 ∧
  C.sum_Of sA1 sL1 sC1 h3 fun r3 h4 =>
  ∃ (n2 : Int), r3 = .int .u32 n2 ∧
  ∃ (I1 : Int → Int → Heap → Prop) (M1 : Int → Int → Heap → Nat), I1 n2 0 h4 ∧
  ∀ (s1 : Int) (n3 : Int), ∀ h5 : Heap, I1 s1 n3 h5 →
  bif (decide (n3 < (piecesL1 : Int))) then (
  (0 ≤ n3 ∧ n3 < (piecesL1 : Int)) ∧
  onSome piecesA1 fun p1 =>
  ∃ (sA2 : Option Addr) (sL2 : Nat) (sC2 : Nat), cellOf h5 (Addr.add p1 (Int.toNat n3)) = some (.slice sA2 sL2 sC2) ∧
  C.sum_Of sA2 sL2 sC2 h5 fun r4 h6 =>
  ∃ (n4 : Int), r4 = .int .u32 n4 ∧
  C.sum_Join s1 n4 (sL2 : Int) h6 fun r5 h7 =>
  ∃ (n5 : Int) (n6 : Int), r5 = .tuple #[.int .u32 n5, .int .i64 n6] ∧
  I1 n5 (IntKind.wrap .i64 (n3 + 1)) h7 ∧ M1 n5 (IntKind.wrap .i64 (n3 + 1)) h7 < M1 s1 n3 h5) else (
  K (.int .u32 s1) h5)
def head_sumOf.lo : Nat → List Nat × List (Nat × Ty) := fun n => match n with | 5 => ([15, 16], [(6, .int .u32), (17, .int .i64)]) | _ => ([], [])
def head_sumOf.od : Nat → Od := fun n => match n with | _ => .nil
theorem head_sumOf.eq (headA1 : Option Addr) (headL1 : Nat) (headC1 : Nat) (piecesA1 : Option Addr) (piecesL1 : Nat) (piecesC1 : Nat) (K : Value → Heap → Prop) (h : Heap) : fnX (cx head_sumOf.lo head_sumOf.od) Tryd.f39 (Tryd.f39.body.getD .skip) [.slice headA1 headL1 headC1, .slice piecesA1 piecesL1 piecesC1] K h = head_sumOf headA1 headL1 headC1 piecesA1 piecesL1 piecesC1 K h := by kernel_rfl
theorem head_sumOf.chk : fnOk (cx head_sumOf.lo head_sumOf.od) Tryd.f39 (Tryd.f39.body.getD .skip) 2 = true := by kernel_rfl
theorem head_sumOf.ok {headA1 : Option Addr} {headL1 : Nat} {headC1 : Nat} {piecesA1 : Option Addr} {piecesL1 : Nat} {piecesC1 : Nat} {K : Value → Heap → Prop} {h : Heap} (hx : head_sumOf headA1 headL1 headC1 piecesA1 piecesL1 piecesC1 K h) : C.head_sumOf headA1 headL1 headC1 piecesA1 piecesL1 piecesC1 h K :=
  fn_to (cxOk _ _) Tryd.func39 (by kernel_rfl) head_sumOf.chk (by rw [head_sumOf.eq]; exact hx)

-- 40
def boleref04_may.k1 (numsA1 : Option Addr) (numsL1 : Nat) (n1 : Int) (h1 : Heap) (K : Value → Heap → Prop) : Prop :=
  ∃ (I1 : Int → Int → Heap → Prop) (M1 : Int → Int → Heap → Nat), I1 97 0 h1 ∧
  ∀ (last1 : Int) (i1 : Int), ∀ h2 : Heap, I1 last1 i1 h2 →
  bif (decide (i1 < (numsL1 : Int))) then (
  (0 ≤ i1 ∧ i1 < (numsL1 : Int)) ∧
  onSome numsA1 fun p1 =>
  ∃ (n2 : Int), cellOf h2 (Addr.add p1 (Int.toNat i1)) = some (.int .i64 n2) ∧
  bif (decide (n2 ≤ last1)) then (
  K (.bool false) h2) else (
  (0 ≤ i1 ∧ i1 < (numsL1 : Int)) ∧
  onSome numsA1 fun p2 =>
  ∃ (n3 : Int), cellOf h2 (Addr.add p2 (Int.toNat i1)) = some (.int .i64 n3) ∧
  bif (decide (n3 ≥ n1)) then (
  K (.bool false) h2) else (
  (0 ≤ i1 ∧ i1 < (numsL1 : Int)) ∧
  onSome numsA1 fun p3 =>
  ∃ (n4 : Int), cellOf h2 (Addr.add p3 (Int.toNat i1)) = some (.int .i64 n4) ∧
  I1 n4 (IntKind.wrap .i64 (i1 + 1)) h2 ∧ M1 n4 (IntKind.wrap .i64 (i1 + 1)) h2 < M1 last1 i1 h2))) else (
  K (.bool true) h2)
def boleref04_may (numsA1 : Option Addr) (numsL1 : Nat) (numsC1 : Nat) (n1 : Int) (K : Value → Heap → Prop) (h1 : Heap) : Prop :=
  bif (decide ((numsL1 : Int) < 1)) then (
  K (.bool false) h1) else (
  bif (decide ((numsL1 : Int) > 96)) then (
  K (.bool false) h1) else (
  boleref04_may.k1 numsA1 numsL1 n1 h1 K))
def boleref04_may.lo : Nat → List Nat × List (Nat × Ty) := fun n => match n with | 5 => ([0, 1], [(5, .int .i64), (6, .int .i64)]) | _ => ([], [])
def boleref04_may.od : Nat → Od := fun n => match n with | _ => .nil
theorem boleref04_may.eq (numsA1 : Option Addr) (numsL1 : Nat) (numsC1 : Nat) (n1 : Int) (K : Value → Heap → Prop) (h : Heap) : fnX (cx boleref04_may.lo boleref04_may.od) Tryd.f40 (Tryd.f40.body.getD .skip) [.slice numsA1 numsL1 numsC1, .int .i64 n1] K h = boleref04_may numsA1 numsL1 numsC1 n1 K h := by kernel_rfl
theorem boleref04_may.chk : fnOk (cx boleref04_may.lo boleref04_may.od) Tryd.f40 (Tryd.f40.body.getD .skip) 2 = true := by kernel_rfl
theorem boleref04_may.ok {numsA1 : Option Addr} {numsL1 : Nat} {numsC1 : Nat} {n1 : Int} {K : Value → Heap → Prop} {h : Heap} (hx : boleref04_may numsA1 numsL1 numsC1 n1 K h) : C.boleref04_may numsA1 numsL1 numsC1 n1 h K :=
  fn_to (cxOk _ _) Tryd.func40 (by kernel_rfl) boleref04_may.chk (by rw [boleref04_may.eq]; exact hx)

-- 41
def boleref04_blocks (dataA1 : Option Addr) (dataL1 : Nat) (dataC1 : Nat) (n1 : Int) (K : Value → Heap → Prop) (h1 : Heap) : Prop :=
  bif ((dataL1 : Int) != n1) then (
  K (.bool false) h1) else (
  ∃ (I1 : Int → Heap → Prop) (M1 : Int → Heap → Nat), I1 0 h1 ∧
  ∀ (i1 : Int), ∀ h2 : Heap, I1 i1 h2 →
  bif (decide (i1 < (dataL1 : Int))) then (
  (0 ≤ i1 ∧ i1 < (dataL1 : Int)) ∧
  onSome dataA1 fun p1 =>
  ∃ (sA1 : Option Addr) (sL1 : Nat) (sC1 : Nat), cellOf h2 (Addr.add p1 (Int.toNat i1)) = some (.slice sA1 sL1 sC1) ∧
  bif ((sL1 : Int) != 512) then (
  K (.bool false) h2) else (
  I1 (IntKind.wrap .i64 (i1 + 1)) h2 ∧ M1 (IntKind.wrap .i64 (i1 + 1)) h2 < M1 i1 h2)) else (
  K (.bool true) h2))
def boleref04_blocks.lo : Nat → List Nat × List (Nat × Ty) := fun n => match n with | 4 => ([0], [(5, .int .i64)]) | _ => ([], [])
def boleref04_blocks.od : Nat → Od := fun n => match n with | _ => .nil
theorem boleref04_blocks.eq (dataA1 : Option Addr) (dataL1 : Nat) (dataC1 : Nat) (n1 : Int) (K : Value → Heap → Prop) (h : Heap) : fnX (cx boleref04_blocks.lo boleref04_blocks.od) Tryd.f41 (Tryd.f41.body.getD .skip) [.slice dataA1 dataL1 dataC1, .int .i64 n1] K h = boleref04_blocks dataA1 dataL1 dataC1 n1 K h := by kernel_rfl
theorem boleref04_blocks.chk : fnOk (cx boleref04_blocks.lo boleref04_blocks.od) Tryd.f41 (Tryd.f41.body.getD .skip) 2 = true := by kernel_rfl
theorem boleref04_blocks.ok {dataA1 : Option Addr} {dataL1 : Nat} {dataC1 : Nat} {n1 : Int} {K : Value → Heap → Prop} {h : Heap} (hx : boleref04_blocks dataA1 dataL1 dataC1 n1 K h) : C.boleref04_blocks dataA1 dataL1 dataC1 n1 h K :=
  fn_to (cxOk _ _) Tryd.func41 (by kernel_rfl) boleref04_blocks.chk (by rw [boleref04_blocks.eq]; exact hx)

-- 42
def boleref04_laid (numsA1 : Option Addr) (numsL1 : Nat) (numsC1 : Nat) (sum1 : Int) (K : Value → Heap → Prop) (h1 : Heap) : Prop :=
  New [.int .u8 66, .int .u8 79, .int .u8 76, .int .u8 69, .int .u8 76, .int .u8 79, .int .u8 71, .int .u8 49] 5 h1 fun h2 =>
  MarkAt ⟨h1.size, 0, none⟩ h2 fun h3 =>
  New [.int .u8 (IntKind.wrap .u8 ((numsL1 : Int))), .int .u8 (IntKind.wrap .u8 ((IntKind.wrap .i64 (Int.tdiv (numsL1 : Int) 256)))), .int .u8 0, .int .u8 0] 5 h3 fun h4 =>
  ∃ new1 : List Value, List.length new1 = 4 * 1 ∧ SlCells h4 (some ⟨h3.size, 0, none⟩) new1 ∧ (∀ v ∈ new1, v.oneCell' = true) ∧
  AppendP ti5 5 (some ⟨h1.size, 0, none⟩) 8 8 4 new1 h4 fun sA1 sL1 sC1 h5 =>
  New [.int .u8 (IntKind.wrap .u8 (sum1)), .int .u8 (IntKind.wrap .u8 ((Int.fdiv sum1 (2 ^ min (Int.toNat 8) 32)))), .int .u8 (IntKind.wrap .u8 ((Int.fdiv sum1 (2 ^ min (Int.toNat 16) 32)))), .int .u8 (IntKind.wrap .u8 ((Int.fdiv sum1 (2 ^ min (Int.toNat 24) 32))))] 5 h5 fun h6 =>
  ∃ new2 : List Value, List.length new2 = 4 * 1 ∧ SlCells h6 (some ⟨h5.size, 0, none⟩) new2 ∧ (∀ v ∈ new2, v.oneCell' = true) ∧
  AppendP ti5 5 sA1 sL1 sC1 4 new2 h6 fun sA2 sL2 sC2 h7 =>
  ∃ (I1 : Option Addr → Nat → Nat → Int → Heap → Prop) (M1 : Option Addr → Nat → Nat → Int → Heap → Nat), I1 sA2 sL2 sC2 0 h7 ∧
  ∀ (bA1 : Option Addr) (bL1 : Nat) (bC1 : Nat) (i1 : Int), ∀ h8 : Heap, I1 bA1 bL1 bC1 i1 h8 →
  bif (decide (i1 < (numsL1 : Int))) then (
  (0 ≤ i1 ∧ i1 < (numsL1 : Int)) ∧
  onSome numsA1 fun p1 =>
  ∃ (n1 : Int), cellOf h8 (Addr.add p1 (Int.toNat i1)) = some (.int .i64 n1) ∧
  (0 ≤ i1 ∧ i1 < (numsL1 : Int)) ∧
  onSome numsA1 fun p2 =>
  ∃ (n2 : Int), cellOf h8 (Addr.add p2 (Int.toNat i1)) = some (.int .i64 n2) ∧
  (0 ≤ i1 ∧ i1 < (numsL1 : Int)) ∧
  onSome numsA1 fun p3 =>
  ∃ (n3 : Int), cellOf h8 (Addr.add p3 (Int.toNat i1)) = some (.int .i64 n3) ∧
  (0 ≤ i1 ∧ i1 < (numsL1 : Int)) ∧
  onSome numsA1 fun p4 =>
  ∃ (n4 : Int), cellOf h8 (Addr.add p4 (Int.toNat i1)) = some (.int .i64 n4) ∧
  New [.int .u8 (IntKind.wrap .u8 (n1)), .int .u8 (IntKind.wrap .u8 ((Int.fdiv n2 (2 ^ min (Int.toNat 8) 64)))), .int .u8 (IntKind.wrap .u8 ((Int.fdiv n3 (2 ^ min (Int.toNat 16) 64)))), .int .u8 (IntKind.wrap .u8 ((Int.fdiv n4 (2 ^ min (Int.toNat 24) 64))))] 5 h8 fun h9 =>
  ∃ new3 : List Value, List.length new3 = 4 * 1 ∧ SlCells h9 (some ⟨h8.size, 0, none⟩) new3 ∧ (∀ v ∈ new3, v.oneCell' = true) ∧
  AppendP ti5 5 bA1 bL1 bC1 4 new3 h9 fun sA3 sL3 sC3 h10 =>
  I1 sA3 sL3 sC3 (IntKind.wrap .i64 (i1 + 1)) h10 ∧ M1 sA3 sL3 sC3 (IntKind.wrap .i64 (i1 + 1)) h10 < M1 bA1 bL1 bC1 i1 h8) else (
  ∃ (I2 : Option Addr → Nat → Nat → Heap → Prop) (M2 : Option Addr → Nat → Nat → Heap → Nat), I2 bA1 bL1 bC1 h8 ∧
  ∀ (bA2 : Option Addr) (bL2 : Nat) (bC2 : Nat), ∀ h11 : Heap, I2 bA2 bL2 bC2 h11 →
  bif (decide ((bL2 : Int) < 512)) then (
  New [.int .u8 0] 5 h11 fun h12 =>
  ∃ new4 : List Value, List.length new4 = 1 * 1 ∧ SlCells h12 (some ⟨h11.size, 0, none⟩) new4 ∧ (∀ v ∈ new4, v.oneCell' = true) ∧
  AppendP ti5 5 bA2 bL2 bC2 1 new4 h12 fun sA4 sL4 sC4 h13 =>
  I2 sA4 sL4 sC4 h13 ∧ M2 sA4 sL4 sC4 h13 < M2 bA2 bL2 bC2 h11) else (
  K (.slice bA2 bL2 bC2) h11))
def boleref04_laid.lo : Nat → List Nat × List (Nat × Ty) := fun n => match n with | 5 => ([0], [(5, .slice), (6, .int .i64)]) | 8 => ([], [(5, .slice)]) | _ => ([], [])
def boleref04_laid.od : Nat → Od := fun n => match n with | 7 => (.op 0 [] (.op 1 [] (.op 2 [] (.op 3 [] (.op 4 [] (.op 5 [] (.op 6 [] (.op 7 [] (.op 8 [] (.op 9 [] (.op 10 [] (.op 11 [] (.op 12 [] (.op 13 [] (.op 14 [] (.op 15 [] (.op 16 [] (.op 17 [] (.op 18 [] (.op 19 [] (.op 20 [] (.op 21 [] (.op 22 [] (.op 23 [] (.op 24 [] (.op 25 [] (.op 26 [] .nil))))))))))))))))))))))))))) | _ => .nil
theorem boleref04_laid.eq (numsA1 : Option Addr) (numsL1 : Nat) (numsC1 : Nat) (sum1 : Int) (K : Value → Heap → Prop) (h : Heap) : fnX (cx boleref04_laid.lo boleref04_laid.od) Tryd.f42 (Tryd.f42.body.getD .skip) [.slice numsA1 numsL1 numsC1, .int .u32 sum1] K h = boleref04_laid numsA1 numsL1 numsC1 sum1 K h := by kernel_rfl
theorem boleref04_laid.chk : fnOk (cx boleref04_laid.lo boleref04_laid.od) Tryd.f42 (Tryd.f42.body.getD .skip) 2 = true := by kernel_rfl
theorem boleref04_laid.ok {numsA1 : Option Addr} {numsL1 : Nat} {numsC1 : Nat} {sum1 : Int} {K : Value → Heap → Prop} {h : Heap} (hx : boleref04_laid numsA1 numsL1 numsC1 sum1 K h) : C.boleref04_laid numsA1 numsL1 numsC1 sum1 h K :=
  fn_to (cxOk _ _) Tryd.func42 (by kernel_rfl) boleref04_laid.chk (by rw [boleref04_laid.eq]; exact hx)

-- 43
def boleref04_SumOf (numsA1 : Option Addr) (numsL1 : Nat) (numsC1 : Nat) (dataA1 : Option Addr) (dataL1 : Nat) (dataC1 : Nat) (K : Value → Heap → Prop) (h1 : Heap) : Prop :=
  C.boleref04_laid numsA1 numsL1 numsC1 0 h1 fun r1 h2 =>
  ∃ (sA1 : Option Addr) (sL1 : Nat) (sC1 : Nat), r1 = .slice sA1 sL1 sC1 ∧
  ∃ (I1 : Option Addr → Nat → Nat → Int → Heap → Prop) (M1 : Option Addr → Nat → Nat → Int → Heap → Nat), I1 sA1 sL1 sC1 0 h2 ∧
  ∀ (bA1 : Option Addr) (bL1 : Nat) (bC1 : Nat) (i1 : Int), ∀ h3 : Heap, I1 bA1 bL1 bC1 i1 h3 →
  bif (decide (i1 < (dataL1 : Int))) then (
  (0 ≤ i1 ∧ i1 < (dataL1 : Int)) ∧
  onSome dataA1 fun p1 =>
  ∃ (sA2 : Option Addr) (sL2 : Nat) (sC2 : Nat), cellOf h3 (Addr.add p1 (Int.toNat i1)) = some (.slice sA2 sL2 sC2) ∧
  ∃ new1 : List Value, List.length new1 = sL2 * 1 ∧ SlCells h3 sA2 new1 ∧ (∀ v ∈ new1, v.oneCell' = true) ∧
  AppendP ti5 5 bA1 bL1 bC1 sL2 new1 h3 fun sA3 sL3 sC3 h4 =>
  I1 sA3 sL3 sC3 (IntKind.wrap .i64 (i1 + 1)) h4 ∧ M1 sA3 sL3 sC3 (IntKind.wrap .i64 (i1 + 1)) h4 < M1 bA1 bL1 bC1 i1 h3) else (
  C.boleref01_Of bA1 bL1 bC1 h3 fun r2 h5 =>
  ∃ (n1 : Int), r2 = .int .u32 n1 ∧
  K (.int .u32 n1) h5)
def boleref04_SumOf.lo : Nat → List Nat × List (Nat × Ty) := fun n => match n with | 3 => ([1], [(5, .slice), (6, .int .i64)]) | _ => ([], [])
def boleref04_SumOf.od : Nat → Od := fun n => match n with | _ => .nil
theorem boleref04_SumOf.eq (numsA1 : Option Addr) (numsL1 : Nat) (numsC1 : Nat) (dataA1 : Option Addr) (dataL1 : Nat) (dataC1 : Nat) (K : Value → Heap → Prop) (h : Heap) : fnX (cx boleref04_SumOf.lo boleref04_SumOf.od) Tryd.f43 (Tryd.f43.body.getD .skip) [.slice numsA1 numsL1 numsC1, .slice dataA1 dataL1 dataC1] K h = boleref04_SumOf numsA1 numsL1 numsC1 dataA1 dataL1 dataC1 K h := by kernel_rfl
theorem boleref04_SumOf.chk : fnOk (cx boleref04_SumOf.lo boleref04_SumOf.od) Tryd.f43 (Tryd.f43.body.getD .skip) 2 = true := by kernel_rfl
theorem boleref04_SumOf.ok {numsA1 : Option Addr} {numsL1 : Nat} {numsC1 : Nat} {dataA1 : Option Addr} {dataL1 : Nat} {dataC1 : Nat} {K : Value → Heap → Prop} {h : Heap} (hx : boleref04_SumOf numsA1 numsL1 numsC1 dataA1 dataL1 dataC1 K h) : C.boleref04_SumOf numsA1 numsL1 numsC1 dataA1 dataL1 dataC1 h K :=
  fn_to (cxOk _ _) Tryd.func43 (by kernel_rfl) boleref04_SumOf.chk (by rw [boleref04_SumOf.eq]; exact hx)

-- 44
def rec_Zero (bA1 : Option Addr) (bL1 : Nat) (bC1 : Nat) (at1 : Int) (n1 : Int) (K : Value → Heap → Prop) (h1 : Heap) : Prop :=
  bif (decide (n1 < 0)) then (
  K (.tuple #[.bool false, .int .i64 1]) h1) else (
  C.rec_lie bA1 bL1 bC1 at1 n1 h1 fun r1 h2 =>
  ∃ (b1 : Bool), r1 = .bool b1 ∧
  bif (!b1) then (
  K (.tuple #[.bool false, .int .i64 20]) h2) else (
  (0 ≤ at1 ∧ at1 ≤ (IntKind.wrap .i64 (at1 + n1)) ∧ (IntKind.wrap .i64 (at1 + n1)) ≤ (bC1 : Int)) ∧
  C.rec_zeros (if bC1 = (Int.toNat at1) then bA1 else Option.map (Addr.add · (Int.toNat at1)) bA1) ((Int.toNat (IntKind.wrap .i64 (at1 + n1))) - (Int.toNat at1)) (bC1 - (Int.toNat at1)) h2 fun r2 h3 =>
  ∃ (b2 : Bool), r2 = .bool b2 ∧
  K (.tuple #[.bool b2, .int .i64 0]) h3))
def rec_Zero.lo : Nat → List Nat × List (Nat × Ty) := fun n => match n with | _ => ([], [])
def rec_Zero.od : Nat → Od := fun n => match n with | _ => .nil
theorem rec_Zero.eq (bA1 : Option Addr) (bL1 : Nat) (bC1 : Nat) (at1 : Int) (n1 : Int) (K : Value → Heap → Prop) (h : Heap) : fnX (cx rec_Zero.lo rec_Zero.od) Tryd.f44 (Tryd.f44.body.getD .skip) [.slice bA1 bL1 bC1, .int .i64 at1, .int .i64 n1] K h = rec_Zero bA1 bL1 bC1 at1 n1 K h := by kernel_rfl
theorem rec_Zero.chk : fnOk (cx rec_Zero.lo rec_Zero.od) Tryd.f44 (Tryd.f44.body.getD .skip) 3 = true := by kernel_rfl
theorem rec_Zero.ok {bA1 : Option Addr} {bL1 : Nat} {bC1 : Nat} {at1 : Int} {n1 : Int} {K : Value → Heap → Prop} {h : Heap} (hx : rec_Zero bA1 bL1 bC1 at1 n1 K h) : C.rec_Zero bA1 bL1 bC1 at1 n1 h K :=
  fn_to (cxOk _ _) Tryd.func44 (by kernel_rfl) rec_Zero.chk (by rw [rec_Zero.eq]; exact hx)

-- 45
def rec_Get (bA1 : Option Addr) (bL1 : Nat) (bC1 : Nat) (at1 : Int) (n1 : Int) (K : Value → Heap → Prop) (h1 : Heap) : Prop :=
  C.rec_isWidth n1 h1 fun r1 h2 =>
  ∃ (b1 : Bool), r1 = .bool b1 ∧
  bif (!b1) then (
  K (.tuple #[.int .u64 0, .int .i64 1]) h2) else (
  C.rec_lie bA1 bL1 bC1 at1 n1 h2 fun r2 h3 =>
  ∃ (b2 : Bool), r2 = .bool b2 ∧
  bif (!b2) then (
  K (.tuple #[.int .u64 0, .int .i64 20]) h3) else (
  ∃ (I1 : Int → Int → Heap → Prop) (M1 : Int → Int → Heap → Nat), I1 0 0 h3 ∧
  ∀ (v1 : Int) (n2 : Int), ∀ h4 : Heap, I1 v1 n2 h4 →
  bif (decide (n2 < n1)) then (
  (0 ≤ (IntKind.wrap .i64 (at1 + n2)) ∧ (IntKind.wrap .i64 (at1 + n2)) < (bL1 : Int)) ∧
  onSome bA1 fun p1 =>
  ∃ (n3 : Int), cellOf h4 (Addr.add p1 (Int.toNat (IntKind.wrap .i64 (at1 + n2)))) = some (.int .u8 n3) ∧
  if (IntKind.wrap .i64 (8 * n2)) < 0 then False else
  I1 (bitsI .or .u64 v1 (IntKind.wrap .u64 (((IntKind.wrap .u64 (n3)) * 2 ^ min (Int.toNat (IntKind.wrap .i64 (8 * n2))) 64)))) (IntKind.wrap .i64 (n2 + 1)) h4 ∧ M1 (bitsI .or .u64 v1 (IntKind.wrap .u64 (((IntKind.wrap .u64 (n3)) * 2 ^ min (Int.toNat (IntKind.wrap .i64 (8 * n2))) 64)))) (IntKind.wrap .i64 (n2 + 1)) h4 < M1 v1 n2 h4) else (
  K (.tuple #[.int .u64 v1, .int .i64 0]) h4)))
def rec_Get.lo : Nat → List Nat × List (Nat × Ty) := fun n => match n with | 7 => ([0, 1, 20], [(8, .int .u64), (21, .int .i64)]) | _ => ([], [])
def rec_Get.od : Nat → Od := fun n => match n with | _ => .nil
theorem rec_Get.eq (bA1 : Option Addr) (bL1 : Nat) (bC1 : Nat) (at1 : Int) (n1 : Int) (K : Value → Heap → Prop) (h : Heap) : fnX (cx rec_Get.lo rec_Get.od) Tryd.f45 (Tryd.f45.body.getD .skip) [.slice bA1 bL1 bC1, .int .i64 at1, .int .i64 n1] K h = rec_Get bA1 bL1 bC1 at1 n1 K h := by kernel_rfl
theorem rec_Get.chk : fnOk (cx rec_Get.lo rec_Get.od) Tryd.f45 (Tryd.f45.body.getD .skip) 3 = true := by kernel_rfl
theorem rec_Get.ok {bA1 : Option Addr} {bL1 : Nat} {bC1 : Nat} {at1 : Int} {n1 : Int} {K : Value → Heap → Prop} {h : Heap} (hx : rec_Get bA1 bL1 bC1 at1 n1 K h) : C.rec_Get bA1 bL1 bC1 at1 n1 h K :=
  fn_to (cxOk _ _) Tryd.func45 (by kernel_rfl) rec_Get.chk (by rw [rec_Get.eq]; exact hx)

-- 46
def boleref04_number (bA1 : Option Addr) (bL1 : Nat) (bC1 : Nat) (at1 : Int) (K : Value → Heap → Prop) (h1 : Heap) : Prop :=
  (0 ≤ at1 ∧ at1 < (bL1 : Int)) ∧
  onSome bA1 fun p1 =>
  ∃ (n1 : Int), cellOf h1 (Addr.add p1 (Int.toNat at1)) = some (.int .u8 n1) ∧
  (0 ≤ (IntKind.wrap .i64 (at1 + 1)) ∧ (IntKind.wrap .i64 (at1 + 1)) < (bL1 : Int)) ∧
  onSome bA1 fun p2 =>
  ∃ (n2 : Int), cellOf h1 (Addr.add p2 (Int.toNat (IntKind.wrap .i64 (at1 + 1)))) = some (.int .u8 n2) ∧
  (0 ≤ (IntKind.wrap .i64 (at1 + 2)) ∧ (IntKind.wrap .i64 (at1 + 2)) < (bL1 : Int)) ∧
  onSome bA1 fun p3 =>
  ∃ (n3 : Int), cellOf h1 (Addr.add p3 (Int.toNat (IntKind.wrap .i64 (at1 + 2)))) = some (.int .u8 n3) ∧
  (0 ≤ (IntKind.wrap .i64 (at1 + 3)) ∧ (IntKind.wrap .i64 (at1 + 3)) < (bL1 : Int)) ∧
  onSome bA1 fun p4 =>
  ∃ (n4 : Int), cellOf h1 (Addr.add p4 (Int.toNat (IntKind.wrap .i64 (at1 + 3)))) = some (.int .u8 n4) ∧
  K (.int .i64 (IntKind.wrap .i64 ((IntKind.wrap .i64 ((IntKind.wrap .i64 ((IntKind.wrap .i64 (n1)) + (IntKind.wrap .i64 ((IntKind.wrap .i64 (n2)) * 256)))) + (IntKind.wrap .i64 ((IntKind.wrap .i64 (n3)) * 65536)))) + (IntKind.wrap .i64 ((IntKind.wrap .i64 (n4)) * 16777216))))) h1
def boleref04_number.lo : Nat → List Nat × List (Nat × Ty) := fun n => match n with | _ => ([], [])
def boleref04_number.od : Nat → Od := fun n => match n with | 1 => (.op 0 [] (.op 1 [] (.op 2 [] (.op 3 [] (.op 4 [] (.op 5 [] (.op 6 [] (.op 7 [] (.op 8 [] (.op 9 [] (.op 10 [] (.op 11 [] (.op 12 [] (.op 13 [] (.op 14 [] (.op 15 [] (.op 16 [] (.op 17 [] (.op 18 [] (.op 19 [] (.op 20 [] (.op 21 [] (.op 22 [] (.op 23 [] (.op 24 [] (.op 25 [] (.op 26 [] (.op 27 [] (.op 28 [] (.op 29 [] .nil)))))))))))))))))))))))))))))) | _ => .nil
theorem boleref04_number.eq (bA1 : Option Addr) (bL1 : Nat) (bC1 : Nat) (at1 : Int) (K : Value → Heap → Prop) (h : Heap) : fnX (cx boleref04_number.lo boleref04_number.od) Tryd.f46 (Tryd.f46.body.getD .skip) [.slice bA1 bL1 bC1, .int .i64 at1] K h = boleref04_number bA1 bL1 bC1 at1 K h := by kernel_rfl
theorem boleref04_number.chk : fnOk (cx boleref04_number.lo boleref04_number.od) Tryd.f46 (Tryd.f46.body.getD .skip) 2 = true := by kernel_rfl
theorem boleref04_number.ok {bA1 : Option Addr} {bL1 : Nat} {bC1 : Nat} {at1 : Int} {K : Value → Heap → Prop} {h : Heap} (hx : boleref04_number bA1 bL1 bC1 at1 K h) : C.boleref04_number bA1 bL1 bC1 at1 h K :=
  fn_to (cxOk _ _) Tryd.func46 (by kernel_rfl) boleref04_number.chk (by rw [boleref04_number.eq]; exact hx)
end Go.Proofs.YtnlmieklakolkaaDoor.W
