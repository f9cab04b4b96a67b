/-
  WHAT THE FUNCTIONS COMPUTE, as formulas; each held against the loaded code by the kernel. Written by program (gen.py).
-/
import Derived.Test.YtnlmieklakolkaaDoorTab
namespace Go.Proofs.YtnlmieklakolkaaDoor.W
open Go Go.Proofs Go.Proofs.YtnlmieklakolkaaDoor.Wx
-- 9
def bolelaw11_InodeForm.k2 (bA1 : Option Addr) (bL1 : Nat) (bC1 : Nat) (h5 : Heap) (sA1 : Option Addr) (sL1 : Nat) (h15 : Heap) (K : Value → Heap → Prop) : Prop :=
  ∃ (I1 : Int → Heap → Prop) (M1 : Int → Heap → Nat), I1 0 h15 ∧
  ∀ (i1 : Int), ∀ h16 : Heap, I1 i1 h16 →
  bif (decide (i1 < 64)) then (
  New [] 5 h16 fun h17 =>
  ∃ new1 : List Value, List.length new1 = sL1 * 1 ∧ SlCells h17 sA1 new1 ∧ (∀ v ∈ new1, v.oneCell' = true) ∧
  AppendP ti5 5 (some ⟨h16.size, 0, none⟩) 0 0 sL1 new1 h17 fun sA3 sL3 sC3 h18 =>
  (0 ≤ i1 ∧ i1 < (sL3 : Int)) ∧
  onSome sA3 fun p1 =>
  ∃ (n4 : Int), cellOf h18 (Addr.add p1 (Int.toNat i1)) = some (.int .u8 n4) ∧
  if (Int.tmod i1 8) < 0 then False else
  (0 ≤ i1 ∧ i1 < (sL3 : Int)) ∧
  onSome sA3 fun p2 =>
  Put (Addr.add p2 (Int.toNat i1)) (.int .u8 (bitsI .xor .u8 n4 (IntKind.wrap .u8 ((1 * 2 ^ min (Int.toNat (Int.tmod i1 8)) 8))))) h18 fun h19 =>
  C.inode_Decode sA3 sL3 sC3 h19 fun r7 h20 =>
  ∃ (cs12 : List Value) (n5 : Int), r7 = .tuple #[.agg ⟨cs12⟩, .int .i64 n5] ∧
  NewRow z58 58 cs12 15 h20 fun h22 =>
  bif (n5 == 0) then (
  ∃ cs13 : List Value, List.length cs13 = 15 ∧ Cells h22 ⟨h20.size, 0, none⟩ cs13 ∧
  ∃ cs14 : List Value, List.length cs14 = 15 ∧ Cells h22 ⟨h5.size, 0, none⟩ cs14 ∧
  pairsOk [(.int .i64), (.int .i64), (.int .i64), (.int .i64), (.int .i64), (.int .i64), (.int .i64), (.int .i64), (.int .i64), (.int .i64), (.int .i64), (.int .i64), (.int .i64), (.int .i64), (.int .i64)] cs13 cs14 = true ∧
  bif (cellsEq cs13 cs14) then (
  K (.bool false) h22) else (
  bif (n5 != 0) then (
  bif (n5 != 111) then (
  K (.bool false) h22) else (
  ∃ cs15 : List Value, List.length cs15 = 15 ∧ Cells h22 ⟨h20.size, 0, none⟩ cs15 ∧
  pairsOk [(.int .i64), (.int .i64), (.int .i64), (.int .i64), (.int .i64), (.int .i64), (.int .i64), (.int .i64), (.int .i64), (.int .i64), (.int .i64), (.int .i64), (.int .i64), (.int .i64), (.int .i64)] cs15 [.int .i64 0, .int .i64 0, .int .i64 0, .int .i64 0, .int .i64 0, .int .i64 0, .int .i64 0, .int .i64 0, .int .i64 0, .int .i64 0, .int .i64 0, .int .i64 0, .int .i64 0, .int .i64 0, .int .i64 0] = true ∧
  bif (!(cellsEq cs15 [.int .i64 0, .int .i64 0, .int .i64 0, .int .i64 0, .int .i64 0, .int .i64 0, .int .i64 0, .int .i64 0, .int .i64 0, .int .i64 0, .int .i64 0, .int .i64 0, .int .i64 0, .int .i64 0, .int .i64 0])) then (
  K (.bool false) h22) else (
  I1 (IntKind.wrap .i64 (i1 + 1)) h22 ∧ M1 (IntKind.wrap .i64 (i1 + 1)) h22 < M1 i1 h16))) else (
  I1 (IntKind.wrap .i64 (i1 + 1)) h22 ∧ M1 (IntKind.wrap .i64 (i1 + 1)) h22 < M1 i1 h16))) else (
  bif (n5 != 0) then (
  bif (n5 != 111) then (
  K (.bool false) h22) else (
  ∃ cs16 : List Value, List.length cs16 = 15 ∧ Cells h22 ⟨h20.size, 0, none⟩ cs16 ∧
  pairsOk [(.int .i64), (.int .i64), (.int .i64), (.int .i64), (.int .i64), (.int .i64), (.int .i64), (.int .i64), (.int .i64), (.int .i64), (.int .i64), (.int .i64), (.int .i64), (.int .i64), (.int .i64)] cs16 [.int .i64 0, .int .i64 0, .int .i64 0, .int .i64 0, .int .i64 0, .int .i64 0, .int .i64 0, .int .i64 0, .int .i64 0, .int .i64 0, .int .i64 0, .int .i64 0, .int .i64 0, .int .i64 0, .int .i64 0] = true ∧
  bif (!(cellsEq cs16 [.int .i64 0, .int .i64 0, .int .i64 0, .int .i64 0, .int .i64 0, .int .i64 0, .int .i64 0, .int .i64 0, .int .i64 0, .int .i64 0, .int .i64 0, .int .i64 0, .int .i64 0, .int .i64 0, .int .i64 0])) then (
  K (.bool false) h22) else (
  I1 (IntKind.wrap .i64 (i1 + 1)) h22 ∧ M1 (IntKind.wrap .i64 (i1 + 1)) h22 < M1 i1 h16))) else (
  I1 (IntKind.wrap .i64 (i1 + 1)) h22 ∧ M1 (IntKind.wrap .i64 (i1 + 1)) h22 < M1 i1 h16))) else (
  C.inode_Decode bA1 bL1 bC1 h16 fun r8 h23 =>
  ∃ (cs17 : List Value) (n6 : Int), r8 = .tuple #[.agg ⟨cs17⟩, .int .i64 n6] ∧
  NewRow z58 58 cs17 15 h23 fun h25 =>
  bif (n6 != 0) then (
  ∃ cs18 : List Value, List.length cs18 = 15 ∧ Cells h25 ⟨h23.size, 0, none⟩ cs18 ∧
  pairsOk [(.int .i64), (.int .i64), (.int .i64), (.int .i64), (.int .i64), (.int .i64), (.int .i64), (.int .i64), (.int .i64), (.int .i64), (.int .i64), (.int .i64), (.int .i64), (.int .i64), (.int .i64)] cs18 [.int .i64 0, .int .i64 0, .int .i64 0, .int .i64 0, .int .i64 0, .int .i64 0, .int .i64 0, .int .i64 0, .int .i64 0, .int .i64 0, .int .i64 0, .int .i64 0, .int .i64 0, .int .i64 0, .int .i64 0] = true ∧
  bif (cellsEq cs18 [.int .i64 0, .int .i64 0, .int .i64 0, .int .i64 0, .int .i64 0, .int .i64 0, .int .i64 0, .int .i64 0, .int .i64 0, .int .i64 0, .int .i64 0, .int .i64 0, .int .i64 0, .int .i64 0, .int .i64 0]) then (
  K (.bool ((n6 == 32) == ((bL1 : Int) != 64))) h25) else (
  K (.bool false) h25)) else (
  ∃ cs19 : List Value, List.length cs19 = 15 ∧ Cells h25 ⟨h23.size, 0, none⟩ cs19 ∧
  C.inode_Encode cs19 h25 fun r9 h26 =>
  ∃ (sA4 : Option Addr) (sL4 : Nat) (sC4 : Nat) (n7 : Int), r9 = .tuple #[.slice sA4 sL4 sC4, .int .i64 n7] ∧
  bif (n7 == 0) then (
  ∃ bs3 : List UInt8, StrAt h26 sA4 sL4 bs3 ∧
  ∃ bs4 : List UInt8, StrAt h26 bA1 bL1 bs4 ∧
  K (.bool ((mkStr bs3).toList == (mkStr bs4).toList)) h26) else (
  K (.bool false) h26)))
def bolelaw11_InodeForm.k1 (bA1 : Option Addr) (bL1 : Nat) (bC1 : Nat) (h5 : Heap) (sA1 : Option Addr) (sL1 : Nat) (sC1 : Nat) (h12 : Heap) (K : Value → Heap → Prop) : Prop :=
  C.inode_Decode sA1 sL1 sC1 h12 fun r6 h13 =>
  ∃ (cs9 : List Value) (n3 : Int), r6 = .tuple #[.agg ⟨cs9⟩, .int .i64 n3] ∧
  NewRow z58 58 cs9 15 h13 fun h15 =>
  bif (n3 != 0) then (
  K (.bool false) h15) else (
  ∃ cs10 : List Value, List.length cs10 = 15 ∧ Cells h15 ⟨h13.size, 0, none⟩ cs10 ∧
  ∃ cs11 : List Value, List.length cs11 = 15 ∧ Cells h15 ⟨h5.size, 0, none⟩ cs11 ∧
  pairsOk [(.int .i64), (.int .i64), (.int .i64), (.int .i64), (.int .i64), (.int .i64), (.int .i64), (.int .i64), (.int .i64), (.int .i64), (.int .i64), (.int .i64), (.int .i64), (.int .i64), (.int .i64)] cs10 cs11 = true ∧
  bif (!(cellsEq cs10 cs11)) then (
  K (.bool false) h15) else (
  bolelaw11_InodeForm.k2 bA1 bL1 bC1 h5 sA1 sL1 h15 K))
def bolelaw11_InodeForm (x1 : List Value) (y1 : List Value) (bA1 : Option Addr) (bL1 : Nat) (bC1 : Nat) (K : Value → Heap → Prop) (h1 : Heap) : Prop :=
  New x1 58 h1 fun h2 =>
  New y1 58 h2 fun h3 =>
  C.bolelaw11_fixed  h3 fun r1 h4 =>
  ∃ (b1 : Bool), r1 = .bool b1 ∧
  bif (!b1) then (
  K (.bool false) h4) else (
  ∃ cs1 : List Value, List.length cs1 = 15 ∧ Cells h4 ⟨h1.size, 0, none⟩ cs1 ∧
  C.bolelaw11_brought cs1 h4 fun r2 h5 =>
  ∃ (cs2 : List Value), r2 = .agg ⟨cs2⟩ ∧
  NewRow z58 58 cs2 15 h5 fun h7 =>
  ∃ cs3 : List Value, List.length cs3 = 15 ∧ Cells h7 ⟨h2.size, 0, none⟩ cs3 ∧
  C.bolelaw11_brought cs3 h7 fun r3 h8 =>
  ∃ (cs4 : List Value), r3 = .agg ⟨cs4⟩ ∧
  NewRow z58 58 cs4 15 h8 fun h10 =>
  ∃ cs5 : List Value, List.length cs5 = 15 ∧ Cells h10 ⟨h5.size, 0, none⟩ cs5 ∧
  C.inode_Encode cs5 h10 fun r4 h11 =>
  ∃ (sA1 : Option Addr) (sL1 : Nat) (sC1 : Nat) (n1 : Int), r4 = .tuple #[.slice sA1 sL1 sC1, .int .i64 n1] ∧
  ∃ cs6 : List Value, List.length cs6 = 15 ∧ Cells h11 ⟨h8.size, 0, none⟩ cs6 ∧
  C.inode_Encode cs6 h11 fun r5 h12 =>
  ∃ (sA2 : Option Addr) (sL2 : Nat) (sC2 : Nat) (n2 : Int), r5 = .tuple #[.slice sA2 sL2 sC2, .int .i64 n2] ∧
  bif (n1 != 0) then (
  K (.bool false) h12) else (
  bif (n2 != 0) then (
  K (.bool false) h12) else (
  bif ((sL1 : Int) != 64) then (
  K (.bool false) h12) else (
  bif ((sL2 : Int) != 64) then (
  K (.bool false) h12) else (
  ∃ cs7 : List Value, List.length cs7 = 15 ∧ Cells h12 ⟨h5.size, 0, none⟩ cs7 ∧
  ∃ cs8 : List Value, List.length cs8 = 15 ∧ Cells h12 ⟨h8.size, 0, none⟩ cs8 ∧
  pairsOk [(.int .i64), (.int .i64), (.int .i64), (.int .i64), (.int .i64), (.int .i64), (.int .i64), (.int .i64), (.int .i64), (.int .i64), (.int .i64), (.int .i64), (.int .i64), (.int .i64), (.int .i64)] cs7 cs8 = true ∧
  ∃ bs1 : List UInt8, StrAt h12 sA1 sL1 bs1 ∧
  ∃ bs2 : List UInt8, StrAt h12 sA2 sL2 bs2 ∧
  bif (!((cellsEq cs7 cs8) == ((mkStr bs1).toList == (mkStr bs2).toList))) then (
  K (.bool false) h12) else (
  bolelaw11_InodeForm.k1 bA1 bL1 bC1 h5 sA1 sL1 sC1 h12 K))))))
def bolelaw11_InodeForm.lo : Nat → List Nat × List (Nat × Ty) := fun n => match n with | 13 => ([2, 7, 9], [(15, .int .i64)]) | _ => ([], [])
def bolelaw11_InodeForm.od : Nat → Od := fun n => match n with | 7 => (.op 0 [] (.op 1 [] (.op 2 [] (.op 3 [] (.op 4 [] (.op 5 [] (.op 6 [] (.op 7 [] (.op 8 [] (.op 9 [] (.op 10 [] (.op 11 [] (.op 12 [] (.op 13 [] (.op 14 [] (.op 15 [] (.op 16 [] (.op 17 [] (.op 18 [] (.op 19 [] (.op 20 [] (.op 21 [] (.op 22 [] (.op 23 [] (.op 24 [] (.op 25 [] (.op 26 [] .nil))))))))))))))))))))))))))) | 16 => (.op 0 [] (.op 1 [] (.op 2 [] (.op 3 [] (.op 4 [] (.op 5 [] (.op 6 [] (.op 7 [] (.op 8 [] (.op 9 [] (.op 10 [] (.op 11 [] .nil)))))))))))) | _ => .nil
theorem bolelaw11_InodeForm.eq (x1 : List Value) (y1 : List Value) (bA1 : Option Addr) (bL1 : Nat) (bC1 : Nat) (K : Value → Heap → Prop) (h : Heap) : fnX (cx bolelaw11_InodeForm.lo bolelaw11_InodeForm.od) Tryd.f9 (Tryd.f9.body.getD .skip) [.agg ⟨x1⟩, .agg ⟨y1⟩, .slice bA1 bL1 bC1] K h = bolelaw11_InodeForm x1 y1 bA1 bL1 bC1 K h := by kernel_rfl
theorem bolelaw11_InodeForm.chk : fnOk (cx bolelaw11_InodeForm.lo bolelaw11_InodeForm.od) Tryd.f9 (Tryd.f9.body.getD .skip) 3 = true := by kernel_rfl
theorem bolelaw11_InodeForm.ok {x1 : List Value} {y1 : List Value} {bA1 : Option Addr} {bL1 : Nat} {bC1 : Nat} {K : Value → Heap → Prop} {h : Heap} (hx : bolelaw11_InodeForm x1 y1 bA1 bL1 bC1 K h) : C.bolelaw11_InodeForm x1 y1 bA1 bL1 bC1 h K :=
  fn_to (cxOk _ _) Tryd.func9 (by kernel_rfl) bolelaw11_InodeForm.chk (by rw [bolelaw11_InodeForm.eq]; exact hx)

-- 10
def bolelaw04_known.k1 (sA2 : Option Addr) (sL2 : Nat) (sC2 : Nat) (h7 : Heap) (K : Value → Heap → Prop) : Prop :=
  C.head_Nums sA2 sL2 sC2 99 h7 fun r4 h8 =>
  ∃ (sA3 : Option Addr) (sL3 : Nat) (sC3 : Nat) (n4 : Int), r4 = .tuple #[.slice sA3 sL3 sC3, .int .i64 n4] ∧
  C.head_Empty  h8 fun r5 h9 =>
  ∃ (sA4 : Option Addr) (sL4 : Nat) (sC4 : Nat), r5 = .slice sA4 sL4 sC4 ∧
  C.head_Nums sA4 sL4 sC4 128 h9 fun r6 h10 =>
  ∃ (sA5 : Option Addr) (sL5 : Nat) (sC5 : Nat) (n5 : Int), r6 = .tuple #[.slice sA5 sL5 sC5, .int .i64 n5] ∧
  C.bolelaw04_num n4 h10 fun r7 h11 =>
  ∃ (n6 : Int), r7 = .int .i64 n6 ∧
  bif (n6 == 0) then (
  bif ((sL3 : Int) == 1) then (
  (0 ≤ (0 : Int) ∧ 0 < (sL3 : Int)) ∧
  onSome sA3 fun p2 =>
  ∃ (n7 : Int), cellOf h11 (Addr.add p2 (Int.toNat 0)) = some (.int .i64 n7) ∧
  bif (n7 == 98) then (
  C.bolelaw04_num n5 h11 fun r8 h12 =>
  ∃ (n8 : Int), r8 = .int .i64 n8 ∧
  bif (n8 == 0) then (
  bif ((sL5 : Int) == 0) then (
  C.bolelaw04_block 0 h12 fun r9 h13 =>
  ∃ (sA6 : Option Addr) (sL6 : Nat) (sC6 : Nat), r9 = .slice sA6 sL6 sC6 ∧
  New [.slice sA6 sL6 sC6] 26 h13 fun h14 =>
  C.head_Good sA2 sL2 sC2 99 (some ⟨h13.size, 0, none⟩) 1 1 h14 fun r10 h15 =>
  ∃ (b1 : Bool), r10 = .bool b1 ∧
  bif b1 then (
  C.bolelaw04_block 1 h15 fun r11 h16 =>
  ∃ (sA7 : Option Addr) (sL7 : Nat) (sC7 : Nat), r11 = .slice sA7 sL7 sC7 ∧
  New [.slice sA7 sL7 sC7] 26 h16 fun h17 =>
  C.head_Good sA2 sL2 sC2 99 (some ⟨h16.size, 0, none⟩) 1 1 h17 fun r12 h18 =>
  ∃ (b2 : Bool), r12 = .bool b2 ∧
  K (.bool (!b2)) h18) else (
  K (.bool false) h15)) else (
  K (.bool false) h12)) else (
  K (.bool false) h12)) else (
  K (.bool false) h11)) else (
  K (.bool false) h11)) else (
  K (.bool false) h11)
def bolelaw04_known  (K : Value → Heap → Prop) (h1 : Heap) : Prop :=
  New [.int .i64 98] 3 h1 fun h2 =>
  C.bolelaw04_block 0 h2 fun r1 h3 =>
  ∃ (sA1 : Option Addr) (sL1 : Nat) (sC1 : Nat), r1 = .slice sA1 sL1 sC1 ∧
  New [.slice sA1 sL1 sC1] 26 h3 fun h4 =>
  C.head_Make (some ⟨h1.size, 0, none⟩) 1 1 (some ⟨h3.size, 0, none⟩) 1 1 h4 fun r2 h5 =>
  ∃ (sA2 : Option Addr) (sL2 : Nat) (sC2 : Nat) (n1 : Int), r2 = .tuple #[.slice sA2 sL2 sC2, .int .i64 n1] ∧
  C.bolelaw04_num n1 h5 fun r3 h6 =>
  ∃ (n2 : Int), r3 = .int .i64 n2 ∧
  bif (n2 != 0) then (
  K (.bool false) h6) else (
  bif ((sL2 : Int) != 512) then (
  K (.bool false) h6) else (
  (0 ≤ (12 : Int) ∧ (12 : Int) ≤ (sC2 : Int)) ∧
  ∃ bs1 : List UInt8, StrAt h6 sA2 (Int.toNat 12) bs1 ∧
  bif (!((mkStr bs1).toList == (mkStr [66, 79, 76, 69, 76, 79, 71, 49, 1, 0, 0, 0]).toList)) then (
  K (.bool false) h6) else (
  (0 ≤ (16 : Int) ∧ 16 < (sL2 : Int)) ∧
  onSome sA2 fun p1 =>
  ∃ (n3 : Int), cellOf h6 (Addr.add p1 (Int.toNat 16)) = some (.int .u8 n3) ∧
  bif (n3 != 98) then (
  K (.bool false) h6) else (
  bolelaw04_known.k1 sA2 sL2 sC2 h6 K))))
def bolelaw04_known.lo : Nat → List Nat × List (Nat × Ty) := fun n => match n with | _ => ([], [])
def bolelaw04_known.od : Nat → Od := fun n => match n with | _ => .nil
theorem bolelaw04_known.eq  (K : Value → Heap → Prop) (h : Heap) : fnX (cx bolelaw04_known.lo bolelaw04_known.od) Tryd.f10 (Tryd.f10.body.getD .skip) [] K h = bolelaw04_known  K h := by kernel_rfl
theorem bolelaw04_known.chk : fnOk (cx bolelaw04_known.lo bolelaw04_known.od) Tryd.f10 (Tryd.f10.body.getD .skip) 0 = true := by kernel_rfl
theorem bolelaw04_known.ok  {K : Value → Heap → Prop} {h : Heap} (hx : bolelaw04_known  K h) : C.bolelaw04_known  h K :=
  fn_to (cxOk _ _) Tryd.func10 (by kernel_rfl) bolelaw04_known.chk (by rw [bolelaw04_known.eq]; exact hx)

-- 11
def bolelaw04_room (dataA1 : Option Addr) (dataL1 : Nat) (dataC1 : Nat) (K : Value → Heap → Prop) (h1 : Heap) : Prop :=
  New [.slice none 0 0, .slice none 0 0] 68 h1 fun h2 =>
  ∃ (I1 : Int → Heap → Prop) (M1 : Int → Heap → Nat), I1 0 h2 ∧
  ∀ (n1 : Int), ∀ h3 : Heap, I1 n1 h3 →
  bif (decide (n1 < (dataL1 : Int))) then (
  (0 ≤ n1 ∧ n1 < (dataL1 : Int)) ∧
  onSome dataA1 fun p1 =>
  ∃ (sA1 : Option Addr) (sL1 : Nat) (sC1 : Nat), cellOf h3 (Addr.add p1 (Int.toNat n1)) = some (.slice sA1 sL1 sC1) ∧
  New [] 5 h3 fun h4 =>
  ∃ new1 : List Value, List.length new1 = sL1 * 1 ∧ SlCells h4 sA1 new1 ∧ (∀ v ∈ new1, v.oneCell' = true) ∧
  AppendP ti5 5 (some ⟨h3.size, 0, none⟩) 0 0 sL1 new1 h4 fun sA2 sL2 sC2 h5 =>
  New [.int .u8 107] 5 h5 fun h6 =>
  ∃ new2 : List Value, List.length new2 = 1 * 1 ∧ SlCells h6 (some ⟨h5.size, 0, none⟩) new2 ∧ (∀ v ∈ new2, v.oneCell' = true) ∧
  AppendP ti5 5 sA2 sL2 sC2 1 new2 h6 fun sA3 sL3 sC3 h7 =>
  ∃ (sA4 : Option Addr) (sL4 : Nat) (sC4 : Nat), cellOf h7 (Addr.add ⟨h1.size, 0, none⟩ 1) = some (.slice sA4 sL4 sC4) ∧
  New [.slice sA3 sL3 sC3] 26 h7 fun h8 =>
  ∃ new3 : List Value, List.length new3 = 1 * 1 ∧ SlCells h8 (some ⟨h7.size, 0, none⟩) new3 ∧ (∀ v ∈ new3, v.oneCell' = true) ∧
  AppendP ti26 26 sA4 sL4 sC4 1 new3 h8 fun sA5 sL5 sC5 h9 =>
  Put (Addr.add ⟨h1.size, 0, none⟩ 1) (.slice sA5 sL5 sC5) h9 fun h10 =>
  ∃ (sA6 : Option Addr) (sL6 : Nat) (sC6 : Nat), cellOf h10 (Addr.add ⟨h1.size, 0, none⟩ 0) = some (.slice sA6 sL6 sC6) ∧
  (0 ≤ (sL1 : Int) ∧ (sL1 : Int) ≤ (sC3 : Int)) ∧
  New [.slice sA3 (Int.toNat (sL1 : Int)) sC3] 26 h10 fun h11 =>
  (cellOf h11 (Addr.add ⟨h1.size, 0, none⟩ 0) = some (.slice sA6 sL6 sC6)) ∧
  ∃ new4 : List Value, List.length new4 = 1 * 1 ∧ SlCells h11 (some ⟨h10.size, 0, none⟩) new4 ∧ (∀ v ∈ new4, v.oneCell' = true) ∧
  AppendP ti26 26 sA6 sL6 sC6 1 new4 h11 fun sA7 sL7 sC7 h12 =>
  Put (Addr.add ⟨h1.size, 0, none⟩ 0) (.slice sA7 sL7 sC7) h12 fun h13 =>
  I1 (IntKind.wrap .i64 (n1 + 1)) h13 ∧ M1 (IntKind.wrap .i64 (n1 + 1)) h13 < M1 n1 h3) else (
  ∃ (sA8 : Option Addr) (sL8 : Nat) (sC8 : Nat), cellOf h3 (Addr.add ⟨h1.size, 0, none⟩ 0) = some (.slice sA8 sL8 sC8) ∧
  New [.int .u8 109, .int .u8 97, .int .u8 114, .int .u8 107] 5 h3 fun h14 =>
  MarkAt ⟨h3.size, 0, none⟩ h14 fun h15 =>
  New [.slice (some ⟨h3.size, 0, none⟩) 4 4] 26 h15 fun h16 =>
  ∃ new5 : List Value, List.length new5 = 1 * 1 ∧ SlCells h16 (some ⟨h15.size, 0, none⟩) new5 ∧ (∀ v ∈ new5, v.oneCell' = true) ∧
  AppendP ti26 26 sA8 sL8 sC8 1 new5 h16 fun sA9 sL9 sC9 h17 =>
  Put (Addr.add ⟨h1.size, 0, none⟩ 0) (.slice sA9 sL9 sC9) h17 fun h18 =>
  K (.pointer (some ⟨h1.size, 0, none⟩)) h18)
def bolelaw04_room.lo : Nat → List Nat × List (Nat × Ty) := fun n => match n with | 3 => ([3, 9, 10], [(11, .int .i64)]) | _ => ([], [])
def bolelaw04_room.od : Nat → Od := fun n => match n with | 7 => (.op 0 [] (.op 1 [] (.op 2 [] (.op 3 [] (.op 4 [] (.op 5 [] (.op 6 [] (.op 7 [] (.op 8 [] (.op 9 [4] (.op 10 [] (.op 11 [] (.op 12 [] (.op 13 [] .nil)))))))))))))) | _ => .nil
theorem bolelaw04_room.eq (dataA1 : Option Addr) (dataL1 : Nat) (dataC1 : Nat) (K : Value → Heap → Prop) (h : Heap) : fnX (cx bolelaw04_room.lo bolelaw04_room.od) Tryd.f11 (Tryd.f11.body.getD .skip) [.slice dataA1 dataL1 dataC1] K h = bolelaw04_room dataA1 dataL1 dataC1 K h := by kernel_rfl
theorem bolelaw04_room.chk : fnOk (cx bolelaw04_room.lo bolelaw04_room.od) Tryd.f11 (Tryd.f11.body.getD .skip) 1 = true := by kernel_rfl
theorem bolelaw04_room.ok {dataA1 : Option Addr} {dataL1 : Nat} {dataC1 : Nat} {K : Value → Heap → Prop} {h : Heap} (hx : bolelaw04_room dataA1 dataL1 dataC1 K h) : C.bolelaw04_room dataA1 dataL1 dataC1 h K :=
  fn_to (cxOk _ _) Tryd.func11 (by kernel_rfl) bolelaw04_room.chk (by rw [bolelaw04_room.eq]; exact hx)

-- 12
def bolelaw04_ints (lA1 : Option Addr) (lL1 : Nat) (lC1 : Nat) (K : Value → Heap → Prop) (h1 : Heap) : Prop :=
  New [] 3 h1 fun h2 =>
  ∃ new1 : List Value, List.length new1 = lL1 * 1 ∧ SlCells h2 lA1 new1 ∧ (∀ v ∈ new1, v.oneCell' = true) ∧
  AppendP ti3 3 (some ⟨h1.size, 0, none⟩) 0 0 lL1 new1 h2 fun sA1 sL1 sC1 h3 =>
  New [.int .i64 (-71), .int .i64 (-72)] 3 h3 fun h4 =>
  ∃ new2 : List Value, List.length new2 = 2 * 1 ∧ SlCells h4 (some ⟨h3.size, 0, none⟩) new2 ∧ (∀ v ∈ new2, v.oneCell' = true) ∧
  AppendP ti3 3 sA1 sL1 sC1 2 new2 h4 fun sA2 sL2 sC2 h5 =>
  (0 ≤ (lL1 : Int) ∧ (lL1 : Int) ≤ (sC2 : Int)) ∧
  K (.slice sA2 (Int.toNat (lL1 : Int)) sC2) h5
def bolelaw04_ints.lo : Nat → List Nat × List (Nat × Ty) := fun n => match n with | _ => ([], [])
def bolelaw04_ints.od : Nat → Od := fun n => match n with | _ => .nil
theorem bolelaw04_ints.eq (lA1 : Option Addr) (lL1 : Nat) (lC1 : Nat) (K : Value → Heap → Prop) (h : Heap) : fnX (cx bolelaw04_ints.lo bolelaw04_ints.od) Tryd.f12 (Tryd.f12.body.getD .skip) [.slice lA1 lL1 lC1] K h = bolelaw04_ints lA1 lL1 lC1 K h := by kernel_rfl
theorem bolelaw04_ints.chk : fnOk (cx bolelaw04_ints.lo bolelaw04_ints.od) Tryd.f12 (Tryd.f12.body.getD .skip) 1 = true := by kernel_rfl
theorem bolelaw04_ints.ok {lA1 : Option Addr} {lL1 : Nat} {lC1 : Nat} {K : Value → Heap → Prop} {h : Heap} (hx : bolelaw04_ints lA1 lL1 lC1 K h) : C.bolelaw04_ints lA1 lL1 lC1 h K :=
  fn_to (cxOk _ _) Tryd.func12 (by kernel_rfl) bolelaw04_ints.chk (by rw [bolelaw04_ints.eq]; exact hx)

-- 13
def head_Make (numsA1 : Option Addr) (numsL1 : Nat) (numsC1 : Nat) (dataA1 : Option Addr) (dataL1 : Nat) (dataC1 : Nat) (K : Value → Heap → Prop) (h1 : Heap) : Prop :=
  C.head_may numsA1 numsL1 numsC1 16384 h1 fun r1 h2 =>
  ∃ (b1 : Bool), r1 = .bool b1 ∧
  bif (!b1) then (
  K (.tuple #[.slice none 0 0, .int .i64 40]) h2) else (
  C.head_areBlocks dataA1 dataL1 dataC1 (numsL1 : Int) h2 fun r2 h3 =>
  ∃ (b2 : Bool), r2 = .bool b2 ∧
  bif (!b2) then (
  K (.tuple #[.slice none 0 0, .int .i64 32]) h3) else (
  C.head_Empty  h3 fun r3 h4 =>
  ∃ (sA1 : Option Addr) (sL1 : Nat) (sC1 : Nat), r3 = .slice sA1 sL1 sC1 ∧
  C.rec_PutText sA1 sL1 sC1 0 8 (mkStr [66, 79, 76, 69, 76, 79, 71, 49]) h4 fun r4 h5 =>
  ∃ (n1 : Int), r4 = .int .i64 n1 ∧
  C.rec_Put sA1 sL1 sC1 8 2 (IntKind.wrap .u64 ((numsL1 : Int))) h5 fun r5 h6 =>
  ∃ (n2 : Int), r5 = .int .i64 n2 ∧
  ∃ (I1 : Int → Heap → Prop) (M1 : Int → Heap → Nat), I1 0 h6 ∧
  ∀ (n3 : Int), ∀ h7 : Heap, I1 n3 h7 →
  bif (decide (n3 < (numsL1 : Int))) then (
  (0 ≤ n3 ∧ n3 < (numsL1 : Int)) ∧
  onSome numsA1 fun p1 =>
  ∃ (n4 : Int), cellOf h7 (Addr.add p1 (Int.toNat n3)) = some (.int .i64 n4) ∧
  C.rec_Put sA1 sL1 sC1 (IntKind.wrap .i64 (16 + (IntKind.wrap .i64 (4 * n3)))) 4 (IntKind.wrap .u64 (n4)) h7 fun r6 h8 =>
  ∃ (n5 : Int), r6 = .int .i64 n5 ∧
  I1 (IntKind.wrap .i64 (n3 + 1)) h8 ∧ M1 (IntKind.wrap .i64 (n3 + 1)) h8 < M1 n3 h7) else (
  C.head_sumOf sA1 sL1 sC1 dataA1 dataL1 dataC1 h7 fun r7 h9 =>
  ∃ (n6 : Int), r7 = .int .u32 n6 ∧
  C.rec_Put sA1 sL1 sC1 12 4 (IntKind.wrap .u64 (n6)) h9 fun r8 h10 =>
  ∃ (n7 : Int), r8 = .int .i64 n7 ∧
  K (.tuple #[.slice sA1 sL1 sC1, .int .i64 0]) h10)))
def head_Make.lo : Nat → List Nat × List (Nat × Ty) := fun n => match n with | 9 => ([1, 6, 27, 28], [(29, .int .i64)]) | _ => ([], [])
def head_Make.od : Nat → Od := fun n => match n with | _ => .nil
theorem head_Make.eq (numsA1 : Option Addr) (numsL1 : Nat) (numsC1 : Nat) (dataA1 : Option Addr) (dataL1 : Nat) (dataC1 : Nat) (K : Value → Heap → Prop) (h : Heap) : fnX (cx head_Make.lo head_Make.od) Tryd.f13 (Tryd.f13.body.getD .skip) [.slice numsA1 numsL1 numsC1, .slice dataA1 dataL1 dataC1] K h = head_Make numsA1 numsL1 numsC1 dataA1 dataL1 dataC1 K h := by kernel_rfl
theorem head_Make.chk : fnOk (cx head_Make.lo head_Make.od) Tryd.f13 (Tryd.f13.body.getD .skip) 2 = true := by kernel_rfl
theorem head_Make.ok {numsA1 : Option Addr} {numsL1 : Nat} {numsC1 : Nat} {dataA1 : Option Addr} {dataL1 : Nat} {dataC1 : Nat} {K : Value → Heap → Prop} {h : Heap} (hx : head_Make numsA1 numsL1 numsC1 dataA1 dataL1 dataC1 K h) : C.head_Make numsA1 numsL1 numsC1 dataA1 dataL1 dataC1 h K :=
  fn_to (cxOk _ _) Tryd.func13 (by kernel_rfl) head_Make.chk (by rw [head_Make.eq]; exact hx)

-- 14
def bolelaw04_Room_in (r1 : Option Addr) (K : Value → Heap → Prop) (h1 : Heap) : Prop :=
  onSome r1 fun p1 =>
  ∃ (sA1 : Option Addr) (sL1 : Nat) (sC1 : Nat), cellOf h1 (Addr.add p1 0) = some (.slice sA1 sL1 sC1) ∧
  onSome r1 fun p2 =>
  ∃ (sA2 : Option Addr) (sL2 : Nat) (sC2 : Nat), cellOf h1 (Addr.add p2 1) = some (.slice sA2 sL2 sC2) ∧
  (0 ≤ (sL2 : Int) ∧ (sL2 : Int) ≤ (sC1 : Int)) ∧
  K (.slice sA1 (Int.toNat (sL2 : Int)) sC1) h1
def bolelaw04_Room_in.lo : Nat → List Nat × List (Nat × Ty) := fun n => match n with | _ => ([], [])
def bolelaw04_Room_in.od : Nat → Od := fun n => match n with | 1 => (.op 0 [] (.op 1 [] (.op 2 [] (.op 3 [] (.op 4 [] (.op 5 [] (.op 6 [] (.op 7 [] (.op 8 [] (.op 9 [] (.op 10 [] .nil))))))))))) | _ => .nil
theorem bolelaw04_Room_in.eq (r1 : Option Addr) (K : Value → Heap → Prop) (h : Heap) : fnX (cx bolelaw04_Room_in.lo bolelaw04_Room_in.od) Tryd.f14 (Tryd.f14.body.getD .skip) [.pointer r1] K h = bolelaw04_Room_in r1 K h := by kernel_rfl
theorem bolelaw04_Room_in.chk : fnOk (cx bolelaw04_Room_in.lo bolelaw04_Room_in.od) Tryd.f14 (Tryd.f14.body.getD .skip) 1 = true := by kernel_rfl
theorem bolelaw04_Room_in.ok {r1 : Option Addr} {K : Value → Heap → Prop} {h : Heap} (hx : bolelaw04_Room_in r1 K h) : C.bolelaw04_Room_in r1 h K :=
  fn_to (cxOk _ _) Tryd.func14 (by kernel_rfl) bolelaw04_Room_in.chk (by rw [bolelaw04_Room_in.eq]; exact hx)

-- 15
def boleref04_Make (numsA1 : Option Addr) (numsL1 : Nat) (numsC1 : Nat) (dataA1 : Option Addr) (dataL1 : Nat) (dataC1 : Nat) (K : Value → Heap → Prop) (h1 : Heap) : Prop :=
  C.boleref04_may numsA1 numsL1 numsC1 16384 h1 fun r1 h2 =>
  ∃ (b1 : Bool), r1 = .bool b1 ∧
  bif (!b1) then (
  K (.tuple #[.slice none 0 0, .int .i64 40]) h2) else (
  C.boleref04_blocks dataA1 dataL1 dataC1 (numsL1 : Int) h2 fun r2 h3 =>
  ∃ (b2 : Bool), r2 = .bool b2 ∧
  bif (!b2) then (
  K (.tuple #[.slice none 0 0, .int .i64 32]) h3) else (
  C.boleref04_SumOf numsA1 numsL1 numsC1 dataA1 dataL1 dataC1 h3 fun r3 h4 =>
  ∃ (n1 : Int), r3 = .int .u32 n1 ∧
  C.boleref04_laid numsA1 numsL1 numsC1 n1 h4 fun r4 h5 =>
  ∃ (sA1 : Option Addr) (sL1 : Nat) (sC1 : Nat), r4 = .slice sA1 sL1 sC1 ∧
  K (.tuple #[.slice sA1 sL1 sC1, .int .i64 0]) h5))
def boleref04_Make.lo : Nat → List Nat × List (Nat × Ty) := fun n => match n with | _ => ([], [])
def boleref04_Make.od : Nat → Od := fun n => match n with | _ => .nil
theorem boleref04_Make.eq (numsA1 : Option Addr) (numsL1 : Nat) (numsC1 : Nat) (dataA1 : Option Addr) (dataL1 : Nat) (dataC1 : Nat) (K : Value → Heap → Prop) (h : Heap) : fnX (cx boleref04_Make.lo boleref04_Make.od) Tryd.f15 (Tryd.f15.body.getD .skip) [.slice numsA1 numsL1 numsC1, .slice dataA1 dataL1 dataC1] K h = boleref04_Make numsA1 numsL1 numsC1 dataA1 dataL1 dataC1 K h := by kernel_rfl
theorem boleref04_Make.chk : fnOk (cx boleref04_Make.lo boleref04_Make.od) Tryd.f15 (Tryd.f15.body.getD .skip) 2 = true := by kernel_rfl
theorem boleref04_Make.ok {numsA1 : Option Addr} {numsL1 : Nat} {numsC1 : Nat} {dataA1 : Option Addr} {dataL1 : Nat} {dataC1 : Nat} {K : Value → Heap → Prop} {h : Heap} (hx : boleref04_Make numsA1 numsL1 numsC1 dataA1 dataL1 dataC1 K h) : C.boleref04_Make numsA1 numsL1 numsC1 dataA1 dataL1 dataC1 h K :=
  fn_to (cxOk _ _) Tryd.func15 (by kernel_rfl) boleref04_Make.chk (by rw [boleref04_Make.eq]; exact hx)

-- 16
def bolelaw04_Room_kept (r1 : Option Addr) (dataA1 : Option Addr) (dataL1 : Nat) (dataC1 : Nat) (K : Value → Heap → Prop) (h1 : Heap) : Prop :=
  ∃ (I1 : Int → Heap → Prop) (M1 : Int → Heap → Nat), I1 0 h1 ∧
  ∀ (n1 : Int), ∀ h2 : Heap, I1 n1 h2 →
  bif (decide (n1 < (dataL1 : Int))) then (
  (0 ≤ n1 ∧ n1 < (dataL1 : Int)) ∧
  onSome dataA1 fun p1 =>
  ∃ (sA1 : Option Addr) (sL1 : Nat) (sC1 : Nat), cellOf h2 (Addr.add p1 (Int.toNat n1)) = some (.slice sA1 sL1 sC1) ∧
  onSome r1 fun p2 =>
  ∃ (sA2 : Option Addr) (sL2 : Nat) (sC2 : Nat), cellOf h2 (Addr.add p2 1) = some (.slice sA2 sL2 sC2) ∧
  (0 ≤ n1 ∧ n1 < (sL2 : Int)) ∧
  onSome sA2 fun p3 =>
  ∃ (sA3 : Option Addr) (sL3 : Nat) (sC3 : Nat), cellOf h2 (Addr.add p3 (Int.toNat n1)) = some (.slice sA3 sL3 sC3) ∧
  onSome r1 fun p4 =>
  ∃ (sA4 : Option Addr) (sL4 : Nat) (sC4 : Nat), cellOf h2 (Addr.add p4 0) = some (.slice sA4 sL4 sC4) ∧
  (0 ≤ n1 ∧ n1 < (sL4 : Int)) ∧
  onSome sA4 fun p5 =>
  ∃ (sA5 : Option Addr) (sL5 : Nat) (sC5 : Nat), cellOf h2 (Addr.add p5 (Int.toNat n1)) = some (.slice sA5 sL5 sC5) ∧
  ∃ bs1 : List UInt8, StrAt h2 sA5 sL5 bs1 ∧
  ∃ bs2 : List UInt8, StrAt h2 sA1 sL1 bs2 ∧
  bif (!((mkStr bs1).toList == (mkStr bs2).toList)) then (
  K (.bool false) h2) else (
  (0 ≤ (sL1 : Int) ∧ (sL1 : Int) ≤ (sC3 : Int)) ∧
  ∃ bs3 : List UInt8, StrAt h2 sA3 (Int.toNat (sL1 : Int)) bs3 ∧
  ∃ bs4 : List UInt8, StrAt h2 sA1 sL1 bs4 ∧
  bif (!((mkStr bs3).toList == (mkStr bs4).toList)) then (
  K (.bool false) h2) else (
  (0 ≤ (sL1 : Int) ∧ (sL1 : Int) < (sL3 : Int)) ∧
  onSome sA3 fun p6 =>
  ∃ (n2 : Int), cellOf h2 (Addr.add p6 (Int.toNat (sL1 : Int))) = some (.int .u8 n2) ∧
  bif (n2 != 107) then (
  K (.bool false) h2) else (
  I1 (IntKind.wrap .i64 (n1 + 1)) h2 ∧ M1 (IntKind.wrap .i64 (n1 + 1)) h2 < M1 n1 h2)))) else (
  onSome r1 fun p7 =>
  ∃ (sA6 : Option Addr) (sL6 : Nat) (sC6 : Nat), cellOf h2 (Addr.add p7 0) = some (.slice sA6 sL6 sC6) ∧
  (0 ≤ (dataL1 : Int) ∧ (dataL1 : Int) < (sL6 : Int)) ∧
  onSome sA6 fun p8 =>
  ∃ (sA7 : Option Addr) (sL7 : Nat) (sC7 : Nat), cellOf h2 (Addr.add p8 (Int.toNat (dataL1 : Int))) = some (.slice sA7 sL7 sC7) ∧
  ∃ bs5 : List UInt8, StrAt h2 sA7 sL7 bs5 ∧
  K (.bool ((mkStr bs5).toList == (mkStr [109, 97, 114, 107]).toList)) h2)
def bolelaw04_Room_kept.lo : Nat → List Nat × List (Nat × Ty) := fun n => match n with | 2 => ([0, 1, 8, 9], [(10, .int .i64)]) | _ => ([], [])
def bolelaw04_Room_kept.od : Nat → Od := fun n => match n with | 5 => (.op 0 [] (.op 1 [] (.op 2 [] (.op 3 [] (.op 4 [] (.op 5 [] (.op 6 [] (.op 7 [] (.op 8 [] (.op 9 [] (.op 10 [] (.op 11 [] (.op 12 [] (.op 13 [] (.op 14 [] (.op 15 [] (.op 16 [] (.op 17 [] (.op 18 [] (.op 19 [] (.op 20 [] (.op 21 [] (.op 22 [] (.op 23 [] (.op 24 [] (.op 25 [] (.op 26 [] (.op 27 [] (.op 28 [] .nil))))))))))))))))))))))))))))) | _ => .nil
theorem bolelaw04_Room_kept.eq (r1 : Option Addr) (dataA1 : Option Addr) (dataL1 : Nat) (dataC1 : Nat) (K : Value → Heap → Prop) (h : Heap) : fnX (cx bolelaw04_Room_kept.lo bolelaw04_Room_kept.od) Tryd.f16 (Tryd.f16.body.getD .skip) [.pointer r1, .slice dataA1 dataL1 dataC1] K h = bolelaw04_Room_kept r1 dataA1 dataL1 dataC1 K h := by kernel_rfl
theorem bolelaw04_Room_kept.chk : fnOk (cx bolelaw04_Room_kept.lo bolelaw04_Room_kept.od) Tryd.f16 (Tryd.f16.body.getD .skip) 2 = true := by kernel_rfl
theorem bolelaw04_Room_kept.ok {r1 : Option Addr} {dataA1 : Option Addr} {dataL1 : Nat} {dataC1 : Nat} {K : Value → Heap → Prop} {h : Heap} (hx : bolelaw04_Room_kept r1 dataA1 dataL1 dataC1 K h) : C.bolelaw04_Room_kept r1 dataA1 dataL1 dataC1 h K :=
  fn_to (cxOk _ _) Tryd.func16 (by kernel_rfl) bolelaw04_Room_kept.chk (by rw [bolelaw04_Room_kept.eq]; exact hx)

-- 17
def bolelaw04_same (aA1 : Option Addr) (aL1 : Nat) (aC1 : Nat) (bA1 : Option Addr) (bL1 : Nat) (bC1 : Nat) (K : Value → Heap → Prop) (h1 : Heap) : Prop :=
  bif ((aL1 : Int) != (bL1 : Int)) then (
  K (.bool false) h1) else (
  ∃ (I1 : Int → Heap → Prop) (M1 : Int → Heap → Nat), I1 0 h1 ∧
  ∀ (n1 : Int), ∀ h2 : Heap, I1 n1 h2 →
  bif (decide (n1 < (aL1 : Int))) then (
  (0 ≤ n1 ∧ n1 < (aL1 : Int)) ∧
  onSome aA1 fun p1 =>
  ∃ (n2 : Int), cellOf h2 (Addr.add p1 (Int.toNat n1)) = some (.int .i64 n2) ∧
  (0 ≤ n1 ∧ n1 < (bL1 : Int)) ∧
  onSome bA1 fun p2 =>
  ∃ (n3 : Int), cellOf h2 (Addr.add p2 (Int.toNat n1)) = some (.int .i64 n3) ∧
  bif (n2 != n3) then (
  K (.bool false) h2) else (
  I1 (IntKind.wrap .i64 (n1 + 1)) h2 ∧ M1 (IntKind.wrap .i64 (n1 + 1)) h2 < M1 n1 h2)) else (
  K (.bool true) h2))
def bolelaw04_same.lo : Nat → List Nat × List (Nat × Ty) := fun n => match n with | 4 => ([0, 1, 12], [(13, .int .i64)]) | _ => ([], [])
def bolelaw04_same.od : Nat → Od := fun n => match n with | 6 => (.op 0 [] (.op 1 [] (.op 2 [] (.op 3 [] (.op 4 [] (.op 5 [] (.op 6 [] (.op 7 [] (.op 8 [] .nil))))))))) | _ => .nil
theorem bolelaw04_same.eq (aA1 : Option Addr) (aL1 : Nat) (aC1 : Nat) (bA1 : Option Addr) (bL1 : Nat) (bC1 : Nat) (K : Value → Heap → Prop) (h : Heap) : fnX (cx bolelaw04_same.lo bolelaw04_same.od) Tryd.f17 (Tryd.f17.body.getD .skip) [.slice aA1 aL1 aC1, .slice bA1 bL1 bC1] K h = bolelaw04_same aA1 aL1 aC1 bA1 bL1 bC1 K h := by kernel_rfl
theorem bolelaw04_same.chk : fnOk (cx bolelaw04_same.lo bolelaw04_same.od) Tryd.f17 (Tryd.f17.body.getD .skip) 2 = true := by kernel_rfl
theorem bolelaw04_same.ok {aA1 : Option Addr} {aL1 : Nat} {aC1 : Nat} {bA1 : Option Addr} {bL1 : Nat} {bC1 : Nat} {K : Value → Heap → Prop} {h : Heap} (hx : bolelaw04_same aA1 aL1 aC1 bA1 bL1 bC1 K h) : C.bolelaw04_same aA1 aL1 aC1 bA1 bL1 bC1 h K :=
  fn_to (cxOk _ _) Tryd.func17 (by kernel_rfl) bolelaw04_same.chk (by rw [bolelaw04_same.eq]; exact hx)

-- 18
def head_Empty  (K : Value → Heap → Prop) (h1 : Heap) : Prop :=
  (0 ≤ (512 : Int) ∧ (512 : Int) ≤ 512 ∧ (1 : Int) * 512 ≤ 281474976710656 ∧ (512 : Int) ≤ 281474976710656) ∧
  New (repCells z5 (Int.toNat 512)) 5 h1 fun h2 =>
  K (.slice (some ⟨h1.size, 0, none⟩) (Int.toNat 512) (Int.toNat 512)) h2
def head_Empty.lo : Nat → List Nat × List (Nat × Ty) := fun n => match n with | _ => ([], [])
def head_Empty.od : Nat → Od := fun n => match n with | _ => .nil
theorem head_Empty.eq  (K : Value → Heap → Prop) (h : Heap) : fnX (cx head_Empty.lo head_Empty.od) Tryd.f18 (Tryd.f18.body.getD .skip) [] K h = head_Empty  K h := by kernel_rfl
theorem head_Empty.chk : fnOk (cx head_Empty.lo head_Empty.od) Tryd.f18 (Tryd.f18.body.getD .skip) 0 = true := by kernel_rfl
theorem head_Empty.ok  {K : Value → Heap → Prop} {h : Heap} (hx : head_Empty  K h) : C.head_Empty  h K :=
  fn_to (cxOk _ _) Tryd.func18 (by kernel_rfl) head_Empty.chk (by rw [head_Empty.eq]; exact hx)

-- 19
def boleref04_Empty  (K : Value → Heap → Prop) (h1 : Heap) : Prop :=
  ∃ (I1 : Option Addr → Nat → Nat → Heap → Prop) (M1 : Option Addr → Nat → Nat → Heap → Nat), I1 none 0 0 h1 ∧
  ∀ (bA1 : Option Addr) (bL1 : Nat) (bC1 : Nat), ∀ h2 : Heap, I1 bA1 bL1 bC1 h2 →
  bif (decide ((bL1 : Int) < 512)) then (
  New [.int .u8 0] 5 h2 fun h3 =>
  ∃ new1 : List Value, List.length new1 = 1 * 1 ∧ SlCells h3 (some ⟨h2.size, 0, none⟩) new1 ∧ (∀ v ∈ new1, v.oneCell' = true) ∧
  AppendP ti5 5 bA1 bL1 bC1 1 new1 h3 fun sA1 sL1 sC1 h4 =>
  I1 sA1 sL1 sC1 h4 ∧ M1 sA1 sL1 sC1 h4 < M1 bA1 bL1 bC1 h2) else (
  K (.slice bA1 bL1 bC1) h2)
def boleref04_Empty.lo : Nat → List Nat × List (Nat × Ty) := fun n => match n with | 2 => ([], [(1, .slice)]) | _ => ([], [])
def boleref04_Empty.od : Nat → Od := fun n => match n with | _ => .nil
theorem boleref04_Empty.eq  (K : Value → Heap → Prop) (h : Heap) : fnX (cx boleref04_Empty.lo boleref04_Empty.od) Tryd.f19 (Tryd.f19.body.getD .skip) [] K h = boleref04_Empty  K h := by kernel_rfl
theorem boleref04_Empty.chk : fnOk (cx boleref04_Empty.lo boleref04_Empty.od) Tryd.f19 (Tryd.f19.body.getD .skip) 0 = true := by kernel_rfl
theorem boleref04_Empty.ok  {K : Value → Heap → Prop} {h : Heap} (hx : boleref04_Empty  K h) : C.boleref04_Empty  h K :=
  fn_to (cxOk _ _) Tryd.func19 (by kernel_rfl) boleref04_Empty.chk (by rw [boleref04_Empty.eq]; exact hx)

-- 20
def head_Nums.k1 (headA1 : Option Addr) (headL1 : Nat) (headC1 : Nat) (n1 : Int) (h3 : Heap) (n3 : Int) (K : Value → Heap → Prop) : Prop :=
  ∃ (I1 : Option Addr → Nat → Nat → Int → Heap → Prop) (M1 : Option Addr → Nat → Nat → Int → Heap → Nat), I1 none 0 0 0 h3 ∧
  ∀ (numsA1 : Option Addr) (numsL1 : Nat) (numsC1 : Nat) (n5 : Int), ∀ h4 : Heap, I1 numsA1 numsL1 numsC1 n5 h4 →
  bif (decide (n5 < (IntKind.wrap .i64 (n3)))) then (
  C.rec_Get headA1 headL1 headC1 (IntKind.wrap .i64 (16 + (IntKind.wrap .i64 (4 * n5)))) 4 h4 fun r3 h5 =>
  ∃ (n6 : Int) (n7 : Int), r3 = .tuple #[.int .u64 n6, .int .i64 n7] ∧
  New [.int .i64 (IntKind.wrap .i64 (n6))] 3 h5 fun h6 =>
  ∃ new1 : List Value, List.length new1 = 1 * 1 ∧ SlCells h6 (some ⟨h5.size, 0, none⟩) new1 ∧ (∀ v ∈ new1, v.oneCell' = true) ∧
  AppendP ti3 3 numsA1 numsL1 numsC1 1 new1 h6 fun sA1 sL1 sC1 h7 =>
  I1 sA1 sL1 sC1 (IntKind.wrap .i64 (n5 + 1)) h7 ∧ M1 sA1 sL1 sC1 (IntKind.wrap .i64 (n5 + 1)) h7 < M1 numsA1 numsL1 numsC1 n5 h4) else (
  C.rec_Zero headA1 headL1 headC1 10 2 h4 fun r4 h8 =>
  ∃ (b2 : Bool) (n8 : Int), r4 = .tuple #[.bool b2, .int .i64 n8] ∧
  C.rec_Zero headA1 headL1 headC1 (IntKind.wrap .i64 (16 + (IntKind.wrap .i64 (4 * (numsL1 : Int))))) (IntKind.wrap .i64 (512 - (IntKind.wrap .i64 (16 + (IntKind.wrap .i64 (4 * (numsL1 : Int))))))) h8 fun r5 h9 =>
  ∃ (b3 : Bool) (n9 : Int), r5 = .tuple #[.bool b3, .int .i64 n9] ∧
  bif (!b2) then (
  K (.tuple #[.slice none 0 0, .int .i64 41]) h9) else (
  bif (!b3) then (
  K (.tuple #[.slice none 0 0, .int .i64 41]) h9) else (
  C.head_may numsA1 numsL1 numsC1 n1 h9 fun r6 h10 =>
  ∃ (b4 : Bool), r6 = .bool b4 ∧
  bif (!b4) then (
  K (.tuple #[.slice none 0 0, .int .i64 41]) h10) else (
  K (.tuple #[.slice numsA1 numsL1 numsC1, .int .i64 0]) h10))))
def head_Nums (headA1 : Option Addr) (headL1 : Nat) (headC1 : Nat) (n1 : Int) (K : Value → Heap → Prop) (h1 : Heap) : Prop :=
  bif ((headL1 : Int) != 512) then (
  K (.tuple #[.slice none 0 0, .int .i64 32]) h1) else (
  C.rec_Zero headA1 headL1 headC1 0 512 h1 fun r1 h2 =>
  ∃ (b1 : Bool) (n2 : Int), r1 = .tuple #[.bool b1, .int .i64 n2] ∧
  bif b1 then (
  K (.tuple #[.slice none 0 0, .int .i64 0]) h2) else (
  C.rec_Get headA1 headL1 headC1 8 2 h2 fun r2 h3 =>
  ∃ (n3 : Int) (n4 : Int), r2 = .tuple #[.int .u64 n3, .int .i64 n4] ∧
  (0 ≤ (8 : Int) ∧ (8 : Int) ≤ (headC1 : Int)) ∧
  ∃ bs1 : List UInt8, StrAt h3 headA1 (Int.toNat 8) bs1 ∧
  bif (!((mkStr bs1).toList == (mkStr [66, 79, 76, 69, 76, 79, 71, 49]).toList)) then (
  K (.tuple #[.slice none 0 0, .int .i64 41]) h3) else (
  bif (decide (n3 > 96)) then (
  K (.tuple #[.slice none 0 0, .int .i64 41]) h3) else (
  head_Nums.k1 headA1 headL1 headC1 n1 h3 n3 K))))
def head_Nums.lo : Nat → List Nat × List (Nat × Ty) := fun n => match n with | 11 => ([0, 1, 42], [(10, .slice), (43, .int .i64)]) | _ => ([], [])
def head_Nums.od : Nat → Od := fun n => match n with | _ => .nil
theorem head_Nums.eq (headA1 : Option Addr) (headL1 : Nat) (headC1 : Nat) (n1 : Int) (K : Value → Heap → Prop) (h : Heap) : fnX (cx head_Nums.lo head_Nums.od) Tryd.f20 (Tryd.f20.body.getD .skip) [.slice headA1 headL1 headC1, .int .i64 n1] K h = head_Nums headA1 headL1 headC1 n1 K h := by kernel_rfl
theorem head_Nums.chk : fnOk (cx head_Nums.lo head_Nums.od) Tryd.f20 (Tryd.f20.body.getD .skip) 2 = true := by kernel_rfl
theorem head_Nums.ok {headA1 : Option Addr} {headL1 : Nat} {headC1 : Nat} {n1 : Int} {K : Value → Heap → Prop} {h : Heap} (hx : head_Nums headA1 headL1 headC1 n1 K h) : C.head_Nums headA1 headL1 headC1 n1 h K :=
  fn_to (cxOk _ _) Tryd.func20 (by kernel_rfl) head_Nums.chk (by rw [head_Nums.eq]; exact hx)

-- 21
def boleref04_Nums (headA1 : Option Addr) (headL1 : Nat) (headC1 : Nat) (n1 : Int) (K : Value → Heap → Prop) (h1 : Heap) : Prop :=
  bif ((headL1 : Int) != 512) then (
  K (.tuple #[.slice none 0 0, .int .i64 32]) h1) else (
  ∃ bs1 : List UInt8, StrAt h1 headA1 headL1 bs1 ∧
  C.boleref04_Empty  h1 fun r1 h2 =>
  ∃ (sA1 : Option Addr) (sL1 : Nat) (sC1 : Nat), r1 = .slice sA1 sL1 sC1 ∧
  StrAt h2 headA1 headL1 (ByteArray.toList (mkStr bs1)) ∧
  ∃ bs2 : List UInt8, StrAt h2 sA1 sL1 bs2 ∧
  bif ((mkStr bs1).toList == (mkStr bs2).toList) then (
  K (.tuple #[.slice none 0 0, .int .i64 0]) h2) else (
  (0 ≤ (8 : Int) ∧ 8 < (headL1 : Int)) ∧
  onSome headA1 fun p1 =>
  ∃ (n2 : Int), cellOf h2 (Addr.add p1 (Int.toNat 8)) = some (.int .u8 n2) ∧
  (0 ≤ (9 : Int) ∧ 9 < (headL1 : Int)) ∧
  onSome headA1 fun p2 =>
  ∃ (n3 : Int), cellOf h2 (Addr.add p2 (Int.toNat 9)) = some (.int .u8 n3) ∧
  bif (decide ((IntKind.wrap .i64 ((IntKind.wrap .i64 (n2)) + (IntKind.wrap .i64 ((IntKind.wrap .i64 (n3)) * 256)))) > 96)) then (
  K (.tuple #[.slice none 0 0, .int .i64 41]) h2) else (
  ∃ (I1 : Option Addr → Nat → Nat → Int → Heap → Prop) (M1 : Option Addr → Nat → Nat → Int → Heap → Nat), I1 none 0 0 0 h2 ∧
  ∀ (numsA1 : Option Addr) (numsL1 : Nat) (numsC1 : Nat) (i1 : Int), ∀ h3 : Heap, I1 numsA1 numsL1 numsC1 i1 h3 →
  bif (decide (i1 < (IntKind.wrap .i64 ((IntKind.wrap .i64 (n2)) + (IntKind.wrap .i64 ((IntKind.wrap .i64 (n3)) * 256)))))) then (
  C.boleref04_number headA1 headL1 headC1 (IntKind.wrap .i64 (16 + (IntKind.wrap .i64 (4 * i1)))) h3 fun r2 h4 =>
  ∃ (n4 : Int), r2 = .int .i64 n4 ∧
  New [.int .i64 n4] 3 h4 fun h5 =>
  ∃ new1 : List Value, List.length new1 = 1 * 1 ∧ SlCells h5 (some ⟨h4.size, 0, none⟩) new1 ∧ (∀ v ∈ new1, v.oneCell' = true) ∧
  AppendP ti3 3 numsA1 numsL1 numsC1 1 new1 h5 fun sA2 sL2 sC2 h6 =>
  I1 sA2 sL2 sC2 (IntKind.wrap .i64 (i1 + 1)) h6 ∧ M1 sA2 sL2 sC2 (IntKind.wrap .i64 (i1 + 1)) h6 < M1 numsA1 numsL1 numsC1 i1 h3) else (
  C.boleref04_may numsA1 numsL1 numsC1 n1 h3 fun r3 h7 =>
  ∃ (b1 : Bool), r3 = .bool b1 ∧
  bif (!b1) then (
  K (.tuple #[.slice none 0 0, .int .i64 41]) h7) else (
  ∃ bs3 : List UInt8, StrAt h7 headA1 headL1 bs3 ∧
  C.boleref04_number headA1 headL1 headC1 12 h7 fun r4 h8 =>
  ∃ (n5 : Int), r4 = .int .i64 n5 ∧
  StrAt h8 headA1 headL1 (ByteArray.toList (mkStr bs3)) ∧
  C.boleref04_laid numsA1 numsL1 numsC1 (IntKind.wrap .u32 (n5)) h8 fun r5 h9 =>
  ∃ (sA3 : Option Addr) (sL3 : Nat) (sC3 : Nat), r5 = .slice sA3 sL3 sC3 ∧
  StrAt h9 headA1 headL1 (ByteArray.toList (mkStr bs3)) ∧
  ∃ bs4 : List UInt8, StrAt h9 sA3 sL3 bs4 ∧
  bif (!((mkStr bs4).toList == (mkStr bs3).toList)) then (
  K (.tuple #[.slice none 0 0, .int .i64 41]) h9) else (
  K (.tuple #[.slice numsA1 numsL1 numsC1, .int .i64 0]) h9))))))
def boleref04_Nums.lo : Nat → List Nat × List (Nat × Ty) := fun n => match n with | 10 => ([0, 1, 6], [(7, .slice), (8, .int .i64)]) | _ => ([], [])
def boleref04_Nums.od : Nat → Od := fun n => match n with | 3 => (.op 0 [] (.op 1 [] (.op 2 [1] (.op 3 [] (.op 4 [] .nil))))) | 5 => (.op 0 [] (.op 1 [] (.op 2 [] (.op 3 [] (.op 4 [] (.op 5 [] (.op 6 [] (.op 7 [] (.op 8 [] (.op 9 [] (.op 10 [] .nil))))))))))) | 13 => (.op 0 [] (.op 1 [] (.op 2 [] (.op 3 [] (.op 4 [] (.op 5 [] (.op 6 [] (.op 11 [] (.op 12 [] (.op 7 [12] (.op 8 [] (.op 9 [12] (.op 10 [] (.op 13 [] (.op 14 [] .nil))))))))))))))) | _ => .nil
theorem boleref04_Nums.eq (headA1 : Option Addr) (headL1 : Nat) (headC1 : Nat) (n1 : Int) (K : Value → Heap → Prop) (h : Heap) : fnX (cx boleref04_Nums.lo boleref04_Nums.od) Tryd.f21 (Tryd.f21.body.getD .skip) [.slice headA1 headL1 headC1, .int .i64 n1] K h = boleref04_Nums headA1 headL1 headC1 n1 K h := by kernel_rfl
theorem boleref04_Nums.chk : fnOk (cx boleref04_Nums.lo boleref04_Nums.od) Tryd.f21 (Tryd.f21.body.getD .skip) 2 = true := by kernel_rfl
theorem boleref04_Nums.ok {headA1 : Option Addr} {headL1 : Nat} {headC1 : Nat} {n1 : Int} {K : Value → Heap → Prop} {h : Heap} (hx : boleref04_Nums headA1 headL1 headC1 n1 K h) : C.boleref04_Nums headA1 headL1 headC1 n1 h K :=
  fn_to (cxOk _ _) Tryd.func21 (by kernel_rfl) boleref04_Nums.chk (by rw [boleref04_Nums.eq]; exact hx)

-- 22
def head_Good.k1 (headA1 : Option Addr) (headL1 : Nat) (headC1 : Nat) (dataA1 : Option Addr) (dataL1 : Nat) (dataC1 : Nat) (h4 : Heap) (K : Value → Heap → Prop) : Prop :=
  C.rec_Get headA1 headL1 headC1 12 4 h4 fun r3 h5 =>
  ∃ (n3 : Int) (n4 : Int), r3 = .tuple #[.int .u64 n3, .int .i64 n4] ∧
  C.head_sumOf headA1 headL1 headC1 dataA1 dataL1 dataC1 h5 fun r4 h6 =>
  ∃ (n5 : Int), r4 = .int .u32 n5 ∧
  K (.bool ((IntKind.wrap .u32 (n3)) == n5)) h6
def head_Good (headA1 : Option Addr) (headL1 : Nat) (headC1 : Nat) (n1 : Int) (dataA1 : Option Addr) (dataL1 : Nat) (dataC1 : Nat) (K : Value → Heap → Prop) (h1 : Heap) : Prop :=
  C.head_Nums headA1 headL1 headC1 n1 h1 fun r1 h2 =>
  ∃ (sA1 : Option Addr) (sL1 : Nat) (sC1 : Nat) (n2 : Int), r1 = .tuple #[.slice sA1 sL1 sC1, .int .i64 n2] ∧
  bif (n2 != 0) then (
  K (.bool false) h2) else (
  bif ((sL1 : Int) == 0) then (
  K (.bool false) h2) else (
  C.head_areBlocks dataA1 dataL1 dataC1 (sL1 : Int) h2 fun r2 h3 =>
  ∃ (b1 : Bool), r2 = .bool b1 ∧
  bif (!b1) then (
  K (.bool false) h3) else (
  head_Good.k1 headA1 headL1 headC1 dataA1 dataL1 dataC1 h3 K)))
def head_Good.lo : Nat → List Nat × List (Nat × Ty) := fun n => match n with | _ => ([], [])
def head_Good.od : Nat → Od := fun n => match n with | _ => .nil
theorem head_Good.eq (headA1 : Option Addr) (headL1 : Nat) (headC1 : Nat) (n1 : Int) (dataA1 : Option Addr) (dataL1 : Nat) (dataC1 : Nat) (K : Value → Heap → Prop) (h : Heap) : fnX (cx head_Good.lo head_Good.od) Tryd.f22 (Tryd.f22.body.getD .skip) [.slice headA1 headL1 headC1, .int .i64 n1, .slice dataA1 dataL1 dataC1] K h = head_Good headA1 headL1 headC1 n1 dataA1 dataL1 dataC1 K h := by kernel_rfl
theorem head_Good.chk : fnOk (cx head_Good.lo head_Good.od) Tryd.f22 (Tryd.f22.body.getD .skip) 3 = true := by kernel_rfl
theorem head_Good.ok {headA1 : Option Addr} {headL1 : Nat} {headC1 : Nat} {n1 : Int} {dataA1 : Option Addr} {dataL1 : Nat} {dataC1 : Nat} {K : Value → Heap → Prop} {h : Heap} (hx : head_Good headA1 headL1 headC1 n1 dataA1 dataL1 dataC1 K h) : C.head_Good headA1 headL1 headC1 n1 dataA1 dataL1 dataC1 h K :=
  fn_to (cxOk _ _) Tryd.func22 (by kernel_rfl) head_Good.chk (by rw [head_Good.eq]; exact hx)

-- 23
def boleref04_Good.k1 (headA1 : Option Addr) (headL1 : Nat) (headC1 : Nat) (dataA1 : Option Addr) (dataL1 : Nat) (dataC1 : Nat) (sA1 : Option Addr) (sL1 : Nat) (sC1 : Nat) (h4 : Heap) (K : Value → Heap → Prop) : Prop :=
  C.boleref04_number headA1 headL1 headC1 12 h4 fun r3 h5 =>
  ∃ (n3 : Int), r3 = .int .i64 n3 ∧
  C.boleref04_SumOf sA1 sL1 sC1 dataA1 dataL1 dataC1 h5 fun r4 h6 =>
  ∃ (n4 : Int), r4 = .int .u32 n4 ∧
  K (.bool ((IntKind.wrap .u32 (n3)) == n4)) h6
def boleref04_Good (headA1 : Option Addr) (headL1 : Nat) (headC1 : Nat) (n1 : Int) (dataA1 : Option Addr) (dataL1 : Nat) (dataC1 : Nat) (K : Value → Heap → Prop) (h1 : Heap) : Prop :=
  C.boleref04_Nums headA1 headL1 headC1 n1 h1 fun r1 h2 =>
  ∃ (sA1 : Option Addr) (sL1 : Nat) (sC1 : Nat) (n2 : Int), r1 = .tuple #[.slice sA1 sL1 sC1, .int .i64 n2] ∧
  bif (n2 != 0) then (
  K (.bool false) h2) else (
  bif ((sL1 : Int) == 0) then (
  K (.bool false) h2) else (
  C.boleref04_blocks dataA1 dataL1 dataC1 (sL1 : Int) h2 fun r2 h3 =>
  ∃ (b1 : Bool), r2 = .bool b1 ∧
  bif (!b1) then (
  K (.bool false) h3) else (
  boleref04_Good.k1 headA1 headL1 headC1 dataA1 dataL1 dataC1 sA1 sL1 sC1 h3 K)))
def boleref04_Good.lo : Nat → List Nat × List (Nat × Ty) := fun n => match n with | _ => ([], [])
def boleref04_Good.od : Nat → Od := fun n => match n with | _ => .nil
theorem boleref04_Good.eq (headA1 : Option Addr) (headL1 : Nat) (headC1 : Nat) (n1 : Int) (dataA1 : Option Addr) (dataL1 : Nat) (dataC1 : Nat) (K : Value → Heap → Prop) (h : Heap) : fnX (cx boleref04_Good.lo boleref04_Good.od) Tryd.f23 (Tryd.f23.body.getD .skip) [.slice headA1 headL1 headC1, .int .i64 n1, .slice dataA1 dataL1 dataC1] K h = boleref04_Good headA1 headL1 headC1 n1 dataA1 dataL1 dataC1 K h := by kernel_rfl
theorem boleref04_Good.chk : fnOk (cx boleref04_Good.lo boleref04_Good.od) Tryd.f23 (Tryd.f23.body.getD .skip) 3 = true := by kernel_rfl
theorem boleref04_Good.ok {headA1 : Option Addr} {headL1 : Nat} {headC1 : Nat} {n1 : Int} {dataA1 : Option Addr} {dataL1 : Nat} {dataC1 : Nat} {K : Value → Heap → Prop} {h : Heap} (hx : boleref04_Good headA1 headL1 headC1 n1 dataA1 dataL1 dataC1 K h) : C.boleref04_Good headA1 headL1 headC1 n1 dataA1 dataL1 dataC1 h K :=
  fn_to (cxOk _ _) Tryd.func23 (by kernel_rfl) boleref04_Good.chk (by rw [boleref04_Good.eq]; exact hx)

-- 24
def bolelaw04_Plan_made.k2 (h1 : Heap) (i1 : Int) (h5 : Heap) (k1 : Int) (h7 : Heap) (I2 : Int → Heap → Prop) (M2 : Int → Heap → Nat) (K : Value → Heap → Prop) : Prop :=
  ∃ (sA5 : Option Addr) (sL5 : Nat) (sC5 : Nat), cellOf h7 (Addr.add ⟨h1.size, 0, none⟩ 1) = some (.slice sA5 sL5 sC5) ∧
  ∃ (sA6 : Option Addr) (sL6 : Nat) (sC6 : Nat), cellOf h7 (Addr.add ⟨h1.size, 0, none⟩ 1) = some (.slice sA6 sL6 sC6) ∧
  if (sL6 : Int) = 0 then False else
  (0 ≤ (Int.tmod (IntKind.wrap .i64 (k1 + i1)) (sL6 : Int)) ∧ (Int.tmod (IntKind.wrap .i64 (k1 + i1)) (sL6 : Int)) < (sL5 : Int)) ∧
  onSome sA5 fun p3 =>
  ∃ (n2 : Int), cellOf h7 (Addr.add p3 (Int.toNat (Int.tmod (IntKind.wrap .i64 (k1 + i1)) (sL6 : Int)))) = some (.int .u8 n2) ∧
  (0 ≤ k1 ∧ k1 < ((Int.toNat 512) : Int)) ∧
  Put (Addr.add ⟨h5.size, 0, none⟩ (Int.toNat k1)) (.int .u8 (IntKind.wrap .u8 (n2 + (IntKind.wrap .u8 (i1))))) h7 fun h8 =>
  I2 (IntKind.wrap .i64 (k1 + 1)) h8 ∧ M2 (IntKind.wrap .i64 (k1 + 1)) h8 < M2 k1 h7
def bolelaw04_Plan_made.k1 (h1 : Heap) (at1 : Int) (numsA1 : Option Addr) (numsL1 : Nat) (numsC1 : Nat) (dataA1 : Option Addr) (dataL1 : Nat) (dataC1 : Nat) (i1 : Int) (h3 : Heap) (I1 : Int → Option Addr → Nat → Nat → Option Addr → Nat → Nat → Int → Heap → Prop) (M1 : Int → Option Addr → Nat → Nat → Option Addr → Nat → Nat → Int → Heap → Nat) (K : Value → Heap → Prop) : Prop :=
  ∃ (sA2 : Option Addr) (sL2 : Nat) (sC2 : Nat), cellOf h3 (Addr.add ⟨h1.size, 0, none⟩ 0) = some (.slice sA2 sL2 sC2) ∧
  (0 ≤ i1 ∧ i1 < (sL2 : Int)) ∧
  onSome sA2 fun p2 =>
  ∃ (n1 : Int), cellOf h3 (Addr.add p2 (Int.toNat i1)) = some (.int .i64 n1) ∧
  New [.int .i64 (IntKind.wrap .i64 ((IntKind.wrap .i64 (at1 + 1)) + (IntKind.wrap .i64 ((Int.tmod (IntKind.wrap .u64 (n1)) 160)))))] 3 h3 fun h4 =>
  ∃ new1 : List Value, List.length new1 = 1 * 1 ∧ SlCells h4 (some ⟨h3.size, 0, none⟩) new1 ∧ (∀ v ∈ new1, v.oneCell' = true) ∧
  AppendP ti3 3 numsA1 numsL1 numsC1 1 new1 h4 fun sA3 sL3 sC3 h5 =>
  (0 ≤ (512 : Int) ∧ (512 : Int) ≤ 512 ∧ (1 : Int) * 512 ≤ 281474976710656 ∧ (512 : Int) ≤ 281474976710656) ∧
  New (repCells z5 (Int.toNat 512)) 5 h5 fun h6 =>
  ∃ (I2 : Int → Heap → Prop) (M2 : Int → Heap → Nat), I2 0 h6 ∧
  ∀ (k1 : Int), ∀ h7 : Heap, I2 k1 h7 →
  bif (decide (k1 < 512)) then (
  ∃ (sA4 : Option Addr) (sL4 : Nat) (sC4 : Nat), cellOf h7 (Addr.add ⟨h1.size, 0, none⟩ 1) = some (.slice sA4 sL4 sC4) ∧
  bif (decide ((sL4 : Int) > 0)) then (
  bolelaw04_Plan_made.k2 h1 i1 h5 k1 h7 I2 M2 K) else (
  New [.slice (some ⟨h5.size, 0, none⟩) (Int.toNat 512) (Int.toNat 512)] 26 h7 fun h9 =>
  ∃ new2 : List Value, List.length new2 = 1 * 1 ∧ SlCells h9 (some ⟨h7.size, 0, none⟩) new2 ∧ (∀ v ∈ new2, v.oneCell' = true) ∧
  AppendP ti26 26 dataA1 dataL1 dataC1 1 new2 h9 fun sA7 sL7 sC7 h10 =>
  I1 (IntKind.wrap .i64 ((IntKind.wrap .i64 (at1 + 1)) + (IntKind.wrap .i64 ((Int.tmod (IntKind.wrap .u64 (n1)) 160))))) sA3 sL3 sC3 sA7 sL7 sC7 (IntKind.wrap .i64 (i1 + 1)) h10 ∧ M1 (IntKind.wrap .i64 ((IntKind.wrap .i64 (at1 + 1)) + (IntKind.wrap .i64 ((Int.tmod (IntKind.wrap .u64 (n1)) 160))))) sA3 sL3 sC3 sA7 sL7 sC7 (IntKind.wrap .i64 (i1 + 1)) h10 < M1 at1 numsA1 numsL1 numsC1 dataA1 dataL1 dataC1 i1 h3)) else (
  New [.slice (some ⟨h5.size, 0, none⟩) (Int.toNat 512) (Int.toNat 512)] 26 h7 fun h11 =>
  ∃ new3 : List Value, List.length new3 = 1 * 1 ∧ SlCells h11 (some ⟨h7.size, 0, none⟩) new3 ∧ (∀ v ∈ new3, v.oneCell' = true) ∧
  AppendP ti26 26 dataA1 dataL1 dataC1 1 new3 h11 fun sA8 sL8 sC8 h12 =>
  I1 (IntKind.wrap .i64 ((IntKind.wrap .i64 (at1 + 1)) + (IntKind.wrap .i64 ((Int.tmod (IntKind.wrap .u64 (n1)) 160))))) sA3 sL3 sC3 sA8 sL8 sC8 (IntKind.wrap .i64 (i1 + 1)) h12 ∧ M1 (IntKind.wrap .i64 ((IntKind.wrap .i64 (at1 + 1)) + (IntKind.wrap .i64 ((Int.tmod (IntKind.wrap .u64 (n1)) 160))))) sA3 sL3 sC3 sA8 sL8 sC8 (IntKind.wrap .i64 (i1 + 1)) h12 < M1 at1 numsA1 numsL1 numsC1 dataA1 dataL1 dataC1 i1 h3)
def bolelaw04_Plan_made.k3 (numsA2 : Option Addr) (numsL2 : Nat) (numsC2 : Nat) (dataA2 : Option Addr) (dataL2 : Nat) (dataC2 : Nat) (h13 : Heap) (K : Value → Heap → Prop) : Prop :=
  bif ((numsL2 : Int) == 0) then (
  New [.int .i64 98] 3 h13 fun h14 =>
  C.bolelaw04_block 7 h14 fun r1 h15 =>
  ∃ (sA9 : Option Addr) (sL9 : Nat) (sC9 : Nat), r1 = .slice sA9 sL9 sC9 ∧
  New [.slice sA9 sL9 sC9] 26 h15 fun h16 =>
  K (.tuple #[.slice (some ⟨h13.size, 0, none⟩) 1 1, .slice (some ⟨h15.size, 0, none⟩) 1 1]) h16) else (
  K (.tuple #[.slice numsA2 numsL2 numsC2, .slice dataA2 dataL2 dataC2]) h13)
def bolelaw04_Plan_made (p1 : List Value) (K : Value → Heap → Prop) (h1 : Heap) : Prop :=
  New p1 43 h1 fun h2 =>
  ∃ (I1 : Int → Option Addr → Nat → Nat → Option Addr → Nat → Nat → Int → Heap → Prop) (M1 : Int → Option Addr → Nat → Nat → Option Addr → Nat → Nat → Int → Heap → Nat), I1 97 none 0 0 none 0 0 0 h2 ∧
  ∀ (at1 : Int) (numsA1 : Option Addr) (numsL1 : Nat) (numsC1 : Nat) (dataA1 : Option Addr) (dataL1 : Nat) (dataC1 : Nat) (i1 : Int), ∀ h3 : Heap, I1 at1 numsA1 numsL1 numsC1 dataA1 dataL1 dataC1 i1 h3 →
  ∃ (sA1 : Option Addr) (sL1 : Nat) (sC1 : Nat), cellOf h3 (Addr.add ⟨h1.size, 0, none⟩ 0) = some (.slice sA1 sL1 sC1) ∧
  bif (decide (i1 < (sL1 : Int))) then (
  bif (decide (i1 < 96)) then (
  bolelaw04_Plan_made.k1 h1 at1 numsA1 numsL1 numsC1 dataA1 dataL1 dataC1 i1 h3 I1 M1 K) else (
  bolelaw04_Plan_made.k3 numsA1 numsL1 numsC1 dataA1 dataL1 dataC1 h3 K)) else (
  bolelaw04_Plan_made.k3 numsA1 numsL1 numsC1 dataA1 dataL1 dataC1 h3 K)
def bolelaw04_Plan_made.lo : Nat → List Nat × List (Nat × Ty) := fun n => match n with | 5 => ([1], [(4, .int .i64), (5, .slice), (6, .slice), (7, .int .i64)]) | 11 => ([1, 4, 5, 6, 7, 8], [(9, .int .i64)]) | _ => ([], [])
def bolelaw04_Plan_made.od : Nat → Od := fun n => match n with | 13 => (.op 0 [] (.op 1 [] (.op 2 [] (.op 3 [] (.op 4 [] (.op 5 [] (.op 6 [] (.op 7 [] (.op 8 [] (.op 9 [] (.op 10 [] (.op 11 [] (.op 12 [] (.op 13 [] (.op 14 [] (.op 15 [] (.op 16 [] (.op 17 [] .nil)))))))))))))))))) | _ => .nil
theorem bolelaw04_Plan_made.eq (p1 : List Value) (K : Value → Heap → Prop) (h : Heap) : fnX (cx bolelaw04_Plan_made.lo bolelaw04_Plan_made.od) Tryd.f24 (Tryd.f24.body.getD .skip) [.agg ⟨p1⟩] K h = bolelaw04_Plan_made p1 K h := by kernel_rfl
theorem bolelaw04_Plan_made.chk : fnOk (cx bolelaw04_Plan_made.lo bolelaw04_Plan_made.od) Tryd.f24 (Tryd.f24.body.getD .skip) 1 = true := by kernel_rfl
theorem bolelaw04_Plan_made.ok {p1 : List Value} {K : Value → Heap → Prop} {h : Heap} (hx : bolelaw04_Plan_made p1 K h) : C.bolelaw04_Plan_made p1 h K :=
  fn_to (cxOk _ _) Tryd.func24 (by kernel_rfl) bolelaw04_Plan_made.chk (by rw [bolelaw04_Plan_made.eq]; exact hx)

-- 25
def bolelaw04_num (e1 : Int) (K : Value → Heap → Prop) (h1 : Heap) : Prop :=
  K (.int .i64 e1) h1
def bolelaw04_num.lo : Nat → List Nat × List (Nat × Ty) := fun n => match n with | _ => ([], [])
def bolelaw04_num.od : Nat → Od := fun n => match n with | _ => .nil
theorem bolelaw04_num.eq (e1 : Int) (K : Value → Heap → Prop) (h : Heap) : fnX (cx bolelaw04_num.lo bolelaw04_num.od) Tryd.f25 (Tryd.f25.body.getD .skip) [.int .i64 e1] K h = bolelaw04_num e1 K h := by kernel_rfl
theorem bolelaw04_num.chk : fnOk (cx bolelaw04_num.lo bolelaw04_num.od) Tryd.f25 (Tryd.f25.body.getD .skip) 1 = true := by kernel_rfl
theorem bolelaw04_num.ok {e1 : Int} {K : Value → Heap → Prop} {h : Heap} (hx : bolelaw04_num e1 K h) : C.bolelaw04_num e1 h K :=
  fn_to (cxOk _ _) Tryd.func25 (by kernel_rfl) bolelaw04_num.chk (by rw [bolelaw04_num.eq]; exact hx)

-- 26
def bolelaw04_block (c1 : Int) (K : Value → Heap → Prop) (h1 : Heap) : Prop :=
  (0 ≤ (512 : Int) ∧ (512 : Int) ≤ 512 ∧ (1 : Int) * 512 ≤ 281474976710656 ∧ (512 : Int) ≤ 281474976710656) ∧
  New (repCells z5 (Int.toNat 512)) 5 h1 fun h2 =>
  ∃ (I1 : Int → Heap → Prop) (M1 : Int → Heap → Nat), I1 0 h2 ∧
  ∀ (n1 : Int), ∀ h3 : Heap, I1 n1 h3 →
  bif (decide (n1 < ((Int.toNat 512) : Int))) then (
  (0 ≤ n1 ∧ n1 < ((Int.toNat 512) : Int)) ∧
  Put (Addr.add ⟨h1.size, 0, none⟩ (Int.toNat n1)) (.int .u8 c1) h3 fun h4 =>
  I1 (IntKind.wrap .i64 (n1 + 1)) h4 ∧ M1 (IntKind.wrap .i64 (n1 + 1)) h4 < M1 n1 h3) else (
  K (.slice (some ⟨h1.size, 0, none⟩) (Int.toNat 512) (Int.toNat 512)) h3)
def bolelaw04_block.lo : Nat → List Nat × List (Nat × Ty) := fun n => match n with | 3 => ([0, 3, 7], [(8, .int .i64)]) | _ => ([], [])
def bolelaw04_block.od : Nat → Od := fun n => match n with | _ => .nil
theorem bolelaw04_block.eq (c1 : Int) (K : Value → Heap → Prop) (h : Heap) : fnX (cx bolelaw04_block.lo bolelaw04_block.od) Tryd.f26 (Tryd.f26.body.getD .skip) [.int .u8 c1] K h = bolelaw04_block c1 K h := by kernel_rfl
theorem bolelaw04_block.chk : fnOk (cx bolelaw04_block.lo bolelaw04_block.od) Tryd.f26 (Tryd.f26.body.getD .skip) 1 = true := by kernel_rfl
theorem bolelaw04_block.ok {c1 : Int} {K : Value → Heap → Prop} {h : Heap} (hx : bolelaw04_block c1 K h) : C.bolelaw04_block c1 h K :=
  fn_to (cxOk _ _) Tryd.func26 (by kernel_rfl) bolelaw04_block.chk (by rw [bolelaw04_block.eq]; exact hx)

-- 27
def bolelaw04_stretch (bit1 : Int) (K : Value → Heap → Prop) (h1 : Heap) : Prop :=
  bif (decide (bit1 < 96)) then (
  K (.int .i64 0) h1) else (
  bif (decide (bit1 < 128)) then (
  K (.int .i64 1) h1) else (
  K (.int .i64 2) h1))
def bolelaw04_stretch.lo : Nat → List Nat × List (Nat × Ty) := fun n => match n with | _ => ([], [])
def bolelaw04_stretch.od : Nat → Od := fun n => match n with | _ => .nil
theorem bolelaw04_stretch.eq (bit1 : Int) (K : Value → Heap → Prop) (h : Heap) : fnX (cx bolelaw04_stretch.lo bolelaw04_stretch.od) Tryd.f27 (Tryd.f27.body.getD .skip) [.int .i64 bit1] K h = bolelaw04_stretch bit1 K h := by kernel_rfl
theorem bolelaw04_stretch.chk : fnOk (cx bolelaw04_stretch.lo bolelaw04_stretch.od) Tryd.f27 (Tryd.f27.body.getD .skip) 1 = true := by kernel_rfl
theorem bolelaw04_stretch.ok {bit1 : Int} {K : Value → Heap → Prop} {h : Heap} (hx : bolelaw04_stretch bit1 K h) : C.bolelaw04_stretch bit1 h K :=
  fn_to (cxOk _ _) Tryd.func27 (by kernel_rfl) bolelaw04_stretch.chk (by rw [bolelaw04_stretch.eq]; exact hx)
end Go.Proofs.YtnlmieklakolkaaDoor.W
