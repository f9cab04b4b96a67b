/-
  WHAT THE FUNCTIONS COMPUTE, as formulas; each held against the loaded code by the kernel. Written by program (gen.py).
-/
import Derived.Test.YtnlmieklakolkaaDoorTab
namespace Go.Proofs.YtnlmieklakolkaaDoor.W
open Go Go.Proofs Go.Proofs.YtnlmieklakolkaaDoor.Wx
-- 16
def bolelaw04_Room_kept (r1 : Option Addr) (dataA1 : Option Addr) (dataL1 : Nat) (dataC1 : Nat) (K : Value → Heap → Prop) (h1 : Heap) : Prop :=
  ∃ (I1 : Int → Heap → Prop) (M1 : Int → Heap → Nat), I1 0 h1 ∧
  ∀ (n1 : Int), ∀ h2 : Heap, I1 n1 h2 →
  bif (decide (n1 < (dataL1 : Int))) then (
  (0 ≤ n1 ∧ n1 < (dataL1 : Int)) ∧
  onSome dataA1 fun p1 =>
  ∃ (sA1 : Option Addr) (sL1 : Nat) (sC1 : Nat), cellOf h2 (Addr.add p1 (Int.toNat n1)) = some (.slice sA1 sL1 sC1) ∧
  onSome r1 fun p2 =>
  ∃ (sA2 : Option Addr) (sL2 : Nat) (sC2 : Nat), cellOf h2 (Addr.add p2 1) = some (.slice sA2 sL2 sC2) ∧
  (0 ≤ n1 ∧ n1 < (sL2 : Int)) ∧
  onSome sA2 fun p3 =>
  ∃ (sA3 : Option Addr) (sL3 : Nat) (sC3 : Nat), cellOf h2 (Addr.add p3 (Int.toNat n1)) = some (.slice sA3 sL3 sC3) ∧
  onSome r1 fun p4 =>
  ∃ (sA4 : Option Addr) (sL4 : Nat) (sC4 : Nat), cellOf h2 (Addr.add p4 0) = some (.slice sA4 sL4 sC4) ∧
  (0 ≤ n1 ∧ n1 < (sL4 : Int)) ∧
  onSome sA4 fun p5 =>
  ∃ (sA5 : Option Addr) (sL5 : Nat) (sC5 : Nat), cellOf h2 (Addr.add p5 (Int.toNat n1)) = some (.slice sA5 sL5 sC5) ∧
  ∃ bs1 : List UInt8, StrAt h2 sA5 sL5 bs1 ∧
  ∃ bs2 : List UInt8, StrAt h2 sA1 sL1 bs2 ∧
  bif (!((mkStr bs1).toList == (mkStr bs2).toList)) then (
  K (.bool false) h2) else (
  (0 ≤ (sL1 : Int) ∧ (sL1 : Int) ≤ (sC3 : Int)) ∧
  ∃ bs3 : List UInt8, StrAt h2 sA3 (Int.toNat (sL1 : Int)) bs3 ∧
  ∃ bs4 : List UInt8, StrAt h2 sA1 sL1 bs4 ∧
  bif (!((mkStr bs3).toList == (mkStr bs4).toList)) then (
  K (.bool false) h2) else (
  (0 ≤ (sL1 : Int) ∧ (sL1 : Int) < (sL3 : Int)) ∧
  onSome sA3 fun p6 =>
  ∃ (n2 : Int), cellOf h2 (Addr.add p6 (Int.toNat (sL1 : Int))) = some (.int .u8 n2) ∧
  bif (n2 != 107) then (
  K (.bool false) h2) else (
  I1 (IntKind.wrap .i64 (n1 + 1)) h2 ∧ M1 (IntKind.wrap .i64 (n1 + 1)) h2 < M1 n1 h2)))) else (
  onSome r1 fun p7 =>
  ∃ (sA6 : Option Addr) (sL6 : Nat) (sC6 : Nat), cellOf h2 (Addr.add p7 0) = some (.slice sA6 sL6 sC6) ∧
  (0 ≤ (dataL1 : Int) ∧ (dataL1 : Int) < (sL6 : Int)) ∧
  onSome sA6 fun p8 =>
  ∃ (sA7 : Option Addr) (sL7 : Nat) (sC7 : Nat), cellOf h2 (Addr.add p8 (Int.toNat (dataL1 : Int))) = some (.slice sA7 sL7 sC7) ∧
  ∃ bs5 : List UInt8, StrAt h2 sA7 sL7 bs5 ∧
  K (.bool ((mkStr bs5).toList == (mkStr [109, 97, 114, 107]).toList)) h2)
def bolelaw04_Room_kept.lo : Nat → List Nat × List (Nat × Ty) := fun n => match n with | 2 => ([0, 1, 8, 9], [(10, .int .i64)]) | _ => ([], [])
def bolelaw04_Room_kept.od : Nat → Od := fun n => match n with | 5 => (.op 0 [] (.op 1 [] (.op 2 [] (.op 3 [] (.op 4 [] (.op 5 [] (.op 6 [] (.op 7 [] (.op 8 [] (.op 9 [] (.op 10 [] (.op 11 [] (.op 12 [] (.op 13 [] (.op 14 [] (.op 15 [] (.op 16 [] (.op 17 [] (.op 18 [] (.op 19 [] (.op 20 [] (.op 21 [] (.op 22 [] (.op 23 [] (.op 24 [] (.op 25 [] (.op 26 [] (.op 27 [] (.op 28 [] .nil))))))))))))))))))))))))))))) | _ => .nil
theorem bolelaw04_Room_kept.eq (r1 : Option Addr) (dataA1 : Option Addr) (dataL1 : Nat) (dataC1 : Nat) (K : Value → Heap → Prop) (h : Heap) : fnX (cx bolelaw04_Room_kept.lo bolelaw04_Room_kept.od) Tryd.f16 (Tryd.f16.body.getD .skip) [.pointer r1, .slice dataA1 dataL1 dataC1] K h = bolelaw04_Room_kept r1 dataA1 dataL1 dataC1 K h := by kernel_rfl
theorem bolelaw04_Room_kept.chk : fnOk (cx bolelaw04_Room_kept.lo bolelaw04_Room_kept.od) Tryd.f16 (Tryd.f16.body.getD .skip) 2 = true := by kernel_rfl
theorem bolelaw04_Room_kept.ok {r1 : Option Addr} {dataA1 : Option Addr} {dataL1 : Nat} {dataC1 : Nat} {K : Value → Heap → Prop} {h : Heap} (hx : bolelaw04_Room_kept r1 dataA1 dataL1 dataC1 K h) : C.bolelaw04_Room_kept r1 dataA1 dataL1 dataC1 h K :=
  fn_to (cxOk _ _) Tryd.func16 (by kernel_rfl) bolelaw04_Room_kept.chk (by rw [bolelaw04_Room_kept.eq]; exact hx)

-- 17
def bolelaw04_same (aA1 : Option Addr) (aL1 : Nat) (aC1 : Nat) (bA1 : Option Addr) (bL1 : Nat) (bC1 : Nat) (K : Value → Heap → Prop) (h1 : Heap) : Prop :=
  bif ((aL1 : Int) != (bL1 : Int)) then (
  K (.bool false) h1) else (
  ∃ (I1 : Int → Heap → Prop) (M1 : Int → Heap → Nat), I1 0 h1 ∧
  ∀ (n1 : Int), ∀ h2 : Heap, I1 n1 h2 →
  bif (decide (n1 < (aL1 : Int))) then (
  (0 ≤ n1 ∧ n1 < (aL1 : Int)) ∧
  onSome aA1 fun p1 =>
  ∃ (n2 : Int), cellOf h2 (Addr.add p1 (Int.toNat n1)) = some (.int .i64 n2) ∧
  (0 ≤ n1 ∧ n1 < (bL1 : Int)) ∧
  onSome bA1 fun p2 =>
  ∃ (n3 : Int), cellOf h2 (Addr.add p2 (Int.toNat n1)) = some (.int .i64 n3) ∧
  bif (n2 != n3) then (
  K (.bool false) h2) else (
  I1 (IntKind.wrap .i64 (n1 + 1)) h2 ∧ M1 (IntKind.wrap .i64 (n1 + 1)) h2 < M1 n1 h2)) else (
  K (.bool true) h2))
def bolelaw04_same.lo : Nat → List Nat × List (Nat × Ty) := fun n => match n with | 4 => ([0, 1, 12], [(13, .int .i64)]) | _ => ([], [])
def bolelaw04_same.od : Nat → Od := fun n => match n with | 6 => (.op 0 [] (.op 1 [] (.op 2 [] (.op 3 [] (.op 4 [] (.op 5 [] (.op 6 [] (.op 7 [] (.op 8 [] .nil))))))))) | _ => .nil
theorem bolelaw04_same.eq (aA1 : Option Addr) (aL1 : Nat) (aC1 : Nat) (bA1 : Option Addr) (bL1 : Nat) (bC1 : Nat) (K : Value → Heap → Prop) (h : Heap) : fnX (cx bolelaw04_same.lo bolelaw04_same.od) Tryd.f17 (Tryd.f17.body.getD .skip) [.slice aA1 aL1 aC1, .slice bA1 bL1 bC1] K h = bolelaw04_same aA1 aL1 aC1 bA1 bL1 bC1 K h := by kernel_rfl
theorem bolelaw04_same.chk : fnOk (cx bolelaw04_same.lo bolelaw04_same.od) Tryd.f17 (Tryd.f17.body.getD .skip) 2 = true := by kernel_rfl
theorem bolelaw04_same.ok {aA1 : Option Addr} {aL1 : Nat} {aC1 : Nat} {bA1 : Option Addr} {bL1 : Nat} {bC1 : Nat} {K : Value → Heap → Prop} {h : Heap} (hx : bolelaw04_same aA1 aL1 aC1 bA1 bL1 bC1 K h) : C.bolelaw04_same aA1 aL1 aC1 bA1 bL1 bC1 h K :=
  fn_to (cxOk _ _) Tryd.func17 (by kernel_rfl) bolelaw04_same.chk (by rw [bolelaw04_same.eq]; exact hx)

-- 18
def head_Empty  (K : Value → Heap → Prop) (h1 : Heap) : Prop :=
  (0 ≤ (512 : Int) ∧ (512 : Int) ≤ 512 ∧ (1 : Int) * 512 ≤ 281474976710656 ∧ (512 : Int) ≤ 281474976710656) ∧
  New (repCells z5 (Int.toNat 512)) 5 h1 fun h2 =>
  K (.slice (some ⟨h1.size, 0, none⟩) (Int.toNat 512) (Int.toNat 512)) h2
def head_Empty.lo : Nat → List Nat × List (Nat × Ty) := fun n => match n with | _ => ([], [])
def head_Empty.od : Nat → Od := fun n => match n with | _ => .nil
theorem head_Empty.eq  (K : Value → Heap → Prop) (h : Heap) : fnX (cx head_Empty.lo head_Empty.od) Tryd.f18 (Tryd.f18.body.getD .skip) [] K h = head_Empty  K h := by kernel_rfl
theorem head_Empty.chk : fnOk (cx head_Empty.lo head_Empty.od) Tryd.f18 (Tryd.f18.body.getD .skip) 0 = true := by kernel_rfl
theorem head_Empty.ok  {K : Value → Heap → Prop} {h : Heap} (hx : head_Empty  K h) : C.head_Empty  h K :=
  fn_to (cxOk _ _) Tryd.func18 (by kernel_rfl) head_Empty.chk (by rw [head_Empty.eq]; exact hx)

-- 19
def boleref04_Empty  (K : Value → Heap → Prop) (h1 : Heap) : Prop :=
  ∃ (I1 : Option Addr → Nat → Nat → Heap → Prop) (M1 : Option Addr → Nat → Nat → Heap → Nat), I1 none 0 0 h1 ∧
  ∀ (bA1 : Option Addr) (bL1 : Nat) (bC1 : Nat), ∀ h2 : Heap, I1 bA1 bL1 bC1 h2 →
  bif (decide ((bL1 : Int) < 512)) then (
  New [.int .u8 0] 5 h2 fun h3 =>
  ∃ new1 : List Value, List.length new1 = 1 * 1 ∧ SlCells h3 (some ⟨h2.size, 0, none⟩) new1 ∧ (∀ v ∈ new1, v.oneCell' = true) ∧
  AppendP ti5 5 bA1 bL1 bC1 1 new1 h3 fun sA1 sL1 sC1 h4 =>
  I1 sA1 sL1 sC1 h4 ∧ M1 sA1 sL1 sC1 h4 < M1 bA1 bL1 bC1 h2) else (
  K (.slice bA1 bL1 bC1) h2)
def boleref04_Empty.lo : Nat → List Nat × List (Nat × Ty) := fun n => match n with | 2 => ([], [(1, .slice)]) | _ => ([], [])
def boleref04_Empty.od : Nat → Od := fun n => match n with | _ => .nil
theorem boleref04_Empty.eq  (K : Value → Heap → Prop) (h : Heap) : fnX (cx boleref04_Empty.lo boleref04_Empty.od) Tryd.f19 (Tryd.f19.body.getD .skip) [] K h = boleref04_Empty  K h := by kernel_rfl
theorem boleref04_Empty.chk : fnOk (cx boleref04_Empty.lo boleref04_Empty.od) Tryd.f19 (Tryd.f19.body.getD .skip) 0 = true := by kernel_rfl
theorem boleref04_Empty.ok  {K : Value → Heap → Prop} {h : Heap} (hx : boleref04_Empty  K h) : C.boleref04_Empty  h K :=
  fn_to (cxOk _ _) Tryd.func19 (by kernel_rfl) boleref04_Empty.chk (by rw [boleref04_Empty.eq]; exact hx)

-- 20
def head_Nums.k1 (headA1 : Option Addr) (headL1 : Nat) (headC1 : Nat) (n1 : Int) (h3 : Heap) (n3 : Int) (K : Value → Heap → Prop) : Prop :=
  ∃ (I1 : Option Addr → Nat → Nat → Int → Heap → Prop) (M1 : Option Addr → Nat → Nat → Int → Heap → Nat), I1 none 0 0 0 h3 ∧
  ∀ (numsA1 : Option Addr) (numsL1 : Nat) (numsC1 : Nat) (n5 : Int), ∀ h4 : Heap, I1 numsA1 numsL1 numsC1 n5 h4 →
  bif (decide (n5 < (IntKind.wrap .i64 (n3)))) then (
  C.rec_Get headA1 headL1 headC1 (IntKind.wrap .i64 (16 + (IntKind.wrap .i64 (4 * n5)))) 4 h4 fun r3 h5 =>
  ∃ (n6 : Int) (n7 : Int), r3 = .tuple #[.int .u64 n6, .int .i64 n7] ∧
  New [.int .i64 (IntKind.wrap .i64 (n6))] 3 h5 fun h6 =>
  ∃ new1 : List Value, List.length new1 = 1 * 1 ∧ SlCells h6 (some ⟨h5.size, 0, none⟩) new1 ∧ (∀ v ∈ new1, v.oneCell' = true) ∧
  AppendP ti3 3 numsA1 numsL1 numsC1 1 new1 h6 fun sA1 sL1 sC1 h7 =>
  I1 sA1 sL1 sC1 (IntKind.wrap .i64 (n5 + 1)) h7 ∧ M1 sA1 sL1 sC1 (IntKind.wrap .i64 (n5 + 1)) h7 < M1 numsA1 numsL1 numsC1 n5 h4) else (
  C.rec_Zero headA1 headL1 headC1 10 2 h4 fun r4 h8 =>
  ∃ (b2 : Bool) (n8 : Int), r4 = .tuple #[.bool b2, .int .i64 n8] ∧
  C.rec_Zero headA1 headL1 headC1 (IntKind.wrap .i64 (16 + (IntKind.wrap .i64 (4 * (numsL1 : Int))))) (IntKind.wrap .i64 (512 - (IntKind.wrap .i64 (16 + (IntKind.wrap .i64 (4 * (numsL1 : Int))))))) h8 fun r5 h9 =>
  ∃ (b3 : Bool) (n9 : Int), r5 = .tuple #[.bool b3, .int .i64 n9] ∧
  bif (!b2) then (
  K (.tuple #[.slice none 0 0, .int .i64 41]) h9) else (
  bif (!b3) then (
  K (.tuple #[.slice none 0 0, .int .i64 41]) h9) else (
  C.head_may numsA1 numsL1 numsC1 n1 h9 fun r6 h10 =>
  ∃ (b4 : Bool), r6 = .bool b4 ∧
  bif (!b4) then (
  K (.tuple #[.slice none 0 0, .int .i64 41]) h10) else (
  K (.tuple #[.slice numsA1 numsL1 numsC1, .int .i64 0]) h10))))
def head_Nums (headA1 : Option Addr) (headL1 : Nat) (headC1 : Nat) (n1 : Int) (K : Value → Heap → Prop) (h1 : Heap) : Prop :=
  bif ((headL1 : Int) != 512) then (
  K (.tuple #[.slice none 0 0, .int .i64 32]) h1) else (
  C.rec_Zero headA1 headL1 headC1 0 512 h1 fun r1 h2 =>
  ∃ (b1 : Bool) (n2 : Int), r1 = .tuple #[.bool b1, .int .i64 n2] ∧
  bif b1 then (
  K (.tuple #[.slice none 0 0, .int .i64 0]) h2) else (
  C.rec_Get headA1 headL1 headC1 8 2 h2 fun r2 h3 =>
  ∃ (n3 : Int) (n4 : Int), r2 = .tuple #[.int .u64 n3, .int .i64 n4] ∧
  (0 ≤ (8 : Int) ∧ (8 : Int) ≤ (headC1 : Int)) ∧
  ∃ bs1 : List UInt8, StrAt h3 headA1 (Int.toNat 8) bs1 ∧
  bif (!((mkStr bs1).toList == (mkStr [66, 79, 76, 69, 76, 79, 71, 49]).toList)) then (
  K (.tuple #[.slice none 0 0, .int .i64 41]) h3) else (
  bif (decide (n3 > 96)) then (
  K (.tuple #[.slice none 0 0, .int .i64 41]) h3) else (
  head_Nums.k1 headA1 headL1 headC1 n1 h3 n3 K))))
def head_Nums.lo : Nat → List Nat × List (Nat × Ty) := fun n => match n with | 11 => ([0, 1, 42], [(10, .slice), (43, .int .i64)]) | _ => ([], [])
def head_Nums.od : Nat → Od := fun n => match n with | _ => .nil
theorem head_Nums.eq (headA1 : Option Addr) (headL1 : Nat) (headC1 : Nat) (n1 : Int) (K : Value → Heap → Prop) (h : Heap) : fnX (cx head_Nums.lo head_Nums.od) Tryd.f20 (Tryd.f20.body.getD .skip) [.slice headA1 headL1 headC1, .int .i64 n1] K h = head_Nums headA1 headL1 headC1 n1 K h := by kernel_rfl
theorem head_Nums.chk : fnOk (cx head_Nums.lo head_Nums.od) Tryd.f20 (Tryd.f20.body.getD .skip) 2 = true := by kernel_rfl
theorem head_Nums.ok {headA1 : Option Addr} {headL1 : Nat} {headC1 : Nat} {n1 : Int} {K : Value → Heap → Prop} {h : Heap} (hx : head_Nums headA1 headL1 headC1 n1 K h) : C.head_Nums headA1 headL1 headC1 n1 h K :=
  fn_to (cxOk _ _) Tryd.func20 (by kernel_rfl) head_Nums.chk (by rw [head_Nums.eq]; exact hx)

-- 21
def boleref04_Nums (headA1 : Option Addr) (headL1 : Nat) (headC1 : Nat) (n1 : Int) (K : Value → Heap → Prop) (h1 : Heap) : Prop :=
  bif ((headL1 : Int) != 512) then (
  K (.tuple #[.slice none 0 0, .int .i64 32]) h1) else (
  ∃ bs1 : List UInt8, StrAt h1 headA1 headL1 bs1 ∧
  C.boleref04_Empty  h1 fun r1 h2 =>
  ∃ (sA1 : Option Addr) (sL1 : Nat) (sC1 : Nat), r1 = .slice sA1 sL1 sC1 ∧
  StrAt h2 headA1 headL1 (ByteArray.toList (mkStr bs1)) ∧
  ∃ bs2 : List UInt8, StrAt h2 sA1 sL1 bs2 ∧
  bif ((mkStr bs1).toList == (mkStr bs2).toList) then (
  K (.tuple #[.slice none 0 0, .int .i64 0]) h2) else (
  (0 ≤ (8 : Int) ∧ 8 < (headL1 : Int)) ∧
  onSome headA1 fun p1 =>
  ∃ (n2 : Int), cellOf h2 (Addr.add p1 (Int.toNat 8)) = some (.int .u8 n2) ∧
  (0 ≤ (9 : Int) ∧ 9 < (headL1 : Int)) ∧
  onSome headA1 fun p2 =>
  ∃ (n3 : Int), cellOf h2 (Addr.add p2 (Int.toNat 9)) = some (.int .u8 n3) ∧
  bif (decide ((IntKind.wrap .i64 ((IntKind.wrap .i64 (n2)) + (IntKind.wrap .i64 ((IntKind.wrap .i64 (n3)) * 256)))) > 96)) then (
  K (.tuple #[.slice none 0 0, .int .i64 41]) h2) else (
  ∃ (I1 : Option Addr → Nat → Nat → Int → Heap → Prop) (M1 : Option Addr → Nat → Nat → Int → Heap → Nat), I1 none 0 0 0 h2 ∧
  ∀ (numsA1 : Option Addr) (numsL1 : Nat) (numsC1 : Nat) (i1 : Int), ∀ h3 : Heap, I1 numsA1 numsL1 numsC1 i1 h3 →
  bif (decide (i1 < (IntKind.wrap .i64 ((IntKind.wrap .i64 (n2)) + (IntKind.wrap .i64 ((IntKind.wrap .i64 (n3)) * 256)))))) then (
  C.boleref04_number headA1 headL1 headC1 (IntKind.wrap .i64 (16 + (IntKind.wrap .i64 (4 * i1)))) h3 fun r2 h4 =>
  ∃ (n4 : Int), r2 = .int .i64 n4 ∧
  New [.int .i64 n4] 3 h4 fun h5 =>
  ∃ new1 : List Value, List.length new1 = 1 * 1 ∧ SlCells h5 (some ⟨h4.size, 0, none⟩) new1 ∧ (∀ v ∈ new1, v.oneCell' = true) ∧
  AppendP ti3 3 numsA1 numsL1 numsC1 1 new1 h5 fun sA2 sL2 sC2 h6 =>
  I1 sA2 sL2 sC2 (IntKind.wrap .i64 (i1 + 1)) h6 ∧ M1 sA2 sL2 sC2 (IntKind.wrap .i64 (i1 + 1)) h6 < M1 numsA1 numsL1 numsC1 i1 h3) else (
  C.boleref04_may numsA1 numsL1 numsC1 n1 h3 fun r3 h7 =>
  ∃ (b1 : Bool), r3 = .bool b1 ∧
  bif (!b1) then (
  K (.tuple #[.slice none 0 0, .int .i64 41]) h7) else (
  ∃ bs3 : List UInt8, StrAt h7 headA1 headL1 bs3 ∧
  C.boleref04_number headA1 headL1 headC1 12 h7 fun r4 h8 =>
  ∃ (n5 : Int), r4 = .int .i64 n5 ∧
  StrAt h8 headA1 headL1 (ByteArray.toList (mkStr bs3)) ∧
  C.boleref04_laid numsA1 numsL1 numsC1 (IntKind.wrap .u32 (n5)) h8 fun r5 h9 =>
  ∃ (sA3 : Option Addr) (sL3 : Nat) (sC3 : Nat), r5 = .slice sA3 sL3 sC3 ∧
  StrAt h9 headA1 headL1 (ByteArray.toList (mkStr bs3)) ∧
  ∃ bs4 : List UInt8, StrAt h9 sA3 sL3 bs4 ∧
  bif (!((mkStr bs4).toList == (mkStr bs3).toList)) then (
  K (.tuple #[.slice none 0 0, .int .i64 41]) h9) else (
  K (.tuple #[.slice numsA1 numsL1 numsC1, .int .i64 0]) h9))))))
def boleref04_Nums.lo : Nat → List Nat × List (Nat × Ty) := fun n => match n with | 10 => ([0, 1, 6], [(7, .slice), (8, .int .i64)]) | _ => ([], [])
def boleref04_Nums.od : Nat → Od := fun n => match n with | 3 => (.op 0 [] (.op 1 [] (.op 2 [1] (.op 3 [] (.op 4 [] .nil))))) | 5 => (.op 0 [] (.op 1 [] (.op 2 [] (.op 3 [] (.op 4 [] (.op 5 [] (.op 6 [] (.op 7 [] (.op 8 [] (.op 9 [] (.op 10 [] .nil))))))))))) | 13 => (.op 0 [] (.op 1 [] (.op 2 [] (.op 3 [] (.op 4 [] (.op 5 [] (.op 6 [] (.op 11 [] (.op 12 [] (.op 7 [12] (.op 8 [] (.op 9 [12] (.op 10 [] (.op 13 [] (.op 14 [] .nil))))))))))))))) | _ => .nil
theorem boleref04_Nums.eq (headA1 : Option Addr) (headL1 : Nat) (headC1 : Nat) (n1 : Int) (K : Value → Heap → Prop) (h : Heap) : fnX (cx boleref04_Nums.lo boleref04_Nums.od) Tryd.f21 (Tryd.f21.body.getD .skip) [.slice headA1 headL1 headC1, .int .i64 n1] K h = boleref04_Nums headA1 headL1 headC1 n1 K h := by kernel_rfl
theorem boleref04_Nums.chk : fnOk (cx boleref04_Nums.lo boleref04_Nums.od) Tryd.f21 (Tryd.f21.body.getD .skip) 2 = true := by kernel_rfl
theorem boleref04_Nums.ok {headA1 : Option Addr} {headL1 : Nat} {headC1 : Nat} {n1 : Int} {K : Value → Heap → Prop} {h : Heap} (hx : boleref04_Nums headA1 headL1 headC1 n1 K h) : C.boleref04_Nums headA1 headL1 headC1 n1 h K :=
  fn_to (cxOk _ _) Tryd.func21 (by kernel_rfl) boleref04_Nums.chk (by rw [boleref04_Nums.eq]; exact hx)

-- 22
def head_Good.k1 (headA1 : Option Addr) (headL1 : Nat) (headC1 : Nat) (dataA1 : Option Addr) (dataL1 : Nat) (dataC1 : Nat) (h4 : Heap) (K : Value → Heap → Prop) : Prop :=
  C.rec_Get headA1 headL1 headC1 12 4 h4 fun r3 h5 =>
  ∃ (n3 : Int) (n4 : Int), r3 = .tuple #[.int .u64 n3, .int .i64 n4] ∧
  C.head_sumOf headA1 headL1 headC1 dataA1 dataL1 dataC1 h5 fun r4 h6 =>
  ∃ (n5 : Int), r4 = .int .u32 n5 ∧
  K (.bool ((IntKind.wrap .u32 (n3)) == n5)) h6
def head_Good (headA1 : Option Addr) (headL1 : Nat) (headC1 : Nat) (n1 : Int) (dataA1 : Option Addr) (dataL1 : Nat) (dataC1 : Nat) (K : Value → Heap → Prop) (h1 : Heap) : Prop :=
  C.head_Nums headA1 headL1 headC1 n1 h1 fun r1 h2 =>
  ∃ (sA1 : Option Addr) (sL1 : Nat) (sC1 : Nat) (n2 : Int), r1 = .tuple #[.slice sA1 sL1 sC1, .int .i64 n2] ∧
  bif (n2 != 0) then (
  K (.bool false) h2) else (
  bif ((sL1 : Int) == 0) then (
  K (.bool false) h2) else (
  C.head_areBlocks dataA1 dataL1 dataC1 (sL1 : Int) h2 fun r2 h3 =>
  ∃ (b1 : Bool), r2 = .bool b1 ∧
  bif (!b1) then (
  K (.bool false) h3) else (
  head_Good.k1 headA1 headL1 headC1 dataA1 dataL1 dataC1 h3 K)))
def head_Good.lo : Nat → List Nat × List (Nat × Ty) := fun n => match n with | _ => ([], [])
def head_Good.od : Nat → Od := fun n => match n with | _ => .nil
theorem head_Good.eq (headA1 : Option Addr) (headL1 : Nat) (headC1 : Nat) (n1 : Int) (dataA1 : Option Addr) (dataL1 : Nat) (dataC1 : Nat) (K : Value → Heap → Prop) (h : Heap) : fnX (cx head_Good.lo head_Good.od) Tryd.f22 (Tryd.f22.body.getD .skip) [.slice headA1 headL1 headC1, .int .i64 n1, .slice dataA1 dataL1 dataC1] K h = head_Good headA1 headL1 headC1 n1 dataA1 dataL1 dataC1 K h := by kernel_rfl
theorem head_Good.chk : fnOk (cx head_Good.lo head_Good.od) Tryd.f22 (Tryd.f22.body.getD .skip) 3 = true := by kernel_rfl
theorem head_Good.ok {headA1 : Option Addr} {headL1 : Nat} {headC1 : Nat} {n1 : Int} {dataA1 : Option Addr} {dataL1 : Nat} {dataC1 : Nat} {K : Value → Heap → Prop} {h : Heap} (hx : head_Good headA1 headL1 headC1 n1 dataA1 dataL1 dataC1 K h) : C.head_Good headA1 headL1 headC1 n1 dataA1 dataL1 dataC1 h K :=
  fn_to (cxOk _ _) Tryd.func22 (by kernel_rfl) head_Good.chk (by rw [head_Good.eq]; exact hx)

-- 23
def boleref04_Good.k1 (headA1 : Option Addr) (headL1 : Nat) (headC1 : Nat) (dataA1 : Option Addr) (dataL1 : Nat) (dataC1 : Nat) (sA1 : Option Addr) (sL1 : Nat) (sC1 : Nat) (h4 : Heap) (K : Value → Heap → Prop) : Prop :=
  C.boleref04_number headA1 headL1 headC1 12 h4 fun r3 h5 =>
  ∃ (n3 : Int), r3 = .int .i64 n3 ∧
  C.boleref04_SumOf sA1 sL1 sC1 dataA1 dataL1 dataC1 h5 fun r4 h6 =>
  ∃ (n4 : Int), r4 = .int .u32 n4 ∧
  K (.bool ((IntKind.wrap .u32 (n3)) == n4)) h6
def boleref04_Good (headA1 : Option Addr) (headL1 : Nat) (headC1 : Nat) (n1 : Int) (dataA1 : Option Addr) (dataL1 : Nat) (dataC1 : Nat) (K : Value → Heap → Prop) (h1 : Heap) : Prop :=
  C.boleref04_Nums headA1 headL1 headC1 n1 h1 fun r1 h2 =>
  ∃ (sA1 : Option Addr) (sL1 : Nat) (sC1 : Nat) (n2 : Int), r1 = .tuple #[.slice sA1 sL1 sC1, .int .i64 n2] ∧
  bif (n2 != 0) then (
  K (.bool false) h2) else (
  bif ((sL1 : Int) == 0) then (
  K (.bool false) h2) else (
  C.boleref04_blocks dataA1 dataL1 dataC1 (sL1 : Int) h2 fun r2 h3 =>
  ∃ (b1 : Bool), r2 = .bool b1 ∧
  bif (!b1) then (
  K (.bool false) h3) else (
  boleref04_Good.k1 headA1 headL1 headC1 dataA1 dataL1 dataC1 sA1 sL1 sC1 h3 K)))
def boleref04_Good.lo : Nat → List Nat × List (Nat × Ty) := fun n => match n with | _ => ([], [])
def boleref04_Good.od : Nat → Od := fun n => match n with | _ => .nil
theorem boleref04_Good.eq (headA1 : Option Addr) (headL1 : Nat) (headC1 : Nat) (n1 : Int) (dataA1 : Option Addr) (dataL1 : Nat) (dataC1 : Nat) (K : Value → Heap → Prop) (h : Heap) : fnX (cx boleref04_Good.lo boleref04_Good.od) Tryd.f23 (Tryd.f23.body.getD .skip) [.slice headA1 headL1 headC1, .int .i64 n1, .slice dataA1 dataL1 dataC1] K h = boleref04_Good headA1 headL1 headC1 n1 dataA1 dataL1 dataC1 K h := by kernel_rfl
theorem boleref04_Good.chk : fnOk (cx boleref04_Good.lo boleref04_Good.od) Tryd.f23 (Tryd.f23.body.getD .skip) 3 = true := by kernel_rfl
theorem boleref04_Good.ok {headA1 : Option Addr} {headL1 : Nat} {headC1 : Nat} {n1 : Int} {dataA1 : Option Addr} {dataL1 : Nat} {dataC1 : Nat} {K : Value → Heap → Prop} {h : Heap} (hx : boleref04_Good headA1 headL1 headC1 n1 dataA1 dataL1 dataC1 K h) : C.boleref04_Good headA1 headL1 headC1 n1 dataA1 dataL1 dataC1 h K :=
  fn_to (cxOk _ _) Tryd.func23 (by kernel_rfl) boleref04_Good.chk (by rw [boleref04_Good.eq]; exact hx)

-- 24
def bolelaw04_Plan_made.k2 (h1 : Heap) (i1 : Int) (h5 : Heap) (k1 : Int) (h7 : Heap) (I2 : Int → Heap → Prop) (M2 : Int → Heap → Nat) (K : Value → Heap → Prop) : Prop :=
  ∃ (sA5 : Option Addr) (sL5 : Nat) (sC5 : Nat), cellOf h7 (Addr.add ⟨h1.size, 0, none⟩ 1) = some (.slice sA5 sL5 sC5) ∧
  ∃ (sA6 : Option Addr) (sL6 : Nat) (sC6 : Nat), cellOf h7 (Addr.add ⟨h1.size, 0, none⟩ 1) = some (.slice sA6 sL6 sC6) ∧
  if (sL6 : Int) = 0 then False else
  (0 ≤ (Int.tmod (IntKind.wrap .i64 (k1 + i1)) (sL6 : Int)) ∧ (Int.tmod (IntKind.wrap .i64 (k1 + i1)) (sL6 : Int)) < (sL5 : Int)) ∧
  onSome sA5 fun p3 =>
  ∃ (n2 : Int), cellOf h7 (Addr.add p3 (Int.toNat (Int.tmod (IntKind.wrap .i64 (k1 + i1)) (sL6 : Int)))) = some (.int .u8 n2) ∧
  (0 ≤ k1 ∧ k1 < ((Int.toNat 512) : Int)) ∧
  Put (Addr.add ⟨h5.size, 0, none⟩ (Int.toNat k1)) (.int .u8 (IntKind.wrap .u8 (n2 + (IntKind.wrap .u8 (i1))))) h7 fun h8 =>
  I2 (IntKind.wrap .i64 (k1 + 1)) h8 ∧ M2 (IntKind.wrap .i64 (k1 + 1)) h8 < M2 k1 h7
def bolelaw04_Plan_made.k1 (h1 : Heap) (at1 : Int) (numsA1 : Option Addr) (numsL1 : Nat) (numsC1 : Nat) (dataA1 : Option Addr) (dataL1 : Nat) (dataC1 : Nat) (i1 : Int) (h3 : Heap) (I1 : Int → Option Addr → Nat → Nat → Option Addr → Nat → Nat → Int → Heap → Prop) (M1 : Int → Option Addr → Nat → Nat → Option Addr → Nat → Nat → Int → Heap → Nat) (K : Value → Heap → Prop) : Prop :=
  ∃ (sA2 : Option Addr) (sL2 : Nat) (sC2 : Nat), cellOf h3 (Addr.add ⟨h1.size, 0, none⟩ 0) = some (.slice sA2 sL2 sC2) ∧
  (0 ≤ i1 ∧ i1 < (sL2 : Int)) ∧
  onSome sA2 fun p2 =>
  ∃ (n1 : Int), cellOf h3 (Addr.add p2 (Int.toNat i1)) = some (.int .i64 n1) ∧
  New [.int .i64 (IntKind.wrap .i64 ((IntKind.wrap .i64 (at1 + 1)) + (IntKind.wrap .i64 ((Int.tmod (IntKind.wrap .u64 (n1)) 160)))))] 3 h3 fun h4 =>
  ∃ new1 : List Value, List.length new1 = 1 * 1 ∧ SlCells h4 (some ⟨h3.size, 0, none⟩) new1 ∧ (∀ v ∈ new1, v.oneCell' = true) ∧
  AppendP ti3 3 numsA1 numsL1 numsC1 1 new1 h4 fun sA3 sL3 sC3 h5 =>
  (0 ≤ (512 : Int) ∧ (512 : Int) ≤ 512 ∧ (1 : Int) * 512 ≤ 281474976710656 ∧ (512 : Int) ≤ 281474976710656) ∧
  New (repCells z5 (Int.toNat 512)) 5 h5 fun h6 =>
  ∃ (I2 : Int → Heap → Prop) (M2 : Int → Heap → Nat), I2 0 h6 ∧
  ∀ (k1 : Int), ∀ h7 : Heap, I2 k1 h7 →
  bif (decide (k1 < 512)) then (
  ∃ (sA4 : Option Addr) (sL4 : Nat) (sC4 : Nat), cellOf h7 (Addr.add ⟨h1.size, 0, none⟩ 1) = some (.slice sA4 sL4 sC4) ∧
  bif (decide ((sL4 : Int) > 0)) then (
  bolelaw04_Plan_made.k2 h1 i1 h5 k1 h7 I2 M2 K) else (
  New [.slice (some ⟨h5.size, 0, none⟩) (Int.toNat 512) (Int.toNat 512)] 26 h7 fun h9 =>
  ∃ new2 : List Value, List.length new2 = 1 * 1 ∧ SlCells h9 (some ⟨h7.size, 0, none⟩) new2 ∧ (∀ v ∈ new2, v.oneCell' = true) ∧
  AppendP ti26 26 dataA1 dataL1 dataC1 1 new2 h9 fun sA7 sL7 sC7 h10 =>
  I1 (IntKind.wrap .i64 ((IntKind.wrap .i64 (at1 + 1)) + (IntKind.wrap .i64 ((Int.tmod (IntKind.wrap .u64 (n1)) 160))))) sA3 sL3 sC3 sA7 sL7 sC7 (IntKind.wrap .i64 (i1 + 1)) h10 ∧ M1 (IntKind.wrap .i64 ((IntKind.wrap .i64 (at1 + 1)) + (IntKind.wrap .i64 ((Int.tmod (IntKind.wrap .u64 (n1)) 160))))) sA3 sL3 sC3 sA7 sL7 sC7 (IntKind.wrap .i64 (i1 + 1)) h10 < M1 at1 numsA1 numsL1 numsC1 dataA1 dataL1 dataC1 i1 h3)) else (
  New [.slice (some ⟨h5.size, 0, none⟩) (Int.toNat 512) (Int.toNat 512)] 26 h7 fun h11 =>
  ∃ new3 : List Value, List.length new3 = 1 * 1 ∧ SlCells h11 (some ⟨h7.size, 0, none⟩) new3 ∧ (∀ v ∈ new3, v.oneCell' = true) ∧
  AppendP ti26 26 dataA1 dataL1 dataC1 1 new3 h11 fun sA8 sL8 sC8 h12 =>
  I1 (IntKind.wrap .i64 ((IntKind.wrap .i64 (at1 + 1)) + (IntKind.wrap .i64 ((Int.tmod (IntKind.wrap .u64 (n1)) 160))))) sA3 sL3 sC3 sA8 sL8 sC8 (IntKind.wrap .i64 (i1 + 1)) h12 ∧ M1 (IntKind.wrap .i64 ((IntKind.wrap .i64 (at1 + 1)) + (IntKind.wrap .i64 ((Int.tmod (IntKind.wrap .u64 (n1)) 160))))) sA3 sL3 sC3 sA8 sL8 sC8 (IntKind.wrap .i64 (i1 + 1)) h12 < M1 at1 numsA1 numsL1 numsC1 dataA1 dataL1 dataC1 i1 h3)
def bolelaw04_Plan_made.k3 (numsA2 : Option Addr) (numsL2 : Nat) (numsC2 : Nat) (dataA2 : Option Addr) (dataL2 : Nat) (dataC2 : Nat) (h13 : Heap) (K : Value → Heap → Prop) : Prop :=
  bif ((numsL2 : Int) == 0) then (
  New [.int .i64 98] 3 h13 fun h14 =>
  C.bolelaw04_block 7 h14 fun r1 h15 =>
  ∃ (sA9 : Option Addr) (sL9 : Nat) (sC9 : Nat), r1 = .slice sA9 sL9 sC9 ∧
  New [.slice sA9 sL9 sC9] 26 h15 fun h16 =>
  K (.tuple #[.slice (some ⟨h13.size, 0, none⟩) 1 1, .slice (some ⟨h15.size, 0, none⟩) 1 1]) h16) else (
  K (.tuple #[.slice numsA2 numsL2 numsC2, .slice dataA2 dataL2 dataC2]) h13)
def bolelaw04_Plan_made (p1 : List Value) (K : Value → Heap → Prop) (h1 : Heap) : Prop :=
  New p1 43 h1 fun h2 =>
  ∃ (I1 : Int → Option Addr → Nat → Nat → Option Addr → Nat → Nat → Int → Heap → Prop) (M1 : Int → Option Addr → Nat → Nat → Option Addr → Nat → Nat → Int → Heap → Nat), I1 97 none 0 0 none 0 0 0 h2 ∧
  ∀ (at1 : Int) (numsA1 : Option Addr) (numsL1 : Nat) (numsC1 : Nat) (dataA1 : Option Addr) (dataL1 : Nat) (dataC1 : Nat) (i1 : Int), ∀ h3 : Heap, I1 at1 numsA1 numsL1 numsC1 dataA1 dataL1 dataC1 i1 h3 →
  ∃ (sA1 : Option Addr) (sL1 : Nat) (sC1 : Nat), cellOf h3 (Addr.add ⟨h1.size, 0, none⟩ 0) = some (.slice sA1 sL1 sC1) ∧
  bif (decide (i1 < (sL1 : Int))) then (
  bif (decide (i1 < 96)) then (
  bolelaw04_Plan_made.k1 h1 at1 numsA1 numsL1 numsC1 dataA1 dataL1 dataC1 i1 h3 I1 M1 K) else (
  bolelaw04_Plan_made.k3 numsA1 numsL1 numsC1 dataA1 dataL1 dataC1 h3 K)) else (
  bolelaw04_Plan_made.k3 numsA1 numsL1 numsC1 dataA1 dataL1 dataC1 h3 K)
def bolelaw04_Plan_made.lo : Nat → List Nat × List (Nat × Ty) := fun n => match n with | 5 => ([1], [(4, .int .i64), (5, .slice), (6, .slice), (7, .int .i64)]) | 11 => ([1, 4, 5, 6, 7, 8], [(9, .int .i64)]) | _ => ([], [])
def bolelaw04_Plan_made.od : Nat → Od := fun n => match n with | 13 => (.op 0 [] (.op 1 [] (.op 2 [] (.op 3 [] (.op 4 [] (.op 5 [] (.op 6 [] (.op 7 [] (.op 8 [] (.op 9 [] (.op 10 [] (.op 11 [] (.op 12 [] (.op 13 [] (.op 14 [] (.op 15 [] (.op 16 [] (.op 17 [] .nil)))))))))))))))))) | _ => .nil
theorem bolelaw04_Plan_made.eq (p1 : List Value) (K : Value → Heap → Prop) (h : Heap) : fnX (cx bolelaw04_Plan_made.lo bolelaw04_Plan_made.od) Tryd.f24 (Tryd.f24.body.getD .skip) [.agg ⟨p1⟩] K h = bolelaw04_Plan_made p1 K h := by kernel_rfl
theorem bolelaw04_Plan_made.chk : fnOk (cx bolelaw04_Plan_made.lo bolelaw04_Plan_made.od) Tryd.f24 (Tryd.f24.body.getD .skip) 1 = true := by kernel_rfl
theorem bolelaw04_Plan_made.ok {p1 : List Value} {K : Value → Heap → Prop} {h : Heap} (hx : bolelaw04_Plan_made p1 K h) : C.bolelaw04_Plan_made p1 h K :=
  fn_to (cxOk _ _) Tryd.func24 (by kernel_rfl) bolelaw04_Plan_made.chk (by rw [bolelaw04_Plan_made.eq]; exact hx)

-- 25
def bolelaw04_num (e1 : Int) (K : Value → Heap → Prop) (h1 : Heap) : Prop :=
  K (.int .i64 e1) h1
def bolelaw04_num.lo : Nat → List Nat × List (Nat × Ty) := fun n => match n with | _ => ([], [])
def bolelaw04_num.od : Nat → Od := fun n => match n with | _ => .nil
theorem bolelaw04_num.eq (e1 : Int) (K : Value → Heap → Prop) (h : Heap) : fnX (cx bolelaw04_num.lo bolelaw04_num.od) Tryd.f25 (Tryd.f25.body.getD .skip) [.int .i64 e1] K h = bolelaw04_num e1 K h := by kernel_rfl
theorem bolelaw04_num.chk : fnOk (cx bolelaw04_num.lo bolelaw04_num.od) Tryd.f25 (Tryd.f25.body.getD .skip) 1 = true := by kernel_rfl
theorem bolelaw04_num.ok {e1 : Int} {K : Value → Heap → Prop} {h : Heap} (hx : bolelaw04_num e1 K h) : C.bolelaw04_num e1 h K :=
  fn_to (cxOk _ _) Tryd.func25 (by kernel_rfl) bolelaw04_num.chk (by rw [bolelaw04_num.eq]; exact hx)

-- 26
def bolelaw04_block (c1 : Int) (K : Value → Heap → Prop) (h1 : Heap) : Prop :=
  (0 ≤ (512 : Int) ∧ (512 : Int) ≤ 512 ∧ (1 : Int) * 512 ≤ 281474976710656 ∧ (512 : Int) ≤ 281474976710656) ∧
  New (repCells z5 (Int.toNat 512)) 5 h1 fun h2 =>
  ∃ (I1 : Int → Heap → Prop) (M1 : Int → Heap → Nat), I1 0 h2 ∧
  ∀ (n1 : Int), ∀ h3 : Heap, I1 n1 h3 →
  bif (decide (n1 < ((Int.toNat 512) : Int))) then (
  (0 ≤ n1 ∧ n1 < ((Int.toNat 512) : Int)) ∧
  Put (Addr.add ⟨h1.size, 0, none⟩ (Int.toNat n1)) (.int .u8 c1) h3 fun h4 =>
  I1 (IntKind.wrap .i64 (n1 + 1)) h4 ∧ M1 (IntKind.wrap .i64 (n1 + 1)) h4 < M1 n1 h3) else (
  K (.slice (some ⟨h1.size, 0, none⟩) (Int.toNat 512) (Int.toNat 512)) h3)
def bolelaw04_block.lo : Nat → List Nat × List (Nat × Ty) := fun n => match n with | 3 => ([0, 3, 7], [(8, .int .i64)]) | _ => ([], [])
def bolelaw04_block.od : Nat → Od := fun n => match n with | _ => .nil
theorem bolelaw04_block.eq (c1 : Int) (K : Value → Heap → Prop) (h : Heap) : fnX (cx bolelaw04_block.lo bolelaw04_block.od) Tryd.f26 (Tryd.f26.body.getD .skip) [.int .u8 c1] K h = bolelaw04_block c1 K h := by kernel_rfl
theorem bolelaw04_block.chk : fnOk (cx bolelaw04_block.lo bolelaw04_block.od) Tryd.f26 (Tryd.f26.body.getD .skip) 1 = true := by kernel_rfl
theorem bolelaw04_block.ok {c1 : Int} {K : Value → Heap → Prop} {h : Heap} (hx : bolelaw04_block c1 K h) : C.bolelaw04_block c1 h K :=
  fn_to (cxOk _ _) Tryd.func26 (by kernel_rfl) bolelaw04_block.chk (by rw [bolelaw04_block.eq]; exact hx)

-- 27
def bolelaw04_stretch (bit1 : Int) (K : Value → Heap → Prop) (h1 : Heap) : Prop :=
  bif (decide (bit1 < 96)) then (
  K (.int .i64 0) h1) else (
  bif (decide (bit1 < 128)) then (
  K (.int .i64 1) h1) else (
  K (.int .i64 2) h1))
def bolelaw04_stretch.lo : Nat → List Nat × List (Nat × Ty) := fun n => match n with | _ => ([], [])
def bolelaw04_stretch.od : Nat → Od := fun n => match n with | _ => .nil
theorem bolelaw04_stretch.eq (bit1 : Int) (K : Value → Heap → Prop) (h : Heap) : fnX (cx bolelaw04_stretch.lo bolelaw04_stretch.od) Tryd.f27 (Tryd.f27.body.getD .skip) [.int .i64 bit1] K h = bolelaw04_stretch bit1 K h := by kernel_rfl
theorem bolelaw04_stretch.chk : fnOk (cx bolelaw04_stretch.lo bolelaw04_stretch.od) Tryd.f27 (Tryd.f27.body.getD .skip) 1 = true := by kernel_rfl
theorem bolelaw04_stretch.ok {bit1 : Int} {K : Value → Heap → Prop} {h : Heap} (hx : bolelaw04_stretch bit1 K h) : C.bolelaw04_stretch bit1 h K :=
  fn_to (cxOk _ _) Tryd.func27 (by kernel_rfl) bolelaw04_stretch.chk (by rw [bolelaw04_stretch.eq]; exact hx)

-- 35
def head_may (numsA1 : Option Addr) (numsL1 : Nat) (numsC1 : Nat) (n1 : Int) (K : Value → Heap → Prop) (h1 : Heap) : Prop :=
  New [.int .i64 n1] 3 h1 fun h2 =>
  New z3 3 h2 fun h3 =>
  Put ⟨h2.size, 0, none⟩ (.int .i64 97) h3 fun h4 =>
  ∃ (I1 : Int → Heap → Prop) (M1 : Int → Heap → Nat), I1 0 h4 ∧
  ∀ (n2 : Int), ∀ h5 : Heap, I1 n2 h5 →
  bif (decide (n2 < (numsL1 : Int))) then (
  (0 ≤ n2 ∧ n2 < (numsL1 : Int)) ∧
  onSome numsA1 fun p1 =>
  ∃ (n3 : Int), cellOf h5 (Addr.add p1 (Int.toNat n2)) = some (.int .i64 n3) ∧
  C.head_may_c1 n3 (some ⟨h2.size, 0, none⟩) (some ⟨h1.size, 0, none⟩) h5 fun r1 h6 =>
  ∃ (b1 : Bool), r1 = .bool b1 ∧
  bif b1 then (
  K (.bool false) h6) else (
  I1 (IntKind.wrap .i64 (n2 + 1)) h6 ∧ M1 (IntKind.wrap .i64 (n2 + 1)) h6 < M1 n2 h5)) else (
  bif (decide ((numsL1 : Int) ≥ 1)) then (
  K (.bool (decide ((numsL1 : Int) ≤ 96))) h5) else (
  K (.bool false) h5))
def head_may.lo : Nat → List Nat × List (Nat × Ty) := fun n => match n with | 4 => ([0, 6, 10, 11], [(12, .int .i64)]) | _ => ([], [])
def head_may.od : Nat → Od := fun n => match n with | _ => .nil
theorem head_may.eq (numsA1 : Option Addr) (numsL1 : Nat) (numsC1 : Nat) (n1 : Int) (K : Value → Heap → Prop) (h : Heap) : fnX (cx head_may.lo head_may.od) Tryd.f35 (Tryd.f35.body.getD .skip) [.slice numsA1 numsL1 numsC1, .int .i64 n1] K h = head_may numsA1 numsL1 numsC1 n1 K h := by kernel_rfl
theorem head_may.chk : fnOk (cx head_may.lo head_may.od) Tryd.f35 (Tryd.f35.body.getD .skip) 2 = true := by kernel_rfl
theorem head_may.ok {numsA1 : Option Addr} {numsL1 : Nat} {numsC1 : Nat} {n1 : Int} {K : Value → Heap → Prop} {h : Heap} (hx : head_may numsA1 numsL1 numsC1 n1 K h) : C.head_may numsA1 numsL1 numsC1 n1 h K :=
  fn_to (cxOk _ _) Tryd.func35 (by kernel_rfl) head_may.chk (by rw [head_may.eq]; exact hx)

-- 36
def head_areBlocks (dataA1 : Option Addr) (dataL1 : Nat) (dataC1 : Nat) (n1 : Int) (K : Value → Heap → Prop) (h1 : Heap) : Prop :=
  ∃ (I1 : Int → Heap → Prop) (M1 : Int → Heap → Nat), I1 0 h1 ∧
  ∀ (n2 : Int), ∀ h2 : Heap, I1 n2 h2 →
  bif (decide (n2 < (dataL1 : Int))) then (
  (0 ≤ n2 ∧ n2 < (dataL1 : Int)) ∧
  onSome dataA1 fun p1 =>
  ∃ (sA1 : Option Addr) (sL1 : Nat) (sC1 : Nat), cellOf h2 (Addr.add p1 (Int.toNat n2)) = some (.slice sA1 sL1 sC1) ∧
  bif ((sL1 : Int) != 512) then (
  K (.bool false) h2) else (
  I1 (IntKind.wrap .i64 (n2 + 1)) h2 ∧ M1 (IntKind.wrap .i64 (n2 + 1)) h2 < M1 n2 h2)) else (
  K (.bool ((dataL1 : Int) == n1)) h2)
def head_areBlocks.lo : Nat → List Nat × List (Nat × Ty) := fun n => match n with | 2 => ([0, 1, 7, 8], [(9, .int .i64)]) | _ => ([], [])
def head_areBlocks.od : Nat → Od := fun n => match n with | _ => .nil
theorem head_areBlocks.eq (dataA1 : Option Addr) (dataL1 : Nat) (dataC1 : Nat) (n1 : Int) (K : Value → Heap → Prop) (h : Heap) : fnX (cx head_areBlocks.lo head_areBlocks.od) Tryd.f36 (Tryd.f36.body.getD .skip) [.slice dataA1 dataL1 dataC1, .int .i64 n1] K h = head_areBlocks dataA1 dataL1 dataC1 n1 K h := by kernel_rfl
theorem head_areBlocks.chk : fnOk (cx head_areBlocks.lo head_areBlocks.od) Tryd.f36 (Tryd.f36.body.getD .skip) 2 = true := by kernel_rfl
theorem head_areBlocks.ok {dataA1 : Option Addr} {dataL1 : Nat} {dataC1 : Nat} {n1 : Int} {K : Value → Heap → Prop} {h : Heap} (hx : head_areBlocks dataA1 dataL1 dataC1 n1 K h) : C.head_areBlocks dataA1 dataL1 dataC1 n1 h K :=
  fn_to (cxOk _ _) Tryd.func36 (by kernel_rfl) head_areBlocks.chk (by rw [head_areBlocks.eq]; exact hx)

-- 37
def rec_PutText (bA1 : Option Addr) (bL1 : Nat) (bC1 : Nat) (at1 : Int) (n1 : Int) (s1 : ByteArray) (K : Value → Heap → Prop) (h1 : Heap) : Prop :=
  bif (decide (n1 < 0)) then (
  K (.int .i64 1) h1) else (
  bif (decide ((s1.size : Int) > n1)) then (
  K (.int .i64 1) h1) else (
  NewS s1 5 h1 fun cap1 h2 =>
  C.rec_ahead (some ⟨h1.size, 0, none⟩) s1.size cap1 h2 fun r1 h3 =>
  ∃ (n2 : Int), r1 = .int .i64 n2 ∧
  bif (decide (n2 < (s1.size : Int))) then (
  K (.int .i64 1) h3) else (
  C.rec_lie bA1 bL1 bC1 at1 n1 h3 fun r2 h4 =>
  ∃ (b1 : Bool), r2 = .bool b1 ∧
  bif (!b1) then (
  K (.int .i64 20) h4) else (
  (0 ≤ at1 ∧ at1 ≤ (IntKind.wrap .i64 (at1 + n1)) ∧ (IntKind.wrap .i64 (at1 + n1)) ≤ (bC1 : Int)) ∧
  CopyP ti5 (if bC1 = (Int.toNat at1) then bA1 else Option.map (Addr.add · (Int.toNat at1)) bA1) ((Int.toNat (IntKind.wrap .i64 (at1 + n1))) - (Int.toNat at1)) (.string s1) h4 fun n3 h5 =>
  (0 ≤ (IntKind.wrap .i64 (at1 + (n3 : Int))) ∧ (IntKind.wrap .i64 (at1 + (n3 : Int))) ≤ (IntKind.wrap .i64 (at1 + n1)) ∧ (IntKind.wrap .i64 (at1 + n1)) ≤ (bC1 : Int)) ∧
  ClearP ti5 (if bC1 = (Int.toNat (IntKind.wrap .i64 (at1 + (n3 : Int)))) then bA1 else Option.map (Addr.add · (Int.toNat (IntKind.wrap .i64 (at1 + (n3 : Int))))) bA1) ((Int.toNat (IntKind.wrap .i64 (at1 + n1))) - (Int.toNat (IntKind.wrap .i64 (at1 + (n3 : Int))))) h5 fun h6 =>
  K (.int .i64 0) h6))))
def rec_PutText.lo : Nat → List Nat × List (Nat × Ty) := fun n => match n with | _ => ([], [])
def rec_PutText.od : Nat → Od := fun n => match n with | _ => .nil
theorem rec_PutText.eq (bA1 : Option Addr) (bL1 : Nat) (bC1 : Nat) (at1 : Int) (n1 : Int) (s1 : ByteArray) (K : Value → Heap → Prop) (h : Heap) : fnX (cx rec_PutText.lo rec_PutText.od) Tryd.f37 (Tryd.f37.body.getD .skip) [.slice bA1 bL1 bC1, .int .i64 at1, .int .i64 n1, .string s1] K h = rec_PutText bA1 bL1 bC1 at1 n1 s1 K h := by kernel_rfl
theorem rec_PutText.chk : fnOk (cx rec_PutText.lo rec_PutText.od) Tryd.f37 (Tryd.f37.body.getD .skip) 4 = true := by kernel_rfl
theorem rec_PutText.ok {bA1 : Option Addr} {bL1 : Nat} {bC1 : Nat} {at1 : Int} {n1 : Int} {s1 : ByteArray} {K : Value → Heap → Prop} {h : Heap} (hx : rec_PutText bA1 bL1 bC1 at1 n1 s1 K h) : C.rec_PutText bA1 bL1 bC1 at1 n1 s1 h K :=
  fn_to (cxOk _ _) Tryd.func37 (by kernel_rfl) rec_PutText.chk (by rw [rec_PutText.eq]; exact hx)

-- 38
def rec_Put (bA1 : Option Addr) (bL1 : Nat) (bC1 : Nat) (at1 : Int) (n1 : Int) (v1 : Int) (K : Value → Heap → Prop) (h1 : Heap) : Prop :=
  C.rec_isWidth n1 h1 fun r1 h2 =>
  ∃ (b1 : Bool), r1 = .bool b1 ∧
  bif (!b1) then (
  K (.int .i64 1) h2) else (
  bif (decide (n1 < 8)) then (
  if (IntKind.wrap .i64 (8 * n1)) < 0 then False else
  bif ((Int.fdiv v1 (2 ^ min (Int.toNat (IntKind.wrap .i64 (8 * n1))) 64)) != 0) then (
  K (.int .i64 1) h2) else (
  C.rec_lie bA1 bL1 bC1 at1 n1 h2 fun r2 h3 =>
  ∃ (b2 : Bool), r2 = .bool b2 ∧
  bif (!b2) then (
  K (.int .i64 20) h3) else (
  ∃ (I1 : Int → Heap → Prop) (M1 : Int → Heap → Nat), I1 0 h3 ∧
  ∀ (n2 : Int), ∀ h4 : Heap, I1 n2 h4 →
  bif (decide (n2 < n1)) then (
  if (IntKind.wrap .i64 (8 * n2)) < 0 then False else
  (0 ≤ (IntKind.wrap .i64 (at1 + n2)) ∧ (IntKind.wrap .i64 (at1 + n2)) < (bL1 : Int)) ∧
  onSome bA1 fun p1 =>
  Put (Addr.add p1 (Int.toNat (IntKind.wrap .i64 (at1 + n2)))) (.int .u8 (IntKind.wrap .u8 ((Int.fdiv v1 (2 ^ min (Int.toNat (IntKind.wrap .i64 (8 * n2))) 64))))) h4 fun h5 =>
  I1 (IntKind.wrap .i64 (n2 + 1)) h5 ∧ M1 (IntKind.wrap .i64 (n2 + 1)) h5 < M1 n2 h4) else (
  K (.int .i64 0) h4)))) else (
  C.rec_lie bA1 bL1 bC1 at1 n1 h2 fun r3 h6 =>
  ∃ (b3 : Bool), r3 = .bool b3 ∧
  bif (!b3) then (
  K (.int .i64 20) h6) else (
  ∃ (I2 : Int → Heap → Prop) (M2 : Int → Heap → Nat), I2 0 h6 ∧
  ∀ (n3 : Int), ∀ h7 : Heap, I2 n3 h7 →
  bif (decide (n3 < n1)) then (
  if (IntKind.wrap .i64 (8 * n3)) < 0 then False else
  (0 ≤ (IntKind.wrap .i64 (at1 + n3)) ∧ (IntKind.wrap .i64 (at1 + n3)) < (bL1 : Int)) ∧
  onSome bA1 fun p2 =>
  Put (Addr.add p2 (Int.toNat (IntKind.wrap .i64 (at1 + n3)))) (.int .u8 (IntKind.wrap .u8 ((Int.fdiv v1 (2 ^ min (Int.toNat (IntKind.wrap .i64 (8 * n3))) 64))))) h7 fun h8 =>
  I2 (IntKind.wrap .i64 (n3 + 1)) h8 ∧ M2 (IntKind.wrap .i64 (n3 + 1)) h8 < M2 n3 h7) else (
  K (.int .i64 0) h7))))
def rec_Put.lo : Nat → List Nat × List (Nat × Ty) := fun n => match n with | 6 => ([0, 1, 3, 31], [(32, .int .i64)]) | _ => ([], [])
def rec_Put.od : Nat → Od := fun n => match n with | _ => .nil
theorem rec_Put.eq (bA1 : Option Addr) (bL1 : Nat) (bC1 : Nat) (at1 : Int) (n1 : Int) (v1 : Int) (K : Value → Heap → Prop) (h : Heap) : fnX (cx rec_Put.lo rec_Put.od) Tryd.f38 (Tryd.f38.body.getD .skip) [.slice bA1 bL1 bC1, .int .i64 at1, .int .i64 n1, .int .u64 v1] K h = rec_Put bA1 bL1 bC1 at1 n1 v1 K h := by kernel_rfl
theorem rec_Put.chk : fnOk (cx rec_Put.lo rec_Put.od) Tryd.f38 (Tryd.f38.body.getD .skip) 4 = true := by kernel_rfl
theorem rec_Put.ok {bA1 : Option Addr} {bL1 : Nat} {bC1 : Nat} {at1 : Int} {n1 : Int} {v1 : Int} {K : Value → Heap → Prop} {h : Heap} (hx : rec_Put bA1 bL1 bC1 at1 n1 v1 K h) : C.rec_Put bA1 bL1 bC1 at1 n1 v1 h K :=
  fn_to (cxOk _ _) Tryd.func38 (by kernel_rfl) rec_Put.chk (by rw [rec_Put.eq]; exact hx)

-- 39
def head_sumOf (headA1 : Option Addr) (headL1 : Nat) (headC1 : Nat) (piecesA1 : Option Addr) (piecesL1 : Nat) (piecesC1 : Nat) (K : Value → Heap → Prop) (h1 : Heap) : Prop :=
  C.bytes_Clone headA1 headL1 headC1 h1 fun r1 h2 =>
  ∃ (sA1 : Option Addr) (sL1 : Nat) (sC1 : Nat), r1 = .slice sA1 sL1 sC1 ∧
  C.rec_Put sA1 sL1 sC1 12 4 0 h2 fun r2 h3 =>
  ∃ (n1 : Int), r2 = .int .i64 n1 ∧
  C.sum_Of sA1 sL1 sC1 h3 fun r3 h4 =>
  ∃ (n2 : Int), r3 = .int .u32 n2 ∧
  ∃ (I1 : Int → Int → Heap → Prop) (M1 : Int → Int → Heap → Nat), I1 n2 0 h4 ∧
  ∀ (s1 : Int) (n3 : Int), ∀ h5 : Heap, I1 s1 n3 h5 →
  bif (decide (n3 < (piecesL1 : Int))) then (
  (0 ≤ n3 ∧ n3 < (piecesL1 : Int)) ∧
  onSome piecesA1 fun p1 =>
  ∃ (sA2 : Option Addr) (sL2 : Nat) (sC2 : Nat), cellOf h5 (Addr.add p1 (Int.toNat n3)) = some (.slice sA2 sL2 sC2) ∧
  C.sum_Of sA2 sL2 sC2 h5 fun r4 h6 =>
  ∃ (n4 : Int), r4 = .int .u32 n4 ∧
  C.sum_Join s1 n4 (sL2 : Int) h6 fun r5 h7 =>
  ∃ (n5 : Int) (n6 : Int), r5 = .tuple #[.int .u32 n5, .int .i64 n6] ∧
  I1 n5 (IntKind.wrap .i64 (n3 + 1)) h7 ∧ M1 n5 (IntKind.wrap .i64 (n3 + 1)) h7 < M1 s1 n3 h5) else (
  K (.int .u32 s1) h5)
def head_sumOf.lo : Nat → List Nat × List (Nat × Ty) := fun n => match n with | 5 => ([15, 16], [(6, .int .u32), (17, .int .i64)]) | _ => ([], [])
def head_sumOf.od : Nat → Od := fun n => match n with | _ => .nil
theorem head_sumOf.eq (headA1 : Option Addr) (headL1 : Nat) (headC1 : Nat) (piecesA1 : Option Addr) (piecesL1 : Nat) (piecesC1 : Nat) (K : Value → Heap → Prop) (h : Heap) : fnX (cx head_sumOf.lo head_sumOf.od) Tryd.f39 (Tryd.f39.body.getD .skip) [.slice headA1 headL1 headC1, .slice piecesA1 piecesL1 piecesC1] K h = head_sumOf headA1 headL1 headC1 piecesA1 piecesL1 piecesC1 K h := by kernel_rfl
theorem head_sumOf.chk : fnOk (cx head_sumOf.lo head_sumOf.od) Tryd.f39 (Tryd.f39.body.getD .skip) 2 = true := by kernel_rfl
theorem head_sumOf.ok {headA1 : Option Addr} {headL1 : Nat} {headC1 : Nat} {piecesA1 : Option Addr} {piecesL1 : Nat} {piecesC1 : Nat} {K : Value → Heap → Prop} {h : Heap} (hx : head_sumOf headA1 headL1 headC1 piecesA1 piecesL1 piecesC1 K h) : C.head_sumOf headA1 headL1 headC1 piecesA1 piecesL1 piecesC1 h K :=
  fn_to (cxOk _ _) Tryd.func39 (by kernel_rfl) head_sumOf.chk (by rw [head_sumOf.eq]; exact hx)

-- 40
def boleref04_may.k1 (numsA1 : Option Addr) (numsL1 : Nat) (n1 : Int) (h1 : Heap) (K : Value → Heap → Prop) : Prop :=
  ∃ (I1 : Int → Int → Heap → Prop) (M1 : Int → Int → Heap → Nat), I1 97 0 h1 ∧
  ∀ (last1 : Int) (i1 : Int), ∀ h2 : Heap, I1 last1 i1 h2 →
  bif (decide (i1 < (numsL1 : Int))) then (
  (0 ≤ i1 ∧ i1 < (numsL1 : Int)) ∧
  onSome numsA1 fun p1 =>
  ∃ (n2 : Int), cellOf h2 (Addr.add p1 (Int.toNat i1)) = some (.int .i64 n2) ∧
  bif (decide (n2 ≤ last1)) then (
  K (.bool false) h2) else (
  (0 ≤ i1 ∧ i1 < (numsL1 : Int)) ∧
  onSome numsA1 fun p2 =>
  ∃ (n3 : Int), cellOf h2 (Addr.add p2 (Int.toNat i1)) = some (.int .i64 n3) ∧
  bif (decide (n3 ≥ n1)) then (
  K (.bool false) h2) else (
  (0 ≤ i1 ∧ i1 < (numsL1 : Int)) ∧
  onSome numsA1 fun p3 =>
  ∃ (n4 : Int), cellOf h2 (Addr.add p3 (Int.toNat i1)) = some (.int .i64 n4) ∧
  I1 n4 (IntKind.wrap .i64 (i1 + 1)) h2 ∧ M1 n4 (IntKind.wrap .i64 (i1 + 1)) h2 < M1 last1 i1 h2))) else (
  K (.bool true) h2)
def boleref04_may (numsA1 : Option Addr) (numsL1 : Nat) (numsC1 : Nat) (n1 : Int) (K : Value → Heap → Prop) (h1 : Heap) : Prop :=
  bif (decide ((numsL1 : Int) < 1)) then (
  K (.bool false) h1) else (
  bif (decide ((numsL1 : Int) > 96)) then (
  K (.bool false) h1) else (
  boleref04_may.k1 numsA1 numsL1 n1 h1 K))
def boleref04_may.lo : Nat → List Nat × List (Nat × Ty) := fun n => match n with | 5 => ([0, 1], [(5, .int .i64), (6, .int .i64)]) | _ => ([], [])
def boleref04_may.od : Nat → Od := fun n => match n with | _ => .nil
theorem boleref04_may.eq (numsA1 : Option Addr) (numsL1 : Nat) (numsC1 : Nat) (n1 : Int) (K : Value → Heap → Prop) (h : Heap) : fnX (cx boleref04_may.lo boleref04_may.od) Tryd.f40 (Tryd.f40.body.getD .skip) [.slice numsA1 numsL1 numsC1, .int .i64 n1] K h = boleref04_may numsA1 numsL1 numsC1 n1 K h := by kernel_rfl
theorem boleref04_may.chk : fnOk (cx boleref04_may.lo boleref04_may.od) Tryd.f40 (Tryd.f40.body.getD .skip) 2 = true := by kernel_rfl
theorem boleref04_may.ok {numsA1 : Option Addr} {numsL1 : Nat} {numsC1 : Nat} {n1 : Int} {K : Value → Heap → Prop} {h : Heap} (hx : boleref04_may numsA1 numsL1 numsC1 n1 K h) : C.boleref04_may numsA1 numsL1 numsC1 n1 h K :=
  fn_to (cxOk _ _) Tryd.func40 (by kernel_rfl) boleref04_may.chk (by rw [boleref04_may.eq]; exact hx)

-- 41
def boleref04_blocks (dataA1 : Option Addr) (dataL1 : Nat) (dataC1 : Nat) (n1 : Int) (K : Value → Heap → Prop) (h1 : Heap) : Prop :=
  bif ((dataL1 : Int) != n1) then (
  K (.bool false) h1) else (
  ∃ (I1 : Int → Heap → Prop) (M1 : Int → Heap → Nat), I1 0 h1 ∧
  ∀ (i1 : Int), ∀ h2 : Heap, I1 i1 h2 →
  bif (decide (i1 < (dataL1 : Int))) then (
  (0 ≤ i1 ∧ i1 < (dataL1 : Int)) ∧
  onSome dataA1 fun p1 =>
  ∃ (sA1 : Option Addr) (sL1 : Nat) (sC1 : Nat), cellOf h2 (Addr.add p1 (Int.toNat i1)) = some (.slice sA1 sL1 sC1) ∧
  bif ((sL1 : Int) != 512) then (
  K (.bool false) h2) else (
  I1 (IntKind.wrap .i64 (i1 + 1)) h2 ∧ M1 (IntKind.wrap .i64 (i1 + 1)) h2 < M1 i1 h2)) else (
  K (.bool true) h2))
def boleref04_blocks.lo : Nat → List Nat × List (Nat × Ty) := fun n => match n with | 4 => ([0], [(5, .int .i64)]) | _ => ([], [])
def boleref04_blocks.od : Nat → Od := fun n => match n with | _ => .nil
theorem boleref04_blocks.eq (dataA1 : Option Addr) (dataL1 : Nat) (dataC1 : Nat) (n1 : Int) (K : Value → Heap → Prop) (h : Heap) : fnX (cx boleref04_blocks.lo boleref04_blocks.od) Tryd.f41 (Tryd.f41.body.getD .skip) [.slice dataA1 dataL1 dataC1, .int .i64 n1] K h = boleref04_blocks dataA1 dataL1 dataC1 n1 K h := by kernel_rfl
theorem boleref04_blocks.chk : fnOk (cx boleref04_blocks.lo boleref04_blocks.od) Tryd.f41 (Tryd.f41.body.getD .skip) 2 = true := by kernel_rfl
theorem boleref04_blocks.ok {dataA1 : Option Addr} {dataL1 : Nat} {dataC1 : Nat} {n1 : Int} {K : Value → Heap → Prop} {h : Heap} (hx : boleref04_blocks dataA1 dataL1 dataC1 n1 K h) : C.boleref04_blocks dataA1 dataL1 dataC1 n1 h K :=
  fn_to (cxOk _ _) Tryd.func41 (by kernel_rfl) boleref04_blocks.chk (by rw [boleref04_blocks.eq]; exact hx)

-- 42
def boleref04_laid (numsA1 : Option Addr) (numsL1 : Nat) (numsC1 : Nat) (sum1 : Int) (K : Value → Heap → Prop) (h1 : Heap) : Prop :=
  New [.int .u8 66, .int .u8 79, .int .u8 76, .int .u8 69, .int .u8 76, .int .u8 79, .int .u8 71, .int .u8 49] 5 h1 fun h2 =>
  MarkAt ⟨h1.size, 0, none⟩ h2 fun h3 =>
  New [.int .u8 (IntKind.wrap .u8 ((numsL1 : Int))), .int .u8 (IntKind.wrap .u8 ((IntKind.wrap .i64 (Int.tdiv (numsL1 : Int) 256)))), .int .u8 0, .int .u8 0] 5 h3 fun h4 =>
  ∃ new1 : List Value, List.length new1 = 4 * 1 ∧ SlCells h4 (some ⟨h3.size, 0, none⟩) new1 ∧ (∀ v ∈ new1, v.oneCell' = true) ∧
  AppendP ti5 5 (some ⟨h1.size, 0, none⟩) 8 8 4 new1 h4 fun sA1 sL1 sC1 h5 =>
  New [.int .u8 (IntKind.wrap .u8 (sum1)), .int .u8 (IntKind.wrap .u8 ((Int.fdiv sum1 (2 ^ min (Int.toNat 8) 32)))), .int .u8 (IntKind.wrap .u8 ((Int.fdiv sum1 (2 ^ min (Int.toNat 16) 32)))), .int .u8 (IntKind.wrap .u8 ((Int.fdiv sum1 (2 ^ min (Int.toNat 24) 32))))] 5 h5 fun h6 =>
  ∃ new2 : List Value, List.length new2 = 4 * 1 ∧ SlCells h6 (some ⟨h5.size, 0, none⟩) new2 ∧ (∀ v ∈ new2, v.oneCell' = true) ∧
  AppendP ti5 5 sA1 sL1 sC1 4 new2 h6 fun sA2 sL2 sC2 h7 =>
  ∃ (I1 : Option Addr → Nat → Nat → Int → Heap → Prop) (M1 : Option Addr → Nat → Nat → Int → Heap → Nat), I1 sA2 sL2 sC2 0 h7 ∧
  ∀ (bA1 : Option Addr) (bL1 : Nat) (bC1 : Nat) (i1 : Int), ∀ h8 : Heap, I1 bA1 bL1 bC1 i1 h8 →
  bif (decide (i1 < (numsL1 : Int))) then (
  (0 ≤ i1 ∧ i1 < (numsL1 : Int)) ∧
  onSome numsA1 fun p1 =>
  ∃ (n1 : Int), cellOf h8 (Addr.add p1 (Int.toNat i1)) = some (.int .i64 n1) ∧
  (0 ≤ i1 ∧ i1 < (numsL1 : Int)) ∧
  onSome numsA1 fun p2 =>
  ∃ (n2 : Int), cellOf h8 (Addr.add p2 (Int.toNat i1)) = some (.int .i64 n2) ∧
  (0 ≤ i1 ∧ i1 < (numsL1 : Int)) ∧
  onSome numsA1 fun p3 =>
  ∃ (n3 : Int), cellOf h8 (Addr.add p3 (Int.toNat i1)) = some (.int .i64 n3) ∧
  (0 ≤ i1 ∧ i1 < (numsL1 : Int)) ∧
  onSome numsA1 fun p4 =>
  ∃ (n4 : Int), cellOf h8 (Addr.add p4 (Int.toNat i1)) = some (.int .i64 n4) ∧
  New [.int .u8 (IntKind.wrap .u8 (n1)), .int .u8 (IntKind.wrap .u8 ((Int.fdiv n2 (2 ^ min (Int.toNat 8) 64)))), .int .u8 (IntKind.wrap .u8 ((Int.fdiv n3 (2 ^ min (Int.toNat 16) 64)))), .int .u8 (IntKind.wrap .u8 ((Int.fdiv n4 (2 ^ min (Int.toNat 24) 64))))] 5 h8 fun h9 =>
  ∃ new3 : List Value, List.length new3 = 4 * 1 ∧ SlCells h9 (some ⟨h8.size, 0, none⟩) new3 ∧ (∀ v ∈ new3, v.oneCell' = true) ∧
  AppendP ti5 5 bA1 bL1 bC1 4 new3 h9 fun sA3 sL3 sC3 h10 =>
  I1 sA3 sL3 sC3 (IntKind.wrap .i64 (i1 + 1)) h10 ∧ M1 sA3 sL3 sC3 (IntKind.wrap .i64 (i1 + 1)) h10 < M1 bA1 bL1 bC1 i1 h8) else (
  ∃ (I2 : Option Addr → Nat → Nat → Heap → Prop) (M2 : Option Addr → Nat → Nat → Heap → Nat), I2 bA1 bL1 bC1 h8 ∧
  ∀ (bA2 : Option Addr) (bL2 : Nat) (bC2 : Nat), ∀ h11 : Heap, I2 bA2 bL2 bC2 h11 →
  bif (decide ((bL2 : Int) < 512)) then (
  New [.int .u8 0] 5 h11 fun h12 =>
  ∃ new4 : List Value, List.length new4 = 1 * 1 ∧ SlCells h12 (some ⟨h11.size, 0, none⟩) new4 ∧ (∀ v ∈ new4, v.oneCell' = true) ∧
  AppendP ti5 5 bA2 bL2 bC2 1 new4 h12 fun sA4 sL4 sC4 h13 =>
  I2 sA4 sL4 sC4 h13 ∧ M2 sA4 sL4 sC4 h13 < M2 bA2 bL2 bC2 h11) else (
  K (.slice bA2 bL2 bC2) h11))
def boleref04_laid.lo : Nat → List Nat × List (Nat × Ty) := fun n => match n with | 5 => ([0], [(5, .slice), (6, .int .i64)]) | 8 => ([], [(5, .slice)]) | _ => ([], [])
def boleref04_laid.od : Nat → Od := fun n => match n with | 7 => (.op 0 [] (.op 1 [] (.op 2 [] (.op 3 [] (.op 4 [] (.op 5 [] (.op 6 [] (.op 7 [] (.op 8 [] (.op 9 [] (.op 10 [] (.op 11 [] (.op 12 [] (.op 13 [] (.op 14 [] (.op 15 [] (.op 16 [] (.op 17 [] (.op 18 [] (.op 19 [] (.op 20 [] (.op 21 [] (.op 22 [] (.op 23 [] (.op 24 [] (.op 25 [] (.op 26 [] .nil))))))))))))))))))))))))))) | _ => .nil
theorem boleref04_laid.eq (numsA1 : Option Addr) (numsL1 : Nat) (numsC1 : Nat) (sum1 : Int) (K : Value → Heap → Prop) (h : Heap) : fnX (cx boleref04_laid.lo boleref04_laid.od) Tryd.f42 (Tryd.f42.body.getD .skip) [.slice numsA1 numsL1 numsC1, .int .u32 sum1] K h = boleref04_laid numsA1 numsL1 numsC1 sum1 K h := by kernel_rfl
theorem boleref04_laid.chk : fnOk (cx boleref04_laid.lo boleref04_laid.od) Tryd.f42 (Tryd.f42.body.getD .skip) 2 = true := by kernel_rfl
theorem boleref04_laid.ok {numsA1 : Option Addr} {numsL1 : Nat} {numsC1 : Nat} {sum1 : Int} {K : Value → Heap → Prop} {h : Heap} (hx : boleref04_laid numsA1 numsL1 numsC1 sum1 K h) : C.boleref04_laid numsA1 numsL1 numsC1 sum1 h K :=
  fn_to (cxOk _ _) Tryd.func42 (by kernel_rfl) boleref04_laid.chk (by rw [boleref04_laid.eq]; exact hx)

-- 43
def boleref04_SumOf (numsA1 : Option Addr) (numsL1 : Nat) (numsC1 : Nat) (dataA1 : Option Addr) (dataL1 : Nat) (dataC1 : Nat) (K : Value → Heap → Prop) (h1 : Heap) : Prop :=
  C.boleref04_laid numsA1 numsL1 numsC1 0 h1 fun r1 h2 =>
  ∃ (sA1 : Option Addr) (sL1 : Nat) (sC1 : Nat), r1 = .slice sA1 sL1 sC1 ∧
  ∃ (I1 : Option Addr → Nat → Nat → Int → Heap → Prop) (M1 : Option Addr → Nat → Nat → Int → Heap → Nat), I1 sA1 sL1 sC1 0 h2 ∧
  ∀ (bA1 : Option Addr) (bL1 : Nat) (bC1 : Nat) (i1 : Int), ∀ h3 : Heap, I1 bA1 bL1 bC1 i1 h3 →
  bif (decide (i1 < (dataL1 : Int))) then (
  (0 ≤ i1 ∧ i1 < (dataL1 : Int)) ∧
  onSome dataA1 fun p1 =>
  ∃ (sA2 : Option Addr) (sL2 : Nat) (sC2 : Nat), cellOf h3 (Addr.add p1 (Int.toNat i1)) = some (.slice sA2 sL2 sC2) ∧
  ∃ new1 : List Value, List.length new1 = sL2 * 1 ∧ SlCells h3 sA2 new1 ∧ (∀ v ∈ new1, v.oneCell' = true) ∧
  AppendP ti5 5 bA1 bL1 bC1 sL2 new1 h3 fun sA3 sL3 sC3 h4 =>
  I1 sA3 sL3 sC3 (IntKind.wrap .i64 (i1 + 1)) h4 ∧ M1 sA3 sL3 sC3 (IntKind.wrap .i64 (i1 + 1)) h4 < M1 bA1 bL1 bC1 i1 h3) else (
  C.boleref01_Of bA1 bL1 bC1 h3 fun r2 h5 =>
  ∃ (n1 : Int), r2 = .int .u32 n1 ∧
  K (.int .u32 n1) h5)
def boleref04_SumOf.lo : Nat → List Nat × List (Nat × Ty) := fun n => match n with | 3 => ([1], [(5, .slice), (6, .int .i64)]) | _ => ([], [])
def boleref04_SumOf.od : Nat → Od := fun n => match n with | _ => .nil
theorem boleref04_SumOf.eq (numsA1 : Option Addr) (numsL1 : Nat) (numsC1 : Nat) (dataA1 : Option Addr) (dataL1 : Nat) (dataC1 : Nat) (K : Value → Heap → Prop) (h : Heap) : fnX (cx boleref04_SumOf.lo boleref04_SumOf.od) Tryd.f43 (Tryd.f43.body.getD .skip) [.slice numsA1 numsL1 numsC1, .slice dataA1 dataL1 dataC1] K h = boleref04_SumOf numsA1 numsL1 numsC1 dataA1 dataL1 dataC1 K h := by kernel_rfl
theorem boleref04_SumOf.chk : fnOk (cx boleref04_SumOf.lo boleref04_SumOf.od) Tryd.f43 (Tryd.f43.body.getD .skip) 2 = true := by kernel_rfl
theorem boleref04_SumOf.ok {numsA1 : Option Addr} {numsL1 : Nat} {numsC1 : Nat} {dataA1 : Option Addr} {dataL1 : Nat} {dataC1 : Nat} {K : Value → Heap → Prop} {h : Heap} (hx : boleref04_SumOf numsA1 numsL1 numsC1 dataA1 dataL1 dataC1 K h) : C.boleref04_SumOf numsA1 numsL1 numsC1 dataA1 dataL1 dataC1 h K :=
  fn_to (cxOk _ _) Tryd.func43 (by kernel_rfl) boleref04_SumOf.chk (by rw [boleref04_SumOf.eq]; exact hx)

-- 44
def rec_Zero (bA1 : Option Addr) (bL1 : Nat) (bC1 : Nat) (at1 : Int) (n1 : Int) (K : Value → Heap → Prop) (h1 : Heap) : Prop :=
  bif (decide (n1 < 0)) then (
  K (.tuple #[.bool false, .int .i64 1]) h1) else (
  C.rec_lie bA1 bL1 bC1 at1 n1 h1 fun r1 h2 =>
  ∃ (b1 : Bool), r1 = .bool b1 ∧
  bif (!b1) then (
  K (.tuple #[.bool false, .int .i64 20]) h2) else (
  (0 ≤ at1 ∧ at1 ≤ (IntKind.wrap .i64 (at1 + n1)) ∧ (IntKind.wrap .i64 (at1 + n1)) ≤ (bC1 : Int)) ∧
  C.rec_zeros (if bC1 = (Int.toNat at1) then bA1 else Option.map (Addr.add · (Int.toNat at1)) bA1) ((Int.toNat (IntKind.wrap .i64 (at1 + n1))) - (Int.toNat at1)) (bC1 - (Int.toNat at1)) h2 fun r2 h3 =>
  ∃ (b2 : Bool), r2 = .bool b2 ∧
  K (.tuple #[.bool b2, .int .i64 0]) h3))
def rec_Zero.lo : Nat → List Nat × List (Nat × Ty) := fun n => match n with | _ => ([], [])
def rec_Zero.od : Nat → Od := fun n => match n with | _ => .nil
theorem rec_Zero.eq (bA1 : Option Addr) (bL1 : Nat) (bC1 : Nat) (at1 : Int) (n1 : Int) (K : Value → Heap → Prop) (h : Heap) : fnX (cx rec_Zero.lo rec_Zero.od) Tryd.f44 (Tryd.f44.body.getD .skip) [.slice bA1 bL1 bC1, .int .i64 at1, .int .i64 n1] K h = rec_Zero bA1 bL1 bC1 at1 n1 K h := by kernel_rfl
theorem rec_Zero.chk : fnOk (cx rec_Zero.lo rec_Zero.od) Tryd.f44 (Tryd.f44.body.getD .skip) 3 = true := by kernel_rfl
theorem rec_Zero.ok {bA1 : Option Addr} {bL1 : Nat} {bC1 : Nat} {at1 : Int} {n1 : Int} {K : Value → Heap → Prop} {h : Heap} (hx : rec_Zero bA1 bL1 bC1 at1 n1 K h) : C.rec_Zero bA1 bL1 bC1 at1 n1 h K :=
  fn_to (cxOk _ _) Tryd.func44 (by kernel_rfl) rec_Zero.chk (by rw [rec_Zero.eq]; exact hx)

-- 45
def rec_Get (bA1 : Option Addr) (bL1 : Nat) (bC1 : Nat) (at1 : Int) (n1 : Int) (K : Value → Heap → Prop) (h1 : Heap) : Prop :=
  C.rec_isWidth n1 h1 fun r1 h2 =>
  ∃ (b1 : Bool), r1 = .bool b1 ∧
  bif (!b1) then (
  K (.tuple #[.int .u64 0, .int .i64 1]) h2) else (
  C.rec_lie bA1 bL1 bC1 at1 n1 h2 fun r2 h3 =>
  ∃ (b2 : Bool), r2 = .bool b2 ∧
  bif (!b2) then (
  K (.tuple #[.int .u64 0, .int .i64 20]) h3) else (
  ∃ (I1 : Int → Int → Heap → Prop) (M1 : Int → Int → Heap → Nat), I1 0 0 h3 ∧
  ∀ (v1 : Int) (n2 : Int), ∀ h4 : Heap, I1 v1 n2 h4 →
  bif (decide (n2 < n1)) then (
  (0 ≤ (IntKind.wrap .i64 (at1 + n2)) ∧ (IntKind.wrap .i64 (at1 + n2)) < (bL1 : Int)) ∧
  onSome bA1 fun p1 =>
  ∃ (n3 : Int), cellOf h4 (Addr.add p1 (Int.toNat (IntKind.wrap .i64 (at1 + n2)))) = some (.int .u8 n3) ∧
  if (IntKind.wrap .i64 (8 * n2)) < 0 then False else
  I1 (bitsI .or .u64 v1 (IntKind.wrap .u64 (((IntKind.wrap .u64 (n3)) * 2 ^ min (Int.toNat (IntKind.wrap .i64 (8 * n2))) 64)))) (IntKind.wrap .i64 (n2 + 1)) h4 ∧ M1 (bitsI .or .u64 v1 (IntKind.wrap .u64 (((IntKind.wrap .u64 (n3)) * 2 ^ min (Int.toNat (IntKind.wrap .i64 (8 * n2))) 64)))) (IntKind.wrap .i64 (n2 + 1)) h4 < M1 v1 n2 h4) else (
  K (.tuple #[.int .u64 v1, .int .i64 0]) h4)))
def rec_Get.lo : Nat → List Nat × List (Nat × Ty) := fun n => match n with | 7 => ([0, 1, 20], [(8, .int .u64), (21, .int .i64)]) | _ => ([], [])
def rec_Get.od : Nat → Od := fun n => match n with | _ => .nil
theorem rec_Get.eq (bA1 : Option Addr) (bL1 : Nat) (bC1 : Nat) (at1 : Int) (n1 : Int) (K : Value → Heap → Prop) (h : Heap) : fnX (cx rec_Get.lo rec_Get.od) Tryd.f45 (Tryd.f45.body.getD .skip) [.slice bA1 bL1 bC1, .int .i64 at1, .int .i64 n1] K h = rec_Get bA1 bL1 bC1 at1 n1 K h := by kernel_rfl
theorem rec_Get.chk : fnOk (cx rec_Get.lo rec_Get.od) Tryd.f45 (Tryd.f45.body.getD .skip) 3 = true := by kernel_rfl
theorem rec_Get.ok {bA1 : Option Addr} {bL1 : Nat} {bC1 : Nat} {at1 : Int} {n1 : Int} {K : Value → Heap → Prop} {h : Heap} (hx : rec_Get bA1 bL1 bC1 at1 n1 K h) : C.rec_Get bA1 bL1 bC1 at1 n1 h K :=
  fn_to (cxOk _ _) Tryd.func45 (by kernel_rfl) rec_Get.chk (by rw [rec_Get.eq]; exact hx)

-- 46
def boleref04_number (bA1 : Option Addr) (bL1 : Nat) (bC1 : Nat) (at1 : Int) (K : Value → Heap → Prop) (h1 : Heap) : Prop :=
  (0 ≤ at1 ∧ at1 < (bL1 : Int)) ∧
  onSome bA1 fun p1 =>
  ∃ (n1 : Int), cellOf h1 (Addr.add p1 (Int.toNat at1)) = some (.int .u8 n1) ∧
  (0 ≤ (IntKind.wrap .i64 (at1 + 1)) ∧ (IntKind.wrap .i64 (at1 + 1)) < (bL1 : Int)) ∧
  onSome bA1 fun p2 =>
  ∃ (n2 : Int), cellOf h1 (Addr.add p2 (Int.toNat (IntKind.wrap .i64 (at1 + 1)))) = some (.int .u8 n2) ∧
  (0 ≤ (IntKind.wrap .i64 (at1 + 2)) ∧ (IntKind.wrap .i64 (at1 + 2)) < (bL1 : Int)) ∧
  onSome bA1 fun p3 =>
  ∃ (n3 : Int), cellOf h1 (Addr.add p3 (Int.toNat (IntKind.wrap .i64 (at1 + 2)))) = some (.int .u8 n3) ∧
  (0 ≤ (IntKind.wrap .i64 (at1 + 3)) ∧ (IntKind.wrap .i64 (at1 + 3)) < (bL1 : Int)) ∧
  onSome bA1 fun p4 =>
  ∃ (n4 : Int), cellOf h1 (Addr.add p4 (Int.toNat (IntKind.wrap .i64 (at1 + 3)))) = some (.int .u8 n4) ∧
  K (.int .i64 (IntKind.wrap .i64 ((IntKind.wrap .i64 ((IntKind.wrap .i64 ((IntKind.wrap .i64 (n1)) + (IntKind.wrap .i64 ((IntKind.wrap .i64 (n2)) * 256)))) + (IntKind.wrap .i64 ((IntKind.wrap .i64 (n3)) * 65536)))) + (IntKind.wrap .i64 ((IntKind.wrap .i64 (n4)) * 16777216))))) h1
def boleref04_number.lo : Nat → List Nat × List (Nat × Ty) := fun n => match n with | _ => ([], [])
def boleref04_number.od : Nat → Od := fun n => match n with | 1 => (.op 0 [] (.op 1 [] (.op 2 [] (.op 3 [] (.op 4 [] (.op 5 [] (.op 6 [] (.op 7 [] (.op 8 [] (.op 9 [] (.op 10 [] (.op 11 [] (.op 12 [] (.op 13 [] (.op 14 [] (.op 15 [] (.op 16 [] (.op 17 [] (.op 18 [] (.op 19 [] (.op 20 [] (.op 21 [] (.op 22 [] (.op 23 [] (.op 24 [] (.op 25 [] (.op 26 [] (.op 27 [] (.op 28 [] (.op 29 [] .nil)))))))))))))))))))))))))))))) | _ => .nil
theorem boleref04_number.eq (bA1 : Option Addr) (bL1 : Nat) (bC1 : Nat) (at1 : Int) (K : Value → Heap → Prop) (h : Heap) : fnX (cx boleref04_number.lo boleref04_number.od) Tryd.f46 (Tryd.f46.body.getD .skip) [.slice bA1 bL1 bC1, .int .i64 at1] K h = boleref04_number bA1 bL1 bC1 at1 K h := by kernel_rfl
theorem boleref04_number.chk : fnOk (cx boleref04_number.lo boleref04_number.od) Tryd.f46 (Tryd.f46.body.getD .skip) 2 = true := by kernel_rfl
theorem boleref04_number.ok {bA1 : Option Addr} {bL1 : Nat} {bC1 : Nat} {at1 : Int} {K : Value → Heap → Prop} {h : Heap} (hx : boleref04_number bA1 bL1 bC1 at1 K h) : C.boleref04_number bA1 bL1 bC1 at1 h K :=
  fn_to (cxOk _ _) Tryd.func46 (by kernel_rfl) boleref04_number.chk (by rw [boleref04_number.eq]; exact hx)

-- 61
def head_may_c1 (i1 : Int) (cap1 : Option Addr) (cap2 : Option Addr) (K : Value → Heap → Prop) (h1 : Heap) : Prop :=
  onSome cap1 fun p1 =>
  ∃ (n1 : Int), cellOf h1 p1 = some (.int .i64 n1) ∧
  onSome cap1 fun p2 =>
  Put p2 (.int .i64 i1) h1 fun h2 =>
  bif (decide (i1 ≤ n1)) then (
  K (.bool true) h2) else (
  onSome cap2 fun p3 =>
  ∃ (n2 : Int), cellOf h2 p3 = some (.int .i64 n2) ∧
  K (.bool (decide (i1 ≥ n2))) h2)
def head_may_c1.lo : Nat → List Nat × List (Nat × Ty) := fun n => match n with | _ => ([], [])
def head_may_c1.od : Nat → Od := fun n => match n with | _ => .nil
theorem head_may_c1.eq (i1 : Int) (cap1 : Option Addr) (cap2 : Option Addr) (K : Value → Heap → Prop) (h : Heap) : fnX (cx head_may_c1.lo head_may_c1.od) Tryd.f61 (Tryd.f61.body.getD .skip) [.int .i64 i1, .pointer cap1, .pointer cap2] K h = head_may_c1 i1 cap1 cap2 K h := by kernel_rfl
theorem head_may_c1.chk : fnOk (cx head_may_c1.lo head_may_c1.od) Tryd.f61 (Tryd.f61.body.getD .skip) 3 = true := by kernel_rfl
theorem head_may_c1.ok {i1 : Int} {cap1 : Option Addr} {cap2 : Option Addr} {K : Value → Heap → Prop} {h : Heap} (hx : head_may_c1 i1 cap1 cap2 K h) : C.head_may_c1 i1 cap1 cap2 h K :=
  fn_to (cxOk _ _) Tryd.func61 (by kernel_rfl) head_may_c1.chk (by rw [head_may_c1.eq]; exact hx)
end Go.Proofs.YtnlmieklakolkaaDoor.W
