/-
  WHAT THE FUNCTIONS COMPUTE, as formulas; each held against the loaded code by the kernel. Written by program (gen.py).
-/
import Derived.Test.YtnbfaokpaiiojaaTab
namespace Go.Proofs.Ytnbfaokpaiiojaa.W
open Go Go.Proofs Go.Proofs.Ytnbfaokpaiiojaa.Wx
-- 34
def bolelaw03_unmarked (fullA1 : Option Addr) (fullL1 : Nat) (fullC1 : Nat) (lA1 : Option Addr) (lL1 : Nat) (lC1 : Nat) (K : Value → Heap → Prop) (h1 : Heap) : Prop :=
  (0 ≤ (lL1 : Int) ∧ (lL1 : Int) < (fullL1 : Int)) ∧
  onSome fullA1 fun p1 =>
  ∃ (b1 : Bool), cellOf h1 (Addr.add p1 (Int.toNat (lL1 : Int))) = some (.bool b1) ∧
  ∃ (I1 : Bool → Int → Heap → Prop) (M1 : Bool → Int → Heap → Nat), I1 b1 0 h1 ∧
  ∀ (ok1 : Bool) (n1 : Int), ∀ h2 : Heap, I1 ok1 n1 h2 →
  bif (decide (n1 < (lL1 : Int))) then (
  bif ok1 then (
  (0 ≤ n1 ∧ n1 < (fullL1 : Int)) ∧
  onSome fullA1 fun p2 =>
  ∃ (b2 : Bool), cellOf h2 (Addr.add p2 (Int.toNat n1)) = some (.bool b2) ∧
  (0 ≤ n1 ∧ n1 < (lL1 : Int)) ∧
  onSome lA1 fun p3 =>
  ∃ (b3 : Bool), cellOf h2 (Addr.add p3 (Int.toNat n1)) = some (.bool b3) ∧
  I1 (b2 == b3) (IntKind.wrap .i64 (n1 + 1)) h2 ∧ M1 (b2 == b3) (IntKind.wrap .i64 (n1 + 1)) h2 < M1 ok1 n1 h2) else (
  I1 false (IntKind.wrap .i64 (n1 + 1)) h2 ∧ M1 false (IntKind.wrap .i64 (n1 + 1)) h2 < M1 ok1 n1 h2)) else (
  ∃ (I2 : Int → Heap → Prop) (M2 : Int → Heap → Nat), I2 0 h2 ∧
  ∀ (n2 : Int), ∀ h3 : Heap, I2 n2 h3 →
  bif (decide (n2 < (fullL1 : Int))) then (
  (0 ≤ n2 ∧ n2 < (fullL1 : Int)) ∧
  onSome fullA1 fun p4 =>
  ∃ (b4 : Bool), cellOf h3 (Addr.add p4 (Int.toNat n2)) = some (.bool b4) ∧
  (0 ≤ n2 ∧ n2 < (fullL1 : Int)) ∧
  onSome fullA1 fun p5 =>
  Put (Addr.add p5 (Int.toNat n2)) (.bool (!b4)) h3 fun h4 =>
  I2 (IntKind.wrap .i64 (n2 + 1)) h4 ∧ M2 (IntKind.wrap .i64 (n2 + 1)) h4 < M2 n2 h3) else (
  K (.bool ok1) h3))
def bolelaw03_unmarked.lo : Nat → List Nat × List (Nat × Ty) := fun n => match n with | 3 => ([0, 1, 14], [(5, .bool), (15, .int .i64)]) | 8 => ([0, 5, 32], [(33, .int .i64)]) | _ => ([], [])
def bolelaw03_unmarked.od : Nat → Od := fun n => match n with | 5 => (.op 0 [] (.op 1 [] (.op 2 [] (.op 3 [] (.op 4 [] (.op 5 [] (.op 6 [] (.op 7 [] (.op 8 [] (.op 9 [] (.op 10 [] (.op 11 [] (.op 12 [] .nil))))))))))))) | _ => .nil
theorem bolelaw03_unmarked.eq (fullA1 : Option Addr) (fullL1 : Nat) (fullC1 : Nat) (lA1 : Option Addr) (lL1 : Nat) (lC1 : Nat) (K : Value → Heap → Prop) (h : Heap) : fnX (cx bolelaw03_unmarked.lo bolelaw03_unmarked.od) Try.f34 (Try.f34.body.getD .skip) [.slice fullA1 fullL1 fullC1, .slice lA1 lL1 lC1] K h = bolelaw03_unmarked fullA1 fullL1 fullC1 lA1 lL1 lC1 K h := by kernel_rfl
theorem bolelaw03_unmarked.chk : fnOk (cx bolelaw03_unmarked.lo bolelaw03_unmarked.od) Try.f34 (Try.f34.body.getD .skip) 2 = true := by kernel_rfl
theorem bolelaw03_unmarked.ok {fullA1 : Option Addr} {fullL1 : Nat} {fullC1 : Nat} {lA1 : Option Addr} {lL1 : Nat} {lC1 : Nat} {K : Value → Heap → Prop} {h : Heap} (hx : bolelaw03_unmarked fullA1 fullL1 fullC1 lA1 lL1 lC1 K h) : C.bolelaw03_unmarked fullA1 fullL1 fullC1 lA1 lL1 lC1 h K :=
  fn_to (cxOk _ _) Try.func34 (by kernel_rfl) bolelaw03_unmarked.chk (by rw [bolelaw03_unmarked.eq]; exact hx)

-- 35
def boleref03_New.k1 (n1 : Int) (h1 : Heap) (K : Value → Heap → Prop) : Prop :=
  (0 ≤ (IntKind.wrap .i64 (n1 * 512)) ∧ (IntKind.wrap .i64 (n1 * 512)) ≤ (IntKind.wrap .i64 (n1 * 512)) ∧ (1 : Int) * (IntKind.wrap .i64 (n1 * 512)) ≤ 281474976710656 ∧ (IntKind.wrap .i64 (n1 * 512)) ≤ 281474976710656) ∧
  New (repCells z5 (Int.toNat (IntKind.wrap .i64 (n1 * 512)))) 5 h1 fun h2 =>
  New [.slice (some ⟨h1.size, 0, none⟩) (Int.toNat (IntKind.wrap .i64 (n1 * 512))) (Int.toNat (IntKind.wrap .i64 (n1 * 512))), .slice none 0 0, .slice none 0 0, .int .i64 0, .bool false, .int .i64 0, .int .i64 0] 105 h2 fun h3 =>
  K (.tuple #[.pointer (some ⟨h2.size, 0, none⟩), .int .i64 0]) h3
def boleref03_New (n1 : Int) (K : Value → Heap → Prop) (h1 : Heap) : Prop :=
  bif (decide (n1 < 1)) then (
  K (.tuple #[.pointer none, .int .i64 32]) h1) else (
  bif (decide (n1 > 16384)) then (
  K (.tuple #[.pointer none, .int .i64 32]) h1) else (
  boleref03_New.k1 n1 h1 K))
def boleref03_New.lo : Nat → List Nat × List (Nat × Ty) := fun n => match n with | _ => ([], [])
def boleref03_New.od : Nat → Od := fun n => match n with | _ => .nil
set_option maxRecDepth 1000000 in
theorem boleref03_New.eq (n1 : Int) (K : Value → Heap → Prop) (h : Heap) : fnX (cx boleref03_New.lo boleref03_New.od) Try.f35 (Try.f35.body.getD .skip) [.int .i64 n1] K h = boleref03_New n1 K h := by kernel_rfl
theorem boleref03_New.chk : fnOk (cx boleref03_New.lo boleref03_New.od) Try.f35 (Try.f35.body.getD .skip) 1 = true := by kernel_rfl
set_option maxRecDepth 1000000 in
theorem boleref03_New.ok {n1 : Int} {K : Value → Heap → Prop} {h : Heap} (hx : boleref03_New n1 K h) : C.boleref03_New n1 h K :=
  fn_to (cxOk _ _) Try.func35 (by kernel_rfl) boleref03_New.chk (by rw [boleref03_New.eq]; exact hx)

-- 36
def boleref03_Disk_Image (d1 : Option Addr) (K : Value → Heap → Prop) (h1 : Heap) : Prop :=
  onSome d1 fun p1 =>
  ∃ (b1 : Bool), cellOf h1 (Addr.add p1 4) = some (.bool b1) ∧
  bif b1 then (
  onSome d1 fun p2 =>
  ∃ (sA1 : Option Addr) (sL1 : Nat) (sC1 : Nat), cellOf h1 (Addr.add p2 0) = some (.slice sA1 sL1 sC1) ∧
  onSome d1 fun p3 =>
  ∃ (sA2 : Option Addr) (sL2 : Nat) (sC2 : Nat), cellOf h1 (Addr.add p3 1) = some (.slice sA2 sL2 sC2) ∧
  onSome d1 fun p4 =>
  ∃ (sA3 : Option Addr) (sL3 : Nat) (sC3 : Nat), cellOf h1 (Addr.add p4 2) = some (.slice sA3 sL3 sC3) ∧
  C.boleref03_left sA1 sL1 sC1 sA2 sL2 sC2 sA3 sL3 sC3 h1 fun r1 h2 =>
  ∃ (sA4 : Option Addr) (sL4 : Nat) (sC4 : Nat), r1 = .slice sA4 sL4 sC4 ∧
  K (.slice sA4 sL4 sC4) h2) else (
  onSome d1 fun p5 =>
  ∃ (sA5 : Option Addr) (sL5 : Nat) (sC5 : Nat), cellOf h1 (Addr.add p5 0) = some (.slice sA5 sL5 sC5) ∧
  onSome d1 fun p6 =>
  ∃ (sA6 : Option Addr) (sL6 : Nat) (sC6 : Nat), cellOf h1 (Addr.add p6 1) = some (.slice sA6 sL6 sC6) ∧
  C.boleref03_left sA5 sL5 sC5 sA6 sL6 sC6 none 0 0 h1 fun r2 h3 =>
  ∃ (sA7 : Option Addr) (sL7 : Nat) (sC7 : Nat), r2 = .slice sA7 sL7 sC7 ∧
  K (.slice sA7 sL7 sC7) h3)
def boleref03_Disk_Image.lo : Nat → List Nat × List (Nat × Ty) := fun n => match n with | _ => ([], [])
def boleref03_Disk_Image.od : Nat → Od := fun n => match n with | 2 => (.op 0 [] (.op 1 [] (.op 2 [] (.op 3 [] (.op 4 [] (.op 5 [] (.op 6 [] (.op 7 [] (.op 8 [] (.op 9 [] (.op 10 [] (.op 11 [] (.op 12 [] (.op 13 [] .nil)))))))))))))) | 3 => (.op 0 [] (.op 1 [] (.op 2 [] (.op 3 [] (.op 4 [] (.op 5 [] (.op 6 [] (.op 7 [] (.op 8 [] (.op 9 [] .nil)))))))))) | _ => .nil
theorem boleref03_Disk_Image.eq (d1 : Option Addr) (K : Value → Heap → Prop) (h : Heap) : fnX (cx boleref03_Disk_Image.lo boleref03_Disk_Image.od) Try.f36 (Try.f36.body.getD .skip) [.pointer d1] K h = boleref03_Disk_Image d1 K h := by kernel_rfl
theorem boleref03_Disk_Image.chk : fnOk (cx boleref03_Disk_Image.lo boleref03_Disk_Image.od) Try.f36 (Try.f36.body.getD .skip) 1 = true := by kernel_rfl
theorem boleref03_Disk_Image.ok {d1 : Option Addr} {K : Value → Heap → Prop} {h : Heap} (hx : boleref03_Disk_Image d1 K h) : C.boleref03_Disk_Image d1 h K :=
  fn_to (cxOk _ _) Try.func36 (by kernel_rfl) boleref03_Disk_Image.chk (by rw [boleref03_Disk_Image.eq]; exact hx)

-- 37
def bolelaw03_Pair_plays (p1 : List Value) (o1 : List Value) (k1 : Option Addr) (K : Value → Heap → Prop) (h1 : Heap) : Prop :=
  New p1 32 h1 fun h2 =>
  New o1 85 h2 fun h3 =>
  ∃ (n1 : Int), cellOf h3 (Addr.add ⟨h2.size, 0, none⟩ 0) = some (.int .i64 n1) ∧
  bif (n1 == 2) then (
  ∃ (sA1 : Option Addr) (sL1 : Nat) (sC1 : Nat), cellOf h3 (Addr.add ⟨h2.size, 0, none⟩ 3) = some (.slice sA1 sL1 sC1) ∧
  C.bolelaw03_lent sA1 sL1 sC1 h3 fun r1 h4 =>
  ∃ (sA2 : Option Addr) (sL2 : Nat) (sC2 : Nat) (sA3 : Option Addr) (sL3 : Nat) (sC3 : Nat), r1 = .tuple #[.slice sA2 sL2 sC2, .slice sA3 sL3 sC3] ∧
  ∃ (q1 : Option Addr), cellOf h4 (Addr.add ⟨h1.size, 0, none⟩ 0) = some (.pointer q1) ∧
  ∃ (n2 : Int), cellOf h4 (Addr.add ⟨h2.size, 0, none⟩ 2) = some (.int .i64 n2) ∧
  ∃ (q2 : Option Addr), cellOf h4 (Addr.add ⟨h1.size, 0, none⟩ 1) = some (.pointer q2) ∧
  ∃ (n3 : Int), cellOf h4 (Addr.add ⟨h2.size, 0, none⟩ 2) = some (.int .i64 n3) ∧
  ∃ (sA4 : Option Addr) (sL4 : Nat) (sC4 : Nat), cellOf h4 (Addr.add ⟨h2.size, 0, none⟩ 3) = some (.slice sA4 sL4 sC4) ∧
  C.adisk_Disk_Write q1 n2 sA2 sL2 sC2 h4 fun r2 h5 =>
  ∃ (n4 : Int), r2 = .int .i64 n4 ∧
  (cellOf h5 (Addr.add ⟨h1.size, 0, none⟩ 1) = some (.pointer q2)) ∧
  (cellOf h5 (Addr.add ⟨h2.size, 0, none⟩ 2) = some (.int .i64 n3)) ∧
  (cellOf h5 (Addr.add ⟨h2.size, 0, none⟩ 3) = some (.slice sA4 sL4 sC4)) ∧
  C.boleref03_Disk_Write q2 n3 sA4 sL4 sC4 h5 fun r3 h6 =>
  ∃ (n5 : Int), r3 = .int .i64 n5 ∧
  ∃ (sA5 : Option Addr) (sL5 : Nat) (sC5 : Nat), cellOf h6 (Addr.add ⟨h2.size, 0, none⟩ 3) = some (.slice sA5 sL5 sC5) ∧
  C.bolelaw03_kept sA3 sL3 sC3 sA5 sL5 sC5 h6 fun r4 h7 =>
  ∃ (b1 : Bool), r4 = .bool b1 ∧
  bif b1 then (
  K (.bool (n4 == n5)) h7) else (
  K (.bool false) h7)) else (
  bif (n1 == 3) then (
  ∃ (q3 : Option Addr), cellOf h3 (Addr.add ⟨h1.size, 0, none⟩ 0) = some (.pointer q3) ∧
  ∃ (q4 : Option Addr), cellOf h3 (Addr.add ⟨h1.size, 0, none⟩ 1) = some (.pointer q4) ∧
  C.adisk_Disk_Flush q3 h3 fun r5 h8 =>
  ∃ (n6 : Int), r5 = .int .i64 n6 ∧
  (cellOf h8 (Addr.add ⟨h1.size, 0, none⟩ 1) = some (.pointer q4)) ∧
  C.boleref03_Disk_Flush q4 h8 fun r6 h9 =>
  ∃ (n7 : Int), r6 = .int .i64 n7 ∧
  K (.bool (n6 == n7)) h9) else (
  bif (n1 == 4) then (
  ∃ (sA6 : Option Addr) (sL6 : Nat) (sC6 : Nat), cellOf h3 (Addr.add ⟨h2.size, 0, none⟩ 4) = some (.slice sA6 sL6 sC6) ∧
  C.bolelaw03_marks sA6 sL6 sC6 h3 fun r7 h10 =>
  ∃ (sA7 : Option Addr) (sL7 : Nat) (sC7 : Nat) (sA8 : Option Addr) (sL8 : Nat) (sC8 : Nat), r7 = .tuple #[.slice sA7 sL7 sC7, .slice sA8 sL8 sC8] ∧
  ∃ (q5 : Option Addr), cellOf h10 (Addr.add ⟨h1.size, 0, none⟩ 0) = some (.pointer q5) ∧
  ∃ (n8 : Int), cellOf h10 (Addr.add ⟨h2.size, 0, none⟩ 2) = some (.int .i64 n8) ∧
  ∃ (q6 : Option Addr), cellOf h10 (Addr.add ⟨h1.size, 0, none⟩ 1) = some (.pointer q6) ∧
  ∃ (n9 : Int), cellOf h10 (Addr.add ⟨h2.size, 0, none⟩ 2) = some (.int .i64 n9) ∧
  ∃ (sA9 : Option Addr) (sL9 : Nat) (sC9 : Nat), cellOf h10 (Addr.add ⟨h2.size, 0, none⟩ 4) = some (.slice sA9 sL9 sC9) ∧
  C.adisk_Disk_Arm q5 [.int .i64 n8, .slice sA7 sL7 sC7] h10 fun r8 h11 =>
  ∃ (n10 : Int), r8 = .int .i64 n10 ∧
  (cellOf h11 (Addr.add ⟨h1.size, 0, none⟩ 1) = some (.pointer q6)) ∧
  (cellOf h11 (Addr.add ⟨h2.size, 0, none⟩ 2) = some (.int .i64 n9)) ∧
  (cellOf h11 (Addr.add ⟨h2.size, 0, none⟩ 4) = some (.slice sA9 sL9 sC9)) ∧
  C.boleref03_Disk_Arm q6 [.int .i64 n9, .slice sA9 sL9 sC9] h11 fun r9 h12 =>
  ∃ (n11 : Int), r9 = .int .i64 n11 ∧
  ∃ (sA10 : Option Addr) (sL10 : Nat) (sC10 : Nat), cellOf h12 (Addr.add ⟨h2.size, 0, none⟩ 4) = some (.slice sA10 sL10 sC10) ∧
  C.bolelaw03_unmarked sA8 sL8 sC8 sA10 sL10 sC10 h12 fun r10 h13 =>
  ∃ (b2 : Bool), r10 = .bool b2 ∧
  bif b2 then (
  K (.bool (n10 == n11)) h13) else (
  K (.bool false) h13)) else (
  bif (n1 == 5) then (
  ∃ (sA11 : Option Addr) (sL11 : Nat) (sC11 : Nat), cellOf h3 (Addr.add ⟨h2.size, 0, none⟩ 4) = some (.slice sA11 sL11 sC11) ∧
  C.bolelaw03_marks sA11 sL11 sC11 h3 fun r11 h14 =>
  ∃ (sA12 : Option Addr) (sL12 : Nat) (sC12 : Nat) (sA13 : Option Addr) (sL13 : Nat) (sC13 : Nat), r11 = .tuple #[.slice sA12 sL12 sC12, .slice sA13 sL13 sC13] ∧
  ∃ (q7 : Option Addr), cellOf h14 (Addr.add ⟨h1.size, 0, none⟩ 0) = some (.pointer q7) ∧
  C.adisk_Disk_Crash q7 sA12 sL12 sC12 h14 fun r12 h15 =>
  r12 = .tuple #[] ∧
  ∃ (q8 : Option Addr), cellOf h15 (Addr.add ⟨h1.size, 0, none⟩ 1) = some (.pointer q8) ∧
  ∃ (sA14 : Option Addr) (sL14 : Nat) (sC14 : Nat), cellOf h15 (Addr.add ⟨h2.size, 0, none⟩ 4) = some (.slice sA14 sL14 sC14) ∧
  C.boleref03_Disk_Crash q8 sA14 sL14 sC14 h15 fun r13 h16 =>
  r13 = .tuple #[] ∧
  ∃ (sA15 : Option Addr) (sL15 : Nat) (sC15 : Nat), cellOf h16 (Addr.add ⟨h2.size, 0, none⟩ 4) = some (.slice sA15 sL15 sC15) ∧
  C.bolelaw03_unmarked sA13 sL13 sC13 sA15 sL15 sC15 h16 fun r14 h17 =>
  ∃ (b3 : Bool), r14 = .bool b3 ∧
  K (.bool b3) h17) else (
  bif (n1 == 7) then (
  ∃ cs1 : List Value, List.length cs1 = 2 ∧ Cells h3 ⟨h1.size, 0, none⟩ cs1 ∧
  C.bolelaw03_Pair_asks cs1 h3 fun r15 h18 =>
  ∃ (b4 : Bool), r15 = .bool b4 ∧
  K (.bool b4) h18) else (
  ∃ cs2 : List Value, List.length cs2 = 2 ∧ Cells h3 ⟨h1.size, 0, none⟩ cs2 ∧
  ∃ cs3 : List Value, List.length cs3 = 5 ∧ Cells h3 ⟨h2.size, 0, none⟩ cs3 ∧
  C.bolelaw03_Pair_looks cs2 cs3 k1 h3 fun r16 h19 =>
  ∃ (b5 : Bool), r16 = .bool b5 ∧
  K (.bool b5) h19)))))
def bolelaw03_Pair_plays.lo : Nat → List Nat × List (Nat × Ty) := fun n => match n with | _ => ([], [])
def bolelaw03_Pair_plays.od : Nat → Od := fun n => match n with | 4 => (.op 0 [] (.op 1 [] (.op 2 [] (.op 3 [] (.op 4 [] (.op 6 [] (.op 7 [] (.op 8 [] (.op 9 [] (.op 10 [] (.op 11 [] (.op 5 [7, 9, 11] (.op 12 [] (.op 13 [] (.op 14 [] .nil))))))))))))))) | 7 => (.op 0 [] (.op 1 [] (.op 3 [] (.op 4 [] (.op 2 [4] (.op 5 [] (.op 6 [] (.op 7 [] .nil)))))))) | 10 => (.op 0 [] (.op 1 [] (.op 2 [] (.op 3 [] (.op 4 [] (.op 5 [] (.op 7 [] (.op 8 [] (.op 9 [] (.op 10 [] (.op 11 [] (.op 12 [] (.op 13 [] (.op 6 [8, 10, 12] (.op 14 [] (.op 15 [] (.op 16 [] .nil))))))))))))))))) | _ => .nil
theorem bolelaw03_Pair_plays.eq (p1 : List Value) (o1 : List Value) (k1 : Option Addr) (K : Value → Heap → Prop) (h : Heap) : fnX (cx bolelaw03_Pair_plays.lo bolelaw03_Pair_plays.od) Try.f37 (Try.f37.body.getD .skip) [.agg ⟨p1⟩, .agg ⟨o1⟩, .pointer k1] K h = bolelaw03_Pair_plays p1 o1 k1 K h := by kernel_rfl
theorem bolelaw03_Pair_plays.chk : fnOk (cx bolelaw03_Pair_plays.lo bolelaw03_Pair_plays.od) Try.f37 (Try.f37.body.getD .skip) 3 = true := by kernel_rfl
theorem bolelaw03_Pair_plays.ok {p1 : List Value} {o1 : List Value} {k1 : Option Addr} {K : Value → Heap → Prop} {h : Heap} (hx : bolelaw03_Pair_plays p1 o1 k1 K h) : C.bolelaw03_Pair_plays p1 o1 k1 h K :=
  fn_to (cxOk _ _) Try.func37 (by kernel_rfl) bolelaw03_Pair_plays.chk (by rw [bolelaw03_Pair_plays.eq]; exact hx)

-- 38
def bolelaw03_Pair_looks (p1 : List Value) (o1 : List Value) (k1 : Option Addr) (K : Value → Heap → Prop) (h1 : Heap) : Prop :=
  New p1 32 h1 fun h2 =>
  New o1 85 h2 fun h3 =>
  ∃ (n1 : Int), cellOf h3 (Addr.add ⟨h2.size, 0, none⟩ 0) = some (.int .i64 n1) ∧
  bif (n1 == 1) then (
  ∃ (q1 : Option Addr), cellOf h3 (Addr.add ⟨h1.size, 0, none⟩ 0) = some (.pointer q1) ∧
  ∃ (n2 : Int), cellOf h3 (Addr.add ⟨h2.size, 0, none⟩ 2) = some (.int .i64 n2) ∧
  C.adisk_Disk_Read q1 n2 h3 fun r1 h4 =>
  ∃ (sA1 : Option Addr) (sL1 : Nat) (sC1 : Nat) (n3 : Int), r1 = .tuple #[.slice sA1 sL1 sC1, .int .i64 n3] ∧
  ∃ (q2 : Option Addr), cellOf h4 (Addr.add ⟨h1.size, 0, none⟩ 0) = some (.pointer q2) ∧
  ∃ (n4 : Int), cellOf h4 (Addr.add ⟨h2.size, 0, none⟩ 2) = some (.int .i64 n4) ∧
  C.adisk_Disk_Read q2 n4 h4 fun r2 h5 =>
  ∃ (sA2 : Option Addr) (sL2 : Nat) (sC2 : Nat) (n5 : Int), r2 = .tuple #[.slice sA2 sL2 sC2, .int .i64 n5] ∧
  ∃ (q3 : Option Addr), cellOf h5 (Addr.add ⟨h1.size, 0, none⟩ 1) = some (.pointer q3) ∧
  ∃ (n6 : Int), cellOf h5 (Addr.add ⟨h2.size, 0, none⟩ 2) = some (.int .i64 n6) ∧
  C.boleref03_Disk_Read q3 n6 h5 fun r3 h6 =>
  ∃ (sA3 : Option Addr) (sL3 : Nat) (sC3 : Nat) (n7 : Int), r3 = .tuple #[.slice sA3 sL3 sC3, .int .i64 n7] ∧
  ∃ bs1 : List UInt8, StrAt h6 sA1 sL1 bs1 ∧
  ∃ bs2 : List UInt8, StrAt h6 sA3 sL3 bs2 ∧
  bif (!((mkStr bs1).toList == (mkStr bs2).toList)) then (
  K (.bool false) h6) else (
  ∃ bs3 : List UInt8, StrAt h6 sA2 sL2 bs3 ∧
  ∃ bs4 : List UInt8, StrAt h6 sA3 sL3 bs4 ∧
  bif (!((mkStr bs3).toList == (mkStr bs4).toList)) then (
  K (.bool false) h6) else (
  bif (n3 != n7) then (
  K (.bool false) h6) else (
  bif (n5 != n7) then (
  K (.bool false) h6) else (
  C.bolelaw03_Book_bytes k1 sA1 sL1 sC1 h6 fun r4 h7 =>
  r4 = .tuple #[] ∧
  C.bolelaw03_Book_bytes k1 sA2 sL2 sC2 h7 fun r5 h8 =>
  r5 = .tuple #[] ∧
  K (.bool true) h8))))) else (
  bif (n1 == 6) then (
  ∃ (q4 : Option Addr), cellOf h3 (Addr.add ⟨h1.size, 0, none⟩ 0) = some (.pointer q4) ∧
  C.adisk_Disk_Image q4 h3 fun r6 h9 =>
  ∃ (sA4 : Option Addr) (sL4 : Nat) (sC4 : Nat), r6 = .slice sA4 sL4 sC4 ∧
  ∃ (q5 : Option Addr), cellOf h9 (Addr.add ⟨h1.size, 0, none⟩ 0) = some (.pointer q5) ∧
  C.adisk_Disk_Image q5 h9 fun r7 h10 =>
  ∃ (sA5 : Option Addr) (sL5 : Nat) (sC5 : Nat), r7 = .slice sA5 sL5 sC5 ∧
  ∃ (q6 : Option Addr), cellOf h10 (Addr.add ⟨h1.size, 0, none⟩ 1) = some (.pointer q6) ∧
  C.boleref03_Disk_Image q6 h10 fun r8 h11 =>
  ∃ (sA6 : Option Addr) (sL6 : Nat) (sC6 : Nat), r8 = .slice sA6 sL6 sC6 ∧
  ∃ bs5 : List UInt8, StrAt h11 sA6 sL6 bs5 ∧
  ∃ bs6 : List UInt8, StrAt h11 sA4 sL4 bs6 ∧
  bif (!((mkStr bs6).toList == (mkStr bs5).toList)) then (
  K (.bool false) h11) else (
  ∃ bs7 : List UInt8, StrAt h11 sA5 sL5 bs7 ∧
  bif (!((mkStr bs7).toList == (mkStr bs5).toList)) then (
  K (.bool false) h11) else (
  C.bolelaw03_Book_bytes k1 sA4 sL4 sC4 h11 fun r9 h12 =>
  r9 = .tuple #[] ∧
  C.bolelaw03_Book_bytes k1 sA5 sL5 sC5 h12 fun r10 h13 =>
  r10 = .tuple #[] ∧
  K (.bool true) h13))) else (
  bif (n1 == 8) then (
  ∃ (q7 : Option Addr), cellOf h3 (Addr.add ⟨h1.size, 0, none⟩ 0) = some (.pointer q7) ∧
  C.adisk_Disk_Pending q7 h3 fun r11 h14 =>
  ∃ (sA7 : Option Addr) (sL7 : Nat) (sC7 : Nat), r11 = .slice sA7 sL7 sC7 ∧
  ∃ (q8 : Option Addr), cellOf h14 (Addr.add ⟨h1.size, 0, none⟩ 0) = some (.pointer q8) ∧
  C.adisk_Disk_Pending q8 h14 fun r12 h15 =>
  ∃ (sA8 : Option Addr) (sL8 : Nat) (sC8 : Nat), r12 = .slice sA8 sL8 sC8 ∧
  ∃ (q9 : Option Addr), cellOf h15 (Addr.add ⟨h1.size, 0, none⟩ 1) = some (.pointer q9) ∧
  C.boleref03_Disk_Pending q9 h15 fun r13 h16 =>
  ∃ (sA9 : Option Addr) (sL9 : Nat) (sC9 : Nat), r13 = .slice sA9 sL9 sC9 ∧
  C.bolelaw03_sameInts sA7 sL7 sC7 sA9 sL9 sC9 h16 fun r14 h17 =>
  ∃ (b1 : Bool), r14 = .bool b1 ∧
  bif (!b1) then (
  K (.bool false) h17) else (
  C.bolelaw03_sameInts sA8 sL8 sC8 sA9 sL9 sC9 h17 fun r15 h18 =>
  ∃ (b2 : Bool), r15 = .bool b2 ∧
  bif (!b2) then (
  K (.bool false) h18) else (
  C.bolelaw03_Book_ints k1 sA7 sL7 sC7 h18 fun r16 h19 =>
  r16 = .tuple #[] ∧
  C.bolelaw03_Book_ints k1 sA8 sL8 sC8 h19 fun r17 h20 =>
  r17 = .tuple #[] ∧
  K (.bool true) h20))) else (
  bif (n1 == 9) then (
  ∃ (q10 : Option Addr), cellOf h3 (Addr.add ⟨h1.size, 0, none⟩ 0) = some (.pointer q10) ∧
  ∃ (n8 : Int), cellOf h3 (Addr.add ⟨h2.size, 0, none⟩ 2) = some (.int .i64 n8) ∧
  C.adisk_Disk_Tape q10 n8 h3 fun r18 h21 =>
  ∃ (sA10 : Option Addr) (sL10 : Nat) (sC10 : Nat), r18 = .slice sA10 sL10 sC10 ∧
  ∃ (q11 : Option Addr), cellOf h21 (Addr.add ⟨h1.size, 0, none⟩ 0) = some (.pointer q11) ∧
  ∃ (n9 : Int), cellOf h21 (Addr.add ⟨h2.size, 0, none⟩ 2) = some (.int .i64 n9) ∧
  C.adisk_Disk_Tape q11 n9 h21 fun r19 h22 =>
  ∃ (sA11 : Option Addr) (sL11 : Nat) (sC11 : Nat), r19 = .slice sA11 sL11 sC11 ∧
  ∃ (q12 : Option Addr), cellOf h22 (Addr.add ⟨h1.size, 0, none⟩ 1) = some (.pointer q12) ∧
  ∃ (n10 : Int), cellOf h22 (Addr.add ⟨h2.size, 0, none⟩ 2) = some (.int .i64 n10) ∧
  C.boleref03_Disk_Tape q12 n10 h22 fun r20 h23 =>
  ∃ (sA12 : Option Addr) (sL12 : Nat) (sC12 : Nat), r20 = .slice sA12 sL12 sC12 ∧
  C.bolelaw03_sameActs sA10 sL10 sC10 sA12 sL12 sC12 h23 fun r21 h24 =>
  ∃ (b3 : Bool), r21 = .bool b3 ∧
  bif (!b3) then (
  K (.bool false) h24) else (
  C.bolelaw03_sameActs sA11 sL11 sC11 sA12 sL12 sC12 h24 fun r22 h25 =>
  ∃ (b4 : Bool), r22 = .bool b4 ∧
  bif (!b4) then (
  K (.bool false) h25) else (
  C.bolelaw03_Book_acts k1 sA10 sL10 sC10 h25 fun r23 h26 =>
  r23 = .tuple #[] ∧
  C.bolelaw03_Book_acts k1 sA11 sL11 sC11 h26 fun r24 h27 =>
  r24 = .tuple #[] ∧
  K (.bool true) h27))) else (
  K (.bool true) h3))))
def bolelaw03_Pair_looks.lo : Nat → List Nat × List (Nat × Ty) := fun n => match n with | _ => ([], [])
def bolelaw03_Pair_looks.od : Nat → Od := fun n => match n with | _ => .nil
theorem bolelaw03_Pair_looks.eq (p1 : List Value) (o1 : List Value) (k1 : Option Addr) (K : Value → Heap → Prop) (h : Heap) : fnX (cx bolelaw03_Pair_looks.lo bolelaw03_Pair_looks.od) Try.f38 (Try.f38.body.getD .skip) [.agg ⟨p1⟩, .agg ⟨o1⟩, .pointer k1] K h = bolelaw03_Pair_looks p1 o1 k1 K h := by kernel_rfl
theorem bolelaw03_Pair_looks.chk : fnOk (cx bolelaw03_Pair_looks.lo bolelaw03_Pair_looks.od) Try.f38 (Try.f38.body.getD .skip) 3 = true := by kernel_rfl
theorem bolelaw03_Pair_looks.ok {p1 : List Value} {o1 : List Value} {k1 : Option Addr} {K : Value → Heap → Prop} {h : Heap} (hx : bolelaw03_Pair_looks p1 o1 k1 K h) : C.bolelaw03_Pair_looks p1 o1 k1 h K :=
  fn_to (cxOk _ _) Try.func38 (by kernel_rfl) bolelaw03_Pair_looks.chk (by rw [bolelaw03_Pair_looks.eq]; exact hx)

-- 39
def bolelaw03_Book_holds (k1 : Option Addr) (K : Value → Heap → Prop) (h1 : Heap) : Prop :=
  onSome k1 fun p1 =>
  ∃ (sA1 : Option Addr) (sL1 : Nat) (sC1 : Nat), cellOf h1 (Addr.add p1 1) = some (.slice sA1 sL1 sC1) ∧
  ∃ (I1 : Int → Heap → Prop) (M1 : Int → Heap → Nat), I1 0 h1 ∧
  ∀ (n1 : Int), ∀ h2 : Heap, I1 n1 h2 →
  bif (decide (n1 < (sL1 : Int))) then (
  onSome k1 fun p2 =>
  ∃ (sA2 : Option Addr) (sL2 : Nat) (sC2 : Nat), cellOf h2 (Addr.add p2 1) = some (.slice sA2 sL2 sC2) ∧
  (0 ≤ n1 ∧ n1 < (sL2 : Int)) ∧
  onSome sA2 fun p3 =>
  ∃ (sA3 : Option Addr) (sL3 : Nat) (sC3 : Nat), cellOf h2 (Addr.add p3 (Int.toNat n1)) = some (.slice sA3 sL3 sC3) ∧
  onSome k1 fun p4 =>
  ∃ (sA4 : Option Addr) (sL4 : Nat) (sC4 : Nat), cellOf h2 (Addr.add p4 2) = some (.slice sA4 sL4 sC4) ∧
  (0 ≤ n1 ∧ n1 < (sL4 : Int)) ∧
  onSome sA4 fun p5 =>
  ∃ (sA5 : Option Addr) (sL5 : Nat) (sC5 : Nat), cellOf h2 (Addr.add p5 (Int.toNat n1)) = some (.slice sA5 sL5 sC5) ∧
  C.bolelaw03_sameInts sA3 sL3 sC3 sA5 sL5 sC5 h2 fun r1 h3 =>
  ∃ (b1 : Bool), r1 = .bool b1 ∧
  bif (!b1) then (
  K (.bool false) h3) else (
  I1 (IntKind.wrap .i64 (n1 + 1)) h3 ∧ M1 (IntKind.wrap .i64 (n1 + 1)) h3 < M1 n1 h2)) else (
  onSome k1 fun p6 =>
  ∃ (sA6 : Option Addr) (sL6 : Nat) (sC6 : Nat), cellOf h2 (Addr.add p6 3) = some (.slice sA6 sL6 sC6) ∧
  ∃ (I2 : Int → Heap → Prop) (M2 : Int → Heap → Nat), I2 0 h2 ∧
  ∀ (n2 : Int), ∀ h4 : Heap, I2 n2 h4 →
  bif (decide (n2 < (sL6 : Int))) then (
  onSome k1 fun p7 =>
  ∃ (sA7 : Option Addr) (sL7 : Nat) (sC7 : Nat), cellOf h4 (Addr.add p7 3) = some (.slice sA7 sL7 sC7) ∧
  (0 ≤ n2 ∧ n2 < (sL7 : Int)) ∧
  onSome sA7 fun p8 =>
  ∃ (sA8 : Option Addr) (sL8 : Nat) (sC8 : Nat), cellOf h4 (Addr.add p8 (Int.toNat n2)) = some (.slice sA8 sL8 sC8) ∧
  onSome k1 fun p9 =>
  ∃ (sA9 : Option Addr) (sL9 : Nat) (sC9 : Nat), cellOf h4 (Addr.add p9 4) = some (.slice sA9 sL9 sC9) ∧
  (0 ≤ n2 ∧ n2 < (sL9 : Int)) ∧
  onSome sA9 fun p10 =>
  ∃ (sA10 : Option Addr) (sL10 : Nat) (sC10 : Nat), cellOf h4 (Addr.add p10 (Int.toNat n2)) = some (.slice sA10 sL10 sC10) ∧
  C.bolelaw03_sameKinds sA8 sL8 sC8 sA10 sL10 sC10 h4 fun r2 h5 =>
  ∃ (b2 : Bool), r2 = .bool b2 ∧
  bif (!b2) then (
  K (.bool false) h5) else (
  I2 (IntKind.wrap .i64 (n2 + 1)) h5 ∧ M2 (IntKind.wrap .i64 (n2 + 1)) h5 < M2 n2 h4)) else (
  onSome k1 fun p11 =>
  ∃ (sA11 : Option Addr) (sL11 : Nat) (sC11 : Nat), cellOf h4 (Addr.add p11 0) = some (.slice sA11 sL11 sC11) ∧
  ∃ (I3 : Option Addr → Nat → Nat → Int → Heap → Prop) (M3 : Option Addr → Nat → Nat → Int → Heap → Nat), I3 none 0 0 0 h4 ∧
  ∀ (lA1 : Option Addr) (lL1 : Nat) (lC1 : Nat) (n3 : Int), ∀ h6 : Heap, I3 lA1 lL1 lC1 n3 h6 →
  bif (decide (n3 < (sL11 : Int))) then (
  (0 ≤ n3 ∧ n3 < (sL11 : Int)) ∧
  onSome sA11 fun p12 =>
  ∃ cs1 : List Value, List.length cs1 = 5 ∧ Cells h6 (Addr.add p12 ((Int.toNat n3) * 5)) cs1 ∧
  NewRow z117 117 cs1 5 h6 fun h8 =>
  ∃ (b3 : Bool), cellOf h8 (Addr.add ⟨h6.size, 0, none⟩ 4) = some (.bool b3) ∧
  bif b3 then (
  ∃ (sA12 : Option Addr) (sL12 : Nat) (sC12 : Nat), cellOf h8 (Addr.add ⟨h6.size, 0, none⟩ 0) = some (.slice sA12 sL12 sC12) ∧
  ∃ bs1 : List UInt8, StrAt h8 sA12 sL12 bs1 ∧
  ∃ (s1 : ByteArray), cellOf h8 (Addr.add ⟨h6.size, 0, none⟩ 3) = some (.string s1) ∧
  bif (!((mkStr bs1).toList == s1.toList)) then (
  K (.bool false) h8) else (
  ∃ cs2 : List Value, List.length cs2 = 5 ∧ Cells h8 ⟨h6.size, 0, none⟩ cs2 ∧
  C.bolelaw03_Held_grown cs2 h8 fun r3 h9 =>
  ∃ (cs3 : List Value), r3 = .agg ⟨cs3⟩ ∧
  PutRow ⟨h6.size, 0, none⟩ cs3 5 h9 fun h10 =>
  ∃ cs4 : List Value, List.length cs4 = 5 ∧ Cells h10 ⟨h6.size, 0, none⟩ cs4 ∧
  List.length (cs4 : List Value) = 5 ∧
  New cs4 117 h10 fun h11 =>
  ∃ new1 : List Value, List.length new1 = 1 * 5 ∧ SlCells h11 (some ⟨h10.size, 0, none⟩) new1 ∧ (∀ v ∈ new1, v.oneCell' = true) ∧
  AppendP ti117 117 lA1 lL1 lC1 1 new1 h11 fun sA13 sL13 sC13 h12 =>
  I3 sA13 sL13 sC13 (IntKind.wrap .i64 (n3 + 1)) h12 ∧ M3 sA13 sL13 sC13 (IntKind.wrap .i64 (n3 + 1)) h12 < M3 lA1 lL1 lC1 n3 h6)) else (
  ∃ cs5 : List Value, List.length cs5 = 5 ∧ Cells h8 ⟨h6.size, 0, none⟩ cs5 ∧
  List.length (cs5 : List Value) = 5 ∧
  New cs5 117 h8 fun h13 =>
  ∃ new2 : List Value, List.length new2 = 1 * 5 ∧ SlCells h13 (some ⟨h8.size, 0, none⟩) new2 ∧ (∀ v ∈ new2, v.oneCell' = true) ∧
  AppendP ti117 117 lA1 lL1 lC1 1 new2 h13 fun sA14 sL14 sC14 h14 =>
  I3 sA14 sL14 sC14 (IntKind.wrap .i64 (n3 + 1)) h14 ∧ M3 sA14 sL14 sC14 (IntKind.wrap .i64 (n3 + 1)) h14 < M3 lA1 lL1 lC1 n3 h6)) else (
  onSome k1 fun p13 =>
  ∃ (sA15 : Option Addr) (sL15 : Nat) (sC15 : Nat), cellOf h6 (Addr.add p13 1) = some (.slice sA15 sL15 sC15) ∧
  ∃ (I4 : Int → Heap → Prop) (M4 : Int → Heap → Nat), I4 0 h6 ∧
  ∀ (n4 : Int), ∀ h15 : Heap, I4 n4 h15 →
  bif (decide (n4 < (sL15 : Int))) then (
  onSome k1 fun p14 =>
  ∃ (sA16 : Option Addr) (sL16 : Nat) (sC16 : Nat), cellOf h15 (Addr.add p14 1) = some (.slice sA16 sL16 sC16) ∧
  (0 ≤ n4 ∧ n4 < (sL16 : Int)) ∧
  onSome sA16 fun p15 =>
  ∃ (sA17 : Option Addr) (sL17 : Nat) (sC17 : Nat), cellOf h15 (Addr.add p15 (Int.toNat n4)) = some (.slice sA17 sL17 sC17) ∧
  ∃ (I5 : Int → Heap → Prop) (M5 : Int → Heap → Nat), I5 0 h15 ∧
  ∀ (n5 : Int), ∀ h16 : Heap, I5 n5 h16 →
  bif (decide (n5 < (sL17 : Int))) then (
  onSome k1 fun p16 =>
  ∃ (sA18 : Option Addr) (sL18 : Nat) (sC18 : Nat), cellOf h16 (Addr.add p16 1) = some (.slice sA18 sL18 sC18) ∧
  (0 ≤ n4 ∧ n4 < (sL18 : Int)) ∧
  onSome sA18 fun p17 =>
  ∃ (sA19 : Option Addr) (sL19 : Nat) (sC19 : Nat), cellOf h16 (Addr.add p17 (Int.toNat n4)) = some (.slice sA19 sL19 sC19) ∧
  (0 ≤ n5 ∧ n5 < (sL19 : Int)) ∧
  onSome sA19 fun p18 =>
  Put (Addr.add p18 (Int.toNat n5)) (.int .i64 (IntKind.wrap .i64 ((-1000) - n4))) h16 fun h17 =>
  I5 (IntKind.wrap .i64 (n5 + 1)) h17 ∧ M5 (IntKind.wrap .i64 (n5 + 1)) h17 < M5 n5 h16) else (
  onSome k1 fun p19 =>
  ∃ (sA20 : Option Addr) (sL20 : Nat) (sC20 : Nat), cellOf h16 (Addr.add p19 1) = some (.slice sA20 sL20 sC20) ∧
  onSome k1 fun p20 =>
  ∃ (sA21 : Option Addr) (sL21 : Nat) (sC21 : Nat), cellOf h16 (Addr.add p20 1) = some (.slice sA21 sL21 sC21) ∧
  (0 ≤ n4 ∧ n4 < (sL21 : Int)) ∧
  onSome sA21 fun p21 =>
  ∃ (sA22 : Option Addr) (sL22 : Nat) (sC22 : Nat), cellOf h16 (Addr.add p21 (Int.toNat n4)) = some (.slice sA22 sL22 sC22) ∧
  New [.int .i64 (IntKind.wrap .i64 ((-1000) - n4))] 3 h16 fun h18 =>
  (cellOf h18 (Addr.add p19 1) = some (.slice sA20 sL20 sC20)) ∧
  (cellOf h18 (Addr.add p20 1) = some (.slice sA21 sL21 sC21)) ∧
  (cellOf h18 (Addr.add p21 (Int.toNat n4)) = some (.slice sA22 sL22 sC22)) ∧
  ∃ new3 : List Value, List.length new3 = 1 * 1 ∧ SlCells h18 (some ⟨h16.size, 0, none⟩) new3 ∧ (∀ v ∈ new3, v.oneCell' = true) ∧
  AppendP ti3 3 sA22 sL22 sC22 1 new3 h18 fun sA23 sL23 sC23 h19 =>
  (cellOf h19 (Addr.add p19 1) = some (.slice sA20 sL20 sC20)) ∧
  (0 ≤ n4 ∧ n4 < (sL20 : Int)) ∧
  onSome sA20 fun p22 =>
  Put (Addr.add p22 (Int.toNat n4)) (.slice sA23 sL23 sC23) h19 fun h20 =>
  I4 (IntKind.wrap .i64 (n4 + 1)) h20 ∧ M4 (IntKind.wrap .i64 (n4 + 1)) h20 < M4 n4 h15)) else (
  onSome k1 fun p23 =>
  ∃ (sA24 : Option Addr) (sL24 : Nat) (sC24 : Nat), cellOf h15 (Addr.add p23 3) = some (.slice sA24 sL24 sC24) ∧
  ∃ (I6 : Int → Heap → Prop) (M6 : Int → Heap → Nat), I6 0 h15 ∧
  ∀ (n6 : Int), ∀ h21 : Heap, I6 n6 h21 →
  bif (decide (n6 < (sL24 : Int))) then (
  onSome k1 fun p24 =>
  ∃ (sA25 : Option Addr) (sL25 : Nat) (sC25 : Nat), cellOf h21 (Addr.add p24 3) = some (.slice sA25 sL25 sC25) ∧
  (0 ≤ n6 ∧ n6 < (sL25 : Int)) ∧
  onSome sA25 fun p25 =>
  ∃ (sA26 : Option Addr) (sL26 : Nat) (sC26 : Nat), cellOf h21 (Addr.add p25 (Int.toNat n6)) = some (.slice sA26 sL26 sC26) ∧
  ∃ (I7 : Int → Heap → Prop) (M7 : Int → Heap → Nat), I7 0 h21 ∧
  ∀ (n7 : Int), ∀ h22 : Heap, I7 n7 h22 →
  bif (decide (n7 < (sL26 : Int))) then (
  onSome k1 fun p26 =>
  ∃ (sA27 : Option Addr) (sL27 : Nat) (sC27 : Nat), cellOf h22 (Addr.add p26 3) = some (.slice sA27 sL27 sC27) ∧
  (0 ≤ n6 ∧ n6 < (sL27 : Int)) ∧
  onSome sA27 fun p27 =>
  ∃ (sA28 : Option Addr) (sL28 : Nat) (sC28 : Nat), cellOf h22 (Addr.add p27 (Int.toNat n6)) = some (.slice sA28 sL28 sC28) ∧
  (0 ≤ n7 ∧ n7 < (sL28 : Int)) ∧
  onSome sA28 fun p28 =>
  PutRow (Addr.add p28 ((Int.toNat n7) * 3)) [.int .i64 (IntKind.wrap .i64 ((-1000) - n6)), .int .i64 0, .slice none 0 0] 3 h22 fun h23 =>
  I7 (IntKind.wrap .i64 (n7 + 1)) h23 ∧ M7 (IntKind.wrap .i64 (n7 + 1)) h23 < M7 n7 h22) else (
  onSome k1 fun p29 =>
  ∃ (sA29 : Option Addr) (sL29 : Nat) (sC29 : Nat), cellOf h22 (Addr.add p29 3) = some (.slice sA29 sL29 sC29) ∧
  onSome k1 fun p30 =>
  ∃ (sA30 : Option Addr) (sL30 : Nat) (sC30 : Nat), cellOf h22 (Addr.add p30 3) = some (.slice sA30 sL30 sC30) ∧
  (0 ≤ n6 ∧ n6 < (sL30 : Int)) ∧
  onSome sA30 fun p31 =>
  ∃ (sA31 : Option Addr) (sL31 : Nat) (sC31 : Nat), cellOf h22 (Addr.add p31 (Int.toNat n6)) = some (.slice sA31 sL31 sC31) ∧
  List.length ([.int .i64 (IntKind.wrap .i64 ((-1000) - n6)), .int .i64 0, .slice none 0 0] : List Value) = 3 ∧
  New [.int .i64 (IntKind.wrap .i64 ((-1000) - n6)), .int .i64 0, .slice none 0 0] 70 h22 fun h24 =>
  (cellOf h24 (Addr.add p29 3) = some (.slice sA29 sL29 sC29)) ∧
  (cellOf h24 (Addr.add p30 3) = some (.slice sA30 sL30 sC30)) ∧
  (cellOf h24 (Addr.add p31 (Int.toNat n6)) = some (.slice sA31 sL31 sC31)) ∧
  ∃ new4 : List Value, List.length new4 = 1 * 3 ∧ SlCells h24 (some ⟨h22.size, 0, none⟩) new4 ∧ (∀ v ∈ new4, v.oneCell' = true) ∧
  AppendP ti70 70 sA31 sL31 sC31 1 new4 h24 fun sA32 sL32 sC32 h25 =>
  (cellOf h25 (Addr.add p29 3) = some (.slice sA29 sL29 sC29)) ∧
  (0 ≤ n6 ∧ n6 < (sL29 : Int)) ∧
  onSome sA29 fun p32 =>
  Put (Addr.add p32 (Int.toNat n6)) (.slice sA32 sL32 sC32) h25 fun h26 =>
  I6 (IntKind.wrap .i64 (n6 + 1)) h26 ∧ M6 (IntKind.wrap .i64 (n6 + 1)) h26 < M6 n6 h21)) else (
  ∃ (I8 : Int → Heap → Prop) (M8 : Int → Heap → Nat), I8 0 h21 ∧
  ∀ (n8 : Int), ∀ h27 : Heap, I8 n8 h27 →
  bif (decide (n8 < (lL1 : Int))) then (
  (0 ≤ n8 ∧ n8 < (lL1 : Int)) ∧
  onSome lA1 fun p33 =>
  ∃ cs6 : List Value, List.length cs6 = 5 ∧ Cells h27 (Addr.add p33 ((Int.toNat n8) * 5)) cs6 ∧
  NewRow z117 117 cs6 5 h27 fun h29 =>
  ∃ (sA33 : Option Addr) (sL33 : Nat) (sC33 : Nat), cellOf h29 (Addr.add ⟨h27.size, 0, none⟩ 0) = some (.slice sA33 sL33 sC33) ∧
  ∃ (I9 : Int → Heap → Prop) (M9 : Int → Heap → Nat), I9 0 h29 ∧
  ∀ (n9 : Int), ∀ h30 : Heap, I9 n9 h30 →
  bif (decide (n9 < (sL33 : Int))) then (
  (0 ≤ n9 ∧ n9 < (sL33 : Int)) ∧
  onSome sA33 fun p34 =>
  ∃ (n10 : Int), cellOf h30 (Addr.add p34 (Int.toNat n9)) = some (.int .u8 n10) ∧
  ∃ (n11 : Int), cellOf h30 (Addr.add ⟨h27.size, 0, none⟩ 2) = some (.int .u8 n11) ∧
  bif (n10 != n11) then (
  K (.bool false) h30) else (
  I9 (IntKind.wrap .i64 (n9 + 1)) h30 ∧ M9 (IntKind.wrap .i64 (n9 + 1)) h30 < M9 n9 h30)) else (
  ∃ (sA34 : Option Addr) (sL34 : Nat) (sC34 : Nat), cellOf h30 (Addr.add ⟨h27.size, 0, none⟩ 0) = some (.slice sA34 sL34 sC34) ∧
  ∃ (n12 : Int), cellOf h30 (Addr.add ⟨h27.size, 0, none⟩ 1) = some (.int .i64 n12) ∧
  bif ((sL34 : Int) != (IntKind.wrap .i64 (n12 + 3))) then (
  K (.bool false) h30) else (
  I8 (IntKind.wrap .i64 (n8 + 1)) h30 ∧ M8 (IntKind.wrap .i64 (n8 + 1)) h30 < M8 n8 h27))) else (
  onSome k1 fun p35 =>
  ∃ (sA35 : Option Addr) (sL35 : Nat) (sC35 : Nat), cellOf h27 (Addr.add p35 1) = some (.slice sA35 sL35 sC35) ∧
  ∃ (I10 : Int → Heap → Prop) (M10 : Int → Heap → Nat), I10 0 h27 ∧
  ∀ (n13 : Int), ∀ h31 : Heap, I10 n13 h31 →
  bif (decide (n13 < (sL35 : Int))) then (
  onSome k1 fun p36 =>
  ∃ (sA36 : Option Addr) (sL36 : Nat) (sC36 : Nat), cellOf h31 (Addr.add p36 1) = some (.slice sA36 sL36 sC36) ∧
  (0 ≤ n13 ∧ n13 < (sL36 : Int)) ∧
  onSome sA36 fun p37 =>
  ∃ (sA37 : Option Addr) (sL37 : Nat) (sC37 : Nat), cellOf h31 (Addr.add p37 (Int.toNat n13)) = some (.slice sA37 sL37 sC37) ∧
  ∃ (I11 : Int → Heap → Prop) (M11 : Int → Heap → Nat), I11 0 h31 ∧
  ∀ (n14 : Int), ∀ h32 : Heap, I11 n14 h32 →
  bif (decide (n14 < (sL37 : Int))) then (
  (0 ≤ n14 ∧ n14 < (sL37 : Int)) ∧
  onSome sA37 fun p38 =>
  ∃ (n15 : Int), cellOf h32 (Addr.add p38 (Int.toNat n14)) = some (.int .i64 n15) ∧
  bif (n15 != (IntKind.wrap .i64 ((-1000) - n13))) then (
  K (.bool false) h32) else (
  I11 (IntKind.wrap .i64 (n14 + 1)) h32 ∧ M11 (IntKind.wrap .i64 (n14 + 1)) h32 < M11 n14 h32)) else (
  I10 (IntKind.wrap .i64 (n13 + 1)) h32 ∧ M10 (IntKind.wrap .i64 (n13 + 1)) h32 < M10 n13 h31)) else (
  onSome k1 fun p39 =>
  ∃ (sA38 : Option Addr) (sL38 : Nat) (sC38 : Nat), cellOf h31 (Addr.add p39 3) = some (.slice sA38 sL38 sC38) ∧
  ∃ (I12 : Int → Heap → Prop) (M12 : Int → Heap → Nat), I12 0 h31 ∧
  ∀ (n16 : Int), ∀ h33 : Heap, I12 n16 h33 →
  bif (decide (n16 < (sL38 : Int))) then (
  onSome k1 fun p40 =>
  ∃ (sA39 : Option Addr) (sL39 : Nat) (sC39 : Nat), cellOf h33 (Addr.add p40 3) = some (.slice sA39 sL39 sC39) ∧
  (0 ≤ n16 ∧ n16 < (sL39 : Int)) ∧
  onSome sA39 fun p41 =>
  ∃ (sA40 : Option Addr) (sL40 : Nat) (sC40 : Nat), cellOf h33 (Addr.add p41 (Int.toNat n16)) = some (.slice sA40 sL40 sC40) ∧
  ∃ (I13 : Int → Heap → Prop) (M13 : Int → Heap → Nat), I13 0 h33 ∧
  ∀ (n17 : Int), ∀ h34 : Heap, I13 n17 h34 →
  bif (decide (n17 < (sL40 : Int))) then (
  (0 ≤ n17 ∧ n17 < (sL40 : Int)) ∧
  onSome sA40 fun p42 =>
  ∃ cs7 : List Value, List.length cs7 = 3 ∧ Cells h34 (Addr.add p42 ((Int.toNat n17) * 3)) cs7 ∧
  NewRow z70 70 cs7 3 h34 fun h36 =>
  ∃ (n18 : Int), cellOf h36 (Addr.add ⟨h34.size, 0, none⟩ 0) = some (.int .i64 n18) ∧
  bif (n18 != (IntKind.wrap .i64 ((-1000) - n16))) then (
  K (.bool false) h36) else (
  I13 (IntKind.wrap .i64 (n17 + 1)) h36 ∧ M13 (IntKind.wrap .i64 (n17 + 1)) h36 < M13 n17 h34)) else (
  I12 (IntKind.wrap .i64 (n16 + 1)) h34 ∧ M12 (IntKind.wrap .i64 (n16 + 1)) h34 < M12 n16 h33)) else (
  K (.bool true) h33))))))))
def bolelaw03_Book_holds.lo : Nat → List Nat × List (Nat × Ty) := fun n => match n with | 2 => ([0, 26], [(27, .int .i64)]) | 8 => ([0, 51], [(52, .int .i64)]) | 15 => ([0, 75, 76], [(5, .slice), (77, .int .i64)]) | 24 => ([0, 5, 100], [(101, .int .i64)]) | 27 => ([0, 5, 8, 100, 101, 111], [(112, .int .i64)]) | 34 => ([0, 5, 149], [(150, .int .i64)]) | 37 => ([0, 5, 10, 149, 150, 160], [(161, .int .i64)]) | 44 => ([0, 196, 197], [(198, .int .i64)]) | 47 => ([0, 13, 196, 197, 198, 203, 204], [(205, .int .i64)]) | 56 => ([0, 226], [(227, .int .i64)]) | 59 => ([0, 16, 226, 227, 236, 237], [(238, .int .i64)]) | 66 => ([0, 252], [(253, .int .i64)]) | 69 => ([0, 19, 252, 253, 262, 263], [(264, .int .i64)]) | _ => ([], [])
set_option maxRecDepth 100000 in
def bolelaw03_Book_holds.od : Nat → Od := fun n => match n with | 4 => (.op 0 [] (.op 1 [] (.op 2 [] (.op 3 [] (.op 4 [] (.op 5 [] (.op 6 [] (.op 7 [] (.op 8 [] (.op 9 [] (.op 10 [] (.op 11 [] (.op 12 [] (.op 13 [] (.op 14 [] (.op 15 [] .nil)))))))))))))))) | 10 => (.op 0 [] (.op 1 [] (.op 2 [] (.op 3 [] (.op 4 [] (.op 5 [] (.op 6 [] (.op 7 [] (.op 8 [] (.op 9 [] (.op 10 [] (.op 11 [] (.op 12 [] (.op 13 [] (.op 14 [] (.op 15 [] .nil)))))))))))))))) | 31 => (.op 0 [] (.op 1 [] (.op 2 [] (.op 3 [] (.op 4 [] (.op 5 [] (.op 6 [] (.op 7 [] (.op 8 [] (.op 9 [] (.op 10 [] (.op 11 [] (.op 12 [] (.op 13 [] (.op 14 [3, 8, 11] (.op 15 [3] (.op 16 [] (.op 17 [] .nil)))))))))))))))))) | 41 => (.op 0 [] (.op 1 [] (.op 2 [] (.op 3 [] (.op 4 [] (.op 5 [] (.op 6 [] (.op 7 [] (.op 8 [] (.op 9 [] (.op 10 [] (.op 11 [] (.op 12 [] (.op 13 [] (.op 14 [] (.op 15 [3, 8, 11] (.op 16 [3] (.op 17 [] (.op 18 [] .nil))))))))))))))))))) | _ => .nil
set_option maxRecDepth 100000 in
theorem bolelaw03_Book_holds.eq (k1 : Option Addr) (K : Value → Heap → Prop) (h : Heap) : fnX (cx bolelaw03_Book_holds.lo bolelaw03_Book_holds.od) Try.f39 (Try.f39.body.getD .skip) [.pointer k1] K h = bolelaw03_Book_holds k1 K h := by kernel_rfl
theorem bolelaw03_Book_holds.chk : fnOk (cx bolelaw03_Book_holds.lo bolelaw03_Book_holds.od) Try.f39 (Try.f39.body.getD .skip) 1 = true := by kernel_rfl
set_option maxRecDepth 100000 in
theorem bolelaw03_Book_holds.ok {k1 : Option Addr} {K : Value → Heap → Prop} {h : Heap} (hx : bolelaw03_Book_holds k1 K h) : C.bolelaw03_Book_holds k1 h K :=
  fn_to (cxOk _ _) Try.func39 (by kernel_rfl) bolelaw03_Book_holds.chk (by rw [bolelaw03_Book_holds.eq]; exact hx)

-- 40
def bolelaw03_act (p1 : List Value) (count1 : Int) (K : Value → Heap → Prop) (h1 : Heap) : Prop :=
  New p1 42 h1 fun h2 =>
  New z70 70 h2 fun h3 =>
  ∃ (b1 : Bool), cellOf h3 (Addr.add ⟨h1.size, 0, none⟩ 2) = some (.bool b1) ∧
  bif b1 then (
  ∃ (n1 : Int), cellOf h3 (Addr.add ⟨h1.size, 0, none⟩ 0) = some (.int .i64 n1) ∧
  PutRow ⟨h2.size, 0, none⟩ [.int .i64 2, .int .i64 n1, .slice none 0 0] 3 h3 fun h4 =>
  ∃ res1 : List Value, List.length res1 = 3 ∧ Cells h4 ⟨h2.size, 0, none⟩ res1 ∧
  K (.agg ⟨res1⟩) h4) else (
  ∃ (n2 : Int), cellOf h3 (Addr.add ⟨h1.size, 0, none⟩ 0) = some (.int .i64 n2) ∧
  ∃ (n3 : Int), cellOf h3 (Addr.add ⟨h1.size, 0, none⟩ 1) = some (.int .u8 n3) ∧
  C.bolelaw03_mod n2 count1 h3 fun r1 h5 =>
  ∃ (n4 : Int), r1 = .int .i64 n4 ∧
  (cellOf h5 (Addr.add ⟨h1.size, 0, none⟩ 1) = some (.int .u8 n3)) ∧
  C.bolelaw03_block n3 h5 fun r2 h6 =>
  ∃ (sA1 : Option Addr) (sL1 : Nat) (sC1 : Nat), r2 = .slice sA1 sL1 sC1 ∧
  PutRow ⟨h2.size, 0, none⟩ [.int .i64 1, .int .i64 n4, .slice sA1 sL1 sC1] 3 h6 fun h7 =>
  ∃ res2 : List Value, List.length res2 = 3 ∧ Cells h7 ⟨h2.size, 0, none⟩ res2 ∧
  K (.agg ⟨res2⟩) h7)
def bolelaw03_act.lo : Nat → List Nat × List (Nat × Ty) := fun n => match n with | _ => ([], [])
def bolelaw03_act.od : Nat → Od := fun n => match n with | 3 => (.op 0 [] (.op 1 [] (.op 2 [] (.op 4 [] (.op 5 [] (.op 3 [5] (.op 6 [] (.op 7 [] (.op 8 [] .nil))))))))) | _ => .nil
theorem bolelaw03_act.eq (p1 : List Value) (count1 : Int) (K : Value → Heap → Prop) (h : Heap) : fnX (cx bolelaw03_act.lo bolelaw03_act.od) Try.f40 (Try.f40.body.getD .skip) [.agg ⟨p1⟩, .int .i64 count1] K h = bolelaw03_act p1 count1 K h := by kernel_rfl
theorem bolelaw03_act.chk : fnOk (cx bolelaw03_act.lo bolelaw03_act.od) Try.f40 (Try.f40.body.getD .skip) 2 = true := by kernel_rfl
theorem bolelaw03_act.ok {p1 : List Value} {count1 : Int} {K : Value → Heap → Prop} {h : Heap} (hx : bolelaw03_act p1 count1 K h) : C.bolelaw03_act p1 count1 h K :=
  fn_to (cxOk _ _) Try.func40 (by kernel_rfl) bolelaw03_act.chk (by rw [bolelaw03_act.eq]; exact hx)

-- 41
def adisk_Disk_Tape (d1 : Option Addr) (from1 : Int) (K : Value → Heap → Prop) (h1 : Heap) : Prop :=
  ∃ (I1 : Option Addr → Nat → Nat → Int → Heap → Prop) (M1 : Option Addr → Nat → Nat → Int → Heap → Nat), I1 none 0 0 (if (0 : Int) > from1 then 0 else from1) h1 ∧
  ∀ (lA1 : Option Addr) (lL1 : Nat) (lC1 : Nat) (k1 : Int), ∀ h2 : Heap, I1 lA1 lL1 lC1 k1 h2 →
  onSome d1 fun p1 =>
  ∃ (sA1 : Option Addr) (sL1 : Nat) (sC1 : Nat), cellOf h2 (Addr.add p1 7) = some (.slice sA1 sL1 sC1) ∧
  bif (decide (k1 < (sL1 : Int))) then (
  onSome d1 fun p2 =>
  ∃ (sA2 : Option Addr) (sL2 : Nat) (sC2 : Nat), cellOf h2 (Addr.add p2 7) = some (.slice sA2 sL2 sC2) ∧
  (0 ≤ k1 ∧ k1 < (sL2 : Int)) ∧
  onSome sA2 fun p3 =>
  ∃ cs1 : List Value, List.length cs1 = 3 ∧ Cells h2 (Addr.add p3 ((Int.toNat k1) * 3)) cs1 ∧
  NewRow z70 70 cs1 3 h2 fun h4 =>
  ∃ (sA3 : Option Addr) (sL3 : Nat) (sC3 : Nat), cellOf h4 (Addr.add ⟨h2.size, 0, none⟩ 2) = some (.slice sA3 sL3 sC3) ∧
  C.slices_Clone_byte_byte sA3 sL3 sC3 h4 fun r1 h5 =>
  ∃ (sA4 : Option Addr) (sL4 : Nat) (sC4 : Nat), r1 = .slice sA4 sL4 sC4 ∧
  Put (Addr.add ⟨h2.size, 0, none⟩ 2) (.slice sA4 sL4 sC4) h5 fun h6 =>
  ∃ cs2 : List Value, List.length cs2 = 3 ∧ Cells h6 ⟨h2.size, 0, none⟩ cs2 ∧
  List.length (cs2 : List Value) = 3 ∧
  New cs2 70 h6 fun h7 =>
  ∃ new1 : List Value, List.length new1 = 1 * 3 ∧ SlCells h7 (some ⟨h6.size, 0, none⟩) new1 ∧ (∀ v ∈ new1, v.oneCell' = true) ∧
  AppendP ti70 70 lA1 lL1 lC1 1 new1 h7 fun sA5 sL5 sC5 h8 =>
  I1 sA5 sL5 sC5 (IntKind.wrap .i64 (k1 + 1)) h8 ∧ M1 sA5 sL5 sC5 (IntKind.wrap .i64 (k1 + 1)) h8 < M1 lA1 lL1 lC1 k1 h2) else (
  K (.slice lA1 lL1 lC1) h2)
def adisk_Disk_Tape.lo : Nat → List Nat × List (Nat × Ty) := fun n => match n with | 3 => ([0], [(5, .slice), (6, .int .i64)]) | _ => ([], [])
def adisk_Disk_Tape.od : Nat → Od := fun n => match n with | _ => .nil
theorem adisk_Disk_Tape.eq (d1 : Option Addr) (from1 : Int) (K : Value → Heap → Prop) (h : Heap) : fnX (cx adisk_Disk_Tape.lo adisk_Disk_Tape.od) Try.f41 (Try.f41.body.getD .skip) [.pointer d1, .int .i64 from1] K h = adisk_Disk_Tape d1 from1 K h := by kernel_rfl
theorem adisk_Disk_Tape.chk : fnOk (cx adisk_Disk_Tape.lo adisk_Disk_Tape.od) Try.f41 (Try.f41.body.getD .skip) 2 = true := by kernel_rfl
theorem adisk_Disk_Tape.ok {d1 : Option Addr} {from1 : Int} {K : Value → Heap → Prop} {h : Heap} (hx : adisk_Disk_Tape d1 from1 K h) : C.adisk_Disk_Tape d1 from1 h K :=
  fn_to (cxOk _ _) Try.func41 (by kernel_rfl) adisk_Disk_Tape.chk (by rw [adisk_Disk_Tape.eq]; exact hx)

-- 42
def bolelaw03_sameActs (aA1 : Option Addr) (aL1 : Nat) (aC1 : Nat) (bA1 : Option Addr) (bL1 : Nat) (bC1 : Nat) (K : Value → Heap → Prop) (h1 : Heap) : Prop :=
  C.bolelaw03_sameKinds aA1 aL1 aC1 bA1 bL1 bC1 h1 fun r1 h2 =>
  ∃ (b1 : Bool), r1 = .bool b1 ∧
  bif (!b1) then (
  K (.bool false) h2) else (
  ∃ (I1 : Int → Heap → Prop) (M1 : Int → Heap → Nat), I1 0 h2 ∧
  ∀ (n1 : Int), ∀ h3 : Heap, I1 n1 h3 →
  bif (decide (n1 < (aL1 : Int))) then (
  (0 ≤ n1 ∧ n1 < (aL1 : Int)) ∧
  onSome aA1 fun p1 =>
  ∃ (sA1 : Option Addr) (sL1 : Nat) (sC1 : Nat), cellOf h3 (Addr.add (Addr.add p1 ((Int.toNat n1) * 3)) 2) = some (.slice sA1 sL1 sC1) ∧
  ∃ bs1 : List UInt8, StrAt h3 sA1 sL1 bs1 ∧
  (0 ≤ n1 ∧ n1 < (bL1 : Int)) ∧
  onSome bA1 fun p2 =>
  ∃ (sA2 : Option Addr) (sL2 : Nat) (sC2 : Nat), cellOf h3 (Addr.add (Addr.add p2 ((Int.toNat n1) * 3)) 2) = some (.slice sA2 sL2 sC2) ∧
  ∃ bs2 : List UInt8, StrAt h3 sA2 sL2 bs2 ∧
  bif (!((mkStr bs1).toList == (mkStr bs2).toList)) then (
  K (.bool false) h3) else (
  I1 (IntKind.wrap .i64 (n1 + 1)) h3 ∧ M1 (IntKind.wrap .i64 (n1 + 1)) h3 < M1 n1 h3)) else (
  K (.bool true) h3))
def bolelaw03_sameActs.lo : Nat → List Nat × List (Nat × Ty) := fun n => match n with | 4 => ([0, 1, 11], [(12, .int .i64)]) | _ => ([], [])
def bolelaw03_sameActs.od : Nat → Od := fun n => match n with | 6 => (.op 0 [] (.op 1 [] (.op 2 [] (.op 3 [] (.op 4 [] (.op 5 [] (.op 6 [] (.op 7 [] (.op 8 [] (.op 9 [] (.op 10 [] (.op 11 [] (.op 12 [] .nil))))))))))))) | _ => .nil
theorem bolelaw03_sameActs.eq (aA1 : Option Addr) (aL1 : Nat) (aC1 : Nat) (bA1 : Option Addr) (bL1 : Nat) (bC1 : Nat) (K : Value → Heap → Prop) (h : Heap) : fnX (cx bolelaw03_sameActs.lo bolelaw03_sameActs.od) Try.f42 (Try.f42.body.getD .skip) [.slice aA1 aL1 aC1, .slice bA1 bL1 bC1] K h = bolelaw03_sameActs aA1 aL1 aC1 bA1 bL1 bC1 K h := by kernel_rfl
theorem bolelaw03_sameActs.chk : fnOk (cx bolelaw03_sameActs.lo bolelaw03_sameActs.od) Try.f42 (Try.f42.body.getD .skip) 2 = true := by kernel_rfl
theorem bolelaw03_sameActs.ok {aA1 : Option Addr} {aL1 : Nat} {aC1 : Nat} {bA1 : Option Addr} {bL1 : Nat} {bC1 : Nat} {K : Value → Heap → Prop} {h : Heap} (hx : bolelaw03_sameActs aA1 aL1 aC1 bA1 bL1 bC1 K h) : C.bolelaw03_sameActs aA1 aL1 aC1 bA1 bL1 bC1 h K :=
  fn_to (cxOk _ _) Try.func42 (by kernel_rfl) bolelaw03_sameActs.chk (by rw [bolelaw03_sameActs.eq]; exact hx)

-- 43
def adisk_Disk_has (d1 : Option Addr) (i1 : Int) (K : Value → Heap → Prop) (h1 : Heap) : Prop :=
  bif (decide (i1 ≥ 0)) then (
  onSome d1 fun p1 =>
  ∃ (sA1 : Option Addr) (sL1 : Nat) (sC1 : Nat), cellOf h1 (Addr.add p1 0) = some (.slice sA1 sL1 sC1) ∧
  K (.bool (decide (i1 < (sL1 : Int)))) h1) else (
  K (.bool false) h1)
def adisk_Disk_has.lo : Nat → List Nat × List (Nat × Ty) := fun n => match n with | _ => ([], [])
def adisk_Disk_has.od : Nat → Od := fun n => match n with | _ => .nil
theorem adisk_Disk_has.eq (d1 : Option Addr) (i1 : Int) (K : Value → Heap → Prop) (h : Heap) : fnX (cx adisk_Disk_has.lo adisk_Disk_has.od) Try.f43 (Try.f43.body.getD .skip) [.pointer d1, .int .i64 i1] K h = adisk_Disk_has d1 i1 K h := by kernel_rfl
theorem adisk_Disk_has.chk : fnOk (cx adisk_Disk_has.lo adisk_Disk_has.od) Try.f43 (Try.f43.body.getD .skip) 2 = true := by kernel_rfl
theorem adisk_Disk_has.ok {d1 : Option Addr} {i1 : Int} {K : Value → Heap → Prop} {h : Heap} (hx : adisk_Disk_has d1 i1 K h) : C.adisk_Disk_has d1 i1 h K :=
  fn_to (cxOk _ _) Try.func43 (by kernel_rfl) adisk_Disk_has.chk (by rw [adisk_Disk_has.eq]; exact hx)

-- 44
def adisk_Open (imageA1 : Option Addr) (imageL1 : Nat) (imageC1 : Nat) (K : Value → Heap → Prop) (h1 : Heap) : Prop :=
  bif ((Int.tmod (imageL1 : Int) 512) != 0) then (
  K (.tuple #[.pointer none, .int .i64 32]) h1) else (
  C.adisk_New (IntKind.wrap .i64 (Int.tdiv (imageL1 : Int) 512)) h1 fun r1 h2 =>
  ∃ (q1 : Option Addr) (n1 : Int), r1 = .tuple #[.pointer q1, .int .i64 n1] ∧
  bif (n1 != 0) then (
  K (.tuple #[.pointer none, .int .i64 n1]) h2) else (
  onSome q1 fun p1 =>
  ∃ (sA1 : Option Addr) (sL1 : Nat) (sC1 : Nat), cellOf h2 (Addr.add p1 0) = some (.slice sA1 sL1 sC1) ∧
  ∃ (I1 : Int → Heap → Prop) (M1 : Int → Heap → Nat), I1 0 h2 ∧
  ∀ (n2 : Int), ∀ h3 : Heap, I1 n2 h3 →
  bif (decide (n2 < (sL1 : Int))) then (
  onSome q1 fun p2 =>
  ∃ (sA2 : Option Addr) (sL2 : Nat) (sC2 : Nat), cellOf h3 (Addr.add p2 0) = some (.slice sA2 sL2 sC2) ∧
  (0 ≤ n2 ∧ n2 < (sL2 : Int)) ∧
  onSome sA2 fun p3 =>
  (0 ≤ (IntKind.wrap .i64 (n2 * 512)) ∧ (IntKind.wrap .i64 (n2 * 512)) ≤ (imageL1 : Int)) ∧
  CopyP ti5 (some (Addr.add p3 ((Int.toNat n2) * 512))) 512 (.slice (if imageC1 = (Int.toNat (IntKind.wrap .i64 (n2 * 512))) then imageA1 else Option.map (Addr.add · (Int.toNat (IntKind.wrap .i64 (n2 * 512)))) imageA1) (imageL1 - (Int.toNat (IntKind.wrap .i64 (n2 * 512)))) (imageC1 - (Int.toNat (IntKind.wrap .i64 (n2 * 512))))) h3 fun n3 h4 =>
  I1 (IntKind.wrap .i64 (n2 + 1)) h4 ∧ M1 (IntKind.wrap .i64 (n2 + 1)) h4 < M1 n2 h3) else (
  K (.tuple #[.pointer q1, .int .i64 0]) h3)))
def adisk_Open.lo : Nat → List Nat × List (Nat × Ty) := fun n => match n with | 7 => ([0, 4, 25], [(26, .int .i64)]) | _ => ([], [])
def adisk_Open.od : Nat → Od := fun n => match n with | 9 => (.op 0 [] (.op 1 [] (.op 2 [] (.op 3 [] (.op 4 [] (.op 5 [] (.op 6 [] (.op 7 [] (.op 8 [] (.op 9 [] (.op 10 [] (.op 11 [] .nil)))))))))))) | _ => .nil
theorem adisk_Open.eq (imageA1 : Option Addr) (imageL1 : Nat) (imageC1 : Nat) (K : Value → Heap → Prop) (h : Heap) : fnX (cx adisk_Open.lo adisk_Open.od) Try.f44 (Try.f44.body.getD .skip) [.slice imageA1 imageL1 imageC1] K h = adisk_Open imageA1 imageL1 imageC1 K h := by kernel_rfl
theorem adisk_Open.chk : fnOk (cx adisk_Open.lo adisk_Open.od) Try.f44 (Try.f44.body.getD .skip) 1 = true := by kernel_rfl
theorem adisk_Open.ok {imageA1 : Option Addr} {imageL1 : Nat} {imageC1 : Nat} {K : Value → Heap → Prop} {h : Heap} (hx : adisk_Open imageA1 imageL1 imageC1 K h) : C.adisk_Open imageA1 imageL1 imageC1 h K :=
  fn_to (cxOk _ _) Try.func44 (by kernel_rfl) adisk_Open.chk (by rw [adisk_Open.eq]; exact hx)

-- 45
def boleref03_Of (imageA1 : Option Addr) (imageL1 : Nat) (imageC1 : Nat) (K : Value → Heap → Prop) (h1 : Heap) : Prop :=
  bif ((imageL1 : Int) == 0) then (
  K (.tuple #[.pointer none, .int .i64 32]) h1) else (
  bif ((Int.tmod (imageL1 : Int) 512) != 0) then (
  K (.tuple #[.pointer none, .int .i64 32]) h1) else (
  bif (decide ((IntKind.wrap .i64 (Int.tdiv (imageL1 : Int) 512)) > 16384)) then (
  K (.tuple #[.pointer none, .int .i64 32]) h1) else (
  C.boleref03_copied imageA1 imageL1 imageC1 h1 fun r1 h2 =>
  ∃ (sA1 : Option Addr) (sL1 : Nat) (sC1 : Nat), r1 = .slice sA1 sL1 sC1 ∧
  New [.slice sA1 sL1 sC1, .slice none 0 0, .slice none 0 0, .int .i64 0, .bool false, .int .i64 0, .int .i64 0] 105 h2 fun h3 =>
  K (.tuple #[.pointer (some ⟨h2.size, 0, none⟩), .int .i64 0]) h3)))
def boleref03_Of.lo : Nat → List Nat × List (Nat × Ty) := fun n => match n with | _ => ([], [])
def boleref03_Of.od : Nat → Od := fun n => match n with | _ => .nil
set_option maxRecDepth 1000000 in
theorem boleref03_Of.eq (imageA1 : Option Addr) (imageL1 : Nat) (imageC1 : Nat) (K : Value → Heap → Prop) (h : Heap) : fnX (cx boleref03_Of.lo boleref03_Of.od) Try.f45 (Try.f45.body.getD .skip) [.slice imageA1 imageL1 imageC1] K h = boleref03_Of imageA1 imageL1 imageC1 K h := by kernel_rfl
theorem boleref03_Of.chk : fnOk (cx boleref03_Of.lo boleref03_Of.od) Try.f45 (Try.f45.body.getD .skip) 1 = true := by kernel_rfl
set_option maxRecDepth 1000000 in
theorem boleref03_Of.ok {imageA1 : Option Addr} {imageL1 : Nat} {imageC1 : Nat} {K : Value → Heap → Prop} {h : Heap} (hx : boleref03_Of imageA1 imageL1 imageC1 K h) : C.boleref03_Of imageA1 imageL1 imageC1 h K :=
  fn_to (cxOk _ _) Try.func45 (by kernel_rfl) boleref03_Of.chk (by rw [boleref03_Of.eq]; exact hx)

-- 46
def boleref03_Disk_Blocks (d1 : Option Addr) (K : Value → Heap → Prop) (h1 : Heap) : Prop :=
  onSome d1 fun p1 =>
  ∃ (sA1 : Option Addr) (sL1 : Nat) (sC1 : Nat), cellOf h1 (Addr.add p1 0) = some (.slice sA1 sL1 sC1) ∧
  K (.int .i64 (IntKind.wrap .i64 (Int.tdiv (sL1 : Int) 512))) h1
def boleref03_Disk_Blocks.lo : Nat → List Nat × List (Nat × Ty) := fun n => match n with | _ => ([], [])
def boleref03_Disk_Blocks.od : Nat → Od := fun n => match n with | _ => .nil
theorem boleref03_Disk_Blocks.eq (d1 : Option Addr) (K : Value → Heap → Prop) (h : Heap) : fnX (cx boleref03_Disk_Blocks.lo boleref03_Disk_Blocks.od) Try.f46 (Try.f46.body.getD .skip) [.pointer d1] K h = boleref03_Disk_Blocks d1 K h := by kernel_rfl
theorem boleref03_Disk_Blocks.chk : fnOk (cx boleref03_Disk_Blocks.lo boleref03_Disk_Blocks.od) Try.f46 (Try.f46.body.getD .skip) 1 = true := by kernel_rfl
theorem boleref03_Disk_Blocks.ok {d1 : Option Addr} {K : Value → Heap → Prop} {h : Heap} (hx : boleref03_Disk_Blocks d1 K h) : C.boleref03_Disk_Blocks d1 h K :=
  fn_to (cxOk _ _) Try.func46 (by kernel_rfl) boleref03_Disk_Blocks.chk (by rw [boleref03_Disk_Blocks.eq]; exact hx)

-- 47
def adisk_Disk_cut (d1 : Option Addr) (keepA1 : Option Addr) (keepL1 : Nat) (keepC1 : Nat) (K : Value → Heap → Prop) (h1 : Heap) : Prop :=
  onSome d1 fun p1 =>
  ∃ (sA1 : Option Addr) (sL1 : Nat) (sC1 : Nat), cellOf h1 (Addr.add p1 1) = some (.slice sA1 sL1 sC1) ∧
  ∃ (I1 : Int → Heap → Prop) (M1 : Int → Heap → Nat), I1 0 h1 ∧
  ∀ (n1 : Int), ∀ h2 : Heap, I1 n1 h2 →
  bif (decide (n1 < (if (sL1 : Int) < (keepL1 : Int) then (sL1 : Int) else (keepL1 : Int)))) then (
  onSome d1 fun p2 =>
  ∃ (sA2 : Option Addr) (sL2 : Nat) (sC2 : Nat), cellOf h2 (Addr.add p2 1) = some (.slice sA2 sL2 sC2) ∧
  (0 ≤ n1 ∧ n1 < (sL2 : Int)) ∧
  onSome sA2 fun p3 =>
  ∃ cs1 : List Value, List.length cs1 = 513 ∧ Cells h2 (Addr.add p3 ((Int.toNat n1) * 513)) cs1 ∧
  NewRow z101 101 cs1 513 h2 fun h4 =>
  (0 ≤ n1 ∧ n1 < (keepL1 : Int)) ∧
  onSome keepA1 fun p4 =>
  ∃ (b1 : Bool), cellOf h4 (Addr.add p4 (Int.toNat n1)) = some (.bool b1) ∧
  bif b1 then (
  onSome d1 fun p5 =>
  ∃ (sA3 : Option Addr) (sL3 : Nat) (sC3 : Nat), cellOf h4 (Addr.add p5 0) = some (.slice sA3 sL3 sC3) ∧
  ∃ (n2 : Int), cellOf h4 (Addr.add ⟨h2.size, 0, none⟩ 0) = some (.int .i64 n2) ∧
  ∃ cs2 : List Value, List.length cs2 = 512 ∧ Cells h4 (Addr.add ⟨h2.size, 0, none⟩ 1) cs2 ∧
  (0 ≤ n2 ∧ n2 < (sL3 : Int)) ∧
  onSome sA3 fun p6 =>
  PutRow (Addr.add p6 ((Int.toNat n2) * 512)) cs2 512 h4 fun h5 =>
  I1 (IntKind.wrap .i64 (n1 + 1)) h5 ∧ M1 (IntKind.wrap .i64 (n1 + 1)) h5 < M1 n1 h2) else (
  I1 (IntKind.wrap .i64 (n1 + 1)) h4 ∧ M1 (IntKind.wrap .i64 (n1 + 1)) h4 < M1 n1 h2)) else (
  onSome d1 fun p7 =>
  Put (Addr.add p7 1) (.slice none 0 0) h2 fun h6 =>
  onSome d1 fun p8 =>
  Put (Addr.add p8 3) (.slice none 0 0) h6 fun h7 =>
  onSome d1 fun p9 =>
  Put (Addr.add p9 2) (.int .i64 0) h7 fun h8 =>
  onSome d1 fun p10 =>
  Put (Addr.add p10 4) (.bool true) h8 fun h9 =>
  K (.tuple #[]) h9)
def adisk_Disk_cut.lo : Nat → List Nat × List (Nat × Ty) := fun n => match n with | 1 => ([0, 1, 13], [(14, .int .i64)]) | _ => ([], [])
def adisk_Disk_cut.od : Nat → Od := fun n => match n with | 5 => (.op 0 [] (.op 1 [] (.op 2 [] (.op 3 [] (.op 4 [] (.op 5 [] (.op 6 [] (.op 7 [] (.op 8 [] (.op 9 [] .nil)))))))))) | _ => .nil
theorem adisk_Disk_cut.eq (d1 : Option Addr) (keepA1 : Option Addr) (keepL1 : Nat) (keepC1 : Nat) (K : Value → Heap → Prop) (h : Heap) : fnX (cx adisk_Disk_cut.lo adisk_Disk_cut.od) Try.f47 (Try.f47.body.getD .skip) [.pointer d1, .slice keepA1 keepL1 keepC1] K h = adisk_Disk_cut d1 keepA1 keepL1 keepC1 K h := by kernel_rfl
theorem adisk_Disk_cut.chk : fnOk (cx adisk_Disk_cut.lo adisk_Disk_cut.od) Try.f47 (Try.f47.body.getD .skip) 2 = true := by kernel_rfl
theorem adisk_Disk_cut.ok {d1 : Option Addr} {keepA1 : Option Addr} {keepL1 : Nat} {keepC1 : Nat} {K : Value → Heap → Prop} {h : Heap} (hx : adisk_Disk_cut d1 keepA1 keepL1 keepC1 K h) : C.adisk_Disk_cut d1 keepA1 keepL1 keepC1 h K :=
  fn_to (cxOk _ _) Try.func47 (by kernel_rfl) adisk_Disk_cut.chk (by rw [adisk_Disk_cut.eq]; exact hx)

-- 48
def slices_Clone_bool_bool (sA1 : Option Addr) (sL1 : Nat) (sC1 : Nat) (K : Value → Heap → Prop) (h1 : Heap) : Prop :=
  bif (Option.isNone sA1) then (
  K (.slice none 0 0) h1) else (
  New [] 4 h1 fun h2 =>
  ∃ new1 : List Value, List.length new1 = sL1 * 1 ∧ SlCells h2 sA1 new1 ∧ (∀ v ∈ new1, v.oneCell' = true) ∧
  AppendP ti4 4 (some ⟨h1.size, 0, none⟩) 0 0 sL1 new1 h2 fun sA2 sL2 sC2 h3 =>
  K (.slice sA2 sL2 sC2) h3)
def slices_Clone_bool_bool.lo : Nat → List Nat × List (Nat × Ty) := fun n => match n with | _ => ([], [])
def slices_Clone_bool_bool.od : Nat → Od := fun n => match n with | _ => .nil
theorem slices_Clone_bool_bool.eq (sA1 : Option Addr) (sL1 : Nat) (sC1 : Nat) (K : Value → Heap → Prop) (h : Heap) : fnX (cx slices_Clone_bool_bool.lo slices_Clone_bool_bool.od) Try.f48 (Try.f48.body.getD .skip) [.slice sA1 sL1 sC1] K h = slices_Clone_bool_bool sA1 sL1 sC1 K h := by kernel_rfl
theorem slices_Clone_bool_bool.chk : fnOk (cx slices_Clone_bool_bool.lo slices_Clone_bool_bool.od) Try.f48 (Try.f48.body.getD .skip) 1 = true := by kernel_rfl
theorem slices_Clone_bool_bool.ok {sA1 : Option Addr} {sL1 : Nat} {sC1 : Nat} {K : Value → Heap → Prop} {h : Heap} (hx : slices_Clone_bool_bool sA1 sL1 sC1 K h) : C.slices_Clone_bool_bool sA1 sL1 sC1 h K :=
  fn_to (cxOk _ _) Try.func48 (by kernel_rfl) slices_Clone_bool_bool.chk (by rw [slices_Clone_bool_bool.eq]; exact hx)

-- 49
def slices_Clone_byte_byte (sA1 : Option Addr) (sL1 : Nat) (sC1 : Nat) (K : Value → Heap → Prop) (h1 : Heap) : Prop :=
  bif (Option.isNone sA1) then (
  K (.slice none 0 0) h1) else (
  New [] 5 h1 fun h2 =>
  ∃ new1 : List Value, List.length new1 = sL1 * 1 ∧ SlCells h2 sA1 new1 ∧ (∀ v ∈ new1, v.oneCell' = true) ∧
  AppendP ti5 5 (some ⟨h1.size, 0, none⟩) 0 0 sL1 new1 h2 fun sA2 sL2 sC2 h3 =>
  K (.slice sA2 sL2 sC2) h3)
def slices_Clone_byte_byte.lo : Nat → List Nat × List (Nat × Ty) := fun n => match n with | _ => ([], [])
def slices_Clone_byte_byte.od : Nat → Od := fun n => match n with | _ => .nil
theorem slices_Clone_byte_byte.eq (sA1 : Option Addr) (sL1 : Nat) (sC1 : Nat) (K : Value → Heap → Prop) (h : Heap) : fnX (cx slices_Clone_byte_byte.lo slices_Clone_byte_byte.od) Try.f49 (Try.f49.body.getD .skip) [.slice sA1 sL1 sC1] K h = slices_Clone_byte_byte sA1 sL1 sC1 K h := by kernel_rfl
theorem slices_Clone_byte_byte.chk : fnOk (cx slices_Clone_byte_byte.lo slices_Clone_byte_byte.od) Try.f49 (Try.f49.body.getD .skip) 1 = true := by kernel_rfl
theorem slices_Clone_byte_byte.ok {sA1 : Option Addr} {sL1 : Nat} {sC1 : Nat} {K : Value → Heap → Prop} {h : Heap} (hx : slices_Clone_byte_byte sA1 sL1 sC1 K h) : C.slices_Clone_byte_byte sA1 sL1 sC1 h K :=
  fn_to (cxOk _ _) Try.func49 (by kernel_rfl) slices_Clone_byte_byte.chk (by rw [slices_Clone_byte_byte.eq]; exact hx)

-- 50
def adisk_Disk_step (d1 : Option Addr) (done1 : Value) (K : Value → Heap → Prop) (h1 : Heap) : Prop :=
  onSome d1 fun p1 =>
  ∃ (n1 : Int), cellOf h1 (Addr.add p1 2) = some (.int .i64 n1) ∧
  bif (decide (n1 > 0)) then (
  onSome d1 fun p2 =>
  ∃ (n2 : Int), cellOf h1 (Addr.add p2 2) = some (.int .i64 n2) ∧
  onSome d1 fun p3 =>
  Put (Addr.add p3 2) (.int .i64 (IntKind.wrap .i64 (n2 - 1))) h1 fun h2 =>
  onSome d1 fun p4 =>
  ∃ (n3 : Int), cellOf h2 (Addr.add p4 2) = some (.int .i64 n3) ∧
  bif (n3 == 0) then (
  onSome d1 fun p5 =>
  ∃ (sA1 : Option Addr) (sL1 : Nat) (sC1 : Nat), cellOf h2 (Addr.add p5 3) = some (.slice sA1 sL1 sC1) ∧
  C.adisk_Disk_cut d1 sA1 sL1 sC1 h2 fun r1 h3 =>
  r1 = .tuple #[] ∧
  K (.int .i64 30) h3) else (
  isFnV done1 = true ∧
  bif (!(isNilFn done1)) then (
  HCallsV Try.prog done1 [] h2 fun r2 h4 =>
  r2 = .tuple #[] ∧
  K (.int .i64 0) h4) else (
  K (.int .i64 0) h2))) else (
  isFnV done1 = true ∧
  bif (!(isNilFn done1)) then (
  HCallsV Try.prog done1 [] h1 fun r3 h5 =>
  r3 = .tuple #[] ∧
  K (.int .i64 0) h5) else (
  K (.int .i64 0) h1))
def adisk_Disk_step.lo : Nat → List Nat × List (Nat × Ty) := fun n => match n with | _ => ([], [])
def adisk_Disk_step.od : Nat → Od := fun n => match n with | _ => .nil
theorem adisk_Disk_step.eq (d1 : Option Addr) (done1 : Value) (K : Value → Heap → Prop) (h : Heap) : fnX (cx adisk_Disk_step.lo adisk_Disk_step.od) Try.f50 (Try.f50.body.getD .skip) [.pointer d1, done1] K h = adisk_Disk_step d1 done1 K h := by kernel_rfl
theorem adisk_Disk_step.chk : fnOk (cx adisk_Disk_step.lo adisk_Disk_step.od) Try.f50 (Try.f50.body.getD .skip) 2 = true := by kernel_rfl
theorem adisk_Disk_step.ok {d1 : Option Addr} {done1 : Value} {K : Value → Heap → Prop} {h : Heap} (hx : adisk_Disk_step d1 done1 K h) : C.adisk_Disk_step d1 done1 h K :=
  fn_to (cxOk _ _) Try.func50 (by kernel_rfl) adisk_Disk_step.chk (by rw [adisk_Disk_step.eq]; exact hx)
end Go.Proofs.Ytnbfaokpaiiojaa.W
