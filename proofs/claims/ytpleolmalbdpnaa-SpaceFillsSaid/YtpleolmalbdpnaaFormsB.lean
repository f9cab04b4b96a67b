/-
  WHAT THE FUNCTIONS COMPUTE, as formulas; each held against the loaded code by the kernel. Written by program (gen.py).
-/
import Derived.Test.YtpleolmalbdpnaaTab
namespace Go.Proofs.Ytpleolmalbdpnaa.W
open Go Go.Proofs Go.Proofs.Ytpleolmalbdpnaa.Wx
-- 21
def bolelaw09_Case_image.k3 (n1 : Int) (h4 : Heap) (h6 : Heap) (i2 : Int) (h10 : Heap) (I2 : Int → Heap → Prop) (M2 : Int → Heap → Nat) (on2 : Bool) (K : Value → Heap → Prop) : Prop :=
  bif on2 then (
  ∃ (n9 : Int), cellOf h10 (Addr.add ⟨h4.size, 0, none⟩ 1) = some (.int .i64 n9) ∧
  (0 ≤ (IntKind.wrap .i64 ((IntKind.wrap .i64 (n9 * 512)) + (IntKind.wrap .i64 (Int.tdiv i2 8)))) ∧ (IntKind.wrap .i64 ((IntKind.wrap .i64 (n9 * 512)) + (IntKind.wrap .i64 (Int.tdiv i2 8)))) < ((Int.toNat (IntKind.wrap .i64 (n1 * 512))) : Int)) ∧
  ∃ (n10 : Int), cellOf h10 (Addr.add ⟨h6.size, 0, none⟩ (Int.toNat (IntKind.wrap .i64 ((IntKind.wrap .i64 (n9 * 512)) + (IntKind.wrap .i64 (Int.tdiv i2 8)))))) = some (.int .u8 n10) ∧
  if (Int.tmod i2 8) < 0 then False else
  (0 ≤ (IntKind.wrap .i64 ((IntKind.wrap .i64 (n9 * 512)) + (IntKind.wrap .i64 (Int.tdiv i2 8)))) ∧ (IntKind.wrap .i64 ((IntKind.wrap .i64 (n9 * 512)) + (IntKind.wrap .i64 (Int.tdiv i2 8)))) < ((Int.toNat (IntKind.wrap .i64 (n1 * 512))) : Int)) ∧
  Put (Addr.add ⟨h6.size, 0, none⟩ (Int.toNat (IntKind.wrap .i64 ((IntKind.wrap .i64 (n9 * 512)) + (IntKind.wrap .i64 (Int.tdiv i2 8)))))) (.int .u8 (bitsI .or .u8 n10 (IntKind.wrap .u8 ((1 * 2 ^ min (Int.toNat (Int.tmod i2 8)) 8))))) h10 fun h11 =>
  I2 (IntKind.wrap .i64 (i2 + 1)) h11 ∧ M2 (IntKind.wrap .i64 (i2 + 1)) h11 < M2 i2 h10) else (
  I2 (IntKind.wrap .i64 (i2 + 1)) h10 ∧ M2 (IntKind.wrap .i64 (i2 + 1)) h10 < M2 i2 h10)
def bolelaw09_Case_image.k2 (n1 : Int) (h4 : Heap) (h6 : Heap) (i2 : Int) (h10 : Heap) (I2 : Int → Heap → Prop) (M2 : Int → Heap → Nat) (n6 : Int) (x1 : Int) (K : Value → Heap → Prop) : Prop :=
  if (Int.tmod (IntKind.wrap .i64 (i2 - n6)) 8) < 0 then False else
  bolelaw09_Case_image.k3 n1 h4 h6 i2 h10 I2 M2 ((bitsI .and .u8 (Int.fdiv x1 (2 ^ min (Int.toNat (Int.tmod (IntKind.wrap .i64 (i2 - n6)) 8)) 8)) 1) == 1) K
def bolelaw09_Case_image.k1 (h1 : Heap) (n1 : Int) (h4 : Heap) (h6 : Heap) (i2 : Int) (h10 : Heap) (I2 : Int → Heap → Prop) (M2 : Int → Heap → Nat) (on1 : Bool) (K : Value → Heap → Prop) : Prop :=
  bif (!on1) then (
  ∃ (n6 : Int), cellOf h10 (Addr.add ⟨h4.size, 0, none⟩ 3) = some (.int .i64 n6) ∧
  ∃ (n7 : Int), cellOf h10 (Addr.add ⟨h1.size, 0, none⟩ 2) = some (.int .u8 n7) ∧
  ∃ (sA1 : Option Addr) (sL1 : Nat) (sC1 : Nat), cellOf h10 (Addr.add ⟨h1.size, 0, none⟩ 1) = some (.slice sA1 sL1 sC1) ∧
  bif (decide ((IntKind.wrap .i64 (Int.tdiv (IntKind.wrap .i64 (i2 - n6)) 8)) < (sL1 : Int))) then (
  ∃ (sA2 : Option Addr) (sL2 : Nat) (sC2 : Nat), cellOf h10 (Addr.add ⟨h1.size, 0, none⟩ 1) = some (.slice sA2 sL2 sC2) ∧
  (0 ≤ (IntKind.wrap .i64 (Int.tdiv (IntKind.wrap .i64 (i2 - n6)) 8)) ∧ (IntKind.wrap .i64 (Int.tdiv (IntKind.wrap .i64 (i2 - n6)) 8)) < (sL2 : Int)) ∧
  onSome sA2 fun p1 =>
  ∃ (n8 : Int), cellOf h10 (Addr.add p1 (Int.toNat (IntKind.wrap .i64 (Int.tdiv (IntKind.wrap .i64 (i2 - n6)) 8)))) = some (.int .u8 n8) ∧
  bolelaw09_Case_image.k2 n1 h4 h6 i2 h10 I2 M2 n6 n8 K) else (
  bolelaw09_Case_image.k2 n1 h4 h6 i2 h10 I2 M2 n6 n7 K)) else (
  bolelaw09_Case_image.k3 n1 h4 h6 i2 h10 I2 M2 on1 K)
def bolelaw09_Case_image (c1 : List Value) (K : Value → Heap → Prop) (h1 : Heap) : Prop :=
  New c1 25 h1 fun h2 =>
  ∃ cs1 : List Value, List.length cs1 = 4 ∧ Cells h2 ⟨h1.size, 0, none⟩ cs1 ∧
  C.bolelaw09_Case_blocks cs1 h2 fun r1 h3 =>
  ∃ (n1 : Int), r1 = .int .i64 n1 ∧
  C.boleref09_Geo n1 h3 fun r2 h4 =>
  ∃ (cs2 : List Value), r2 = .agg ⟨cs2⟩ ∧
  NewRow z29 29 cs2 5 h4 fun h6 =>
  (0 ≤ (IntKind.wrap .i64 (n1 * 512)) ∧ (IntKind.wrap .i64 (n1 * 512)) ≤ (IntKind.wrap .i64 (n1 * 512)) ∧ (1 : Int) * (IntKind.wrap .i64 (n1 * 512)) ≤ 281474976710656 ∧ (IntKind.wrap .i64 (n1 * 512)) ≤ 281474976710656) ∧
  New (repCells z5 (Int.toNat (IntKind.wrap .i64 (n1 * 512)))) 5 h6 fun h7 =>
  ∃ (n2 : Int), cellOf h7 (Addr.add ⟨h4.size, 0, none⟩ 3) = some (.int .i64 n2) ∧
  ∃ (I1 : Int → Heap → Prop) (M1 : Int → Heap → Nat), I1 (IntKind.wrap .i64 (n2 * 512)) h7 ∧
  ∀ (i1 : Int), ∀ h8 : Heap, I1 i1 h8 →
  bif (decide (i1 < ((Int.toNat (IntKind.wrap .i64 (n1 * 512))) : Int))) then (
  (0 ≤ i1 ∧ i1 < ((Int.toNat (IntKind.wrap .i64 (n1 * 512))) : Int)) ∧
  Put (Addr.add ⟨h6.size, 0, none⟩ (Int.toNat i1)) (.int .u8 7) h8 fun h9 =>
  I1 (IntKind.wrap .i64 (i1 + 1)) h9 ∧ M1 (IntKind.wrap .i64 (i1 + 1)) h9 < M1 i1 h8) else (
  ∃ (I2 : Int → Heap → Prop) (M2 : Int → Heap → Nat), I2 0 h8 ∧
  ∀ (i2 : Int), ∀ h10 : Heap, I2 i2 h10 →
  ∃ (n3 : Int), cellOf h10 (Addr.add ⟨h4.size, 0, none⟩ 2) = some (.int .i64 n3) ∧
  ∃ (n4 : Int), cellOf h10 (Addr.add ⟨h4.size, 0, none⟩ 1) = some (.int .i64 n4) ∧
  bif (decide (i2 < (IntKind.wrap .i64 ((IntKind.wrap .i64 (n3 - n4)) * 4096)))) then (
  ∃ (n5 : Int), cellOf h10 (Addr.add ⟨h4.size, 0, none⟩ 3) = some (.int .i64 n5) ∧
  bif (decide (i2 < n5)) then (
  bolelaw09_Case_image.k1 h1 n1 h4 h6 i2 h10 I2 M2 true K) else (
  bolelaw09_Case_image.k1 h1 n1 h4 h6 i2 h10 I2 M2 (decide (i2 ≥ n1)) K)) else (
  K (.slice (some ⟨h6.size, 0, none⟩) (Int.toNat (IntKind.wrap .i64 (n1 * 512))) (Int.toNat (IntKind.wrap .i64 (n1 * 512)))) h10))
def bolelaw09_Case_image.lo : Nat → List Nat × List (Nat × Ty) := fun n => match n with | 5 => ([1, 3, 4, 5], [(6, .int .i64)]) | 9 => ([1, 3, 4, 5], [(7, .int .i64)]) | _ => ([], [])
def bolelaw09_Case_image.od : Nat → Od := fun n => match n with | 19 => (.op 0 [] (.op 1 [] (.op 2 [] (.op 3 [] (.op 4 [] (.op 5 [] (.op 6 [] (.op 7 [] (.op 8 [] (.op 9 [] (.op 10 [] (.op 11 [] (.op 12 [] (.op 13 [] (.op 14 [] .nil))))))))))))))) | _ => .nil
theorem bolelaw09_Case_image.eq (c1 : List Value) (K : Value → Heap → Prop) (h : Heap) : fnX (cx bolelaw09_Case_image.lo bolelaw09_Case_image.od) Try.f21 (Try.f21.body.getD .skip) [.agg ⟨c1⟩] K h = bolelaw09_Case_image c1 K h := by kernel_rfl
theorem bolelaw09_Case_image.chk : fnOk (cx bolelaw09_Case_image.lo bolelaw09_Case_image.od) Try.f21 (Try.f21.body.getD .skip) 1 = true := by kernel_rfl
theorem bolelaw09_Case_image.ok {c1 : List Value} {K : Value → Heap → Prop} {h : Heap} (hx : bolelaw09_Case_image c1 K h) : C.bolelaw09_Case_image c1 h K :=
  fn_to (cxOk _ _) Try.func21 (by kernel_rfl) bolelaw09_Case_image.chk (by rw [bolelaw09_Case_image.eq]; exact hx)

-- 22
def txn_Begin (d1 : Option Addr) (K : Value → Heap → Prop) (h1 : Heap) : Prop :=
  NewM h1 fun h2 =>
  New [.pointer d1, .map (some h1.size), .slice none 0 0, .bool false] 69 h2 fun h3 =>
  K (.pointer (some ⟨h2.size, 0, none⟩)) h3
def txn_Begin.lo : Nat → List Nat × List (Nat × Ty) := fun n => match n with | _ => ([], [])
def txn_Begin.od : Nat → Od := fun n => match n with | _ => .nil
theorem txn_Begin.eq (d1 : Option Addr) (K : Value → Heap → Prop) (h : Heap) : fnX (cx txn_Begin.lo txn_Begin.od) Try.f22 (Try.f22.body.getD .skip) [.pointer d1] K h = txn_Begin d1 K h := by kernel_rfl
theorem txn_Begin.chk : fnOk (cx txn_Begin.lo txn_Begin.od) Try.f22 (Try.f22.body.getD .skip) 1 = true := by kernel_rfl
theorem txn_Begin.ok {d1 : Option Addr} {K : Value → Heap → Prop} {h : Heap} (hx : txn_Begin d1 K h) : C.txn_Begin d1 h K :=
  fn_to (cxOk _ _) Try.func22 (by kernel_rfl) txn_Begin.chk (by rw [txn_Begin.eq]; exact hx)

-- 23
def space_bit (t1 : Option Addr) (g1 : List Value) (i1 : Int) (K : Value → Heap → Prop) (h1 : Heap) : Prop :=
  New g1 29 h1 fun h2 =>
  ∃ cs1 : List Value, List.length cs1 = 5 ∧ Cells h2 ⟨h1.size, 0, none⟩ cs1 ∧
  C.geo_Bit cs1 i1 h2 fun r1 h3 =>
  ∃ (n1 : Int) (n2 : Int) (n3 : Int), r1 = .tuple #[.int .i64 n1, .int .i64 n2, .int .i64 n3] ∧
  bif (n3 != 0) then (
  K (.tuple #[.int .i64 0, .slice none 0 0, .int .i64 0, .int .i64 n3]) h3) else (
  C.txn_Txn_Read t1 n1 h3 fun r2 h4 =>
  ∃ (sA1 : Option Addr) (sL1 : Nat) (sC1 : Nat) (n4 : Int), r2 = .tuple #[.slice sA1 sL1 sC1, .int .i64 n4] ∧
  K (.tuple #[.int .i64 n1, .slice sA1 sL1 sC1, .int .i64 n2, .int .i64 n4]) h4)
def space_bit.lo : Nat → List Nat × List (Nat × Ty) := fun n => match n with | _ => ([], [])
def space_bit.od : Nat → Od := fun n => match n with | _ => .nil
theorem space_bit.eq (t1 : Option Addr) (g1 : List Value) (i1 : Int) (K : Value → Heap → Prop) (h : Heap) : fnX (cx space_bit.lo space_bit.od) Try.f23 (Try.f23.body.getD .skip) [.pointer t1, .agg ⟨g1⟩, .int .i64 i1] K h = space_bit t1 g1 i1 K h := by kernel_rfl
theorem space_bit.chk : fnOk (cx space_bit.lo space_bit.od) Try.f23 (Try.f23.body.getD .skip) 3 = true := by kernel_rfl
theorem space_bit.ok {t1 : Option Addr} {g1 : List Value} {i1 : Int} {K : Value → Heap → Prop} {h : Heap} (hx : space_bit t1 g1 i1 K h) : C.space_bit t1 g1 i1 h K :=
  fn_to (cxOk _ _) Try.func23 (by kernel_rfl) space_bit.chk (by rw [space_bit.eq]; exact hx)

-- 24
def bits_Get (bA1 : Option Addr) (bL1 : Nat) (bC1 : Nat) (i1 : Int) (K : Value → Heap → Prop) (h1 : Heap) : Prop :=
  C.bits_has bA1 bL1 bC1 i1 h1 fun r1 h2 =>
  ∃ (b1 : Bool), r1 = .bool b1 ∧
  bif (!b1) then (
  K (.tuple #[.bool false, .int .i64 80]) h2) else (
  C.bits_on bA1 bL1 bC1 i1 h2 fun r2 h3 =>
  ∃ (b2 : Bool), r2 = .bool b2 ∧
  K (.tuple #[.bool b2, .int .i64 0]) h3)
def bits_Get.lo : Nat → List Nat × List (Nat × Ty) := fun n => match n with | _ => ([], [])
def bits_Get.od : Nat → Od := fun n => match n with | _ => .nil
theorem bits_Get.eq (bA1 : Option Addr) (bL1 : Nat) (bC1 : Nat) (i1 : Int) (K : Value → Heap → Prop) (h : Heap) : fnX (cx bits_Get.lo bits_Get.od) Try.f24 (Try.f24.body.getD .skip) [.slice bA1 bL1 bC1, .int .i64 i1] K h = bits_Get bA1 bL1 bC1 i1 K h := by kernel_rfl
theorem bits_Get.chk : fnOk (cx bits_Get.lo bits_Get.od) Try.f24 (Try.f24.body.getD .skip) 2 = true := by kernel_rfl
theorem bits_Get.ok {bA1 : Option Addr} {bL1 : Nat} {bC1 : Nat} {i1 : Int} {K : Value → Heap → Prop} {h : Heap} (hx : bits_Get bA1 bL1 bC1 i1 K h) : C.bits_Get bA1 bL1 bC1 i1 h K :=
  fn_to (cxOk _ _) Try.func24 (by kernel_rfl) bits_Get.chk (by rw [bits_Get.eq]; exact hx)

-- 25
def space_each (t1 : Option Addr) (g1 : List Value) (do1 : Value) (K : Value → Heap → Prop) (h1 : Heap) : Prop :=
  New g1 29 h1 fun h2 =>
  ∃ (n1 : Int), cellOf h2 (Addr.add ⟨h1.size, 0, none⟩ 1) = some (.int .i64 n1) ∧
  ∃ (I1 : Int → Heap → Prop) (M1 : Int → Heap → Nat), I1 n1 h2 ∧
  ∀ (k1 : Int), ∀ h3 : Heap, I1 k1 h3 →
  ∃ (n2 : Int), cellOf h3 (Addr.add ⟨h1.size, 0, none⟩ 2) = some (.int .i64 n2) ∧
  bif (decide (k1 < n2)) then (
  C.txn_Txn_Read t1 k1 h3 fun r1 h4 =>
  ∃ (sA1 : Option Addr) (sL1 : Nat) (sC1 : Nat) (n3 : Int), r1 = .tuple #[.slice sA1 sL1 sC1, .int .i64 n3] ∧
  bif (n3 != 0) then (
  K (.int .i64 n3) h4) else (
  ∃ (n4 : Int), cellOf h4 (Addr.add ⟨h1.size, 0, none⟩ 1) = some (.int .i64 n4) ∧
  HCallsV Try.prog do1 [.int .i64 (IntKind.wrap .i64 (4096 * (IntKind.wrap .i64 (k1 - n4)))), .slice sA1 sL1 sC1] h4 fun r2 h5 =>
  ∃ (b1 : Bool), r2 = .bool b1 ∧
  bif (!b1) then (
  K (.int .i64 0) h5) else (
  I1 (IntKind.wrap .i64 (k1 + 1)) h5 ∧ M1 (IntKind.wrap .i64 (k1 + 1)) h5 < M1 k1 h3))) else (
  K (.int .i64 0) h3)
def space_each.lo : Nat → List Nat × List (Nat × Ty) := fun n => match n with | 2 => ([0, 2, 4], [(7, .int .i64)]) | _ => ([], [])
def space_each.od : Nat → Od := fun n => match n with | _ => .nil
theorem space_each.eq (t1 : Option Addr) (g1 : List Value) (do1 : Value) (K : Value → Heap → Prop) (h : Heap) : fnX (cx space_each.lo space_each.od) Try.f25 (Try.f25.body.getD .skip) [.pointer t1, .agg ⟨g1⟩, do1] K h = space_each t1 g1 do1 K h := by kernel_rfl
theorem space_each.chk : fnOk (cx space_each.lo space_each.od) Try.f25 (Try.f25.body.getD .skip) 3 = true := by kernel_rfl
theorem space_each.ok {t1 : Option Addr} {g1 : List Value} {do1 : Value} {K : Value → Heap → Prop} {h : Heap} (hx : space_each t1 g1 do1 K h) : C.space_each t1 g1 do1 h K :=
  fn_to (cxOk _ _) Try.func25 (by kernel_rfl) space_each.chk (by rw [space_each.eq]; exact hx)

-- 26
def space_Free_c1 (first1 : Int) (bA1 : Option Addr) (bL1 : Nat) (bC1 : Nat) (cap1 : Option Addr) (cap2 : Option Addr) (K : Value → Heap → Prop) (h1 : Heap) : Prop :=
  onSome cap1 fun p1 =>
  ∃ cs1 : List Value, List.length cs1 = 5 ∧ Cells h1 p1 cs1 ∧
  C.space_rows cs1 first1 bA1 bL1 bC1 (Value.func (.func 28) #[] ⟨[.pointer cap2]⟩) h1 fun r1 h2 =>
  r1 = .tuple #[] ∧
  K (.bool true) h2
def space_Free_c1.lo : Nat → List Nat × List (Nat × Ty) := fun n => match n with | _ => ([], [])
def space_Free_c1.od : Nat → Od := fun n => match n with | _ => .nil
theorem space_Free_c1.eq (first1 : Int) (bA1 : Option Addr) (bL1 : Nat) (bC1 : Nat) (cap1 : Option Addr) (cap2 : Option Addr) (K : Value → Heap → Prop) (h : Heap) : fnX (cx space_Free_c1.lo space_Free_c1.od) Try.f26 (Try.f26.body.getD .skip) [.int .i64 first1, .slice bA1 bL1 bC1, .pointer cap1, .pointer cap2] K h = space_Free_c1 first1 bA1 bL1 bC1 cap1 cap2 K h := by kernel_rfl
theorem space_Free_c1.chk : fnOk (cx space_Free_c1.lo space_Free_c1.od) Try.f26 (Try.f26.body.getD .skip) 4 = true := by kernel_rfl
theorem space_Free_c1.ok {first1 : Int} {bA1 : Option Addr} {bL1 : Nat} {bC1 : Nat} {cap1 : Option Addr} {cap2 : Option Addr} {K : Value → Heap → Prop} {h : Heap} (hx : space_Free_c1 first1 bA1 bL1 bC1 cap1 cap2 K h) : C.space_Free_c1 first1 bA1 bL1 bC1 cap1 cap2 h K :=
  fn_to (cxOk _ _) Try.func26 (by kernel_rfl) space_Free_c1.chk (by rw [space_Free_c1.eq]; exact hx)

-- 27
def space_rows (g1 : List Value) (first1 : Int) (bA1 : Option Addr) (bL1 : Nat) (bC1 : Nat) (do1 : Value) (K : Value → Heap → Prop) (h1 : Heap) : Prop :=
  New g1 29 h1 fun h2 =>
  New [.int .i64 first1] 3 h2 fun h3 =>
  New (cellsL do1) 61 h3 fun h4 =>
  C.bits_Runs bA1 bL1 bC1 h4 fun r1 h5 =>
  ∃ (v1 : Value), r1 = v1 ∧
  ∀ (R1 : Loop),
  (∀ (n1 : Int) (n2 : Int), ∀ (h6 : Heap) (k1 : Value → Heap → Prop), LoopOn h6 (h5.size + 1) R1 .ready none →
  (
  LoopOn h6 (h5.size + 1) R1 .ready none ∧
  SetL h6 (h5.size + 1) R1 .busy none fun h7 =>
  ∃ (n3 : Int), cellOf h7 ⟨h2.size, 0, none⟩ = some (.int .i64 n3) ∧
  ∃ (n4 : Int), cellOf h7 (Addr.add ⟨h1.size, 0, none⟩ 3) = some (.int .i64 n4) ∧
  ∃ (n5 : Int), cellOf h7 ⟨h2.size, 0, none⟩ = some (.int .i64 n5) ∧
  ∃ (n6 : Int), cellOf h7 (Addr.add ⟨h1.size, 0, none⟩ 0) = some (.int .i64 n6) ∧
  bif (decide ((if n4 > (IntKind.wrap .i64 (n3 + n1)) then n4 else (IntKind.wrap .i64 (n3 + n1))) < (if n6 < (IntKind.wrap .i64 ((IntKind.wrap .i64 (n5 + n1)) + n2)) then n6 else (IntKind.wrap .i64 ((IntKind.wrap .i64 (n5 + n1)) + n2))))) then (
  ∃ (v2 : Value), cellOf h7 ⟨h3.size, 0, none⟩ = some (v2) ∧
  HCallsV Try.prog v2 [.int .i64 (if n4 > (IntKind.wrap .i64 (n3 + n1)) then n4 else (IntKind.wrap .i64 (n3 + n1))), .int .i64 (if n6 < (IntKind.wrap .i64 ((IntKind.wrap .i64 (n5 + n1)) + n2)) then n6 else (IntKind.wrap .i64 ((IntKind.wrap .i64 (n5 + n1)) + n2)))] h7 fun r2 h8 =>
  ∃ (b1 : Bool), r2 = .bool b1 ∧
  bif (!b1) then (
  LoopOn h8 (h5.size + 1) R1 .busy none ∧
  k1 (.bool false) (setLoop h8 (h5.size + 1) R1 .done (some .ret))) else (
  LoopOn h8 (h5.size + 1) R1 .busy none ∧
  k1 (.bool true) (setLoop h8 (h5.size + 1) R1 .ready none))) else (
  LoopOn h7 (h5.size + 1) R1 .busy none ∧
  k1 (.bool true) (setLoop h7 (h5.size + 1) R1 .ready none))) →
  YCalls Try.prog (h5.size + 1) [.int .i64 n1, .int .i64 n2] h6 k1) →
  HCallsF Try.prog v1 [.func (.yield (h5.size + 1)) #[] #[]] (beginL h5 R1) fun _ h9 =>
  ∃ (st1 : LoopState) (pend1 : Option Code), LoopOn h9 (h5.size + 1) R1 st1 pend1 ∧ st1 ≠ .busy ∧
  pendX pend1 (
  SetL h9 (h5.size + 1) R1 .exhausted pend1 fun h10 =>
  EndD h5.size h10 fun h11 =>
  K (.tuple #[]) h11) (
  SetL h9 (h5.size + 1) R1 .exhausted pend1 fun h12 =>
  EndD h5.size h12 fun h13 =>
  K (.tuple #[]) h13) (fun _ => False)
def space_rows.lo : Nat → List Nat × List (Nat × Ty) := fun n => match n with | 1000002 => ([], [(14, .int .i64), (15, .int .i64)]) | _ => ([], [])
def space_rows.od : Nat → Od := fun n => match n with | 4 => (.op 0 [] (.op 1 [] (.op 2 [] (.op 3 [] (.op 4 [] (.op 5 [] (.op 6 [] (.op 7 [] (.op 8 [] (.op 9 [] (.op 10 [] (.op 11 [] (.op 12 [] (.op 13 [] (.op 14 [] (.op 15 [] .nil)))))))))))))))) | _ => .nil
theorem space_rows.eq (g1 : List Value) (first1 : Int) (bA1 : Option Addr) (bL1 : Nat) (bC1 : Nat) (do1 : Value) (K : Value → Heap → Prop) (h : Heap) : fnX (cx space_rows.lo space_rows.od) Try.f27 (Try.f27.body.getD .skip) [.agg ⟨g1⟩, .int .i64 first1, .slice bA1 bL1 bC1, do1] K h = space_rows g1 first1 bA1 bL1 bC1 do1 K h := by kernel_rfl
theorem space_rows.chk : fnOk (cx space_rows.lo space_rows.od) Try.f27 (Try.f27.body.getD .skip) 4 = true := by kernel_rfl
theorem space_rows.ok {g1 : List Value} {first1 : Int} {bA1 : Option Addr} {bL1 : Nat} {bC1 : Nat} {do1 : Value} {K : Value → Heap → Prop} {h : Heap} (hx : space_rows g1 first1 bA1 bL1 bC1 do1 K h) : C.space_rows g1 first1 bA1 bL1 bC1 do1 h K :=
  fn_to (cxOk _ _) Try.func27 (by kernel_rfl) space_rows.chk (by rw [space_rows.eq]; exact hx)

-- 28
def space_Free_c1_c1 (from1 : Int) (to1 : Int) (cap1 : Option Addr) (K : Value → Heap → Prop) (h1 : Heap) : Prop :=
  onSome cap1 fun p1 =>
  ∃ (n1 : Int), cellOf h1 p1 = some (.int .i64 n1) ∧
  onSome cap1 fun p2 =>
  Put p2 (.int .i64 (IntKind.wrap .i64 (n1 + (IntKind.wrap .i64 (to1 - from1))))) h1 fun h2 =>
  K (.bool true) h2
def space_Free_c1_c1.lo : Nat → List Nat × List (Nat × Ty) := fun n => match n with | _ => ([], [])
def space_Free_c1_c1.od : Nat → Od := fun n => match n with | _ => .nil
theorem space_Free_c1_c1.eq (from1 : Int) (to1 : Int) (cap1 : Option Addr) (K : Value → Heap → Prop) (h : Heap) : fnX (cx space_Free_c1_c1.lo space_Free_c1_c1.od) Try.f28 (Try.f28.body.getD .skip) [.int .i64 from1, .int .i64 to1, .pointer cap1] K h = space_Free_c1_c1 from1 to1 cap1 K h := by kernel_rfl
theorem space_Free_c1_c1.chk : fnOk (cx space_Free_c1_c1.lo space_Free_c1_c1.od) Try.f28 (Try.f28.body.getD .skip) 3 = true := by kernel_rfl
theorem space_Free_c1_c1.ok {from1 : Int} {to1 : Int} {cap1 : Option Addr} {K : Value → Heap → Prop} {h : Heap} (hx : space_Free_c1_c1 from1 to1 cap1 K h) : C.space_Free_c1_c1 from1 to1 cap1 h K :=
  fn_to (cxOk _ _) Try.func28 (by kernel_rfl) space_Free_c1_c1.chk (by rw [space_Free_c1_c1.eq]; exact hx)

-- 29
def space_Take_c1 (first1 : Int) (bA1 : Option Addr) (bL1 : Nat) (bC1 : Nat) (cap1 : Option Addr) (cap2 : Option Addr) (K : Value → Heap → Prop) (h1 : Heap) : Prop :=
  onSome cap1 fun p1 =>
  ∃ cs1 : List Value, List.length cs1 = 5 ∧ Cells h1 p1 cs1 ∧
  C.space_rows cs1 first1 bA1 bL1 bC1 (Value.func (.func 30) #[] ⟨[.pointer cap2]⟩) h1 fun r1 h2 =>
  r1 = .tuple #[] ∧
  onSome cap2 fun p2 =>
  ∃ (n1 : Int), cellOf h2 p2 = some (.int .i64 n1) ∧
  K (.bool (n1 == 0)) h2
def space_Take_c1.lo : Nat → List Nat × List (Nat × Ty) := fun n => match n with | _ => ([], [])
def space_Take_c1.od : Nat → Od := fun n => match n with | _ => .nil
theorem space_Take_c1.eq (first1 : Int) (bA1 : Option Addr) (bL1 : Nat) (bC1 : Nat) (cap1 : Option Addr) (cap2 : Option Addr) (K : Value → Heap → Prop) (h : Heap) : fnX (cx space_Take_c1.lo space_Take_c1.od) Try.f29 (Try.f29.body.getD .skip) [.int .i64 first1, .slice bA1 bL1 bC1, .pointer cap1, .pointer cap2] K h = space_Take_c1 first1 bA1 bL1 bC1 cap1 cap2 K h := by kernel_rfl
theorem space_Take_c1.chk : fnOk (cx space_Take_c1.lo space_Take_c1.od) Try.f29 (Try.f29.body.getD .skip) 4 = true := by kernel_rfl
theorem space_Take_c1.ok {first1 : Int} {bA1 : Option Addr} {bL1 : Nat} {bC1 : Nat} {cap1 : Option Addr} {cap2 : Option Addr} {K : Value → Heap → Prop} {h : Heap} (hx : space_Take_c1 first1 bA1 bL1 bC1 cap1 cap2 K h) : C.space_Take_c1 first1 bA1 bL1 bC1 cap1 cap2 h K :=
  fn_to (cxOk _ _) Try.func29 (by kernel_rfl) space_Take_c1.chk (by rw [space_Take_c1.eq]; exact hx)

-- 30
def space_Take_c1_c1 (from1 : Int) (x1 : Int) (cap1 : Option Addr) (K : Value → Heap → Prop) (h1 : Heap) : Prop :=
  onSome cap1 fun p1 =>
  Put p1 (.int .i64 from1) h1 fun h2 =>
  K (.bool false) h2
def space_Take_c1_c1.lo : Nat → List Nat × List (Nat × Ty) := fun n => match n with | _ => ([], [])
def space_Take_c1_c1.od : Nat → Od := fun n => match n with | _ => .nil
theorem space_Take_c1_c1.eq (from1 : Int) (x1 : Int) (cap1 : Option Addr) (K : Value → Heap → Prop) (h : Heap) : fnX (cx space_Take_c1_c1.lo space_Take_c1_c1.od) Try.f30 (Try.f30.body.getD .skip) [.int .i64 from1, .int .i64 x1, .pointer cap1] K h = space_Take_c1_c1 from1 x1 cap1 K h := by kernel_rfl
theorem space_Take_c1_c1.chk : fnOk (cx space_Take_c1_c1.lo space_Take_c1_c1.od) Try.f30 (Try.f30.body.getD .skip) 3 = true := by kernel_rfl
theorem space_Take_c1_c1.ok {from1 : Int} {x1 : Int} {cap1 : Option Addr} {K : Value → Heap → Prop} {h : Heap} (hx : space_Take_c1_c1 from1 x1 cap1 K h) : C.space_Take_c1_c1 from1 x1 cap1 h K :=
  fn_to (cxOk _ _) Try.func30 (by kernel_rfl) space_Take_c1_c1.chk (by rw [space_Take_c1_c1.eq]; exact hx)

-- 31
def space_Take_c2 (cap1 : Option Addr) (cap2 : Option Addr) (cap3 : Option Addr) (K : Value → Heap → Prop) (h1 : Heap) : Prop :=
  onSome cap1 fun p1 =>
  ∃ (q1 : Option Addr), cellOf h1 p1 = some (.pointer q1) ∧
  onSome cap2 fun p2 =>
  ∃ (n1 : Int), cellOf h1 p2 = some (.int .i64 n1) ∧
  C.space_back q1 n1 cap3 h1 fun r1 h2 =>
  r1 = .tuple #[] ∧
  K (.tuple #[]) h2
def space_Take_c2.lo : Nat → List Nat × List (Nat × Ty) := fun n => match n with | _ => ([], [])
def space_Take_c2.od : Nat → Od := fun n => match n with | _ => .nil
theorem space_Take_c2.eq (cap1 : Option Addr) (cap2 : Option Addr) (cap3 : Option Addr) (K : Value → Heap → Prop) (h : Heap) : fnX (cx space_Take_c2.lo space_Take_c2.od) Try.f31 (Try.f31.body.getD .skip) [.pointer cap1, .pointer cap2, .pointer cap3] K h = space_Take_c2 cap1 cap2 cap3 K h := by kernel_rfl
theorem space_Take_c2.chk : fnOk (cx space_Take_c2.lo space_Take_c2.od) Try.f31 (Try.f31.body.getD .skip) 3 = true := by kernel_rfl
theorem space_Take_c2.ok {cap1 : Option Addr} {cap2 : Option Addr} {cap3 : Option Addr} {K : Value → Heap → Prop} {h : Heap} (hx : space_Take_c2 cap1 cap2 cap3 K h) : C.space_Take_c2 cap1 cap2 cap3 h K :=
  fn_to (cxOk _ _) Try.func31 (by kernel_rfl) space_Take_c2.chk (by rw [space_Take_c2.eq]; exact hx)
theorem space_Take_c2.chkD : fnOkD (cx space_Take_c2.lo space_Take_c2.od) Try.f31 (Try.f31.body.getD .skip) 3 = true := by kernel_rfl
theorem space_Take_c2.okD {cap1 : Option Addr} {cap2 : Option Addr} {cap3 : Option Addr} {K : Heap → Prop} {h : Heap} (hx : space_Take_c2 cap1 cap2 cap3 (fun _ h' => K h') h) : D.space_Take_c2 cap1 cap2 cap3 h K :=
  fnD_to (cxOk _ _) Try.func31 (by kernel_rfl) space_Take_c2.chkD (by rw [space_Take_c2.eq]; exact hx)

-- 32
def space_back (t1 : Option Addr) (mark1 : Int) (e1 : Option Addr) (K : Value → Heap → Prop) (h1 : Heap) : Prop :=
  onSome e1 fun p1 =>
  ∃ (n1 : Int), cellOf h1 p1 = some (.int .i64 n1) ∧
  bif (n1 != 0) then (
  C.txn_Txn_Back t1 mark1 h1 fun r1 h2 =>
  ∃ (n2 : Int), r1 = .int .i64 n2 ∧
  K (.tuple #[]) h2) else (
  K (.tuple #[]) h1)
def space_back.lo : Nat → List Nat × List (Nat × Ty) := fun n => match n with | _ => ([], [])
def space_back.od : Nat → Od := fun n => match n with | _ => .nil
theorem space_back.eq (t1 : Option Addr) (mark1 : Int) (e1 : Option Addr) (K : Value → Heap → Prop) (h : Heap) : fnX (cx space_back.lo space_back.od) Try.f32 (Try.f32.body.getD .skip) [.pointer t1, .int .i64 mark1, .pointer e1] K h = space_back t1 mark1 e1 K h := by kernel_rfl
theorem space_back.chk : fnOk (cx space_back.lo space_back.od) Try.f32 (Try.f32.body.getD .skip) 3 = true := by kernel_rfl
theorem space_back.ok {t1 : Option Addr} {mark1 : Int} {e1 : Option Addr} {K : Value → Heap → Prop} {h : Heap} (hx : space_back t1 mark1 e1 K h) : C.space_back t1 mark1 e1 h K :=
  fn_to (cxOk _ _) Try.func32 (by kernel_rfl) space_back.chk (by rw [space_back.eq]; exact hx)

-- 33
def space_set (t1 : Option Addr) (g1 : List Value) (i1 : Int) (on1 : Bool) (K : Value → Heap → Prop) (h1 : Heap) : Prop :=
  New g1 29 h1 fun h2 =>
  ∃ cs1 : List Value, List.length cs1 = 5 ∧ Cells h2 ⟨h1.size, 0, none⟩ cs1 ∧
  C.space_bit t1 cs1 i1 h2 fun r1 h3 =>
  ∃ (n1 : Int) (sA1 : Option Addr) (sL1 : Nat) (sC1 : Nat) (n2 : Int) (n3 : Int), r1 = .tuple #[.int .i64 n1, .slice sA1 sL1 sC1, .int .i64 n2, .int .i64 n3] ∧
  bif (n3 != 0) then (
  K (.int .i64 n3) h3) else (
  C.bits_Put sA1 sL1 sC1 n2 on1 h3 fun r2 h4 =>
  ∃ (n4 : Int), r2 = .int .i64 n4 ∧
  bif (n4 != 0) then (
  K (.int .i64 n4) h4) else (
  C.txn_Txn_Write t1 n1 sA1 sL1 sC1 h4 fun r3 h5 =>
  ∃ (n5 : Int), r3 = .int .i64 n5 ∧
  K (.int .i64 n5) h5))
def space_set.lo : Nat → List Nat × List (Nat × Ty) := fun n => match n with | _ => ([], [])
def space_set.od : Nat → Od := fun n => match n with | _ => .nil
theorem space_set.eq (t1 : Option Addr) (g1 : List Value) (i1 : Int) (on1 : Bool) (K : Value → Heap → Prop) (h : Heap) : fnX (cx space_set.lo space_set.od) Try.f33 (Try.f33.body.getD .skip) [.pointer t1, .agg ⟨g1⟩, .int .i64 i1, .bool on1] K h = space_set t1 g1 i1 on1 K h := by kernel_rfl
theorem space_set.chk : fnOk (cx space_set.lo space_set.od) Try.f33 (Try.f33.body.getD .skip) 4 = true := by kernel_rfl
theorem space_set.ok {t1 : Option Addr} {g1 : List Value} {i1 : Int} {on1 : Bool} {K : Value → Heap → Prop} {h : Heap} (hx : space_set t1 g1 i1 on1 K h) : C.space_set t1 g1 i1 on1 h K :=
  fn_to (cxOk _ _) Try.func33 (by kernel_rfl) space_set.chk (by rw [space_set.eq]; exact hx)

-- 34
def adisk_Disk_Blocks (d1 : Option Addr) (K : Value → Heap → Prop) (h1 : Heap) : Prop :=
  onSome d1 fun p1 =>
  ∃ (sA1 : Option Addr) (sL1 : Nat) (sC1 : Nat), cellOf h1 (Addr.add p1 0) = some (.slice sA1 sL1 sC1) ∧
  K (.int .i64 (sL1 : Int)) h1
def adisk_Disk_Blocks.lo : Nat → List Nat × List (Nat × Ty) := fun n => match n with | _ => ([], [])
def adisk_Disk_Blocks.od : Nat → Od := fun n => match n with | _ => .nil
theorem adisk_Disk_Blocks.eq (d1 : Option Addr) (K : Value → Heap → Prop) (h : Heap) : fnX (cx adisk_Disk_Blocks.lo adisk_Disk_Blocks.od) Try.f34 (Try.f34.body.getD .skip) [.pointer d1] K h = adisk_Disk_Blocks d1 K h := by kernel_rfl
theorem adisk_Disk_Blocks.chk : fnOk (cx adisk_Disk_Blocks.lo adisk_Disk_Blocks.od) Try.f34 (Try.f34.body.getD .skip) 1 = true := by kernel_rfl
theorem adisk_Disk_Blocks.ok {d1 : Option Addr} {K : Value → Heap → Prop} {h : Heap} (hx : adisk_Disk_Blocks d1 K h) : C.adisk_Disk_Blocks d1 h K :=
  fn_to (cxOk _ _) Try.func34 (by kernel_rfl) adisk_Disk_Blocks.chk (by rw [adisk_Disk_Blocks.eq]; exact hx)

-- 35
def slices_Clone_byte_byte (sA1 : Option Addr) (sL1 : Nat) (sC1 : Nat) (K : Value → Heap → Prop) (h1 : Heap) : Prop :=
  bif (Option.isNone sA1) then (
  K (.slice none 0 0) h1) else (
  New [] 5 h1 fun h2 =>
  ∃ new1 : List Value, List.length new1 = sL1 * 1 ∧ SlCells h2 sA1 new1 ∧ (∀ v ∈ new1, v.oneCell' = true) ∧
  AppendP ti5 5 (some ⟨h1.size, 0, none⟩) 0 0 sL1 new1 h2 fun sA2 sL2 sC2 h3 =>
  K (.slice sA2 sL2 sC2) h3)
def slices_Clone_byte_byte.lo : Nat → List Nat × List (Nat × Ty) := fun n => match n with | _ => ([], [])
def slices_Clone_byte_byte.od : Nat → Od := fun n => match n with | _ => .nil
theorem slices_Clone_byte_byte.eq (sA1 : Option Addr) (sL1 : Nat) (sC1 : Nat) (K : Value → Heap → Prop) (h : Heap) : fnX (cx slices_Clone_byte_byte.lo slices_Clone_byte_byte.od) Try.f35 (Try.f35.body.getD .skip) [.slice sA1 sL1 sC1] K h = slices_Clone_byte_byte sA1 sL1 sC1 K h := by kernel_rfl
theorem slices_Clone_byte_byte.chk : fnOk (cx slices_Clone_byte_byte.lo slices_Clone_byte_byte.od) Try.f35 (Try.f35.body.getD .skip) 1 = true := by kernel_rfl
theorem slices_Clone_byte_byte.ok {sA1 : Option Addr} {sL1 : Nat} {sC1 : Nat} {K : Value → Heap → Prop} {h : Heap} (hx : slices_Clone_byte_byte sA1 sL1 sC1 K h) : C.slices_Clone_byte_byte sA1 sL1 sC1 h K :=
  fn_to (cxOk _ _) Try.func35 (by kernel_rfl) slices_Clone_byte_byte.chk (by rw [slices_Clone_byte_byte.eq]; exact hx)

-- 36
def adisk_Disk_Read (d1 : Option Addr) (i1 : Int) (K : Value → Heap → Prop) (h1 : Heap) : Prop :=
  onSome d1 fun p1 =>
  ∃ (b1 : Bool), cellOf h1 (Addr.add p1 4) = some (.bool b1) ∧
  bif b1 then (
  K (.tuple #[.slice none 0 0, .int .i64 30]) h1) else (
  C.adisk_Disk_has d1 i1 h1 fun r1 h2 =>
  ∃ (b2 : Bool), r1 = .bool b2 ∧
  bif (!b2) then (
  K (.tuple #[.slice none 0 0, .int .i64 31]) h2) else (
  onSome d1 fun p2 =>
  ∃ (sA1 : Option Addr) (sL1 : Nat) (sC1 : Nat), cellOf h2 (Addr.add p2 0) = some (.slice sA1 sL1 sC1) ∧
  (0 ≤ i1 ∧ i1 < (sL1 : Int)) ∧
  onSome sA1 fun p3 =>
  ∃ cs1 : List Value, List.length cs1 = 512 ∧ Cells h2 (Addr.add p3 ((Int.toNat i1) * 512)) cs1 ∧
  NewRow z84 84 cs1 512 h2 fun h4 =>
  onSome d1 fun p4 =>
  ∃ (sA2 : Option Addr) (sL2 : Nat) (sC2 : Nat), cellOf h4 (Addr.add p4 1) = some (.slice sA2 sL2 sC2) ∧
  ∃ (I1 : Int → Heap → Prop) (M1 : Int → Heap → Nat), I1 0 h4 ∧
  ∀ (n1 : Int), ∀ h5 : Heap, I1 n1 h5 →
  bif (decide (n1 < (sL2 : Int))) then (
  (0 ≤ n1 ∧ n1 < (sL2 : Int)) ∧
  onSome sA2 fun p5 =>
  ∃ cs2 : List Value, List.length cs2 = 513 ∧ Cells h5 (Addr.add p5 ((Int.toNat n1) * 513)) cs2 ∧
  NewRow z94 94 cs2 513 h5 fun h7 =>
  ∃ (n2 : Int), cellOf h7 (Addr.add ⟨h5.size, 0, none⟩ 0) = some (.int .i64 n2) ∧
  bif (n2 == i1) then (
  ∃ cs3 : List Value, List.length cs3 = 512 ∧ Cells h7 (Addr.add ⟨h5.size, 0, none⟩ 1) cs3 ∧
  PutRow ⟨h2.size, 0, none⟩ cs3 512 h7 fun h8 =>
  I1 (IntKind.wrap .i64 (n1 + 1)) h8 ∧ M1 (IntKind.wrap .i64 (n1 + 1)) h8 < M1 n1 h5) else (
  I1 (IntKind.wrap .i64 (n1 + 1)) h7 ∧ M1 (IntKind.wrap .i64 (n1 + 1)) h7 < M1 n1 h5)) else (
  K (.tuple #[.slice (some ⟨h2.size, 0, none⟩) 512 512, .int .i64 0]) h5)))
def adisk_Disk_Read.lo : Nat → List Nat × List (Nat × Ty) := fun n => match n with | 7 => ([1, 6, 29, 30], [(31, .int .i64)]) | _ => ([], [])
def adisk_Disk_Read.od : Nat → Od := fun n => match n with | _ => .nil
theorem adisk_Disk_Read.eq (d1 : Option Addr) (i1 : Int) (K : Value → Heap → Prop) (h : Heap) : fnX (cx adisk_Disk_Read.lo adisk_Disk_Read.od) Try.f36 (Try.f36.body.getD .skip) [.pointer d1, .int .i64 i1] K h = adisk_Disk_Read d1 i1 K h := by kernel_rfl
theorem adisk_Disk_Read.chk : fnOk (cx adisk_Disk_Read.lo adisk_Disk_Read.od) Try.f36 (Try.f36.body.getD .skip) 2 = true := by kernel_rfl
theorem adisk_Disk_Read.ok {d1 : Option Addr} {i1 : Int} {K : Value → Heap → Prop} {h : Heap} (hx : adisk_Disk_Read d1 i1 K h) : C.adisk_Disk_Read d1 i1 h K :=
  fn_to (cxOk _ _) Try.func36 (by kernel_rfl) adisk_Disk_Read.chk (by rw [adisk_Disk_Read.eq]; exact hx)

-- 38
def maps_Keys_map_int_byte_int_byte (m1 : Option Nat) (K : Value → Heap → Prop) (h1 : Heap) : Prop :=
  New [.map m1] 66 h1 fun h2 =>
  K (.func (.func 49) #[] ⟨[.pointer (some ⟨h1.size, 0, none⟩)]⟩) h2
def maps_Keys_map_int_byte_int_byte.lo : Nat → List Nat × List (Nat × Ty) := fun n => match n with | _ => ([], [])
def maps_Keys_map_int_byte_int_byte.od : Nat → Od := fun n => match n with | _ => .nil
theorem maps_Keys_map_int_byte_int_byte.eq (m1 : Option Nat) (K : Value → Heap → Prop) (h : Heap) : fnX (cx maps_Keys_map_int_byte_int_byte.lo maps_Keys_map_int_byte_int_byte.od) Try.f38 (Try.f38.body.getD .skip) [.map m1] K h = maps_Keys_map_int_byte_int_byte m1 K h := by kernel_rfl
theorem maps_Keys_map_int_byte_int_byte.chk : fnOk (cx maps_Keys_map_int_byte_int_byte.lo maps_Keys_map_int_byte_int_byte.od) Try.f38 (Try.f38.body.getD .skip) 1 = true := by kernel_rfl
theorem maps_Keys_map_int_byte_int_byte.ok {m1 : Option Nat} {K : Value → Heap → Prop} {h : Heap} (hx : maps_Keys_map_int_byte_int_byte m1 K h) : C.maps_Keys_map_int_byte_int_byte m1 h K :=
  fn_to (cxOk _ _) Try.func38 (by kernel_rfl) maps_Keys_map_int_byte_int_byte.chk (by rw [maps_Keys_map_int_byte_int_byte.eq]; exact hx)

-- 39
def txn_Txn_Write_c1 (cap1 : Option Addr) (cap2 : Option Addr) (cap3 : Option Addr) (cap4 : Option Addr) (K : Value → Heap → Prop) (h1 : Heap) : Prop :=
  onSome cap1 fun p1 =>
  ∃ (b1 : Bool), cellOf h1 p1 = some (.bool b1) ∧
  bif b1 then (
  onSome cap3 fun p2 =>
  ∃ (q1 : Option Addr), cellOf h1 p2 = some (.pointer q1) ∧
  onSome q1 fun p3 =>
  ∃ (m1 : Option Nat), cellOf h1 (Addr.add p3 1) = some (.map m1) ∧
  onSome cap4 fun p4 =>
  ∃ (n1 : Int), cellOf h1 p4 = some (.int .i64 n1) ∧
  onSome cap2 fun p5 =>
  ∃ (sA1 : Option Addr) (sL1 : Nat) (sC1 : Nat), cellOf h1 p5 = some (.slice sA1 sL1 sC1) ∧
  onSome m1 fun r1 =>
  MapPut (.int .i64) r1 (.i n1) (.slice sA1 sL1 sC1) h1 fun h2 =>
  K (.tuple #[]) h2) else (
  onSome cap3 fun p6 =>
  ∃ (q2 : Option Addr), cellOf h1 p6 = some (.pointer q2) ∧
  onSome q2 fun p7 =>
  ∃ (m2 : Option Nat), cellOf h1 (Addr.add p7 1) = some (.map m2) ∧
  onSome cap4 fun p8 =>
  ∃ (n2 : Int), cellOf h1 p8 = some (.int .i64 n2) ∧
  MapDel (.int .i64) m2 (.i n2) h1 fun h3 =>
  K (.tuple #[]) h3)
def txn_Txn_Write_c1.lo : Nat → List Nat × List (Nat × Ty) := fun n => match n with | _ => ([], [])
def txn_Txn_Write_c1.od : Nat → Od := fun n => match n with | 1 => (.op 0 [] (.op 1 [] (.op 2 [] (.op 3 [] (.op 4 [] (.op 5 [] (.op 6 [] .nil))))))) | 2 => (.op 0 [] (.op 1 [] (.op 2 [] (.op 3 [] (.op 4 [] (.op 5 [] .nil)))))) | _ => .nil
theorem txn_Txn_Write_c1.eq (cap1 : Option Addr) (cap2 : Option Addr) (cap3 : Option Addr) (cap4 : Option Addr) (K : Value → Heap → Prop) (h : Heap) : fnX (cx txn_Txn_Write_c1.lo txn_Txn_Write_c1.od) Try.f39 (Try.f39.body.getD .skip) [.pointer cap1, .pointer cap2, .pointer cap3, .pointer cap4] K h = txn_Txn_Write_c1 cap1 cap2 cap3 cap4 K h := by kernel_rfl
theorem txn_Txn_Write_c1.chk : fnOk (cx txn_Txn_Write_c1.lo txn_Txn_Write_c1.od) Try.f39 (Try.f39.body.getD .skip) 4 = true := by kernel_rfl
theorem txn_Txn_Write_c1.ok {cap1 : Option Addr} {cap2 : Option Addr} {cap3 : Option Addr} {cap4 : Option Addr} {K : Value → Heap → Prop} {h : Heap} (hx : txn_Txn_Write_c1 cap1 cap2 cap3 cap4 K h) : C.txn_Txn_Write_c1 cap1 cap2 cap3 cap4 h K :=
  fn_to (cxOk _ _) Try.func39 (by kernel_rfl) txn_Txn_Write_c1.chk (by rw [txn_Txn_Write_c1.eq]; exact hx)

-- 40
def adisk_New (n1 : Int) (K : Value → Heap → Prop) (h1 : Heap) : Prop :=
  bif (decide (n1 < 1)) then (
  K (.tuple #[.pointer none, .int .i64 32]) h1) else (
  bif (decide (n1 > 16384)) then (
  K (.tuple #[.pointer none, .int .i64 32]) h1) else (
  (0 ≤ n1 ∧ n1 ≤ n1 ∧ (512 : Int) * n1 ≤ 281474976710656 ∧ n1 ≤ 281474976710656) ∧
  New (repCells z84 (Int.toNat n1)) 84 h1 fun h2 =>
  New [.slice (some ⟨h1.size, 0, none⟩) (Int.toNat n1) (Int.toNat n1), .slice none 0 0, .int .i64 0, .slice none 0 0, .bool false, .int .i64 0, .int .i64 0, .slice none 0 0] 82 h2 fun h3 =>
  K (.tuple #[.pointer (some ⟨h2.size, 0, none⟩), .int .i64 0]) h3))
def adisk_New.lo : Nat → List Nat × List (Nat × Ty) := fun n => match n with | _ => ([], [])
def adisk_New.od : Nat → Od := fun n => match n with | _ => .nil
theorem adisk_New.eq (n1 : Int) (K : Value → Heap → Prop) (h : Heap) : fnX (cx adisk_New.lo adisk_New.od) Try.f40 (Try.f40.body.getD .skip) [.int .i64 n1] K h = adisk_New n1 K h := by kernel_rfl
theorem adisk_New.chk : fnOk (cx adisk_New.lo adisk_New.od) Try.f40 (Try.f40.body.getD .skip) 1 = true := by kernel_rfl
theorem adisk_New.ok {n1 : Int} {K : Value → Heap → Prop} {h : Heap} (hx : adisk_New n1 K h) : C.adisk_New n1 h K :=
  fn_to (cxOk _ _) Try.func40 (by kernel_rfl) adisk_New.chk (by rw [adisk_New.eq]; exact hx)

-- 41
def geo_Bit.k1 (i1 : Int) (h1 : Heap) (h2 : Heap) (K : Value → Heap → Prop) : Prop :=
  ∃ (n2 : Int), cellOf h2 (Addr.add ⟨h1.size, 0, none⟩ 1) = some (.int .i64 n2) ∧
  K (.tuple #[.int .i64 (IntKind.wrap .i64 (n2 + (IntKind.wrap .i64 (Int.tdiv i1 4096)))), .int .i64 (Int.tmod i1 4096), .int .i64 0]) h2
def geo_Bit (g1 : List Value) (i1 : Int) (K : Value → Heap → Prop) (h1 : Heap) : Prop :=
  New g1 29 h1 fun h2 =>
  bif (decide (i1 < 0)) then (
  K (.tuple #[.int .i64 0, .int .i64 0, .int .i64 31]) h2) else (
  ∃ (n1 : Int), cellOf h2 (Addr.add ⟨h1.size, 0, none⟩ 0) = some (.int .i64 n1) ∧
  bif (decide (i1 ≥ n1)) then (
  K (.tuple #[.int .i64 0, .int .i64 0, .int .i64 31]) h2) else (
  geo_Bit.k1 i1 h1 h2 K))
def geo_Bit.lo : Nat → List Nat × List (Nat × Ty) := fun n => match n with | _ => ([], [])
def geo_Bit.od : Nat → Od := fun n => match n with | _ => .nil
theorem geo_Bit.eq (g1 : List Value) (i1 : Int) (K : Value → Heap → Prop) (h : Heap) : fnX (cx geo_Bit.lo geo_Bit.od) Try.f41 (Try.f41.body.getD .skip) [.agg ⟨g1⟩, .int .i64 i1] K h = geo_Bit g1 i1 K h := by kernel_rfl
theorem geo_Bit.chk : fnOk (cx geo_Bit.lo geo_Bit.od) Try.f41 (Try.f41.body.getD .skip) 2 = true := by kernel_rfl
theorem geo_Bit.ok {g1 : List Value} {i1 : Int} {K : Value → Heap → Prop} {h : Heap} (hx : geo_Bit g1 i1 K h) : C.geo_Bit g1 i1 h K :=
  fn_to (cxOk _ _) Try.func41 (by kernel_rfl) geo_Bit.chk (by rw [geo_Bit.eq]; exact hx)

-- 42
def bits_has (bA1 : Option Addr) (bL1 : Nat) (bC1 : Nat) (i1 : Int) (K : Value → Heap → Prop) (h1 : Heap) : Prop :=
  bif (decide (i1 ≥ 0)) then (
  K (.bool (decide (i1 < (IntKind.wrap .i64 (8 * (bL1 : Int)))))) h1) else (
  K (.bool false) h1)
def bits_has.lo : Nat → List Nat × List (Nat × Ty) := fun n => match n with | _ => ([], [])
def bits_has.od : Nat → Od := fun n => match n with | _ => .nil
theorem bits_has.eq (bA1 : Option Addr) (bL1 : Nat) (bC1 : Nat) (i1 : Int) (K : Value → Heap → Prop) (h : Heap) : fnX (cx bits_has.lo bits_has.od) Try.f42 (Try.f42.body.getD .skip) [.slice bA1 bL1 bC1, .int .i64 i1] K h = bits_has bA1 bL1 bC1 i1 K h := by kernel_rfl
theorem bits_has.chk : fnOk (cx bits_has.lo bits_has.od) Try.f42 (Try.f42.body.getD .skip) 2 = true := by kernel_rfl
theorem bits_has.ok {bA1 : Option Addr} {bL1 : Nat} {bC1 : Nat} {i1 : Int} {K : Value → Heap → Prop} {h : Heap} (hx : bits_has bA1 bL1 bC1 i1 K h) : C.bits_has bA1 bL1 bC1 i1 h K :=
  fn_to (cxOk _ _) Try.func42 (by kernel_rfl) bits_has.chk (by rw [bits_has.eq]; exact hx)

-- 43
def bits_on (bA1 : Option Addr) (bL1 : Nat) (bC1 : Nat) (i1 : Int) (K : Value → Heap → Prop) (h1 : Heap) : Prop :=
  (0 ≤ (IntKind.wrap .i64 (Int.tdiv i1 8)) ∧ (IntKind.wrap .i64 (Int.tdiv i1 8)) < (bL1 : Int)) ∧
  onSome bA1 fun p1 =>
  ∃ (n1 : Int), cellOf h1 (Addr.add p1 (Int.toNat (IntKind.wrap .i64 (Int.tdiv i1 8)))) = some (.int .u8 n1) ∧
  if (Int.tmod i1 8) < 0 then False else
  K (.bool ((bitsI .and .u8 (Int.fdiv n1 (2 ^ min (Int.toNat (Int.tmod i1 8)) 8)) 1) == 1)) h1
def bits_on.lo : Nat → List Nat × List (Nat × Ty) := fun n => match n with | _ => ([], [])
def bits_on.od : Nat → Od := fun n => match n with | _ => .nil
theorem bits_on.eq (bA1 : Option Addr) (bL1 : Nat) (bC1 : Nat) (i1 : Int) (K : Value → Heap → Prop) (h : Heap) : fnX (cx bits_on.lo bits_on.od) Try.f43 (Try.f43.body.getD .skip) [.slice bA1 bL1 bC1, .int .i64 i1] K h = bits_on bA1 bL1 bC1 i1 K h := by kernel_rfl
theorem bits_on.chk : fnOk (cx bits_on.lo bits_on.od) Try.f43 (Try.f43.body.getD .skip) 2 = true := by kernel_rfl
theorem bits_on.ok {bA1 : Option Addr} {bL1 : Nat} {bC1 : Nat} {i1 : Int} {K : Value → Heap → Prop} {h : Heap} (hx : bits_on bA1 bL1 bC1 i1 K h) : C.bits_on bA1 bL1 bC1 i1 h K :=
  fn_to (cxOk _ _) Try.func43 (by kernel_rfl) bits_on.chk (by rw [bits_on.eq]; exact hx)

-- 44
def bits_Runs (bA1 : Option Addr) (bL1 : Nat) (bC1 : Nat) (K : Value → Heap → Prop) (h1 : Heap) : Prop :=
  New [] 5 h1 fun h2 =>
  ∃ new1 : List Value, List.length new1 = bL1 * 1 ∧ SlCells h2 bA1 new1 ∧ (∀ v ∈ new1, v.oneCell' = true) ∧
  AppendP ti5 5 (some ⟨h1.size, 0, none⟩) 0 0 bL1 new1 h2 fun sA1 sL1 sC1 h3 =>
  New z22 22 h3 fun h4 =>
  Put ⟨h3.size, 0, none⟩ (.slice sA1 sL1 sC1) h4 fun h5 =>
  K (.func (.func 50) #[] ⟨[.pointer (some ⟨h3.size, 0, none⟩)]⟩) h5
def bits_Runs.lo : Nat → List Nat × List (Nat × Ty) := fun n => match n with | _ => ([], [])
def bits_Runs.od : Nat → Od := fun n => match n with | _ => .nil
theorem bits_Runs.eq (bA1 : Option Addr) (bL1 : Nat) (bC1 : Nat) (K : Value → Heap → Prop) (h : Heap) : fnX (cx bits_Runs.lo bits_Runs.od) Try.f44 (Try.f44.body.getD .skip) [.slice bA1 bL1 bC1] K h = bits_Runs bA1 bL1 bC1 K h := by kernel_rfl
theorem bits_Runs.chk : fnOk (cx bits_Runs.lo bits_Runs.od) Try.f44 (Try.f44.body.getD .skip) 1 = true := by kernel_rfl
theorem bits_Runs.ok {bA1 : Option Addr} {bL1 : Nat} {bC1 : Nat} {K : Value → Heap → Prop} {h : Heap} (hx : bits_Runs bA1 bL1 bC1 K h) : C.bits_Runs bA1 bL1 bC1 h K :=
  fn_to (cxOk _ _) Try.func44 (by kernel_rfl) bits_Runs.chk (by rw [bits_Runs.eq]; exact hx)

-- 45
def bits_Put (bA1 : Option Addr) (bL1 : Nat) (bC1 : Nat) (i1 : Int) (is1 : Bool) (K : Value → Heap → Prop) (h1 : Heap) : Prop :=
  C.bits_has bA1 bL1 bC1 i1 h1 fun r1 h2 =>
  ∃ (b1 : Bool), r1 = .bool b1 ∧
  bif (!b1) then (
  K (.int .i64 80) h2) else (
  bif is1 then (
  (0 ≤ (IntKind.wrap .i64 (Int.tdiv i1 8)) ∧ (IntKind.wrap .i64 (Int.tdiv i1 8)) < (bL1 : Int)) ∧
  onSome bA1 fun p1 =>
  ∃ (n1 : Int), cellOf h2 (Addr.add p1 (Int.toNat (IntKind.wrap .i64 (Int.tdiv i1 8)))) = some (.int .u8 n1) ∧
  if (Int.tmod i1 8) < 0 then False else
  (0 ≤ (IntKind.wrap .i64 (Int.tdiv i1 8)) ∧ (IntKind.wrap .i64 (Int.tdiv i1 8)) < (bL1 : Int)) ∧
  onSome bA1 fun p2 =>
  Put (Addr.add p2 (Int.toNat (IntKind.wrap .i64 (Int.tdiv i1 8)))) (.int .u8 (bitsI .or .u8 n1 (IntKind.wrap .u8 ((1 * 2 ^ min (Int.toNat (Int.tmod i1 8)) 8))))) h2 fun h3 =>
  K (.int .i64 0) h3) else (
  (0 ≤ (IntKind.wrap .i64 (Int.tdiv i1 8)) ∧ (IntKind.wrap .i64 (Int.tdiv i1 8)) < (bL1 : Int)) ∧
  onSome bA1 fun p3 =>
  ∃ (n2 : Int), cellOf h2 (Addr.add p3 (Int.toNat (IntKind.wrap .i64 (Int.tdiv i1 8)))) = some (.int .u8 n2) ∧
  if (Int.tmod i1 8) < 0 then False else
  (0 ≤ (IntKind.wrap .i64 (Int.tdiv i1 8)) ∧ (IntKind.wrap .i64 (Int.tdiv i1 8)) < (bL1 : Int)) ∧
  onSome bA1 fun p4 =>
  Put (Addr.add p4 (Int.toNat (IntKind.wrap .i64 (Int.tdiv i1 8)))) (.int .u8 (bitsI .andNot .u8 n2 (IntKind.wrap .u8 ((1 * 2 ^ min (Int.toNat (Int.tmod i1 8)) 8))))) h2 fun h4 =>
  K (.int .i64 0) h4))
def bits_Put.lo : Nat → List Nat × List (Nat × Ty) := fun n => match n with | _ => ([], [])
def bits_Put.od : Nat → Od := fun n => match n with | 4 => (.op 0 [] (.op 1 [] (.op 2 [] (.op 3 [] (.op 4 [] (.op 5 [] (.op 6 [] (.op 7 [] (.op 8 [] (.op 9 [] (.op 10 [] .nil))))))))))) | 5 => (.op 0 [] (.op 1 [] (.op 2 [] (.op 3 [] (.op 4 [] (.op 5 [] (.op 6 [] (.op 7 [] (.op 8 [] (.op 9 [] (.op 10 [] .nil))))))))))) | _ => .nil
theorem bits_Put.eq (bA1 : Option Addr) (bL1 : Nat) (bC1 : Nat) (i1 : Int) (is1 : Bool) (K : Value → Heap → Prop) (h : Heap) : fnX (cx bits_Put.lo bits_Put.od) Try.f45 (Try.f45.body.getD .skip) [.slice bA1 bL1 bC1, .int .i64 i1, .bool is1] K h = bits_Put bA1 bL1 bC1 i1 is1 K h := by kernel_rfl
theorem bits_Put.chk : fnOk (cx bits_Put.lo bits_Put.od) Try.f45 (Try.f45.body.getD .skip) 3 = true := by kernel_rfl
theorem bits_Put.ok {bA1 : Option Addr} {bL1 : Nat} {bC1 : Nat} {i1 : Int} {is1 : Bool} {K : Value → Heap → Prop} {h : Heap} (hx : bits_Put bA1 bL1 bC1 i1 is1 K h) : C.bits_Put bA1 bL1 bC1 i1 is1 h K :=
  fn_to (cxOk _ _) Try.func45 (by kernel_rfl) bits_Put.chk (by rw [bits_Put.eq]; exact hx)

-- 46
def adisk_Disk_has (d1 : Option Addr) (i1 : Int) (K : Value → Heap → Prop) (h1 : Heap) : Prop :=
  bif (decide (i1 ≥ 0)) then (
  onSome d1 fun p1 =>
  ∃ (sA1 : Option Addr) (sL1 : Nat) (sC1 : Nat), cellOf h1 (Addr.add p1 0) = some (.slice sA1 sL1 sC1) ∧
  K (.bool (decide (i1 < (sL1 : Int)))) h1) else (
  K (.bool false) h1)
def adisk_Disk_has.lo : Nat → List Nat × List (Nat × Ty) := fun n => match n with | _ => ([], [])
def adisk_Disk_has.od : Nat → Od := fun n => match n with | _ => .nil
theorem adisk_Disk_has.eq (d1 : Option Addr) (i1 : Int) (K : Value → Heap → Prop) (h : Heap) : fnX (cx adisk_Disk_has.lo adisk_Disk_has.od) Try.f46 (Try.f46.body.getD .skip) [.pointer d1, .int .i64 i1] K h = adisk_Disk_has d1 i1 K h := by kernel_rfl
theorem adisk_Disk_has.chk : fnOk (cx adisk_Disk_has.lo adisk_Disk_has.od) Try.f46 (Try.f46.body.getD .skip) 2 = true := by kernel_rfl
theorem adisk_Disk_has.ok {d1 : Option Addr} {i1 : Int} {K : Value → Heap → Prop} {h : Heap} (hx : adisk_Disk_has d1 i1 K h) : C.adisk_Disk_has d1 i1 h K :=
  fn_to (cxOk _ _) Try.func46 (by kernel_rfl) adisk_Disk_has.chk (by rw [adisk_Disk_has.eq]; exact hx)

-- 50
def bits_Runs_c1.k2 (yield1 : Value) (i1 : Int) (h2 : Heap) (I1 : Int → Heap → Prop) (M1 : Int → Heap → Nat) (i3 : Int) (i5 : Int) (h10 : Heap) (K : Value → Heap → Prop) : Prop :=
  bif (i5 == i3) then (
  K (.tuple #[]) h10) else (
  HCallsV Try.prog yield1 [.int .i64 i3, .int .i64 (IntKind.wrap .i64 (i5 - i3))] h10 fun r5 h11 =>
  ∃ (b5 : Bool), r5 = .bool b5 ∧
  bif (!b5) then (
  K (.tuple #[]) h11) else (
  I1 i5 h11 ∧ M1 i5 h11 < M1 i1 h2))
def bits_Runs_c1.k1 (yield1 : Value) (cap1 : Option Addr) (i1 : Int) (h2 : Heap) (I1 : Int → Heap → Prop) (M1 : Int → Heap → Nat) (i3 : Int) (h6 : Heap) (K : Value → Heap → Prop) : Prop :=
  ∃ (I3 : Int → Heap → Prop) (M3 : Int → Heap → Nat), I3 i3 h6 ∧
  ∀ (i4 : Int), ∀ h7 : Heap, I3 i4 h7 →
  onSome cap1 fun p3 =>
  ∃ (sA3 : Option Addr) (sL3 : Nat) (sC3 : Nat), cellOf h7 p3 = some (.slice sA3 sL3 sC3) ∧
  C.bits_has sA3 sL3 sC3 i4 h7 fun r3 h8 =>
  ∃ (b3 : Bool), r3 = .bool b3 ∧
  bif b3 then (
  onSome cap1 fun p4 =>
  ∃ (sA4 : Option Addr) (sL4 : Nat) (sC4 : Nat), cellOf h8 p4 = some (.slice sA4 sL4 sC4) ∧
  C.bits_on sA4 sL4 sC4 i4 h8 fun r4 h9 =>
  ∃ (b4 : Bool), r4 = .bool b4 ∧
  bif (!b4) then (
  I3 (IntKind.wrap .i64 (i4 + 1)) h9 ∧ M3 (IntKind.wrap .i64 (i4 + 1)) h9 < M3 i4 h7) else (
  bits_Runs_c1.k2 yield1 i1 h2 I1 M1 i3 i4 h9 K)) else (
  bits_Runs_c1.k2 yield1 i1 h2 I1 M1 i3 i4 h8 K)
def bits_Runs_c1 (yield1 : Value) (cap1 : Option Addr) (K : Value → Heap → Prop) (h1 : Heap) : Prop :=
  ∃ (I1 : Int → Heap → Prop) (M1 : Int → Heap → Nat), I1 0 h1 ∧
  ∀ (i1 : Int), ∀ h2 : Heap, I1 i1 h2 →
  ∃ (I2 : Int → Heap → Prop) (M2 : Int → Heap → Nat), I2 i1 h2 ∧
  ∀ (i2 : Int), ∀ h3 : Heap, I2 i2 h3 →
  onSome cap1 fun p1 =>
  ∃ (sA1 : Option Addr) (sL1 : Nat) (sC1 : Nat), cellOf h3 p1 = some (.slice sA1 sL1 sC1) ∧
  C.bits_has sA1 sL1 sC1 i2 h3 fun r1 h4 =>
  ∃ (b1 : Bool), r1 = .bool b1 ∧
  bif b1 then (
  onSome cap1 fun p2 =>
  ∃ (sA2 : Option Addr) (sL2 : Nat) (sC2 : Nat), cellOf h4 p2 = some (.slice sA2 sL2 sC2) ∧
  C.bits_on sA2 sL2 sC2 i2 h4 fun r2 h5 =>
  ∃ (b2 : Bool), r2 = .bool b2 ∧
  bif b2 then (
  I2 (IntKind.wrap .i64 (i2 + 1)) h5 ∧ M2 (IntKind.wrap .i64 (i2 + 1)) h5 < M2 i2 h3) else (
  bits_Runs_c1.k1 yield1 cap1 i1 h2 I1 M1 i2 h5 K)) else (
  bits_Runs_c1.k1 yield1 cap1 i1 h2 I1 M1 i2 h4 K)
def bits_Runs_c1.lo : Nat → List Nat × List (Nat × Ty) := fun n => match n with | 1 => ([0, 1], [(3, .int .i64)]) | 4 => ([0, 1, 4], [(3, .int .i64)]) | _ => ([], [])
def bits_Runs_c1.od : Nat → Od := fun n => match n with | _ => .nil
theorem bits_Runs_c1.eq (yield1 : Value) (cap1 : Option Addr) (K : Value → Heap → Prop) (h : Heap) : fnX (cx bits_Runs_c1.lo bits_Runs_c1.od) Try.f50 (Try.f50.body.getD .skip) [yield1, .pointer cap1] K h = bits_Runs_c1 yield1 cap1 K h := by kernel_rfl
theorem bits_Runs_c1.chk : fnOk (cx bits_Runs_c1.lo bits_Runs_c1.od) Try.f50 (Try.f50.body.getD .skip) 2 = true := by kernel_rfl
theorem bits_Runs_c1.ok {yield1 : Value} {cap1 : Option Addr} {K : Value → Heap → Prop} {h : Heap} (hx : bits_Runs_c1 yield1 cap1 K h) : C.bits_Runs_c1 yield1 cap1 h K :=
  fn_to (cxOk _ _) Try.func50 (by kernel_rfl) bits_Runs_c1.chk (by rw [bits_Runs_c1.eq]; exact hx)
end Go.Proofs.Ytpleolmalbdpnaa.W
