/-
  WHAT THE FUNCTIONS COMPUTE, as formulas; each held against the loaded code by the kernel. Written by program (gen.py).
-/
import Derived.Test.YtgpkcakanieodaaDoorTab
namespace Go.Proofs.YtgpkcakanieodaaDoor.W
open Go Go.Proofs Go.Proofs.YtgpkcakanieodaaDoor.Wx
-- 37
def rec_lie (bA1 : Option Addr) (bL1 : Nat) (bC1 : Nat) (at1 : Int) (n1 : Int) (K : Value → Heap → Prop) (h1 : Heap) : Prop :=
  bif (decide (at1 ≥ 0)) then (
  bif (decide (n1 ≥ 0)) then (
  bif (decide (at1 ≤ (bL1 : Int))) then (
  K (.bool (decide (n1 ≤ (IntKind.wrap .i64 ((bL1 : Int) - at1))))) h1) else (
  K (.bool false) h1)) else (
  K (.bool false) h1)) else (
  K (.bool false) h1)
def rec_lie.lo : Nat → List Nat × List (Nat × Ty) := fun n => match n with | _ => ([], [])
def rec_lie.od : Nat → Od := fun n => match n with | _ => .nil
theorem rec_lie.eq (bA1 : Option Addr) (bL1 : Nat) (bC1 : Nat) (at1 : Int) (n1 : Int) (K : Value → Heap → Prop) (h : Heap) : fnX (cx rec_lie.lo rec_lie.od) Tryd.f37 (Tryd.f37.body.getD .skip) [.slice bA1 bL1 bC1, .int .i64 at1, .int .i64 n1] K h = rec_lie bA1 bL1 bC1 at1 n1 K h := by kernel_rfl
theorem rec_lie.chk : fnOk (cx rec_lie.lo rec_lie.od) Tryd.f37 (Tryd.f37.body.getD .skip) 3 = true := by kernel_rfl
theorem rec_lie.ok {bA1 : Option Addr} {bL1 : Nat} {bC1 : Nat} {at1 : Int} {n1 : Int} {K : Value → Heap → Prop} {h : Heap} (hx : rec_lie bA1 bL1 bC1 at1 n1 K h) : C.rec_lie bA1 bL1 bC1 at1 n1 h K :=
  fn_to (cxOk _ _) Tryd.func37 (by kernel_rfl) rec_lie.chk (by rw [rec_lie.eq]; exact hx)

-- 38
def rec_ahead (bA1 : Option Addr) (bL1 : Nat) (bC1 : Nat) (K : Value → Heap → Prop) (h1 : Heap) : Prop :=
  ∃ (I1 : Int → Heap → Prop) (M1 : Int → Heap → Nat), I1 0 h1 ∧
  ∀ (n1 : Int), ∀ h2 : Heap, I1 n1 h2 →
  bif (decide (n1 < (bL1 : Int))) then (
  (0 ≤ n1 ∧ n1 < (bL1 : Int)) ∧
  onSome bA1 fun p1 =>
  ∃ (n2 : Int), cellOf h2 (Addr.add p1 (Int.toNat n1)) = some (.int .u8 n2) ∧
  bif (n2 == 0) then (
  K (.int .i64 n1) h2) else (
  I1 (IntKind.wrap .i64 (n1 + 1)) h2 ∧ M1 (IntKind.wrap .i64 (n1 + 1)) h2 < M1 n1 h2)) else (
  K (.int .i64 (bL1 : Int)) h2)
def rec_ahead.lo : Nat → List Nat × List (Nat × Ty) := fun n => match n with | 2 => ([0, 5, 6], [(7, .int .i64)]) | _ => ([], [])
def rec_ahead.od : Nat → Od := fun n => match n with | _ => .nil
theorem rec_ahead.eq (bA1 : Option Addr) (bL1 : Nat) (bC1 : Nat) (K : Value → Heap → Prop) (h : Heap) : fnX (cx rec_ahead.lo rec_ahead.od) Tryd.f38 (Tryd.f38.body.getD .skip) [.slice bA1 bL1 bC1] K h = rec_ahead bA1 bL1 bC1 K h := by kernel_rfl
theorem rec_ahead.chk : fnOk (cx rec_ahead.lo rec_ahead.od) Tryd.f38 (Tryd.f38.body.getD .skip) 1 = true := by kernel_rfl
theorem rec_ahead.ok {bA1 : Option Addr} {bL1 : Nat} {bC1 : Nat} {K : Value → Heap → Prop} {h : Heap} (hx : rec_ahead bA1 bL1 bC1 K h) : C.rec_ahead bA1 bL1 bC1 h K :=
  fn_to (cxOk _ _) Tryd.func38 (by kernel_rfl) rec_ahead.chk (by rw [rec_ahead.eq]; exact hx)

-- 39
def rec_Get (bA1 : Option Addr) (bL1 : Nat) (bC1 : Nat) (at1 : Int) (n1 : Int) (K : Value → Heap → Prop) (h1 : Heap) : Prop :=
  C.rec_isWidth n1 h1 fun r1 h2 =>
  ∃ (b1 : Bool), r1 = .bool b1 ∧
  bif (!b1) then (
  K (.tuple #[.int .u64 0, .int .i64 1]) h2) else (
  C.rec_lie bA1 bL1 bC1 at1 n1 h2 fun r2 h3 =>
  ∃ (b2 : Bool), r2 = .bool b2 ∧
  bif (!b2) then (
  K (.tuple #[.int .u64 0, .int .i64 20]) h3) else (
  ∃ (I1 : Int → Int → Heap → Prop) (M1 : Int → Int → Heap → Nat), I1 0 0 h3 ∧
  ∀ (v1 : Int) (n2 : Int), ∀ h4 : Heap, I1 v1 n2 h4 →
  bif (decide (n2 < n1)) then (
  (0 ≤ (IntKind.wrap .i64 (at1 + n2)) ∧ (IntKind.wrap .i64 (at1 + n2)) < (bL1 : Int)) ∧
  onSome bA1 fun p1 =>
  ∃ (n3 : Int), cellOf h4 (Addr.add p1 (Int.toNat (IntKind.wrap .i64 (at1 + n2)))) = some (.int .u8 n3) ∧
  if (IntKind.wrap .i64 (8 * n2)) < 0 then False else
  I1 (bitsI .or .u64 v1 (IntKind.wrap .u64 (((IntKind.wrap .u64 (n3)) * 2 ^ min (Int.toNat (IntKind.wrap .i64 (8 * n2))) 64)))) (IntKind.wrap .i64 (n2 + 1)) h4 ∧ M1 (bitsI .or .u64 v1 (IntKind.wrap .u64 (((IntKind.wrap .u64 (n3)) * 2 ^ min (Int.toNat (IntKind.wrap .i64 (8 * n2))) 64)))) (IntKind.wrap .i64 (n2 + 1)) h4 < M1 v1 n2 h4) else (
  K (.tuple #[.int .u64 v1, .int .i64 0]) h4)))
def rec_Get.lo : Nat → List Nat × List (Nat × Ty) := fun n => match n with | 7 => ([0, 1, 20], [(8, .int .u64), (21, .int .i64)]) | _ => ([], [])
def rec_Get.od : Nat → Od := fun n => match n with | _ => .nil
theorem rec_Get.eq (bA1 : Option Addr) (bL1 : Nat) (bC1 : Nat) (at1 : Int) (n1 : Int) (K : Value → Heap → Prop) (h : Heap) : fnX (cx rec_Get.lo rec_Get.od) Tryd.f39 (Tryd.f39.body.getD .skip) [.slice bA1 bL1 bC1, .int .i64 at1, .int .i64 n1] K h = rec_Get bA1 bL1 bC1 at1 n1 K h := by kernel_rfl
theorem rec_Get.chk : fnOk (cx rec_Get.lo rec_Get.od) Tryd.f39 (Tryd.f39.body.getD .skip) 3 = true := by kernel_rfl
theorem rec_Get.ok {bA1 : Option Addr} {bL1 : Nat} {bC1 : Nat} {at1 : Int} {n1 : Int} {K : Value → Heap → Prop} {h : Heap} (hx : rec_Get bA1 bL1 bC1 at1 n1 K h) : C.rec_Get bA1 bL1 bC1 at1 n1 h K :=
  fn_to (cxOk _ _) Tryd.func39 (by kernel_rfl) rec_Get.chk (by rw [rec_Get.eq]; exact hx)

-- 40
def rec_Zero (bA1 : Option Addr) (bL1 : Nat) (bC1 : Nat) (at1 : Int) (n1 : Int) (K : Value → Heap → Prop) (h1 : Heap) : Prop :=
  bif (decide (n1 < 0)) then (
  K (.tuple #[.bool false, .int .i64 1]) h1) else (
  C.rec_lie bA1 bL1 bC1 at1 n1 h1 fun r1 h2 =>
  ∃ (b1 : Bool), r1 = .bool b1 ∧
  bif (!b1) then (
  K (.tuple #[.bool false, .int .i64 20]) h2) else (
  (0 ≤ at1 ∧ at1 ≤ (IntKind.wrap .i64 (at1 + n1)) ∧ (IntKind.wrap .i64 (at1 + n1)) ≤ (bC1 : Int)) ∧
  C.rec_zeros (if bC1 = (Int.toNat at1) then bA1 else Option.map (Addr.add · (Int.toNat at1)) bA1) ((Int.toNat (IntKind.wrap .i64 (at1 + n1))) - (Int.toNat at1)) (bC1 - (Int.toNat at1)) h2 fun r2 h3 =>
  ∃ (b2 : Bool), r2 = .bool b2 ∧
  K (.tuple #[.bool b2, .int .i64 0]) h3))
def rec_Zero.lo : Nat → List Nat × List (Nat × Ty) := fun n => match n with | _ => ([], [])
def rec_Zero.od : Nat → Od := fun n => match n with | _ => .nil
theorem rec_Zero.eq (bA1 : Option Addr) (bL1 : Nat) (bC1 : Nat) (at1 : Int) (n1 : Int) (K : Value → Heap → Prop) (h : Heap) : fnX (cx rec_Zero.lo rec_Zero.od) Tryd.f40 (Tryd.f40.body.getD .skip) [.slice bA1 bL1 bC1, .int .i64 at1, .int .i64 n1] K h = rec_Zero bA1 bL1 bC1 at1 n1 K h := by kernel_rfl
theorem rec_Zero.chk : fnOk (cx rec_Zero.lo rec_Zero.od) Tryd.f40 (Tryd.f40.body.getD .skip) 3 = true := by kernel_rfl
theorem rec_Zero.ok {bA1 : Option Addr} {bL1 : Nat} {bC1 : Nat} {at1 : Int} {n1 : Int} {K : Value → Heap → Prop} {h : Heap} (hx : rec_Zero bA1 bL1 bC1 at1 n1 K h) : C.rec_Zero bA1 bL1 bC1 at1 n1 h K :=
  fn_to (cxOk _ _) Tryd.func40 (by kernel_rfl) rec_Zero.chk (by rw [rec_Zero.eq]; exact hx)

-- 41
def path_does_c1 (aheadA1 : Option Addr) (aheadL1 : Nat) (aheadC1 : Nat) (K : Value → Heap → Prop) (h1 : Heap) : Prop :=
  K (.slice aheadA1 aheadL1 aheadC1) h1
def path_does_c1.lo : Nat → List Nat × List (Nat × Ty) := fun n => match n with | _ => ([], [])
def path_does_c1.od : Nat → Od := fun n => match n with | _ => .nil
theorem path_does_c1.eq (aheadA1 : Option Addr) (aheadL1 : Nat) (aheadC1 : Nat) (K : Value → Heap → Prop) (h : Heap) : fnX (cx path_does_c1.lo path_does_c1.od) Tryd.f41 (Tryd.f41.body.getD .skip) [.slice aheadA1 aheadL1 aheadC1] K h = path_does_c1 aheadA1 aheadL1 aheadC1 K h := by kernel_rfl
theorem path_does_c1.chk : fnOk (cx path_does_c1.lo path_does_c1.od) Tryd.f41 (Tryd.f41.body.getD .skip) 1 = true := by kernel_rfl
theorem path_does_c1.ok {aheadA1 : Option Addr} {aheadL1 : Nat} {aheadC1 : Nat} {K : Value → Heap → Prop} {h : Heap} (hx : path_does_c1 aheadA1 aheadL1 aheadC1 K h) : C.path_does_c1 aheadA1 aheadL1 aheadC1 h K :=
  fn_to (cxOk _ _) Tryd.func41 (by kernel_rfl) path_does_c1.chk (by rw [path_does_c1.eq]; exact hx)

-- 42
def path_does_c2 (aheadA1 : Option Addr) (aheadL1 : Nat) (aheadC1 : Nat) (K : Value → Heap → Prop) (h1 : Heap) : Prop :=
  (0 ≤ (if (IntKind.wrap .i64 ((aheadL1 : Int) - 1)) > 0 then (IntKind.wrap .i64 ((aheadL1 : Int) - 1)) else 0) ∧ (if (IntKind.wrap .i64 ((aheadL1 : Int) - 1)) > 0 then (IntKind.wrap .i64 ((aheadL1 : Int) - 1)) else 0) ≤ (aheadC1 : Int)) ∧
  K (.slice aheadA1 (Int.toNat (if (IntKind.wrap .i64 ((aheadL1 : Int) - 1)) > 0 then (IntKind.wrap .i64 ((aheadL1 : Int) - 1)) else 0)) aheadC1) h1
def path_does_c2.lo : Nat → List Nat × List (Nat × Ty) := fun n => match n with | _ => ([], [])
def path_does_c2.od : Nat → Od := fun n => match n with | _ => .nil
theorem path_does_c2.eq (aheadA1 : Option Addr) (aheadL1 : Nat) (aheadC1 : Nat) (K : Value → Heap → Prop) (h : Heap) : fnX (cx path_does_c2.lo path_does_c2.od) Tryd.f42 (Tryd.f42.body.getD .skip) [.slice aheadA1 aheadL1 aheadC1] K h = path_does_c2 aheadA1 aheadL1 aheadC1 K h := by kernel_rfl
theorem path_does_c2.chk : fnOk (cx path_does_c2.lo path_does_c2.od) Tryd.f42 (Tryd.f42.body.getD .skip) 1 = true := by kernel_rfl
theorem path_does_c2.ok {aheadA1 : Option Addr} {aheadL1 : Nat} {aheadC1 : Nat} {K : Value → Heap → Prop} {h : Heap} (hx : path_does_c2 aheadA1 aheadL1 aheadC1 K h) : C.path_does_c2 aheadA1 aheadL1 aheadC1 h K :=
  fn_to (cxOk _ _) Tryd.func42 (by kernel_rfl) path_does_c2.chk (by rw [path_does_c2.eq]; exact hx)

-- 43
def strings_IndexAny.k1 (s1 : ByteArray) (chars1 : ByteArray) (h10 : Heap) (K : Value → Heap → Prop) : Prop :=
  NewI s1 h10 fun h11 =>
  ∃ (I2 : Heap → Prop) (M2 : Heap → Nat), I2  h11 ∧
  ∀ h12 : Heap, I2  h12 →
  Addr.off ⟨h10.size, 0, none⟩ = 0 ∧
  ∃ (s2 : ByteArray) (pos1 : Nat), h12[Addr.block ⟨h10.size, 0, none⟩]? = some (.stringIter s2 pos1) ∧
  (pos1 < ByteArray.size s2 → ∀ h13 : Heap, IterTo h12 (Addr.block ⟨h10.size, 0, none⟩) s2 (pos1 + (Utf8.decode s2 pos1).2) h13 →
  C.strings_IndexRune chars1 (((Utf8.decode s2 pos1).1 : Nat) : Int) h13 fun r6 h14 =>
  ∃ (n3 : Int), r6 = .int .i64 n3 ∧
  bif (decide (n3 ≥ 0)) then (
  K (.int .i64 (pos1 : Int)) h14) else (
  I2  h14 ∧ M2  h14 < M2  h12)) ∧
  (¬ pos1 < ByteArray.size s2 →
  K (.int .i64 (-1)) h12)
def strings_IndexAny (s1 : ByteArray) (chars1 : ByteArray) (K : Value → Heap → Prop) (h1 : Heap) : Prop :=
  bif (chars1.toList == (mkStr []).toList) then (
  K (.int .i64 (-1)) h1) else (
  bif ((chars1.size : Int) == 1) then (
  (0 ≤ (0 : Int) ∧ 0 < (chars1.size : Int)) ∧
  ∃ b1 : UInt8, chars1.toList[Int.toNat 0]? = some b1 ∧
  bif (decide ((IntKind.wrap .i32 (((UInt8.toNat b1 : Nat) : Int))) ≥ 128)) then (
  C.strings_IndexRune s1 65533 h1 fun r1 h2 =>
  ∃ (n1 : Int), r1 = .int .i64 n1 ∧
  K (.int .i64 n1) h2) else (
  C.strings_IndexRune s1 (IntKind.wrap .i32 (((UInt8.toNat b1 : Nat) : Int))) h1 fun r2 h3 =>
  ∃ (n2 : Int), r2 = .int .i64 n2 ∧
  K (.int .i64 n2) h3)) else (
  C.strings_shouldUseASCIISet (s1.size : Int) h1 fun r3 h4 =>
  ∃ (b2 : Bool), r3 = .bool b2 ∧
  bif b2 then (
  C.strings_makeASCIISet chars1 h4 fun r4 h5 =>
  ∃ (cs1 : List Value) (b3 : Bool), r4 = .tuple #[.agg ⟨cs1⟩, .bool b3] ∧
  NewRow z92 92 cs1 256 h5 fun h7 =>
  bif b3 then (
  ∃ (I1 : Int → Heap → Prop) (M1 : Int → Heap → Nat), I1 0 h7 ∧
  ∀ (i1 : Int), ∀ h8 : Heap, I1 i1 h8 →
  bif (decide (i1 < (s1.size : Int))) then (
  (0 ≤ i1 ∧ i1 < (s1.size : Int)) ∧
  ∃ b4 : UInt8, s1.toList[Int.toNat i1]? = some b4 ∧
  C.strings_asciiSet_contains (some ⟨h5.size, 0, none⟩) ((UInt8.toNat b4 : Nat) : Int) h8 fun r5 h9 =>
  ∃ (b5 : Bool), r5 = .bool b5 ∧
  bif b5 then (
  K (.int .i64 i1) h9) else (
  I1 (IntKind.wrap .i64 (i1 + 1)) h9 ∧ M1 (IntKind.wrap .i64 (i1 + 1)) h9 < M1 i1 h8)) else (
  K (.int .i64 (-1)) h8)) else (
  strings_IndexAny.k1 s1 chars1 h7 K)) else (
  strings_IndexAny.k1 s1 chars1 h4 K)))
def strings_IndexAny.lo : Nat → List Nat × List (Nat × Ty) := fun n => match n with | 12 => ([0, 6], [(8, .int .i64)]) | 18 => ([1, 45], []) | _ => ([], [])
def strings_IndexAny.od : Nat → Od := fun n => match n with | _ => .nil
theorem strings_IndexAny.eq (s1 : ByteArray) (chars1 : ByteArray) (K : Value → Heap → Prop) (h : Heap) : fnX (cx strings_IndexAny.lo strings_IndexAny.od) Tryd.f43 (Tryd.f43.body.getD .skip) [.string s1, .string chars1] K h = strings_IndexAny s1 chars1 K h := by kernel_rfl
theorem strings_IndexAny.chk : fnOk (cx strings_IndexAny.lo strings_IndexAny.od) Tryd.f43 (Tryd.f43.body.getD .skip) 2 = true := by kernel_rfl
theorem strings_IndexAny.ok {s1 : ByteArray} {chars1 : ByteArray} {K : Value → Heap → Prop} {h : Heap} (hx : strings_IndexAny s1 chars1 K h) : C.strings_IndexAny s1 chars1 h K :=
  fn_to (cxOk _ _) Tryd.func43 (by kernel_rfl) strings_IndexAny.chk (by rw [strings_IndexAny.eq]; exact hx)

-- 44
def rec_zeros (bA1 : Option Addr) (bL1 : Nat) (bC1 : Nat) (K : Value → Heap → Prop) (h1 : Heap) : Prop :=
  ∃ (I1 : Int → Heap → Prop) (M1 : Int → Heap → Nat), I1 0 h1 ∧
  ∀ (n1 : Int), ∀ h2 : Heap, I1 n1 h2 →
  bif (decide (n1 < (bL1 : Int))) then (
  (0 ≤ n1 ∧ n1 < (bL1 : Int)) ∧
  onSome bA1 fun p1 =>
  ∃ (n2 : Int), cellOf h2 (Addr.add p1 (Int.toNat n1)) = some (.int .u8 n2) ∧
  bif (n2 != 0) then (
  K (.bool false) h2) else (
  I1 (IntKind.wrap .i64 (n1 + 1)) h2 ∧ M1 (IntKind.wrap .i64 (n1 + 1)) h2 < M1 n1 h2)) else (
  K (.bool true) h2)
def rec_zeros.lo : Nat → List Nat × List (Nat × Ty) := fun n => match n with | 2 => ([5, 6], [(7, .int .i64)]) | _ => ([], [])
def rec_zeros.od : Nat → Od := fun n => match n with | _ => .nil
theorem rec_zeros.eq (bA1 : Option Addr) (bL1 : Nat) (bC1 : Nat) (K : Value → Heap → Prop) (h : Heap) : fnX (cx rec_zeros.lo rec_zeros.od) Tryd.f44 (Tryd.f44.body.getD .skip) [.slice bA1 bL1 bC1] K h = rec_zeros bA1 bL1 bC1 K h := by kernel_rfl
theorem rec_zeros.chk : fnOk (cx rec_zeros.lo rec_zeros.od) Tryd.f44 (Tryd.f44.body.getD .skip) 1 = true := by kernel_rfl
theorem rec_zeros.ok {bA1 : Option Addr} {bL1 : Nat} {bC1 : Nat} {K : Value → Heap → Prop} {h : Heap} (hx : rec_zeros bA1 bL1 bC1 K h) : C.rec_zeros bA1 bL1 bC1 h K :=
  fn_to (cxOk _ _) Tryd.func44 (by kernel_rfl) rec_zeros.chk (by rw [rec_zeros.eq]; exact hx)

-- 45
def strings_IndexRune.k1 (s1 : ByteArray) (r1 : Int) (i2 : Int) (h9 : Heap) (K : Value → Heap → Prop) : Prop :=
  ∃ (I3 : Int → Heap → Prop) (M3 : Int → Heap → Nat), I3 1 h9 ∧
  ∀ (j1 : Int), ∀ h10 : Heap, I3 j1 h10 →
  bif (decide (j1 < ((Utf8.encode r1).size : Int))) then (
  (0 ≤ (IntKind.wrap .i64 (i2 - j1)) ∧ (IntKind.wrap .i64 (i2 - j1)) < (s1.size : Int)) ∧
  ∃ b5 : UInt8, s1.toList[Int.toNat (IntKind.wrap .i64 (i2 - j1))]? = some b5 ∧
  (0 ≤ (IntKind.wrap .i64 ((IntKind.wrap .i64 (((Utf8.encode r1).size : Int) - 1)) - j1)) ∧ (IntKind.wrap .i64 ((IntKind.wrap .i64 (((Utf8.encode r1).size : Int) - 1)) - j1)) < ((Utf8.encode r1).size : Int)) ∧
  ∃ b6 : UInt8, (Utf8.encode r1).toList[Int.toNat (IntKind.wrap .i64 ((IntKind.wrap .i64 (((Utf8.encode r1).size : Int) - 1)) - j1))]? = some b6 ∧
  bif (((UInt8.toNat b5 : Nat) : Int) != ((UInt8.toNat b6 : Nat) : Int)) then (
  False) else (
  I3 (IntKind.wrap .i64 (j1 + 1)) h10 ∧ M3 (IntKind.wrap .i64 (j1 + 1)) h10 < M3 j1 h10)) else (
  K (.int .i64 (IntKind.wrap .i64 (i2 - (IntKind.wrap .i64 (((Utf8.encode r1).size : Int) - 1))))) h10)
def strings_IndexRune.k2 (s1 : ByteArray) (r1 : Int) (i4 : Int) (h17 : Heap) (K : Value → Heap → Prop) : Prop :=
  ∃ (I6 : Int → Heap → Prop) (M6 : Int → Heap → Nat), I6 1 h17 ∧
  ∀ (j2 : Int), ∀ h18 : Heap, I6 j2 h18 →
  bif (decide (j2 < ((Utf8.encode r1).size : Int))) then (
  (0 ≤ (IntKind.wrap .i64 (i4 - j2)) ∧ (IntKind.wrap .i64 (i4 - j2)) < (s1.size : Int)) ∧
  ∃ b11 : UInt8, s1.toList[Int.toNat (IntKind.wrap .i64 (i4 - j2))]? = some b11 ∧
  (0 ≤ (IntKind.wrap .i64 ((IntKind.wrap .i64 (((Utf8.encode r1).size : Int) - 1)) - j2)) ∧ (IntKind.wrap .i64 ((IntKind.wrap .i64 (((Utf8.encode r1).size : Int) - 1)) - j2)) < ((Utf8.encode r1).size : Int)) ∧
  ∃ b12 : UInt8, (Utf8.encode r1).toList[Int.toNat (IntKind.wrap .i64 ((IntKind.wrap .i64 (((Utf8.encode r1).size : Int) - 1)) - j2))]? = some b12 ∧
  bif (((UInt8.toNat b11 : Nat) : Int) != ((UInt8.toNat b12 : Nat) : Int)) then (
  False) else (
  I6 (IntKind.wrap .i64 (j2 + 1)) h18 ∧ M6 (IntKind.wrap .i64 (j2 + 1)) h18 < M6 j2 h18)) else (
  K (.int .i64 (IntKind.wrap .i64 (i4 - (IntKind.wrap .i64 (((Utf8.encode r1).size : Int) - 1))))) h18)
def strings_IndexRune (s1 : ByteArray) (r1 : Int) (K : Value → Heap → Prop) (h1 : Heap) : Prop :=
  bif (decide ((0 : Int) ≤ r1)) then (
  bif (decide (r1 < 128)) then (
  C.strings_IndexByte s1 (IntKind.wrap .u8 (r1)) h1 fun r2 h2 =>
  ∃ (n1 : Int), r2 = .int .i64 n1 ∧
  K (.int .i64 n1) h2) else (
  bif (r1 == 65533) then (
  NewI s1 h1 fun h3 =>
  ∃ (I1 : Heap → Prop) (M1 : Heap → Nat), I1  h3 ∧
  ∀ h4 : Heap, I1  h4 →
  Addr.off ⟨h1.size, 0, none⟩ = 0 ∧
  ∃ (s2 : ByteArray) (pos1 : Nat), h4[Addr.block ⟨h1.size, 0, none⟩]? = some (.stringIter s2 pos1) ∧
  (pos1 < ByteArray.size s2 → ∀ h5 : Heap, IterTo h4 (Addr.block ⟨h1.size, 0, none⟩) s2 (pos1 + (Utf8.decode s2 pos1).2) h5 →
  bif ((((Utf8.decode s2 pos1).1 : Nat) : Int) == 65533) then (
  K (.int .i64 (pos1 : Int)) h5) else (
  I1  h5 ∧ M1  h5 < M1  h4)) ∧
  (¬ pos1 < ByteArray.size s2 →
  K (.int .i64 (-1)) h4)) else (
  C.unicode_utf8_ValidRune r1 h1 fun r3 h6 =>
  ∃ (b1 : Bool), r3 = .bool b1 ∧
  bif (!b1) then (
  K (.int .i64 (-1)) h6) else (
  ∃ (I2 : Int → Heap → Prop) (M2 : Int → Heap → Nat), I2 (IntKind.wrap .i64 (((Utf8.encode r1).size : Int) - 1)) h6 ∧
  ∀ (i1 : Int), ∀ h7 : Heap, I2 i1 h7 →
  bif (decide (i1 < (s1.size : Int))) then (
  (0 ≤ i1 ∧ i1 < (s1.size : Int)) ∧
  ∃ b2 : UInt8, s1.toList[Int.toNat i1]? = some b2 ∧
  (0 ≤ (IntKind.wrap .i64 (((Utf8.encode r1).size : Int) - 1)) ∧ (IntKind.wrap .i64 (((Utf8.encode r1).size : Int) - 1)) < ((Utf8.encode r1).size : Int)) ∧
  ∃ b3 : UInt8, (Utf8.encode r1).toList[Int.toNat (IntKind.wrap .i64 (((Utf8.encode r1).size : Int) - 1))]? = some b3 ∧
  bif (((UInt8.toNat b2 : Nat) : Int) != ((UInt8.toNat b3 : Nat) : Int)) then (
  (0 ≤ (IntKind.wrap .i64 (i1 + 1)) ∧ (IntKind.wrap .i64 (i1 + 1)) ≤ (s1.size : Int)) ∧
  (0 ≤ (IntKind.wrap .i64 (((Utf8.encode r1).size : Int) - 1)) ∧ (IntKind.wrap .i64 (((Utf8.encode r1).size : Int) - 1)) < ((Utf8.encode r1).size : Int)) ∧
  ∃ b4 : UInt8, (Utf8.encode r1).toList[Int.toNat (IntKind.wrap .i64 (((Utf8.encode r1).size : Int) - 1))]? = some b4 ∧
  C.strings_IndexByte (ByteArray.extract s1 (Int.toNat (IntKind.wrap .i64 (i1 + 1))) s1.size) ((UInt8.toNat b4 : Nat) : Int) h7 fun r4 h8 =>
  ∃ (n2 : Int), r4 = .int .i64 n2 ∧
  bif (decide (n2 < 0)) then (
  K (.int .i64 (-1)) h8) else (
  strings_IndexRune.k1 s1 r1 (IntKind.wrap .i64 (i1 + (IntKind.wrap .i64 (n2 + 1)))) h8 K)) else (
  strings_IndexRune.k1 s1 r1 i1 h7 K)) else (
  K (.int .i64 (-1)) h7))))) else (
  bif (r1 == 65533) then (
  NewI s1 h1 fun h11 =>
  ∃ (I4 : Heap → Prop) (M4 : Heap → Nat), I4  h11 ∧
  ∀ h12 : Heap, I4  h12 →
  Addr.off ⟨h1.size, 0, none⟩ = 0 ∧
  ∃ (s3 : ByteArray) (pos2 : Nat), h12[Addr.block ⟨h1.size, 0, none⟩]? = some (.stringIter s3 pos2) ∧
  (pos2 < ByteArray.size s3 → ∀ h13 : Heap, IterTo h12 (Addr.block ⟨h1.size, 0, none⟩) s3 (pos2 + (Utf8.decode s3 pos2).2) h13 →
  bif ((((Utf8.decode s3 pos2).1 : Nat) : Int) == 65533) then (
  K (.int .i64 (pos2 : Int)) h13) else (
  I4  h13 ∧ M4  h13 < M4  h12)) ∧
  (¬ pos2 < ByteArray.size s3 →
  K (.int .i64 (-1)) h12)) else (
  C.unicode_utf8_ValidRune r1 h1 fun r5 h14 =>
  ∃ (b7 : Bool), r5 = .bool b7 ∧
  bif (!b7) then (
  K (.int .i64 (-1)) h14) else (
  ∃ (I5 : Int → Heap → Prop) (M5 : Int → Heap → Nat), I5 (IntKind.wrap .i64 (((Utf8.encode r1).size : Int) - 1)) h14 ∧
  ∀ (i3 : Int), ∀ h15 : Heap, I5 i3 h15 →
  bif (decide (i3 < (s1.size : Int))) then (
  (0 ≤ i3 ∧ i3 < (s1.size : Int)) ∧
  ∃ b8 : UInt8, s1.toList[Int.toNat i3]? = some b8 ∧
  (0 ≤ (IntKind.wrap .i64 (((Utf8.encode r1).size : Int) - 1)) ∧ (IntKind.wrap .i64 (((Utf8.encode r1).size : Int) - 1)) < ((Utf8.encode r1).size : Int)) ∧
  ∃ b9 : UInt8, (Utf8.encode r1).toList[Int.toNat (IntKind.wrap .i64 (((Utf8.encode r1).size : Int) - 1))]? = some b9 ∧
  bif (((UInt8.toNat b8 : Nat) : Int) != ((UInt8.toNat b9 : Nat) : Int)) then (
  (0 ≤ (IntKind.wrap .i64 (i3 + 1)) ∧ (IntKind.wrap .i64 (i3 + 1)) ≤ (s1.size : Int)) ∧
  (0 ≤ (IntKind.wrap .i64 (((Utf8.encode r1).size : Int) - 1)) ∧ (IntKind.wrap .i64 (((Utf8.encode r1).size : Int) - 1)) < ((Utf8.encode r1).size : Int)) ∧
  ∃ b10 : UInt8, (Utf8.encode r1).toList[Int.toNat (IntKind.wrap .i64 (((Utf8.encode r1).size : Int) - 1))]? = some b10 ∧
  C.strings_IndexByte (ByteArray.extract s1 (Int.toNat (IntKind.wrap .i64 (i3 + 1))) s1.size) ((UInt8.toNat b10 : Nat) : Int) h15 fun r6 h16 =>
  ∃ (n3 : Int), r6 = .int .i64 n3 ∧
  bif (decide (n3 < 0)) then (
  K (.int .i64 (-1)) h16) else (
  strings_IndexRune.k2 s1 r1 (IntKind.wrap .i64 (i3 + (IntKind.wrap .i64 (n3 + 1)))) h16 K)) else (
  strings_IndexRune.k2 s1 r1 i3 h15 K)) else (
  K (.int .i64 (-1)) h15))))
def strings_IndexRune.lo : Nat → List Nat × List (Nat × Ty) := fun n => match n with | 5 => ([0, 7, 8], [(9, .int .i64)]) | 12 => ([0, 7, 8, 9], [(12, .int .i64)]) | 38 => ([175], []) | _ => ([], [])
def strings_IndexRune.od : Nat → Od := fun n => match n with | 6 => (.op 0 [] (.op 1 [] (.op 2 [] (.op 3 [] (.op 4 [] (.op 5 [] (.op 6 [] .nil))))))) | 7 => (.op 0 [] (.op 1 [] (.op 2 [] (.op 3 [] (.op 4 [] (.op 5 [] (.op 6 [] (.op 7 [] (.op 8 [] .nil))))))))) | 14 => (.op 0 [] (.op 1 [] (.op 2 [] (.op 3 [] (.op 4 [] (.op 5 [] (.op 6 [] (.op 7 [] (.op 8 [] (.op 9 [] (.op 10 [] .nil))))))))))) | 31 => (.op 0 [] (.op 1 [] (.op 2 [] (.op 3 [] (.op 4 [] (.op 5 [] (.op 6 [] (.op 7 [] (.op 8 [] (.op 9 [] (.op 10 [] .nil))))))))))) | _ => .nil
theorem strings_IndexRune.eq (s1 : ByteArray) (r1 : Int) (K : Value → Heap → Prop) (h : Heap) : fnX (cx strings_IndexRune.lo strings_IndexRune.od) Tryd.f45 (Tryd.f45.body.getD .skip) [.string s1, .int .i32 r1] K h = strings_IndexRune s1 r1 K h := by kernel_rfl
theorem strings_IndexRune.chk : fnOk (cx strings_IndexRune.lo strings_IndexRune.od) Tryd.f45 (Tryd.f45.body.getD .skip) 2 = true := by kernel_rfl
theorem strings_IndexRune.ok {s1 : ByteArray} {r1 : Int} {K : Value → Heap → Prop} {h : Heap} (hx : strings_IndexRune s1 r1 K h) : C.strings_IndexRune s1 r1 h K :=
  fn_to (cxOk _ _) Tryd.func45 (by kernel_rfl) strings_IndexRune.chk (by rw [strings_IndexRune.eq]; exact hx)

-- 46
def strings_shouldUseASCIISet (bufLen1 : Int) (K : Value → Heap → Prop) (h1 : Heap) : Prop :=
  K (.bool (decide (bufLen1 > 8))) h1
def strings_shouldUseASCIISet.lo : Nat → List Nat × List (Nat × Ty) := fun n => match n with | _ => ([], [])
def strings_shouldUseASCIISet.od : Nat → Od := fun n => match n with | _ => .nil
theorem strings_shouldUseASCIISet.eq (bufLen1 : Int) (K : Value → Heap → Prop) (h : Heap) : fnX (cx strings_shouldUseASCIISet.lo strings_shouldUseASCIISet.od) Tryd.f46 (Tryd.f46.body.getD .skip) [.int .i64 bufLen1] K h = strings_shouldUseASCIISet bufLen1 K h := by kernel_rfl
theorem strings_shouldUseASCIISet.chk : fnOk (cx strings_shouldUseASCIISet.lo strings_shouldUseASCIISet.od) Tryd.f46 (Tryd.f46.body.getD .skip) 1 = true := by kernel_rfl
theorem strings_shouldUseASCIISet.ok {bufLen1 : Int} {K : Value → Heap → Prop} {h : Heap} (hx : strings_shouldUseASCIISet bufLen1 K h) : C.strings_shouldUseASCIISet bufLen1 h K :=
  fn_to (cxOk _ _) Tryd.func46 (by kernel_rfl) strings_shouldUseASCIISet.chk (by rw [strings_shouldUseASCIISet.eq]; exact hx)

-- 47
def strings_makeASCIISet (chars1 : ByteArray) (K : Value → Heap → Prop) (h1 : Heap) : Prop :=
  New z92 92 h1 fun h2 =>
  ∃ (I1 : Int → Heap → Prop) (M1 : Int → Heap → Nat), I1 0 h2 ∧
  ∀ (i1 : Int), ∀ h3 : Heap, I1 i1 h3 →
  bif (decide (i1 < (chars1.size : Int))) then (
  (0 ≤ i1 ∧ i1 < (chars1.size : Int)) ∧
  ∃ b1 : UInt8, chars1.toList[Int.toNat i1]? = some b1 ∧
  bif (decide (((UInt8.toNat b1 : Nat) : Int) ≥ 128)) then (
  ∃ cs1 : List Value, List.length cs1 = 256 ∧ Cells h3 ⟨h1.size, 0, none⟩ cs1 ∧
  PutRow ⟨h1.size, 0, none⟩ cs1 256 h3 fun h4 =>
  ∃ res1 : List Value, List.length res1 = 256 ∧ Cells h4 ⟨h1.size, 0, none⟩ res1 ∧
  K (.tuple #[.agg ⟨res1⟩, .bool false]) h4) else (
  (0 ≤ ((UInt8.toNat b1 : Nat) : Int) ∧ ((UInt8.toNat b1 : Nat) : Int) < (256 : Int)) ∧
  Put (Addr.add ⟨h1.size, 0, none⟩ (Int.toNat ((UInt8.toNat b1 : Nat) : Int))) (.bool true) h3 fun h5 =>
  I1 (IntKind.wrap .i64 (i1 + 1)) h5 ∧ M1 (IntKind.wrap .i64 (i1 + 1)) h5 < M1 i1 h3)) else (
  ∃ cs2 : List Value, List.length cs2 = 256 ∧ Cells h3 ⟨h1.size, 0, none⟩ cs2 ∧
  PutRow ⟨h1.size, 0, none⟩ cs2 256 h3 fun h6 =>
  ∃ res2 : List Value, List.length res2 = 256 ∧ Cells h6 ⟨h1.size, 0, none⟩ res2 ∧
  K (.tuple #[.agg ⟨res2⟩, .bool true]) h6)
def strings_makeASCIISet.lo : Nat → List Nat × List (Nat × Ty) := fun n => match n with | 2 => ([0, 2], [(4, .int .i64)]) | _ => ([], [])
def strings_makeASCIISet.od : Nat → Od := fun n => match n with | _ => .nil
theorem strings_makeASCIISet.eq (chars1 : ByteArray) (K : Value → Heap → Prop) (h : Heap) : fnX (cx strings_makeASCIISet.lo strings_makeASCIISet.od) Tryd.f47 (Tryd.f47.body.getD .skip) [.string chars1] K h = strings_makeASCIISet chars1 K h := by kernel_rfl
theorem strings_makeASCIISet.chk : fnOk (cx strings_makeASCIISet.lo strings_makeASCIISet.od) Tryd.f47 (Tryd.f47.body.getD .skip) 1 = true := by kernel_rfl
theorem strings_makeASCIISet.ok {chars1 : ByteArray} {K : Value → Heap → Prop} {h : Heap} (hx : strings_makeASCIISet chars1 K h) : C.strings_makeASCIISet chars1 h K :=
  fn_to (cxOk _ _) Tryd.func47 (by kernel_rfl) strings_makeASCIISet.chk (by rw [strings_makeASCIISet.eq]; exact hx)

-- 48
def strings_asciiSet_contains (as1 : Option Addr) (c1 : Int) (K : Value → Heap → Prop) (h1 : Heap) : Prop :=
  onSome as1 fun p1 =>
  (0 ≤ c1 ∧ c1 < (256 : Int)) ∧
  ∃ (b1 : Bool), cellOf h1 (Addr.add p1 (Int.toNat c1)) = some (.bool b1) ∧
  K (.bool b1) h1
def strings_asciiSet_contains.lo : Nat → List Nat × List (Nat × Ty) := fun n => match n with | _ => ([], [])
def strings_asciiSet_contains.od : Nat → Od := fun n => match n with | _ => .nil
theorem strings_asciiSet_contains.eq (as1 : Option Addr) (c1 : Int) (K : Value → Heap → Prop) (h : Heap) : fnX (cx strings_asciiSet_contains.lo strings_asciiSet_contains.od) Tryd.f48 (Tryd.f48.body.getD .skip) [.pointer as1, .int .u8 c1] K h = strings_asciiSet_contains as1 c1 K h := by kernel_rfl
theorem strings_asciiSet_contains.chk : fnOk (cx strings_asciiSet_contains.lo strings_asciiSet_contains.od) Tryd.f48 (Tryd.f48.body.getD .skip) 2 = true := by kernel_rfl
theorem strings_asciiSet_contains.ok {as1 : Option Addr} {c1 : Int} {K : Value → Heap → Prop} {h : Heap} (hx : strings_asciiSet_contains as1 c1 K h) : C.strings_asciiSet_contains as1 c1 h K :=
  fn_to (cxOk _ _) Tryd.func48 (by kernel_rfl) strings_asciiSet_contains.chk (by rw [strings_asciiSet_contains.eq]; exact hx)

-- 49
def strings_IndexByte (s1 : ByteArray) (c1 : Int) (K : Value → Heap → Prop) (h1 : Heap) : Prop :=
  C.internal_stringslite_IndexByte s1 c1 h1 fun r1 h2 =>
  ∃ (n1 : Int), r1 = .int .i64 n1 ∧
  K (.int .i64 n1) h2
def strings_IndexByte.lo : Nat → List Nat × List (Nat × Ty) := fun n => match n with | _ => ([], [])
def strings_IndexByte.od : Nat → Od := fun n => match n with | _ => .nil
theorem strings_IndexByte.eq (s1 : ByteArray) (c1 : Int) (K : Value → Heap → Prop) (h : Heap) : fnX (cx strings_IndexByte.lo strings_IndexByte.od) Tryd.f49 (Tryd.f49.body.getD .skip) [.string s1, .int .u8 c1] K h = strings_IndexByte s1 c1 K h := by kernel_rfl
theorem strings_IndexByte.chk : fnOk (cx strings_IndexByte.lo strings_IndexByte.od) Tryd.f49 (Tryd.f49.body.getD .skip) 2 = true := by kernel_rfl
theorem strings_IndexByte.ok {s1 : ByteArray} {c1 : Int} {K : Value → Heap → Prop} {h : Heap} (hx : strings_IndexByte s1 c1 K h) : C.strings_IndexByte s1 c1 h K :=
  fn_to (cxOk _ _) Tryd.func49 (by kernel_rfl) strings_IndexByte.chk (by rw [strings_IndexByte.eq]; exact hx)

-- 50
def unicode_utf8_ValidRune (r1 : Int) (K : Value → Heap → Prop) (h1 : Heap) : Prop :=
  bif (decide ((0 : Int) ≤ r1)) then (
  bif (decide (r1 < 55296)) then (
  K (.bool true) h1) else (
  bif (decide ((57343 : Int) < r1)) then (
  bif (decide (r1 ≤ 1114111)) then (
  K (.bool true) h1) else (
  K (.bool false) h1)) else (
  K (.bool false) h1))) else (
  bif (decide ((57343 : Int) < r1)) then (
  bif (decide (r1 ≤ 1114111)) then (
  K (.bool true) h1) else (
  K (.bool false) h1)) else (
  K (.bool false) h1))
def unicode_utf8_ValidRune.lo : Nat → List Nat × List (Nat × Ty) := fun n => match n with | _ => ([], [])
def unicode_utf8_ValidRune.od : Nat → Od := fun n => match n with | _ => .nil
theorem unicode_utf8_ValidRune.eq (r1 : Int) (K : Value → Heap → Prop) (h : Heap) : fnX (cx unicode_utf8_ValidRune.lo unicode_utf8_ValidRune.od) Tryd.f50 (Tryd.f50.body.getD .skip) [.int .i32 r1] K h = unicode_utf8_ValidRune r1 K h := by kernel_rfl
theorem unicode_utf8_ValidRune.chk : fnOk (cx unicode_utf8_ValidRune.lo unicode_utf8_ValidRune.od) Tryd.f50 (Tryd.f50.body.getD .skip) 1 = true := by kernel_rfl
theorem unicode_utf8_ValidRune.ok {r1 : Int} {K : Value → Heap → Prop} {h : Heap} (hx : unicode_utf8_ValidRune r1 K h) : C.unicode_utf8_ValidRune r1 h K :=
  fn_to (cxOk _ _) Tryd.func50 (by kernel_rfl) unicode_utf8_ValidRune.chk (by rw [unicode_utf8_ValidRune.eq]; exact hx)

-- 51
def internal_bytealg_Cutover (n1 : Int) (K : Value → Heap → Prop) (h1 : Heap) : Prop :=
  K (.int .i64 (IntKind.wrap .i64 (Int.tdiv (IntKind.wrap .i64 (n1 + 16)) 8))) h1
def internal_bytealg_Cutover.lo : Nat → List Nat × List (Nat × Ty) := fun n => match n with | _ => ([], [])
def internal_bytealg_Cutover.od : Nat → Od := fun n => match n with | _ => .nil
theorem internal_bytealg_Cutover.eq (n1 : Int) (K : Value → Heap → Prop) (h : Heap) : fnX (cx internal_bytealg_Cutover.lo internal_bytealg_Cutover.od) Tryd.f51 (Tryd.f51.body.getD .skip) [.int .i64 n1] K h = internal_bytealg_Cutover n1 K h := by kernel_rfl
theorem internal_bytealg_Cutover.chk : fnOk (cx internal_bytealg_Cutover.lo internal_bytealg_Cutover.od) Tryd.f51 (Tryd.f51.body.getD .skip) 1 = true := by kernel_rfl
theorem internal_bytealg_Cutover.ok {n1 : Int} {K : Value → Heap → Prop} {h : Heap} (hx : internal_bytealg_Cutover n1 K h) : C.internal_bytealg_Cutover n1 h K :=
  fn_to (cxOk _ _) Tryd.func51 (by kernel_rfl) internal_bytealg_Cutover.chk (by rw [internal_bytealg_Cutover.eq]; exact hx)

-- 53
def internal_stringslite_IndexByte (s1 : ByteArray) (c1 : Int) (K : Value → Heap → Prop) (h1 : Heap) : Prop :=
  (IntKind.u8 = IntKind.u8) ∧
  K (.int .i64 (byteIn (ByteArray.toList s1) (UInt8.ofNat (Int.toNat c1)))) h1
def internal_stringslite_IndexByte.lo : Nat → List Nat × List (Nat × Ty) := fun n => match n with | _ => ([], [])
def internal_stringslite_IndexByte.od : Nat → Od := fun n => match n with | _ => .nil
theorem internal_stringslite_IndexByte.eq (s1 : ByteArray) (c1 : Int) (K : Value → Heap → Prop) (h : Heap) : fnX (cx internal_stringslite_IndexByte.lo internal_stringslite_IndexByte.od) Tryd.f53 (Tryd.f53.body.getD .skip) [.string s1, .int .u8 c1] K h = internal_stringslite_IndexByte s1 c1 K h := by kernel_rfl
theorem internal_stringslite_IndexByte.chk : fnOk (cx internal_stringslite_IndexByte.lo internal_stringslite_IndexByte.od) Tryd.f53 (Tryd.f53.body.getD .skip) 2 = true := by kernel_rfl
theorem internal_stringslite_IndexByte.ok {s1 : ByteArray} {c1 : Int} {K : Value → Heap → Prop} {h : Heap} (hx : internal_stringslite_IndexByte s1 c1 K h) : C.internal_stringslite_IndexByte s1 c1 h K :=
  fn_to (cxOk _ _) Tryd.func53 (by kernel_rfl) internal_stringslite_IndexByte.chk (by rw [internal_stringslite_IndexByte.eq]; exact hx)
end Go.Proofs.YtgpkcakanieodaaDoor.W
