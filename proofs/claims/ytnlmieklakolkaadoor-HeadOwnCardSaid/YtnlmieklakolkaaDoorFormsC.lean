/-
  WHAT THE FUNCTIONS COMPUTE, as formulas; each held against the loaded code by the kernel. Written by program (gen.py).
-/
import Derived.Test.YtnlmieklakolkaaDoorTab
namespace Go.Proofs.YtnlmieklakolkaaDoor.W
open Go Go.Proofs Go.Proofs.YtnlmieklakolkaaDoor.Wx
-- 62
def rec_ahead (bA1 : Option Addr) (bL1 : Nat) (bC1 : Nat) (K : Value → Heap → Prop) (h1 : Heap) : Prop :=
  ∃ (I1 : Int → Heap → Prop) (M1 : Int → Heap → Nat), I1 0 h1 ∧
  ∀ (n1 : Int), ∀ h2 : Heap, I1 n1 h2 →
  bif (decide (n1 < (bL1 : Int))) then (
  (0 ≤ n1 ∧ n1 < (bL1 : Int)) ∧
  onSome bA1 fun p1 =>
  ∃ (n2 : Int), cellOf h2 (Addr.add p1 (Int.toNat n1)) = some (.int .u8 n2) ∧
  bif (n2 == 0) then (
  K (.int .i64 n1) h2) else (
  I1 (IntKind.wrap .i64 (n1 + 1)) h2 ∧ M1 (IntKind.wrap .i64 (n1 + 1)) h2 < M1 n1 h2)) else (
  K (.int .i64 (bL1 : Int)) h2)
def rec_ahead.lo : Nat → List Nat × List (Nat × Ty) := fun n => match n with | 2 => ([0, 5, 6], [(7, .int .i64)]) | _ => ([], [])
def rec_ahead.od : Nat → Od := fun n => match n with | _ => .nil
theorem rec_ahead.eq (bA1 : Option Addr) (bL1 : Nat) (bC1 : Nat) (K : Value → Heap → Prop) (h : Heap) : fnX (cx rec_ahead.lo rec_ahead.od) Tryd.f62 (Tryd.f62.body.getD .skip) [.slice bA1 bL1 bC1] K h = rec_ahead bA1 bL1 bC1 K h := by kernel_rfl
theorem rec_ahead.chk : fnOk (cx rec_ahead.lo rec_ahead.od) Tryd.f62 (Tryd.f62.body.getD .skip) 1 = true := by kernel_rfl
theorem rec_ahead.ok {bA1 : Option Addr} {bL1 : Nat} {bC1 : Nat} {K : Value → Heap → Prop} {h : Heap} (hx : rec_ahead bA1 bL1 bC1 K h) : C.rec_ahead bA1 bL1 bC1 h K :=
  fn_to (cxOk _ _) Tryd.func62 (by kernel_rfl) rec_ahead.chk (by rw [rec_ahead.eq]; exact hx)

-- 63
def rec_lie (bA1 : Option Addr) (bL1 : Nat) (bC1 : Nat) (at1 : Int) (n1 : Int) (K : Value → Heap → Prop) (h1 : Heap) : Prop :=
  bif (decide (at1 ≥ 0)) then (
  bif (decide (n1 ≥ 0)) then (
  bif (decide (at1 ≤ (bL1 : Int))) then (
  K (.bool (decide (n1 ≤ (IntKind.wrap .i64 ((bL1 : Int) - at1))))) h1) else (
  K (.bool false) h1)) else (
  K (.bool false) h1)) else (
  K (.bool false) h1)
def rec_lie.lo : Nat → List Nat × List (Nat × Ty) := fun n => match n with | _ => ([], [])
def rec_lie.od : Nat → Od := fun n => match n with | _ => .nil
theorem rec_lie.eq (bA1 : Option Addr) (bL1 : Nat) (bC1 : Nat) (at1 : Int) (n1 : Int) (K : Value → Heap → Prop) (h : Heap) : fnX (cx rec_lie.lo rec_lie.od) Tryd.f63 (Tryd.f63.body.getD .skip) [.slice bA1 bL1 bC1, .int .i64 at1, .int .i64 n1] K h = rec_lie bA1 bL1 bC1 at1 n1 K h := by kernel_rfl
theorem rec_lie.chk : fnOk (cx rec_lie.lo rec_lie.od) Tryd.f63 (Tryd.f63.body.getD .skip) 3 = true := by kernel_rfl
theorem rec_lie.ok {bA1 : Option Addr} {bL1 : Nat} {bC1 : Nat} {at1 : Int} {n1 : Int} {K : Value → Heap → Prop} {h : Heap} (hx : rec_lie bA1 bL1 bC1 at1 n1 K h) : C.rec_lie bA1 bL1 bC1 at1 n1 h K :=
  fn_to (cxOk _ _) Tryd.func63 (by kernel_rfl) rec_lie.chk (by rw [rec_lie.eq]; exact hx)

-- 64
def rec_isWidth (n1 : Int) (K : Value → Heap → Prop) (h1 : Heap) : Prop :=
  bif (decide (n1 ≥ 0)) then (
  bif (decide (n1 < 9)) then (
  (0 ≤ n1 ∧ n1 < (9 : Int)) ∧
  ∃ (b1 : Bool), cellOf h1 (Addr.add ⟨0, 0, none⟩ (Int.toNat n1)) = some (.bool b1) ∧
  K (.bool b1) h1) else (
  K (.bool false) h1)) else (
  K (.bool false) h1)
def rec_isWidth.lo : Nat → List Nat × List (Nat × Ty) := fun n => match n with | _ => ([], [])
def rec_isWidth.od : Nat → Od := fun n => match n with | _ => .nil
theorem rec_isWidth.eq (n1 : Int) (K : Value → Heap → Prop) (h : Heap) : fnX (cx rec_isWidth.lo rec_isWidth.od) Tryd.f64 (Tryd.f64.body.getD .skip) [.int .i64 n1] K h = rec_isWidth n1 K h := by kernel_rfl
theorem rec_isWidth.chk : fnOk (cx rec_isWidth.lo rec_isWidth.od) Tryd.f64 (Tryd.f64.body.getD .skip) 1 = true := by kernel_rfl
theorem rec_isWidth.ok {n1 : Int} {K : Value → Heap → Prop} {h : Heap} (hx : rec_isWidth n1 K h) : C.rec_isWidth n1 h K :=
  fn_to (cxOk _ _) Tryd.func64 (by kernel_rfl) rec_isWidth.chk (by rw [rec_isWidth.eq]; exact hx)

-- 65
def bytes_Clone (bA1 : Option Addr) (bL1 : Nat) (bC1 : Nat) (K : Value → Heap → Prop) (h1 : Heap) : Prop :=
  bif (Option.isNone bA1) then (
  K (.slice none 0 0) h1) else (
  New [] 5 h1 fun h2 =>
  ∃ new1 : List Value, List.length new1 = bL1 * 1 ∧ SlCells h2 bA1 new1 ∧ (∀ v ∈ new1, v.oneCell' = true) ∧
  AppendP ti5 5 (some ⟨h1.size, 0, none⟩) 0 0 bL1 new1 h2 fun sA1 sL1 sC1 h3 =>
  K (.slice sA1 sL1 sC1) h3)
def bytes_Clone.lo : Nat → List Nat × List (Nat × Ty) := fun n => match n with | _ => ([], [])
def bytes_Clone.od : Nat → Od := fun n => match n with | _ => .nil
theorem bytes_Clone.eq (bA1 : Option Addr) (bL1 : Nat) (bC1 : Nat) (K : Value → Heap → Prop) (h : Heap) : fnX (cx bytes_Clone.lo bytes_Clone.od) Tryd.f65 (Tryd.f65.body.getD .skip) [.slice bA1 bL1 bC1] K h = bytes_Clone bA1 bL1 bC1 K h := by kernel_rfl
theorem bytes_Clone.chk : fnOk (cx bytes_Clone.lo bytes_Clone.od) Tryd.f65 (Tryd.f65.body.getD .skip) 1 = true := by kernel_rfl
theorem bytes_Clone.ok {bA1 : Option Addr} {bL1 : Nat} {bC1 : Nat} {K : Value → Heap → Prop} {h : Heap} (hx : bytes_Clone bA1 bL1 bC1 K h) : C.bytes_Clone bA1 bL1 bC1 h K :=
  fn_to (cxOk _ _) Tryd.func65 (by kernel_rfl) bytes_Clone.chk (by rw [bytes_Clone.eq]; exact hx)

-- 66
def sum_Of (bA1 : Option Addr) (bL1 : Nat) (bC1 : Nat) (K : Value → Heap → Prop) (h1 : Heap) : Prop :=
  ∃ (I1 : Int → Int → Heap → Prop) (M1 : Int → Int → Heap → Nat), I1 4294967295 0 h1 ∧
  ∀ (v1 : Int) (n1 : Int), ∀ h2 : Heap, I1 v1 n1 h2 →
  bif (decide (n1 < (bL1 : Int))) then (
  (0 ≤ n1 ∧ n1 < (bL1 : Int)) ∧
  onSome bA1 fun p1 =>
  ∃ (n2 : Int), cellOf h2 (Addr.add p1 (Int.toNat n1)) = some (.int .u8 n2) ∧
  C.sum_step v1 n2 h2 fun r1 h3 =>
  ∃ (n3 : Int), r1 = .int .u32 n3 ∧
  I1 n3 (IntKind.wrap .i64 (n1 + 1)) h3 ∧ M1 n3 (IntKind.wrap .i64 (n1 + 1)) h3 < M1 v1 n1 h2) else (
  K (.int .u32 (bitsI .xor .u32 (IntKind.max .u32) v1)) h2)
def sum_Of.lo : Nat → List Nat × List (Nat × Ty) := fun n => match n with | 3 => ([6, 7], [(3, .int .u32), (8, .int .i64)]) | _ => ([], [])
def sum_Of.od : Nat → Od := fun n => match n with | _ => .nil
theorem sum_Of.eq (bA1 : Option Addr) (bL1 : Nat) (bC1 : Nat) (K : Value → Heap → Prop) (h : Heap) : fnX (cx sum_Of.lo sum_Of.od) Tryd.f66 (Tryd.f66.body.getD .skip) [.slice bA1 bL1 bC1] K h = sum_Of bA1 bL1 bC1 K h := by kernel_rfl
theorem sum_Of.chk : fnOk (cx sum_Of.lo sum_Of.od) Tryd.f66 (Tryd.f66.body.getD .skip) 1 = true := by kernel_rfl
theorem sum_Of.ok {bA1 : Option Addr} {bL1 : Nat} {bC1 : Nat} {K : Value → Heap → Prop} {h : Heap} (hx : sum_Of bA1 bL1 bC1 K h) : C.sum_Of bA1 bL1 bC1 h K :=
  fn_to (cxOk _ _) Tryd.func66 (by kernel_rfl) sum_Of.chk (by rw [sum_Of.eq]; exact hx)

-- 67
def sum_Join.k1 (a1 : Int) (b1 : Int) (n1 : Int) (h1 : Heap) (K : Value → Heap → Prop) : Prop :=
  C.sum_behind a1 n1 h1 fun r1 h2 =>
  ∃ (n2 : Int), r1 = .int .u32 n2 ∧
  K (.tuple #[.int .u32 (bitsI .xor .u32 n2 b1), .int .i64 0]) h2
def sum_Join (a1 : Int) (b1 : Int) (n1 : Int) (K : Value → Heap → Prop) (h1 : Heap) : Prop :=
  bif (decide (n1 < 0)) then (
  K (.tuple #[.int .u32 0, .int .i64 1]) h1) else (
  bif (decide (n1 > 1099511627776)) then (
  K (.tuple #[.int .u32 0, .int .i64 1]) h1) else (
  sum_Join.k1 a1 b1 n1 h1 K))
def sum_Join.lo : Nat → List Nat × List (Nat × Ty) := fun n => match n with | _ => ([], [])
def sum_Join.od : Nat → Od := fun n => match n with | _ => .nil
theorem sum_Join.eq (a1 : Int) (b1 : Int) (n1 : Int) (K : Value → Heap → Prop) (h : Heap) : fnX (cx sum_Join.lo sum_Join.od) Tryd.f67 (Tryd.f67.body.getD .skip) [.int .u32 a1, .int .u32 b1, .int .i64 n1] K h = sum_Join a1 b1 n1 K h := by kernel_rfl
theorem sum_Join.chk : fnOk (cx sum_Join.lo sum_Join.od) Tryd.f67 (Tryd.f67.body.getD .skip) 3 = true := by kernel_rfl
theorem sum_Join.ok {a1 : Int} {b1 : Int} {n1 : Int} {K : Value → Heap → Prop} {h : Heap} (hx : sum_Join a1 b1 n1 K h) : C.sum_Join a1 b1 n1 h K :=
  fn_to (cxOk _ _) Tryd.func67 (by kernel_rfl) sum_Join.chk (by rw [sum_Join.eq]; exact hx)

-- 68
def boleref01_Of (bA1 : Option Addr) (bL1 : Nat) (bC1 : Nat) (K : Value → Heap → Prop) (h1 : Heap) : Prop :=
  ∃ (I1 : Int → Int → Heap → Prop) (M1 : Int → Int → Heap → Nat), I1 4294967295 0 h1 ∧
  ∀ (w1 : Int) (i1 : Int), ∀ h2 : Heap, I1 w1 i1 h2 →
  bif (decide (i1 < (bL1 : Int))) then (
  (0 ≤ i1 ∧ i1 < (bL1 : Int)) ∧
  onSome bA1 fun p1 =>
  ∃ (n1 : Int), cellOf h2 (Addr.add p1 (Int.toNat i1)) = some (.int .u8 n1) ∧
  ∃ (I2 : Int → Int → Heap → Prop) (M2 : Int → Int → Heap → Nat), I2 (bitsI .xor .u32 w1 (IntKind.wrap .u32 (n1))) 0 h2 ∧
  ∀ (w2 : Int) (k1 : Int), ∀ h3 : Heap, I2 w2 k1 h3 →
  bif (decide (k1 < 8)) then (
  C.boleref01_one w2 h3 fun r1 h4 =>
  ∃ (n2 : Int), r1 = .int .u32 n2 ∧
  I2 n2 (IntKind.wrap .i64 (k1 + 1)) h4 ∧ M2 n2 (IntKind.wrap .i64 (k1 + 1)) h4 < M2 w2 k1 h3) else (
  I1 w2 (IntKind.wrap .i64 (i1 + 1)) h3 ∧ M1 w2 (IntKind.wrap .i64 (i1 + 1)) h3 < M1 w1 i1 h2)) else (
  K (.int .u32 (bitsI .xor .u32 w1 4294967295)) h2)
def boleref01_Of.lo : Nat → List Nat × List (Nat × Ty) := fun n => match n with | 3 => ([0], [(3, .int .u32), (4, .int .i64)]) | 7 => ([0, 4], [(3, .int .u32), (5, .int .i64)]) | _ => ([], [])
def boleref01_Of.od : Nat → Od := fun n => match n with | _ => .nil
theorem boleref01_Of.eq (bA1 : Option Addr) (bL1 : Nat) (bC1 : Nat) (K : Value → Heap → Prop) (h : Heap) : fnX (cx boleref01_Of.lo boleref01_Of.od) Tryd.f68 (Tryd.f68.body.getD .skip) [.slice bA1 bL1 bC1] K h = boleref01_Of bA1 bL1 bC1 K h := by kernel_rfl
theorem boleref01_Of.chk : fnOk (cx boleref01_Of.lo boleref01_Of.od) Tryd.f68 (Tryd.f68.body.getD .skip) 1 = true := by kernel_rfl
theorem boleref01_Of.ok {bA1 : Option Addr} {bL1 : Nat} {bC1 : Nat} {K : Value → Heap → Prop} {h : Heap} (hx : boleref01_Of bA1 bL1 bC1 K h) : C.boleref01_Of bA1 bL1 bC1 h K :=
  fn_to (cxOk _ _) Tryd.func68 (by kernel_rfl) boleref01_Of.chk (by rw [boleref01_Of.eq]; exact hx)

-- 69
def rec_zeros (bA1 : Option Addr) (bL1 : Nat) (bC1 : Nat) (K : Value → Heap → Prop) (h1 : Heap) : Prop :=
  ∃ (I1 : Int → Heap → Prop) (M1 : Int → Heap → Nat), I1 0 h1 ∧
  ∀ (n1 : Int), ∀ h2 : Heap, I1 n1 h2 →
  bif (decide (n1 < (bL1 : Int))) then (
  (0 ≤ n1 ∧ n1 < (bL1 : Int)) ∧
  onSome bA1 fun p1 =>
  ∃ (n2 : Int), cellOf h2 (Addr.add p1 (Int.toNat n1)) = some (.int .u8 n2) ∧
  bif (n2 != 0) then (
  K (.bool false) h2) else (
  I1 (IntKind.wrap .i64 (n1 + 1)) h2 ∧ M1 (IntKind.wrap .i64 (n1 + 1)) h2 < M1 n1 h2)) else (
  K (.bool true) h2)
def rec_zeros.lo : Nat → List Nat × List (Nat × Ty) := fun n => match n with | 2 => ([5, 6], [(7, .int .i64)]) | _ => ([], [])
def rec_zeros.od : Nat → Od := fun n => match n with | _ => .nil
theorem rec_zeros.eq (bA1 : Option Addr) (bL1 : Nat) (bC1 : Nat) (K : Value → Heap → Prop) (h : Heap) : fnX (cx rec_zeros.lo rec_zeros.od) Tryd.f69 (Tryd.f69.body.getD .skip) [.slice bA1 bL1 bC1] K h = rec_zeros bA1 bL1 bC1 K h := by kernel_rfl
theorem rec_zeros.chk : fnOk (cx rec_zeros.lo rec_zeros.od) Tryd.f69 (Tryd.f69.body.getD .skip) 1 = true := by kernel_rfl
theorem rec_zeros.ok {bA1 : Option Addr} {bL1 : Nat} {bC1 : Nat} {K : Value → Heap → Prop} {h : Heap} (hx : rec_zeros bA1 bL1 bC1 K h) : C.rec_zeros bA1 bL1 bC1 h K :=
  fn_to (cxOk _ _) Tryd.func69 (by kernel_rfl) rec_zeros.chk (by rw [rec_zeros.eq]; exact hx)

-- 76
def sum_step (v1 : Int) (b1 : Int) (K : Value → Heap → Prop) (h1 : Heap) : Prop :=
  (0 ≤ (bitsI .and .u32 (bitsI .xor .u32 v1 (IntKind.wrap .u32 (b1))) 15) ∧ (bitsI .and .u32 (bitsI .xor .u32 v1 (IntKind.wrap .u32 (b1))) 15) < (16 : Int)) ∧
  ∃ (n1 : Int), cellOf h1 (Addr.add ⟨1, 0, none⟩ (Int.toNat (bitsI .and .u32 (bitsI .xor .u32 v1 (IntKind.wrap .u32 (b1))) 15))) = some (.int .u32 n1) ∧
  (0 ≤ (bitsI .and .u32 (bitsI .xor .u32 n1 (Int.fdiv (bitsI .xor .u32 v1 (IntKind.wrap .u32 (b1))) (2 ^ min (Int.toNat 4) 32))) 15) ∧ (bitsI .and .u32 (bitsI .xor .u32 n1 (Int.fdiv (bitsI .xor .u32 v1 (IntKind.wrap .u32 (b1))) (2 ^ min (Int.toNat 4) 32))) 15) < (16 : Int)) ∧
  ∃ (n2 : Int), cellOf h1 (Addr.add ⟨1, 0, none⟩ (Int.toNat (bitsI .and .u32 (bitsI .xor .u32 n1 (Int.fdiv (bitsI .xor .u32 v1 (IntKind.wrap .u32 (b1))) (2 ^ min (Int.toNat 4) 32))) 15))) = some (.int .u32 n2) ∧
  K (.int .u32 (bitsI .xor .u32 n2 (Int.fdiv (bitsI .xor .u32 n1 (Int.fdiv (bitsI .xor .u32 v1 (IntKind.wrap .u32 (b1))) (2 ^ min (Int.toNat 4) 32))) (2 ^ min (Int.toNat 4) 32)))) h1
def sum_step.lo : Nat → List Nat × List (Nat × Ty) := fun n => match n with | _ => ([], [])
def sum_step.od : Nat → Od := fun n => match n with | _ => .nil
theorem sum_step.eq (v1 : Int) (b1 : Int) (K : Value → Heap → Prop) (h : Heap) : fnX (cx sum_step.lo sum_step.od) Tryd.f76 (Tryd.f76.body.getD .skip) [.int .u32 v1, .int .u8 b1] K h = sum_step v1 b1 K h := by kernel_rfl
theorem sum_step.chk : fnOk (cx sum_step.lo sum_step.od) Tryd.f76 (Tryd.f76.body.getD .skip) 2 = true := by kernel_rfl
theorem sum_step.ok {v1 : Int} {b1 : Int} {K : Value → Heap → Prop} {h : Heap} (hx : sum_step v1 b1 K h) : C.sum_step v1 b1 h K :=
  fn_to (cxOk _ _) Tryd.func76 (by kernel_rfl) sum_step.chk (by rw [sum_step.eq]; exact hx)

-- 77
def sum_behind (v1 : Int) (n1 : Int) (K : Value → Heap → Prop) (h1 : Heap) : Prop :=
  New z137 137 h1 fun h2 =>
  ∃ (I1 : Int → Heap → Prop) (M1 : Int → Heap → Nat), I1 0 h2 ∧
  ∀ (n2 : Int), ∀ h3 : Heap, I1 n2 h3 →
  bif (decide (n2 < 32)) then (
  if n2 < 0 then False else
  C.sum_step (IntKind.wrap .u32 ((1 * 2 ^ min (Int.toNat n2) 32))) 0 h3 fun r1 h4 =>
  ∃ (n3 : Int), r1 = .int .u32 n3 ∧
  (0 ≤ n2 ∧ n2 < (32 : Int)) ∧
  Put (Addr.add ⟨h1.size, 0, none⟩ (Int.toNat n2)) (.int .u32 n3) h4 fun h5 =>
  I1 (IntKind.wrap .i64 (n2 + 1)) h5 ∧ M1 (IntKind.wrap .i64 (n2 + 1)) h5 < M1 n2 h3) else (
  ∃ (I2 : Int → Int → Heap → Prop) (M2 : Int → Int → Heap → Nat), I2 v1 n1 h3 ∧
  ∀ (v2 : Int) (n4 : Int), ∀ h6 : Heap, I2 v2 n4 h6 →
  bif (decide (n4 > 0)) then (
  bif ((bitsI .and .i64 n4 1) == 1) then (
  C.sum_matrix_times (some ⟨h1.size, 0, none⟩) v2 h6 fun r2 h7 =>
  ∃ (n5 : Int), r2 = .int .u32 n5 ∧
  C.sum_matrix_square (some ⟨h1.size, 0, none⟩) h7 fun r3 h8 =>
  ∃ (cs1 : List Value), r3 = .agg ⟨cs1⟩ ∧
  PutRow ⟨h1.size, 0, none⟩ cs1 32 h8 fun h9 =>
  I2 n5 (Int.fdiv n4 (2 ^ min (Int.toNat 1) 64)) h9 ∧ M2 n5 (Int.fdiv n4 (2 ^ min (Int.toNat 1) 64)) h9 < M2 v2 n4 h6) else (
  C.sum_matrix_square (some ⟨h1.size, 0, none⟩) h6 fun r4 h10 =>
  ∃ (cs2 : List Value), r4 = .agg ⟨cs2⟩ ∧
  PutRow ⟨h1.size, 0, none⟩ cs2 32 h10 fun h11 =>
  I2 v2 (Int.fdiv n4 (2 ^ min (Int.toNat 1) 64)) h11 ∧ M2 v2 (Int.fdiv n4 (2 ^ min (Int.toNat 1) 64)) h11 < M2 v2 n4 h6)) else (
  K (.int .u32 v2) h6))
def sum_behind.lo : Nat → List Nat × List (Nat × Ty) := fun n => match n with | 3 => ([0, 1, 5], [(7, .int .i64)]) | 7 => ([5], [(0, .int .u32), (1, .int .i64)]) | _ => ([], [])
def sum_behind.od : Nat → Od := fun n => match n with | _ => .nil
theorem sum_behind.eq (v1 : Int) (n1 : Int) (K : Value → Heap → Prop) (h : Heap) : fnX (cx sum_behind.lo sum_behind.od) Tryd.f77 (Tryd.f77.body.getD .skip) [.int .u32 v1, .int .i64 n1] K h = sum_behind v1 n1 K h := by kernel_rfl
theorem sum_behind.chk : fnOk (cx sum_behind.lo sum_behind.od) Tryd.f77 (Tryd.f77.body.getD .skip) 2 = true := by kernel_rfl
theorem sum_behind.ok {v1 : Int} {n1 : Int} {K : Value → Heap → Prop} {h : Heap} (hx : sum_behind v1 n1 K h) : C.sum_behind v1 n1 h K :=
  fn_to (cxOk _ _) Tryd.func77 (by kernel_rfl) sum_behind.chk (by rw [sum_behind.eq]; exact hx)

-- 78
def boleref01_one (w1 : Int) (K : Value → Heap → Prop) (h1 : Heap) : Prop :=
  bif ((Int.tmod w1 2) == 1) then (
  K (.int .u32 (bitsI .xor .u32 (IntKind.wrap .u32 (Int.tdiv w1 2)) 3988292384)) h1) else (
  K (.int .u32 (IntKind.wrap .u32 (Int.tdiv w1 2))) h1)
def boleref01_one.lo : Nat → List Nat × List (Nat × Ty) := fun n => match n with | _ => ([], [])
def boleref01_one.od : Nat → Od := fun n => match n with | _ => .nil
theorem boleref01_one.eq (w1 : Int) (K : Value → Heap → Prop) (h : Heap) : fnX (cx boleref01_one.lo boleref01_one.od) Tryd.f78 (Tryd.f78.body.getD .skip) [.int .u32 w1] K h = boleref01_one w1 K h := by kernel_rfl
theorem boleref01_one.chk : fnOk (cx boleref01_one.lo boleref01_one.od) Tryd.f78 (Tryd.f78.body.getD .skip) 1 = true := by kernel_rfl
theorem boleref01_one.ok {w1 : Int} {K : Value → Heap → Prop} {h : Heap} (hx : boleref01_one w1 K h) : C.boleref01_one w1 h K :=
  fn_to (cxOk _ _) Tryd.func78 (by kernel_rfl) boleref01_one.chk (by rw [boleref01_one.eq]; exact hx)

-- 84
def sum_matrix_times (m1 : Option Addr) (v1 : Int) (K : Value → Heap → Prop) (h1 : Heap) : Prop :=
  ∃ (I1 : Int → Int → Int → Heap → Prop) (M1 : Int → Int → Int → Heap → Nat), I1 v1 0 0 h1 ∧
  ∀ (v2 : Int) (r1 : Int) (i1 : Int), ∀ h2 : Heap, I1 v2 r1 i1 h2 →
  bif (v2 != 0) then (
  bif ((bitsI .and .u32 v2 1) == 1) then (
  onSome m1 fun p1 =>
  (0 ≤ i1 ∧ i1 < (32 : Int)) ∧
  ∃ (n1 : Int), cellOf h2 (Addr.add p1 (Int.toNat i1)) = some (.int .u32 n1) ∧
  I1 (Int.fdiv v2 (2 ^ min (Int.toNat 1) 32)) (bitsI .xor .u32 r1 n1) (IntKind.wrap .i64 (i1 + 1)) h2 ∧ M1 (Int.fdiv v2 (2 ^ min (Int.toNat 1) 32)) (bitsI .xor .u32 r1 n1) (IntKind.wrap .i64 (i1 + 1)) h2 < M1 v2 r1 i1 h2) else (
  I1 (Int.fdiv v2 (2 ^ min (Int.toNat 1) 32)) r1 (IntKind.wrap .i64 (i1 + 1)) h2 ∧ M1 (Int.fdiv v2 (2 ^ min (Int.toNat 1) 32)) r1 (IntKind.wrap .i64 (i1 + 1)) h2 < M1 v2 r1 i1 h2)) else (
  K (.int .u32 r1) h2)
def sum_matrix_times.lo : Nat → List Nat × List (Nat × Ty) := fun n => match n with | 3 => ([0], [(1, .int .u32), (5, .int .u32), (6, .int .i64)]) | _ => ([], [])
def sum_matrix_times.od : Nat → Od := fun n => match n with | _ => .nil
theorem sum_matrix_times.eq (m1 : Option Addr) (v1 : Int) (K : Value → Heap → Prop) (h : Heap) : fnX (cx sum_matrix_times.lo sum_matrix_times.od) Tryd.f84 (Tryd.f84.body.getD .skip) [.pointer m1, .int .u32 v1] K h = sum_matrix_times m1 v1 K h := by kernel_rfl
theorem sum_matrix_times.chk : fnOk (cx sum_matrix_times.lo sum_matrix_times.od) Tryd.f84 (Tryd.f84.body.getD .skip) 2 = true := by kernel_rfl
theorem sum_matrix_times.ok {m1 : Option Addr} {v1 : Int} {K : Value → Heap → Prop} {h : Heap} (hx : sum_matrix_times m1 v1 K h) : C.sum_matrix_times m1 v1 h K :=
  fn_to (cxOk _ _) Tryd.func84 (by kernel_rfl) sum_matrix_times.chk (by rw [sum_matrix_times.eq]; exact hx)

-- 85
def sum_matrix_square (m1 : Option Addr) (K : Value → Heap → Prop) (h1 : Heap) : Prop :=
  New z137 137 h1 fun h2 =>
  New z137 137 h2 fun h3 =>
  ∃ (I1 : Int → Heap → Prop) (M1 : Int → Heap → Nat), I1 0 h3 ∧
  ∀ (n1 : Int), ∀ h4 : Heap, I1 n1 h4 →
  bif (decide (n1 < 32)) then (
  onSome m1 fun p1 =>
  (0 ≤ n1 ∧ n1 < (32 : Int)) ∧
  ∃ (n2 : Int), cellOf h4 (Addr.add p1 (Int.toNat n1)) = some (.int .u32 n2) ∧
  C.sum_matrix_times m1 n2 h4 fun r1 h5 =>
  ∃ (n3 : Int), r1 = .int .u32 n3 ∧
  (0 ≤ n1 ∧ n1 < (32 : Int)) ∧
  Put (Addr.add ⟨h2.size, 0, none⟩ (Int.toNat n1)) (.int .u32 n3) h5 fun h6 =>
  I1 (IntKind.wrap .i64 (n1 + 1)) h6 ∧ M1 (IntKind.wrap .i64 (n1 + 1)) h6 < M1 n1 h4) else (
  ∃ cs1 : List Value, List.length cs1 = 32 ∧ Cells h4 ⟨h2.size, 0, none⟩ cs1 ∧
  PutRow ⟨h1.size, 0, none⟩ cs1 32 h4 fun h7 =>
  ∃ res1 : List Value, List.length res1 = 32 ∧ Cells h7 ⟨h1.size, 0, none⟩ res1 ∧
  K (.agg ⟨res1⟩) h7)
def sum_matrix_square.lo : Nat → List Nat × List (Nat × Ty) := fun n => match n with | 3 => ([0, 2, 3], [(5, .int .i64)]) | _ => ([], [])
def sum_matrix_square.od : Nat → Od := fun n => match n with | _ => .nil
theorem sum_matrix_square.eq (m1 : Option Addr) (K : Value → Heap → Prop) (h : Heap) : fnX (cx sum_matrix_square.lo sum_matrix_square.od) Tryd.f85 (Tryd.f85.body.getD .skip) [.pointer m1] K h = sum_matrix_square m1 K h := by kernel_rfl
theorem sum_matrix_square.chk : fnOk (cx sum_matrix_square.lo sum_matrix_square.od) Tryd.f85 (Tryd.f85.body.getD .skip) 1 = true := by kernel_rfl
theorem sum_matrix_square.ok {m1 : Option Addr} {K : Value → Heap → Prop} {h : Heap} (hx : sum_matrix_square m1 K h) : C.sum_matrix_square m1 h K :=
  fn_to (cxOk _ _) Tryd.func85 (by kernel_rfl) sum_matrix_square.chk (by rw [sum_matrix_square.eq]; exact hx)
end Go.Proofs.YtnlmieklakolkaaDoor.W
