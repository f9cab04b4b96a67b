/-
  WHAT THE FUNCTIONS COMPUTE, as formulas; each held against the loaded code by the kernel. Written by program (gen.py).
-/
import Derived.Test.YtpleolmalbdpnaaDoorTab
namespace Go.Proofs.YtpleolmalbdpnaaDoor.W
open Go Go.Proofs Go.Proofs.YtpleolmalbdpnaaDoor.Wx
-- 99
def rec_zeros (bA1 : Option Addr) (bL1 : Nat) (bC1 : Nat) (K : Value → Heap → Prop) (h1 : Heap) : Prop :=
  ∃ (I1 : Int → Heap → Prop) (M1 : Int → Heap → Nat), I1 0 h1 ∧
  ∀ (n1 : Int), ∀ h2 : Heap, I1 n1 h2 →
  bif (decide (n1 < (bL1 : Int))) then (
  (0 ≤ n1 ∧ n1 < (bL1 : Int)) ∧
  onSome bA1 fun p1 =>
  ∃ (n2 : Int), cellOf h2 (Addr.add p1 (Int.toNat n1)) = some (.int .u8 n2) ∧
  bif (n2 != 0) then (
  K (.bool false) h2) else (
  I1 (IntKind.wrap .i64 (n1 + 1)) h2 ∧ M1 (IntKind.wrap .i64 (n1 + 1)) h2 < M1 n1 h2)) else (
  K (.bool true) h2)
def rec_zeros.lo : Nat → List Nat × List (Nat × Ty) := fun n => match n with | 2 => ([5, 6], [(7, .int .i64)]) | _ => ([], [])
def rec_zeros.od : Nat → Od := fun n => match n with | _ => .nil
theorem rec_zeros.eq (bA1 : Option Addr) (bL1 : Nat) (bC1 : Nat) (K : Value → Heap → Prop) (h : Heap) : fnX (cx rec_zeros.lo rec_zeros.od) Tryd.f99 (Tryd.f99.body.getD .skip) [.slice bA1 bL1 bC1] K h = rec_zeros bA1 bL1 bC1 K h := by kernel_rfl
theorem rec_zeros.chk : fnOk (cx rec_zeros.lo rec_zeros.od) Tryd.f99 (Tryd.f99.body.getD .skip) 1 = true := by kernel_rfl
theorem rec_zeros.ok {bA1 : Option Addr} {bL1 : Nat} {bC1 : Nat} {K : Value → Heap → Prop} {h : Heap} (hx : rec_zeros bA1 bL1 bC1 K h) : C.rec_zeros bA1 bL1 bC1 h K :=
  fn_to (cxOk _ _) Tryd.func99 (by kernel_rfl) rec_zeros.chk (by rw [rec_zeros.eq]; exact hx)

-- 111
def sum_matrix_times (m1 : Option Addr) (v1 : Int) (K : Value → Heap → Prop) (h1 : Heap) : Prop :=
  ∃ (I1 : Int → Int → Int → Heap → Prop) (M1 : Int → Int → Int → Heap → Nat), I1 v1 0 0 h1 ∧
  ∀ (v2 : Int) (r1 : Int) (i1 : Int), ∀ h2 : Heap, I1 v2 r1 i1 h2 →
  bif (v2 != 0) then (
  bif ((bitsI .and .u32 v2 1) == 1) then (
  onSome m1 fun p1 =>
  (0 ≤ i1 ∧ i1 < (32 : Int)) ∧
  ∃ (n1 : Int), cellOf h2 (Addr.add p1 (Int.toNat i1)) = some (.int .u32 n1) ∧
  I1 (Int.fdiv v2 (2 ^ min (Int.toNat 1) 32)) (bitsI .xor .u32 r1 n1) (IntKind.wrap .i64 (i1 + 1)) h2 ∧ M1 (Int.fdiv v2 (2 ^ min (Int.toNat 1) 32)) (bitsI .xor .u32 r1 n1) (IntKind.wrap .i64 (i1 + 1)) h2 < M1 v2 r1 i1 h2) else (
  I1 (Int.fdiv v2 (2 ^ min (Int.toNat 1) 32)) r1 (IntKind.wrap .i64 (i1 + 1)) h2 ∧ M1 (Int.fdiv v2 (2 ^ min (Int.toNat 1) 32)) r1 (IntKind.wrap .i64 (i1 + 1)) h2 < M1 v2 r1 i1 h2)) else (
  K (.int .u32 r1) h2)
def sum_matrix_times.lo : Nat → List Nat × List (Nat × Ty) := fun n => match n with | 3 => ([0], [(1, .int .u32), (5, .int .u32), (6, .int .i64)]) | _ => ([], [])
def sum_matrix_times.od : Nat → Od := fun n => match n with | _ => .nil
theorem sum_matrix_times.eq (m1 : Option Addr) (v1 : Int) (K : Value → Heap → Prop) (h : Heap) : fnX (cx sum_matrix_times.lo sum_matrix_times.od) Tryd.f111 (Tryd.f111.body.getD .skip) [.pointer m1, .int .u32 v1] K h = sum_matrix_times m1 v1 K h := by kernel_rfl
theorem sum_matrix_times.chk : fnOk (cx sum_matrix_times.lo sum_matrix_times.od) Tryd.f111 (Tryd.f111.body.getD .skip) 2 = true := by kernel_rfl
theorem sum_matrix_times.ok {m1 : Option Addr} {v1 : Int} {K : Value → Heap → Prop} {h : Heap} (hx : sum_matrix_times m1 v1 K h) : C.sum_matrix_times m1 v1 h K :=
  fn_to (cxOk _ _) Tryd.func111 (by kernel_rfl) sum_matrix_times.chk (by rw [sum_matrix_times.eq]; exact hx)

-- 112
def sum_matrix_square (m1 : Option Addr) (K : Value → Heap → Prop) (h1 : Heap) : Prop :=
  New z166 166 h1 fun h2 =>
  New z166 166 h2 fun h3 =>
  ∃ (I1 : Int → Heap → Prop) (M1 : Int → Heap → Nat), I1 0 h3 ∧
  ∀ (n1 : Int), ∀ h4 : Heap, I1 n1 h4 →
  bif (decide (n1 < 32)) then (
  onSome m1 fun p1 =>
  (0 ≤ n1 ∧ n1 < (32 : Int)) ∧
  ∃ (n2 : Int), cellOf h4 (Addr.add p1 (Int.toNat n1)) = some (.int .u32 n2) ∧
  C.sum_matrix_times m1 n2 h4 fun r1 h5 =>
  ∃ (n3 : Int), r1 = .int .u32 n3 ∧
  (0 ≤ n1 ∧ n1 < (32 : Int)) ∧
  Put (Addr.add ⟨h2.size, 0, none⟩ (Int.toNat n1)) (.int .u32 n3) h5 fun h6 =>
  I1 (IntKind.wrap .i64 (n1 + 1)) h6 ∧ M1 (IntKind.wrap .i64 (n1 + 1)) h6 < M1 n1 h4) else (
  ∃ cs1 : List Value, List.length cs1 = 32 ∧ Cells h4 ⟨h2.size, 0, none⟩ cs1 ∧
  PutRow ⟨h1.size, 0, none⟩ cs1 32 h4 fun h7 =>
  ∃ res1 : List Value, List.length res1 = 32 ∧ Cells h7 ⟨h1.size, 0, none⟩ res1 ∧
  K (.agg ⟨res1⟩) h7)
def sum_matrix_square.lo : Nat → List Nat × List (Nat × Ty) := fun n => match n with | 3 => ([0, 2, 3], [(5, .int .i64)]) | _ => ([], [])
def sum_matrix_square.od : Nat → Od := fun n => match n with | _ => .nil
theorem sum_matrix_square.eq (m1 : Option Addr) (K : Value → Heap → Prop) (h : Heap) : fnX (cx sum_matrix_square.lo sum_matrix_square.od) Tryd.f112 (Tryd.f112.body.getD .skip) [.pointer m1] K h = sum_matrix_square m1 K h := by kernel_rfl
theorem sum_matrix_square.chk : fnOk (cx sum_matrix_square.lo sum_matrix_square.od) Tryd.f112 (Tryd.f112.body.getD .skip) 1 = true := by kernel_rfl
theorem sum_matrix_square.ok {m1 : Option Addr} {K : Value → Heap → Prop} {h : Heap} (hx : sum_matrix_square m1 K h) : C.sum_matrix_square m1 h K :=
  fn_to (cxOk _ _) Tryd.func112 (by kernel_rfl) sum_matrix_square.chk (by rw [sum_matrix_square.eq]; exact hx)
end Go.Proofs.YtpleolmalbdpnaaDoor.W
