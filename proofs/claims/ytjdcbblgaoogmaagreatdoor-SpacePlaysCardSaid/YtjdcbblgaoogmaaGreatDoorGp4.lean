/-
  TEXTS FOR spacePlays_card: FormsL FormsM SuA ReA Tbl AdM DkF TmC TmD WtA AdD AdK AdN HdB WcB RfA AdT RfP RfB.
-/
import Derived.Test.YtjdcbblgaoogmaaGreatDoorCards
import Derived.Test.YtjdcbblgaoogmaaGreatDoorTie
import Derived.Shelf.SlIterI.Sorted
import Derived.Shelf.SortM.Plain
import Derived.Shelf.SortM.SortNone
import Derived.Test.YtjdcbblgaoogmaaGreatDoorProg
import Derived.RecoverIn
import Derived.WalkKit
import Derived.WalkLawsBesides
import Derived.Test.YtjdcbblgaoogmaaGreatDoorGp3
namespace Go.Proofs.YtjdcbblgaoogmaaGreatDoor.W
open Go Go.Proofs Go.Proofs.YtjdcbblgaoogmaaGreatDoor.Wx
def boleref06_low (n1 : Int) (bytes1 : Int) (K : Value → Heap → Prop) (h1 : Heap) : Prop :=
  ∃ (I1 : Int → Option Addr → Nat → Nat → Int → Heap → Prop) (M1 : Int → Option Addr → Nat → Nat → Int → Heap → Nat), I1 n1 none 0 0 0 h1 ∧
  ∀ (n2 : Int) (bA1 : Option Addr) (bL1 : Nat) (bC1 : Nat) (i1 : Int), ∀ h2 : Heap, I1 n2 bA1 bL1 bC1 i1 h2 →
  bif (decide (i1 < bytes1)) then (
  New [.int .u8 (IntKind.wrap .u8 ((Int.tmod n2 256)))] 5 h2 fun h3 =>
  ∃ new1 : List Value, List.length new1 = 1 * 1 ∧ SlCells h3 (some ⟨h2.size, 0, none⟩) new1 ∧ (∀ v ∈ new1, v.oneCell' = true) ∧
  AppendP ti5 5 bA1 bL1 bC1 1 new1 h3 fun sA1 sL1 sC1 h4 =>
  I1 (IntKind.wrap .i64 (Int.tdiv n2 256)) sA1 sL1 sC1 (IntKind.wrap .i64 (i1 + 1)) h4 ∧ M1 (IntKind.wrap .i64 (Int.tdiv n2 256)) sA1 sL1 sC1 (IntKind.wrap .i64 (i1 + 1)) h4 < M1 n2 bA1 bL1 bC1 i1 h2) else (
  K (.slice bA1 bL1 bC1) h2)
def boleref06_low.lo : Nat → List Nat × List (Nat × Ty) := fun n => match n with | 3 => ([1], [(0, .int .i64), (5, .slice), (6, .int .i64)]) | _ => ([], [])
def boleref06_low.od : Nat → Od := fun n => match n with | _ => .nil
theorem boleref06_low.eq (n1 : Int) (bytes1 : Int) (K : Value → Heap → Prop) (h : Heap) : fnX (cx boleref06_low.lo boleref06_low.od) Tryz.f256 (Tryz.f256.body.getD .skip) [.int .i64 n1, .int .i64 bytes1] K h = boleref06_low n1 bytes1 K h := by kernel_rfl
theorem boleref06_low.chk : fnOk (cx boleref06_low.lo boleref06_low.od) Tryz.f256 (Tryz.f256.body.getD .skip) 2 = true := by kernel_rfl
theorem boleref06_low.ok {n1 : Int} {bytes1 : Int} {K : Value → Heap → Prop} {h : Heap} (hx : boleref06_low n1 bytes1 K h) : C.boleref06_low n1 bytes1 h K :=
  fn_to (cxOk _ _) Tryz.func256 (by kernel_rfl) boleref06_low.chk (by rw [boleref06_low.eq]; exact hx)
def boleref06_crc (bA1 : Option Addr) (bL1 : Nat) (bC1 : Nat) (K : Value → Heap → Prop) (h1 : Heap) : Prop :=
  ∃ (I1 : Int → Int → Heap → Prop) (M1 : Int → Int → Heap → Nat), I1 4294967295 0 h1 ∧
  ∀ (c1 : Int) (i1 : Int), ∀ h2 : Heap, I1 c1 i1 h2 →
  bif (decide (i1 < (bL1 : Int))) then (
  (0 ≤ i1 ∧ i1 < (bL1 : Int)) ∧
  onSome bA1 fun p1 =>
  ∃ (n1 : Int), cellOf h2 (Addr.add p1 (Int.toNat i1)) = some (.int .u8 n1) ∧
  ∃ (I2 : Int → Int → Heap → Prop) (M2 : Int → Int → Heap → Nat), I2 (bitsI .xor .u32 c1 (IntKind.wrap .u32 (n1))) 0 h2 ∧
  ∀ (c2 : Int) (k1 : Int), ∀ h3 : Heap, I2 c2 k1 h3 →
  bif (decide (k1 < 8)) then (
  bif ((Int.tmod c2 2) == 1) then (
  I2 (bitsI .xor .u32 (IntKind.wrap .u32 (Int.tdiv c2 2)) 3988292384) (IntKind.wrap .i64 (k1 + 1)) h3 ∧ M2 (bitsI .xor .u32 (IntKind.wrap .u32 (Int.tdiv c2 2)) 3988292384) (IntKind.wrap .i64 (k1 + 1)) h3 < M2 c2 k1 h3) else (
  I2 (IntKind.wrap .u32 (Int.tdiv c2 2)) (IntKind.wrap .i64 (k1 + 1)) h3 ∧ M2 (IntKind.wrap .u32 (Int.tdiv c2 2)) (IntKind.wrap .i64 (k1 + 1)) h3 < M2 c2 k1 h3)) else (
  I1 c2 (IntKind.wrap .i64 (i1 + 1)) h3 ∧ M1 c2 (IntKind.wrap .i64 (i1 + 1)) h3 < M1 c1 i1 h2)) else (
  K (.int .u32 (bitsI .xor .u32 (IntKind.max .u32) c1)) h2)
def boleref06_crc.lo : Nat → List Nat × List (Nat × Ty) := fun n => match n with | 3 => ([0], [(3, .int .u32), (4, .int .i64)]) | 7 => ([0, 4], [(3, .int .u32), (5, .int .i64)]) | _ => ([], [])
def boleref06_crc.od : Nat → Od := fun n => match n with | _ => .nil
theorem boleref06_crc.eq (bA1 : Option Addr) (bL1 : Nat) (bC1 : Nat) (K : Value → Heap → Prop) (h : Heap) : fnX (cx boleref06_crc.lo boleref06_crc.od) Tryz.f257 (Tryz.f257.body.getD .skip) [.slice bA1 bL1 bC1] K h = boleref06_crc bA1 bL1 bC1 K h := by kernel_rfl
theorem boleref06_crc.chk : fnOk (cx boleref06_crc.lo boleref06_crc.od) Tryz.f257 (Tryz.f257.body.getD .skip) 1 = true := by kernel_rfl
theorem boleref06_crc.ok {bA1 : Option Addr} {bL1 : Nat} {bC1 : Nat} {K : Value → Heap → Prop} {h : Heap} (hx : boleref06_crc bA1 bL1 bC1 K h) : C.boleref06_crc bA1 bL1 bC1 h K :=
  fn_to (cxOk _ _) Tryz.func257 (by kernel_rfl) boleref06_crc.chk (by rw [boleref06_crc.eq]; exact hx)
def bits_Runs_c1.k2 (yield1 : Value) (i1 : Int) (h2 : Heap) (I1 : Int → Heap → Prop) (M1 : Int → Heap → Nat) (i3 : Int) (i5 : Int) (h10 : Heap) (K : Value → Heap → Prop) : Prop :=
  bif (i5 == i3) then (
  K (.tuple #[]) h10) else (
  HCallsV Tryz.prog yield1 [.int .i64 i3, .int .i64 (IntKind.wrap .i64 (i5 - i3))] h10 fun r5 h11 =>
  ∃ (b5 : Bool), r5 = .bool b5 ∧
  bif (!b5) then (
  K (.tuple #[]) h11) else (
  I1 i5 h11 ∧ M1 i5 h11 < M1 i1 h2))
def bits_Runs_c1.k1 (yield1 : Value) (cap1 : Option Addr) (i1 : Int) (h2 : Heap) (I1 : Int → Heap → Prop) (M1 : Int → Heap → Nat) (i3 : Int) (h6 : Heap) (K : Value → Heap → Prop) : Prop :=
  ∃ (I3 : Int → Heap → Prop) (M3 : Int → Heap → Nat), I3 i3 h6 ∧
  ∀ (i4 : Int), ∀ h7 : Heap, I3 i4 h7 →
  onSome cap1 fun p3 =>
  ∃ (sA3 : Option Addr) (sL3 : Nat) (sC3 : Nat), cellOf h7 p3 = some (.slice sA3 sL3 sC3) ∧
  C.bits_has sA3 sL3 sC3 i4 h7 fun r3 h8 =>
  ∃ (b3 : Bool), r3 = .bool b3 ∧
  bif b3 then (
  onSome cap1 fun p4 =>
  ∃ (sA4 : Option Addr) (sL4 : Nat) (sC4 : Nat), cellOf h8 p4 = some (.slice sA4 sL4 sC4) ∧
  C.bits_on sA4 sL4 sC4 i4 h8 fun r4 h9 =>
  ∃ (b4 : Bool), r4 = .bool b4 ∧
  bif (!b4) then (
  I3 (IntKind.wrap .i64 (i4 + 1)) h9 ∧ M3 (IntKind.wrap .i64 (i4 + 1)) h9 < M3 i4 h7) else (
  bits_Runs_c1.k2 yield1 i1 h2 I1 M1 i3 i4 h9 K)) else (
  bits_Runs_c1.k2 yield1 i1 h2 I1 M1 i3 i4 h8 K)
def bits_Runs_c1 (yield1 : Value) (cap1 : Option Addr) (K : Value → Heap → Prop) (h1 : Heap) : Prop :=
  ∃ (I1 : Int → Heap → Prop) (M1 : Int → Heap → Nat), I1 0 h1 ∧
  ∀ (i1 : Int), ∀ h2 : Heap, I1 i1 h2 →
  ∃ (I2 : Int → Heap → Prop) (M2 : Int → Heap → Nat), I2 i1 h2 ∧
  ∀ (i2 : Int), ∀ h3 : Heap, I2 i2 h3 →
  onSome cap1 fun p1 =>
  ∃ (sA1 : Option Addr) (sL1 : Nat) (sC1 : Nat), cellOf h3 p1 = some (.slice sA1 sL1 sC1) ∧
  C.bits_has sA1 sL1 sC1 i2 h3 fun r1 h4 =>
  ∃ (b1 : Bool), r1 = .bool b1 ∧
  bif b1 then (
  onSome cap1 fun p2 =>
  ∃ (sA2 : Option Addr) (sL2 : Nat) (sC2 : Nat), cellOf h4 p2 = some (.slice sA2 sL2 sC2) ∧
  C.bits_on sA2 sL2 sC2 i2 h4 fun r2 h5 =>
  ∃ (b2 : Bool), r2 = .bool b2 ∧
  bif b2 then (
  I2 (IntKind.wrap .i64 (i2 + 1)) h5 ∧ M2 (IntKind.wrap .i64 (i2 + 1)) h5 < M2 i2 h3) else (
  bits_Runs_c1.k1 yield1 cap1 i1 h2 I1 M1 i2 h5 K)) else (
  bits_Runs_c1.k1 yield1 cap1 i1 h2 I1 M1 i2 h4 K)
def bits_Runs_c1.lo : Nat → List Nat × List (Nat × Ty) := fun n => match n with | 1 => ([0, 1], [(3, .int .i64)]) | 4 => ([0, 1, 4], [(3, .int .i64)]) | _ => ([], [])
def bits_Runs_c1.od : Nat → Od := fun n => match n with | _ => .nil
theorem bits_Runs_c1.eq (yield1 : Value) (cap1 : Option Addr) (K : Value → Heap → Prop) (h : Heap) : fnX (cx bits_Runs_c1.lo bits_Runs_c1.od) Tryz.f261 (Tryz.f261.body.getD .skip) [yield1, .pointer cap1] K h = bits_Runs_c1 yield1 cap1 K h := by kernel_rfl
theorem bits_Runs_c1.chk : fnOk (cx bits_Runs_c1.lo bits_Runs_c1.od) Tryz.f261 (Tryz.f261.body.getD .skip) 2 = true := by kernel_rfl
theorem bits_Runs_c1.ok {yield1 : Value} {cap1 : Option Addr} {K : Value → Heap → Prop} {h : Heap} (hx : bits_Runs_c1 yield1 cap1 K h) : C.bits_Runs_c1 yield1 cap1 h K :=
  fn_to (cxOk _ _) Tryz.func261 (by kernel_rfl) bits_Runs_c1.chk (by rw [bits_Runs_c1.eq]; exact hx)
end Go.Proofs.YtjdcbblgaoogmaaGreatDoor.W
namespace Go.Proofs.YtjdcbblgaoogmaaGreatDoor.W
open Go Go.Proofs Go.Proofs.YtjdcbblgaoogmaaGreatDoor.Wx
def sum_step (v1 : Int) (b1 : Int) (K : Value → Heap → Prop) (h1 : Heap) : Prop :=
  (0 ≤ (bitsI .and .u32 (bitsI .xor .u32 v1 (IntKind.wrap .u32 (b1))) 15) ∧ (bitsI .and .u32 (bitsI .xor .u32 v1 (IntKind.wrap .u32 (b1))) 15) < (16 : Int)) ∧
  ∃ (n1 : Int), cellOf h1 (Addr.add ⟨1, 0, none⟩ (Int.toNat (bitsI .and .u32 (bitsI .xor .u32 v1 (IntKind.wrap .u32 (b1))) 15))) = some (.int .u32 n1) ∧
  (0 ≤ (bitsI .and .u32 (bitsI .xor .u32 n1 (Int.fdiv (bitsI .xor .u32 v1 (IntKind.wrap .u32 (b1))) (2 ^ min (Int.toNat 4) 32))) 15) ∧ (bitsI .and .u32 (bitsI .xor .u32 n1 (Int.fdiv (bitsI .xor .u32 v1 (IntKind.wrap .u32 (b1))) (2 ^ min (Int.toNat 4) 32))) 15) < (16 : Int)) ∧
  ∃ (n2 : Int), cellOf h1 (Addr.add ⟨1, 0, none⟩ (Int.toNat (bitsI .and .u32 (bitsI .xor .u32 n1 (Int.fdiv (bitsI .xor .u32 v1 (IntKind.wrap .u32 (b1))) (2 ^ min (Int.toNat 4) 32))) 15))) = some (.int .u32 n2) ∧
  K (.int .u32 (bitsI .xor .u32 n2 (Int.fdiv (bitsI .xor .u32 n1 (Int.fdiv (bitsI .xor .u32 v1 (IntKind.wrap .u32 (b1))) (2 ^ min (Int.toNat 4) 32))) (2 ^ min (Int.toNat 4) 32)))) h1
def sum_step.lo : Nat → List Nat × List (Nat × Ty) := fun n => match n with | _ => ([], [])
def sum_step.od : Nat → Od := fun n => match n with | _ => .nil
theorem sum_step.eq (v1 : Int) (b1 : Int) (K : Value → Heap → Prop) (h : Heap) : fnX (cx sum_step.lo sum_step.od) Tryz.f278 (Tryz.f278.body.getD .skip) [.int .u32 v1, .int .u8 b1] K h = sum_step v1 b1 K h := by kernel_rfl
theorem sum_step.chk : fnOk (cx sum_step.lo sum_step.od) Tryz.f278 (Tryz.f278.body.getD .skip) 2 = true := by kernel_rfl
theorem sum_step.ok {v1 : Int} {b1 : Int} {K : Value → Heap → Prop} {h : Heap} (hx : sum_step v1 b1 K h) : C.sum_step v1 b1 h K :=
  fn_to (cxOk _ _) Tryz.func278 (by kernel_rfl) sum_step.chk (by rw [sum_step.eq]; exact hx)
def sum_behind (v1 : Int) (n1 : Int) (K : Value → Heap → Prop) (h1 : Heap) : Prop :=
  New z348 348 h1 fun h2 =>
  ∃ (I1 : Int → Heap → Prop) (M1 : Int → Heap → Nat), I1 0 h2 ∧
  ∀ (n2 : Int), ∀ h3 : Heap, I1 n2 h3 →
  bif (decide (n2 < 32)) then (
  if n2 < 0 then False else
  C.sum_step (IntKind.wrap .u32 ((1 * 2 ^ min (Int.toNat n2) 32))) 0 h3 fun r1 h4 =>
  ∃ (n3 : Int), r1 = .int .u32 n3 ∧
  (0 ≤ n2 ∧ n2 < (32 : Int)) ∧
  Put (Addr.add ⟨h1.size, 0, none⟩ (Int.toNat n2)) (.int .u32 n3) h4 fun h5 =>
  I1 (IntKind.wrap .i64 (n2 + 1)) h5 ∧ M1 (IntKind.wrap .i64 (n2 + 1)) h5 < M1 n2 h3) else (
  ∃ (I2 : Int → Int → Heap → Prop) (M2 : Int → Int → Heap → Nat), I2 v1 n1 h3 ∧
  ∀ (v2 : Int) (n4 : Int), ∀ h6 : Heap, I2 v2 n4 h6 →
  bif (decide (n4 > 0)) then (
  bif ((bitsI .and .i64 n4 1) == 1) then (
  C.sum_matrix_times (some ⟨h1.size, 0, none⟩) v2 h6 fun r2 h7 =>
  ∃ (n5 : Int), r2 = .int .u32 n5 ∧
  C.sum_matrix_square (some ⟨h1.size, 0, none⟩) h7 fun r3 h8 =>
  ∃ (cs1 : List Value), r3 = .agg ⟨cs1⟩ ∧
  PutRow ⟨h1.size, 0, none⟩ cs1 32 h8 fun h9 =>
  I2 n5 (Int.fdiv n4 (2 ^ min (Int.toNat 1) 64)) h9 ∧ M2 n5 (Int.fdiv n4 (2 ^ min (Int.toNat 1) 64)) h9 < M2 v2 n4 h6) else (
  C.sum_matrix_square (some ⟨h1.size, 0, none⟩) h6 fun r4 h10 =>
  ∃ (cs2 : List Value), r4 = .agg ⟨cs2⟩ ∧
  PutRow ⟨h1.size, 0, none⟩ cs2 32 h10 fun h11 =>
  I2 v2 (Int.fdiv n4 (2 ^ min (Int.toNat 1) 64)) h11 ∧ M2 v2 (Int.fdiv n4 (2 ^ min (Int.toNat 1) 64)) h11 < M2 v2 n4 h6)) else (
  K (.int .u32 v2) h6))
def sum_behind.lo : Nat → List Nat × List (Nat × Ty) := fun n => match n with | 3 => ([0, 1, 5], [(7, .int .i64)]) | 7 => ([5], [(0, .int .u32), (1, .int .i64)]) | _ => ([], [])
def sum_behind.od : Nat → Od := fun n => match n with | _ => .nil
theorem sum_behind.eq (v1 : Int) (n1 : Int) (K : Value → Heap → Prop) (h : Heap) : fnX (cx sum_behind.lo sum_behind.od) Tryz.f279 (Tryz.f279.body.getD .skip) [.int .u32 v1, .int .i64 n1] K h = sum_behind v1 n1 K h := by kernel_rfl
theorem sum_behind.chk : fnOk (cx sum_behind.lo sum_behind.od) Tryz.f279 (Tryz.f279.body.getD .skip) 2 = true := by kernel_rfl
theorem sum_behind.ok {v1 : Int} {n1 : Int} {K : Value → Heap → Prop} {h : Heap} (hx : sum_behind v1 n1 K h) : C.sum_behind v1 n1 h K :=
  fn_to (cxOk _ _) Tryz.func279 (by kernel_rfl) sum_behind.chk (by rw [sum_behind.eq]; exact hx)
def sum_matrix_times (m1 : Option Addr) (v1 : Int) (K : Value → Heap → Prop) (h1 : Heap) : Prop :=
  ∃ (I1 : Int → Int → Int → Heap → Prop) (M1 : Int → Int → Int → Heap → Nat), I1 v1 0 0 h1 ∧
  ∀ (v2 : Int) (r1 : Int) (i1 : Int), ∀ h2 : Heap, I1 v2 r1 i1 h2 →
  bif (v2 != 0) then (
  bif ((bitsI .and .u32 v2 1) == 1) then (
  onSome m1 fun p1 =>
  (0 ≤ i1 ∧ i1 < (32 : Int)) ∧
  ∃ (n1 : Int), cellOf h2 (Addr.add p1 (Int.toNat i1)) = some (.int .u32 n1) ∧
  I1 (Int.fdiv v2 (2 ^ min (Int.toNat 1) 32)) (bitsI .xor .u32 r1 n1) (IntKind.wrap .i64 (i1 + 1)) h2 ∧ M1 (Int.fdiv v2 (2 ^ min (Int.toNat 1) 32)) (bitsI .xor .u32 r1 n1) (IntKind.wrap .i64 (i1 + 1)) h2 < M1 v2 r1 i1 h2) else (
  I1 (Int.fdiv v2 (2 ^ min (Int.toNat 1) 32)) r1 (IntKind.wrap .i64 (i1 + 1)) h2 ∧ M1 (Int.fdiv v2 (2 ^ min (Int.toNat 1) 32)) r1 (IntKind.wrap .i64 (i1 + 1)) h2 < M1 v2 r1 i1 h2)) else (
  K (.int .u32 r1) h2)
def sum_matrix_times.lo : Nat → List Nat × List (Nat × Ty) := fun n => match n with | 3 => ([0], [(1, .int .u32), (5, .int .u32), (6, .int .i64)]) | _ => ([], [])
def sum_matrix_times.od : Nat → Od := fun n => match n with | _ => .nil
theorem sum_matrix_times.eq (m1 : Option Addr) (v1 : Int) (K : Value → Heap → Prop) (h : Heap) : fnX (cx sum_matrix_times.lo sum_matrix_times.od) Tryz.f300 (Tryz.f300.body.getD .skip) [.pointer m1, .int .u32 v1] K h = sum_matrix_times m1 v1 K h := by kernel_rfl
theorem sum_matrix_times.chk : fnOk (cx sum_matrix_times.lo sum_matrix_times.od) Tryz.f300 (Tryz.f300.body.getD .skip) 2 = true := by kernel_rfl
theorem sum_matrix_times.ok {m1 : Option Addr} {v1 : Int} {K : Value → Heap → Prop} {h : Heap} (hx : sum_matrix_times m1 v1 K h) : C.sum_matrix_times m1 v1 h K :=
  fn_to (cxOk _ _) Tryz.func300 (by kernel_rfl) sum_matrix_times.chk (by rw [sum_matrix_times.eq]; exact hx)
def sum_matrix_square (m1 : Option Addr) (K : Value → Heap → Prop) (h1 : Heap) : Prop :=
  New z348 348 h1 fun h2 =>
  New z348 348 h2 fun h3 =>
  ∃ (I1 : Int → Heap → Prop) (M1 : Int → Heap → Nat), I1 0 h3 ∧
  ∀ (n1 : Int), ∀ h4 : Heap, I1 n1 h4 →
  bif (decide (n1 < 32)) then (
  onSome m1 fun p1 =>
  (0 ≤ n1 ∧ n1 < (32 : Int)) ∧
  ∃ (n2 : Int), cellOf h4 (Addr.add p1 (Int.toNat n1)) = some (.int .u32 n2) ∧
  C.sum_matrix_times m1 n2 h4 fun r1 h5 =>
  ∃ (n3 : Int), r1 = .int .u32 n3 ∧
  (0 ≤ n1 ∧ n1 < (32 : Int)) ∧
  Put (Addr.add ⟨h2.size, 0, none⟩ (Int.toNat n1)) (.int .u32 n3) h5 fun h6 =>
  I1 (IntKind.wrap .i64 (n1 + 1)) h6 ∧ M1 (IntKind.wrap .i64 (n1 + 1)) h6 < M1 n1 h4) else (
  ∃ cs1 : List Value, List.length cs1 = 32 ∧ Cells h4 ⟨h2.size, 0, none⟩ cs1 ∧
  PutRow ⟨h1.size, 0, none⟩ cs1 32 h4 fun h7 =>
  ∃ res1 : List Value, List.length res1 = 32 ∧ Cells h7 ⟨h1.size, 0, none⟩ res1 ∧
  K (.agg ⟨res1⟩) h7)
def sum_matrix_square.lo : Nat → List Nat × List (Nat × Ty) := fun n => match n with | 3 => ([0, 2, 3], [(5, .int .i64)]) | _ => ([], [])
def sum_matrix_square.od : Nat → Od := fun n => match n with | _ => .nil
theorem sum_matrix_square.eq (m1 : Option Addr) (K : Value → Heap → Prop) (h : Heap) : fnX (cx sum_matrix_square.lo sum_matrix_square.od) Tryz.f301 (Tryz.f301.body.getD .skip) [.pointer m1] K h = sum_matrix_square m1 K h := by kernel_rfl
theorem sum_matrix_square.chk : fnOk (cx sum_matrix_square.lo sum_matrix_square.od) Tryz.f301 (Tryz.f301.body.getD .skip) 1 = true := by kernel_rfl
theorem sum_matrix_square.ok {m1 : Option Addr} {K : Value → Heap → Prop} {h : Heap} (hx : sum_matrix_square m1 K h) : C.sum_matrix_square m1 h K :=
  fn_to (cxOk _ _) Tryz.func301 (by kernel_rfl) sum_matrix_square.chk (by rw [sum_matrix_square.eq]; exact hx)
end Go.Proofs.YtjdcbblgaoogmaaGreatDoor.W
namespace Go.Proofs.YtjdcbblgaoogmaaGreatDoor.Su
open Go Go.Proofs Go.Proofs.YtjdcbblgaoogmaaGreatDoor.Wx Go.Proofs.YtjdcbblgaoogmaaGreatDoor.Hp Go.Proofs.YtjdcbblgaoogmaaGreatDoor.W
def U32 (n : Int) : Prop := 0 ≤ n ∧ n < 4294967296
theorem wrap_u32 {n : Int} (h : U32 n) : IntKind.wrap .u32 n = n := by
  obtain ⟨h1, h2⟩ := h
  show n % 4294967296 = n
  exact Int.emod_eq_of_lt h1 h2
theorem wrap_u32_range (n : Int) : U32 (IntKind.wrap .u32 n) := by
  show 0 ≤ n % 4294967296 ∧ n % 4294967296 < 4294967296
  exact ⟨Int.emod_nonneg _ (by decide), Int.emod_lt_of_pos _ (by decide)⟩
theorem bits_range (op : BinOp) (a b : Int) : U32 (bitsI op .u32 a b) := by
  unfold bitsI; split <;> exact wrap_u32_range _
theorem and_le (x : Int) (k : Nat) (hk : k < 4294967296) : 0 ≤ bitsI .and .u32 x k ∧ bitsI .and .u32 x k ≤ k := by
  refine ⟨(bits_range _ _ _).1, ?_⟩
  show IntKind.wrap .u32 (((BitVec.ofInt 32 x &&& BitVec.ofInt 32 (k : Int)).toNat : Nat) : Int) ≤ k
  have h1 : (BitVec.ofInt 32 x &&& BitVec.ofInt 32 (k : Int)).toNat ≤ k := by
    rw [BitVec.toNat_and]
    refine Nat.le_trans Nat.and_le_right ?_
    rw [BitVec.ofInt_natCast, BitVec.toNat_ofNat]
    exact Nat.mod_le _ _
  rw [wrap_u32 ⟨by omega, by omega⟩]
  omega
theorem and15 (x : Int) : 0 ≤ bitsI .and .u32 x 15 ∧ bitsI .and .u32 x 15 < ((16 : Nat) : Int) := by
  have := and_le x 15 (by decide)
  have h2 : bitsI .and .u32 x ((15 : Nat) : Int) ≤ ((15 : Nat) : Int) := this.2
  exact ⟨this.1, by have e : ((15 : Nat) : Int) = 15 := rfl; rw [e] at h2; omega⟩
def halfL : List Int := [0, 498536548, 997073096, 651767980, 1994146192, 1802195444, 1303535960, 1342533948, 3988292384, 4027552580, 3604390888, 3412177804, 2607071920, 2262029012, 2685067896, 3183342108]
/-- the table, where it is laid -/
def Half (h : Heap) : Prop := rd h 1 = halfL.map fun n => .int .u32 n
theorem Half.lt {h : Heap} (g : Half h) : 1 < h.size := rd_lt (show (rd h 1)[0]? = some (.int .u32 0) by rw [g]; rfl)
theorem Half.fr {h h' : Heap} {F : Nat → Prop} (g : Half h) (f : Fr F h h') (hF : ¬ F 1) : Half h' := (f.rd g.lt hF).trans g
def half (i : Int) : Int := halfL.getD i.toNat 0
theorem half_cell {h : Heap} (g : Half h) {i : Int} (h0 : 0 ≤ i) (h1 : i < ((16 : Nat) : Int)) : cellOf h (Addr.add ⟨1, 0, none⟩ (Int.toNat i)) = some (.int .u32 (half i)) := by
  refine rda g ?_
  have h2 : i.toNat < halfL.length := by show i.toNat < 16; omega
  rw [Nat.zero_add, List.getElem?_map, List.getElem?_eq_getElem h2, half, List.getD_eq_getElem?_getD, List.getElem?_eq_getElem h2]; rfl
def stepM (v : Int) (b : UInt8) : Int :=
  bitsI .xor .u32 (half (bitsI .and .u32 (bitsI .xor .u32 (half (bitsI .and .u32 (bitsI .xor .u32 v (IntKind.wrap .u32 (b.toNat : Int))) 15)) (Int.fdiv (bitsI .xor .u32 v (IntKind.wrap .u32 (b.toNat : Int))) (2 ^ min (Int.toNat 4) 32))) 15))
    (Int.fdiv (bitsI .xor .u32 (half (bitsI .and .u32 (bitsI .xor .u32 v (IntKind.wrap .u32 (b.toNat : Int))) 15)) (Int.fdiv (bitsI .xor .u32 v (IntKind.wrap .u32 (b.toNat : Int))) (2 ^ min (Int.toNat 4) 32))) (2 ^ min (Int.toNat 4) 32))
theorem step_range (v : Int) (b : UInt8) : U32 (stepM v b) := bits_range _ _ _
theorem step_spec {v : Int} {b : UInt8} {h : Heap} {K : Value → Heap → Prop} (g : Half h) (hK : K (.int .u32 (stepM v b)) h) : C.sum_step v (b.toNat : Int) h K :=
  sum_step.ok ⟨and15 _, _, half_cell g (and15 _).1 (and15 _).2, and15 _, _, half_cell g (and15 _).1 (and15 _).2, hK⟩
def ofM (bs : List UInt8) : Int := bitsI .xor .u32 (IntKind.max .u32) (bs.foldl stepM 4294967295)
theorem of_range (bs : List UInt8) : U32 (ofM bs) := bits_range _ _ _
theorem Of_spec {a : Option Addr} {l c : Nat} {bs : List UInt8} {h : Heap} {K : Value → Heap → Prop} (g : Half h) (B : StrAt h a l bs) (hl : l ≤ 140737488355328) (hK : K (.int .u32 (ofM bs)) h) : C.sum_Of a l c h K := by
  have hb := B.1
  refine sum_Of.ok ⟨fun v n hh => 0 ≤ n ∧ n ≤ l ∧ h = hh ∧ v = (bs.take n.toNat).foldl stepM 4294967295, fun _ n _ => ((l : Int) - n).toNat, ⟨by omega, by omega, rfl, rfl⟩, ?_⟩
  rintro v n _ ⟨n0, n1, rfl, rfl⟩
  refine cd (fun hn => ?_) fun hn => ?_
  · have hn' : n.toNat < bs.length := by omega
    obtain ⟨_, B2⟩ := B
    cases a with
    | none => have B2 : bs.map bv = [] := B2; have := List.map_eq_nil_iff.mp B2; rw [this] at hn'; exact absurd hn' (by simp)
    | some p =>
      refine ⟨⟨n0, hn⟩, os ⟨_, B2 n.toNat (bv bs[n.toNat]) (by rw [List.getElem?_map, List.getElem?_eq_getElem hn']; rfl), step_spec g ⟨_, rfl, ?_⟩⟩⟩
      rw [wrap_i64 (by omega) (by omega)]
      have ht : (n + 1).toNat = n.toNat + 1 := by omega
      refine ⟨⟨by omega, by omega, rfl, ?_⟩, falls hn⟩
      rw [ht, List.take_succ_eq_append_getElem hn', List.foldl_append]; rfl
  · have e : (bs.take n.toNat) = bs := List.take_of_length_le (by omega)
    rw [e]; exact hK
def timesGo (m : List Int) : Nat → Int → Int → Nat → Int
  | 0, _, r, _ => r
  | f + 1, v, r, i => bif v != 0 then timesGo m f (Int.fdiv v (2 ^ min (Int.toNat 1) 32)) (bif bitsI .and .u32 v 1 == 1 then bitsI .xor .u32 r (m.getD i 0) else r) (i + 1) else r
def timesM (m : List Int) (v : Int) : Int := timesGo m 33 v 0 0
theorem times_range (m : List Int) : ∀ (f : Nat) (v r : Int) (i : Nat), U32 r → U32 (timesGo m f v r i) := by
  intro f
  induction f with
  | zero => intro v r i h; exact h
  | succ f ih =>
    intro v r i h
    unfold timesGo
    cases hv : (v != 0) with
    | false => exact h
    | true =>
      refine ih _ _ _ ?_
      cases hb : (bitsI .and .u32 v 1 == 1) with
      | false => exact h
      | true => exact (show U32 (bitsI .xor .u32 r (m.getD i 0)) from bits_range _ _ _)
theorem timesM_range (m : List Int) (v : Int) : U32 (timesM m v) := times_range m _ _ _ _ ⟨by decide, by decide⟩
def mat (m : List Int) : List Value := m.map fun n => .int .u32 n
theorem times_spec {p : Addr} {m : List Int} {v : Int} {h : Heap} {K : Value → Heap → Prop} (hv : U32 v) (hm : m.length = 32) (M : Cells h p (mat m)) (hK : K (.int .u32 (timesM m v)) h) : C.sum_matrix_times (some p) v h K := by
  refine sum_matrix_times.ok ⟨fun v2 r i hh => 0 ≤ i ∧ i ≤ 32 ∧ 0 ≤ v2 ∧ v2 < ((2 ^ (32 - i.toNat) : Nat) : Int) ∧ h = hh ∧ timesM m v = timesGo m (33 - i.toNat) v2 r i.toNat, fun v2 _ _ _ => v2.toNat,
    ⟨by omega, by omega, hv.1, by have := hv.2; exact this, rfl, rfl⟩, ?_⟩
  rintro v2 r i _ ⟨i0, i1, v0, v1, rfl, e⟩
  have e1 : (2 ^ min (Int.toNat 1) 32 : Int) = 2 := by decide
  cases hb : (v2 != 0) with
  | false =>
    have e2 : 33 - i.toNat = (32 - i.toNat) + 1 := by omega
    rw [e2, timesGo, hb] at e
    rw [e] at hK
    exact hK
  | true =>
    have hne : v2 ≠ 0 := by simpa using hb
    have hi : i < 32 := by
      rcases Int.lt_or_le i 32 with h | h
      · exact h
      · have : 32 - i.toNat = 0 := by omega
        rw [this] at v1
        have v1 : v2 < 1 := v1
        omega
    have e2 : 33 - i.toNat = (33 - (i + 1).toNat) + 1 := by omega
    have e3 : (i + 1).toNat = i.toNat + 1 := by omega
    rw [e2, timesGo, hb] at e
    have hp : ((2 ^ (32 - i.toNat) : Nat) : Int) = 2 * ((2 ^ (32 - (i + 1).toNat) : Nat) : Int) := by
      rw [show 32 - i.toNat = (32 - (i + 1).toNat) + 1 by omega, Nat.pow_succ]; omega
    have hd : Int.fdiv v2 2 = v2 / 2 := Int.fdiv_eq_ediv_of_nonneg _ (by decide)
    rw [wrap_i64 (n := i + 1) (by omega) (by omega), e1, hd]
    rw [e1, hd] at e
    have nx : ∀ r', timesM m v = timesGo m (33 - (i + 1).toNat) (v2 / 2) r' (i.toNat + 1) → (0 ≤ i + 1 ∧ i + 1 ≤ 32 ∧ 0 ≤ v2 / 2 ∧ v2 / 2 < ((2 ^ (32 - (i + 1).toNat) : Nat) : Int) ∧ h = h ∧ timesM m v = timesGo m (33 - (i + 1).toNat) (v2 / 2) r' (i + 1).toNat) ∧ (v2 / 2).toNat < v2.toNat :=
      fun r' h => ⟨⟨by omega, by omega, by omega, by omega, rfl, by rw [e3] at h ⊢; exact h⟩, by omega⟩
    refine ct rfl ?_
    cases hbit : (bitsI .and .u32 v2 1 == 1) with
    | true =>
      rw [hbit] at e
      refine ct rfl (os ⟨⟨i0, hi⟩, m.getD i.toNat 0, ?_, nx _ e⟩)
      exact Cells.cell M (by rw [mat, List.getElem?_map, List.getD_eq_getElem?_getD, List.getElem?_eq_getElem (by omega)]; rfl)
    | false =>
      rw [hbit] at e
      exact cf rfl (nx _ e)
def squareM (m : List Int) : List Int := m.map (timesM m)
theorem square_range (m : List Int) : ∀ x ∈ squareM m, U32 x := by
  intro x hx; obtain ⟨y, _, rfl⟩ := List.mem_map.mp hx; exact timesM_range _ _
theorem mat_one (m : List Int) : ∀ v ∈ mat m, v.oneCell' = true := by
  intro v hv; obtain ⟨b, _, rfl⟩ := List.mem_map.mp hv; rfl
theorem mat_zero : (mat (List.replicate 32 0)).length = 32 := by rw [mat, List.length_map, List.length_replicate]
theorem fill_snoc {α : Type} (xs : List α) (n : Nat) (hn : n < xs.length) (f : α → Value) (z : Value) : ((xs.take n).map f ++ List.replicate (xs.length - n) z).set n (f xs[n]) = (xs.take (n + 1)).map f ++ List.replicate (xs.length - (n + 1)) z := by
  have hl : ((xs.take n).map f).length = n := by rw [List.length_map, List.length_take]; omega
  rw [List.set_append_right _ _ (by rw [hl]; exact Nat.le_refl _), hl, Nat.sub_self, show xs.length - n = (xs.length - (n + 1)) + 1 by omega, List.replicate_succ, List.set_cons_zero, List.take_succ_eq_append_getElem hn, List.map_append, List.append_assoc]
  rfl
theorem square_spec {p : Addr} {m : List Int} {h : Heap} {K : Value → Heap → Prop} (hr : ∀ x ∈ m, U32 x) (hm : m.length = 32) (M : Cells h p (mat m)) (hK : ∀ h', Fr No h h' → K (.agg ⟨mat (squareM m)⟩) h') : C.sum_matrix_square (some p) h K := by
  refine sum_matrix_square.ok (New.intro fun h2 n2 => New.intro fun h3 n3 => ?_)
  have hs2 := n2.size
  have hs3 := n3.size
  have F3 : Fr No h h3 := n2.fr.no n3.fr
  have hsl : (squareM m).length = 32 := by rw [squareM, List.length_map, hm]
  have z0 : rd h3 h.size = mat (List.replicate 32 0) := (n3.at_ n2.own.lt).trans n2.rd
  refine ⟨fun n hh => 0 ≤ n ∧ n ≤ 32 ∧ Fr No h hh ∧ Own hh h2.size ∧ Own hh h.size ∧ (rd hh h.size).length = 32 ∧ rd hh h2.size = ((squareM m).take n.toNat).map (fun n => .int .u32 n) ++ List.replicate ((squareM m).length - n.toNat) (.int .u32 0), fun n _ => ((32 : Nat) - n).toNat,
    ⟨by omega, by omega, F3, n3.own, n3.ow n2.own, by rw [z0]; exact mat_zero, by rw [n3.rd, hsl]; rfl⟩, ?_⟩
  rintro n h4 ⟨k0, k1, f4, o4, o1, l1, r4⟩
  have hs4 := f4.size
  refine cd (fun hn => ?_) fun hn => ?_
  · have hn : n < 32 := hn
    have hn' : n.toNat < m.length := by omega
    have M4 := Cells.fr f4 M (fun x => x)
    refine os ⟨⟨k0, hn⟩, m[n.toNat], Cells.cell M4 (by rw [mat, List.getElem?_map, List.getElem?_eq_getElem hn']; rfl), times_spec (hr _ (List.getElem_mem hn')) hm M4 ⟨_, rfl, ⟨k0, hn⟩, Put.add o4 (by rw [r4, List.length_append, List.length_map, List.length_take, List.length_replicate]; omega) fun h6 d6 => ?_⟩⟩
    rw [wrap_i64 (by omega) (by omega)]
    refine ⟨⟨by omega, by omega, f4.did d6 (fun x => by omega), d6.own, d6.ow o1, by rw [d6.at_ (by have := o1.lt; omega) (by omega)]; exact l1, ?_⟩, falls (m := 32) hn⟩
    have hns : n.toNat < (squareM m).length := by omega
    have ee : (squareM m)[n.toNat] = timesM m m[n.toNat] := by simp only [squareM, List.getElem_map]
    rw [d6.rd, r4, Nat.zero_add, ← ee, fill_snoc (squareM m) n.toNat hns (fun n => .int .u32 n), show (n + 1).toNat = n.toNat + 1 by omega]
  · have hn : ¬ n < 32 := hn
    have e : n.toNat = 32 := by omega
    rw [e, ← hsl, List.take_length, Nat.sub_self, List.replicate_zero, List.append_nil] at r4
    have r4 : rd h4 h2.size = mat (squareM m) := r4
    have ml : (mat (squareM m)).length = 32 := by rw [mat, List.length_map, hsl]
    refine ⟨mat (squareM m), ml, cellsAll r4, PutRow.intro o1 ml (mat_one _) (by rw [l1]; exact Nat.le_refl _) fun h7 d7 => ⟨mat (squareM m), ml, cellsAll ?_, hK h7 (f4.did d7 fun x => by omega)⟩⟩
    rw [d7.rd, put_all _ _ (by rw [l1, ml])]
def m0 : List Int := (List.range 32).map fun i => stepM (IntKind.wrap .u32 (1 * 2 ^ min i 32)) 0
def behindGo : Nat → List Int → Int → Int → Int
  | 0, _, v, _ => v
  | f + 1, m, v, n => bif decide (n > 0) then behindGo f (squareM m) (bif bitsI .and .i64 n 1 == 1 then timesM m v else v) (n / 2) else v
def behindM (v n : Int) : Int := behindGo 64 m0 v n
theorem behind_spec {v n : Int} {h : Heap} {K : Value → Heap → Prop} (g : Half h) (hv : U32 v) (hn0 : 0 ≤ n) (hn : n ≤ 9223372036854775807) (hK : ∀ h', Fr No h h' → K (.int .u32 (behindM v n)) h') : C.sum_behind v n h K := by
  refine sum_behind.ok (New.intro fun h2 n2 => ?_)
  have hs2 := n2.size
  have hml : m0.length = 32 := by rw [m0, List.length_map, List.length_range]
  have hmr : ∀ x ∈ m0, U32 x := by intro x hx; obtain ⟨y, _, rfl⟩ := List.mem_map.mp hx; exact step_range _ _
  refine ⟨fun k hh => 0 ≤ k ∧ k ≤ 32 ∧ Fr No h hh ∧ Own hh h.size ∧ rd hh h.size = (m0.take k.toNat).map (fun n => .int .u32 n) ++ List.replicate (m0.length - k.toNat) (.int .u32 0), fun k _ => ((32 : Nat) - k).toNat,
    ⟨by omega, by omega, n2.fr, n2.own, by rw [n2.rd, hml]; rfl⟩, ?_⟩
  rintro k h3 ⟨k0, k1, f3, o3, r3⟩
  have hs3 := f3.size
  have g3 := g.fr f3 fun x => x
  refine cd (fun hk => ?_) fun hk => ?_
  · have hk : k < 32 := hk
    rw [if_neg (by omega)]
    have hk' : k.toNat < m0.length := by omega
    refine step_spec (b := 0) g3 ⟨_, rfl, ⟨k0, hk⟩, Put.add o3 (by rw [r3, List.length_append, List.length_map, List.length_take, List.length_replicate]; omega) fun h5 d5 => ?_⟩
    rw [wrap_i64 (by omega) (by omega)]
    refine ⟨⟨by omega, by omega, f3.did d5 (fun x => by omega), d5.own, ?_⟩, falls (m := 32) hk⟩
    have ee : m0[k.toNat] = stepM (IntKind.wrap .u32 (1 * 2 ^ min (Int.toNat k) 32)) 0 := by simp only [m0, List.getElem_map, List.getElem_range]
    rw [d5.rd, r3, Nat.zero_add, ← ee, fill_snoc m0 k.toNat hk' (fun n => .int .u32 n), show (k + 1).toNat = k.toNat + 1 by omega]
  · have hk : ¬ k < 32 := hk
    have e : k.toNat = 32 := by omega
    rw [e, ← hml, List.take_length, Nat.sub_self, List.replicate_zero, List.append_nil] at r3
    refine ⟨fun v2 n2 hh => 0 ≤ n2 ∧ Fr No h hh ∧ Own hh h.size ∧ U32 v2 ∧ ∃ f m, n2 < ((2 ^ f : Nat) : Int) ∧ m.length = 32 ∧ (∀ x ∈ m, U32 x) ∧ rd hh h.size = mat m ∧ behindM v n = behindGo f m v2 n2, fun _ n2 _ => n2.toNat,
      ⟨hn0, f3, o3, hv, 64, m0, by show n < 18446744073709551616; omega, hml, hmr, r3, rfl⟩, ?_⟩
    rintro v2 n4 h6 ⟨p0, f6, o6, hv2, f, m, hf, hm, hr, r6, eb⟩
    have hs6 := f6.size
    have e1 : (2 ^ min (Int.toNat 1) 64 : Int) = 2 := by decide
    refine cd (fun hpos => ?_) fun hpos => ?_
    rotate_left
    · have : v2 = behindM v n := by
        rw [eb]
        cases f with
        | zero => rfl
        | succ f => rw [behindGo, decide_eq_false hpos]; rfl
      rw [this]; exact hK h6 f6
    have hd : Int.fdiv n4 2 = n4 / 2 := Int.fdiv_eq_ediv_of_nonneg _ (by decide)
    rw [e1, hd]
    cases f with
    | zero => have hf : n4 < 1 := hf; omega
    | succ f =>
    rw [behindGo, decide_eq_true hpos] at eb
    have hf2 : n4 / 2 < ((2 ^ f : Nat) : Int) := by rw [Nat.pow_succ] at hf; omega
    have sqm : (squareM m).length = 32 := by rw [squareM, List.length_map, hm]
    have ml : (mat (squareM m)).length = 32 := by rw [mat, List.length_map, sqm]
    have ml2 : (mat m).length = 32 := by rw [mat, List.length_map, hm]
    have M6 : Cells h6 ⟨h.size, 0, none⟩ (mat m) := cellsAll r6
    have nx : ∀ v3, U32 v3 → behindM v n = behindGo f (squareM m) v3 (n4 / 2) → ∀ h8, Fr No h6 h8 → PutRow ⟨h.size, 0, none⟩ (mat (squareM m)) 32 h8 fun h9 =>
        (0 ≤ n4 / 2 ∧ Fr No h h9 ∧ Own h9 h.size ∧ U32 v3 ∧ ∃ f m, n4 / 2 < ((2 ^ f : Nat) : Int) ∧ m.length = 32 ∧ (∀ x ∈ m, U32 x) ∧ rd h9 h.size = mat m ∧ behindM v n = behindGo f m v3 (n4 / 2)) ∧ (n4 / 2).toNat < n4.toNat := by
      intro v3 hv3 e3 h8 f8
      have r8 := (f8.rd o6.lt fun x => x).trans r6
      refine PutRow.intro (f8.own o6.lt (fun x => x) o6) ml (mat_one _) (by rw [r8, ml2]; exact Nat.le_refl _) fun h9 d9 => ?_
      exact ⟨⟨by omega, (f6.no f8).did d9 (fun x => by omega), d9.own, hv3, f, squareM m, hf2, sqm, square_range m, by rw [d9.rd, put_all _ _ (by rw [r8, ml, ml2])], e3⟩, by omega⟩
    cases hb : (bitsI .and .i64 n4 1 == 1) with
    | true =>
      rw [hb] at eb
      exact ct rfl (times_spec hv2 hm M6 ⟨_, rfl, square_spec hr hm M6 fun h8 f8 => ⟨_, rfl, nx _ (timesM_range _ _) eb h8 f8⟩⟩)
    | false =>
      rw [hb] at eb
      exact cf rfl (square_spec hr hm M6 fun h8 f8 => ⟨_, rfl, nx _ hv2 eb h8 f8⟩)
def joinM (a b n : Int) : Int := bitsI .xor .u32 (behindM a n) b
theorem join_range (a b n : Int) : U32 (joinM a b n) := bits_range _ _ _
theorem Join_spec {a b n : Int} {h : Heap} {K : Value → Heap → Prop} (g : Half h) (ha : U32 a) (h0 : 0 ≤ n) (h1 : n ≤ 1099511627776) (hK : ∀ h', Fr No h h' → K (.tuple #[.int .u32 (joinM a b n), .int .i64 0]) h') : C.sum_Join a b n h K :=
  sum_Join.ok (cd (fun x => by omega) fun _ => cd (fun x => by omega) fun _ => behind_spec g ha h0 (by omega) fun h' f => ⟨_, rfl, hK h' f⟩)
end Go.Proofs.YtjdcbblgaoogmaaGreatDoor.Su
namespace Go.Proofs.YtjdcbblgaoogmaaGreatDoor.Re
open Go Go.Proofs Go.Proofs.YtjdcbblgaoogmaaGreatDoor.Wx Go.Proofs.YtjdcbblgaoogmaaGreatDoor.Hp Go.Proofs.YtjdcbblgaoogmaaGreatDoor.W Go.Proofs.YtjdcbblgaoogmaaGreatDoor.Su
def widthsL : List Bool := [false, true, true, false, true, false, false, false, true]
def Wide (h : Heap) : Prop := rd h 0 = widthsL.map .bool
theorem Wide.lt {h : Heap} (g : Wide h) : 0 < h.size := rd_lt (show (rd h 0)[0]? = some (.bool false) by rw [g]; rfl)
theorem Wide.fr {h h' : Heap} {F : Nat → Prop} (g : Wide h) (f : Fr F h h') (hF : ¬ F 0) : Wide h' := (f.rd g.lt hF).trans g
/-- the laid tables -/
structure Glo (h : Heap) : Prop where
  half : Half h
  wide : Wide h
theorem Glo.fr {h h' : Heap} {F : Nat → Prop} (g : Glo h) (f : Fr F h h') (h1 : ∀ b, b < 2 → ¬ F b) : Glo h' := ⟨g.half.fr f (h1 _ (by decide)), g.wide.fr f (h1 _ (by decide))⟩
theorem Glo.no {h h' : Heap} (g : Glo h) (f : Fr No h h') : Glo h' := g.fr f fun _ _ x => x
theorem isWidth_spec {n : Int} {h : Heap} {K : Value → Heap → Prop} (g : Glo h) (hn : n = 1 ∨ n = 2 ∨ n = 4 ∨ n = 8) (hK : K (.bool true) h) : C.rec_isWidth n h K := by
  refine rec_isWidth.ok (ct (decide_eq_true (by omega)) (ct (decide_eq_true (by omega)) ⟨⟨by omega, by omega⟩, true, rda g.wide ?_, hK⟩))
  rcases hn with rfl | rfl | rfl | rfl <;> rfl
theorem lie_spec {a : Option Addr} {l c : Nat} {at_ n : Int} {h : Heap} {K : Value → Heap → Prop} (hl : l ≤ 140737488355328) (h0 : 0 ≤ at_) (h1 : 0 ≤ n) (h2 : at_ + n ≤ l) (hK : K (.bool true) h) : C.rec_lie a l c at_ n h K := by
  refine rec_lie.ok (ct (decide_eq_true h0) (ct (decide_eq_true h1) (ct (decide_eq_true (by omega)) ?_)))
  rw [wrap_i64 (by omega) (by omega), decide_eq_true (by omega)]; exact hK
theorem pow_256 (k : Nat) : 256 ^ k = 2 ^ (8 * k) := by rw [Nat.pow_mul]
/-- bytes over bytes -/
def putU (xs : List UInt8) (o : Nat) (ys : List UInt8) : List UInt8 := xs.take o ++ ys ++ xs.drop (o + ys.length)
theorem putU_put {xs ys : List UInt8} {o : Nat} (h : o + ys.length ≤ xs.length) : put (xs.map bv) o (ys.map bv) = (putU xs o ys).map bv := by
  rw [put_eq _ _ _ (by rw [List.length_map, List.length_map]; exact h)]
  simp only [putU, List.map_append, List.map_take, List.map_drop, List.length_map]
theorem putU_nil (xs : List UInt8) (o : Nat) : putU xs o [] = xs := by simp [putU]
theorem putU_app (xs ys zs : List UInt8) (ys' : List UInt8) (h : ys'.length = ys.length) : putU (xs ++ ys ++ zs) xs.length ys' = xs ++ ys' ++ zs := by
  have e1 : (xs ++ ys ++ zs).take xs.length = xs := by rw [List.append_assoc, List.take_left]
  have e2 : (xs ++ ys ++ zs).drop (xs.length + ys.length) = zs := by rw [← List.length_append, List.drop_left]
  rw [putU, h, e1, e2]
/-- a number as n bytes, the lowest first -/
def leBs (n v : Nat) : List UInt8 := (List.range n).map fun k => UInt8.ofNat (v / 256 ^ k)
theorem leB_length (n v : Nat) : (leBs n v).length = n := by rw [leBs, List.length_map, List.length_range]
theorem byte_of (v k : Nat) (hk : k < 8) : (Value.int .u8 (IntKind.wrap .u8 (Int.fdiv (v : Int) (2 ^ min (Int.toNat (IntKind.wrap .i64 (8 * (k : Int)))) 64)))) = bv (UInt8.ofNat (v / 256 ^ k)) := by
  rw [wrap_i64 (by omega) (by omega), show min (Int.toNat (8 * (k : Int))) 64 = 8 * k by omega]
  have e : Int.fdiv (v : Int) (2 ^ (8 * k)) = ((v / 256 ^ k : Nat) : Int) := by
    rw [pow_256, Int.fdiv_eq_ediv_of_nonneg _ (by exact Int.le_of_lt (Int.pow_pos (by decide)))]
    simp
  rw [e]
  show Value.int .u8 (((v / 256 ^ k : Nat) : Int) % 256) = Value.int .u8 ((UInt8.ofNat (v / 256 ^ k)).toNat : Int)
  rw [UInt8.toNat_ofNat']
  simp
theorem Put_spec {b o l c : Nat} {bs : List UInt8} {at_ n : Int} {v : Nat} {F : Nat → Prop} {h : Heap} {K : Value → Heap → Prop} (g : Glo h) (s : Sl h 1 (some ⟨b, o, none⟩) l c (bs.map bv) F) (hl : l ≤ 140737488355328) (hn : n = 1 ∨ n = 2 ∨ n = 4) (h0 : 0 ≤ at_) (h2 : at_ + n ≤ l)
    (hv : v < 256 ^ n.toNat) (hK : ∀ h', Fr (fun x => x = b) h h' → Sl h' 1 (some ⟨b, o, none⟩) l c ((putU bs at_.toNat (leBs n.toNat v)).map bv) F → K (.int .i64 0) h') : C.rec_Put (some ⟨b, o, none⟩) l c at_ n (v : Int) h K := by
  have hbl := s.1
  rw [List.length_map, Nat.mul_one] at hbl
  refine rec_Put.ok (isWidth_spec g (by omega) ⟨_, rfl, cnot (ct rfl (ct (decide_eq_true (by omega)) ?_))⟩)
  have w8 : IntKind.wrap .i64 (8 * n) = 8 * n := wrap_i64 (by omega) (by omega)
  rw [if_neg (by rw [w8]; omega)]
  have hz : Int.fdiv (v : Int) (2 ^ min (Int.toNat (IntKind.wrap .i64 (8 * n))) 64) = 0 := by
    rw [w8, show min (Int.toNat (8 * n)) 64 = 8 * n.toNat by omega]
    have e : Int.fdiv (v : Int) (2 ^ (8 * n.toNat)) = ((v / 256 ^ n.toNat : Nat) : Int) := by
      rw [pow_256, Int.fdiv_eq_ediv_of_nonneg _ (by exact Int.le_of_lt (Int.pow_pos (by decide)))]
      simp
    rw [e, Nat.div_eq_of_lt hv]; rfl
  refine cf (by rw [hz]; rfl) (lie_spec hl h0 (by omega) h2 ⟨_, rfl, cnot (ct rfl ?_)⟩)
  have hlB := leB_length n.toNat v
  refine ⟨fun k hh => 0 ≤ k ∧ k ≤ n ∧ Fr (fun x => x = b) h hh ∧ Sl hh 1 (some ⟨b, o, none⟩) l c ((putU bs at_.toNat ((leBs n.toNat v).take k.toNat)).map bv) F, fun k _ => (n - k).toNat, ⟨by omega, by omega, Fr.refl _ _, by rw [show (0 : Int).toNat = 0 from rfl, List.take_zero, putU_nil]; exact s⟩, ?_⟩
  rintro k h4 ⟨k0, k1, f4, s4⟩
  refine cd (fun hk => ?_) fun hk => ?_
  · rw [if_neg (by rw [wrap_i64 (by omega) (by omega)]; omega), wrap_i64 (n := at_ + k) (by omega) (by omega)]
    obtain ⟨w1, w2⟩ := s4.wr
    refine ⟨⟨by omega, by omega⟩, os (Put.add w1 (by omega) fun h5 d5 => ?_)⟩
    have hkB : k.toNat < (leBs n.toNat v).length := by omega
    have eb := byte_of v k.toNat (by omega)
    rw [show ((k.toNat : Nat) : Int) = k by omega] at eb
    rw [eb] at d5
    have s5 := s4.putAt (j := (at_ + k).toNat) (new := [_]) (by rw [List.length_singleton]; omega) d5
    rw [wrap_i64 (n := k + 1) (by omega) (by omega)]
    refine ⟨⟨by omega, by omega, f4.did d5 (fun _ => rfl), ?_⟩, by show (n - (k + 1)).toNat < (n - k).toNat; omega⟩
    have hl1 : ((leBs n.toNat v).take k.toNat).length = k.toNat := by rw [List.length_take]; omega
    have ee : (leBs n.toNat v)[k.toNat] = UInt8.ofNat (v / 256 ^ k.toNat) := by simp only [leBs, List.getElem_map, List.getElem_range]
    have ep : put ((putU bs at_.toNat ((leBs n.toNat v).take k.toNat)).map bv) (at_ + k).toNat [bv (UInt8.ofNat (v / 256 ^ k.toNat))] = (putU bs at_.toNat ((leBs n.toNat v).take (k + 1).toNat)).map bv := by
      rw [← putU_put (by rw [hl1]; omega), ← putU_put (by rw [List.length_take]; omega), show (k + 1).toNat = k.toNat + 1 by omega, List.take_succ_eq_append_getElem hkB, List.map_append, List.map_singleton, ee]
      have : ∀ (ys : List Value) (X : List Value) (o : Nat) (y : Value), put X o (ys ++ [y]) = (put X o ys).set (o + ys.length) y := by
        intro ys
        induction ys with
        | nil => intro X o y; rfl
        | cons v r ih =>
          intro X o y
          show put (X.set o v) (o + 1) (r ++ [y]) = _
          rw [ih, List.length_cons, show o + 1 + r.length = o + (r.length + 1) by omega]; rfl
      rw [this, List.length_map, hl1, show (at_ + k).toNat = at_.toNat + k.toNat by omega]; rfl
    rw [ep] at s5
    exact s5
  · have : k = n := by omega
    subst this
    rw [List.take_of_length_le (by omega)] at s4
    exact hK h4 f4 s4
theorem ahead_spec {a : Option Addr} {l c : Nat} {bs : List UInt8} {h : Heap} {K : Value → Heap → Prop} (B : StrAt h a l bs) (hl : l ≤ 140737488355328) (hz : ∀ x ∈ bs, x ≠ 0) (hK : K (.int .i64 l) h) : C.rec_ahead a l c h K := by
  have hb := B.1
  refine rec_ahead.ok ⟨fun n hh => 0 ≤ n ∧ n ≤ l ∧ h = hh, fun n _ => ((l : Int) - n).toNat, ⟨by omega, by omega, rfl⟩, ?_⟩
  rintro n _ ⟨n0, n1, rfl⟩
  refine cd (fun hn => ?_) fun hn => hK
  have hn' : n.toNat < bs.length := by omega
  obtain ⟨_, B2⟩ := B
  cases a with
  | none => have B2 : bs.map bv = [] := B2; have := List.map_eq_nil_iff.mp B2; rw [this] at hn'; exact absurd hn' (by simp)
  | some p =>
    refine ⟨⟨n0, hn⟩, os ⟨_, B2 n.toNat (bv bs[n.toNat]) (by rw [List.getElem?_map, List.getElem?_eq_getElem hn']; rfl), ce (fun x => ?_) fun x => ?_⟩⟩
    · exact absurd (UInt8.toNat_inj.mp (by have x : ((bs[n.toNat].toNat : Nat) : Int) = 0 := x; show _ = 0; omega)) (hz _ (List.getElem_mem hn'))
    · rw [wrap_i64 (by omega) (by omega)]
      exact ⟨⟨by omega, by omega, rfl⟩, falls hn⟩
/-- a text of as many bytes as there is room for -/
theorem PutText_spec {b o l c : Nat} {bs ss : List UInt8} {at_ n : Int} {F : Nat → Prop} {h : Heap} {K : Value → Heap → Prop} (s : Sl h 1 (some ⟨b, o, none⟩) l c (bs.map bv) F) (hl : l ≤ 140737488355328) (hn : n = ss.length) (h0 : 0 ≤ at_) (hle : at_ + n ≤ l) (hz : ∀ x ∈ ss, x ≠ 0)
    (hK : ∀ h', Fr (fun x => x = b) h h' → Sl h' 1 (some ⟨b, o, none⟩) l c ((putU bs at_.toNat ss).map bv) F → K (.int .i64 0) h') : C.rec_PutText (some ⟨b, o, none⟩) l c at_ n (mkStr ss) h K := by
  have hbl := s.1
  rw [List.length_map, Nat.mul_one] at hbl
  have hlc := s.le
  have hsz : (mkStr ss).size = ss.length := rfl
  refine rec_PutText.ok (cf (decide_eq_false (by omega)) (cf (decide_eq_false (by rw [hsz]; omega)) fun cap hcap => ?_))
  rw [toList_mkStr]
  have e0 : newS h (ss.map bv ++ List.replicate (cap - (mkStr ss).size) (bv 0)) 5 = newS h (ss.map bv ++ List.replicate (cap - (mkStr ss).size) (bv 0)) 5 := rfl
  generalize hh2 : newS h (ss.map bv ++ List.replicate (cap - (mkStr ss).size) (bv 0)) 5 = h2
  have f2 : Fr No h h2 := by
    subst hh2
    exact ⟨by simp [newS], fun x hx _ => by simp [newS, Array.getElem?_push, show x ≠ h.size by omega]⟩
  have r2 : rd h2 h.size = ss.map bv ++ List.replicate (cap - (mkStr ss).size) (bv 0) := by
    subst hh2
    simp [rd, newS]
  have B2 : StrAt h2 (some ⟨h.size, 0, none⟩) ss.length ss := ⟨rfl, cells_rd (by rw [r2, List.drop_zero, List.take_left])⟩
  have s2 := s.fr f2 fun _ _ _ x => x
  rw [hsz]
  refine ahead_spec B2 (by omega) hz ⟨_, rfl, cf (decide_eq_false (by omega)) (lie_spec hl h0 (by omega) hle ⟨_, rfl, cnot (ct rfl ?_)⟩)⟩
  rw [wrap_i64 (n := at_ + n) (by omega) (by omega)]
  obtain ⟨w1, w2⟩ := s2.wr
  refine ⟨⟨h0, by omega, by omega⟩, ?_⟩
  by_cases hss : ss = []
  · subst hss
    have hn0 : n = 0 := hn
    subst hn0
    rw [Int.add_zero, Nat.sub_self]
    have fin : K (.int .i64 0) h2 := hK h2 (f2.mono fun _ _ x => x.elim) (by rw [putU_nil]; exact s2)
    have wr0 : ∀ (a : Option Addr), WrS h2 a 0 0 := fun a => by cases a with | none => rfl | some p => exact fun i hi => absurd hi (Nat.not_lt_zero _)
    have st0 : ∀ (a : Option Addr), setS h2 a 0 [] = h2 := fun a => by cases a <;> rfl
    refine ⟨trivial, by show WrS h2 _ 0 (min 0 0); exact wr0 _, ?_⟩
    show _ ∧ _
    rw [toList_mkStr, List.take_nil, List.map_nil, st0]
    refine ⟨⟨by rw [wrap_i64 (by omega) (by omega)]; show 0 ≤ at_ + 0; omega, by rw [wrap_i64 (by omega) (by omega)]; show at_ + 0 ≤ at_; omega, by omega⟩, ?_⟩
    have e2 : at_.toNat - Int.toNat (IntKind.wrap .i64 (at_ + ((min (mkStr []).size 0 : Nat) : Int))) = 0 := by rw [wrap_i64 (by omega) (by omega)]; show at_.toNat - (at_ + 0).toNat = 0; omega
    rw [e2]
    refine ⟨trivial, wr0 _, ?_⟩
    show K _ (setS h2 _ 0 (repCells _ 0))
    have e3 : ∀ z, z = [Value.int .u8 0] → repCells z 0 = [] := fun z hz => by subst hz; rfl
    rw [show repCells ti5.zero 0 = [] from e3 _ rfl, st0]; exact fin
  · have hpos : 0 < ss.length := List.length_pos_iff.mpr hss
    have hci : c ≠ at_.toNat := by omega
    rw [if_neg hci, Option.map_some, add_mk]
    have e1 : (at_ + n).toNat - at_.toNat = ss.length := by omega
    rw [e1]
    have em : min (mkStr ss).size ss.length = ss.length := by rw [hsz]; exact Nat.min_self _
    refine ⟨trivial, ?_, ?_⟩
    · show WrS h2 _ 0 (min (mkStr ss).size ss.length)
      rw [em]
      simp only [WrS, Addr.add_zero]
      exact wrN_rd w1 (by omega)
    rw [em, toList_mkStr, List.take_length]
    have d5 : Did b h2 (setS h2 (some ⟨b, o + at_.toNat, none⟩) 0 (ss.map bv)) (put (rd h2 b) (o + at_.toNat) (ss.map bv)) := by
      simp only [setS, Addr.add_zero]
      exact ⟨Hp.size_setRow _ _ _ _, Fr.setRow (F := fun x => x = b) (Or.inl rfl) (Fr.refl _ h2), own_setRow w1, by rw [rd_setRow_at, Nat.add_zero]⟩
    generalize setS h2 (some ⟨b, o + at_.toNat, none⟩) 0 (ss.map bv) = h5 at d5
    have s5 := s2.putAt (j := at_.toNat) (new := ss.map bv) (by rw [List.length_map]; omega) d5
    rw [putU_put (by omega)] at s5
    have fin : K (.int .i64 0) h5 := hK h5 ((f2.mono fun _ _ x => x.elim).did d5 fun _ => rfl) s5
    have wr0 : ∀ (a : Option Addr), WrS h5 a 0 0 := fun a => by cases a with | none => rfl | some p => exact fun i hi => absurd hi (Nat.not_lt_zero _)
    have st0 : ∀ (a : Option Addr), setS h5 a 0 [] = h5 := fun a => by cases a <;> rfl
    show (0 ≤ IntKind.wrap .i64 (at_ + ((ss.length : Nat) : Int)) ∧ IntKind.wrap .i64 (at_ + ((ss.length : Nat) : Int)) ≤ at_ + n ∧ at_ + n ≤ (c : Int)) ∧ _
    rw [wrap_i64 (n := at_ + ((ss.length : Nat) : Int)) (by omega) (by omega)]
    refine ⟨⟨by omega, by omega, by omega⟩, ?_⟩
    have e2 : (at_ + n).toNat - (at_ + (ss.length : Int)).toNat = 0 := by omega
    rw [e2]
    refine ⟨trivial, wr0 _, ?_⟩
    show K _ (setS h5 _ 0 (repCells _ 0))
    have e3 : ∀ z, z = [Value.int .u8 0] → repCells z 0 = [] := fun z hz => by subst hz; rfl
    rw [show repCells ti5.zero 0 = [] from e3 _ rfl, st0]; exact fin
end Go.Proofs.YtjdcbblgaoogmaaGreatDoor.Re
namespace Go.Proofs.YtjdcbblgaoogmaaGreatDoor
open Go Go.ChangeShapes Go.WideShapes Go.ChangeAt Go.RowKit Go.Proofs.YtjdcbblgaoogmaaGreatDoor.Wx Go.Proofs.YtjdcbblgaoogmaaGreatDoor.Hp Go.Proofs.YtjdcbblgaoogmaaGreatDoor.Gl
theorem Tryz.own : ownKnob Tryz.prog.godebug = none := by kernel_rfl
theorem Tryz.laidOut : laidOutB Tryz.prog = true := by kernel_rfl
theorem Tryz.cellsBool : Tryz.prog.cellsOf 4 = 1 := by kernel_rfl
theorem Tryz.cellsByte : Tryz.prog.cellsOf 5 = 1 := by kernel_rfl
theorem Tryz.cellsBytes : Tryz.prog.cellsOf 37 = 1 := by kernel_rfl
theorem Tryz.cellsWord : Tryz.prog.cellsOf 244 = 1 := by kernel_rfl
theorem Tryz.cellsHalf : Tryz.prog.cellsOf 346 = 16 := by kernel_rfl
theorem Tryz.cellsWide : Tryz.prog.cellsOf 328 = 9 := by kernel_rfl
theorem Tryz.gWide : Tryz.prog.globalNamed "bole/rec.widths" = some 0 := by kernel_rfl
theorem Tryz.gHalf : Tryz.prog.globalNamed "bole/sum.half" = some 1 := by kernel_rfl
theorem Tryz.tWide : (Tryz.prog.globals[0]?).map (·.type) = some 328 := by kernel_rfl
theorem Tryz.tHalf : (Tryz.prog.globals[1]?).map (·.type) = some 346 := by kernel_rfl
/-- what the row's list gives -/
theorem tables {W : World} (h : laidMetH Tryz.prog [("bole/rec.widths", Rows.laid_bole_rec_widths), ("bole/sum.half", Rows.laid_bole_sum_half)] W) : Re.Glo W.heap := by
  obtain ⟨ps, ⟨g', t', cs, fuel, p, q, hg', ht', hvar, hd, ⟨g2, t2, cs2, fuel2, p2, q2, hg2, ht2, hvar2, hd2, _, _⟩, _⟩, _⟩ := h
  obtain rfl := Option.some.inj (Tryz.gWide.symm.trans hg')
  obtain rfl := Option.some.inj (Tryz.tWide.symm.trans ht')
  obtain rfl := Option.some.inj (Tryz.gHalf.symm.trans hg2)
  obtain rfl := Option.some.inj (Tryz.tHalf.symm.trans ht2)
  refine ⟨?_, ?_⟩
  · exact (rd_var Tryz.gHalf hvar2).trans (Lib.cells_of_tab (zs := Su.halfL) Tryz.underlying346 Tryz.underlying244 Tryz.cellsWord Tryz.cellsHalf hd2)
  · exact (rd_var Tryz.gWide hvar).trans (cells_of_bools (zs := Re.widthsL) Tryz.underlying328 Tryz.underlying4 Tryz.cellsBool Tryz.cellsWide hd)
def layO (cs : List Value) : Obj → Obj
  | .cells _ t frozen => .cells ⟨cs⟩ t frozen
  | o => o
/-- a world for the witness: the tables hold what their initialisers lay -/
noncomputable def laidWorld (os : Os) : World :=
  { World.holding Tryz.prog os ⟨#[], #[], []⟩ with heap := ((World.holding Tryz.prog os ⟨#[], #[], []⟩).heap.modify 0 (layO (Re.widthsL.map .bool))).modify 1 (layO (Su.halfL.map fun n => .int .u32 n)) }
end Go.Proofs.YtjdcbblgaoogmaaGreatDoor
namespace Go.Proofs.YtjdcbblgaoogmaaGreatDoor.Ad
open Go Go.Proofs Go.Proofs.YtjdcbblgaoogmaaGreatDoor.Wx Go.Proofs.YtjdcbblgaoogmaaGreatDoor.Hp Go.Proofs.YtjdcbblgaoogmaaGreatDoor.W
structure RD where
  lasts : List (List UInt8)
  pend : List (Int × List UInt8)
  left : Int
  keep : List Bool
  down : Bool
  writes : Int
  flushes : Int
  tape : List (Int × Int × List UInt8)
def blk (b : List UInt8) : List Value := b.map bv
def pcell (p : Int × List UInt8) : List Value := .int .i64 p.1 :: p.2.map bv
structure Ent where
  kind : Int
  at_ : Int
  a : Option Addr
  l : Nat
  c : Nat
def Ent.cells (e : Ent) : List Value := [.int .i64 e.kind, .int .i64 e.at_, .slice e.a e.l e.c]
/-- entries of a tape with their bytes, in blocks of colour k -/
def Ents (h : Heap) (col : Nat → Nat) (k : Nat) : List Ent → List (Int × Int × List UInt8) → Prop
  | [], [] => True
  | e :: r, t :: s => e.kind = t.1 ∧ e.at_ = t.2.1 ∧ StrAt h e.a e.l t.2.2 ∧ (∀ p, e.a = some p → p.block < h.size ∧ col p.block = k) ∧ Ents h col k r s
  | _, _ => False
theorem Ents.keep {h h' : Heap} {col col' : Nat → Nat} {k : Nat} {F : Nat → Prop} (f : Fr F h h') (g : Ag h.size col col') (hF : ∀ b, col b = k → ¬ F b) :
    ∀ {es : List Ent} {ts : List (Int × Int × List UInt8)}, Ents h col k es ts → Ents h' col' k es ts := by
  intro es
  induction es with
  | nil => intro ts e; cases ts with
    | nil => trivial
    | cons _ _ => exact e.elim
  | cons x r ih => intro ts e; cases ts with
    | nil => exact e.elim
    | cons t s =>
      obtain ⟨h1, h2, h3, h4, h5⟩ := e
      exact ⟨h1, h2, StrAt.fr f h3 (fun p hp => hF _ (h4 p hp).2), fun p hp => ⟨Nat.lt_of_lt_of_le (h4 p hp).1 f.size, (g _ (h4 p hp).1).trans (h4 p hp).2⟩, ih h5⟩
theorem Ents.length {h : Heap} {col : Nat → Nat} {k : Nat} : ∀ {es : List Ent} {ts : List (Int × Int × List UInt8)}, Ents h col k es ts → es.length = ts.length := by
  intro es
  induction es with
  | nil => intro ts e; cases ts with
    | nil => rfl
    | cons _ _ => exact e.elim
  | cons x r ih => intro ts e; cases ts with
    | nil => exact e.elim
    | cons t s => simp [ih e.2.2.2.2]
/-- the cells of a disk's struct -/
structure Raw where
  la : Option Addr
  ln : Nat
  lc : Nat
  pa : Option Addr
  pn : Nat
  pc : Nat
  left : Int
  ka : Option Addr
  kn : Nat
  kc : Nat
  down : Bool
  writes : Int
  flushes : Int
  ta : Option Addr
  tn : Nat
  tc : Nat
def Raw.cells (r : Raw) : List Value :=
  [.slice r.la r.ln r.lc, .slice r.pa r.pn r.pc, .int .i64 r.left, .slice r.ka r.kn r.kc, .bool r.down, .int .i64 r.writes, .int .i64 r.flushes, .slice r.ta r.tn r.tc]
/-- what the cells of a disk lead to, in colours m+1 .. m+5 -/
structure Parts (h : Heap) (S : RD) (col : Nat → Nat) (m : Nat) (r : Raw) (es : List Ent) : Prop where
  left : r.left = S.left
  leftb : 0 ≤ S.left ∧ S.left ≤ 9223372036854775807
  down : r.down = S.down
  writes : r.writes = S.writes
  flushes : r.flushes = S.flushes
  l : Sl h 512 r.la r.ln r.lc (S.lasts.flatMap blk) (On col (m + 1))
  lw : ∀ x ∈ S.lasts, x.length = 512
  ln : r.ln = S.lasts.length
  lmax : S.lasts.length ≤ 16384
  p : Sl h 513 r.pa r.pn r.pc (S.pend.flatMap pcell) (On col (m + 2))
  pw : ∀ x ∈ S.pend, x.2.length = 512
  pn : r.pn = S.pend.length
  pi : ∀ x ∈ S.pend, 0 ≤ x.1 ∧ x.1 < S.lasts.length
  pmax : S.pend.length ≤ 140737488355328
  k : Sl h 1 r.ka r.kn r.kc (S.keep.map .bool) (On col (m + 3))
  kn : r.kn = S.keep.length
  t : Sl h 3 r.ta r.tn r.tc (es.flatMap Ent.cells) (On col (m + 4))
  tn : r.tn = es.length
  tmax : es.length ≤ 140737488355328
  ts : Ents h col (m + 5) es S.tape
/-- a disk stands at block b, in colour m -/
structure Disk (h : Heap) (b : Nat) (S : RD) (col : Nat → Nat) (m : Nat) (r : Raw) (es : List Ent) : Prop extends Parts h S col m r es where
  sc : col b = m
  so : Own h b
  sr : rd h b = r.cells
def DiskAt (h : Heap) (d : Option Addr) (S : RD) (col : Nat → Nat) (m : Nat) : Prop := ∃ b r es, d = some ⟨b, 0, none⟩ ∧ Disk h b S col m r es
theorem Parts.keep {h h' : Heap} {S : RD} {col col' : Nat → Nat} {m : Nat} {r : Raw} {es : List Ent} {F : Nat → Prop} (d : Parts h S col m r es) (f : Fr F h h') (g : Ag h.size col col')
    (hF : ∀ b, m + 1 ≤ col b → col b ≤ m + 5 → ¬ F b) : Parts h' S col' m r es :=
  ⟨d.left, d.leftb, d.down, d.writes, d.flushes, d.l.keep f g (fun b e => hF b (by omega) (by omega)), d.lw, d.ln, d.lmax,
    d.p.keep f g (fun b e => hF b (by omega) (by omega)), d.pw, d.pn, d.pi, d.pmax, d.k.keep f g (fun b e => hF b (by omega) (by omega)), d.kn, d.t.keep f g (fun b e => hF b (by omega) (by omega)), d.tn, d.tmax,
    Ents.keep f g (fun b e => hF b (by omega) (by omega)) d.ts⟩
theorem Disk.keep' {h h' : Heap} {b : Nat} {S : RD} {col col' : Nat → Nat} {m : Nat} {r : Raw} {es : List Ent} {F : Nat → Prop} (d : Disk h b S col m r es) (f : Fr F h h') (g : Ag h.size col col')
    (hF : ∀ b, m ≤ col b → col b ≤ m + 5 → ¬ F b) : Disk h' b S col' m r es := by
  have hb := d.so.lt
  have hs : ¬ F b := hF b (by have := d.sc; omega) (by have := d.sc; omega)
  exact ⟨d.toParts.keep f g (fun b h1 h2 => hF b (by omega) h2), (g _ hb).trans d.sc, f.own hb hs d.so, (f.rd hb hs).trans d.sr⟩
/-- the struct is written -/
theorem Disk.re {h h' : Heap} {b : Nat} {S : RD} {col : Nat → Nat} {m : Nat} {r : Raw} {es : List Ent} (P : Parts h S col m r es) (sc : col b = m) (D : Did b h h' r.cells) : Disk h' b S col m r es :=
  ⟨P.keep D.fr (Ag.refl _ _) (fun x h1 _ e => by rw [e] at h1; omega), sc, D.own, D.rd⟩
theorem DiskAt.keep {h h' : Heap} {d : Option Addr} {S : RD} {col col' : Nat → Nat} {m : Nat} {F : Nat → Prop} (D : DiskAt h d S col m) (f : Fr F h h') (g : Ag h.size col col')
    (hF : ∀ b, m ≤ col b → col b ≤ m + 5 → ¬ F b) : DiskAt h' d S col' m := by
  obtain ⟨b, r, es, e, D⟩ := D; exact ⟨b, r, es, e, D.keep' f g hF⟩
def fresh (ls : List (List UInt8)) : RD := ⟨ls, [], 0, [], false, 0, 0, []⟩
def zeroBlk : List UInt8 := List.replicate 512 0
theorem repCells_zero (z : List Value) (hz : z = List.replicate 512 (.int .u8 0)) (n : Nat) : repCells z n = (List.replicate n zeroBlk).flatMap blk := by
  rw [repCells_eq, List.flatMap_replicate]
  subst hz
  have : blk zeroBlk = List.replicate 512 (.int .u8 0) := by simp only [blk, zeroBlk, List.map_replicate]; rfl
  rw [this]
theorem New_spec {n : Int} {h : Heap} {K : Value → Heap → Prop} (col : Nat → Nat) (m : Nat)
    (h1 : n < 1 ∨ 16384 < n → K (.tuple #[.pointer none, .int .i64 32]) h)
    (h2 : 1 ≤ n → n ≤ 16384 → ∀ q h' col', Fr No h h' → Ag h.size col col' → DiskAt h' (some q) (fresh (List.replicate n.toNat zeroBlk)) col' m → K (.tuple #[.pointer (some q), .int .i64 0]) h') :
    C.adisk_New n h K := by
  refine adisk_New.ok ?_
  refine cd (fun a => h1 (Or.inl a)) fun a => cd (fun b => h1 (Or.inr b)) fun b => ⟨by omega, ?_⟩
  refine New.intro fun h2' n2 => New.intro fun h3 n3 => ?_
  refine h2 (by omega) (by omega) _ _ (upd (upd col h.size (m + 1)) (h.size + 1) m) (n2.fr.new n3) ((ag_upd _ _ _).trans (ag_upd _ _ _) (by omega)) ?_
  refine ⟨_, ⟨some ⟨h.size, 0, none⟩, n.toNat, n.toNat, none, 0, 0, 0, none, 0, 0, false, 0, 0, none, 0, 0⟩, [], rfl, ?_⟩
  have hl := flat_length blk 512 (List.replicate n.toNat zeroBlk) (by intro x hx; rw [List.eq_of_mem_replicate hx]; simp only [blk, zeroBlk, List.length_map, List.length_replicate])
  rw [List.length_replicate] at hl
  have e2 : rd h2' h.size = (List.replicate n.toNat zeroBlk).flatMap blk := n2.rd.trans (repCells_zero _ rfl _)
  refine ⟨⟨rfl, ⟨by simp [fresh], by simp [fresh]⟩, rfl, rfl, rfl, ?_, ?_, ?_, ?_, Sl.nil _ _ _, ?_, rfl, ?_, by simp [fresh], Sl.nil _ _ _, rfl, Sl.nil _ _ _, rfl, by simp, trivial⟩, upd_ge (by rw [n2.size]; omega), n3.own, n3.rd⟩
  · refine ⟨hl, rfl, ?_, n3.ow n2.own, Nat.le_refl _, ?_, ?_⟩
    · show upd (upd col h.size (m + 1)) (h.size + 1) m h.size = m + 1
      rw [upd_lt (by omega), upd_ge (Nat.le_refl _)]
    · show ((rd h3 h.size).drop 0).take _ = _
      rw [n3.at_ n2.own.lt, e2, List.drop_zero]; exact List.take_length
    · show 0 + n.toNat * 512 ≤ (rd h3 h.size).length
      rw [n3.at_ n2.own.lt, e2, hl]; omega
  · intro x hx; rw [List.eq_of_mem_replicate hx]; simp only [zeroBlk, List.length_replicate]
  · simp [fresh]
  · simp only [fresh, List.length_replicate]; omega
  · intro x hx; simp [fresh] at hx
  · intro x hx; simp [fresh] at hx
end Go.Proofs.YtjdcbblgaoogmaaGreatDoor.Ad
namespace Go.Proofs.YtjdcbblgaoogmaaGreatDoor.Ad
open Go Go.Proofs Go.Proofs.YtjdcbblgaoogmaaGreatDoor.Wx Go.Proofs.YtjdcbblgaoogmaaGreatDoor.Hp Go.Proofs.YtjdcbblgaoogmaaGreatDoor.W
theorem Disk.field {h : Heap} {b : Nat} {S : RD} {col : Nat → Nat} {m : Nat} {r : Raw} {es : List Ent} (d : Disk h b S col m r es) (k : Nat) : cellOf h (Addr.add ⟨b, 0, none⟩ k) = r.cells[k]? := by
  rw [add_mk, cellOf_rd, d.sr, Nat.zero_add]
theorem has_spec {d : Option Addr} {i : Int} {h : Heap} {K : Value → Heap → Prop} {S : RD} {col : Nat → Nat} {m : Nat} (D : DiskAt h d S col m)
    (hK : K (.bool (decide (0 ≤ i ∧ i < S.lasts.length))) h) : C.adisk_Disk_has d i h K := by
  obtain ⟨b, r, es, rfl, D⟩ := D
  refine adisk_Disk_has.ok (cd (fun a => ⟨_, _, _, D.field 0, ?_⟩) fun a => ?_)
  · rw [D.ln]
    have e : (0 ≤ i ∧ i < S.lasts.length) = (i < S.lasts.length) := by rw [eq_true (show 0 ≤ i from a), true_and]
    simpa only [e] using hK
  · have : ¬ (0 ≤ i ∧ i < S.lasts.length) := by omega
    simpa only [this, decide_false] using hK
theorem Blocks_spec {d : Option Addr} {h : Heap} {K : Value → Heap → Prop} {S : RD} {col : Nat → Nat} {m : Nat} (D : DiskAt h d S col m)
    (hK : K (.int .i64 S.lasts.length) h) : C.adisk_Disk_Blocks d h K := by
  obtain ⟨b, r, es, rfl, D⟩ := D
  refine adisk_Disk_Blocks.ok ⟨_, _, _, D.field 0, ?_⟩
  rw [D.ln]; exact hK
/-- what a read of block i finds -/
def readFrom (b : List UInt8) (i : Int) (ps : List (Int × List UInt8)) : List UInt8 := ps.foldl (fun b p => if p.1 = i then p.2 else b) b
def readAt (S : RD) (i : Nat) : List UInt8 := readFrom (S.lasts.getD i []) i S.pend
theorem pcell_len {p : Int × List UInt8} (h : p.2.length = 512) : (pcell p).length = 513 := by simp only [pcell, List.length_cons, List.length_map, h]
theorem blk_len {b : List UInt8} (h : b.length = 512) : (blk b).length = 512 := by simp only [blk, List.length_map, h]
theorem pcell_data (p : Int × List UInt8) : ((pcell p).drop (0 + 1)).take (blk p.2).length = blk p.2 := by
  simp only [pcell, blk, Nat.zero_add, List.drop_succ_cons, List.drop_zero]; exact List.take_length
theorem pcell_one (p : Int × List UInt8) : ∀ v ∈ pcell p, v.oneCell' = true := by
  intro v hv
  rcases List.mem_cons.mp hv with rfl | hv
  · rfl
  · exact bv_one _ v hv
theorem Disk.pendCells {h : Heap} {b : Nat} {S : RD} {col : Nat → Nat} {m : Nat} {r : Raw} {es : List Ent} (d : Disk h b S col m r es) {h' : Heap} {col' : Nat → Nat} {i : Nat} (hi : i < S.pend.length)
    (s : Sl h' 513 r.pa r.pn r.pc (S.pend.flatMap pcell) (On col' (m + 2))) : ∃ p, r.pa = some p ∧ Cells h' (p.add (i * 513)) (pcell S.pend[i]) := by
  obtain ⟨p, e, c⟩ := s.get (by rw [d.pn]; omega)
  refine ⟨p, e, ?_⟩
  have := Cells.part c (i * 513) 513
  rw [flat_part pcell 513 S.pend (fun x hx => pcell_len (d.pw x hx)) i hi] at this
  exact this
theorem Disk.lastCells {h : Heap} {b : Nat} {S : RD} {col : Nat → Nat} {m : Nat} {r : Raw} {es : List Ent} (d : Disk h b S col m r es) {h' : Heap} {col' : Nat → Nat} {i : Nat} (hi : i < S.lasts.length)
    (s : Sl h' 512 r.la r.ln r.lc (S.lasts.flatMap blk) (On col' (m + 1))) : ∃ p, r.la = some p ∧ Cells h' (p.add (i * 512)) (blk S.lasts[i]) := by
  obtain ⟨p, e, c⟩ := s.get (by rw [d.ln]; omega)
  refine ⟨p, e, ?_⟩
  have := Cells.part c (i * 512) 512
  rw [flat_part blk 512 S.lasts (fun x hx => blk_len (d.lw x hx)) i hi] at this
  exact this
theorem readFrom_take {b : List UInt8} {i : Int} {ps : List (Int × List UInt8)} {n : Nat} (hn : n < ps.length) : readFrom b i (ps.take (n + 1)) = if ps[n].1 = i then ps[n].2 else readFrom b i (ps.take n) := by
  rw [readFrom, List.take_add_one, List.foldl_append, List.getElem?_eq_getElem hn]; rfl
theorem Read_spec {d : Option Addr} {i : Int} {h : Heap} {K : Value → Heap → Prop} {S : RD} {col : Nat → Nat} {m : Nat} (D : DiskAt h d S col m)
    (h1 : S.down = true → K (.tuple #[.slice none 0 0, .int .i64 30]) h)
    (h2 : S.down = false → ¬ (0 ≤ i ∧ i < S.lasts.length) → K (.tuple #[.slice none 0 0, .int .i64 31]) h)
    (h3 : S.down = false → 0 ≤ i → i < S.lasts.length → ∀ b h', Fr No h h' → h.size ≤ b → Own h' b → rd h' b = (readAt S i.toNat).map bv → (readAt S i.toNat).length = 512 →
      K (.tuple #[.slice (some ⟨b, 0, none⟩) 512 512, .int .i64 0]) h') :
    C.adisk_Disk_Read d i h K := by
  have D0 := D
  obtain ⟨b, r, es, rfl, D⟩ := D
  refine adisk_Disk_Read.ok ⟨_, D.field 4, ?_⟩
  rw [D.down]
  refine cs h1 fun hd => has_spec D0 ⟨_, rfl, cnot (cd (fun a => ?_) (h2 hd))⟩
  have hi : i.toNat < S.lasts.length := by omega
  obtain ⟨p, e, c⟩ := D.lastCells hi D.l
  refine ⟨_, _, _, D.field 0, ⟨a.1, by rw [D.ln]; exact a.2⟩, ?_⟩
  rw [e]
  have hlen := blk_len (D.lw _ (List.getElem_mem hi))
  refine ⟨_, hlen, c, NewRow.intro hlen (bv_one _) List.length_replicate fun h4 n4 => ?_⟩
  have D4 := D.keep' n4.fr (Ag.refl _ _) (fun _ _ _ x => x)
  refine ⟨_, _, _, D4.field 1, ?_⟩
  refine ⟨fun n hh => 0 ≤ n ∧ n ≤ S.pend.length ∧ Fr No h hh ∧ Own hh h.size ∧ rd hh h.size = (readFrom S.lasts[i.toNat] i (S.pend.take n.toNat)).map bv ∧ (readFrom S.lasts[i.toNat] i (S.pend.take n.toNat)).length = 512,
    fun n _ => (S.pend.length - n).toNat, ⟨by omega, by omega, n4.fr, n4.own, n4.rd, D.lw _ (List.getElem_mem hi)⟩, ?_⟩
  rintro n h5 ⟨n0, n1, f5, o5, r5, l5⟩
  have D5 := D.keep' f5 (Ag.refl _ _) (fun _ _ _ x => x)
  rw [D.pn]
  refine cd (fun hn => ?_) fun hn => ?_
  rotate_left
  · have : readAt S i.toNat = readFrom S.lasts[i.toNat] i (S.pend.take n.toNat) := by
      rw [List.take_of_length_le (by omega), readAt, List.getD_eq_getElem?_getD, List.getElem?_eq_getElem hi, Option.getD_some, Int.toNat_of_nonneg a.1]
    exact h3 hd a.1 a.2 _ _ f5 (Nat.le_refl _) o5 (by rw [this]; exact r5) (by rw [this]; exact l5)
  have hn' : n.toNat < S.pend.length := by omega
  obtain ⟨q, e', c'⟩ := D5.pendCells hn' D5.p
  refine ⟨⟨n0, hn⟩, ?_⟩
  rw [e']
  have hp2 := D.pw _ (List.getElem_mem hn')
  have hpl := pcell_len hp2
  refine ⟨_, hpl, c', NewRow.intro hpl (pcell_one _) (List.length_cons.trans (congrArg (· + 1) List.length_replicate)) fun h7 n7 => ?_⟩
  have f7 := f5.new n7
  have hs5 := f5.size
  have hw : IntKind.wrap .i64 (n + 1) = n + 1 := wrap_i64 (by omega) (by have := D.pmax; omega)
  have ht : (n + 1).toNat = n.toNat + 1 := by omega
  refine ⟨_, rda n7.rd rfl, ?_⟩
  rw [hw]
  refine ce (fun hq => ?_) fun hq => ?_
  · have hb := blk_len hp2
    have r7 := n7.at_ o5.lt
    refine ⟨_, hb, cellsa n7.rd (pcell_data _), PutRow.intro (n7.ow o5) hb (bv_one _) (by rw [r7, r5, List.length_map, l5]; omega) fun h8 n8 => ⟨⟨by omega, by omega, f7.did n8 (fun x => by omega), n8.own, ?_, ?_⟩, falls hn⟩⟩
    · rw [n8.rd, r7, r5, put_all _ _ (by rw [hb, List.length_map, l5]), ht, readFrom_take hn', if_pos hq]; rfl
    · rw [ht, readFrom_take hn', if_pos hq]; exact hp2
  · refine ⟨⟨by omega, by omega, f7, n7.ow o5, ?_, ?_⟩, falls hn⟩
    · rw [n7.at_ o5.lt, r5, ht, readFrom_take hn', if_neg hq]
    · rw [ht, readFrom_take hn', if_neg hq]; exact l5
end Go.Proofs.YtjdcbblgaoogmaaGreatDoor.Ad
namespace Go.Proofs.YtjdcbblgaoogmaaGreatDoor.Ad
open Go Go.Proofs Go.Proofs.YtjdcbblgaoogmaaGreatDoor.Wx Go.Proofs.YtjdcbblgaoogmaaGreatDoor.Hp Go.Proofs.YtjdcbblgaoogmaaGreatDoor.W
theorem Disk.putLast {h h' : Heap} {b : Nat} {S : RD} {col : Nat → Nat} {m : Nat} {r : Raw} {es : List Ent} (d : Disk h b S col m r es) {lb lo i : Nat} {y : List UInt8} (hi : i < S.lasts.length) (hy : y.length = 512)
    (e : r.la = some ⟨lb, lo, none⟩) (D : Did lb h h' (put (rd h lb) (lo + i * 512) (blk y))) : Disk h' b { S with lasts := S.lasts.set i y } col m r es := by
  have L := d.l
  rw [e] at L
  have hc : col lb = m + 1 := L.2.2.1
  have K := d.keep' (F := fun x => x = lb ∧ False) (h' := h) ⟨Nat.le_refl _, fun _ _ _ => rfl⟩ (Ag.refl _ _) (fun _ _ _ x => x.2)
  have hs : b ≠ lb := by intro x; have := d.sc; rw [x] at this; omega
  have g : Ag h.size col col := Ag.refl _ _
  have hk : ∀ k, k ≠ m + 1 → ∀ x, col x = k → ¬ (x = lb) := by intro k hk x hx e; rw [e] at hx; omega
  exact ⟨⟨d.left, d.leftb, d.down, d.writes, d.flushes, by rw [e]; exact L.putPart (fun x hx => blk_len (d.lw x hx)) hi (blk_len hy) D,
    fun x hx => by rcases List.mem_or_eq_of_mem_set hx with hx | rfl; exact d.lw x hx; exact hy, by simp only [List.length_set]; exact d.ln, by simp only [List.length_set]; exact d.lmax,
    d.p.keep D.fr g (hk _ (by omega)), d.pw, d.pn, by simp only [List.length_set]; exact d.pi, d.pmax, d.k.keep D.fr g (hk _ (by omega)), d.kn, d.t.keep D.fr g (hk _ (by omega)), d.tn, d.tmax, Ents.keep D.fr g (hk _ (by omega)) d.ts⟩, d.sc, D.ow d.so, (D.at_ d.so.lt hs).trans d.sr⟩
theorem take_snoc {α : Type} (xs : List α) (n : Nat) (h : n < xs.length) : xs.take (n + 1) = xs.take n ++ [xs[n]] := by
  rw [List.take_add_one, List.getElem?_eq_getElem h]; rfl
def chunks (bs : List UInt8) : List (List UInt8) := (List.range (bs.length / 512)).map fun i => (bs.drop (i * 512)).take 512
theorem chunks_length (bs : List UInt8) : (chunks bs).length = bs.length / 512 := by simp only [chunks, List.length_map, List.length_range]
theorem chunks_get (bs : List UInt8) {i : Nat} (h : i < (chunks bs).length) : (chunks bs)[i] = (bs.drop (i * 512)).take 512 := by simp only [chunks, List.getElem_map, List.getElem_range]
theorem chunks_len (bs : List UInt8) : ∀ x ∈ chunks bs, x.length = 512 := by
  intro x hx
  obtain ⟨i, hi, rfl⟩ := List.getElem_of_mem hx
  rw [chunks_length] at hi
  rw [chunks_get, List.length_take, List.length_drop]; omega
theorem Open_spec {a : Option Addr} {l c : Nat} {bs : List UInt8} {h : Heap} {K : Value → Heap → Prop} (col : Nat → Nat) (m : Nat) (hf : Free h col m) (B : StrAt h a l bs) (hlc : l ≤ c) (hl : l ≤ 140737488355328)
    (h1 : l % 512 ≠ 0 ∨ l = 0 ∨ 16384 < l / 512 → K (.tuple #[.pointer none, .int .i64 32]) h)
    (h2 : l % 512 = 0 → 0 < l → l / 512 ≤ 16384 → ∀ q h' col', Fr No h h' → Ag h.size col col' → DiskAt h' (some q) (fresh (chunks bs)) col' m → K (.tuple #[.pointer (some q), .int .i64 0]) h') :
    C.adisk_Open a l c h K := by
  have hbl := B.1
  have hd : Int.tdiv (l : Int) 512 = ((l / 512 : Nat) : Int) := by rw [Int.tdiv_eq_ediv_of_nonneg (by omega)]; omega
  have hmd : Int.tmod (l : Int) 512 = ((l % 512 : Nat) : Int) := by rw [Int.tmod_eq_emod_of_nonneg (by omega)]; omega
  have hw : IntKind.wrap .i64 (Int.tdiv (l : Int) 512) = ((l / 512 : Nat) : Int) := by rw [hd]; exact wrap_i64 (by omega) (by omega)
  refine adisk_Open.ok (cn (fun x => h1 (Or.inl (by omega))) fun x => ?_)
  rw [hw]
  refine New_spec col m (fun y => ⟨_, _, rfl, cn (fun _ => h1 (by omega)) (fun z => absurd z (by omega))⟩) fun y1 y2 q h' col' f1 g1 D1 => ⟨_, _, rfl, cn (fun z => absurd rfl z) fun _ => ?_⟩
  obtain ⟨b, r, es, hq, D1⟩ := D1
  have hq : q = ⟨b, 0, none⟩ := by simpa using hq
  subst hq
  rw [Int.toNat_natCast] at D1
  have hN := D1.ln
  simp only [fresh, List.length_replicate] at hN
  refine ⟨_, _, _, D1.field 0, ?_⟩
  refine ⟨fun n hh => 0 ≤ n ∧ n ≤ (l / 512 : Nat) ∧ Fr No h hh ∧ Disk hh b (fresh ((chunks bs).take n.toNat ++ List.replicate (l / 512 - n.toNat) zeroBlk)) col' m r es, fun n _ => ((l / 512 : Nat) - n).toNat,
    ⟨by omega, by omega, f1, by rw [show (0 : Int).toNat = 0 from rfl, List.take_zero, List.nil_append, Nat.sub_zero]; exact D1⟩, ?_⟩
  rintro n h3 ⟨n0, n1, f3, D3⟩
  rw [hN]
  have hcl := chunks_length bs
  refine cd (fun hn => ?_) fun hn => ?_
  rotate_left
  · have e : n.toNat = l / 512 := by omega
    rw [e, List.take_of_length_le (by rw [hcl, hbl]; omega), Nat.sub_self, List.replicate_zero, List.append_nil] at D3
    exact h2 (by omega) (by omega) (by omega) _ _ _ f3 g1 ⟨b, r, es, rfl, D3⟩
  have hn' : n.toNat < l / 512 := by omega
  refine ⟨_, _, _, D3.field 0, ⟨n0, by rw [hN]; exact hn⟩, ?_⟩
  obtain ⟨p, e, _⟩ := D3.l.get (by rw [hN]; omega)
  rw [e]
  have L := D3.l
  rw [e] at L
  obtain ⟨lb, lo, sp⟩ := p
  have hsp : sp = none := L.2.1
  subst hsp
  have hw3 : IntKind.wrap .i64 (n * 512) = ((n.toNat * 512 : Nat) : Int) := by rw [wrap_i64 (by omega) (by omega)]; omega
  have hw2 : IntKind.wrap .i64 (n + 1) = n + 1 := wrap_i64 (by omega) (by omega)
  simp only [hw3, hw2, Int.toNat_natCast]
  refine ⟨by omega, ?_⟩
  rw [if_neg (by omega), add_mk]
  have B3 := StrAt.take (StrAt.drop (StrAt.fr f3 B (fun _ _ x => x)) (n.toNat * 512)) (n := 512) (by omega)
  obtain ⟨w1, w2⟩ := L.wr
  rw [hN] at w2
  have hy : ((bs.drop (n.toNat * 512)).take 512).length = 512 := B3.1
  have hm : min (l - n.toNat * 512) 512 = 512 := by omega
  refine CopyP.intro (new := blk ((bs.drop (n.toNat * 512)).take 512)) (by rw [blk_len hy, hm]; rfl) B3.2 (bv_one _) w1 (by rw [blk_len hy]; omega) fun h4 d4 => ?_
  have hi : n.toNat < ((chunks bs).take n.toNat ++ List.replicate (l / 512 - n.toNat) zeroBlk).length := by rw [List.length_append, List.length_take, List.length_replicate, hcl, hbl]; omega
  have D4 := D3.putLast (i := n.toNat) hi hy e d4
  refine ⟨⟨by omega, by omega, ?_, ?_⟩, falls hn⟩
  · refine f3.did d4 fun x => ?_
    have hc : col' lb = m + 1 := L.2.2.1
    have := hf.new g1 (b := lb) (by omega) (by omega)
    omega
  · have ht : (n + 1).toNat = n.toNat + 1 := by omega
    have hx : n.toNat < (chunks bs).length := by rw [hcl, hbl]; omega
    have e1 : ((chunks bs).take n.toNat ++ List.replicate (l / 512 - n.toNat) zeroBlk).set n.toNat ((bs.drop (n.toNat * 512)).take 512) = (chunks bs).take (n + 1).toNat ++ List.replicate (l / 512 - (n + 1).toNat) zeroBlk := by
      have h1 : ((chunks bs).take n.toNat).length = n.toNat := by rw [List.length_take]; omega
      rw [List.set_append_right _ _ (by omega), h1, Nat.sub_self, show l / 512 - n.toNat = (l / 512 - (n + 1).toNat) + 1 by omega, List.replicate_succ, List.set_cons_zero, ht, take_snoc _ _ hx, chunks_get, List.append_assoc]; rfl
    rw [← e1]; exact D4
end Go.Proofs.YtjdcbblgaoogmaaGreatDoor.Ad
namespace Go.Proofs.YtjdcbblgaoogmaaGreatDoor.Ad
open Go Go.Proofs Go.Proofs.YtjdcbblgaoogmaaGreatDoor.Wx Go.Proofs.YtjdcbblgaoogmaaGreatDoor.Hp Go.Proofs.YtjdcbblgaoogmaaGreatDoor.W
theorem Clone_spec {a : Option Addr} {l c : Nat} {bs : List UInt8} {h : Heap} {K : Value → Heap → Prop} (B : StrAt h a l bs) (hl : l ≤ 140737488355328)
    (hK : ∀ a' c' h', Fr No h h' → Sl h' 1 a' l c' (bs.map bv) (From h.size) → K (.slice a' l c') h') : C.slices_Clone_byte_byte a l c h K := by
  have hbl := B.1
  refine slices_Clone_byte_byte.ok (cs (fun e => ?_) fun _ => New.intro fun h2 n2 => ?_)
  · cases a with
    | none =>
      have e1 := B.2
      have e2 : bs.map bv = [] := e1
      have e2 : bs = [] := List.map_eq_nil_iff.mp e2
      subst e2
      have : l = 0 := hbl.symm
      subst this
      exact hK none 0 h (Fr.refl _ _) (Sl.nil _ _ _)
    | some p => simp at e
  · obtain ⟨s1, s2, s3⟩ := StrAt.src (StrAt.fr n2.fr B (fun _ _ x => x))
    refine ⟨_, s1, s2, s3, ?_⟩
    refine append_own (xs := []) (F := From h.size) (Sl.made n2 rfl (Nat.le_refl _) rfl (Nat.le_refl _) rfl) s1 rfl (by show (0 + l) * 1 ≤ _; omega) (by omega) fun a' c' h' f s => ?_
    rw [Nat.zero_add, List.nil_append] at s
    rw [Nat.zero_add]
    have := n2.size
    exact hK a' c' h' (n2.fr.trans f fun b hb e => by have : h.size ≤ b := e; omega) (s.mono fun b hb => by rcases hb with hb | hb; exact hb; show h.size ≤ b; omega)
end Go.Proofs.YtjdcbblgaoogmaaGreatDoor.Ad
namespace Go.Proofs.YtjdcbblgaoogmaaGreatDoor.Ad
open Go Go.Proofs Go.Proofs.YtjdcbblgaoogmaaGreatDoor.Wx Go.Proofs.YtjdcbblgaoogmaaGreatDoor.Hp Go.Proofs.YtjdcbblgaoogmaaGreatDoor.W
/-- what a thing stands on has grown: of the old blocks it has the same -/
structure Gw (h : Heap) (D : Nat → Prop) (h' : Heap) (D' : Nat → Prop) : Prop where
  old : ∀ b, b < h.size → (D' b ↔ D b)
  lt : ∀ b, D' b → b < h'.size
theorem Gw.refl {h h' : Heap} {D : Nat → Prop} (hs : h.size ≤ h'.size) (hD : ∀ b, D b → b < h.size) : Gw h D h' D := ⟨fun _ _ => Iff.rfl, fun b hb => Nat.lt_of_lt_of_le (hD b hb) hs⟩
theorem Gw.trans {h h' h'' : Heap} {D D' D'' : Nat → Prop} (g : Gw h D h' D') (g' : Gw h' D' h'' D'') (hs : h.size ≤ h'.size) : Gw h D h'' D'' :=
  ⟨fun b hb => (g'.old b (by omega)).trans (g.old b hb), g'.lt⟩
def trim (col : Nat → Nat) (n : Nat) : Nat → Nat := fun b => if b < n then col b else 0
theorem trim_lt {col : Nat → Nat} {n b : Nat} (h : b < n) : trim col n b = col b := if_pos h
theorem trim_ge {col : Nat → Nat} {n b : Nat} (h : n ≤ b) : trim col n b = 0 := if_neg (by omega)
theorem ag_trim (col : Nat → Nat) (n : Nat) : Ag n col (trim col n) := fun _ hb => if_pos hb
def DiskF (h : Heap) (D : Nat → Prop) (d : Option Addr) (S : RD) : Prop := ∃ col, DiskAt h d S col 1 ∧ (∀ b, h.size ≤ b → col b = 0) ∧ ∀ b, D b ↔ 1 ≤ col b ∧ col b ≤ 6
theorem DiskF.mk {h : Heap} {d : Option Addr} {S : RD} {col : Nat → Nat} (a : DiskAt h d S col 1) : DiskF h (fun b => b < h.size ∧ 1 ≤ col b ∧ col b ≤ 6) d S := by
  refine ⟨trim col h.size, a.keep (F := No) (Fr.refl _ h) (ag_trim _ _) fun _ _ _ x => x, fun b hb => trim_ge hb, fun b => ⟨fun hb => by rw [trim_lt hb.1]; exact hb.2, fun hb => ?_⟩⟩
  rcases Nat.lt_or_ge b h.size with h1 | h1
  · rw [trim_lt h1] at hb; exact ⟨h1, hb⟩
  · rw [trim_ge h1] at hb; omega
theorem DiskF.lt {h : Heap} {D : Nat → Prop} {d : Option Addr} {S : RD} (a : DiskF h D d S) {b : Nat} (hb : D b) : b < h.size := by
  obtain ⟨col, _, hz, hD⟩ := a
  rcases Nat.lt_or_ge b h.size with h1 | h1
  · exact h1
  · have := (hD b).mp hb; rw [hz b h1] at this; omega
theorem DiskF.fr {h h' : Heap} {D F : Nat → Prop} {d : Option Addr} {S : RD} (a : DiskF h D d S) (f : Fr F h h') (hF : ∀ b, D b → ¬ F b) : DiskF h' D d S := by
  obtain ⟨col, a, hz, hD⟩ := a
  have := f.size
  exact ⟨col, a.keep f (Ag.refl _ _) fun b h1 h2 => hF b ((hD b).mpr ⟨h1, h2⟩), fun b hb => hz b (by omega), hD⟩
theorem DiskF.no {h h' : Heap} {D : Nat → Prop} {d : Option Addr} {S : RD} (a : DiskF h D d S) (f : Fr No h h') : DiskF h' D d S := a.fr f fun _ _ x => x
theorem DiskF.iff {h : Heap} {D D' : Nat → Prop} {d : Option Addr} {S : RD} (a : DiskF h D d S) (e : ∀ b, D' b ↔ D b) : DiskF h D' d S := by
  obtain ⟨col, a, hz, hD⟩ := a
  exact ⟨col, a, hz, fun b => (e b).trans (hD b)⟩
/-- a contract in colours, as one in blocks -/
theorem DiskF.gw {h h' : Heap} {D : Nat → Prop} {d : Option Addr} {S' : RD} {col col' : Nat → Nat} (hD : ∀ b, D b ↔ 1 ≤ col b ∧ col b ≤ 6) (g : Ag h.size col col') (hs : h.size ≤ h'.size) (a : DiskAt h' d S' col' 1) :
    ∃ D', Gw h D h' D' ∧ DiskF h' D' d S' ∧ ∀ b, D' b ↔ b < h'.size ∧ 1 ≤ col' b ∧ col' b ≤ 6 :=
  ⟨_, ⟨fun b hb => by rw [hD b, g b hb]; exact ⟨fun x => x.2, fun x => ⟨by omega, x⟩⟩, fun b hb => hb.1⟩, DiskF.mk a, fun _ => Iff.rfl⟩
theorem DiskF.blocks {h : Heap} {D : Nat → Prop} {d : Option Addr} {S : RD} {K : Value → Heap → Prop} (a : DiskF h D d S) (hK : K (.int .i64 S.lasts.length) h) : C.adisk_Disk_Blocks d h K := by
  obtain ⟨col, a, _⟩ := a
  exact Blocks_spec a hK
theorem DiskF.max {h : Heap} {D : Nat → Prop} {d : Option Addr} {S : RD} (a : DiskF h D d S) : S.lasts.length ≤ 16384 ∧ ∀ x ∈ S.lasts, x.length = 512 := by
  obtain ⟨col, ⟨b, r, es, _, D⟩, _⟩ := a
  exact ⟨D.lmax, D.lw⟩
theorem DiskF.read {h : Heap} {D : Nat → Prop} {d : Option Addr} {S : RD} {i : Int} {K : Value → Heap → Prop} (a : DiskF h D d S)
    (h1 : S.down = true → K (.tuple #[.slice none 0 0, .int .i64 30]) h)
    (h2 : S.down = false → ¬ (0 ≤ i ∧ i < S.lasts.length) → K (.tuple #[.slice none 0 0, .int .i64 31]) h)
    (h3 : S.down = false → 0 ≤ i → i < S.lasts.length → ∀ b h', Fr No h h' → Sl h' 1 (some ⟨b, 0, none⟩) 512 512 ((readAt S i.toNat).map bv) (From h.size) → (readAt S i.toNat).length = 512 →
      K (.tuple #[.slice (some ⟨b, 0, none⟩) 512 512, .int .i64 0]) h') :
    C.adisk_Disk_Read d i h K := by
  obtain ⟨col, a, _⟩ := a
  refine Read_spec a h1 h2 fun e i0 i1 b h' f hb o r l => h3 e i0 i1 b h' f ⟨by rw [List.length_map, l], rfl, hb, o, Nat.le_refl _, ?_, ?_⟩ l
  · show ((rd h' b).drop 0).take _ = _
    rw [r, List.drop_zero, List.take_length]
  · show 0 + 512 * 1 ≤ (rd h' b).length
    rw [r, List.length_map, l]; exact Nat.le_refl _
theorem openF_spec {a : Option Addr} {l c : Nat} {bs : List UInt8} {h : Heap} {K : Value → Heap → Prop} (B : StrAt h a l bs) (hlc : l ≤ c) (hl : l ≤ 140737488355328)
    (h1 : l % 512 ≠ 0 ∨ l = 0 ∨ 16384 < l / 512 → K (.tuple #[.pointer none, .int .i64 32]) h)
    (h2 : l % 512 = 0 → 0 < l → l / 512 ≤ 16384 → ∀ q h' D, Fr No h h' → (∀ b, D b → h.size ≤ b) → DiskF h' D (some q) (fresh (chunks bs)) → K (.tuple #[.pointer (some q), .int .i64 0]) h') :
    C.adisk_Open a l c h K := by
  refine Open_spec (fun _ => 0) 1 (fun _ _ h1 _ => absurd h1 (by show ¬ (1 ≤ 0); omega)) B hlc hl h1 fun y1 y2 y3 q h' col' f g a => ?_
  refine h2 y1 y2 y3 q h' _ f (fun b hb => ?_) (DiskF.mk a)
  rcases Nat.lt_or_ge b h.size with h1 | h1
  · have e : col' b = 0 := g b h1
    omega
  · exact h1
end Go.Proofs.YtjdcbblgaoogmaaGreatDoor.Ad
namespace Go.Proofs.YtjdcbblgaoogmaaGreatDoor.Tm
open Go Go.Proofs Go.Proofs.YtjdcbblgaoogmaaGreatDoor.Wx Go.Proofs.YtjdcbblgaoogmaaGreatDoor.Hp Go.Proofs.YtjdcbblgaoogmaaGreatDoor.W Go.Proofs.YtjdcbblgaoogmaaGreatDoor.Ad
abbrev Txt := List UInt8
def aget {α : Type} : List (Int × α) → Int → Option α
  | [], _ => none
  | (k, v) :: r, x => bif x == k then some v else aget r x
def aput {α : Type} : List (Int × α) → Int → α → List (Int × α)
  | [], x, v => [(x, v)]
  | (k, u) :: r, x, v => bif x == k then (x, v) :: r else (k, u) :: aput r x v
def adel {α : Type} : List (Int × α) → Int → List (Int × α)
  | [], _ => []
  | (k, u) :: r, x => bif x == k then r else (k, u) :: adel r x
theorem aget_aput {α : Type} (v : α) (i j : Int) : ∀ m : List (Int × α), aget (aput m i v) j = if j = i then some v else aget m j
  | [] => by
    show (bif j == i then some v else none) = _
    by_cases h : j = i
    · rw [if_pos h, h, beq_self_eq_true]; rfl
    · rw [if_neg h, beq_eq_false_iff_ne.mpr h]; rfl
  | (k, u) :: r => by
    have ih := aget_aput v i j r
    show aget (bif i == k then (i, v) :: r else (k, u) :: aput r i v) j = if j = i then some v else (bif j == k then some u else aget r j)
    by_cases h : i = k
    · subst h
      rw [beq_self_eq_true]
      show (bif j == i then some v else aget r j) = _
      by_cases h2 : j = i
      · rw [if_pos h2, h2, beq_self_eq_true]; rfl
      · rw [if_neg h2, beq_eq_false_iff_ne.mpr h2]; rfl
    · rw [beq_eq_false_iff_ne.mpr h]
      show (bif j == k then some u else aget (aput r i v) j) = _
      rw [ih]
      by_cases h2 : j = k
      · have hn : ¬ j = i := fun e => h (e.symm.trans h2)
        rw [if_neg hn, if_neg hn, h2, beq_self_eq_true]
      · rw [beq_eq_false_iff_ne.mpr h2]; rfl
theorem aget_none {α : Type} {i : Int} : ∀ {m : List (Int × α)}, aget m i = none ↔ ∀ p ∈ m, p.1 ≠ i
  | [] => ⟨fun _ p hp => (by cases hp), fun _ => rfl⟩
  | (k, u) :: r => by
    show (bif i == k then some u else aget r i) = none ↔ _
    by_cases h : i = k
    · rw [h, beq_self_eq_true]
      exact ⟨fun x => (by cases x), fun x => absurd rfl (x (k, u) (List.mem_cons_self ..))⟩
    · rw [beq_eq_false_iff_ne.mpr h]
      show aget r i = none ↔ _
      rw [aget_none]
      refine ⟨fun x p hp => ?_, fun x p hp => x p (List.mem_cons_of_mem _ hp)⟩
      rcases List.mem_cons.mp hp with rfl | hp
      · exact fun e => h e.symm
      · exact x p hp
theorem aget_mem {α : Type} {i : Int} {v : α} : ∀ {m : List (Int × α)}, aget m i = some v → (i, v) ∈ m
  | [], h => by cases h
  | (k, u) :: r, h => by
    have h : (bif i == k then some u else aget r i) = some v := h
    by_cases e : i = k
    · rw [e, beq_self_eq_true] at h
      cases h
      rw [e]; exact List.mem_cons_self ..
    · rw [beq_eq_false_iff_ne.mpr e] at h
      exact List.mem_cons_of_mem _ (aget_mem h)
theorem aput_mem {α : Type} {i : Int} {v : α} {p : Int × α} : ∀ {m : List (Int × α)}, p ∈ aput m i v → p = (i, v) ∨ p ∈ m
  | [], h => .inl (List.mem_singleton.mp h)
  | (k, u) :: r, h => by
    have h : p ∈ (bif i == k then (i, v) :: r else (k, u) :: aput r i v) := h
    by_cases e : i = k
    · rw [e, beq_self_eq_true] at h
      rcases List.mem_cons.mp h with h | h
      · left; rw [h, e]
      · exact .inr (List.mem_cons_of_mem _ h)
    · rw [beq_eq_false_iff_ne.mpr e] at h
      rcases List.mem_cons.mp h with h | h
      · exact .inr (h ▸ List.mem_cons_self ..)
      · rcases aput_mem h with h | h
        · exact .inl h
        · exact .inr (List.mem_cons_of_mem _ h)
theorem adel_mem {α : Type} {i : Int} {p : Int × α} : ∀ {m : List (Int × α)}, p ∈ adel m i → p ∈ m
  | [], h => h
  | (k, u) :: r, h => by
    have h : p ∈ (bif i == k then r else (k, u) :: adel r i) := h
    by_cases e : i = k
    · rw [e, beq_self_eq_true] at h; exact List.mem_cons_of_mem _ h
    · rw [beq_eq_false_iff_ne.mpr e] at h
      rcases List.mem_cons.mp h with h | h
      · exact h ▸ List.mem_cons_self ..
      · exact List.mem_cons_of_mem _ (adel_mem h)
/-- a put that is undone: the same list again -/
theorem adel_aput {α : Type} {i : Int} {v : α} : ∀ {m : List (Int × α)}, aget m i = none → adel (aput m i v) i = m
  | [], _ => by show (bif i == i then [] else _) = _; rw [beq_self_eq_true]; rfl
  | (k, u) :: r, h => by
    have h : (bif i == k then some u else aget r i) = none := h
    by_cases e : i = k
    · rw [e, beq_self_eq_true] at h; cases h
    · rw [beq_eq_false_iff_ne.mpr e] at h
      show adel (bif i == k then (i, v) :: r else (k, u) :: aput r i v) i = _
      rw [beq_eq_false_iff_ne.mpr e]
      show (bif i == k then _ else (k, u) :: adel (aput r i v) i) = _
      rw [beq_eq_false_iff_ne.mpr e, adel_aput h]; rfl
theorem aput_aput {α : Type} {i : Int} {v w : α} : ∀ {m : List (Int × α)}, aget m i = some w → aput (aput m i v) i w = m
  | [], h => by cases h
  | (k, u) :: r, h => by
    have h : (bif i == k then some u else aget r i) = some w := h
    show aput (bif i == k then (i, v) :: r else (k, u) :: aput r i v) i w = _
    by_cases e : i = k
    · subst e
      rw [beq_self_eq_true] at h ⊢
      cases h
      show (bif i == i then (i, w) :: r else _) = _
      rw [beq_self_eq_true]; rfl
    · rw [beq_eq_false_iff_ne.mpr e] at h ⊢
      show (bif i == k then _ else (k, u) :: aput (aput r i v) i w) = _
      rw [beq_eq_false_iff_ne.mpr e, aput_aput h]; rfl
theorem aput_length {α : Type} {i : Int} {v : α} : ∀ {m : List (Int × α)}, (aput m i v).length = if aget m i = none then m.length + 1 else m.length
  | [] => rfl
  | (k, u) :: r => by
    have ih := aput_length (i := i) (v := v) (m := r)
    show (bif i == k then (i, v) :: r else (k, u) :: aput r i v).length = if (bif i == k then some u else aget r i) = none then _ else _
    by_cases e : i = k
    · rw [e, beq_self_eq_true]; rfl
    · rw [beq_eq_false_iff_ne.mpr e]
      show (aput r i v).length + 1 = if aget r i = none then r.length + 1 + 1 else r.length + 1
      rw [ih]; split <;> rfl
theorem aget_map {α β : Type} (f : α → β) (i : Int) : ∀ m : List (Int × α), aget (m.map fun p => (p.1, f p.2)) i = (aget m i).map f
  | [] => rfl
  | (k, u) :: r => by
    show (bif i == k then some (f u) else aget (r.map fun p => (p.1, f p.2)) i) = (bif i == k then some u else aget r i).map f
    rw [aget_map f i r]
    cases i == k <;> rfl
theorem aput_map {α β : Type} (f : α → β) (i : Int) (v : α) : ∀ m : List (Int × α), aput (m.map fun p => (p.1, f p.2)) i (f v) = (aput m i v).map fun p => (p.1, f p.2)
  | [] => rfl
  | (k, u) :: r => by
    show (bif i == k then (i, f v) :: r.map (fun p => (p.1, f p.2)) else (k, f u) :: aput (r.map fun p => (p.1, f p.2)) i (f v)) = (bif i == k then (i, v) :: r else (k, u) :: aput r i v).map fun p => (p.1, f p.2)
    rw [aput_map f i v r]
    cases i == k <;> rfl
theorem adel_map {α β : Type} (f : α → β) (i : Int) : ∀ m : List (Int × α), adel (m.map fun p => (p.1, f p.2)) i = (adel m i).map fun p => (p.1, f p.2)
  | [] => rfl
  | (k, u) :: r => by
    show (bif i == k then r.map (fun p => (p.1, f p.2)) else (k, f u) :: adel (r.map fun p => (p.1, f p.2)) i) = (bif i == k then r else (k, u) :: adel r i).map fun p => (p.1, f p.2)
    rw [adel_map f i r]
    cases i == k <;> rfl
/-- as the walk has them -/
def mm {α : Type} (f : α → Value) (m : List (Int × α)) : MapC := m.map fun p => (.i p.1, f p.2)
theorem mget_mm {α : Type} (f : α → Value) (i : Int) : ∀ m : List (Int × α), mget (mm f m) (.i i) = (aget m i).map f
  | [] => rfl
  | (k, u) :: r => by
    show (bif i == k then some (f u) else mget (mm f r) (.i i)) = (bif i == k then some u else aget r i).map f
    rw [mget_mm f i r]
    cases i == k <;> rfl
theorem mput_mm {α : Type} (f : α → Value) (i : Int) (v : α) : ∀ m : List (Int × α), mput (mm f m) (.i i) (f v) = mm f (aput m i v)
  | [] => rfl
  | (k, u) :: r => by
    show (bif i == k then (.i i, f v) :: mm f r else (.i k, f u) :: mput (mm f r) (.i i) (f v)) = mm f (bif i == k then (i, v) :: r else (k, u) :: aput r i v)
    rw [mput_mm f i v r]
    cases i == k <;> rfl
theorem mdel_mm {α : Type} (f : α → Value) (i : Int) : ∀ m : List (Int × α), mdel (mm f m) (.i i) = mm f (adel m i)
  | [] => rfl
  | (k, u) :: r => by
    show (bif i == k then mm f r else (.i k, f u) :: mdel (mm f r) (.i i)) = mm f (bif i == k then r else (k, u) :: adel r i)
    rw [mdel_mm f i r]
    cases i == k <;> rfl
theorem mm_length {α : Type} (f : α → Value) (m : List (Int × α)) : (mm f m).length = m.length := List.length_map ..
abbrev DI : D := .int .i64
theorem map_lt {d : D} {h : Heap} {r : Nat} {m : MapC} (a : MapAt d h r m) : r < h.size := by
  obtain ⟨es, ck, e, _⟩ := a
  exact (Array.getElem?_eq_some_iff.mp e).1
theorem map_fr {d : D} {h h' : Heap} {r : Nat} {m : MapC} {F : Nat → Prop} (a : MapAt d h r m) (f : Fr F h h') (hF : ¬ F r) : MapAt d h' r m := by
  have hl := map_lt a
  obtain ⟨es, ck, e, q⟩ := a
  exact ⟨es, ck, (f.same r hl hF).trans e, q⟩
theorem mapTo_fr {d : D} {h h' : Heap} {r : Nat} {m : MapC} (t : MapTo d h r m h') : Fr (fun b => b = r) h h' := ⟨by rw [t.size]; exact Nat.le_refl _, fun b _ hb => t.same b hb⟩
theorem newM_size (h : Heap) : (newM h).size = h.size + 1 := by simp [newM]
theorem newM_fr (h : Heap) : Fr No h (newM h) := ⟨by rw [newM_size]; omega, fun b hb _ => by simp only [newM]; rw [Array.getElem?_push, if_neg (by omega)]⟩
theorem newM_at (h : Heap) : MapAt DI (newM h) h.size [] := ⟨#[], 0, by simp [newM], rfl, (fun p hp => by cases hp), MapKept.stamped_empty 0⟩
/-- a transaction, plainly -/
structure TM where
  disk : RD
  put : List (Int × Txt)
  undo : List (Int × Option Txt)
  over : Bool
def TM.N (T : TM) : Nat := T.disk.lasts.length
/-- a block as the transaction has it -/
def TM.get (T : TM) (i : Int) : Txt × Int := match aget T.put i with
  | some b => (b, 0)
  | none => if T.disk.down = true then ([], 30) else (readAt T.disk i.toNat, 0)
theorem TM.get_some {T : TM} {i : Int} {b : Txt} (e : aget T.put i = some b) : T.get i = (b, 0) := by unfold TM.get; rw [e]
theorem TM.get_none {T : TM} {i : Int} (e : aget T.put i = none) : T.get i = if T.disk.down = true then ([], 30) else (readAt T.disk i.toNat, 0) := by unfold TM.get; rw [e]
/-- what Read answers -/
def TM.read (T : TM) (i : Int) : Txt × Int :=
  if T.over = true then ([], 61) else if i < 0 ∨ i ≥ T.N then ([], 31) else T.get i
/-- what Write answers -/
def TM.write (T : TM) (i : Int) (bs : Txt) : TM × Int :=
  if T.over = true then (T, 61) else if i < 98 ∨ i ≥ T.N then (T, 31) else if bs.length ≠ 512 then (T, 32) else if aget T.put i = none ∧ T.put.length ≥ 96 then (T, 60)
    else ({ T with put := aput T.put i bs, undo := T.undo ++ [(i, aget T.put i)] }, 0)
def TM.mark (T : TM) : Int × Int := if T.over = true then (0, 61) else (T.undo.length, 0)
/-- a put is undone -/
def undo1 (m : List (Int × Txt)) (u : Int × Option Txt) : List (Int × Txt) := match u.2 with
  | some b => aput m u.1 b
  | none => adel m u.1
def undoAll (m : List (Int × Txt)) (us : List (Int × Option Txt)) : List (Int × Txt) := us.foldr (fun u m => undo1 m u) m
def TM.back (T : TM) (mark : Int) : TM × Int :=
  if T.over = true then (T, 61) else if mark < 0 ∨ mark > T.undo.length then (T, 62)
    else ({ T with put := undoAll T.put (T.undo.drop mark.toNat), undo := T.undo.take mark.toNat }, 0)
/-- a slice -/
structure Sc where
  a : Option Addr
  l : Nat
  c : Nat
def Sc.v (s : Sc) : Value := .slice s.a s.l s.c
/-- a block of 512 bytes, of colour k -/
structure Blk (h : Heap) (col : Nat → Nat) (k : Nat) (x : Sc × Txt) : Prop where
  s : StrAt h x.1.a x.1.l x.2
  l : x.2.length = 512
  at_ : ∀ p, x.1.a = some p → p.block < h.size ∧ col p.block = k
theorem Blk.keep {h h' : Heap} {col col' : Nat → Nat} {k : Nat} {x : Sc × Txt} {F : Nat → Prop} (b : Blk h col k x) (f : Fr F h h') (g : Ag h.size col col') (hF : ∀ b, b < h.size → col b = k → ¬ F b) : Blk h' col' k x :=
  ⟨StrAt.fr f b.s fun p e => hF _ (b.at_ p e).1 (b.at_ p e).2, b.l, fun p e => ⟨Nat.lt_of_lt_of_le (b.at_ p e).1 f.size, (g _ (b.at_ p e).1).trans (b.at_ p e).2⟩⟩
/-- what undoes a put: the cells that it looks at -/
structure UR where
  i : Int
  was : Option (Sc × Txt)
  ok : Nat
  w : Nat
  tc : Nat
  ic : Nat
def UR.v (u : UR) : Value := .func (.func 157) #[] ⟨[.pointer (some ⟨u.ok, 0, none⟩), .pointer (some ⟨u.w, 0, none⟩), .pointer (some ⟨u.tc, 0, none⟩), .pointer (some ⟨u.ic, 0, none⟩)]⟩
def wasV (w : Option (Sc × Txt)) : Value := match w with
  | some x => x.1.v
  | none => .slice none 0 0
structure Und (h : Heap) (col : Nat → Nat) (tb : Nat) (u : UR) : Prop where
  ok : rd h u.ok = [.bool u.was.isSome]
  w : rd h u.w = [wasV u.was]
  tc : rd h u.tc = [.pointer (some ⟨tb, 0, none⟩)]
  ic : rd h u.ic = [.int .i64 u.i]
  at_ : ∀ b, b = u.ok ∨ b = u.w ∨ b = u.tc ∨ b = u.ic → b < h.size ∧ col b = 4
  b : ∀ x, u.was = some x → Blk h col 4 x
theorem Und.keep {h h' : Heap} {col col' : Nat → Nat} {tb : Nat} {u : UR} {F : Nat → Prop} (a : Und h col tb u) (f : Fr F h h') (g : Ag h.size col col') (hF : ∀ b, b < h.size → col b = 4 → ¬ F b) : Und h' col' tb u := by
  have k : ∀ b, b = u.ok ∨ b = u.w ∨ b = u.tc ∨ b = u.ic → rd h' b = rd h b := fun b hb => f.rd (a.at_ b hb).1 (hF b (a.at_ b hb).1 (a.at_ b hb).2)
  exact ⟨(k _ (by simp)).trans a.ok, (k _ (by simp)).trans a.w, (k _ (by simp)).trans a.tc, (k _ (by simp)).trans a.ic, fun b hb => ⟨Nat.lt_of_lt_of_le (a.at_ b hb).1 f.size, (g _ (a.at_ b hb).1).trans (a.at_ b hb).2⟩, fun x e => (a.b x e).keep f g hF⟩
/-- the cells of a transaction -/
structure TR where
  tb : Nat
  mb : Nat
  ua : Option Addr
  uc : Nat
  ps : List (Int × (Sc × Txt))
  us : List UR
structure TxC (h : Heap) (col : Nat → Nat) (d : Option Addr) (r : TR) (T : TM) : Prop where
  nrm : ∀ b, h.size ≤ b → col b = 0
  sc : col r.tb = 1
  own : Own h r.tb
  cell : rd h r.tb = [.pointer d, .map (some r.mb), .slice r.ua r.us.length r.uc, .bool false]
  mc : col r.mb = 2
  map : MapAt DI h r.mb (mm (fun x => x.1.v) r.ps)
  un : Sl h 1 r.ua r.us.length r.uc (r.us.map UR.v) (On col 3)
  pok : ∀ p ∈ r.ps, Blk h col 4 p.2
  uok : ∀ u ∈ r.us, Und h col r.tb u
  put : T.put = r.ps.map fun p => (p.1, p.2.2)
  undo : T.undo = r.us.map fun u => (u.i, u.was.map (·.2))
  live : T.over = false
  dk : DiskF h (fun b => col b = 5) d T.disk
  pk : ∀ p ∈ T.put, 98 ≤ p.1 ∧ p.1 < T.N
  ui : ∀ u ∈ r.us, 98 ≤ u.i ∧ u.i < T.N
/-- a transaction that is over -/
structure TxO (h : Heap) (col : Nat → Nat) (d : Option Addr) (tb : Nat) (T : TM) : Prop where
  nrm : ∀ b, h.size ≤ b → col b = 0
  sc : col tb = 1
  own : Own h tb
  cell : rd h tb = [.pointer d, .map none, .slice none 0 0, .bool true]
  gone : T.put = [] ∧ T.undo = []
  over : T.over = true
  dk : DiskF h (fun b => col b = 5) d T.disk
/-- a transaction at t over the disk at d, standing on the blocks F -/
def Tx (h : Heap) (F : Nat → Prop) (t d : Option Addr) (T : TM) : Prop :=
  (∃ col r, t = some ⟨r.tb, 0, none⟩ ∧ TxC h col d r T ∧ ∀ b, F b ↔ 1 ≤ col b ∧ col b ≤ 5) ∨ (∃ col tb, t = some ⟨tb, 0, none⟩ ∧ TxO h col d tb T ∧ ∀ b, F b ↔ 1 ≤ col b ∧ col b ≤ 5)
theorem TxC.keep {h h' : Heap} {col col' : Nat → Nat} {d : Option Addr} {r : TR} {T : TM} {F : Nat → Prop} (t : TxC h col d r T) (f : Fr F h h') (g : Ag h.size col col') (hz : ∀ b, h'.size ≤ b → col' b = 0) (hn : ∀ b, h.size ≤ b → ¬ (1 ≤ col' b ∧ col' b ≤ 5)) (hF : ∀ b, b < h.size → 1 ≤ col b → col b ≤ 5 → ¬ F b) : TxC h' col' d r T := by
  have hl := t.own.lt
  have s1 := t.sc
  have s2 := t.mc
  have ml := map_lt t.map
  have k4 : ∀ b, b < h.size → col b = 4 → ¬ F b := fun b hb e => hF b hb (by omega) (by omega)
  refine ⟨hz, (g _ hl).trans s1, f.own hl (hF _ hl (by omega) (by omega)) t.own, (f.rd hl (hF _ hl (by omega) (by omega))).trans t.cell, (g _ ml).trans s2, map_fr t.map f (hF _ ml (by omega) (by omega)), ?_,
    fun p hp => (t.pok p hp).keep f g k4, fun u hu => (t.uok u hu).keep f g k4, t.put, t.undo, t.live, ?_, t.pk, t.ui⟩
  · have s' := Hp.Sl.fr f t.un (fun b hb hk => hF b hb (by have hk : col b = 3 := hk; omega) (by have hk : col b = 3 := hk; omega))
    obtain ⟨h1, h2⟩ := s'
    refine ⟨h1, ?_⟩
    have ul := t.un
    revert h2 ul
    cases r.ua with
    | none => intro h2 _; exact h2
    | some p => intro h2 ul; obtain ⟨a1, a2, a3, a4⟩ := h2; exact ⟨a1, (g _ ul.lt).trans a2, a3, a4⟩
  · refine (t.dk.fr f fun b hb => hF b (t.dk.lt hb) (by have hb : col b = 5 := hb; omega) (by have hb : col b = 5 := hb; omega)).iff fun b => ?_
    rcases Nat.lt_or_ge b h.size with h1 | h1
    · show col' b = 5 ↔ col b = 5; rw [g b h1]
    · have := hn b h1
      have := t.nrm b h1
      show col' b = 5 ↔ col b = 5
      omega
theorem TxO.keep {h h' : Heap} {col : Nat → Nat} {d : Option Addr} {tb : Nat} {T : TM} {F : Nat → Prop} (t : TxO h col d tb T) (f : Fr F h h') (hF : ∀ b, b < h.size → 1 ≤ col b → col b ≤ 5 → ¬ F b) : TxO h' col d tb T := by
  have hl := t.own.lt
  have s1 := t.sc
  have hs := f.size
  exact ⟨fun b hb => t.nrm b (by omega), s1, f.own hl (hF _ hl (by omega) (by omega)) t.own, (f.rd hl (hF _ hl (by omega) (by omega))).trans t.cell, t.gone, t.over,
    t.dk.fr f fun b hb => hF b (t.dk.lt hb) (by have hb : col b = 5 := hb; omega) (by have hb : col b = 5 := hb; omega)⟩
theorem Tx.lt {h : Heap} {F : Nat → Prop} {t d : Option Addr} {T : TM} (x : Tx h F t d T) {b : Nat} (hb : F b) : b < h.size := by
  rcases Nat.lt_or_ge b h.size with h1 | h1
  · exact h1
  · exfalso
    rcases x with ⟨col, r, _, c, hF⟩ | ⟨col, tb, _, c, hF⟩
    · have := (hF b).mp hb; rw [c.nrm b h1] at this; omega
    · have := (hF b).mp hb; rw [c.nrm b h1] at this; omega
theorem Tx.fr {h h' : Heap} {F G : Nat → Prop} {t d : Option Addr} {T : TM} (x : Tx h F t d T) (f : Fr G h h') (hG : ∀ b, F b → ¬ G b) : Tx h' F t d T := by
  have hs := f.size
  rcases x with ⟨col, r, e, c, hF⟩ | ⟨col, tb, e, c, hF⟩
  · exact .inl ⟨col, r, e, c.keep f (Ag.refl _ _) (fun b hb => c.nrm b (by omega)) (fun b hb y => by rw [c.nrm b hb] at y; omega) fun b _ h1 h2 => hG b ((hF b).mpr ⟨h1, h2⟩), hF⟩
  · exact .inr ⟨col, tb, e, c.keep f fun b _ h1 h2 => hG b ((hF b).mpr ⟨h1, h2⟩), hF⟩
theorem Tx.no {h h' : Heap} {F : Nat → Prop} {t d : Option Addr} {T : TM} (x : Tx h F t d T) (f : Fr No h h') : Tx h' F t d T := x.fr f fun _ _ y => y
/-- a row, cut short, with its room -/
theorem sl_take {h : Heap} {l c m : Nat} {a : Option Addr} {xs : List Value} {F : Nat → Prop} (s : Sl h 1 a l c xs F) (hm : m ≤ l) : Sl h 1 a m c (xs.take m) F := by
  cases a with
  | none =>
    obtain ⟨h1, h2, h3⟩ := s
    have : m = 0 := by omega
    subst this
    exact ⟨rfl, rfl, h3⟩
  | some p =>
    obtain ⟨h1, a1, a2, a3, a4, a5, a6⟩ := s
    rw [Nat.mul_one] at h1
    refine ⟨by rw [List.length_take]; omega, a1, a2, a3, by omega, ?_, by rw [Nat.mul_one] at a6 ⊢; omega⟩
    rw [List.length_take, h1, Nat.min_eq_left hm]
    conv => rhs; rw [← a5]
    rw [List.take_take, h1, Nat.min_eq_left hm]
/-- its disk -/
theorem Tx.dk {h : Heap} {F : Nat → Prop} {t d : Option Addr} {T : TM} (x : Tx h F t d T) : ∃ D, DiskF h D d T.disk ∧ ∀ b, D b → F b := by
  rcases x with ⟨col, r, e, c, hF⟩ | ⟨col, tb, e, c, hF⟩
  · exact ⟨_, c.dk, fun b hb => (hF b).mpr (by have hb : col b = 5 := hb; omega)⟩
  · exact ⟨_, c.dk, fun b hb => (hF b).mpr (by have hb : col b = 5 := hb; omega)⟩
end Go.Proofs.YtjdcbblgaoogmaaGreatDoor.Tm
namespace Go.Proofs.YtjdcbblgaoogmaaGreatDoor.Tm
open Go Go.Proofs Go.Proofs.YtjdcbblgaoogmaaGreatDoor.Wx Go.Proofs.YtjdcbblgaoogmaaGreatDoor.Hp Go.Proofs.YtjdcbblgaoogmaaGreatDoor.W Go.Proofs.YtjdcbblgaoogmaaGreatDoor.Ad
theorem oe {α : Type} {a : Option α} {p : α} {k : α → Prop} (e : a = some p) (h : k p) : onSome a k := by rw [e]; exact h
theorem pick_col (D : Nat → Prop) (x y : Nat) : ∃ c : Nat → Nat, (∀ b, D b → c b = x) ∧ ∀ b, ¬ D b → c b = y :=
  ⟨fun b => @ite _ (D b) (Classical.propDecidable _) x y, fun b h => if_pos h, fun b h => if_neg h⟩
theorem Begin_spec {h : Heap} {D : Nat → Prop} {d : Option Addr} {S : RD} {K : Value → Heap → Prop} (a : DiskF h D d S)
    (hK : ∀ tb h' F, Fr No h h' → Gw h D h' F → Tx h' F (some ⟨tb, 0, none⟩) d ⟨S, [], [], false⟩ → K (.pointer (some ⟨tb, 0, none⟩)) h') : C.txn_Begin d h K := by
  refine txn_Begin.ok ?_
  show New _ _ (newM h) _
  refine New.intro fun h3 n3 => ?_
  have sm := newM_size h
  have s3 := n3.size
  have F := (newM_fr h).new n3
  have e := n3.rd
  have o := n3.own
  rw [sm] at e o ⊢
  obtain ⟨c, c1, c2⟩ := pick_col D 5 0
  have hlt : ∀ b, D b → b < h.size := fun b hb => a.lt hb
  have cz : ∀ b, h.size ≤ b → c b = 0 := fun b hb => c2 b fun x => by have := hlt b x; omega
  have cr : ∀ b, 1 ≤ c b → D b := fun b x => by
    by_cases hd : D b
    · exact hd
    · rw [c2 b hd] at x; omega
  have cd : ∀ b, c b = 5 ↔ D b := fun b => ⟨fun x => cr b (by omega), c1 b⟩
  obtain ⟨col, k1, k2, k3⟩ : ∃ col : Nat → Nat, (∀ b, b ≠ h.size → b ≠ h.size + 1 → col b = c b) ∧ col h.size = 2 ∧ col (h.size + 1) = 1 :=
    ⟨fun b => if b = h.size then 2 else if b = h.size + 1 then 1 else c b, fun b x y => by show (if _ then _ else if _ then _ else _) = _; rw [if_neg x, if_neg y], if_pos rfl, by show (if _ then _ else if _ then _ else _) = _; rw [if_neg (by omega), if_pos rfl]⟩
  refine hK (h.size + 1) h3 (fun b => 1 ≤ col b ∧ col b ≤ 5) F ⟨fun b hb => ?_, fun b hb => ?_⟩ (.inl ⟨col, ⟨h.size + 1, h.size, none, 0, [], []⟩, rfl, ⟨fun b hb => ?_, k3, o, e, k2, map_fr (newM_at h) n3.fr fun x => x, Sl.nil _ _ _, fun p hp => (by cases hp), fun u hu => (by cases hu), rfl, rfl, rfl, ?_, fun p hp => (by cases hp), fun u hu => (by cases hu)⟩, fun b => Iff.rfl⟩)
  · show 1 ≤ col b ∧ col b ≤ 5 ↔ D b
    rw [k1 b (by omega) (by omega)]
    exact ⟨fun x => cr b x.1, fun x => by rw [c1 b x]; omega⟩
  · have hb : 1 ≤ col b ∧ col b ≤ 5 := hb
    by_cases x : b = h.size
    · omega
    · by_cases y : b = h.size + 1
      · omega
      · rw [k1 b x y] at hb
        have := hlt b (cr b hb.1); omega
  · rw [k1 b (by omega) (by omega)]; exact cz b (by omega)
  · refine (a.no F).iff fun b => ?_
    show col b = 5 ↔ D b
    by_cases x : b = h.size
    · subst x
      rw [k2]; exact ⟨fun x => (by omega), fun x => by have := hlt _ x; omega⟩
    · by_cases y : b = h.size + 1
      · subst y
        rw [k3]; exact ⟨fun x => (by omega), fun x => by have := hlt _ x; omega⟩
      · rw [k1 b x y]; exact cd b
theorem Clone_any {a : Option Addr} {l c : Nat} {bs : List UInt8} {h : Heap} {K : Value → Heap → Prop} (B : StrAt h a l bs) (hl : l ≤ 140737488355328)
    (hK : ∀ a' c' h', Fr No h h' → Sl h' 1 a' l c' (bs.map bv) (From h.size) → K (.slice a' l c') h') : C.slices_Clone_byte_byte a l c h K := Clone_spec B hl hK
theorem Read_spec {h : Heap} {F : Nat → Prop} {t d : Option Addr} {T : TM} {i : Int} {K : Value → Heap → Prop} (x : Tx h F t d T)
    (hK : ∀ a l c h', Fr No h h' → l = (T.read i).1.length → Sl h' 1 a l c ((T.read i).1.map bv) (From h.size) → K (.tuple #[.slice a l c, .int .i64 (T.read i).2]) h') : C.txn_Txn_Read t i h K := by
  rcases x with ⟨col, r, rfl, c, hF⟩ | ⟨col, tb, rfl, c, hF⟩
  · refine txn_Txn_Read.ok (os ⟨_, rda c.cell rfl, cf rfl ?_⟩)
    have e0 : T.read i = if i < 0 ∨ i ≥ T.N then ([], 31) else T.get i := by
      unfold TM.read; rw [c.live, if_neg (by simp)]
    have bad : (i < 0 ∨ i ≥ T.N) → K (.tuple #[.slice none 0 0, .int .i64 31]) h := fun hb => by
      rw [e0, if_pos hb] at hK
      exact hK none 0 0 h (Fr.refl _ _) rfl (Sl.nil _ _ _)
    refine cd (fun hn => bad (.inl hn)) fun h0 => os ⟨_, rda c.cell rfl, c.dk.blocks ⟨_, rfl, cd (fun hn => bad (.inr hn)) fun h1 => ?_⟩⟩
    have e1 : ¬ (i < 0 ∨ i ≥ T.N) := by
      rintro (x | x)
      · exact h0 x
      · exact h1 x
    rw [e0, if_neg e1] at hK
    unfold txn_Txn_Read.k1
    refine os ⟨_, rda c.cell rfl, _, c.map, ?_⟩
    dsimp only
    rw [mget_mm]
    have eput : aget T.put i = (aget r.ps i).map (·.2) := by rw [c.put]; exact aget_map (fun x : Sc × Txt => x.2) i r.ps
    cases e : aget r.ps i with
    | none =>
      rw [TM.get_none (by rw [eput, e]; rfl)] at hK
      refine ⟨none, 0, 0, rfl, cf rfl (os ⟨_, rda c.cell rfl, c.dk.read (fun hd => ?_) (fun _ hno => absurd ⟨by omega, by have : ¬ i ≥ (T.N : Int) := h1; have e : T.N = T.disk.lasts.length := rfl; omega⟩ hno) fun hd _ _ b h' f s hl => ?_⟩)⟩
      · rw [if_pos hd] at hK
        exact ⟨_, _, _, _, rfl, hK none 0 0 h (Fr.refl _ _) rfl (Sl.nil _ _ _)⟩
      · rw [if_neg (by rw [hd]; simp)] at hK
        exact ⟨_, _, _, _, rfl, hK _ 512 512 h' f hl.symm s⟩
    | some x =>
      rw [TM.get_some (b := x.2) (by rw [eput, e]; rfl)] at hK
      have B := c.pok _ (aget_mem e)
      have B : Blk h col 4 x := B
      have hl : x.1.l = 512 := by rw [← B.s.1]; exact B.l
      refine ⟨x.1.a, x.1.l, x.1.c, rfl, ct rfl (Clone_any B.s (by omega) fun a' c' h' f s => ⟨_, _, _, rfl, ?_⟩)⟩
      exact hK a' x.1.l c' h' f B.s.1.symm s
  · refine txn_Txn_Read.ok (os ⟨_, rda c.cell rfl, ct rfl ?_⟩)
    have e0 : T.read i = ([], 61) := by unfold TM.read; rw [c.over, if_pos rfl]
    rw [e0] at hK
    exact hK none 0 0 h (Fr.refl _ _) rfl (Sl.nil _ _ _)
theorem Mark_spec {h : Heap} {F : Nat → Prop} {t d : Option Addr} {T : TM} {K : Value → Heap → Prop} (x : Tx h F t d T) (hK : K (.tuple #[.int .i64 T.mark.1, .int .i64 T.mark.2]) h) : C.txn_Txn_Mark t h K := by
  rcases x with ⟨col, r, rfl, c, hF⟩ | ⟨col, tb, rfl, c, hF⟩
  · refine txn_Txn_Mark.ok (os ⟨_, rda c.cell rfl, cf rfl (os ⟨_, _, _, rda c.cell rfl, ?_⟩)⟩)
    have : T.mark = ((r.us.length : Int), 0) := by unfold TM.mark; rw [c.live, if_neg (by simp), c.undo, List.length_map]
    rw [this] at hK; exact hK
  · refine txn_Txn_Mark.ok (os ⟨_, rda c.cell rfl, ct rfl ?_⟩)
    have : T.mark = (0, 61) := by unfold TM.mark; rw [c.over, if_pos rfl]
    rw [this] at hK; exact hK
/-- Write, up to its questions: the cells that its closure will look at -/
theorem Write_pre {h : Heap} {tb : Nat} {i : Int} {a : Option Addr} {l c : Nat} {m1 : Option Nat} {W : MapC} {sA : Option Addr} {sL sC : Nat} {K : Value → Heap → Prop}
    (hc : ∀ hq, Fr No h hq → cellOf hq (Addr.add ⟨tb, 0, none⟩ 1) = some (.map m1)) (hM : ∀ hq (K' : MapC → Prop), Fr No h hq → K' W → MapIn DI m1 hq K') (hs : Option.getD (mget W (.i i)) (zeroV ti37) = .slice sA sL sC)
    (fin : ∀ (h2 : Heap) h7 wb ob, h2.size = h.size + 1 → Fr No h h7 → h.size + 2 ≤ wb → h.size + 2 ≤ ob → wb < h7.size → ob < h7.size → wb ≠ ob → rd h7 h.size = [.pointer (some ⟨tb, 0, none⟩)] → rd h7 (h.size + 1) = [.int .i64 i] →
      rd h7 wb = [.slice sA sL sC] → rd h7 ob = [.bool (mget W (.i i)).isSome] → txn_Txn_Write.k1 a l c h h2 (some ⟨wb, 0, none⟩) (some ⟨ob, 0, none⟩) h7 K) : C.txn_Txn_Write (some ⟨tb, 0, none⟩) i a l c h K := by
  refine txn_Txn_Write.ok (New.intro fun h2 n2 => New.intro fun h3 n3 => ?_)
  have s2 := n2.size
  have s3 := n3.size
  have F3 := n2.fr.new n3
  have r1 : rd h3 h.size = [.pointer (some ⟨tb, 0, none⟩)] := (n3.at_ (by omega)).trans n2.rd
  have r2 : rd h3 h2.size = [.int .i64 i] := n3.rd
  refine ⟨_, rdc r1 rfl, os ⟨_, hc h3 F3, _, rdc r2 rfl, ?_⟩⟩
  have C1 : ∀ {hq : Heap}, Fr No h3 hq → cellOf hq ⟨h.size, 0, none⟩ = some (.pointer (some ⟨tb, 0, none⟩)) := fun fq => rdc ((fq.rd (by omega) fun x => x).trans r1) rfl
  have C2 : ∀ {hq : Heap}, Fr No h3 hq → cellOf hq (Addr.add ⟨tb, 0, none⟩ 1) = some (.map m1) := fun fq => hc _ (F3.no fq)
  have C3 : ∀ {hq : Heap}, Fr No h3 hq → cellOf hq ⟨h2.size, 0, none⟩ = some (.int .i64 i) := fun fq => rdc ((fq.rd (by omega) fun x => x).trans r2) rfl
  have M : ∀ {hq : Heap} {K' : MapC → Prop}, Fr No h3 hq → K' W → MapIn DI m1 hq K' := fun fq k => hM _ _ (F3.no fq) k
  -- two new blocks, written: then the rest
  have fin1 : ∀ {hq : Heap} {wb ob : Nat} {zw zo : Value}, Fr No h3 hq → wb ≠ ob → h3.size ≤ wb → h3.size ≤ ob → Own hq wb → Own hq ob → rd hq wb = [zw] → rd hq ob = [zo] →
      Put ⟨wb, 0, none⟩ (.slice sA sL sC) hq fun h6 => Put ⟨ob, 0, none⟩ (.bool (Option.isSome (mget W (.i i)))) h6 fun h7 => txn_Txn_Write.k1 a l c h h2 (some ⟨wb, 0, none⟩) (some ⟨ob, 0, none⟩) h7 K := by
    intro hq wb ob zw zo fq hne hw ho ow oo rw' ro'
    refine Put.intro ow (by rw [rw']; exact Nat.one_pos) fun h6 d6 => ?_
    have ro6 : rd h6 ob = [zo] := (d6.at_ oo.lt (fun e => hne e.symm)).trans ro'
    refine Put.intro (d6.ow oo) (by rw [ro6]; exact Nat.one_pos) fun h7 d7 => ?_
    have F7 : Fr No h h7 := ((F3.no fq).did d6 fun hlt => by omega).did d7 fun hlt => by omega
    have F7' : Fr No h3 h7 := (fq.did d6 fun hlt => by omega).did d7 fun hlt => by omega
    have z7 := F7'.size
    have z6 := d6.size
    have z7' := d7.size
    have lo := oo.lt
    have lw := ow.lt
    exact fin h2 h7 wb ob s2 F7 (by omega) (by omega) (by omega) (by omega) hne ((F7'.rd (by omega) fun x => x).trans r1) (by rw [← s2]; exact (F7'.rd (by omega) fun x => x).trans r2)
      ((d7.at_ (by omega) hne).trans (by rw [d6.rd, rw']; rfl)) (by rw [d7.rd, ro6]; rfl)
  have fin2 : ∀ {hq hr hs : Heap} {v1 v2 : Value}, Fr No h3 hq → Newly hq hr [v1] → Newly hr hs [v2] → 
      (Put ⟨hq.size, 0, none⟩ (.slice sA sL sC) hs fun h6 => Put ⟨hr.size, 0, none⟩ (.bool (Option.isSome (mget W (.i i)))) h6 fun h7 => txn_Txn_Write.k1 a l c h h2 (some ⟨hq.size, 0, none⟩) (some ⟨hr.size, 0, none⟩) h7 K) ∧
      (Put ⟨hr.size, 0, none⟩ (.slice sA sL sC) hs fun h6 => Put ⟨hq.size, 0, none⟩ (.bool (Option.isSome (mget W (.i i)))) h6 fun h7 => txn_Txn_Write.k1 a l c h h2 (some ⟨hr.size, 0, none⟩) (some ⟨hq.size, 0, none⟩) h7 K) := by
    intro hq hr hs v1 v2 fq n1 n2'
    have z1 := n1.size
    have z2 := n2'.size
    have zq := fq.size
    have g : rd hs hq.size = [v1] := (n2'.at_ (by omega)).trans n1.rd
    exact ⟨fin1 ((fq.new n1).new n2') (by omega) (by omega) (by omega) (n2'.ow n1.own) n2'.own g n2'.rd, fin1 ((fq.new n1).new n2') (by omega) (by omega) (by omega) n2'.own (n2'.ow n1.own) n2'.rd g⟩
  refine ⟨M (Fr.refl _ _) ⟨_, _, _, hs, New.intro fun h4 n4 => ⟨C1 n4.fr, C2 n4.fr, C3 n4.fr, New.intro fun h5 n5 => ⟨C1 (n4.fr.new n5), C2 (n4.fr.new n5), C3 (n4.fr.new n5), (fin2 (Fr.refl _ _) n4 n5).1⟩⟩,
    New.intro fun h4 n4 => ⟨C1 n4.fr, C2 n4.fr, C3 n4.fr, New.intro fun h5 n5 => ⟨C1 (n4.fr.new n5), C2 (n4.fr.new n5), C3 (n4.fr.new n5), (fin2 (Fr.refl _ _) n4 n5).2⟩⟩⟩,
    New.intro fun h4 n4 => ⟨C1 n4.fr, C2 n4.fr, C3 n4.fr, M n4.fr ⟨_, _, _, hs, New.intro fun h5 n5 => ⟨C1 (n4.fr.new n5), C2 (n4.fr.new n5), C3 (n4.fr.new n5), (fin2 (Fr.refl _ _) n4 n5).1⟩⟩,
      New.intro fun h5 n5 => ⟨C1 (n4.fr.new n5), C2 (n4.fr.new n5), C3 (n4.fr.new n5), M (n4.fr.new n5) ⟨_, _, _, hs, (fin2 (Fr.refl _ _) n4 n5).1⟩⟩⟩,
    New.intro fun h4 n4 => ⟨C1 n4.fr, C2 n4.fr, C3 n4.fr, M n4.fr ⟨_, _, _, hs, New.intro fun h5 n5 => ⟨C1 (n4.fr.new n5), C2 (n4.fr.new n5), C3 (n4.fr.new n5), (fin2 (Fr.refl _ _) n4 n5).2⟩⟩,
      New.intro fun h5 n5 => ⟨C1 (n4.fr.new n5), C2 (n4.fr.new n5), C3 (n4.fr.new n5), M (n4.fr.new n5) ⟨_, _, _, hs, (fin2 (Fr.refl _ _) n4 n5).2⟩⟩⟩⟩
theorem tl {c : Bool} {A B : Prop} (b : B) (a : c = true → B → A) : bif c then A else B := by
  cases c with
  | false => exact b
  | true => exact a rfl b
theorem Write_spec {h : Heap} {F : Nat → Prop} {t d : Option Addr} {T : TM} {i : Int} {a : Option Addr} {l c : Nat} {bs : Txt} {K : Value → Heap → Prop} (x : Tx h F t d T) (B : StrAt h a l bs) (hl : l ≤ 140737488355328) (ha : ∀ p, a = some p → ¬ F p.block) (hu : T.undo.length < 1000000000)
    (hK : ∀ h' F', Fr F h h' → Gw h F h' F' → Tx h' F' t d (T.write i bs).1 → K (.int .i64 (T.write i bs).2) h') : C.txn_Txn_Write t i a l c h K := by
  have hbl := B.1
  have hlt := fun b hb => x.lt (b := b) hb
  rcases x with ⟨col, r, rfl, X, hF⟩ | ⟨col, tb, rfl, X, hF⟩
  rotate_left
  · refine Write_pre (m1 := none) (W := []) (sA := none) (sL := 0) (sC := 0) (fun hq f => rda ((f.rd X.own.lt fun x => x).trans X.cell) rfl) (fun hq K' _ k => k) rfl fun h2 h7 wb ob _ f7 w1 o1 w2 o2 _ r1 _ _ _ => ?_
    have e0 : T.write i bs = (T, 61) := by unfold TM.write; rw [X.over, if_pos rfl]
    rw [e0] at hK
    have X7 := X.keep f7 fun _ _ _ _ x => x
    refine ⟨_, rdc r1 rfl, os ⟨_, rda X7.cell rfl, ct rfl ?_⟩⟩
    exact hK h7 F (f7.mono fun _ _ x => x.elim) (Gw.refl f7.size hlt) (.inr ⟨col, tb, rfl, X7, hF⟩)
  · have eput : aget T.put i = (aget r.ps i).map (·.2) := by rw [X.put]; exact aget_map (fun x : Sc × Txt => x.2) i r.ps
    have elen : T.put.length = r.ps.length := by rw [X.put, List.length_map]
    have eul : T.undo.length = r.us.length := by rw [X.undo, List.length_map]
    obtain ⟨sA, sL, sC, esl⟩ : ∃ (sA : Option Addr) (sL : Nat) (sC : Nat), wasV (aget r.ps i) = .slice sA sL sC := by
      cases aget r.ps i with
      | none => exact ⟨_, _, _, rfl⟩
      | some x => exact ⟨_, _, _, rfl⟩
    have esl2 : Option.getD (mget (mm (fun x : Sc × Txt => x.1.v) r.ps) (.i i)) (zeroV ti37) = .slice sA sL sC := by
      rw [mget_mm, ← esl]
      cases aget r.ps i <;> rfl
    refine Write_pre (m1 := some r.mb) (W := mm (fun x => x.1.v) r.ps) (fun hq f => rda ((f.rd X.own.lt fun x => x).trans X.cell) rfl) (fun hq K' f k => ⟨_, map_fr X.map f fun x => x, k⟩) esl2 fun h2 h8 wb ob s2 f w1 o1 w2 o2 hne r1 r2 rw' ro => ?_
    have eis : (mget (mm (fun x : Sc × Txt => x.1.v) r.ps) (.i i)).isSome = (aget r.ps i).isSome := by rw [mget_mm]; cases aget r.ps i <;> rfl
    rw [eis] at ro
    have X8 : TxC h8 col d r T := X.keep f (Ag.refl _ _) (fun b hb => X.nrm b (by have := f.size; omega)) (fun b hb y => by rw [X.nrm b hb] at y; omega) fun _ _ _ _ x => x
    have refuse : ∀ e h9, h9 = h8 → T.write i bs = (T, e) → K (.int .i64 e) h9 := fun e h9 e9 e0 => by
      subst e9
      rw [e0] at hK
      exact hK h9 F (f.mono fun _ _ x => x.elim) (Gw.refl f.size hlt) (.inl ⟨col, r, rfl, X8, hF⟩)
    have live := X.live
    have fs := f.size
    have tbl := X.own.lt
    have mbl := map_lt X.map
    have ctb := X.sc
    have cmb := X.mc
    rw [← s2] at r2
    refine ⟨_, rdc r1 rfl, os ⟨_, rda X8.cell rfl, cf rfl ⟨_, rdc r2 rfl, cd (fun hn => refuse 31 h8 rfl ?_) fun h98 => ⟨_, rdc r2 rfl, _, rdc r1 rfl, os ⟨_, rda X8.cell rfl, X8.dk.blocks ⟨_, rfl, rdc r2 rfl, cd (fun hn => refuse 31 h8 rfl ?_) fun hN => cn (fun h5 => refuse 32 h8 rfl ?_) fun h5 => ?_⟩⟩⟩⟩⟩⟩
    · unfold TM.write; rw [live, if_neg (by simp), if_pos (.inl hn)]
    · unfold TM.write; rw [live, if_neg (by simp), if_pos (.inr hn)]
    · unfold TM.write; rw [live, if_neg (by simp), if_neg (by rintro (x | x); exact h98 x; exact hN x), if_pos (by omega)]
    have hnot : ¬ (i < 98 ∨ i ≥ T.N) := by rintro (x | x); exact h98 x; exact hN x
    have h5' : bs.length = 512 := by omega
    refine os ⟨_, rdc ro rfl, ?_⟩
    by_cases hbig : aget r.ps i = none ∧ r.ps.length ≥ 96
    · refine ct (by rw [hbig.1]; rfl) ⟨_, rdc r1 rfl, os ⟨_, rda X8.cell rfl, _, X8.map, ?_⟩⟩
      dsimp only
      rw [mm_length]
      refine ct (decide_eq_true (by omega)) (refuse 60 h8 rfl ?_)
      unfold TM.write; rw [live, if_neg (by simp), if_neg hnot, if_neg (by omega), if_pos ⟨by rw [eput, hbig.1]; rfl, by omega⟩]
    have e0 : T.write i bs = ({ T with put := aput T.put i bs, undo := T.undo ++ [(i, aget T.put i)] }, 0) := by
      unfold TM.write; rw [live, if_neg (by simp), if_neg hnot, if_neg (by omega), if_neg]
      rw [eput, elen]
      rintro ⟨x1, x2⟩
      refine hbig ⟨?_, x2⟩
      cases e : aget r.ps i with
      | none => rfl
      | some y => rw [e] at x1; cases x1
    rw [e0] at hK
    refine tl ?_ fun ho go => ?_
    rotate_left
    · have hnone : aget r.ps i = none := by
        cases e : aget r.ps i with
        | none => rfl
        | some x => rw [e] at ho; cases ho
      refine ⟨_, rdc r1 rfl, os ⟨_, rda X8.cell rfl, _, X8.map, ?_⟩⟩
      dsimp only
      rw [mm_length]
      exact cf (decide_eq_false fun hx => hbig ⟨hnone, by omega⟩) go
    -- the put
    have k1 : ∀ {b : Nat}, b < h.size → col b ≠ 3 → ¬ On col 3 b := fun _ hb x => hb x
    refine ⟨_, rdc r1 rfl, _, rdc r1 rfl, os ⟨_, _, _, rda X8.cell rfl, New.intro fun h10 n10 => ?_⟩⟩
    have s10 := n10.size
    have X10 : TxC h10 col d r T := X8.keep n10.fr (Ag.refl _ _) (fun b hb => X.nrm b (by omega)) (fun b hb y => by rw [X.nrm b (by omega)] at y; omega) fun _ _ _ _ x => x
    have r1' := (n10.at_ (show h.size < h8.size by omega)).trans r1
    have r2' := (n10.at_ (show h2.size < h8.size by omega)).trans r2
    refine ⟨rdc r1' rfl, rdc r1' rfl, rda X10.cell rfl, _, rfl, cellsAll n10.rd, by intro v hv; rw [List.mem_singleton.mp hv]; rfl, ?_⟩
    refine append_own X10.un rfl rfl (by show (r.us.length + 1) * _ ≤ _; have b16 : ti1.bytes ≤ 16 := (by decide); have := Nat.mul_le_mul (show r.us.length + 1 ≤ 1000000001 from (by omega)) b16; exact Nat.le_trans this (by decide)) (by omega) fun a' c' h11 f11 s11 => ?_
    have z11 := f11.size
    have nz : ∀ b, h.size ≤ b → ¬ On col 3 b := fun b hb x => by have x : col b = 3 := x; rw [X.nrm b hb] at x; omega
    have nt : ¬ On col 3 r.tb := fun x => by have x : col r.tb = 3 := x; omega
    have nm : ¬ On col 3 r.mb := fun x => by have x : col r.mb = 3 := x; omega
    have g1 : rd h11 h.size = [.pointer (some ⟨r.tb, 0, none⟩)] := (f11.rd (by omega) (nz _ (Nat.le_refl _))).trans r1'
    have g2 : rd h11 h2.size = [.int .i64 i] := (f11.rd (by omega) (nz _ (by omega))).trans r2'
    have gt := (f11.rd X10.own.lt nt).trans X10.cell
    have gw : rd h11 wb = [wasV (aget r.ps i)] := by rw [esl]; exact (f11.rd (by omega) (nz _ (by omega))).trans ((n10.at_ w2).trans rw')
    have go' : rd h11 ob = [.bool (aget r.ps i).isSome] := (f11.rd (by omega) (nz _ (by omega))).trans ((n10.at_ o2).trans ro)
    refine ⟨rdc g1 rfl, os (Put.add (f11.own X10.own.lt nt X10.own) (by rw [gt]; show 0 + 2 < 4; omega) fun h12 d12 => ?_)⟩
    have s12 := d12.size
    have g1 : rd h12 h.size = [.pointer (some ⟨r.tb, 0, none⟩)] := (d12.at_ (by omega) (by omega)).trans g1
    have g2 : rd h12 h2.size = [.int .i64 i] := (d12.at_ (by omega) (by omega)).trans g2
    have gw := (d12.at_ (show wb < h11.size by omega) (by omega)).trans gw
    have go' := (d12.at_ (show ob < h11.size by omega) (by omega)).trans go'
    have gt : rd h12 r.tb = [.pointer d, .map (some r.mb), .slice a' (r.us.length + 1) c', .bool false] := d12.rd.trans (by rw [gt]; rfl)
    have nF : ∀ p, a = some p → ¬ F p.block := ha
    have B12 : StrAt h12 a l bs := StrAt.fr d12.fr (StrAt.fr f11 (StrAt.fr n10.fr (StrAt.fr f B fun _ _ x => x) fun _ _ x => x) fun q e y => ha q e ((hF _).mpr (by have y : col q.block = 3 := y; omega))) fun q e y => ha q e ((hF _).mpr (by rw [y]; omega))
    refine ⟨_, rdc g1 rfl, os ⟨_, rda gt rfl, _, rdc g2 rfl, Clone_any B12 hl fun aq cq h13 f13 s13 => ?_⟩⟩
    have z13 := f13.size
    have g1 : rd h13 h.size = [.pointer (some ⟨r.tb, 0, none⟩)] := (f13.rd (by omega) fun x => x).trans g1
    have g2 : rd h13 h2.size = [.int .i64 i] := (f13.rd (by omega) fun x => x).trans g2
    have gw := (f13.rd (show wb < h12.size by omega) fun x => x).trans gw
    have go' := (f13.rd (show ob < h12.size by omega) fun x => x).trans go'
    have gt := (f13.rd (by omega) fun x => x).trans gt
    have ot := f13.own d12.own.lt (fun x => x) d12.own
    have hmt : r.mb ≠ r.tb := fun e => by rw [e] at cmb; omega
    have m13 : MapAt DI h13 r.mb (mm (fun x => x.1.v) r.ps) := map_fr (map_fr (map_fr X10.map f11 nm) d12.fr hmt) f13 fun x => x
    refine ⟨_, _, _, rfl, rdc g1 rfl, rda gt rfl, rdc g2 rfl, os ⟨_, m13, fun h14 t14 => ?_⟩⟩
    have f14 := mapTo_fr t14
    have z14 := t14.size
    have m14 := t14.at_
    rw [show Value.slice aq l cq = (fun x : Sc × Txt => x.1.v) (⟨aq, l, cq⟩, bs) from rfl, mput_mm] at m14
    have G : Fr (fun b => col b = 3 ∨ b = r.tb ∨ b = r.mb) h h14 :=
      ((((((f.new n10).mono (G := fun b => col b = 3 ∨ b = r.tb ∨ b = r.mb) fun _ _ x => x.elim).trans f11 fun b _ x => Or.inl x).did d12 fun _ => Or.inr (Or.inl rfl)).no f13).trans f14 fun b _ x => Or.inr (Or.inr x))
    -- the colours
    have ub : ∀ p, a' = some p → (col p.block = 3 ∨ h10.size ≤ p.block) ∧ p.block < h11.size := by
      rintro p rfl; exact ⟨s11.2.2.1, s11.lt⟩
    have qb : ∀ p, aq = some p → h12.size ≤ p.block ∧ p.block < h13.size := by
      rintro p rfl; exact ⟨s13.2.2.1, s13.lt⟩
    obtain ⟨col', ag, cz, c4, c3, cq4, c5⟩ : ∃ col' : Nat → Nat, Ag h.size col col' ∧ (∀ b, h14.size ≤ b → col' b = 0) ∧ (∀ b, b = h.size ∨ b = h2.size ∨ b = wb ∨ b = ob → col' b = 4) ∧ (∀ p, a' = some p → col' p.block = 3) ∧ (∀ p, aq = some p → col' p.block = 4) ∧ (∀ b, h.size ≤ b → col' b = 0 ∨ col' b = 3 ∨ col' b = 4) := by
      refine ⟨fun b => if b < h.size then col b else if b = h.size ∨ b = h2.size ∨ b = wb ∨ b = ob then 4 else if a'.map (·.block) = some b then 3 else if aq.map (·.block) = some b then 4 else 0, fun b hb => if_pos hb, fun b hb => ?_, fun b hb => ?_, fun p e => ?_, fun p e => ?_, fun b hb => ?_⟩
      · show (if _ then _ else if _ then _ else if _ then _ else if _ then _ else _) = _
        rw [if_neg (by omega), if_neg (by omega), if_neg, if_neg]
        · intro e
          cases haq : aq with
          | none => rw [haq] at e; cases e
          | some p => rw [haq] at e; have := (qb p haq).2; have e : p.block = b := Option.some.inj e; omega
        · intro e
          cases haq : a' with
          | none => rw [haq] at e; cases e
          | some p => rw [haq] at e; have := (ub p haq).2; have e : p.block = b := Option.some.inj e; omega
      · show (if _ then _ else if _ then _ else if _ then _ else if _ then _ else _) = _
        rw [if_neg (by omega), if_pos hb]
      · show (if _ then _ else if _ then _ else if _ then _ else if _ then _ else _) = _
        have := ub p e
        rcases Nat.lt_or_ge p.block h.size with h1 | h1
        · rw [if_pos h1]
          rcases this.1 with h3 | h3
          · exact h3
          · omega
        · have h3 : h10.size ≤ p.block := by
            rcases this.1 with h3 | h3
            · rw [X.nrm _ h1] at h3; omega
            · exact h3
          rw [if_neg (by omega), if_neg (by omega), if_pos (by rw [e]; rfl)]
      · show (if _ then _ else if _ then _ else if _ then _ else if _ then _ else _) = _
        have := qb p e
        rw [if_neg (by omega), if_neg (by omega), if_neg, if_pos (by rw [e]; rfl)]
        intro e2
        cases ha' : a' with
        | none => rw [ha'] at e2; cases e2
        | some q => rw [ha'] at e2; have := (ub q ha').2; have e2 : q.block = p.block := Option.some.inj e2; omega
      · show (if _ then _ else if _ then _ else if _ then _ else if _ then _ else _) = 0 ∨ (if _ then _ else if _ then _ else if _ then _ else if _ then _ else _) = 3 ∨ (if _ then _ else if _ then _ else if _ then _ else if _ then _ else _) = 4
        rw [if_neg (by omega)]
        split
        · exact .inr (.inr rfl)
        · split
          · exact .inr (.inl rfl)
          · split
            · exact .inr (.inr rfl)
            · exact .inl rfl
    have k4 : ∀ b, b < h.size → col b = 4 → ¬ (col b = 3 ∨ b = r.tb ∨ b = r.mb) := by
      rintro b _ e (x | x | x)
      · omega
      · rw [x] at e; omega
      · rw [x] at e; omega
    have hF' : Gw h F h14 (fun b => 1 ≤ col' b ∧ col' b ≤ 5) := ⟨fun b hb => by rw [hF b, ag b hb], fun b hb => by
      rcases Nat.lt_or_ge b h14.size with h1 | h1
      · exact h1
      · have hb : 1 ≤ col' b ∧ col' b ≤ 5 := hb
        rw [cz b h1] at hb; omega⟩
    refine hK h14 (fun b => 1 ≤ col' b ∧ col' b ≤ 5) (G.mono fun b _ x => (hF b).mpr ?_) hF' (.inl ⟨col', ⟨r.tb, r.mb, a', c', aput r.ps i (⟨aq, l, cq⟩, bs), r.us ++ [⟨i, aget r.ps i, ob, wb, h.size, h2.size⟩]⟩, rfl, ⟨cz, (ag _ tbl).trans ctb, ?_, ?_, (ag _ mbl).trans cmb, m14, ?_, fun p hp => ?_, fun u hu => ?_, ?_, ?_, live, ?_, fun p hp => ?_, fun u hu => ?_⟩, fun b => Iff.rfl⟩)
    · rcases x with x | rfl | rfl <;> omega
    · exact f14.own ot.lt (fun x => hmt x.symm) ot
    · rw [List.length_append, List.length_singleton]
      exact (f14.rd ot.lt fun x => hmt x.symm).trans gt
    · rw [List.length_append, List.length_singleton, List.map_append]
      have u14 := ((s11.fr d12.fr fun b hb x e => ?_).fr f13 fun _ _ _ x => x).fr f14 fun b hb x e => ?_
      · obtain ⟨y1, y2⟩ := u14
        refine ⟨y1, ?_⟩
        revert y2 c3
        cases a' with
        | none => intro _ y2; exact y2
        | some p => intro c3 y2; obtain ⟨v1, v2, v3⟩ := y2; exact ⟨v1, c3 p rfl, v3⟩
      · rw [e] at x
        rcases x with x | x
        · have x : col r.tb = 3 := x; omega
        · omega
      · have e : b = r.mb := e
        rw [e] at x
        rcases x with x | x
        · have x : col r.mb = 3 := x; omega
        · omega
    · rcases aput_mem hp with rfl | hp
      · refine ⟨StrAt.fr f14 ?_ ?_, h5', fun p e => ⟨by have := (qb p e).2; omega, cq4 p e⟩⟩
        · refine ⟨hbl, ?_⟩
          exact s13.cells
        · intro p e x
          have := (qb p e).1
          have x : p.block = r.mb := x
          omega
      · exact (X.pok p hp).keep G ag k4
    · rcases List.mem_append.mp hu with hu | hu
      · exact (X.uok u hu).keep G ag k4
      · rw [List.mem_singleton.mp hu]
        have fr : ∀ b, h.size ≤ b → b < h13.size → rd h14 b = rd h13 b := fun b hb hb2 => f14.rd hb2 fun e => by have e : b = r.mb := e; omega
        refine ⟨(fr ob (by omega) (by omega)).trans go', (fr wb (by omega) (by omega)).trans gw, (fr h.size (by omega) (by omega)).trans g1, (fr h2.size (by omega) (by omega)).trans g2, fun b hb => ⟨?_, c4 b ?_⟩, fun y ey => ?_⟩
        · have hb : b = ob ∨ b = wb ∨ b = h.size ∨ b = h2.size := hb
          omega
        · rcases hb with rfl | rfl | rfl | rfl
          · exact .inr (.inr (.inr rfl))
          · exact .inr (.inr (.inl rfl))
          · exact .inl rfl
          · exact .inr (.inl rfl)
        · exact (X.pok _ (aget_mem ey)).keep G ag k4
    · show aput T.put i bs = _
      rw [X.put]
      exact aput_map (fun x : Sc × Txt => x.2) i (⟨aq, l, cq⟩, bs) r.ps
    · show T.undo ++ [(i, aget T.put i)] = _
      rw [X.undo, eput, List.map_append]; rfl
    · refine (X.dk.fr G fun b hb => ?_).iff fun b => ?_
      · have hb : col b = 5 := hb
        rintro (x | x | x)
        · omega
        · rw [x] at hb; omega
        · rw [x] at hb; omega
      · show col' b = 5 ↔ col b = 5
        rcases Nat.lt_or_ge b h.size with h1 | h1
        · rw [ag b h1]
        · have := c5 b h1
          have := X.nrm b h1
          omega
    · rcases aput_mem hp with rfl | hp
      · exact ⟨by omega, by have : ¬ i ≥ (T.N : Int) := fun y => hnot (.inr y); show i < (T.N : Int); omega⟩
      · exact X.pk p hp
    · rcases List.mem_append.mp hu with hu | hu
      · exact X.ui u hu
      · rw [List.mem_singleton.mp hu]
        exact ⟨by show 98 ≤ i; omega, by have : ¬ i ≥ (T.N : Int) := fun y => hnot (.inr y); show i < (T.N : Int); omega⟩
end Go.Proofs.YtjdcbblgaoogmaaGreatDoor.Tm
namespace Go.Proofs.YtjdcbblgaoogmaaGreatDoor.Tm
open Go Go.Proofs Go.Proofs.YtjdcbblgaoogmaaGreatDoor.Wx Go.Proofs.YtjdcbblgaoogmaaGreatDoor.Hp Go.Proofs.YtjdcbblgaoogmaaGreatDoor.W Go.Proofs.YtjdcbblgaoogmaaGreatDoor.Ad
def undoR (m : List (Int × (Sc × Txt))) (u : UR) : List (Int × (Sc × Txt)) := match u.was with
  | some x => aput m u.i x
  | none => adel m u.i
theorem undoR_map (m : List (Int × (Sc × Txt))) (u : UR) : ((undoR m u).map fun p => (p.1, p.2.2)) = undo1 (m.map fun p => (p.1, p.2.2)) (u.i, u.was.map (·.2)) := by
  unfold undoR undo1
  cases u.was with
  | none => exact (adel_map (fun x : Sc × Txt => x.2) u.i m).symm
  | some x => exact (aput_map (fun x : Sc × Txt => x.2) u.i x m).symm
theorem undoAll_drop (m : List (Int × Txt)) (us : List (Int × Option Txt)) {k : Nat} (hk : k < us.length) : undoAll m (us.drop k) = undo1 (undoAll m (us.drop (k + 1))) us[k] := by
  rw [List.drop_eq_getElem_cons hk]; rfl
/-- the map is written -/
theorem TxC.remap {h h' : Heap} {col : Nat → Nat} {d : Option Addr} {r : TR} {T : TM} (x : TxC h col d r T) {ps' : List (Int × (Sc × Txt))} {put' : List (Int × Txt)} (m : MapTo DI h r.mb (mm (fun x => x.1.v) ps') h') (hp : ∀ p ∈ ps', p ∈ r.ps ∨ Blk h col 4 p.2) (e : put' = ps'.map fun p => (p.1, p.2.2)) (hk : ∀ p ∈ put', 98 ≤ p.1 ∧ p.1 < T.N) :
    TxC h' col d { r with ps := ps' } { T with put := put' } := by
  have f := mapTo_fr m
  have s1 := x.sc
  have s2 := x.mc
  have hmt : r.tb ≠ r.mb := fun e => by rw [e] at s1; omega
  have k4 : ∀ b, b < h.size → col b = 4 → ¬ b = r.mb := fun b _ e e2 => by rw [e2] at e; omega
  have hs := m.size
  refine ⟨fun b hb => x.nrm b (by omega), s1, f.own x.own.lt hmt x.own, (f.rd x.own.lt hmt).trans x.cell, s2, m.at_, x.un.fr f fun b _ hb e => ?_, fun p hp' => ?_, fun u hu => (x.uok u hu).keep f (Ag.refl _ _) k4, e, x.undo, x.live, x.dk.fr f fun b hb e => ?_, hk, x.ui⟩
  · have hb : col b = 3 := hb
    have e : b = r.mb := e
    rw [e] at hb; omega
  · rcases hp p hp' with h1 | h1
    · exact (x.pok p h1).keep f (Ag.refl _ _) k4
    · exact h1.keep f (Ag.refl _ _) k4
  · have hb : col b = 5 := hb
    have e : b = r.mb := e
    rw [e] at hb; omega
/-- one put is undone -/
theorem undo_spec {h : Heap} {col : Nat → Nat} {d : Option Addr} {r : TR} {T : TM} {u : UR} {K : Value → Heap → Prop} (x : TxC h col d r T) (hu : u ∈ r.us)
    (hK : ∀ h', Fr (fun b => b = r.mb) h h' → TxC h' col d { r with ps := undoR r.ps u } { T with put := undo1 T.put (u.i, u.was.map (·.2)) } → K (.tuple #[]) h') : HCallsV Tryz.prog u.v [] h K := by
  have U := x.uok u hu
  show C.txn_Txn_Write_c1 (some ⟨u.ok, 0, none⟩) (some ⟨u.w, 0, none⟩) (some ⟨u.tc, 0, none⟩) (some ⟨u.ic, 0, none⟩) h K
  refine txn_Txn_Write_c1.ok (os ⟨_, rdc U.ok rfl, ?_⟩)
  have hk : ∀ p ∈ undo1 T.put (u.i, u.was.map (·.2)), 98 ≤ p.1 ∧ p.1 < T.N := by
    intro p hp
    unfold undo1 at hp
    split at hp
    · rcases aput_mem hp with rfl | hp
      · exact x.ui u hu
      · exact x.pk p hp
    · exact x.pk p (adel_mem hp)
  have ew : undo1 T.put (u.i, u.was.map (·.2)) = (undoR r.ps u).map fun p => (p.1, p.2.2) := by rw [undoR_map, x.put]
  cases e : u.was with
  | none =>
    refine cf rfl (os ⟨_, rdc U.tc rfl, os ⟨_, rda x.cell rfl, os ⟨_, rdc U.ic rfl, _, x.map, fun h3 t3 => ?_⟩⟩⟩)
    have t3 := t3.toMapTo
    rw [mdel_mm] at t3
    have er : undoR r.ps u = adel r.ps u.i := by unfold undoR; rw [e]
    rw [er] at hK ew
    exact hK h3 (mapTo_fr t3) (x.remap t3 (fun p hp => .inl (adel_mem hp)) ew hk)
  | some y =>
    have hw : rd h u.w = [y.1.v] := by rw [U.w, e]; rfl
    refine ct rfl (os ⟨_, rdc U.tc rfl, os ⟨_, rda x.cell rfl, os ⟨_, rdc U.ic rfl, os ⟨_, _, _, rdc hw rfl, os ⟨_, x.map, fun h2 t2 => ?_⟩⟩⟩⟩⟩)
    rw [show Value.slice y.1.a y.1.l y.1.c = (fun x : Sc × Txt => x.1.v) y from rfl, mput_mm] at t2
    have er : undoR r.ps u = aput r.ps u.i y := by unfold undoR; rw [e]
    rw [er] at hK ew
    refine hK h2 (mapTo_fr t2) (x.remap t2 (fun p hp => ?_) ew hk)
    rcases aput_mem hp with rfl | hp
    · exact .inr (U.b y e)
    · exact .inl hp
theorem Back_spec {h : Heap} {F : Nat → Prop} {t d : Option Addr} {T : TM} {mark : Int} {K : Value → Heap → Prop} (x : Tx h F t d T) (hu : T.undo.length < 1000000000)
    (hK : ∀ h', Fr F h h' → Tx h' F t d (T.back mark).1 → K (.int .i64 (T.back mark).2) h') : C.txn_Txn_Back t mark h K := by
  rcases x with ⟨col, r, rfl, X, hF⟩ | ⟨col, tb, rfl, X, hF⟩
  rotate_left
  · refine txn_Txn_Back.ok (os ⟨_, rda X.cell rfl, ct rfl ?_⟩)
    have e0 : T.back mark = (T, 61) := by unfold TM.back; rw [X.over, if_pos rfl]
    rw [e0] at hK
    exact hK h (Fr.refl _ _) (.inr ⟨col, tb, rfl, X, hF⟩)
  · have eul : T.undo.length = r.us.length := by rw [X.undo, List.length_map]
    have live := X.live
    refine txn_Txn_Back.ok (os ⟨_, rda X.cell rfl, cf rfl (cd (fun hn => ?_) fun h0 => os ⟨_, _, _, rda X.cell rfl, cd (fun hn => ?_) fun h1 => ?_⟩)⟩)
    · have e0 : T.back mark = (T, 62) := by unfold TM.back; rw [live, if_neg (by simp), if_pos (.inl hn)]
      rw [e0] at hK
      exact hK h (Fr.refl _ _) (.inl ⟨col, r, rfl, X, hF⟩)
    · have e0 : T.back mark = (T, 62) := by unfold TM.back; rw [live, if_neg (by simp), if_pos (.inr (by omega))]
      rw [e0] at hK
      exact hK h (Fr.refl _ _) (.inl ⟨col, r, rfl, X, hF⟩)
    have e0 : T.back mark = ({ T with put := undoAll T.put (T.undo.drop mark.toNat), undo := T.undo.take mark.toNat }, 0) := by unfold TM.back; rw [live, if_neg (by simp), if_neg (by omega)]
    rw [e0] at hK
    unfold txn_Txn_Back.k1
    refine os ⟨_, _, _, rda X.cell rfl, ?_⟩
    rw [wrap_i64 (n := (r.us.length : Int) - 1) (by omega) (by omega)]
    refine ⟨fun k hh => mark - 1 ≤ k ∧ k < r.us.length ∧ Fr (fun b => b = r.mb) h hh ∧ ∃ ps', TxC hh col d { r with ps := ps' } { T with put := undoAll T.put (T.undo.drop (k + 1).toNat) }, fun k _ => (k + 1).toNat,
      ⟨by omega, by omega, Fr.refl _ _, r.ps, ?_⟩, ?_⟩
    · rw [show ((r.us.length : Int) - 1 + 1).toNat = T.undo.length by omega, List.drop_length]
      exact X
    rintro k h2 ⟨k0, k1, f2, ps', X2⟩
    refine cd (fun hk => ?_) fun hk => ?_
    · have hk' : k.toNat < r.us.length := by omega
      have X2c : rd h2 r.tb = [.pointer d, .map (some r.mb), .slice r.ua r.us.length r.uc, .bool false] := X2.cell
      obtain ⟨p, ep, cc⟩ := X2.un.get (by show 0 < r.us.length; omega)
      have ep : r.ua = some p := ep
      have cc : Cells h2 p (r.us.map UR.v) := cc
      have cv : cellOf h2 (p.add k.toNat) = some (UR.v r.us[k.toNat]) := Cells.cell cc (by rw [List.getElem?_map, List.getElem?_eq_getElem hk']; rfl)
      refine os ⟨_, _, _, rda X2c rfl, ⟨by omega, by omega⟩, oe ep ⟨_, cv, ?_⟩⟩
      refine undo_spec X2 (List.getElem_mem hk') fun h3 f3 X3 => ⟨rfl, ?_, ?_⟩
      · rw [wrap_i64 (n := k - 1) (by omega) (by omega)]
        refine ⟨by omega, by omega, f2.trans f3 fun b _ e => e, undoR ps' r.us[k.toNat], ?_⟩
        have hd : k.toNat < T.undo.length := by omega
        have eu : T.undo[k.toNat] = (r.us[k.toNat].i, r.us[k.toNat].was.map (·.2)) := by simp only [X.undo, List.getElem_map]
        rw [show (k - 1 + 1).toNat = k.toNat by omega, undoAll_drop T.put T.undo hd, eu, show k.toNat + 1 = (k + 1).toNat by omega]
        exact X3
      · show (IntKind.wrap .i64 (k - 1) + 1).toNat < (k + 1).toNat
        rw [wrap_i64 (n := k - 1) (by omega) (by omega)]; omega
    · have X2c : rd h2 r.tb = [.pointer d, .map (some r.mb), .slice r.ua r.us.length r.uc, .bool false] := X2.cell
      have cap : r.us.length ≤ r.uc := X2.un.le
      have ek : (k + 1).toNat = mark.toNat := by omega
      rw [ek] at X2
      have s1 := X2.sc
      have s2 := X2.mc
      have s1 : col r.tb = 1 := s1
      have s2 : col r.mb = 2 := s2
      refine os ⟨_, _, _, rda X2c rfl, ⟨by omega, by omega⟩, os (Put.add X2.own (by rw [show rd h2 _ = _ from X2c]; show 0 + 2 < 4; omega) fun h4 d4 => ?_)⟩
      have s4 := d4.size
      have k4 : ∀ b, b < h2.size → col b = 4 → ¬ b = r.tb := fun b _ e e2 => by rw [e2] at e; omega
      have hml : r.mb < h2.size := map_lt X2.map
      have htk : (r.us.take mark.toNat).length = mark.toNat := by rw [List.length_take]; omega
      refine hK h4 ((f2.mono fun b _ e => (hF b).mpr (by have e : b = r.mb := e; rw [e]; omega)).did d4 fun _ => (hF _).mpr (by show 1 ≤ col r.tb ∧ col r.tb ≤ 5; omega)) (.inl ⟨col, { r with ps := ps', us := r.us.take mark.toNat }, rfl, ⟨fun b hb => X2.nrm b (by omega), s1, d4.own, ?_, s2, map_fr X2.map d4.fr fun e => ?_, ?_, fun p hp => (X2.pok p hp).keep d4.fr (Ag.refl _ _) k4, fun u hu => (X2.uok u (List.mem_of_mem_take hu)).keep d4.fr (Ag.refl _ _) k4, X2.put, ?_, live, X2.dk.fr d4.fr fun b hb e => ?_, X2.pk, fun u hu => X2.ui u (List.mem_of_mem_take hu)⟩, hF⟩)
      · rw [d4.rd, show rd h2 _ = _ from X2c]
        show _ = ([.pointer d, .map (some r.mb), .slice r.ua (r.us.take mark.toNat).length r.uc, .bool false] : List Value)
        rw [htk]; rfl
      · have e : r.mb = r.tb := e
        rw [e] at s2; omega
      · show Sl h4 1 r.ua (r.us.take mark.toNat).length r.uc ((r.us.take mark.toNat).map UR.v) (On col 3)
        rw [htk, List.map_take]
        exact sl_take (X2.un.fr d4.fr fun b _ hb e => by have hb : col b = 3 := hb; have e : b = r.tb := e; rw [e] at hb; omega) (by show mark.toNat ≤ r.us.length; omega)
      · show T.undo.take mark.toNat = (r.us.take mark.toNat).map _
        rw [X.undo, List.map_take]
      · have hb : col b = 5 := hb
        have e : b = r.tb := e
        rw [e] at hb; omega
end Go.Proofs.YtjdcbblgaoogmaaGreatDoor.Tm
namespace Go.Proofs.YtjdcbblgaoogmaaGreatDoor.Spc
open Go Go.Proofs Go.Proofs.YtjdcbblgaoogmaaGreatDoor.Wx Go.Proofs.YtjdcbblgaoogmaaGreatDoor.Hp Go.Proofs.YtjdcbblgaoogmaaGreatDoor.W Go.Proofs.YtjdcbblgaoogmaaGreatDoor.Ad Go.Proofs.YtjdcbblgaoogmaaGreatDoor.Tm
theorem readFrom_len {i : Int} : ∀ (ps : List (Int × List UInt8)) (b : List UInt8), b.length = 512 → (∀ p ∈ ps, p.2.length = 512) → (readFrom b i ps).length = 512
  | [], b, h, _ => h
  | p :: r, b, h, hp => by
    show (readFrom (if p.1 = i then p.2 else b) i r).length = 512
    refine readFrom_len r _ ?_ fun q hq => hp q (List.mem_cons_of_mem _ hq)
    split
    · exact hp p (List.mem_cons_self ..)
    · exact h
theorem DiskF.readLen {h : Heap} {D : Nat → Prop} {d : Option Addr} {S : RD} (a : DiskF h D d S) {i : Nat} (hi : i < S.lasts.length) : (readAt S i).length = 512 := by
  obtain ⟨col, ⟨b, r, es, _, P⟩, _⟩ := a
  refine readFrom_len _ _ ?_ P.pw
  rw [List.getD_eq_getElem?_getD, List.getElem?_eq_getElem hi]
  exact P.lw _ (List.getElem_mem hi)
theorem Tx.putLen {h : Heap} {F : Nat → Prop} {t d : Option Addr} {T : TM} (x : Tx h F t d T) : ∀ p ∈ T.put, p.2.length = 512 := by
  rcases x with ⟨col, r, _, c, _⟩ | ⟨col, tb, _, c, _⟩
  · intro p hp
    rw [c.put] at hp
    obtain ⟨q, hq, rfl⟩ := List.mem_map.mp hp
    exact (c.pok q hq).l
  · intro p hp
    rw [c.gone.1] at hp; cases hp
theorem Tx.readLen {h : Heap} {F : Nat → Prop} {t d : Option Addr} {T : TM} (x : Tx h F t d T) {i : Int} (e : (T.read i).2 = 0) : (T.read i).1.length = 512 := by
  obtain ⟨D, dk, _⟩ := x.dk
  unfold TM.read at e ⊢
  split at e
  · cases e
  · rename_i h1
    rw [if_neg h1]
    split at e
    · cases e
    · rename_i h2
      rw [if_neg h2]
      cases eg : aget T.put i with
      | some b => rw [TM.get_some eg]; exact Tx.putLen x _ (aget_mem eg)
      | none =>
        rw [TM.get_none eg] at e ⊢
        split at e
        · cases e
        · rename_i h3
          rw [if_neg h3]
          exact DiskF.readLen dk (by have : T.N = T.disk.lasts.length := rfl; omega)
theorem TM.write_ok {T : TM} {i : Int} {bs : Txt} (e : (T.write i bs).2 = 0) : T.over = false ∧ 98 ≤ i ∧ i < T.N ∧ bs.length = 512 ∧ ¬ (aget T.put i = none ∧ T.put.length ≥ 96) ∧ (T.write i bs).1 = { T with put := aput T.put i bs, undo := T.undo ++ [(i, aget T.put i)] } := by
  unfold TM.write at e ⊢
  split at e
  · cases e
  · rename_i h1
    split at e
    · cases e
    · rename_i h2
      split at e
      · cases e
      · rename_i h3
        split at e
        · cases e
        · rename_i h4
          rw [if_neg h1, if_neg h2, if_neg h3, if_neg h4]
          exact ⟨by cases ho : T.over <;> simp_all, by omega, by omega, by omega, h4, rfl⟩
theorem TM.write_bad {T : TM} {i : Int} {bs : Txt} (e : (T.write i bs).2 ≠ 0) : (T.write i bs).1 = T := by
  unfold TM.write at e ⊢
  split
  · rfl
  · split
    · rfl
    · split
      · rfl
      · split
        · rfl
        · rename_i h1 h2 h3 h4
          rw [if_neg h1, if_neg h2, if_neg h3, if_neg h4] at e
          exact absurd rfl e
/-- one more put, and gone back behind it: as it was -/
theorem TM.read_ok_over {T : TM} {i : Int} (e : (T.read i).2 = 0) : T.over = false := by
  unfold TM.read at e
  split at e
  · cases e
  · rename_i h; cases ho : T.over <;> simp_all
theorem aput_keys {α : Type} (i : Int) (v : α) : ∀ m : List (Int × α), (aput m i v).map (·.1) = if aget m i = none then m.map (·.1) ++ [i] else m.map (·.1)
  | [] => rfl
  | (k, u) :: r => by
    have ih := aput_keys i v r
    show (bif i == k then (i, v) :: r else (k, u) :: aput r i v).map (·.1) = if (bif i == k then some u else aget r i) = none then _ else _
    by_cases e : i = k
    · subst e; rw [beq_self_eq_true]; rfl
    · rw [beq_eq_false_iff_ne.mpr e]
      show k :: (aput r i v).map (·.1) = if aget r i = none then _ else _
      rw [ih]
      split <;> rfl
end Go.Proofs.YtjdcbblgaoogmaaGreatDoor.Spc
namespace Go.Proofs
open Go Go.Shelf
def Tryz.keysA_ren : Go.Shelf.Ren := ⟨fun | 7 => 143 | 10 => 198 | n => n, fun | 23 => 132 | 26 => 3 | 3 => 37 | 28 => 195 | 0 => 0 | 27 => 194 | 33 => 146 | 4 => 4 | n => n, fun n => n⟩
theorem Tryz.keysA : SlLaysZI.n7 Tryz.prog Tryz.keysA_ren where
  mixed := by kernel_rfl
  f7 := ⟨ "maps.Keys[map[int][]byte,int,[]byte]", by decide, Tryz.func143.trans (congrArg some (by kernel_rfl))⟩
  f10 := ⟨ "maps.Keys[map[int][]byte,int,[]byte]$1", by decide, Tryz.func198.trans (congrArg some (by kernel_rfl))⟩
  t0 := Tryz.underlying0
  a0 := Tryz.isAgg0
  z0 := Tryz.sizeOf0
  v0 := Tryz.zeroValue0
  t4 := Tryz.underlying4
  a4 := Tryz.isAgg4
  z4 := Tryz.sizeOf4
  v4 := Tryz.zeroValue4
  t23 := Tryz.underlying132
  a23 := Tryz.isAgg132
  z23 := Tryz.sizeOf132
  v23 := Tryz.zeroValue132
  t26 := Tryz.underlying3
  a26 := Tryz.isAgg3
  z26 := Tryz.sizeOf3
  v26 := Tryz.zeroValue3
  t27 := Tryz.underlying194
  a27 := Tryz.isAgg194
  z27 := Tryz.sizeOf194
  v27 := Tryz.zeroValue194
  t28 := Tryz.underlying195
  a28 := Tryz.isAgg195
  z28 := Tryz.sizeOf195
  v28 := Tryz.zeroValue195
  t33 := Tryz.underlying146
  a33 := Tryz.isAgg146
  z33 := Tryz.sizeOf146
  v33 := Tryz.zeroValue146
def Tryz.sortedA_ren : Go.Shelf.Ren := ⟨fun | 6 => 142 | 8 => 196 | 9 => 197 | 11 => 258 | 13 => 260 | 12 => 259 | 23 => 291 | 24 => 292 | 14 => 282 | 15 => 283 | 16 => 284 | 17 => 285 | 18 => 286 | 19 => 287 | 20 => 288 | 21 => 289 | 22 => 290 | 25 => 303 | 26 => 304 | 27 => 305 | 28 => 306 | 29 => 307 | 30 => 308 | 31 => 310 | n => n, fun | 26 => 3 | 28 => 195 | 24 => 137 | 0 => 0 | 3 => 3 | 37 => 315 | 48 => 244 | 50 => 243 | 4 => 4 | 40 => 334 | 39 => 333 | 45 => 338 | 5 => 5 | 9 => 9 | 51 => 351 | 55 => 324 | 57 => 358 | 58 => 48 | 33 => 146 | n => n, fun n => n⟩
theorem Tryz.sortedA : SlLaysZI.n6 Tryz.prog Tryz.sortedA_ren where
  mixed := by kernel_rfl
  f6 := ⟨ "slices.Sorted[int]", by decide, Tryz.func142.trans (congrArg some (by kernel_rfl))⟩
  f8 := ⟨ "slices.Collect[int]", by decide, Tryz.func196.trans (congrArg some (by kernel_rfl))⟩
  f11 := ⟨ "slices.AppendSeq[[]int,int]", by decide, Tryz.func258.trans (congrArg some (by kernel_rfl))⟩
  t0 := Tryz.underlying0
  a0 := Tryz.isAgg0
  z0 := Tryz.sizeOf0
  v0 := Tryz.zeroValue0
  t24 := Tryz.underlying137
  a24 := Tryz.isAgg137
  z24 := Tryz.sizeOf137
  v24 := Tryz.zeroValue137
  t26 := Tryz.underlying3
  a26 := Tryz.isAgg3
  z26 := Tryz.sizeOf3
  v26 := Tryz.zeroValue3
  t28 := Tryz.underlying195
  a28 := Tryz.isAgg195
  z28 := Tryz.sizeOf195
  v28 := Tryz.zeroValue195
  i26 := by kernel_rfl
def Tryz.sortA_ren : Go.Shelf.Ren := ⟨fun | 5 => 197 | 8 => 260 | 7 => 259 | 19 => 291 | 20 => 292 | 10 => 282 | 11 => 283 | 12 => 284 | 13 => 285 | 14 => 286 | 15 => 287 | 16 => 288 | 17 => 289 | 18 => 290 | 30 => 303 | 31 => 304 | 32 => 305 | 33 => 306 | 34 => 307 | 35 => 308 | 40 => 310 | n => n, fun | 23 => 137 | 25 => 3 | 3 => 3 | 32 => 315 | 22 => 137 | 0 => 0 | 44 => 244 | 46 => 243 | 4 => 4 | 36 => 334 | 35 => 333 | 41 => 338 | 5 => 5 | 9 => 9 | 53 => 351 | 57 => 324 | 63 => 358 | 64 => 48 | n => n, fun n => n⟩
theorem Tryz.sortA : SlLaysM.n5 Tryz.prog Tryz.sortA_ren where
  mixed := by kernel_rfl
  f5 := ⟨ "slices.Sort[[]int,int]", by decide, Tryz.func197.trans (congrArg some (by kernel_rfl))⟩
  f7 := ⟨ "slices.pdqsortOrdered[int]", by decide, Tryz.func259.trans (congrArg some (by kernel_rfl))⟩
  f8 := Tryz.func260.trans (congrArg some (by kernel_rfl))
  f10 := ⟨ "slices.insertionSortOrdered[int]", by decide, Tryz.func282.trans (congrArg some (by kernel_rfl))⟩
  f11 := ⟨ "slices.heapSortOrdered[int]", by decide, Tryz.func283.trans (congrArg some (by kernel_rfl))⟩
  f12 := ⟨ "slices.breakPatternsOrdered[int]", by decide, Tryz.func284.trans (congrArg some (by kernel_rfl))⟩
  f13 := ⟨ "slices.choosePivotOrdered[int]", by decide, Tryz.func285.trans (congrArg some (by kernel_rfl))⟩
  f14 := ⟨ "slices.reverseRangeOrdered[int]", by decide, Tryz.func286.trans (congrArg some (by kernel_rfl))⟩
  f15 := ⟨ "slices.partialInsertionSortOrdered[int]", by decide, Tryz.func287.trans (congrArg some (by kernel_rfl))⟩
  f16 := ⟨ "cmp.Less[int]", by decide, Tryz.func288.trans (congrArg some (by kernel_rfl))⟩
  f17 := ⟨ "slices.partitionEqualOrdered[int]", by decide, Tryz.func289.trans (congrArg some (by kernel_rfl))⟩
  f18 := ⟨ "slices.partitionOrdered[int]", by decide, Tryz.func290.trans (congrArg some (by kernel_rfl))⟩
  f19 := Tryz.func291.trans (congrArg some (by kernel_rfl))
  f20 := Tryz.func292.trans (congrArg some (by kernel_rfl))
  f30 := ⟨ "slices.siftDownOrdered[int]", by decide, Tryz.func303.trans (congrArg some (by kernel_rfl))⟩
  f31 := Tryz.func304.trans (congrArg some (by kernel_rfl))
  f32 := Tryz.func305.trans (congrArg some (by kernel_rfl))
  f33 := ⟨ "slices.medianAdjacentOrdered[int]", by decide, Tryz.func306.trans (congrArg some (by kernel_rfl))⟩
  f34 := ⟨ "slices.medianOrdered[int]", by decide, Tryz.func307.trans (congrArg some (by kernel_rfl))⟩
  f35 := ⟨ "cmp.isNaN[int]", by decide, Tryz.func308.trans (congrArg some (by kernel_rfl))⟩
  f40 := ⟨ "slices.order2Ordered[int]", by decide, Tryz.func310.trans (congrArg some (by kernel_rfl))⟩
  t0 := Tryz.underlying0
  a0 := Tryz.isAgg0
  z0 := Tryz.sizeOf0
  v0 := Tryz.zeroValue0
  t3 := Tryz.underlying3
  a3 := Tryz.isAgg3
  z3 := Tryz.sizeOf3
  v3 := Tryz.zeroValue3
  t4 := Tryz.underlying4
  a4 := Tryz.isAgg4
  z4 := Tryz.sizeOf4
  v4 := Tryz.zeroValue4
  t5 := Tryz.underlying5
  a5 := Tryz.isAgg5
  z5 := Tryz.sizeOf5
  v5 := Tryz.zeroValue5
  t9 := Tryz.underlying9
  a9 := Tryz.isAgg9
  z9 := Tryz.sizeOf9
  v9 := Tryz.zeroValue9
  t22 := Tryz.underlying137
  a22 := Tryz.isAgg137
  z22 := Tryz.sizeOf137
  v22 := Tryz.zeroValue137
  t23 := Tryz.underlying137
  a23 := Tryz.isAgg137
  z23 := Tryz.sizeOf137
  v23 := Tryz.zeroValue137
  t25 := Tryz.underlying3
  a25 := Tryz.isAgg3
  z25 := Tryz.sizeOf3
  v25 := Tryz.zeroValue3
  t32 := Tryz.underlying315
  a32 := Tryz.isAgg315
  z32 := Tryz.sizeOf315
  v32 := Tryz.zeroValue315
  t35 := Tryz.underlying333
  a35 := Tryz.isAgg333
  z35 := Tryz.sizeOf333
  v35 := Tryz.zeroValue333
  t36 := Tryz.underlying334
  a36 := Tryz.isAgg334
  z36 := Tryz.sizeOf334
  v36 := Tryz.zeroValue334
  t41 := Tryz.underlying338
  a41 := Tryz.isAgg338
  z41 := Tryz.sizeOf338
  v41 := Tryz.zeroValue338
  t44 := Tryz.underlying244
  a44 := Tryz.isAgg244
  z44 := Tryz.sizeOf244
  v44 := Tryz.zeroValue244
  t46 := Tryz.underlying243
  a46 := Tryz.isAgg243
  z46 := Tryz.sizeOf243
  v46 := Tryz.zeroValue243
  t53 := Tryz.underlying351
  a53 := Tryz.isAgg351
  z53 := Tryz.sizeOf351
  v53 := Tryz.zeroValue351
  t57 := Tryz.underlying324
  a57 := Tryz.isAgg324
  z57 := Tryz.sizeOf324
  v57 := Tryz.zeroValue324
  t63 := Tryz.underlying358
  a63 := Tryz.isAgg358
  z63 := Tryz.sizeOf358
  v63 := Tryz.zeroValue358
  t64 := Tryz.underlying48
  a64 := Tryz.isAgg48
  z64 := Tryz.sizeOf48
  v64 := Tryz.zeroValue48
end Go.Proofs
namespace Go.Proofs.YtjdcbblgaoogmaaGreatDoor.Tm
open Go Go.Proofs Go.Proofs.YtjdcbblgaoogmaaGreatDoor.Wx Go.Proofs.YtjdcbblgaoogmaaGreatDoor.Hp Go.Proofs.YtjdcbblgaoogmaaGreatDoor.W Go.Proofs.YtjdcbblgaoogmaaGreatDoor.Ad
theorem insert_perm {H : Type} (x : Lit × DataW H) : ∀ l : List (Lit × DataW H), (DataW.insert x l).Perm (x :: l)
  | [] => List.Perm.refl _
  | y :: r => by
    show (if x.1.before y.1 then x :: y :: r else y :: DataW.insert x r).Perm _
    split
    · exact List.Perm.refl _
    · exact ((insert_perm x r).cons y).trans (List.Perm.swap x y r)
theorem foldr_perm {H : Type} : ∀ l : List (Lit × DataW H), (l.foldr DataW.insert []).Perm l
  | [] => List.Perm.refl _
  | x :: r => (insert_perm x _).trans ((foldr_perm r).cons x)
/-- whatever stands there reads as nothing -/
def anyR : Value → Option (DataW Unit × List MemPlace) := fun _ => some (.nil, [])
def valI : Value → Int
  | .int _ n => n
  | _ => 0
def sortZ (l : List Int) : List Int := l.mergeSort fun x y => decide (x ≤ y)
theorem Sorted_spec {α : Type} {f : α → Value} {h : Heap} {bx mb : Nat} {m : List (Int × α)} {K : Value → Heap → Prop} (hbx : rd h bx = [.map (some mb)]) (M : MapAt DI h mb (mm f m)) (hm : m.length ≤ 1000000) (hr : ∀ p ∈ m, -9223372036854775808 ≤ p.1 ∧ p.1 ≤ 9223372036854775807)
    (hK : ∀ a c h', Fr No h h' → Sl h' 1 a m.length c ((sortZ (m.map (·.1))).map (.int .i64)) (From h.size) → K (.slice a m.length c) h') :
    C.slices_Sorted_int (.func (.func 198) #[] ⟨[.pointer (some ⟨bx, 0, none⟩)]⟩) h K := by
  refine ⟨⟨_, Tryz.func142, by kernel_rfl, by kernel_rfl⟩, fun w hw => ?_⟩
  subst hw
  obtain ⟨es, clock, hb, he, _, hst⟩ := M
  have hlen : es.size = m.length := by
    have := congrArg List.length he
    rw [List.length_map, List.length_map, mm_length] at this
    simpa using this
  have hkey : ∀ x ∈ es.toList, ∃ p ∈ m, x.key = .int .i64 p.1 := by
    intro x hx
    have : (x.key, x.val) ∈ es.toList.map (fun e => (e.key, e.val)) := List.mem_map.mpr ⟨x, hx, rfl⟩
    rw [he] at this
    obtain ⟨q, hq, e⟩ := List.mem_map.mp this
    obtain ⟨p, hp, rfl⟩ := List.mem_map.mp hq
    exact ⟨p, hp, (congrArg Prod.fst e).symm⟩
  have hwf : ∀ n : Int, -9223372036854775808 ≤ n ∧ n ≤ 9223372036854775807 → (Lit.int .i64 n).wf = true := fun n hn => by
    have h1 : IntKind.i64.min = -9223372036854775808 := rfl
    have h2 : IntKind.i64.max = 9223372036854775807 := rfl
    simp only [Lit.wf, Bool.and_eq_true, decide_eq_true_eq]
    omega
  have hread : ∀ n : Int, -9223372036854775808 ≤ n ∧ n ≤ 9223372036854775807 → ∀ x : MapEntry, x.key = .int .i64 n → WideElems.rd Tryz.prog 3 anyR x = some (.int .i64 n, .nil) := fun n hn x hx => by
    have h1 : keyOf Tryz.prog 3 x.key = some (.int .i64 n) := by
      rw [hx]
      simp [keyOf, mapKey, Tryz.underlying3, hwf n hn]
    simp [WideElems.rd, h1, anyR]
  have fit : WideElems.Fit Tryz.prog 3 anyR es clock := ⟨by rw [hlen]; exact Nat.le_trans hm (by decide), hst, fun x hx => by
    obtain ⟨p, hp, e⟩ := hkey x hx
    exact ⟨_, hread p.1 (hr p hp) x e⟩⟩
  have hown : w.ownsMap Tryz.prog 3 anyR mb m.length (.map ((es.toList.map (WideElems.rg Tryz.prog 3 anyR)).foldr DataW.insert [])) := ⟨es, clock, hb, fit, by omega, rfl⟩
  have hperm : (intKeys (H := Unit) (.map ((es.toList.map (WideElems.rg Tryz.prog 3 anyR)).foldr DataW.insert []))).Perm (m.map (·.1)) := by
    refine List.Perm.trans (l₂ := (es.toList.map (WideElems.rg Tryz.prog 3 anyR)).map fun p : Lit × DataW Unit => Go.intOf p.1) ((foldr_perm _).map _) ?_
    rw [List.map_map]
    have e1 : es.toList.map ((fun p : Lit × DataW Unit => Go.intOf p.1) ∘ WideElems.rg Tryz.prog 3 anyR) = m.map (·.1) := by
      have e2 : es.toList.map (fun x => x.key) = m.map fun p => (.int .i64 p.1 : Value) := by
        have := congrArg (List.map Prod.fst) he
        rw [List.map_map, List.map_map] at this
        rw [show (es.toList.map fun x => x.key) = es.toList.map (Prod.fst ∘ fun e => (e.key, e.val)) from rfl, this]
        rw [mm, List.map_map]; rfl
      have e3 : es.toList.map ((fun p : Lit × DataW Unit => Go.intOf p.1) ∘ WideElems.rg Tryz.prog 3 anyR) = (es.toList.map (fun x => x.key)).map valI := by
        rw [List.map_map]
        refine List.map_congr_left fun x hx => ?_
        obtain ⟨p, hp, e⟩ := hkey x hx
        have h1 := WideElems.rg_of (hread p.1 (hr p hp) x e)
        rw [Function.comp_apply, Function.comp_apply, h1, e]
        rfl
      rw [e3, e2, List.map_map]; rfl
    rw [e1]
  have hbl : bx < w.heap.size := rd_lt (o := 0) (v := .map (some mb)) (by rw [hbx]; rfl)
  have hsz : Maps.size (.map ((es.toList.map (WideElems.rg Tryz.prog 3 anyR)).foldr DataW.insert []) : DataW Unit) = m.length := by
    have := hperm.length_eq
    rw [List.length_map] at this
    rw [← this]
    show _ = (List.map _ _).length
    rw [List.length_map]; rfl
  have hc : w.cell? ⟨bx, 0, none⟩ = some (.map (some mb)) := rdc hbx rfl
  have hseq : SeqGives Fence.wide 2 Tryz.prog 198 #[.pointer (some ⟨bx, 0, none⟩)] encZ (fun ss => ss.Perm (intKeys (H := Unit) (.map ((es.toList.map (WideElems.rg Tryz.prog 3 anyR)).foldr DataW.insert [])))) (Maps.size (.map ((es.toList.map (WideElems.rg Tryz.prog 3 anyR)).foldr DataW.insert []) : DataW Unit)) w :=
    AnyZI.keys_gives (ρ := Tryz.keysA_ren) { Tryz.keysA with } Fence.wide _ trivial rfl (by omega) bx mb m.length _ _ hbl hc hown
  have sorts : ∀ k, AnyZI.SortsIn Tryz.prog Tryz.sortedA_ren Fence.wide k := fun k =>
    ⟨fun blk off cap ss W hH hblk hsz => callsIn_wide.2 (AnyM.slices_Sort_int Tryz.sortA blk off cap ss W hH hblk hsz),
     fun p cap W => callsIn_wide.2 (AnyM.slices_Sort_int_none Tryz.sortA p cap W)⟩
  have cS := AnyZI.sorted_in Tryz.sortedA Fence.wide 5 trivial trivial trivial trivial rfl (by omega) (sorts _) (enters_of Tryz.func197 (by kernel_rfl) rfl) 198 #[.pointer (some ⟨bx, 0, none⟩)] trivial (enters_of Tryz.func198 (by kernel_rfl) rfl) _ _ (by rw [hsz]; exact Nat.le_trans hm (by decide)) (by rw [hsz]; omega) _ hseq
  refine ((callsIn_wide (n := 5)).1 cS).mono fun e w' ⟨v, ss, he', hS, hrow, _, hbel⟩ => ?_
  have hS' : ss.Perm (m.map (·.1)) := hS.trans hperm
  have el : ss.length = m.length := by have := hS'.length_eq; rw [List.length_map] at this; exact this
  have es' : ss.mergeSort (fun x y => decide (x ≤ y)) = sortZ (m.map (·.1)) := mergeSort_of_perm_i hS'
  rw [es', el] at hrow
  have fr : Fr No w.heap w'.heap := ⟨hbel.size, fun k hk _ => hbel.block k hk⟩
  refine ⟨v, he', ⟨hbel.os, hbel.tape, hbel.output⟩, ?_⟩
  obtain ⟨hl, hrow⟩ := hrow
  rcases hrow with ⟨rfl, hz⟩ | ⟨gb, cap, cur, rfl, hbase, hgb, r1, r2, r3, r4⟩
  · rw [hz] at hK
    refine hK none 0 w'.heap fr ⟨?_, rfl, rfl⟩
    rw [hz] at hl; exact hl
  · refine hK _ cap w'.heap fr ⟨hl, rfl, hbase, ⟨_, _, _, hgb, .inl rfl⟩, r1, ?_, ?_⟩
    · have e : rd w'.heap gb = cur.toList := by unfold rd; rw [hgb]
      show ((rd w'.heap gb).drop 0).take _ = _
      rw [e, List.drop_zero, hl]; exact r4
    · have e : rd w'.heap gb = cur.toList := by unfold rd; rw [hgb]
      show 0 + cap * 1 ≤ (rd w'.heap gb).length
      rw [e, Array.length_toList, r3]; omega
def TM.written (T : TM) : List Int := sortZ (T.put.map (·.1))
theorem Written_spec {h : Heap} {F : Nat → Prop} {t d : Option Addr} {T : TM} {K : Value → Heap → Prop} (x : Tx h F t d T) (hp : T.put.length ≤ 1000000)
    (hK : ∀ a l c h', Fr No h h' → l = T.put.length → Sl h' 1 a l c (T.written.map (.int .i64)) (From h.size) → K (.slice a l c) h') : C.txn_Txn_Written t h K := by
  rcases x with ⟨col, r, rfl, X, hF⟩ | ⟨col, tb, rfl, X, hF⟩
  · have elen : T.put.length = r.ps.length := by rw [X.put, List.length_map]
    refine txn_Txn_Written.ok (os ⟨_, rda X.cell rfl, cf rfl (os ⟨_, rda X.cell rfl, ?_⟩)⟩)
    refine maps_Keys_map_int_byte_int_byte.ok (New.intro fun h2 n2 => ⟨_, rfl, ?_⟩)
    obtain ⟨D, dk, _⟩ := Tx.dk (.inl ⟨col, r, rfl, X, hF⟩ : Tx h F (some ⟨r.tb, 0, none⟩) d T)
    have hmax : T.N ≤ 16384 := dk.max.1
    refine Sorted_spec (f := fun x : Sc × Txt => x.1.v) (m := r.ps) n2.rd (map_fr X.map n2.fr fun x => x) (by omega) (fun p hp => ?_) fun a c h3 f3 s => ⟨_, _, _, rfl, ?_⟩
    · have := X.pk (p.1, p.2.2) (by rw [X.put]; exact List.mem_map.mpr ⟨p, hp, rfl⟩)
      simp only at this
      omega
    · have e : T.written = sortZ (r.ps.map (·.1)) := by
        unfold TM.written
        rw [X.put, List.map_map]; rfl
      rw [← e] at s
      exact hK a _ c h3 (n2.fr.no f3) elen.symm (s.mono fun b hb => Nat.le_trans n2.fr.size hb)
  · refine txn_Txn_Written.ok (os ⟨_, rda X.cell rfl, ct rfl ?_⟩)
    have e1 := X.gone.1
    have e : T.written = [] := by unfold TM.written; rw [e1]; exact List.mergeSort_nil
    have hK := hK none 0 0 h (Fr.refl _ _) (by rw [e1]; rfl)
    rw [e] at hK
    exact hK (Sl.nil _ _ _)
end Go.Proofs.YtjdcbblgaoogmaaGreatDoor.Tm
namespace Go.Proofs.YtjdcbblgaoogmaaGreatDoor.Ad
open Go Go.Proofs Go.Proofs.YtjdcbblgaoogmaaGreatDoor.Wx Go.Proofs.YtjdcbblgaoogmaaGreatDoor.Hp Go.Proofs.YtjdcbblgaoogmaaGreatDoor.W
theorem Steps_spec {d : Option Addr} {h : Heap} {K : Value → Heap → Prop} {S : RD} {col : Nat → Nat} {m : Nat} (D : DiskAt h d S col m)
    (hK : K (.tuple #[.int .i64 S.writes, .int .i64 S.flushes]) h) : C.adisk_Disk_Steps d h K := by
  obtain ⟨b, r, es, rfl, D⟩ := D
  refine adisk_Disk_Steps.ok ⟨_, D.field 5, _, D.field 6, ?_⟩
  rw [D.writes, D.flushes]; exact hK
theorem Down_spec {d : Option Addr} {h : Heap} {K : Value → Heap → Prop} {S : RD} {col : Nat → Nat} {m : Nat} (D : DiskAt h d S col m)
    (hK : K (.bool S.down) h) : C.adisk_Disk_Down d h K := by
  obtain ⟨b, r, es, rfl, D⟩ := D
  refine adisk_Disk_Down.ok ⟨_, D.field 4, ?_⟩
  rw [D.down]; exact hK
end Go.Proofs.YtjdcbblgaoogmaaGreatDoor.Ad
namespace Go.Proofs.YtjdcbblgaoogmaaGreatDoor.Ad
open Go Go.Proofs Go.Proofs.YtjdcbblgaoogmaaGreatDoor.Wx Go.Proofs.YtjdcbblgaoogmaaGreatDoor.Hp Go.Proofs.YtjdcbblgaoogmaaGreatDoor.W
/-- the blocks of a disk -/
def Dk (col : Nat → Nat) (m : Nat) : Nat → Prop := fun b => m ≤ col b ∧ col b ≤ m + 5
def applyTo (ls : List (List UInt8)) (ps : List (Int × List UInt8)) : List (List UInt8) := ps.foldl (fun l p => l.set p.1.toNat p.2) ls
def chosen (ps : List (Int × List UInt8)) (keep : List Bool) : List (Int × List UInt8) := ((ps.zip keep).filter (·.2)).map (·.1)
def RD.cut (S : RD) (keep : List Bool) : RD := { S with lasts := applyTo S.lasts (chosen S.pend keep), pend := [], keep := [], left := 0, down := true }
theorem applyTo_length (ps : List (Int × List UInt8)) : ∀ ls, (applyTo ls ps).length = ls.length := by
  induction ps with
  | nil => intro ls; rfl
  | cons p r ih => intro ls; simp only [applyTo, List.foldl_cons] at ih ⊢; rw [ih, List.length_set]
theorem chosen_snoc {ps : List (Int × List UInt8)} {keep : List Bool} {n : Nat} (h1 : n < ps.length) (h2 : n < keep.length) :
    chosen (ps.take (n + 1)) (keep.take (n + 1)) = chosen (ps.take n) (keep.take n) ++ (if keep[n] then [ps[n]] else []) := by
  rw [take_snoc _ _ h1, take_snoc _ _ h2]
  simp only [chosen]
  rw [List.zip_append (by rw [List.length_take, List.length_take]; omega), List.filter_append, List.map_append]
  congr 1
  cases keep[n] <;> rfl
theorem chosen_min (ps : List (Int × List UInt8)) (keep : List Bool) (n : Nat) (h : n = min ps.length keep.length) : chosen (ps.take n) (keep.take n) = chosen ps keep := by
  simp only [chosen]
  congr 2
  show List.zipWith _ _ _ = List.zipWith _ _ _
  rw [← List.take_zipWith, List.take_of_length_le (by rw [List.length_zipWith]; omega)]
theorem cut_spec {d : Option Addr} {ka : Option Addr} {kl kc : Nat} {keep : List Bool} {h : Heap} {K : Value → Heap → Prop} {S : RD} {col : Nat → Nat} {m : Nat} (D : DiskAt h d S col m)
    (hkl : keep.length = kl) (hk : SlCells h ka (keep.map .bool)) (hkc : ∀ p, ka = some p → keep ≠ [] → col p.block ≠ m + 1)
    (hK : ∀ h', Fr (Dk col m) h h' → DiskAt h' d (S.cut keep) col m → K (.tuple #[]) h') : C.adisk_Disk_cut d ka kl kc h K := by
  obtain ⟨b, r, es, rfl, D⟩ := D
  refine adisk_Disk_cut.ok ⟨_, _, _, D.field 1, ?_⟩
  have hN : (if (r.pn : Int) < (kl : Int) then (r.pn : Int) else (kl : Int)) = ((min S.pend.length keep.length : Nat) : Int) := by rw [D.pn, ← hkl]; split <;> omega
  rw [hN]
  have hNdef : min S.pend.length keep.length ≤ S.pend.length ∧ min S.pend.length keep.length ≤ keep.length := ⟨Nat.min_le_left _ _, Nat.min_le_right _ _⟩
  refine ⟨fun n hh => 0 ≤ n ∧ n ≤ (min S.pend.length keep.length : Nat) ∧ Fr (On col (m + 1)) h hh ∧ Disk hh b { S with lasts := applyTo S.lasts (chosen (S.pend.take n.toNat) (keep.take n.toNat)) } col m r es,
    fun n _ => ((min S.pend.length keep.length : Nat) - n).toNat, ⟨by omega, by omega, Fr.refl _ _, D⟩, ?_⟩
  rintro n h2 ⟨n0, n1, f2, D2⟩
  refine cd (fun hn => ?_) fun hn => ?_
  · have hn1 : n.toNat < S.pend.length := by omega
    have hn2 : n.toNat < keep.length := by omega
    obtain ⟨q, e', c'⟩ := D2.pendCells (S := { S with lasts := applyTo S.lasts (chosen (S.pend.take n.toNat) (keep.take n.toNat)) }) hn1 D2.p
    refine ⟨_, _, _, D2.field 1, ⟨n0, by rw [D.pn]; omega⟩, ?_⟩
    rw [e']
    have hp2 := D.pw _ (List.getElem_mem hn1)
    have hpl := pcell_len hp2
    refine ⟨_, hpl, c', NewRow.intro hpl (pcell_one _) (List.length_cons.trans (congrArg (· + 1) List.length_replicate)) fun h4 n4 => ⟨⟨n0, by omega⟩, ?_⟩⟩
    have f4 := f2.new n4
    have k4 := SlCells.fr f4 hk (fun p hp => hkc p hp (by rintro rfl; simp at hn2))
    have D4 := D2.keep' n4.fr (Ag.refl _ _) (fun _ _ _ x => x)
    have hw2 : IntKind.wrap .i64 (n + 1) = n + 1 := wrap_i64 (by omega) (by have := D.pmax; omega)
    have ht : (n + 1).toNat = n.toNat + 1 := by omega
    have hcs := chosen_snoc hn1 hn2
    cases ka with
    | none => have k4 : keep.map Value.bool = [] := k4; simp at k4; rw [k4] at hn2; simp at hn2
    | some kp =>
      refine os ⟨_, k4 n.toNat _ (by rw [List.getElem?_eq_getElem (by rw [List.length_map]; exact hn2), List.getElem_map]), ?_⟩
      rw [hw2]
      refine cs (fun hb => ?_) fun hb => ?_
      · obtain ⟨i0, i1⟩ := D.pi _ (List.getElem_mem hn1)
        have hlen := applyTo_length (chosen (S.pend.take n.toNat) (keep.take n.toNat)) S.lasts
        have hbl := blk_len hp2
        refine ⟨_, _, _, D4.field 0, _, rda n4.rd rfl, _, hbl, cellsa n4.rd (pcell_data _), ⟨i0, by rw [D4.ln]; show _ < ((applyTo _ _).length : Int); rw [hlen]; exact i1⟩, ?_⟩
        obtain ⟨p, e, _⟩ := D4.l.get (by rw [D4.ln]; show 0 < (applyTo _ _).length; rw [hlen]; omega)
        rw [e]
        have L := D4.l
        rw [e] at L
        have hpm := L.mk
        rw [hpm] at e L ⊢
        obtain ⟨w1, w2⟩ := L.wr
        have hl2 := L.1
        rw [flat_length blk 512 _ (fun x hx => blk_len (D4.lw x hx))] at hl2
        have hi : S.pend[n.toNat].1.toNat < (applyTo S.lasts (chosen (S.pend.take n.toNat) (keep.take n.toNat))).length := by rw [hlen]; omega
        have hr : S.pend[n.toNat].1.toNat * 512 + 512 ≤ r.ln * 512 := by
          have : r.ln = (applyTo S.lasts (chosen (S.pend.take n.toNat) (keep.take n.toNat))).length := D4.ln
          rw [this]; omega
        refine os (PutRow.add w1 hbl (bv_one _) (by omega) fun h5 d5 => ⟨⟨by omega, by omega, ?_, ?_⟩, falls hn⟩)
        · exact f4.did d5 (fun _ => L.2.2.1)
        · have D5 := D4.putLast hi hp2 e d5
          rw [ht, hcs, if_pos hb, applyTo, List.foldl_append]
          exact D5
      · refine ⟨⟨by omega, by omega, f4, ?_⟩, falls hn⟩
        rw [ht, hcs, if_neg (by rw [hb]; exact Bool.false_ne_true), List.append_nil]
        exact D4
  · have e : n.toNat = min S.pend.length keep.length := by omega
    rw [e, chosen_min _ _ _ rfl] at D2
    have hsb : col b = m := D.sc
    have dk : b < h.size → Dk col m b := fun _ => ⟨by omega, by omega⟩
    have F2 : Fr (Dk col m) h h2 := f2.mono fun x _ hx => by have hx : col x = m + 1 := hx; exact ⟨by omega, by omega⟩
    have P2 := D2.toParts
    refine os (Put.add D2.so (by rw [D2.sr]; exact (by decide : 0 + 1 < 8)) fun h6 d6 => ?_)
    rw [D2.sr] at d6
    have P6 : Parts h6 { (S.cut keep) with keep := S.keep, left := S.left, down := S.down } col m { r with pa := none, pn := 0, pc := 0 } es := by
      have Q := P2.keep d6.fr (Ag.refl _ _) (fun x h1 _ e => by rw [e] at h1; omega)
      exact ⟨Q.left, Q.leftb, Q.down, Q.writes, Q.flushes, Q.l, Q.lw, Q.ln, Q.lmax, Sl.nil _ _ _, (fun x hx => by simp [RD.cut] at hx), rfl, (fun x hx => by simp [RD.cut] at hx), Nat.zero_le _, Q.k, Q.kn, Q.t, Q.tn, Q.tmax, Q.ts⟩
    refine os (Put.add d6.own (by rw [d6.rd]; exact (by decide : 0 + 3 < 8)) fun h7 d7 => ?_)
    rw [d6.rd] at d7
    refine os (Put.add d7.own (by rw [d7.rd]; exact (by decide : 0 + 2 < 8)) fun h8 d8 => ?_)
    rw [d7.rd] at d8
    refine os (Put.add d8.own (by rw [d8.rd]; exact (by decide : 0 + 4 < 8)) fun h9 d9 => ?_)
    rw [d8.rd] at d9
    have hF : ∀ x, m + 1 ≤ col x → col x ≤ m + 5 → ¬ (x = b) := fun x h1 _ e => by rw [e] at h1; omega
    have P8 := ((P6.keep d7.fr (Ag.refl _ _) hF).keep d8.fr (Ag.refl _ _) hF)
    refine hK h9 ((((F2.did d6 dk).did d7 dk).did d8 dk).did d9 dk) ⟨b, { r with pa := none, pn := 0, pc := 0, ka := none, kn := 0, kc := 0, left := 0, down := true }, es, rfl, ?_⟩
    refine Disk.re ?_ D.sc d9
    exact ⟨rfl, ⟨Int.le_refl _, (by decide : (0 : Int) ≤ 9223372036854775807)⟩, rfl, P8.writes, P8.flushes, P8.l, P8.lw, P8.ln, P8.lmax, P8.p, P8.pw, P8.pn, P8.pi, P8.pmax, Sl.nil _ _ _, rfl, P8.t, P8.tn, P8.tmax, P8.ts⟩
end Go.Proofs.YtjdcbblgaoogmaaGreatDoor.Ad
namespace Go.Proofs.YtjdcbblgaoogmaaGreatDoor.Ad
open Go Go.Proofs Go.Proofs.YtjdcbblgaoogmaaGreatDoor.Wx Go.Proofs.YtjdcbblgaoogmaaGreatDoor.Hp Go.Proofs.YtjdcbblgaoogmaaGreatDoor.W
theorem Crash_spec {d : Option Addr} {ka : Option Addr} {kl kc : Nat} {keep : List Bool} {h : Heap} {K : Value → Heap → Prop} {S : RD} {col : Nat → Nat} {m : Nat} (D : DiskAt h d S col m)
    (hkl : keep.length = kl) (hk : SlCells h ka (keep.map .bool)) (hkc : ∀ p, ka = some p → keep ≠ [] → col p.block ≠ m + 1)
    (hK : ∀ h', Fr (Dk col m) h h' → DiskAt h' d (if S.down then S else S.cut keep) col m → K (.tuple #[]) h') : C.adisk_Disk_Crash d ka kl kc h K := by
  have D0 := D
  obtain ⟨b, r, es, rfl, D⟩ := D
  refine adisk_Disk_Crash.ok ⟨_, D.field 4, cnot ?_⟩
  rw [D.down]
  cases hd : S.down with
  | true => rw [hd] at hK; exact hK h (Fr.refl _ _) D0
  | false => rw [hd] at hK; exact cut_spec D0 hkl hk hkc fun h' f D' => ⟨rfl, hK h' f D'⟩
end Go.Proofs.YtjdcbblgaoogmaaGreatDoor.Ad
namespace Go.Proofs.YtjdcbblgaoogmaaGreatDoor.Ad
open Go Go.Proofs Go.Proofs.YtjdcbblgaoogmaaGreatDoor.Wx Go.Proofs.YtjdcbblgaoogmaaGreatDoor.Hp Go.Proofs.YtjdcbblgaoogmaaGreatDoor.W
def RD.step (S : RD) (f : RD → RD) : RD × Int :=
  if 0 < S.left then (if S.left - 1 = 0 then (RD.cut { S with left := S.left - 1 } S.keep, 30) else (f { S with left := S.left - 1 }, 0)) else (f S, 0)
theorem step_spec {d : Option Addr} {v : Value} {h : Heap} {K : Value → Heap → Prop} {S : RD} {col : Nat → Nat} {m : Nat} {f : RD → RD} (D : DiskAt h d S col m) (hv : isFnV v = true)
    (hn : isNilFn v = true → ∀ S', f S' = S')
    (hc : isNilFn v = false → ∀ (S' : RD) (h2 : Heap) (K' : Value → Heap → Prop), (S' = S ∨ S' = { S with left := S.left - 1 }) → Fr (Dk col m) h h2 → DiskAt h2 d S' col m →
      (∀ h3 col', Fr (Dk col m) h2 h3 → Ag h2.size col col' → DiskAt h3 d (f S') col' m → K' (.tuple #[]) h3) → HCallsV Tryz.prog v [] h2 K')
    (hK : ∀ h' col', Fr (Dk col m) h h' → Ag h.size col col' → DiskAt h' d (S.step f).1 col' m → K (.int .i64 (S.step f).2) h') : C.adisk_Disk_step d v h K := by
  have D0 := D
  obtain ⟨b, r, es, rfl, D⟩ := D
  have go : ∀ S' h2, (S' = S ∨ S' = { S with left := S.left - 1 }) → Fr (Dk col m) h h2 → DiskAt h2 (some ⟨b, 0, none⟩) S' col m → (S.step f) = (f S', 0) →
      (isFnV v = true ∧ bif !(isNilFn v) then (HCallsV Tryz.prog v [] h2 fun r2 h4 => r2 = .tuple #[] ∧ K (.int .i64 0) h4) else (K (.int .i64 0) h2)) := by
    intro S' h2 hS f2 D2 e
    refine ⟨hv, cnot (cs (fun e1 => ?_) fun e1 => ?_)⟩
    · have := hK h2 col f2 (Ag.refl _ _) (by rw [e, hn e1]; exact D2)
      rw [e] at this; exact this
    · refine hc e1 S' h2 _ hS f2 D2 fun h3 col' f3 g3 D3 => ⟨rfl, ?_⟩
      have := hK h3 col' (f2.trans f3 fun _ _ x => x) (g3.le f2.size) (by rw [e]; exact D3)
      rw [e] at this; exact this
  have hlb := D.leftb
  refine adisk_Disk_step.ok ⟨_, D.field 2, ?_⟩
  rw [D.left]
  refine cd (fun hp => ?_) fun hp => go S h (Or.inl rfl) (Fr.refl _ _) D0 (by rw [RD.step, if_neg (by omega)])
  refine os ⟨_, D.field 2, os (Put.add D.so (by rw [D.sr]; exact (by decide : 0 + 2 < 8)) fun h2 d2 => ?_)⟩
  rw [D.left, wrap_i64 (by omega) (by omega), D.sr] at d2
  have D2 : Disk h2 b { S with left := S.left - 1 } col m { r with left := S.left - 1 } es := by
    refine Disk.re ?_ D.sc d2
    exact ⟨rfl, ⟨by show 0 ≤ S.left - 1; omega, by show S.left - 1 ≤ _; omega⟩, D.down, D.writes, D.flushes, D.l, D.lw, D.ln, D.lmax, D.p, D.pw, D.pn, D.pi, D.pmax, D.k, D.kn, D.t, D.tn, D.tmax, D.ts⟩
  have f2 : Fr (Dk col m) h h2 := (Fr.refl _ _).did d2 fun _ => ⟨by rw [D.sc]; omega, by rw [D.sc]; omega⟩
  refine os ⟨_, D2.field 2, ce (fun e => ?_) fun e => go _ h2 (Or.inr rfl) f2 ⟨_, _, _, rfl, D2⟩ (by rw [RD.step, if_pos (by omega), if_neg e])⟩
  have e : S.left - 1 = 0 := e
  refine os ⟨_, _, _, D2.field 3, ?_⟩
  refine cut_spec (keep := S.keep) ⟨_, _, _, rfl, D2⟩ D2.kn.symm D2.k.cells (fun p hp _ => ?_) fun h3 f3 D3 => ⟨rfl, ?_⟩
  · have hk := D2.k
    rw [show ({ r with left := S.left - 1 } : Raw).ka = some p from hp] at hk
    have : col p.block = m + 3 := hk.2.2.1
    omega
  · have hs : S.step f = (RD.cut { S with left := S.left - 1 } S.keep, 30) := by rw [RD.step, if_pos (by omega), if_pos e]
    have := hK h3 col (f2.trans f3 fun _ _ x => x) (Ag.refl _ _) (by rw [hs]; exact D3)
    rw [hs] at this; exact this
theorem Ents.snoc {h : Heap} {col : Nat → Nat} {k : Nat} {e : Ent} {t : Int × Int × List UInt8} (h1 : e.kind = t.1) (h2 : e.at_ = t.2.1) (h3 : StrAt h e.a e.l t.2.2) (h4 : ∀ p, e.a = some p → p.block < h.size ∧ col p.block = k) :
    ∀ {es : List Ent} {ts : List (Int × Int × List UInt8)}, Ents h col k es ts → Ents h col k (es ++ [e]) (ts ++ [t]) := by
  intro es
  induction es with
  | nil => intro ts x; cases ts with
    | nil => exact ⟨h1, h2, h3, h4, trivial⟩
    | cons _ _ => exact x.elim
  | cons y r ih => intro ts x; cases ts with
    | nil => exact x.elim
    | cons t' s => exact ⟨x.1, x.2.1, x.2.2.1, x.2.2.2.1, ih x.2.2.2.2⟩
def RD.putW (S : RD) (i : Int) (b : List UInt8) : RD := { S with pend := S.pend ++ [(i, b)], tape := S.tape ++ [(1, i, b)], writes := IntKind.wrap .i64 (S.writes + 1) }
def RD.write (S : RD) (i : Int) (b : List UInt8) : RD × Int :=
  if S.down then (S, 30) else if ¬ (0 ≤ i ∧ i < S.lasts.length) then (S, 31) else if b.length ≠ 512 then (S, 32) else (S.putW i b).step id
theorem Write_spec {d : Option Addr} {i : Int} {a : Option Addr} {l c : Nat} {bs : List UInt8} {h : Heap} {K : Value → Heap → Prop} {S : RD} {col : Nat → Nat} {m : Nat} (D : DiskAt h d S col m)
    (B : StrAt h a l bs) (hac : ∀ p, a = some p → bs ≠ [] → ¬ Dk col m p.block) (hp : S.pend.length < 1000000000) (ht : S.tape.length < 1000000000)
    (hK : ∀ h' col', Fr (Dk col m) h h' → Ag h.size col col' → DiskAt h' d (S.write i bs).1 col' m → K (.int .i64 (S.write i bs).2) h') : C.adisk_Disk_Write d i a l c h K := by
  have D0 := D
  obtain ⟨b, r, es, rfl, D⟩ := D
  have hbl := B.1
  refine adisk_Disk_Write.ok ⟨_, D.field 4, ?_⟩
  rw [D.down]
  refine cs (fun e => ?_) fun e => ?_
  · have := hK h col (Fr.refl _ _) (Ag.refl _ _)
    rw [RD.write, if_pos e] at this; exact this D0
  refine has_spec D0 ⟨_, rfl, cnot (cd (fun hi => cn (fun x => ?_) fun x => ?_) fun hi => ?_)⟩
  rotate_left
  rotate_left
  · have := hK h col (Fr.refl _ _) (Ag.refl _ _)
    rw [RD.write, if_neg (by rw [e]; exact Bool.false_ne_true), if_pos hi] at this; exact this D0
  · have := hK h col (Fr.refl _ _) (Ag.refl _ _)
    rw [RD.write, if_neg (by rw [e]; exact Bool.false_ne_true), if_neg (fun y => y hi), if_pos (by omega)] at this; exact this D0
  have hl : bs.length = 512 := by omega
  have hcl : (bs.map bv).length = 512 := by rw [List.length_map, hl]
  refine os ⟨_, _, _, D.field 1, by omega, ?_⟩
  have B2 := B.2
  cases a with
  | none => have : bs.map bv = [] := B2; rw [this] at hcl; exact absurd hcl (by decide)
  | some ap =>
  have hn : (pcell (i, bs)).length = 513 := pcell_len hl
  refine os ⟨bs.map bv, hcl, B2, hcl, hn, New.intro fun h3 n3 => ?_⟩
  have D3 := D.keep' n3.fr (Ag.refl _ _) (fun _ _ _ x => x)
  refine ⟨D3.field 1, pcell (i, bs), by rw [hn], cellsAll n3.rd, pcell_one _, ?_⟩
  rw [D.pn]
  have Dp := D3.p
  rw [D.pn] at Dp
  refine append_col Dp (by rw [hn]; rfl) (List.length_cons.trans (congrArg (· + 1) List.length_replicate)) (by show (S.pend.length + 1) * 520 ≤ _; omega) (by omega) fun a4 c4 h4 f4 s4 => ?_
  -- after the append to what is pending
  have g4 : Ag h3.size col (upd col h3.size (m + 2)) := ag_upd _ _ _
  have e4 : (S.pend ++ [(i, bs)]).flatMap pcell = S.pend.flatMap pcell ++ pcell (i, bs) := by rw [List.flatMap_append, List.flatMap_singleton]
  have hne : ∀ k, k ≠ m + 2 → ∀ x, col x = k → ¬ On col (m + 2) x := fun k hk x hx y => hk (hx.symm.trans y)
  have sb3 := D3.so.lt
  have nsb : ¬ On col (m + 2) b := hne m (by omega) b D.sc
  have P4 : Parts h4 { S with pend := S.pend ++ [(i, bs)] } (upd col h3.size (m + 2)) m { r with pa := a4, pn := S.pend.length + 1, pc := c4 } es := by
    refine ⟨D3.left, D3.leftb, D3.down, D3.writes, D3.flushes, D3.l.keep f4 g4 (hne _ (by omega)), D3.lw, D3.ln, D3.lmax, by rw [e4]; exact s4, ?_, by simp, ?_, by simp only [List.length_append, List.length_singleton]; omega, D3.k.keep f4 g4 (hne _ (by omega)), D3.kn, D3.t.keep f4 g4 (hne _ (by omega)), D3.tn, D3.tmax, Ents.keep f4 g4 (hne _ (by omega)) D3.ts⟩
    · intro x hx; rcases List.mem_append.mp hx with hx | hx
      · exact D3.pw x hx
      · rw [List.mem_singleton.mp hx]; exact hl
    · intro x hx; rcases List.mem_append.mp hx with hx | hx
      · exact D3.pi x hx
      · rw [List.mem_singleton.mp hx]; exact hi
  have sc4 : upd col h3.size (m + 2) b = m := (g4 b sb3).trans D.sc
  have r4 := (f4.rd sb3 nsb).trans D3.sr
  refine os (Put.add (f4.own sb3 nsb D3.so) (by rw [r4]; exact (by decide : 0 + 1 < 8)) fun h5 d5 => ?_)
  rw [r4] at d5
  have D5 := Disk.re P4 sc4 d5
  refine os ⟨_, _, _, D5.field 7, ?_⟩
  have F3 : Fr (Dk col m) h h3 := (n3.fr).mono fun _ _ x => x.elim
  have F4 : Fr (Dk col m) h h4 := F3.trans f4 fun x _ hx => by have hx : col x = m + 2 := hx; exact ⟨by omega, by omega⟩
  have F5 : Fr (Dk col m) h h5 := F4.did d5 fun _ => ⟨by rw [D.sc]; omega, by rw [D.sc]; omega⟩
  refine Clone_spec (StrAt.fr F5 B fun p hp => hac p hp (by rintro rfl; exact absurd hl (by decide))) (by omega) fun a6 c6 h6 f6 s6 => ⟨_, _, _, rfl, ?_⟩
  have g6 : Ag h5.size (upd col h3.size (m + 2)) (upd (upd col h3.size (m + 2)) h5.size (m + 5)) := ag_upd _ _ _
  have D6 := D5.keep' f6 g6 (fun _ _ _ x => x)
  refine ⟨D6.field 7, rfl, New.intro fun h7 n7 => ?_⟩
  have D7 := D6.keep' n7.fr (Ag.refl _ _) (fun _ _ _ x => x)
  have s7 := s6.fr n7.fr fun _ _ _ x => x
  refine ⟨D7.field 7, _, rfl, cellsAll n7.rd, ?_, ?_⟩
  · intro v hv; simp only [List.mem_cons, List.not_mem_nil, or_false] at hv; rcases hv with rfl | rfl | rfl <;> rfl
  have hel := Ents.length D.ts
  have htn := D.tn
  refine append_col D7.t rfl rfl (by show (r.tn + 1) * 40 ≤ _; omega) (by show r.tn + 1 ≤ _; omega) fun a8 c8 h8 f8 s8 => ?_
  have hs6 := f6.size
  have hs7 := n7.size
  have c6k : ∀ x, h5.size ≤ x → upd (upd col h3.size (m + 2)) h5.size (m + 5) x = m + 5 := fun x hx => upd_ge hx
  have g8 : Ag h7.size (upd (upd col h3.size (m + 2)) h5.size (m + 5)) (upd (upd (upd col h3.size (m + 2)) h5.size (m + 5)) h7.size (m + 4)) := ag_upd _ _ _
  have hne8 : ∀ k, k ≠ m + 4 → ∀ x, upd (upd col h3.size (m + 2)) h5.size (m + 5) x = k → ¬ On (upd (upd col h3.size (m + 2)) h5.size (m + 5)) (m + 4) x := fun k hk x hx y => hk (hx.symm.trans y)
  have sb7 := D7.so.lt
  have nsb8 := hne8 m (by omega) b D7.sc
  have hnew : ∀ p, a6 = some p → p.block < h7.size ∧ upd (upd col h3.size (m + 2)) h5.size (m + 5) p.block = m + 5 := by
    intro p hp; subst hp; exact ⟨s7.lt, c6k _ s7.2.2.1⟩
  have e8 : (es ++ [Ent.mk 1 i a6 l c6]).flatMap Ent.cells = es.flatMap Ent.cells ++ [.int .i64 1, .int .i64 i, .slice a6 l c6] := by rw [List.flatMap_append, List.flatMap_singleton]; rfl
  have P8 : Parts h8 { S with pend := S.pend ++ [(i, bs)], tape := S.tape ++ [(1, i, bs)] } (upd (upd (upd col h3.size (m + 2)) h5.size (m + 5)) h7.size (m + 4)) m { r with pa := a4, pn := S.pend.length + 1, pc := c4, ta := a8, tn := r.tn + 1, tc := c8 } (es ++ [⟨1, i, a6, l, c6⟩]) := by
    refine ⟨D7.left, D7.leftb, D7.down, D7.writes, D7.flushes, D7.l.keep f8 g8 (hne8 _ (by omega)), D7.lw, D7.ln, D7.lmax, D7.p.keep f8 g8 (hne8 _ (by omega)), D7.pw, D7.pn, D7.pi, D7.pmax, D7.k.keep f8 g8 (hne8 _ (by omega)), D7.kn, ?_, ?_, ?_, ?_⟩
    · rw [e8]; exact s8
    · simp only [List.length_append, List.length_singleton]; omega
    · simp only [List.length_append, List.length_singleton]; omega
    · refine Ents.snoc rfl rfl (StrAt.fr f8 s7.str fun p hp => hne8 _ (by omega) _ (hnew p hp).2) (fun p hp => ⟨Nat.lt_of_lt_of_le (hnew p hp).1 f8.size, (g8 _ (hnew p hp).1).trans (hnew p hp).2⟩) (Ents.keep f8 g8 (hne8 _ (by omega)) D7.ts)
  have r8 := (f8.rd sb7 nsb8).trans D7.sr
  have sc8 := (g8 b sb7).trans D7.sc
  refine os (Put.add (f8.own sb7 nsb8 D7.so) (by rw [r8]; exact (by decide : 0 + 7 < 8)) fun h9 d9 => ?_)
  rw [r8] at d9
  have D9 := Disk.re P8 sc8 d9
  refine os ⟨_, D9.field 5, os (Put.add D9.so (by rw [D9.sr]; exact (by decide : 0 + 5 < 8)) fun h10 d10 => ?_)⟩
  rw [D9.sr] at d10
  have D10 : Disk h10 b (S.putW i bs) (upd (upd (upd col h3.size (m + 2)) h5.size (m + 5)) h7.size (m + 4)) m { r with pa := a4, pn := S.pend.length + 1, pc := c4, ta := a8, tn := r.tn + 1, tc := c8, writes := IntKind.wrap .i64 (r.writes + 1) } (es ++ [⟨1, i, a6, l, c6⟩]) := by
    refine Disk.re ?_ sc8 d10
    exact ⟨D9.left, D9.leftb, D9.down, by show IntKind.wrap .i64 (r.writes + 1) = IntKind.wrap .i64 (S.writes + 1); rw [D.writes], D9.flushes, D9.l, D9.lw, D9.ln, D9.lmax, D9.p, D9.pw, D9.pn, D9.pi, D9.pmax, D9.k, D9.kn, D9.t, D9.tn, D9.tmax, D9.ts⟩
  have dkb : b < h.size → Dk col m b := fun _ => ⟨by rw [D.sc]; omega, by rw [D.sc]; omega⟩
  have hs35 : h.size ≤ h3.size := by have := n3.size; omega
  have hs45 : h3.size ≤ h5.size := by have := f4.size; have := d5.size; omega
  have gg : Ag h.size col (upd (upd (upd col h3.size (m + 2)) h5.size (m + 5)) h7.size (m + 4)) :=
    (g4.le hs35).trans ((g6.le hs45).trans (g8.le (by omega)) (Nat.le_refl _)) (by omega)
  have F8 : Fr (Dk col m) h h8 := ((F5.no f6).new n7).trans f8 fun x hx y => by
    have y : upd (upd col h3.size (m + 2)) h5.size (m + 5) x = m + 4 := y
    rw [upd_lt (by omega), upd_lt (by omega)] at y
    exact ⟨by omega, by omega⟩
  have F10 := (F8.did d9 dkb).did d10 dkb
  refine step_spec (v := .nilFunc) (f := id) ⟨b, _, _, rfl, D10⟩ rfl (fun _ _ => rfl) (fun x => Bool.noConfusion x) fun h' col' f' g' D' => ⟨_, rfl, ?_⟩
  have hw : S.write i bs = (S.putW i bs).step id := by rw [RD.write, if_neg (by rw [e]; exact Bool.false_ne_true), if_neg (fun y => y hi), if_neg (fun y => y hl)]
  have := hK h' col' (F10.trans f' fun x hx y => by have e := gg x hx; exact ⟨by have := y.1; omega, by have := y.2; omega⟩) (gg.trans g' F10.size) (by rw [hw]; exact D')
  rw [hw] at this; exact this
end Go.Proofs.YtjdcbblgaoogmaaGreatDoor.Ad
namespace Go.Proofs.YtjdcbblgaoogmaaGreatDoor.Ad
open Go Go.Proofs Go.Proofs.YtjdcbblgaoogmaaGreatDoor.Wx Go.Proofs.YtjdcbblgaoogmaaGreatDoor.Hp Go.Proofs.YtjdcbblgaoogmaaGreatDoor.W
def RD.flushed (S : RD) : RD := { S with lasts := applyTo S.lasts S.pend, pend := [], tape := S.tape ++ [(2, 0, [])] }
def RD.flush (S : RD) : RD × Int := if S.down then (S, 30) else RD.step { S with flushes := IntKind.wrap .i64 (S.flushes + 1) } RD.flushed
theorem Flush_c1_spec {d : Option Addr} {cb : Nat} {h : Heap} {K : Value → Heap → Prop} {S : RD} {col : Nat → Nat} {m : Nat} (D : DiskAt h d S col m)
    (hc : rd h cb = [.pointer d]) (hcl : cb < h.size) (hcc : ¬ Dk col m cb) (ht : S.tape.length < 1000000000)
    (hK : ∀ h' col', Fr (Dk col m) h h' → Ag h.size col col' → DiskAt h' d S.flushed col' m → K (.tuple #[]) h') : C.adisk_Disk_Flush_c1 (some ⟨cb, 0, none⟩) h K := by
  obtain ⟨b, r, es, rfl, D⟩ := D
  refine adisk_Disk_Flush_c1.ok (os ⟨_, rdc hc rfl, os ⟨_, _, _, D.field 1, ?_⟩⟩)
  rw [D.pn]
  refine ⟨fun n hh => 0 ≤ n ∧ n ≤ S.pend.length ∧ Fr (On col (m + 1)) h hh ∧ Disk hh b { S with lasts := applyTo S.lasts (S.pend.take n.toNat) } col m r es,
    fun n _ => (S.pend.length - n).toNat, ⟨by omega, by omega, Fr.refl _ _, D⟩, ?_⟩
  rintro n h2 ⟨n0, n1, f2, D2⟩
  have hc1 : ¬ On col (m + 1) cb := fun x => hcc ⟨by have x : col cb = m + 1 := x; omega, by have x : col cb = m + 1 := x; omega⟩
  have c2 : rd h2 cb = [.pointer (some ⟨b, 0, none⟩)] := (f2.rd hcl hc1).trans hc
  have hcl2 : cb < h2.size := Nat.lt_of_lt_of_le hcl f2.size
  have hbc : b ≠ cb := fun e => hcc ⟨by rw [← e, D.sc]; omega, by rw [← e, D.sc]; omega⟩
  refine cd (fun hn => ?_) fun hn => ?_
  · have hn1 : n.toNat < S.pend.length := by omega
    obtain ⟨q, e', c'⟩ := D2.pendCells (S := { S with lasts := applyTo S.lasts (S.pend.take n.toNat) }) hn1 D2.p
    refine ⟨⟨n0, hn⟩, ?_⟩
    rw [e']
    have hp2 := D.pw _ (List.getElem_mem hn1)
    have hpl := pcell_len hp2
    refine os ⟨_, hpl, c', NewRow.intro hpl (pcell_one _) (List.length_cons.trans (congrArg (· + 1) List.length_replicate)) fun h4 n4 => ?_⟩
    have f4 := f2.new n4
    have D4 := D2.keep' n4.fr (Ag.refl _ _) (fun _ _ _ x => x)
    have hw2 : IntKind.wrap .i64 (n + 1) = n + 1 := wrap_i64 (by omega) (by have := D.pmax; omega)
    have ht : (n + 1).toNat = n.toNat + 1 := by omega
    obtain ⟨i0, i1⟩ := D.pi _ (List.getElem_mem hn1)
    have hlen := applyTo_length (S.pend.take n.toNat) S.lasts
    have hbl := blk_len hp2
    refine os ⟨_, rdc ((n4.at_ hcl2).trans c2) rfl, os ⟨_, _, _, D4.field 0, _, rda n4.rd rfl, _, hbl, cellsa n4.rd (pcell_data _), ⟨i0, by rw [D4.ln]; show _ < ((applyTo _ _).length : Int); rw [hlen]; exact i1⟩, ?_⟩⟩
    obtain ⟨p, e, _⟩ := D4.l.get (by rw [D4.ln]; show 0 < (applyTo _ _).length; rw [hlen]; omega)
    rw [e]
    have L := D4.l
    rw [e] at L
    have hpm := L.mk
    rw [hpm] at e L ⊢
    obtain ⟨w1, w2⟩ := L.wr
    have hi : S.pend[n.toNat].1.toNat < (applyTo S.lasts (S.pend.take n.toNat)).length := by rw [hlen]; omega
    have hr : S.pend[n.toNat].1.toNat * 512 + 512 ≤ r.ln * 512 := by
      have : r.ln = (applyTo S.lasts (S.pend.take n.toNat)).length := D4.ln
      rw [this]; omega
    rw [hw2]
    refine os (PutRow.add w1 hbl (bv_one _) (by omega) fun h5 d5 => ⟨⟨by omega, by omega, f4.did d5 (fun _ => L.2.2.1), ?_⟩, falls hn⟩)
    have D5 := D4.putLast hi hp2 e d5
    rw [ht, take_snoc _ _ hn1, applyTo, List.foldl_append]
    exact D5
  · rw [List.take_of_length_le (by omega)] at D2
    have dk : b < h.size → Dk col m b := fun _ => ⟨by rw [D.sc]; omega, by rw [D.sc]; omega⟩
    have F2 : Fr (Dk col m) h h2 := f2.mono fun x _ hx => by have hx : col x = m + 1 := hx; exact ⟨by omega, by omega⟩
    refine os ⟨_, rdc c2 rfl, os (Put.add D2.so (by rw [D2.sr]; exact (by decide : 0 + 1 < 8)) fun h6 d6 => ?_)⟩
    rw [D2.sr] at d6
    have D6 : Disk h6 b { S with lasts := applyTo S.lasts S.pend, pend := [] } col m { r with pa := none, pn := 0, pc := 0 } es := by
      refine Disk.re ?_ D.sc d6
      have Q := D2.toParts
      exact ⟨Q.left, Q.leftb, Q.down, Q.writes, Q.flushes, Q.l, Q.lw, Q.ln, Q.lmax, Sl.nil _ _ _, (fun x hx => by simp at hx), rfl, (fun x hx => by simp at hx), Nat.zero_le _, Q.k, Q.kn, Q.t, Q.tn, Q.tmax, Q.ts⟩
    have c6 : rd h6 cb = [.pointer (some ⟨b, 0, none⟩)] := (d6.at_ hcl2 (Ne.symm hbc)).trans c2
    have hcl6 : cb < h6.size := by rw [d6.size]; exact hcl2
    refine os ⟨_, rdc c6 rfl, os ⟨_, rdc c6 rfl, os ⟨_, _, _, D6.field 7, rfl, New.intro fun h7 n7 => ?_⟩⟩⟩
    have c7 := (n7.at_ hcl6).trans c6
    have D7 := D6.keep' n7.fr (Ag.refl _ _) (fun _ _ _ x => x)
    refine ⟨rdc c7 rfl, rdc c7 rfl, D7.field 7, _, rfl, cellsAll n7.rd, ?_, ?_⟩
    · intro v hv; simp only [List.mem_cons, List.not_mem_nil, or_false] at hv; rcases hv with rfl | rfl | rfl <;> rfl
    have hel := Ents.length D.ts
    have htn := D.tn
    refine append_col D7.t rfl rfl (by show (r.tn + 1) * 40 ≤ _; omega) (by show r.tn + 1 ≤ _; omega) fun a8 c8 h8 f8 s8 => ?_
    have g8 : Ag h7.size col (upd col h7.size (m + 4)) := ag_upd _ _ _
    have hne8 : ∀ k, k ≠ m + 4 → ∀ x, col x = k → ¬ On col (m + 4) x := fun k hk x hx y => hk (hx.symm.trans y)
    have hcc8 : ¬ On col (m + 4) cb := fun x => hcc ⟨by have x : col cb = m + 4 := x; omega, by have x : col cb = m + 4 := x; omega⟩
    have hcl7 : cb < h7.size := by rw [n7.size]; omega
    have sb7 := D7.so.lt
    have nsb8 := hne8 m (by omega) b D7.sc
    have e8 : (es ++ [Ent.mk 2 0 none 0 0]).flatMap Ent.cells = es.flatMap Ent.cells ++ [.int .i64 2, .int .i64 0, .slice none 0 0] := by rw [List.flatMap_append, List.flatMap_singleton]; rfl
    have P8 : Parts h8 S.flushed (upd col h7.size (m + 4)) m { r with pa := none, pn := 0, pc := 0, ta := a8, tn := r.tn + 1, tc := c8 } (es ++ [⟨2, 0, none, 0, 0⟩]) := by
      refine ⟨D7.left, D7.leftb, D7.down, D7.writes, D7.flushes, D7.l.keep f8 g8 (hne8 _ (by omega)), D7.lw, D7.ln, D7.lmax, D7.p.keep f8 g8 (hne8 _ (by omega)), D7.pw, D7.pn, D7.pi, D7.pmax, D7.k.keep f8 g8 (hne8 _ (by omega)), D7.kn, ?_, ?_, ?_, ?_⟩
      · rw [e8]; exact s8
      · simp only [List.length_append, List.length_singleton]; omega
      · simp only [List.length_append, List.length_singleton]; omega
      · exact Ents.snoc rfl rfl (StrAt.nil _ _) (fun p hp => by cases hp) (Ents.keep f8 g8 (hne8 _ (by omega)) D7.ts)
    have r8 := (f8.rd sb7 nsb8).trans D7.sr
    have sc8 := (g8 b sb7).trans D7.sc
    refine ⟨rdc ((f8.rd hcl7 hcc8).trans c7) rfl, os (Put.add (f8.own sb7 nsb8 D7.so) (by rw [r8]; exact (by decide : 0 + 7 < 8)) fun h9 d9 => ?_)⟩
    rw [r8] at d9
    have D9 := Disk.re P8 sc8 d9
    have hs := f2.size
    have F8 : Fr (Dk col m) h h8 := ((F2.did d6 dk).new n7).trans f8 fun x hx y => by
      have y : col x = m + 4 := y
      exact ⟨by omega, by omega⟩
    refine hK h9 (upd col h7.size (m + 4)) (F8.did d9 dk) (g8.le ?_) ⟨b, _, _, rfl, D9⟩
    have := n7.size; have := d6.size; omega
theorem Flush_spec {d : Option Addr} {h : Heap} {K : Value → Heap → Prop} {S : RD} {col : Nat → Nat} {m : Nat} (D : DiskAt h d S col m) (ht : S.tape.length < 1000000000)
    (hK : ∀ h' col', Fr (Dk col m) h h' → Ag h.size col col' → DiskAt h' d S.flush.1 col' m → K (.int .i64 S.flush.2) h') : C.adisk_Disk_Flush d h K := by
  refine adisk_Disk_Flush.ok (New.intro fun h2 n2 => ⟨_, rdc n2.rd rfl, ?_⟩)
  have g2 : Ag h.size col (upd col h.size (m + 6)) := ag_upd _ _ _
  have D2 := D.keep n2.fr g2 (fun _ _ _ x => x)
  have D20 := D2
  have F2 : Fr (Dk col m) h h2 := n2.fr.mono fun _ _ x => x.elim
  obtain ⟨b, r, es, rfl, D2⟩ := D2
  refine os ⟨_, D2.field 4, ?_⟩
  rw [D2.down]
  refine cs (fun e => ?_) fun e => ?_
  · have := hK h2 _ F2 g2
    rw [RD.flush, if_pos e] at this; exact this D20
  have hcb : upd col h.size (m + 6) h.size = m + 6 := upd_ge (Nat.le_refl _)
  have hbc : h.size ≠ b := fun x => by have := D2.sc; rw [← x] at this; omega
  have hs2 := n2.size
  refine ⟨_, rdc n2.rd rfl, os ⟨_, D2.field 6, os (Put.add D2.so (by rw [D2.sr]; exact (by decide : 0 + 6 < 8)) fun h3 d3 => ?_)⟩⟩
  rw [D2.sr] at d3
  have D3 : Disk h3 b { S with flushes := IntKind.wrap .i64 (S.flushes + 1) } (upd col h.size (m + 6)) m { r with flushes := IntKind.wrap .i64 (r.flushes + 1) } es := by
    refine Disk.re ?_ D2.sc d3
    exact ⟨D2.left, D2.leftb, D2.down, D2.writes, by show IntKind.wrap .i64 (r.flushes + 1) = IntKind.wrap .i64 (S.flushes + 1); rw [D2.flushes], D2.l, D2.lw, D2.ln, D2.lmax, D2.p, D2.pw, D2.pn, D2.pi, D2.pmax, D2.k, D2.kn, D2.t, D2.tn, D2.tmax, D2.ts⟩
  have c3 : rd h3 h.size = [.pointer (some ⟨b, 0, none⟩)] := (d3.at_ (by omega) hbc).trans n2.rd
  have F3 : Fr (Dk col m) h h3 := F2.did d3 fun hb => by
    have e := g2 b hb
    exact ⟨by have := D2.sc; omega, by have := D2.sc; omega⟩
  have hncb : ¬ Dk (upd col h.size (m + 6)) m h.size := fun x => by have := x.2; omega
  refine ⟨_, rdc c3 rfl, step_spec (f := RD.flushed) ⟨b, _, _, rfl, D3⟩ rfl (fun x => Bool.noConfusion x) (fun _ S' h4 K' hS' f4 D4 k' => ?_) fun h' col' f' g' D' => ⟨_, rfl, ?_⟩⟩
  · refine Flush_c1_spec (S := S') D4 ((f4.rd (by rw [d3.size]; omega) hncb).trans c3) (by have := f4.size; have := d3.size; omega) hncb ?_ k'
    rcases hS' with rfl | rfl <;> exact ht
  · have hf : S.flush = RD.step { S with flushes := IntKind.wrap .i64 (S.flushes + 1) } RD.flushed := by rw [RD.flush, if_neg (by rw [e]; exact Bool.false_ne_true)]
    have hs3 := d3.size
    have := hK h' col' (F3.trans f' fun x hx y => by have e := g2 x hx; exact ⟨by have := y.1; omega, by have := y.2; omega⟩) (g2.trans g' (by omega)) (by rw [hf]; exact D')
    rw [hf] at this; exact this
end Go.Proofs.YtjdcbblgaoogmaaGreatDoor.Ad
namespace Go.Proofs.YtjdcbblgaoogmaaGreatDoor.Hd
open Go Go.Proofs Go.Proofs.YtjdcbblgaoogmaaGreatDoor.Wx Go.Proofs.YtjdcbblgaoogmaaGreatDoor.Hp Go.Proofs.YtjdcbblgaoogmaaGreatDoor.W Go.Proofs.YtjdcbblgaoogmaaGreatDoor.Su Go.Proofs.YtjdcbblgaoogmaaGreatDoor.Re
/-- a row of slices of bytes -/
structure Sc where
  a : Option Addr
  l : Nat
  c : Nat
def Sc.v (s : Sc) : Value := .slice s.a s.l s.c
structure Dat (h : Heap) (a : Option Addr) (l : Nat) (ss : List Sc) (ds : List (List UInt8)) : Prop where
  cells : SlCells h a (ss.map Sc.v)
  num : ss.length = l
  len : ss.length = ds.length
  at_ : ∀ i (h1 : i < ss.length) (h2 : i < ds.length), StrAt h ss[i].a ss[i].l ds[i]
theorem Dat.fr {h h' : Heap} {a : Option Addr} {l : Nat} {ss : List Sc} {ds : List (List UInt8)} (d : Dat h a l ss ds) (f : Fr No h h') : Dat h' a l ss ds :=
  ⟨SlCells.fr f d.cells fun _ _ x => x, d.num, d.len, fun i h1 h2 => StrAt.fr f (d.at_ i h1 h2) fun _ _ x => x⟩
theorem Dat.get {h : Heap} {a : Option Addr} {l : Nat} {ss : List Sc} {ds : List (List UInt8)} (d : Dat h a l ss ds) {i : Nat} (hi : i < l) :
    ∃ p s b, a = some p ∧ cellOf h (p.add i) = some (Sc.v s) ∧ ds[i]? = some b ∧ StrAt h s.a s.l b := by
  have h1 := d.num
  have h2 := d.len
  have h3 : i < ss.length := by omega
  have h4 : i < ds.length := by omega
  have c := d.cells
  cases a with
  | none => have c : ss.map Sc.v = [] := c; have := List.map_eq_nil_iff.mp c; rw [this] at h3; exact absurd h3 (by simp)
  | some p => exact ⟨p, ss[i], ds[i], rfl, c i _ (by rw [List.getElem?_map, List.getElem?_eq_getElem h3]; rfl), List.getElem?_eq_getElem h4, d.at_ i h3 h4⟩
def ints (ns : List Int) : List Value := ns.map fun n => .int .i64 n
theorem ints_get {h : Heap} {a : Option Addr} {ns : List Int} (c : SlCells h a (ints ns)) {i : Nat} (hi : i < ns.length) : ∃ p, a = some p ∧ cellOf h (p.add i) = some (.int .i64 ns[i]) := by
  cases a with
  | none => have c : ints ns = [] := c; have := List.map_eq_nil_iff.mp c; rw [this] at hi; exact absurd hi (by simp)
  | some p => exact ⟨p, rfl, c i _ (by rw [ints, List.getElem?_map, List.getElem?_eq_getElem hi]; rfl)⟩
/-- numbers that rise from above last, below n -/
def okGo (n : Int) : Int → List Int → Bool
  | _, [] => true
  | last, i :: r => !(decide (i ≤ last) || decide (i ≥ n)) && okGo n i r
def mayM (ns : List Int) (n : Int) : Bool := okGo n 97 ns && (decide ((ns.length : Int) ≥ 1) && decide ((ns.length : Int) ≤ 96))
theorem c1_spec {bl bn : Nat} {i last n : Int} {h : Heap} {K : Value → Heap → Prop} (o : Own h bl) (r : rd h bl = [.int .i64 last]) (rn : rd h bn = [.int .i64 n]) (hne : bl ≠ bn)
    (hK : ∀ h', Did bl h h' [.int .i64 i] → K (.bool (decide (i ≤ last) || decide (i ≥ n))) h') : C.head_may_c1 i (some ⟨bl, 0, none⟩) (some ⟨bn, 0, none⟩) h K := by
  refine head_may_c1.ok (os ⟨last, rdc r rfl, os (Put.intro o (by rw [r]; exact (by decide : 0 < 1)) fun h2 d2 => ?_)⟩)
  rw [r] at d2
  have k := hK h2 d2
  refine cd (fun hi => ?_) fun hi => os ⟨n, ?_, ?_⟩
  · rw [decide_eq_true hi] at k; exact k
  · have hlt : bn < h.size := rd_lt (show (rd h bn)[0]? = some (.int .i64 n) by rw [rn]; rfl)
    exact rdc ((d2.at_ hlt (fun e => hne e.symm)).trans rn) rfl
  · rw [decide_eq_false hi] at k; exact k
theorem may_spec {a : Option Addr} {l c : Nat} {ns : List Int} {n : Int} {h : Heap} {K : Value → Heap → Prop} (B : SlCells h a (ints ns)) (hn : ns.length = l) (hl : l ≤ 140737488355328)
    (hK : ∀ h', Fr No h h' → K (.bool (mayM ns n)) h') : C.head_may a l c n h K := by
  refine head_may.ok (New.intro fun h2 n2 => New.intro fun h3 n3 => Put.intro n3.own (by rw [n3.rd]; exact Nat.one_pos) fun h4 d4 => ?_)
  have hs2 := n2.size
  have hs3 := n3.size
  have hs4 := d4.fr.size
  have F4 : Fr No h h4 := (n2.fr.no n3.fr).did d4 fun x => by omega
  refine ⟨fun k hh => 0 ≤ k ∧ k ≤ l ∧ Fr No h hh ∧ rd hh h.size = [.int .i64 n] ∧ Own hh h2.size ∧ ∃ last, rd hh h2.size = [.int .i64 last] ∧ okGo n 97 ns = okGo n last (ns.drop k.toNat), fun k _ => ((l : Int) - k).toNat,
    ⟨by omega, by omega, F4, (d4.at_ (by omega) (by omega)).trans ((n3.at_ n2.own.lt).trans n2.rd), d4.own, 97, by rw [d4.rd, n3.rd]; rfl, rfl⟩, ?_⟩
  rintro k h5 ⟨k0, k1, f5, r5, o5, last, rl, e⟩
  refine cd (fun hk => ?_) fun hk => ?_
  · have hk' : k.toNat < ns.length := by omega
    obtain ⟨p, rfl, c5⟩ := ints_get (SlCells.fr f5 B fun _ _ x => x) hk'
    refine ⟨⟨k0, hk⟩, os ⟨_, c5, c1_spec o5 rl r5 (by omega) fun h6 d6 => ⟨_, rfl, ?_⟩⟩⟩
    have f6 := f5.did d6 fun x => by omega
    rw [List.drop_eq_getElem_cons hk', okGo] at e
    refine cs (fun hb => ?_) fun hb => ?_
    · rw [hb] at e
      have : mayM ns n = false := by rw [mayM, e]; rfl
      have k6 := hK h6 f6
      rw [this] at k6; exact k6
    · rw [hb] at e
      rw [wrap_i64 (by omega) (by omega)]
      exact ⟨⟨by omega, by omega, f6, (d6.at_ (rd_lt (show (rd h5 h.size)[0]? = some (.int .i64 n) by rw [r5]; rfl)) (by omega)).trans r5, d6.own, _, d6.rd, by rw [e, show (k + 1).toNat = k.toNat + 1 by omega]; rfl⟩, falls hk⟩
  · rw [List.drop_of_length_le (by omega)] at e
    have k5 := hK h5 f5
    have e1 : okGo n 97 ns = true := e
    unfold mayM at k5
    rw [e1, hn] at k5
    refine cd (fun h1 => ?_) fun h1 => ?_
    · rw [decide_eq_true h1] at k5; exact k5
    · rw [decide_eq_false h1] at k5; exact k5
def blM (ds : List (List UInt8)) (n : Int) : Bool := ds.all (fun d => d.length == 512) && ((ds.length : Int) == n)
theorem areBlocks_spec {a : Option Addr} {l c : Nat} {ss : List Sc} {ds : List (List UInt8)} {n : Int} {h : Heap} {K : Value → Heap → Prop} (D : Dat h a l ss ds) (hl : l ≤ 140737488355328)
    (hK : K (.bool (blM ds n)) h) : C.head_areBlocks a l c n h K := by
  have h1 := D.num
  have h2 := D.len
  refine head_areBlocks.ok ⟨fun k hh => 0 ≤ k ∧ k ≤ l ∧ h = hh ∧ ds.all (fun d => d.length == 512) = (ds.drop k.toNat).all (fun d => d.length == 512), fun k _ => ((l : Int) - k).toNat, ⟨by omega, by omega, rfl, rfl⟩, ?_⟩
  rintro k _ ⟨k0, k1, rfl, e⟩
  refine cd (fun hk => ?_) fun hk => ?_
  · obtain ⟨p, s, b, rfl, cp, hb, S⟩ := D.get (i := k.toNat) (by omega)
    have hk' : k.toNat < ds.length := by omega
    rw [List.getElem?_eq_getElem hk'] at hb
    have hb := Option.some.inj hb
    rw [List.drop_eq_getElem_cons hk', List.all_cons, hb] at e
    have sl := S.1
    refine ⟨⟨k0, hk⟩, os ⟨_, _, _, cp, cn (fun x => ?_) fun x => ?_⟩⟩
    · have : (b.length == 512) = false := by rw [beq_eq_false_iff_ne]; omega
      rw [this] at e
      rw [blM, e] at hK; exact hK
    · have : (b.length == 512) = true := by rw [beq_iff_eq]; omega
      rw [this] at e
      rw [wrap_i64 (by omega) (by omega)]
      exact ⟨⟨by omega, by omega, rfl, by rw [e, show (k + 1).toNat = k.toNat + 1 by omega]; rfl⟩, falls hk⟩
  · rw [List.drop_of_length_le (by omega)] at e
    rw [blM, e, ← h2, h1] at hK; exact hK
theorem Clone_spec {p : Addr} {l c : Nat} {bs : List UInt8} {h : Heap} {K : Value → Heap → Prop} (B : StrAt h (some p) l bs) (hl : l ≤ 140737488355328)
    (hK : ∀ a' c' h', Fr No h h' → Sl h' 1 a' l c' (bs.map bv) (From h.size) → K (.slice a' l c') h') : C.bytes_Clone (some p) l c h K := by
  refine bytes_Clone.ok (cf rfl (New.intro fun h2 n2 => ?_))
  have hs2 := n2.size
  obtain ⟨s1, s2, s3⟩ := StrAt.src (StrAt.fr n2.fr B (fun _ _ x => x))
  refine ⟨_, s1, s2, s3, ?_⟩
  refine append_own (xs := []) (F := From h.size) (Sl.made n2 rfl (Nat.le_refl _) rfl (Nat.le_refl _) rfl) s1 rfl (by show (0 + l) * 1 ≤ _; omega) (by omega) fun a' c' h' f s => ?_
  rw [Nat.zero_add, List.nil_append] at s
  rw [Nat.zero_add]
  exact hK a' c' h' (n2.fr.trans f fun b hb e => by have : h.size ≤ b := e; omega) (s.mono fun b hb => by rcases hb with hb | hb; exact hb; show h.size ≤ b; omega)
def sumM (hd : List UInt8) (ds : List (List UInt8)) : Int := ds.foldl (fun s d => joinM s (ofM d) d.length) (ofM (putU hd 12 (leBs 4 0)))
theorem sumGo_range (ds : List (List UInt8)) : ∀ s, U32 s → U32 (ds.foldl (fun s d => joinM s (ofM d) d.length) s) := by
  induction ds with
  | nil => intro s h; exact h
  | cons d r ih => intro s _; exact ih _ (join_range _ _ _)
theorem sum_range (hd : List UInt8) (ds : List (List UInt8)) : U32 (sumM hd ds) := sumGo_range _ _ (of_range _)
theorem sumOf_spec {a da : Option Addr} {l c dl dc : Nat} {hd : List UInt8} {ss : List Sc} {ds : List (List UInt8)} {h : Heap} {K : Value → Heap → Prop} (g : Glo h) (B : StrAt h a l hd) (hl : l = 512) (D : Dat h da dl ss ds) (hdl : dl ≤ 140737488355328)
    (hds : ∀ d ∈ ds, d.length ≤ 1099511627776) (hK : ∀ h', Fr No h h' → K (.int .u32 (sumM hd ds)) h') : C.head_sumOf a l c da dl dc h K := by
  have hb := B.1
  have hn := D.num
  have hlen := D.len
  cases a with
  | none => have := B.2; have : hd.map bv = [] := this; have := List.map_eq_nil_iff.mp this; rw [this] at hb; simp at hb; omega
  | some p =>
  refine head_sumOf.ok (Clone_spec B (by omega) fun a2 c2 h2 f2 s2 => ⟨_, _, _, rfl, ?_⟩)
  have g2 := g.no f2
  obtain ⟨p2, rfl, _⟩ := s2.get (by omega)
  have hp2 := s2.mk
  obtain ⟨b2, o2, sp⟩ := p2
  have hp2 : sp = none := by simpa using hp2
  subst hp2
  have hge : h.size ≤ b2 := s2.2.2.1
  refine Put_spec (v := 0) g2 s2 (by omega) (by omega) (by omega) (by omega) (by decide) fun h3 f3 s3 => ⟨_, rfl, ?_⟩
  have F3 : Fr No h h3 := f2.trans f3 fun x hx e => by have : x = b2 := e; omega
  have g3 := g.no F3
  refine Su.Of_spec g3.half s3.str (by omega) ⟨_, rfl, ?_⟩
  refine ⟨fun s k hh => 0 ≤ k ∧ k ≤ dl ∧ Fr No h hh ∧ U32 s ∧ s = (ds.take k.toNat).foldl (fun s d => joinM s (ofM d) d.length) (ofM (putU hd 12 (leBs 4 0))), fun _ k _ => ((dl : Int) - k).toNat, ⟨by omega, by omega, F3, of_range _, rfl⟩, ?_⟩
  rintro s k h5 ⟨k0, k1, f5, us, es⟩
  refine cd (fun hk => ?_) fun hk => ?_
  · obtain ⟨q, sc, d, rfl, cq, hd', S⟩ := (D.fr f5).get (i := k.toNat) (by omega)
    have hk' : k.toNat < ds.length := by omega
    rw [List.getElem?_eq_getElem hk'] at hd'
    have hd' := Option.some.inj hd'
    have hdm := hds _ (List.getElem_mem hk')
    rw [hd'] at hdm
    have sl := S.1
    have g5 := g.no f5
    refine ⟨⟨k0, hk⟩, os ⟨_, _, _, cq, Su.Of_spec g5.half S (by omega) ⟨_, rfl, Join_spec g5.half us (by omega) (by omega) fun h7 f7 => ⟨_, _, rfl, ?_⟩⟩⟩⟩
    rw [wrap_i64 (by omega) (by omega)]
    refine ⟨⟨by omega, by omega, f5.no f7, join_range _ _ _, ?_⟩, falls hk⟩
    rw [show (k + 1).toNat = k.toNat + 1 by omega, List.take_succ_eq_append_getElem hk', List.foldl_append, ← es, hd']
    show joinM s (ofM d) (sc.l : Int) = joinM s (ofM d) (d.length : Int)
    rw [sl]
  · rw [List.take_of_length_le (by omega)] at es
    rw [es]; exact hK h5 f5
def zeros (n : Nat) : List UInt8 := List.replicate n 0
theorem zeros_add (m n : Nat) : zeros (m + n) = zeros m ++ zeros n := List.replicate_append_replicate.symm
theorem zeros_length (n : Nat) : (zeros n).length = n := List.length_replicate
theorem Empty_spec {h : Heap} {K : Value → Heap → Prop} (hK : ∀ h', Newly h h' ((zeros 512).map bv) → K (.slice (some ⟨h.size, 0, none⟩) 512 512) h') : C.head_Empty h K := by
  refine head_Empty.ok ⟨⟨by decide, by decide, by decide, by decide⟩, New.intro fun h2 n2 => hK h2 ?_⟩
  have e : repCells z5 (Int.toNat 512) = (zeros 512).map bv := by rw [zeros, List.map_replicate]; rfl
  rw [← e]; exact n2
def magicL : List UInt8 := [66, 79, 76, 69, 76, 79, 71, 49]
def flat4 (ns : List Int) : List UInt8 := ns.flatMap fun i => leBs 4 i.toNat
def laidM (ns : List Int) (s : Nat) : List UInt8 := magicL ++ leBs 2 ns.length ++ zeros 2 ++ leBs 4 s ++ flat4 ns ++ zeros (496 - 4 * ns.length)
theorem flat4_length (ns : List Int) : (flat4 ns).length = 4 * ns.length := by
  induction ns with
  | nil => rfl
  | cons n r ih =>
    have e : flat4 (n :: r) = leBs 4 n.toNat ++ flat4 r := rfl
    rw [e, List.length_append, leB_length, ih, List.length_cons]; omega
/-- another sum -/
theorem laid_put (ns : List Int) (s t : Nat) : putU (laidM ns s) 12 (leBs 4 t) = laidM ns t := by
  have hx : (magicL ++ leBs 2 ns.length ++ zeros 2).length = 12 := by simp only [List.length_append, leB_length, zeros_length]; rfl
  have := putU_app (magicL ++ leBs 2 ns.length ++ zeros 2) (leBs 4 s) (flat4 ns ++ zeros (496 - 4 * ns.length)) (leBs 4 t) (by rw [leB_length, leB_length])
  rw [hx] at this
  simp only [laidM, List.append_assoc] at this ⊢
  exact this
theorem leB_zero : leBs 4 0 = zeros 4 := by decide
theorem okGo_mem {n : Int} : ∀ (ns : List Int) (last : Int), okGo n last ns = true → ∀ x ∈ ns, last < x ∧ x < n := by
  intro ns
  induction ns with
  | nil => intro _ _ x hx; exact absurd hx List.not_mem_nil
  | cons i r ih =>
    intro last h x hx
    rw [okGo, Bool.and_eq_true, Bool.not_eq_true', Bool.or_eq_false_iff] at h
    obtain ⟨⟨h1, h2⟩, h3⟩ := h
    have h1 := of_decide_eq_false h1
    have h2 := of_decide_eq_false h2
    rcases List.mem_cons.mp hx with rfl | hx
    · omega
    · have := ih i h3 x hx; omega
theorem mayM_mem {ns : List Int} {n : Int} (h : mayM ns n = true) : (∀ x ∈ ns, 97 < x ∧ x < n) ∧ 1 ≤ ns.length ∧ ns.length ≤ 96 := by
  rw [mayM, Bool.and_eq_true, Bool.and_eq_true] at h
  have h1 := of_decide_eq_true h.2.1
  have h2 := of_decide_eq_true h.2.2
  exact ⟨okGo_mem ns 97 h.1, by omega, by omega⟩
theorem wrap_u64 {n : Int} (h0 : 0 ≤ n) (h1 : n < 18446744073709551616) : IntKind.wrap .u64 n = n := by
  show n % 18446744073709551616 = n
  exact Int.emod_eq_of_lt h0 h1
theorem Make_spec {na da : Option Addr} {nl nc dl dc : Nat} {ns : List Int} {ss : List Sc} {ds : List (List UInt8)} {h : Heap} {K : Value → Heap → Prop} (g : Glo h) (B : SlCells h na (ints ns)) (hn : ns.length = nl) (hnl : nl ≤ 140737488355328) (D : Dat h da dl ss ds) (hdl : dl ≤ 140737488355328)
    (h1 : mayM ns 16384 = false → ∀ h', Fr No h h' → K (.tuple #[.slice none 0 0, .int .i64 40]) h')
    (h2 : mayM ns 16384 = true → blM ds ns.length = false → ∀ h', Fr No h h' → K (.tuple #[.slice none 0 0, .int .i64 32]) h')
    (h3 : mayM ns 16384 = true → blM ds ns.length = true → ∀ b h', Fr No h h' → h.size ≤ b → Sl h' 1 (some ⟨b, 0, none⟩) 512 512 ((laidM ns (sumM (laidM ns 0) ds).toNat).map bv) (fun x => x = b) → K (.tuple #[.slice (some ⟨b, 0, none⟩) 512 512, .int .i64 0]) h') :
    C.head_Make na nl nc da dl dc h K := by
  refine head_Make.ok (may_spec B hn hnl fun h2' f2 => ⟨_, rfl, cnot (cs (fun hm => ?_) fun hm => h1 hm _ f2)⟩)
  refine areBlocks_spec (D.fr f2) hdl ⟨_, rfl, cnot (cs (fun hb => ?_) fun hb => h2 hm (by rw [hn]; exact hb) _ f2)⟩
  rw [← hn] at hb
  have k := h3 hm hb
  obtain ⟨hmem, hl1, hl2⟩ := mayM_mem hm
  have hbl : ∀ d ∈ ds, d.length ≤ 1099511627776 := fun d hd => by
    rw [blM, Bool.and_eq_true] at hb
    have := List.all_eq_true.mp hb.1 d hd
    rw [beq_iff_eq] at this; omega
  refine Empty_spec fun h4 n4 => ⟨_, _, _, rfl, ?_⟩
  have hs4 := n4.size
  have F4 := f2.new n4
  have g4 := g.no F4
  have hs2 := f2.size
  have new : h.size ≤ h2'.size := hs2
  have s4 : Sl h4 1 (some ⟨h2'.size, 0, none⟩) 512 512 ((zeros 512).map bv) (fun b => b = h2'.size) := Sl.made n4 (by rw [List.append_nil]) rfl (by rw [List.length_map, zeros_length]) (Nat.le_refl _) rfl
  have fr : ∀ {h' h'' : Heap}, Fr No h h' → Fr (fun x => x = h2'.size) h' h'' → Fr No h h'' := fun f f' => f.trans f' fun x hx e => by have : x = h2'.size := e; omega
  refine PutText_spec (n := 8) (ss := magicL) s4 (by omega) rfl (by omega) (by omega) (by decide) fun h5 f5 s5 => ⟨_, rfl, ?_⟩
  have F5 := fr F4 f5
  have e5 : putU (zeros 512) (0 : Int).toNat magicL = magicL ++ zeros 504 := putU_app [] (zeros 8) (zeros 504) magicL rfl
  rw [e5] at s5
  rw [wrap_u64 (by omega) (by omega)]
  refine Put_spec (n := 2) (at_ := 8) (v := nl) (g.no F5) s5 (by omega) (by omega) (by omega) (by omega) (by show nl < 65536; omega) fun h6 f6 s6 => ⟨_, rfl, ?_⟩
  have F6 := fr F5 f6
  have e6 : putU (magicL ++ zeros 504) (8 : Int).toNat (leBs (2 : Int).toNat nl) = magicL ++ leBs 2 nl ++ zeros 502 := by
    have := putU_app magicL (zeros 2) (zeros 502) (leBs 2 nl) (by rw [leB_length, zeros_length])
    rw [List.append_assoc, ← zeros_add] at this
    exact this
  rw [e6] at s6
  have P16l : (magicL ++ leBs 2 nl ++ zeros 6).length = 16 := by simp only [List.length_append, leB_length, zeros_length]; rfl
  refine ⟨fun k hh => 0 ≤ k ∧ k ≤ nl ∧ Fr No h hh ∧ Sl hh 1 (some ⟨h2'.size, 0, none⟩) 512 512 ((magicL ++ leBs 2 nl ++ zeros 6 ++ flat4 (ns.take k.toNat) ++ zeros (496 - 4 * k.toNat)).map bv) (fun b => b = h2'.size), fun k _ => ((nl : Int) - k).toNat,
    ⟨by omega, by omega, F6, ?_⟩, ?_⟩
  · have e : magicL ++ leBs 2 nl ++ zeros 502 = magicL ++ leBs 2 nl ++ zeros 6 ++ flat4 (ns.take (0 : Int).toNat) ++ zeros (496 - 4 * (0 : Int).toNat) := by
      show _ = magicL ++ leBs 2 nl ++ zeros 6 ++ [] ++ zeros 496
      rw [List.append_nil, List.append_assoc _ (zeros 6), ← zeros_add]
    rw [← e]; exact s6
  rintro i h7 ⟨i0, i1, f7, s7⟩
  refine cd (fun hi => ?_) fun hi => ?_
  · have hi' : i.toNat < ns.length := by omega
    obtain ⟨p, rfl, cp⟩ := ints_get (SlCells.fr f7 B fun _ _ x => x) hi'
    have hx := hmem _ (List.getElem_mem hi')
    refine ⟨⟨i0, hi⟩, os ⟨_, cp, ?_⟩⟩
    rw [wrap_i64 (n := 4 * i) (by omega) (by omega), wrap_i64 (n := 16 + 4 * i) (by omega) (by omega), wrap_u64 (by omega) (by omega), wrap_i64 (n := i + 1) (by omega) (by omega)]
    have ev : ns[i.toNat] = ((ns[i.toNat].toNat : Nat) : Int) := by omega
    rw [ev]
    refine Put_spec (n := 4) (at_ := 16 + 4 * i) (v := ns[i.toNat].toNat) (g.no f7) s7 (by omega) (by omega) (by omega) (by omega) (by show ns[i.toNat].toNat < 4294967296; omega) fun h8 f8 s8 => ⟨_, rfl, ?_⟩
    refine ⟨⟨by omega, by omega, fr f7 f8, ?_⟩, falls hi⟩
    have hxl : (magicL ++ leBs 2 nl ++ zeros 6 ++ flat4 (ns.take i.toNat)).length = (16 + 4 * i).toNat := by
      rw [List.length_append, P16l, flat4_length, List.length_take]; omega
    have hz : zeros (496 - 4 * i.toNat) = zeros 4 ++ zeros (496 - 4 * (i.toNat + 1)) := by rw [← zeros_add]; congr 1; omega
    have ee : putU (magicL ++ leBs 2 nl ++ zeros 6 ++ flat4 (ns.take i.toNat) ++ zeros (496 - 4 * i.toNat)) (16 + 4 * i).toNat (leBs (4 : Int).toNat ns[i.toNat].toNat) =
        magicL ++ leBs 2 nl ++ zeros 6 ++ flat4 (ns.take (i + 1).toNat) ++ zeros (496 - 4 * (i + 1).toNat) := by
      rw [hz, ← hxl, ← List.append_assoc]
      have := putU_app (magicL ++ leBs 2 nl ++ zeros 6 ++ flat4 (ns.take i.toNat)) (zeros 4) (zeros (496 - 4 * (i.toNat + 1))) (leBs 4 ns[i.toNat].toNat) (by rw [leB_length, zeros_length])
      rw [show (4 : Int).toNat = 4 from rfl, this, show (i + 1).toNat = i.toNat + 1 by omega, List.take_succ_eq_append_getElem hi']
      have : flat4 (ns.take i.toNat ++ [ns[i.toNat]]) = flat4 (ns.take i.toNat) ++ leBs 4 ns[i.toNat].toNat := by simp only [flat4, List.flatMap_append, List.flatMap_cons, List.flatMap_nil, List.append_nil]
      rw [this]
      simp only [List.append_assoc]
    rw [ee] at s8
    exact s8
  · have e : i.toNat = nl := by omega
    rw [e, List.take_of_length_le (by omega)] at s7
    have e0 : magicL ++ leBs 2 nl ++ zeros 6 ++ flat4 ns ++ zeros (496 - 4 * nl) = laidM ns 0 := by
      rw [laidM, leB_zero, hn, show zeros 6 = zeros 2 ++ zeros 4 from zeros_add 2 4]
      simp only [List.append_assoc]
    rw [e0] at s7
    refine sumOf_spec (g.no f7) s7.str rfl (D.fr f7) hdl hbl fun h9 f9 => ⟨_, rfl, ?_⟩
    have us := sum_range (laidM ns 0) ds
    obtain ⟨u0, u1⟩ := us
    rw [wrap_u64 u0 (by omega)]
    have ev : sumM (laidM ns 0) ds = (((sumM (laidM ns 0) ds).toNat : Nat) : Int) := by omega
    rw [ev]
    refine Put_spec (n := 4) (at_ := 12) (v := (sumM (laidM ns 0) ds).toNat) (g.no (f7.no f9)) (s7.fr f9 fun _ _ _ x => x) (by omega) (by omega) (by omega) (by omega) (by show (sumM (laidM ns 0) ds).toNat < 4294967296; omega) fun h10 f10 s10 => ⟨_, rfl, ?_⟩
    have e1 : putU (laidM ns 0) (12 : Int).toNat (leBs (4 : Int).toNat (sumM (laidM ns 0) ds).toNat) = laidM ns (sumM (laidM ns 0) ds).toNat := laid_put ns 0 _
    rw [e1] at s10
    exact k _ h10 (fr (f7.no f9) f10) hs2 s10
end Go.Proofs.YtjdcbblgaoogmaaGreatDoor.Hd
namespace Go.Proofs.YtjdcbblgaoogmaaGreatDoor.Hd
open Go Go.Proofs Go.Proofs.YtjdcbblgaoogmaaGreatDoor.Wx Go.Proofs.YtjdcbblgaoogmaaGreatDoor.Hp Go.Proofs.YtjdcbblgaoogmaaGreatDoor.W Go.Proofs.YtjdcbblgaoogmaaGreatDoor.Su Go.Proofs.YtjdcbblgaoogmaaGreatDoor.Re
theorem bv_wrap (n : Int) : (Value.int .u8 (IntKind.wrap .u8 n)) = bv (UInt8.ofNat (n % 256).toNat) := by
  show Value.int .u8 (n % 256) = Value.int .u8 ((UInt8.ofNat (n % 256).toNat).toNat : Int)
  rw [UInt8.toNat_ofNat']
  congr 1
  have := Int.emod_nonneg n (show (256 : Int) ≠ 0 by decide)
  have := Int.emod_lt_of_pos n (show (0 : Int) < 256 by decide)
  omega
end Go.Proofs.YtjdcbblgaoogmaaGreatDoor.Hd
namespace Go.Proofs.YtjdcbblgaoogmaaGreatDoor.Wc
open Go Go.Proofs Go.Proofs.YtjdcbblgaoogmaaGreatDoor.Wx Go.Proofs.YtjdcbblgaoogmaaGreatDoor.Hp Go.Proofs.YtjdcbblgaoogmaaGreatDoor.W Go.Proofs.YtjdcbblgaoogmaaGreatDoor.Ad
inductive Stp where
  | w (i : Int) (b : List UInt8)
  | f
def Stp.on (S : RD) : Stp → RD × Int
  | .w i b => S.write i b
  | .f => S.flush
def runS : List Stp → RD → RD × Int
  | [], S => (S, 0)
  | s :: r, S => if (s.on S).2 = 0 then runS r (s.on S).1 else s.on S
abbrev Nb := List (Int × List UInt8)
def ws (l : Nb) : List Stp := l.map fun p => .w p.1 p.2
def homeS (l : Nb) : List Stp := ws l ++ [.f, .w 1 (Hd.zeros 512), .f]
def logL (l : Nb) : Nb := l.mapIdx fun k x => (2 + (k : Int), x.2)
theorem logL_length (l : Nb) : (logL l).length = l.length := List.length_mapIdx
theorem logL_get (l : Nb) {k : Nat} (h : k < (logL l).length) : (logL l)[k] = (2 + (k : Int), (l[k]'(by rw [logL_length] at h; exact h)).2) := List.getElem_mapIdx ..
def commitS (l : Nb) (hdr : List UInt8) : List Stp := ws (logL l) ++ [.f, .w 1 hdr, .f] ++ homeS l
def hdrOf (l : Nb) : List UInt8 := Hd.laidM (l.map (·.1)) (Hd.sumM (Hd.laidM (l.map (·.1)) 0) (l.map (·.2))).toNat
def mayW (l : Nb) (n : Int) : Bool := Hd.okGo n 97 (l.map (·.1)) && decide ((l.length : Int) ≤ 96)
def wal (S : RD) (l : Nb) : RD × Int :=
  if l = [] then (S, 0) else if mayW l S.lasts.length = false then (S, 40) else if (l.map (·.2)).all (fun d => d.length == 512) = false then (S, 32)
    else if S.down = true then (S, 30) else runS (commitS l (hdrOf l)) S
end Go.Proofs.YtjdcbblgaoogmaaGreatDoor.Wc
namespace Go.Proofs.YtjdcbblgaoogmaaGreatDoor.Wc
open Go Go.Proofs Go.Proofs.YtjdcbblgaoogmaaGreatDoor.Wx Go.Proofs.YtjdcbblgaoogmaaGreatDoor.Hp Go.Proofs.YtjdcbblgaoogmaaGreatDoor.W Go.Proofs.YtjdcbblgaoogmaaGreatDoor.Ad
abbrev Sc := Tm.Sc
theorem DiskF.write {h : Heap} {D : Nat → Prop} {d : Option Addr} {S : RD} {i : Int} {a : Option Addr} {l c : Nat} {bs : List UInt8} {K : Value → Heap → Prop} (A : DiskF h D d S)
    (B : StrAt h a l bs) (hac : ∀ p, a = some p → ¬ D p.block) (hp : S.pend.length < 1000000000) (ht : S.tape.length < 1000000000)
    (hK : ∀ h' D', Fr D h h' → Gw h D h' D' → DiskF h' D' d (S.write i bs).1 → K (.int .i64 (S.write i bs).2) h') : C.adisk_Disk_Write d i a l c h K := by
  obtain ⟨col, A, hz, hD⟩ := A
  refine Write_spec A B (fun p e _ x => hac p e ((hD _).mpr x)) hp ht fun h' col' f g A' => ?_
  obtain ⟨D', g', a', _⟩ := DiskF.gw hD g f.size A'
  exact hK h' D' (f.mono fun b _ x => (hD b).mpr x) g' a'
theorem DiskF.flush {h : Heap} {D : Nat → Prop} {d : Option Addr} {S : RD} {K : Value → Heap → Prop} (A : DiskF h D d S) (ht : S.tape.length < 1000000000)
    (hK : ∀ h' D', Fr D h h' → Gw h D h' D' → DiskF h' D' d S.flush.1 → K (.int .i64 S.flush.2) h') : C.adisk_Disk_Flush d h K := by
  obtain ⟨col, A, hz, hD⟩ := A
  refine Flush_spec A ht fun h' col' f g A' => ?_
  obtain ⟨D', g', a', _⟩ := DiskF.gw hD g f.size A'
  exact hK h' D' (f.mono fun b _ x => (hD b).mpr x) g' a'
theorem DiskF.down {h : Heap} {D : Nat → Prop} {d : Option Addr} {S : RD} {K : Value → Heap → Prop} (A : DiskF h D d S) (hK : K (.bool S.down) h) : C.adisk_Disk_Down d h K := by
  obtain ⟨col, A, _⟩ := A
  exact Down_spec A hK
/-- a step, as a value -/
inductive SV where
  | w (ib bb : Nat) (i : Int) (s : Sc) (b : List UInt8)
  | f
def SV.v : SV → Value
  | .w ib bb _ _ _ => .func (.func 181) #[] ⟨[.pointer (some ⟨ib, 0, none⟩), .pointer (some ⟨bb, 0, none⟩)]⟩
  | .f => .func (.func 182) #[] ⟨[]⟩
def SV.stp : SV → Stp
  | .w _ _ i _ b => .w i b
  | .f => .f
def SV.Ok (h : Heap) (D : Nat → Prop) : SV → Prop
  | .w ib bb i s b => rd h ib = [.int .i64 i] ∧ rd h bb = [s.v] ∧ (ib < h.size ∧ ¬ D ib) ∧ (bb < h.size ∧ ¬ D bb) ∧ StrAt h s.a s.l b ∧ ∀ p, s.a = some p → p.block < h.size ∧ ¬ D p.block
  | .f => True
theorem SV.Ok.fr {h h' : Heap} {D D' : Nat → Prop} {x : SV} (a : x.Ok h D) (f : Fr D h h') (g : Gw h D h' D') : x.Ok h' D' := by
  cases x with
  | f => trivial
  | w ib bb i s b =>
    obtain ⟨a1, a2, a3, a4, a5, a6⟩ := a
    have k : ∀ {c : Nat}, c < h.size ∧ ¬ D c → c < h'.size ∧ ¬ D' c := fun {c} hc => ⟨Nat.lt_of_lt_of_le hc.1 f.size, fun y => hc.2 ((g.old c hc.1).mp y)⟩
    exact ⟨(f.rd a3.1 a3.2).trans a1, (f.rd a4.1 a4.2).trans a2, k a3, k a4, StrAt.fr f a5 fun p e => (a6 p e).2, fun p e => k (a6 p e)⟩
theorem SV.Ok.no {h h' : Heap} {D : Nat → Prop} {x : SV} (a : x.Ok h D) (f : Fr No h h') (hD : ∀ b, D b → b < h.size) : x.Ok h' D :=
  a.fr (f.mono fun _ _ y => y.elim) (Gw.refl f.size hD)
theorem step_len (S : RD) (f : RD → RD) (t p : Nat) (h1 : (∀ S' : RD, S'.tape = S.tape → S'.pend = S.pend → (f S').tape.length ≤ t ∧ (f S').pend.length ≤ p)) (h2 : S.tape.length ≤ t) : (S.step f).1.tape.length ≤ t ∧ (S.step f).1.pend.length ≤ p := by
  unfold RD.step
  by_cases a : 0 < S.left
  · rw [if_pos a]
    by_cases b : S.left - 1 = 0
    · rw [if_pos b]; exact ⟨h2, Nat.zero_le _⟩
    · rw [if_neg b]; exact h1 _ rfl rfl
  · rw [if_neg a]; exact h1 _ rfl rfl
theorem write_len (S : RD) (s : Stp) : (s.on S).1.tape.length ≤ S.tape.length + 1 ∧ (s.on S).1.pend.length ≤ S.pend.length + 1 := by
  have no : S.tape.length ≤ S.tape.length + 1 ∧ S.pend.length ≤ S.pend.length + 1 := ⟨Nat.le_succ _, Nat.le_succ _⟩
  cases s with
  | w i b =>
    show (S.write i b).1.tape.length ≤ _ ∧ (S.write i b).1.pend.length ≤ _
    have e1 : (S.putW i b).tape.length = S.tape.length + 1 := by show (S.tape ++ [_]).length = _; rw [List.length_append]; rfl
    have e2 : (S.putW i b).pend.length = S.pend.length + 1 := by show (S.pend ++ [_]).length = _; rw [List.length_append]; rfl
    unfold RD.write
    split
    · exact no
    · split
      · exact no
      · split
        · exact no
        · exact step_len _ _ _ _ (fun S' h1 h2 => by show S'.tape.length ≤ _ ∧ S'.pend.length ≤ _; rw [h1, h2, e1, e2]; exact ⟨Nat.le_refl _, Nat.le_refl _⟩) (by rw [e1]; exact Nat.le_refl _)
  | f =>
    show S.flush.1.tape.length ≤ _ ∧ S.flush.1.pend.length ≤ _
    unfold RD.flush
    split
    · exact no
    · refine step_len _ _ _ _ (fun S' h1 h2 => ?_) (Nat.le_succ _)
      show (S'.tape ++ [_]).length ≤ _ ∧ ([] : List (Int × List UInt8)).length ≤ _
      rw [List.length_append, h1]
      exact ⟨Nat.le_refl _, Nat.zero_le _⟩
/-- one step is done -/
theorem step_spec {h : Heap} {D : Nat → Prop} {d : Option Addr} {S : RD} {x : SV} {K : Value → Heap → Prop} (A : DiskF h D d S) (o : x.Ok h D) (hp : S.pend.length < 1000000000) (ht : S.tape.length < 1000000000)
    (hK : ∀ h' D', Fr D h h' → Gw h D h' D' → DiskF h' D' d (x.stp.on S).1 → K (.int .i64 (x.stp.on S).2) h') : HCallsV Tryz.prog x.v [.pointer d] h K := by
  cases x with
  | w ib bb i s b =>
    obtain ⟨a1, a2, a3, a4, a5, a6⟩ := o
    show C.wal_steps_write_c1 d (some ⟨ib, 0, none⟩) (some ⟨bb, 0, none⟩) h K
    refine wal_steps_write_c1.ok (os ⟨_, rdc a1 rfl, os ⟨s.a, s.l, s.c, rdc a2 rfl, DiskF.write A a5 (fun p e => (a6 p e).2) hp ht fun h' D' f g A' => ⟨_, rfl, hK h' D' f g A'⟩⟩⟩)
  | f =>
    show C.wal_steps_flush_c1 d h K
    exact wal_steps_flush_c1.ok (DiskF.flush A ht fun h' D' f g A' => ⟨_, rfl, hK h' D' f g A'⟩)
theorem do_spec {h : Heap} {D : Nat → Prop} {d : Option Addr} {S : RD} {xs : List SV} {a : Option Addr} {c : Nat} {K : Value → Heap → Prop} (A : DiskF h D d S) (o : ∀ x ∈ xs, x.Ok h D)
    (s : SlCells h a (xs.map SV.v)) (ha : ∀ p, a = some p → p.block < h.size ∧ ¬ D p.block) (hp : S.pend.length + xs.length < 1000000000) (ht : S.tape.length + xs.length < 1000000000)
    (hK : ∀ h' D', Fr D h h' → Gw h D h' D' → DiskF h' D' d (runS (xs.map SV.stp) S).1 → K (.int .i64 (runS (xs.map SV.stp) S).2) h') : C.wal_steps_do a xs.length c d h K := by
  refine wal_steps_do.ok ⟨fun n hh => 0 ≤ n ∧ n ≤ xs.length ∧ ∃ D' S', DiskF hh D' d S' ∧ Fr D h hh ∧ Gw h D hh D' ∧ S'.tape.length ≤ S.tape.length + n.toNat ∧ S'.pend.length ≤ S.pend.length + n.toNat ∧ runS (xs.map SV.stp) S = runS ((xs.drop n.toNat).map SV.stp) S',
    fun n _ => ((xs.length : Int) - n).toNat, ⟨by omega, by omega, D, S, A, Fr.refl _ _, Gw.refl (Nat.le_refl _) (fun b hb => A.lt hb), by omega, by omega, rfl⟩, ?_⟩
  rintro n h2 ⟨n0, n1, D', S', A', f, g, t1, t2, e⟩
  refine cd (fun hn => ?_) fun hn => ?_
  · have hn' : n.toNat < xs.length := by omega
    refine ⟨⟨n0, hn⟩, ?_⟩
    cases a with
    | none =>
      have s : xs.map SV.v = [] := s
      have := List.map_eq_nil_iff.mp s
      rw [this] at hn'; exact absurd hn' (by simp)
    | some p =>
      have cv : cellOf h2 (p.add n.toNat) = some xs[n.toNat].v := Cells.cell (Cells.fr f s (ha p rfl).2) (by rw [List.getElem?_map, List.getElem?_eq_getElem hn']; rfl)
      rw [List.drop_eq_getElem_cons hn', List.map_cons] at e
      have e : runS (xs.map SV.stp) S = if (xs[n.toNat].stp.on S').2 = 0 then runS ((xs.drop (n.toNat + 1)).map SV.stp) (xs[n.toNat].stp.on S').1 else xs[n.toNat].stp.on S' := e
      refine os ⟨_, cv, step_spec A' ((o _ (List.getElem_mem hn')).fr f g) (by omega) (by omega) fun h3 D3 f3 g3 A3 => ⟨_, rfl, cn (fun he => ?_) fun he => ?_⟩⟩
      · rw [if_neg he] at e
        have F : Fr D h h3 := f.trans f3 fun b hb x => (g.old b hb).mp x
        rw [e] at hK
        exact hK h3 D3 F (g.trans g3 f.size) A3
      · rw [if_pos he] at e
        have F : Fr D h h3 := f.trans f3 fun b hb x => (g.old b hb).mp x
        have l := write_len S' xs[n.toNat].stp
        rw [wrap_i64 (by omega) (by omega)]
        refine ⟨⟨by omega, by omega, D3, _, A3, F, g.trans g3 f.size, by omega, by omega, ?_⟩, falls hn⟩
        rw [e, show (n + 1).toNat = n.toNat + 1 by omega]
  · rw [List.drop_of_length_le (by omega)] at e
    have e : runS (xs.map SV.stp) S = (S', 0) := e
    rw [e] at hK
    exact hK h2 D' f g A'
structure Bd (n0 : Nat) (D : Nat → Prop) (hh : Heap) (sb : Nat) (R : Nat → Prop) (xs : List SV) : Prop where
  rsb : R sb
  ge : ∀ b, R b → n0 ≤ b ∧ b < hh.size
  own : Own hh sb
  row : ∃ a c, rd hh sb = [.slice a xs.length c] ∧ Sl hh 1 a xs.length c (xs.map SV.v) (fun b => R b ∧ b ≠ sb)
  ok : ∀ x ∈ xs, x.Ok hh (fun b => D b ∨ R b)
theorem Bd.no {n0 : Nat} {D : Nat → Prop} {hh h' : Heap} {sb : Nat} {R : Nat → Prop} {xs : List SV} (b : Bd n0 D hh sb R xs) (f : Fr No hh h') (hD : ∀ b, D b → b < hh.size) : Bd n0 D h' sb R xs := by
  obtain ⟨a, c, e, s⟩ := b.row
  exact ⟨b.rsb, fun x hx => ⟨(b.ge x hx).1, Nat.lt_of_lt_of_le (b.ge x hx).2 f.size⟩, f.own b.own.lt (fun x => x) b.own, ⟨a, c, (f.rd b.own.lt fun x => x).trans e, s.fr f fun _ _ _ x => x⟩,
    fun x hx => (b.ok x hx).no f fun y hy => hy.elim (hD y) fun z => (b.ge y z).2⟩
theorem append_one {n0 : Nat} {D : Nat → Prop} {hh : Heap} {sb : Nat} {R : Nat → Prop} {xs : List SV} {x : SV} {elem : TI} {e : Nat} {K : Heap → Prop} {v : Value} (b : Bd n0 D hh sb R xs) (hD : ∀ b, D b → b < n0) (hx : x.Ok hh (fun b => D b ∨ R b)) (hv : v = x.v) (hl : xs.length < 1000000)
    (hz : elem.zero.length = elem.cells) (hc : elem.cells = 1) (hby : elem.bytes ≤ 64)
    (hK : ∀ h' R', Fr R hh h' → (∀ b, R' b → R b ∨ hh.size ≤ b) → Bd n0 D h' sb R' (xs ++ [x]) → K h') :
    ∀ sA sL sC, cellOf hh ⟨sb, 0, none⟩ = some (.slice sA sL sC) →
    New [v] e hh fun h4 => ∃ new1 : List Value, List.length new1 = 1 * 1 ∧ SlCells h4 (some ⟨hh.size, 0, none⟩) new1 ∧ (∀ v ∈ new1, v.oneCell' = true) ∧
      AppendP elem e sA sL sC 1 new1 h4 fun sA2 sL2 sC2 h5 => onSome (some (⟨sb, 0, none⟩ : Addr)) fun p2 => Wx.Put p2 (.slice sA2 sL2 sC2) h5 fun h6 => K h6 := by
  intro sA sL sC hs
  subst hv
  obtain ⟨a, c, er, s⟩ := b.row
  have hs' : some (Value.slice a xs.length c) = some (.slice sA sL sC) := (rdc er rfl).symm.trans hs
  cases hs'
  refine New.intro fun h4 n4 => ?_
  have z4 := n4.size
  have sbl := b.own.lt
  have one : x.v.oneCell' = true := by cases x <;> rfl
  refine ⟨[x.v], rfl, cellsAll n4.rd, by intro v hv; rw [List.mem_singleton.mp hv]; exact one, ?_⟩
  have s4 : Sl h4 elem.cells sA xs.length sC (xs.map SV.v) (fun b => R b ∧ b ≠ sb) := by rw [hc]; exact s.fr n4.fr fun _ _ _ x => x
  refine append_own s4 (by rw [hc]; rfl) hz (Nat.le_trans (Nat.mul_le_mul (show xs.length + 1 ≤ 1000000 by omega) hby) (by decide)) (by omega) fun a' c' h5 f5 s5 => ?_
  rw [hc] at s5
  have z5 := f5.size
  have f45 : Fr (fun b => R b ∧ b ≠ sb) hh h5 := (n4.fr.mono fun _ _ x => x.elim).trans f5 fun b _ x => x
  have o5 : Own h5 sb := f45.own sbl (fun x => x.2 rfl) b.own
  have r5 : rd h5 sb = [.slice sA xs.length sC] := (f45.rd sbl fun x => x.2 rfl).trans er
  refine os (Put.intro o5 (by rw [r5]; exact Nat.one_pos) fun h6 d6 => ?_)
  rw [r5] at d6
  have z6 := d6.size
  have hb := b.rsb
  have f46 : Fr R hh h6 := (f45.mono fun b _ x => x.1).did d6 fun _ => hb
  have s6 : Sl h6 1 a' (xs.length + 1) c' (xs.map SV.v ++ [x.v]) (fun b => (R b ∧ b ≠ sb) ∨ h4.size ≤ b) := s5.fr d6.fr fun b hb x e => by
    have e : b = sb := e
    rcases x with x | x
    · exact x.2 e
    · omega
  have ge := b.ge
  have g : Gw hh (fun b => D b ∨ R b) h6 (fun b => D b ∨ ((R b ∨ h4.size ≤ b) ∧ b < h6.size)) := by
    refine ⟨fun y hy => ?_, fun y hy => ?_⟩
    · constructor
      · rintro (q | ⟨q | q, _⟩)
        · exact .inl q
        · exact .inr q
        · omega
      · rintro (q | q)
        · exact .inl q
        · exact .inr ⟨.inl q, by omega⟩
    · rcases hy with q | q
      · have := hD y q
        have := (ge _ hb).1
        omega
      · exact q.2
  have fx : Fr (fun b => D b ∨ R b) hh h6 := f46.mono fun _ _ x => .inr x
  refine hK h6 (fun b => (R b ∨ h4.size ≤ b) ∧ b < h6.size) f46 (fun y hy => hy.1.imp id fun q => by omega) ⟨⟨.inl hb, by omega⟩, fun y hy => ⟨?_, hy.2⟩, d6.own, ⟨a', c', ?_, ?_⟩, fun y hy => ?_⟩
  · rcases hy.1 with q | q
    · exact (ge y q).1
    · have := (ge _ hb).1
      omega
  · rw [d6.rd, List.length_append, List.length_singleton]; rfl
  · rw [List.length_append, List.length_singleton, List.map_append]
    have l6 : ∀ y, Own h6 y → y < h6.size := fun y o => o.lt
    obtain ⟨q1, q2⟩ := s6
    refine ⟨q1, ?_⟩
    cases a' with
    | none => exact q2
    | some p =>
      obtain ⟨a1, a2, a3, a4⟩ := q2
      refine ⟨a1, ⟨⟨a2.imp (·.1) id, a3.lt⟩, fun e => ?_⟩, a3, a4⟩
      rcases a2 with q | q
      · exact q.2 e
      · omega
  · rcases List.mem_append.mp hy with q | q
    · exact (b.ok y q).fr fx g
    · rw [List.mem_singleton.mp q]; exact hx.fr fx g
theorem steps_write_spec {n0 : Nat} {D : Nat → Prop} {hh : Heap} {sb : Nat} {R : Nat → Prop} {xs : List SV} {i : Int} {s : Sc} {bs : List UInt8} {K : Value → Heap → Prop} (b : Bd n0 D hh sb R xs) (hD : ∀ b, D b → b < n0) (B : StrAt hh s.a s.l bs)
    (hs : ∀ p, s.a = some p → p.block < hh.size ∧ ¬ (D p.block ∨ R p.block)) (hl : xs.length < 1000000)
    (hK : ∀ h' R' ib bb, Fr R hh h' → (∀ b, R' b → R b ∨ hh.size ≤ b) → Bd n0 D h' sb R' (xs ++ [.w ib bb i s bs]) → K (.tuple #[]) h') : C.wal_steps_write (some ⟨sb, 0, none⟩) i s.a s.l s.c hh K := by
  refine wal_steps_write.ok (New.intro fun h2 n2 => New.intro fun h3 n3 => os ?_)
  have F : Fr No hh h3 := n2.fr.new n3
  have z2 := n2.size
  have z3 := n3.size
  have n0s : n0 ≤ hh.size := by have := b.ge sb b.rsb; omega
  have b3 := b.no F fun x hx => by have := hD x hx; omega
  have no : ∀ x, hh.size ≤ x → ¬ (D x ∨ R x) := fun x hx y => by
    rcases y with y | y
    · have := hD x y; omega
    · have := b.ge x y; omega
  have ok : (SV.w hh.size h2.size i s bs).Ok h3 (fun b => D b ∨ R b) :=
    ⟨(n3.fr.rd (by omega) fun x => x).trans n2.rd, n3.rd, ⟨by omega, no _ (Nat.le_refl _)⟩, ⟨by omega, no _ (by omega)⟩, StrAt.fr F B fun _ _ x => x, fun p e => ⟨by have := (hs p e).1; omega, (hs p e).2⟩⟩
  obtain ⟨a, c, er, sl⟩ := b3.row
  exact ⟨a, _, c, rdc er rfl, append_one (x := .w hh.size h2.size i s bs) b3 hD ok rfl hl rfl rfl (Nat.le_of_ble_eq_true rfl) (fun h6 R' f g b6 => hK h6 R' _ _ ((F.mono fun _ _ x => x.elim).trans f fun _ _ x => x) (fun y hy => (g y hy).imp id fun q => by omega) b6) _ _ _ (rdc er rfl)⟩
theorem steps_flush_spec {n0 : Nat} {D : Nat → Prop} {hh : Heap} {sb : Nat} {R : Nat → Prop} {xs : List SV} {K : Value → Heap → Prop} (b : Bd n0 D hh sb R xs) (hD : ∀ b, D b → b < n0) (hl : xs.length < 1000000)
    (hK : ∀ h' R', Fr R hh h' → (∀ b, R' b → R b ∨ hh.size ≤ b) → Bd n0 D h' sb R' (xs ++ [.f]) → K (.tuple #[]) h') : C.wal_steps_flush (some ⟨sb, 0, none⟩) hh K := by
  obtain ⟨a, c, er, sl⟩ := b.row
  exact wal_steps_flush.ok (os ⟨a, _, c, rdc er rfl, append_one (x := .f) b hD trivial rfl hl rfl rfl (Nat.le_of_ble_eq_true rfl) (fun h6 R' f g b6 => hK h6 R' f g b6) _ _ _ (rdc er rfl)⟩)
abbrev Rs := List (Int × Sc × Tm.Txt)
def nb (rs : Rs) : Nb := rs.map fun r => (r.1, r.2.2)
def cellsR (r : Int × Sc × Tm.Txt) : List Value := [.int .i64 r.1, r.2.1.v]
theorem cellsR_one (r : Int × Sc × Tm.Txt) : ∀ v ∈ cellsR r, v.oneCell' = true := by
  intro v hv
  rcases List.mem_cons.mp hv with rfl | hv
  · rfl
  · rw [List.mem_singleton.mp hv]; rfl
structure Bl (h : Heap) (F : Nat → Prop) (a : Option Addr) (rs : Rs) : Prop where
  cells : SlCells h a (rs.flatMap cellsR)
  ab : ∀ p, a = some p → p.block < h.size ∧ ¬ F p.block
  ok : ∀ r ∈ rs, StrAt h r.2.1.a r.2.1.l r.2.2 ∧ ∀ p, r.2.1.a = some p → p.block < h.size ∧ ¬ F p.block
theorem Bl.fr {h h' : Heap} {F G F' : Nat → Prop} {a : Option Addr} {rs : Rs} (b : Bl h F a rs) (f : Fr G h h') (hG : ∀ x, x < h.size → G x → F x) (hF : ∀ x, x < h.size → F' x → F x) : Bl h' F' a rs :=
  ⟨SlCells.fr f b.cells fun p e x => (b.ab p e).2 (hG _ (b.ab p e).1 x), fun p e => ⟨Nat.lt_of_lt_of_le (b.ab p e).1 f.size, fun x => (b.ab p e).2 (hF _ (b.ab p e).1 x)⟩,
    fun r hr => ⟨StrAt.fr f (b.ok r hr).1 fun p e x => ((b.ok r hr).2 p e).2 (hG _ ((b.ok r hr).2 p e).1 x), fun p e => ⟨Nat.lt_of_lt_of_le ((b.ok r hr).2 p e).1 f.size, fun x => ((b.ok r hr).2 p e).2 (hF _ ((b.ok r hr).2 p e).1 x)⟩⟩⟩
theorem Bl.no {h h' : Heap} {F : Nat → Prop} {a : Option Addr} {rs : Rs} (b : Bl h F a rs) (f : Fr No h h') : Bl h' F a rs := b.fr f (fun _ _ x => x.elim) fun _ _ x => x
theorem Bl.get {h : Heap} {F : Nat → Prop} {a : Option Addr} {rs : Rs} (b : Bl h F a rs) {i : Nat} (hi : i < rs.length) : ∃ p, a = some p ∧ Cells h (p.add (i * 2)) (cellsR rs[i]) := by
  have c := b.cells
  have hw : ∀ r ∈ rs, (cellsR r).length = 2 := fun _ _ => rfl
  have hl := flat_length cellsR 2 rs hw
  have hp := flat_part cellsR 2 rs hw i hi
  have h2 : (cellsR rs[i]).length = 2 := rfl
  cases a with
  | none =>
    have c : rs.flatMap cellsR = [] := c
    rw [c] at hl
    exact absurd hl (by simp; omega)
  | some p =>
    refine ⟨p, rfl, ?_⟩
    have := (Cells.take (Cells.drop c (i * 2)) 2)
    rw [hp] at this
    exact this
theorem Bd.grow {n0 : Nat} {D R R' : Nat → Prop} {hh h' : Heap} {a : Option Addr} {rs : Rs} (B : Bl hh (fun b => D b ∨ R b) a rs) (f : Fr R hh h') (g : ∀ b, R' b → R b ∨ hh.size ≤ b) : Bl h' (fun b => D b ∨ R' b) a rs :=
  B.fr f (fun _ _ x => .inr x) fun y hy x => x.imp id fun z => (g y z).elim id fun q => by omega
theorem ws_snoc (l : Nb) (p : Int × List UInt8) : ws (l ++ [p]) = ws l ++ [.w p.1 p.2] := List.map_append
theorem home_spec {n0 : Nat} {D : Nat → Prop} {hh : Heap} {sb : Nat} {R : Nat → Prop} {xs : List SV} {a : Option Addr} {c : Nat} {rs : Rs} {K : Value → Heap → Prop} (b : Bd n0 D hh sb R xs) (hD : ∀ b, D b → b < n0) (B : Bl hh (fun b => D b ∨ R b) a rs) (hl : xs.length + rs.length < 100000)
    (hK : ∀ h' R' ys, Fr R hh h' → (∀ b, R' b → R b ∨ hh.size ≤ b) → Bd n0 D h' sb R' (xs ++ ys) → ys.map SV.stp = homeS (nb rs) → ys.length = rs.length + 3 → K (.tuple #[]) h') : C.wal_steps_home (some ⟨sb, 0, none⟩) a rs.length c hh K := by
  refine wal_steps_home.ok ⟨fun n h2 => 0 ≤ n ∧ n ≤ rs.length ∧ ∃ R' ys, Fr R hh h2 ∧ (∀ b, R' b → R b ∨ hh.size ≤ b) ∧ Bd n0 D h2 sb R' (xs ++ ys) ∧ ys.map SV.stp = ws (nb (rs.take n.toNat)) ∧ ys.length = n.toNat,
    fun n _ => ((rs.length : Int) - n).toNat, ⟨by omega, by omega, R, [], Fr.refl _ _, fun b hb => .inl hb, by rw [List.append_nil]; exact b, rfl, rfl⟩, ?_⟩
  rintro n h2 ⟨n0', n1, R', ys, f, g, b2, e, el⟩
  have z2 := f.size
  refine cd (fun hn => ?_) fun hn => ?_
  · have hn' : n.toNat < rs.length := by omega
    have B2 := Bd.grow (n0 := n0) B f g
    obtain ⟨p, rfl, cc⟩ := B2.get hn'
    refine ⟨⟨n0', hn⟩, os ⟨_, rfl, cc, NewRow.intro rfl (cellsR_one _) rfl fun h4 n4 => ⟨_, rda n4.rd rfl, rs[n.toNat].2.1.a, rs[n.toNat].2.1.l, rs[n.toNat].2.1.c, rda n4.rd rfl, ?_⟩⟩⟩
    have b4 := b2.no n4.fr fun x hx => by have := hD x hx; have := b2.ge sb b2.rsb; omega
    have B4 := B2.no n4.fr
    have z4 := n4.size
    obtain ⟨k1, k2⟩ := B4.ok rs[n.toNat] (List.getElem_mem hn')
    refine steps_write_spec b4 hD k1 k2 (by rw [List.length_append]; omega) fun h5 R5 ib bb f5 g5 b5 => ⟨rfl, ?_⟩
    rw [wrap_i64 (by omega) (by omega)]
    refine ⟨⟨by omega, by omega, R5, ys ++ [.w ib bb rs[n.toNat].1 rs[n.toNat].2.1 rs[n.toNat].2.2], (f.new n4).trans f5 fun x hx y => (g x y).elim id fun q => by omega, fun x hx => ?_, by rw [List.append_assoc] at b5; exact b5, ?_, ?_⟩, falls hn⟩
    · rcases g5 x hx with q | q
      · exact g x q
      · exact .inr (by omega)
    · rw [show (n + 1).toNat = n.toNat + 1 by omega, take_snoc _ _ hn', List.map_append, e]
      unfold nb
      rw [List.map_append]
      exact (ws_snoc (List.map (fun r : Int × Sc × Tm.Txt => (r.1, r.2.2)) (rs.take n.toNat)) (rs[n.toNat].1, rs[n.toNat].2.2)).symm
    · rw [List.length_append, el, List.length_singleton]; omega
  · have en : rs.take n.toNat = rs := List.take_of_length_le (by omega)
    rw [en] at e
    refine steps_flush_spec b2 hD (by rw [List.length_append]; omega) fun h6 R6 f6 g6 b6 => ⟨rfl, Hd.Empty_spec fun h7 n7 => ⟨_, _, _, rfl, ?_⟩⟩
    have z6 := f6.size
    have z7 := n7.size
    have lt6 := b6.own.lt
    have b7 := b6.no n7.fr fun x hx => by have := hD x hx; have := b6.ge sb b6.rsb; omega
    refine steps_write_spec (s := ⟨some ⟨h6.size, 0, none⟩, 512, 512⟩) (bs := Hd.zeros 512) b7 hD (strAll n7.rd (Hd.zeros_length 512)) (fun p e => by
        cases e
        refine ⟨by show h6.size < h7.size; omega, fun y => ?_⟩
        rcases y with y | y
        · have := hD h6.size y; have := b6.ge sb b6.rsb; omega
        · have := b6.ge h6.size y; omega) (by rw [List.length_append, List.length_append, List.length_singleton]; omega) fun h8 R8 ib bb f8 g8 b8 => ⟨rfl, ?_⟩
    have z8 := f8.size
    refine steps_flush_spec b8 hD (by simp only [List.length_append, List.length_singleton]; omega) fun h9 R9 f9 g9 b9 => ⟨rfl, ?_⟩
    have G6 : ∀ x, R6 x → R x ∨ hh.size ≤ x := fun x hx => (g6 x hx).elim (g x) fun q => .inr (by omega)
    have G8 : ∀ x, R8 x → R x ∨ hh.size ≤ x := fun x hx => (g8 x hx).elim (G6 x) fun q => .inr (by omega)
    have G9 : ∀ x, R9 x → R x ∨ hh.size ≤ x := fun x hx => (g9 x hx).elim (G8 x) fun q => .inr (by omega)
    have st : ∀ {T : Nat → Prop}, (∀ x, T x → R x ∨ hh.size ≤ x) → ∀ x, x < hh.size → T x → R x := fun G x hx y => (G x y).elim id fun q => by omega
    refine hK h9 R9 (ys ++ [.f, .w ib bb 1 ⟨some ⟨h6.size, 0, none⟩, 512, 512⟩ (Hd.zeros 512), .f]) ((((f.trans f6 (st g)).new n7).trans f8 (st G6)).trans f9 (st G8)) G9 ?_ ?_ ?_
    · rw [List.append_assoc, List.append_assoc, List.append_assoc] at b9; exact b9
    · rw [List.map_append, e]; rfl
    · rw [List.length_append, el]; show n.toNat + 3 = _; omega
theorem may_spec {F : Nat → Prop} {hh : Heap} {a : Option Addr} {c : Nat} {rs : Rs} {n : Int} {K : Value → Heap → Prop} (B : Bl hh F a rs) (hl : rs.length < 1000000)
    (hK : ∀ h', Fr No hh h' → K (.bool (mayW (nb rs) n)) h') : C.wal_may a rs.length c n hh K := by
  unfold mayW at hK
  refine wal_may.ok ⟨fun last k h2 => 0 ≤ k ∧ k ≤ rs.length ∧ Fr No hh h2 ∧ Hd.okGo n 97 ((nb rs).map (·.1)) = Hd.okGo n last ((nb (rs.drop k.toNat)).map (·.1)),
    fun _ k _ => ((rs.length : Int) - k).toNat, ⟨by omega, by omega, Fr.refl _ _, rfl⟩, ?_⟩
  rintro last k h2 ⟨k0, k1, f, e⟩
  refine cd (fun hk => ?_) fun hk => ?_
  · have hk' : k.toNat < rs.length := by omega
    obtain ⟨p, rfl, cc⟩ := (B.no f).get hk'
    rw [List.drop_eq_getElem_cons hk'] at e
    have e : Hd.okGo n 97 ((nb rs).map (·.1)) = (!(decide (rs[k.toNat].1 ≤ last) || decide (rs[k.toNat].1 ≥ n)) && Hd.okGo n rs[k.toNat].1 ((nb (rs.drop (k.toNat + 1))).map (·.1))) := e
    refine ⟨⟨k0, hk⟩, os ⟨_, rfl, cc, NewRow.intro rfl (cellsR_one _) rfl fun h4 n4 => ⟨_, rda n4.rd rfl, ?_⟩⟩⟩
    refine cd (fun h1 => ?_) fun h1 => ⟨_, rda n4.rd rfl, ?_⟩
    · rw [e, decide_eq_true h1] at hK; exact hK h4 (f.new n4)
    rw [decide_eq_false h1] at e
    refine cd (fun h3 => ?_) fun h3 => ⟨_, rda n4.rd rfl, ?_⟩
    · rw [e, decide_eq_true h3] at hK; exact hK h4 (f.new n4)
    rw [decide_eq_false h3] at e
    rw [wrap_i64 (by omega) (by omega)]
    exact ⟨⟨by omega, by omega, f.new n4, by rw [show (k + 1).toNat = k.toNat + 1 by omega]; exact e⟩, falls hk⟩
  · rw [List.drop_of_length_le (by omega)] at e
    have e : Hd.okGo n 97 ((nb rs).map (·.1)) = true := e
    have el : (nb rs).length = rs.length := List.length_map ..
    rw [e, el] at hK
    exact hK h2 f
theorem okGo_mono {n m : Int} (h : n ≤ m) : ∀ (l : List Int) (last : Int), Hd.okGo n last l = true → Hd.okGo m last l = true
  | [], _, _ => rfl
  | a :: r, last, e => by
    have e : (!(decide (a ≤ last) || decide (a ≥ n)) && Hd.okGo n a r) = true := e
    show (!(decide (a ≤ last) || decide (a ≥ m)) && Hd.okGo m a r) = true
    rw [Bool.and_eq_true] at e
    rw [okGo_mono h r a e.2]
    have h1 := e.1
    by_cases x : a ≤ last
    · rw [decide_eq_true x] at h1; cases h1
    · by_cases y : a ≥ n
      · rw [decide_eq_true y, Bool.or_true] at h1; cases h1
      · rw [decide_eq_false x, decide_eq_false (by omega)]; rfl
end Go.Proofs.YtjdcbblgaoogmaaGreatDoor.Wc
namespace Go.Proofs.YtjdcbblgaoogmaaGreatDoor.Wc
open Go Go.Proofs Go.Proofs.YtjdcbblgaoogmaaGreatDoor.Wx Go.Proofs.YtjdcbblgaoogmaaGreatDoor.Hp Go.Proofs.YtjdcbblgaoogmaaGreatDoor.W Go.Proofs.YtjdcbblgaoogmaaGreatDoor.Ad
/-- a row that grows, in blocks F of its own behind n0 -/
structure Row (n0 : Nat) (h : Heap) (F : Nat → Prop) (w : Nat) (a : Option Addr) (l c : Nat) (xs : List Value) : Prop where
  s : Sl h w a l c xs F
  ge : ∀ b, F b → n0 ≤ b ∧ b < h.size
theorem Row.nil (n0 : Nat) (h : Heap) (w : Nat) : Row n0 h No w none 0 0 [] := ⟨Sl.nil _ _ _, fun _ x => x.elim⟩
theorem Row.keep {n0 : Nat} {h h' : Heap} {F G : Nat → Prop} {w : Nat} {a : Option Addr} {l c : Nat} {xs : List Value} (r : Row n0 h F w a l c xs) (f : Fr G h h') (hG : ∀ b, F b → ¬ G b) : Row n0 h' F w a l c xs :=
  ⟨r.s.fr f fun b _ x => hG b x, fun b x => ⟨(r.ge b x).1, Nat.lt_of_lt_of_le (r.ge b x).2 f.size⟩⟩
theorem row_app {n0 : Nat} {hh : Heap} {F : Nat → Prop} {w : Nat} {a : Option Addr} {l c e : Nat} {xs vs : List Value} {elem : TI} {K : Option Addr → Nat → Nat → Heap → Prop} (r : Row n0 hh F w a l c xs) (hv : vs.length = w) (one : ∀ v ∈ vs, v.oneCell' = true)
    (hz : elem.zero.length = elem.cells) (hc : elem.cells = w) (hby : elem.bytes ≤ 64) (hl : l < 1000000) (hn : n0 ≤ hh.size)
    (hK : ∀ a' c' h' F', Fr F hh h' → (∀ b, F' b → F b ∨ hh.size ≤ b) → Row n0 h' F' w a' (l + 1) c' (xs ++ vs) → K a' (l + 1) c' h') :
    New vs e hh fun h4 => ∃ new1 : List Value, List.length new1 = 1 * w ∧ SlCells h4 (some ⟨hh.size, 0, none⟩) new1 ∧ (∀ v ∈ new1, v.oneCell' = true) ∧ AppendP elem e a l c 1 new1 h4 K := by
  refine New.intro fun h4 n4 => ?_
  have z4 := n4.size
  refine ⟨vs, by rw [hv, Nat.one_mul], cellsAll n4.rd, one, ?_⟩
  have s4 : Sl h4 elem.cells a l c xs F := by rw [hc]; exact r.s.fr n4.fr fun _ _ _ x => x
  refine append_own s4 (by rw [hc, hv, Nat.one_mul]) hz (Nat.le_trans (Nat.mul_le_mul (show l + 1 ≤ 1000000 by omega) hby) (by decide)) (by omega) fun a' c' h5 f5 s5 => ?_
  rw [hc] at s5
  have z5 := f5.size
  refine hK a' c' h5 (fun b => (F b ∨ h4.size ≤ b) ∧ b < h5.size) ((n4.fr.mono fun _ _ x => x.elim).trans f5 fun b _ x => x) (fun b hb => hb.1.imp id fun q => by omega) ⟨?_, fun b hb => ⟨?_, hb.2⟩⟩
  · obtain ⟨q1, q2⟩ := s5
    refine ⟨q1, ?_⟩
    cases a' with
    | none => exact q2
    | some p => obtain ⟨a1, a2, a3, a4⟩ := q2; exact ⟨a1, ⟨a2, a3.lt⟩, a3, a4⟩
  · rcases hb.1 with q | q
    · exact (r.ge b q).1
    · omega
theorem SV.Ok.weak {h : Heap} {D E : Nat → Prop} {x : SV} (a : x.Ok h D) (hE : ∀ b, E b → D b) : x.Ok h E := by
  cases x with
  | f => trivial
  | w ib bb i s b =>
    obtain ⟨a1, a2, a3, a4, a5, a6⟩ := a
    exact ⟨a1, a2, ⟨a3.1, fun y => a3.2 (hE _ y)⟩, ⟨a4.1, fun y => a4.2 (hE _ y)⟩, a5, fun p e => ⟨(a6 p e).1, fun y => (a6 p e).2 (hE _ y)⟩⟩
def hsc (r : Int × Sc × Tm.Txt) : Hd.Sc := ⟨r.2.1.a, r.2.1.l, r.2.1.c⟩
theorem commit_steps {n0 : Nat} {D : Nat → Prop} {d : Option Addr} {hh : Heap} {sb : Nat} {R : Nat → Prop} {S : RD} {xs : List SV} {K : Value → Heap → Prop} (b : Bd n0 D hh sb R xs) (hD : ∀ b, D b → b < n0) (A : DiskF hh D d S) (hp : S.pend.length + xs.length < 1000000000) (ht : S.tape.length + xs.length < 1000000000)
    (hK : ∀ h' D', Fr D hh h' → Gw hh D h' D' → DiskF h' D' d (runS (xs.map SV.stp) S).1 → K (.int .i64 (runS (xs.map SV.stp) S).2) h') :
    ∃ (sA6 : Option Addr) (sL6 : Nat) (sC6 : Nat), cellOf hh ⟨sb, 0, none⟩ = some (.slice sA6 sL6 sC6) ∧ C.wal_steps_do sA6 sL6 sC6 d hh fun r10 h22 => ∃ (n6 : Int), r10 = .int .i64 n6 ∧ K (.int .i64 n6) h22 := by
  obtain ⟨a, c, e, s⟩ := b.row
  refine ⟨a, _, c, rdc e rfl, do_spec A (fun x hx => (b.ok x hx).weak fun _ y => .inl y) s.cells (fun p e => ?_) hp ht fun h' D' f g A' => ⟨_, rfl, hK h' D' f g A'⟩⟩
  subst e
  obtain ⟨_, _, q, o, _⟩ := s
  exact ⟨o.lt, fun y => by have := hD _ y; have := (b.ge _ q.1).1; omega⟩
theorem logs_take (l : Nb) {n : Nat} (h : n < l.length) : ws ((logL l).take (n + 1)) = ws ((logL l).take n) ++ [.w (2 + (n : Int)) l[n].2] := by
  rw [take_snoc _ _ (by rw [logL_length]; exact h), ws_snoc, logL_get]
theorem nb_get (rs : Rs) {n : Nat} (h : n < rs.length) : (nb rs)[n]'(by unfold nb; rw [List.length_map]; exact h) = (rs[n].1, rs[n].2.2) := List.getElem_map ..
theorem Commit_spec {D : Nat → Prop} {d : Option Addr} {hh : Heap} {S : RD} {a : Option Addr} {c : Nat} {rs : Rs} {K : Value → Heap → Prop} (G : Re.Glo hh) (A : DiskF hh D d S) (B : Bl hh D a rs) (hl : rs.length < 1000000) (hp : S.pend.length < 100000000) (ht : S.tape.length < 100000000)
    (hK : ∀ h' D', Fr D hh h' → Gw hh D h' D' → DiskF h' D' d (wal S (nb rs)).1 → K (.int .i64 (wal S (nb rs)).2) h') : C.wal_Commit d a rs.length c hh K := by
  have hDl : ∀ b, D b → b < hh.size := fun b x => A.lt x
  have same : ∀ {h'}, Fr No hh h' → Fr D hh h' ∧ Gw hh D h' D ∧ DiskF h' D d S := fun f => ⟨f.mono fun _ _ x => x.elim, Gw.refl f.size hDl, A.no f⟩
  have el : (nb rs).length = rs.length := List.length_map ..
  unfold wal at hK
  refine wal_Commit.ok (ce (fun h0 => ?_) fun h0 => ?_)
  · have e : nb rs = [] := List.eq_nil_of_length_eq_zero (by rw [el]; omega)
    rw [if_pos e] at hK
    obtain ⟨x, y, z⟩ := same (Fr.refl No hh)
    exact hK hh D x y z
  have hne : nb rs ≠ [] := fun e => by rw [e] at el; have : (0 : Nat) = rs.length := el; omega
  rw [if_neg hne] at hK
  refine DiskF.blocks A ⟨_, rfl, may_spec B (by omega) fun h3 f3 => ⟨_, rfl, cnot (cs (fun hm => ?_) fun hm => ?_)⟩⟩
  rotate_left
  · rw [if_pos hm] at hK
    obtain ⟨x, y, z⟩ := same f3
    exact hK h3 D x y z
  rw [if_neg (by rw [hm]; simp)] at hK
  have z3 := f3.size
  have toNo : ∀ {h'}, Fr (From hh.size) hh h' → Fr No hh h' := fun f => f.mono fun b hb x => by have x : hh.size ≤ b := x; omega
  refine ⟨fun na nl nc da dl dc n h => 0 ≤ n ∧ n ≤ rs.length ∧ nl = n.toNat ∧ dl = n.toNat ∧ Fr No hh h ∧ ∃ F1 F2 : Nat → Prop, Row hh.size h F1 1 na nl nc (Hd.ints ((rs.take n.toNat).map (·.1))) ∧ Row hh.size h F2 1 da dl dc ((rs.take n.toNat).map fun r => (hsc r).v) ∧ ∀ b, F1 b → ¬ F2 b,
    fun _ _ _ _ _ _ n _ => ((rs.length : Int) - n).toNat, ⟨by omega, by omega, rfl, rfl, f3, No, No, Row.nil _ _ _, Row.nil _ _ _, fun b x => x.elim⟩, ?_⟩
  rintro na nl nc da dl dc n h4 ⟨n0, n1, rfl, rfl, f4, F1, F2, r1, r2, dj⟩
  have z4 := f4.size
  refine cd (fun hn => ?_) fun hn => ?_
  · have hn' : n.toNat < rs.length := by omega
    obtain ⟨p, rfl, cc⟩ := (B.no f4).get hn'
    refine ⟨⟨n0, hn⟩, os ⟨_, rfl, cc, NewRow.intro rfl (cellsR_one _) rfl fun h6 n6 => ⟨_, rda n6.rd rfl, ?_⟩⟩⟩
    have z6 := n6.size
    have r1' := r1.keep n6.fr fun _ _ x => x
    have r2' := r2.keep n6.fr fun _ _ x => x
    refine row_app r1' rfl (fun v hv => by rw [List.mem_singleton.mp hv]; rfl) rfl rfl (Nat.le_of_ble_eq_true rfl) (by omega) (by omega) fun na' nc' h8 F1' f8 g8 r1'' => ?_
    have z8 := f8.size
    have r68 : rd h8 h4.size = cellsR rs[n.toNat] := (f8.rd (by omega) fun x => by have := r1.ge _ x; omega).trans n6.rd
    refine ⟨rs[n.toNat].2.1.a, rs[n.toNat].2.1.l, rs[n.toNat].2.1.c, rda r68 rfl, ?_⟩
    have r2'' := r2'.keep f8 fun b x y => dj b y x
    refine row_app r2'' rfl (fun v hv => by rw [List.mem_singleton.mp hv]; rfl) rfl rfl (Nat.le_of_ble_eq_true rfl) (by omega) (by omega) fun da' dc' h10 F2' f10 g10 r2''' => ?_
    rw [wrap_i64 (by omega) (by omega)]
    have en : (n + 1).toNat = n.toNat + 1 := by omega
    refine ⟨⟨by omega, by omega, en.symm, en.symm, ?_, F1', F2', ?_, ?_, ?_⟩, falls hn⟩
    · have q1 : Fr No hh h8 := (f4.new n6).trans f8 fun b hb x => by have := r1.ge b x; omega
      exact q1.trans f10 fun b hb x => by have := r2.ge b x; omega
    · have := r1''.keep f10 fun b x y => by
        rcases g8 b x with q | q
        · exact dj b q y
        · have := (r2.ge b y).2; omega
      rw [en, take_snoc _ _ hn', List.map_append]
      unfold Hd.ints at this ⊢
      rw [List.map_append]; exact this
    · rw [en, take_snoc _ _ hn', List.map_append]; exact r2'''
    · intro b x y
      rcases g10 b y with q | q
      · rcases g8 b x with q' | q'
        · exact dj b q' q
        · have := (r2.ge b q).2; omega
      · have := (r1''.ge b x).2; omega
  have et : rs.take n.toNat = rs := List.take_of_length_le (by omega)
  rw [et] at r1 r2
  have ln : n.toNat = rs.length := by omega
  have elm : (rs.map (·.1)).length = n.toNat := by rw [List.length_map, ln]
  have hmay : Hd.okGo S.lasts.length 97 (rs.map (·.1)) = true ∧ rs.length ≤ 96 := by
    unfold mayW at hm
    rw [Bool.and_eq_true] at hm
    have h1 := hm.1
    have h2 := of_decide_eq_true hm.2
    rw [el] at h2
    unfold nb at h1
    rw [List.map_map] at h1
    exact ⟨h1, by omega⟩
  have hmm : Hd.mayM (rs.map (·.1)) 16384 = true := by
    unfold Hd.mayM
    rw [okGo_mono (by have := A.max.1; omega) _ _ hmay.1, decide_eq_true (by rw [elm]; omega), decide_eq_true (by rw [elm]; omega)]; rfl
  have Dt : Hd.Dat h4 da n.toNat (rs.map hsc) (rs.map (·.2.2)) := by
    refine ⟨?_, by rw [List.length_map, ln], by rw [List.length_map, List.length_map], fun i h1 h2 => ?_⟩
    · rw [List.map_map]; exact r2.s.cells
    · rw [List.getElem_map, List.getElem_map]
      rw [List.length_map] at h1
      exact StrAt.fr f4 (B.ok _ (List.getElem_mem h1)).1 fun _ _ x => x
  have eall : ((nb rs).map (·.2)).all (fun d => d.length == 512) = Hd.blM (rs.map (·.2.2)) ((rs.map (·.1)).length) := by
    unfold Hd.blM nb
    rw [List.map_map, List.length_map, List.length_map, beq_self_eq_true, Bool.and_true]; rfl
  rw [eall] at hK
  refine Hd.Make_spec (G.no f4) r1.s.cells elm (by omega) Dt (by omega) (fun x => absurd (hmm.symm.trans x) (by simp)) (fun _ hb h11 f11 => ⟨_, _, _, _, rfl, ?_⟩) fun _ hb hb0 h11 f11 hbb s11 => ⟨_, _, _, _, rfl, ?_⟩
  · rw [if_pos hb] at hK
    obtain ⟨x, y, z⟩ := same (f4.no f11)
    exact cn (fun _ => hK h11 D x y z) fun x => absurd x (by decide)
  rw [if_neg (by rw [hb]; simp)] at hK
  have F11 := f4.no f11
  have z11 := f11.size
  refine cn (fun x => absurd rfl x) fun _ => DiskF.down (A.no F11) ⟨_, rfl, cs (fun hd => ?_) fun hd => ?_⟩
  · rw [if_pos hd] at hK
    obtain ⟨x, y, z⟩ := same F11
    exact hK h11 D x y z
  rw [if_neg (by rw [hd]; simp)] at hK
  refine New.intro fun h13 n13 => ?_
  have F13 := F11.new n13
  have z13 := n13.size
  have b13 : Bd h11.size D h13 h11.size (fun b => b = h11.size) [] :=
    ⟨rfl, fun b e => ⟨by omega, by omega⟩, n13.own, ⟨none, 0, n13.rd, Sl.nil _ _ _⟩, fun x hx => absurd hx List.not_mem_nil⟩
  have hD : ∀ b, D b → b < h11.size := fun b x => by have := hDl b x; omega
  have ehd : hdrOf (nb rs) = Hd.laidM (rs.map (·.1)) (Hd.sumM (Hd.laidM (rs.map (·.1)) 0) (rs.map (·.2.2))).toNat := by
    unfold hdrOf nb
    rw [List.map_map, List.map_map]; rfl
  rw [← ehd] at s11
  have lhd : (hdrOf (nb rs)).length = 512 := by have := s11.1; rw [List.length_map] at this; omega
  have sh : StrAt h13 (some ⟨hb0, 0, none⟩) 512 (hdrOf (nb rs)) := StrAt.fr n13.fr s11.str fun _ _ x => x
  have bl13 : Bl h13 (fun b => D b ∨ b = h11.size) a rs := B.fr F13 (fun _ _ x => x.elim) fun x hx y => y.elim id fun e => by omega
  have hbl : hb0 < h11.size := by obtain ⟨_, _, _, o, _⟩ := s11; exact o.lt
  refine ⟨fun n h => 0 ≤ n ∧ n ≤ rs.length ∧ ∃ R ys, Fr (fun b => b = h11.size) h13 h ∧ (∀ b, R b → b = h11.size ∨ h13.size ≤ b) ∧ Bd h11.size D h h11.size R ys ∧ ys.map SV.stp = ws ((logL (nb rs)).take n.toNat) ∧ ys.length = n.toNat,
    fun n _ => ((rs.length : Int) - n).toNat, ⟨by omega, by omega, _, [], Fr.refl _ _, fun b x => .inl x, b13, rfl, rfl⟩, ?_⟩
  rintro m h14 ⟨m0, m1, R, ys, f14, g14, b14, e14, l14⟩
  have z14 := f14.size
  have B14 := Bd.grow (n0 := h11.size) bl13 f14 g14
  refine cd (fun hn => ?_) fun hn => ?_
  · have hn' : m.toNat < rs.length := by omega
    obtain ⟨p, rfl, cc⟩ := B14.get hn'
    refine ⟨⟨m0, hn⟩, os ⟨_, rfl, cc, NewRow.intro rfl (cellsR_one _) rfl fun h16 n16 => ⟨rs[m.toNat].2.1.a, rs[m.toNat].2.1.l, rs[m.toNat].2.1.c, rda n16.rd rfl, ?_⟩⟩⟩
    have z16 := n16.size
    have b16 := b14.no n16.fr fun x hx => by have := hD x hx; omega
    obtain ⟨k1, k2⟩ := (B14.no n16.fr).ok rs[m.toNat] (List.getElem_mem hn')
    rw [wrap_i64 (n := 2 + m) (by omega) (by omega)]
    refine steps_write_spec b16 hD k1 k2 (by omega) fun h17 R17 ib bb f17 g17 b17 => ⟨rfl, ?_⟩
    rw [wrap_i64 (by omega) (by omega)]
    refine ⟨⟨by omega, by omega, R17, _, (f14.new n16).trans f17 fun x hx y => (g14 x y).elim id fun q => by omega, fun x hx => ?_, b17, ?_, ?_⟩, falls hn⟩
    · rcases g17 x hx with q | q
      · exact g14 x q
      · exact .inr (by omega)
    · rw [show (m + 1).toNat = m.toNat + 1 by omega, logs_take _ (by rw [el]; exact hn'), List.map_append, e14, nb_get _ hn', show ((m.toNat : Nat) : Int) = m by omega]; rfl
    · rw [List.length_append, l14, List.length_singleton]; omega
  have e14' : ys.map SV.stp = ws (logL (nb rs)) := by rw [e14, List.take_of_length_le (by rw [logL_length, el]; omega)]
  refine steps_flush_spec b14 hD (by omega) fun h18 R18 f18 g18 b18 => ⟨rfl, ?_⟩
  have z18 := f18.size
  have G18 : ∀ x, R18 x → x = h11.size ∨ h13.size ≤ x := fun x hx => (g18 x hx).elim (g14 x) fun q => .inr (by omega)
  have st : ∀ {T : Nat → Prop}, (∀ x, T x → x = h11.size ∨ h13.size ≤ x) → ∀ x, x < h13.size → T x → x = h11.size := fun G x hx y => (G x y).elim id fun q => by omega
  have F18 : Fr (fun b => b = h11.size) h13 h18 := f14.trans f18 (st g14)
  have hr : ∀ {T : Nat → Prop}, (∀ x, T x → x = h11.size ∨ h13.size ≤ x) → ¬ T hb0 := fun G x => by
    rcases G _ x with q | q <;> omega
  refine steps_write_spec (s := ⟨some ⟨hb0, 0, none⟩, 512, 512⟩) (bs := hdrOf (nb rs)) b18 hD (StrAt.fr F18 sh fun p e => by cases e; show ¬ hb0 = h11.size; omega) (fun p e => by
      cases e
      refine ⟨by show hb0 < h18.size; omega, fun y => ?_⟩
      rcases y with y | y
      · have y : D hb0 := y
        have := hDl _ y
        omega
      · exact hr G18 y) (by rw [List.length_append, List.length_singleton]; omega) fun h19 R19 ib bb f19 g19 b19 => ⟨rfl, ?_⟩
  have z19 := f19.size
  have G19 : ∀ x, R19 x → x = h11.size ∨ h13.size ≤ x := fun x hx => (g19 x hx).elim (G18 x) fun q => .inr (by omega)
  have F19 := F18.trans f19 (st G18)
  refine steps_flush_spec b19 hD (by simp only [List.length_append, List.length_singleton]; omega) fun h20 R20 f20 g20 b20 => ⟨rfl, ?_⟩
  have z20 := f20.size
  have G20 : ∀ x, R20 x → x = h11.size ∨ h13.size ≤ x := fun x hx => (g20 x hx).elim (G19 x) fun q => .inr (by omega)
  have F20 := F19.trans f20 (st G19)
  have B20 := Bd.grow (n0 := h11.size) bl13 F20 G20
  refine home_spec b20 hD B20 (by simp only [List.length_append, List.length_singleton]; omega) fun h21 R21 zs f21 g21 b21 ez lz => ⟨rfl, ?_⟩
  have G21 : ∀ x, R21 x → x = h11.size ∨ h13.size ≤ x := fun x hx => (g21 x hx).elim (G20 x) fun q => .inr (by omega)
  have F21 := F20.trans f21 (st G20)
  have F21' : Fr No hh h21 := (F13.mono fun _ _ x => x.elim).trans F21 fun x hx e => by have e : x = h11.size := e; omega
  have est : (ys ++ [SV.f] ++ [SV.w ib bb 1 ⟨some ⟨hb0, 0, none⟩, 512, 512⟩ (hdrOf (nb rs))] ++ [SV.f] ++ zs).map SV.stp = commitS (nb rs) (hdrOf (nb rs)) := by
    rw [List.map_append, ez]
    unfold commitS
    congr 1
    simp only [List.map_append, e14', List.append_assoc]; rfl
  have elen : (ys ++ [SV.f] ++ [SV.w ib bb 1 ⟨some ⟨hb0, 0, none⟩, 512, 512⟩ (hdrOf (nb rs))] ++ [SV.f] ++ zs).length ≤ 20010 := by
    simp only [List.length_append, List.length_singleton, l14, lz]; omega
  refine commit_steps b21 hD (A.no F21') (by omega) (by omega) fun h' D' f g A' => ?_
  rw [est] at A'
  rw [est]
  exact hK h' D' (F21'.mono (fun _ _ x => x.elim) |>.trans f fun _ _ x => x) ⟨fun b hb => (g.old b (by have := F21'.size; omega)), g.lt⟩ A'
end Go.Proofs.YtjdcbblgaoogmaaGreatDoor.Wc
namespace Go.Proofs.YtjdcbblgaoogmaaGreatDoor.Rf
open Go Go.Proofs Go.Proofs.YtjdcbblgaoogmaaGreatDoor.Wx Go.Proofs.YtjdcbblgaoogmaaGreatDoor.Hp Go.Proofs.YtjdcbblgaoogmaaGreatDoor.W Go.Proofs.YtjdcbblgaoogmaaGreatDoor.Ad
structure FD where
  first : List UInt8
  acts : List (Int × Int × List UInt8)
  keep : List Bool
  left : Int
  out : Bool
  writes : Int
  flushes : Int
structure FRaw where
  fa : Option Addr
  fn : Nat
  fc : Nat
  aa : Option Addr
  an : Nat
  ac : Nat
  ka : Option Addr
  kn : Nat
  kc : Nat
  left : Int
  out : Bool
  writes : Int
  flushes : Int
def FRaw.cells (r : FRaw) : List Value :=
  [.slice r.fa r.fn r.fc, .slice r.aa r.an r.ac, .slice r.ka r.kn r.kc, .int .i64 r.left, .bool r.out, .int .i64 r.writes, .int .i64 r.flushes]
/-- stands at block b, in colours m .. m+4 -/
structure Ref (h : Heap) (b : Nat) (S : FD) (col : Nat → Nat) (m : Nat) (r : FRaw) (es : List Ent) : Prop where
  sc : col b = m
  so : Own h b
  sr : rd h b = r.cells
  left : r.left = S.left
  out : r.out = S.out
  writes : r.writes = S.writes
  flushes : r.flushes = S.flushes
  f : Sl h 1 r.fa r.fn r.fc (S.first.map bv) (On col (m + 1))
  fn : r.fn = S.first.length
  fmax : S.first.length ≤ 8388608
  a : Sl h 3 r.aa r.an r.ac (es.flatMap Ent.cells) (On col (m + 2))
  an : r.an = es.length
  amax : es.length ≤ 140737488355328
  ts : Ents h col (m + 3) es S.acts
  k : Sl h 1 r.ka r.kn r.kc (S.keep.map .bool) (On col (m + 4))
  kn : r.kn = S.keep.length
def RefAt (h : Heap) (d : Option Addr) (S : FD) (col : Nat → Nat) (m : Nat) : Prop := ∃ b r es, d = some ⟨b, 0, none⟩ ∧ Ref h b S col m r es
theorem Ref.keep' {h h' : Heap} {b : Nat} {S : FD} {col col' : Nat → Nat} {m : Nat} {r : FRaw} {es : List Ent} {F : Nat → Prop} (d : Ref h b S col m r es) (f : Fr F h h') (g : Ag h.size col col')
    (hF : ∀ b, m ≤ col b → col b ≤ m + 5 → ¬ F b) : Ref h' b S col' m r es := by
  have hb := d.so.lt
  have hs : ¬ F b := hF b (by have := d.sc; omega) (by have := d.sc; omega)
  exact ⟨(g _ hb).trans d.sc, f.own hb hs d.so, (f.rd hb hs).trans d.sr, d.left, d.out, d.writes, d.flushes, d.f.keep f g (fun b e => hF b (by omega) (by omega)), d.fn, d.fmax,
    d.a.keep f g (fun b e => hF b (by omega) (by omega)), d.an, d.amax, Ents.keep f g (fun b e => hF b (by omega) (by omega)) d.ts, d.k.keep f g (fun b e => hF b (by omega) (by omega)), d.kn⟩
theorem RefAt.keep {h h' : Heap} {d : Option Addr} {S : FD} {col col' : Nat → Nat} {m : Nat} {F : Nat → Prop} (D : RefAt h d S col m) (f : Fr F h h') (g : Ag h.size col col')
    (hF : ∀ b, m ≤ col b → col b ≤ m + 5 → ¬ F b) : RefAt h' d S col' m := by
  obtain ⟨b, r, es, e, D⟩ := D; exact ⟨b, r, es, e, D.keep' f g hF⟩
theorem Ref.field {h : Heap} {b : Nat} {S : FD} {col : Nat → Nat} {m : Nat} {r : FRaw} {es : List Ent} (d : Ref h b S col m r es) (k : Nat) : cellOf h (Addr.add ⟨b, 0, none⟩ k) = r.cells[k]? := by
  rw [add_mk, cellOf_rd, d.sr, Nat.zero_add]
def freshR (bs : List UInt8) : FD := ⟨bs, [], [], 0, false, 0, 0⟩
theorem copied_spec {a : Option Addr} {l c : Nat} {bs : List UInt8} {h : Heap} {K : Value → Heap → Prop} (B : StrAt h a l bs) (hl : l ≤ 140737488355328)
    (hK : ∀ a' c' h', Fr No h h' → Sl h' 1 a' l c' (bs.map bv) (From h.size) → K (.slice a' l c') h') : C.boleref03_copied a l c h K := by
  obtain ⟨s1, s2, s3⟩ := StrAt.src B
  refine boleref03_copied.ok ⟨_, s1, s2, s3, append_nil s1 rfl (by show l * 1 ≤ _; omega) hl hK⟩
theorem Of_spec {a : Option Addr} {l c : Nat} {bs : List UInt8} {h : Heap} {K : Value → Heap → Prop} (col : Nat → Nat) (m : Nat) (B : StrAt h a l bs) (hl : l ≤ 140737488355328)
    (h1 : l % 512 ≠ 0 ∨ l = 0 ∨ 16384 < l / 512 → K (.tuple #[.pointer none, .int .i64 32]) h)
    (h2 : l % 512 = 0 → 0 < l → l / 512 ≤ 16384 → ∀ q h' col', Fr No h h' → Ag h.size col col' → RefAt h' (some q) (freshR bs) col' m → K (.tuple #[.pointer (some q), .int .i64 0]) h') :
    C.boleref03_Of a l c h K := by
  have hbl := B.1
  have hd : Int.tdiv (l : Int) 512 = ((l / 512 : Nat) : Int) := by rw [Int.tdiv_eq_ediv_of_nonneg (by omega)]; omega
  have hmd : Int.tmod (l : Int) 512 = ((l % 512 : Nat) : Int) := by rw [Int.tmod_eq_emod_of_nonneg (by omega)]; omega
  have hw : IntKind.wrap .i64 (Int.tdiv (l : Int) 512) = ((l / 512 : Nat) : Int) := by rw [hd]; exact wrap_i64 (by omega) (by omega)
  refine boleref03_Of.ok (ce (fun x => h1 (Or.inr (Or.inl (by omega)))) fun x => cn (fun y => h1 (Or.inl (by omega))) fun y => ?_)
  rw [hw]
  refine cd (fun z => h1 (Or.inr (Or.inr (by omega)))) fun z => copied_spec B hl fun a' c' h3 f3 s3 => ⟨_, _, _, rfl, New.intro fun h4 n4 => ?_⟩
  refine h2 (by omega) (by omega) (by omega) _ _ (upd (upd col h.size (m + 1)) h3.size m) (f3.new n4) ((ag_upd _ _ _).trans (ag_upd _ _ _) f3.size) ?_
  refine ⟨_, ⟨a', l, c', none, 0, 0, none, 0, 0, 0, false, 0, 0⟩, [], rfl, upd_ge (Nat.le_refl _), n4.own, n4.rd, rfl, rfl, rfl, rfl, ?_, hbl.symm, ?_, Sl.nil _ _ _, rfl, by simp, trivial, Sl.nil _ _ _, rfl⟩
  · have s : Sl h3 1 a' l c' (bs.map bv) (On (upd col h.size (m + 1)) (m + 1)) := s3.mono fun b hb => upd_ge hb
    exact s.keep n4.fr (ag_upd _ _ _) (fun _ _ x => x)
  · show bs.length ≤ 8388608
    omega
theorem Blocks_spec {d : Option Addr} {h : Heap} {K : Value → Heap → Prop} {S : FD} {col : Nat → Nat} {m : Nat} (D : RefAt h d S col m)
    (hK : K (.int .i64 (S.first.length / 512 : Nat)) h) : C.boleref03_Disk_Blocks d h K := by
  obtain ⟨b, r, es, rfl, D⟩ := D
  refine boleref03_Disk_Blocks.ok ⟨_, _, _, D.field 0, ?_⟩
  have hm := D.fmax
  have hd : Int.tdiv (r.fn : Int) 512 = ((S.first.length / 512 : Nat) : Int) := by rw [D.fn, Int.tdiv_eq_ediv_of_nonneg (by omega)]; omega
  have hw : IntKind.wrap .i64 (Int.tdiv (r.fn : Int) 512) = ((S.first.length / 512 : Nat) : Int) := by rw [hd]; exact wrap_i64 (by omega) (by omega)
  rw [hw]; exact hK
end Go.Proofs.YtjdcbblgaoogmaaGreatDoor.Rf
namespace Go.Proofs.YtjdcbblgaoogmaaGreatDoor.Ad
open Go Go.Proofs Go.Proofs.YtjdcbblgaoogmaaGreatDoor.Wx Go.Proofs.YtjdcbblgaoogmaaGreatDoor.Hp Go.Proofs.YtjdcbblgaoogmaaGreatDoor.W
theorem ent_one (e : Ent) : ∀ v ∈ e.cells, v.oneCell' = true := by
  intro v hv; simp only [Ent.cells, List.mem_cons, List.not_mem_nil, or_false] at hv; rcases hv with rfl | rfl | rfl <;> rfl
/-- rows of acts that stand apart: entries and what each has of bytes -/
theorem Ents.at_ {h : Heap} {col : Nat → Nat} {k : Nat} : ∀ {es : List Ent} {ts : List (Int × Int × List UInt8)}, Ents h col k es ts → ∀ i (h1 : i < es.length) (h2 : i < ts.length),
    es[i].kind = ts[i].1 ∧ es[i].at_ = ts[i].2.1 ∧ StrAt h es[i].a es[i].l ts[i].2.2 ∧ (∀ p, es[i].a = some p → p.block < h.size ∧ col p.block = k) := by
  intro es
  induction es with
  | nil => intro ts _ i h1; exact absurd h1 (Nat.not_lt_zero _)
  | cons x r ih =>
    intro ts e i h1 h2
    cases ts with
    | nil => exact e.elim
    | cons t s =>
      cases i with
      | zero => exact ⟨e.1, e.2.1, e.2.2.1, e.2.2.2.1⟩
      | succ i => exact ih e.2.2.2.2 i (Nat.lt_of_succ_lt_succ h1) (Nat.lt_of_succ_lt_succ h2)
end Go.Proofs.YtjdcbblgaoogmaaGreatDoor.Ad
namespace Go.Proofs.YtjdcbblgaoogmaaGreatDoor.Ad
open Go Go.Proofs Go.Proofs.YtjdcbblgaoogmaaGreatDoor.Wx Go.Proofs.YtjdcbblgaoogmaaGreatDoor.Hp Go.Proofs.YtjdcbblgaoogmaaGreatDoor.W
def refusedOf (e : Ent) (N : Int) : Int := if e.kind = 2 then 0 else if e.kind ≠ 1 then 1 else if e.at_ < 0 then 31 else if e.at_ ≥ N then 31 else if e.l ≠ 512 then 32 else 0
end Go.Proofs.YtjdcbblgaoogmaaGreatDoor.Ad
namespace Go.Proofs.YtjdcbblgaoogmaaGreatDoor.L3
open Go Go.Proofs Go.Proofs.YtjdcbblgaoogmaaGreatDoor.Wx Go.Proofs.YtjdcbblgaoogmaaGreatDoor.Hp Go.Proofs.YtjdcbblgaoogmaaGreatDoor.W Go.Proofs.YtjdcbblgaoogmaaGreatDoor.Ad
theorem SlCells.lt {h : Heap} {p : Addr} {xs : List Value} (c : SlCells h (some p) xs) (hx : xs ≠ []) : p.block < h.size := by
  cases xs with
  | nil => exact absurd rfl hx
  | cons x r =>
    have := (cellOf_some (c 0 x rfl)).2
    have hb : (p.add 0).block = p.block := by rw [Addr.add_zero]
    rw [hb] at this
    exact rd_lt this
theorem chosen_add (ps : List (Int × List UInt8)) (x : Int × List UInt8) : ∀ keep : List Bool, chosen (ps ++ [x]) keep = chosen ps keep ++ (if keep[ps.length]? = some true then [x] else []) := by
  induction ps with
  | nil => intro keep; cases keep with
    | nil => simp [chosen]
    | cons k r => cases k <;> simp [chosen]
  | cons p r ih => intro keep; cases keep with
    | nil => simp [chosen]
    | cons k s =>
      have e := ih s
      simp only [chosen] at e ⊢
      cases k <;> simp [e]
end Go.Proofs.YtjdcbblgaoogmaaGreatDoor.L3
namespace Go.Proofs.YtjdcbblgaoogmaaGreatDoor.L3
open Go Go.Proofs Go.Proofs.YtjdcbblgaoogmaaGreatDoor.Wx Go.Proofs.YtjdcbblgaoogmaaGreatDoor.Hp Go.Proofs.YtjdcbblgaoogmaaGreatDoor.W Go.Proofs.YtjdcbblgaoogmaaGreatDoor.Ad
theorem applyTo_len (ps : List (Int × List UInt8)) : ∀ ls, (∀ x ∈ ls, x.length = 512) → (∀ x ∈ ps, x.2.length = 512) → ∀ x ∈ applyTo ls ps, x.length = 512 := by
  induction ps with
  | nil => intro ls h _; exact h
  | cons p r ih =>
    intro ls h hp
    refine ih _ (fun x hx => ?_) (fun x hx => hp x (List.mem_cons_of_mem _ hx))
    rcases List.mem_or_eq_of_mem_set hx with hx | rfl
    · exact h x hx
    · exact hp p (List.mem_cons_self ..)
end Go.Proofs.YtjdcbblgaoogmaaGreatDoor.L3
namespace Go.Proofs.YtjdcbblgaoogmaaGreatDoor.L3
open Go Go.Proofs Go.Proofs.YtjdcbblgaoogmaaGreatDoor.Wx Go.Proofs.YtjdcbblgaoogmaaGreatDoor.Hp Go.Proofs.YtjdcbblgaoogmaaGreatDoor.W Go.Proofs.YtjdcbblgaoogmaaGreatDoor.Ad
/-- a disk whose power stays, with blocks of 512 bytes -/
structure Calm (S : RD) : Prop where
  down : S.down = false
  left : S.left = 0
  lw : ∀ x ∈ S.lasts, x.length = 512
  pw : ∀ x ∈ S.pend, x.2.length = 512
theorem Calm.fresh {ls : List (List UInt8)} (h : ∀ x ∈ ls, x.length = 512) : Calm (fresh ls) := ⟨rfl, rfl, h, fun x hx => by simp [Ad.fresh] at hx⟩
theorem Calm.flush {S : RD} (c : Calm S) : S.flush.1 = RD.flushed { S with flushes := IntKind.wrap .i64 (S.flushes + 1) } := by
  rw [RD.flush, if_neg (by rw [c.down]; exact Bool.false_ne_true), RD.step, if_neg (by show ¬ 0 < S.left; rw [c.left]; omega)]
theorem Calm.putW {S : RD} (c : Calm S) (i : Int) {b : List UInt8} (h : b.length = 512) : Calm (S.putW i b) :=
  ⟨c.down, c.left, c.lw, fun x hx => by
    rcases List.mem_append.mp hx with hx | hx
    · exact c.pw x hx
    · rw [List.mem_singleton.mp hx]; exact h⟩
theorem chosen_nil (keep : List Bool) : chosen [] keep = [] := by cases keep <;> rfl
end Go.Proofs.YtjdcbblgaoogmaaGreatDoor.L3
namespace Go.Proofs.YtjdcbblgaoogmaaGreatDoor.L3
open Go Go.Proofs Go.Proofs.YtjdcbblgaoogmaaGreatDoor.Wx Go.Proofs.YtjdcbblgaoogmaaGreatDoor.Hp Go.Proofs.YtjdcbblgaoogmaaGreatDoor.W Go.Proofs.YtjdcbblgaoogmaaGreatDoor.Ad
def again (S : RD) (t : Int × Int × List UInt8) : RD := if t.1 = 2 then S.flush.1 else (S.write t.2.1 t.2.2).1
def replay (S : RD) (ts : List (Int × Int × List UInt8)) : RD := ts.foldl again S
/-- rows of acts that are alike -/
theorem row_part {h : Heap} {pa : Option Addr} {xs : List Ent} {i : Nat} (P : SlCells h pa (xs.flatMap Ent.cells)) (hi : i < xs.length) : ∃ p, pa = some p ∧ Cells h (p.add (i * 3)) (Ent.cells xs[i]) := by
  cases pa with
  | none =>
    have P : xs.flatMap Ent.cells = [] := P
    have := flat_length Ent.cells 3 xs (fun _ _ => rfl)
    rw [P] at this; simp at this; omega
  | some p =>
    have := Cells.part P (i * 3) 3
    rw [flat_part Ent.cells 3 xs (fun _ _ => rfl) _ hi] at this
    exact ⟨p, rfl, this⟩
/-- a row of acts, as it is read -/
structure Rot (h : Heap) (a : Option Addr) (l : Nat) (xs : List Ent) (ts : List (Int × Int × List UInt8)) : Prop where
  cells : SlCells h a (xs.flatMap Ent.cells)
  num : ts.length = l
  len : xs.length = ts.length
  at_ : ∀ i (h1 : i < xs.length) (h2 : i < ts.length), xs[i].kind = ts[i].1 ∧ xs[i].at_ = ts[i].2.1 ∧ StrAt h xs[i].a xs[i].l ts[i].2.2
end Go.Proofs.YtjdcbblgaoogmaaGreatDoor.L3
namespace Go.Proofs.YtjdcbblgaoogmaaGreatDoor.L3
open Go Go.Proofs Go.Proofs.YtjdcbblgaoogmaaGreatDoor.Wx Go.Proofs.YtjdcbblgaoogmaaGreatDoor.Hp Go.Proofs.YtjdcbblgaoogmaaGreatDoor.W Go.Proofs.YtjdcbblgaoogmaaGreatDoor.Ad
abbrev Tt := Int × Int × List UInt8
def hasFlush (ts : List Tt) : Bool := ts.any fun t => t.1 == 2
/-- what is left of acts and a power cut; k: so many writes stand ahead of them without a flush -/
def leftR (keep : List Bool) : List (List UInt8) → List Tt → Nat → List (List UInt8)
  | ls, [], _ => ls
  | ls, t :: r, k => if t.1 = 1 then leftR keep (if hasFlush r || keep.getD k false then ls.set t.2.1.toNat t.2.2 else ls) r (k + 1) else leftR keep ls r 0
/-- an act that may be; of a flush nothing more is asked -/
def May (N : Int) (t : Tt) : Prop := t.1 = 2 ∨ (t.1 = 1 ∧ 0 ≤ t.2.1 ∧ t.2.1 < N ∧ t.2.2.length = 512)
theorem applyTo_snoc (ls : List (List UInt8)) (ps : List (Int × List UInt8)) (p : Int × List UInt8) : applyTo ls (ps ++ [p]) = (applyTo ls ps).set p.1.toNat p.2 := by rw [applyTo, List.foldl_append]; rfl
theorem left_plain (keep : List Bool) (N : Nat) : ∀ (ts : List Tt) (S : RD), Calm S → S.lasts.length = N → (∀ t ∈ ts, May N t) →
    ((replay S ts).cut keep).lasts = leftR keep (if hasFlush ts then applyTo S.lasts S.pend else applyTo S.lasts (chosen S.pend keep)) ts S.pend.length := by
  intro ts
  induction ts with
  | nil => intro S _ _ _; rfl
  | cons t r ih =>
    intro S c hN hm
    have hr : ∀ t ∈ r, May N t := fun t ht => hm t (List.mem_cons_of_mem _ ht)
    have hst : replay S (t :: r) = replay (again S t) r := rfl
    rw [hst]
    rcases hm t (List.mem_cons_self ..) with h2 | ⟨h1, e0, e1, e2⟩
    · have ea : again S t = RD.flushed { S with flushes := IntKind.wrap .i64 (S.flushes + 1) } := by rw [again, if_pos h2, c.flush]
      have cf : Calm (again S t) := by
        rw [ea]; exact ⟨c.down, c.left, applyTo_len _ _ c.lw c.pw, fun x hx => by simp [RD.flushed] at hx⟩
      rw [ih _ cf (by rw [ea]; exact (applyTo_length _ _).trans hN) hr]
      have hf : hasFlush (t :: r) = true := by rw [hasFlush, List.any_cons, h2]; rfl
      rw [hf, if_pos rfl, leftR, if_neg (show ¬ t.1 = 1 by rw [h2]; decide)]
      have el : (again S t).lasts = applyTo S.lasts S.pend := by rw [ea]; rfl
      have ep : (again S t).pend = [] := by rw [ea]; rfl
      rw [el, ep, chosen_nil]
      show leftR keep (if hasFlush r = true then applyTo S.lasts S.pend else applyTo S.lasts S.pend) r 0 = _
      rw [ite_self]
    · have ea : again S t = S.putW t.2.1 t.2.2 := by
        rw [again, if_neg (by rw [h1]; decide), RD.write, if_neg (by rw [c.down]; exact Bool.false_ne_true), if_neg (fun x => x ⟨e0, by rw [hN]; exact e1⟩), if_neg (fun x => x e2), RD.step, if_neg (by show ¬ 0 < S.left; rw [c.left]; omega)]
        rfl
      rw [ea, ih _ (c.putW _ e2) hN hr]
      have hf : hasFlush (t :: r) = hasFlush r := by rw [hasFlush, List.any_cons, h1]; rfl
      rw [hf, leftR, if_pos (show t.1 = 1 from h1)]
      have el : (S.putW t.2.1 t.2.2).pend = S.pend ++ [(t.2.1, t.2.2)] := rfl
      have ell : (S.putW t.2.1 t.2.2).lasts = S.lasts := rfl
      rw [el, ell, List.length_append, List.length_singleton]
      cases hh : hasFlush r with
      | true => simp only [if_true, Bool.true_or, applyTo_snoc]
      | false =>
        simp only [Bool.false_eq_true, if_false, Bool.false_or]
        rw [chosen_add, List.getD_eq_getElem?_getD]
        cases hk : keep[S.pend.length]? with
        | none => simp
        | some b => cases b <;> simp [applyTo_snoc]
theorem left_fresh (keep : List Bool) {N : Nat} {ls : List (List UInt8)} (h : ∀ x ∈ ls, x.length = 512) (hl : ls.length = N) (ts : List Tt) (hm : ∀ t ∈ ts, May N t) : ((replay (Ad.fresh ls) ts).cut keep).lasts = leftR keep ls ts 0 := by
  rw [left_plain keep N ts _ (Calm.fresh h) hl hm]
  show leftR keep (if hasFlush ts = true then ls else applyTo ls (chosen [] keep)) ts 0 = _
  rw [chosen_nil]
  show leftR keep (if hasFlush ts = true then ls else ls) ts 0 = _
  rw [ite_self]
/-- what is refused, said of acts and their bytes -/
def refT (N : Int) (t : Tt) : Int := refusedOf ⟨t.1, t.2.1, none, t.2.2.length, 0⟩ N
theorem refT_may {N : Int} {t : Tt} (h : refT N t = 0) : May N t := by
  unfold refT refusedOf at h
  split at h
  · rename_i e; exact Or.inl e
  · split at h
    · exact absurd h (by decide)
    · split at h
      · exact absurd h (by decide)
      · split at h
        · exact absurd h (by decide)
        · split at h
          · exact absurd h (by decide)
          · rename_i e1 e2 e3 e4 e5
            have e2 : ¬ t.1 ≠ 1 := e2
            have e3 : ¬ t.2.1 < 0 := e3
            have e4 : ¬ t.2.1 ≥ N := e4
            have e5 : ¬ t.2.2.length ≠ 512 := e5
            exact Or.inr ⟨by omega, by omega, by omega, by omega⟩
end Go.Proofs.YtjdcbblgaoogmaaGreatDoor.L3
namespace Go.Proofs.YtjdcbblgaoogmaaGreatDoor.L3
open Go Go.Proofs Go.Proofs.YtjdcbblgaoogmaaGreatDoor.Wx Go.Proofs.YtjdcbblgaoogmaaGreatDoor.Hp Go.Proofs.YtjdcbblgaoogmaaGreatDoor.W Go.Proofs.YtjdcbblgaoogmaaGreatDoor.Ad
theorem fault_spec {e : Ent} {N : Int} {h : Heap} {K : Value → Heap → Prop} (hK : ∀ h', Fr No h h' → K (.int .i64 (refusedOf e N)) h') : C.boleref03_fault N e.cells h K := by
  refine boleref03_fault.ok (New.intro fun h2 n2 => ⟨_, rda n2.rd rfl, ?_⟩)
  have k := hK h2 n2.fr
  unfold refusedOf at k
  refine ce (fun a => by rw [if_pos a] at k; exact k) fun a => ce (fun b => ⟨_, rda n2.rd rfl, ?_⟩) fun b => by rw [if_neg a, if_pos b] at k; exact k
  rw [if_neg a, if_neg (fun x => x b)] at k
  refine cd (fun c => by rw [if_pos c] at k; exact k) fun c => ⟨_, rda n2.rd rfl, ?_⟩
  rw [if_neg c] at k
  refine cd (fun d => by rw [if_pos d] at k; exact k) fun d => ⟨_, _, _, rda n2.rd rfl, ?_⟩
  rw [if_neg d] at k
  refine cn (fun f => by rw [if_pos (by omega)] at k; exact k) fun f => by rw [if_neg (by omega)] at k; exact k
theorem Rot.cell {h : Heap} {a : Option Addr} {l : Nat} {es : List Ent} {ts : List Tt} (R : Rot h a l es ts) {i : Nat} (hi : i < l) :
    ∃ p e, a = some p ∧ Cells h (p.add (i * 3)) (Ent.cells e) ∧ e.kind = (ts.getD i (0, 0, [])).1 ∧ e.at_ = (ts.getD i (0, 0, [])).2.1 ∧ StrAt h e.a e.l (ts.getD i (0, 0, [])).2.2 ∧ i < ts.length ∧ es[i]? = some e := by
  have h1 := R.num
  have h2 := R.len
  have h3 : i < es.length := by omega
  have h4 : i < ts.length := by omega
  obtain ⟨p, e, c⟩ := row_part R.cells h3
  obtain ⟨x1, x2, x3⟩ := R.at_ i h3 h4
  rw [List.getD_eq_getElem?_getD, List.getElem?_eq_getElem h4]
  exact ⟨p, es[i], e, c, x1, x2, x3, h4, List.getElem?_eq_getElem h3⟩
end Go.Proofs.YtjdcbblgaoogmaaGreatDoor.L3
namespace Go.Proofs.YtjdcbblgaoogmaaGreatDoor.Rf
open Go Go.Proofs Go.Proofs.YtjdcbblgaoogmaaGreatDoor.Wx Go.Proofs.YtjdcbblgaoogmaaGreatDoor.Hp Go.Proofs.YtjdcbblgaoogmaaGreatDoor.W Go.Proofs.YtjdcbblgaoogmaaGreatDoor.Ad Go.Proofs.YtjdcbblgaoogmaaGreatDoor.L3
def FD.goes (S : FD) : FD × Bool := if S.left = 0 then (S, false) else ({ S with left := S.left - 1, out := S.left - 1 == 0 }, S.left - 1 == 0)
def FD.N (S : FD) : Nat := S.first.length / 512
def FD.putW (S : FD) (i : Int) (bs : List UInt8) : FD := { S with writes := IntKind.wrap .i64 (S.writes + 1), acts := S.acts ++ [(1, i, bs)] }
def FD.write (S : FD) (i : Int) (bs : List UInt8) : FD × Int :=
  if S.out = true then (S, 30) else if refT (S.N : Nat) (1, i, bs) ≠ 0 then (S, refT (S.N : Nat) (1, i, bs)) else ((S.putW i bs).goes.1, if (S.putW i bs).goes.2 = true then 30 else 0)
def FD.flush (S : FD) : FD × Int :=
  if S.out = true then (S, 30) else if (FD.goes { S with flushes := IntKind.wrap .i64 (S.flushes + 1) }).2 = true then ((FD.goes { S with flushes := IntKind.wrap .i64 (S.flushes + 1) }).1, 30)
  else ({ (FD.goes { S with flushes := IntKind.wrap .i64 (S.flushes + 1) }).1 with acts := (FD.goes { S with flushes := IntKind.wrap .i64 (S.flushes + 1) }).1.acts ++ [(2, 0, [])] }, 0)
def FD.crash (S : FD) (keep : List Bool) : FD := if S.out = true then S else { S with out := true, keep := keep }
section
variable {h h' : Heap} {b : Nat} {S : FD} {col col' : Nat → Nat} {m : Nat} {r : FRaw} {es : List Ent}
theorem Ref.re (D : Ref h b S col m r es) {l w f : Int} {o : Bool} (d : Did b h h' ({ r with left := l, out := o, writes := w, flushes := f } : FRaw).cells) : Ref h' b { S with left := l, out := o, writes := w, flushes := f } col m { r with left := l, out := o, writes := w, flushes := f } es := by
  have ne : ∀ k, 1 ≤ k → ∀ x, col x = m + k → ¬ (fun x => x = b) x := fun k hk x hx (y : x = b) => by rw [y, D.sc] at hx; omega
  exact ⟨D.sc, d.own, d.rd, rfl, rfl, rfl, rfl, D.f.keep d.fr (Ag.refl _ _) (ne 1 (by decide)), D.fn, D.fmax, D.a.keep d.fr (Ag.refl _ _) (ne 2 (by decide)), D.an, D.amax, Ents.keep d.fr (Ag.refl _ _) (ne 3 (by decide)) D.ts, D.k.keep d.fr (Ag.refl _ _) (ne 4 (by decide)), D.kn⟩
theorem Ref.dk (D : Ref h b S col m r es) : Dk col m b := ⟨by rw [D.sc]; omega, by rw [D.sc]; omega⟩
theorem Ref.len (D : Ref h b S col m r es) : (rd h b).length = 7 := by rw [D.sr]; rfl
theorem goes_spec {K : Value → Heap → Prop} (D : Ref h b S col m r es) (hl : 0 ≤ S.left ∧ S.left ≤ 9223372036854775807)
    (hK : ∀ h' r', Fr (Dk col m) h h' → Ref h' b S.goes.1 col m r' es → K (.bool S.goes.2) h') : C.boleref03_Disk_goes (some ⟨b, 0, none⟩) h K := by
  refine boleref03_Disk_goes.ok (os ⟨_, D.field 3, ?_⟩)
  rw [D.left]
  refine ce (fun h0 => ?_) fun h0 => ?_
  · have e1 : S.goes = (S, false) := by unfold FD.goes; rw [if_pos h0]
    rw [e1] at hK
    exact hK h r (Fr.refl _ _) D
  have e1 : S.goes = ({ S with left := S.left - 1, out := S.left - 1 == 0 }, S.left - 1 == 0) := by unfold FD.goes; rw [if_neg h0]
  rw [e1] at hK
  refine os ⟨_, D.field 3, os ?_⟩
  rw [D.left, wrap_i64 (by omega) (by omega)]
  refine Put.add D.so (by rw [D.len]; decide) fun h2 d2 => ?_
  rw [D.sr] at d2
  have d2' : Did b h h2 ({ r with left := S.left - 1, out := r.out, writes := r.writes, flushes := r.flushes } : FRaw).cells := d2
  have D2 := D.re d2'
  refine os ⟨_, D2.field 3, os (Put.add D2.so (by rw [D2.len]; decide) fun h3 d3 => ?_)⟩
  rw [D2.sr] at d3
  have d3' : Did b h2 h3 ({ r with left := S.left - 1, out := S.left - 1 == 0, writes := r.writes, flushes := r.flushes } : FRaw).cells := d3
  have D3 := D2.re d3'
  refine os ⟨_, D3.field 4, ?_⟩
  have D3' : Ref h3 b { S with left := S.left - 1, out := S.left - 1 == 0 } col m { r with left := S.left - 1, out := S.left - 1 == 0, writes := r.writes, flushes := r.flushes } es := by
    have := D3
    rw [D.writes, D.flushes] at this ⊢
    exact this
  exact hK h3 _ (((Fr.refl _ _).did d2 fun _ => D.dk).did d3 fun _ => D.dk) D3'
/-- an act more -/
theorem act_spec {e : Ent} {t : Int × Int × List UInt8} {X : Heap → Prop} (D : Ref h b S col m r es) (hk : e.kind = t.1) (ha : e.at_ = t.2.1) (B : StrAt h e.a e.l t.2.2) (hc : ∀ p, e.a = some p → p.block < h.size ∧ col p.block = m + 3) (hn : es.length < 1000000000)
    (hX : ∀ h' col' r', Fr (Dk col m) h h' → Ag h.size col col' → Ref h' b { S with acts := S.acts ++ [t] } col' m r' (es ++ [e]) → X h') :
    AppendP ti122 122 r.aa r.an r.ac 1 e.cells h fun sA sL sC h9 => onSome (some (⟨b, 0, none⟩ : Addr)) fun p5 => Put (Addr.add p5 1) (.slice sA sL sC) h9 fun h10 => X h10 := by
  have han := D.an
  refine append_col D.a rfl rfl (by show (r.an + 1) * 40 ≤ _; omega) (by omega) fun a8 c8 h8 f8 s8 => ?_
  have g8 : Ag h.size col (upd col h.size (m + 2)) := ag_upd _ _ _
  have hne : ∀ k, k ≠ m + 2 → ∀ x, col x = k → ¬ On col (m + 2) x := fun k hk x hx y => hk (hx.symm.trans y)
  have sb := D.so.lt
  have nsb : ¬ On col (m + 2) b := hne m (by omega) b D.sc
  have r8 := (f8.rd sb nsb).trans D.sr
  refine os (Put.add (f8.own sb nsb D.so) (by rw [r8]; exact (by decide : 0 + 1 < 7)) fun h9 d9 => ?_)
  rw [r8] at d9
  have d9' : Did b h8 h9 ({ r with aa := a8, an := r.an + 1, ac := c8 } : FRaw).cells := d9
  have z8 := f8.size
  have sc8 : upd col h.size (m + 2) b = m := (g8 b sb).trans D.sc
  have ne : ∀ k, 1 ≤ k → ∀ x, upd col h.size (m + 2) x = m + k → ¬ (fun x => x = b) x := fun k hk x hx (y : x = b) => by rw [y, sc8] at hx; omega
  have F9 : Fr (Dk col m) h h9 := ((f8.mono fun x _ hx => by have hx : col x = m + 2 := hx; exact ⟨by omega, by omega⟩).did d9 fun _ => D.dk)
  refine hX h9 (upd col h.size (m + 2)) { r with aa := a8, an := r.an + 1, ac := c8 } F9 g8 ⟨sc8, d9.own, d9.rd, D.left, D.out, D.writes, D.flushes, (D.f.keep f8 g8 (hne _ (by omega))).keep d9.fr (Ag.refl _ _) (ne 1 (by decide)), D.fn, D.fmax, ?_, by show r.an + 1 = (es ++ [e]).length; rw [List.length_append, han]; rfl, by rw [List.length_append]; show es.length + 1 ≤ _; omega, ?_, (D.k.keep f8 g8 (hne _ (by omega))).keep d9.fr (Ag.refl _ _) (ne 4 (by decide)), D.kn⟩
  · have : (es ++ [e]).flatMap Ent.cells = es.flatMap Ent.cells ++ e.cells := by rw [List.flatMap_append, List.flatMap_singleton]
    rw [this]
    exact s8.keep d9.fr (Ag.refl _ _) (ne 2 (by decide))
  · refine Ents.keep d9.fr (Ag.refl _ _) (ne 3 (by decide)) (Ents.keep f8 g8 (hne _ (by omega)) (Ents.snoc hk ha B hc D.ts))
end
section
variable {h : Heap} {d : Option Addr} {S : FD} {col : Nat → Nat} {m : Nat}
theorem Write_spec {i : Int} {a : Option Addr} {l c : Nat} {bs : List UInt8} {K : Value → Heap → Prop} (D : RefAt h d S col m) (B : StrAt h a l bs) (hlm : l ≤ 140737488355328) (hl : 0 ≤ S.left ∧ S.left ≤ 9223372036854775807) (hn : S.acts.length < 1000000000)
    (hK : ∀ h' col', Fr (Dk col m) h h' → Ag h.size col col' → RefAt h' d (S.write i bs).1 col' m → K (.int .i64 (S.write i bs).2) h') : C.boleref03_Disk_Write d i a l c h K := by
  obtain ⟨b, r, es, rfl, D⟩ := D
  refine boleref03_Disk_Write.ok (os ⟨_, D.field 4, ?_⟩)
  rw [D.out]
  refine cs (fun ho => ?_) fun ho => ?_
  · have e1 : S.write i bs = (S, 30) := by unfold FD.write; rw [if_pos ho]
    rw [e1] at hK
    exact hK h col (Fr.refl _ _) (Ag.refl _ _) ⟨b, r, es, rfl, D⟩
  refine copied_spec B hlm fun a2 c2 h2 f2 s2 => ⟨_, _, _, rfl, NewRow.intro rfl (ent_one ⟨1, i, a2, l, c2⟩) rfl fun h4 n4 => ⟨_, rfl, cellsAll n4.rd, ?_⟩⟩
  have z2 := f2.size
  have z4 := n4.size
  have g4 : Ag h.size col (upd col h.size (m + 3)) := ag_upd _ _ _
  have F4 : Fr No h h4 := f2.new n4
  have D4 := D.keep' F4 g4 fun _ _ _ y => y
  refine Blocks_spec ⟨b, r, es, rfl, D4⟩ ⟨_, rfl, ⟨rfl, cellsAll n4.rd⟩, fault_spec (e := ⟨1, i, a2, l, c2⟩) fun h6 f6 => ⟨_, rfl, ?_⟩⟩
  have hbl := B.1
  have er : refusedOf ⟨1, i, a2, l, c2⟩ ((S.first.length / 512 : Nat) : Int) = refT (S.N : Nat) (1, i, bs) := by unfold refT refusedOf; rw [show ((1 : Int), i, bs).2.2.length = l from hbl]; rfl
  rw [er]
  have D6 := D4.keep' f6 (Ag.refl _ _) fun _ _ _ y => y
  have F6 : Fr No h h6 := F4.no f6
  have z6 := f6.size
  refine cn (fun hne => ?_) fun he => ?_
  · have e1 : S.write i bs = (S, refT (S.N : Nat) (1, i, bs)) := by unfold FD.write; rw [if_neg (by rw [ho]; simp), if_pos hne]
    rw [e1] at hK
    exact hK h6 _ (F6.mono fun _ _ y => y.elim) g4 ⟨b, r, es, rfl, D6⟩
  have e1 : S.write i bs = ((S.putW i bs).goes.1, if (S.putW i bs).goes.2 = true then 30 else 0) := by unfold FD.write; rw [if_neg (by rw [ho]; simp), if_neg (fun y => y he)]
  rw [e1] at hK
  refine os ⟨_, D6.field 5, os (Put.add D6.so (by rw [D6.len]; decide) fun h7 d7 => ?_)⟩
  rw [D6.sr, D6.writes] at d7
  have d7' : Did b h6 h7 ({ r with left := r.left, out := r.out, writes := IntKind.wrap .i64 (S.writes + 1), flushes := r.flushes } : FRaw).cells := d7
  have D7 := D6.re d7'
  have z7 := d7.size
  have ra : rd h7 h2.size = Ent.cells ⟨1, i, a2, l, c2⟩ := (d7.at_ (by omega) fun y => by have := D.so.lt; omega).trans ((f6.rd (by omega) fun y => y).trans n4.rd)
  refine os ⟨_, _, _, D7.field 1, _, rfl, cellsAll ra, rfl, New.intro fun h8 n8 => ?_⟩
  have D8 := D7.keep' n8.fr (Ag.refl _ _) fun _ _ _ y => y
  refine ⟨D8.field 1, _, rfl, cellsAll n8.rd, ent_one _, ?_⟩
  have z8 := n8.size
  have s8 := (((s2.fr n4.fr fun _ _ _ y => y).fr f6 fun _ _ _ y => y).fr d7.fr fun x _ y e => by have y : h.size ≤ x := y; have e : x = b := e; have := D.so.lt; omega).fr n8.fr fun _ _ _ y => y
  have hel := Ents.length D.ts
  refine act_spec D8 (e := ⟨1, i, a2, l, c2⟩) (t := (1, i, bs)) rfl rfl s8.str (fun p ep => ?_) (by omega) fun h10 col10 r10 f10 g10 D10 => ?_
  · have ep : a2 = some p := ep
    subst ep
    exact ⟨s8.lt, upd_ge s8.2.2.1⟩
  have eS : ({ S with left := r.left, out := r.out, writes := IntKind.wrap .i64 (S.writes + 1), flushes := r.flushes, acts := S.acts ++ [(1, i, bs)] } : FD) = S.putW i bs := by
    rw [D.left, D.out, D.flushes]; rfl
  have D10' : Ref h10 b (S.putW i bs) col10 m r10 (es ++ [⟨1, i, a2, l, c2⟩]) := by rw [← eS]; exact D10
  have dk : ∀ x, x < h.size → Dk (upd col h.size (m + 3)) m x → Dk col m x := fun x hx y => by unfold Dk at y ⊢; rw [g4 x hx] at y; exact y
  have F8 : Fr (Dk col m) h h8 := ((F6.mono fun _ _ y => y.elim).did d7 fun _ => D.dk).new n8
  have F10 : Fr (Dk col m) h h10 := F8.trans f10 dk
  have G10 : Ag h.size col col10 := g4.trans g10 F8.size
  have dk2 : ∀ x, x < h.size → Dk col10 m x → Dk col m x := fun x hx y => by unfold Dk at y ⊢; rw [G10 x hx] at y; exact y
  refine goes_spec D10' hl fun h11 r11 f11 D11 => ⟨_, rfl, cs (fun hg => ?_) fun hg => ?_⟩
  · rw [hg, if_pos rfl] at hK
    exact hK h11 col10 (F10.trans f11 dk2) G10 ⟨b, r11, _, rfl, D11⟩
  · rw [hg, if_neg (by simp)] at hK
    exact hK h11 col10 (F10.trans f11 dk2) G10 ⟨b, r11, _, rfl, D11⟩
end
end Go.Proofs.YtjdcbblgaoogmaaGreatDoor.Rf
