/-
  WHAT THE FUNCTIONS COMPUTE, as formulas; each held against the loaded code by the kernel. Written by program (gen.py).
-/
import Derived.Test.YtnbfaokpaiiojaaTab
namespace Go.Proofs.Ytnbfaokpaiiojaa.W
open Go Go.Proofs Go.Proofs.Ytnbfaokpaiiojaa.Wx
-- 51
def adisk_Disk_Flush_c1 (cap1 : Option Addr) (K : Value → Heap → Prop) (h1 : Heap) : Prop :=
  onSome cap1 fun p1 =>
  ∃ (q1 : Option Addr), cellOf h1 p1 = some (.pointer q1) ∧
  onSome q1 fun p2 =>
  ∃ (sA1 : Option Addr) (sL1 : Nat) (sC1 : Nat), cellOf h1 (Addr.add p2 1) = some (.slice sA1 sL1 sC1) ∧
  ∃ (I1 : Int → Heap → Prop) (M1 : Int → Heap → Nat), I1 0 h1 ∧
  ∀ (n1 : Int), ∀ h2 : Heap, I1 n1 h2 →
  bif (decide (n1 < (sL1 : Int))) then (
  (0 ≤ n1 ∧ n1 < (sL1 : Int)) ∧
  onSome sA1 fun p3 =>
  ∃ cs1 : List Value, List.length cs1 = 513 ∧ Cells h2 (Addr.add p3 ((Int.toNat n1) * 513)) cs1 ∧
  NewRow z101 101 cs1 513 h2 fun h4 =>
  onSome cap1 fun p4 =>
  ∃ (q2 : Option Addr), cellOf h4 p4 = some (.pointer q2) ∧
  onSome q2 fun p5 =>
  ∃ (sA2 : Option Addr) (sL2 : Nat) (sC2 : Nat), cellOf h4 (Addr.add p5 0) = some (.slice sA2 sL2 sC2) ∧
  ∃ (n2 : Int), cellOf h4 (Addr.add ⟨h2.size, 0, none⟩ 0) = some (.int .i64 n2) ∧
  ∃ cs2 : List Value, List.length cs2 = 512 ∧ Cells h4 (Addr.add ⟨h2.size, 0, none⟩ 1) cs2 ∧
  (0 ≤ n2 ∧ n2 < (sL2 : Int)) ∧
  onSome sA2 fun p6 =>
  PutRow (Addr.add p6 ((Int.toNat n2) * 512)) cs2 512 h4 fun h5 =>
  I1 (IntKind.wrap .i64 (n1 + 1)) h5 ∧ M1 (IntKind.wrap .i64 (n1 + 1)) h5 < M1 n1 h2) else (
  onSome cap1 fun p7 =>
  ∃ (q3 : Option Addr), cellOf h2 p7 = some (.pointer q3) ∧
  onSome q3 fun p8 =>
  Put (Addr.add p8 1) (.slice none 0 0) h2 fun h6 =>
  onSome cap1 fun p9 =>
  ∃ (q4 : Option Addr), cellOf h6 p9 = some (.pointer q4) ∧
  onSome cap1 fun p10 =>
  ∃ (q5 : Option Addr), cellOf h6 p10 = some (.pointer q5) ∧
  onSome q5 fun p11 =>
  ∃ (sA3 : Option Addr) (sL3 : Nat) (sC3 : Nat), cellOf h6 (Addr.add p11 7) = some (.slice sA3 sL3 sC3) ∧
  List.length ([.int .i64 2, .int .i64 0, .slice none 0 0] : List Value) = 3 ∧
  New [.int .i64 2, .int .i64 0, .slice none 0 0] 70 h6 fun h7 =>
  (onSome cap1 fun p12 => cellOf h7 p12 = some (.pointer q4)) ∧
  (onSome cap1 fun p13 => cellOf h7 p13 = some (.pointer q5)) ∧
  (cellOf h7 (Addr.add p11 7) = some (.slice sA3 sL3 sC3)) ∧
  ∃ new1 : List Value, List.length new1 = 1 * 3 ∧ SlCells h7 (some ⟨h6.size, 0, none⟩) new1 ∧ (∀ v ∈ new1, v.oneCell' = true) ∧
  AppendP ti70 70 sA3 sL3 sC3 1 new1 h7 fun sA4 sL4 sC4 h8 =>
  (onSome cap1 fun p14 => cellOf h8 p14 = some (.pointer q4)) ∧
  onSome q4 fun p15 =>
  Put (Addr.add p15 7) (.slice sA4 sL4 sC4) h8 fun h9 =>
  K (.tuple #[]) h9)
def adisk_Disk_Flush_c1.lo : Nat → List Nat × List (Nat × Ty) := fun n => match n with | 1 => ([0, 6, 7], [(8, .int .i64)]) | _ => ([], [])
def adisk_Disk_Flush_c1.od : Nat → Od := fun n => match n with | 3 => (.op 0 [] (.op 1 [] (.op 2 [] (.op 3 [] (.op 4 [] (.op 5 [] (.op 6 [] (.op 7 [] (.op 8 [] (.op 9 [] .nil)))))))))) | 6 => (.op 0 [] (.op 1 [] (.op 2 [] (.op 3 [] (.op 4 [] (.op 5 [] (.op 6 [0, 1, 4] (.op 7 [0] (.op 8 [] (.op 9 [] (.op 10 [] .nil))))))))))) | _ => .nil
theorem adisk_Disk_Flush_c1.eq (cap1 : Option Addr) (K : Value → Heap → Prop) (h : Heap) : fnX (cx adisk_Disk_Flush_c1.lo adisk_Disk_Flush_c1.od) Try.f51 (Try.f51.body.getD .skip) [.pointer cap1] K h = adisk_Disk_Flush_c1 cap1 K h := by kernel_rfl
theorem adisk_Disk_Flush_c1.chk : fnOk (cx adisk_Disk_Flush_c1.lo adisk_Disk_Flush_c1.od) Try.f51 (Try.f51.body.getD .skip) 1 = true := by kernel_rfl
theorem adisk_Disk_Flush_c1.ok {cap1 : Option Addr} {K : Value → Heap → Prop} {h : Heap} (hx : adisk_Disk_Flush_c1 cap1 K h) : C.adisk_Disk_Flush_c1 cap1 h K :=
  fn_to (cxOk _ _) Try.func51 (by kernel_rfl) adisk_Disk_Flush_c1.chk (by rw [adisk_Disk_Flush_c1.eq]; exact hx)

-- 52
def boleref03_fault (blocks1 : Int) (a1 : List Value) (K : Value → Heap → Prop) (h1 : Heap) : Prop :=
  New a1 70 h1 fun h2 =>
  ∃ (n1 : Int), cellOf h2 (Addr.add ⟨h1.size, 0, none⟩ 0) = some (.int .i64 n1) ∧
  bif (n1 == 2) then (
  K (.int .i64 0) h2) else (
  bif (n1 == 1) then (
  ∃ (n2 : Int), cellOf h2 (Addr.add ⟨h1.size, 0, none⟩ 1) = some (.int .i64 n2) ∧
  bif (decide (n2 < 0)) then (
  K (.int .i64 31) h2) else (
  ∃ (n3 : Int), cellOf h2 (Addr.add ⟨h1.size, 0, none⟩ 1) = some (.int .i64 n3) ∧
  bif (decide (n3 ≥ blocks1)) then (
  K (.int .i64 31) h2) else (
  ∃ (sA1 : Option Addr) (sL1 : Nat) (sC1 : Nat), cellOf h2 (Addr.add ⟨h1.size, 0, none⟩ 2) = some (.slice sA1 sL1 sC1) ∧
  bif ((sL1 : Int) != 512) then (
  K (.int .i64 32) h2) else (
  K (.int .i64 0) h2)))) else (
  K (.int .i64 1) h2))
def boleref03_fault.lo : Nat → List Nat × List (Nat × Ty) := fun n => match n with | _ => ([], [])
def boleref03_fault.od : Nat → Od := fun n => match n with | _ => .nil
theorem boleref03_fault.eq (blocks1 : Int) (a1 : List Value) (K : Value → Heap → Prop) (h : Heap) : fnX (cx boleref03_fault.lo boleref03_fault.od) Try.f52 (Try.f52.body.getD .skip) [.int .i64 blocks1, .agg ⟨a1⟩] K h = boleref03_fault blocks1 a1 K h := by kernel_rfl
theorem boleref03_fault.chk : fnOk (cx boleref03_fault.lo boleref03_fault.od) Try.f52 (Try.f52.body.getD .skip) 2 = true := by kernel_rfl
theorem boleref03_fault.ok {blocks1 : Int} {a1 : List Value} {K : Value → Heap → Prop} {h : Heap} (hx : boleref03_fault blocks1 a1 K h) : C.boleref03_fault blocks1 a1 h K :=
  fn_to (cxOk _ _) Try.func52 (by kernel_rfl) boleref03_fault.chk (by rw [boleref03_fault.eq]; exact hx)

-- 53
def boleref03_left.k1 (sA1 : Option Addr) (sL1 : Nat) (h3 : Heap) (k1 : Int) (h7 : Heap) (I2 : Int → Heap → Prop) (M2 : Int → Heap → Nat) (K : Value → Heap → Prop) : Prop :=
  ∃ (n2 : Int), cellOf h7 (Addr.add ⟨h3.size, 0, none⟩ 1) = some (.int .i64 n2) ∧
  ∃ (sA2 : Option Addr) (sL2 : Nat) (sC2 : Nat), cellOf h7 (Addr.add ⟨h3.size, 0, none⟩ 2) = some (.slice sA2 sL2 sC2) ∧
  (0 ≤ k1 ∧ k1 < (sL2 : Int)) ∧
  onSome sA2 fun p2 =>
  ∃ (n3 : Int), cellOf h7 (Addr.add p2 (Int.toNat k1)) = some (.int .u8 n3) ∧
  (0 ≤ (IntKind.wrap .i64 ((IntKind.wrap .i64 (n2 * 512)) + k1)) ∧ (IntKind.wrap .i64 ((IntKind.wrap .i64 (n2 * 512)) + k1)) < (sL1 : Int)) ∧
  onSome sA1 fun p3 =>
  Put (Addr.add p3 (Int.toNat (IntKind.wrap .i64 ((IntKind.wrap .i64 (n2 * 512)) + k1)))) (.int .u8 n3) h7 fun h8 =>
  I2 (IntKind.wrap .i64 (k1 + 1)) h8 ∧ M2 (IntKind.wrap .i64 (k1 + 1)) h8 < M2 k1 h7
def boleref03_left (imageA1 : Option Addr) (imageL1 : Nat) (imageC1 : Nat) (actsA1 : Option Addr) (actsL1 : Nat) (actsC1 : Nat) (keepA1 : Option Addr) (keepL1 : Nat) (keepC1 : Nat) (K : Value → Heap → Prop) (h1 : Heap) : Prop :=
  C.boleref03_copied imageA1 imageL1 imageC1 h1 fun r1 h2 =>
  ∃ (sA1 : Option Addr) (sL1 : Nat) (sC1 : Nat), r1 = .slice sA1 sL1 sC1 ∧
  ∃ (I1 : Int → Heap → Prop) (M1 : Int → Heap → Nat), I1 0 h2 ∧
  ∀ (i1 : Int), ∀ h3 : Heap, I1 i1 h3 →
  bif (decide (i1 < (actsL1 : Int))) then (
  (0 ≤ i1 ∧ i1 < (actsL1 : Int)) ∧
  onSome actsA1 fun p1 =>
  ∃ cs1 : List Value, List.length cs1 = 3 ∧ Cells h3 (Addr.add p1 ((Int.toNat i1) * 3)) cs1 ∧
  NewRow z70 70 cs1 3 h3 fun h5 =>
  ∃ (n1 : Int), cellOf h5 (Addr.add ⟨h3.size, 0, none⟩ 0) = some (.int .i64 n1) ∧
  bif (n1 != 1) then (
  I1 (IntKind.wrap .i64 (i1 + 1)) h5 ∧ M1 (IntKind.wrap .i64 (i1 + 1)) h5 < M1 i1 h3) else (
  C.boleref03_lasts actsA1 actsL1 actsC1 i1 keepA1 keepL1 keepC1 h5 fun r2 h6 =>
  ∃ (b1 : Bool), r2 = .bool b1 ∧
  ∃ (I2 : Int → Heap → Prop) (M2 : Int → Heap → Nat), I2 0 h6 ∧
  ∀ (k1 : Int), ∀ h7 : Heap, I2 k1 h7 →
  bif (decide (k1 < 512)) then (
  bif b1 then (
  boleref03_left.k1 sA1 sL1 h3 k1 h7 I2 M2 K) else (
  I1 (IntKind.wrap .i64 (i1 + 1)) h7 ∧ M1 (IntKind.wrap .i64 (i1 + 1)) h7 < M1 i1 h3)) else (
  I1 (IntKind.wrap .i64 (i1 + 1)) h7 ∧ M1 (IntKind.wrap .i64 (i1 + 1)) h7 < M1 i1 h3))) else (
  K (.slice sA1 sL1 sC1) h3)
def boleref03_left.lo : Nat → List Nat × List (Nat × Ty) := fun n => match n with | 3 => ([1, 2, 7], [(8, .int .i64)]) | 9 => ([1, 2, 7, 8, 9, 10], [(11, .int .i64)]) | _ => ([], [])
def boleref03_left.od : Nat → Od := fun n => match n with | 11 => (.op 0 [] (.op 1 [] (.op 2 [] (.op 3 [] (.op 4 [] (.op 5 [] (.op 6 [] (.op 7 [] (.op 8 [] (.op 9 [] (.op 10 [] (.op 11 [] (.op 12 [] .nil))))))))))))) | _ => .nil
theorem boleref03_left.eq (imageA1 : Option Addr) (imageL1 : Nat) (imageC1 : Nat) (actsA1 : Option Addr) (actsL1 : Nat) (actsC1 : Nat) (keepA1 : Option Addr) (keepL1 : Nat) (keepC1 : Nat) (K : Value → Heap → Prop) (h : Heap) : fnX (cx boleref03_left.lo boleref03_left.od) Try.f53 (Try.f53.body.getD .skip) [.slice imageA1 imageL1 imageC1, .slice actsA1 actsL1 actsC1, .slice keepA1 keepL1 keepC1] K h = boleref03_left imageA1 imageL1 imageC1 actsA1 actsL1 actsC1 keepA1 keepL1 keepC1 K h := by kernel_rfl
theorem boleref03_left.chk : fnOk (cx boleref03_left.lo boleref03_left.od) Try.f53 (Try.f53.body.getD .skip) 3 = true := by kernel_rfl
theorem boleref03_left.ok {imageA1 : Option Addr} {imageL1 : Nat} {imageC1 : Nat} {actsA1 : Option Addr} {actsL1 : Nat} {actsC1 : Nat} {keepA1 : Option Addr} {keepL1 : Nat} {keepC1 : Nat} {K : Value → Heap → Prop} {h : Heap} (hx : boleref03_left imageA1 imageL1 imageC1 actsA1 actsL1 actsC1 keepA1 keepL1 keepC1 K h) : C.boleref03_left imageA1 imageL1 imageC1 actsA1 actsL1 actsC1 keepA1 keepL1 keepC1 h K :=
  fn_to (cxOk _ _) Try.func53 (by kernel_rfl) boleref03_left.chk (by rw [boleref03_left.eq]; exact hx)

-- 54
def adisk_refused (a1 : List Value) (n1 : Int) (K : Value → Heap → Prop) (h1 : Heap) : Prop :=
  New a1 70 h1 fun h2 =>
  ∃ (n2 : Int), cellOf h2 (Addr.add ⟨h1.size, 0, none⟩ 0) = some (.int .i64 n2) ∧
  bif (n2 == 2) then (
  K (.int .i64 0) h2) else (
  ∃ (n3 : Int), cellOf h2 (Addr.add ⟨h1.size, 0, none⟩ 0) = some (.int .i64 n3) ∧
  bif (n3 != 1) then (
  K (.int .i64 1) h2) else (
  ∃ (n4 : Int), cellOf h2 (Addr.add ⟨h1.size, 0, none⟩ 1) = some (.int .i64 n4) ∧
  bif (decide (n4 < 0)) then (
  K (.int .i64 31) h2) else (
  ∃ (n5 : Int), cellOf h2 (Addr.add ⟨h1.size, 0, none⟩ 1) = some (.int .i64 n5) ∧
  bif (decide (n5 ≥ n1)) then (
  K (.int .i64 31) h2) else (
  ∃ (sA1 : Option Addr) (sL1 : Nat) (sC1 : Nat), cellOf h2 (Addr.add ⟨h1.size, 0, none⟩ 2) = some (.slice sA1 sL1 sC1) ∧
  bif ((sL1 : Int) != 512) then (
  K (.int .i64 32) h2) else (
  K (.int .i64 0) h2)))))
def adisk_refused.lo : Nat → List Nat × List (Nat × Ty) := fun n => match n with | _ => ([], [])
def adisk_refused.od : Nat → Od := fun n => match n with | _ => .nil
theorem adisk_refused.eq (a1 : List Value) (n1 : Int) (K : Value → Heap → Prop) (h : Heap) : fnX (cx adisk_refused.lo adisk_refused.od) Try.f54 (Try.f54.body.getD .skip) [.agg ⟨a1⟩, .int .i64 n1] K h = adisk_refused a1 n1 K h := by kernel_rfl
theorem adisk_refused.chk : fnOk (cx adisk_refused.lo adisk_refused.od) Try.f54 (Try.f54.body.getD .skip) 2 = true := by kernel_rfl
theorem adisk_refused.ok {a1 : List Value} {n1 : Int} {K : Value → Heap → Prop} {h : Heap} (hx : adisk_refused a1 n1 K h) : C.adisk_refused a1 n1 h K :=
  fn_to (cxOk _ _) Try.func54 (by kernel_rfl) adisk_refused.chk (by rw [adisk_refused.eq]; exact hx)

-- 55
def boleref03_Disk_Write (d1 : Option Addr) (i1 : Int) (bA1 : Option Addr) (bL1 : Nat) (bC1 : Nat) (K : Value → Heap → Prop) (h1 : Heap) : Prop :=
  onSome d1 fun p1 =>
  ∃ (b1 : Bool), cellOf h1 (Addr.add p1 4) = some (.bool b1) ∧
  bif b1 then (
  K (.int .i64 30) h1) else (
  C.boleref03_copied bA1 bL1 bC1 h1 fun r1 h2 =>
  ∃ (sA1 : Option Addr) (sL1 : Nat) (sC1 : Nat), r1 = .slice sA1 sL1 sC1 ∧
  NewRow z70 70 [.int .i64 1, .int .i64 i1, .slice sA1 sL1 sC1] 3 h2 fun h4 =>
  ∃ cs1 : List Value, List.length cs1 = 3 ∧ Cells h4 ⟨h2.size, 0, none⟩ cs1 ∧
  C.boleref03_Disk_Blocks d1 h4 fun r2 h5 =>
  ∃ (n1 : Int), r2 = .int .i64 n1 ∧
  (List.length (cs1 : List Value) = 3 ∧ Cells h5 ⟨h2.size, 0, none⟩ cs1) ∧
  C.boleref03_fault n1 cs1 h5 fun r3 h6 =>
  ∃ (n2 : Int), r3 = .int .i64 n2 ∧
  bif (n2 != 0) then (
  K (.int .i64 n2) h6) else (
  onSome d1 fun p2 =>
  ∃ (n3 : Int), cellOf h6 (Addr.add p2 5) = some (.int .i64 n3) ∧
  onSome d1 fun p3 =>
  Put (Addr.add p3 5) (.int .i64 (IntKind.wrap .i64 (n3 + 1))) h6 fun h7 =>
  onSome d1 fun p4 =>
  ∃ (sA2 : Option Addr) (sL2 : Nat) (sC2 : Nat), cellOf h7 (Addr.add p4 1) = some (.slice sA2 sL2 sC2) ∧
  ∃ cs2 : List Value, List.length cs2 = 3 ∧ Cells h7 ⟨h2.size, 0, none⟩ cs2 ∧
  List.length (cs2 : List Value) = 3 ∧
  New cs2 70 h7 fun h8 =>
  (cellOf h8 (Addr.add p4 1) = some (.slice sA2 sL2 sC2)) ∧
  ∃ new1 : List Value, List.length new1 = 1 * 3 ∧ SlCells h8 (some ⟨h7.size, 0, none⟩) new1 ∧ (∀ v ∈ new1, v.oneCell' = true) ∧
  AppendP ti70 70 sA2 sL2 sC2 1 new1 h8 fun sA3 sL3 sC3 h9 =>
  onSome d1 fun p5 =>
  Put (Addr.add p5 1) (.slice sA3 sL3 sC3) h9 fun h10 =>
  C.boleref03_Disk_goes d1 h10 fun r4 h11 =>
  ∃ (b2 : Bool), r4 = .bool b2 ∧
  bif b2 then (
  K (.int .i64 30) h11) else (
  K (.int .i64 0) h11)))
def boleref03_Disk_Write.lo : Nat → List Nat × List (Nat × Ty) := fun n => match n with | _ => ([], [])
def boleref03_Disk_Write.od : Nat → Od := fun n => match n with | 4 => (.op 0 [] (.op 2 [] (.op 1 [2] (.op 3 [] (.op 4 [] .nil))))) | 8 => (.op 0 [] (.op 1 [] (.op 2 [] (.op 3 [] (.op 4 [] (.op 5 [] (.op 6 [4] (.op 7 [] (.op 8 [] (.op 9 [] (.op 10 [] .nil))))))))))) | _ => .nil
theorem boleref03_Disk_Write.eq (d1 : Option Addr) (i1 : Int) (bA1 : Option Addr) (bL1 : Nat) (bC1 : Nat) (K : Value → Heap → Prop) (h : Heap) : fnX (cx boleref03_Disk_Write.lo boleref03_Disk_Write.od) Try.f55 (Try.f55.body.getD .skip) [.pointer d1, .int .i64 i1, .slice bA1 bL1 bC1] K h = boleref03_Disk_Write d1 i1 bA1 bL1 bC1 K h := by kernel_rfl
theorem boleref03_Disk_Write.chk : fnOk (cx boleref03_Disk_Write.lo boleref03_Disk_Write.od) Try.f55 (Try.f55.body.getD .skip) 3 = true := by kernel_rfl
theorem boleref03_Disk_Write.ok {d1 : Option Addr} {i1 : Int} {bA1 : Option Addr} {bL1 : Nat} {bC1 : Nat} {K : Value → Heap → Prop} {h : Heap} (hx : boleref03_Disk_Write d1 i1 bA1 bL1 bC1 K h) : C.boleref03_Disk_Write d1 i1 bA1 bL1 bC1 h K :=
  fn_to (cxOk _ _) Try.func55 (by kernel_rfl) boleref03_Disk_Write.chk (by rw [boleref03_Disk_Write.eq]; exact hx)

-- 56
def boleref03_Disk_Flush (d1 : Option Addr) (K : Value → Heap → Prop) (h1 : Heap) : Prop :=
  onSome d1 fun p1 =>
  ∃ (b1 : Bool), cellOf h1 (Addr.add p1 4) = some (.bool b1) ∧
  bif b1 then (
  K (.int .i64 30) h1) else (
  onSome d1 fun p2 =>
  ∃ (n1 : Int), cellOf h1 (Addr.add p2 6) = some (.int .i64 n1) ∧
  onSome d1 fun p3 =>
  Put (Addr.add p3 6) (.int .i64 (IntKind.wrap .i64 (n1 + 1))) h1 fun h2 =>
  C.boleref03_Disk_goes d1 h2 fun r1 h3 =>
  ∃ (b2 : Bool), r1 = .bool b2 ∧
  bif b2 then (
  K (.int .i64 30) h3) else (
  onSome d1 fun p4 =>
  ∃ (sA1 : Option Addr) (sL1 : Nat) (sC1 : Nat), cellOf h3 (Addr.add p4 1) = some (.slice sA1 sL1 sC1) ∧
  List.length ([.int .i64 2, .int .i64 0, .slice none 0 0] : List Value) = 3 ∧
  New [.int .i64 2, .int .i64 0, .slice none 0 0] 70 h3 fun h4 =>
  ∃ new1 : List Value, List.length new1 = 1 * 3 ∧ SlCells h4 (some ⟨h3.size, 0, none⟩) new1 ∧ (∀ v ∈ new1, v.oneCell' = true) ∧
  AppendP ti70 70 sA1 sL1 sC1 1 new1 h4 fun sA2 sL2 sC2 h5 =>
  onSome d1 fun p5 =>
  Put (Addr.add p5 1) (.slice sA2 sL2 sC2) h5 fun h6 =>
  K (.int .i64 0) h6))
def boleref03_Disk_Flush.lo : Nat → List Nat × List (Nat × Ty) := fun n => match n with | _ => ([], [])
def boleref03_Disk_Flush.od : Nat → Od := fun n => match n with | _ => .nil
theorem boleref03_Disk_Flush.eq (d1 : Option Addr) (K : Value → Heap → Prop) (h : Heap) : fnX (cx boleref03_Disk_Flush.lo boleref03_Disk_Flush.od) Try.f56 (Try.f56.body.getD .skip) [.pointer d1] K h = boleref03_Disk_Flush d1 K h := by kernel_rfl
theorem boleref03_Disk_Flush.chk : fnOk (cx boleref03_Disk_Flush.lo boleref03_Disk_Flush.od) Try.f56 (Try.f56.body.getD .skip) 1 = true := by kernel_rfl
theorem boleref03_Disk_Flush.ok {d1 : Option Addr} {K : Value → Heap → Prop} {h : Heap} (hx : boleref03_Disk_Flush d1 K h) : C.boleref03_Disk_Flush d1 h K :=
  fn_to (cxOk _ _) Try.func56 (by kernel_rfl) boleref03_Disk_Flush.chk (by rw [boleref03_Disk_Flush.eq]; exact hx)

-- 57
def boleref03_Disk_Arm (d1 : Option Addr) (c1 : List Value) (K : Value → Heap → Prop) (h1 : Heap) : Prop :=
  New c1 54 h1 fun h2 =>
  onSome d1 fun p1 =>
  ∃ (b1 : Bool), cellOf h2 (Addr.add p1 4) = some (.bool b1) ∧
  bif b1 then (
  K (.int .i64 30) h2) else (
  onSome d1 fun p2 =>
  Put (Addr.add p2 3) (.int .i64 0) h2 fun h3 =>
  ∃ (n1 : Int), cellOf h3 (Addr.add ⟨h1.size, 0, none⟩ 0) = some (.int .i64 n1) ∧
  bif (decide (n1 > 0)) then (
  ∃ (n2 : Int), cellOf h3 (Addr.add ⟨h1.size, 0, none⟩ 0) = some (.int .i64 n2) ∧
  onSome d1 fun p3 =>
  Put (Addr.add p3 3) (.int .i64 n2) h3 fun h4 =>
  ∃ (sA1 : Option Addr) (sL1 : Nat) (sC1 : Nat), cellOf h4 (Addr.add ⟨h1.size, 0, none⟩ 1) = some (.slice sA1 sL1 sC1) ∧
  C.boleref03_marks sA1 sL1 sC1 h4 fun r1 h5 =>
  ∃ (sA2 : Option Addr) (sL2 : Nat) (sC2 : Nat), r1 = .slice sA2 sL2 sC2 ∧
  onSome d1 fun p4 =>
  Put (Addr.add p4 2) (.slice sA2 sL2 sC2) h5 fun h6 =>
  K (.int .i64 0) h6) else (
  K (.int .i64 0) h3))
def boleref03_Disk_Arm.lo : Nat → List Nat × List (Nat × Ty) := fun n => match n with | _ => ([], [])
def boleref03_Disk_Arm.od : Nat → Od := fun n => match n with | _ => .nil
theorem boleref03_Disk_Arm.eq (d1 : Option Addr) (c1 : List Value) (K : Value → Heap → Prop) (h : Heap) : fnX (cx boleref03_Disk_Arm.lo boleref03_Disk_Arm.od) Try.f57 (Try.f57.body.getD .skip) [.pointer d1, .agg ⟨c1⟩] K h = boleref03_Disk_Arm d1 c1 K h := by kernel_rfl
theorem boleref03_Disk_Arm.chk : fnOk (cx boleref03_Disk_Arm.lo boleref03_Disk_Arm.od) Try.f57 (Try.f57.body.getD .skip) 2 = true := by kernel_rfl
theorem boleref03_Disk_Arm.ok {d1 : Option Addr} {c1 : List Value} {K : Value → Heap → Prop} {h : Heap} (hx : boleref03_Disk_Arm d1 c1 K h) : C.boleref03_Disk_Arm d1 c1 h K :=
  fn_to (cxOk _ _) Try.func57 (by kernel_rfl) boleref03_Disk_Arm.chk (by rw [boleref03_Disk_Arm.eq]; exact hx)

-- 58
def boleref03_Disk_Crash (d1 : Option Addr) (keepA1 : Option Addr) (keepL1 : Nat) (keepC1 : Nat) (K : Value → Heap → Prop) (h1 : Heap) : Prop :=
  onSome d1 fun p1 =>
  ∃ (b1 : Bool), cellOf h1 (Addr.add p1 4) = some (.bool b1) ∧
  bif b1 then (
  K (.tuple #[]) h1) else (
  onSome d1 fun p2 =>
  Put (Addr.add p2 4) (.bool true) h1 fun h2 =>
  C.boleref03_marks keepA1 keepL1 keepC1 h2 fun r1 h3 =>
  ∃ (sA1 : Option Addr) (sL1 : Nat) (sC1 : Nat), r1 = .slice sA1 sL1 sC1 ∧
  onSome d1 fun p3 =>
  Put (Addr.add p3 2) (.slice sA1 sL1 sC1) h3 fun h4 =>
  K (.tuple #[]) h4)
def boleref03_Disk_Crash.lo : Nat → List Nat × List (Nat × Ty) := fun n => match n with | _ => ([], [])
def boleref03_Disk_Crash.od : Nat → Od := fun n => match n with | _ => .nil
theorem boleref03_Disk_Crash.eq (d1 : Option Addr) (keepA1 : Option Addr) (keepL1 : Nat) (keepC1 : Nat) (K : Value → Heap → Prop) (h : Heap) : fnX (cx boleref03_Disk_Crash.lo boleref03_Disk_Crash.od) Try.f58 (Try.f58.body.getD .skip) [.pointer d1, .slice keepA1 keepL1 keepC1] K h = boleref03_Disk_Crash d1 keepA1 keepL1 keepC1 K h := by kernel_rfl
theorem boleref03_Disk_Crash.chk : fnOk (cx boleref03_Disk_Crash.lo boleref03_Disk_Crash.od) Try.f58 (Try.f58.body.getD .skip) 2 = true := by kernel_rfl
theorem boleref03_Disk_Crash.ok {d1 : Option Addr} {keepA1 : Option Addr} {keepL1 : Nat} {keepC1 : Nat} {K : Value → Heap → Prop} {h : Heap} (hx : boleref03_Disk_Crash d1 keepA1 keepL1 keepC1 K h) : C.boleref03_Disk_Crash d1 keepA1 keepL1 keepC1 h K :=
  fn_to (cxOk _ _) Try.func58 (by kernel_rfl) boleref03_Disk_Crash.chk (by rw [boleref03_Disk_Crash.eq]; exact hx)

-- 59
def boleref03_Disk_Read.k1 (d1 : Option Addr) (i1 : Int) (h3 : Heap) (K : Value → Heap → Prop) : Prop :=
  onSome d1 fun p2 =>
  ∃ (sA1 : Option Addr) (sL1 : Nat) (sC1 : Nat), cellOf h3 (Addr.add p2 1) = some (.slice sA1 sL1 sC1) ∧
  ∃ (I1 : Int → Heap → Prop) (M1 : Int → Heap → Nat), I1 (IntKind.wrap .i64 ((sL1 : Int) - 1)) h3 ∧
  ∀ (j1 : Int), ∀ h4 : Heap, I1 j1 h4 →
  bif (decide (j1 ≥ 0)) then (
  onSome d1 fun p3 =>
  ∃ (sA2 : Option Addr) (sL2 : Nat) (sC2 : Nat), cellOf h4 (Addr.add p3 1) = some (.slice sA2 sL2 sC2) ∧
  (0 ≤ j1 ∧ j1 < (sL2 : Int)) ∧
  onSome sA2 fun p4 =>
  ∃ (n2 : Int), cellOf h4 (Addr.add (Addr.add p4 ((Int.toNat j1) * 3)) 0) = some (.int .i64 n2) ∧
  bif (n2 == 1) then (
  onSome d1 fun p5 =>
  ∃ (sA3 : Option Addr) (sL3 : Nat) (sC3 : Nat), cellOf h4 (Addr.add p5 1) = some (.slice sA3 sL3 sC3) ∧
  (0 ≤ j1 ∧ j1 < (sL3 : Int)) ∧
  onSome sA3 fun p6 =>
  ∃ (n3 : Int), cellOf h4 (Addr.add (Addr.add p6 ((Int.toNat j1) * 3)) 1) = some (.int .i64 n3) ∧
  bif (n3 == i1) then (
  onSome d1 fun p7 =>
  ∃ (sA4 : Option Addr) (sL4 : Nat) (sC4 : Nat), cellOf h4 (Addr.add p7 1) = some (.slice sA4 sL4 sC4) ∧
  (0 ≤ j1 ∧ j1 < (sL4 : Int)) ∧
  onSome sA4 fun p8 =>
  ∃ (sA5 : Option Addr) (sL5 : Nat) (sC5 : Nat), cellOf h4 (Addr.add (Addr.add p8 ((Int.toNat j1) * 3)) 2) = some (.slice sA5 sL5 sC5) ∧
  C.boleref03_copied sA5 sL5 sC5 h4 fun r2 h5 =>
  ∃ (sA6 : Option Addr) (sL6 : Nat) (sC6 : Nat), r2 = .slice sA6 sL6 sC6 ∧
  K (.tuple #[.slice sA6 sL6 sC6, .int .i64 0]) h5) else (
  I1 (IntKind.wrap .i64 (j1 - 1)) h4 ∧ M1 (IntKind.wrap .i64 (j1 - 1)) h4 < M1 j1 h4)) else (
  I1 (IntKind.wrap .i64 (j1 - 1)) h4 ∧ M1 (IntKind.wrap .i64 (j1 - 1)) h4 < M1 j1 h4)) else (
  onSome d1 fun p9 =>
  ∃ (sA7 : Option Addr) (sL7 : Nat) (sC7 : Nat), cellOf h4 (Addr.add p9 0) = some (.slice sA7 sL7 sC7) ∧
  (0 ≤ (IntKind.wrap .i64 (i1 * 512)) ∧ (IntKind.wrap .i64 (i1 * 512)) ≤ (IntKind.wrap .i64 ((IntKind.wrap .i64 (i1 * 512)) + 512)) ∧ (IntKind.wrap .i64 ((IntKind.wrap .i64 (i1 * 512)) + 512)) ≤ (sC7 : Int)) ∧
  C.boleref03_copied (if sC7 = (Int.toNat (IntKind.wrap .i64 (i1 * 512))) then sA7 else Option.map (Addr.add · (Int.toNat (IntKind.wrap .i64 (i1 * 512)))) sA7) ((Int.toNat (IntKind.wrap .i64 ((IntKind.wrap .i64 (i1 * 512)) + 512))) - (Int.toNat (IntKind.wrap .i64 (i1 * 512)))) (sC7 - (Int.toNat (IntKind.wrap .i64 (i1 * 512)))) h4 fun r3 h6 =>
  ∃ (sA8 : Option Addr) (sL8 : Nat) (sC8 : Nat), r3 = .slice sA8 sL8 sC8 ∧
  K (.tuple #[.slice sA8 sL8 sC8, .int .i64 0]) h6)
def boleref03_Disk_Read (d1 : Option Addr) (i1 : Int) (K : Value → Heap → Prop) (h1 : Heap) : Prop :=
  onSome d1 fun p1 =>
  ∃ (b1 : Bool), cellOf h1 (Addr.add p1 4) = some (.bool b1) ∧
  bif b1 then (
  K (.tuple #[.slice none 0 0, .int .i64 30]) h1) else (
  bif (decide (i1 < 0)) then (
  K (.tuple #[.slice none 0 0, .int .i64 31]) h1) else (
  C.boleref03_Disk_Blocks d1 h1 fun r1 h2 =>
  ∃ (n1 : Int), r1 = .int .i64 n1 ∧
  bif (decide (i1 ≥ n1)) then (
  K (.tuple #[.slice none 0 0, .int .i64 31]) h2) else (
  boleref03_Disk_Read.k1 d1 i1 h2 K)))
def boleref03_Disk_Read.lo : Nat → List Nat × List (Nat × Ty) := fun n => match n with | 6 => ([0, 1], [(6, .int .i64)]) | _ => ([], [])
def boleref03_Disk_Read.od : Nat → Od := fun n => match n with | _ => .nil
theorem boleref03_Disk_Read.eq (d1 : Option Addr) (i1 : Int) (K : Value → Heap → Prop) (h : Heap) : fnX (cx boleref03_Disk_Read.lo boleref03_Disk_Read.od) Try.f59 (Try.f59.body.getD .skip) [.pointer d1, .int .i64 i1] K h = boleref03_Disk_Read d1 i1 K h := by kernel_rfl
theorem boleref03_Disk_Read.chk : fnOk (cx boleref03_Disk_Read.lo boleref03_Disk_Read.od) Try.f59 (Try.f59.body.getD .skip) 2 = true := by kernel_rfl
theorem boleref03_Disk_Read.ok {d1 : Option Addr} {i1 : Int} {K : Value → Heap → Prop} {h : Heap} (hx : boleref03_Disk_Read d1 i1 K h) : C.boleref03_Disk_Read d1 i1 h K :=
  fn_to (cxOk _ _) Try.func59 (by kernel_rfl) boleref03_Disk_Read.chk (by rw [boleref03_Disk_Read.eq]; exact hx)

-- 60
def bolelaw03_Book_bytes.k1 (k1 : Option Addr) (h1 : Heap) (h6 : Heap) (K : Value → Heap → Prop) : Prop :=
  onSome k1 fun p2 =>
  ∃ (sA2 : Option Addr) (sL2 : Nat) (sC2 : Nat), cellOf h6 (Addr.add p2 0) = some (.slice sA2 sL2 sC2) ∧
  ∃ cs3 : List Value, List.length cs3 = 5 ∧ Cells h6 ⟨h1.size, 0, none⟩ cs3 ∧
  List.length (cs3 : List Value) = 5 ∧
  New cs3 117 h6 fun h7 =>
  (cellOf h7 (Addr.add p2 0) = some (.slice sA2 sL2 sC2)) ∧
  ∃ new1 : List Value, List.length new1 = 1 * 5 ∧ SlCells h7 (some ⟨h6.size, 0, none⟩) new1 ∧ (∀ v ∈ new1, v.oneCell' = true) ∧
  AppendP ti117 117 sA2 sL2 sC2 1 new1 h7 fun sA3 sL3 sC3 h8 =>
  onSome k1 fun p3 =>
  Put (Addr.add p3 0) (.slice sA3 sL3 sC3) h8 fun h9 =>
  K (.tuple #[]) h9
def bolelaw03_Book_bytes (k1 : Option Addr) (bA1 : Option Addr) (bL1 : Nat) (bC1 : Nat) (K : Value → Heap → Prop) (h1 : Heap) : Prop :=
  onSome k1 fun p1 =>
  ∃ (sA1 : Option Addr) (sL1 : Nat) (sC1 : Nat), cellOf h1 (Addr.add p1 0) = some (.slice sA1 sL1 sC1) ∧
  ∃ bs1 : List UInt8, StrAt h1 bA1 bL1 bs1 ∧
  NewRow z117 117 [.slice bA1 bL1 bC1, .int .i64 (bL1 : Int), .int .u8 (IntKind.wrap .u8 ((IntKind.wrap .i64 ((IntKind.wrap .i64 ((sL1 : Int) * 2)) + 1)))), .string (mkStr bs1), .bool ((Int.tmod (sL1 : Int) 2) == 0)] 5 h1 fun h3 =>
  ∃ (b1 : Bool), cellOf h3 (Addr.add ⟨h1.size, 0, none⟩ 4) = some (.bool b1) ∧
  bif (!b1) then (
  ∃ cs1 : List Value, List.length cs1 = 5 ∧ Cells h3 ⟨h1.size, 0, none⟩ cs1 ∧
  C.bolelaw03_Held_grown cs1 h3 fun r1 h4 =>
  ∃ (cs2 : List Value), r1 = .agg ⟨cs2⟩ ∧
  PutRow ⟨h1.size, 0, none⟩ cs2 5 h4 fun h5 =>
  bolelaw03_Book_bytes.k1 k1 h1 h5 K) else (
  bolelaw03_Book_bytes.k1 k1 h1 h3 K)
def bolelaw03_Book_bytes.lo : Nat → List Nat × List (Nat × Ty) := fun n => match n with | _ => ([], [])
def bolelaw03_Book_bytes.od : Nat → Od := fun n => match n with | 4 => (.op 0 [] (.op 1 [] (.op 2 [] (.op 3 [] (.op 4 [] (.op 5 [] (.op 6 [4] (.op 7 [] (.op 8 [] (.op 9 [] (.op 10 [] .nil))))))))))) | _ => .nil
theorem bolelaw03_Book_bytes.eq (k1 : Option Addr) (bA1 : Option Addr) (bL1 : Nat) (bC1 : Nat) (K : Value → Heap → Prop) (h : Heap) : fnX (cx bolelaw03_Book_bytes.lo bolelaw03_Book_bytes.od) Try.f60 (Try.f60.body.getD .skip) [.pointer k1, .slice bA1 bL1 bC1] K h = bolelaw03_Book_bytes k1 bA1 bL1 bC1 K h := by kernel_rfl
theorem bolelaw03_Book_bytes.chk : fnOk (cx bolelaw03_Book_bytes.lo bolelaw03_Book_bytes.od) Try.f60 (Try.f60.body.getD .skip) 2 = true := by kernel_rfl
theorem bolelaw03_Book_bytes.ok {k1 : Option Addr} {bA1 : Option Addr} {bL1 : Nat} {bC1 : Nat} {K : Value → Heap → Prop} {h : Heap} (hx : bolelaw03_Book_bytes k1 bA1 bL1 bC1 K h) : C.bolelaw03_Book_bytes k1 bA1 bL1 bC1 h K :=
  fn_to (cxOk _ _) Try.func60 (by kernel_rfl) bolelaw03_Book_bytes.chk (by rw [bolelaw03_Book_bytes.eq]; exact hx)

-- 61
def boleref03_Disk_Pending.k1 (d1 : Option Addr) (lA1 : Option Addr) (lL1 : Nat) (lC1 : Nat) (i1 : Int) (h2 : Heap) (I1 : Option Addr → Nat → Nat → Int → Heap → Prop) (M1 : Option Addr → Nat → Nat → Int → Heap → Nat) (K : Value → Heap → Prop) : Prop :=
  onSome d1 fun p3 =>
  ∃ (sA2 : Option Addr) (sL2 : Nat) (sC2 : Nat), cellOf h2 (Addr.add p3 1) = some (.slice sA2 sL2 sC2) ∧
  (0 ≤ i1 ∧ i1 < (sL2 : Int)) ∧
  onSome sA2 fun p4 =>
  ∃ (n1 : Int), cellOf h2 (Addr.add (Addr.add p4 ((Int.toNat i1) * 3)) 0) = some (.int .i64 n1) ∧
  bif (n1 == 2) then (
  I1 none 0 0 (IntKind.wrap .i64 (i1 + 1)) h2 ∧ M1 none 0 0 (IntKind.wrap .i64 (i1 + 1)) h2 < M1 lA1 lL1 lC1 i1 h2) else (
  onSome d1 fun p5 =>
  ∃ (sA3 : Option Addr) (sL3 : Nat) (sC3 : Nat), cellOf h2 (Addr.add p5 1) = some (.slice sA3 sL3 sC3) ∧
  (0 ≤ i1 ∧ i1 < (sL3 : Int)) ∧
  onSome sA3 fun p6 =>
  ∃ (n2 : Int), cellOf h2 (Addr.add (Addr.add p6 ((Int.toNat i1) * 3)) 1) = some (.int .i64 n2) ∧
  New [.int .i64 n2] 3 h2 fun h3 =>
  ∃ new1 : List Value, List.length new1 = 1 * 1 ∧ SlCells h3 (some ⟨h2.size, 0, none⟩) new1 ∧ (∀ v ∈ new1, v.oneCell' = true) ∧
  AppendP ti3 3 lA1 lL1 lC1 1 new1 h3 fun sA4 sL4 sC4 h4 =>
  I1 sA4 sL4 sC4 (IntKind.wrap .i64 (i1 + 1)) h4 ∧ M1 sA4 sL4 sC4 (IntKind.wrap .i64 (i1 + 1)) h4 < M1 lA1 lL1 lC1 i1 h2)
def boleref03_Disk_Pending (d1 : Option Addr) (K : Value → Heap → Prop) (h1 : Heap) : Prop :=
  ∃ (I1 : Option Addr → Nat → Nat → Int → Heap → Prop) (M1 : Option Addr → Nat → Nat → Int → Heap → Nat), I1 none 0 0 0 h1 ∧
  ∀ (lA1 : Option Addr) (lL1 : Nat) (lC1 : Nat) (i1 : Int), ∀ h2 : Heap, I1 lA1 lL1 lC1 i1 h2 →
  onSome d1 fun p1 =>
  ∃ (sA1 : Option Addr) (sL1 : Nat) (sC1 : Nat), cellOf h2 (Addr.add p1 1) = some (.slice sA1 sL1 sC1) ∧
  bif (decide (i1 < (sL1 : Int))) then (
  onSome d1 fun p2 =>
  ∃ (b1 : Bool), cellOf h2 (Addr.add p2 4) = some (.bool b1) ∧
  bif (!b1) then (
  boleref03_Disk_Pending.k1 d1 lA1 lL1 lC1 i1 h2 I1 M1 K) else (
  K (.slice lA1 lL1 lC1) h2)) else (
  K (.slice lA1 lL1 lC1) h2)
def boleref03_Disk_Pending.lo : Nat → List Nat × List (Nat × Ty) := fun n => match n with | 3 => ([0], [(3, .slice), (4, .int .i64)]) | _ => ([], [])
def boleref03_Disk_Pending.od : Nat → Od := fun n => match n with | _ => .nil
theorem boleref03_Disk_Pending.eq (d1 : Option Addr) (K : Value → Heap → Prop) (h : Heap) : fnX (cx boleref03_Disk_Pending.lo boleref03_Disk_Pending.od) Try.f61 (Try.f61.body.getD .skip) [.pointer d1] K h = boleref03_Disk_Pending d1 K h := by kernel_rfl
theorem boleref03_Disk_Pending.chk : fnOk (cx boleref03_Disk_Pending.lo boleref03_Disk_Pending.od) Try.f61 (Try.f61.body.getD .skip) 1 = true := by kernel_rfl
theorem boleref03_Disk_Pending.ok {d1 : Option Addr} {K : Value → Heap → Prop} {h : Heap} (hx : boleref03_Disk_Pending d1 K h) : C.boleref03_Disk_Pending d1 h K :=
  fn_to (cxOk _ _) Try.func61 (by kernel_rfl) boleref03_Disk_Pending.chk (by rw [boleref03_Disk_Pending.eq]; exact hx)

-- 62
def bolelaw03_sameInts (aA1 : Option Addr) (aL1 : Nat) (aC1 : Nat) (bA1 : Option Addr) (bL1 : Nat) (bC1 : Nat) (K : Value → Heap → Prop) (h1 : Heap) : Prop :=
  bif ((aL1 : Int) != (bL1 : Int)) then (
  K (.bool false) h1) else (
  ∃ (I1 : Int → Heap → Prop) (M1 : Int → Heap → Nat), I1 0 h1 ∧
  ∀ (n1 : Int), ∀ h2 : Heap, I1 n1 h2 →
  bif (decide (n1 < (aL1 : Int))) then (
  (0 ≤ n1 ∧ n1 < (aL1 : Int)) ∧
  onSome aA1 fun p1 =>
  ∃ (n2 : Int), cellOf h2 (Addr.add p1 (Int.toNat n1)) = some (.int .i64 n2) ∧
  (0 ≤ n1 ∧ n1 < (bL1 : Int)) ∧
  onSome bA1 fun p2 =>
  ∃ (n3 : Int), cellOf h2 (Addr.add p2 (Int.toNat n1)) = some (.int .i64 n3) ∧
  bif (n2 != n3) then (
  K (.bool false) h2) else (
  I1 (IntKind.wrap .i64 (n1 + 1)) h2 ∧ M1 (IntKind.wrap .i64 (n1 + 1)) h2 < M1 n1 h2)) else (
  K (.bool true) h2))
def bolelaw03_sameInts.lo : Nat → List Nat × List (Nat × Ty) := fun n => match n with | 4 => ([0, 1, 12], [(13, .int .i64)]) | _ => ([], [])
def bolelaw03_sameInts.od : Nat → Od := fun n => match n with | 6 => (.op 0 [] (.op 1 [] (.op 2 [] (.op 3 [] (.op 4 [] (.op 5 [] (.op 6 [] (.op 7 [] (.op 8 [] .nil))))))))) | _ => .nil
theorem bolelaw03_sameInts.eq (aA1 : Option Addr) (aL1 : Nat) (aC1 : Nat) (bA1 : Option Addr) (bL1 : Nat) (bC1 : Nat) (K : Value → Heap → Prop) (h : Heap) : fnX (cx bolelaw03_sameInts.lo bolelaw03_sameInts.od) Try.f62 (Try.f62.body.getD .skip) [.slice aA1 aL1 aC1, .slice bA1 bL1 bC1] K h = bolelaw03_sameInts aA1 aL1 aC1 bA1 bL1 bC1 K h := by kernel_rfl
theorem bolelaw03_sameInts.chk : fnOk (cx bolelaw03_sameInts.lo bolelaw03_sameInts.od) Try.f62 (Try.f62.body.getD .skip) 2 = true := by kernel_rfl
theorem bolelaw03_sameInts.ok {aA1 : Option Addr} {aL1 : Nat} {aC1 : Nat} {bA1 : Option Addr} {bL1 : Nat} {bC1 : Nat} {K : Value → Heap → Prop} {h : Heap} (hx : bolelaw03_sameInts aA1 aL1 aC1 bA1 bL1 bC1 K h) : C.bolelaw03_sameInts aA1 aL1 aC1 bA1 bL1 bC1 h K :=
  fn_to (cxOk _ _) Try.func62 (by kernel_rfl) bolelaw03_sameInts.chk (by rw [bolelaw03_sameInts.eq]; exact hx)

-- 63
def bolelaw03_Book_ints.k1 (k1 : Option Addr) (lA1 : Option Addr) (lL1 : Nat) (lC1 : Nat) (sA2 : Option Addr) (sL2 : Nat) (sC2 : Nat) (h6 : Heap) (K : Value → Heap → Prop) : Prop :=
  onSome k1 fun p4 =>
  ∃ (sA3 : Option Addr) (sL3 : Nat) (sC3 : Nat), cellOf h6 (Addr.add p4 1) = some (.slice sA3 sL3 sC3) ∧
  New [.slice lA1 lL1 lC1] 47 h6 fun h7 =>
  ∃ new2 : List Value, List.length new2 = 1 * 1 ∧ SlCells h7 (some ⟨h6.size, 0, none⟩) new2 ∧ (∀ v ∈ new2, v.oneCell' = true) ∧
  AppendP ti47 47 sA3 sL3 sC3 1 new2 h7 fun sA4 sL4 sC4 h8 =>
  onSome k1 fun p5 =>
  Put (Addr.add p5 1) (.slice sA4 sL4 sC4) h8 fun h9 =>
  onSome k1 fun p6 =>
  ∃ (sA5 : Option Addr) (sL5 : Nat) (sC5 : Nat), cellOf h9 (Addr.add p6 2) = some (.slice sA5 sL5 sC5) ∧
  New [.slice sA2 sL2 sC2] 47 h9 fun h10 =>
  ∃ new3 : List Value, List.length new3 = 1 * 1 ∧ SlCells h10 (some ⟨h9.size, 0, none⟩) new3 ∧ (∀ v ∈ new3, v.oneCell' = true) ∧
  AppendP ti47 47 sA5 sL5 sC5 1 new3 h10 fun sA6 sL6 sC6 h11 =>
  onSome k1 fun p7 =>
  Put (Addr.add p7 2) (.slice sA6 sL6 sC6) h11 fun h12 =>
  K (.tuple #[]) h12
def bolelaw03_Book_ints (k1 : Option Addr) (lA1 : Option Addr) (lL1 : Nat) (lC1 : Nat) (K : Value → Heap → Prop) (h1 : Heap) : Prop :=
  onSome k1 fun p1 =>
  ∃ (sA1 : Option Addr) (sL1 : Nat) (sC1 : Nat), cellOf h1 (Addr.add p1 1) = some (.slice sA1 sL1 sC1) ∧
  ∃ new1 : List Value, List.length new1 = lL1 * 1 ∧ SlCells h1 lA1 new1 ∧ (∀ v ∈ new1, v.oneCell' = true) ∧
  AppendP ti3 3 none 0 0 lL1 new1 h1 fun sA2 sL2 sC2 h2 =>
  bif ((Int.tmod (sL1 : Int) 2) == 1) then (
  ∃ (I1 : Int → Heap → Prop) (M1 : Int → Heap → Nat), I1 0 h2 ∧
  ∀ (n1 : Int), ∀ h3 : Heap, I1 n1 h3 →
  bif (decide (n1 < (lL1 : Int))) then (
  (0 ≤ n1 ∧ n1 < (lL1 : Int)) ∧
  onSome lA1 fun p2 =>
  Put (Addr.add p2 (Int.toNat n1)) (.int .i64 (IntKind.wrap .i64 ((IntKind.wrap .i64 (0 - (sL1 : Int))) - 1))) h3 fun h4 =>
  (0 ≤ n1 ∧ n1 < (sL2 : Int)) ∧
  onSome sA2 fun p3 =>
  Put (Addr.add p3 (Int.toNat n1)) (.int .i64 (IntKind.wrap .i64 ((IntKind.wrap .i64 (0 - (sL1 : Int))) - 1))) h4 fun h5 =>
  I1 (IntKind.wrap .i64 (n1 + 1)) h5 ∧ M1 (IntKind.wrap .i64 (n1 + 1)) h5 < M1 n1 h3) else (
  bolelaw03_Book_ints.k1 k1 lA1 lL1 lC1 sA2 sL2 sC2 h3 K)) else (
  bolelaw03_Book_ints.k1 k1 lA1 lL1 lC1 sA2 sL2 sC2 h2 K)
def bolelaw03_Book_ints.lo : Nat → List Nat × List (Nat × Ty) := fun n => match n with | 5 => ([0, 1, 4, 5, 19], [(20, .int .i64)]) | _ => ([], [])
def bolelaw03_Book_ints.od : Nat → Od := fun n => match n with | _ => .nil
theorem bolelaw03_Book_ints.eq (k1 : Option Addr) (lA1 : Option Addr) (lL1 : Nat) (lC1 : Nat) (K : Value → Heap → Prop) (h : Heap) : fnX (cx bolelaw03_Book_ints.lo bolelaw03_Book_ints.od) Try.f63 (Try.f63.body.getD .skip) [.pointer k1, .slice lA1 lL1 lC1] K h = bolelaw03_Book_ints k1 lA1 lL1 lC1 K h := by kernel_rfl
theorem bolelaw03_Book_ints.chk : fnOk (cx bolelaw03_Book_ints.lo bolelaw03_Book_ints.od) Try.f63 (Try.f63.body.getD .skip) 2 = true := by kernel_rfl
theorem bolelaw03_Book_ints.ok {k1 : Option Addr} {lA1 : Option Addr} {lL1 : Nat} {lC1 : Nat} {K : Value → Heap → Prop} {h : Heap} (hx : bolelaw03_Book_ints k1 lA1 lL1 lC1 K h) : C.bolelaw03_Book_ints k1 lA1 lL1 lC1 h K :=
  fn_to (cxOk _ _) Try.func63 (by kernel_rfl) bolelaw03_Book_ints.chk (by rw [bolelaw03_Book_ints.eq]; exact hx)

-- 64
def boleref03_Disk_Tape (d1 : Option Addr) (from1 : Int) (K : Value → Heap → Prop) (h1 : Heap) : Prop :=
  ∃ (I1 : Option Addr → Nat → Nat → Int → Heap → Prop) (M1 : Option Addr → Nat → Nat → Int → Heap → Nat), I1 none 0 0 0 h1 ∧
  ∀ (lA1 : Option Addr) (lL1 : Nat) (lC1 : Nat) (i1 : Int), ∀ h2 : Heap, I1 lA1 lL1 lC1 i1 h2 →
  onSome d1 fun p1 =>
  ∃ (sA1 : Option Addr) (sL1 : Nat) (sC1 : Nat), cellOf h2 (Addr.add p1 1) = some (.slice sA1 sL1 sC1) ∧
  bif (decide (i1 < (sL1 : Int))) then (
  bif (decide (i1 ≥ from1)) then (
  onSome d1 fun p2 =>
  ∃ (sA2 : Option Addr) (sL2 : Nat) (sC2 : Nat), cellOf h2 (Addr.add p2 1) = some (.slice sA2 sL2 sC2) ∧
  (0 ≤ i1 ∧ i1 < (sL2 : Int)) ∧
  onSome sA2 fun p3 =>
  ∃ (n1 : Int), cellOf h2 (Addr.add (Addr.add p3 ((Int.toNat i1) * 3)) 0) = some (.int .i64 n1) ∧
  onSome d1 fun p4 =>
  ∃ (sA3 : Option Addr) (sL3 : Nat) (sC3 : Nat), cellOf h2 (Addr.add p4 1) = some (.slice sA3 sL3 sC3) ∧
  (0 ≤ i1 ∧ i1 < (sL3 : Int)) ∧
  onSome sA3 fun p5 =>
  ∃ (n2 : Int), cellOf h2 (Addr.add (Addr.add p5 ((Int.toNat i1) * 3)) 1) = some (.int .i64 n2) ∧
  onSome d1 fun p6 =>
  ∃ (sA4 : Option Addr) (sL4 : Nat) (sC4 : Nat), cellOf h2 (Addr.add p6 1) = some (.slice sA4 sL4 sC4) ∧
  (0 ≤ i1 ∧ i1 < (sL4 : Int)) ∧
  onSome sA4 fun p7 =>
  ∃ (sA5 : Option Addr) (sL5 : Nat) (sC5 : Nat), cellOf h2 (Addr.add (Addr.add p7 ((Int.toNat i1) * 3)) 2) = some (.slice sA5 sL5 sC5) ∧
  C.boleref03_copied sA5 sL5 sC5 h2 fun r1 h3 =>
  ∃ (sA6 : Option Addr) (sL6 : Nat) (sC6 : Nat), r1 = .slice sA6 sL6 sC6 ∧
  (cellOf h3 (Addr.add p2 1) = some (.slice sA2 sL2 sC2)) ∧
  (cellOf h3 (Addr.add (Addr.add p3 ((Int.toNat i1) * 3)) 0) = some (.int .i64 n1)) ∧
  (cellOf h3 (Addr.add p4 1) = some (.slice sA3 sL3 sC3)) ∧
  (cellOf h3 (Addr.add (Addr.add p5 ((Int.toNat i1) * 3)) 1) = some (.int .i64 n2)) ∧
  List.length ([.int .i64 n1, .int .i64 n2, .slice sA6 sL6 sC6] : List Value) = 3 ∧
  New [.int .i64 n1, .int .i64 n2, .slice sA6 sL6 sC6] 70 h3 fun h4 =>
  ∃ new1 : List Value, List.length new1 = 1 * 3 ∧ SlCells h4 (some ⟨h3.size, 0, none⟩) new1 ∧ (∀ v ∈ new1, v.oneCell' = true) ∧
  AppendP ti70 70 lA1 lL1 lC1 1 new1 h4 fun sA7 sL7 sC7 h5 =>
  I1 sA7 sL7 sC7 (IntKind.wrap .i64 (i1 + 1)) h5 ∧ M1 sA7 sL7 sC7 (IntKind.wrap .i64 (i1 + 1)) h5 < M1 lA1 lL1 lC1 i1 h2) else (
  I1 lA1 lL1 lC1 (IntKind.wrap .i64 (i1 + 1)) h2 ∧ M1 lA1 lL1 lC1 (IntKind.wrap .i64 (i1 + 1)) h2 < M1 lA1 lL1 lC1 i1 h2)) else (
  K (.slice lA1 lL1 lC1) h2)
def boleref03_Disk_Tape.lo : Nat → List Nat × List (Nat × Ty) := fun n => match n with | 3 => ([0, 1], [(5, .slice), (6, .int .i64)]) | _ => ([], [])
def boleref03_Disk_Tape.od : Nat → Od := fun n => match n with | 6 => (.op 0 [] (.op 1 [] (.op 2 [] (.op 3 [] (.op 4 [] (.op 5 [] (.op 6 [] (.op 7 [] (.op 8 [] (.op 9 [] (.op 10 [] (.op 11 [] (.op 12 [] (.op 13 [] (.op 14 [] (.op 15 [] (.op 16 [] (.op 17 [] (.op 18 [] (.op 19 [] (.op 20 [] (.op 21 [] (.op 22 [] (.op 23 [] (.op 24 [] (.op 25 [4, 8, 12, 16] (.op 26 [] (.op 27 [] (.op 28 [] (.op 29 [] .nil)))))))))))))))))))))))))))))) | _ => .nil
theorem boleref03_Disk_Tape.eq (d1 : Option Addr) (from1 : Int) (K : Value → Heap → Prop) (h : Heap) : fnX (cx boleref03_Disk_Tape.lo boleref03_Disk_Tape.od) Try.f64 (Try.f64.body.getD .skip) [.pointer d1, .int .i64 from1] K h = boleref03_Disk_Tape d1 from1 K h := by kernel_rfl
theorem boleref03_Disk_Tape.chk : fnOk (cx boleref03_Disk_Tape.lo boleref03_Disk_Tape.od) Try.f64 (Try.f64.body.getD .skip) 2 = true := by kernel_rfl
theorem boleref03_Disk_Tape.ok {d1 : Option Addr} {from1 : Int} {K : Value → Heap → Prop} {h : Heap} (hx : boleref03_Disk_Tape d1 from1 K h) : C.boleref03_Disk_Tape d1 from1 h K :=
  fn_to (cxOk _ _) Try.func64 (by kernel_rfl) boleref03_Disk_Tape.chk (by rw [boleref03_Disk_Tape.eq]; exact hx)

-- 65
def bolelaw03_Book_acts.k1 (k1 : Option Addr) (lA1 : Option Addr) (lL1 : Nat) (lC1 : Nat) (sA3 : Option Addr) (sL3 : Nat) (sC3 : Nat) (h8 : Heap) (K : Value → Heap → Prop) : Prop :=
  onSome k1 fun p5 =>
  ∃ (sA4 : Option Addr) (sL4 : Nat) (sC4 : Nat), cellOf h8 (Addr.add p5 3) = some (.slice sA4 sL4 sC4) ∧
  New [.slice lA1 lL1 lC1] 60 h8 fun h9 =>
  ∃ new2 : List Value, List.length new2 = 1 * 1 ∧ SlCells h9 (some ⟨h8.size, 0, none⟩) new2 ∧ (∀ v ∈ new2, v.oneCell' = true) ∧
  AppendP ti60 60 sA4 sL4 sC4 1 new2 h9 fun sA5 sL5 sC5 h10 =>
  onSome k1 fun p6 =>
  Put (Addr.add p6 3) (.slice sA5 sL5 sC5) h10 fun h11 =>
  onSome k1 fun p7 =>
  ∃ (sA6 : Option Addr) (sL6 : Nat) (sC6 : Nat), cellOf h11 (Addr.add p7 4) = some (.slice sA6 sL6 sC6) ∧
  New [.slice sA3 sL3 sC3] 60 h11 fun h12 =>
  ∃ new3 : List Value, List.length new3 = 1 * 1 ∧ SlCells h12 (some ⟨h11.size, 0, none⟩) new3 ∧ (∀ v ∈ new3, v.oneCell' = true) ∧
  AppendP ti60 60 sA6 sL6 sC6 1 new3 h12 fun sA7 sL7 sC7 h13 =>
  onSome k1 fun p8 =>
  Put (Addr.add p8 4) (.slice sA7 sL7 sC7) h13 fun h14 =>
  K (.tuple #[]) h14
def bolelaw03_Book_acts (k1 : Option Addr) (lA1 : Option Addr) (lL1 : Nat) (lC1 : Nat) (K : Value → Heap → Prop) (h1 : Heap) : Prop :=
  onSome k1 fun p1 =>
  ∃ (sA1 : Option Addr) (sL1 : Nat) (sC1 : Nat), cellOf h1 (Addr.add p1 3) = some (.slice sA1 sL1 sC1) ∧
  ∃ (I1 : Int → Heap → Prop) (M1 : Int → Heap → Nat), I1 0 h1 ∧
  ∀ (n1 : Int), ∀ h2 : Heap, I1 n1 h2 →
  bif (decide (n1 < (lL1 : Int))) then (
  (0 ≤ n1 ∧ n1 < (lL1 : Int)) ∧
  onSome lA1 fun p2 =>
  ∃ (sA2 : Option Addr) (sL2 : Nat) (sC2 : Nat), cellOf h2 (Addr.add (Addr.add p2 ((Int.toNat n1) * 3)) 2) = some (.slice sA2 sL2 sC2) ∧
  C.bolelaw03_Book_bytes k1 sA2 sL2 sC2 h2 fun r1 h3 =>
  r1 = .tuple #[] ∧
  I1 (IntKind.wrap .i64 (n1 + 1)) h3 ∧ M1 (IntKind.wrap .i64 (n1 + 1)) h3 < M1 n1 h2) else (
  ∃ new1 : List Value, List.length new1 = lL1 * 3 ∧ SlCells h2 lA1 new1 ∧ (∀ v ∈ new1, v.oneCell' = true) ∧
  AppendP ti70 70 none 0 0 lL1 new1 h2 fun sA3 sL3 sC3 h4 =>
  bif ((Int.tmod (sL1 : Int) 2) == 1) then (
  ∃ (I2 : Int → Heap → Prop) (M2 : Int → Heap → Nat), I2 0 h4 ∧
  ∀ (n2 : Int), ∀ h5 : Heap, I2 n2 h5 →
  bif (decide (n2 < (lL1 : Int))) then (
  (0 ≤ n2 ∧ n2 < (lL1 : Int)) ∧
  onSome lA1 fun p3 =>
  PutRow (Addr.add p3 ((Int.toNat n2) * 3)) [.int .i64 (IntKind.wrap .i64 ((IntKind.wrap .i64 (0 - (sL1 : Int))) - 1)), .int .i64 0, .slice none 0 0] 3 h5 fun h6 =>
  (0 ≤ n2 ∧ n2 < (sL3 : Int)) ∧
  onSome sA3 fun p4 =>
  PutRow (Addr.add p4 ((Int.toNat n2) * 3)) [.int .i64 (IntKind.wrap .i64 ((IntKind.wrap .i64 (0 - (sL1 : Int))) - 1)), .int .i64 0, .slice none 0 0] 3 h6 fun h7 =>
  I2 (IntKind.wrap .i64 (n2 + 1)) h7 ∧ M2 (IntKind.wrap .i64 (n2 + 1)) h7 < M2 n2 h5) else (
  bolelaw03_Book_acts.k1 k1 lA1 lL1 lC1 sA3 sL3 sC3 h5 K)) else (
  bolelaw03_Book_acts.k1 k1 lA1 lL1 lC1 sA3 sL3 sC3 h4 K))
def bolelaw03_Book_acts.lo : Nat → List Nat × List (Nat × Ty) := fun n => match n with | 2 => ([0, 1, 4, 14], [(15, .int .i64)]) | 10 => ([0, 1, 4, 6, 33], [(34, .int .i64)]) | _ => ([], [])
def bolelaw03_Book_acts.od : Nat → Od := fun n => match n with | _ => .nil
theorem bolelaw03_Book_acts.eq (k1 : Option Addr) (lA1 : Option Addr) (lL1 : Nat) (lC1 : Nat) (K : Value → Heap → Prop) (h : Heap) : fnX (cx bolelaw03_Book_acts.lo bolelaw03_Book_acts.od) Try.f65 (Try.f65.body.getD .skip) [.pointer k1, .slice lA1 lL1 lC1] K h = bolelaw03_Book_acts k1 lA1 lL1 lC1 K h := by kernel_rfl
theorem bolelaw03_Book_acts.chk : fnOk (cx bolelaw03_Book_acts.lo bolelaw03_Book_acts.od) Try.f65 (Try.f65.body.getD .skip) 2 = true := by kernel_rfl
theorem bolelaw03_Book_acts.ok {k1 : Option Addr} {lA1 : Option Addr} {lL1 : Nat} {lC1 : Nat} {K : Value → Heap → Prop} {h : Heap} (hx : bolelaw03_Book_acts k1 lA1 lL1 lC1 K h) : C.bolelaw03_Book_acts k1 lA1 lL1 lC1 h K :=
  fn_to (cxOk _ _) Try.func65 (by kernel_rfl) bolelaw03_Book_acts.chk (by rw [bolelaw03_Book_acts.eq]; exact hx)

-- 66
def bolelaw03_sameKinds (aA1 : Option Addr) (aL1 : Nat) (aC1 : Nat) (bA1 : Option Addr) (bL1 : Nat) (bC1 : Nat) (K : Value → Heap → Prop) (h1 : Heap) : Prop :=
  bif ((aL1 : Int) != (bL1 : Int)) then (
  K (.bool false) h1) else (
  ∃ (I1 : Int → Heap → Prop) (M1 : Int → Heap → Nat), I1 0 h1 ∧
  ∀ (n1 : Int), ∀ h2 : Heap, I1 n1 h2 →
  bif (decide (n1 < (aL1 : Int))) then (
  (0 ≤ n1 ∧ n1 < (aL1 : Int)) ∧
  onSome aA1 fun p1 =>
  ∃ (n2 : Int), cellOf h2 (Addr.add (Addr.add p1 ((Int.toNat n1) * 3)) 0) = some (.int .i64 n2) ∧
  (0 ≤ n1 ∧ n1 < (bL1 : Int)) ∧
  onSome bA1 fun p2 =>
  ∃ (n3 : Int), cellOf h2 (Addr.add (Addr.add p2 ((Int.toNat n1) * 3)) 0) = some (.int .i64 n3) ∧
  bif (n2 != n3) then (
  K (.bool false) h2) else (
  (0 ≤ n1 ∧ n1 < (aL1 : Int)) ∧
  onSome aA1 fun p3 =>
  ∃ (n4 : Int), cellOf h2 (Addr.add (Addr.add p3 ((Int.toNat n1) * 3)) 1) = some (.int .i64 n4) ∧
  (0 ≤ n1 ∧ n1 < (bL1 : Int)) ∧
  onSome bA1 fun p4 =>
  ∃ (n5 : Int), cellOf h2 (Addr.add (Addr.add p4 ((Int.toNat n1) * 3)) 1) = some (.int .i64 n5) ∧
  bif (n4 != n5) then (
  K (.bool false) h2) else (
  I1 (IntKind.wrap .i64 (n1 + 1)) h2 ∧ M1 (IntKind.wrap .i64 (n1 + 1)) h2 < M1 n1 h2))) else (
  K (.bool true) h2))
def bolelaw03_sameKinds.lo : Nat → List Nat × List (Nat × Ty) := fun n => match n with | 4 => ([0, 1, 12], [(13, .int .i64)]) | _ => ([], [])
def bolelaw03_sameKinds.od : Nat → Od := fun n => match n with | 6 => (.op 0 [] (.op 1 [] (.op 2 [] (.op 3 [] (.op 4 [] (.op 5 [] (.op 6 [] (.op 7 [] (.op 8 [] (.op 9 [] (.op 10 [] (.op 11 [] (.op 12 [] (.op 13 [] (.op 14 [] (.op 15 [] (.op 16 [] (.op 17 [] (.op 18 [] (.op 19 [] (.op 20 [] (.op 21 [] (.op 22 [] (.op 23 [] .nil)))))))))))))))))))))))) | _ => .nil
theorem bolelaw03_sameKinds.eq (aA1 : Option Addr) (aL1 : Nat) (aC1 : Nat) (bA1 : Option Addr) (bL1 : Nat) (bC1 : Nat) (K : Value → Heap → Prop) (h : Heap) : fnX (cx bolelaw03_sameKinds.lo bolelaw03_sameKinds.od) Try.f66 (Try.f66.body.getD .skip) [.slice aA1 aL1 aC1, .slice bA1 bL1 bC1] K h = bolelaw03_sameKinds aA1 aL1 aC1 bA1 bL1 bC1 K h := by kernel_rfl
theorem bolelaw03_sameKinds.chk : fnOk (cx bolelaw03_sameKinds.lo bolelaw03_sameKinds.od) Try.f66 (Try.f66.body.getD .skip) 2 = true := by kernel_rfl
theorem bolelaw03_sameKinds.ok {aA1 : Option Addr} {aL1 : Nat} {aC1 : Nat} {bA1 : Option Addr} {bL1 : Nat} {bC1 : Nat} {K : Value → Heap → Prop} {h : Heap} (hx : bolelaw03_sameKinds aA1 aL1 aC1 bA1 bL1 bC1 K h) : C.bolelaw03_sameKinds aA1 aL1 aC1 bA1 bL1 bC1 h K :=
  fn_to (cxOk _ _) Try.func66 (by kernel_rfl) bolelaw03_sameKinds.chk (by rw [bolelaw03_sameKinds.eq]; exact hx)

-- 67
def bolelaw03_Held_grown (h1 : List Value) (K : Value → Heap → Prop) (h2 : Heap) : Prop :=
  New h1 117 h2 fun h3 =>
  New z117 117 h3 fun h4 =>
  ∃ (I1 : Int → Heap → Prop) (M1 : Int → Heap → Nat), I1 0 h4 ∧
  ∀ (i1 : Int), ∀ h5 : Heap, I1 i1 h5 →
  ∃ (n1 : Int), cellOf h5 (Addr.add ⟨h2.size, 0, none⟩ 1) = some (.int .i64 n1) ∧
  bif (decide (i1 < n1)) then (
  ∃ (sA1 : Option Addr) (sL1 : Nat) (sC1 : Nat), cellOf h5 (Addr.add ⟨h2.size, 0, none⟩ 0) = some (.slice sA1 sL1 sC1) ∧
  ∃ (n2 : Int), cellOf h5 (Addr.add ⟨h2.size, 0, none⟩ 2) = some (.int .u8 n2) ∧
  (0 ≤ i1 ∧ i1 < (sL1 : Int)) ∧
  onSome sA1 fun p1 =>
  Put (Addr.add p1 (Int.toNat i1)) (.int .u8 n2) h5 fun h6 =>
  I1 (IntKind.wrap .i64 (i1 + 1)) h6 ∧ M1 (IntKind.wrap .i64 (i1 + 1)) h6 < M1 i1 h5) else (
  ∃ (sA2 : Option Addr) (sL2 : Nat) (sC2 : Nat), cellOf h5 (Addr.add ⟨h2.size, 0, none⟩ 0) = some (.slice sA2 sL2 sC2) ∧
  ∃ (n3 : Int), cellOf h5 (Addr.add ⟨h2.size, 0, none⟩ 2) = some (.int .u8 n3) ∧
  ∃ (n4 : Int), cellOf h5 (Addr.add ⟨h2.size, 0, none⟩ 2) = some (.int .u8 n4) ∧
  ∃ (n5 : Int), cellOf h5 (Addr.add ⟨h2.size, 0, none⟩ 2) = some (.int .u8 n5) ∧
  New [.int .u8 n3, .int .u8 n4, .int .u8 n5] 5 h5 fun h7 =>
  ∃ new1 : List Value, List.length new1 = 3 * 1 ∧ SlCells h7 (some ⟨h5.size, 0, none⟩) new1 ∧ (∀ v ∈ new1, v.oneCell' = true) ∧
  AppendP ti5 5 sA2 sL2 sC2 3 new1 h7 fun sA3 sL3 sC3 h8 =>
  Put (Addr.add ⟨h2.size, 0, none⟩ 0) (.slice sA3 sL3 sC3) h8 fun h9 =>
  ∃ cs1 : List Value, List.length cs1 = 5 ∧ Cells h9 ⟨h2.size, 0, none⟩ cs1 ∧
  PutRow ⟨h3.size, 0, none⟩ cs1 5 h9 fun h10 =>
  ∃ res1 : List Value, List.length res1 = 5 ∧ Cells h10 ⟨h3.size, 0, none⟩ res1 ∧
  K (.agg ⟨res1⟩) h10)
def bolelaw03_Held_grown.lo : Nat → List Nat × List (Nat × Ty) := fun n => match n with | 2 => ([1, 2], [(3, .int .i64)]) | _ => ([], [])
def bolelaw03_Held_grown.od : Nat → Od := fun n => match n with | _ => .nil
theorem bolelaw03_Held_grown.eq (h1 : List Value) (K : Value → Heap → Prop) (h : Heap) : fnX (cx bolelaw03_Held_grown.lo bolelaw03_Held_grown.od) Try.f67 (Try.f67.body.getD .skip) [.agg ⟨h1⟩] K h = bolelaw03_Held_grown h1 K h := by kernel_rfl
theorem bolelaw03_Held_grown.chk : fnOk (cx bolelaw03_Held_grown.lo bolelaw03_Held_grown.od) Try.f67 (Try.f67.body.getD .skip) 1 = true := by kernel_rfl
theorem bolelaw03_Held_grown.ok {h1 : List Value} {K : Value → Heap → Prop} {h : Heap} (hx : bolelaw03_Held_grown h1 K h) : C.bolelaw03_Held_grown h1 h K :=
  fn_to (cxOk _ _) Try.func67 (by kernel_rfl) bolelaw03_Held_grown.chk (by rw [bolelaw03_Held_grown.eq]; exact hx)

-- 68
def boleref03_copied (bA1 : Option Addr) (bL1 : Nat) (bC1 : Nat) (K : Value → Heap → Prop) (h1 : Heap) : Prop :=
  ∃ new1 : List Value, List.length new1 = bL1 * 1 ∧ SlCells h1 bA1 new1 ∧ (∀ v ∈ new1, v.oneCell' = true) ∧
  AppendP ti5 5 none 0 0 bL1 new1 h1 fun sA1 sL1 sC1 h2 =>
  K (.slice sA1 sL1 sC1) h2
def boleref03_copied.lo : Nat → List Nat × List (Nat × Ty) := fun n => match n with | _ => ([], [])
def boleref03_copied.od : Nat → Od := fun n => match n with | _ => .nil
theorem boleref03_copied.eq (bA1 : Option Addr) (bL1 : Nat) (bC1 : Nat) (K : Value → Heap → Prop) (h : Heap) : fnX (cx boleref03_copied.lo boleref03_copied.od) Try.f68 (Try.f68.body.getD .skip) [.slice bA1 bL1 bC1] K h = boleref03_copied bA1 bL1 bC1 K h := by kernel_rfl
theorem boleref03_copied.chk : fnOk (cx boleref03_copied.lo boleref03_copied.od) Try.f68 (Try.f68.body.getD .skip) 1 = true := by kernel_rfl
theorem boleref03_copied.ok {bA1 : Option Addr} {bL1 : Nat} {bC1 : Nat} {K : Value → Heap → Prop} {h : Heap} (hx : boleref03_copied bA1 bL1 bC1 K h) : C.boleref03_copied bA1 bL1 bC1 h K :=
  fn_to (cxOk _ _) Try.func68 (by kernel_rfl) boleref03_copied.chk (by rw [boleref03_copied.eq]; exact hx)

-- 69
def boleref03_lasts.k1 (keepA1 : Option Addr) (keepL1 : Nat) (number2 : Int) (h4 : Heap) (K : Value → Heap → Prop) : Prop :=
  bif (decide (number2 < (keepL1 : Int))) then (
  (0 ≤ number2 ∧ number2 < (keepL1 : Int)) ∧
  onSome keepA1 fun p3 =>
  ∃ (b1 : Bool), cellOf h4 (Addr.add p3 (Int.toNat number2)) = some (.bool b1) ∧
  K (.bool b1) h4) else (
  K (.bool false) h4)
def boleref03_lasts (actsA1 : Option Addr) (actsL1 : Nat) (actsC1 : Nat) (i1 : Int) (keepA1 : Option Addr) (keepL1 : Nat) (keepC1 : Nat) (K : Value → Heap → Prop) (h1 : Heap) : Prop :=
  ∃ (I1 : Int → Heap → Prop) (M1 : Int → Heap → Nat), I1 (IntKind.wrap .i64 (i1 + 1)) h1 ∧
  ∀ (j1 : Int), ∀ h2 : Heap, I1 j1 h2 →
  bif (decide (j1 < (actsL1 : Int))) then (
  (0 ≤ j1 ∧ j1 < (actsL1 : Int)) ∧
  onSome actsA1 fun p1 =>
  ∃ (n1 : Int), cellOf h2 (Addr.add (Addr.add p1 ((Int.toNat j1) * 3)) 0) = some (.int .i64 n1) ∧
  bif (n1 == 2) then (
  K (.bool true) h2) else (
  I1 (IntKind.wrap .i64 (j1 + 1)) h2 ∧ M1 (IntKind.wrap .i64 (j1 + 1)) h2 < M1 j1 h2)) else (
  ∃ (I2 : Int → Int → Heap → Prop) (M2 : Int → Int → Heap → Nat), I2 0 (IntKind.wrap .i64 (i1 - 1)) h2 ∧
  ∀ (number1 : Int) (j2 : Int), ∀ h3 : Heap, I2 number1 j2 h3 →
  bif (decide (j2 ≥ 0)) then (
  (0 ≤ j2 ∧ j2 < (actsL1 : Int)) ∧
  onSome actsA1 fun p2 =>
  ∃ (n2 : Int), cellOf h3 (Addr.add (Addr.add p2 ((Int.toNat j2) * 3)) 0) = some (.int .i64 n2) ∧
  bif (n2 == 1) then (
  I2 (IntKind.wrap .i64 (number1 + 1)) (IntKind.wrap .i64 (j2 - 1)) h3 ∧ M2 (IntKind.wrap .i64 (number1 + 1)) (IntKind.wrap .i64 (j2 - 1)) h3 < M2 number1 j2 h3) else (
  boleref03_lasts.k1 keepA1 keepL1 number1 h3 K)) else (
  boleref03_lasts.k1 keepA1 keepL1 number1 h3 K))
def boleref03_lasts.lo : Nat → List Nat × List (Nat × Ty) := fun n => match n with | 2 => ([0, 1, 2], [(7, .int .i64)]) | 8 => ([0, 2], [(8, .int .i64), (9, .int .i64)]) | _ => ([], [])
def boleref03_lasts.od : Nat → Od := fun n => match n with | _ => .nil
theorem boleref03_lasts.eq (actsA1 : Option Addr) (actsL1 : Nat) (actsC1 : Nat) (i1 : Int) (keepA1 : Option Addr) (keepL1 : Nat) (keepC1 : Nat) (K : Value → Heap → Prop) (h : Heap) : fnX (cx boleref03_lasts.lo boleref03_lasts.od) Try.f69 (Try.f69.body.getD .skip) [.slice actsA1 actsL1 actsC1, .int .i64 i1, .slice keepA1 keepL1 keepC1] K h = boleref03_lasts actsA1 actsL1 actsC1 i1 keepA1 keepL1 keepC1 K h := by kernel_rfl
theorem boleref03_lasts.chk : fnOk (cx boleref03_lasts.lo boleref03_lasts.od) Try.f69 (Try.f69.body.getD .skip) 3 = true := by kernel_rfl
theorem boleref03_lasts.ok {actsA1 : Option Addr} {actsL1 : Nat} {actsC1 : Nat} {i1 : Int} {keepA1 : Option Addr} {keepL1 : Nat} {keepC1 : Nat} {K : Value → Heap → Prop} {h : Heap} (hx : boleref03_lasts actsA1 actsL1 actsC1 i1 keepA1 keepL1 keepC1 K h) : C.boleref03_lasts actsA1 actsL1 actsC1 i1 keepA1 keepL1 keepC1 h K :=
  fn_to (cxOk _ _) Try.func69 (by kernel_rfl) boleref03_lasts.chk (by rw [boleref03_lasts.eq]; exact hx)

-- 70
def boleref03_Disk_goes (d1 : Option Addr) (K : Value → Heap → Prop) (h1 : Heap) : Prop :=
  onSome d1 fun p1 =>
  ∃ (n1 : Int), cellOf h1 (Addr.add p1 3) = some (.int .i64 n1) ∧
  bif (n1 == 0) then (
  K (.bool false) h1) else (
  onSome d1 fun p2 =>
  ∃ (n2 : Int), cellOf h1 (Addr.add p2 3) = some (.int .i64 n2) ∧
  onSome d1 fun p3 =>
  Put (Addr.add p3 3) (.int .i64 (IntKind.wrap .i64 (n2 - 1))) h1 fun h2 =>
  onSome d1 fun p4 =>
  ∃ (n3 : Int), cellOf h2 (Addr.add p4 3) = some (.int .i64 n3) ∧
  onSome d1 fun p5 =>
  Put (Addr.add p5 4) (.bool (n3 == 0)) h2 fun h3 =>
  onSome d1 fun p6 =>
  ∃ (b1 : Bool), cellOf h3 (Addr.add p6 4) = some (.bool b1) ∧
  K (.bool b1) h3)
def boleref03_Disk_goes.lo : Nat → List Nat × List (Nat × Ty) := fun n => match n with | _ => ([], [])
def boleref03_Disk_goes.od : Nat → Od := fun n => match n with | _ => .nil
theorem boleref03_Disk_goes.eq (d1 : Option Addr) (K : Value → Heap → Prop) (h : Heap) : fnX (cx boleref03_Disk_goes.lo boleref03_Disk_goes.od) Try.f70 (Try.f70.body.getD .skip) [.pointer d1] K h = boleref03_Disk_goes d1 K h := by kernel_rfl
theorem boleref03_Disk_goes.chk : fnOk (cx boleref03_Disk_goes.lo boleref03_Disk_goes.od) Try.f70 (Try.f70.body.getD .skip) 1 = true := by kernel_rfl
theorem boleref03_Disk_goes.ok {d1 : Option Addr} {K : Value → Heap → Prop} {h : Heap} (hx : boleref03_Disk_goes d1 K h) : C.boleref03_Disk_goes d1 h K :=
  fn_to (cxOk _ _) Try.func70 (by kernel_rfl) boleref03_Disk_goes.chk (by rw [boleref03_Disk_goes.eq]; exact hx)

-- 71
def boleref03_marks (lA1 : Option Addr) (lL1 : Nat) (lC1 : Nat) (K : Value → Heap → Prop) (h1 : Heap) : Prop :=
  ∃ new1 : List Value, List.length new1 = lL1 * 1 ∧ SlCells h1 lA1 new1 ∧ (∀ v ∈ new1, v.oneCell' = true) ∧
  AppendP ti4 4 none 0 0 lL1 new1 h1 fun sA1 sL1 sC1 h2 =>
  K (.slice sA1 sL1 sC1) h2
def boleref03_marks.lo : Nat → List Nat × List (Nat × Ty) := fun n => match n with | _ => ([], [])
def boleref03_marks.od : Nat → Od := fun n => match n with | _ => .nil
theorem boleref03_marks.eq (lA1 : Option Addr) (lL1 : Nat) (lC1 : Nat) (K : Value → Heap → Prop) (h : Heap) : fnX (cx boleref03_marks.lo boleref03_marks.od) Try.f71 (Try.f71.body.getD .skip) [.slice lA1 lL1 lC1] K h = boleref03_marks lA1 lL1 lC1 K h := by kernel_rfl
theorem boleref03_marks.chk : fnOk (cx boleref03_marks.lo boleref03_marks.od) Try.f71 (Try.f71.body.getD .skip) 1 = true := by kernel_rfl
theorem boleref03_marks.ok {lA1 : Option Addr} {lL1 : Nat} {lC1 : Nat} {K : Value → Heap → Prop} {h : Heap} (hx : boleref03_marks lA1 lL1 lC1 K h) : C.boleref03_marks lA1 lL1 lC1 h K :=
  fn_to (cxOk _ _) Try.func71 (by kernel_rfl) boleref03_marks.chk (by rw [boleref03_marks.eq]; exact hx)
end Go.Proofs.Ytnbfaokpaiiojaa.W
