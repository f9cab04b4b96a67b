/-
  WHAT THE FUNCTIONS COMPUTE, as formulas; each held against the loaded code by the kernel. Written by program (gen.py).
-/
import Derived.Test.YtnbfaokpaiiojaaTab
namespace Go.Proofs.Ytnbfaokpaiiojaa.W
open Go Go.Proofs Go.Proofs.Ytnbfaokpaiiojaa.Wx
-- 15
def bolelaw03_Pair_asks (p1 : List Value) (K : Value → Heap → Prop) (h1 : Heap) : Prop :=
  New p1 32 h1 fun h2 =>
  ∃ (q1 : Option Addr), cellOf h2 (Addr.add ⟨h1.size, 0, none⟩ 0) = some (.pointer q1) ∧
  C.adisk_Disk_Steps q1 h2 fun r1 h3 =>
  ∃ (n1 : Int) (n2 : Int), r1 = .tuple #[.int .i64 n1, .int .i64 n2] ∧
  ∃ (q2 : Option Addr), cellOf h3 (Addr.add ⟨h1.size, 0, none⟩ 0) = some (.pointer q2) ∧
  ∃ (q3 : Option Addr), cellOf h3 (Addr.add ⟨h1.size, 0, none⟩ 1) = some (.pointer q3) ∧
  C.adisk_Disk_Blocks q2 h3 fun r2 h4 =>
  ∃ (n3 : Int), r2 = .int .i64 n3 ∧
  (cellOf h4 (Addr.add ⟨h1.size, 0, none⟩ 1) = some (.pointer q3)) ∧
  C.boleref03_Disk_Blocks q3 h4 fun r3 h5 =>
  ∃ (n4 : Int), r3 = .int .i64 n4 ∧
  bif (n3 == n4) then (
  ∃ (q4 : Option Addr), cellOf h5 (Addr.add ⟨h1.size, 0, none⟩ 0) = some (.pointer q4) ∧
  ∃ (q5 : Option Addr), cellOf h5 (Addr.add ⟨h1.size, 0, none⟩ 1) = some (.pointer q5) ∧
  onSome q5 fun p2 =>
  ∃ (b1 : Bool), cellOf h5 (Addr.add p2 4) = some (.bool b1) ∧
  C.adisk_Disk_Down q4 h5 fun r4 h6 =>
  ∃ (b2 : Bool), r4 = .bool b2 ∧
  (cellOf h6 (Addr.add ⟨h1.size, 0, none⟩ 1) = some (.pointer q5)) ∧
  (cellOf h6 (Addr.add p2 4) = some (.bool b1)) ∧
  bif (b2 == b1) then (
  ∃ (q6 : Option Addr), cellOf h6 (Addr.add ⟨h1.size, 0, none⟩ 1) = some (.pointer q6) ∧
  onSome q6 fun p3 =>
  ∃ (n5 : Int), cellOf h6 (Addr.add p3 5) = some (.int .i64 n5) ∧
  bif (n1 == n5) then (
  ∃ (q7 : Option Addr), cellOf h6 (Addr.add ⟨h1.size, 0, none⟩ 1) = some (.pointer q7) ∧
  onSome q7 fun p4 =>
  ∃ (n6 : Int), cellOf h6 (Addr.add p4 6) = some (.int .i64 n6) ∧
  K (.bool (n2 == n6)) h6) else (
  K (.bool false) h6)) else (
  K (.bool false) h6)) else (
  K (.bool false) h5)
def bolelaw03_Pair_asks.lo : Nat → List Nat × List (Nat × Ty) := fun n => match n with | _ => ([], [])
def bolelaw03_Pair_asks.od : Nat → List (Nat × List Nat) := fun n => match n with | 2 => [(0, []), (1, []), (3, []), (4, []), (2, [4]), (5, []), (6, []), (7, []), (8, []), (9, []), (11, []), (12, []), (13, []), (14, []), (15, []), (10, [12, 15]), (16, []), (17, []), (18, []), (19, []), (20, []), (21, []), (22, []), (23, []), (24, []), (25, []), (26, []), (27, []), (28, []), (29, []), (30, []), (31, []), (32, []), (33, []), (34, []), (35, []), (36, [])] | _ => []
theorem bolelaw03_Pair_asks.eq (p1 : List Value) (K : Value → Heap → Prop) (h : Heap) : fnX (cx bolelaw03_Pair_asks.lo bolelaw03_Pair_asks.od) Try.f15 (Try.f15.body.getD .skip) [.agg ⟨p1⟩] K h = bolelaw03_Pair_asks p1 K h := by kernel_rfl
theorem bolelaw03_Pair_asks.chk : fnOk (cx bolelaw03_Pair_asks.lo bolelaw03_Pair_asks.od) Try.f15 (Try.f15.body.getD .skip) 1 = true := by kernel_rfl
theorem bolelaw03_Pair_asks.ok {p1 : List Value} {K : Value → Heap → Prop} {h : Heap} (hx : bolelaw03_Pair_asks p1 K h) : C.bolelaw03_Pair_asks p1 h K :=
  fn_to (cxOk _ _) Try.func15 (by kernel_rfl) bolelaw03_Pair_asks.chk (by rw [bolelaw03_Pair_asks.eq]; exact hx)

-- 16
def adisk_Disk_Image (d1 : Option Addr) (K : Value → Heap → Prop) (h1 : Heap) : Prop :=
  onSome d1 fun p1 =>
  ∃ (sA1 : Option Addr) (sL1 : Nat) (sC1 : Nat), cellOf h1 (Addr.add p1 0) = some (.slice sA1 sL1 sC1) ∧
  (0 ≤ (0 : Int) ∧ (0 : Int) ≤ (IntKind.wrap .i64 ((sL1 : Int) * 512)) ∧ (1 : Int) * (IntKind.wrap .i64 ((sL1 : Int) * 512)) ≤ 281474976710656 ∧ (IntKind.wrap .i64 ((sL1 : Int) * 512)) ≤ 281474976710656) ∧
  New (repCells z5 (Int.toNat (IntKind.wrap .i64 ((sL1 : Int) * 512)))) 5 h1 fun h2 =>
  onSome d1 fun p2 =>
  ∃ (sA2 : Option Addr) (sL2 : Nat) (sC2 : Nat), cellOf h2 (Addr.add p2 0) = some (.slice sA2 sL2 sC2) ∧
  ∃ (I1 : Option Addr → Nat → Nat → Int → Heap → Prop) (M1 : Option Addr → Nat → Nat → Int → Heap → Nat), I1 (some ⟨h1.size, 0, none⟩) (Int.toNat 0) (Int.toNat (IntKind.wrap .i64 ((sL1 : Int) * 512))) 0 h2 ∧
  ∀ (imageA1 : Option Addr) (imageL1 : Nat) (imageC1 : Nat) (n1 : Int), ∀ h3 : Heap, I1 imageA1 imageL1 imageC1 n1 h3 →
  bif (decide (n1 < (sL2 : Int))) then (
  (0 ≤ n1 ∧ n1 < (sL2 : Int)) ∧
  onSome sA2 fun p3 =>
  ∃ cs1 : List Value, List.length cs1 = 512 ∧ Cells h3 (Addr.add p3 ((Int.toNat n1) * 512)) cs1 ∧
  NewRow z99 99 cs1 512 h3 fun h5 =>
  ∃ new1 : List Value, List.length new1 = 512 * 1 ∧ SlCells h5 (some ⟨h3.size, 0, none⟩) new1 ∧ (∀ v ∈ new1, v.oneCell' = true) ∧
  AppendP ti5 5 imageA1 imageL1 imageC1 512 new1 h5 fun sA3 sL3 sC3 h6 =>
  I1 sA3 sL3 sC3 (IntKind.wrap .i64 (n1 + 1)) h6 ∧ M1 sA3 sL3 sC3 (IntKind.wrap .i64 (n1 + 1)) h6 < M1 imageA1 imageL1 imageC1 n1 h3) else (
  K (.slice imageA1 imageL1 imageC1) h3)
def adisk_Disk_Image.lo : Nat → List Nat × List (Nat × Ty) := fun n => match n with | 3 => ([16, 17], [(3, .slice), (18, .int .i64)]) | _ => ([], [])
def adisk_Disk_Image.od : Nat → List (Nat × List Nat) := fun n => match n with | _ => []
theorem adisk_Disk_Image.eq (d1 : Option Addr) (K : Value → Heap → Prop) (h : Heap) : fnX (cx adisk_Disk_Image.lo adisk_Disk_Image.od) Try.f16 (Try.f16.body.getD .skip) [.pointer d1] K h = adisk_Disk_Image d1 K h := by kernel_rfl
theorem adisk_Disk_Image.chk : fnOk (cx adisk_Disk_Image.lo adisk_Disk_Image.od) Try.f16 (Try.f16.body.getD .skip) 1 = true := by kernel_rfl
theorem adisk_Disk_Image.ok {d1 : Option Addr} {K : Value → Heap → Prop} {h : Heap} (hx : adisk_Disk_Image d1 K h) : C.adisk_Disk_Image d1 h K :=
  fn_to (cxOk _ _) Try.func16 (by kernel_rfl) adisk_Disk_Image.chk (by rw [adisk_Disk_Image.eq]; exact hx)

-- 17
def bolelaw03_fresh.k1 (n1 : Int) (imageA1 : Option Addr) (imageL1 : Nat) (imageC1 : Nat) (q1 : Option Addr) (h10 : Heap) (K : Value → Heap → Prop) : Prop :=
  C.bolelaw03_mod n1 9 h10 fun r7 h11 =>
  ∃ (n6 : Int), r7 = .int .i64 n6 ∧
  C.adisk_Disk_Read q1 n6 h11 fun r8 h12 =>
  ∃ (sA3 : Option Addr) (sL3 : Nat) (sC3 : Nat) (n7 : Int), r8 = .tuple #[.slice sA3 sL3 sC3, .int .i64 n7] ∧
  bif (n7 != 0) then (
  K (.tuple #[.pointer none, .slice imageA1 imageL1 imageC1]) h12) else (
  ∃ bs1 : List UInt8, StrAt h12 sA3 sL3 bs1 ∧
  C.bolelaw03_mod n1 9 h12 fun r9 h13 =>
  ∃ (n8 : Int), r9 = .int .i64 n8 ∧
  StrAt h13 sA3 sL3 (ByteArray.toList (mkStr bs1)) ∧
  C.bolelaw03_block (IntKind.wrap .u8 (n8)) h13 fun r10 h14 =>
  ∃ (sA4 : Option Addr) (sL4 : Nat) (sC4 : Nat), r10 = .slice sA4 sL4 sC4 ∧
  StrAt h14 sA3 sL3 (ByteArray.toList (mkStr bs1)) ∧
  ∃ bs2 : List UInt8, StrAt h14 sA4 sL4 bs2 ∧
  bif (!((mkStr bs1).toList == (mkStr bs2).toList)) then (
  K (.tuple #[.pointer none, .slice imageA1 imageL1 imageC1]) h14) else (
  K (.tuple #[.pointer q1, .slice imageA1 imageL1 imageC1]) h14))
def bolelaw03_fresh (n1 : Int) (K : Value → Heap → Prop) (h1 : Heap) : Prop :=
  ∃ (I1 : Option Addr → Nat → Nat → Int → Heap → Prop) (M1 : Option Addr → Nat → Nat → Int → Heap → Nat), I1 none 0 0 0 h1 ∧
  ∀ (imageA1 : Option Addr) (imageL1 : Nat) (imageC1 : Nat) (i1 : Int), ∀ h2 : Heap, I1 imageA1 imageL1 imageC1 i1 h2 →
  C.bolelaw03_mod n1 9 h2 fun r1 h3 =>
  ∃ (n2 : Int), r1 = .int .i64 n2 ∧
  bif (decide (i1 < (IntKind.wrap .i64 (1 + n2)))) then (
  C.bolelaw03_block (IntKind.wrap .u8 (i1)) h3 fun r2 h4 =>
  ∃ (sA1 : Option Addr) (sL1 : Nat) (sC1 : Nat), r2 = .slice sA1 sL1 sC1 ∧
  ∃ new1 : List Value, List.length new1 = sL1 * 1 ∧ SlCells h4 sA1 new1 ∧ (∀ v ∈ new1, v.oneCell' = true) ∧
  AppendP ti5 5 imageA1 imageL1 imageC1 sL1 new1 h4 fun sA2 sL2 sC2 h5 =>
  I1 sA2 sL2 sC2 (IntKind.wrap .i64 (i1 + 1)) h5 ∧ M1 sA2 sL2 sC2 (IntKind.wrap .i64 (i1 + 1)) h5 < M1 imageA1 imageL1 imageC1 i1 h2) else (
  C.adisk_Open imageA1 imageL1 imageC1 h3 fun r3 h6 =>
  ∃ (q1 : Option Addr) (n3 : Int), r3 = .tuple #[.pointer q1, .int .i64 n3] ∧
  bif (n3 != 0) then (
  K (.tuple #[.pointer none, .slice imageA1 imageL1 imageC1]) h6) else (
  bif (Option.isNone q1) then (
  K (.tuple #[.pointer none, .slice imageA1 imageL1 imageC1]) h6) else (
  C.adisk_Disk_Blocks q1 h6 fun r4 h7 =>
  ∃ (n4 : Int), r4 = .int .i64 n4 ∧
  C.bolelaw03_mod n1 9 h7 fun r5 h8 =>
  ∃ (n5 : Int), r5 = .int .i64 n5 ∧
  bif (n4 != (IntKind.wrap .i64 (1 + n5))) then (
  K (.tuple #[.pointer none, .slice imageA1 imageL1 imageC1]) h8) else (
  C.adisk_Disk_Down q1 h8 fun r6 h9 =>
  ∃ (b1 : Bool), r6 = .bool b1 ∧
  bif b1 then (
  K (.tuple #[.pointer none, .slice imageA1 imageL1 imageC1]) h9) else (
  bolelaw03_fresh.k1 n1 imageA1 imageL1 imageC1 q1 h9 K)))))
def bolelaw03_fresh.lo : Nat → List Nat × List (Nat × Ty) := fun n => match n with | 3 => ([0], [(4, .slice), (5, .int .i64)]) | _ => ([], [])
def bolelaw03_fresh.od : Nat → List (Nat × List Nat) := fun n => match n with | 10 => [(0, []), (1, []), (2, []), (3, []), (4, []), (5, []), (6, [4]), (7, []), (8, [4]), (9, []), (10, []), (11, [])] | _ => []
theorem bolelaw03_fresh.eq (n1 : Int) (K : Value → Heap → Prop) (h : Heap) : fnX (cx bolelaw03_fresh.lo bolelaw03_fresh.od) Try.f17 (Try.f17.body.getD .skip) [.int .i64 n1] K h = bolelaw03_fresh n1 K h := by kernel_rfl
theorem bolelaw03_fresh.chk : fnOk (cx bolelaw03_fresh.lo bolelaw03_fresh.od) Try.f17 (Try.f17.body.getD .skip) 1 = true := by kernel_rfl
theorem bolelaw03_fresh.ok {n1 : Int} {K : Value → Heap → Prop} {h : Heap} (hx : bolelaw03_fresh n1 K h) : C.bolelaw03_fresh n1 h K :=
  fn_to (cxOk _ _) Try.func17 (by kernel_rfl) bolelaw03_fresh.chk (by rw [bolelaw03_fresh.eq]; exact hx)

-- 18
def bolelaw03_do (d1 : Option Addr) (p1 : List Value) (K : Value → Heap → Prop) (h1 : Heap) : Prop :=
  New p1 42 h1 fun h2 =>
  ∃ (b1 : Bool), cellOf h2 (Addr.add ⟨h1.size, 0, none⟩ 2) = some (.bool b1) ∧
  bif b1 then (
  C.adisk_Disk_Flush d1 h2 fun r1 h3 =>
  ∃ (n1 : Int), r1 = .int .i64 n1 ∧
  K (.int .i64 n1) h3) else (
  ∃ (n2 : Int), cellOf h2 (Addr.add ⟨h1.size, 0, none⟩ 0) = some (.int .i64 n2) ∧
  ∃ (n3 : Int), cellOf h2 (Addr.add ⟨h1.size, 0, none⟩ 1) = some (.int .u8 n3) ∧
  C.adisk_Disk_Blocks d1 h2 fun r2 h4 =>
  ∃ (n4 : Int), r2 = .int .i64 n4 ∧
  (cellOf h4 (Addr.add ⟨h1.size, 0, none⟩ 0) = some (.int .i64 n2)) ∧
  (cellOf h4 (Addr.add ⟨h1.size, 0, none⟩ 1) = some (.int .u8 n3)) ∧
  C.bolelaw03_mod n2 n4 h4 fun r3 h5 =>
  ∃ (n5 : Int), r3 = .int .i64 n5 ∧
  (cellOf h5 (Addr.add ⟨h1.size, 0, none⟩ 1) = some (.int .u8 n3)) ∧
  C.bolelaw03_block n3 h5 fun r4 h6 =>
  ∃ (sA1 : Option Addr) (sL1 : Nat) (sC1 : Nat), r4 = .slice sA1 sL1 sC1 ∧
  C.adisk_Disk_Write d1 n5 sA1 sL1 sC1 h6 fun r5 h7 =>
  ∃ (n6 : Int), r5 = .int .i64 n6 ∧
  K (.int .i64 n6) h7)
def bolelaw03_do.lo : Nat → List Nat × List (Nat × Ty) := fun n => match n with | _ => ([], [])
def bolelaw03_do.od : Nat → List (Nat × List Nat) := fun n => match n with | 3 => [(0, []), (1, []), (2, []), (3, []), (6, []), (7, []), (4, [2, 7]), (5, [7]), (8, []), (9, []), (10, [])] | _ => []
theorem bolelaw03_do.eq (d1 : Option Addr) (p1 : List Value) (K : Value → Heap → Prop) (h : Heap) : fnX (cx bolelaw03_do.lo bolelaw03_do.od) Try.f18 (Try.f18.body.getD .skip) [.pointer d1, .agg ⟨p1⟩] K h = bolelaw03_do d1 p1 K h := by kernel_rfl
theorem bolelaw03_do.chk : fnOk (cx bolelaw03_do.lo bolelaw03_do.od) Try.f18 (Try.f18.body.getD .skip) 2 = true := by kernel_rfl
theorem bolelaw03_do.ok {d1 : Option Addr} {p1 : List Value} {K : Value → Heap → Prop} {h : Heap} (hx : bolelaw03_do d1 p1 K h) : C.bolelaw03_do d1 p1 h K :=
  fn_to (cxOk _ _) Try.func18 (by kernel_rfl) bolelaw03_do.chk (by rw [bolelaw03_do.eq]; exact hx)

-- 19
def bolelaw03_mod (v1 : Int) (n1 : Int) (K : Value → Heap → Prop) (h1 : Heap) : Prop :=
  if n1 = 0 then False else
  bif (decide ((Int.tmod v1 n1) < 0)) then (
  K (.int .i64 (IntKind.wrap .i64 ((Int.tmod v1 n1) + n1))) h1) else (
  K (.int .i64 (Int.tmod v1 n1)) h1)
def bolelaw03_mod.lo : Nat → List Nat × List (Nat × Ty) := fun n => match n with | _ => ([], [])
def bolelaw03_mod.od : Nat → List (Nat × List Nat) := fun n => match n with | _ => []
theorem bolelaw03_mod.eq (v1 : Int) (n1 : Int) (K : Value → Heap → Prop) (h : Heap) : fnX (cx bolelaw03_mod.lo bolelaw03_mod.od) Try.f19 (Try.f19.body.getD .skip) [.int .i64 v1, .int .i64 n1] K h = bolelaw03_mod v1 n1 K h := by kernel_rfl
theorem bolelaw03_mod.chk : fnOk (cx bolelaw03_mod.lo bolelaw03_mod.od) Try.f19 (Try.f19.body.getD .skip) 2 = true := by kernel_rfl
theorem bolelaw03_mod.ok {v1 : Int} {n1 : Int} {K : Value → Heap → Prop} {h : Heap} (hx : bolelaw03_mod v1 n1 K h) : C.bolelaw03_mod v1 n1 h K :=
  fn_to (cxOk _ _) Try.func19 (by kernel_rfl) bolelaw03_mod.chk (by rw [bolelaw03_mod.eq]; exact hx)

-- 20
def bolelaw03_block (x1 : Int) (K : Value → Heap → Prop) (h1 : Heap) : Prop :=
  (0 ≤ (512 : Int) ∧ (512 : Int) ≤ 512 ∧ (1 : Int) * 512 ≤ 281474976710656 ∧ (512 : Int) ≤ 281474976710656) ∧
  New (repCells z5 (Int.toNat 512)) 5 h1 fun h2 =>
  ∃ (I1 : Int → Heap → Prop) (M1 : Int → Heap → Nat), I1 0 h2 ∧
  ∀ (n1 : Int), ∀ h3 : Heap, I1 n1 h3 →
  bif (decide (n1 < ((Int.toNat 512) : Int))) then (
  (0 ≤ n1 ∧ n1 < ((Int.toNat 512) : Int)) ∧
  Put (Addr.add ⟨h1.size, 0, none⟩ (Int.toNat n1)) (.int .u8 x1) h3 fun h4 =>
  I1 (IntKind.wrap .i64 (n1 + 1)) h4 ∧ M1 (IntKind.wrap .i64 (n1 + 1)) h4 < M1 n1 h3) else (
  K (.slice (some ⟨h1.size, 0, none⟩) (Int.toNat 512) (Int.toNat 512)) h3)
def bolelaw03_block.lo : Nat → List Nat × List (Nat × Ty) := fun n => match n with | 3 => ([0, 3, 7], [(8, .int .i64)]) | _ => ([], [])
def bolelaw03_block.od : Nat → List (Nat × List Nat) := fun n => match n with | _ => []
theorem bolelaw03_block.eq (x1 : Int) (K : Value → Heap → Prop) (h : Heap) : fnX (cx bolelaw03_block.lo bolelaw03_block.od) Try.f20 (Try.f20.body.getD .skip) [.int .u8 x1] K h = bolelaw03_block x1 K h := by kernel_rfl
theorem bolelaw03_block.chk : fnOk (cx bolelaw03_block.lo bolelaw03_block.od) Try.f20 (Try.f20.body.getD .skip) 1 = true := by kernel_rfl
theorem bolelaw03_block.ok {x1 : Int} {K : Value → Heap → Prop} {h : Heap} (hx : bolelaw03_block x1 K h) : C.bolelaw03_block x1 h K :=
  fn_to (cxOk _ _) Try.func20 (by kernel_rfl) bolelaw03_block.chk (by rw [bolelaw03_block.eq]; exact hx)

-- 21
def adisk_Disk_Pending (d1 : Option Addr) (K : Value → Heap → Prop) (h1 : Heap) : Prop :=
  onSome d1 fun p1 =>
  ∃ (sA1 : Option Addr) (sL1 : Nat) (sC1 : Nat), cellOf h1 (Addr.add p1 1) = some (.slice sA1 sL1 sC1) ∧
  ∃ (I1 : Option Addr → Nat → Nat → Int → Heap → Prop) (M1 : Option Addr → Nat → Nat → Int → Heap → Nat), I1 none 0 0 0 h1 ∧
  ∀ (lA1 : Option Addr) (lL1 : Nat) (lC1 : Nat) (n1 : Int), ∀ h2 : Heap, I1 lA1 lL1 lC1 n1 h2 →
  bif (decide (n1 < (sL1 : Int))) then (
  (0 ≤ n1 ∧ n1 < (sL1 : Int)) ∧
  onSome sA1 fun p2 =>
  ∃ cs1 : List Value, List.length cs1 = 513 ∧ Cells h2 (Addr.add p2 ((Int.toNat n1) * 513)) cs1 ∧
  NewRow z101 101 cs1 513 h2 fun h4 =>
  ∃ (n2 : Int), cellOf h4 (Addr.add ⟨h2.size, 0, none⟩ 0) = some (.int .i64 n2) ∧
  New [.int .i64 n2] 3 h4 fun h5 =>
  ∃ new1 : List Value, List.length new1 = 1 * 1 ∧ SlCells h5 (some ⟨h4.size, 0, none⟩) new1 ∧ (∀ v ∈ new1, v.oneCell' = true) ∧
  AppendP ti3 3 lA1 lL1 lC1 1 new1 h5 fun sA2 sL2 sC2 h6 =>
  I1 sA2 sL2 sC2 (IntKind.wrap .i64 (n1 + 1)) h6 ∧ M1 sA2 sL2 sC2 (IntKind.wrap .i64 (n1 + 1)) h6 < M1 lA1 lL1 lC1 n1 h2) else (
  K (.slice lA1 lL1 lC1) h2)
def adisk_Disk_Pending.lo : Nat → List Nat × List (Nat × Ty) := fun n => match n with | 3 => ([9, 10], [(3, .slice), (11, .int .i64)]) | _ => ([], [])
def adisk_Disk_Pending.od : Nat → List (Nat × List Nat) := fun n => match n with | _ => []
theorem adisk_Disk_Pending.eq (d1 : Option Addr) (K : Value → Heap → Prop) (h : Heap) : fnX (cx adisk_Disk_Pending.lo adisk_Disk_Pending.od) Try.f21 (Try.f21.body.getD .skip) [.pointer d1] K h = adisk_Disk_Pending d1 K h := by kernel_rfl
theorem adisk_Disk_Pending.chk : fnOk (cx adisk_Disk_Pending.lo adisk_Disk_Pending.od) Try.f21 (Try.f21.body.getD .skip) 1 = true := by kernel_rfl
theorem adisk_Disk_Pending.ok {d1 : Option Addr} {K : Value → Heap → Prop} {h : Heap} (hx : adisk_Disk_Pending d1 K h) : C.adisk_Disk_Pending d1 h K :=
  fn_to (cxOk _ _) Try.func21 (by kernel_rfl) adisk_Disk_Pending.chk (by rw [adisk_Disk_Pending.eq]; exact hx)

-- 22
def adisk_Disk_Crash (d1 : Option Addr) (keepA1 : Option Addr) (keepL1 : Nat) (keepC1 : Nat) (K : Value → Heap → Prop) (h1 : Heap) : Prop :=
  onSome d1 fun p1 =>
  ∃ (b1 : Bool), cellOf h1 (Addr.add p1 4) = some (.bool b1) ∧
  bif (!b1) then (
  C.adisk_Disk_cut d1 keepA1 keepL1 keepC1 h1 fun r1 h2 =>
  r1 = .tuple #[] ∧
  K (.tuple #[]) h2) else (
  K (.tuple #[]) h1)
def adisk_Disk_Crash.lo : Nat → List Nat × List (Nat × Ty) := fun n => match n with | _ => ([], [])
def adisk_Disk_Crash.od : Nat → List (Nat × List Nat) := fun n => match n with | _ => []
theorem adisk_Disk_Crash.eq (d1 : Option Addr) (keepA1 : Option Addr) (keepL1 : Nat) (keepC1 : Nat) (K : Value → Heap → Prop) (h : Heap) : fnX (cx adisk_Disk_Crash.lo adisk_Disk_Crash.od) Try.f22 (Try.f22.body.getD .skip) [.pointer d1, .slice keepA1 keepL1 keepC1] K h = adisk_Disk_Crash d1 keepA1 keepL1 keepC1 K h := by kernel_rfl
theorem adisk_Disk_Crash.chk : fnOk (cx adisk_Disk_Crash.lo adisk_Disk_Crash.od) Try.f22 (Try.f22.body.getD .skip) 2 = true := by kernel_rfl
theorem adisk_Disk_Crash.ok {d1 : Option Addr} {keepA1 : Option Addr} {keepL1 : Nat} {keepC1 : Nat} {K : Value → Heap → Prop} {h : Heap} (hx : adisk_Disk_Crash d1 keepA1 keepL1 keepC1 K h) : C.adisk_Disk_Crash d1 keepA1 keepL1 keepC1 h K :=
  fn_to (cxOk _ _) Try.func22 (by kernel_rfl) adisk_Disk_Crash.chk (by rw [adisk_Disk_Crash.eq]; exact hx)

-- 23
def adisk_Disk_Down (d1 : Option Addr) (K : Value → Heap → Prop) (h1 : Heap) : Prop :=
  onSome d1 fun p1 =>
  ∃ (b1 : Bool), cellOf h1 (Addr.add p1 4) = some (.bool b1) ∧
  K (.bool b1) h1
def adisk_Disk_Down.lo : Nat → List Nat × List (Nat × Ty) := fun n => match n with | _ => ([], [])
def adisk_Disk_Down.od : Nat → List (Nat × List Nat) := fun n => match n with | _ => []
theorem adisk_Disk_Down.eq (d1 : Option Addr) (K : Value → Heap → Prop) (h : Heap) : fnX (cx adisk_Disk_Down.lo adisk_Disk_Down.od) Try.f23 (Try.f23.body.getD .skip) [.pointer d1] K h = adisk_Disk_Down d1 K h := by kernel_rfl
theorem adisk_Disk_Down.chk : fnOk (cx adisk_Disk_Down.lo adisk_Disk_Down.od) Try.f23 (Try.f23.body.getD .skip) 1 = true := by kernel_rfl
theorem adisk_Disk_Down.ok {d1 : Option Addr} {K : Value → Heap → Prop} {h : Heap} (hx : adisk_Disk_Down d1 K h) : C.adisk_Disk_Down d1 h K :=
  fn_to (cxOk _ _) Try.func23 (by kernel_rfl) adisk_Disk_Down.chk (by rw [adisk_Disk_Down.eq]; exact hx)

-- 24
def adisk_Disk_Arm (d1 : Option Addr) (c1 : List Value) (K : Value → Heap → Prop) (h1 : Heap) : Prop :=
  New c1 54 h1 fun h2 =>
  onSome d1 fun p1 =>
  ∃ (b1 : Bool), cellOf h2 (Addr.add p1 4) = some (.bool b1) ∧
  bif b1 then (
  K (.int .i64 30) h2) else (
  ∃ (n1 : Int), cellOf h2 (Addr.add ⟨h1.size, 0, none⟩ 0) = some (.int .i64 n1) ∧
  ∃ (sA1 : Option Addr) (sL1 : Nat) (sC1 : Nat), cellOf h2 (Addr.add ⟨h1.size, 0, none⟩ 1) = some (.slice sA1 sL1 sC1) ∧
  C.slices_Clone_bool_bool sA1 sL1 sC1 h2 fun r1 h3 =>
  ∃ (sA2 : Option Addr) (sL2 : Nat) (sC2 : Nat), r1 = .slice sA2 sL2 sC2 ∧
  (cellOf h3 (Addr.add ⟨h1.size, 0, none⟩ 0) = some (.int .i64 n1)) ∧
  onSome d1 fun p2 =>
  Put (Addr.add p2 2) (.int .i64 (if (0 : Int) > n1 then 0 else n1)) h3 fun h4 =>
  onSome d1 fun p3 =>
  Put (Addr.add p3 3) (.slice sA2 sL2 sC2) h4 fun h5 =>
  K (.int .i64 0) h5)
def adisk_Disk_Arm.lo : Nat → List Nat × List (Nat × Ty) := fun n => match n with | _ => ([], [])
def adisk_Disk_Arm.od : Nat → List (Nat × List Nat) := fun n => match n with | 3 => [(0, []), (1, []), (2, []), (3, []), (4, []), (5, []), (6, []), (7, [3]), (8, []), (9, []), (10, []), (11, []), (12, []), (13, [])] | _ => []
theorem adisk_Disk_Arm.eq (d1 : Option Addr) (c1 : List Value) (K : Value → Heap → Prop) (h : Heap) : fnX (cx adisk_Disk_Arm.lo adisk_Disk_Arm.od) Try.f24 (Try.f24.body.getD .skip) [.pointer d1, .agg ⟨c1⟩] K h = adisk_Disk_Arm d1 c1 K h := by kernel_rfl
theorem adisk_Disk_Arm.chk : fnOk (cx adisk_Disk_Arm.lo adisk_Disk_Arm.od) Try.f24 (Try.f24.body.getD .skip) 2 = true := by kernel_rfl
theorem adisk_Disk_Arm.ok {d1 : Option Addr} {c1 : List Value} {K : Value → Heap → Prop} {h : Heap} (hx : adisk_Disk_Arm d1 c1 K h) : C.adisk_Disk_Arm d1 c1 h K :=
  fn_to (cxOk _ _) Try.func24 (by kernel_rfl) adisk_Disk_Arm.chk (by rw [adisk_Disk_Arm.eq]; exact hx)

-- 25
def adisk_Disk_Steps (d1 : Option Addr) (K : Value → Heap → Prop) (h1 : Heap) : Prop :=
  onSome d1 fun p1 =>
  ∃ (n1 : Int), cellOf h1 (Addr.add p1 5) = some (.int .i64 n1) ∧
  onSome d1 fun p2 =>
  ∃ (n2 : Int), cellOf h1 (Addr.add p2 6) = some (.int .i64 n2) ∧
  K (.tuple #[.int .i64 n1, .int .i64 n2]) h1
def adisk_Disk_Steps.lo : Nat → List Nat × List (Nat × Ty) := fun n => match n with | _ => ([], [])
def adisk_Disk_Steps.od : Nat → List (Nat × List Nat) := fun n => match n with | 1 => [(0, []), (1, []), (2, []), (3, []), (4, []), (5, []), (6, []), (7, []), (8, []), (9, [])] | _ => []
theorem adisk_Disk_Steps.eq (d1 : Option Addr) (K : Value → Heap → Prop) (h : Heap) : fnX (cx adisk_Disk_Steps.lo adisk_Disk_Steps.od) Try.f25 (Try.f25.body.getD .skip) [.pointer d1] K h = adisk_Disk_Steps d1 K h := by kernel_rfl
theorem adisk_Disk_Steps.chk : fnOk (cx adisk_Disk_Steps.lo adisk_Disk_Steps.od) Try.f25 (Try.f25.body.getD .skip) 1 = true := by kernel_rfl
theorem adisk_Disk_Steps.ok {d1 : Option Addr} {K : Value → Heap → Prop} {h : Heap} (hx : adisk_Disk_Steps d1 K h) : C.adisk_Disk_Steps d1 h K :=
  fn_to (cxOk _ _) Try.func25 (by kernel_rfl) adisk_Disk_Steps.chk (by rw [adisk_Disk_Steps.eq]; exact hx)

-- 26
def adisk_Disk_Write (d1 : Option Addr) (i1 : Int) (bA1 : Option Addr) (bL1 : Nat) (bC1 : Nat) (K : Value → Heap → Prop) (h1 : Heap) : Prop :=
  onSome d1 fun p1 =>
  ∃ (b1 : Bool), cellOf h1 (Addr.add p1 4) = some (.bool b1) ∧
  bif b1 then (
  K (.int .i64 30) h1) else (
  C.adisk_Disk_has d1 i1 h1 fun r1 h2 =>
  ∃ (b2 : Bool), r1 = .bool b2 ∧
  bif (!b2) then (
  K (.int .i64 31) h2) else (
  bif ((bL1 : Int) != 512) then (
  K (.int .i64 32) h2) else (
  onSome d1 fun p2 =>
  ∃ (sA1 : Option Addr) (sL1 : Nat) (sC1 : Nat), cellOf h2 (Addr.add p2 1) = some (.slice sA1 sL1 sC1) ∧
  512 ≤ bL1 ∧
  onSome bA1 fun p3 =>
  ∃ cs1 : List Value, List.length cs1 = 512 ∧ Cells h2 p3 cs1 ∧
  List.length (cs1 : List Value) = 512 ∧
  List.length (([.int .i64 i1] ++ cs1) : List Value) = 513 ∧
  New ([.int .i64 i1] ++ cs1) 101 h2 fun h3 =>
  (cellOf h3 (Addr.add p2 1) = some (.slice sA1 sL1 sC1)) ∧
  ∃ new1 : List Value, List.length new1 = 1 * 513 ∧ SlCells h3 (some ⟨h2.size, 0, none⟩) new1 ∧ (∀ v ∈ new1, v.oneCell' = true) ∧
  AppendP ti101 101 sA1 sL1 sC1 1 new1 h3 fun sA2 sL2 sC2 h4 =>
  onSome d1 fun p4 =>
  Put (Addr.add p4 1) (.slice sA2 sL2 sC2) h4 fun h5 =>
  onSome d1 fun p5 =>
  ∃ (sA3 : Option Addr) (sL3 : Nat) (sC3 : Nat), cellOf h5 (Addr.add p5 7) = some (.slice sA3 sL3 sC3) ∧
  C.slices_Clone_byte_byte bA1 bL1 bC1 h5 fun r2 h6 =>
  ∃ (sA4 : Option Addr) (sL4 : Nat) (sC4 : Nat), r2 = .slice sA4 sL4 sC4 ∧
  (cellOf h6 (Addr.add p5 7) = some (.slice sA3 sL3 sC3)) ∧
  List.length ([.int .i64 1, .int .i64 i1, .slice sA4 sL4 sC4] : List Value) = 3 ∧
  New [.int .i64 1, .int .i64 i1, .slice sA4 sL4 sC4] 70 h6 fun h7 =>
  (cellOf h7 (Addr.add p5 7) = some (.slice sA3 sL3 sC3)) ∧
  ∃ new2 : List Value, List.length new2 = 1 * 3 ∧ SlCells h7 (some ⟨h6.size, 0, none⟩) new2 ∧ (∀ v ∈ new2, v.oneCell' = true) ∧
  AppendP ti70 70 sA3 sL3 sC3 1 new2 h7 fun sA5 sL5 sC5 h8 =>
  onSome d1 fun p6 =>
  Put (Addr.add p6 7) (.slice sA5 sL5 sC5) h8 fun h9 =>
  onSome d1 fun p7 =>
  ∃ (n1 : Int), cellOf h9 (Addr.add p7 5) = some (.int .i64 n1) ∧
  onSome d1 fun p8 =>
  Put (Addr.add p8 5) (.int .i64 (IntKind.wrap .i64 (n1 + 1))) h9 fun h10 =>
  C.adisk_Disk_step d1 (Value.nilFunc) h10 fun r3 h11 =>
  ∃ (n2 : Int), r3 = .int .i64 n2 ∧
  K (.int .i64 n2) h11)))
def adisk_Disk_Write.lo : Nat → List Nat × List (Nat × Ty) := fun n => match n with | _ => ([], [])
def adisk_Disk_Write.od : Nat → List (Nat × List Nat) := fun n => match n with | 7 => [(0, []), (1, []), (2, []), (3, []), (4, []), (5, []), (6, []), (7, []), (8, []), (9, []), (10, [4]), (11, []), (12, []), (13, []), (14, [])] | 8 => [(0, []), (1, []), (2, []), (3, []), (4, []), (5, []), (6, []), (7, [4]), (8, []), (9, [4]), (10, []), (11, []), (12, []), (13, [])] | _ => []
theorem adisk_Disk_Write.eq (d1 : Option Addr) (i1 : Int) (bA1 : Option Addr) (bL1 : Nat) (bC1 : Nat) (K : Value → Heap → Prop) (h : Heap) : fnX (cx adisk_Disk_Write.lo adisk_Disk_Write.od) Try.f26 (Try.f26.body.getD .skip) [.pointer d1, .int .i64 i1, .slice bA1 bL1 bC1] K h = adisk_Disk_Write d1 i1 bA1 bL1 bC1 K h := by kernel_rfl
theorem adisk_Disk_Write.chk : fnOk (cx adisk_Disk_Write.lo adisk_Disk_Write.od) Try.f26 (Try.f26.body.getD .skip) 3 = true := by kernel_rfl
theorem adisk_Disk_Write.ok {d1 : Option Addr} {i1 : Int} {bA1 : Option Addr} {bL1 : Nat} {bC1 : Nat} {K : Value → Heap → Prop} {h : Heap} (hx : adisk_Disk_Write d1 i1 bA1 bL1 bC1 K h) : C.adisk_Disk_Write d1 i1 bA1 bL1 bC1 h K :=
  fn_to (cxOk _ _) Try.func26 (by kernel_rfl) adisk_Disk_Write.chk (by rw [adisk_Disk_Write.eq]; exact hx)

-- 27
def adisk_Disk_Flush (d1 : Option Addr) (K : Value → Heap → Prop) (h1 : Heap) : Prop :=
  New [.pointer d1] 23 h1 fun h2 =>
  ∃ (q1 : Option Addr), cellOf h2 ⟨h1.size, 0, none⟩ = some (.pointer q1) ∧
  onSome q1 fun p1 =>
  ∃ (b1 : Bool), cellOf h2 (Addr.add p1 4) = some (.bool b1) ∧
  bif b1 then (
  K (.int .i64 30) h2) else (
  ∃ (q2 : Option Addr), cellOf h2 ⟨h1.size, 0, none⟩ = some (.pointer q2) ∧
  onSome q2 fun p2 =>
  ∃ (n1 : Int), cellOf h2 (Addr.add p2 6) = some (.int .i64 n1) ∧
  onSome q2 fun p3 =>
  Put (Addr.add p3 6) (.int .i64 (IntKind.wrap .i64 (n1 + 1))) h2 fun h3 =>
  ∃ (q3 : Option Addr), cellOf h3 ⟨h1.size, 0, none⟩ = some (.pointer q3) ∧
  C.adisk_Disk_step q3 (Value.func (.func 51) #[] ⟨[.pointer (some ⟨h1.size, 0, none⟩)]⟩) h3 fun r1 h4 =>
  ∃ (n2 : Int), r1 = .int .i64 n2 ∧
  K (.int .i64 n2) h4)
def adisk_Disk_Flush.lo : Nat → List Nat × List (Nat × Ty) := fun n => match n with | _ => ([], [])
def adisk_Disk_Flush.od : Nat → List (Nat × List Nat) := fun n => match n with | _ => []
theorem adisk_Disk_Flush.eq (d1 : Option Addr) (K : Value → Heap → Prop) (h : Heap) : fnX (cx adisk_Disk_Flush.lo adisk_Disk_Flush.od) Try.f27 (Try.f27.body.getD .skip) [.pointer d1] K h = adisk_Disk_Flush d1 K h := by kernel_rfl
theorem adisk_Disk_Flush.chk : fnOk (cx adisk_Disk_Flush.lo adisk_Disk_Flush.od) Try.f27 (Try.f27.body.getD .skip) 1 = true := by kernel_rfl
theorem adisk_Disk_Flush.ok {d1 : Option Addr} {K : Value → Heap → Prop} {h : Heap} (hx : adisk_Disk_Flush d1 K h) : C.adisk_Disk_Flush d1 h K :=
  fn_to (cxOk _ _) Try.func27 (by kernel_rfl) adisk_Disk_Flush.chk (by rw [adisk_Disk_Flush.eq]; exact hx)

-- 28
def boleref03_After (imageA1 : Option Addr) (imageL1 : Nat) (imageC1 : Nat) (actsA1 : Option Addr) (actsL1 : Nat) (actsC1 : Nat) (keepA1 : Option Addr) (keepL1 : Nat) (keepC1 : Nat) (K : Value → Heap → Prop) (h1 : Heap) : Prop :=
  C.boleref03_Of imageA1 imageL1 imageC1 h1 fun r1 h2 =>
  ∃ (q1 : Option Addr) (n1 : Int), r1 = .tuple #[.pointer q1, .int .i64 n1] ∧
  bif (n1 != 0) then (
  K (.tuple #[.slice none 0 0, .int .i64 n1]) h2) else (
  ∃ (I1 : Int → Heap → Prop) (M1 : Int → Heap → Nat), I1 0 h2 ∧
  ∀ (i1 : Int), ∀ h3 : Heap, I1 i1 h3 →
  bif (decide (i1 < (actsL1 : Int))) then (
  (0 ≤ i1 ∧ i1 < (actsL1 : Int)) ∧
  onSome actsA1 fun p1 =>
  ∃ cs1 : List Value, List.length cs1 = 3 ∧ Cells h3 (Addr.add p1 ((Int.toNat i1) * 3)) cs1 ∧
  C.boleref03_fault (IntKind.wrap .i64 (Int.tdiv (imageL1 : Int) 512)) cs1 h3 fun r2 h4 =>
  ∃ (n2 : Int), r2 = .int .i64 n2 ∧
  bif (n2 != 0) then (
  K (.tuple #[.slice none 0 0, .int .i64 n2]) h4) else (
  I1 (IntKind.wrap .i64 (i1 + 1)) h4 ∧ M1 (IntKind.wrap .i64 (i1 + 1)) h4 < M1 i1 h3)) else (
  C.boleref03_left imageA1 imageL1 imageC1 actsA1 actsL1 actsC1 keepA1 keepL1 keepC1 h3 fun r3 h5 =>
  ∃ (sA1 : Option Addr) (sL1 : Nat) (sC1 : Nat), r3 = .slice sA1 sL1 sC1 ∧
  K (.tuple #[.slice sA1 sL1 sC1, .int .i64 0]) h5))
def boleref03_After.lo : Nat → List Nat × List (Nat × Ty) := fun n => match n with | 5 => ([0, 1, 2], [(10, .int .i64)]) | _ => ([], [])
def boleref03_After.od : Nat → List (Nat × List Nat) := fun n => match n with | _ => []
theorem boleref03_After.eq (imageA1 : Option Addr) (imageL1 : Nat) (imageC1 : Nat) (actsA1 : Option Addr) (actsL1 : Nat) (actsC1 : Nat) (keepA1 : Option Addr) (keepL1 : Nat) (keepC1 : Nat) (K : Value → Heap → Prop) (h : Heap) : fnX (cx boleref03_After.lo boleref03_After.od) Try.f28 (Try.f28.body.getD .skip) [.slice imageA1 imageL1 imageC1, .slice actsA1 actsL1 actsC1, .slice keepA1 keepL1 keepC1] K h = boleref03_After imageA1 imageL1 imageC1 actsA1 actsL1 actsC1 keepA1 keepL1 keepC1 K h := by kernel_rfl
theorem boleref03_After.chk : fnOk (cx boleref03_After.lo boleref03_After.od) Try.f28 (Try.f28.body.getD .skip) 3 = true := by kernel_rfl
theorem boleref03_After.ok {imageA1 : Option Addr} {imageL1 : Nat} {imageC1 : Nat} {actsA1 : Option Addr} {actsL1 : Nat} {actsC1 : Nat} {keepA1 : Option Addr} {keepL1 : Nat} {keepC1 : Nat} {K : Value → Heap → Prop} {h : Heap} (hx : boleref03_After imageA1 imageL1 imageC1 actsA1 actsL1 actsC1 keepA1 keepL1 keepC1 K h) : C.boleref03_After imageA1 imageL1 imageC1 actsA1 actsL1 actsC1 keepA1 keepL1 keepC1 h K :=
  fn_to (cxOk _ _) Try.func28 (by kernel_rfl) boleref03_After.chk (by rw [boleref03_After.eq]; exact hx)

-- 29
def bolelaw03_lent (bA1 : Option Addr) (bL1 : Nat) (bC1 : Nat) (K : Value → Heap → Prop) (h1 : Heap) : Prop :=
  ∃ new1 : List Value, List.length new1 = bL1 * 1 ∧ SlCells h1 bA1 new1 ∧ (∀ v ∈ new1, v.oneCell' = true) ∧
  AppendP ti5 5 none 0 0 bL1 new1 h1 fun sA1 sL1 sC1 h2 =>
  New [.int .u8 165] 5 h2 fun h3 =>
  ∃ new2 : List Value, List.length new2 = 1 * 1 ∧ SlCells h3 (some ⟨h2.size, 0, none⟩) new2 ∧ (∀ v ∈ new2, v.oneCell' = true) ∧
  AppendP ti5 5 sA1 sL1 sC1 1 new2 h3 fun sA2 sL2 sC2 h4 =>
  (0 ≤ (bL1 : Int) ∧ (bL1 : Int) ≤ (sC2 : Int)) ∧
  K (.tuple #[.slice sA2 (Int.toNat (bL1 : Int)) sC2, .slice sA2 sL2 sC2]) h4
def bolelaw03_lent.lo : Nat → List Nat × List (Nat × Ty) := fun n => match n with | _ => ([], [])
def bolelaw03_lent.od : Nat → List (Nat × List Nat) := fun n => match n with | _ => []
theorem bolelaw03_lent.eq (bA1 : Option Addr) (bL1 : Nat) (bC1 : Nat) (K : Value → Heap → Prop) (h : Heap) : fnX (cx bolelaw03_lent.lo bolelaw03_lent.od) Try.f29 (Try.f29.body.getD .skip) [.slice bA1 bL1 bC1] K h = bolelaw03_lent bA1 bL1 bC1 K h := by kernel_rfl
theorem bolelaw03_lent.chk : fnOk (cx bolelaw03_lent.lo bolelaw03_lent.od) Try.f29 (Try.f29.body.getD .skip) 1 = true := by kernel_rfl
theorem bolelaw03_lent.ok {bA1 : Option Addr} {bL1 : Nat} {bC1 : Nat} {K : Value → Heap → Prop} {h : Heap} (hx : bolelaw03_lent bA1 bL1 bC1 K h) : C.bolelaw03_lent bA1 bL1 bC1 h K :=
  fn_to (cxOk _ _) Try.func29 (by kernel_rfl) bolelaw03_lent.chk (by rw [bolelaw03_lent.eq]; exact hx)

-- 30
def bolelaw03_copies (lA1 : Option Addr) (lL1 : Nat) (lC1 : Nat) (K : Value → Heap → Prop) (h1 : Heap) : Prop :=
  ∃ (I1 : Option Addr → Nat → Nat → Option Addr → Nat → Nat → Int → Heap → Prop) (M1 : Option Addr → Nat → Nat → Option Addr → Nat → Nat → Int → Heap → Nat), I1 none 0 0 none 0 0 0 h1 ∧
  ∀ (mA1 : Option Addr) (mL1 : Nat) (mC1 : Nat) (allA1 : Option Addr) (allL1 : Nat) (allC1 : Nat) (n1 : Int), ∀ h2 : Heap, I1 mA1 mL1 mC1 allA1 allL1 allC1 n1 h2 →
  bif (decide (n1 < (lL1 : Int))) then (
  (0 ≤ n1 ∧ n1 < (lL1 : Int)) ∧
  onSome lA1 fun p1 =>
  ∃ cs1 : List Value, List.length cs1 = 3 ∧ Cells h2 (Addr.add p1 ((Int.toNat n1) * 3)) cs1 ∧
  NewRow z70 70 cs1 3 h2 fun h4 =>
  ∃ (sA1 : Option Addr) (sL1 : Nat) (sC1 : Nat), cellOf h4 (Addr.add ⟨h2.size, 0, none⟩ 2) = some (.slice sA1 sL1 sC1) ∧
  C.bolelaw03_lent sA1 sL1 sC1 h4 fun r1 h5 =>
  ∃ (sA2 : Option Addr) (sL2 : Nat) (sC2 : Nat) (sA3 : Option Addr) (sL3 : Nat) (sC3 : Nat), r1 = .tuple #[.slice sA2 sL2 sC2, .slice sA3 sL3 sC3] ∧
  ∃ (n2 : Int), cellOf h5 (Addr.add ⟨h2.size, 0, none⟩ 0) = some (.int .i64 n2) ∧
  ∃ (n3 : Int), cellOf h5 (Addr.add ⟨h2.size, 0, none⟩ 1) = some (.int .i64 n3) ∧
  List.length ([.int .i64 n2, .int .i64 n3, .slice sA2 sL2 sC2] : List Value) = 3 ∧
  New [.int .i64 n2, .int .i64 n3, .slice sA2 sL2 sC2] 70 h5 fun h6 =>
  ∃ new1 : List Value, List.length new1 = 1 * 3 ∧ SlCells h6 (some ⟨h5.size, 0, none⟩) new1 ∧ (∀ v ∈ new1, v.oneCell' = true) ∧
  AppendP ti70 70 mA1 mL1 mC1 1 new1 h6 fun sA4 sL4 sC4 h7 =>
  New [.slice sA3 sL3 sC3] 22 h7 fun h8 =>
  ∃ new2 : List Value, List.length new2 = 1 * 1 ∧ SlCells h8 (some ⟨h7.size, 0, none⟩) new2 ∧ (∀ v ∈ new2, v.oneCell' = true) ∧
  AppendP ti22 22 allA1 allL1 allC1 1 new2 h8 fun sA5 sL5 sC5 h9 =>
  I1 sA4 sL4 sC4 sA5 sL5 sC5 (IntKind.wrap .i64 (n1 + 1)) h9 ∧ M1 sA4 sL4 sC4 sA5 sL5 sC5 (IntKind.wrap .i64 (n1 + 1)) h9 < M1 mA1 mL1 mC1 allA1 allL1 allC1 n1 h2) else (
  List.length ([.int .i64 (-99), .int .i64 0, .slice none 0 0] : List Value) = 3 ∧
  New [.int .i64 (-99), .int .i64 0, .slice none 0 0] 70 h2 fun h10 =>
  ∃ new3 : List Value, List.length new3 = 1 * 3 ∧ SlCells h10 (some ⟨h2.size, 0, none⟩) new3 ∧ (∀ v ∈ new3, v.oneCell' = true) ∧
  AppendP ti70 70 mA1 mL1 mC1 1 new3 h10 fun sA6 sL6 sC6 h11 =>
  (0 ≤ (lL1 : Int) ∧ (lL1 : Int) ≤ (sC6 : Int)) ∧
  K (.tuple #[.slice sA6 (Int.toNat (lL1 : Int)) sC6, .slice allA1 allL1 allC1]) h11)
def bolelaw03_copies.lo : Nat → List Nat × List (Nat × Ty) := fun n => match n with | 4 => ([0, 10, 11], [(4, .slice), (5, .slice), (12, .int .i64)]) | _ => ([], [])
def bolelaw03_copies.od : Nat → List (Nat × List Nat) := fun n => match n with | _ => []
theorem bolelaw03_copies.eq (lA1 : Option Addr) (lL1 : Nat) (lC1 : Nat) (K : Value → Heap → Prop) (h : Heap) : fnX (cx bolelaw03_copies.lo bolelaw03_copies.od) Try.f30 (Try.f30.body.getD .skip) [.slice lA1 lL1 lC1] K h = bolelaw03_copies lA1 lL1 lC1 K h := by kernel_rfl
theorem bolelaw03_copies.chk : fnOk (cx bolelaw03_copies.lo bolelaw03_copies.od) Try.f30 (Try.f30.body.getD .skip) 1 = true := by kernel_rfl
theorem bolelaw03_copies.ok {lA1 : Option Addr} {lL1 : Nat} {lC1 : Nat} {K : Value → Heap → Prop} {h : Heap} (hx : bolelaw03_copies lA1 lL1 lC1 K h) : C.bolelaw03_copies lA1 lL1 lC1 h K :=
  fn_to (cxOk _ _) Try.func30 (by kernel_rfl) bolelaw03_copies.chk (by rw [bolelaw03_copies.eq]; exact hx)

-- 31
def bolelaw03_marks (lA1 : Option Addr) (lL1 : Nat) (lC1 : Nat) (K : Value → Heap → Prop) (h1 : Heap) : Prop :=
  ∃ new1 : List Value, List.length new1 = lL1 * 1 ∧ SlCells h1 lA1 new1 ∧ (∀ v ∈ new1, v.oneCell' = true) ∧
  AppendP ti4 4 none 0 0 lL1 new1 h1 fun sA1 sL1 sC1 h2 =>
  New [.bool true] 4 h2 fun h3 =>
  ∃ new2 : List Value, List.length new2 = 1 * 1 ∧ SlCells h3 (some ⟨h2.size, 0, none⟩) new2 ∧ (∀ v ∈ new2, v.oneCell' = true) ∧
  AppendP ti4 4 sA1 sL1 sC1 1 new2 h3 fun sA2 sL2 sC2 h4 =>
  (0 ≤ (lL1 : Int) ∧ (lL1 : Int) ≤ (sC2 : Int)) ∧
  K (.tuple #[.slice sA2 (Int.toNat (lL1 : Int)) sC2, .slice sA2 sL2 sC2]) h4
def bolelaw03_marks.lo : Nat → List Nat × List (Nat × Ty) := fun n => match n with | _ => ([], [])
def bolelaw03_marks.od : Nat → List (Nat × List Nat) := fun n => match n with | _ => []
theorem bolelaw03_marks.eq (lA1 : Option Addr) (lL1 : Nat) (lC1 : Nat) (K : Value → Heap → Prop) (h : Heap) : fnX (cx bolelaw03_marks.lo bolelaw03_marks.od) Try.f31 (Try.f31.body.getD .skip) [.slice lA1 lL1 lC1] K h = bolelaw03_marks lA1 lL1 lC1 K h := by kernel_rfl
theorem bolelaw03_marks.chk : fnOk (cx bolelaw03_marks.lo bolelaw03_marks.od) Try.f31 (Try.f31.body.getD .skip) 1 = true := by kernel_rfl
theorem bolelaw03_marks.ok {lA1 : Option Addr} {lL1 : Nat} {lC1 : Nat} {K : Value → Heap → Prop} {h : Heap} (hx : bolelaw03_marks lA1 lL1 lC1 K h) : C.bolelaw03_marks lA1 lL1 lC1 h K :=
  fn_to (cxOk _ _) Try.func31 (by kernel_rfl) bolelaw03_marks.chk (by rw [bolelaw03_marks.eq]; exact hx)

-- 32
def adisk_After (imageA1 : Option Addr) (imageL1 : Nat) (imageC1 : Nat) (actsA1 : Option Addr) (actsL1 : Nat) (actsC1 : Nat) (keepA1 : Option Addr) (keepL1 : Nat) (keepC1 : Nat) (K : Value → Heap → Prop) (h1 : Heap) : Prop :=
  C.adisk_Open imageA1 imageL1 imageC1 h1 fun r1 h2 =>
  ∃ (q1 : Option Addr) (n1 : Int), r1 = .tuple #[.pointer q1, .int .i64 n1] ∧
  bif (n1 != 0) then (
  K (.tuple #[.slice none 0 0, .int .i64 n1]) h2) else (
  ∃ (I1 : Int → Heap → Prop) (M1 : Int → Heap → Nat), I1 0 h2 ∧
  ∀ (n2 : Int), ∀ h3 : Heap, I1 n2 h3 →
  bif (decide (n2 < (actsL1 : Int))) then (
  (0 ≤ n2 ∧ n2 < (actsL1 : Int)) ∧
  onSome actsA1 fun p1 =>
  ∃ cs1 : List Value, List.length cs1 = 3 ∧ Cells h3 (Addr.add p1 ((Int.toNat n2) * 3)) cs1 ∧
  NewRow z70 70 cs1 3 h3 fun h5 =>
  ∃ cs2 : List Value, List.length cs2 = 3 ∧ Cells h5 ⟨h3.size, 0, none⟩ cs2 ∧
  C.adisk_Disk_Blocks q1 h5 fun r2 h6 =>
  ∃ (n3 : Int), r2 = .int .i64 n3 ∧
  (List.length (cs2 : List Value) = 3 ∧ Cells h6 ⟨h3.size, 0, none⟩ cs2) ∧
  C.adisk_refused cs2 n3 h6 fun r3 h7 =>
  ∃ (n4 : Int), r3 = .int .i64 n4 ∧
  bif (n4 != 0) then (
  K (.tuple #[.slice none 0 0, .int .i64 n4]) h7) else (
  I1 (IntKind.wrap .i64 (n2 + 1)) h7 ∧ M1 (IntKind.wrap .i64 (n2 + 1)) h7 < M1 n2 h3)) else (
  ∃ (I2 : Int → Heap → Prop) (M2 : Int → Heap → Nat), I2 0 h3 ∧
  ∀ (n5 : Int), ∀ h8 : Heap, I2 n5 h8 →
  bif (decide (n5 < (actsL1 : Int))) then (
  (0 ≤ n5 ∧ n5 < (actsL1 : Int)) ∧
  onSome actsA1 fun p2 =>
  ∃ cs3 : List Value, List.length cs3 = 3 ∧ Cells h8 (Addr.add p2 ((Int.toNat n5) * 3)) cs3 ∧
  NewRow z70 70 cs3 3 h8 fun h10 =>
  ∃ (n6 : Int), cellOf h10 (Addr.add ⟨h8.size, 0, none⟩ 0) = some (.int .i64 n6) ∧
  bif (n6 == 2) then (
  C.adisk_Disk_Flush q1 h10 fun r4 h11 =>
  ∃ (n7 : Int), r4 = .int .i64 n7 ∧
  I2 (IntKind.wrap .i64 (n5 + 1)) h11 ∧ M2 (IntKind.wrap .i64 (n5 + 1)) h11 < M2 n5 h8) else (
  ∃ (n8 : Int), cellOf h10 (Addr.add ⟨h8.size, 0, none⟩ 1) = some (.int .i64 n8) ∧
  ∃ (sA1 : Option Addr) (sL1 : Nat) (sC1 : Nat), cellOf h10 (Addr.add ⟨h8.size, 0, none⟩ 2) = some (.slice sA1 sL1 sC1) ∧
  C.adisk_Disk_Write q1 n8 sA1 sL1 sC1 h10 fun r5 h12 =>
  ∃ (n9 : Int), r5 = .int .i64 n9 ∧
  I2 (IntKind.wrap .i64 (n5 + 1)) h12 ∧ M2 (IntKind.wrap .i64 (n5 + 1)) h12 < M2 n5 h8)) else (
  C.adisk_Disk_cut q1 keepA1 keepL1 keepC1 h8 fun r6 h13 =>
  r6 = .tuple #[] ∧
  C.adisk_Disk_Image q1 h13 fun r7 h14 =>
  ∃ (sA2 : Option Addr) (sL2 : Nat) (sC2 : Nat), r7 = .slice sA2 sL2 sC2 ∧
  K (.tuple #[.slice sA2 sL2 sC2, .int .i64 0]) h14)))
def adisk_After.lo : Nat → List Nat × List (Nat × Ty) := fun n => match n with | 5 => ([1, 2, 8, 23, 24], [(25, .int .i64)]) | 12 => ([2, 8, 37, 38], [(39, .int .i64)]) | _ => ([], [])
def adisk_After.od : Nat → List (Nat × List Nat) := fun n => match n with | 7 => [(0, []), (1, []), (2, [0]), (3, []), (4, [])] | _ => []
theorem adisk_After.eq (imageA1 : Option Addr) (imageL1 : Nat) (imageC1 : Nat) (actsA1 : Option Addr) (actsL1 : Nat) (actsC1 : Nat) (keepA1 : Option Addr) (keepL1 : Nat) (keepC1 : Nat) (K : Value → Heap → Prop) (h : Heap) : fnX (cx adisk_After.lo adisk_After.od) Try.f32 (Try.f32.body.getD .skip) [.slice imageA1 imageL1 imageC1, .slice actsA1 actsL1 actsC1, .slice keepA1 keepL1 keepC1] K h = adisk_After imageA1 imageL1 imageC1 actsA1 actsL1 actsC1 keepA1 keepL1 keepC1 K h := by kernel_rfl
theorem adisk_After.chk : fnOk (cx adisk_After.lo adisk_After.od) Try.f32 (Try.f32.body.getD .skip) 3 = true := by kernel_rfl
theorem adisk_After.ok {imageA1 : Option Addr} {imageL1 : Nat} {imageC1 : Nat} {actsA1 : Option Addr} {actsL1 : Nat} {actsC1 : Nat} {keepA1 : Option Addr} {keepL1 : Nat} {keepC1 : Nat} {K : Value → Heap → Prop} {h : Heap} (hx : adisk_After imageA1 imageL1 imageC1 actsA1 actsL1 actsC1 keepA1 keepL1 keepC1 K h) : C.adisk_After imageA1 imageL1 imageC1 actsA1 actsL1 actsC1 keepA1 keepL1 keepC1 h K :=
  fn_to (cxOk _ _) Try.func32 (by kernel_rfl) adisk_After.chk (by rw [adisk_After.eq]; exact hx)

-- 33
def bolelaw03_kept.k1 (fullA1 : Option Addr) (fullL1 : Nat) (h1 : Heap) (ok1 : Bool) (K : Value → Heap → Prop) : Prop :=
  ∃ (I1 : Int → Heap → Prop) (M1 : Int → Heap → Nat), I1 0 h1 ∧
  ∀ (n2 : Int), ∀ h2 : Heap, I1 n2 h2 →
  bif (decide (n2 < (fullL1 : Int))) then (
  (0 ≤ n2 ∧ n2 < (fullL1 : Int)) ∧
  onSome fullA1 fun p2 =>
  ∃ (n3 : Int), cellOf h2 (Addr.add p2 (Int.toNat n2)) = some (.int .u8 n3) ∧
  (0 ≤ n2 ∧ n2 < (fullL1 : Int)) ∧
  onSome fullA1 fun p3 =>
  Put (Addr.add p3 (Int.toNat n2)) (.int .u8 (IntKind.wrap .u8 (n3 + 101))) h2 fun h3 =>
  I1 (IntKind.wrap .i64 (n2 + 1)) h3 ∧ M1 (IntKind.wrap .i64 (n2 + 1)) h3 < M1 n2 h2) else (
  K (.bool ok1) h2)
def bolelaw03_kept (fullA1 : Option Addr) (fullL1 : Nat) (fullC1 : Nat) (bA1 : Option Addr) (bL1 : Nat) (bC1 : Nat) (K : Value → Heap → Prop) (h1 : Heap) : Prop :=
  (0 ≤ (bL1 : Int) ∧ (bL1 : Int) ≤ (fullC1 : Int)) ∧
  ∃ bs1 : List UInt8, StrAt h1 fullA1 (Int.toNat (bL1 : Int)) bs1 ∧
  ∃ bs2 : List UInt8, StrAt h1 bA1 bL1 bs2 ∧
  bif ((mkStr bs1).toList == (mkStr bs2).toList) then (
  (0 ≤ (bL1 : Int) ∧ (bL1 : Int) < (fullL1 : Int)) ∧
  onSome fullA1 fun p1 =>
  ∃ (n1 : Int), cellOf h1 (Addr.add p1 (Int.toNat (bL1 : Int))) = some (.int .u8 n1) ∧
  bolelaw03_kept.k1 fullA1 fullL1 h1 (n1 == 165) K) else (
  bolelaw03_kept.k1 fullA1 fullL1 h1 false K)
def bolelaw03_kept.lo : Nat → List Nat × List (Nat × Ty) := fun n => match n with | 3 => ([0, 5, 24], [(25, .int .i64)]) | _ => ([], [])
def bolelaw03_kept.od : Nat → List (Nat × List Nat) := fun n => match n with | 1 => [(0, []), (1, []), (2, []), (3, []), (4, []), (5, []), (6, []), (7, []), (8, []), (9, []), (10, []), (11, []), (12, []), (13, []), (14, []), (15, []), (16, [])] | _ => []
theorem bolelaw03_kept.eq (fullA1 : Option Addr) (fullL1 : Nat) (fullC1 : Nat) (bA1 : Option Addr) (bL1 : Nat) (bC1 : Nat) (K : Value → Heap → Prop) (h : Heap) : fnX (cx bolelaw03_kept.lo bolelaw03_kept.od) Try.f33 (Try.f33.body.getD .skip) [.slice fullA1 fullL1 fullC1, .slice bA1 bL1 bC1] K h = bolelaw03_kept fullA1 fullL1 fullC1 bA1 bL1 bC1 K h := by kernel_rfl
theorem bolelaw03_kept.chk : fnOk (cx bolelaw03_kept.lo bolelaw03_kept.od) Try.f33 (Try.f33.body.getD .skip) 2 = true := by kernel_rfl
theorem bolelaw03_kept.ok {fullA1 : Option Addr} {fullL1 : Nat} {fullC1 : Nat} {bA1 : Option Addr} {bL1 : Nat} {bC1 : Nat} {K : Value → Heap → Prop} {h : Heap} (hx : bolelaw03_kept fullA1 fullL1 fullC1 bA1 bL1 bC1 K h) : C.bolelaw03_kept fullA1 fullL1 fullC1 bA1 bL1 bC1 h K :=
  fn_to (cxOk _ _) Try.func33 (by kernel_rfl) bolelaw03_kept.chk (by rw [bolelaw03_kept.eq]; exact hx)

-- 34
def bolelaw03_unmarked (fullA1 : Option Addr) (fullL1 : Nat) (fullC1 : Nat) (lA1 : Option Addr) (lL1 : Nat) (lC1 : Nat) (K : Value → Heap → Prop) (h1 : Heap) : Prop :=
  (0 ≤ (lL1 : Int) ∧ (lL1 : Int) < (fullL1 : Int)) ∧
  onSome fullA1 fun p1 =>
  ∃ (b1 : Bool), cellOf h1 (Addr.add p1 (Int.toNat (lL1 : Int))) = some (.bool b1) ∧
  ∃ (I1 : Bool → Int → Heap → Prop) (M1 : Bool → Int → Heap → Nat), I1 b1 0 h1 ∧
  ∀ (ok1 : Bool) (n1 : Int), ∀ h2 : Heap, I1 ok1 n1 h2 →
  bif (decide (n1 < (lL1 : Int))) then (
  bif ok1 then (
  (0 ≤ n1 ∧ n1 < (fullL1 : Int)) ∧
  onSome fullA1 fun p2 =>
  ∃ (b2 : Bool), cellOf h2 (Addr.add p2 (Int.toNat n1)) = some (.bool b2) ∧
  (0 ≤ n1 ∧ n1 < (lL1 : Int)) ∧
  onSome lA1 fun p3 =>
  ∃ (b3 : Bool), cellOf h2 (Addr.add p3 (Int.toNat n1)) = some (.bool b3) ∧
  I1 (b2 == b3) (IntKind.wrap .i64 (n1 + 1)) h2 ∧ M1 (b2 == b3) (IntKind.wrap .i64 (n1 + 1)) h2 < M1 ok1 n1 h2) else (
  I1 false (IntKind.wrap .i64 (n1 + 1)) h2 ∧ M1 false (IntKind.wrap .i64 (n1 + 1)) h2 < M1 ok1 n1 h2)) else (
  ∃ (I2 : Int → Heap → Prop) (M2 : Int → Heap → Nat), I2 0 h2 ∧
  ∀ (n2 : Int), ∀ h3 : Heap, I2 n2 h3 →
  bif (decide (n2 < (fullL1 : Int))) then (
  (0 ≤ n2 ∧ n2 < (fullL1 : Int)) ∧
  onSome fullA1 fun p4 =>
  ∃ (b4 : Bool), cellOf h3 (Addr.add p4 (Int.toNat n2)) = some (.bool b4) ∧
  (0 ≤ n2 ∧ n2 < (fullL1 : Int)) ∧
  onSome fullA1 fun p5 =>
  Put (Addr.add p5 (Int.toNat n2)) (.bool (!b4)) h3 fun h4 =>
  I2 (IntKind.wrap .i64 (n2 + 1)) h4 ∧ M2 (IntKind.wrap .i64 (n2 + 1)) h4 < M2 n2 h3) else (
  K (.bool ok1) h3))
def bolelaw03_unmarked.lo : Nat → List Nat × List (Nat × Ty) := fun n => match n with | 3 => ([0, 1, 14], [(5, .bool), (15, .int .i64)]) | 8 => ([0, 5, 32], [(33, .int .i64)]) | _ => ([], [])
def bolelaw03_unmarked.od : Nat → List (Nat × List Nat) := fun n => match n with | 5 => [(0, []), (1, []), (2, []), (3, []), (4, []), (5, []), (6, []), (7, []), (8, []), (9, []), (10, []), (11, []), (12, [])] | _ => []
theorem bolelaw03_unmarked.eq (fullA1 : Option Addr) (fullL1 : Nat) (fullC1 : Nat) (lA1 : Option Addr) (lL1 : Nat) (lC1 : Nat) (K : Value → Heap → Prop) (h : Heap) : fnX (cx bolelaw03_unmarked.lo bolelaw03_unmarked.od) Try.f34 (Try.f34.body.getD .skip) [.slice fullA1 fullL1 fullC1, .slice lA1 lL1 lC1] K h = bolelaw03_unmarked fullA1 fullL1 fullC1 lA1 lL1 lC1 K h := by kernel_rfl
theorem bolelaw03_unmarked.chk : fnOk (cx bolelaw03_unmarked.lo bolelaw03_unmarked.od) Try.f34 (Try.f34.body.getD .skip) 2 = true := by kernel_rfl
theorem bolelaw03_unmarked.ok {fullA1 : Option Addr} {fullL1 : Nat} {fullC1 : Nat} {lA1 : Option Addr} {lL1 : Nat} {lC1 : Nat} {K : Value → Heap → Prop} {h : Heap} (hx : bolelaw03_unmarked fullA1 fullL1 fullC1 lA1 lL1 lC1 K h) : C.bolelaw03_unmarked fullA1 fullL1 fullC1 lA1 lL1 lC1 h K :=
  fn_to (cxOk _ _) Try.func34 (by kernel_rfl) bolelaw03_unmarked.chk (by rw [bolelaw03_unmarked.eq]; exact hx)

-- 35
def boleref03_New.k1 (n1 : Int) (h1 : Heap) (K : Value → Heap → Prop) : Prop :=
  (0 ≤ (IntKind.wrap .i64 (n1 * 512)) ∧ (IntKind.wrap .i64 (n1 * 512)) ≤ (IntKind.wrap .i64 (n1 * 512)) ∧ (1 : Int) * (IntKind.wrap .i64 (n1 * 512)) ≤ 281474976710656 ∧ (IntKind.wrap .i64 (n1 * 512)) ≤ 281474976710656) ∧
  New (repCells z5 (Int.toNat (IntKind.wrap .i64 (n1 * 512)))) 5 h1 fun h2 =>
  New [.slice (some ⟨h1.size, 0, none⟩) (Int.toNat (IntKind.wrap .i64 (n1 * 512))) (Int.toNat (IntKind.wrap .i64 (n1 * 512))), .slice none 0 0, .slice none 0 0, .int .i64 0, .bool false, .int .i64 0, .int .i64 0] 105 h2 fun h3 =>
  K (.tuple #[.pointer (some ⟨h2.size, 0, none⟩), .int .i64 0]) h3
def boleref03_New (n1 : Int) (K : Value → Heap → Prop) (h1 : Heap) : Prop :=
  bif (decide (n1 < 1)) then (
  K (.tuple #[.pointer none, .int .i64 32]) h1) else (
  bif (decide (n1 > 16384)) then (
  K (.tuple #[.pointer none, .int .i64 32]) h1) else (
  boleref03_New.k1 n1 h1 K))
def boleref03_New.lo : Nat → List Nat × List (Nat × Ty) := fun n => match n with | _ => ([], [])
def boleref03_New.od : Nat → List (Nat × List Nat) := fun n => match n with | _ => []
theorem boleref03_New.eq (n1 : Int) (K : Value → Heap → Prop) (h : Heap) : fnX (cx boleref03_New.lo boleref03_New.od) Try.f35 (Try.f35.body.getD .skip) [.int .i64 n1] K h = boleref03_New n1 K h := by kernel_rfl
theorem boleref03_New.chk : fnOk (cx boleref03_New.lo boleref03_New.od) Try.f35 (Try.f35.body.getD .skip) 1 = true := by kernel_rfl
theorem boleref03_New.ok {n1 : Int} {K : Value → Heap → Prop} {h : Heap} (hx : boleref03_New n1 K h) : C.boleref03_New n1 h K :=
  fn_to (cxOk _ _) Try.func35 (by kernel_rfl) boleref03_New.chk (by rw [boleref03_New.eq]; exact hx)

-- 36
def boleref03_Disk_Image (d1 : Option Addr) (K : Value → Heap → Prop) (h1 : Heap) : Prop :=
  onSome d1 fun p1 =>
  ∃ (b1 : Bool), cellOf h1 (Addr.add p1 4) = some (.bool b1) ∧
  bif b1 then (
  onSome d1 fun p2 =>
  ∃ (sA1 : Option Addr) (sL1 : Nat) (sC1 : Nat), cellOf h1 (Addr.add p2 0) = some (.slice sA1 sL1 sC1) ∧
  onSome d1 fun p3 =>
  ∃ (sA2 : Option Addr) (sL2 : Nat) (sC2 : Nat), cellOf h1 (Addr.add p3 1) = some (.slice sA2 sL2 sC2) ∧
  onSome d1 fun p4 =>
  ∃ (sA3 : Option Addr) (sL3 : Nat) (sC3 : Nat), cellOf h1 (Addr.add p4 2) = some (.slice sA3 sL3 sC3) ∧
  C.boleref03_left sA1 sL1 sC1 sA2 sL2 sC2 sA3 sL3 sC3 h1 fun r1 h2 =>
  ∃ (sA4 : Option Addr) (sL4 : Nat) (sC4 : Nat), r1 = .slice sA4 sL4 sC4 ∧
  K (.slice sA4 sL4 sC4) h2) else (
  onSome d1 fun p5 =>
  ∃ (sA5 : Option Addr) (sL5 : Nat) (sC5 : Nat), cellOf h1 (Addr.add p5 0) = some (.slice sA5 sL5 sC5) ∧
  onSome d1 fun p6 =>
  ∃ (sA6 : Option Addr) (sL6 : Nat) (sC6 : Nat), cellOf h1 (Addr.add p6 1) = some (.slice sA6 sL6 sC6) ∧
  C.boleref03_left sA5 sL5 sC5 sA6 sL6 sC6 none 0 0 h1 fun r2 h3 =>
  ∃ (sA7 : Option Addr) (sL7 : Nat) (sC7 : Nat), r2 = .slice sA7 sL7 sC7 ∧
  K (.slice sA7 sL7 sC7) h3)
def boleref03_Disk_Image.lo : Nat → List Nat × List (Nat × Ty) := fun n => match n with | _ => ([], [])
def boleref03_Disk_Image.od : Nat → List (Nat × List Nat) := fun n => match n with | 2 => [(0, []), (1, []), (2, []), (3, []), (4, []), (5, []), (6, []), (7, []), (8, []), (9, []), (10, []), (11, []), (12, []), (13, [])] | 3 => [(0, []), (1, []), (2, []), (3, []), (4, []), (5, []), (6, []), (7, []), (8, []), (9, [])] | _ => []
theorem boleref03_Disk_Image.eq (d1 : Option Addr) (K : Value → Heap → Prop) (h : Heap) : fnX (cx boleref03_Disk_Image.lo boleref03_Disk_Image.od) Try.f36 (Try.f36.body.getD .skip) [.pointer d1] K h = boleref03_Disk_Image d1 K h := by kernel_rfl
theorem boleref03_Disk_Image.chk : fnOk (cx boleref03_Disk_Image.lo boleref03_Disk_Image.od) Try.f36 (Try.f36.body.getD .skip) 1 = true := by kernel_rfl
theorem boleref03_Disk_Image.ok {d1 : Option Addr} {K : Value → Heap → Prop} {h : Heap} (hx : boleref03_Disk_Image d1 K h) : C.boleref03_Disk_Image d1 h K :=
  fn_to (cxOk _ _) Try.func36 (by kernel_rfl) boleref03_Disk_Image.chk (by rw [boleref03_Disk_Image.eq]; exact hx)

-- 37
def bolelaw03_Pair_plays (p1 : List Value) (o1 : List Value) (k1 : Option Addr) (K : Value → Heap → Prop) (h1 : Heap) : Prop :=
  New p1 32 h1 fun h2 =>
  New o1 85 h2 fun h3 =>
  ∃ (n1 : Int), cellOf h3 (Addr.add ⟨h2.size, 0, none⟩ 0) = some (.int .i64 n1) ∧
  bif (n1 == 2) then (
  ∃ (sA1 : Option Addr) (sL1 : Nat) (sC1 : Nat), cellOf h3 (Addr.add ⟨h2.size, 0, none⟩ 3) = some (.slice sA1 sL1 sC1) ∧
  C.bolelaw03_lent sA1 sL1 sC1 h3 fun r1 h4 =>
  ∃ (sA2 : Option Addr) (sL2 : Nat) (sC2 : Nat) (sA3 : Option Addr) (sL3 : Nat) (sC3 : Nat), r1 = .tuple #[.slice sA2 sL2 sC2, .slice sA3 sL3 sC3] ∧
  ∃ (q1 : Option Addr), cellOf h4 (Addr.add ⟨h1.size, 0, none⟩ 0) = some (.pointer q1) ∧
  ∃ (n2 : Int), cellOf h4 (Addr.add ⟨h2.size, 0, none⟩ 2) = some (.int .i64 n2) ∧
  ∃ (q2 : Option Addr), cellOf h4 (Addr.add ⟨h1.size, 0, none⟩ 1) = some (.pointer q2) ∧
  ∃ (n3 : Int), cellOf h4 (Addr.add ⟨h2.size, 0, none⟩ 2) = some (.int .i64 n3) ∧
  ∃ (sA4 : Option Addr) (sL4 : Nat) (sC4 : Nat), cellOf h4 (Addr.add ⟨h2.size, 0, none⟩ 3) = some (.slice sA4 sL4 sC4) ∧
  C.adisk_Disk_Write q1 n2 sA2 sL2 sC2 h4 fun r2 h5 =>
  ∃ (n4 : Int), r2 = .int .i64 n4 ∧
  (cellOf h5 (Addr.add ⟨h1.size, 0, none⟩ 1) = some (.pointer q2)) ∧
  (cellOf h5 (Addr.add ⟨h2.size, 0, none⟩ 2) = some (.int .i64 n3)) ∧
  (cellOf h5 (Addr.add ⟨h2.size, 0, none⟩ 3) = some (.slice sA4 sL4 sC4)) ∧
  C.boleref03_Disk_Write q2 n3 sA4 sL4 sC4 h5 fun r3 h6 =>
  ∃ (n5 : Int), r3 = .int .i64 n5 ∧
  ∃ (sA5 : Option Addr) (sL5 : Nat) (sC5 : Nat), cellOf h6 (Addr.add ⟨h2.size, 0, none⟩ 3) = some (.slice sA5 sL5 sC5) ∧
  C.bolelaw03_kept sA3 sL3 sC3 sA5 sL5 sC5 h6 fun r4 h7 =>
  ∃ (b1 : Bool), r4 = .bool b1 ∧
  bif b1 then (
  K (.bool (n4 == n5)) h7) else (
  K (.bool false) h7)) else (
  bif (n1 == 3) then (
  ∃ (q3 : Option Addr), cellOf h3 (Addr.add ⟨h1.size, 0, none⟩ 0) = some (.pointer q3) ∧
  ∃ (q4 : Option Addr), cellOf h3 (Addr.add ⟨h1.size, 0, none⟩ 1) = some (.pointer q4) ∧
  C.adisk_Disk_Flush q3 h3 fun r5 h8 =>
  ∃ (n6 : Int), r5 = .int .i64 n6 ∧
  (cellOf h8 (Addr.add ⟨h1.size, 0, none⟩ 1) = some (.pointer q4)) ∧
  C.boleref03_Disk_Flush q4 h8 fun r6 h9 =>
  ∃ (n7 : Int), r6 = .int .i64 n7 ∧
  K (.bool (n6 == n7)) h9) else (
  bif (n1 == 4) then (
  ∃ (sA6 : Option Addr) (sL6 : Nat) (sC6 : Nat), cellOf h3 (Addr.add ⟨h2.size, 0, none⟩ 4) = some (.slice sA6 sL6 sC6) ∧
  C.bolelaw03_marks sA6 sL6 sC6 h3 fun r7 h10 =>
  ∃ (sA7 : Option Addr) (sL7 : Nat) (sC7 : Nat) (sA8 : Option Addr) (sL8 : Nat) (sC8 : Nat), r7 = .tuple #[.slice sA7 sL7 sC7, .slice sA8 sL8 sC8] ∧
  ∃ (q5 : Option Addr), cellOf h10 (Addr.add ⟨h1.size, 0, none⟩ 0) = some (.pointer q5) ∧
  ∃ (n8 : Int), cellOf h10 (Addr.add ⟨h2.size, 0, none⟩ 2) = some (.int .i64 n8) ∧
  ∃ (q6 : Option Addr), cellOf h10 (Addr.add ⟨h1.size, 0, none⟩ 1) = some (.pointer q6) ∧
  ∃ (n9 : Int), cellOf h10 (Addr.add ⟨h2.size, 0, none⟩ 2) = some (.int .i64 n9) ∧
  ∃ (sA9 : Option Addr) (sL9 : Nat) (sC9 : Nat), cellOf h10 (Addr.add ⟨h2.size, 0, none⟩ 4) = some (.slice sA9 sL9 sC9) ∧
  C.adisk_Disk_Arm q5 [.int .i64 n8, .slice sA7 sL7 sC7] h10 fun r8 h11 =>
  ∃ (n10 : Int), r8 = .int .i64 n10 ∧
  (cellOf h11 (Addr.add ⟨h1.size, 0, none⟩ 1) = some (.pointer q6)) ∧
  (cellOf h11 (Addr.add ⟨h2.size, 0, none⟩ 2) = some (.int .i64 n9)) ∧
  (cellOf h11 (Addr.add ⟨h2.size, 0, none⟩ 4) = some (.slice sA9 sL9 sC9)) ∧
  C.boleref03_Disk_Arm q6 [.int .i64 n9, .slice sA9 sL9 sC9] h11 fun r9 h12 =>
  ∃ (n11 : Int), r9 = .int .i64 n11 ∧
  ∃ (sA10 : Option Addr) (sL10 : Nat) (sC10 : Nat), cellOf h12 (Addr.add ⟨h2.size, 0, none⟩ 4) = some (.slice sA10 sL10 sC10) ∧
  C.bolelaw03_unmarked sA8 sL8 sC8 sA10 sL10 sC10 h12 fun r10 h13 =>
  ∃ (b2 : Bool), r10 = .bool b2 ∧
  bif b2 then (
  K (.bool (n10 == n11)) h13) else (
  K (.bool false) h13)) else (
  bif (n1 == 5) then (
  ∃ (sA11 : Option Addr) (sL11 : Nat) (sC11 : Nat), cellOf h3 (Addr.add ⟨h2.size, 0, none⟩ 4) = some (.slice sA11 sL11 sC11) ∧
  C.bolelaw03_marks sA11 sL11 sC11 h3 fun r11 h14 =>
  ∃ (sA12 : Option Addr) (sL12 : Nat) (sC12 : Nat) (sA13 : Option Addr) (sL13 : Nat) (sC13 : Nat), r11 = .tuple #[.slice sA12 sL12 sC12, .slice sA13 sL13 sC13] ∧
  ∃ (q7 : Option Addr), cellOf h14 (Addr.add ⟨h1.size, 0, none⟩ 0) = some (.pointer q7) ∧
  C.adisk_Disk_Crash q7 sA12 sL12 sC12 h14 fun r12 h15 =>
  r12 = .tuple #[] ∧
  ∃ (q8 : Option Addr), cellOf h15 (Addr.add ⟨h1.size, 0, none⟩ 1) = some (.pointer q8) ∧
  ∃ (sA14 : Option Addr) (sL14 : Nat) (sC14 : Nat), cellOf h15 (Addr.add ⟨h2.size, 0, none⟩ 4) = some (.slice sA14 sL14 sC14) ∧
  C.boleref03_Disk_Crash q8 sA14 sL14 sC14 h15 fun r13 h16 =>
  r13 = .tuple #[] ∧
  ∃ (sA15 : Option Addr) (sL15 : Nat) (sC15 : Nat), cellOf h16 (Addr.add ⟨h2.size, 0, none⟩ 4) = some (.slice sA15 sL15 sC15) ∧
  C.bolelaw03_unmarked sA13 sL13 sC13 sA15 sL15 sC15 h16 fun r14 h17 =>
  ∃ (b3 : Bool), r14 = .bool b3 ∧
  K (.bool b3) h17) else (
  bif (n1 == 7) then (
  ∃ cs1 : List Value, List.length cs1 = 2 ∧ Cells h3 ⟨h1.size, 0, none⟩ cs1 ∧
  C.bolelaw03_Pair_asks cs1 h3 fun r15 h18 =>
  ∃ (b4 : Bool), r15 = .bool b4 ∧
  K (.bool b4) h18) else (
  ∃ cs2 : List Value, List.length cs2 = 2 ∧ Cells h3 ⟨h1.size, 0, none⟩ cs2 ∧
  ∃ cs3 : List Value, List.length cs3 = 5 ∧ Cells h3 ⟨h2.size, 0, none⟩ cs3 ∧
  C.bolelaw03_Pair_looks cs2 cs3 k1 h3 fun r16 h19 =>
  ∃ (b5 : Bool), r16 = .bool b5 ∧
  K (.bool b5) h19)))))
def bolelaw03_Pair_plays.lo : Nat → List Nat × List (Nat × Ty) := fun n => match n with | _ => ([], [])
def bolelaw03_Pair_plays.od : Nat → List (Nat × List Nat) := fun n => match n with | 4 => [(0, []), (1, []), (2, []), (3, []), (4, []), (6, []), (7, []), (8, []), (9, []), (10, []), (11, []), (5, [7, 9, 11]), (12, []), (13, []), (14, [])] | 7 => [(0, []), (1, []), (3, []), (4, []), (2, [4]), (5, []), (6, []), (7, [])] | 10 => [(0, []), (1, []), (2, []), (3, []), (4, []), (5, []), (7, []), (8, []), (9, []), (10, []), (11, []), (12, []), (13, []), (6, [8, 10, 12]), (14, []), (15, []), (16, [])] | _ => []
theorem bolelaw03_Pair_plays.eq (p1 : List Value) (o1 : List Value) (k1 : Option Addr) (K : Value → Heap → Prop) (h : Heap) : fnX (cx bolelaw03_Pair_plays.lo bolelaw03_Pair_plays.od) Try.f37 (Try.f37.body.getD .skip) [.agg ⟨p1⟩, .agg ⟨o1⟩, .pointer k1] K h = bolelaw03_Pair_plays p1 o1 k1 K h := by kernel_rfl
theorem bolelaw03_Pair_plays.chk : fnOk (cx bolelaw03_Pair_plays.lo bolelaw03_Pair_plays.od) Try.f37 (Try.f37.body.getD .skip) 3 = true := by kernel_rfl
theorem bolelaw03_Pair_plays.ok {p1 : List Value} {o1 : List Value} {k1 : Option Addr} {K : Value → Heap → Prop} {h : Heap} (hx : bolelaw03_Pair_plays p1 o1 k1 K h) : C.bolelaw03_Pair_plays p1 o1 k1 h K :=
  fn_to (cxOk _ _) Try.func37 (by kernel_rfl) bolelaw03_Pair_plays.chk (by rw [bolelaw03_Pair_plays.eq]; exact hx)
end Go.Proofs.Ytnbfaokpaiiojaa.W
