/-
  WHAT THE FUNCTIONS COMPUTE, as formulas; each held against the loaded code by the kernel. Written by program (gen.py).
-/
import Derived.Test.YtpleolmalbdpnaaDoorTab
namespace Go.Proofs.YtpleolmalbdpnaaDoor.W
open Go Go.Proofs Go.Proofs.YtpleolmalbdpnaaDoor.Wx
-- 29
def txn_Begin (d1 : Option Addr) (K : Value → Heap → Prop) (h1 : Heap) : Prop :=
  NewM h1 fun h2 =>
  New [.pointer d1, .map (some h1.size), .slice none 0 0, .bool false] 111 h2 fun h3 =>
  K (.pointer (some ⟨h2.size, 0, none⟩)) h3
def txn_Begin.lo : Nat → List Nat × List (Nat × Ty) := fun n => match n with | _ => ([], [])
def txn_Begin.od : Nat → Od := fun n => match n with | _ => .nil
theorem txn_Begin.eq (d1 : Option Addr) (K : Value → Heap → Prop) (h : Heap) : fnX (cx txn_Begin.lo txn_Begin.od) Tryd.f29 (Tryd.f29.body.getD .skip) [.pointer d1] K h = txn_Begin d1 K h := by kernel_rfl
theorem txn_Begin.chk : fnOk (cx txn_Begin.lo txn_Begin.od) Tryd.f29 (Tryd.f29.body.getD .skip) 1 = true := by kernel_rfl
theorem txn_Begin.ok {d1 : Option Addr} {K : Value → Heap → Prop} {h : Heap} (hx : txn_Begin d1 K h) : C.txn_Begin d1 h K :=
  fn_to (cxOk _ _) Tryd.func29 (by kernel_rfl) txn_Begin.chk (by rw [txn_Begin.eq]; exact hx)

-- 30
def txn_Txn_Over (t1 : Option Addr) (K : Value → Heap → Prop) (h1 : Heap) : Prop :=
  onSome t1 fun p1 =>
  ∃ (b1 : Bool), cellOf h1 (Addr.add p1 3) = some (.bool b1) ∧
  K (.bool b1) h1
def txn_Txn_Over.lo : Nat → List Nat × List (Nat × Ty) := fun n => match n with | _ => ([], [])
def txn_Txn_Over.od : Nat → Od := fun n => match n with | _ => .nil
theorem txn_Txn_Over.eq (t1 : Option Addr) (K : Value → Heap → Prop) (h : Heap) : fnX (cx txn_Txn_Over.lo txn_Txn_Over.od) Tryd.f30 (Tryd.f30.body.getD .skip) [.pointer t1] K h = txn_Txn_Over t1 K h := by kernel_rfl
theorem txn_Txn_Over.chk : fnOk (cx txn_Txn_Over.lo txn_Txn_Over.od) Tryd.f30 (Tryd.f30.body.getD .skip) 1 = true := by kernel_rfl
theorem txn_Txn_Over.ok {t1 : Option Addr} {K : Value → Heap → Prop} {h : Heap} (hx : txn_Txn_Over t1 K h) : C.txn_Txn_Over t1 h K :=
  fn_to (cxOk _ _) Tryd.func30 (by kernel_rfl) txn_Txn_Over.chk (by rw [txn_Txn_Over.eq]; exact hx)

-- 31
def bolelaw06_fill (t1 : Option Addr) (putsA1 : Option Addr) (putsL1 : Nat) (putsC1 : Nat) (K : Value → Heap → Prop) (h1 : Heap) : Prop :=
  New z67 67 h1 fun h2 =>
  New z68 68 h2 fun h3 =>
  New z67 67 h3 fun h4 =>
  New z68 68 h4 fun h5 =>
  ∃ (I1 : Int → Heap → Prop) (M1 : Int → Heap → Nat), I1 98 h5 ∧
  ∀ (i1 : Int), ∀ h6 : Heap, I1 i1 h6 →
  bif (decide (i1 < 118)) then (
  (0 ≤ i1 ∧ i1 < (118 : Int)) ∧
  Put (Addr.add ⟨h3.size, 0, none⟩ (Int.toNat i1)) (.int .u8 (IntKind.wrap .u8 (i1))) h6 fun h7 =>
  I1 (IntKind.wrap .i64 (i1 + 1)) h7 ∧ M1 (IntKind.wrap .i64 (i1 + 1)) h7 < M1 i1 h6) else (
  ∃ (I2 : Int → Heap → Prop) (M2 : Int → Heap → Nat), I2 0 h6 ∧
  ∀ (n1 : Int), ∀ h8 : Heap, I2 n1 h8 →
  bif (decide (n1 < (putsL1 : Int))) then (
  (0 ≤ n1 ∧ n1 < (putsL1 : Int)) ∧
  onSome putsA1 fun p1 =>
  ∃ cs1 : List Value, List.length cs1 = 2 ∧ Cells h8 (Addr.add p1 ((Int.toNat n1) * 2)) cs1 ∧
  NewRow z113 113 cs1 2 h8 fun h10 =>
  bif (decide (n1 ≥ 60)) then (
  ∃ cs2 : List Value, List.length cs2 = 118 ∧ Cells h10 ⟨h3.size, 0, none⟩ cs2 ∧
  ∃ cs3 : List Value, List.length cs3 = 118 ∧ Cells h10 ⟨h4.size, 0, none⟩ cs3 ∧
  PutRow ⟨h1.size, 0, none⟩ cs2 118 h10 fun h11 =>
  (List.length (cs3 : List Value) = 118 ∧ Cells h11 ⟨h4.size, 0, none⟩ cs3) ∧
  PutRow ⟨h2.size, 0, none⟩ cs3 118 h11 fun h12 =>
  ∃ res1 : List Value, List.length res1 = 118 ∧ Cells h12 ⟨h1.size, 0, none⟩ res1 ∧
  ∃ res2 : List Value, List.length res2 = 118 ∧ Cells h12 ⟨h2.size, 0, none⟩ res2 ∧
  K (.tuple #[.agg ⟨res1⟩, .agg ⟨res2⟩, .bool true]) h12) else (
  ∃ cs4 : List Value, List.length cs4 = 2 ∧ Cells h10 ⟨h8.size, 0, none⟩ cs4 ∧
  ∃ (n2 : Int), cellOf h10 (Addr.add ⟨h8.size, 0, none⟩ 1) = some (.int .u8 n2) ∧
  C.bolelaw06_Put_place cs4 h10 fun r1 h13 =>
  ∃ (n3 : Int), r1 = .int .i64 n3 ∧
  (cellOf h13 (Addr.add ⟨h8.size, 0, none⟩ 1) = some (.int .u8 n2)) ∧
  C.bolelaw06_block n2 h13 fun r2 h14 =>
  ∃ (sA1 : Option Addr) (sL1 : Nat) (sC1 : Nat), r2 = .slice sA1 sL1 sC1 ∧
  C.txn_Txn_Write t1 n3 sA1 sL1 sC1 h14 fun r3 h15 =>
  ∃ (n4 : Int), r3 = .int .i64 n4 ∧
  bif (n4 != 0) then (
  ∃ cs5 : List Value, List.length cs5 = 118 ∧ Cells h15 ⟨h3.size, 0, none⟩ cs5 ∧
  ∃ cs6 : List Value, List.length cs6 = 118 ∧ Cells h15 ⟨h4.size, 0, none⟩ cs6 ∧
  PutRow ⟨h1.size, 0, none⟩ cs5 118 h15 fun h16 =>
  (List.length (cs6 : List Value) = 118 ∧ Cells h16 ⟨h4.size, 0, none⟩ cs6) ∧
  PutRow ⟨h2.size, 0, none⟩ cs6 118 h16 fun h17 =>
  ∃ res3 : List Value, List.length res3 = 118 ∧ Cells h17 ⟨h1.size, 0, none⟩ res3 ∧
  ∃ res4 : List Value, List.length res4 = 118 ∧ Cells h17 ⟨h2.size, 0, none⟩ res4 ∧
  K (.tuple #[.agg ⟨res3⟩, .agg ⟨res4⟩, .bool false]) h17) else (
  ∃ cs7 : List Value, List.length cs7 = 2 ∧ Cells h15 ⟨h8.size, 0, none⟩ cs7 ∧
  ∃ (n5 : Int), cellOf h15 (Addr.add ⟨h8.size, 0, none⟩ 1) = some (.int .u8 n5) ∧
  C.bolelaw06_Put_place cs7 h15 fun r4 h18 =>
  ∃ (n6 : Int), r4 = .int .i64 n6 ∧
  (cellOf h18 (Addr.add ⟨h8.size, 0, none⟩ 1) = some (.int .u8 n5)) ∧
  (0 ≤ n6 ∧ n6 < (118 : Int)) ∧
  Put (Addr.add ⟨h3.size, 0, none⟩ (Int.toNat n6)) (.int .u8 n5) h18 fun h19 =>
  ∃ cs8 : List Value, List.length cs8 = 2 ∧ Cells h19 ⟨h8.size, 0, none⟩ cs8 ∧
  C.bolelaw06_Put_place cs8 h19 fun r5 h20 =>
  ∃ (n7 : Int), r5 = .int .i64 n7 ∧
  (0 ≤ n7 ∧ n7 < (118 : Int)) ∧
  Put (Addr.add ⟨h4.size, 0, none⟩ (Int.toNat n7)) (.bool true) h20 fun h21 =>
  I2 (IntKind.wrap .i64 (n1 + 1)) h21 ∧ M2 (IntKind.wrap .i64 (n1 + 1)) h21 < M2 n1 h8))) else (
  ∃ cs9 : List Value, List.length cs9 = 118 ∧ Cells h8 ⟨h3.size, 0, none⟩ cs9 ∧
  ∃ cs10 : List Value, List.length cs10 = 118 ∧ Cells h8 ⟨h4.size, 0, none⟩ cs10 ∧
  PutRow ⟨h1.size, 0, none⟩ cs9 118 h8 fun h22 =>
  (List.length (cs10 : List Value) = 118 ∧ Cells h22 ⟨h4.size, 0, none⟩ cs10) ∧
  PutRow ⟨h2.size, 0, none⟩ cs10 118 h22 fun h23 =>
  ∃ res5 : List Value, List.length res5 = 118 ∧ Cells h23 ⟨h1.size, 0, none⟩ res5 ∧
  ∃ res6 : List Value, List.length res6 = 118 ∧ Cells h23 ⟨h2.size, 0, none⟩ res6 ∧
  K (.tuple #[.agg ⟨res5⟩, .agg ⟨res6⟩, .bool true]) h23))
def bolelaw06_fill.lo : Nat → List Nat × List (Nat × Ty) := fun n => match n with | 4 => ([0, 1, 4, 5, 7, 8], [(9, .int .i64)]) | 8 => ([0, 4, 5, 7, 8, 20, 21], [(22, .int .i64)]) | _ => ([], [])
def bolelaw06_fill.od : Nat → Od := fun n => match n with | 11 => (.op 0 [] (.op 1 [] (.op 3 [] (.op 4 [] (.op 2 [4] (.op 5 [] (.op 6 [] (.op 7 [] .nil)))))))) | 12 => (.op 0 [] (.op 1 [] (.op 2 [1] (.op 3 [] (.op 4 [] .nil))))) | 13 => (.op 0 [] (.op 2 [] (.op 3 [] (.op 1 [3] (.op 4 [] (.op 5 [] .nil)))))) | 16 => (.op 0 [] (.op 1 [] (.op 2 [1] (.op 3 [] (.op 4 [] .nil))))) | _ => .nil
theorem bolelaw06_fill.eq (t1 : Option Addr) (putsA1 : Option Addr) (putsL1 : Nat) (putsC1 : Nat) (K : Value → Heap → Prop) (h : Heap) : fnX (cx bolelaw06_fill.lo bolelaw06_fill.od) Tryd.f31 (Tryd.f31.body.getD .skip) [.pointer t1, .slice putsA1 putsL1 putsC1] K h = bolelaw06_fill t1 putsA1 putsL1 putsC1 K h := by kernel_rfl
theorem bolelaw06_fill.chk : fnOk (cx bolelaw06_fill.lo bolelaw06_fill.od) Tryd.f31 (Tryd.f31.body.getD .skip) 2 = true := by kernel_rfl
theorem bolelaw06_fill.ok {t1 : Option Addr} {putsA1 : Option Addr} {putsL1 : Nat} {putsC1 : Nat} {K : Value → Heap → Prop} {h : Heap} (hx : bolelaw06_fill t1 putsA1 putsL1 putsC1 K h) : C.bolelaw06_fill t1 putsA1 putsL1 putsC1 h K :=
  fn_to (cxOk _ _) Tryd.func31 (by kernel_rfl) bolelaw06_fill.chk (by rw [bolelaw06_fill.eq]; exact hx)

-- 32
def txn_Txn_Read.k1 (t1 : Option Addr) (i1 : Int) (h3 : Heap) (K : Value → Heap → Prop) : Prop :=
  onSome t1 fun p3 =>
  ∃ (m1 : Option Nat), cellOf h3 (Addr.add p3 1) = some (.map m1) ∧
  MapIn (.int .i64) m1 h3 fun mm1 =>
  ∃ (sA1 : Option Addr) (sL1 : Nat) (sC1 : Nat), Option.getD (mget mm1 (.i i1)) (zeroV ti28) = .slice sA1 sL1 sC1 ∧
  bif (Option.isSome (mget mm1 (.i i1))) then (
  C.slices_Clone_byte_byte sA1 sL1 sC1 h3 fun r2 h4 =>
  ∃ (sA2 : Option Addr) (sL2 : Nat) (sC2 : Nat), r2 = .slice sA2 sL2 sC2 ∧
  K (.tuple #[.slice sA2 sL2 sC2, .int .i64 0]) h4) else (
  onSome t1 fun p4 =>
  ∃ (q2 : Option Addr), cellOf h3 (Addr.add p4 0) = some (.pointer q2) ∧
  C.adisk_Disk_Read q2 i1 h3 fun r3 h5 =>
  ∃ (sA3 : Option Addr) (sL3 : Nat) (sC3 : Nat) (n2 : Int), r3 = .tuple #[.slice sA3 sL3 sC3, .int .i64 n2] ∧
  K (.tuple #[.slice sA3 sL3 sC3, .int .i64 n2]) h5)
def txn_Txn_Read (t1 : Option Addr) (i1 : Int) (K : Value → Heap → Prop) (h1 : Heap) : Prop :=
  onSome t1 fun p1 =>
  ∃ (b1 : Bool), cellOf h1 (Addr.add p1 3) = some (.bool b1) ∧
  bif b1 then (
  K (.tuple #[.slice none 0 0, .int .i64 61]) h1) else (
  bif (decide (i1 < 0)) then (
  K (.tuple #[.slice none 0 0, .int .i64 31]) h1) else (
  onSome t1 fun p2 =>
  ∃ (q1 : Option Addr), cellOf h1 (Addr.add p2 0) = some (.pointer q1) ∧
  C.adisk_Disk_Blocks q1 h1 fun r1 h2 =>
  ∃ (n1 : Int), r1 = .int .i64 n1 ∧
  bif (decide (i1 ≥ n1)) then (
  K (.tuple #[.slice none 0 0, .int .i64 31]) h2) else (
  txn_Txn_Read.k1 t1 i1 h2 K)))
def txn_Txn_Read.lo : Nat → List Nat × List (Nat × Ty) := fun n => match n with | _ => ([], [])
def txn_Txn_Read.od : Nat → Od := fun n => match n with | _ => .nil
theorem txn_Txn_Read.eq (t1 : Option Addr) (i1 : Int) (K : Value → Heap → Prop) (h : Heap) : fnX (cx txn_Txn_Read.lo txn_Txn_Read.od) Tryd.f32 (Tryd.f32.body.getD .skip) [.pointer t1, .int .i64 i1] K h = txn_Txn_Read t1 i1 K h := by kernel_rfl
theorem txn_Txn_Read.chk : fnOk (cx txn_Txn_Read.lo txn_Txn_Read.od) Tryd.f32 (Tryd.f32.body.getD .skip) 2 = true := by kernel_rfl
theorem txn_Txn_Read.ok {t1 : Option Addr} {i1 : Int} {K : Value → Heap → Prop} {h : Heap} (hx : txn_Txn_Read t1 i1 K h) : C.txn_Txn_Read t1 i1 h K :=
  fn_to (cxOk _ _) Tryd.func32 (by kernel_rfl) txn_Txn_Read.chk (by rw [txn_Txn_Read.eq]; exact hx)

-- 33
def adisk_Disk_Read (d1 : Option Addr) (i1 : Int) (K : Value → Heap → Prop) (h1 : Heap) : Prop :=
  onSome d1 fun p1 =>
  ∃ (b1 : Bool), cellOf h1 (Addr.add p1 4) = some (.bool b1) ∧
  bif b1 then (
  K (.tuple #[.slice none 0 0, .int .i64 30]) h1) else (
  C.adisk_Disk_has d1 i1 h1 fun r1 h2 =>
  ∃ (b2 : Bool), r1 = .bool b2 ∧
  bif (!b2) then (
  K (.tuple #[.slice none 0 0, .int .i64 31]) h2) else (
  onSome d1 fun p2 =>
  ∃ (sA1 : Option Addr) (sL1 : Nat) (sC1 : Nat), cellOf h2 (Addr.add p2 0) = some (.slice sA1 sL1 sC1) ∧
  (0 ≤ i1 ∧ i1 < (sL1 : Int)) ∧
  onSome sA1 fun p3 =>
  ∃ cs1 : List Value, List.length cs1 = 512 ∧ Cells h2 (Addr.add p3 ((Int.toNat i1) * 512)) cs1 ∧
  NewRow z104 104 cs1 512 h2 fun h4 =>
  onSome d1 fun p4 =>
  ∃ (sA2 : Option Addr) (sL2 : Nat) (sC2 : Nat), cellOf h4 (Addr.add p4 1) = some (.slice sA2 sL2 sC2) ∧
  ∃ (I1 : Int → Heap → Prop) (M1 : Int → Heap → Nat), I1 0 h4 ∧
  ∀ (n1 : Int), ∀ h5 : Heap, I1 n1 h5 →
  bif (decide (n1 < (sL2 : Int))) then (
  (0 ≤ n1 ∧ n1 < (sL2 : Int)) ∧
  onSome sA2 fun p5 =>
  ∃ cs2 : List Value, List.length cs2 = 513 ∧ Cells h5 (Addr.add p5 ((Int.toNat n1) * 513)) cs2 ∧
  NewRow z106 106 cs2 513 h5 fun h7 =>
  ∃ (n2 : Int), cellOf h7 (Addr.add ⟨h5.size, 0, none⟩ 0) = some (.int .i64 n2) ∧
  bif (n2 == i1) then (
  ∃ cs3 : List Value, List.length cs3 = 512 ∧ Cells h7 (Addr.add ⟨h5.size, 0, none⟩ 1) cs3 ∧
  PutRow ⟨h2.size, 0, none⟩ cs3 512 h7 fun h8 =>
  I1 (IntKind.wrap .i64 (n1 + 1)) h8 ∧ M1 (IntKind.wrap .i64 (n1 + 1)) h8 < M1 n1 h5) else (
  I1 (IntKind.wrap .i64 (n1 + 1)) h7 ∧ M1 (IntKind.wrap .i64 (n1 + 1)) h7 < M1 n1 h5)) else (
  K (.tuple #[.slice (some ⟨h2.size, 0, none⟩) 512 512, .int .i64 0]) h5)))
def adisk_Disk_Read.lo : Nat → List Nat × List (Nat × Ty) := fun n => match n with | 7 => ([1, 6, 29, 30], [(31, .int .i64)]) | _ => ([], [])
def adisk_Disk_Read.od : Nat → Od := fun n => match n with | _ => .nil
theorem adisk_Disk_Read.eq (d1 : Option Addr) (i1 : Int) (K : Value → Heap → Prop) (h : Heap) : fnX (cx adisk_Disk_Read.lo adisk_Disk_Read.od) Tryd.f33 (Tryd.f33.body.getD .skip) [.pointer d1, .int .i64 i1] K h = adisk_Disk_Read d1 i1 K h := by kernel_rfl
theorem adisk_Disk_Read.chk : fnOk (cx adisk_Disk_Read.lo adisk_Disk_Read.od) Tryd.f33 (Tryd.f33.body.getD .skip) 2 = true := by kernel_rfl
theorem adisk_Disk_Read.ok {d1 : Option Addr} {i1 : Int} {K : Value → Heap → Prop} {h : Heap} (hx : adisk_Disk_Read d1 i1 K h) : C.adisk_Disk_Read d1 i1 h K :=
  fn_to (cxOk _ _) Tryd.func33 (by kernel_rfl) adisk_Disk_Read.chk (by rw [adisk_Disk_Read.eq]; exact hx)

-- 34
def bolelaw06_block (x1 : Int) (K : Value → Heap → Prop) (h1 : Heap) : Prop :=
  (0 ≤ (512 : Int) ∧ (512 : Int) ≤ 512 ∧ (1 : Int) * 512 ≤ 281474976710656 ∧ (512 : Int) ≤ 281474976710656) ∧
  New (repCells z5 (Int.toNat 512)) 5 h1 fun h2 =>
  ∃ (I1 : Int → Heap → Prop) (M1 : Int → Heap → Nat), I1 0 h2 ∧
  ∀ (n1 : Int), ∀ h3 : Heap, I1 n1 h3 →
  bif (decide (n1 < ((Int.toNat 512) : Int))) then (
  (0 ≤ n1 ∧ n1 < ((Int.toNat 512) : Int)) ∧
  Put (Addr.add ⟨h1.size, 0, none⟩ (Int.toNat n1)) (.int .u8 x1) h3 fun h4 =>
  I1 (IntKind.wrap .i64 (n1 + 1)) h4 ∧ M1 (IntKind.wrap .i64 (n1 + 1)) h4 < M1 n1 h3) else (
  K (.slice (some ⟨h1.size, 0, none⟩) (Int.toNat 512) (Int.toNat 512)) h3)
def bolelaw06_block.lo : Nat → List Nat × List (Nat × Ty) := fun n => match n with | 3 => ([0, 3, 7], [(8, .int .i64)]) | _ => ([], [])
def bolelaw06_block.od : Nat → Od := fun n => match n with | _ => .nil
theorem bolelaw06_block.eq (x1 : Int) (K : Value → Heap → Prop) (h : Heap) : fnX (cx bolelaw06_block.lo bolelaw06_block.od) Tryd.f34 (Tryd.f34.body.getD .skip) [.int .u8 x1] K h = bolelaw06_block x1 K h := by kernel_rfl
theorem bolelaw06_block.chk : fnOk (cx bolelaw06_block.lo bolelaw06_block.od) Tryd.f34 (Tryd.f34.body.getD .skip) 1 = true := by kernel_rfl
theorem bolelaw06_block.ok {x1 : Int} {K : Value → Heap → Prop} {h : Heap} (hx : bolelaw06_block x1 K h) : C.bolelaw06_block x1 h K :=
  fn_to (cxOk _ _) Tryd.func34 (by kernel_rfl) bolelaw06_block.chk (by rw [bolelaw06_block.eq]; exact hx)

-- 35
def bolelaw06_sameInts (aA1 : Option Addr) (aL1 : Nat) (aC1 : Nat) (bA1 : Option Addr) (bL1 : Nat) (bC1 : Nat) (K : Value → Heap → Prop) (h1 : Heap) : Prop :=
  bif ((aL1 : Int) != (bL1 : Int)) then (
  K (.bool false) h1) else (
  ∃ (I1 : Int → Heap → Prop) (M1 : Int → Heap → Nat), I1 0 h1 ∧
  ∀ (n1 : Int), ∀ h2 : Heap, I1 n1 h2 →
  bif (decide (n1 < (aL1 : Int))) then (
  (0 ≤ n1 ∧ n1 < (aL1 : Int)) ∧
  onSome aA1 fun p1 =>
  ∃ (n2 : Int), cellOf h2 (Addr.add p1 (Int.toNat n1)) = some (.int .i64 n2) ∧
  (0 ≤ n1 ∧ n1 < (bL1 : Int)) ∧
  onSome bA1 fun p2 =>
  ∃ (n3 : Int), cellOf h2 (Addr.add p2 (Int.toNat n1)) = some (.int .i64 n3) ∧
  bif (n2 != n3) then (
  K (.bool false) h2) else (
  I1 (IntKind.wrap .i64 (n1 + 1)) h2 ∧ M1 (IntKind.wrap .i64 (n1 + 1)) h2 < M1 n1 h2)) else (
  K (.bool true) h2))
def bolelaw06_sameInts.lo : Nat → List Nat × List (Nat × Ty) := fun n => match n with | 4 => ([0, 1, 12], [(13, .int .i64)]) | _ => ([], [])
def bolelaw06_sameInts.od : Nat → Od := fun n => match n with | 6 => (.op 0 [] (.op 1 [] (.op 2 [] (.op 3 [] (.op 4 [] (.op 5 [] (.op 6 [] (.op 7 [] (.op 8 [] .nil))))))))) | _ => .nil
theorem bolelaw06_sameInts.eq (aA1 : Option Addr) (aL1 : Nat) (aC1 : Nat) (bA1 : Option Addr) (bL1 : Nat) (bC1 : Nat) (K : Value → Heap → Prop) (h : Heap) : fnX (cx bolelaw06_sameInts.lo bolelaw06_sameInts.od) Tryd.f35 (Tryd.f35.body.getD .skip) [.slice aA1 aL1 aC1, .slice bA1 bL1 bC1] K h = bolelaw06_sameInts aA1 aL1 aC1 bA1 bL1 bC1 K h := by kernel_rfl
theorem bolelaw06_sameInts.chk : fnOk (cx bolelaw06_sameInts.lo bolelaw06_sameInts.od) Tryd.f35 (Tryd.f35.body.getD .skip) 2 = true := by kernel_rfl
theorem bolelaw06_sameInts.ok {aA1 : Option Addr} {aL1 : Nat} {aC1 : Nat} {bA1 : Option Addr} {bL1 : Nat} {bC1 : Nat} {K : Value → Heap → Prop} {h : Heap} (hx : bolelaw06_sameInts aA1 aL1 aC1 bA1 bL1 bC1 K h) : C.bolelaw06_sameInts aA1 aL1 aC1 bA1 bL1 bC1 h K :=
  fn_to (cxOk _ _) Tryd.func35 (by kernel_rfl) bolelaw06_sameInts.chk (by rw [bolelaw06_sameInts.eq]; exact hx)

-- 36
def txn_Txn_Written (t1 : Option Addr) (K : Value → Heap → Prop) (h1 : Heap) : Prop :=
  onSome t1 fun p1 =>
  ∃ (b1 : Bool), cellOf h1 (Addr.add p1 3) = some (.bool b1) ∧
  bif b1 then (
  K (.slice none 0 0) h1) else (
  onSome t1 fun p2 =>
  ∃ (m1 : Option Nat), cellOf h1 (Addr.add p2 1) = some (.map m1) ∧
  C.maps_Keys_map_int_byte_int_byte m1 h1 fun r1 h2 =>
  ∃ (v1 : Value), r1 = v1 ∧
  C.slices_Sorted_int v1 h2 fun r2 h3 =>
  ∃ (sA1 : Option Addr) (sL1 : Nat) (sC1 : Nat), r2 = .slice sA1 sL1 sC1 ∧
  K (.slice sA1 sL1 sC1) h3)
def txn_Txn_Written.lo : Nat → List Nat × List (Nat × Ty) := fun n => match n with | _ => ([], [])
def txn_Txn_Written.od : Nat → Od := fun n => match n with | _ => .nil
theorem txn_Txn_Written.eq (t1 : Option Addr) (K : Value → Heap → Prop) (h : Heap) : fnX (cx txn_Txn_Written.lo txn_Txn_Written.od) Tryd.f36 (Tryd.f36.body.getD .skip) [.pointer t1] K h = txn_Txn_Written t1 K h := by kernel_rfl
theorem txn_Txn_Written.chk : fnOk (cx txn_Txn_Written.lo txn_Txn_Written.od) Tryd.f36 (Tryd.f36.body.getD .skip) 1 = true := by kernel_rfl
theorem txn_Txn_Written.ok {t1 : Option Addr} {K : Value → Heap → Prop} {h : Heap} (hx : txn_Txn_Written t1 K h) : C.txn_Txn_Written t1 h K :=
  fn_to (cxOk _ _) Tryd.func36 (by kernel_rfl) txn_Txn_Written.chk (by rw [txn_Txn_Written.eq]; exact hx)

-- 37
def txn_Txn_Abort (t1 : Option Addr) (K : Value → Heap → Prop) (h1 : Heap) : Prop :=
  C.txn_Txn_end t1 h1 fun r1 h2 =>
  r1 = .tuple #[] ∧
  K (.tuple #[]) h2
def txn_Txn_Abort.lo : Nat → List Nat × List (Nat × Ty) := fun n => match n with | _ => ([], [])
def txn_Txn_Abort.od : Nat → Od := fun n => match n with | _ => .nil
theorem txn_Txn_Abort.eq (t1 : Option Addr) (K : Value → Heap → Prop) (h : Heap) : fnX (cx txn_Txn_Abort.lo txn_Txn_Abort.od) Tryd.f37 (Tryd.f37.body.getD .skip) [.pointer t1] K h = txn_Txn_Abort t1 K h := by kernel_rfl
theorem txn_Txn_Abort.chk : fnOk (cx txn_Txn_Abort.lo txn_Txn_Abort.od) Tryd.f37 (Tryd.f37.body.getD .skip) 1 = true := by kernel_rfl
theorem txn_Txn_Abort.ok {t1 : Option Addr} {K : Value → Heap → Prop} {h : Heap} (hx : txn_Txn_Abort t1 K h) : C.txn_Txn_Abort t1 h K :=
  fn_to (cxOk _ _) Tryd.func37 (by kernel_rfl) txn_Txn_Abort.chk (by rw [txn_Txn_Abort.eq]; exact hx)

-- 38
def txn_Txn_Mark (t1 : Option Addr) (K : Value → Heap → Prop) (h1 : Heap) : Prop :=
  onSome t1 fun p1 =>
  ∃ (b1 : Bool), cellOf h1 (Addr.add p1 3) = some (.bool b1) ∧
  bif b1 then (
  K (.tuple #[.int .i64 0, .int .i64 61]) h1) else (
  onSome t1 fun p2 =>
  ∃ (sA1 : Option Addr) (sL1 : Nat) (sC1 : Nat), cellOf h1 (Addr.add p2 2) = some (.slice sA1 sL1 sC1) ∧
  K (.tuple #[.int .i64 (sL1 : Int), .int .i64 0]) h1)
def txn_Txn_Mark.lo : Nat → List Nat × List (Nat × Ty) := fun n => match n with | _ => ([], [])
def txn_Txn_Mark.od : Nat → Od := fun n => match n with | _ => .nil
theorem txn_Txn_Mark.eq (t1 : Option Addr) (K : Value → Heap → Prop) (h : Heap) : fnX (cx txn_Txn_Mark.lo txn_Txn_Mark.od) Tryd.f38 (Tryd.f38.body.getD .skip) [.pointer t1] K h = txn_Txn_Mark t1 K h := by kernel_rfl
theorem txn_Txn_Mark.chk : fnOk (cx txn_Txn_Mark.lo txn_Txn_Mark.od) Tryd.f38 (Tryd.f38.body.getD .skip) 1 = true := by kernel_rfl
theorem txn_Txn_Mark.ok {t1 : Option Addr} {K : Value → Heap → Prop} {h : Heap} (hx : txn_Txn_Mark t1 K h) : C.txn_Txn_Mark t1 h K :=
  fn_to (cxOk _ _) Tryd.func38 (by kernel_rfl) txn_Txn_Mark.chk (by rw [txn_Txn_Mark.eq]; exact hx)

-- 39
def bolelaw06_taken (putsA1 : Option Addr) (putsL1 : Nat) (putsC1 : Nat) (K : Value → Heap → Prop) (h1 : Heap) : Prop :=
  bif (decide ((putsL1 : Int) > 60)) then (
  K (.int .i64 60) h1) else (
  K (.int .i64 (putsL1 : Int)) h1)
def bolelaw06_taken.lo : Nat → List Nat × List (Nat × Ty) := fun n => match n with | _ => ([], [])
def bolelaw06_taken.od : Nat → Od := fun n => match n with | _ => .nil
theorem bolelaw06_taken.eq (putsA1 : Option Addr) (putsL1 : Nat) (putsC1 : Nat) (K : Value → Heap → Prop) (h : Heap) : fnX (cx bolelaw06_taken.lo bolelaw06_taken.od) Tryd.f39 (Tryd.f39.body.getD .skip) [.slice putsA1 putsL1 putsC1] K h = bolelaw06_taken putsA1 putsL1 putsC1 K h := by kernel_rfl
theorem bolelaw06_taken.chk : fnOk (cx bolelaw06_taken.lo bolelaw06_taken.od) Tryd.f39 (Tryd.f39.body.getD .skip) 1 = true := by kernel_rfl
theorem bolelaw06_taken.ok {putsA1 : Option Addr} {putsL1 : Nat} {putsC1 : Nat} {K : Value → Heap → Prop} {h : Heap} (hx : bolelaw06_taken putsA1 putsL1 putsC1 K h) : C.bolelaw06_taken putsA1 putsL1 putsC1 h K :=
  fn_to (cxOk _ _) Tryd.func39 (by kernel_rfl) bolelaw06_taken.chk (by rw [bolelaw06_taken.eq]; exact hx)

-- 40
def txn_Txn_Back.k1 (t1 : Option Addr) (mark1 : Int) (h1 : Heap) (K : Value → Heap → Prop) : Prop :=
  onSome t1 fun p3 =>
  ∃ (sA2 : Option Addr) (sL2 : Nat) (sC2 : Nat), cellOf h1 (Addr.add p3 2) = some (.slice sA2 sL2 sC2) ∧
  ∃ (I1 : Int → Heap → Prop) (M1 : Int → Heap → Nat), I1 (IntKind.wrap .i64 ((sL2 : Int) - 1)) h1 ∧
  ∀ (k1 : Int), ∀ h2 : Heap, I1 k1 h2 →
  bif (decide (k1 ≥ mark1)) then (
  onSome t1 fun p4 =>
  ∃ (sA3 : Option Addr) (sL3 : Nat) (sC3 : Nat), cellOf h2 (Addr.add p4 2) = some (.slice sA3 sL3 sC3) ∧
  (0 ≤ k1 ∧ k1 < (sL3 : Int)) ∧
  onSome sA3 fun p5 =>
  ∃ (v1 : Value), cellOf h2 (Addr.add p5 (Int.toNat k1)) = some (v1) ∧
  HCallsV Tryd.prog v1 [] h2 fun r1 h3 =>
  r1 = .tuple #[] ∧
  I1 (IntKind.wrap .i64 (k1 - 1)) h3 ∧ M1 (IntKind.wrap .i64 (k1 - 1)) h3 < M1 k1 h2) else (
  onSome t1 fun p6 =>
  ∃ (sA4 : Option Addr) (sL4 : Nat) (sC4 : Nat), cellOf h2 (Addr.add p6 2) = some (.slice sA4 sL4 sC4) ∧
  (0 ≤ mark1 ∧ mark1 ≤ (sC4 : Int)) ∧
  onSome t1 fun p7 =>
  Put (Addr.add p7 2) (.slice sA4 (Int.toNat mark1) sC4) h2 fun h4 =>
  K (.int .i64 0) h4)
def txn_Txn_Back (t1 : Option Addr) (mark1 : Int) (K : Value → Heap → Prop) (h1 : Heap) : Prop :=
  onSome t1 fun p1 =>
  ∃ (b1 : Bool), cellOf h1 (Addr.add p1 3) = some (.bool b1) ∧
  bif b1 then (
  K (.int .i64 61) h1) else (
  bif (decide (mark1 < 0)) then (
  K (.int .i64 62) h1) else (
  onSome t1 fun p2 =>
  ∃ (sA1 : Option Addr) (sL1 : Nat) (sC1 : Nat), cellOf h1 (Addr.add p2 2) = some (.slice sA1 sL1 sC1) ∧
  bif (decide (mark1 > (sL1 : Int))) then (
  K (.int .i64 62) h1) else (
  txn_Txn_Back.k1 t1 mark1 h1 K)))
def txn_Txn_Back.lo : Nat → List Nat × List (Nat × Ty) := fun n => match n with | 6 => ([0, 1], [(5, .int .i64)]) | _ => ([], [])
def txn_Txn_Back.od : Nat → Od := fun n => match n with | _ => .nil
theorem txn_Txn_Back.eq (t1 : Option Addr) (mark1 : Int) (K : Value → Heap → Prop) (h : Heap) : fnX (cx txn_Txn_Back.lo txn_Txn_Back.od) Tryd.f40 (Tryd.f40.body.getD .skip) [.pointer t1, .int .i64 mark1] K h = txn_Txn_Back t1 mark1 K h := by kernel_rfl
theorem txn_Txn_Back.chk : fnOk (cx txn_Txn_Back.lo txn_Txn_Back.od) Tryd.f40 (Tryd.f40.body.getD .skip) 2 = true := by kernel_rfl
theorem txn_Txn_Back.ok {t1 : Option Addr} {mark1 : Int} {K : Value → Heap → Prop} {h : Heap} (hx : txn_Txn_Back t1 mark1 K h) : C.txn_Txn_Back t1 mark1 h K :=
  fn_to (cxOk _ _) Tryd.func40 (by kernel_rfl) txn_Txn_Back.chk (by rw [txn_Txn_Back.eq]; exact hx)

-- 41
def txn_Txn_Commit (t1 : Option Addr) (K : Value → Heap → Prop) (h1 : Heap) : Prop :=
  onSome t1 fun p1 =>
  ∃ (b1 : Bool), cellOf h1 (Addr.add p1 3) = some (.bool b1) ∧
  bif b1 then (
  K (.int .i64 61) h1) else (
  onSome t1 fun p2 =>
  ∃ (m1 : Option Nat), cellOf h1 (Addr.add p2 1) = some (.map m1) ∧
  MapIn (.int .i64) m1 h1 fun mm1 =>
  bif ((List.length mm1 : Int) == 0) then (
  D.txn_Txn_end t1 h1 fun h2 =>
  K (.int .i64 0) h2) else (
  C.txn_Txn_Written t1 h1 fun r1 h3 =>
  ∃ (sA1 : Option Addr) (sL1 : Nat) (sC1 : Nat), r1 = .slice sA1 sL1 sC1 ∧
  ∃ (I1 : Option Addr → Nat → Nat → Int → Heap → Prop) (M1 : Option Addr → Nat → Nat → Int → Heap → Nat), I1 none 0 0 0 h3 ∧
  ∀ (lA1 : Option Addr) (lL1 : Nat) (lC1 : Nat) (n1 : Int), ∀ h4 : Heap, I1 lA1 lL1 lC1 n1 h4 →
  bif (decide (n1 < (sL1 : Int))) then (
  (0 ≤ n1 ∧ n1 < (sL1 : Int)) ∧
  onSome sA1 fun p3 =>
  ∃ (n2 : Int), cellOf h4 (Addr.add p3 (Int.toNat n1)) = some (.int .i64 n2) ∧
  onSome t1 fun p4 =>
  ∃ (m2 : Option Nat), cellOf h4 (Addr.add p4 1) = some (.map m2) ∧
  MapIn (.int .i64) m2 h4 fun mm2 =>
  ∃ (sA2 : Option Addr) (sL2 : Nat) (sC2 : Nat), Option.getD (mget mm2 (.i n2)) (zeroV ti28) = .slice sA2 sL2 sC2 ∧
  List.length ([.int .i64 n2, .slice sA2 sL2 sC2] : List Value) = 2 ∧
  New [.int .i64 n2, .slice sA2 sL2 sC2] 40 h4 fun h5 =>
  ∃ new1 : List Value, List.length new1 = 1 * 2 ∧ SlCells h5 (some ⟨h4.size, 0, none⟩) new1 ∧ (∀ v ∈ new1, v.oneCell' = true) ∧
  AppendP ti40 40 lA1 lL1 lC1 1 new1 h5 fun sA3 sL3 sC3 h6 =>
  I1 sA3 sL3 sC3 (IntKind.wrap .i64 (n1 + 1)) h6 ∧ M1 sA3 sL3 sC3 (IntKind.wrap .i64 (n1 + 1)) h6 < M1 lA1 lL1 lC1 n1 h4) else (
  onSome t1 fun p5 =>
  ∃ (q1 : Option Addr), cellOf h4 (Addr.add p5 0) = some (.pointer q1) ∧
  C.wal_Commit q1 lA1 lL1 lC1 h4 fun r2 h7 =>
  ∃ (n3 : Int), r2 = .int .i64 n3 ∧
  D.txn_Txn_end t1 h7 fun h8 =>
  K (.int .i64 n3) h8)))
def txn_Txn_Commit.lo : Nat → List Nat × List (Nat × Ty) := fun n => match n with | 8 => ([0, 18, 19], [(3, .slice), (20, .int .i64)]) | _ => ([], [])
def txn_Txn_Commit.od : Nat → Od := fun n => match n with | _ => .nil
theorem txn_Txn_Commit.eq (t1 : Option Addr) (K : Value → Heap → Prop) (h : Heap) : fnX (cx txn_Txn_Commit.lo txn_Txn_Commit.od) Tryd.f41 (Tryd.f41.body.getD .skip) [.pointer t1] K h = txn_Txn_Commit t1 K h := by kernel_rfl
theorem txn_Txn_Commit.chk : fnOk (cx txn_Txn_Commit.lo txn_Txn_Commit.od) Tryd.f41 (Tryd.f41.body.getD .skip) 1 = true := by kernel_rfl
theorem txn_Txn_Commit.ok {t1 : Option Addr} {K : Value → Heap → Prop} {h : Heap} (hx : txn_Txn_Commit t1 K h) : C.txn_Txn_Commit t1 h K :=
  fn_to (cxOk _ _) Tryd.func41 (by kernel_rfl) txn_Txn_Commit.chk (by rw [txn_Txn_Commit.eq]; exact hx)

-- 42
def bolelaw06_mod (v1 : Int) (n1 : Int) (K : Value → Heap → Prop) (h1 : Heap) : Prop :=
  if n1 = 0 then False else
  bif (decide ((Int.tmod v1 n1) < 0)) then (
  K (.int .i64 (IntKind.wrap .i64 ((Int.tmod v1 n1) + n1))) h1) else (
  K (.int .i64 (Int.tmod v1 n1)) h1)
def bolelaw06_mod.lo : Nat → List Nat × List (Nat × Ty) := fun n => match n with | _ => ([], [])
def bolelaw06_mod.od : Nat → Od := fun n => match n with | _ => .nil
theorem bolelaw06_mod.eq (v1 : Int) (n1 : Int) (K : Value → Heap → Prop) (h : Heap) : fnX (cx bolelaw06_mod.lo bolelaw06_mod.od) Tryd.f42 (Tryd.f42.body.getD .skip) [.int .i64 v1, .int .i64 n1] K h = bolelaw06_mod v1 n1 K h := by kernel_rfl
theorem bolelaw06_mod.chk : fnOk (cx bolelaw06_mod.lo bolelaw06_mod.od) Tryd.f42 (Tryd.f42.body.getD .skip) 2 = true := by kernel_rfl
theorem bolelaw06_mod.ok {v1 : Int} {n1 : Int} {K : Value → Heap → Prop} {h : Heap} (hx : bolelaw06_mod v1 n1 K h) : C.bolelaw06_mod v1 n1 h K :=
  fn_to (cxOk _ _) Tryd.func42 (by kernel_rfl) bolelaw06_mod.chk (by rw [bolelaw06_mod.eq]; exact hx)

-- 43
def txn_Txn_Write.k1 (bA1 : Option Addr) (bL1 : Nat) (bC1 : Nat) (h1 : Heap) (h2 : Heap) (was1 : Option Addr) (ok1 : Option Addr) (h8 : Heap) (K : Value → Heap → Prop) : Prop :=
  ∃ (q2 : Option Addr), cellOf h8 ⟨h1.size, 0, none⟩ = some (.pointer q2) ∧
  onSome q2 fun p2 =>
  ∃ (b1 : Bool), cellOf h8 (Addr.add p2 3) = some (.bool b1) ∧
  bif b1 then (
  K (.int .i64 61) h8) else (
  ∃ (n2 : Int), cellOf h8 ⟨h2.size, 0, none⟩ = some (.int .i64 n2) ∧
  bif (decide (n2 < 98)) then (
  K (.int .i64 31) h8) else (
  ∃ (n3 : Int), cellOf h8 ⟨h2.size, 0, none⟩ = some (.int .i64 n3) ∧
  ∃ (q3 : Option Addr), cellOf h8 ⟨h1.size, 0, none⟩ = some (.pointer q3) ∧
  onSome q3 fun p3 =>
  ∃ (q4 : Option Addr), cellOf h8 (Addr.add p3 0) = some (.pointer q4) ∧
  C.adisk_Disk_Blocks q4 h8 fun r1 h9 =>
  ∃ (n4 : Int), r1 = .int .i64 n4 ∧
  (cellOf h9 ⟨h2.size, 0, none⟩ = some (.int .i64 n3)) ∧
  bif (decide (n3 ≥ n4)) then (
  K (.int .i64 31) h9) else (
  bif ((bL1 : Int) != 512) then (
  K (.int .i64 32) h9) else (
  onSome ok1 fun p4 =>
  ∃ (b2 : Bool), cellOf h9 p4 = some (.bool b2) ∧
  bif (!b2) then (
  ∃ (q5 : Option Addr), cellOf h9 ⟨h1.size, 0, none⟩ = some (.pointer q5) ∧
  onSome q5 fun p5 =>
  ∃ (m2 : Option Nat), cellOf h9 (Addr.add p5 1) = some (.map m2) ∧
  MapIn (.int .i64) m2 h9 fun mm2 =>
  bif (decide ((List.length mm2 : Int) ≥ 96)) then (
  K (.int .i64 60) h9) else (
  ∃ (q6 : Option Addr), cellOf h9 ⟨h1.size, 0, none⟩ = some (.pointer q6) ∧
  ∃ (q7 : Option Addr), cellOf h9 ⟨h1.size, 0, none⟩ = some (.pointer q7) ∧
  onSome q7 fun p6 =>
  ∃ (sA2 : Option Addr) (sL2 : Nat) (sC2 : Nat), cellOf h9 (Addr.add p6 2) = some (.slice sA2 sL2 sC2) ∧
  New [.func (.func 66) #[] ⟨[.pointer ok1, .pointer was1, .pointer (some ⟨h1.size, 0, none⟩), .pointer (some ⟨h2.size, 0, none⟩)]⟩] 1 h9 fun h10 =>
  (cellOf h10 ⟨h1.size, 0, none⟩ = some (.pointer q6)) ∧
  (cellOf h10 ⟨h1.size, 0, none⟩ = some (.pointer q7)) ∧
  (cellOf h10 (Addr.add p6 2) = some (.slice sA2 sL2 sC2)) ∧
  ∃ new1 : List Value, List.length new1 = 1 * 1 ∧ SlCells h10 (some ⟨h9.size, 0, none⟩) new1 ∧ (∀ v ∈ new1, v.oneCell' = true) ∧
  AppendP ti1 1 sA2 sL2 sC2 1 new1 h10 fun sA3 sL3 sC3 h11 =>
  (cellOf h11 ⟨h1.size, 0, none⟩ = some (.pointer q6)) ∧
  onSome q6 fun p7 =>
  Put (Addr.add p7 2) (.slice sA3 sL3 sC3) h11 fun h12 =>
  ∃ (q8 : Option Addr), cellOf h12 ⟨h1.size, 0, none⟩ = some (.pointer q8) ∧
  onSome q8 fun p8 =>
  ∃ (m3 : Option Nat), cellOf h12 (Addr.add p8 1) = some (.map m3) ∧
  ∃ (n5 : Int), cellOf h12 ⟨h2.size, 0, none⟩ = some (.int .i64 n5) ∧
  C.slices_Clone_byte_byte bA1 bL1 bC1 h12 fun r2 h13 =>
  ∃ (sA4 : Option Addr) (sL4 : Nat) (sC4 : Nat), r2 = .slice sA4 sL4 sC4 ∧
  (cellOf h13 ⟨h1.size, 0, none⟩ = some (.pointer q8)) ∧
  (cellOf h13 (Addr.add p8 1) = some (.map m3)) ∧
  (cellOf h13 ⟨h2.size, 0, none⟩ = some (.int .i64 n5)) ∧
  onSome m3 fun r3 =>
  MapPut (.int .i64) r3 (.i n5) (.slice sA4 sL4 sC4) h13 fun h14 =>
  K (.int .i64 0) h14)) else (
  ∃ (q9 : Option Addr), cellOf h9 ⟨h1.size, 0, none⟩ = some (.pointer q9) ∧
  ∃ (q10 : Option Addr), cellOf h9 ⟨h1.size, 0, none⟩ = some (.pointer q10) ∧
  onSome q10 fun p9 =>
  ∃ (sA5 : Option Addr) (sL5 : Nat) (sC5 : Nat), cellOf h9 (Addr.add p9 2) = some (.slice sA5 sL5 sC5) ∧
  New [.func (.func 66) #[] ⟨[.pointer ok1, .pointer was1, .pointer (some ⟨h1.size, 0, none⟩), .pointer (some ⟨h2.size, 0, none⟩)]⟩] 1 h9 fun h15 =>
  (cellOf h15 ⟨h1.size, 0, none⟩ = some (.pointer q9)) ∧
  (cellOf h15 ⟨h1.size, 0, none⟩ = some (.pointer q10)) ∧
  (cellOf h15 (Addr.add p9 2) = some (.slice sA5 sL5 sC5)) ∧
  ∃ new2 : List Value, List.length new2 = 1 * 1 ∧ SlCells h15 (some ⟨h9.size, 0, none⟩) new2 ∧ (∀ v ∈ new2, v.oneCell' = true) ∧
  AppendP ti1 1 sA5 sL5 sC5 1 new2 h15 fun sA6 sL6 sC6 h16 =>
  (cellOf h16 ⟨h1.size, 0, none⟩ = some (.pointer q9)) ∧
  onSome q9 fun p10 =>
  Put (Addr.add p10 2) (.slice sA6 sL6 sC6) h16 fun h17 =>
  ∃ (q11 : Option Addr), cellOf h17 ⟨h1.size, 0, none⟩ = some (.pointer q11) ∧
  onSome q11 fun p11 =>
  ∃ (m4 : Option Nat), cellOf h17 (Addr.add p11 1) = some (.map m4) ∧
  ∃ (n6 : Int), cellOf h17 ⟨h2.size, 0, none⟩ = some (.int .i64 n6) ∧
  C.slices_Clone_byte_byte bA1 bL1 bC1 h17 fun r4 h18 =>
  ∃ (sA7 : Option Addr) (sL7 : Nat) (sC7 : Nat), r4 = .slice sA7 sL7 sC7 ∧
  (cellOf h18 ⟨h1.size, 0, none⟩ = some (.pointer q11)) ∧
  (cellOf h18 (Addr.add p11 1) = some (.map m4)) ∧
  (cellOf h18 ⟨h2.size, 0, none⟩ = some (.int .i64 n6)) ∧
  onSome m4 fun r5 =>
  MapPut (.int .i64) r5 (.i n6) (.slice sA7 sL7 sC7) h18 fun h19 =>
  K (.int .i64 0) h19)))))
def txn_Txn_Write (t1 : Option Addr) (i1 : Int) (bA1 : Option Addr) (bL1 : Nat) (bC1 : Nat) (K : Value → Heap → Prop) (h1 : Heap) : Prop :=
  New [.pointer t1] 65 h1 fun h2 =>
  New [.int .i64 i1] 3 h2 fun h3 =>
  ∃ (q1 : Option Addr), cellOf h3 ⟨h1.size, 0, none⟩ = some (.pointer q1) ∧
  onSome q1 fun p1 =>
  ∃ (m1 : Option Nat), cellOf h3 (Addr.add p1 1) = some (.map m1) ∧
  ∃ (n1 : Int), cellOf h3 ⟨h2.size, 0, none⟩ = some (.int .i64 n1) ∧
  (
  MapIn (.int .i64) m1 h3 fun mm1 =>
  ∃ (sA1 : Option Addr) (sL1 : Nat) (sC1 : Nat), Option.getD (mget mm1 (.i n1)) (zeroV ti28) = .slice sA1 sL1 sC1 ∧
  (
  New z28 28 h3 fun h4 =>
  (cellOf h4 ⟨h1.size, 0, none⟩ = some (.pointer q1)) ∧
  (cellOf h4 (Addr.add p1 1) = some (.map m1)) ∧
  (cellOf h4 ⟨h2.size, 0, none⟩ = some (.int .i64 n1)) ∧
  New z4 4 h4 fun h5 =>
  (cellOf h5 ⟨h1.size, 0, none⟩ = some (.pointer q1)) ∧
  (cellOf h5 (Addr.add p1 1) = some (.map m1)) ∧
  (cellOf h5 ⟨h2.size, 0, none⟩ = some (.int .i64 n1)) ∧
  Put ⟨h3.size, 0, none⟩ (.slice sA1 sL1 sC1) h5 fun h6 =>
  Put ⟨h4.size, 0, none⟩ (.bool (Option.isSome (mget mm1 (.i n1)))) h6 fun h7 =>
  txn_Txn_Write.k1 bA1 bL1 bC1 h1 h2 (some ⟨h3.size, 0, none⟩) (some ⟨h4.size, 0, none⟩) h7 K) ∧
  New z4 4 h3 fun h20 =>
  (cellOf h20 ⟨h1.size, 0, none⟩ = some (.pointer q1)) ∧
  (cellOf h20 (Addr.add p1 1) = some (.map m1)) ∧
  (cellOf h20 ⟨h2.size, 0, none⟩ = some (.int .i64 n1)) ∧
  New z28 28 h20 fun h21 =>
  (cellOf h21 ⟨h1.size, 0, none⟩ = some (.pointer q1)) ∧
  (cellOf h21 (Addr.add p1 1) = some (.map m1)) ∧
  (cellOf h21 ⟨h2.size, 0, none⟩ = some (.int .i64 n1)) ∧
  Put ⟨h20.size, 0, none⟩ (.slice sA1 sL1 sC1) h21 fun h22 =>
  Put ⟨h3.size, 0, none⟩ (.bool (Option.isSome (mget mm1 (.i n1)))) h22 fun h23 =>
  txn_Txn_Write.k1 bA1 bL1 bC1 h1 h2 (some ⟨h20.size, 0, none⟩) (some ⟨h3.size, 0, none⟩) h23 K) ∧
  (
  New z28 28 h3 fun h24 =>
  (cellOf h24 ⟨h1.size, 0, none⟩ = some (.pointer q1)) ∧
  (cellOf h24 (Addr.add p1 1) = some (.map m1)) ∧
  (cellOf h24 ⟨h2.size, 0, none⟩ = some (.int .i64 n1)) ∧
  (
  MapIn (.int .i64) m1 h24 fun mm3 =>
  ∃ (sA8 : Option Addr) (sL8 : Nat) (sC8 : Nat), Option.getD (mget mm3 (.i n1)) (zeroV ti28) = .slice sA8 sL8 sC8 ∧
  New z4 4 h24 fun h25 =>
  (cellOf h25 ⟨h1.size, 0, none⟩ = some (.pointer q1)) ∧
  (cellOf h25 (Addr.add p1 1) = some (.map m1)) ∧
  (cellOf h25 ⟨h2.size, 0, none⟩ = some (.int .i64 n1)) ∧
  Put ⟨h3.size, 0, none⟩ (.slice sA8 sL8 sC8) h25 fun h26 =>
  Put ⟨h24.size, 0, none⟩ (.bool (Option.isSome (mget mm3 (.i n1)))) h26 fun h27 =>
  txn_Txn_Write.k1 bA1 bL1 bC1 h1 h2 (some ⟨h3.size, 0, none⟩) (some ⟨h24.size, 0, none⟩) h27 K) ∧
  New z4 4 h24 fun h28 =>
  (cellOf h28 ⟨h1.size, 0, none⟩ = some (.pointer q1)) ∧
  (cellOf h28 (Addr.add p1 1) = some (.map m1)) ∧
  (cellOf h28 ⟨h2.size, 0, none⟩ = some (.int .i64 n1)) ∧
  MapIn (.int .i64) m1 h28 fun mm4 =>
  ∃ (sA9 : Option Addr) (sL9 : Nat) (sC9 : Nat), Option.getD (mget mm4 (.i n1)) (zeroV ti28) = .slice sA9 sL9 sC9 ∧
  Put ⟨h3.size, 0, none⟩ (.slice sA9 sL9 sC9) h28 fun h29 =>
  Put ⟨h24.size, 0, none⟩ (.bool (Option.isSome (mget mm4 (.i n1)))) h29 fun h30 =>
  txn_Txn_Write.k1 bA1 bL1 bC1 h1 h2 (some ⟨h3.size, 0, none⟩) (some ⟨h24.size, 0, none⟩) h30 K) ∧
  New z4 4 h3 fun h31 =>
  (cellOf h31 ⟨h1.size, 0, none⟩ = some (.pointer q1)) ∧
  (cellOf h31 (Addr.add p1 1) = some (.map m1)) ∧
  (cellOf h31 ⟨h2.size, 0, none⟩ = some (.int .i64 n1)) ∧
  (
  MapIn (.int .i64) m1 h31 fun mm5 =>
  ∃ (sA10 : Option Addr) (sL10 : Nat) (sC10 : Nat), Option.getD (mget mm5 (.i n1)) (zeroV ti28) = .slice sA10 sL10 sC10 ∧
  New z28 28 h31 fun h32 =>
  (cellOf h32 ⟨h1.size, 0, none⟩ = some (.pointer q1)) ∧
  (cellOf h32 (Addr.add p1 1) = some (.map m1)) ∧
  (cellOf h32 ⟨h2.size, 0, none⟩ = some (.int .i64 n1)) ∧
  Put ⟨h31.size, 0, none⟩ (.slice sA10 sL10 sC10) h32 fun h33 =>
  Put ⟨h3.size, 0, none⟩ (.bool (Option.isSome (mget mm5 (.i n1)))) h33 fun h34 =>
  txn_Txn_Write.k1 bA1 bL1 bC1 h1 h2 (some ⟨h31.size, 0, none⟩) (some ⟨h3.size, 0, none⟩) h34 K) ∧
  New z28 28 h31 fun h35 =>
  (cellOf h35 ⟨h1.size, 0, none⟩ = some (.pointer q1)) ∧
  (cellOf h35 (Addr.add p1 1) = some (.map m1)) ∧
  (cellOf h35 ⟨h2.size, 0, none⟩ = some (.int .i64 n1)) ∧
  MapIn (.int .i64) m1 h35 fun mm6 =>
  ∃ (sA11 : Option Addr) (sL11 : Nat) (sC11 : Nat), Option.getD (mget mm6 (.i n1)) (zeroV ti28) = .slice sA11 sL11 sC11 ∧
  Put ⟨h31.size, 0, none⟩ (.slice sA11 sL11 sC11) h35 fun h36 =>
  Put ⟨h3.size, 0, none⟩ (.bool (Option.isSome (mget mm6 (.i n1)))) h36 fun h37 =>
  txn_Txn_Write.k1 bA1 bL1 bC1 h1 h2 (some ⟨h31.size, 0, none⟩) (some ⟨h3.size, 0, none⟩) h37 K
def txn_Txn_Write.lo : Nat → List Nat × List (Nat × Ty) := fun n => match n with | _ => ([], [])
set_option maxRecDepth 100000 in
def txn_Txn_Write.od : Nat → Od := fun n => match n with | 1 => (.op 0 [] (.op 1 [] (.op 2 [] (.op 3 [] (.op 4 [] (.alt 5 [] (.op 6 [] (.op 7 [] (.op 8 [] (.alt 9 [0, 3, 4] (.op 10 [0, 3, 4] (.op 11 [] (.op 12 [] .nil))) (.op 10 [0, 3, 4] (.op 9 [0, 3, 4] (.op 11 [] (.op 12 [] .nil)))))))) (.alt 9 [0, 3, 4] (.alt 5 [] (.op 6 [] (.op 7 [] (.op 8 [] (.op 10 [0, 3, 4] (.op 11 [] (.op 12 [] .nil)))))) (.op 10 [0, 3, 4] (.op 5 [] (.op 6 [] (.op 7 [] (.op 8 [] (.op 11 [] (.op 12 [] .nil)))))))) (.op 10 [0, 3, 4] (.alt 5 [] (.op 6 [] (.op 7 [] (.op 8 [] (.op 9 [0, 3, 4] (.op 11 [] (.op 12 [] .nil)))))) (.op 9 [0, 3, 4] (.op 5 [] (.op 6 [] (.op 7 [] (.op 8 [] (.op 11 [] (.op 12 [] .nil)))))))))))))))) | 4 => (.op 0 [] (.op 1 [] (.op 2 [] (.op 3 [] (.op 4 [] (.op 5 [] (.op 6 [] (.op 7 [] (.op 8 [3] (.op 9 [] (.op 10 [] (.op 11 [] .nil)))))))))))) | 10 => (.op 0 [] (.op 1 [] (.op 2 [] (.op 3 [] (.op 4 [] (.op 5 [] (.op 6 [0, 1, 4] (.op 7 [0] (.op 8 [] (.op 9 [] (.op 10 [] .nil))))))))))) | 11 => (.op 0 [] (.op 1 [] (.op 2 [] (.op 3 [] (.op 4 [] (.op 5 [] (.op 6 [0, 3, 4] (.op 7 [] .nil)))))))) | _ => .nil
set_option maxRecDepth 100000 in
theorem txn_Txn_Write.eq (t1 : Option Addr) (i1 : Int) (bA1 : Option Addr) (bL1 : Nat) (bC1 : Nat) (K : Value → Heap → Prop) (h : Heap) : fnX (cx txn_Txn_Write.lo txn_Txn_Write.od) Tryd.f43 (Tryd.f43.body.getD .skip) [.pointer t1, .int .i64 i1, .slice bA1 bL1 bC1] K h = txn_Txn_Write t1 i1 bA1 bL1 bC1 K h := by kernel_rfl
theorem txn_Txn_Write.chk : fnOk (cx txn_Txn_Write.lo txn_Txn_Write.od) Tryd.f43 (Tryd.f43.body.getD .skip) 3 = true := by kernel_rfl
set_option maxRecDepth 100000 in
theorem txn_Txn_Write.ok {t1 : Option Addr} {i1 : Int} {bA1 : Option Addr} {bL1 : Nat} {bC1 : Nat} {K : Value → Heap → Prop} {h : Heap} (hx : txn_Txn_Write t1 i1 bA1 bL1 bC1 K h) : C.txn_Txn_Write t1 i1 bA1 bL1 bC1 h K :=
  fn_to (cxOk _ _) Tryd.func43 (by kernel_rfl) txn_Txn_Write.chk (by rw [txn_Txn_Write.eq]; exact hx)

-- 44
def bolelaw05_block (ofA1 : Option Addr) (ofL1 : Nat) (ofC1 : Nat) (by1 : Int) (K : Value → Heap → Prop) (h1 : Heap) : Prop :=
  ∃ (I1 : Option Addr → Nat → Nat → Int → Heap → Prop) (M1 : Option Addr → Nat → Nat → Int → Heap → Nat), I1 none 0 0 0 h1 ∧
  ∀ (bA1 : Option Addr) (bL1 : Nat) (bC1 : Nat) (i1 : Int), ∀ h2 : Heap, I1 bA1 bL1 bC1 i1 h2 →
  bif (decide (i1 < 512)) then (
  bif (decide (i1 < (ofL1 : Int))) then (
  (0 ≤ i1 ∧ i1 < (ofL1 : Int)) ∧
  onSome ofA1 fun p1 =>
  ∃ (n1 : Int), cellOf h2 (Addr.add p1 (Int.toNat i1)) = some (.int .u8 n1) ∧
  New [.int .u8 n1] 5 h2 fun h3 =>
  ∃ new1 : List Value, List.length new1 = 1 * 1 ∧ SlCells h3 (some ⟨h2.size, 0, none⟩) new1 ∧ (∀ v ∈ new1, v.oneCell' = true) ∧
  AppendP ti5 5 bA1 bL1 bC1 1 new1 h3 fun sA1 sL1 sC1 h4 =>
  I1 sA1 sL1 sC1 (IntKind.wrap .i64 (i1 + 1)) h4 ∧ M1 sA1 sL1 sC1 (IntKind.wrap .i64 (i1 + 1)) h4 < M1 bA1 bL1 bC1 i1 h2) else (
  New [.int .u8 by1] 5 h2 fun h5 =>
  ∃ new2 : List Value, List.length new2 = 1 * 1 ∧ SlCells h5 (some ⟨h2.size, 0, none⟩) new2 ∧ (∀ v ∈ new2, v.oneCell' = true) ∧
  AppendP ti5 5 bA1 bL1 bC1 1 new2 h5 fun sA2 sL2 sC2 h6 =>
  I1 sA2 sL2 sC2 (IntKind.wrap .i64 (i1 + 1)) h6 ∧ M1 sA2 sL2 sC2 (IntKind.wrap .i64 (i1 + 1)) h6 < M1 bA1 bL1 bC1 i1 h2)) else (
  K (.slice bA1 bL1 bC1) h2)
def bolelaw05_block.lo : Nat → List Nat × List (Nat × Ty) := fun n => match n with | 3 => ([0, 1], [(5, .slice), (6, .int .i64)]) | _ => ([], [])
def bolelaw05_block.od : Nat → Od := fun n => match n with | _ => .nil
theorem bolelaw05_block.eq (ofA1 : Option Addr) (ofL1 : Nat) (ofC1 : Nat) (by1 : Int) (K : Value → Heap → Prop) (h : Heap) : fnX (cx bolelaw05_block.lo bolelaw05_block.od) Tryd.f44 (Tryd.f44.body.getD .skip) [.slice ofA1 ofL1 ofC1, .int .u8 by1] K h = bolelaw05_block ofA1 ofL1 ofC1 by1 K h := by kernel_rfl
theorem bolelaw05_block.chk : fnOk (cx bolelaw05_block.lo bolelaw05_block.od) Tryd.f44 (Tryd.f44.body.getD .skip) 2 = true := by kernel_rfl
theorem bolelaw05_block.ok {ofA1 : Option Addr} {ofL1 : Nat} {ofC1 : Nat} {by1 : Int} {K : Value → Heap → Prop} {h : Heap} (hx : bolelaw05_block ofA1 ofL1 ofC1 by1 K h) : C.bolelaw05_block ofA1 ofL1 ofC1 by1 h K :=
  fn_to (cxOk _ _) Tryd.func44 (by kernel_rfl) bolelaw05_block.chk (by rw [bolelaw05_block.eq]; exact hx)

-- 45
def bolelaw05_sameBytes (aA1 : Option Addr) (aL1 : Nat) (aC1 : Nat) (bA1 : Option Addr) (bL1 : Nat) (bC1 : Nat) (K : Value → Heap → Prop) (h1 : Heap) : Prop :=
  ∃ bs1 : List UInt8, StrAt h1 aA1 aL1 bs1 ∧
  ∃ bs2 : List UInt8, StrAt h1 bA1 bL1 bs2 ∧
  K (.bool ((mkStr bs1).toList == (mkStr bs2).toList)) h1
def bolelaw05_sameBytes.lo : Nat → List Nat × List (Nat × Ty) := fun n => match n with | _ => ([], [])
def bolelaw05_sameBytes.od : Nat → Od := fun n => match n with | _ => .nil
theorem bolelaw05_sameBytes.eq (aA1 : Option Addr) (aL1 : Nat) (aC1 : Nat) (bA1 : Option Addr) (bL1 : Nat) (bC1 : Nat) (K : Value → Heap → Prop) (h : Heap) : fnX (cx bolelaw05_sameBytes.lo bolelaw05_sameBytes.od) Tryd.f45 (Tryd.f45.body.getD .skip) [.slice aA1 aL1 aC1, .slice bA1 bL1 bC1] K h = bolelaw05_sameBytes aA1 aL1 aC1 bA1 bL1 bC1 K h := by kernel_rfl
theorem bolelaw05_sameBytes.chk : fnOk (cx bolelaw05_sameBytes.lo bolelaw05_sameBytes.od) Tryd.f45 (Tryd.f45.body.getD .skip) 2 = true := by kernel_rfl
theorem bolelaw05_sameBytes.ok {aA1 : Option Addr} {aL1 : Nat} {aC1 : Nat} {bA1 : Option Addr} {bL1 : Nat} {bC1 : Nat} {K : Value → Heap → Prop} {h : Heap} (hx : bolelaw05_sameBytes aA1 aL1 aC1 bA1 bL1 bC1 K h) : C.bolelaw05_sameBytes aA1 aL1 aC1 bA1 bL1 bC1 h K :=
  fn_to (cxOk _ _) Tryd.func45 (by kernel_rfl) bolelaw05_sameBytes.chk (by rw [bolelaw05_sameBytes.eq]; exact hx)

-- 46
def slices_Clone_byte_byte (sA1 : Option Addr) (sL1 : Nat) (sC1 : Nat) (K : Value → Heap → Prop) (h1 : Heap) : Prop :=
  bif (Option.isNone sA1) then (
  K (.slice none 0 0) h1) else (
  New [] 5 h1 fun h2 =>
  ∃ new1 : List Value, List.length new1 = sL1 * 1 ∧ SlCells h2 sA1 new1 ∧ (∀ v ∈ new1, v.oneCell' = true) ∧
  AppendP ti5 5 (some ⟨h1.size, 0, none⟩) 0 0 sL1 new1 h2 fun sA2 sL2 sC2 h3 =>
  K (.slice sA2 sL2 sC2) h3)
def slices_Clone_byte_byte.lo : Nat → List Nat × List (Nat × Ty) := fun n => match n with | _ => ([], [])
def slices_Clone_byte_byte.od : Nat → Od := fun n => match n with | _ => .nil
theorem slices_Clone_byte_byte.eq (sA1 : Option Addr) (sL1 : Nat) (sC1 : Nat) (K : Value → Heap → Prop) (h : Heap) : fnX (cx slices_Clone_byte_byte.lo slices_Clone_byte_byte.od) Tryd.f46 (Tryd.f46.body.getD .skip) [.slice sA1 sL1 sC1] K h = slices_Clone_byte_byte sA1 sL1 sC1 K h := by kernel_rfl
theorem slices_Clone_byte_byte.chk : fnOk (cx slices_Clone_byte_byte.lo slices_Clone_byte_byte.od) Tryd.f46 (Tryd.f46.body.getD .skip) 1 = true := by kernel_rfl
theorem slices_Clone_byte_byte.ok {sA1 : Option Addr} {sL1 : Nat} {sC1 : Nat} {K : Value → Heap → Prop} {h : Heap} (hx : slices_Clone_byte_byte sA1 sL1 sC1 K h) : C.slices_Clone_byte_byte sA1 sL1 sC1 h K :=
  fn_to (cxOk _ _) Tryd.func46 (by kernel_rfl) slices_Clone_byte_byte.chk (by rw [slices_Clone_byte_byte.eq]; exact hx)

-- 47
def wal_may (lA1 : Option Addr) (lL1 : Nat) (lC1 : Nat) (n1 : Int) (K : Value → Heap → Prop) (h1 : Heap) : Prop :=
  ∃ (I1 : Int → Int → Heap → Prop) (M1 : Int → Int → Heap → Nat), I1 97 0 h1 ∧
  ∀ (last1 : Int) (n2 : Int), ∀ h2 : Heap, I1 last1 n2 h2 →
  bif (decide (n2 < (lL1 : Int))) then (
  (0 ≤ n2 ∧ n2 < (lL1 : Int)) ∧
  onSome lA1 fun p1 =>
  ∃ cs1 : List Value, List.length cs1 = 2 ∧ Cells h2 (Addr.add p1 ((Int.toNat n2) * 2)) cs1 ∧
  NewRow z40 40 cs1 2 h2 fun h4 =>
  ∃ (n3 : Int), cellOf h4 (Addr.add ⟨h2.size, 0, none⟩ 0) = some (.int .i64 n3) ∧
  bif (decide (n3 ≤ last1)) then (
  K (.bool false) h4) else (
  ∃ (n4 : Int), cellOf h4 (Addr.add ⟨h2.size, 0, none⟩ 0) = some (.int .i64 n4) ∧
  bif (decide (n4 ≥ n1)) then (
  K (.bool false) h4) else (
  ∃ (n5 : Int), cellOf h4 (Addr.add ⟨h2.size, 0, none⟩ 0) = some (.int .i64 n5) ∧
  I1 n5 (IntKind.wrap .i64 (n2 + 1)) h4 ∧ M1 n5 (IntKind.wrap .i64 (n2 + 1)) h4 < M1 last1 n2 h2))) else (
  K (.bool (decide ((lL1 : Int) ≤ 96))) h2)
def wal_may.lo : Nat → List Nat × List (Nat × Ty) := fun n => match n with | 3 => ([0, 1, 8, 9], [(5, .int .i64), (10, .int .i64)]) | _ => ([], [])
def wal_may.od : Nat → Od := fun n => match n with | _ => .nil
theorem wal_may.eq (lA1 : Option Addr) (lL1 : Nat) (lC1 : Nat) (n1 : Int) (K : Value → Heap → Prop) (h : Heap) : fnX (cx wal_may.lo wal_may.od) Tryd.f47 (Tryd.f47.body.getD .skip) [.slice lA1 lL1 lC1, .int .i64 n1] K h = wal_may lA1 lL1 lC1 n1 K h := by kernel_rfl
theorem wal_may.chk : fnOk (cx wal_may.lo wal_may.od) Tryd.f47 (Tryd.f47.body.getD .skip) 2 = true := by kernel_rfl
theorem wal_may.ok {lA1 : Option Addr} {lL1 : Nat} {lC1 : Nat} {n1 : Int} {K : Value → Heap → Prop} {h : Heap} (hx : wal_may lA1 lL1 lC1 n1 K h) : C.wal_may lA1 lL1 lC1 n1 h K :=
  fn_to (cxOk _ _) Tryd.func47 (by kernel_rfl) wal_may.chk (by rw [wal_may.eq]; exact hx)

-- 48
def adisk_Disk_Blocks (d1 : Option Addr) (K : Value → Heap → Prop) (h1 : Heap) : Prop :=
  onSome d1 fun p1 =>
  ∃ (sA1 : Option Addr) (sL1 : Nat) (sC1 : Nat), cellOf h1 (Addr.add p1 0) = some (.slice sA1 sL1 sC1) ∧
  K (.int .i64 (sL1 : Int)) h1
def adisk_Disk_Blocks.lo : Nat → List Nat × List (Nat × Ty) := fun n => match n with | _ => ([], [])
def adisk_Disk_Blocks.od : Nat → Od := fun n => match n with | _ => .nil
theorem adisk_Disk_Blocks.eq (d1 : Option Addr) (K : Value → Heap → Prop) (h : Heap) : fnX (cx adisk_Disk_Blocks.lo adisk_Disk_Blocks.od) Tryd.f48 (Tryd.f48.body.getD .skip) [.pointer d1] K h = adisk_Disk_Blocks d1 K h := by kernel_rfl
theorem adisk_Disk_Blocks.chk : fnOk (cx adisk_Disk_Blocks.lo adisk_Disk_Blocks.od) Tryd.f48 (Tryd.f48.body.getD .skip) 1 = true := by kernel_rfl
theorem adisk_Disk_Blocks.ok {d1 : Option Addr} {K : Value → Heap → Prop} {h : Heap} (hx : adisk_Disk_Blocks d1 K h) : C.adisk_Disk_Blocks d1 h K :=
  fn_to (cxOk _ _) Tryd.func48 (by kernel_rfl) adisk_Disk_Blocks.chk (by rw [adisk_Disk_Blocks.eq]; exact hx)

-- 49
def head_Make (numsA1 : Option Addr) (numsL1 : Nat) (numsC1 : Nat) (dataA1 : Option Addr) (dataL1 : Nat) (dataC1 : Nat) (K : Value → Heap → Prop) (h1 : Heap) : Prop :=
  C.head_may numsA1 numsL1 numsC1 16384 h1 fun r1 h2 =>
  ∃ (b1 : Bool), r1 = .bool b1 ∧
  bif (!b1) then (
  K (.tuple #[.slice none 0 0, .int .i64 40]) h2) else (
  C.head_areBlocks dataA1 dataL1 dataC1 (numsL1 : Int) h2 fun r2 h3 =>
  ∃ (b2 : Bool), r2 = .bool b2 ∧
  bif (!b2) then (
  K (.tuple #[.slice none 0 0, .int .i64 32]) h3) else (
  C.head_Empty  h3 fun r3 h4 =>
  ∃ (sA1 : Option Addr) (sL1 : Nat) (sC1 : Nat), r3 = .slice sA1 sL1 sC1 ∧
  C.rec_PutText sA1 sL1 sC1 0 8 (mkStr [66, 79, 76, 69, 76, 79, 71, 49]) h4 fun r4 h5 =>
  ∃ (n1 : Int), r4 = .int .i64 n1 ∧
  C.rec_Put sA1 sL1 sC1 8 2 (IntKind.wrap .u64 ((numsL1 : Int))) h5 fun r5 h6 =>
  ∃ (n2 : Int), r5 = .int .i64 n2 ∧
  ∃ (I1 : Int → Heap → Prop) (M1 : Int → Heap → Nat), I1 0 h6 ∧
  ∀ (n3 : Int), ∀ h7 : Heap, I1 n3 h7 →
  bif (decide (n3 < (numsL1 : Int))) then (
  (0 ≤ n3 ∧ n3 < (numsL1 : Int)) ∧
  onSome numsA1 fun p1 =>
  ∃ (n4 : Int), cellOf h7 (Addr.add p1 (Int.toNat n3)) = some (.int .i64 n4) ∧
  C.rec_Put sA1 sL1 sC1 (IntKind.wrap .i64 (16 + (IntKind.wrap .i64 (4 * n3)))) 4 (IntKind.wrap .u64 (n4)) h7 fun r6 h8 =>
  ∃ (n5 : Int), r6 = .int .i64 n5 ∧
  I1 (IntKind.wrap .i64 (n3 + 1)) h8 ∧ M1 (IntKind.wrap .i64 (n3 + 1)) h8 < M1 n3 h7) else (
  C.head_sumOf sA1 sL1 sC1 dataA1 dataL1 dataC1 h7 fun r7 h9 =>
  ∃ (n6 : Int), r7 = .int .u32 n6 ∧
  C.rec_Put sA1 sL1 sC1 12 4 (IntKind.wrap .u64 (n6)) h9 fun r8 h10 =>
  ∃ (n7 : Int), r8 = .int .i64 n7 ∧
  K (.tuple #[.slice sA1 sL1 sC1, .int .i64 0]) h10)))
def head_Make.lo : Nat → List Nat × List (Nat × Ty) := fun n => match n with | 9 => ([1, 6, 27, 28], [(29, .int .i64)]) | _ => ([], [])
def head_Make.od : Nat → Od := fun n => match n with | _ => .nil
set_option maxRecDepth 1000000 in
theorem head_Make.eq (numsA1 : Option Addr) (numsL1 : Nat) (numsC1 : Nat) (dataA1 : Option Addr) (dataL1 : Nat) (dataC1 : Nat) (K : Value → Heap → Prop) (h : Heap) : fnX (cx head_Make.lo head_Make.od) Tryd.f49 (Tryd.f49.body.getD .skip) [.slice numsA1 numsL1 numsC1, .slice dataA1 dataL1 dataC1] K h = head_Make numsA1 numsL1 numsC1 dataA1 dataL1 dataC1 K h := by kernel_rfl
theorem head_Make.chk : fnOk (cx head_Make.lo head_Make.od) Tryd.f49 (Tryd.f49.body.getD .skip) 2 = true := by kernel_rfl
set_option maxRecDepth 1000000 in
theorem head_Make.ok {numsA1 : Option Addr} {numsL1 : Nat} {numsC1 : Nat} {dataA1 : Option Addr} {dataL1 : Nat} {dataC1 : Nat} {K : Value → Heap → Prop} {h : Heap} (hx : head_Make numsA1 numsL1 numsC1 dataA1 dataL1 dataC1 K h) : C.head_Make numsA1 numsL1 numsC1 dataA1 dataL1 dataC1 h K :=
  fn_to (cxOk _ _) Tryd.func49 (by kernel_rfl) head_Make.chk (by rw [head_Make.eq]; exact hx)

-- 50
def wal_steps_write (s1 : Option Addr) (i1 : Int) (bA1 : Option Addr) (bL1 : Nat) (bC1 : Nat) (K : Value → Heap → Prop) (h1 : Heap) : Prop :=
  New [.int .i64 i1] 3 h1 fun h2 =>
  New [.slice bA1 bL1 bC1] 28 h2 fun h3 =>
  onSome s1 fun p1 =>
  ∃ (sA1 : Option Addr) (sL1 : Nat) (sC1 : Nat), cellOf h3 p1 = some (.slice sA1 sL1 sC1) ∧
  New [.func (.func 72) #[] ⟨[.pointer (some ⟨h1.size, 0, none⟩), .pointer (some ⟨h2.size, 0, none⟩)]⟩] 99 h3 fun h4 =>
  ∃ new1 : List Value, List.length new1 = 1 * 1 ∧ SlCells h4 (some ⟨h3.size, 0, none⟩) new1 ∧ (∀ v ∈ new1, v.oneCell' = true) ∧
  AppendP ti99 99 sA1 sL1 sC1 1 new1 h4 fun sA2 sL2 sC2 h5 =>
  onSome s1 fun p2 =>
  Put p2 (.slice sA2 sL2 sC2) h5 fun h6 =>
  K (.tuple #[]) h6
def wal_steps_write.lo : Nat → List Nat × List (Nat × Ty) := fun n => match n with | _ => ([], [])
def wal_steps_write.od : Nat → Od := fun n => match n with | _ => .nil
theorem wal_steps_write.eq (s1 : Option Addr) (i1 : Int) (bA1 : Option Addr) (bL1 : Nat) (bC1 : Nat) (K : Value → Heap → Prop) (h : Heap) : fnX (cx wal_steps_write.lo wal_steps_write.od) Tryd.f50 (Tryd.f50.body.getD .skip) [.pointer s1, .int .i64 i1, .slice bA1 bL1 bC1] K h = wal_steps_write s1 i1 bA1 bL1 bC1 K h := by kernel_rfl
theorem wal_steps_write.chk : fnOk (cx wal_steps_write.lo wal_steps_write.od) Tryd.f50 (Tryd.f50.body.getD .skip) 3 = true := by kernel_rfl
theorem wal_steps_write.ok {s1 : Option Addr} {i1 : Int} {bA1 : Option Addr} {bL1 : Nat} {bC1 : Nat} {K : Value → Heap → Prop} {h : Heap} (hx : wal_steps_write s1 i1 bA1 bL1 bC1 K h) : C.wal_steps_write s1 i1 bA1 bL1 bC1 h K :=
  fn_to (cxOk _ _) Tryd.func50 (by kernel_rfl) wal_steps_write.chk (by rw [wal_steps_write.eq]; exact hx)

-- 51
def wal_steps_flush (s1 : Option Addr) (K : Value → Heap → Prop) (h1 : Heap) : Prop :=
  onSome s1 fun p1 =>
  ∃ (sA1 : Option Addr) (sL1 : Nat) (sC1 : Nat), cellOf h1 p1 = some (.slice sA1 sL1 sC1) ∧
  New [.func (.func 74) #[] ⟨[]⟩] 99 h1 fun h2 =>
  ∃ new1 : List Value, List.length new1 = 1 * 1 ∧ SlCells h2 (some ⟨h1.size, 0, none⟩) new1 ∧ (∀ v ∈ new1, v.oneCell' = true) ∧
  AppendP ti99 99 sA1 sL1 sC1 1 new1 h2 fun sA2 sL2 sC2 h3 =>
  onSome s1 fun p2 =>
  Put p2 (.slice sA2 sL2 sC2) h3 fun h4 =>
  K (.tuple #[]) h4
def wal_steps_flush.lo : Nat → List Nat × List (Nat × Ty) := fun n => match n with | _ => ([], [])
def wal_steps_flush.od : Nat → Od := fun n => match n with | _ => .nil
theorem wal_steps_flush.eq (s1 : Option Addr) (K : Value → Heap → Prop) (h : Heap) : fnX (cx wal_steps_flush.lo wal_steps_flush.od) Tryd.f51 (Tryd.f51.body.getD .skip) [.pointer s1] K h = wal_steps_flush s1 K h := by kernel_rfl
theorem wal_steps_flush.chk : fnOk (cx wal_steps_flush.lo wal_steps_flush.od) Tryd.f51 (Tryd.f51.body.getD .skip) 1 = true := by kernel_rfl
theorem wal_steps_flush.ok {s1 : Option Addr} {K : Value → Heap → Prop} {h : Heap} (hx : wal_steps_flush s1 K h) : C.wal_steps_flush s1 h K :=
  fn_to (cxOk _ _) Tryd.func51 (by kernel_rfl) wal_steps_flush.chk (by rw [wal_steps_flush.eq]; exact hx)

-- 52
def wal_steps_home (s1 : Option Addr) (lA1 : Option Addr) (lL1 : Nat) (lC1 : Nat) (K : Value → Heap → Prop) (h1 : Heap) : Prop :=
  ∃ (I1 : Int → Heap → Prop) (M1 : Int → Heap → Nat), I1 0 h1 ∧
  ∀ (n1 : Int), ∀ h2 : Heap, I1 n1 h2 →
  bif (decide (n1 < (lL1 : Int))) then (
  (0 ≤ n1 ∧ n1 < (lL1 : Int)) ∧
  onSome lA1 fun p1 =>
  ∃ cs1 : List Value, List.length cs1 = 2 ∧ Cells h2 (Addr.add p1 ((Int.toNat n1) * 2)) cs1 ∧
  NewRow z40 40 cs1 2 h2 fun h4 =>
  ∃ (n2 : Int), cellOf h4 (Addr.add ⟨h2.size, 0, none⟩ 0) = some (.int .i64 n2) ∧
  ∃ (sA1 : Option Addr) (sL1 : Nat) (sC1 : Nat), cellOf h4 (Addr.add ⟨h2.size, 0, none⟩ 1) = some (.slice sA1 sL1 sC1) ∧
  C.wal_steps_write s1 n2 sA1 sL1 sC1 h4 fun r1 h5 =>
  r1 = .tuple #[] ∧
  I1 (IntKind.wrap .i64 (n1 + 1)) h5 ∧ M1 (IntKind.wrap .i64 (n1 + 1)) h5 < M1 n1 h2) else (
  C.wal_steps_flush s1 h2 fun r2 h6 =>
  r2 = .tuple #[] ∧
  C.head_Empty  h6 fun r3 h7 =>
  ∃ (sA2 : Option Addr) (sL2 : Nat) (sC2 : Nat), r3 = .slice sA2 sL2 sC2 ∧
  C.wal_steps_write s1 1 sA2 sL2 sC2 h7 fun r4 h8 =>
  r4 = .tuple #[] ∧
  C.wal_steps_flush s1 h8 fun r5 h9 =>
  r5 = .tuple #[] ∧
  K (.tuple #[]) h9)
def wal_steps_home.lo : Nat → List Nat × List (Nat × Ty) := fun n => match n with | 1 => ([0, 6, 7], [(8, .int .i64)]) | _ => ([], [])
def wal_steps_home.od : Nat → Od := fun n => match n with | _ => .nil
theorem wal_steps_home.eq (s1 : Option Addr) (lA1 : Option Addr) (lL1 : Nat) (lC1 : Nat) (K : Value → Heap → Prop) (h : Heap) : fnX (cx wal_steps_home.lo wal_steps_home.od) Tryd.f52 (Tryd.f52.body.getD .skip) [.pointer s1, .slice lA1 lL1 lC1] K h = wal_steps_home s1 lA1 lL1 lC1 K h := by kernel_rfl
theorem wal_steps_home.chk : fnOk (cx wal_steps_home.lo wal_steps_home.od) Tryd.f52 (Tryd.f52.body.getD .skip) 2 = true := by kernel_rfl
theorem wal_steps_home.ok {s1 : Option Addr} {lA1 : Option Addr} {lL1 : Nat} {lC1 : Nat} {K : Value → Heap → Prop} {h : Heap} (hx : wal_steps_home s1 lA1 lL1 lC1 K h) : C.wal_steps_home s1 lA1 lL1 lC1 h K :=
  fn_to (cxOk _ _) Tryd.func52 (by kernel_rfl) wal_steps_home.chk (by rw [wal_steps_home.eq]; exact hx)

-- 53
def wal_steps_do (sA1 : Option Addr) (sL1 : Nat) (sC1 : Nat) (d1 : Option Addr) (K : Value → Heap → Prop) (h1 : Heap) : Prop :=
  ∃ (I1 : Int → Heap → Prop) (M1 : Int → Heap → Nat), I1 0 h1 ∧
  ∀ (n1 : Int), ∀ h2 : Heap, I1 n1 h2 →
  bif (decide (n1 < (sL1 : Int))) then (
  (0 ≤ n1 ∧ n1 < (sL1 : Int)) ∧
  onSome sA1 fun p1 =>
  ∃ (v1 : Value), cellOf h2 (Addr.add p1 (Int.toNat n1)) = some (v1) ∧
  HCallsV Tryd.prog v1 [.pointer d1] h2 fun r1 h3 =>
  ∃ (n2 : Int), r1 = .int .i64 n2 ∧
  bif (n2 != 0) then (
  K (.int .i64 n2) h3) else (
  I1 (IntKind.wrap .i64 (n1 + 1)) h3 ∧ M1 (IntKind.wrap .i64 (n1 + 1)) h3 < M1 n1 h2)) else (
  K (.int .i64 0) h2)
def wal_steps_do.lo : Nat → List Nat × List (Nat × Ty) := fun n => match n with | 2 => ([1, 8, 9], [(10, .int .i64)]) | _ => ([], [])
def wal_steps_do.od : Nat → Od := fun n => match n with | _ => .nil
theorem wal_steps_do.eq (sA1 : Option Addr) (sL1 : Nat) (sC1 : Nat) (d1 : Option Addr) (K : Value → Heap → Prop) (h : Heap) : fnX (cx wal_steps_do.lo wal_steps_do.od) Tryd.f53 (Tryd.f53.body.getD .skip) [.slice sA1 sL1 sC1, .pointer d1] K h = wal_steps_do sA1 sL1 sC1 d1 K h := by kernel_rfl
theorem wal_steps_do.chk : fnOk (cx wal_steps_do.lo wal_steps_do.od) Tryd.f53 (Tryd.f53.body.getD .skip) 2 = true := by kernel_rfl
theorem wal_steps_do.ok {sA1 : Option Addr} {sL1 : Nat} {sC1 : Nat} {d1 : Option Addr} {K : Value → Heap → Prop} {h : Heap} (hx : wal_steps_do sA1 sL1 sC1 d1 K h) : C.wal_steps_do sA1 sL1 sC1 d1 h K :=
  fn_to (cxOk _ _) Tryd.func53 (by kernel_rfl) wal_steps_do.chk (by rw [wal_steps_do.eq]; exact hx)

-- 56
def wal_held (d1 : Option Addr) (K KP : Value → Heap → Prop) (h1 : Heap) : Prop :=
  C.adisk_Disk_Down d1 h1 fun r1 h2 =>
  ∃ (b1 : Bool), r1 = .bool b1 ∧
  C.wal_must (!b1) 30 h2 (fun r2 h3 =>
  r2 = .tuple #[] ∧
  C.adisk_Disk_Blocks d1 h3 fun r3 h4 =>
  ∃ (n1 : Int), r3 = .int .i64 n1 ∧
  C.wal_must (decide (n1 ≥ 98)) 31 h4 (fun r4 h5 =>
  r4 = .tuple #[] ∧
  C.wal_read d1 1 h5 (fun r5 h6 =>
  ∃ (sA1 : Option Addr) (sL1 : Nat) (sC1 : Nat), r5 = .slice sA1 sL1 sC1 ∧
  C.adisk_Disk_Blocks d1 h6 fun r6 h7 =>
  ∃ (n2 : Int), r6 = .int .i64 n2 ∧
  C.head_Nums sA1 sL1 sC1 n2 h7 fun r7 h8 =>
  ∃ (sA2 : Option Addr) (sL2 : Nat) (sC2 : Nat) (n3 : Int), r7 = .tuple #[.slice sA2 sL2 sC2, .int .i64 n3] ∧
  C.wal_must (n3 == 0) 41 h8 (fun r8 h9 =>
  r8 = .tuple #[] ∧
  ∃ (I1 : Option Addr → Nat → Nat → Option Addr → Nat → Nat → Int → Heap → Prop) (M1 : Option Addr → Nat → Nat → Option Addr → Nat → Nat → Int → Heap → Nat), I1 none 0 0 none 0 0 0 h9 ∧
  ∀ (lA1 : Option Addr) (lL1 : Nat) (lC1 : Nat) (dataA1 : Option Addr) (dataL1 : Nat) (dataC1 : Nat) (n4 : Int), ∀ h10 : Heap, I1 lA1 lL1 lC1 dataA1 dataL1 dataC1 n4 h10 →
  bif (decide (n4 < (sL2 : Int))) then (
  (0 ≤ n4 ∧ n4 < (sL2 : Int)) ∧
  onSome sA2 fun p1 =>
  ∃ (n5 : Int), cellOf h10 (Addr.add p1 (Int.toNat n4)) = some (.int .i64 n5) ∧
  C.wal_read d1 (IntKind.wrap .i64 (2 + n4)) h10 (fun r9 h11 =>
  ∃ (sA3 : Option Addr) (sL3 : Nat) (sC3 : Nat), r9 = .slice sA3 sL3 sC3 ∧
  List.length ([.int .i64 n5, .slice sA3 sL3 sC3] : List Value) = 2 ∧
  New [.int .i64 n5, .slice sA3 sL3 sC3] 40 h11 fun h12 =>
  ∃ new1 : List Value, List.length new1 = 1 * 2 ∧ SlCells h12 (some ⟨h11.size, 0, none⟩) new1 ∧ (∀ v ∈ new1, v.oneCell' = true) ∧
  AppendP ti40 40 lA1 lL1 lC1 1 new1 h12 fun sA4 sL4 sC4 h13 =>
  New [.slice sA3 sL3 sC3] 28 h13 fun h14 =>
  ∃ new2 : List Value, List.length new2 = 1 * 1 ∧ SlCells h14 (some ⟨h13.size, 0, none⟩) new2 ∧ (∀ v ∈ new2, v.oneCell' = true) ∧
  AppendP ti28 28 dataA1 dataL1 dataC1 1 new2 h14 fun sA5 sL5 sC5 h15 =>
  I1 sA4 sL4 sC4 sA5 sL5 sC5 (IntKind.wrap .i64 (n4 + 1)) h15 ∧ M1 sA4 sL4 sC4 sA5 sL5 sC5 (IntKind.wrap .i64 (n4 + 1)) h15 < M1 lA1 lL1 lC1 dataA1 dataL1 dataC1 n4 h10) (fun x1 h16 =>
  KP x1 h16)) else (
  bif ((sL2 : Int) == 0) then (
  C.wal_must true 41 h10 (fun r10 h17 =>
  r10 = .tuple #[] ∧
  K (.slice lA1 lL1 lC1) h17) (fun x2 h18 =>
  KP x2 h18)) else (
  C.adisk_Disk_Blocks d1 h10 fun r11 h19 =>
  ∃ (n6 : Int), r11 = .int .i64 n6 ∧
  C.head_Good sA1 sL1 sC1 n6 dataA1 dataL1 dataC1 h19 fun r12 h20 =>
  ∃ (b2 : Bool), r12 = .bool b2 ∧
  C.wal_must b2 41 h20 (fun r13 h21 =>
  r13 = .tuple #[] ∧
  K (.slice lA1 lL1 lC1) h21) (fun x3 h22 =>
  KP x3 h22)))) (fun x4 h23 =>
  KP x4 h23)) (fun x5 h24 =>
  KP x5 h24)) (fun x6 h25 =>
  KP x6 h25)) (fun x7 h26 =>
  KP x7 h26)
def wal_held.lo : Nat → List Nat × List (Nat × Ty) := fun n => match n with | 9 => ([0, 2, 3, 4, 31, 32], [(6, .slice), (7, .slice), (33, .int .i64)]) | _ => ([], [])
def wal_held.od : Nat → Od := fun n => match n with | _ => .nil
theorem wal_held.eq (d1 : Option Addr) (K KP : Value → Heap → Prop) (h : Heap) : fnPX (cx wal_held.lo wal_held.od) Tryd.f56 (Tryd.f56.body.getD .skip) [.pointer d1] K KP h = wal_held d1 K KP h := by kernel_rfl
theorem wal_held.chk : fnOk (cx wal_held.lo wal_held.od) Tryd.f56 (Tryd.f56.body.getD .skip) 1 = true := by kernel_rfl
theorem wal_held.ok {d1 : Option Addr} {K KP : Value → Heap → Prop} {h : Heap} (hx : wal_held d1 K KP h) : C.wal_held d1 h K KP :=
  fnP_to (cxOk _ _) Tryd.func56 (by kernel_rfl) wal_held.chk (by rw [wal_held.eq]; exact hx)

-- 57
def wal_read (d1 : Option Addr) (i1 : Int) (K KP : Value → Heap → Prop) (h1 : Heap) : Prop :=
  C.adisk_Disk_Read d1 i1 h1 fun r1 h2 =>
  ∃ (sA1 : Option Addr) (sL1 : Nat) (sC1 : Nat) (n1 : Int), r1 = .tuple #[.slice sA1 sL1 sC1, .int .i64 n1] ∧
  C.wal_must (n1 == 0) n1 h2 (fun r2 h3 =>
  r2 = .tuple #[] ∧
  K (.slice sA1 sL1 sC1) h3) (fun x1 h4 =>
  KP x1 h4)
def wal_read.lo : Nat → List Nat × List (Nat × Ty) := fun n => match n with | _ => ([], [])
def wal_read.od : Nat → Od := fun n => match n with | _ => .nil
theorem wal_read.eq (d1 : Option Addr) (i1 : Int) (K KP : Value → Heap → Prop) (h : Heap) : fnPX (cx wal_read.lo wal_read.od) Tryd.f57 (Tryd.f57.body.getD .skip) [.pointer d1, .int .i64 i1] K KP h = wal_read d1 i1 K KP h := by kernel_rfl
theorem wal_read.chk : fnOk (cx wal_read.lo wal_read.od) Tryd.f57 (Tryd.f57.body.getD .skip) 2 = true := by kernel_rfl
theorem wal_read.ok {d1 : Option Addr} {i1 : Int} {K KP : Value → Heap → Prop} {h : Heap} (hx : wal_read d1 i1 K KP h) : C.wal_read d1 i1 h K KP :=
  fnP_to (cxOk _ _) Tryd.func57 (by kernel_rfl) wal_read.chk (by rw [wal_read.eq]; exact hx)
end Go.Proofs.YtpleolmalbdpnaaDoor.W
