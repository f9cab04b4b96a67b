/-
  WHAT THE FUNCTIONS COMPUTE, as formulas; each held against the loaded code by the kernel. Written by program (gen.py).
-/
import Derived.Test.YtpleolmalbdpnaaDoorTab
namespace Go.Proofs.YtpleolmalbdpnaaDoor.W
open Go Go.Proofs Go.Proofs.YtpleolmalbdpnaaDoor.Wx
-- 58
def head_Empty  (K : Value → Heap → Prop) (h1 : Heap) : Prop :=
  (0 ≤ (512 : Int) ∧ (512 : Int) ≤ 512 ∧ (1 : Int) * 512 ≤ 281474976710656 ∧ (512 : Int) ≤ 281474976710656) ∧
  New (repCells z5 (Int.toNat 512)) 5 h1 fun h2 =>
  K (.slice (some ⟨h1.size, 0, none⟩) (Int.toNat 512) (Int.toNat 512)) h2
def head_Empty.lo : Nat → List Nat × List (Nat × Ty) := fun n => match n with | _ => ([], [])
def head_Empty.od : Nat → Od := fun n => match n with | _ => .nil
theorem head_Empty.eq  (K : Value → Heap → Prop) (h : Heap) : fnX (cx head_Empty.lo head_Empty.od) Tryd.f58 (Tryd.f58.body.getD .skip) [] K h = head_Empty  K h := by kernel_rfl
theorem head_Empty.chk : fnOk (cx head_Empty.lo head_Empty.od) Tryd.f58 (Tryd.f58.body.getD .skip) 0 = true := by kernel_rfl
theorem head_Empty.ok  {K : Value → Heap → Prop} {h : Heap} (hx : head_Empty  K h) : C.head_Empty  h K :=
  fn_to (cxOk _ _) Tryd.func58 (by kernel_rfl) head_Empty.chk (by rw [head_Empty.eq]; exact hx)

-- 60
def slices_Clone_bool_bool (sA1 : Option Addr) (sL1 : Nat) (sC1 : Nat) (K : Value → Heap → Prop) (h1 : Heap) : Prop :=
  bif (Option.isNone sA1) then (
  K (.slice none 0 0) h1) else (
  New [] 4 h1 fun h2 =>
  ∃ new1 : List Value, List.length new1 = sL1 * 1 ∧ SlCells h2 sA1 new1 ∧ (∀ v ∈ new1, v.oneCell' = true) ∧
  AppendP ti4 4 (some ⟨h1.size, 0, none⟩) 0 0 sL1 new1 h2 fun sA2 sL2 sC2 h3 =>
  K (.slice sA2 sL2 sC2) h3)
def slices_Clone_bool_bool.lo : Nat → List Nat × List (Nat × Ty) := fun n => match n with | _ => ([], [])
def slices_Clone_bool_bool.od : Nat → Od := fun n => match n with | _ => .nil
theorem slices_Clone_bool_bool.eq (sA1 : Option Addr) (sL1 : Nat) (sC1 : Nat) (K : Value → Heap → Prop) (h : Heap) : fnX (cx slices_Clone_bool_bool.lo slices_Clone_bool_bool.od) Tryd.f60 (Tryd.f60.body.getD .skip) [.slice sA1 sL1 sC1] K h = slices_Clone_bool_bool sA1 sL1 sC1 K h := by kernel_rfl
theorem slices_Clone_bool_bool.chk : fnOk (cx slices_Clone_bool_bool.lo slices_Clone_bool_bool.od) Tryd.f60 (Tryd.f60.body.getD .skip) 1 = true := by kernel_rfl
theorem slices_Clone_bool_bool.ok {sA1 : Option Addr} {sL1 : Nat} {sC1 : Nat} {K : Value → Heap → Prop} {h : Heap} (hx : slices_Clone_bool_bool sA1 sL1 sC1 K h) : C.slices_Clone_bool_bool sA1 sL1 sC1 h K :=
  fn_to (cxOk _ _) Tryd.func60 (by kernel_rfl) slices_Clone_bool_bool.chk (by rw [slices_Clone_bool_bool.eq]; exact hx)

-- 61
def bolelaw06_Put_place (p1 : List Value) (K : Value → Heap → Prop) (h1 : Heap) : Prop :=
  New p1 113 h1 fun h2 =>
  ∃ (n1 : Int), cellOf h2 (Addr.add ⟨h1.size, 0, none⟩ 0) = some (.int .i64 n1) ∧
  C.bolelaw06_mod n1 20 h2 fun r1 h3 =>
  ∃ (n2 : Int), r1 = .int .i64 n2 ∧
  K (.int .i64 (IntKind.wrap .i64 (98 + n2))) h3
def bolelaw06_Put_place.lo : Nat → List Nat × List (Nat × Ty) := fun n => match n with | _ => ([], [])
def bolelaw06_Put_place.od : Nat → Od := fun n => match n with | _ => .nil
theorem bolelaw06_Put_place.eq (p1 : List Value) (K : Value → Heap → Prop) (h : Heap) : fnX (cx bolelaw06_Put_place.lo bolelaw06_Put_place.od) Tryd.f61 (Tryd.f61.body.getD .skip) [.agg ⟨p1⟩] K h = bolelaw06_Put_place p1 K h := by kernel_rfl
theorem bolelaw06_Put_place.chk : fnOk (cx bolelaw06_Put_place.lo bolelaw06_Put_place.od) Tryd.f61 (Tryd.f61.body.getD .skip) 1 = true := by kernel_rfl
theorem bolelaw06_Put_place.ok {p1 : List Value} {K : Value → Heap → Prop} {h : Heap} (hx : bolelaw06_Put_place p1 K h) : C.bolelaw06_Put_place p1 h K :=
  fn_to (cxOk _ _) Tryd.func61 (by kernel_rfl) bolelaw06_Put_place.chk (by rw [bolelaw06_Put_place.eq]; exact hx)

-- 62
def adisk_Disk_has (d1 : Option Addr) (i1 : Int) (K : Value → Heap → Prop) (h1 : Heap) : Prop :=
  bif (decide (i1 ≥ 0)) then (
  onSome d1 fun p1 =>
  ∃ (sA1 : Option Addr) (sL1 : Nat) (sC1 : Nat), cellOf h1 (Addr.add p1 0) = some (.slice sA1 sL1 sC1) ∧
  K (.bool (decide (i1 < (sL1 : Int)))) h1) else (
  K (.bool false) h1)
def adisk_Disk_has.lo : Nat → List Nat × List (Nat × Ty) := fun n => match n with | _ => ([], [])
def adisk_Disk_has.od : Nat → Od := fun n => match n with | _ => .nil
theorem adisk_Disk_has.eq (d1 : Option Addr) (i1 : Int) (K : Value → Heap → Prop) (h : Heap) : fnX (cx adisk_Disk_has.lo adisk_Disk_has.od) Tryd.f62 (Tryd.f62.body.getD .skip) [.pointer d1, .int .i64 i1] K h = adisk_Disk_has d1 i1 K h := by kernel_rfl
theorem adisk_Disk_has.chk : fnOk (cx adisk_Disk_has.lo adisk_Disk_has.od) Tryd.f62 (Tryd.f62.body.getD .skip) 2 = true := by kernel_rfl
theorem adisk_Disk_has.ok {d1 : Option Addr} {i1 : Int} {K : Value → Heap → Prop} {h : Heap} (hx : adisk_Disk_has d1 i1 K h) : C.adisk_Disk_has d1 i1 h K :=
  fn_to (cxOk _ _) Tryd.func62 (by kernel_rfl) adisk_Disk_has.chk (by rw [adisk_Disk_has.eq]; exact hx)

-- 64
def maps_Keys_map_int_byte_int_byte (m1 : Option Nat) (K : Value → Heap → Prop) (h1 : Heap) : Prop :=
  New [.map m1] 108 h1 fun h2 =>
  K (.func (.func 81) #[] ⟨[.pointer (some ⟨h1.size, 0, none⟩)]⟩) h2
def maps_Keys_map_int_byte_int_byte.lo : Nat → List Nat × List (Nat × Ty) := fun n => match n with | _ => ([], [])
def maps_Keys_map_int_byte_int_byte.od : Nat → Od := fun n => match n with | _ => .nil
theorem maps_Keys_map_int_byte_int_byte.eq (m1 : Option Nat) (K : Value → Heap → Prop) (h : Heap) : fnX (cx maps_Keys_map_int_byte_int_byte.lo maps_Keys_map_int_byte_int_byte.od) Tryd.f64 (Tryd.f64.body.getD .skip) [.map m1] K h = maps_Keys_map_int_byte_int_byte m1 K h := by kernel_rfl
theorem maps_Keys_map_int_byte_int_byte.chk : fnOk (cx maps_Keys_map_int_byte_int_byte.lo maps_Keys_map_int_byte_int_byte.od) Tryd.f64 (Tryd.f64.body.getD .skip) 1 = true := by kernel_rfl
theorem maps_Keys_map_int_byte_int_byte.ok {m1 : Option Nat} {K : Value → Heap → Prop} {h : Heap} (hx : maps_Keys_map_int_byte_int_byte m1 K h) : C.maps_Keys_map_int_byte_int_byte m1 h K :=
  fn_to (cxOk _ _) Tryd.func64 (by kernel_rfl) maps_Keys_map_int_byte_int_byte.chk (by rw [maps_Keys_map_int_byte_int_byte.eq]; exact hx)

-- 65
def txn_Txn_end (t1 : Option Addr) (K : Value → Heap → Prop) (h1 : Heap) : Prop :=
  onSome t1 fun p1 =>
  Put (Addr.add p1 1) (.map none) h1 fun h2 =>
  onSome t1 fun p2 =>
  Put (Addr.add p2 2) (.slice none 0 0) h2 fun h3 =>
  onSome t1 fun p3 =>
  Put (Addr.add p3 3) (.bool true) h3 fun h4 =>
  K (.tuple #[]) h4
def txn_Txn_end.lo : Nat → List Nat × List (Nat × Ty) := fun n => match n with | _ => ([], [])
def txn_Txn_end.od : Nat → Od := fun n => match n with | _ => .nil
theorem txn_Txn_end.eq (t1 : Option Addr) (K : Value → Heap → Prop) (h : Heap) : fnX (cx txn_Txn_end.lo txn_Txn_end.od) Tryd.f65 (Tryd.f65.body.getD .skip) [.pointer t1] K h = txn_Txn_end t1 K h := by kernel_rfl
theorem txn_Txn_end.chk : fnOk (cx txn_Txn_end.lo txn_Txn_end.od) Tryd.f65 (Tryd.f65.body.getD .skip) 1 = true := by kernel_rfl
theorem txn_Txn_end.ok {t1 : Option Addr} {K : Value → Heap → Prop} {h : Heap} (hx : txn_Txn_end t1 K h) : C.txn_Txn_end t1 h K :=
  fn_to (cxOk _ _) Tryd.func65 (by kernel_rfl) txn_Txn_end.chk (by rw [txn_Txn_end.eq]; exact hx)
theorem txn_Txn_end.chkD : fnOkD (cx txn_Txn_end.lo txn_Txn_end.od) Tryd.f65 (Tryd.f65.body.getD .skip) 1 = true := by kernel_rfl
theorem txn_Txn_end.okD {t1 : Option Addr} {K : Heap → Prop} {h : Heap} (hx : txn_Txn_end t1 (fun _ h' => K h') h) : D.txn_Txn_end t1 h K :=
  fnD_to (cxOk _ _) Tryd.func65 (by kernel_rfl) txn_Txn_end.chkD (by rw [txn_Txn_end.eq]; exact hx)

-- 66
def txn_Txn_Write_c1 (cap1 : Option Addr) (cap2 : Option Addr) (cap3 : Option Addr) (cap4 : Option Addr) (K : Value → Heap → Prop) (h1 : Heap) : Prop :=
  onSome cap1 fun p1 =>
  ∃ (b1 : Bool), cellOf h1 p1 = some (.bool b1) ∧
  bif b1 then (
  onSome cap3 fun p2 =>
  ∃ (q1 : Option Addr), cellOf h1 p2 = some (.pointer q1) ∧
  onSome q1 fun p3 =>
  ∃ (m1 : Option Nat), cellOf h1 (Addr.add p3 1) = some (.map m1) ∧
  onSome cap4 fun p4 =>
  ∃ (n1 : Int), cellOf h1 p4 = some (.int .i64 n1) ∧
  onSome cap2 fun p5 =>
  ∃ (sA1 : Option Addr) (sL1 : Nat) (sC1 : Nat), cellOf h1 p5 = some (.slice sA1 sL1 sC1) ∧
  onSome m1 fun r1 =>
  MapPut (.int .i64) r1 (.i n1) (.slice sA1 sL1 sC1) h1 fun h2 =>
  K (.tuple #[]) h2) else (
  onSome cap3 fun p6 =>
  ∃ (q2 : Option Addr), cellOf h1 p6 = some (.pointer q2) ∧
  onSome q2 fun p7 =>
  ∃ (m2 : Option Nat), cellOf h1 (Addr.add p7 1) = some (.map m2) ∧
  onSome cap4 fun p8 =>
  ∃ (n2 : Int), cellOf h1 p8 = some (.int .i64 n2) ∧
  MapDel (.int .i64) m2 (.i n2) h1 fun h3 =>
  K (.tuple #[]) h3)
def txn_Txn_Write_c1.lo : Nat → List Nat × List (Nat × Ty) := fun n => match n with | _ => ([], [])
def txn_Txn_Write_c1.od : Nat → Od := fun n => match n with | 1 => (.op 0 [] (.op 1 [] (.op 2 [] (.op 3 [] (.op 4 [] (.op 5 [] (.op 6 [] .nil))))))) | 2 => (.op 0 [] (.op 1 [] (.op 2 [] (.op 3 [] (.op 4 [] (.op 5 [] .nil)))))) | _ => .nil
theorem txn_Txn_Write_c1.eq (cap1 : Option Addr) (cap2 : Option Addr) (cap3 : Option Addr) (cap4 : Option Addr) (K : Value → Heap → Prop) (h : Heap) : fnX (cx txn_Txn_Write_c1.lo txn_Txn_Write_c1.od) Tryd.f66 (Tryd.f66.body.getD .skip) [.pointer cap1, .pointer cap2, .pointer cap3, .pointer cap4] K h = txn_Txn_Write_c1 cap1 cap2 cap3 cap4 K h := by kernel_rfl
theorem txn_Txn_Write_c1.chk : fnOk (cx txn_Txn_Write_c1.lo txn_Txn_Write_c1.od) Tryd.f66 (Tryd.f66.body.getD .skip) 4 = true := by kernel_rfl
theorem txn_Txn_Write_c1.ok {cap1 : Option Addr} {cap2 : Option Addr} {cap3 : Option Addr} {cap4 : Option Addr} {K : Value → Heap → Prop} {h : Heap} (hx : txn_Txn_Write_c1 cap1 cap2 cap3 cap4 K h) : C.txn_Txn_Write_c1 cap1 cap2 cap3 cap4 h K :=
  fn_to (cxOk _ _) Tryd.func66 (by kernel_rfl) txn_Txn_Write_c1.chk (by rw [txn_Txn_Write_c1.eq]; exact hx)

-- 67
def head_may (numsA1 : Option Addr) (numsL1 : Nat) (numsC1 : Nat) (n1 : Int) (K : Value → Heap → Prop) (h1 : Heap) : Prop :=
  New [.int .i64 n1] 3 h1 fun h2 =>
  New z3 3 h2 fun h3 =>
  Put ⟨h2.size, 0, none⟩ (.int .i64 97) h3 fun h4 =>
  ∃ (I1 : Int → Heap → Prop) (M1 : Int → Heap → Nat), I1 0 h4 ∧
  ∀ (n2 : Int), ∀ h5 : Heap, I1 n2 h5 →
  bif (decide (n2 < (numsL1 : Int))) then (
  (0 ≤ n2 ∧ n2 < (numsL1 : Int)) ∧
  onSome numsA1 fun p1 =>
  ∃ (n3 : Int), cellOf h5 (Addr.add p1 (Int.toNat n2)) = some (.int .i64 n3) ∧
  C.head_may_c1 n3 (some ⟨h2.size, 0, none⟩) (some ⟨h1.size, 0, none⟩) h5 fun r1 h6 =>
  ∃ (b1 : Bool), r1 = .bool b1 ∧
  bif b1 then (
  K (.bool false) h6) else (
  I1 (IntKind.wrap .i64 (n2 + 1)) h6 ∧ M1 (IntKind.wrap .i64 (n2 + 1)) h6 < M1 n2 h5)) else (
  bif (decide ((numsL1 : Int) ≥ 1)) then (
  K (.bool (decide ((numsL1 : Int) ≤ 96))) h5) else (
  K (.bool false) h5))
def head_may.lo : Nat → List Nat × List (Nat × Ty) := fun n => match n with | 4 => ([0, 6, 10, 11], [(12, .int .i64)]) | _ => ([], [])
def head_may.od : Nat → Od := fun n => match n with | _ => .nil
theorem head_may.eq (numsA1 : Option Addr) (numsL1 : Nat) (numsC1 : Nat) (n1 : Int) (K : Value → Heap → Prop) (h : Heap) : fnX (cx head_may.lo head_may.od) Tryd.f67 (Tryd.f67.body.getD .skip) [.slice numsA1 numsL1 numsC1, .int .i64 n1] K h = head_may numsA1 numsL1 numsC1 n1 K h := by kernel_rfl
theorem head_may.chk : fnOk (cx head_may.lo head_may.od) Tryd.f67 (Tryd.f67.body.getD .skip) 2 = true := by kernel_rfl
theorem head_may.ok {numsA1 : Option Addr} {numsL1 : Nat} {numsC1 : Nat} {n1 : Int} {K : Value → Heap → Prop} {h : Heap} (hx : head_may numsA1 numsL1 numsC1 n1 K h) : C.head_may numsA1 numsL1 numsC1 n1 h K :=
  fn_to (cxOk _ _) Tryd.func67 (by kernel_rfl) head_may.chk (by rw [head_may.eq]; exact hx)

-- 68
def head_areBlocks (dataA1 : Option Addr) (dataL1 : Nat) (dataC1 : Nat) (n1 : Int) (K : Value → Heap → Prop) (h1 : Heap) : Prop :=
  ∃ (I1 : Int → Heap → Prop) (M1 : Int → Heap → Nat), I1 0 h1 ∧
  ∀ (n2 : Int), ∀ h2 : Heap, I1 n2 h2 →
  bif (decide (n2 < (dataL1 : Int))) then (
  (0 ≤ n2 ∧ n2 < (dataL1 : Int)) ∧
  onSome dataA1 fun p1 =>
  ∃ (sA1 : Option Addr) (sL1 : Nat) (sC1 : Nat), cellOf h2 (Addr.add p1 (Int.toNat n2)) = some (.slice sA1 sL1 sC1) ∧
  bif ((sL1 : Int) != 512) then (
  K (.bool false) h2) else (
  I1 (IntKind.wrap .i64 (n2 + 1)) h2 ∧ M1 (IntKind.wrap .i64 (n2 + 1)) h2 < M1 n2 h2)) else (
  K (.bool ((dataL1 : Int) == n1)) h2)
def head_areBlocks.lo : Nat → List Nat × List (Nat × Ty) := fun n => match n with | 2 => ([0, 1, 7, 8], [(9, .int .i64)]) | _ => ([], [])
def head_areBlocks.od : Nat → Od := fun n => match n with | _ => .nil
theorem head_areBlocks.eq (dataA1 : Option Addr) (dataL1 : Nat) (dataC1 : Nat) (n1 : Int) (K : Value → Heap → Prop) (h : Heap) : fnX (cx head_areBlocks.lo head_areBlocks.od) Tryd.f68 (Tryd.f68.body.getD .skip) [.slice dataA1 dataL1 dataC1, .int .i64 n1] K h = head_areBlocks dataA1 dataL1 dataC1 n1 K h := by kernel_rfl
theorem head_areBlocks.chk : fnOk (cx head_areBlocks.lo head_areBlocks.od) Tryd.f68 (Tryd.f68.body.getD .skip) 2 = true := by kernel_rfl
theorem head_areBlocks.ok {dataA1 : Option Addr} {dataL1 : Nat} {dataC1 : Nat} {n1 : Int} {K : Value → Heap → Prop} {h : Heap} (hx : head_areBlocks dataA1 dataL1 dataC1 n1 K h) : C.head_areBlocks dataA1 dataL1 dataC1 n1 h K :=
  fn_to (cxOk _ _) Tryd.func68 (by kernel_rfl) head_areBlocks.chk (by rw [head_areBlocks.eq]; exact hx)

-- 69
def rec_PutText (bA1 : Option Addr) (bL1 : Nat) (bC1 : Nat) (at1 : Int) (n1 : Int) (s1 : ByteArray) (K : Value → Heap → Prop) (h1 : Heap) : Prop :=
  bif (decide (n1 < 0)) then (
  K (.int .i64 1) h1) else (
  bif (decide ((s1.size : Int) > n1)) then (
  K (.int .i64 1) h1) else (
  NewS s1 5 h1 fun cap1 h2 =>
  C.rec_ahead (some ⟨h1.size, 0, none⟩) s1.size cap1 h2 fun r1 h3 =>
  ∃ (n2 : Int), r1 = .int .i64 n2 ∧
  bif (decide (n2 < (s1.size : Int))) then (
  K (.int .i64 1) h3) else (
  C.rec_lie bA1 bL1 bC1 at1 n1 h3 fun r2 h4 =>
  ∃ (b1 : Bool), r2 = .bool b1 ∧
  bif (!b1) then (
  K (.int .i64 20) h4) else (
  (0 ≤ at1 ∧ at1 ≤ (IntKind.wrap .i64 (at1 + n1)) ∧ (IntKind.wrap .i64 (at1 + n1)) ≤ (bC1 : Int)) ∧
  CopyP ti5 (if bC1 = (Int.toNat at1) then bA1 else Option.map (Addr.add · (Int.toNat at1)) bA1) ((Int.toNat (IntKind.wrap .i64 (at1 + n1))) - (Int.toNat at1)) (.string s1) h4 fun n3 h5 =>
  (0 ≤ (IntKind.wrap .i64 (at1 + (n3 : Int))) ∧ (IntKind.wrap .i64 (at1 + (n3 : Int))) ≤ (IntKind.wrap .i64 (at1 + n1)) ∧ (IntKind.wrap .i64 (at1 + n1)) ≤ (bC1 : Int)) ∧
  ClearP ti5 (if bC1 = (Int.toNat (IntKind.wrap .i64 (at1 + (n3 : Int)))) then bA1 else Option.map (Addr.add · (Int.toNat (IntKind.wrap .i64 (at1 + (n3 : Int))))) bA1) ((Int.toNat (IntKind.wrap .i64 (at1 + n1))) - (Int.toNat (IntKind.wrap .i64 (at1 + (n3 : Int))))) h5 fun h6 =>
  K (.int .i64 0) h6))))
def rec_PutText.lo : Nat → List Nat × List (Nat × Ty) := fun n => match n with | _ => ([], [])
def rec_PutText.od : Nat → Od := fun n => match n with | _ => .nil
theorem rec_PutText.eq (bA1 : Option Addr) (bL1 : Nat) (bC1 : Nat) (at1 : Int) (n1 : Int) (s1 : ByteArray) (K : Value → Heap → Prop) (h : Heap) : fnX (cx rec_PutText.lo rec_PutText.od) Tryd.f69 (Tryd.f69.body.getD .skip) [.slice bA1 bL1 bC1, .int .i64 at1, .int .i64 n1, .string s1] K h = rec_PutText bA1 bL1 bC1 at1 n1 s1 K h := by kernel_rfl
theorem rec_PutText.chk : fnOk (cx rec_PutText.lo rec_PutText.od) Tryd.f69 (Tryd.f69.body.getD .skip) 4 = true := by kernel_rfl
theorem rec_PutText.ok {bA1 : Option Addr} {bL1 : Nat} {bC1 : Nat} {at1 : Int} {n1 : Int} {s1 : ByteArray} {K : Value → Heap → Prop} {h : Heap} (hx : rec_PutText bA1 bL1 bC1 at1 n1 s1 K h) : C.rec_PutText bA1 bL1 bC1 at1 n1 s1 h K :=
  fn_to (cxOk _ _) Tryd.func69 (by kernel_rfl) rec_PutText.chk (by rw [rec_PutText.eq]; exact hx)

-- 70
def rec_Put (bA1 : Option Addr) (bL1 : Nat) (bC1 : Nat) (at1 : Int) (n1 : Int) (v1 : Int) (K : Value → Heap → Prop) (h1 : Heap) : Prop :=
  C.rec_isWidth n1 h1 fun r1 h2 =>
  ∃ (b1 : Bool), r1 = .bool b1 ∧
  bif (!b1) then (
  K (.int .i64 1) h2) else (
  bif (decide (n1 < 8)) then (
  if (IntKind.wrap .i64 (8 * n1)) < 0 then False else
  bif ((Int.fdiv v1 (2 ^ min (Int.toNat (IntKind.wrap .i64 (8 * n1))) 64)) != 0) then (
  K (.int .i64 1) h2) else (
  C.rec_lie bA1 bL1 bC1 at1 n1 h2 fun r2 h3 =>
  ∃ (b2 : Bool), r2 = .bool b2 ∧
  bif (!b2) then (
  K (.int .i64 20) h3) else (
  ∃ (I1 : Int → Heap → Prop) (M1 : Int → Heap → Nat), I1 0 h3 ∧
  ∀ (n2 : Int), ∀ h4 : Heap, I1 n2 h4 →
  bif (decide (n2 < n1)) then (
  if (IntKind.wrap .i64 (8 * n2)) < 0 then False else
  (0 ≤ (IntKind.wrap .i64 (at1 + n2)) ∧ (IntKind.wrap .i64 (at1 + n2)) < (bL1 : Int)) ∧
  onSome bA1 fun p1 =>
  Put (Addr.add p1 (Int.toNat (IntKind.wrap .i64 (at1 + n2)))) (.int .u8 (IntKind.wrap .u8 ((Int.fdiv v1 (2 ^ min (Int.toNat (IntKind.wrap .i64 (8 * n2))) 64))))) h4 fun h5 =>
  I1 (IntKind.wrap .i64 (n2 + 1)) h5 ∧ M1 (IntKind.wrap .i64 (n2 + 1)) h5 < M1 n2 h4) else (
  K (.int .i64 0) h4)))) else (
  C.rec_lie bA1 bL1 bC1 at1 n1 h2 fun r3 h6 =>
  ∃ (b3 : Bool), r3 = .bool b3 ∧
  bif (!b3) then (
  K (.int .i64 20) h6) else (
  ∃ (I2 : Int → Heap → Prop) (M2 : Int → Heap → Nat), I2 0 h6 ∧
  ∀ (n3 : Int), ∀ h7 : Heap, I2 n3 h7 →
  bif (decide (n3 < n1)) then (
  if (IntKind.wrap .i64 (8 * n3)) < 0 then False else
  (0 ≤ (IntKind.wrap .i64 (at1 + n3)) ∧ (IntKind.wrap .i64 (at1 + n3)) < (bL1 : Int)) ∧
  onSome bA1 fun p2 =>
  Put (Addr.add p2 (Int.toNat (IntKind.wrap .i64 (at1 + n3)))) (.int .u8 (IntKind.wrap .u8 ((Int.fdiv v1 (2 ^ min (Int.toNat (IntKind.wrap .i64 (8 * n3))) 64))))) h7 fun h8 =>
  I2 (IntKind.wrap .i64 (n3 + 1)) h8 ∧ M2 (IntKind.wrap .i64 (n3 + 1)) h8 < M2 n3 h7) else (
  K (.int .i64 0) h7))))
def rec_Put.lo : Nat → List Nat × List (Nat × Ty) := fun n => match n with | 6 => ([0, 1, 3, 31], [(32, .int .i64)]) | _ => ([], [])
def rec_Put.od : Nat → Od := fun n => match n with | _ => .nil
theorem rec_Put.eq (bA1 : Option Addr) (bL1 : Nat) (bC1 : Nat) (at1 : Int) (n1 : Int) (v1 : Int) (K : Value → Heap → Prop) (h : Heap) : fnX (cx rec_Put.lo rec_Put.od) Tryd.f70 (Tryd.f70.body.getD .skip) [.slice bA1 bL1 bC1, .int .i64 at1, .int .i64 n1, .int .u64 v1] K h = rec_Put bA1 bL1 bC1 at1 n1 v1 K h := by kernel_rfl
theorem rec_Put.chk : fnOk (cx rec_Put.lo rec_Put.od) Tryd.f70 (Tryd.f70.body.getD .skip) 4 = true := by kernel_rfl
theorem rec_Put.ok {bA1 : Option Addr} {bL1 : Nat} {bC1 : Nat} {at1 : Int} {n1 : Int} {v1 : Int} {K : Value → Heap → Prop} {h : Heap} (hx : rec_Put bA1 bL1 bC1 at1 n1 v1 K h) : C.rec_Put bA1 bL1 bC1 at1 n1 v1 h K :=
  fn_to (cxOk _ _) Tryd.func70 (by kernel_rfl) rec_Put.chk (by rw [rec_Put.eq]; exact hx)

-- 71
def head_sumOf (headA1 : Option Addr) (headL1 : Nat) (headC1 : Nat) (piecesA1 : Option Addr) (piecesL1 : Nat) (piecesC1 : Nat) (K : Value → Heap → Prop) (h1 : Heap) : Prop :=
  C.bytes_Clone headA1 headL1 headC1 h1 fun r1 h2 =>
  ∃ (sA1 : Option Addr) (sL1 : Nat) (sC1 : Nat), r1 = .slice sA1 sL1 sC1 ∧
  C.rec_Put sA1 sL1 sC1 12 4 0 h2 fun r2 h3 =>
  ∃ (n1 : Int), r2 = .int .i64 n1 ∧
  C.sum_Of sA1 sL1 sC1 h3 fun r3 h4 =>
  ∃ (n2 : Int), r3 = .int .u32 n2 ∧
  ∃ (I1 : Int → Int → Heap → Prop) (M1 : Int → Int → Heap → Nat), I1 n2 0 h4 ∧
  ∀ (s1 : Int) (n3 : Int), ∀ h5 : Heap, I1 s1 n3 h5 →
  bif (decide (n3 < (piecesL1 : Int))) then (
  (0 ≤ n3 ∧ n3 < (piecesL1 : Int)) ∧
  onSome piecesA1 fun p1 =>
  ∃ (sA2 : Option Addr) (sL2 : Nat) (sC2 : Nat), cellOf h5 (Addr.add p1 (Int.toNat n3)) = some (.slice sA2 sL2 sC2) ∧
  C.sum_Of sA2 sL2 sC2 h5 fun r4 h6 =>
  ∃ (n4 : Int), r4 = .int .u32 n4 ∧
  C.sum_Join s1 n4 (sL2 : Int) h6 fun r5 h7 =>
  ∃ (n5 : Int) (n6 : Int), r5 = .tuple #[.int .u32 n5, .int .i64 n6] ∧
  I1 n5 (IntKind.wrap .i64 (n3 + 1)) h7 ∧ M1 n5 (IntKind.wrap .i64 (n3 + 1)) h7 < M1 s1 n3 h5) else (
  K (.int .u32 s1) h5)
def head_sumOf.lo : Nat → List Nat × List (Nat × Ty) := fun n => match n with | 5 => ([15, 16], [(6, .int .u32), (17, .int .i64)]) | _ => ([], [])
def head_sumOf.od : Nat → Od := fun n => match n with | _ => .nil
theorem head_sumOf.eq (headA1 : Option Addr) (headL1 : Nat) (headC1 : Nat) (piecesA1 : Option Addr) (piecesL1 : Nat) (piecesC1 : Nat) (K : Value → Heap → Prop) (h : Heap) : fnX (cx head_sumOf.lo head_sumOf.od) Tryd.f71 (Tryd.f71.body.getD .skip) [.slice headA1 headL1 headC1, .slice piecesA1 piecesL1 piecesC1] K h = head_sumOf headA1 headL1 headC1 piecesA1 piecesL1 piecesC1 K h := by kernel_rfl
theorem head_sumOf.chk : fnOk (cx head_sumOf.lo head_sumOf.od) Tryd.f71 (Tryd.f71.body.getD .skip) 2 = true := by kernel_rfl
theorem head_sumOf.ok {headA1 : Option Addr} {headL1 : Nat} {headC1 : Nat} {piecesA1 : Option Addr} {piecesL1 : Nat} {piecesC1 : Nat} {K : Value → Heap → Prop} {h : Heap} (hx : head_sumOf headA1 headL1 headC1 piecesA1 piecesL1 piecesC1 K h) : C.head_sumOf headA1 headL1 headC1 piecesA1 piecesL1 piecesC1 h K :=
  fn_to (cxOk _ _) Tryd.func71 (by kernel_rfl) head_sumOf.chk (by rw [head_sumOf.eq]; exact hx)

-- 72
def wal_steps_write_c1 (d1 : Option Addr) (cap1 : Option Addr) (cap2 : Option Addr) (K : Value → Heap → Prop) (h1 : Heap) : Prop :=
  onSome cap1 fun p1 =>
  ∃ (n1 : Int), cellOf h1 p1 = some (.int .i64 n1) ∧
  onSome cap2 fun p2 =>
  ∃ (sA1 : Option Addr) (sL1 : Nat) (sC1 : Nat), cellOf h1 p2 = some (.slice sA1 sL1 sC1) ∧
  C.adisk_Disk_Write d1 n1 sA1 sL1 sC1 h1 fun r1 h2 =>
  ∃ (n2 : Int), r1 = .int .i64 n2 ∧
  K (.int .i64 n2) h2
def wal_steps_write_c1.lo : Nat → List Nat × List (Nat × Ty) := fun n => match n with | _ => ([], [])
def wal_steps_write_c1.od : Nat → Od := fun n => match n with | _ => .nil
theorem wal_steps_write_c1.eq (d1 : Option Addr) (cap1 : Option Addr) (cap2 : Option Addr) (K : Value → Heap → Prop) (h : Heap) : fnX (cx wal_steps_write_c1.lo wal_steps_write_c1.od) Tryd.f72 (Tryd.f72.body.getD .skip) [.pointer d1, .pointer cap1, .pointer cap2] K h = wal_steps_write_c1 d1 cap1 cap2 K h := by kernel_rfl
theorem wal_steps_write_c1.chk : fnOk (cx wal_steps_write_c1.lo wal_steps_write_c1.od) Tryd.f72 (Tryd.f72.body.getD .skip) 3 = true := by kernel_rfl
theorem wal_steps_write_c1.ok {d1 : Option Addr} {cap1 : Option Addr} {cap2 : Option Addr} {K : Value → Heap → Prop} {h : Heap} (hx : wal_steps_write_c1 d1 cap1 cap2 K h) : C.wal_steps_write_c1 d1 cap1 cap2 h K :=
  fn_to (cxOk _ _) Tryd.func72 (by kernel_rfl) wal_steps_write_c1.chk (by rw [wal_steps_write_c1.eq]; exact hx)

-- 73
def adisk_Disk_Write (d1 : Option Addr) (i1 : Int) (bA1 : Option Addr) (bL1 : Nat) (bC1 : Nat) (K : Value → Heap → Prop) (h1 : Heap) : Prop :=
  onSome d1 fun p1 =>
  ∃ (b1 : Bool), cellOf h1 (Addr.add p1 4) = some (.bool b1) ∧
  bif b1 then (
  K (.int .i64 30) h1) else (
  C.adisk_Disk_has d1 i1 h1 fun r1 h2 =>
  ∃ (b2 : Bool), r1 = .bool b2 ∧
  bif (!b2) then (
  K (.int .i64 31) h2) else (
  bif ((bL1 : Int) != 512) then (
  K (.int .i64 32) h2) else (
  onSome d1 fun p2 =>
  ∃ (sA1 : Option Addr) (sL1 : Nat) (sC1 : Nat), cellOf h2 (Addr.add p2 1) = some (.slice sA1 sL1 sC1) ∧
  512 ≤ bL1 ∧
  onSome bA1 fun p3 =>
  ∃ cs1 : List Value, List.length cs1 = 512 ∧ Cells h2 p3 cs1 ∧
  List.length (cs1 : List Value) = 512 ∧
  List.length (([.int .i64 i1] ++ cs1) : List Value) = 513 ∧
  New ([.int .i64 i1] ++ cs1) 106 h2 fun h3 =>
  (cellOf h3 (Addr.add p2 1) = some (.slice sA1 sL1 sC1)) ∧
  ∃ new1 : List Value, List.length new1 = 1 * 513 ∧ SlCells h3 (some ⟨h2.size, 0, none⟩) new1 ∧ (∀ v ∈ new1, v.oneCell' = true) ∧
  AppendP ti106 106 sA1 sL1 sC1 1 new1 h3 fun sA2 sL2 sC2 h4 =>
  onSome d1 fun p4 =>
  Put (Addr.add p4 1) (.slice sA2 sL2 sC2) h4 fun h5 =>
  onSome d1 fun p5 =>
  ∃ (sA3 : Option Addr) (sL3 : Nat) (sC3 : Nat), cellOf h5 (Addr.add p5 7) = some (.slice sA3 sL3 sC3) ∧
  C.slices_Clone_byte_byte bA1 bL1 bC1 h5 fun r2 h6 =>
  ∃ (sA4 : Option Addr) (sL4 : Nat) (sC4 : Nat), r2 = .slice sA4 sL4 sC4 ∧
  (cellOf h6 (Addr.add p5 7) = some (.slice sA3 sL3 sC3)) ∧
  List.length ([.int .i64 1, .int .i64 i1, .slice sA4 sL4 sC4] : List Value) = 3 ∧
  New [.int .i64 1, .int .i64 i1, .slice sA4 sL4 sC4] 38 h6 fun h7 =>
  (cellOf h7 (Addr.add p5 7) = some (.slice sA3 sL3 sC3)) ∧
  ∃ new2 : List Value, List.length new2 = 1 * 3 ∧ SlCells h7 (some ⟨h6.size, 0, none⟩) new2 ∧ (∀ v ∈ new2, v.oneCell' = true) ∧
  AppendP ti38 38 sA3 sL3 sC3 1 new2 h7 fun sA5 sL5 sC5 h8 =>
  onSome d1 fun p6 =>
  Put (Addr.add p6 7) (.slice sA5 sL5 sC5) h8 fun h9 =>
  onSome d1 fun p7 =>
  ∃ (n1 : Int), cellOf h9 (Addr.add p7 5) = some (.int .i64 n1) ∧
  onSome d1 fun p8 =>
  Put (Addr.add p8 5) (.int .i64 (IntKind.wrap .i64 (n1 + 1))) h9 fun h10 =>
  C.adisk_Disk_step d1 (Value.nilFunc) h10 fun r3 h11 =>
  ∃ (n2 : Int), r3 = .int .i64 n2 ∧
  K (.int .i64 n2) h11)))
def adisk_Disk_Write.lo : Nat → List Nat × List (Nat × Ty) := fun n => match n with | _ => ([], [])
def adisk_Disk_Write.od : Nat → Od := fun n => match n with | 7 => (.op 0 [] (.op 1 [] (.op 2 [] (.op 3 [] (.op 4 [] (.op 5 [] (.op 6 [] (.op 7 [] (.op 8 [] (.op 9 [] (.op 10 [4] (.op 11 [] (.op 12 [] (.op 13 [] (.op 14 [] .nil))))))))))))))) | 8 => (.op 0 [] (.op 1 [] (.op 2 [] (.op 3 [] (.op 4 [] (.op 5 [] (.op 6 [] (.op 7 [4] (.op 8 [] (.op 9 [4] (.op 10 [] (.op 11 [] (.op 12 [] (.op 13 [] .nil)))))))))))))) | _ => .nil
theorem adisk_Disk_Write.eq (d1 : Option Addr) (i1 : Int) (bA1 : Option Addr) (bL1 : Nat) (bC1 : Nat) (K : Value → Heap → Prop) (h : Heap) : fnX (cx adisk_Disk_Write.lo adisk_Disk_Write.od) Tryd.f73 (Tryd.f73.body.getD .skip) [.pointer d1, .int .i64 i1, .slice bA1 bL1 bC1] K h = adisk_Disk_Write d1 i1 bA1 bL1 bC1 K h := by kernel_rfl
theorem adisk_Disk_Write.chk : fnOk (cx adisk_Disk_Write.lo adisk_Disk_Write.od) Tryd.f73 (Tryd.f73.body.getD .skip) 3 = true := by kernel_rfl
theorem adisk_Disk_Write.ok {d1 : Option Addr} {i1 : Int} {bA1 : Option Addr} {bL1 : Nat} {bC1 : Nat} {K : Value → Heap → Prop} {h : Heap} (hx : adisk_Disk_Write d1 i1 bA1 bL1 bC1 K h) : C.adisk_Disk_Write d1 i1 bA1 bL1 bC1 h K :=
  fn_to (cxOk _ _) Tryd.func73 (by kernel_rfl) adisk_Disk_Write.chk (by rw [adisk_Disk_Write.eq]; exact hx)

-- 74
def wal_steps_flush_c1 (d1 : Option Addr) (K : Value → Heap → Prop) (h1 : Heap) : Prop :=
  C.adisk_Disk_Flush d1 h1 fun r1 h2 =>
  ∃ (n1 : Int), r1 = .int .i64 n1 ∧
  K (.int .i64 n1) h2
def wal_steps_flush_c1.lo : Nat → List Nat × List (Nat × Ty) := fun n => match n with | _ => ([], [])
def wal_steps_flush_c1.od : Nat → Od := fun n => match n with | _ => .nil
theorem wal_steps_flush_c1.eq (d1 : Option Addr) (K : Value → Heap → Prop) (h : Heap) : fnX (cx wal_steps_flush_c1.lo wal_steps_flush_c1.od) Tryd.f74 (Tryd.f74.body.getD .skip) [.pointer d1] K h = wal_steps_flush_c1 d1 K h := by kernel_rfl
theorem wal_steps_flush_c1.chk : fnOk (cx wal_steps_flush_c1.lo wal_steps_flush_c1.od) Tryd.f74 (Tryd.f74.body.getD .skip) 1 = true := by kernel_rfl
theorem wal_steps_flush_c1.ok {d1 : Option Addr} {K : Value → Heap → Prop} {h : Heap} (hx : wal_steps_flush_c1 d1 K h) : C.wal_steps_flush_c1 d1 h K :=
  fn_to (cxOk _ _) Tryd.func74 (by kernel_rfl) wal_steps_flush_c1.chk (by rw [wal_steps_flush_c1.eq]; exact hx)

-- 75
def adisk_Disk_Flush (d1 : Option Addr) (K : Value → Heap → Prop) (h1 : Heap) : Prop :=
  New [.pointer d1] 24 h1 fun h2 =>
  ∃ (q1 : Option Addr), cellOf h2 ⟨h1.size, 0, none⟩ = some (.pointer q1) ∧
  onSome q1 fun p1 =>
  ∃ (b1 : Bool), cellOf h2 (Addr.add p1 4) = some (.bool b1) ∧
  bif b1 then (
  K (.int .i64 30) h2) else (
  ∃ (q2 : Option Addr), cellOf h2 ⟨h1.size, 0, none⟩ = some (.pointer q2) ∧
  onSome q2 fun p2 =>
  ∃ (n1 : Int), cellOf h2 (Addr.add p2 6) = some (.int .i64 n1) ∧
  onSome q2 fun p3 =>
  Put (Addr.add p3 6) (.int .i64 (IntKind.wrap .i64 (n1 + 1))) h2 fun h3 =>
  ∃ (q3 : Option Addr), cellOf h3 ⟨h1.size, 0, none⟩ = some (.pointer q3) ∧
  C.adisk_Disk_step q3 (Value.func (.func 90) #[] ⟨[.pointer (some ⟨h1.size, 0, none⟩)]⟩) h3 fun r1 h4 =>
  ∃ (n2 : Int), r1 = .int .i64 n2 ∧
  K (.int .i64 n2) h4)
def adisk_Disk_Flush.lo : Nat → List Nat × List (Nat × Ty) := fun n => match n with | _ => ([], [])
def adisk_Disk_Flush.od : Nat → Od := fun n => match n with | _ => .nil
theorem adisk_Disk_Flush.eq (d1 : Option Addr) (K : Value → Heap → Prop) (h : Heap) : fnX (cx adisk_Disk_Flush.lo adisk_Disk_Flush.od) Tryd.f75 (Tryd.f75.body.getD .skip) [.pointer d1] K h = adisk_Disk_Flush d1 K h := by kernel_rfl
theorem adisk_Disk_Flush.chk : fnOk (cx adisk_Disk_Flush.lo adisk_Disk_Flush.od) Tryd.f75 (Tryd.f75.body.getD .skip) 1 = true := by kernel_rfl
theorem adisk_Disk_Flush.ok {d1 : Option Addr} {K : Value → Heap → Prop} {h : Heap} (hx : adisk_Disk_Flush d1 K h) : C.adisk_Disk_Flush d1 h K :=
  fn_to (cxOk _ _) Tryd.func75 (by kernel_rfl) adisk_Disk_Flush.chk (by rw [adisk_Disk_Flush.eq]; exact hx)

-- 77
def head_Nums.k1 (headA1 : Option Addr) (headL1 : Nat) (headC1 : Nat) (n1 : Int) (h3 : Heap) (n3 : Int) (K : Value → Heap → Prop) : Prop :=
  ∃ (I1 : Option Addr → Nat → Nat → Int → Heap → Prop) (M1 : Option Addr → Nat → Nat → Int → Heap → Nat), I1 none 0 0 0 h3 ∧
  ∀ (numsA1 : Option Addr) (numsL1 : Nat) (numsC1 : Nat) (n5 : Int), ∀ h4 : Heap, I1 numsA1 numsL1 numsC1 n5 h4 →
  bif (decide (n5 < (IntKind.wrap .i64 (n3)))) then (
  C.rec_Get headA1 headL1 headC1 (IntKind.wrap .i64 (16 + (IntKind.wrap .i64 (4 * n5)))) 4 h4 fun r3 h5 =>
  ∃ (n6 : Int) (n7 : Int), r3 = .tuple #[.int .u64 n6, .int .i64 n7] ∧
  New [.int .i64 (IntKind.wrap .i64 (n6))] 3 h5 fun h6 =>
  ∃ new1 : List Value, List.length new1 = 1 * 1 ∧ SlCells h6 (some ⟨h5.size, 0, none⟩) new1 ∧ (∀ v ∈ new1, v.oneCell' = true) ∧
  AppendP ti3 3 numsA1 numsL1 numsC1 1 new1 h6 fun sA1 sL1 sC1 h7 =>
  I1 sA1 sL1 sC1 (IntKind.wrap .i64 (n5 + 1)) h7 ∧ M1 sA1 sL1 sC1 (IntKind.wrap .i64 (n5 + 1)) h7 < M1 numsA1 numsL1 numsC1 n5 h4) else (
  C.rec_Zero headA1 headL1 headC1 10 2 h4 fun r4 h8 =>
  ∃ (b2 : Bool) (n8 : Int), r4 = .tuple #[.bool b2, .int .i64 n8] ∧
  C.rec_Zero headA1 headL1 headC1 (IntKind.wrap .i64 (16 + (IntKind.wrap .i64 (4 * (numsL1 : Int))))) (IntKind.wrap .i64 (512 - (IntKind.wrap .i64 (16 + (IntKind.wrap .i64 (4 * (numsL1 : Int))))))) h8 fun r5 h9 =>
  ∃ (b3 : Bool) (n9 : Int), r5 = .tuple #[.bool b3, .int .i64 n9] ∧
  bif (!b2) then (
  K (.tuple #[.slice none 0 0, .int .i64 41]) h9) else (
  bif (!b3) then (
  K (.tuple #[.slice none 0 0, .int .i64 41]) h9) else (
  C.head_may numsA1 numsL1 numsC1 n1 h9 fun r6 h10 =>
  ∃ (b4 : Bool), r6 = .bool b4 ∧
  bif (!b4) then (
  K (.tuple #[.slice none 0 0, .int .i64 41]) h10) else (
  K (.tuple #[.slice numsA1 numsL1 numsC1, .int .i64 0]) h10))))
def head_Nums (headA1 : Option Addr) (headL1 : Nat) (headC1 : Nat) (n1 : Int) (K : Value → Heap → Prop) (h1 : Heap) : Prop :=
  bif ((headL1 : Int) != 512) then (
  K (.tuple #[.slice none 0 0, .int .i64 32]) h1) else (
  C.rec_Zero headA1 headL1 headC1 0 512 h1 fun r1 h2 =>
  ∃ (b1 : Bool) (n2 : Int), r1 = .tuple #[.bool b1, .int .i64 n2] ∧
  bif b1 then (
  K (.tuple #[.slice none 0 0, .int .i64 0]) h2) else (
  C.rec_Get headA1 headL1 headC1 8 2 h2 fun r2 h3 =>
  ∃ (n3 : Int) (n4 : Int), r2 = .tuple #[.int .u64 n3, .int .i64 n4] ∧
  (0 ≤ (8 : Int) ∧ (8 : Int) ≤ (headC1 : Int)) ∧
  ∃ bs1 : List UInt8, StrAt h3 headA1 (Int.toNat 8) bs1 ∧
  bif (!((mkStr bs1).toList == (mkStr [66, 79, 76, 69, 76, 79, 71, 49]).toList)) then (
  K (.tuple #[.slice none 0 0, .int .i64 41]) h3) else (
  bif (decide (n3 > 96)) then (
  K (.tuple #[.slice none 0 0, .int .i64 41]) h3) else (
  head_Nums.k1 headA1 headL1 headC1 n1 h3 n3 K))))
def head_Nums.lo : Nat → List Nat × List (Nat × Ty) := fun n => match n with | 11 => ([0, 1, 42], [(10, .slice), (43, .int .i64)]) | _ => ([], [])
def head_Nums.od : Nat → Od := fun n => match n with | _ => .nil
theorem head_Nums.eq (headA1 : Option Addr) (headL1 : Nat) (headC1 : Nat) (n1 : Int) (K : Value → Heap → Prop) (h : Heap) : fnX (cx head_Nums.lo head_Nums.od) Tryd.f77 (Tryd.f77.body.getD .skip) [.slice headA1 headL1 headC1, .int .i64 n1] K h = head_Nums headA1 headL1 headC1 n1 K h := by kernel_rfl
theorem head_Nums.chk : fnOk (cx head_Nums.lo head_Nums.od) Tryd.f77 (Tryd.f77.body.getD .skip) 2 = true := by kernel_rfl
theorem head_Nums.ok {headA1 : Option Addr} {headL1 : Nat} {headC1 : Nat} {n1 : Int} {K : Value → Heap → Prop} {h : Heap} (hx : head_Nums headA1 headL1 headC1 n1 K h) : C.head_Nums headA1 headL1 headC1 n1 h K :=
  fn_to (cxOk _ _) Tryd.func77 (by kernel_rfl) head_Nums.chk (by rw [head_Nums.eq]; exact hx)

-- 78
def head_Good.k1 (headA1 : Option Addr) (headL1 : Nat) (headC1 : Nat) (dataA1 : Option Addr) (dataL1 : Nat) (dataC1 : Nat) (h4 : Heap) (K : Value → Heap → Prop) : Prop :=
  C.rec_Get headA1 headL1 headC1 12 4 h4 fun r3 h5 =>
  ∃ (n3 : Int) (n4 : Int), r3 = .tuple #[.int .u64 n3, .int .i64 n4] ∧
  C.head_sumOf headA1 headL1 headC1 dataA1 dataL1 dataC1 h5 fun r4 h6 =>
  ∃ (n5 : Int), r4 = .int .u32 n5 ∧
  K (.bool ((IntKind.wrap .u32 (n3)) == n5)) h6
def head_Good (headA1 : Option Addr) (headL1 : Nat) (headC1 : Nat) (n1 : Int) (dataA1 : Option Addr) (dataL1 : Nat) (dataC1 : Nat) (K : Value → Heap → Prop) (h1 : Heap) : Prop :=
  C.head_Nums headA1 headL1 headC1 n1 h1 fun r1 h2 =>
  ∃ (sA1 : Option Addr) (sL1 : Nat) (sC1 : Nat) (n2 : Int), r1 = .tuple #[.slice sA1 sL1 sC1, .int .i64 n2] ∧
  bif (n2 != 0) then (
  K (.bool false) h2) else (
  bif ((sL1 : Int) == 0) then (
  K (.bool false) h2) else (
  C.head_areBlocks dataA1 dataL1 dataC1 (sL1 : Int) h2 fun r2 h3 =>
  ∃ (b1 : Bool), r2 = .bool b1 ∧
  bif (!b1) then (
  K (.bool false) h3) else (
  head_Good.k1 headA1 headL1 headC1 dataA1 dataL1 dataC1 h3 K)))
def head_Good.lo : Nat → List Nat × List (Nat × Ty) := fun n => match n with | _ => ([], [])
def head_Good.od : Nat → Od := fun n => match n with | _ => .nil
theorem head_Good.eq (headA1 : Option Addr) (headL1 : Nat) (headC1 : Nat) (n1 : Int) (dataA1 : Option Addr) (dataL1 : Nat) (dataC1 : Nat) (K : Value → Heap → Prop) (h : Heap) : fnX (cx head_Good.lo head_Good.od) Tryd.f78 (Tryd.f78.body.getD .skip) [.slice headA1 headL1 headC1, .int .i64 n1, .slice dataA1 dataL1 dataC1] K h = head_Good headA1 headL1 headC1 n1 dataA1 dataL1 dataC1 K h := by kernel_rfl
theorem head_Good.chk : fnOk (cx head_Good.lo head_Good.od) Tryd.f78 (Tryd.f78.body.getD .skip) 3 = true := by kernel_rfl
theorem head_Good.ok {headA1 : Option Addr} {headL1 : Nat} {headC1 : Nat} {n1 : Int} {dataA1 : Option Addr} {dataL1 : Nat} {dataC1 : Nat} {K : Value → Heap → Prop} {h : Heap} (hx : head_Good headA1 headL1 headC1 n1 dataA1 dataL1 dataC1 K h) : C.head_Good headA1 headL1 headC1 n1 dataA1 dataL1 dataC1 h K :=
  fn_to (cxOk _ _) Tryd.func78 (by kernel_rfl) head_Good.chk (by rw [head_Good.eq]; exact hx)

-- 82
def head_may_c1 (i1 : Int) (cap1 : Option Addr) (cap2 : Option Addr) (K : Value → Heap → Prop) (h1 : Heap) : Prop :=
  onSome cap1 fun p1 =>
  ∃ (n1 : Int), cellOf h1 p1 = some (.int .i64 n1) ∧
  onSome cap1 fun p2 =>
  Put p2 (.int .i64 i1) h1 fun h2 =>
  bif (decide (i1 ≤ n1)) then (
  K (.bool true) h2) else (
  onSome cap2 fun p3 =>
  ∃ (n2 : Int), cellOf h2 p3 = some (.int .i64 n2) ∧
  K (.bool (decide (i1 ≥ n2))) h2)
def head_may_c1.lo : Nat → List Nat × List (Nat × Ty) := fun n => match n with | _ => ([], [])
def head_may_c1.od : Nat → Od := fun n => match n with | _ => .nil
theorem head_may_c1.eq (i1 : Int) (cap1 : Option Addr) (cap2 : Option Addr) (K : Value → Heap → Prop) (h : Heap) : fnX (cx head_may_c1.lo head_may_c1.od) Tryd.f82 (Tryd.f82.body.getD .skip) [.int .i64 i1, .pointer cap1, .pointer cap2] K h = head_may_c1 i1 cap1 cap2 K h := by kernel_rfl
theorem head_may_c1.chk : fnOk (cx head_may_c1.lo head_may_c1.od) Tryd.f82 (Tryd.f82.body.getD .skip) 3 = true := by kernel_rfl
theorem head_may_c1.ok {i1 : Int} {cap1 : Option Addr} {cap2 : Option Addr} {K : Value → Heap → Prop} {h : Heap} (hx : head_may_c1 i1 cap1 cap2 K h) : C.head_may_c1 i1 cap1 cap2 h K :=
  fn_to (cxOk _ _) Tryd.func82 (by kernel_rfl) head_may_c1.chk (by rw [head_may_c1.eq]; exact hx)

-- 83
def rec_ahead (bA1 : Option Addr) (bL1 : Nat) (bC1 : Nat) (K : Value → Heap → Prop) (h1 : Heap) : Prop :=
  ∃ (I1 : Int → Heap → Prop) (M1 : Int → Heap → Nat), I1 0 h1 ∧
  ∀ (n1 : Int), ∀ h2 : Heap, I1 n1 h2 →
  bif (decide (n1 < (bL1 : Int))) then (
  (0 ≤ n1 ∧ n1 < (bL1 : Int)) ∧
  onSome bA1 fun p1 =>
  ∃ (n2 : Int), cellOf h2 (Addr.add p1 (Int.toNat n1)) = some (.int .u8 n2) ∧
  bif (n2 == 0) then (
  K (.int .i64 n1) h2) else (
  I1 (IntKind.wrap .i64 (n1 + 1)) h2 ∧ M1 (IntKind.wrap .i64 (n1 + 1)) h2 < M1 n1 h2)) else (
  K (.int .i64 (bL1 : Int)) h2)
def rec_ahead.lo : Nat → List Nat × List (Nat × Ty) := fun n => match n with | 2 => ([0, 5, 6], [(7, .int .i64)]) | _ => ([], [])
def rec_ahead.od : Nat → Od := fun n => match n with | _ => .nil
theorem rec_ahead.eq (bA1 : Option Addr) (bL1 : Nat) (bC1 : Nat) (K : Value → Heap → Prop) (h : Heap) : fnX (cx rec_ahead.lo rec_ahead.od) Tryd.f83 (Tryd.f83.body.getD .skip) [.slice bA1 bL1 bC1] K h = rec_ahead bA1 bL1 bC1 K h := by kernel_rfl
theorem rec_ahead.chk : fnOk (cx rec_ahead.lo rec_ahead.od) Tryd.f83 (Tryd.f83.body.getD .skip) 1 = true := by kernel_rfl
theorem rec_ahead.ok {bA1 : Option Addr} {bL1 : Nat} {bC1 : Nat} {K : Value → Heap → Prop} {h : Heap} (hx : rec_ahead bA1 bL1 bC1 K h) : C.rec_ahead bA1 bL1 bC1 h K :=
  fn_to (cxOk _ _) Tryd.func83 (by kernel_rfl) rec_ahead.chk (by rw [rec_ahead.eq]; exact hx)

-- 84
def rec_lie (bA1 : Option Addr) (bL1 : Nat) (bC1 : Nat) (at1 : Int) (n1 : Int) (K : Value → Heap → Prop) (h1 : Heap) : Prop :=
  bif (decide (at1 ≥ 0)) then (
  bif (decide (n1 ≥ 0)) then (
  bif (decide (at1 ≤ (bL1 : Int))) then (
  K (.bool (decide (n1 ≤ (IntKind.wrap .i64 ((bL1 : Int) - at1))))) h1) else (
  K (.bool false) h1)) else (
  K (.bool false) h1)) else (
  K (.bool false) h1)
def rec_lie.lo : Nat → List Nat × List (Nat × Ty) := fun n => match n with | _ => ([], [])
def rec_lie.od : Nat → Od := fun n => match n with | _ => .nil
theorem rec_lie.eq (bA1 : Option Addr) (bL1 : Nat) (bC1 : Nat) (at1 : Int) (n1 : Int) (K : Value → Heap → Prop) (h : Heap) : fnX (cx rec_lie.lo rec_lie.od) Tryd.f84 (Tryd.f84.body.getD .skip) [.slice bA1 bL1 bC1, .int .i64 at1, .int .i64 n1] K h = rec_lie bA1 bL1 bC1 at1 n1 K h := by kernel_rfl
theorem rec_lie.chk : fnOk (cx rec_lie.lo rec_lie.od) Tryd.f84 (Tryd.f84.body.getD .skip) 3 = true := by kernel_rfl
theorem rec_lie.ok {bA1 : Option Addr} {bL1 : Nat} {bC1 : Nat} {at1 : Int} {n1 : Int} {K : Value → Heap → Prop} {h : Heap} (hx : rec_lie bA1 bL1 bC1 at1 n1 K h) : C.rec_lie bA1 bL1 bC1 at1 n1 h K :=
  fn_to (cxOk _ _) Tryd.func84 (by kernel_rfl) rec_lie.chk (by rw [rec_lie.eq]; exact hx)

-- 85
def rec_isWidth (n1 : Int) (K : Value → Heap → Prop) (h1 : Heap) : Prop :=
  bif (decide (n1 ≥ 0)) then (
  bif (decide (n1 < 9)) then (
  (0 ≤ n1 ∧ n1 < (9 : Int)) ∧
  ∃ (b1 : Bool), cellOf h1 (Addr.add ⟨0, 0, none⟩ (Int.toNat n1)) = some (.bool b1) ∧
  K (.bool b1) h1) else (
  K (.bool false) h1)) else (
  K (.bool false) h1)
def rec_isWidth.lo : Nat → List Nat × List (Nat × Ty) := fun n => match n with | _ => ([], [])
def rec_isWidth.od : Nat → Od := fun n => match n with | _ => .nil
theorem rec_isWidth.eq (n1 : Int) (K : Value → Heap → Prop) (h : Heap) : fnX (cx rec_isWidth.lo rec_isWidth.od) Tryd.f85 (Tryd.f85.body.getD .skip) [.int .i64 n1] K h = rec_isWidth n1 K h := by kernel_rfl
theorem rec_isWidth.chk : fnOk (cx rec_isWidth.lo rec_isWidth.od) Tryd.f85 (Tryd.f85.body.getD .skip) 1 = true := by kernel_rfl
theorem rec_isWidth.ok {n1 : Int} {K : Value → Heap → Prop} {h : Heap} (hx : rec_isWidth n1 K h) : C.rec_isWidth n1 h K :=
  fn_to (cxOk _ _) Tryd.func85 (by kernel_rfl) rec_isWidth.chk (by rw [rec_isWidth.eq]; exact hx)

-- 86
def bytes_Clone (bA1 : Option Addr) (bL1 : Nat) (bC1 : Nat) (K : Value → Heap → Prop) (h1 : Heap) : Prop :=
  bif (Option.isNone bA1) then (
  K (.slice none 0 0) h1) else (
  New [] 5 h1 fun h2 =>
  ∃ new1 : List Value, List.length new1 = bL1 * 1 ∧ SlCells h2 bA1 new1 ∧ (∀ v ∈ new1, v.oneCell' = true) ∧
  AppendP ti5 5 (some ⟨h1.size, 0, none⟩) 0 0 bL1 new1 h2 fun sA1 sL1 sC1 h3 =>
  K (.slice sA1 sL1 sC1) h3)
def bytes_Clone.lo : Nat → List Nat × List (Nat × Ty) := fun n => match n with | _ => ([], [])
def bytes_Clone.od : Nat → Od := fun n => match n with | _ => .nil
theorem bytes_Clone.eq (bA1 : Option Addr) (bL1 : Nat) (bC1 : Nat) (K : Value → Heap → Prop) (h : Heap) : fnX (cx bytes_Clone.lo bytes_Clone.od) Tryd.f86 (Tryd.f86.body.getD .skip) [.slice bA1 bL1 bC1] K h = bytes_Clone bA1 bL1 bC1 K h := by kernel_rfl
theorem bytes_Clone.chk : fnOk (cx bytes_Clone.lo bytes_Clone.od) Tryd.f86 (Tryd.f86.body.getD .skip) 1 = true := by kernel_rfl
theorem bytes_Clone.ok {bA1 : Option Addr} {bL1 : Nat} {bC1 : Nat} {K : Value → Heap → Prop} {h : Heap} (hx : bytes_Clone bA1 bL1 bC1 K h) : C.bytes_Clone bA1 bL1 bC1 h K :=
  fn_to (cxOk _ _) Tryd.func86 (by kernel_rfl) bytes_Clone.chk (by rw [bytes_Clone.eq]; exact hx)

-- 87
def sum_Of (bA1 : Option Addr) (bL1 : Nat) (bC1 : Nat) (K : Value → Heap → Prop) (h1 : Heap) : Prop :=
  ∃ (I1 : Int → Int → Heap → Prop) (M1 : Int → Int → Heap → Nat), I1 4294967295 0 h1 ∧
  ∀ (v1 : Int) (n1 : Int), ∀ h2 : Heap, I1 v1 n1 h2 →
  bif (decide (n1 < (bL1 : Int))) then (
  (0 ≤ n1 ∧ n1 < (bL1 : Int)) ∧
  onSome bA1 fun p1 =>
  ∃ (n2 : Int), cellOf h2 (Addr.add p1 (Int.toNat n1)) = some (.int .u8 n2) ∧
  C.sum_step v1 n2 h2 fun r1 h3 =>
  ∃ (n3 : Int), r1 = .int .u32 n3 ∧
  I1 n3 (IntKind.wrap .i64 (n1 + 1)) h3 ∧ M1 n3 (IntKind.wrap .i64 (n1 + 1)) h3 < M1 v1 n1 h2) else (
  K (.int .u32 (bitsI .xor .u32 (IntKind.max .u32) v1)) h2)
def sum_Of.lo : Nat → List Nat × List (Nat × Ty) := fun n => match n with | 3 => ([6, 7], [(3, .int .u32), (8, .int .i64)]) | _ => ([], [])
def sum_Of.od : Nat → Od := fun n => match n with | _ => .nil
theorem sum_Of.eq (bA1 : Option Addr) (bL1 : Nat) (bC1 : Nat) (K : Value → Heap → Prop) (h : Heap) : fnX (cx sum_Of.lo sum_Of.od) Tryd.f87 (Tryd.f87.body.getD .skip) [.slice bA1 bL1 bC1] K h = sum_Of bA1 bL1 bC1 K h := by kernel_rfl
theorem sum_Of.chk : fnOk (cx sum_Of.lo sum_Of.od) Tryd.f87 (Tryd.f87.body.getD .skip) 1 = true := by kernel_rfl
theorem sum_Of.ok {bA1 : Option Addr} {bL1 : Nat} {bC1 : Nat} {K : Value → Heap → Prop} {h : Heap} (hx : sum_Of bA1 bL1 bC1 K h) : C.sum_Of bA1 bL1 bC1 h K :=
  fn_to (cxOk _ _) Tryd.func87 (by kernel_rfl) sum_Of.chk (by rw [sum_Of.eq]; exact hx)

-- 88
def sum_Join.k1 (a1 : Int) (b1 : Int) (n1 : Int) (h1 : Heap) (K : Value → Heap → Prop) : Prop :=
  C.sum_behind a1 n1 h1 fun r1 h2 =>
  ∃ (n2 : Int), r1 = .int .u32 n2 ∧
  K (.tuple #[.int .u32 (bitsI .xor .u32 n2 b1), .int .i64 0]) h2
def sum_Join (a1 : Int) (b1 : Int) (n1 : Int) (K : Value → Heap → Prop) (h1 : Heap) : Prop :=
  bif (decide (n1 < 0)) then (
  K (.tuple #[.int .u32 0, .int .i64 1]) h1) else (
  bif (decide (n1 > 1099511627776)) then (
  K (.tuple #[.int .u32 0, .int .i64 1]) h1) else (
  sum_Join.k1 a1 b1 n1 h1 K))
def sum_Join.lo : Nat → List Nat × List (Nat × Ty) := fun n => match n with | _ => ([], [])
def sum_Join.od : Nat → Od := fun n => match n with | _ => .nil
theorem sum_Join.eq (a1 : Int) (b1 : Int) (n1 : Int) (K : Value → Heap → Prop) (h : Heap) : fnX (cx sum_Join.lo sum_Join.od) Tryd.f88 (Tryd.f88.body.getD .skip) [.int .u32 a1, .int .u32 b1, .int .i64 n1] K h = sum_Join a1 b1 n1 K h := by kernel_rfl
theorem sum_Join.chk : fnOk (cx sum_Join.lo sum_Join.od) Tryd.f88 (Tryd.f88.body.getD .skip) 3 = true := by kernel_rfl
theorem sum_Join.ok {a1 : Int} {b1 : Int} {n1 : Int} {K : Value → Heap → Prop} {h : Heap} (hx : sum_Join a1 b1 n1 K h) : C.sum_Join a1 b1 n1 h K :=
  fn_to (cxOk _ _) Tryd.func88 (by kernel_rfl) sum_Join.chk (by rw [sum_Join.eq]; exact hx)

-- 89
def adisk_Disk_step (d1 : Option Addr) (done1 : Value) (K : Value → Heap → Prop) (h1 : Heap) : Prop :=
  onSome d1 fun p1 =>
  ∃ (n1 : Int), cellOf h1 (Addr.add p1 2) = some (.int .i64 n1) ∧
  bif (decide (n1 > 0)) then (
  onSome d1 fun p2 =>
  ∃ (n2 : Int), cellOf h1 (Addr.add p2 2) = some (.int .i64 n2) ∧
  onSome d1 fun p3 =>
  Put (Addr.add p3 2) (.int .i64 (IntKind.wrap .i64 (n2 - 1))) h1 fun h2 =>
  onSome d1 fun p4 =>
  ∃ (n3 : Int), cellOf h2 (Addr.add p4 2) = some (.int .i64 n3) ∧
  bif (n3 == 0) then (
  onSome d1 fun p5 =>
  ∃ (sA1 : Option Addr) (sL1 : Nat) (sC1 : Nat), cellOf h2 (Addr.add p5 3) = some (.slice sA1 sL1 sC1) ∧
  C.adisk_Disk_cut d1 sA1 sL1 sC1 h2 fun r1 h3 =>
  r1 = .tuple #[] ∧
  K (.int .i64 30) h3) else (
  isFnV done1 = true ∧
  bif (!(isNilFn done1)) then (
  HCallsV Tryd.prog done1 [] h2 fun r2 h4 =>
  r2 = .tuple #[] ∧
  K (.int .i64 0) h4) else (
  K (.int .i64 0) h2))) else (
  isFnV done1 = true ∧
  bif (!(isNilFn done1)) then (
  HCallsV Tryd.prog done1 [] h1 fun r3 h5 =>
  r3 = .tuple #[] ∧
  K (.int .i64 0) h5) else (
  K (.int .i64 0) h1))
def adisk_Disk_step.lo : Nat → List Nat × List (Nat × Ty) := fun n => match n with | _ => ([], [])
def adisk_Disk_step.od : Nat → Od := fun n => match n with | _ => .nil
theorem adisk_Disk_step.eq (d1 : Option Addr) (done1 : Value) (K : Value → Heap → Prop) (h : Heap) : fnX (cx adisk_Disk_step.lo adisk_Disk_step.od) Tryd.f89 (Tryd.f89.body.getD .skip) [.pointer d1, done1] K h = adisk_Disk_step d1 done1 K h := by kernel_rfl
theorem adisk_Disk_step.chk : fnOk (cx adisk_Disk_step.lo adisk_Disk_step.od) Tryd.f89 (Tryd.f89.body.getD .skip) 2 = true := by kernel_rfl
theorem adisk_Disk_step.ok {d1 : Option Addr} {done1 : Value} {K : Value → Heap → Prop} {h : Heap} (hx : adisk_Disk_step d1 done1 K h) : C.adisk_Disk_step d1 done1 h K :=
  fn_to (cxOk _ _) Tryd.func89 (by kernel_rfl) adisk_Disk_step.chk (by rw [adisk_Disk_step.eq]; exact hx)

-- 90
def adisk_Disk_Flush_c1 (cap1 : Option Addr) (K : Value → Heap → Prop) (h1 : Heap) : Prop :=
  onSome cap1 fun p1 =>
  ∃ (q1 : Option Addr), cellOf h1 p1 = some (.pointer q1) ∧
  onSome q1 fun p2 =>
  ∃ (sA1 : Option Addr) (sL1 : Nat) (sC1 : Nat), cellOf h1 (Addr.add p2 1) = some (.slice sA1 sL1 sC1) ∧
  ∃ (I1 : Int → Heap → Prop) (M1 : Int → Heap → Nat), I1 0 h1 ∧
  ∀ (n1 : Int), ∀ h2 : Heap, I1 n1 h2 →
  bif (decide (n1 < (sL1 : Int))) then (
  (0 ≤ n1 ∧ n1 < (sL1 : Int)) ∧
  onSome sA1 fun p3 =>
  ∃ cs1 : List Value, List.length cs1 = 513 ∧ Cells h2 (Addr.add p3 ((Int.toNat n1) * 513)) cs1 ∧
  NewRow z106 106 cs1 513 h2 fun h4 =>
  onSome cap1 fun p4 =>
  ∃ (q2 : Option Addr), cellOf h4 p4 = some (.pointer q2) ∧
  onSome q2 fun p5 =>
  ∃ (sA2 : Option Addr) (sL2 : Nat) (sC2 : Nat), cellOf h4 (Addr.add p5 0) = some (.slice sA2 sL2 sC2) ∧
  ∃ (n2 : Int), cellOf h4 (Addr.add ⟨h2.size, 0, none⟩ 0) = some (.int .i64 n2) ∧
  ∃ cs2 : List Value, List.length cs2 = 512 ∧ Cells h4 (Addr.add ⟨h2.size, 0, none⟩ 1) cs2 ∧
  (0 ≤ n2 ∧ n2 < (sL2 : Int)) ∧
  onSome sA2 fun p6 =>
  PutRow (Addr.add p6 ((Int.toNat n2) * 512)) cs2 512 h4 fun h5 =>
  I1 (IntKind.wrap .i64 (n1 + 1)) h5 ∧ M1 (IntKind.wrap .i64 (n1 + 1)) h5 < M1 n1 h2) else (
  onSome cap1 fun p7 =>
  ∃ (q3 : Option Addr), cellOf h2 p7 = some (.pointer q3) ∧
  onSome q3 fun p8 =>
  Put (Addr.add p8 1) (.slice none 0 0) h2 fun h6 =>
  onSome cap1 fun p9 =>
  ∃ (q4 : Option Addr), cellOf h6 p9 = some (.pointer q4) ∧
  onSome cap1 fun p10 =>
  ∃ (q5 : Option Addr), cellOf h6 p10 = some (.pointer q5) ∧
  onSome q5 fun p11 =>
  ∃ (sA3 : Option Addr) (sL3 : Nat) (sC3 : Nat), cellOf h6 (Addr.add p11 7) = some (.slice sA3 sL3 sC3) ∧
  List.length ([.int .i64 2, .int .i64 0, .slice none 0 0] : List Value) = 3 ∧
  New [.int .i64 2, .int .i64 0, .slice none 0 0] 38 h6 fun h7 =>
  (onSome cap1 fun p12 => cellOf h7 p12 = some (.pointer q4)) ∧
  (onSome cap1 fun p13 => cellOf h7 p13 = some (.pointer q5)) ∧
  (cellOf h7 (Addr.add p11 7) = some (.slice sA3 sL3 sC3)) ∧
  ∃ new1 : List Value, List.length new1 = 1 * 3 ∧ SlCells h7 (some ⟨h6.size, 0, none⟩) new1 ∧ (∀ v ∈ new1, v.oneCell' = true) ∧
  AppendP ti38 38 sA3 sL3 sC3 1 new1 h7 fun sA4 sL4 sC4 h8 =>
  (onSome cap1 fun p14 => cellOf h8 p14 = some (.pointer q4)) ∧
  onSome q4 fun p15 =>
  Put (Addr.add p15 7) (.slice sA4 sL4 sC4) h8 fun h9 =>
  K (.tuple #[]) h9)
def adisk_Disk_Flush_c1.lo : Nat → List Nat × List (Nat × Ty) := fun n => match n with | 1 => ([0, 6, 7], [(8, .int .i64)]) | _ => ([], [])
def adisk_Disk_Flush_c1.od : Nat → Od := fun n => match n with | 3 => (.op 0 [] (.op 1 [] (.op 2 [] (.op 3 [] (.op 4 [] (.op 5 [] (.op 6 [] (.op 7 [] (.op 8 [] (.op 9 [] .nil)))))))))) | 6 => (.op 0 [] (.op 1 [] (.op 2 [] (.op 3 [] (.op 4 [] (.op 5 [] (.op 6 [0, 1, 4] (.op 7 [0] (.op 8 [] (.op 9 [] (.op 10 [] .nil))))))))))) | _ => .nil
theorem adisk_Disk_Flush_c1.eq (cap1 : Option Addr) (K : Value → Heap → Prop) (h : Heap) : fnX (cx adisk_Disk_Flush_c1.lo adisk_Disk_Flush_c1.od) Tryd.f90 (Tryd.f90.body.getD .skip) [.pointer cap1] K h = adisk_Disk_Flush_c1 cap1 K h := by kernel_rfl
theorem adisk_Disk_Flush_c1.chk : fnOk (cx adisk_Disk_Flush_c1.lo adisk_Disk_Flush_c1.od) Tryd.f90 (Tryd.f90.body.getD .skip) 1 = true := by kernel_rfl
theorem adisk_Disk_Flush_c1.ok {cap1 : Option Addr} {K : Value → Heap → Prop} {h : Heap} (hx : adisk_Disk_Flush_c1 cap1 K h) : C.adisk_Disk_Flush_c1 cap1 h K :=
  fn_to (cxOk _ _) Tryd.func90 (by kernel_rfl) adisk_Disk_Flush_c1.chk (by rw [adisk_Disk_Flush_c1.eq]; exact hx)

-- 91
def rec_Zero (bA1 : Option Addr) (bL1 : Nat) (bC1 : Nat) (at1 : Int) (n1 : Int) (K : Value → Heap → Prop) (h1 : Heap) : Prop :=
  bif (decide (n1 < 0)) then (
  K (.tuple #[.bool false, .int .i64 1]) h1) else (
  C.rec_lie bA1 bL1 bC1 at1 n1 h1 fun r1 h2 =>
  ∃ (b1 : Bool), r1 = .bool b1 ∧
  bif (!b1) then (
  K (.tuple #[.bool false, .int .i64 20]) h2) else (
  (0 ≤ at1 ∧ at1 ≤ (IntKind.wrap .i64 (at1 + n1)) ∧ (IntKind.wrap .i64 (at1 + n1)) ≤ (bC1 : Int)) ∧
  C.rec_zeros (if bC1 = (Int.toNat at1) then bA1 else Option.map (Addr.add · (Int.toNat at1)) bA1) ((Int.toNat (IntKind.wrap .i64 (at1 + n1))) - (Int.toNat at1)) (bC1 - (Int.toNat at1)) h2 fun r2 h3 =>
  ∃ (b2 : Bool), r2 = .bool b2 ∧
  K (.tuple #[.bool b2, .int .i64 0]) h3))
def rec_Zero.lo : Nat → List Nat × List (Nat × Ty) := fun n => match n with | _ => ([], [])
def rec_Zero.od : Nat → Od := fun n => match n with | _ => .nil
theorem rec_Zero.eq (bA1 : Option Addr) (bL1 : Nat) (bC1 : Nat) (at1 : Int) (n1 : Int) (K : Value → Heap → Prop) (h : Heap) : fnX (cx rec_Zero.lo rec_Zero.od) Tryd.f91 (Tryd.f91.body.getD .skip) [.slice bA1 bL1 bC1, .int .i64 at1, .int .i64 n1] K h = rec_Zero bA1 bL1 bC1 at1 n1 K h := by kernel_rfl
theorem rec_Zero.chk : fnOk (cx rec_Zero.lo rec_Zero.od) Tryd.f91 (Tryd.f91.body.getD .skip) 3 = true := by kernel_rfl
theorem rec_Zero.ok {bA1 : Option Addr} {bL1 : Nat} {bC1 : Nat} {at1 : Int} {n1 : Int} {K : Value → Heap → Prop} {h : Heap} (hx : rec_Zero bA1 bL1 bC1 at1 n1 K h) : C.rec_Zero bA1 bL1 bC1 at1 n1 h K :=
  fn_to (cxOk _ _) Tryd.func91 (by kernel_rfl) rec_Zero.chk (by rw [rec_Zero.eq]; exact hx)

-- 92
def rec_Get (bA1 : Option Addr) (bL1 : Nat) (bC1 : Nat) (at1 : Int) (n1 : Int) (K : Value → Heap → Prop) (h1 : Heap) : Prop :=
  C.rec_isWidth n1 h1 fun r1 h2 =>
  ∃ (b1 : Bool), r1 = .bool b1 ∧
  bif (!b1) then (
  K (.tuple #[.int .u64 0, .int .i64 1]) h2) else (
  C.rec_lie bA1 bL1 bC1 at1 n1 h2 fun r2 h3 =>
  ∃ (b2 : Bool), r2 = .bool b2 ∧
  bif (!b2) then (
  K (.tuple #[.int .u64 0, .int .i64 20]) h3) else (
  ∃ (I1 : Int → Int → Heap → Prop) (M1 : Int → Int → Heap → Nat), I1 0 0 h3 ∧
  ∀ (v1 : Int) (n2 : Int), ∀ h4 : Heap, I1 v1 n2 h4 →
  bif (decide (n2 < n1)) then (
  (0 ≤ (IntKind.wrap .i64 (at1 + n2)) ∧ (IntKind.wrap .i64 (at1 + n2)) < (bL1 : Int)) ∧
  onSome bA1 fun p1 =>
  ∃ (n3 : Int), cellOf h4 (Addr.add p1 (Int.toNat (IntKind.wrap .i64 (at1 + n2)))) = some (.int .u8 n3) ∧
  if (IntKind.wrap .i64 (8 * n2)) < 0 then False else
  I1 (bitsI .or .u64 v1 (IntKind.wrap .u64 (((IntKind.wrap .u64 (n3)) * 2 ^ min (Int.toNat (IntKind.wrap .i64 (8 * n2))) 64)))) (IntKind.wrap .i64 (n2 + 1)) h4 ∧ M1 (bitsI .or .u64 v1 (IntKind.wrap .u64 (((IntKind.wrap .u64 (n3)) * 2 ^ min (Int.toNat (IntKind.wrap .i64 (8 * n2))) 64)))) (IntKind.wrap .i64 (n2 + 1)) h4 < M1 v1 n2 h4) else (
  K (.tuple #[.int .u64 v1, .int .i64 0]) h4)))
def rec_Get.lo : Nat → List Nat × List (Nat × Ty) := fun n => match n with | 7 => ([0, 1, 20], [(8, .int .u64), (21, .int .i64)]) | _ => ([], [])
def rec_Get.od : Nat → Od := fun n => match n with | _ => .nil
theorem rec_Get.eq (bA1 : Option Addr) (bL1 : Nat) (bC1 : Nat) (at1 : Int) (n1 : Int) (K : Value → Heap → Prop) (h : Heap) : fnX (cx rec_Get.lo rec_Get.od) Tryd.f92 (Tryd.f92.body.getD .skip) [.slice bA1 bL1 bC1, .int .i64 at1, .int .i64 n1] K h = rec_Get bA1 bL1 bC1 at1 n1 K h := by kernel_rfl
theorem rec_Get.chk : fnOk (cx rec_Get.lo rec_Get.od) Tryd.f92 (Tryd.f92.body.getD .skip) 3 = true := by kernel_rfl
theorem rec_Get.ok {bA1 : Option Addr} {bL1 : Nat} {bC1 : Nat} {at1 : Int} {n1 : Int} {K : Value → Heap → Prop} {h : Heap} (hx : rec_Get bA1 bL1 bC1 at1 n1 K h) : C.rec_Get bA1 bL1 bC1 at1 n1 h K :=
  fn_to (cxOk _ _) Tryd.func92 (by kernel_rfl) rec_Get.chk (by rw [rec_Get.eq]; exact hx)

-- 96
def sum_step (v1 : Int) (b1 : Int) (K : Value → Heap → Prop) (h1 : Heap) : Prop :=
  (0 ≤ (bitsI .and .u32 (bitsI .xor .u32 v1 (IntKind.wrap .u32 (b1))) 15) ∧ (bitsI .and .u32 (bitsI .xor .u32 v1 (IntKind.wrap .u32 (b1))) 15) < (16 : Int)) ∧
  ∃ (n1 : Int), cellOf h1 (Addr.add ⟨1, 0, none⟩ (Int.toNat (bitsI .and .u32 (bitsI .xor .u32 v1 (IntKind.wrap .u32 (b1))) 15))) = some (.int .u32 n1) ∧
  (0 ≤ (bitsI .and .u32 (bitsI .xor .u32 n1 (Int.fdiv (bitsI .xor .u32 v1 (IntKind.wrap .u32 (b1))) (2 ^ min (Int.toNat 4) 32))) 15) ∧ (bitsI .and .u32 (bitsI .xor .u32 n1 (Int.fdiv (bitsI .xor .u32 v1 (IntKind.wrap .u32 (b1))) (2 ^ min (Int.toNat 4) 32))) 15) < (16 : Int)) ∧
  ∃ (n2 : Int), cellOf h1 (Addr.add ⟨1, 0, none⟩ (Int.toNat (bitsI .and .u32 (bitsI .xor .u32 n1 (Int.fdiv (bitsI .xor .u32 v1 (IntKind.wrap .u32 (b1))) (2 ^ min (Int.toNat 4) 32))) 15))) = some (.int .u32 n2) ∧
  K (.int .u32 (bitsI .xor .u32 n2 (Int.fdiv (bitsI .xor .u32 n1 (Int.fdiv (bitsI .xor .u32 v1 (IntKind.wrap .u32 (b1))) (2 ^ min (Int.toNat 4) 32))) (2 ^ min (Int.toNat 4) 32)))) h1
def sum_step.lo : Nat → List Nat × List (Nat × Ty) := fun n => match n with | _ => ([], [])
def sum_step.od : Nat → Od := fun n => match n with | _ => .nil
theorem sum_step.eq (v1 : Int) (b1 : Int) (K : Value → Heap → Prop) (h : Heap) : fnX (cx sum_step.lo sum_step.od) Tryd.f96 (Tryd.f96.body.getD .skip) [.int .u32 v1, .int .u8 b1] K h = sum_step v1 b1 K h := by kernel_rfl
theorem sum_step.chk : fnOk (cx sum_step.lo sum_step.od) Tryd.f96 (Tryd.f96.body.getD .skip) 2 = true := by kernel_rfl
theorem sum_step.ok {v1 : Int} {b1 : Int} {K : Value → Heap → Prop} {h : Heap} (hx : sum_step v1 b1 K h) : C.sum_step v1 b1 h K :=
  fn_to (cxOk _ _) Tryd.func96 (by kernel_rfl) sum_step.chk (by rw [sum_step.eq]; exact hx)

-- 97
def sum_behind (v1 : Int) (n1 : Int) (K : Value → Heap → Prop) (h1 : Heap) : Prop :=
  New z166 166 h1 fun h2 =>
  ∃ (I1 : Int → Heap → Prop) (M1 : Int → Heap → Nat), I1 0 h2 ∧
  ∀ (n2 : Int), ∀ h3 : Heap, I1 n2 h3 →
  bif (decide (n2 < 32)) then (
  if n2 < 0 then False else
  C.sum_step (IntKind.wrap .u32 ((1 * 2 ^ min (Int.toNat n2) 32))) 0 h3 fun r1 h4 =>
  ∃ (n3 : Int), r1 = .int .u32 n3 ∧
  (0 ≤ n2 ∧ n2 < (32 : Int)) ∧
  Put (Addr.add ⟨h1.size, 0, none⟩ (Int.toNat n2)) (.int .u32 n3) h4 fun h5 =>
  I1 (IntKind.wrap .i64 (n2 + 1)) h5 ∧ M1 (IntKind.wrap .i64 (n2 + 1)) h5 < M1 n2 h3) else (
  ∃ (I2 : Int → Int → Heap → Prop) (M2 : Int → Int → Heap → Nat), I2 v1 n1 h3 ∧
  ∀ (v2 : Int) (n4 : Int), ∀ h6 : Heap, I2 v2 n4 h6 →
  bif (decide (n4 > 0)) then (
  bif ((bitsI .and .i64 n4 1) == 1) then (
  C.sum_matrix_times (some ⟨h1.size, 0, none⟩) v2 h6 fun r2 h7 =>
  ∃ (n5 : Int), r2 = .int .u32 n5 ∧
  C.sum_matrix_square (some ⟨h1.size, 0, none⟩) h7 fun r3 h8 =>
  ∃ (cs1 : List Value), r3 = .agg ⟨cs1⟩ ∧
  PutRow ⟨h1.size, 0, none⟩ cs1 32 h8 fun h9 =>
  I2 n5 (Int.fdiv n4 (2 ^ min (Int.toNat 1) 64)) h9 ∧ M2 n5 (Int.fdiv n4 (2 ^ min (Int.toNat 1) 64)) h9 < M2 v2 n4 h6) else (
  C.sum_matrix_square (some ⟨h1.size, 0, none⟩) h6 fun r4 h10 =>
  ∃ (cs2 : List Value), r4 = .agg ⟨cs2⟩ ∧
  PutRow ⟨h1.size, 0, none⟩ cs2 32 h10 fun h11 =>
  I2 v2 (Int.fdiv n4 (2 ^ min (Int.toNat 1) 64)) h11 ∧ M2 v2 (Int.fdiv n4 (2 ^ min (Int.toNat 1) 64)) h11 < M2 v2 n4 h6)) else (
  K (.int .u32 v2) h6))
def sum_behind.lo : Nat → List Nat × List (Nat × Ty) := fun n => match n with | 3 => ([0, 1, 5], [(7, .int .i64)]) | 7 => ([5], [(0, .int .u32), (1, .int .i64)]) | _ => ([], [])
def sum_behind.od : Nat → Od := fun n => match n with | _ => .nil
theorem sum_behind.eq (v1 : Int) (n1 : Int) (K : Value → Heap → Prop) (h : Heap) : fnX (cx sum_behind.lo sum_behind.od) Tryd.f97 (Tryd.f97.body.getD .skip) [.int .u32 v1, .int .i64 n1] K h = sum_behind v1 n1 K h := by kernel_rfl
theorem sum_behind.chk : fnOk (cx sum_behind.lo sum_behind.od) Tryd.f97 (Tryd.f97.body.getD .skip) 2 = true := by kernel_rfl
theorem sum_behind.ok {v1 : Int} {n1 : Int} {K : Value → Heap → Prop} {h : Heap} (hx : sum_behind v1 n1 K h) : C.sum_behind v1 n1 h K :=
  fn_to (cxOk _ _) Tryd.func97 (by kernel_rfl) sum_behind.chk (by rw [sum_behind.eq]; exact hx)

-- 98
def adisk_Disk_cut (d1 : Option Addr) (keepA1 : Option Addr) (keepL1 : Nat) (keepC1 : Nat) (K : Value → Heap → Prop) (h1 : Heap) : Prop :=
  onSome d1 fun p1 =>
  ∃ (sA1 : Option Addr) (sL1 : Nat) (sC1 : Nat), cellOf h1 (Addr.add p1 1) = some (.slice sA1 sL1 sC1) ∧
  ∃ (I1 : Int → Heap → Prop) (M1 : Int → Heap → Nat), I1 0 h1 ∧
  ∀ (n1 : Int), ∀ h2 : Heap, I1 n1 h2 →
  bif (decide (n1 < (if (sL1 : Int) < (keepL1 : Int) then (sL1 : Int) else (keepL1 : Int)))) then (
  onSome d1 fun p2 =>
  ∃ (sA2 : Option Addr) (sL2 : Nat) (sC2 : Nat), cellOf h2 (Addr.add p2 1) = some (.slice sA2 sL2 sC2) ∧
  (0 ≤ n1 ∧ n1 < (sL2 : Int)) ∧
  onSome sA2 fun p3 =>
  ∃ cs1 : List Value, List.length cs1 = 513 ∧ Cells h2 (Addr.add p3 ((Int.toNat n1) * 513)) cs1 ∧
  NewRow z106 106 cs1 513 h2 fun h4 =>
  (0 ≤ n1 ∧ n1 < (keepL1 : Int)) ∧
  onSome keepA1 fun p4 =>
  ∃ (b1 : Bool), cellOf h4 (Addr.add p4 (Int.toNat n1)) = some (.bool b1) ∧
  bif b1 then (
  onSome d1 fun p5 =>
  ∃ (sA3 : Option Addr) (sL3 : Nat) (sC3 : Nat), cellOf h4 (Addr.add p5 0) = some (.slice sA3 sL3 sC3) ∧
  ∃ (n2 : Int), cellOf h4 (Addr.add ⟨h2.size, 0, none⟩ 0) = some (.int .i64 n2) ∧
  ∃ cs2 : List Value, List.length cs2 = 512 ∧ Cells h4 (Addr.add ⟨h2.size, 0, none⟩ 1) cs2 ∧
  (0 ≤ n2 ∧ n2 < (sL3 : Int)) ∧
  onSome sA3 fun p6 =>
  PutRow (Addr.add p6 ((Int.toNat n2) * 512)) cs2 512 h4 fun h5 =>
  I1 (IntKind.wrap .i64 (n1 + 1)) h5 ∧ M1 (IntKind.wrap .i64 (n1 + 1)) h5 < M1 n1 h2) else (
  I1 (IntKind.wrap .i64 (n1 + 1)) h4 ∧ M1 (IntKind.wrap .i64 (n1 + 1)) h4 < M1 n1 h2)) else (
  onSome d1 fun p7 =>
  Put (Addr.add p7 1) (.slice none 0 0) h2 fun h6 =>
  onSome d1 fun p8 =>
  Put (Addr.add p8 3) (.slice none 0 0) h6 fun h7 =>
  onSome d1 fun p9 =>
  Put (Addr.add p9 2) (.int .i64 0) h7 fun h8 =>
  onSome d1 fun p10 =>
  Put (Addr.add p10 4) (.bool true) h8 fun h9 =>
  K (.tuple #[]) h9)
def adisk_Disk_cut.lo : Nat → List Nat × List (Nat × Ty) := fun n => match n with | 1 => ([0, 1, 13], [(14, .int .i64)]) | _ => ([], [])
def adisk_Disk_cut.od : Nat → Od := fun n => match n with | 5 => (.op 0 [] (.op 1 [] (.op 2 [] (.op 3 [] (.op 4 [] (.op 5 [] (.op 6 [] (.op 7 [] (.op 8 [] (.op 9 [] .nil)))))))))) | _ => .nil
theorem adisk_Disk_cut.eq (d1 : Option Addr) (keepA1 : Option Addr) (keepL1 : Nat) (keepC1 : Nat) (K : Value → Heap → Prop) (h : Heap) : fnX (cx adisk_Disk_cut.lo adisk_Disk_cut.od) Tryd.f98 (Tryd.f98.body.getD .skip) [.pointer d1, .slice keepA1 keepL1 keepC1] K h = adisk_Disk_cut d1 keepA1 keepL1 keepC1 K h := by kernel_rfl
theorem adisk_Disk_cut.chk : fnOk (cx adisk_Disk_cut.lo adisk_Disk_cut.od) Tryd.f98 (Tryd.f98.body.getD .skip) 2 = true := by kernel_rfl
theorem adisk_Disk_cut.ok {d1 : Option Addr} {keepA1 : Option Addr} {keepL1 : Nat} {keepC1 : Nat} {K : Value → Heap → Prop} {h : Heap} (hx : adisk_Disk_cut d1 keepA1 keepL1 keepC1 K h) : C.adisk_Disk_cut d1 keepA1 keepL1 keepC1 h K :=
  fn_to (cxOk _ _) Tryd.func98 (by kernel_rfl) adisk_Disk_cut.chk (by rw [adisk_Disk_cut.eq]; exact hx)
end Go.Proofs.YtpleolmalbdpnaaDoor.W
