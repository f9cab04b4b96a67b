/-
  WHAT THE FUNCTIONS COMPUTE, as formulas; each held against the loaded code by the kernel. Written by program (gen.py).
-/
import Derived.Test.YtcdpakjhjmchhaaDoorTab
namespace Go.Proofs.YtcdpakjhjmchhaaDoor.W
open Go Go.Proofs Go.Proofs.YtcdpakjhjmchhaaDoor.Wx
-- 104
def inode_numbers (x1 : List Value) (K : Value → Heap → Prop) (h1 : Heap) : Prop :=
  New x1 35 h1 fun h2 =>
  New z175 175 h2 fun h3 =>
  New z175 175 h3 fun h4 =>
  CopyP ti3 (some ⟨h3.size, 0, none⟩) 12 (.slice (some (Addr.add ⟨h1.size, 0, none⟩ 3)) 10 10) h4 fun n1 h5 =>
  ∃ (n2 : Int), cellOf h5 (Addr.add ⟨h1.size, 0, none⟩ 13) = some (.int .i64 n2) ∧
  ∃ (n3 : Int), cellOf h5 (Addr.add ⟨h1.size, 0, none⟩ 14) = some (.int .i64 n3) ∧
  (0 ≤ (10 : Int) ∧ 10 < (12 : Int)) ∧
  Put (Addr.add ⟨h3.size, 0, none⟩ (Int.toNat 10)) (.int .i64 n2) h5 fun h6 =>
  (0 ≤ (11 : Int) ∧ 11 < (12 : Int)) ∧
  Put (Addr.add ⟨h3.size, 0, none⟩ (Int.toNat 11)) (.int .i64 n3) h6 fun h7 =>
  ∃ cs1 : List Value, List.length cs1 = 12 ∧ Cells h7 ⟨h3.size, 0, none⟩ cs1 ∧
  PutRow ⟨h2.size, 0, none⟩ cs1 12 h7 fun h8 =>
  ∃ res1 : List Value, List.length res1 = 12 ∧ Cells h8 ⟨h2.size, 0, none⟩ res1 ∧
  K (.agg ⟨res1⟩) h8
def inode_numbers.lo : Nat → List Nat × List (Nat × Ty) := fun n => match n with | _ => ([], [])
def inode_numbers.od : Nat → Od := fun n => match n with | 2 => (.op 0 [] (.op 1 [] (.op 2 [] (.op 3 [] .nil)))) | _ => .nil
theorem inode_numbers.eq (x1 : List Value) (K : Value → Heap → Prop) (h : Heap) : fnX (cx inode_numbers.lo inode_numbers.od) Tryd.f104 (Tryd.f104.body.getD .skip) [.agg ⟨x1⟩] K h = inode_numbers x1 K h := by kernel_rfl
theorem inode_numbers.chk : fnOk (cx inode_numbers.lo inode_numbers.od) Tryd.f104 (Tryd.f104.body.getD .skip) 1 = true := by kernel_rfl
theorem inode_numbers.ok {x1 : List Value} {K : Value → Heap → Prop} {h : Heap} (hx : inode_numbers x1 K h) : C.inode_numbers x1 h K :=
  fn_to (cxOk _ _) Tryd.func104 (by kernel_rfl) inode_numbers.chk (by rw [inode_numbers.eq]; exact hx)

-- 105
def inode_Decode_c1 (at1 : Int) (n1 : Int) (cap1 : Option Addr) (K : Value → Heap → Prop) (h1 : Heap) : Prop :=
  onSome cap1 fun p1 =>
  ∃ (sA1 : Option Addr) (sL1 : Nat) (sC1 : Nat), cellOf h1 p1 = some (.slice sA1 sL1 sC1) ∧
  C.rec_Get sA1 sL1 sC1 at1 n1 h1 fun r1 h2 =>
  ∃ (n2 : Int) (n3 : Int), r1 = .tuple #[.int .u64 n2, .int .i64 n3] ∧
  K (.int .i64 (IntKind.wrap .i64 (n2))) h2
def inode_Decode_c1.lo : Nat → List Nat × List (Nat × Ty) := fun n => match n with | _ => ([], [])
def inode_Decode_c1.od : Nat → Od := fun n => match n with | _ => .nil
theorem inode_Decode_c1.eq (at1 : Int) (n1 : Int) (cap1 : Option Addr) (K : Value → Heap → Prop) (h : Heap) : fnX (cx inode_Decode_c1.lo inode_Decode_c1.od) Tryd.f105 (Tryd.f105.body.getD .skip) [.int .i64 at1, .int .i64 n1, .pointer cap1] K h = inode_Decode_c1 at1 n1 cap1 K h := by kernel_rfl
theorem inode_Decode_c1.chk : fnOk (cx inode_Decode_c1.lo inode_Decode_c1.od) Tryd.f105 (Tryd.f105.body.getD .skip) 3 = true := by kernel_rfl
theorem inode_Decode_c1.ok {at1 : Int} {n1 : Int} {cap1 : Option Addr} {K : Value → Heap → Prop} {h : Heap} (hx : inode_Decode_c1 at1 n1 cap1 K h) : C.inode_Decode_c1 at1 n1 cap1 h K :=
  fn_to (cxOk _ _) Tryd.func105 (by kernel_rfl) inode_Decode_c1.chk (by rw [inode_Decode_c1.eq]; exact hx)

-- 106
def rec_Zero (bA1 : Option Addr) (bL1 : Nat) (bC1 : Nat) (at1 : Int) (n1 : Int) (K : Value → Heap → Prop) (h1 : Heap) : Prop :=
  bif (decide (n1 < 0)) then (
  K (.tuple #[.bool false, .int .i64 1]) h1) else (
  C.rec_lie bA1 bL1 bC1 at1 n1 h1 fun r1 h2 =>
  ∃ (b1 : Bool), r1 = .bool b1 ∧
  bif (!b1) then (
  K (.tuple #[.bool false, .int .i64 20]) h2) else (
  (0 ≤ at1 ∧ at1 ≤ (IntKind.wrap .i64 (at1 + n1)) ∧ (IntKind.wrap .i64 (at1 + n1)) ≤ (bC1 : Int)) ∧
  C.rec_zeros (if bC1 = (Int.toNat at1) then bA1 else Option.map (Addr.add · (Int.toNat at1)) bA1) ((Int.toNat (IntKind.wrap .i64 (at1 + n1))) - (Int.toNat at1)) (bC1 - (Int.toNat at1)) h2 fun r2 h3 =>
  ∃ (b2 : Bool), r2 = .bool b2 ∧
  K (.tuple #[.bool b2, .int .i64 0]) h3))
def rec_Zero.lo : Nat → List Nat × List (Nat × Ty) := fun n => match n with | _ => ([], [])
def rec_Zero.od : Nat → Od := fun n => match n with | _ => .nil
theorem rec_Zero.eq (bA1 : Option Addr) (bL1 : Nat) (bC1 : Nat) (at1 : Int) (n1 : Int) (K : Value → Heap → Prop) (h : Heap) : fnX (cx rec_Zero.lo rec_Zero.od) Tryd.f106 (Tryd.f106.body.getD .skip) [.slice bA1 bL1 bC1, .int .i64 at1, .int .i64 n1] K h = rec_Zero bA1 bL1 bC1 at1 n1 K h := by kernel_rfl
theorem rec_Zero.chk : fnOk (cx rec_Zero.lo rec_Zero.od) Tryd.f106 (Tryd.f106.body.getD .skip) 3 = true := by kernel_rfl
theorem rec_Zero.ok {bA1 : Option Addr} {bL1 : Nat} {bC1 : Nat} {at1 : Int} {n1 : Int} {K : Value → Heap → Prop} {h : Heap} (hx : rec_Zero bA1 bL1 bC1 at1 n1 K h) : C.rec_Zero bA1 bL1 bC1 at1 n1 h K :=
  fn_to (cxOk _ _) Tryd.func106 (by kernel_rfl) rec_Zero.chk (by rw [rec_Zero.eq]; exact hx)

-- 107
def inode_within (v1 : Int) (low1 : Int) (high1 : Int) (K : Value → Heap → Prop) (h1 : Heap) : Prop :=
  bif (decide (v1 ≥ low1)) then (
  K (.bool (decide (v1 ≤ high1))) h1) else (
  K (.bool false) h1)
def inode_within.lo : Nat → List Nat × List (Nat × Ty) := fun n => match n with | _ => ([], [])
def inode_within.od : Nat → Od := fun n => match n with | _ => .nil
theorem inode_within.eq (v1 : Int) (low1 : Int) (high1 : Int) (K : Value → Heap → Prop) (h : Heap) : fnX (cx inode_within.lo inode_within.od) Tryd.f107 (Tryd.f107.body.getD .skip) [.int .i64 v1, .int .i64 low1, .int .i64 high1] K h = inode_within v1 low1 high1 K h := by kernel_rfl
theorem inode_within.chk : fnOk (cx inode_within.lo inode_within.od) Tryd.f107 (Tryd.f107.body.getD .skip) 3 = true := by kernel_rfl
theorem inode_within.ok {v1 : Int} {low1 : Int} {high1 : Int} {K : Value → Heap → Prop} {h : Heap} (hx : inode_within v1 low1 high1 K h) : C.inode_within v1 low1 high1 h K :=
  fn_to (cxOk _ _) Tryd.func107 (by kernel_rfl) inode_within.chk (by rw [inode_within.eq]; exact hx)

-- 108
def geo_Record.k1 (n1 : Int) (h1 : Heap) (h2 : Heap) (K : Value → Heap → Prop) : Prop :=
  ∃ (n3 : Int), cellOf h2 (Addr.add ⟨h1.size, 0, none⟩ 2) = some (.int .i64 n3) ∧
  K (.tuple #[.int .i64 (IntKind.wrap .i64 (n3 + (IntKind.wrap .i64 (Int.tdiv n1 8)))), .int .i64 (IntKind.wrap .i64 ((Int.tmod n1 8) * 64)), .int .i64 0]) h2
def geo_Record (g1 : List Value) (n1 : Int) (K : Value → Heap → Prop) (h1 : Heap) : Prop :=
  New g1 29 h1 fun h2 =>
  bif (decide (n1 < 1)) then (
  K (.tuple #[.int .i64 0, .int .i64 0, .int .i64 110]) h2) else (
  ∃ (n2 : Int), cellOf h2 (Addr.add ⟨h1.size, 0, none⟩ 4) = some (.int .i64 n2) ∧
  bif (decide (n1 ≥ n2)) then (
  K (.tuple #[.int .i64 0, .int .i64 0, .int .i64 110]) h2) else (
  geo_Record.k1 n1 h1 h2 K))
def geo_Record.lo : Nat → List Nat × List (Nat × Ty) := fun n => match n with | _ => ([], [])
def geo_Record.od : Nat → Od := fun n => match n with | _ => .nil
theorem geo_Record.eq (g1 : List Value) (n1 : Int) (K : Value → Heap → Prop) (h : Heap) : fnX (cx geo_Record.lo geo_Record.od) Tryd.f108 (Tryd.f108.body.getD .skip) [.agg ⟨g1⟩, .int .i64 n1] K h = geo_Record g1 n1 K h := by kernel_rfl
theorem geo_Record.chk : fnOk (cx geo_Record.lo geo_Record.od) Tryd.f108 (Tryd.f108.body.getD .skip) 2 = true := by kernel_rfl
theorem geo_Record.ok {g1 : List Value} {n1 : Int} {K : Value → Heap → Prop} {h : Heap} (hx : geo_Record g1 n1 K h) : C.geo_Record g1 n1 h K :=
  fn_to (cxOk _ _) Tryd.func108 (by kernel_rfl) geo_Record.chk (by rw [geo_Record.eq]; exact hx)

-- 109
def adisk_Disk_Blocks (d1 : Option Addr) (K : Value → Heap → Prop) (h1 : Heap) : Prop :=
  onSome d1 fun p1 =>
  ∃ (sA1 : Option Addr) (sL1 : Nat) (sC1 : Nat), cellOf h1 (Addr.add p1 0) = some (.slice sA1 sL1 sC1) ∧
  K (.int .i64 (sL1 : Int)) h1
def adisk_Disk_Blocks.lo : Nat → List Nat × List (Nat × Ty) := fun n => match n with | _ => ([], [])
def adisk_Disk_Blocks.od : Nat → Od := fun n => match n with | _ => .nil
theorem adisk_Disk_Blocks.eq (d1 : Option Addr) (K : Value → Heap → Prop) (h : Heap) : fnX (cx adisk_Disk_Blocks.lo adisk_Disk_Blocks.od) Tryd.f109 (Tryd.f109.body.getD .skip) [.pointer d1] K h = adisk_Disk_Blocks d1 K h := by kernel_rfl
theorem adisk_Disk_Blocks.chk : fnOk (cx adisk_Disk_Blocks.lo adisk_Disk_Blocks.od) Tryd.f109 (Tryd.f109.body.getD .skip) 1 = true := by kernel_rfl
theorem adisk_Disk_Blocks.ok {d1 : Option Addr} {K : Value → Heap → Prop} {h : Heap} (hx : adisk_Disk_Blocks d1 K h) : C.adisk_Disk_Blocks d1 h K :=
  fn_to (cxOk _ _) Tryd.func109 (by kernel_rfl) adisk_Disk_Blocks.chk (by rw [adisk_Disk_Blocks.eq]; exact hx)

-- 110
def txn_Txn_Write_c1 (cap1 : Option Addr) (cap2 : Option Addr) (cap3 : Option Addr) (cap4 : Option Addr) (K : Value → Heap → Prop) (h1 : Heap) : Prop :=
  onSome cap1 fun p1 =>
  ∃ (b1 : Bool), cellOf h1 p1 = some (.bool b1) ∧
  bif b1 then (
  onSome cap3 fun p2 =>
  ∃ (q1 : Option Addr), cellOf h1 p2 = some (.pointer q1) ∧
  onSome q1 fun p3 =>
  ∃ (m1 : Option Nat), cellOf h1 (Addr.add p3 1) = some (.map m1) ∧
  onSome cap4 fun p4 =>
  ∃ (n1 : Int), cellOf h1 p4 = some (.int .i64 n1) ∧
  onSome cap2 fun p5 =>
  ∃ (sA1 : Option Addr) (sL1 : Nat) (sC1 : Nat), cellOf h1 p5 = some (.slice sA1 sL1 sC1) ∧
  onSome m1 fun r1 =>
  MapPut (.int .i64) r1 (.i n1) (.slice sA1 sL1 sC1) h1 fun h2 =>
  K (.tuple #[]) h2) else (
  onSome cap3 fun p6 =>
  ∃ (q2 : Option Addr), cellOf h1 p6 = some (.pointer q2) ∧
  onSome q2 fun p7 =>
  ∃ (m2 : Option Nat), cellOf h1 (Addr.add p7 1) = some (.map m2) ∧
  onSome cap4 fun p8 =>
  ∃ (n2 : Int), cellOf h1 p8 = some (.int .i64 n2) ∧
  MapDel (.int .i64) m2 (.i n2) h1 fun h3 =>
  K (.tuple #[]) h3)
def txn_Txn_Write_c1.lo : Nat → List Nat × List (Nat × Ty) := fun n => match n with | _ => ([], [])
def txn_Txn_Write_c1.od : Nat → Od := fun n => match n with | 1 => (.op 0 [] (.op 1 [] (.op 2 [] (.op 3 [] (.op 4 [] (.op 5 [] (.op 6 [] .nil))))))) | 2 => (.op 0 [] (.op 1 [] (.op 2 [] (.op 3 [] (.op 4 [] (.op 5 [] .nil)))))) | _ => .nil
theorem txn_Txn_Write_c1.eq (cap1 : Option Addr) (cap2 : Option Addr) (cap3 : Option Addr) (cap4 : Option Addr) (K : Value → Heap → Prop) (h : Heap) : fnX (cx txn_Txn_Write_c1.lo txn_Txn_Write_c1.od) Tryd.f110 (Tryd.f110.body.getD .skip) [.pointer cap1, .pointer cap2, .pointer cap3, .pointer cap4] K h = txn_Txn_Write_c1 cap1 cap2 cap3 cap4 K h := by kernel_rfl
theorem txn_Txn_Write_c1.chk : fnOk (cx txn_Txn_Write_c1.lo txn_Txn_Write_c1.od) Tryd.f110 (Tryd.f110.body.getD .skip) 4 = true := by kernel_rfl
theorem txn_Txn_Write_c1.ok {cap1 : Option Addr} {cap2 : Option Addr} {cap3 : Option Addr} {cap4 : Option Addr} {K : Value → Heap → Prop} {h : Heap} (hx : txn_Txn_Write_c1 cap1 cap2 cap3 cap4 K h) : C.txn_Txn_Write_c1 cap1 cap2 cap3 cap4 h K :=
  fn_to (cxOk _ _) Tryd.func110 (by kernel_rfl) txn_Txn_Write_c1.chk (by rw [txn_Txn_Write_c1.eq]; exact hx)

-- 111
def slices_Clone_byte_byte (sA1 : Option Addr) (sL1 : Nat) (sC1 : Nat) (K : Value → Heap → Prop) (h1 : Heap) : Prop :=
  bif (Option.isNone sA1) then (
  K (.slice none 0 0) h1) else (
  New [] 5 h1 fun h2 =>
  ∃ new1 : List Value, List.length new1 = sL1 * 1 ∧ SlCells h2 sA1 new1 ∧ (∀ v ∈ new1, v.oneCell' = true) ∧
  AppendP ti5 5 (some ⟨h1.size, 0, none⟩) 0 0 sL1 new1 h2 fun sA2 sL2 sC2 h3 =>
  K (.slice sA2 sL2 sC2) h3)
def slices_Clone_byte_byte.lo : Nat → List Nat × List (Nat × Ty) := fun n => match n with | _ => ([], [])
def slices_Clone_byte_byte.od : Nat → Od := fun n => match n with | _ => .nil
theorem slices_Clone_byte_byte.eq (sA1 : Option Addr) (sL1 : Nat) (sC1 : Nat) (K : Value → Heap → Prop) (h : Heap) : fnX (cx slices_Clone_byte_byte.lo slices_Clone_byte_byte.od) Tryd.f111 (Tryd.f111.body.getD .skip) [.slice sA1 sL1 sC1] K h = slices_Clone_byte_byte sA1 sL1 sC1 K h := by kernel_rfl
theorem slices_Clone_byte_byte.chk : fnOk (cx slices_Clone_byte_byte.lo slices_Clone_byte_byte.od) Tryd.f111 (Tryd.f111.body.getD .skip) 1 = true := by kernel_rfl
theorem slices_Clone_byte_byte.ok {sA1 : Option Addr} {sL1 : Nat} {sC1 : Nat} {K : Value → Heap → Prop} {h : Heap} (hx : slices_Clone_byte_byte sA1 sL1 sC1 K h) : C.slices_Clone_byte_byte sA1 sL1 sC1 h K :=
  fn_to (cxOk _ _) Tryd.func111 (by kernel_rfl) slices_Clone_byte_byte.chk (by rw [slices_Clone_byte_byte.eq]; exact hx)

-- 113
def maps_Keys_map_int_byte_int_byte (m1 : Option Nat) (K : Value → Heap → Prop) (h1 : Heap) : Prop :=
  New [.map m1] 149 h1 fun h2 =>
  K (.func (.func 137) #[] ⟨[.pointer (some ⟨h1.size, 0, none⟩)]⟩) h2
def maps_Keys_map_int_byte_int_byte.lo : Nat → List Nat × List (Nat × Ty) := fun n => match n with | _ => ([], [])
def maps_Keys_map_int_byte_int_byte.od : Nat → Od := fun n => match n with | _ => .nil
theorem maps_Keys_map_int_byte_int_byte.eq (m1 : Option Nat) (K : Value → Heap → Prop) (h : Heap) : fnX (cx maps_Keys_map_int_byte_int_byte.lo maps_Keys_map_int_byte_int_byte.od) Tryd.f113 (Tryd.f113.body.getD .skip) [.map m1] K h = maps_Keys_map_int_byte_int_byte m1 K h := by kernel_rfl
theorem maps_Keys_map_int_byte_int_byte.chk : fnOk (cx maps_Keys_map_int_byte_int_byte.lo maps_Keys_map_int_byte_int_byte.od) Tryd.f113 (Tryd.f113.body.getD .skip) 1 = true := by kernel_rfl
theorem maps_Keys_map_int_byte_int_byte.ok {m1 : Option Nat} {K : Value → Heap → Prop} {h : Heap} (hx : maps_Keys_map_int_byte_int_byte m1 K h) : C.maps_Keys_map_int_byte_int_byte m1 h K :=
  fn_to (cxOk _ _) Tryd.func113 (by kernel_rfl) maps_Keys_map_int_byte_int_byte.chk (by rw [maps_Keys_map_int_byte_int_byte.eq]; exact hx)

-- 114
def boleref07_Record.k1 (n1 : Int) (h1 : Heap) (h2 : Heap) (K : Value → Heap → Prop) : Prop :=
  ∃ (n3 : Int), cellOf h2 (Addr.add ⟨h1.size, 0, none⟩ 2) = some (.int .i64 n3) ∧
  K (.tuple #[.int .i64 (IntKind.wrap .i64 (n3 + (IntKind.wrap .i64 (Int.tdiv n1 8)))), .int .i64 (IntKind.wrap .i64 ((Int.tmod n1 8) * 64)), .int .i64 0]) h2
def boleref07_Record (g1 : List Value) (n1 : Int) (K : Value → Heap → Prop) (h1 : Heap) : Prop :=
  New g1 29 h1 fun h2 =>
  bif (decide (n1 < 1)) then (
  K (.tuple #[.int .i64 0, .int .i64 0, .int .i64 110]) h2) else (
  ∃ (n2 : Int), cellOf h2 (Addr.add ⟨h1.size, 0, none⟩ 4) = some (.int .i64 n2) ∧
  bif (decide (n1 ≥ n2)) then (
  K (.tuple #[.int .i64 0, .int .i64 0, .int .i64 110]) h2) else (
  boleref07_Record.k1 n1 h1 h2 K))
def boleref07_Record.lo : Nat → List Nat × List (Nat × Ty) := fun n => match n with | _ => ([], [])
def boleref07_Record.od : Nat → Od := fun n => match n with | _ => .nil
theorem boleref07_Record.eq (g1 : List Value) (n1 : Int) (K : Value → Heap → Prop) (h : Heap) : fnX (cx boleref07_Record.lo boleref07_Record.od) Tryd.f114 (Tryd.f114.body.getD .skip) [.agg ⟨g1⟩, .int .i64 n1] K h = boleref07_Record g1 n1 K h := by kernel_rfl
theorem boleref07_Record.chk : fnOk (cx boleref07_Record.lo boleref07_Record.od) Tryd.f114 (Tryd.f114.body.getD .skip) 2 = true := by kernel_rfl
theorem boleref07_Record.ok {g1 : List Value} {n1 : Int} {K : Value → Heap → Prop} {h : Heap} (hx : boleref07_Record g1 n1 K h) : C.boleref07_Record g1 n1 h K :=
  fn_to (cxOk _ _) Tryd.func114 (by kernel_rfl) boleref07_Record.chk (by rw [boleref07_Record.eq]; exact hx)

-- 115
def boleref11_Decode.k1 (bA1 : Option Addr) (bL1 : Nat) (bC1 : Nat) (h1 : Heap) (x1 : Option Addr) (h9 : Heap) (K : Value → Heap → Prop) : Prop :=
  ∃ (I1 : Int → Heap → Prop) (M1 : Int → Heap → Nat), I1 0 h9 ∧
  ∀ (i1 : Int), ∀ h10 : Heap, I1 i1 h10 →
  bif (decide (i1 < 10)) then (
  (0 ≤ (IntKind.wrap .i64 (8 + (IntKind.wrap .i64 (4 * i1)))) ∧ (IntKind.wrap .i64 (8 + (IntKind.wrap .i64 (4 * i1)))) ≤ (IntKind.wrap .i64 (12 + (IntKind.wrap .i64 (4 * i1)))) ∧ (IntKind.wrap .i64 (12 + (IntKind.wrap .i64 (4 * i1)))) ≤ (bC1 : Int)) ∧
  C.boleref11_number (if bC1 = (Int.toNat (IntKind.wrap .i64 (8 + (IntKind.wrap .i64 (4 * i1))))) then bA1 else Option.map (Addr.add · (Int.toNat (IntKind.wrap .i64 (8 + (IntKind.wrap .i64 (4 * i1)))))) bA1) ((Int.toNat (IntKind.wrap .i64 (12 + (IntKind.wrap .i64 (4 * i1))))) - (Int.toNat (IntKind.wrap .i64 (8 + (IntKind.wrap .i64 (4 * i1)))))) (bC1 - (Int.toNat (IntKind.wrap .i64 (8 + (IntKind.wrap .i64 (4 * i1)))))) h10 fun r4 h11 =>
  ∃ (n4 : Int), r4 = .int .i64 n4 ∧
  onSome x1 fun p1 =>
  (0 ≤ i1 ∧ i1 < (10 : Int)) ∧
  Put (Addr.add (Addr.add p1 3) (Int.toNat i1)) (.int .i64 n4) h11 fun h12 =>
  I1 (IntKind.wrap .i64 (i1 + 1)) h12 ∧ M1 (IntKind.wrap .i64 (i1 + 1)) h12 < M1 i1 h10) else (
  (0 ≤ (48 : Int) ∧ (48 : Int) ≤ (52 : Int) ∧ (52 : Int) ≤ (bC1 : Int)) ∧
  C.boleref11_number (if bC1 = (Int.toNat 48) then bA1 else Option.map (Addr.add · (Int.toNat 48)) bA1) ((Int.toNat 52) - (Int.toNat 48)) (bC1 - (Int.toNat 48)) h10 fun r5 h13 =>
  ∃ (n5 : Int), r5 = .int .i64 n5 ∧
  onSome x1 fun p2 =>
  Put (Addr.add p2 13) (.int .i64 n5) h13 fun h14 =>
  (0 ≤ (52 : Int) ∧ (52 : Int) ≤ (56 : Int) ∧ (56 : Int) ≤ (bC1 : Int)) ∧
  C.boleref11_number (if bC1 = (Int.toNat 52) then bA1 else Option.map (Addr.add · (Int.toNat 52)) bA1) ((Int.toNat 56) - (Int.toNat 52)) (bC1 - (Int.toNat 52)) h14 fun r6 h15 =>
  ∃ (n6 : Int), r6 = .int .i64 n6 ∧
  onSome x1 fun p3 =>
  Put (Addr.add p3 14) (.int .i64 n6) h15 fun h16 =>
  onSome x1 fun p4 =>
  ∃ cs1 : List Value, List.length cs1 = 15 ∧ Cells h16 p4 cs1 ∧
  C.boleref11_Encode cs1 h16 fun r7 h17 =>
  ∃ (sA1 : Option Addr) (sL1 : Nat) (sC1 : Nat) (n7 : Int), r7 = .tuple #[.slice sA1 sL1 sC1, .int .i64 n7] ∧
  bif (n7 != 0) then (
  PutRow ⟨h1.size, 0, none⟩ [.int .i64 0, .int .i64 0, .int .i64 0, .int .i64 0, .int .i64 0, .int .i64 0, .int .i64 0, .int .i64 0, .int .i64 0, .int .i64 0, .int .i64 0, .int .i64 0, .int .i64 0, .int .i64 0, .int .i64 0] 15 h17 fun h18 =>
  ∃ res2 : List Value, List.length res2 = 15 ∧ Cells h18 ⟨h1.size, 0, none⟩ res2 ∧
  K (.tuple #[.agg ⟨res2⟩, .int .i64 111]) h18) else (
  ∃ bs1 : List UInt8, StrAt h17 sA1 sL1 bs1 ∧
  ∃ bs2 : List UInt8, StrAt h17 bA1 bL1 bs2 ∧
  bif (!((mkStr bs1).toList == (mkStr bs2).toList)) then (
  PutRow ⟨h1.size, 0, none⟩ [.int .i64 0, .int .i64 0, .int .i64 0, .int .i64 0, .int .i64 0, .int .i64 0, .int .i64 0, .int .i64 0, .int .i64 0, .int .i64 0, .int .i64 0, .int .i64 0, .int .i64 0, .int .i64 0, .int .i64 0] 15 h17 fun h19 =>
  ∃ res3 : List Value, List.length res3 = 15 ∧ Cells h19 ⟨h1.size, 0, none⟩ res3 ∧
  K (.tuple #[.agg ⟨res3⟩, .int .i64 111]) h19) else (
  onSome x1 fun p5 =>
  ∃ cs2 : List Value, List.length cs2 = 15 ∧ Cells h17 p5 cs2 ∧
  PutRow ⟨h1.size, 0, none⟩ cs2 15 h17 fun h20 =>
  ∃ res4 : List Value, List.length res4 = 15 ∧ Cells h20 ⟨h1.size, 0, none⟩ res4 ∧
  K (.tuple #[.agg ⟨res4⟩, .int .i64 0]) h20)))
def boleref11_Decode (bA1 : Option Addr) (bL1 : Nat) (bC1 : Nat) (K : Value → Heap → Prop) (h1 : Heap) : Prop :=
  New z35 35 h1 fun h2 =>
  bif ((bL1 : Int) != 64) then (
  PutRow ⟨h1.size, 0, none⟩ [.int .i64 0, .int .i64 0, .int .i64 0, .int .i64 0, .int .i64 0, .int .i64 0, .int .i64 0, .int .i64 0, .int .i64 0, .int .i64 0, .int .i64 0, .int .i64 0, .int .i64 0, .int .i64 0, .int .i64 0] 15 h2 fun h3 =>
  ∃ res1 : List Value, List.length res1 = 15 ∧ Cells h3 ⟨h1.size, 0, none⟩ res1 ∧
  K (.tuple #[.agg ⟨res1⟩, .int .i64 32]) h3) else (
  (0 ≤ (0 : Int) ∧ (0 : Int) ≤ (1 : Int) ∧ (1 : Int) ≤ (bC1 : Int)) ∧
  (0 ≤ (2 : Int) ∧ (2 : Int) ≤ (4 : Int) ∧ (4 : Int) ≤ (bC1 : Int)) ∧
  (0 ≤ (4 : Int) ∧ (4 : Int) ≤ (8 : Int) ∧ (8 : Int) ≤ (bC1 : Int)) ∧
  (
  C.boleref11_number (if bC1 = (Int.toNat 0) then bA1 else Option.map (Addr.add · (Int.toNat 0)) bA1) ((Int.toNat 1) - (Int.toNat 0)) (bC1 - (Int.toNat 0)) h2 fun r1 h4 =>
  ∃ (n1 : Int), r1 = .int .i64 n1 ∧
  (
  C.boleref11_number (if bC1 = (Int.toNat 2) then bA1 else Option.map (Addr.add · (Int.toNat 2)) bA1) ((Int.toNat 4) - (Int.toNat 2)) (bC1 - (Int.toNat 2)) h4 fun r2 h5 =>
  ∃ (n2 : Int), r2 = .int .i64 n2 ∧
  (
  C.boleref11_number (if bC1 = (Int.toNat 4) then bA1 else Option.map (Addr.add · (Int.toNat 4)) bA1) ((Int.toNat 8) - (Int.toNat 4)) (bC1 - (Int.toNat 4)) h5 fun r3 h6 =>
  ∃ (n3 : Int), r3 = .int .i64 n3 ∧
  NewRow z35 35 [.int .i64 n1, .int .i64 n2, .int .i64 n3, .int .i64 0, .int .i64 0, .int .i64 0, .int .i64 0, .int .i64 0, .int .i64 0, .int .i64 0, .int .i64 0, .int .i64 0, .int .i64 0, .int .i64 0, .int .i64 0] 15 h6 fun h8 =>
  boleref11_Decode.k1 bA1 bL1 bC1 h1 (some ⟨h6.size, 0, none⟩) h8 K) ∧
  New z35 35 h5 fun h21 =>
  C.boleref11_number (if bC1 = (Int.toNat 4) then bA1 else Option.map (Addr.add · (Int.toNat 4)) bA1) ((Int.toNat 8) - (Int.toNat 4)) (bC1 - (Int.toNat 4)) h21 fun r8 h22 =>
  ∃ (n8 : Int), r8 = .int .i64 n8 ∧
  PutRow ⟨h5.size, 0, none⟩ [.int .i64 n1, .int .i64 n2, .int .i64 n8, .int .i64 0, .int .i64 0, .int .i64 0, .int .i64 0, .int .i64 0, .int .i64 0, .int .i64 0, .int .i64 0, .int .i64 0, .int .i64 0, .int .i64 0, .int .i64 0] 15 h22 fun h23 =>
  boleref11_Decode.k1 bA1 bL1 bC1 h1 (some ⟨h5.size, 0, none⟩) h23 K) ∧
  New z35 35 h4 fun h24 =>
  C.boleref11_number (if bC1 = (Int.toNat 2) then bA1 else Option.map (Addr.add · (Int.toNat 2)) bA1) ((Int.toNat 4) - (Int.toNat 2)) (bC1 - (Int.toNat 2)) h24 fun r9 h25 =>
  ∃ (n9 : Int), r9 = .int .i64 n9 ∧
  C.boleref11_number (if bC1 = (Int.toNat 4) then bA1 else Option.map (Addr.add · (Int.toNat 4)) bA1) ((Int.toNat 8) - (Int.toNat 4)) (bC1 - (Int.toNat 4)) h25 fun r10 h26 =>
  ∃ (n10 : Int), r10 = .int .i64 n10 ∧
  PutRow ⟨h4.size, 0, none⟩ [.int .i64 n1, .int .i64 n9, .int .i64 n10, .int .i64 0, .int .i64 0, .int .i64 0, .int .i64 0, .int .i64 0, .int .i64 0, .int .i64 0, .int .i64 0, .int .i64 0, .int .i64 0, .int .i64 0, .int .i64 0] 15 h26 fun h27 =>
  boleref11_Decode.k1 bA1 bL1 bC1 h1 (some ⟨h4.size, 0, none⟩) h27 K) ∧
  New z35 35 h2 fun h28 =>
  C.boleref11_number (if bC1 = (Int.toNat 0) then bA1 else Option.map (Addr.add · (Int.toNat 0)) bA1) ((Int.toNat 1) - (Int.toNat 0)) (bC1 - (Int.toNat 0)) h28 fun r11 h29 =>
  ∃ (n11 : Int), r11 = .int .i64 n11 ∧
  C.boleref11_number (if bC1 = (Int.toNat 2) then bA1 else Option.map (Addr.add · (Int.toNat 2)) bA1) ((Int.toNat 4) - (Int.toNat 2)) (bC1 - (Int.toNat 2)) h29 fun r12 h30 =>
  ∃ (n12 : Int), r12 = .int .i64 n12 ∧
  C.boleref11_number (if bC1 = (Int.toNat 4) then bA1 else Option.map (Addr.add · (Int.toNat 4)) bA1) ((Int.toNat 8) - (Int.toNat 4)) (bC1 - (Int.toNat 4)) h30 fun r13 h31 =>
  ∃ (n13 : Int), r13 = .int .i64 n13 ∧
  PutRow ⟨h2.size, 0, none⟩ [.int .i64 n11, .int .i64 n12, .int .i64 n13, .int .i64 0, .int .i64 0, .int .i64 0, .int .i64 0, .int .i64 0, .int .i64 0, .int .i64 0, .int .i64 0, .int .i64 0, .int .i64 0, .int .i64 0, .int .i64 0] 15 h31 fun h32 =>
  boleref11_Decode.k1 bA1 bL1 bC1 h1 (some ⟨h2.size, 0, none⟩) h32 K)
def boleref11_Decode.lo : Nat → List Nat × List (Nat × Ty) := fun n => match n with | 5 => ([0, 2, 4], [(5, .int .i64)]) | _ => ([], [])
def boleref11_Decode.od : Nat → Od := fun n => match n with | 3 => (.op 0 [] (.op 1 [] (.op 3 [] (.op 4 [] (.op 6 [] (.op 7 [] (.alt 2 [] (.alt 5 [] (.alt 8 [] (.op 9 [] (.op 10 [] (.op 11 [] .nil))) (.op 10 [] (.op 8 [] (.op 9 [] (.op 11 [] .nil))))) (.op 10 [] (.op 5 [] (.op 8 [] (.op 9 [] (.op 11 [] .nil)))))) (.op 10 [] (.op 2 [] (.op 5 [] (.op 8 [] (.op 9 [] (.op 11 [] .nil))))))))))))) | _ => .nil
theorem boleref11_Decode.eq (bA1 : Option Addr) (bL1 : Nat) (bC1 : Nat) (K : Value → Heap → Prop) (h : Heap) : fnX (cx boleref11_Decode.lo boleref11_Decode.od) Tryd.f115 (Tryd.f115.body.getD .skip) [.slice bA1 bL1 bC1] K h = boleref11_Decode bA1 bL1 bC1 K h := by kernel_rfl
theorem boleref11_Decode.chk : fnOk (cx boleref11_Decode.lo boleref11_Decode.od) Tryd.f115 (Tryd.f115.body.getD .skip) 1 = true := by kernel_rfl
theorem boleref11_Decode.ok {bA1 : Option Addr} {bL1 : Nat} {bC1 : Nat} {K : Value → Heap → Prop} {h : Heap} (hx : boleref11_Decode bA1 bL1 bC1 K h) : C.boleref11_Decode bA1 bL1 bC1 h K :=
  fn_to (cxOk _ _) Tryd.func115 (by kernel_rfl) boleref11_Decode.chk (by rw [boleref11_Decode.eq]; exact hx)

-- 116
def boleref11_Encode (x1 : List Value) (K : Value → Heap → Prop) (h1 : Heap) : Prop :=
  New x1 35 h1 fun h2 =>
  ∃ cs1 : List Value, List.length cs1 = 15 ∧ Cells h2 ⟨h1.size, 0, none⟩ cs1 ∧
  C.boleref11_May cs1 h2 fun r1 h3 =>
  ∃ (b1 : Bool), r1 = .bool b1 ∧
  bif (!b1) then (
  K (.tuple #[.slice none 0 0, .int .i64 111]) h3) else (
  ∃ cs2 : List Value, List.length cs2 = 15 ∧ Cells h3 ⟨h1.size, 0, none⟩ cs2 ∧
  C.boleref11_laid cs2 h3 fun r2 h4 =>
  ∃ (sA1 : Option Addr) (sL1 : Nat) (sC1 : Nat), r2 = .slice sA1 sL1 sC1 ∧
  K (.tuple #[.slice sA1 sL1 sC1, .int .i64 0]) h4)
def boleref11_Encode.lo : Nat → List Nat × List (Nat × Ty) := fun n => match n with | _ => ([], [])
def boleref11_Encode.od : Nat → Od := fun n => match n with | _ => .nil
theorem boleref11_Encode.eq (x1 : List Value) (K : Value → Heap → Prop) (h : Heap) : fnX (cx boleref11_Encode.lo boleref11_Encode.od) Tryd.f116 (Tryd.f116.body.getD .skip) [.agg ⟨x1⟩] K h = boleref11_Encode x1 K h := by kernel_rfl
theorem boleref11_Encode.chk : fnOk (cx boleref11_Encode.lo boleref11_Encode.od) Tryd.f116 (Tryd.f116.body.getD .skip) 1 = true := by kernel_rfl
theorem boleref11_Encode.ok {x1 : List Value} {K : Value → Heap → Prop} {h : Heap} (hx : boleref11_Encode x1 K h) : C.boleref11_Encode x1 h K :=
  fn_to (cxOk _ _) Tryd.func116 (by kernel_rfl) boleref11_Encode.chk (by rw [boleref11_Encode.eq]; exact hx)

-- 117
def boleref06_Txn_Write.k2 (t1 : Option Addr) (i1 : Int) (bA1 : Option Addr) (bL1 : Nat) (h5 : Heap) (K : Value → Heap → Prop) : Prop :=
  onSome t1 fun p3 =>
  ∃ (sA2 : Option Addr) (sL2 : Nat) (sC2 : Nat), cellOf h5 (Addr.add p3 1) = some (.slice sA2 sL2 sC2) ∧
  ∃ bs1 : List UInt8, StrAt h5 bA1 bL1 bs1 ∧
  List.length ([.int .i64 i1, .string (mkStr bs1)] : List Value) = 2 ∧
  New [.int .i64 i1, .string (mkStr bs1)] 188 h5 fun h6 =>
  (cellOf h6 (Addr.add p3 1) = some (.slice sA2 sL2 sC2)) ∧
  ∃ new1 : List Value, List.length new1 = 1 * 2 ∧ SlCells h6 (some ⟨h5.size, 0, none⟩) new1 ∧ (∀ v ∈ new1, v.oneCell' = true) ∧
  AppendP ti188 188 sA2 sL2 sC2 1 new1 h6 fun sA3 sL3 sC3 h7 =>
  onSome t1 fun p4 =>
  Put (Addr.add p4 1) (.slice sA3 sL3 sC3) h7 fun h8 =>
  K (.int .i64 0) h8
def boleref06_Txn_Write.k1 (t1 : Option Addr) (i1 : Int) (bA1 : Option Addr) (bL1 : Nat) (h3 : Heap) (K : Value → Heap → Prop) : Prop :=
  bif ((bL1 : Int) != 512) then (
  K (.int .i64 32) h3) else (
  C.boleref06_Txn_put t1 i1 h3 fun r2 h4 =>
  ∃ (n2 : Int), r2 = .int .i64 n2 ∧
  C.boleref06_Txn_Written t1 h4 fun r3 h5 =>
  ∃ (sA1 : Option Addr) (sL1 : Nat) (sC1 : Nat), r3 = .slice sA1 sL1 sC1 ∧
  bif (decide (n2 < 0)) then (
  bif (decide ((sL1 : Int) ≥ 96)) then (
  K (.int .i64 60) h5) else (
  boleref06_Txn_Write.k2 t1 i1 bA1 bL1 h5 K)) else (
  boleref06_Txn_Write.k2 t1 i1 bA1 bL1 h5 K))
def boleref06_Txn_Write (t1 : Option Addr) (i1 : Int) (bA1 : Option Addr) (bL1 : Nat) (bC1 : Nat) (K : Value → Heap → Prop) (h1 : Heap) : Prop :=
  onSome t1 fun p1 =>
  ∃ (b1 : Bool), cellOf h1 (Addr.add p1 2) = some (.bool b1) ∧
  bif b1 then (
  K (.int .i64 61) h1) else (
  bif (decide (i1 < 98)) then (
  K (.int .i64 31) h1) else (
  onSome t1 fun p2 =>
  ∃ (q1 : Option Addr), cellOf h1 (Addr.add p2 0) = some (.pointer q1) ∧
  C.boleref03_Disk_Blocks q1 h1 fun r1 h2 =>
  ∃ (n1 : Int), r1 = .int .i64 n1 ∧
  bif (decide (i1 ≥ n1)) then (
  K (.int .i64 31) h2) else (
  boleref06_Txn_Write.k1 t1 i1 bA1 bL1 h2 K)))
def boleref06_Txn_Write.lo : Nat → List Nat × List (Nat × Ty) := fun n => match n with | _ => ([], [])
def boleref06_Txn_Write.od : Nat → Od := fun n => match n with | 11 => (.op 0 [] (.op 1 [] (.op 2 [] (.op 3 [] (.op 4 [] (.op 5 [] (.op 6 [] (.op 7 [] (.op 8 [] (.op 9 [4] (.op 10 [] (.op 11 [] (.op 12 [] (.op 13 [] .nil)))))))))))))) | _ => .nil
theorem boleref06_Txn_Write.eq (t1 : Option Addr) (i1 : Int) (bA1 : Option Addr) (bL1 : Nat) (bC1 : Nat) (K : Value → Heap → Prop) (h : Heap) : fnX (cx boleref06_Txn_Write.lo boleref06_Txn_Write.od) Tryd.f117 (Tryd.f117.body.getD .skip) [.pointer t1, .int .i64 i1, .slice bA1 bL1 bC1] K h = boleref06_Txn_Write t1 i1 bA1 bL1 bC1 K h := by kernel_rfl
theorem boleref06_Txn_Write.chk : fnOk (cx boleref06_Txn_Write.lo boleref06_Txn_Write.od) Tryd.f117 (Tryd.f117.body.getD .skip) 3 = true := by kernel_rfl
theorem boleref06_Txn_Write.ok {t1 : Option Addr} {i1 : Int} {bA1 : Option Addr} {bL1 : Nat} {bC1 : Nat} {K : Value → Heap → Prop} {h : Heap} (hx : boleref06_Txn_Write t1 i1 bA1 bL1 bC1 K h) : C.boleref06_Txn_Write t1 i1 bA1 bL1 bC1 h K :=
  fn_to (cxOk _ _) Tryd.func117 (by kernel_rfl) boleref06_Txn_Write.chk (by rw [boleref06_Txn_Write.eq]; exact hx)

-- 118
def boleref11_May.k1 (h1 : Heap) (h7 : Heap) (K : Value → Heap → Prop) : Prop :=
  ∃ (n4 : Int), cellOf h7 (Addr.add ⟨h1.size, 0, none⟩ 0) = some (.int .i64 n4) ∧
  bif (n4 == 0) then (
  ∃ cs1 : List Value, List.length cs1 = 15 ∧ Cells h7 ⟨h1.size, 0, none⟩ cs1 ∧
  pairsOk [(.int .i64), (.int .i64), (.int .i64), (.int .i64), (.int .i64), (.int .i64), (.int .i64), (.int .i64), (.int .i64), (.int .i64), (.int .i64), (.int .i64), (.int .i64), (.int .i64), (.int .i64)] cs1 [.int .i64 0, .int .i64 0, .int .i64 0, .int .i64 0, .int .i64 0, .int .i64 0, .int .i64 0, .int .i64 0, .int .i64 0, .int .i64 0, .int .i64 0, .int .i64 0, .int .i64 0, .int .i64 0, .int .i64 0] = true ∧
  K (.bool (cellsEq cs1 [.int .i64 0, .int .i64 0, .int .i64 0, .int .i64 0, .int .i64 0, .int .i64 0, .int .i64 0, .int .i64 0, .int .i64 0, .int .i64 0, .int .i64 0, .int .i64 0, .int .i64 0, .int .i64 0, .int .i64 0])) h7) else (
  bif (n4 == 1) then (
  ∃ (n5 : Int), cellOf h7 (Addr.add ⟨h1.size, 0, none⟩ 1) = some (.int .i64 n5) ∧
  C.boleref11_within n5 0 1000 h7 fun r4 h8 =>
  ∃ (b4 : Bool), r4 = .bool b4 ∧
  bif b4 then (
  ∃ (n6 : Int), cellOf h8 (Addr.add ⟨h1.size, 0, none⟩ 2) = some (.int .i64 n6) ∧
  C.boleref11_within n6 0 8459264 h8 fun r5 h9 =>
  ∃ (b5 : Bool), r5 = .bool b5 ∧
  K (.bool b5) h9) else (
  K (.bool false) h8)) else (
  bif (n4 == 2) then (
  ∃ (n7 : Int), cellOf h7 (Addr.add ⟨h1.size, 0, none⟩ 1) = some (.int .i64 n7) ∧
  C.boleref11_within n7 2 65535 h7 fun r6 h10 =>
  ∃ (b6 : Bool), r6 = .bool b6 ∧
  bif b6 then (
  ∃ (n8 : Int), cellOf h10 (Addr.add ⟨h1.size, 0, none⟩ 2) = some (.int .i64 n8) ∧
  C.boleref11_within n8 0 8459264 h10 fun r7 h11 =>
  ∃ (b7 : Bool), r7 = .bool b7 ∧
  bif b7 then (
  ∃ (n9 : Int), cellOf h11 (Addr.add ⟨h1.size, 0, none⟩ 2) = some (.int .i64 n9) ∧
  K (.bool ((Int.tmod n9 512) == 0)) h11) else (
  K (.bool false) h11)) else (
  K (.bool false) h10)) else (
  bif (n4 == 3) then (
  ∃ (n10 : Int), cellOf h7 (Addr.add ⟨h1.size, 0, none⟩ 1) = some (.int .i64 n10) ∧
  C.boleref11_within n10 1 1000 h7 fun r8 h12 =>
  ∃ (b8 : Bool), r8 = .bool b8 ∧
  bif b8 then (
  ∃ (n11 : Int), cellOf h12 (Addr.add ⟨h1.size, 0, none⟩ 2) = some (.int .i64 n11) ∧
  C.boleref11_within n11 1 1024 h12 fun r9 h13 =>
  ∃ (b9 : Bool), r9 = .bool b9 ∧
  K (.bool b9) h13) else (
  K (.bool false) h12)) else (
  K (.bool false) h7))))
def boleref11_May (x1 : List Value) (K : Value → Heap → Prop) (h1 : Heap) : Prop :=
  New x1 35 h1 fun h2 =>
  ∃ (I1 : Int → Heap → Prop) (M1 : Int → Heap → Nat), I1 0 h2 ∧
  ∀ (i1 : Int), ∀ h3 : Heap, I1 i1 h3 →
  bif (decide (i1 < 10)) then (
  (0 ≤ i1 ∧ i1 < (10 : Int)) ∧
  ∃ (n1 : Int), cellOf h3 (Addr.add (Addr.add ⟨h1.size, 0, none⟩ 3) (Int.toNat i1)) = some (.int .i64 n1) ∧
  C.boleref11_within n1 0 4294967295 h3 fun r1 h4 =>
  ∃ (b1 : Bool), r1 = .bool b1 ∧
  bif (!b1) then (
  K (.bool false) h4) else (
  I1 (IntKind.wrap .i64 (i1 + 1)) h4 ∧ M1 (IntKind.wrap .i64 (i1 + 1)) h4 < M1 i1 h3)) else (
  ∃ (n2 : Int), cellOf h3 (Addr.add ⟨h1.size, 0, none⟩ 13) = some (.int .i64 n2) ∧
  C.boleref11_within n2 0 4294967295 h3 fun r2 h5 =>
  ∃ (b2 : Bool), r2 = .bool b2 ∧
  bif (!b2) then (
  K (.bool false) h5) else (
  ∃ (n3 : Int), cellOf h5 (Addr.add ⟨h1.size, 0, none⟩ 14) = some (.int .i64 n3) ∧
  C.boleref11_within n3 0 4294967295 h5 fun r3 h6 =>
  ∃ (b3 : Bool), r3 = .bool b3 ∧
  bif (!b3) then (
  K (.bool false) h6) else (
  boleref11_May.k1 h1 h6 K)))
def boleref11_May.lo : Nat → List Nat × List (Nat × Ty) := fun n => match n with | 2 => ([1], [(3, .int .i64)]) | _ => ([], [])
def boleref11_May.od : Nat → Od := fun n => match n with | _ => .nil
theorem boleref11_May.eq (x1 : List Value) (K : Value → Heap → Prop) (h : Heap) : fnX (cx boleref11_May.lo boleref11_May.od) Tryd.f118 (Tryd.f118.body.getD .skip) [.agg ⟨x1⟩] K h = boleref11_May x1 K h := by kernel_rfl
theorem boleref11_May.chk : fnOk (cx boleref11_May.lo boleref11_May.od) Tryd.f118 (Tryd.f118.body.getD .skip) 1 = true := by kernel_rfl
theorem boleref11_May.ok {x1 : List Value} {K : Value → Heap → Prop} {h : Heap} (hx : boleref11_May x1 K h) : C.boleref11_May x1 h K :=
  fn_to (cxOk _ _) Tryd.func118 (by kernel_rfl) boleref11_May.chk (by rw [boleref11_May.eq]; exact hx)

-- 119
def txn_Txn_end (t1 : Option Addr) (K : Value → Heap → Prop) (h1 : Heap) : Prop :=
  onSome t1 fun p1 =>
  Put (Addr.add p1 1) (.map none) h1 fun h2 =>
  onSome t1 fun p2 =>
  Put (Addr.add p2 2) (.slice none 0 0) h2 fun h3 =>
  onSome t1 fun p3 =>
  Put (Addr.add p3 3) (.bool true) h3 fun h4 =>
  K (.tuple #[]) h4
def txn_Txn_end.lo : Nat → List Nat × List (Nat × Ty) := fun n => match n with | _ => ([], [])
def txn_Txn_end.od : Nat → Od := fun n => match n with | _ => .nil
theorem txn_Txn_end.eq (t1 : Option Addr) (K : Value → Heap → Prop) (h : Heap) : fnX (cx txn_Txn_end.lo txn_Txn_end.od) Tryd.f119 (Tryd.f119.body.getD .skip) [.pointer t1] K h = txn_Txn_end t1 K h := by kernel_rfl
theorem txn_Txn_end.chk : fnOk (cx txn_Txn_end.lo txn_Txn_end.od) Tryd.f119 (Tryd.f119.body.getD .skip) 1 = true := by kernel_rfl
theorem txn_Txn_end.ok {t1 : Option Addr} {K : Value → Heap → Prop} {h : Heap} (hx : txn_Txn_end t1 K h) : C.txn_Txn_end t1 h K :=
  fn_to (cxOk _ _) Tryd.func119 (by kernel_rfl) txn_Txn_end.chk (by rw [txn_Txn_end.eq]; exact hx)

-- 120
def boleref03_marks (lA1 : Option Addr) (lL1 : Nat) (lC1 : Nat) (K : Value → Heap → Prop) (h1 : Heap) : Prop :=
  ∃ new1 : List Value, List.length new1 = lL1 * 1 ∧ SlCells h1 lA1 new1 ∧ (∀ v ∈ new1, v.oneCell' = true) ∧
  AppendP ti4 4 none 0 0 lL1 new1 h1 fun sA1 sL1 sC1 h2 =>
  K (.slice sA1 sL1 sC1) h2
def boleref03_marks.lo : Nat → List Nat × List (Nat × Ty) := fun n => match n with | _ => ([], [])
def boleref03_marks.od : Nat → Od := fun n => match n with | _ => .nil
theorem boleref03_marks.eq (lA1 : Option Addr) (lL1 : Nat) (lC1 : Nat) (K : Value → Heap → Prop) (h : Heap) : fnX (cx boleref03_marks.lo boleref03_marks.od) Tryd.f120 (Tryd.f120.body.getD .skip) [.slice lA1 lL1 lC1] K h = boleref03_marks lA1 lL1 lC1 K h := by kernel_rfl
theorem boleref03_marks.chk : fnOk (cx boleref03_marks.lo boleref03_marks.od) Tryd.f120 (Tryd.f120.body.getD .skip) 1 = true := by kernel_rfl
theorem boleref03_marks.ok {lA1 : Option Addr} {lL1 : Nat} {lC1 : Nat} {K : Value → Heap → Prop} {h : Heap} (hx : boleref03_marks lA1 lL1 lC1 K h) : C.boleref03_marks lA1 lL1 lC1 h K :=
  fn_to (cxOk _ _) Tryd.func120 (by kernel_rfl) boleref03_marks.chk (by rw [boleref03_marks.eq]; exact hx)

-- 121
def adisk_Disk_cut (d1 : Option Addr) (keepA1 : Option Addr) (keepL1 : Nat) (keepC1 : Nat) (K : Value → Heap → Prop) (h1 : Heap) : Prop :=
  onSome d1 fun p1 =>
  ∃ (sA1 : Option Addr) (sL1 : Nat) (sC1 : Nat), cellOf h1 (Addr.add p1 1) = some (.slice sA1 sL1 sC1) ∧
  ∃ (I1 : Int → Heap → Prop) (M1 : Int → Heap → Nat), I1 0 h1 ∧
  ∀ (n1 : Int), ∀ h2 : Heap, I1 n1 h2 →
  bif (decide (n1 < (if (sL1 : Int) < (keepL1 : Int) then (sL1 : Int) else (keepL1 : Int)))) then (
  onSome d1 fun p2 =>
  ∃ (sA2 : Option Addr) (sL2 : Nat) (sC2 : Nat), cellOf h2 (Addr.add p2 1) = some (.slice sA2 sL2 sC2) ∧
  (0 ≤ n1 ∧ n1 < (sL2 : Int)) ∧
  onSome sA2 fun p3 =>
  ∃ cs1 : List Value, List.length cs1 = 513 ∧ Cells h2 (Addr.add p3 ((Int.toNat n1) * 513)) cs1 ∧
  NewRow z199 199 cs1 513 h2 fun h4 =>
  (0 ≤ n1 ∧ n1 < (keepL1 : Int)) ∧
  onSome keepA1 fun p4 =>
  ∃ (b1 : Bool), cellOf h4 (Addr.add p4 (Int.toNat n1)) = some (.bool b1) ∧
  bif b1 then (
  onSome d1 fun p5 =>
  ∃ (sA3 : Option Addr) (sL3 : Nat) (sC3 : Nat), cellOf h4 (Addr.add p5 0) = some (.slice sA3 sL3 sC3) ∧
  ∃ (n2 : Int), cellOf h4 (Addr.add ⟨h2.size, 0, none⟩ 0) = some (.int .i64 n2) ∧
  ∃ cs2 : List Value, List.length cs2 = 512 ∧ Cells h4 (Addr.add ⟨h2.size, 0, none⟩ 1) cs2 ∧
  (0 ≤ n2 ∧ n2 < (sL3 : Int)) ∧
  onSome sA3 fun p6 =>
  PutRow (Addr.add p6 ((Int.toNat n2) * 512)) cs2 512 h4 fun h5 =>
  I1 (IntKind.wrap .i64 (n1 + 1)) h5 ∧ M1 (IntKind.wrap .i64 (n1 + 1)) h5 < M1 n1 h2) else (
  I1 (IntKind.wrap .i64 (n1 + 1)) h4 ∧ M1 (IntKind.wrap .i64 (n1 + 1)) h4 < M1 n1 h2)) else (
  onSome d1 fun p7 =>
  Put (Addr.add p7 1) (.slice none 0 0) h2 fun h6 =>
  onSome d1 fun p8 =>
  Put (Addr.add p8 3) (.slice none 0 0) h6 fun h7 =>
  onSome d1 fun p9 =>
  Put (Addr.add p9 2) (.int .i64 0) h7 fun h8 =>
  onSome d1 fun p10 =>
  Put (Addr.add p10 4) (.bool true) h8 fun h9 =>
  K (.tuple #[]) h9)
def adisk_Disk_cut.lo : Nat → List Nat × List (Nat × Ty) := fun n => match n with | 1 => ([0, 1, 13], [(14, .int .i64)]) | _ => ([], [])
def adisk_Disk_cut.od : Nat → Od := fun n => match n with | 5 => (.op 0 [] (.op 1 [] (.op 2 [] (.op 3 [] (.op 4 [] (.op 5 [] (.op 6 [] (.op 7 [] (.op 8 [] (.op 9 [] .nil)))))))))) | _ => .nil
theorem adisk_Disk_cut.eq (d1 : Option Addr) (keepA1 : Option Addr) (keepL1 : Nat) (keepC1 : Nat) (K : Value → Heap → Prop) (h : Heap) : fnX (cx adisk_Disk_cut.lo adisk_Disk_cut.od) Tryd.f121 (Tryd.f121.body.getD .skip) [.pointer d1, .slice keepA1 keepL1 keepC1] K h = adisk_Disk_cut d1 keepA1 keepL1 keepC1 K h := by kernel_rfl
theorem adisk_Disk_cut.chk : fnOk (cx adisk_Disk_cut.lo adisk_Disk_cut.od) Tryd.f121 (Tryd.f121.body.getD .skip) 2 = true := by kernel_rfl
theorem adisk_Disk_cut.ok {d1 : Option Addr} {keepA1 : Option Addr} {keepL1 : Nat} {keepC1 : Nat} {K : Value → Heap → Prop} {h : Heap} (hx : adisk_Disk_cut d1 keepA1 keepL1 keepC1 K h) : C.adisk_Disk_cut d1 keepA1 keepL1 keepC1 h K :=
  fn_to (cxOk _ _) Tryd.func121 (by kernel_rfl) adisk_Disk_cut.chk (by rw [adisk_Disk_cut.eq]; exact hx)

-- 122
def boleref03_Disk_Blocks (d1 : Option Addr) (K : Value → Heap → Prop) (h1 : Heap) : Prop :=
  onSome d1 fun p1 =>
  ∃ (sA1 : Option Addr) (sL1 : Nat) (sC1 : Nat), cellOf h1 (Addr.add p1 0) = some (.slice sA1 sL1 sC1) ∧
  K (.int .i64 (IntKind.wrap .i64 (Int.tdiv (sL1 : Int) 512))) h1
def boleref03_Disk_Blocks.lo : Nat → List Nat × List (Nat × Ty) := fun n => match n with | _ => ([], [])
def boleref03_Disk_Blocks.od : Nat → Od := fun n => match n with | _ => .nil
theorem boleref03_Disk_Blocks.eq (d1 : Option Addr) (K : Value → Heap → Prop) (h : Heap) : fnX (cx boleref03_Disk_Blocks.lo boleref03_Disk_Blocks.od) Tryd.f122 (Tryd.f122.body.getD .skip) [.pointer d1] K h = boleref03_Disk_Blocks d1 K h := by kernel_rfl
theorem boleref03_Disk_Blocks.chk : fnOk (cx boleref03_Disk_Blocks.lo boleref03_Disk_Blocks.od) Tryd.f122 (Tryd.f122.body.getD .skip) 1 = true := by kernel_rfl
theorem boleref03_Disk_Blocks.ok {d1 : Option Addr} {K : Value → Heap → Prop} {h : Heap} (hx : boleref03_Disk_Blocks d1 K h) : C.boleref03_Disk_Blocks d1 h K :=
  fn_to (cxOk _ _) Tryd.func122 (by kernel_rfl) boleref03_Disk_Blocks.chk (by rw [boleref03_Disk_Blocks.eq]; exact hx)

-- 123
def boleref06_Txn_put (t1 : Option Addr) (i1 : Int) (K : Value → Heap → Prop) (h1 : Heap) : Prop :=
  ∃ (I1 : Int → Int → Heap → Prop) (M1 : Int → Int → Heap → Nat), I1 (-1) 0 h1 ∧
  ∀ (at1 : Int) (k1 : Int), ∀ h2 : Heap, I1 at1 k1 h2 →
  onSome t1 fun p1 =>
  ∃ (sA1 : Option Addr) (sL1 : Nat) (sC1 : Nat), cellOf h2 (Addr.add p1 1) = some (.slice sA1 sL1 sC1) ∧
  bif (decide (k1 < (sL1 : Int))) then (
  onSome t1 fun p2 =>
  ∃ (sA2 : Option Addr) (sL2 : Nat) (sC2 : Nat), cellOf h2 (Addr.add p2 1) = some (.slice sA2 sL2 sC2) ∧
  (0 ≤ k1 ∧ k1 < (sL2 : Int)) ∧
  onSome sA2 fun p3 =>
  ∃ (n1 : Int), cellOf h2 (Addr.add (Addr.add p3 ((Int.toNat k1) * 2)) 0) = some (.int .i64 n1) ∧
  bif (n1 == i1) then (
  I1 k1 (IntKind.wrap .i64 (k1 + 1)) h2 ∧ M1 k1 (IntKind.wrap .i64 (k1 + 1)) h2 < M1 at1 k1 h2) else (
  I1 at1 (IntKind.wrap .i64 (k1 + 1)) h2 ∧ M1 at1 (IntKind.wrap .i64 (k1 + 1)) h2 < M1 at1 k1 h2)) else (
  K (.int .i64 at1) h2)
def boleref06_Txn_put.lo : Nat → List Nat × List (Nat × Ty) := fun n => match n with | 3 => ([0, 1], [(5, .int .i64), (6, .int .i64)]) | _ => ([], [])
def boleref06_Txn_put.od : Nat → Od := fun n => match n with | _ => .nil
theorem boleref06_Txn_put.eq (t1 : Option Addr) (i1 : Int) (K : Value → Heap → Prop) (h : Heap) : fnX (cx boleref06_Txn_put.lo boleref06_Txn_put.od) Tryd.f123 (Tryd.f123.body.getD .skip) [.pointer t1, .int .i64 i1] K h = boleref06_Txn_put t1 i1 K h := by kernel_rfl
theorem boleref06_Txn_put.chk : fnOk (cx boleref06_Txn_put.lo boleref06_Txn_put.od) Tryd.f123 (Tryd.f123.body.getD .skip) 2 = true := by kernel_rfl
theorem boleref06_Txn_put.ok {t1 : Option Addr} {i1 : Int} {K : Value → Heap → Prop} {h : Heap} (hx : boleref06_Txn_put t1 i1 K h) : C.boleref06_Txn_put t1 i1 h K :=
  fn_to (cxOk _ _) Tryd.func123 (by kernel_rfl) boleref06_Txn_put.chk (by rw [boleref06_Txn_put.eq]; exact hx)

-- 124
def adisk_Disk_Read (d1 : Option Addr) (i1 : Int) (K : Value → Heap → Prop) (h1 : Heap) : Prop :=
  onSome d1 fun p1 =>
  ∃ (b1 : Bool), cellOf h1 (Addr.add p1 4) = some (.bool b1) ∧
  bif b1 then (
  K (.tuple #[.slice none 0 0, .int .i64 30]) h1) else (
  C.adisk_Disk_has d1 i1 h1 fun r1 h2 =>
  ∃ (b2 : Bool), r1 = .bool b2 ∧
  bif (!b2) then (
  K (.tuple #[.slice none 0 0, .int .i64 31]) h2) else (
  onSome d1 fun p2 =>
  ∃ (sA1 : Option Addr) (sL1 : Nat) (sC1 : Nat), cellOf h2 (Addr.add p2 0) = some (.slice sA1 sL1 sC1) ∧
  (0 ≤ i1 ∧ i1 < (sL1 : Int)) ∧
  onSome sA1 fun p3 =>
  ∃ cs1 : List Value, List.length cs1 = 512 ∧ Cells h2 (Addr.add p3 ((Int.toNat i1) * 512)) cs1 ∧
  NewRow z145 145 cs1 512 h2 fun h4 =>
  onSome d1 fun p4 =>
  ∃ (sA2 : Option Addr) (sL2 : Nat) (sC2 : Nat), cellOf h4 (Addr.add p4 1) = some (.slice sA2 sL2 sC2) ∧
  ∃ (I1 : Int → Heap → Prop) (M1 : Int → Heap → Nat), I1 0 h4 ∧
  ∀ (n1 : Int), ∀ h5 : Heap, I1 n1 h5 →
  bif (decide (n1 < (sL2 : Int))) then (
  (0 ≤ n1 ∧ n1 < (sL2 : Int)) ∧
  onSome sA2 fun p5 =>
  ∃ cs2 : List Value, List.length cs2 = 513 ∧ Cells h5 (Addr.add p5 ((Int.toNat n1) * 513)) cs2 ∧
  NewRow z199 199 cs2 513 h5 fun h7 =>
  ∃ (n2 : Int), cellOf h7 (Addr.add ⟨h5.size, 0, none⟩ 0) = some (.int .i64 n2) ∧
  bif (n2 == i1) then (
  ∃ cs3 : List Value, List.length cs3 = 512 ∧ Cells h7 (Addr.add ⟨h5.size, 0, none⟩ 1) cs3 ∧
  PutRow ⟨h2.size, 0, none⟩ cs3 512 h7 fun h8 =>
  I1 (IntKind.wrap .i64 (n1 + 1)) h8 ∧ M1 (IntKind.wrap .i64 (n1 + 1)) h8 < M1 n1 h5) else (
  I1 (IntKind.wrap .i64 (n1 + 1)) h7 ∧ M1 (IntKind.wrap .i64 (n1 + 1)) h7 < M1 n1 h5)) else (
  K (.tuple #[.slice (some ⟨h2.size, 0, none⟩) 512 512, .int .i64 0]) h5)))
def adisk_Disk_Read.lo : Nat → List Nat × List (Nat × Ty) := fun n => match n with | 7 => ([1, 6, 29, 30], [(31, .int .i64)]) | _ => ([], [])
def adisk_Disk_Read.od : Nat → Od := fun n => match n with | _ => .nil
theorem adisk_Disk_Read.eq (d1 : Option Addr) (i1 : Int) (K : Value → Heap → Prop) (h : Heap) : fnX (cx adisk_Disk_Read.lo adisk_Disk_Read.od) Tryd.f124 (Tryd.f124.body.getD .skip) [.pointer d1, .int .i64 i1] K h = adisk_Disk_Read d1 i1 K h := by kernel_rfl
theorem adisk_Disk_Read.chk : fnOk (cx adisk_Disk_Read.lo adisk_Disk_Read.od) Tryd.f124 (Tryd.f124.body.getD .skip) 2 = true := by kernel_rfl
theorem adisk_Disk_Read.ok {d1 : Option Addr} {i1 : Int} {K : Value → Heap → Prop} {h : Heap} (hx : adisk_Disk_Read d1 i1 K h) : C.adisk_Disk_Read d1 i1 h K :=
  fn_to (cxOk _ _) Tryd.func124 (by kernel_rfl) adisk_Disk_Read.chk (by rw [adisk_Disk_Read.eq]; exact hx)

-- 125
def boleref03_Disk_Read.k1 (d1 : Option Addr) (i1 : Int) (h3 : Heap) (K : Value → Heap → Prop) : Prop :=
  onSome d1 fun p2 =>
  ∃ (sA1 : Option Addr) (sL1 : Nat) (sC1 : Nat), cellOf h3 (Addr.add p2 1) = some (.slice sA1 sL1 sC1) ∧
  ∃ (I1 : Int → Heap → Prop) (M1 : Int → Heap → Nat), I1 (IntKind.wrap .i64 ((sL1 : Int) - 1)) h3 ∧
  ∀ (j1 : Int), ∀ h4 : Heap, I1 j1 h4 →
  bif (decide (j1 ≥ 0)) then (
  onSome d1 fun p3 =>
  ∃ (sA2 : Option Addr) (sL2 : Nat) (sC2 : Nat), cellOf h4 (Addr.add p3 1) = some (.slice sA2 sL2 sC2) ∧
  (0 ≤ j1 ∧ j1 < (sL2 : Int)) ∧
  onSome sA2 fun p4 =>
  ∃ (n2 : Int), cellOf h4 (Addr.add (Addr.add p4 ((Int.toNat j1) * 3)) 0) = some (.int .i64 n2) ∧
  bif (n2 == 1) then (
  onSome d1 fun p5 =>
  ∃ (sA3 : Option Addr) (sL3 : Nat) (sC3 : Nat), cellOf h4 (Addr.add p5 1) = some (.slice sA3 sL3 sC3) ∧
  (0 ≤ j1 ∧ j1 < (sL3 : Int)) ∧
  onSome sA3 fun p6 =>
  ∃ (n3 : Int), cellOf h4 (Addr.add (Addr.add p6 ((Int.toNat j1) * 3)) 1) = some (.int .i64 n3) ∧
  bif (n3 == i1) then (
  onSome d1 fun p7 =>
  ∃ (sA4 : Option Addr) (sL4 : Nat) (sC4 : Nat), cellOf h4 (Addr.add p7 1) = some (.slice sA4 sL4 sC4) ∧
  (0 ≤ j1 ∧ j1 < (sL4 : Int)) ∧
  onSome sA4 fun p8 =>
  ∃ (sA5 : Option Addr) (sL5 : Nat) (sC5 : Nat), cellOf h4 (Addr.add (Addr.add p8 ((Int.toNat j1) * 3)) 2) = some (.slice sA5 sL5 sC5) ∧
  C.boleref03_copied sA5 sL5 sC5 h4 fun r2 h5 =>
  ∃ (sA6 : Option Addr) (sL6 : Nat) (sC6 : Nat), r2 = .slice sA6 sL6 sC6 ∧
  K (.tuple #[.slice sA6 sL6 sC6, .int .i64 0]) h5) else (
  I1 (IntKind.wrap .i64 (j1 - 1)) h4 ∧ M1 (IntKind.wrap .i64 (j1 - 1)) h4 < M1 j1 h4)) else (
  I1 (IntKind.wrap .i64 (j1 - 1)) h4 ∧ M1 (IntKind.wrap .i64 (j1 - 1)) h4 < M1 j1 h4)) else (
  onSome d1 fun p9 =>
  ∃ (sA7 : Option Addr) (sL7 : Nat) (sC7 : Nat), cellOf h4 (Addr.add p9 0) = some (.slice sA7 sL7 sC7) ∧
  (0 ≤ (IntKind.wrap .i64 (i1 * 512)) ∧ (IntKind.wrap .i64 (i1 * 512)) ≤ (IntKind.wrap .i64 ((IntKind.wrap .i64 (i1 * 512)) + 512)) ∧ (IntKind.wrap .i64 ((IntKind.wrap .i64 (i1 * 512)) + 512)) ≤ (sC7 : Int)) ∧
  C.boleref03_copied (if sC7 = (Int.toNat (IntKind.wrap .i64 (i1 * 512))) then sA7 else Option.map (Addr.add · (Int.toNat (IntKind.wrap .i64 (i1 * 512)))) sA7) ((Int.toNat (IntKind.wrap .i64 ((IntKind.wrap .i64 (i1 * 512)) + 512))) - (Int.toNat (IntKind.wrap .i64 (i1 * 512)))) (sC7 - (Int.toNat (IntKind.wrap .i64 (i1 * 512)))) h4 fun r3 h6 =>
  ∃ (sA8 : Option Addr) (sL8 : Nat) (sC8 : Nat), r3 = .slice sA8 sL8 sC8 ∧
  K (.tuple #[.slice sA8 sL8 sC8, .int .i64 0]) h6)
def boleref03_Disk_Read (d1 : Option Addr) (i1 : Int) (K : Value → Heap → Prop) (h1 : Heap) : Prop :=
  onSome d1 fun p1 =>
  ∃ (b1 : Bool), cellOf h1 (Addr.add p1 4) = some (.bool b1) ∧
  bif b1 then (
  K (.tuple #[.slice none 0 0, .int .i64 30]) h1) else (
  bif (decide (i1 < 0)) then (
  K (.tuple #[.slice none 0 0, .int .i64 31]) h1) else (
  C.boleref03_Disk_Blocks d1 h1 fun r1 h2 =>
  ∃ (n1 : Int), r1 = .int .i64 n1 ∧
  bif (decide (i1 ≥ n1)) then (
  K (.tuple #[.slice none 0 0, .int .i64 31]) h2) else (
  boleref03_Disk_Read.k1 d1 i1 h2 K)))
def boleref03_Disk_Read.lo : Nat → List Nat × List (Nat × Ty) := fun n => match n with | 6 => ([0, 1], [(6, .int .i64)]) | _ => ([], [])
def boleref03_Disk_Read.od : Nat → Od := fun n => match n with | _ => .nil
theorem boleref03_Disk_Read.eq (d1 : Option Addr) (i1 : Int) (K : Value → Heap → Prop) (h : Heap) : fnX (cx boleref03_Disk_Read.lo boleref03_Disk_Read.od) Tryd.f125 (Tryd.f125.body.getD .skip) [.pointer d1, .int .i64 i1] K h = boleref03_Disk_Read d1 i1 K h := by kernel_rfl
theorem boleref03_Disk_Read.chk : fnOk (cx boleref03_Disk_Read.lo boleref03_Disk_Read.od) Tryd.f125 (Tryd.f125.body.getD .skip) 2 = true := by kernel_rfl
theorem boleref03_Disk_Read.ok {d1 : Option Addr} {i1 : Int} {K : Value → Heap → Prop} {h : Heap} (hx : boleref03_Disk_Read d1 i1 K h) : C.boleref03_Disk_Read d1 i1 h K :=
  fn_to (cxOk _ _) Tryd.func125 (by kernel_rfl) boleref03_Disk_Read.chk (by rw [boleref03_Disk_Read.eq]; exact hx)

-- 126
def space_Give.k1 (t1 : Option Addr) (i1 : Int) (h1 : Heap) (h2 : Heap) (K : Value → Heap → Prop) : Prop :=
  ∃ cs1 : List Value, List.length cs1 = 5 ∧ Cells h2 ⟨h1.size, 0, none⟩ cs1 ∧
  C.space_Used t1 cs1 i1 h2 fun r1 h3 =>
  ∃ (b1 : Bool) (n3 : Int), r1 = .tuple #[.bool b1, .int .i64 n3] ∧
  bif (n3 != 0) then (
  K (.int .i64 n3) h3) else (
  bif (!b1) then (
  K (.int .i64 91) h3) else (
  ∃ cs2 : List Value, List.length cs2 = 5 ∧ Cells h3 ⟨h1.size, 0, none⟩ cs2 ∧
  C.space_set t1 cs2 i1 false h3 fun r2 h4 =>
  ∃ (n4 : Int), r2 = .int .i64 n4 ∧
  K (.int .i64 n4) h4))
def space_Give (t1 : Option Addr) (g1 : List Value) (i1 : Int) (K : Value → Heap → Prop) (h1 : Heap) : Prop :=
  New g1 29 h1 fun h2 =>
  ∃ (n1 : Int), cellOf h2 (Addr.add ⟨h1.size, 0, none⟩ 3) = some (.int .i64 n1) ∧
  bif (decide (i1 < n1)) then (
  K (.int .i64 91) h2) else (
  ∃ (n2 : Int), cellOf h2 (Addr.add ⟨h1.size, 0, none⟩ 0) = some (.int .i64 n2) ∧
  bif (decide (i1 ≥ n2)) then (
  K (.int .i64 91) h2) else (
  space_Give.k1 t1 i1 h1 h2 K))
def space_Give.lo : Nat → List Nat × List (Nat × Ty) := fun n => match n with | _ => ([], [])
def space_Give.od : Nat → Od := fun n => match n with | _ => .nil
theorem space_Give.eq (t1 : Option Addr) (g1 : List Value) (i1 : Int) (K : Value → Heap → Prop) (h : Heap) : fnX (cx space_Give.lo space_Give.od) Tryd.f126 (Tryd.f126.body.getD .skip) [.pointer t1, .agg ⟨g1⟩, .int .i64 i1] K h = space_Give t1 g1 i1 K h := by kernel_rfl
theorem space_Give.chk : fnOk (cx space_Give.lo space_Give.od) Tryd.f126 (Tryd.f126.body.getD .skip) 3 = true := by kernel_rfl
theorem space_Give.ok {t1 : Option Addr} {g1 : List Value} {i1 : Int} {K : Value → Heap → Prop} {h : Heap} (hx : space_Give t1 g1 i1 K h) : C.space_Give t1 g1 i1 h K :=
  fn_to (cxOk _ _) Tryd.func126 (by kernel_rfl) space_Give.chk (by rw [space_Give.eq]; exact hx)

-- 127
def bits_Put (bA1 : Option Addr) (bL1 : Nat) (bC1 : Nat) (i1 : Int) (is1 : Bool) (K : Value → Heap → Prop) (h1 : Heap) : Prop :=
  C.bits_has bA1 bL1 bC1 i1 h1 fun r1 h2 =>
  ∃ (b1 : Bool), r1 = .bool b1 ∧
  bif (!b1) then (
  K (.int .i64 80) h2) else (
  bif is1 then (
  (0 ≤ (IntKind.wrap .i64 (Int.tdiv i1 8)) ∧ (IntKind.wrap .i64 (Int.tdiv i1 8)) < (bL1 : Int)) ∧
  onSome bA1 fun p1 =>
  ∃ (n1 : Int), cellOf h2 (Addr.add p1 (Int.toNat (IntKind.wrap .i64 (Int.tdiv i1 8)))) = some (.int .u8 n1) ∧
  if (Int.tmod i1 8) < 0 then False else
  (0 ≤ (IntKind.wrap .i64 (Int.tdiv i1 8)) ∧ (IntKind.wrap .i64 (Int.tdiv i1 8)) < (bL1 : Int)) ∧
  onSome bA1 fun p2 =>
  Put (Addr.add p2 (Int.toNat (IntKind.wrap .i64 (Int.tdiv i1 8)))) (.int .u8 (bitsI .or .u8 n1 (IntKind.wrap .u8 ((1 * 2 ^ min (Int.toNat (Int.tmod i1 8)) 8))))) h2 fun h3 =>
  K (.int .i64 0) h3) else (
  (0 ≤ (IntKind.wrap .i64 (Int.tdiv i1 8)) ∧ (IntKind.wrap .i64 (Int.tdiv i1 8)) < (bL1 : Int)) ∧
  onSome bA1 fun p3 =>
  ∃ (n2 : Int), cellOf h2 (Addr.add p3 (Int.toNat (IntKind.wrap .i64 (Int.tdiv i1 8)))) = some (.int .u8 n2) ∧
  if (Int.tmod i1 8) < 0 then False else
  (0 ≤ (IntKind.wrap .i64 (Int.tdiv i1 8)) ∧ (IntKind.wrap .i64 (Int.tdiv i1 8)) < (bL1 : Int)) ∧
  onSome bA1 fun p4 =>
  Put (Addr.add p4 (Int.toNat (IntKind.wrap .i64 (Int.tdiv i1 8)))) (.int .u8 (bitsI .andNot .u8 n2 (IntKind.wrap .u8 ((1 * 2 ^ min (Int.toNat (Int.tmod i1 8)) 8))))) h2 fun h4 =>
  K (.int .i64 0) h4))
def bits_Put.lo : Nat → List Nat × List (Nat × Ty) := fun n => match n with | _ => ([], [])
def bits_Put.od : Nat → Od := fun n => match n with | 4 => (.op 0 [] (.op 1 [] (.op 2 [] (.op 3 [] (.op 4 [] (.op 5 [] (.op 6 [] (.op 7 [] (.op 8 [] (.op 9 [] (.op 10 [] .nil))))))))))) | 5 => (.op 0 [] (.op 1 [] (.op 2 [] (.op 3 [] (.op 4 [] (.op 5 [] (.op 6 [] (.op 7 [] (.op 8 [] (.op 9 [] (.op 10 [] .nil))))))))))) | _ => .nil
theorem bits_Put.eq (bA1 : Option Addr) (bL1 : Nat) (bC1 : Nat) (i1 : Int) (is1 : Bool) (K : Value → Heap → Prop) (h : Heap) : fnX (cx bits_Put.lo bits_Put.od) Tryd.f127 (Tryd.f127.body.getD .skip) [.slice bA1 bL1 bC1, .int .i64 i1, .bool is1] K h = bits_Put bA1 bL1 bC1 i1 is1 K h := by kernel_rfl
theorem bits_Put.chk : fnOk (cx bits_Put.lo bits_Put.od) Tryd.f127 (Tryd.f127.body.getD .skip) 3 = true := by kernel_rfl
theorem bits_Put.ok {bA1 : Option Addr} {bL1 : Nat} {bC1 : Nat} {i1 : Int} {is1 : Bool} {K : Value → Heap → Prop} {h : Heap} (hx : bits_Put bA1 bL1 bC1 i1 is1 K h) : C.bits_Put bA1 bL1 bC1 i1 is1 h K :=
  fn_to (cxOk _ _) Tryd.func127 (by kernel_rfl) bits_Put.chk (by rw [bits_Put.eq]; exact hx)

-- 128
def rec_isWidth (n1 : Int) (K : Value → Heap → Prop) (h1 : Heap) : Prop :=
  bif (decide (n1 ≥ 0)) then (
  bif (decide (n1 < 9)) then (
  (0 ≤ n1 ∧ n1 < (9 : Int)) ∧
  ∃ (b1 : Bool), cellOf h1 (Addr.add ⟨0, 0, none⟩ (Int.toNat n1)) = some (.bool b1) ∧
  K (.bool b1) h1) else (
  K (.bool false) h1)) else (
  K (.bool false) h1)
def rec_isWidth.lo : Nat → List Nat × List (Nat × Ty) := fun n => match n with | _ => ([], [])
def rec_isWidth.od : Nat → Od := fun n => match n with | _ => .nil
theorem rec_isWidth.eq (n1 : Int) (K : Value → Heap → Prop) (h : Heap) : fnX (cx rec_isWidth.lo rec_isWidth.od) Tryd.f128 (Tryd.f128.body.getD .skip) [.int .i64 n1] K h = rec_isWidth n1 K h := by kernel_rfl
theorem rec_isWidth.chk : fnOk (cx rec_isWidth.lo rec_isWidth.od) Tryd.f128 (Tryd.f128.body.getD .skip) 1 = true := by kernel_rfl
theorem rec_isWidth.ok {n1 : Int} {K : Value → Heap → Prop} {h : Heap} (hx : rec_isWidth n1 K h) : C.rec_isWidth n1 h K :=
  fn_to (cxOk _ _) Tryd.func128 (by kernel_rfl) rec_isWidth.chk (by rw [rec_isWidth.eq]; exact hx)

-- 129
def rec_lie (bA1 : Option Addr) (bL1 : Nat) (bC1 : Nat) (at1 : Int) (n1 : Int) (K : Value → Heap → Prop) (h1 : Heap) : Prop :=
  bif (decide (at1 ≥ 0)) then (
  bif (decide (n1 ≥ 0)) then (
  bif (decide (at1 ≤ (bL1 : Int))) then (
  K (.bool (decide (n1 ≤ (IntKind.wrap .i64 ((bL1 : Int) - at1))))) h1) else (
  K (.bool false) h1)) else (
  K (.bool false) h1)) else (
  K (.bool false) h1)
def rec_lie.lo : Nat → List Nat × List (Nat × Ty) := fun n => match n with | _ => ([], [])
def rec_lie.od : Nat → Od := fun n => match n with | _ => .nil
theorem rec_lie.eq (bA1 : Option Addr) (bL1 : Nat) (bC1 : Nat) (at1 : Int) (n1 : Int) (K : Value → Heap → Prop) (h : Heap) : fnX (cx rec_lie.lo rec_lie.od) Tryd.f129 (Tryd.f129.body.getD .skip) [.slice bA1 bL1 bC1, .int .i64 at1, .int .i64 n1] K h = rec_lie bA1 bL1 bC1 at1 n1 K h := by kernel_rfl
theorem rec_lie.chk : fnOk (cx rec_lie.lo rec_lie.od) Tryd.f129 (Tryd.f129.body.getD .skip) 3 = true := by kernel_rfl
theorem rec_lie.ok {bA1 : Option Addr} {bL1 : Nat} {bC1 : Nat} {at1 : Int} {n1 : Int} {K : Value → Heap → Prop} {h : Heap} (hx : rec_lie bA1 bL1 bC1 at1 n1 K h) : C.rec_lie bA1 bL1 bC1 at1 n1 h K :=
  fn_to (cxOk _ _) Tryd.func129 (by kernel_rfl) rec_lie.chk (by rw [rec_lie.eq]; exact hx)

-- 130
def bits_Runs_c1.k2 (yield1 : Value) (i1 : Int) (h2 : Heap) (I1 : Int → Heap → Prop) (M1 : Int → Heap → Nat) (i3 : Int) (i5 : Int) (h10 : Heap) (K : Value → Heap → Prop) : Prop :=
  bif (i5 == i3) then (
  K (.tuple #[]) h10) else (
  HCallsV Tryd.prog yield1 [.int .i64 i3, .int .i64 (IntKind.wrap .i64 (i5 - i3))] h10 fun r5 h11 =>
  ∃ (b5 : Bool), r5 = .bool b5 ∧
  bif (!b5) then (
  K (.tuple #[]) h11) else (
  I1 i5 h11 ∧ M1 i5 h11 < M1 i1 h2))
def bits_Runs_c1.k1 (yield1 : Value) (cap1 : Option Addr) (i1 : Int) (h2 : Heap) (I1 : Int → Heap → Prop) (M1 : Int → Heap → Nat) (i3 : Int) (h6 : Heap) (K : Value → Heap → Prop) : Prop :=
  ∃ (I3 : Int → Heap → Prop) (M3 : Int → Heap → Nat), I3 i3 h6 ∧
  ∀ (i4 : Int), ∀ h7 : Heap, I3 i4 h7 →
  onSome cap1 fun p3 =>
  ∃ (sA3 : Option Addr) (sL3 : Nat) (sC3 : Nat), cellOf h7 p3 = some (.slice sA3 sL3 sC3) ∧
  C.bits_has sA3 sL3 sC3 i4 h7 fun r3 h8 =>
  ∃ (b3 : Bool), r3 = .bool b3 ∧
  bif b3 then (
  onSome cap1 fun p4 =>
  ∃ (sA4 : Option Addr) (sL4 : Nat) (sC4 : Nat), cellOf h8 p4 = some (.slice sA4 sL4 sC4) ∧
  C.bits_on sA4 sL4 sC4 i4 h8 fun r4 h9 =>
  ∃ (b4 : Bool), r4 = .bool b4 ∧
  bif (!b4) then (
  I3 (IntKind.wrap .i64 (i4 + 1)) h9 ∧ M3 (IntKind.wrap .i64 (i4 + 1)) h9 < M3 i4 h7) else (
  bits_Runs_c1.k2 yield1 i1 h2 I1 M1 i3 i4 h9 K)) else (
  bits_Runs_c1.k2 yield1 i1 h2 I1 M1 i3 i4 h8 K)
def bits_Runs_c1 (yield1 : Value) (cap1 : Option Addr) (K : Value → Heap → Prop) (h1 : Heap) : Prop :=
  ∃ (I1 : Int → Heap → Prop) (M1 : Int → Heap → Nat), I1 0 h1 ∧
  ∀ (i1 : Int), ∀ h2 : Heap, I1 i1 h2 →
  ∃ (I2 : Int → Heap → Prop) (M2 : Int → Heap → Nat), I2 i1 h2 ∧
  ∀ (i2 : Int), ∀ h3 : Heap, I2 i2 h3 →
  onSome cap1 fun p1 =>
  ∃ (sA1 : Option Addr) (sL1 : Nat) (sC1 : Nat), cellOf h3 p1 = some (.slice sA1 sL1 sC1) ∧
  C.bits_has sA1 sL1 sC1 i2 h3 fun r1 h4 =>
  ∃ (b1 : Bool), r1 = .bool b1 ∧
  bif b1 then (
  onSome cap1 fun p2 =>
  ∃ (sA2 : Option Addr) (sL2 : Nat) (sC2 : Nat), cellOf h4 p2 = some (.slice sA2 sL2 sC2) ∧
  C.bits_on sA2 sL2 sC2 i2 h4 fun r2 h5 =>
  ∃ (b2 : Bool), r2 = .bool b2 ∧
  bif b2 then (
  I2 (IntKind.wrap .i64 (i2 + 1)) h5 ∧ M2 (IntKind.wrap .i64 (i2 + 1)) h5 < M2 i2 h3) else (
  bits_Runs_c1.k1 yield1 cap1 i1 h2 I1 M1 i2 h5 K)) else (
  bits_Runs_c1.k1 yield1 cap1 i1 h2 I1 M1 i2 h4 K)
def bits_Runs_c1.lo : Nat → List Nat × List (Nat × Ty) := fun n => match n with | 1 => ([0, 1], [(3, .int .i64)]) | 4 => ([0, 1, 4], [(3, .int .i64)]) | _ => ([], [])
def bits_Runs_c1.od : Nat → Od := fun n => match n with | _ => .nil
theorem bits_Runs_c1.eq (yield1 : Value) (cap1 : Option Addr) (K : Value → Heap → Prop) (h : Heap) : fnX (cx bits_Runs_c1.lo bits_Runs_c1.od) Tryd.f130 (Tryd.f130.body.getD .skip) [yield1, .pointer cap1] K h = bits_Runs_c1 yield1 cap1 K h := by kernel_rfl
theorem bits_Runs_c1.chk : fnOk (cx bits_Runs_c1.lo bits_Runs_c1.od) Tryd.f130 (Tryd.f130.body.getD .skip) 2 = true := by kernel_rfl
theorem bits_Runs_c1.ok {yield1 : Value} {cap1 : Option Addr} {K : Value → Heap → Prop} {h : Heap} (hx : bits_Runs_c1 yield1 cap1 K h) : C.bits_Runs_c1 yield1 cap1 h K :=
  fn_to (cxOk _ _) Tryd.func130 (by kernel_rfl) bits_Runs_c1.chk (by rw [bits_Runs_c1.eq]; exact hx)

-- 131
def bits_has (bA1 : Option Addr) (bL1 : Nat) (bC1 : Nat) (i1 : Int) (K : Value → Heap → Prop) (h1 : Heap) : Prop :=
  bif (decide (i1 ≥ 0)) then (
  K (.bool (decide (i1 < (IntKind.wrap .i64 (8 * (bL1 : Int)))))) h1) else (
  K (.bool false) h1)
def bits_has.lo : Nat → List Nat × List (Nat × Ty) := fun n => match n with | _ => ([], [])
def bits_has.od : Nat → Od := fun n => match n with | _ => .nil
theorem bits_has.eq (bA1 : Option Addr) (bL1 : Nat) (bC1 : Nat) (i1 : Int) (K : Value → Heap → Prop) (h : Heap) : fnX (cx bits_has.lo bits_has.od) Tryd.f131 (Tryd.f131.body.getD .skip) [.slice bA1 bL1 bC1, .int .i64 i1] K h = bits_has bA1 bL1 bC1 i1 K h := by kernel_rfl
theorem bits_has.chk : fnOk (cx bits_has.lo bits_has.od) Tryd.f131 (Tryd.f131.body.getD .skip) 2 = true := by kernel_rfl
theorem bits_has.ok {bA1 : Option Addr} {bL1 : Nat} {bC1 : Nat} {i1 : Int} {K : Value → Heap → Prop} {h : Heap} (hx : bits_has bA1 bL1 bC1 i1 K h) : C.bits_has bA1 bL1 bC1 i1 h K :=
  fn_to (cxOk _ _) Tryd.func131 (by kernel_rfl) bits_has.chk (by rw [bits_has.eq]; exact hx)

-- 132
def bits_on (bA1 : Option Addr) (bL1 : Nat) (bC1 : Nat) (i1 : Int) (K : Value → Heap → Prop) (h1 : Heap) : Prop :=
  (0 ≤ (IntKind.wrap .i64 (Int.tdiv i1 8)) ∧ (IntKind.wrap .i64 (Int.tdiv i1 8)) < (bL1 : Int)) ∧
  onSome bA1 fun p1 =>
  ∃ (n1 : Int), cellOf h1 (Addr.add p1 (Int.toNat (IntKind.wrap .i64 (Int.tdiv i1 8)))) = some (.int .u8 n1) ∧
  if (Int.tmod i1 8) < 0 then False else
  K (.bool ((bitsI .and .u8 (Int.fdiv n1 (2 ^ min (Int.toNat (Int.tmod i1 8)) 8)) 1) == 1)) h1
def bits_on.lo : Nat → List Nat × List (Nat × Ty) := fun n => match n with | _ => ([], [])
def bits_on.od : Nat → Od := fun n => match n with | _ => .nil
theorem bits_on.eq (bA1 : Option Addr) (bL1 : Nat) (bC1 : Nat) (i1 : Int) (K : Value → Heap → Prop) (h : Heap) : fnX (cx bits_on.lo bits_on.od) Tryd.f132 (Tryd.f132.body.getD .skip) [.slice bA1 bL1 bC1, .int .i64 i1] K h = bits_on bA1 bL1 bC1 i1 K h := by kernel_rfl
theorem bits_on.chk : fnOk (cx bits_on.lo bits_on.od) Tryd.f132 (Tryd.f132.body.getD .skip) 2 = true := by kernel_rfl
theorem bits_on.ok {bA1 : Option Addr} {bL1 : Nat} {bC1 : Nat} {i1 : Int} {K : Value → Heap → Prop} {h : Heap} (hx : bits_on bA1 bL1 bC1 i1 K h) : C.bits_on bA1 bL1 bC1 i1 h K :=
  fn_to (cxOk _ _) Tryd.func132 (by kernel_rfl) bits_on.chk (by rw [bits_on.eq]; exact hx)
end Go.Proofs.YtcdpakjhjmchhaaDoor.W
