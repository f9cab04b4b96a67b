/-
  WHAT THE FUNCTIONS COMPUTE, as formulas; each held against the loaded code by the kernel. Written by program (gen.py).
-/
import Derived.Test.YtcdpakjhjmchhaaDoorTab
namespace Go.Proofs.YtcdpakjhjmchhaaDoor.W
open Go Go.Proofs Go.Proofs.YtcdpakjhjmchhaaDoor.Wx
-- 133
def geo_Bit.k1 (i1 : Int) (h1 : Heap) (h2 : Heap) (K : Value → Heap → Prop) : Prop :=
  ∃ (n2 : Int), cellOf h2 (Addr.add ⟨h1.size, 0, none⟩ 1) = some (.int .i64 n2) ∧
  K (.tuple #[.int .i64 (IntKind.wrap .i64 (n2 + (IntKind.wrap .i64 (Int.tdiv i1 4096)))), .int .i64 (Int.tmod i1 4096), .int .i64 0]) h2
def geo_Bit (g1 : List Value) (i1 : Int) (K : Value → Heap → Prop) (h1 : Heap) : Prop :=
  New g1 29 h1 fun h2 =>
  bif (decide (i1 < 0)) then (
  K (.tuple #[.int .i64 0, .int .i64 0, .int .i64 31]) h2) else (
  ∃ (n1 : Int), cellOf h2 (Addr.add ⟨h1.size, 0, none⟩ 0) = some (.int .i64 n1) ∧
  bif (decide (i1 ≥ n1)) then (
  K (.tuple #[.int .i64 0, .int .i64 0, .int .i64 31]) h2) else (
  geo_Bit.k1 i1 h1 h2 K))
def geo_Bit.lo : Nat → List Nat × List (Nat × Ty) := fun n => match n with | _ => ([], [])
def geo_Bit.od : Nat → Od := fun n => match n with | _ => .nil
theorem geo_Bit.eq (g1 : List Value) (i1 : Int) (K : Value → Heap → Prop) (h : Heap) : fnX (cx geo_Bit.lo geo_Bit.od) Tryd.f133 (Tryd.f133.body.getD .skip) [.agg ⟨g1⟩, .int .i64 i1] K h = geo_Bit g1 i1 K h := by kernel_rfl
theorem geo_Bit.chk : fnOk (cx geo_Bit.lo geo_Bit.od) Tryd.f133 (Tryd.f133.body.getD .skip) 2 = true := by kernel_rfl
theorem geo_Bit.ok {g1 : List Value} {i1 : Int} {K : Value → Heap → Prop} {h : Heap} (hx : geo_Bit g1 i1 K h) : C.geo_Bit g1 i1 h K :=
  fn_to (cxOk _ _) Tryd.func133 (by kernel_rfl) geo_Bit.chk (by rw [geo_Bit.eq]; exact hx)

-- 134
def rec_zeros (bA1 : Option Addr) (bL1 : Nat) (bC1 : Nat) (K : Value → Heap → Prop) (h1 : Heap) : Prop :=
  ∃ (I1 : Int → Heap → Prop) (M1 : Int → Heap → Nat), I1 0 h1 ∧
  ∀ (n1 : Int), ∀ h2 : Heap, I1 n1 h2 →
  bif (decide (n1 < (bL1 : Int))) then (
  (0 ≤ n1 ∧ n1 < (bL1 : Int)) ∧
  onSome bA1 fun p1 =>
  ∃ (n2 : Int), cellOf h2 (Addr.add p1 (Int.toNat n1)) = some (.int .u8 n2) ∧
  bif (n2 != 0) then (
  K (.bool false) h2) else (
  I1 (IntKind.wrap .i64 (n1 + 1)) h2 ∧ M1 (IntKind.wrap .i64 (n1 + 1)) h2 < M1 n1 h2)) else (
  K (.bool true) h2)
def rec_zeros.lo : Nat → List Nat × List (Nat × Ty) := fun n => match n with | 2 => ([5, 6], [(7, .int .i64)]) | _ => ([], [])
def rec_zeros.od : Nat → Od := fun n => match n with | _ => .nil
theorem rec_zeros.eq (bA1 : Option Addr) (bL1 : Nat) (bC1 : Nat) (K : Value → Heap → Prop) (h : Heap) : fnX (cx rec_zeros.lo rec_zeros.od) Tryd.f134 (Tryd.f134.body.getD .skip) [.slice bA1 bL1 bC1] K h = rec_zeros bA1 bL1 bC1 K h := by kernel_rfl
theorem rec_zeros.chk : fnOk (cx rec_zeros.lo rec_zeros.od) Tryd.f134 (Tryd.f134.body.getD .skip) 1 = true := by kernel_rfl
theorem rec_zeros.ok {bA1 : Option Addr} {bL1 : Nat} {bC1 : Nat} {K : Value → Heap → Prop} {h : Heap} (hx : rec_zeros bA1 bL1 bC1 K h) : C.rec_zeros bA1 bL1 bC1 h K :=
  fn_to (cxOk _ _) Tryd.func134 (by kernel_rfl) rec_zeros.chk (by rw [rec_zeros.eq]; exact hx)

-- 138
def boleref11_number (bA1 : Option Addr) (bL1 : Nat) (bC1 : Nat) (K : Value → Heap → Prop) (h1 : Heap) : Prop :=
  ∃ (I1 : Int → Int → Heap → Prop) (M1 : Int → Int → Heap → Nat), I1 0 (IntKind.wrap .i64 ((bL1 : Int) - 1)) h1 ∧
  ∀ (n1 : Int) (i1 : Int), ∀ h2 : Heap, I1 n1 i1 h2 →
  bif (decide (i1 ≥ 0)) then (
  (0 ≤ i1 ∧ i1 < (bL1 : Int)) ∧
  onSome bA1 fun p1 =>
  ∃ (n2 : Int), cellOf h2 (Addr.add p1 (Int.toNat i1)) = some (.int .u8 n2) ∧
  I1 (IntKind.wrap .i64 ((IntKind.wrap .i64 (n1 * 256)) + (IntKind.wrap .i64 (n2)))) (IntKind.wrap .i64 (i1 - 1)) h2 ∧ M1 (IntKind.wrap .i64 ((IntKind.wrap .i64 (n1 * 256)) + (IntKind.wrap .i64 (n2)))) (IntKind.wrap .i64 (i1 - 1)) h2 < M1 n1 i1 h2) else (
  K (.int .i64 n1) h2)
def boleref11_number.lo : Nat → List Nat × List (Nat × Ty) := fun n => match n with | 3 => ([0], [(3, .int .i64), (4, .int .i64)]) | _ => ([], [])
def boleref11_number.od : Nat → Od := fun n => match n with | _ => .nil
theorem boleref11_number.eq (bA1 : Option Addr) (bL1 : Nat) (bC1 : Nat) (K : Value → Heap → Prop) (h : Heap) : fnX (cx boleref11_number.lo boleref11_number.od) Tryd.f138 (Tryd.f138.body.getD .skip) [.slice bA1 bL1 bC1] K h = boleref11_number bA1 bL1 bC1 K h := by kernel_rfl
theorem boleref11_number.chk : fnOk (cx boleref11_number.lo boleref11_number.od) Tryd.f138 (Tryd.f138.body.getD .skip) 1 = true := by kernel_rfl
theorem boleref11_number.ok {bA1 : Option Addr} {bL1 : Nat} {bC1 : Nat} {K : Value → Heap → Prop} {h : Heap} (hx : boleref11_number bA1 bL1 bC1 K h) : C.boleref11_number bA1 bL1 bC1 h K :=
  fn_to (cxOk _ _) Tryd.func138 (by kernel_rfl) boleref11_number.chk (by rw [boleref11_number.eq]; exact hx)

-- 139
def boleref11_laid (x1 : List Value) (K : Value → Heap → Prop) (h1 : Heap) : Prop :=
  New x1 35 h1 fun h2 =>
  ∃ (n1 : Int), cellOf h2 (Addr.add ⟨h1.size, 0, none⟩ 0) = some (.int .i64 n1) ∧
  New [.int .u8 (IntKind.wrap .u8 (n1)), .int .u8 0] 5 h2 fun h3 =>
  ∃ (n2 : Int), cellOf h3 (Addr.add ⟨h1.size, 0, none⟩ 1) = some (.int .i64 n2) ∧
  C.boleref11_low n2 2 h3 fun r1 h4 =>
  ∃ (sA1 : Option Addr) (sL1 : Nat) (sC1 : Nat), r1 = .slice sA1 sL1 sC1 ∧
  ∃ new1 : List Value, List.length new1 = sL1 * 1 ∧ SlCells h4 sA1 new1 ∧ (∀ v ∈ new1, v.oneCell' = true) ∧
  AppendP ti5 5 (some ⟨h2.size, 0, none⟩) 2 2 sL1 new1 h4 fun sA2 sL2 sC2 h5 =>
  ∃ (n3 : Int), cellOf h5 (Addr.add ⟨h1.size, 0, none⟩ 2) = some (.int .i64 n3) ∧
  C.boleref11_low n3 4 h5 fun r2 h6 =>
  ∃ (sA3 : Option Addr) (sL3 : Nat) (sC3 : Nat), r2 = .slice sA3 sL3 sC3 ∧
  ∃ new2 : List Value, List.length new2 = sL3 * 1 ∧ SlCells h6 sA3 new2 ∧ (∀ v ∈ new2, v.oneCell' = true) ∧
  AppendP ti5 5 sA2 sL2 sC2 sL3 new2 h6 fun sA4 sL4 sC4 h7 =>
  ∃ (I1 : Option Addr → Nat → Nat → Int → Heap → Prop) (M1 : Option Addr → Nat → Nat → Int → Heap → Nat), I1 sA4 sL4 sC4 0 h7 ∧
  ∀ (bA1 : Option Addr) (bL1 : Nat) (bC1 : Nat) (i1 : Int), ∀ h8 : Heap, I1 bA1 bL1 bC1 i1 h8 →
  bif (decide (i1 < 10)) then (
  (0 ≤ i1 ∧ i1 < (10 : Int)) ∧
  ∃ (n4 : Int), cellOf h8 (Addr.add (Addr.add ⟨h1.size, 0, none⟩ 3) (Int.toNat i1)) = some (.int .i64 n4) ∧
  C.boleref11_low n4 4 h8 fun r3 h9 =>
  ∃ (sA5 : Option Addr) (sL5 : Nat) (sC5 : Nat), r3 = .slice sA5 sL5 sC5 ∧
  ∃ new3 : List Value, List.length new3 = sL5 * 1 ∧ SlCells h9 sA5 new3 ∧ (∀ v ∈ new3, v.oneCell' = true) ∧
  AppendP ti5 5 bA1 bL1 bC1 sL5 new3 h9 fun sA6 sL6 sC6 h10 =>
  I1 sA6 sL6 sC6 (IntKind.wrap .i64 (i1 + 1)) h10 ∧ M1 sA6 sL6 sC6 (IntKind.wrap .i64 (i1 + 1)) h10 < M1 bA1 bL1 bC1 i1 h8) else (
  ∃ (n5 : Int), cellOf h8 (Addr.add ⟨h1.size, 0, none⟩ 13) = some (.int .i64 n5) ∧
  C.boleref11_low n5 4 h8 fun r4 h11 =>
  ∃ (sA7 : Option Addr) (sL7 : Nat) (sC7 : Nat), r4 = .slice sA7 sL7 sC7 ∧
  ∃ new4 : List Value, List.length new4 = sL7 * 1 ∧ SlCells h11 sA7 new4 ∧ (∀ v ∈ new4, v.oneCell' = true) ∧
  AppendP ti5 5 bA1 bL1 bC1 sL7 new4 h11 fun sA8 sL8 sC8 h12 =>
  ∃ (n6 : Int), cellOf h12 (Addr.add ⟨h1.size, 0, none⟩ 14) = some (.int .i64 n6) ∧
  C.boleref11_low n6 4 h12 fun r5 h13 =>
  ∃ (sA9 : Option Addr) (sL9 : Nat) (sC9 : Nat), r5 = .slice sA9 sL9 sC9 ∧
  ∃ new5 : List Value, List.length new5 = sL9 * 1 ∧ SlCells h13 sA9 new5 ∧ (∀ v ∈ new5, v.oneCell' = true) ∧
  AppendP ti5 5 sA8 sL8 sC8 sL9 new5 h13 fun sA10 sL10 sC10 h14 =>
  New [.int .u8 0, .int .u8 0, .int .u8 0, .int .u8 0, .int .u8 0, .int .u8 0, .int .u8 0, .int .u8 0] 5 h14 fun h15 =>
  ∃ new6 : List Value, List.length new6 = 8 * 1 ∧ SlCells h15 (some ⟨h14.size, 0, none⟩) new6 ∧ (∀ v ∈ new6, v.oneCell' = true) ∧
  AppendP ti5 5 sA10 sL10 sC10 8 new6 h15 fun sA11 sL11 sC11 h16 =>
  K (.slice sA11 sL11 sC11) h16)
def boleref11_laid.lo : Nat → List Nat × List (Nat × Ty) := fun n => match n with | 5 => ([1], [(3, .slice), (4, .int .i64)]) | _ => ([], [])
def boleref11_laid.od : Nat → Od := fun n => match n with | _ => .nil
theorem boleref11_laid.eq (x1 : List Value) (K : Value → Heap → Prop) (h : Heap) : fnX (cx boleref11_laid.lo boleref11_laid.od) Tryd.f139 (Tryd.f139.body.getD .skip) [.agg ⟨x1⟩] K h = boleref11_laid x1 K h := by kernel_rfl
theorem boleref11_laid.chk : fnOk (cx boleref11_laid.lo boleref11_laid.od) Tryd.f139 (Tryd.f139.body.getD .skip) 1 = true := by kernel_rfl
theorem boleref11_laid.ok {x1 : List Value} {K : Value → Heap → Prop} {h : Heap} (hx : boleref11_laid x1 K h) : C.boleref11_laid x1 h K :=
  fn_to (cxOk _ _) Tryd.func139 (by kernel_rfl) boleref11_laid.chk (by rw [boleref11_laid.eq]; exact hx)

-- 140
def boleref11_within (n1 : Int) (low1 : Int) (high1 : Int) (K : Value → Heap → Prop) (h1 : Heap) : Prop :=
  bif (decide (n1 ≥ low1)) then (
  K (.bool (decide (n1 ≤ high1))) h1) else (
  K (.bool false) h1)
def boleref11_within.lo : Nat → List Nat × List (Nat × Ty) := fun n => match n with | _ => ([], [])
def boleref11_within.od : Nat → Od := fun n => match n with | _ => .nil
theorem boleref11_within.eq (n1 : Int) (low1 : Int) (high1 : Int) (K : Value → Heap → Prop) (h : Heap) : fnX (cx boleref11_within.lo boleref11_within.od) Tryd.f140 (Tryd.f140.body.getD .skip) [.int .i64 n1, .int .i64 low1, .int .i64 high1] K h = boleref11_within n1 low1 high1 K h := by kernel_rfl
theorem boleref11_within.chk : fnOk (cx boleref11_within.lo boleref11_within.od) Tryd.f140 (Tryd.f140.body.getD .skip) 3 = true := by kernel_rfl
theorem boleref11_within.ok {n1 : Int} {low1 : Int} {high1 : Int} {K : Value → Heap → Prop} {h : Heap} (hx : boleref11_within n1 low1 high1 K h) : C.boleref11_within n1 low1 high1 h K :=
  fn_to (cxOk _ _) Tryd.func140 (by kernel_rfl) boleref11_within.chk (by rw [boleref11_within.eq]; exact hx)

-- 141
def adisk_Disk_has (d1 : Option Addr) (i1 : Int) (K : Value → Heap → Prop) (h1 : Heap) : Prop :=
  bif (decide (i1 ≥ 0)) then (
  onSome d1 fun p1 =>
  ∃ (sA1 : Option Addr) (sL1 : Nat) (sC1 : Nat), cellOf h1 (Addr.add p1 0) = some (.slice sA1 sL1 sC1) ∧
  K (.bool (decide (i1 < (sL1 : Int)))) h1) else (
  K (.bool false) h1)
def adisk_Disk_has.lo : Nat → List Nat × List (Nat × Ty) := fun n => match n with | _ => ([], [])
def adisk_Disk_has.od : Nat → Od := fun n => match n with | _ => .nil
theorem adisk_Disk_has.eq (d1 : Option Addr) (i1 : Int) (K : Value → Heap → Prop) (h : Heap) : fnX (cx adisk_Disk_has.lo adisk_Disk_has.od) Tryd.f141 (Tryd.f141.body.getD .skip) [.pointer d1, .int .i64 i1] K h = adisk_Disk_has d1 i1 K h := by kernel_rfl
theorem adisk_Disk_has.chk : fnOk (cx adisk_Disk_has.lo adisk_Disk_has.od) Tryd.f141 (Tryd.f141.body.getD .skip) 2 = true := by kernel_rfl
theorem adisk_Disk_has.ok {d1 : Option Addr} {i1 : Int} {K : Value → Heap → Prop} {h : Heap} (hx : adisk_Disk_has d1 i1 K h) : C.adisk_Disk_has d1 i1 h K :=
  fn_to (cxOk _ _) Tryd.func141 (by kernel_rfl) adisk_Disk_has.chk (by rw [adisk_Disk_has.eq]; exact hx)

-- 145
def boleref11_low (n1 : Int) (bytes1 : Int) (K : Value → Heap → Prop) (h1 : Heap) : Prop :=
  ∃ (I1 : Int → Option Addr → Nat → Nat → Int → Heap → Prop) (M1 : Int → Option Addr → Nat → Nat → Int → Heap → Nat), I1 n1 none 0 0 0 h1 ∧
  ∀ (n2 : Int) (bA1 : Option Addr) (bL1 : Nat) (bC1 : Nat) (i1 : Int), ∀ h2 : Heap, I1 n2 bA1 bL1 bC1 i1 h2 →
  bif (decide (i1 < bytes1)) then (
  New [.int .u8 (IntKind.wrap .u8 ((Int.tmod n2 256)))] 5 h2 fun h3 =>
  ∃ new1 : List Value, List.length new1 = 1 * 1 ∧ SlCells h3 (some ⟨h2.size, 0, none⟩) new1 ∧ (∀ v ∈ new1, v.oneCell' = true) ∧
  AppendP ti5 5 bA1 bL1 bC1 1 new1 h3 fun sA1 sL1 sC1 h4 =>
  I1 (IntKind.wrap .i64 (Int.tdiv n2 256)) sA1 sL1 sC1 (IntKind.wrap .i64 (i1 + 1)) h4 ∧ M1 (IntKind.wrap .i64 (Int.tdiv n2 256)) sA1 sL1 sC1 (IntKind.wrap .i64 (i1 + 1)) h4 < M1 n2 bA1 bL1 bC1 i1 h2) else (
  K (.slice bA1 bL1 bC1) h2)
def boleref11_low.lo : Nat → List Nat × List (Nat × Ty) := fun n => match n with | 3 => ([1], [(0, .int .i64), (5, .slice), (6, .int .i64)]) | _ => ([], [])
def boleref11_low.od : Nat → Od := fun n => match n with | _ => .nil
theorem boleref11_low.eq (n1 : Int) (bytes1 : Int) (K : Value → Heap → Prop) (h : Heap) : fnX (cx boleref11_low.lo boleref11_low.od) Tryd.f145 (Tryd.f145.body.getD .skip) [.int .i64 n1, .int .i64 bytes1] K h = boleref11_low n1 bytes1 K h := by kernel_rfl
theorem boleref11_low.chk : fnOk (cx boleref11_low.lo boleref11_low.od) Tryd.f145 (Tryd.f145.body.getD .skip) 2 = true := by kernel_rfl
theorem boleref11_low.ok {n1 : Int} {bytes1 : Int} {K : Value → Heap → Prop} {h : Heap} (hx : boleref11_low n1 bytes1 K h) : C.boleref11_low n1 bytes1 h K :=
  fn_to (cxOk _ _) Tryd.func145 (by kernel_rfl) boleref11_low.chk (by rw [boleref11_low.eq]; exact hx)
end Go.Proofs.YtcdpakjhjmchhaaDoor.W
