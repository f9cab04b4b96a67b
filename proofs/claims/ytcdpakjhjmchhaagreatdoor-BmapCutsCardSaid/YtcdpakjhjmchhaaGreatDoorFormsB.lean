/-
  WHAT THE FUNCTIONS COMPUTE, as formulas; each held against the loaded code by the kernel. Written by program (gen.py).
-/
import Derived.Test.YtcdpakjhjmchhaaGreatDoorTab
namespace Go.Proofs.YtcdpakjhjmchhaaGreatDoor.W
open Go Go.Proofs Go.Proofs.YtcdpakjhjmchhaaGreatDoor.Wx
-- 79
def bmap_file_cut.k1 (left1 : Bool) (turned1 : Bool) (n2 : Int) (h3 : Heap) (I1 : Bool → Bool → Int → Heap → Prop) (M1 : Bool → Bool → Int → Heap → Nat) (b1 : Bool) (h6 : Heap) (K : Value → Heap → Prop) : Prop :=
  bif left1 then (
  bif turned1 then (
  I1 true true (IntKind.wrap .i64 (n2 + 1)) h6 ∧ M1 true true (IntKind.wrap .i64 (n2 + 1)) h6 < M1 left1 turned1 n2 h3) else (
  I1 true b1 (IntKind.wrap .i64 (n2 + 1)) h6 ∧ M1 true b1 (IntKind.wrap .i64 (n2 + 1)) h6 < M1 left1 turned1 n2 h3)) else (
  bif turned1 then (
  I1 (!b1) true (IntKind.wrap .i64 (n2 + 1)) h6 ∧ M1 (!b1) true (IntKind.wrap .i64 (n2 + 1)) h6 < M1 left1 turned1 n2 h3) else (
  I1 (!b1) b1 (IntKind.wrap .i64 (n2 + 1)) h6 ∧ M1 (!b1) b1 (IntKind.wrap .i64 (n2 + 1)) h6 < M1 left1 turned1 n2 h3))
def bmap_file_cut (f1 : Option Addr) (table1 : Int) (from1 : Int) (drop1 : Value) (K : Value → Heap → Prop) (h1 : Heap) : Prop :=
  C.bmap_file_numbers f1 table1 h1 fun r1 h2 =>
  ∃ (sA1 : Option Addr) (sL1 : Nat) (sC1 : Nat) (sA2 : Option Addr) (sL2 : Nat) (sC2 : Nat) (n1 : Int), r1 = .tuple #[.slice sA1 sL1 sC1, .slice sA2 sL2 sC2, .int .i64 n1] ∧
  bif (n1 != 0) then (
  K (.tuple #[.bool false, .int .i64 n1]) h2) else (
  ∃ (I1 : Bool → Bool → Int → Heap → Prop) (M1 : Bool → Bool → Int → Heap → Nat), I1 false false 0 h2 ∧
  ∀ (left1 : Bool) (turned1 : Bool) (n2 : Int), ∀ h3 : Heap, I1 left1 turned1 n2 h3 →
  bif (decide (n2 < (sL2 : Int))) then (
  (0 ≤ n2 ∧ n2 < (sL2 : Int)) ∧
  onSome sA2 fun p1 =>
  ∃ (n3 : Int), cellOf h3 (Addr.add p1 (Int.toNat n2)) = some (.int .i64 n3) ∧
  bif (n3 == 0) then (
  I1 left1 turned1 (IntKind.wrap .i64 (n2 + 1)) h3 ∧ M1 left1 turned1 (IntKind.wrap .i64 (n2 + 1)) h3 < M1 left1 turned1 n2 h3) else (
  bif (decide (n2 < from1)) then (
  I1 true turned1 (IntKind.wrap .i64 (n2 + 1)) h3 ∧ M1 true turned1 (IntKind.wrap .i64 (n2 + 1)) h3 < M1 left1 turned1 n2 h3) else (
  HCallsV Tryz.prog drop1 [.int .i64 n2, .int .i64 n3] h3 fun r2 h4 =>
  ∃ (b1 : Bool) (n4 : Int), r2 = .tuple #[.bool b1, .int .i64 n4] ∧
  bif (n4 != 0) then (
  K (.tuple #[.bool false, .int .i64 n4]) h4) else (
  bif b1 then (
  C.rec_Put sA1 sL1 sC1 (IntKind.wrap .i64 (4 * n2)) 4 0 h4 fun r3 h5 =>
  ∃ (n5 : Int), r3 = .int .i64 n5 ∧
  bmap_file_cut.k1 left1 turned1 n2 h3 I1 M1 b1 h5 K) else (
  bmap_file_cut.k1 left1 turned1 n2 h3 I1 M1 b1 h4 K))))) else (
  bif (!left1) then (
  onSome f1 fun p2 =>
  ∃ (q1 : Option Addr), cellOf h3 (Addr.add p2 0) = some (.pointer q1) ∧
  onSome f1 fun p3 =>
  ∃ cs1 : List Value, List.length cs1 = 5 ∧ Cells h3 (Addr.add p3 1) cs1 ∧
  C.space_Give q1 cs1 table1 h3 fun r4 h7 =>
  ∃ (n6 : Int), r4 = .int .i64 n6 ∧
  K (.tuple #[.bool false, .int .i64 n6]) h7) else (
  bif turned1 then (
  onSome f1 fun p4 =>
  ∃ (q2 : Option Addr), cellOf h3 (Addr.add p4 0) = some (.pointer q2) ∧
  C.txn_Txn_Write q2 table1 sA1 sL1 sC1 h3 fun r5 h8 =>
  ∃ (n7 : Int), r5 = .int .i64 n7 ∧
  K (.tuple #[.bool true, .int .i64 n7]) h8) else (
  K (.tuple #[.bool true, .int .i64 0]) h3))))
def bmap_file_cut.lo : Nat → List Nat × List (Nat × Ty) := fun n => match n with | 6 => ([0, 1, 2, 3, 10, 29, 30], [(13, .bool), (14, .bool), (31, .int .i64)]) | _ => ([], [])
def bmap_file_cut.od : Nat → Od := fun n => match n with | 19 => (.op 0 [] (.op 1 [] (.op 2 [] (.op 3 [] (.op 4 [] (.op 5 [] (.op 6 [] (.op 7 [] (.op 8 [] (.op 9 [] (.op 10 [] (.op 11 [] .nil)))))))))))) | _ => .nil
theorem bmap_file_cut.eq (f1 : Option Addr) (table1 : Int) (from1 : Int) (drop1 : Value) (K : Value → Heap → Prop) (h : Heap) : fnX (cx bmap_file_cut.lo bmap_file_cut.od) Tryz.f79 (Tryz.f79.body.getD .skip) [.pointer f1, .int .i64 table1, .int .i64 from1, drop1] K h = bmap_file_cut f1 table1 from1 drop1 K h := by kernel_rfl
theorem bmap_file_cut.chk : fnOk (cx bmap_file_cut.lo bmap_file_cut.od) Tryz.f79 (Tryz.f79.body.getD .skip) 4 = true := by kernel_rfl
theorem bmap_file_cut.ok {f1 : Option Addr} {table1 : Int} {from1 : Int} {drop1 : Value} {K : Value → Heap → Prop} {h : Heap} (hx : bmap_file_cut f1 table1 from1 drop1 K h) : C.bmap_file_cut f1 table1 from1 drop1 h K :=
  fn_to (cxOk _ _) Tryz.func79 (by kernel_rfl) bmap_file_cut.chk (by rw [bmap_file_cut.eq]; exact hx)

-- 80
def bmap_file_leaf (f1 : Option Addr) (x1 : Int) (num1 : Int) (K : Value → Heap → Prop) (h1 : Heap) : Prop :=
  C.bmap_file_give f1 num1 h1 fun r1 h2 =>
  ∃ (n1 : Int), r1 = .int .i64 n1 ∧
  K (.tuple #[.bool true, .int .i64 n1]) h2
def bmap_file_leaf.lo : Nat → List Nat × List (Nat × Ty) := fun n => match n with | _ => ([], [])
def bmap_file_leaf.od : Nat → Od := fun n => match n with | _ => .nil
theorem bmap_file_leaf.eq (f1 : Option Addr) (x1 : Int) (num1 : Int) (K : Value → Heap → Prop) (h : Heap) : fnX (cx bmap_file_leaf.lo bmap_file_leaf.od) Tryz.f80 (Tryz.f80.body.getD .skip) [.pointer f1, .int .i64 x1, .int .i64 num1] K h = bmap_file_leaf f1 x1 num1 K h := by kernel_rfl
theorem bmap_file_leaf.chk : fnOk (cx bmap_file_leaf.lo bmap_file_leaf.od) Tryz.f80 (Tryz.f80.body.getD .skip) 3 = true := by kernel_rfl
theorem bmap_file_leaf.ok {f1 : Option Addr} {x1 : Int} {num1 : Int} {K : Value → Heap → Prop} {h : Heap} (hx : bmap_file_leaf f1 x1 num1 K h) : C.bmap_file_leaf f1 x1 num1 h K :=
  fn_to (cxOk _ _) Tryz.func80 (by kernel_rfl) bmap_file_leaf.chk (by rw [bmap_file_leaf.eq]; exact hx)

-- 81
def bmap_Cut_c2 (i1 : Int) (num1 : Int) (cap1 : Option Addr) (cap2 : Option Addr) (K : Value → Heap → Prop) (h1 : Heap) : Prop :=
  onSome cap1 fun p1 =>
  ∃ (q1 : Option Addr), cellOf h1 p1 = some (.pointer q1) ∧
  onSome cap2 fun p2 =>
  ∃ (n1 : Int), cellOf h1 p2 = some (.int .i64 n1) ∧
  onSome cap1 fun p3 =>
  ∃ (q2 : Option Addr), cellOf h1 p3 = some (.pointer q2) ∧
  C.bmap_file_cut q1 num1 (IntKind.wrap .i64 (n1 - (IntKind.wrap .i64 (i1 * 128)))) (Value.func (.func 80) ⟨[.pointer q2]⟩ ⟨[]⟩) h1 fun r1 h2 =>
  ∃ (b1 : Bool) (n2 : Int), r1 = .tuple #[.bool b1, .int .i64 n2] ∧
  K (.tuple #[.bool (!b1), .int .i64 n2]) h2
def bmap_Cut_c2.lo : Nat → List Nat × List (Nat × Ty) := fun n => match n with | _ => ([], [])
def bmap_Cut_c2.od : Nat → Od := fun n => match n with | _ => .nil
theorem bmap_Cut_c2.eq (i1 : Int) (num1 : Int) (cap1 : Option Addr) (cap2 : Option Addr) (K : Value → Heap → Prop) (h : Heap) : fnX (cx bmap_Cut_c2.lo bmap_Cut_c2.od) Tryz.f81 (Tryz.f81.body.getD .skip) [.int .i64 i1, .int .i64 num1, .pointer cap1, .pointer cap2] K h = bmap_Cut_c2 i1 num1 cap1 cap2 K h := by kernel_rfl
theorem bmap_Cut_c2.chk : fnOk (cx bmap_Cut_c2.lo bmap_Cut_c2.od) Tryz.f81 (Tryz.f81.body.getD .skip) 4 = true := by kernel_rfl
theorem bmap_Cut_c2.ok {i1 : Int} {num1 : Int} {cap1 : Option Addr} {cap2 : Option Addr} {K : Value → Heap → Prop} {h : Heap} (hx : bmap_Cut_c2 i1 num1 cap1 cap2 K h) : C.bmap_Cut_c2 i1 num1 cap1 cap2 h K :=
  fn_to (cxOk _ _) Tryz.func81 (by kernel_rfl) bmap_Cut_c2.chk (by rw [bmap_Cut_c2.eq]; exact hx)

-- 83
def bmap_All_c1 (k1 : Int) (num1 : Int) (cap1 : Option Addr) (cap2 : Option Addr) (K : Value → Heap → Prop) (h1 : Heap) : Prop :=
  bif (num1 == 0) then (
  K (.int .i64 0) h1) else (
  onSome cap1 fun p1 =>
  ∃ (sA1 : Option Addr) (sL1 : Nat) (sC1 : Nat), cellOf h1 p1 = some (.slice sA1 sL1 sC1) ∧
  List.length ([.int .i64 k1, .int .i64 num1] : List Value) = 2 ∧
  New [.int .i64 k1, .int .i64 num1] 56 h1 fun h2 =>
  ∃ new1 : List Value, List.length new1 = 1 * 2 ∧ SlCells h2 (some ⟨h1.size, 0, none⟩) new1 ∧ (∀ v ∈ new1, v.oneCell' = true) ∧
  AppendP ti56 56 sA1 sL1 sC1 1 new1 h2 fun sA2 sL2 sC2 h3 =>
  onSome cap1 fun p2 =>
  Put p2 (.slice sA2 sL2 sC2) h3 fun h4 =>
  onSome cap2 fun p3 =>
  ∃ (q1 : Option Addr), cellOf h4 p3 = some (.pointer q1) ∧
  C.bmap_file_look q1 num1 h4 fun r1 h5 =>
  ∃ (n1 : Int), r1 = .int .i64 n1 ∧
  K (.int .i64 n1) h5)
def bmap_All_c1.lo : Nat → List Nat × List (Nat × Ty) := fun n => match n with | _ => ([], [])
def bmap_All_c1.od : Nat → Od := fun n => match n with | _ => .nil
theorem bmap_All_c1.eq (k1 : Int) (num1 : Int) (cap1 : Option Addr) (cap2 : Option Addr) (K : Value → Heap → Prop) (h : Heap) : fnX (cx bmap_All_c1.lo bmap_All_c1.od) Tryz.f83 (Tryz.f83.body.getD .skip) [.int .i64 k1, .int .i64 num1, .pointer cap1, .pointer cap2] K h = bmap_All_c1 k1 num1 cap1 cap2 K h := by kernel_rfl
theorem bmap_All_c1.chk : fnOk (cx bmap_All_c1.lo bmap_All_c1.od) Tryz.f83 (Tryz.f83.body.getD .skip) 4 = true := by kernel_rfl
theorem bmap_All_c1.ok {k1 : Int} {num1 : Int} {cap1 : Option Addr} {cap2 : Option Addr} {K : Value → Heap → Prop} {h : Heap} (hx : bmap_All_c1 k1 num1 cap1 cap2 K h) : C.bmap_All_c1 k1 num1 cap1 cap2 h K :=
  fn_to (cxOk _ _) Tryz.func83 (by kernel_rfl) bmap_All_c1.chk (by rw [bmap_All_c1.eq]; exact hx)

-- 84
def bmap_file_look (f1 : Option Addr) (num1 : Int) (K : Value → Heap → Prop) (h1 : Heap) : Prop :=
  onSome f1 fun p1 =>
  ∃ (n1 : Int), cellOf h1 (Addr.add (Addr.add p1 1) 3) = some (.int .i64 n1) ∧
  bif (decide (num1 < n1)) then (
  K (.int .i64 100) h1) else (
  onSome f1 fun p2 =>
  ∃ (n2 : Int), cellOf h1 (Addr.add (Addr.add p2 1) 0) = some (.int .i64 n2) ∧
  bif (decide (num1 ≥ n2)) then (
  K (.int .i64 100) h1) else (
  K (.int .i64 0) h1))
def bmap_file_look.lo : Nat → List Nat × List (Nat × Ty) := fun n => match n with | _ => ([], [])
def bmap_file_look.od : Nat → Od := fun n => match n with | _ => .nil
theorem bmap_file_look.eq (f1 : Option Addr) (num1 : Int) (K : Value → Heap → Prop) (h : Heap) : fnX (cx bmap_file_look.lo bmap_file_look.od) Tryz.f84 (Tryz.f84.body.getD .skip) [.pointer f1, .int .i64 num1] K h = bmap_file_look f1 num1 K h := by kernel_rfl
theorem bmap_file_look.chk : fnOk (cx bmap_file_look.lo bmap_file_look.od) Tryz.f84 (Tryz.f84.body.getD .skip) 2 = true := by kernel_rfl
theorem bmap_file_look.ok {f1 : Option Addr} {num1 : Int} {K : Value → Heap → Prop} {h : Heap} (hx : bmap_file_look f1 num1 K h) : C.bmap_file_look f1 num1 h K :=
  fn_to (cxOk _ _) Tryz.func84 (by kernel_rfl) bmap_file_look.chk (by rw [bmap_file_look.eq]; exact hx)

-- 85
def bmap_All_c2.k1 (do1 : Value) (sA2 : Option Addr) (sL2 : Nat) (e1 : Int) (i1 : Int) (h6 : Heap) (I1 : Int → Int → Heap → Prop) (M1 : Int → Int → Heap → Nat) (K : Value → Heap → Prop) : Prop :=
  (0 ≤ i1 ∧ i1 < (sL2 : Int)) ∧
  onSome sA2 fun p4 =>
  ∃ (n2 : Int), cellOf h6 (Addr.add p4 (Int.toNat i1)) = some (.int .i64 n2) ∧
  HCallsV Tryz.prog do1 [.int .i64 i1, .int .i64 n2] h6 fun r2 h7 =>
  ∃ (n3 : Int), r2 = .int .i64 n3 ∧
  I1 n3 (IntKind.wrap .i64 (i1 + 1)) h7 ∧ M1 n3 (IntKind.wrap .i64 (i1 + 1)) h7 < M1 e1 i1 h6
def bmap_All_c2 (table1 : Int) (do1 : Value) (cap1 : Option Addr) (cap2 : Option Addr) (K : Value → Heap → Prop) (h1 : Heap) : Prop :=
  bif (table1 == 0) then (
  K (.int .i64 0) h1) else (
  onSome cap1 fun p1 =>
  ∃ (q1 : Option Addr), cellOf h1 p1 = some (.pointer q1) ∧
  C.bmap_file_numbers q1 table1 h1 fun r1 h2 =>
  ∃ (sA1 : Option Addr) (sL1 : Nat) (sC1 : Nat) (sA2 : Option Addr) (sL2 : Nat) (sC2 : Nat) (n1 : Int), r1 = .tuple #[.slice sA1 sL1 sC1, .slice sA2 sL2 sC2, .int .i64 n1] ∧
  onSome cap2 fun p2 =>
  ∃ (sA3 : Option Addr) (sL3 : Nat) (sC3 : Nat), cellOf h2 p2 = some (.slice sA3 sL3 sC3) ∧
  New [.int .i64 table1] 3 h2 fun h3 =>
  ∃ new1 : List Value, List.length new1 = 1 * 1 ∧ SlCells h3 (some ⟨h2.size, 0, none⟩) new1 ∧ (∀ v ∈ new1, v.oneCell' = true) ∧
  AppendP ti3 3 sA3 sL3 sC3 1 new1 h3 fun sA4 sL4 sC4 h4 =>
  onSome cap2 fun p3 =>
  Put p3 (.slice sA4 sL4 sC4) h4 fun h5 =>
  ∃ (I1 : Int → Int → Heap → Prop) (M1 : Int → Int → Heap → Nat), I1 n1 0 h5 ∧
  ∀ (e1 : Int) (i1 : Int), ∀ h6 : Heap, I1 e1 i1 h6 →
  bif (decide (i1 < (sL2 : Int))) then (
  bif (e1 == 0) then (
  bmap_All_c2.k1 do1 sA2 sL2 e1 i1 h6 I1 M1 K) else (
  K (.int .i64 e1) h6)) else (
  K (.int .i64 e1) h6))
def bmap_All_c2.lo : Nat → List Nat × List (Nat × Ty) := fun n => match n with | 6 => ([1, 8], [(9, .int .i64), (10, .int .i64)]) | _ => ([], [])
def bmap_All_c2.od : Nat → Od := fun n => match n with | _ => .nil
theorem bmap_All_c2.eq (table1 : Int) (do1 : Value) (cap1 : Option Addr) (cap2 : Option Addr) (K : Value → Heap → Prop) (h : Heap) : fnX (cx bmap_All_c2.lo bmap_All_c2.od) Tryz.f85 (Tryz.f85.body.getD .skip) [.int .i64 table1, do1, .pointer cap1, .pointer cap2] K h = bmap_All_c2 table1 do1 cap1 cap2 K h := by kernel_rfl
theorem bmap_All_c2.chk : fnOk (cx bmap_All_c2.lo bmap_All_c2.od) Tryz.f85 (Tryz.f85.body.getD .skip) 4 = true := by kernel_rfl
theorem bmap_All_c2.ok {table1 : Int} {do1 : Value} {cap1 : Option Addr} {cap2 : Option Addr} {K : Value → Heap → Prop} {h : Heap} (hx : bmap_All_c2 table1 do1 cap1 cap2 K h) : C.bmap_All_c2 table1 do1 cap1 cap2 h K :=
  fn_to (cxOk _ _) Tryz.func85 (by kernel_rfl) bmap_All_c2.chk (by rw [bmap_All_c2.eq]; exact hx)

-- 86
def bmap_file_numbers (f1 : Option Addr) (table1 : Int) (K : Value → Heap → Prop) (h1 : Heap) : Prop :=
  C.bmap_file_look f1 table1 h1 fun r1 h2 =>
  ∃ (n1 : Int), r1 = .int .i64 n1 ∧
  bif (n1 != 0) then (
  K (.tuple #[.slice none 0 0, .slice none 0 0, .int .i64 n1]) h2) else (
  onSome f1 fun p1 =>
  ∃ (q1 : Option Addr), cellOf h2 (Addr.add p1 0) = some (.pointer q1) ∧
  C.txn_Txn_Read q1 table1 h2 fun r2 h3 =>
  ∃ (sA1 : Option Addr) (sL1 : Nat) (sC1 : Nat) (n2 : Int), r2 = .tuple #[.slice sA1 sL1 sC1, .int .i64 n2] ∧
  bif (n2 != 0) then (
  K (.tuple #[.slice none 0 0, .slice none 0 0, .int .i64 n2]) h3) else (
  (0 ≤ (128 : Int) ∧ (128 : Int) ≤ 128 ∧ (8 : Int) * 128 ≤ 281474976710656 ∧ (128 : Int) ≤ 281474976710656) ∧
  New (repCells z3 (Int.toNat 128)) 3 h3 fun h4 =>
  ∃ (I1 : Int → Heap → Prop) (M1 : Int → Heap → Nat), I1 0 h4 ∧
  ∀ (n3 : Int), ∀ h5 : Heap, I1 n3 h5 →
  bif (decide (n3 < ((Int.toNat 128) : Int))) then (
  C.rec_Get sA1 sL1 sC1 (IntKind.wrap .i64 (4 * n3)) 4 h5 fun r3 h6 =>
  ∃ (n4 : Int) (n5 : Int), r3 = .tuple #[.int .u64 n4, .int .i64 n5] ∧
  (0 ≤ n3 ∧ n3 < ((Int.toNat 128) : Int)) ∧
  Put (Addr.add ⟨h3.size, 0, none⟩ (Int.toNat n3)) (.int .i64 (IntKind.wrap .i64 (n4))) h6 fun h7 =>
  I1 (IntKind.wrap .i64 (n3 + 1)) h7 ∧ M1 (IntKind.wrap .i64 (n3 + 1)) h7 < M1 n3 h5) else (
  K (.tuple #[.slice sA1 sL1 sC1, .slice (some ⟨h3.size, 0, none⟩) (Int.toNat 128) (Int.toNat 128), .int .i64 0]) h5)))
def bmap_file_numbers.lo : Nat → List Nat × List (Nat × Ty) := fun n => match n with | 9 => ([8, 10, 34], [(35, .int .i64)]) | _ => ([], [])
def bmap_file_numbers.od : Nat → Od := fun n => match n with | _ => .nil
theorem bmap_file_numbers.eq (f1 : Option Addr) (table1 : Int) (K : Value → Heap → Prop) (h : Heap) : fnX (cx bmap_file_numbers.lo bmap_file_numbers.od) Tryz.f86 (Tryz.f86.body.getD .skip) [.pointer f1, .int .i64 table1] K h = bmap_file_numbers f1 table1 K h := by kernel_rfl
theorem bmap_file_numbers.chk : fnOk (cx bmap_file_numbers.lo bmap_file_numbers.od) Tryz.f86 (Tryz.f86.body.getD .skip) 2 = true := by kernel_rfl
theorem bmap_file_numbers.ok {f1 : Option Addr} {table1 : Int} {K : Value → Heap → Prop} {h : Heap} (hx : bmap_file_numbers f1 table1 K h) : C.bmap_file_numbers f1 table1 h K :=
  fn_to (cxOk _ _) Tryz.func86 (by kernel_rfl) bmap_file_numbers.chk (by rw [bmap_file_numbers.eq]; exact hx)

-- 87
def bmap_All_c3 (i1 : Int) (num1 : Int) (cap1 : Option Addr) (K : Value → Heap → Prop) (h1 : Heap) : Prop :=
  onSome cap1 fun p1 =>
  ∃ (v1 : Value), cellOf h1 p1 = some (v1) ∧
  HCallsV Tryz.prog v1 [.int .i64 (IntKind.wrap .i64 (10 + i1)), .int .i64 num1] h1 fun r1 h2 =>
  ∃ (n1 : Int), r1 = .int .i64 n1 ∧
  K (.int .i64 n1) h2
def bmap_All_c3.lo : Nat → List Nat × List (Nat × Ty) := fun n => match n with | _ => ([], [])
def bmap_All_c3.od : Nat → Od := fun n => match n with | _ => .nil
theorem bmap_All_c3.eq (i1 : Int) (num1 : Int) (cap1 : Option Addr) (K : Value → Heap → Prop) (h : Heap) : fnX (cx bmap_All_c3.lo bmap_All_c3.od) Tryz.f87 (Tryz.f87.body.getD .skip) [.int .i64 i1, .int .i64 num1, .pointer cap1] K h = bmap_All_c3 i1 num1 cap1 K h := by kernel_rfl
theorem bmap_All_c3.chk : fnOk (cx bmap_All_c3.lo bmap_All_c3.od) Tryz.f87 (Tryz.f87.body.getD .skip) 3 = true := by kernel_rfl
theorem bmap_All_c3.ok {i1 : Int} {num1 : Int} {cap1 : Option Addr} {K : Value → Heap → Prop} {h : Heap} (hx : bmap_All_c3 i1 num1 cap1 K h) : C.bmap_All_c3 i1 num1 cap1 h K :=
  fn_to (cxOk _ _) Tryz.func87 (by kernel_rfl) bmap_All_c3.chk (by rw [bmap_All_c3.eq]; exact hx)

-- 88
def bmap_All_c4 (i1 : Int) (table1 : Int) (cap1 : Option Addr) (cap2 : Option Addr) (K : Value → Heap → Prop) (h1 : Heap) : Prop :=
  New [.int .i64 i1] 3 h1 fun h2 =>
  onSome cap1 fun p1 =>
  ∃ (v1 : Value), cellOf h2 p1 = some (v1) ∧
  HCallsV Tryz.prog v1 [.int .i64 table1, .func (.func 89) #[] ⟨[.pointer cap2, .pointer (some ⟨h1.size, 0, none⟩)]⟩] h2 fun r1 h3 =>
  ∃ (n1 : Int), r1 = .int .i64 n1 ∧
  K (.int .i64 n1) h3
def bmap_All_c4.lo : Nat → List Nat × List (Nat × Ty) := fun n => match n with | _ => ([], [])
def bmap_All_c4.od : Nat → Od := fun n => match n with | _ => .nil
theorem bmap_All_c4.eq (i1 : Int) (table1 : Int) (cap1 : Option Addr) (cap2 : Option Addr) (K : Value → Heap → Prop) (h : Heap) : fnX (cx bmap_All_c4.lo bmap_All_c4.od) Tryz.f88 (Tryz.f88.body.getD .skip) [.int .i64 i1, .int .i64 table1, .pointer cap1, .pointer cap2] K h = bmap_All_c4 i1 table1 cap1 cap2 K h := by kernel_rfl
theorem bmap_All_c4.chk : fnOk (cx bmap_All_c4.lo bmap_All_c4.od) Tryz.f88 (Tryz.f88.body.getD .skip) 4 = true := by kernel_rfl
theorem bmap_All_c4.ok {i1 : Int} {table1 : Int} {cap1 : Option Addr} {cap2 : Option Addr} {K : Value → Heap → Prop} {h : Heap} (hx : bmap_All_c4 i1 table1 cap1 cap2 K h) : C.bmap_All_c4 i1 table1 cap1 cap2 h K :=
  fn_to (cxOk _ _) Tryz.func88 (by kernel_rfl) bmap_All_c4.chk (by rw [bmap_All_c4.eq]; exact hx)

-- 89
def bmap_All_c4_c1 (j1 : Int) (num1 : Int) (cap1 : Option Addr) (cap2 : Option Addr) (K : Value → Heap → Prop) (h1 : Heap) : Prop :=
  onSome cap1 fun p1 =>
  ∃ (v1 : Value), cellOf h1 p1 = some (v1) ∧
  onSome cap2 fun p2 =>
  ∃ (n1 : Int), cellOf h1 p2 = some (.int .i64 n1) ∧
  HCallsV Tryz.prog v1 [.int .i64 (IntKind.wrap .i64 ((IntKind.wrap .i64 (138 + (IntKind.wrap .i64 (n1 * 128)))) + j1)), .int .i64 num1] h1 fun r1 h2 =>
  ∃ (n2 : Int), r1 = .int .i64 n2 ∧
  K (.int .i64 n2) h2
def bmap_All_c4_c1.lo : Nat → List Nat × List (Nat × Ty) := fun n => match n with | _ => ([], [])
def bmap_All_c4_c1.od : Nat → Od := fun n => match n with | _ => .nil
theorem bmap_All_c4_c1.eq (j1 : Int) (num1 : Int) (cap1 : Option Addr) (cap2 : Option Addr) (K : Value → Heap → Prop) (h : Heap) : fnX (cx bmap_All_c4_c1.lo bmap_All_c4_c1.od) Tryz.f89 (Tryz.f89.body.getD .skip) [.int .i64 j1, .int .i64 num1, .pointer cap1, .pointer cap2] K h = bmap_All_c4_c1 j1 num1 cap1 cap2 K h := by kernel_rfl
theorem bmap_All_c4_c1.chk : fnOk (cx bmap_All_c4_c1.lo bmap_All_c4_c1.od) Tryz.f89 (Tryz.f89.body.getD .skip) 4 = true := by kernel_rfl
theorem bmap_All_c4_c1.ok {j1 : Int} {num1 : Int} {cap1 : Option Addr} {cap2 : Option Addr} {K : Value → Heap → Prop} {h : Heap} (hx : bmap_All_c4_c1 j1 num1 cap1 cap2 K h) : C.bmap_All_c4_c1 j1 num1 cap1 cap2 h K :=
  fn_to (cxOk _ _) Tryz.func89 (by kernel_rfl) bmap_All_c4_c1.chk (by rw [bmap_All_c4_c1.eq]; exact hx)

-- 93
def boleref06_Txn_Written.k1 (t1 : Option Addr) (lA1 : Option Addr) (lL1 : Nat) (lC1 : Nat) (i1 : Int) (h2 : Heap) (I1 : Option Addr → Nat → Nat → Int → Heap → Prop) (M1 : Option Addr → Nat → Nat → Int → Heap → Nat) (h4 : Heap) (K : Value → Heap → Prop) : Prop :=
  C.boleref06_Txn_put t1 i1 h4 fun r2 h5 =>
  ∃ (n2 : Int), r2 = .int .i64 n2 ∧
  bif (decide (n2 ≥ 0)) then (
  New [.int .i64 i1] 3 h5 fun h6 =>
  ∃ new1 : List Value, List.length new1 = 1 * 1 ∧ SlCells h6 (some ⟨h5.size, 0, none⟩) new1 ∧ (∀ v ∈ new1, v.oneCell' = true) ∧
  AppendP ti3 3 lA1 lL1 lC1 1 new1 h6 fun sA2 sL2 sC2 h7 =>
  I1 sA2 sL2 sC2 (IntKind.wrap .i64 (i1 + 1)) h7 ∧ M1 sA2 sL2 sC2 (IntKind.wrap .i64 (i1 + 1)) h7 < M1 lA1 lL1 lC1 i1 h2) else (
  I1 lA1 lL1 lC1 (IntKind.wrap .i64 (i1 + 1)) h5 ∧ M1 lA1 lL1 lC1 (IntKind.wrap .i64 (i1 + 1)) h5 < M1 lA1 lL1 lC1 i1 h2)
def boleref06_Txn_Written (t1 : Option Addr) (K : Value → Heap → Prop) (h1 : Heap) : Prop :=
  ∃ (I1 : Option Addr → Nat → Nat → Int → Heap → Prop) (M1 : Option Addr → Nat → Nat → Int → Heap → Nat), I1 none 0 0 98 h1 ∧
  ∀ (lA1 : Option Addr) (lL1 : Nat) (lC1 : Nat) (i1 : Int), ∀ h2 : Heap, I1 lA1 lL1 lC1 i1 h2 →
  onSome t1 fun p1 =>
  ∃ (q1 : Option Addr), cellOf h2 (Addr.add p1 0) = some (.pointer q1) ∧
  C.boleref03_Disk_Blocks q1 h2 fun r1 h3 =>
  ∃ (n1 : Int), r1 = .int .i64 n1 ∧
  bif (decide (i1 < n1)) then (
  onSome t1 fun p2 =>
  ∃ (b1 : Bool), cellOf h3 (Addr.add p2 2) = some (.bool b1) ∧
  bif (!b1) then (
  onSome t1 fun p3 =>
  ∃ (sA1 : Option Addr) (sL1 : Nat) (sC1 : Nat), cellOf h3 (Addr.add p3 1) = some (.slice sA1 sL1 sC1) ∧
  bif (decide ((sL1 : Int) > 0)) then (
  boleref06_Txn_Written.k1 t1 lA1 lL1 lC1 i1 h2 I1 M1 h3 K) else (
  K (.slice lA1 lL1 lC1) h3)) else (
  K (.slice lA1 lL1 lC1) h3)) else (
  K (.slice lA1 lL1 lC1) h3)
def boleref06_Txn_Written.lo : Nat → List Nat × List (Nat × Ty) := fun n => match n with | 3 => ([0], [(3, .slice), (4, .int .i64)]) | _ => ([], [])
def boleref06_Txn_Written.od : Nat → Od := fun n => match n with | _ => .nil
theorem boleref06_Txn_Written.eq (t1 : Option Addr) (K : Value → Heap → Prop) (h : Heap) : fnX (cx boleref06_Txn_Written.lo boleref06_Txn_Written.od) Tryz.f93 (Tryz.f93.body.getD .skip) [.pointer t1] K h = boleref06_Txn_Written t1 K h := by kernel_rfl
theorem boleref06_Txn_Written.chk : fnOk (cx boleref06_Txn_Written.lo boleref06_Txn_Written.od) Tryz.f93 (Tryz.f93.body.getD .skip) 1 = true := by kernel_rfl
theorem boleref06_Txn_Written.ok {t1 : Option Addr} {K : Value → Heap → Prop} {h : Heap} (hx : boleref06_Txn_Written t1 K h) : C.boleref06_Txn_Written t1 h K :=
  fn_to (cxOk _ _) Tryz.func93 (by kernel_rfl) boleref06_Txn_Written.chk (by rw [boleref06_Txn_Written.eq]; exact hx)

-- 94
def boleref06_Txn_Read.k1 (t1 : Option Addr) (i1 : Int) (h3 : Heap) (K : Value → Heap → Prop) : Prop :=
  C.boleref06_Txn_put t1 i1 h3 fun r2 h4 =>
  ∃ (n2 : Int), r2 = .int .i64 n2 ∧
  bif (decide (n2 ≥ 0)) then (
  onSome t1 fun p3 =>
  ∃ (sA1 : Option Addr) (sL1 : Nat) (sC1 : Nat), cellOf h4 (Addr.add p3 1) = some (.slice sA1 sL1 sC1) ∧
  (0 ≤ n2 ∧ n2 < (sL1 : Int)) ∧
  onSome sA1 fun p4 =>
  ∃ (s1 : ByteArray), cellOf h4 (Addr.add (Addr.add p4 ((Int.toNat n2) * 2)) 1) = some (.string s1) ∧
  NewS s1 5 h4 fun cap1 h5 =>
  K (.tuple #[.slice (some ⟨h4.size, 0, none⟩) s1.size cap1, .int .i64 0]) h5) else (
  onSome t1 fun p5 =>
  ∃ (q2 : Option Addr), cellOf h4 (Addr.add p5 0) = some (.pointer q2) ∧
  C.boleref03_Disk_Read q2 i1 h4 fun r3 h6 =>
  ∃ (sA2 : Option Addr) (sL2 : Nat) (sC2 : Nat) (n3 : Int), r3 = .tuple #[.slice sA2 sL2 sC2, .int .i64 n3] ∧
  K (.tuple #[.slice sA2 sL2 sC2, .int .i64 n3]) h6)
def boleref06_Txn_Read (t1 : Option Addr) (i1 : Int) (K : Value → Heap → Prop) (h1 : Heap) : Prop :=
  onSome t1 fun p1 =>
  ∃ (b1 : Bool), cellOf h1 (Addr.add p1 2) = some (.bool b1) ∧
  bif b1 then (
  K (.tuple #[.slice none 0 0, .int .i64 61]) h1) else (
  bif (decide (i1 < 0)) then (
  K (.tuple #[.slice none 0 0, .int .i64 31]) h1) else (
  onSome t1 fun p2 =>
  ∃ (q1 : Option Addr), cellOf h1 (Addr.add p2 0) = some (.pointer q1) ∧
  C.boleref03_Disk_Blocks q1 h1 fun r1 h2 =>
  ∃ (n1 : Int), r1 = .int .i64 n1 ∧
  bif (decide (i1 ≥ n1)) then (
  K (.tuple #[.slice none 0 0, .int .i64 31]) h2) else (
  boleref06_Txn_Read.k1 t1 i1 h2 K)))
def boleref06_Txn_Read.lo : Nat → List Nat × List (Nat × Ty) := fun n => match n with | _ => ([], [])
def boleref06_Txn_Read.od : Nat → Od := fun n => match n with | _ => .nil
theorem boleref06_Txn_Read.eq (t1 : Option Addr) (i1 : Int) (K : Value → Heap → Prop) (h : Heap) : fnX (cx boleref06_Txn_Read.lo boleref06_Txn_Read.od) Tryz.f94 (Tryz.f94.body.getD .skip) [.pointer t1, .int .i64 i1] K h = boleref06_Txn_Read t1 i1 K h := by kernel_rfl
theorem boleref06_Txn_Read.chk : fnOk (cx boleref06_Txn_Read.lo boleref06_Txn_Read.od) Tryz.f94 (Tryz.f94.body.getD .skip) 2 = true := by kernel_rfl
theorem boleref06_Txn_Read.ok {t1 : Option Addr} {i1 : Int} {K : Value → Heap → Prop} {h : Heap} (hx : boleref06_Txn_Read t1 i1 K h) : C.boleref06_Txn_Read t1 i1 h K :=
  fn_to (cxOk _ _) Tryz.func94 (by kernel_rfl) boleref06_Txn_Read.chk (by rw [boleref06_Txn_Read.eq]; exact hx)

-- 96
def maps_Keys_map_int_byte_int_byte (m1 : Option Nat) (K : Value → Heap → Prop) (h1 : Heap) : Prop :=
  New [.map m1] 137 h1 fun h2 =>
  K (.func (.func 143) #[] ⟨[.pointer (some ⟨h1.size, 0, none⟩)]⟩) h2
def maps_Keys_map_int_byte_int_byte.lo : Nat → List Nat × List (Nat × Ty) := fun n => match n with | _ => ([], [])
def maps_Keys_map_int_byte_int_byte.od : Nat → Od := fun n => match n with | _ => .nil
theorem maps_Keys_map_int_byte_int_byte.eq (m1 : Option Nat) (K : Value → Heap → Prop) (h : Heap) : fnX (cx maps_Keys_map_int_byte_int_byte.lo maps_Keys_map_int_byte_int_byte.od) Tryz.f96 (Tryz.f96.body.getD .skip) [.map m1] K h = maps_Keys_map_int_byte_int_byte m1 K h := by kernel_rfl
theorem maps_Keys_map_int_byte_int_byte.chk : fnOk (cx maps_Keys_map_int_byte_int_byte.lo maps_Keys_map_int_byte_int_byte.od) Tryz.f96 (Tryz.f96.body.getD .skip) 1 = true := by kernel_rfl
theorem maps_Keys_map_int_byte_int_byte.ok {m1 : Option Nat} {K : Value → Heap → Prop} {h : Heap} (hx : maps_Keys_map_int_byte_int_byte m1 K h) : C.maps_Keys_map_int_byte_int_byte m1 h K :=
  fn_to (cxOk _ _) Tryz.func96 (by kernel_rfl) maps_Keys_map_int_byte_int_byte.chk (by rw [maps_Keys_map_int_byte_int_byte.eq]; exact hx)

-- 97
def adisk_Disk_Blocks (d1 : Option Addr) (K : Value → Heap → Prop) (h1 : Heap) : Prop :=
  onSome d1 fun p1 =>
  ∃ (sA1 : Option Addr) (sL1 : Nat) (sC1 : Nat), cellOf h1 (Addr.add p1 0) = some (.slice sA1 sL1 sC1) ∧
  K (.int .i64 (sL1 : Int)) h1
def adisk_Disk_Blocks.lo : Nat → List Nat × List (Nat × Ty) := fun n => match n with | _ => ([], [])
def adisk_Disk_Blocks.od : Nat → Od := fun n => match n with | _ => .nil
theorem adisk_Disk_Blocks.eq (d1 : Option Addr) (K : Value → Heap → Prop) (h : Heap) : fnX (cx adisk_Disk_Blocks.lo adisk_Disk_Blocks.od) Tryz.f97 (Tryz.f97.body.getD .skip) [.pointer d1] K h = adisk_Disk_Blocks d1 K h := by kernel_rfl
theorem adisk_Disk_Blocks.chk : fnOk (cx adisk_Disk_Blocks.lo adisk_Disk_Blocks.od) Tryz.f97 (Tryz.f97.body.getD .skip) 1 = true := by kernel_rfl
theorem adisk_Disk_Blocks.ok {d1 : Option Addr} {K : Value → Heap → Prop} {h : Heap} (hx : adisk_Disk_Blocks d1 K h) : C.adisk_Disk_Blocks d1 h K :=
  fn_to (cxOk _ _) Tryz.func97 (by kernel_rfl) adisk_Disk_Blocks.chk (by rw [adisk_Disk_Blocks.eq]; exact hx)
-- 98
def slices_Clone_byte_byte (sA1 : Option Addr) (sL1 : Nat) (sC1 : Nat) (K : Value → Heap → Prop) (h1 : Heap) : Prop :=
  bif (Option.isNone sA1) then (
  K (.slice none 0 0) h1) else (
  New [] 5 h1 fun h2 =>
  ∃ new1 : List Value, List.length new1 = sL1 * 1 ∧ SlCells h2 sA1 new1 ∧ (∀ v ∈ new1, v.oneCell' = true) ∧
  AppendP ti5 5 (some ⟨h1.size, 0, none⟩) 0 0 sL1 new1 h2 fun sA2 sL2 sC2 h3 =>
  K (.slice sA2 sL2 sC2) h3)
def slices_Clone_byte_byte.lo : Nat → List Nat × List (Nat × Ty) := fun n => match n with | _ => ([], [])
def slices_Clone_byte_byte.od : Nat → Od := fun n => match n with | _ => .nil
theorem slices_Clone_byte_byte.eq (sA1 : Option Addr) (sL1 : Nat) (sC1 : Nat) (K : Value → Heap → Prop) (h : Heap) : fnX (cx slices_Clone_byte_byte.lo slices_Clone_byte_byte.od) Tryz.f98 (Tryz.f98.body.getD .skip) [.slice sA1 sL1 sC1] K h = slices_Clone_byte_byte sA1 sL1 sC1 K h := by kernel_rfl
theorem slices_Clone_byte_byte.chk : fnOk (cx slices_Clone_byte_byte.lo slices_Clone_byte_byte.od) Tryz.f98 (Tryz.f98.body.getD .skip) 1 = true := by kernel_rfl
theorem slices_Clone_byte_byte.ok {sA1 : Option Addr} {sL1 : Nat} {sC1 : Nat} {K : Value → Heap → Prop} {h : Heap} (hx : slices_Clone_byte_byte sA1 sL1 sC1 K h) : C.slices_Clone_byte_byte sA1 sL1 sC1 h K :=
  fn_to (cxOk _ _) Tryz.func98 (by kernel_rfl) slices_Clone_byte_byte.chk (by rw [slices_Clone_byte_byte.eq]; exact hx)

-- 99
def adisk_Disk_Read (d1 : Option Addr) (i1 : Int) (K : Value → Heap → Prop) (h1 : Heap) : Prop :=
  onSome d1 fun p1 =>
  ∃ (b1 : Bool), cellOf h1 (Addr.add p1 4) = some (.bool b1) ∧
  bif b1 then (
  K (.tuple #[.slice none 0 0, .int .i64 30]) h1) else (
  C.adisk_Disk_has d1 i1 h1 fun r1 h2 =>
  ∃ (b2 : Bool), r1 = .bool b2 ∧
  bif (!b2) then (
  K (.tuple #[.slice none 0 0, .int .i64 31]) h2) else (
  onSome d1 fun p2 =>
  ∃ (sA1 : Option Addr) (sL1 : Nat) (sC1 : Nat), cellOf h2 (Addr.add p2 0) = some (.slice sA1 sL1 sC1) ∧
  (0 ≤ i1 ∧ i1 < (sL1 : Int)) ∧
  onSome sA1 fun p3 =>
  ∃ cs1 : List Value, List.length cs1 = 512 ∧ Cells h2 (Addr.add p3 ((Int.toNat i1) * 512)) cs1 ∧
  NewRow z194 194 cs1 512 h2 fun h4 =>
  onSome d1 fun p4 =>
  ∃ (sA2 : Option Addr) (sL2 : Nat) (sC2 : Nat), cellOf h4 (Addr.add p4 1) = some (.slice sA2 sL2 sC2) ∧
  ∃ (I1 : Int → Heap → Prop) (M1 : Int → Heap → Nat), I1 0 h4 ∧
  ∀ (n1 : Int), ∀ h5 : Heap, I1 n1 h5 →
  bif (decide (n1 < (sL2 : Int))) then (
  (0 ≤ n1 ∧ n1 < (sL2 : Int)) ∧
  onSome sA2 fun p5 =>
  ∃ cs2 : List Value, List.length cs2 = 513 ∧ Cells h5 (Addr.add p5 ((Int.toNat n1) * 513)) cs2 ∧
  NewRow z230 230 cs2 513 h5 fun h7 =>
  ∃ (n2 : Int), cellOf h7 (Addr.add ⟨h5.size, 0, none⟩ 0) = some (.int .i64 n2) ∧
  bif (n2 == i1) then (
  ∃ cs3 : List Value, List.length cs3 = 512 ∧ Cells h7 (Addr.add ⟨h5.size, 0, none⟩ 1) cs3 ∧
  PutRow ⟨h2.size, 0, none⟩ cs3 512 h7 fun h8 =>
  I1 (IntKind.wrap .i64 (n1 + 1)) h8 ∧ M1 (IntKind.wrap .i64 (n1 + 1)) h8 < M1 n1 h5) else (
  I1 (IntKind.wrap .i64 (n1 + 1)) h7 ∧ M1 (IntKind.wrap .i64 (n1 + 1)) h7 < M1 n1 h5)) else (
  K (.tuple #[.slice (some ⟨h2.size, 0, none⟩) 512 512, .int .i64 0]) h5)))
def adisk_Disk_Read.lo : Nat → List Nat × List (Nat × Ty) := fun n => match n with | 7 => ([1, 6, 29, 30], [(31, .int .i64)]) | _ => ([], [])
def adisk_Disk_Read.od : Nat → Od := fun n => match n with | _ => .nil
theorem adisk_Disk_Read.eq (d1 : Option Addr) (i1 : Int) (K : Value → Heap → Prop) (h : Heap) : fnX (cx adisk_Disk_Read.lo adisk_Disk_Read.od) Tryz.f99 (Tryz.f99.body.getD .skip) [.pointer d1, .int .i64 i1] K h = adisk_Disk_Read d1 i1 K h := by kernel_rfl
theorem adisk_Disk_Read.chk : fnOk (cx adisk_Disk_Read.lo adisk_Disk_Read.od) Tryz.f99 (Tryz.f99.body.getD .skip) 2 = true := by kernel_rfl
theorem adisk_Disk_Read.ok {d1 : Option Addr} {i1 : Int} {K : Value → Heap → Prop} {h : Heap} (hx : adisk_Disk_Read d1 i1 K h) : C.adisk_Disk_Read d1 i1 h K :=
  fn_to (cxOk _ _) Tryz.func99 (by kernel_rfl) adisk_Disk_Read.chk (by rw [adisk_Disk_Read.eq]; exact hx)

-- 100
def space_bit (t1 : Option Addr) (g1 : List Value) (i1 : Int) (K : Value → Heap → Prop) (h1 : Heap) : Prop :=
  New g1 25 h1 fun h2 =>
  ∃ cs1 : List Value, List.length cs1 = 5 ∧ Cells h2 ⟨h1.size, 0, none⟩ cs1 ∧
  C.geo_Bit cs1 i1 h2 fun r1 h3 =>
  ∃ (n1 : Int) (n2 : Int) (n3 : Int), r1 = .tuple #[.int .i64 n1, .int .i64 n2, .int .i64 n3] ∧
  bif (n3 != 0) then (
  K (.tuple #[.int .i64 0, .slice none 0 0, .int .i64 0, .int .i64 n3]) h3) else (
  C.txn_Txn_Read t1 n1 h3 fun r2 h4 =>
  ∃ (sA1 : Option Addr) (sL1 : Nat) (sC1 : Nat) (n4 : Int), r2 = .tuple #[.slice sA1 sL1 sC1, .int .i64 n4] ∧
  K (.tuple #[.int .i64 n1, .slice sA1 sL1 sC1, .int .i64 n2, .int .i64 n4]) h4)
def space_bit.lo : Nat → List Nat × List (Nat × Ty) := fun n => match n with | _ => ([], [])
def space_bit.od : Nat → Od := fun n => match n with | _ => .nil
theorem space_bit.eq (t1 : Option Addr) (g1 : List Value) (i1 : Int) (K : Value → Heap → Prop) (h : Heap) : fnX (cx space_bit.lo space_bit.od) Tryz.f100 (Tryz.f100.body.getD .skip) [.pointer t1, .agg ⟨g1⟩, .int .i64 i1] K h = space_bit t1 g1 i1 K h := by kernel_rfl
theorem space_bit.chk : fnOk (cx space_bit.lo space_bit.od) Tryz.f100 (Tryz.f100.body.getD .skip) 3 = true := by kernel_rfl
theorem space_bit.ok {t1 : Option Addr} {g1 : List Value} {i1 : Int} {K : Value → Heap → Prop} {h : Heap} (hx : space_bit t1 g1 i1 K h) : C.space_bit t1 g1 i1 h K :=
  fn_to (cxOk _ _) Tryz.func100 (by kernel_rfl) space_bit.chk (by rw [space_bit.eq]; exact hx)

-- 101
def bits_Get (bA1 : Option Addr) (bL1 : Nat) (bC1 : Nat) (i1 : Int) (K : Value → Heap → Prop) (h1 : Heap) : Prop :=
  C.bits_has bA1 bL1 bC1 i1 h1 fun r1 h2 =>
  ∃ (b1 : Bool), r1 = .bool b1 ∧
  bif (!b1) then (
  K (.tuple #[.bool false, .int .i64 80]) h2) else (
  C.bits_on bA1 bL1 bC1 i1 h2 fun r2 h3 =>
  ∃ (b2 : Bool), r2 = .bool b2 ∧
  K (.tuple #[.bool b2, .int .i64 0]) h3)
def bits_Get.lo : Nat → List Nat × List (Nat × Ty) := fun n => match n with | _ => ([], [])
def bits_Get.od : Nat → Od := fun n => match n with | _ => .nil
theorem bits_Get.eq (bA1 : Option Addr) (bL1 : Nat) (bC1 : Nat) (i1 : Int) (K : Value → Heap → Prop) (h : Heap) : fnX (cx bits_Get.lo bits_Get.od) Tryz.f101 (Tryz.f101.body.getD .skip) [.slice bA1 bL1 bC1, .int .i64 i1] K h = bits_Get bA1 bL1 bC1 i1 K h := by kernel_rfl
theorem bits_Get.chk : fnOk (cx bits_Get.lo bits_Get.od) Tryz.f101 (Tryz.f101.body.getD .skip) 2 = true := by kernel_rfl
theorem bits_Get.ok {bA1 : Option Addr} {bL1 : Nat} {bC1 : Nat} {i1 : Int} {K : Value → Heap → Prop} {h : Heap} (hx : bits_Get bA1 bL1 bC1 i1 K h) : C.bits_Get bA1 bL1 bC1 i1 h K :=
  fn_to (cxOk _ _) Tryz.func101 (by kernel_rfl) bits_Get.chk (by rw [bits_Get.eq]; exact hx)

-- 105
def adisk_New (n1 : Int) (K : Value → Heap → Prop) (h1 : Heap) : Prop :=
  bif (decide (n1 < 1)) then (
  K (.tuple #[.pointer none, .int .i64 32]) h1) else (
  bif (decide (n1 > 16384)) then (
  K (.tuple #[.pointer none, .int .i64 32]) h1) else (
  (0 ≤ n1 ∧ n1 ≤ n1 ∧ (512 : Int) * n1 ≤ 281474976710656 ∧ n1 ≤ 281474976710656) ∧
  New (repCells z194 (Int.toNat n1)) 194 h1 fun h2 =>
  New [.slice (some ⟨h1.size, 0, none⟩) (Int.toNat n1) (Int.toNat n1), .slice none 0 0, .int .i64 0, .slice none 0 0, .bool false, .int .i64 0, .int .i64 0, .slice none 0 0] 192 h2 fun h3 =>
  K (.tuple #[.pointer (some ⟨h2.size, 0, none⟩), .int .i64 0]) h3))
def adisk_New.lo : Nat → List Nat × List (Nat × Ty) := fun n => match n with | _ => ([], [])
def adisk_New.od : Nat → Od := fun n => match n with | _ => .nil
set_option maxRecDepth 1000000 in
theorem adisk_New.eq (n1 : Int) (K : Value → Heap → Prop) (h : Heap) : fnX (cx adisk_New.lo adisk_New.od) Tryz.f105 (Tryz.f105.body.getD .skip) [.int .i64 n1] K h = adisk_New n1 K h := by kernel_rfl
theorem adisk_New.chk : fnOk (cx adisk_New.lo adisk_New.od) Tryz.f105 (Tryz.f105.body.getD .skip) 1 = true := by kernel_rfl
set_option maxRecDepth 1000000 in
theorem adisk_New.ok {n1 : Int} {K : Value → Heap → Prop} {h : Heap} (hx : adisk_New n1 K h) : C.adisk_New n1 h K :=
  fn_to (cxOk _ _) Tryz.func105 (by kernel_rfl) adisk_New.chk (by rw [adisk_New.eq]; exact hx)

-- 107
def bits_Runs (bA1 : Option Addr) (bL1 : Nat) (bC1 : Nat) (K : Value → Heap → Prop) (h1 : Heap) : Prop :=
  New [] 5 h1 fun h2 =>
  ∃ new1 : List Value, List.length new1 = bL1 * 1 ∧ SlCells h2 bA1 new1 ∧ (∀ v ∈ new1, v.oneCell' = true) ∧
  AppendP ti5 5 (some ⟨h1.size, 0, none⟩) 0 0 bL1 new1 h2 fun sA1 sL1 sC1 h3 =>
  New z33 33 h3 fun h4 =>
  Put ⟨h3.size, 0, none⟩ (.slice sA1 sL1 sC1) h4 fun h5 =>
  K (.func (.func 150) #[] ⟨[.pointer (some ⟨h3.size, 0, none⟩)]⟩) h5
def bits_Runs.lo : Nat → List Nat × List (Nat × Ty) := fun n => match n with | _ => ([], [])
def bits_Runs.od : Nat → Od := fun n => match n with | _ => .nil
theorem bits_Runs.eq (bA1 : Option Addr) (bL1 : Nat) (bC1 : Nat) (K : Value → Heap → Prop) (h : Heap) : fnX (cx bits_Runs.lo bits_Runs.od) Tryz.f107 (Tryz.f107.body.getD .skip) [.slice bA1 bL1 bC1] K h = bits_Runs bA1 bL1 bC1 K h := by kernel_rfl
theorem bits_Runs.chk : fnOk (cx bits_Runs.lo bits_Runs.od) Tryz.f107 (Tryz.f107.body.getD .skip) 1 = true := by kernel_rfl
theorem bits_Runs.ok {bA1 : Option Addr} {bL1 : Nat} {bC1 : Nat} {K : Value → Heap → Prop} {h : Heap} (hx : bits_Runs bA1 bL1 bC1 K h) : C.bits_Runs bA1 bL1 bC1 h K :=
  fn_to (cxOk _ _) Tryz.func107 (by kernel_rfl) bits_Runs.chk (by rw [bits_Runs.eq]; exact hx)

-- 111
def txn_Txn_Write_c1 (cap1 : Option Addr) (cap2 : Option Addr) (cap3 : Option Addr) (cap4 : Option Addr) (K : Value → Heap → Prop) (h1 : Heap) : Prop :=
  onSome cap1 fun p1 =>
  ∃ (b1 : Bool), cellOf h1 p1 = some (.bool b1) ∧
  bif b1 then (
  onSome cap3 fun p2 =>
  ∃ (q1 : Option Addr), cellOf h1 p2 = some (.pointer q1) ∧
  onSome q1 fun p3 =>
  ∃ (m1 : Option Nat), cellOf h1 (Addr.add p3 1) = some (.map m1) ∧
  onSome cap4 fun p4 =>
  ∃ (n1 : Int), cellOf h1 p4 = some (.int .i64 n1) ∧
  onSome cap2 fun p5 =>
  ∃ (sA1 : Option Addr) (sL1 : Nat) (sC1 : Nat), cellOf h1 p5 = some (.slice sA1 sL1 sC1) ∧
  onSome m1 fun r1 =>
  MapPut (.int .i64) r1 (.i n1) (.slice sA1 sL1 sC1) h1 fun h2 =>
  K (.tuple #[]) h2) else (
  onSome cap3 fun p6 =>
  ∃ (q2 : Option Addr), cellOf h1 p6 = some (.pointer q2) ∧
  onSome q2 fun p7 =>
  ∃ (m2 : Option Nat), cellOf h1 (Addr.add p7 1) = some (.map m2) ∧
  onSome cap4 fun p8 =>
  ∃ (n2 : Int), cellOf h1 p8 = some (.int .i64 n2) ∧
  MapDel (.int .i64) m2 (.i n2) h1 fun h3 =>
  K (.tuple #[]) h3)
def txn_Txn_Write_c1.lo : Nat → List Nat × List (Nat × Ty) := fun n => match n with | _ => ([], [])
def txn_Txn_Write_c1.od : Nat → Od := fun n => match n with | 1 => (.op 0 [] (.op 1 [] (.op 2 [] (.op 3 [] (.op 4 [] (.op 5 [] (.op 6 [] .nil))))))) | 2 => (.op 0 [] (.op 1 [] (.op 2 [] (.op 3 [] (.op 4 [] (.op 5 [] .nil)))))) | _ => .nil
theorem txn_Txn_Write_c1.eq (cap1 : Option Addr) (cap2 : Option Addr) (cap3 : Option Addr) (cap4 : Option Addr) (K : Value → Heap → Prop) (h : Heap) : fnX (cx txn_Txn_Write_c1.lo txn_Txn_Write_c1.od) Tryz.f111 (Tryz.f111.body.getD .skip) [.pointer cap1, .pointer cap2, .pointer cap3, .pointer cap4] K h = txn_Txn_Write_c1 cap1 cap2 cap3 cap4 K h := by kernel_rfl
theorem txn_Txn_Write_c1.chk : fnOk (cx txn_Txn_Write_c1.lo txn_Txn_Write_c1.od) Tryz.f111 (Tryz.f111.body.getD .skip) 4 = true := by kernel_rfl
theorem txn_Txn_Write_c1.ok {cap1 : Option Addr} {cap2 : Option Addr} {cap3 : Option Addr} {cap4 : Option Addr} {K : Value → Heap → Prop} {h : Heap} (hx : txn_Txn_Write_c1 cap1 cap2 cap3 cap4 K h) : C.txn_Txn_Write_c1 cap1 cap2 cap3 cap4 h K :=
  fn_to (cxOk _ _) Tryz.func111 (by kernel_rfl) txn_Txn_Write_c1.chk (by rw [txn_Txn_Write_c1.eq]; exact hx)

-- 116
def bolelaw10_Setup_blocks (s1 : List Value) (K : Value → Heap → Prop) (h1 : Heap) : Prop :=
  New s1 41 h1 fun h2 =>
  ∃ (n1 : Int), cellOf h2 (Addr.add ⟨h1.size, 0, none⟩ 0) = some (.int .i64 n1) ∧
  K (.int .i64 (IntKind.wrap .i64 (128 + (IntKind.wrap .i64 ((Int.tmod (IntKind.wrap .u64 (n1)) 4300)))))) h2
def bolelaw10_Setup_blocks.lo : Nat → List Nat × List (Nat × Ty) := fun n => match n with | _ => ([], [])
def bolelaw10_Setup_blocks.od : Nat → Od := fun n => match n with | _ => .nil
theorem bolelaw10_Setup_blocks.eq (s1 : List Value) (K : Value → Heap → Prop) (h : Heap) : fnX (cx bolelaw10_Setup_blocks.lo bolelaw10_Setup_blocks.od) Tryz.f116 (Tryz.f116.body.getD .skip) [.agg ⟨s1⟩] K h = bolelaw10_Setup_blocks s1 K h := by kernel_rfl
theorem bolelaw10_Setup_blocks.chk : fnOk (cx bolelaw10_Setup_blocks.lo bolelaw10_Setup_blocks.od) Tryz.f116 (Tryz.f116.body.getD .skip) 1 = true := by kernel_rfl
theorem bolelaw10_Setup_blocks.ok {s1 : List Value} {K : Value → Heap → Prop} {h : Heap} (hx : bolelaw10_Setup_blocks s1 K h) : C.bolelaw10_Setup_blocks s1 h K :=
  fn_to (cxOk _ _) Tryz.func116 (by kernel_rfl) bolelaw10_Setup_blocks.chk (by rw [bolelaw10_Setup_blocks.eq]; exact hx)

-- 117
def boleref03_copied (bA1 : Option Addr) (bL1 : Nat) (bC1 : Nat) (K : Value → Heap → Prop) (h1 : Heap) : Prop :=
  ∃ new1 : List Value, List.length new1 = bL1 * 1 ∧ SlCells h1 bA1 new1 ∧ (∀ v ∈ new1, v.oneCell' = true) ∧
  AppendP ti5 5 none 0 0 bL1 new1 h1 fun sA1 sL1 sC1 h2 =>
  K (.slice sA1 sL1 sC1) h2
def boleref03_copied.lo : Nat → List Nat × List (Nat × Ty) := fun n => match n with | _ => ([], [])
def boleref03_copied.od : Nat → Od := fun n => match n with | _ => .nil
theorem boleref03_copied.eq (bA1 : Option Addr) (bL1 : Nat) (bC1 : Nat) (K : Value → Heap → Prop) (h : Heap) : fnX (cx boleref03_copied.lo boleref03_copied.od) Tryz.f117 (Tryz.f117.body.getD .skip) [.slice bA1 bL1 bC1] K h = boleref03_copied bA1 bL1 bC1 K h := by kernel_rfl
theorem boleref03_copied.chk : fnOk (cx boleref03_copied.lo boleref03_copied.od) Tryz.f117 (Tryz.f117.body.getD .skip) 1 = true := by kernel_rfl
theorem boleref03_copied.ok {bA1 : Option Addr} {bL1 : Nat} {bC1 : Nat} {K : Value → Heap → Prop} {h : Heap} (hx : boleref03_copied bA1 bL1 bC1 K h) : C.boleref03_copied bA1 bL1 bC1 h K :=
  fn_to (cxOk _ _) Tryz.func117 (by kernel_rfl) boleref03_copied.chk (by rw [boleref03_copied.eq]; exact hx)

-- 118
def bmap_way (k1 : Int) (K : Value → Heap → Prop) (h1 : Heap) : Prop :=
  bif (decide (k1 < 10)) then (
  List.length ([.int .i64 0, .int .i64 k1] : List Value) = 2 ∧
  New [.int .i64 0, .int .i64 k1] 149 h1 fun h2 =>
  K (.slice (some ⟨h1.size, 0, none⟩) 1 1) h2) else (
  bif (decide (k1 < 138)) then (
  List.length ([.int .i64 1, .int .i64 0] : List Value) = 2 ∧
  List.length ([.int .i64 3, .int .i64 (IntKind.wrap .i64 (k1 - 10))] : List Value) = 2 ∧
  New [.int .i64 1, .int .i64 0, .int .i64 3, .int .i64 (IntKind.wrap .i64 (k1 - 10))] 149 h1 fun h3 =>
  K (.slice (some ⟨h1.size, 0, none⟩) 2 2) h3) else (
  List.length ([.int .i64 2, .int .i64 0] : List Value) = 2 ∧
  List.length ([.int .i64 3, .int .i64 (IntKind.wrap .i64 (Int.tdiv (IntKind.wrap .i64 (k1 - 138)) 128))] : List Value) = 2 ∧
  List.length ([.int .i64 3, .int .i64 (Int.tmod (IntKind.wrap .i64 (k1 - 138)) 128)] : List Value) = 2 ∧
  New [.int .i64 2, .int .i64 0, .int .i64 3, .int .i64 (IntKind.wrap .i64 (Int.tdiv (IntKind.wrap .i64 (k1 - 138)) 128)), .int .i64 3, .int .i64 (Int.tmod (IntKind.wrap .i64 (k1 - 138)) 128)] 149 h1 fun h4 =>
  K (.slice (some ⟨h1.size, 0, none⟩) 3 3) h4))
def bmap_way.lo : Nat → List Nat × List (Nat × Ty) := fun n => match n with | _ => ([], [])
def bmap_way.od : Nat → Od := fun n => match n with | _ => .nil
theorem bmap_way.eq (k1 : Int) (K : Value → Heap → Prop) (h : Heap) : fnX (cx bmap_way.lo bmap_way.od) Tryz.f118 (Tryz.f118.body.getD .skip) [.int .i64 k1] K h = bmap_way k1 K h := by kernel_rfl
theorem bmap_way.chk : fnOk (cx bmap_way.lo bmap_way.od) Tryz.f118 (Tryz.f118.body.getD .skip) 1 = true := by kernel_rfl
theorem bmap_way.ok {k1 : Int} {K : Value → Heap → Prop} {h : Heap} (hx : bmap_way k1 K h) : C.bmap_way k1 h K :=
  fn_to (cxOk _ _) Tryz.func118 (by kernel_rfl) bmap_way.chk (by rw [bmap_way.eq]; exact hx)

-- 119
def bmap_file_number (f1 : Option Addr) (s1 : List Value) (at1 : Int) (K : Value → Heap → Prop) (h1 : Heap) : Prop :=
  New s1 149 h1 fun h2 =>
  ∃ (n1 : Int), cellOf h2 (Addr.add ⟨h1.size, 0, none⟩ 0) = some (.int .i64 n1) ∧
  bif (n1 != 3) then (
  ∃ cs1 : List Value, List.length cs1 = 2 ∧ Cells h2 ⟨h1.size, 0, none⟩ cs1 ∧
  C.bmap_file_own f1 cs1 h2 fun r1 h3 =>
  ∃ (q1 : Option Addr), r1 = .pointer q1 ∧
  onSome q1 fun p1 =>
  ∃ (n2 : Int), cellOf h3 p1 = some (.int .i64 n2) ∧
  K (.tuple #[.int .i64 n2, .slice none 0 0, .int .i64 0]) h3) else (
  onSome f1 fun p2 =>
  ∃ (q2 : Option Addr), cellOf h2 (Addr.add p2 0) = some (.pointer q2) ∧
  C.txn_Txn_Read q2 at1 h2 fun r2 h4 =>
  ∃ (sA1 : Option Addr) (sL1 : Nat) (sC1 : Nat) (n3 : Int), r2 = .tuple #[.slice sA1 sL1 sC1, .int .i64 n3] ∧
  bif (n3 != 0) then (
  K (.tuple #[.int .i64 0, .slice none 0 0, .int .i64 n3]) h4) else (
  ∃ (n4 : Int), cellOf h4 (Addr.add ⟨h1.size, 0, none⟩ 1) = some (.int .i64 n4) ∧
  C.rec_Get sA1 sL1 sC1 (IntKind.wrap .i64 (4 * n4)) 4 h4 fun r3 h5 =>
  ∃ (n5 : Int) (n6 : Int), r3 = .tuple #[.int .u64 n5, .int .i64 n6] ∧
  K (.tuple #[.int .i64 (IntKind.wrap .i64 (n5)), .slice sA1 sL1 sC1, .int .i64 0]) h5))
def bmap_file_number.lo : Nat → List Nat × List (Nat × Ty) := fun n => match n with | _ => ([], [])
def bmap_file_number.od : Nat → Od := fun n => match n with | _ => .nil
theorem bmap_file_number.eq (f1 : Option Addr) (s1 : List Value) (at1 : Int) (K : Value → Heap → Prop) (h : Heap) : fnX (cx bmap_file_number.lo bmap_file_number.od) Tryz.f119 (Tryz.f119.body.getD .skip) [.pointer f1, .agg ⟨s1⟩, .int .i64 at1] K h = bmap_file_number f1 s1 at1 K h := by kernel_rfl
theorem bmap_file_number.chk : fnOk (cx bmap_file_number.lo bmap_file_number.od) Tryz.f119 (Tryz.f119.body.getD .skip) 3 = true := by kernel_rfl
theorem bmap_file_number.ok {f1 : Option Addr} {s1 : List Value} {at1 : Int} {K : Value → Heap → Prop} {h : Heap} (hx : bmap_file_number f1 s1 at1 K h) : C.bmap_file_number f1 s1 at1 h K :=
  fn_to (cxOk _ _) Tryz.func119 (by kernel_rfl) bmap_file_number.chk (by rw [bmap_file_number.eq]; exact hx)

-- 121
def bmap_guard_c1 (e1 : Int) (cap1 : Option Addr) (cap2 : Option Addr) (cap3 : Option Addr) (K : Value → Heap → Prop) (h1 : Heap) : Prop :=
  bif (e1 != 0) then (
  onSome cap1 fun p1 =>
  ∃ (n1 : Int), cellOf h1 p1 = some (.int .i64 n1) ∧
  bif (n1 == 0) then (
  onSome cap2 fun p2 =>
  ∃ (q1 : Option Addr), cellOf h1 p2 = some (.pointer q1) ∧
  onSome cap3 fun p3 =>
  ∃ (n2 : Int), cellOf h1 p3 = some (.int .i64 n2) ∧
  C.txn_Txn_Back q1 n2 h1 fun r1 h2 =>
  ∃ (n3 : Int), r1 = .int .i64 n3 ∧
  K (.tuple #[]) h2) else (
  K (.tuple #[]) h1)) else (
  K (.tuple #[]) h1)
def bmap_guard_c1.lo : Nat → List Nat × List (Nat × Ty) := fun n => match n with | _ => ([], [])
def bmap_guard_c1.od : Nat → Od := fun n => match n with | _ => .nil
theorem bmap_guard_c1.eq (e1 : Int) (cap1 : Option Addr) (cap2 : Option Addr) (cap3 : Option Addr) (K : Value → Heap → Prop) (h : Heap) : fnX (cx bmap_guard_c1.lo bmap_guard_c1.od) Tryz.f121 (Tryz.f121.body.getD .skip) [.int .i64 e1, .pointer cap1, .pointer cap2, .pointer cap3] K h = bmap_guard_c1 e1 cap1 cap2 cap3 K h := by kernel_rfl
theorem bmap_guard_c1.chk : fnOk (cx bmap_guard_c1.lo bmap_guard_c1.od) Tryz.f121 (Tryz.f121.body.getD .skip) 4 = true := by kernel_rfl
theorem bmap_guard_c1.ok {e1 : Int} {cap1 : Option Addr} {cap2 : Option Addr} {cap3 : Option Addr} {K : Value → Heap → Prop} {h : Heap} (hx : bmap_guard_c1 e1 cap1 cap2 cap3 K h) : C.bmap_guard_c1 e1 cap1 cap2 cap3 h K :=
  fn_to (cxOk _ _) Tryz.func121 (by kernel_rfl) bmap_guard_c1.chk (by rw [bmap_guard_c1.eq]; exact hx)

-- 122
def space_Take_c1 (first1 : Int) (bA1 : Option Addr) (bL1 : Nat) (bC1 : Nat) (cap1 : Option Addr) (cap2 : Option Addr) (K : Value → Heap → Prop) (h1 : Heap) : Prop :=
  onSome cap1 fun p1 =>
  ∃ cs1 : List Value, List.length cs1 = 5 ∧ Cells h1 p1 cs1 ∧
  C.space_rows cs1 first1 bA1 bL1 bC1 (Value.func (.func 123) #[] ⟨[.pointer cap2]⟩) h1 fun r1 h2 =>
  r1 = .tuple #[] ∧
  onSome cap2 fun p2 =>
  ∃ (n1 : Int), cellOf h2 p2 = some (.int .i64 n1) ∧
  K (.bool (n1 == 0)) h2
def space_Take_c1.lo : Nat → List Nat × List (Nat × Ty) := fun n => match n with | _ => ([], [])
def space_Take_c1.od : Nat → Od := fun n => match n with | _ => .nil
theorem space_Take_c1.eq (first1 : Int) (bA1 : Option Addr) (bL1 : Nat) (bC1 : Nat) (cap1 : Option Addr) (cap2 : Option Addr) (K : Value → Heap → Prop) (h : Heap) : fnX (cx space_Take_c1.lo space_Take_c1.od) Tryz.f122 (Tryz.f122.body.getD .skip) [.int .i64 first1, .slice bA1 bL1 bC1, .pointer cap1, .pointer cap2] K h = space_Take_c1 first1 bA1 bL1 bC1 cap1 cap2 K h := by kernel_rfl
theorem space_Take_c1.chk : fnOk (cx space_Take_c1.lo space_Take_c1.od) Tryz.f122 (Tryz.f122.body.getD .skip) 4 = true := by kernel_rfl
theorem space_Take_c1.ok {first1 : Int} {bA1 : Option Addr} {bL1 : Nat} {bC1 : Nat} {cap1 : Option Addr} {cap2 : Option Addr} {K : Value → Heap → Prop} {h : Heap} (hx : space_Take_c1 first1 bA1 bL1 bC1 cap1 cap2 K h) : C.space_Take_c1 first1 bA1 bL1 bC1 cap1 cap2 h K :=
  fn_to (cxOk _ _) Tryz.func122 (by kernel_rfl) space_Take_c1.chk (by rw [space_Take_c1.eq]; exact hx)

-- 123
def space_Take_c1_c1 (from1 : Int) (x1 : Int) (cap1 : Option Addr) (K : Value → Heap → Prop) (h1 : Heap) : Prop :=
  onSome cap1 fun p1 =>
  Put p1 (.int .i64 from1) h1 fun h2 =>
  K (.bool false) h2
def space_Take_c1_c1.lo : Nat → List Nat × List (Nat × Ty) := fun n => match n with | _ => ([], [])
def space_Take_c1_c1.od : Nat → Od := fun n => match n with | _ => .nil
theorem space_Take_c1_c1.eq (from1 : Int) (x1 : Int) (cap1 : Option Addr) (K : Value → Heap → Prop) (h : Heap) : fnX (cx space_Take_c1_c1.lo space_Take_c1_c1.od) Tryz.f123 (Tryz.f123.body.getD .skip) [.int .i64 from1, .int .i64 x1, .pointer cap1] K h = space_Take_c1_c1 from1 x1 cap1 K h := by kernel_rfl
theorem space_Take_c1_c1.chk : fnOk (cx space_Take_c1_c1.lo space_Take_c1_c1.od) Tryz.f123 (Tryz.f123.body.getD .skip) 3 = true := by kernel_rfl
theorem space_Take_c1_c1.ok {from1 : Int} {x1 : Int} {cap1 : Option Addr} {K : Value → Heap → Prop} {h : Heap} (hx : space_Take_c1_c1 from1 x1 cap1 K h) : C.space_Take_c1_c1 from1 x1 cap1 h K :=
  fn_to (cxOk _ _) Tryz.func123 (by kernel_rfl) space_Take_c1_c1.chk (by rw [space_Take_c1_c1.eq]; exact hx)

-- 124
def space_Take_c2 (cap1 : Option Addr) (cap2 : Option Addr) (cap3 : Option Addr) (K : Value → Heap → Prop) (h1 : Heap) : Prop :=
  onSome cap1 fun p1 =>
  ∃ (q1 : Option Addr), cellOf h1 p1 = some (.pointer q1) ∧
  onSome cap2 fun p2 =>
  ∃ (n1 : Int), cellOf h1 p2 = some (.int .i64 n1) ∧
  C.space_back q1 n1 cap3 h1 fun r1 h2 =>
  r1 = .tuple #[] ∧
  K (.tuple #[]) h2
def space_Take_c2.lo : Nat → List Nat × List (Nat × Ty) := fun n => match n with | _ => ([], [])
def space_Take_c2.od : Nat → Od := fun n => match n with | _ => .nil
theorem space_Take_c2.eq (cap1 : Option Addr) (cap2 : Option Addr) (cap3 : Option Addr) (K : Value → Heap → Prop) (h : Heap) : fnX (cx space_Take_c2.lo space_Take_c2.od) Tryz.f124 (Tryz.f124.body.getD .skip) [.pointer cap1, .pointer cap2, .pointer cap3] K h = space_Take_c2 cap1 cap2 cap3 K h := by kernel_rfl
theorem space_Take_c2.chk : fnOk (cx space_Take_c2.lo space_Take_c2.od) Tryz.f124 (Tryz.f124.body.getD .skip) 3 = true := by kernel_rfl
theorem space_Take_c2.ok {cap1 : Option Addr} {cap2 : Option Addr} {cap3 : Option Addr} {K : Value → Heap → Prop} {h : Heap} (hx : space_Take_c2 cap1 cap2 cap3 K h) : C.space_Take_c2 cap1 cap2 cap3 h K :=
  fn_to (cxOk _ _) Tryz.func124 (by kernel_rfl) space_Take_c2.chk (by rw [space_Take_c2.eq]; exact hx)
theorem space_Take_c2.chkD : fnOkD (cx space_Take_c2.lo space_Take_c2.od) Tryz.f124 (Tryz.f124.body.getD .skip) 3 = true := by kernel_rfl
theorem space_Take_c2.okD {cap1 : Option Addr} {cap2 : Option Addr} {cap3 : Option Addr} {K : Heap → Prop} {h : Heap} (hx : space_Take_c2 cap1 cap2 cap3 (fun _ h' => K h') h) : D.space_Take_c2 cap1 cap2 cap3 h K :=
  fnD_to (cxOk _ _) Tryz.func124 (by kernel_rfl) space_Take_c2.chkD (by rw [space_Take_c2.eq]; exact hx)

-- 125
def space_back (t1 : Option Addr) (mark1 : Int) (e1 : Option Addr) (K : Value → Heap → Prop) (h1 : Heap) : Prop :=
  onSome e1 fun p1 =>
  ∃ (n1 : Int), cellOf h1 p1 = some (.int .i64 n1) ∧
  bif (n1 != 0) then (
  C.txn_Txn_Back t1 mark1 h1 fun r1 h2 =>
  ∃ (n2 : Int), r1 = .int .i64 n2 ∧
  K (.tuple #[]) h2) else (
  K (.tuple #[]) h1)
def space_back.lo : Nat → List Nat × List (Nat × Ty) := fun n => match n with | _ => ([], [])
def space_back.od : Nat → Od := fun n => match n with | _ => .nil
theorem space_back.eq (t1 : Option Addr) (mark1 : Int) (e1 : Option Addr) (K : Value → Heap → Prop) (h : Heap) : fnX (cx space_back.lo space_back.od) Tryz.f125 (Tryz.f125.body.getD .skip) [.pointer t1, .int .i64 mark1, .pointer e1] K h = space_back t1 mark1 e1 K h := by kernel_rfl
theorem space_back.chk : fnOk (cx space_back.lo space_back.od) Tryz.f125 (Tryz.f125.body.getD .skip) 3 = true := by kernel_rfl
theorem space_back.ok {t1 : Option Addr} {mark1 : Int} {e1 : Option Addr} {K : Value → Heap → Prop} {h : Heap} (hx : space_back t1 mark1 e1 K h) : C.space_back t1 mark1 e1 h K :=
  fn_to (cxOk _ _) Tryz.func125 (by kernel_rfl) space_back.chk (by rw [space_back.eq]; exact hx)

-- 126
def space_set (t1 : Option Addr) (g1 : List Value) (i1 : Int) (on1 : Bool) (K : Value → Heap → Prop) (h1 : Heap) : Prop :=
  New g1 25 h1 fun h2 =>
  ∃ cs1 : List Value, List.length cs1 = 5 ∧ Cells h2 ⟨h1.size, 0, none⟩ cs1 ∧
  C.space_bit t1 cs1 i1 h2 fun r1 h3 =>
  ∃ (n1 : Int) (sA1 : Option Addr) (sL1 : Nat) (sC1 : Nat) (n2 : Int) (n3 : Int), r1 = .tuple #[.int .i64 n1, .slice sA1 sL1 sC1, .int .i64 n2, .int .i64 n3] ∧
  bif (n3 != 0) then (
  K (.int .i64 n3) h3) else (
  C.bits_Put sA1 sL1 sC1 n2 on1 h3 fun r2 h4 =>
  ∃ (n4 : Int), r2 = .int .i64 n4 ∧
  bif (n4 != 0) then (
  K (.int .i64 n4) h4) else (
  C.txn_Txn_Write t1 n1 sA1 sL1 sC1 h4 fun r3 h5 =>
  ∃ (n5 : Int), r3 = .int .i64 n5 ∧
  K (.int .i64 n5) h5))
def space_set.lo : Nat → List Nat × List (Nat × Ty) := fun n => match n with | _ => ([], [])
def space_set.od : Nat → Od := fun n => match n with | _ => .nil
theorem space_set.eq (t1 : Option Addr) (g1 : List Value) (i1 : Int) (on1 : Bool) (K : Value → Heap → Prop) (h : Heap) : fnX (cx space_set.lo space_set.od) Tryz.f126 (Tryz.f126.body.getD .skip) [.pointer t1, .agg ⟨g1⟩, .int .i64 i1, .bool on1] K h = space_set t1 g1 i1 on1 K h := by kernel_rfl
theorem space_set.chk : fnOk (cx space_set.lo space_set.od) Tryz.f126 (Tryz.f126.body.getD .skip) 4 = true := by kernel_rfl
theorem space_set.ok {t1 : Option Addr} {g1 : List Value} {i1 : Int} {on1 : Bool} {K : Value → Heap → Prop} {h : Heap} (hx : space_set t1 g1 i1 on1 K h) : C.space_set t1 g1 i1 on1 h K :=
  fn_to (cxOk _ _) Tryz.func126 (by kernel_rfl) space_set.chk (by rw [space_set.eq]; exact hx)

-- 127
def bmap_file_own (f1 : Option Addr) (s1 : List Value) (K : Value → Heap → Prop) (h1 : Heap) : Prop :=
  New s1 149 h1 fun h2 =>
  ∃ (n1 : Int), cellOf h2 (Addr.add ⟨h1.size, 0, none⟩ 0) = some (.int .i64 n1) ∧
  bif (n1 == 0) then (
  ∃ (n2 : Int), cellOf h2 (Addr.add ⟨h1.size, 0, none⟩ 1) = some (.int .i64 n2) ∧
  onSome f1 fun p1 =>
  (0 ≤ n2 ∧ n2 < (10 : Int)) ∧
  K (.pointer (some (Addr.add (Addr.add (Addr.add p1 6) 3) (Int.toNat n2)))) h2) else (
  bif (n1 == 1) then (
  onSome f1 fun p2 =>
  K (.pointer (some (Addr.add (Addr.add p2 6) 13))) h2) else (
  onSome f1 fun p3 =>
  K (.pointer (some (Addr.add (Addr.add p3 6) 14))) h2))
def bmap_file_own.lo : Nat → List Nat × List (Nat × Ty) := fun n => match n with | _ => ([], [])
def bmap_file_own.od : Nat → Od := fun n => match n with | 3 => (.op 0 [] (.op 1 [] (.op 2 [] (.op 3 [] (.op 4 [] (.op 5 [] (.op 6 [] (.op 7 [] .nil)))))))) | _ => .nil
theorem bmap_file_own.eq (f1 : Option Addr) (s1 : List Value) (K : Value → Heap → Prop) (h : Heap) : fnX (cx bmap_file_own.lo bmap_file_own.od) Tryz.f127 (Tryz.f127.body.getD .skip) [.pointer f1, .agg ⟨s1⟩] K h = bmap_file_own f1 s1 K h := by kernel_rfl
theorem bmap_file_own.chk : fnOk (cx bmap_file_own.lo bmap_file_own.od) Tryz.f127 (Tryz.f127.body.getD .skip) 2 = true := by kernel_rfl
theorem bmap_file_own.ok {f1 : Option Addr} {s1 : List Value} {K : Value → Heap → Prop} {h : Heap} (hx : bmap_file_own f1 s1 K h) : C.bmap_file_own f1 s1 h K :=
  fn_to (cxOk _ _) Tryz.func127 (by kernel_rfl) bmap_file_own.chk (by rw [bmap_file_own.eq]; exact hx)

-- 128
def rec_Put (bA1 : Option Addr) (bL1 : Nat) (bC1 : Nat) (at1 : Int) (n1 : Int) (v1 : Int) (K : Value → Heap → Prop) (h1 : Heap) : Prop :=
  C.rec_isWidth n1 h1 fun r1 h2 =>
  ∃ (b1 : Bool), r1 = .bool b1 ∧
  bif (!b1) then (
  K (.int .i64 1) h2) else (
  bif (decide (n1 < 8)) then (
  if (IntKind.wrap .i64 (8 * n1)) < 0 then False else
  bif ((Int.fdiv v1 (2 ^ min (Int.toNat (IntKind.wrap .i64 (8 * n1))) 64)) != 0) then (
  K (.int .i64 1) h2) else (
  C.rec_lie bA1 bL1 bC1 at1 n1 h2 fun r2 h3 =>
  ∃ (b2 : Bool), r2 = .bool b2 ∧
  bif (!b2) then (
  K (.int .i64 20) h3) else (
  ∃ (I1 : Int → Heap → Prop) (M1 : Int → Heap → Nat), I1 0 h3 ∧
  ∀ (n2 : Int), ∀ h4 : Heap, I1 n2 h4 →
  bif (decide (n2 < n1)) then (
  if (IntKind.wrap .i64 (8 * n2)) < 0 then False else
  (0 ≤ (IntKind.wrap .i64 (at1 + n2)) ∧ (IntKind.wrap .i64 (at1 + n2)) < (bL1 : Int)) ∧
  onSome bA1 fun p1 =>
  Put (Addr.add p1 (Int.toNat (IntKind.wrap .i64 (at1 + n2)))) (.int .u8 (IntKind.wrap .u8 ((Int.fdiv v1 (2 ^ min (Int.toNat (IntKind.wrap .i64 (8 * n2))) 64))))) h4 fun h5 =>
  I1 (IntKind.wrap .i64 (n2 + 1)) h5 ∧ M1 (IntKind.wrap .i64 (n2 + 1)) h5 < M1 n2 h4) else (
  K (.int .i64 0) h4)))) else (
  C.rec_lie bA1 bL1 bC1 at1 n1 h2 fun r3 h6 =>
  ∃ (b3 : Bool), r3 = .bool b3 ∧
  bif (!b3) then (
  K (.int .i64 20) h6) else (
  ∃ (I2 : Int → Heap → Prop) (M2 : Int → Heap → Nat), I2 0 h6 ∧
  ∀ (n3 : Int), ∀ h7 : Heap, I2 n3 h7 →
  bif (decide (n3 < n1)) then (
  if (IntKind.wrap .i64 (8 * n3)) < 0 then False else
  (0 ≤ (IntKind.wrap .i64 (at1 + n3)) ∧ (IntKind.wrap .i64 (at1 + n3)) < (bL1 : Int)) ∧
  onSome bA1 fun p2 =>
  Put (Addr.add p2 (Int.toNat (IntKind.wrap .i64 (at1 + n3)))) (.int .u8 (IntKind.wrap .u8 ((Int.fdiv v1 (2 ^ min (Int.toNat (IntKind.wrap .i64 (8 * n3))) 64))))) h7 fun h8 =>
  I2 (IntKind.wrap .i64 (n3 + 1)) h8 ∧ M2 (IntKind.wrap .i64 (n3 + 1)) h8 < M2 n3 h7) else (
  K (.int .i64 0) h7))))
def rec_Put.lo : Nat → List Nat × List (Nat × Ty) := fun n => match n with | 6 => ([0, 1, 3, 31], [(32, .int .i64)]) | _ => ([], [])
def rec_Put.od : Nat → Od := fun n => match n with | _ => .nil
theorem rec_Put.eq (bA1 : Option Addr) (bL1 : Nat) (bC1 : Nat) (at1 : Int) (n1 : Int) (v1 : Int) (K : Value → Heap → Prop) (h : Heap) : fnX (cx rec_Put.lo rec_Put.od) Tryz.f128 (Tryz.f128.body.getD .skip) [.slice bA1 bL1 bC1, .int .i64 at1, .int .i64 n1, .int .u64 v1] K h = rec_Put bA1 bL1 bC1 at1 n1 v1 K h := by kernel_rfl
theorem rec_Put.chk : fnOk (cx rec_Put.lo rec_Put.od) Tryz.f128 (Tryz.f128.body.getD .skip) 4 = true := by kernel_rfl
theorem rec_Put.ok {bA1 : Option Addr} {bL1 : Nat} {bC1 : Nat} {at1 : Int} {n1 : Int} {v1 : Int} {K : Value → Heap → Prop} {h : Heap} (hx : rec_Put bA1 bL1 bC1 at1 n1 v1 K h) : C.rec_Put bA1 bL1 bC1 at1 n1 v1 h K :=
  fn_to (cxOk _ _) Tryz.func128 (by kernel_rfl) rec_Put.chk (by rw [rec_Put.eq]; exact hx)

-- 131
def boleref06_Txn_Write.k2 (t1 : Option Addr) (i1 : Int) (bA1 : Option Addr) (bL1 : Nat) (h5 : Heap) (K : Value → Heap → Prop) : Prop :=
  onSome t1 fun p3 =>
  ∃ (sA2 : Option Addr) (sL2 : Nat) (sC2 : Nat), cellOf h5 (Addr.add p3 1) = some (.slice sA2 sL2 sC2) ∧
  ∃ bs1 : List UInt8, StrAt h5 bA1 bL1 bs1 ∧
  List.length ([.int .i64 i1, .string (mkStr bs1)] : List Value) = 2 ∧
  New [.int .i64 i1, .string (mkStr bs1)] 226 h5 fun h6 =>
  (cellOf h6 (Addr.add p3 1) = some (.slice sA2 sL2 sC2)) ∧
  ∃ new1 : List Value, List.length new1 = 1 * 2 ∧ SlCells h6 (some ⟨h5.size, 0, none⟩) new1 ∧ (∀ v ∈ new1, v.oneCell' = true) ∧
  AppendP ti226 226 sA2 sL2 sC2 1 new1 h6 fun sA3 sL3 sC3 h7 =>
  onSome t1 fun p4 =>
  Put (Addr.add p4 1) (.slice sA3 sL3 sC3) h7 fun h8 =>
  K (.int .i64 0) h8
def boleref06_Txn_Write.k1 (t1 : Option Addr) (i1 : Int) (bA1 : Option Addr) (bL1 : Nat) (h3 : Heap) (K : Value → Heap → Prop) : Prop :=
  bif ((bL1 : Int) != 512) then (
  K (.int .i64 32) h3) else (
  C.boleref06_Txn_put t1 i1 h3 fun r2 h4 =>
  ∃ (n2 : Int), r2 = .int .i64 n2 ∧
  C.boleref06_Txn_Written t1 h4 fun r3 h5 =>
  ∃ (sA1 : Option Addr) (sL1 : Nat) (sC1 : Nat), r3 = .slice sA1 sL1 sC1 ∧
  bif (decide (n2 < 0)) then (
  bif (decide ((sL1 : Int) ≥ 96)) then (
  K (.int .i64 60) h5) else (
  boleref06_Txn_Write.k2 t1 i1 bA1 bL1 h5 K)) else (
  boleref06_Txn_Write.k2 t1 i1 bA1 bL1 h5 K))
def boleref06_Txn_Write (t1 : Option Addr) (i1 : Int) (bA1 : Option Addr) (bL1 : Nat) (bC1 : Nat) (K : Value → Heap → Prop) (h1 : Heap) : Prop :=
  onSome t1 fun p1 =>
  ∃ (b1 : Bool), cellOf h1 (Addr.add p1 2) = some (.bool b1) ∧
  bif b1 then (
  K (.int .i64 61) h1) else (
  bif (decide (i1 < 98)) then (
  K (.int .i64 31) h1) else (
  onSome t1 fun p2 =>
  ∃ (q1 : Option Addr), cellOf h1 (Addr.add p2 0) = some (.pointer q1) ∧
  C.boleref03_Disk_Blocks q1 h1 fun r1 h2 =>
  ∃ (n1 : Int), r1 = .int .i64 n1 ∧
  bif (decide (i1 ≥ n1)) then (
  K (.int .i64 31) h2) else (
  boleref06_Txn_Write.k1 t1 i1 bA1 bL1 h2 K)))
def boleref06_Txn_Write.lo : Nat → List Nat × List (Nat × Ty) := fun n => match n with | _ => ([], [])
def boleref06_Txn_Write.od : Nat → Od := fun n => match n with | 11 => (.op 0 [] (.op 1 [] (.op 2 [] (.op 3 [] (.op 4 [] (.op 5 [] (.op 6 [] (.op 7 [] (.op 8 [] (.op 9 [4] (.op 10 [] (.op 11 [] (.op 12 [] (.op 13 [] .nil)))))))))))))) | _ => .nil
theorem boleref06_Txn_Write.eq (t1 : Option Addr) (i1 : Int) (bA1 : Option Addr) (bL1 : Nat) (bC1 : Nat) (K : Value → Heap → Prop) (h : Heap) : fnX (cx boleref06_Txn_Write.lo boleref06_Txn_Write.od) Tryz.f131 (Tryz.f131.body.getD .skip) [.pointer t1, .int .i64 i1, .slice bA1 bL1 bC1] K h = boleref06_Txn_Write t1 i1 bA1 bL1 bC1 K h := by kernel_rfl
theorem boleref06_Txn_Write.chk : fnOk (cx boleref06_Txn_Write.lo boleref06_Txn_Write.od) Tryz.f131 (Tryz.f131.body.getD .skip) 3 = true := by kernel_rfl
theorem boleref06_Txn_Write.ok {t1 : Option Addr} {i1 : Int} {bA1 : Option Addr} {bL1 : Nat} {bC1 : Nat} {K : Value → Heap → Prop} {h : Heap} (hx : boleref06_Txn_Write t1 i1 bA1 bL1 bC1 K h) : C.boleref06_Txn_Write t1 i1 bA1 bL1 bC1 h K :=
  fn_to (cxOk _ _) Tryz.func131 (by kernel_rfl) boleref06_Txn_Write.chk (by rw [boleref06_Txn_Write.eq]; exact hx)

-- 133
def space_Give.k1 (t1 : Option Addr) (i1 : Int) (h1 : Heap) (h2 : Heap) (K : Value → Heap → Prop) : Prop :=
  ∃ cs1 : List Value, List.length cs1 = 5 ∧ Cells h2 ⟨h1.size, 0, none⟩ cs1 ∧
  C.space_Used t1 cs1 i1 h2 fun r1 h3 =>
  ∃ (b1 : Bool) (n3 : Int), r1 = .tuple #[.bool b1, .int .i64 n3] ∧
  bif (n3 != 0) then (
  K (.int .i64 n3) h3) else (
  bif (!b1) then (
  K (.int .i64 91) h3) else (
  ∃ cs2 : List Value, List.length cs2 = 5 ∧ Cells h3 ⟨h1.size, 0, none⟩ cs2 ∧
  C.space_set t1 cs2 i1 false h3 fun r2 h4 =>
  ∃ (n4 : Int), r2 = .int .i64 n4 ∧
  K (.int .i64 n4) h4))
def space_Give (t1 : Option Addr) (g1 : List Value) (i1 : Int) (K : Value → Heap → Prop) (h1 : Heap) : Prop :=
  New g1 25 h1 fun h2 =>
  ∃ (n1 : Int), cellOf h2 (Addr.add ⟨h1.size, 0, none⟩ 3) = some (.int .i64 n1) ∧
  bif (decide (i1 < n1)) then (
  K (.int .i64 91) h2) else (
  ∃ (n2 : Int), cellOf h2 (Addr.add ⟨h1.size, 0, none⟩ 0) = some (.int .i64 n2) ∧
  bif (decide (i1 ≥ n2)) then (
  K (.int .i64 91) h2) else (
  space_Give.k1 t1 i1 h1 h2 K))
def space_Give.lo : Nat → List Nat × List (Nat × Ty) := fun n => match n with | _ => ([], [])
def space_Give.od : Nat → Od := fun n => match n with | _ => .nil
theorem space_Give.eq (t1 : Option Addr) (g1 : List Value) (i1 : Int) (K : Value → Heap → Prop) (h : Heap) : fnX (cx space_Give.lo space_Give.od) Tryz.f133 (Tryz.f133.body.getD .skip) [.pointer t1, .agg ⟨g1⟩, .int .i64 i1] K h = space_Give t1 g1 i1 K h := by kernel_rfl
theorem space_Give.chk : fnOk (cx space_Give.lo space_Give.od) Tryz.f133 (Tryz.f133.body.getD .skip) 3 = true := by kernel_rfl
theorem space_Give.ok {t1 : Option Addr} {g1 : List Value} {i1 : Int} {K : Value → Heap → Prop} {h : Heap} (hx : space_Give t1 g1 i1 K h) : C.space_Give t1 g1 i1 h K :=
  fn_to (cxOk _ _) Tryz.func133 (by kernel_rfl) space_Give.chk (by rw [space_Give.eq]; exact hx)

-- 137
def rec_Get (bA1 : Option Addr) (bL1 : Nat) (bC1 : Nat) (at1 : Int) (n1 : Int) (K : Value → Heap → Prop) (h1 : Heap) : Prop :=
  C.rec_isWidth n1 h1 fun r1 h2 =>
  ∃ (b1 : Bool), r1 = .bool b1 ∧
  bif (!b1) then (
  K (.tuple #[.int .u64 0, .int .i64 1]) h2) else (
  C.rec_lie bA1 bL1 bC1 at1 n1 h2 fun r2 h3 =>
  ∃ (b2 : Bool), r2 = .bool b2 ∧
  bif (!b2) then (
  K (.tuple #[.int .u64 0, .int .i64 20]) h3) else (
  ∃ (I1 : Int → Int → Heap → Prop) (M1 : Int → Int → Heap → Nat), I1 0 0 h3 ∧
  ∀ (v1 : Int) (n2 : Int), ∀ h4 : Heap, I1 v1 n2 h4 →
  bif (decide (n2 < n1)) then (
  (0 ≤ (IntKind.wrap .i64 (at1 + n2)) ∧ (IntKind.wrap .i64 (at1 + n2)) < (bL1 : Int)) ∧
  onSome bA1 fun p1 =>
  ∃ (n3 : Int), cellOf h4 (Addr.add p1 (Int.toNat (IntKind.wrap .i64 (at1 + n2)))) = some (.int .u8 n3) ∧
  if (IntKind.wrap .i64 (8 * n2)) < 0 then False else
  I1 (bitsI .or .u64 v1 (IntKind.wrap .u64 (((IntKind.wrap .u64 (n3)) * 2 ^ min (Int.toNat (IntKind.wrap .i64 (8 * n2))) 64)))) (IntKind.wrap .i64 (n2 + 1)) h4 ∧ M1 (bitsI .or .u64 v1 (IntKind.wrap .u64 (((IntKind.wrap .u64 (n3)) * 2 ^ min (Int.toNat (IntKind.wrap .i64 (8 * n2))) 64)))) (IntKind.wrap .i64 (n2 + 1)) h4 < M1 v1 n2 h4) else (
  K (.tuple #[.int .u64 v1, .int .i64 0]) h4)))
def rec_Get.lo : Nat → List Nat × List (Nat × Ty) := fun n => match n with | 7 => ([0, 1, 20], [(8, .int .u64), (21, .int .i64)]) | _ => ([], [])
def rec_Get.od : Nat → Od := fun n => match n with | _ => .nil
theorem rec_Get.eq (bA1 : Option Addr) (bL1 : Nat) (bC1 : Nat) (at1 : Int) (n1 : Int) (K : Value → Heap → Prop) (h : Heap) : fnX (cx rec_Get.lo rec_Get.od) Tryz.f137 (Tryz.f137.body.getD .skip) [.slice bA1 bL1 bC1, .int .i64 at1, .int .i64 n1] K h = rec_Get bA1 bL1 bC1 at1 n1 K h := by kernel_rfl
theorem rec_Get.chk : fnOk (cx rec_Get.lo rec_Get.od) Tryz.f137 (Tryz.f137.body.getD .skip) 3 = true := by kernel_rfl
theorem rec_Get.ok {bA1 : Option Addr} {bL1 : Nat} {bC1 : Nat} {at1 : Int} {n1 : Int} {K : Value → Heap → Prop} {h : Heap} (hx : rec_Get bA1 bL1 bC1 at1 n1 K h) : C.rec_Get bA1 bL1 bC1 at1 n1 h K :=
  fn_to (cxOk _ _) Tryz.func137 (by kernel_rfl) rec_Get.chk (by rw [rec_Get.eq]; exact hx)

-- 138
def boleref03_Disk_Blocks (d1 : Option Addr) (K : Value → Heap → Prop) (h1 : Heap) : Prop :=
  onSome d1 fun p1 =>
  ∃ (sA1 : Option Addr) (sL1 : Nat) (sC1 : Nat), cellOf h1 (Addr.add p1 0) = some (.slice sA1 sL1 sC1) ∧
  K (.int .i64 (IntKind.wrap .i64 (Int.tdiv (sL1 : Int) 512))) h1
def boleref03_Disk_Blocks.lo : Nat → List Nat × List (Nat × Ty) := fun n => match n with | _ => ([], [])
def boleref03_Disk_Blocks.od : Nat → Od := fun n => match n with | _ => .nil
theorem boleref03_Disk_Blocks.eq (d1 : Option Addr) (K : Value → Heap → Prop) (h : Heap) : fnX (cx boleref03_Disk_Blocks.lo boleref03_Disk_Blocks.od) Tryz.f138 (Tryz.f138.body.getD .skip) [.pointer d1] K h = boleref03_Disk_Blocks d1 K h := by kernel_rfl
theorem boleref03_Disk_Blocks.chk : fnOk (cx boleref03_Disk_Blocks.lo boleref03_Disk_Blocks.od) Tryz.f138 (Tryz.f138.body.getD .skip) 1 = true := by kernel_rfl
theorem boleref03_Disk_Blocks.ok {d1 : Option Addr} {K : Value → Heap → Prop} {h : Heap} (hx : boleref03_Disk_Blocks d1 K h) : C.boleref03_Disk_Blocks d1 h K :=
  fn_to (cxOk _ _) Tryz.func138 (by kernel_rfl) boleref03_Disk_Blocks.chk (by rw [boleref03_Disk_Blocks.eq]; exact hx)

-- 139
def boleref06_Txn_put (t1 : Option Addr) (i1 : Int) (K : Value → Heap → Prop) (h1 : Heap) : Prop :=
  ∃ (I1 : Int → Int → Heap → Prop) (M1 : Int → Int → Heap → Nat), I1 (-1) 0 h1 ∧
  ∀ (at1 : Int) (k1 : Int), ∀ h2 : Heap, I1 at1 k1 h2 →
  onSome t1 fun p1 =>
  ∃ (sA1 : Option Addr) (sL1 : Nat) (sC1 : Nat), cellOf h2 (Addr.add p1 1) = some (.slice sA1 sL1 sC1) ∧
  bif (decide (k1 < (sL1 : Int))) then (
  onSome t1 fun p2 =>
  ∃ (sA2 : Option Addr) (sL2 : Nat) (sC2 : Nat), cellOf h2 (Addr.add p2 1) = some (.slice sA2 sL2 sC2) ∧
  (0 ≤ k1 ∧ k1 < (sL2 : Int)) ∧
  onSome sA2 fun p3 =>
  ∃ (n1 : Int), cellOf h2 (Addr.add (Addr.add p3 ((Int.toNat k1) * 2)) 0) = some (.int .i64 n1) ∧
  bif (n1 == i1) then (
  I1 k1 (IntKind.wrap .i64 (k1 + 1)) h2 ∧ M1 k1 (IntKind.wrap .i64 (k1 + 1)) h2 < M1 at1 k1 h2) else (
  I1 at1 (IntKind.wrap .i64 (k1 + 1)) h2 ∧ M1 at1 (IntKind.wrap .i64 (k1 + 1)) h2 < M1 at1 k1 h2)) else (
  K (.int .i64 at1) h2)
def boleref06_Txn_put.lo : Nat → List Nat × List (Nat × Ty) := fun n => match n with | 3 => ([0, 1], [(5, .int .i64), (6, .int .i64)]) | _ => ([], [])
def boleref06_Txn_put.od : Nat → Od := fun n => match n with | _ => .nil
theorem boleref06_Txn_put.eq (t1 : Option Addr) (i1 : Int) (K : Value → Heap → Prop) (h : Heap) : fnX (cx boleref06_Txn_put.lo boleref06_Txn_put.od) Tryz.f139 (Tryz.f139.body.getD .skip) [.pointer t1, .int .i64 i1] K h = boleref06_Txn_put t1 i1 K h := by kernel_rfl
theorem boleref06_Txn_put.chk : fnOk (cx boleref06_Txn_put.lo boleref06_Txn_put.od) Tryz.f139 (Tryz.f139.body.getD .skip) 2 = true := by kernel_rfl
theorem boleref06_Txn_put.ok {t1 : Option Addr} {i1 : Int} {K : Value → Heap → Prop} {h : Heap} (hx : boleref06_Txn_put t1 i1 K h) : C.boleref06_Txn_put t1 i1 h K :=
  fn_to (cxOk _ _) Tryz.func139 (by kernel_rfl) boleref06_Txn_put.chk (by rw [boleref06_Txn_put.eq]; exact hx)

-- 140
def boleref03_Disk_Read.k1 (d1 : Option Addr) (i1 : Int) (h3 : Heap) (K : Value → Heap → Prop) : Prop :=
  onSome d1 fun p2 =>
  ∃ (sA1 : Option Addr) (sL1 : Nat) (sC1 : Nat), cellOf h3 (Addr.add p2 1) = some (.slice sA1 sL1 sC1) ∧
  ∃ (I1 : Int → Heap → Prop) (M1 : Int → Heap → Nat), I1 (IntKind.wrap .i64 ((sL1 : Int) - 1)) h3 ∧
  ∀ (j1 : Int), ∀ h4 : Heap, I1 j1 h4 →
  bif (decide (j1 ≥ 0)) then (
  onSome d1 fun p3 =>
  ∃ (sA2 : Option Addr) (sL2 : Nat) (sC2 : Nat), cellOf h4 (Addr.add p3 1) = some (.slice sA2 sL2 sC2) ∧
  (0 ≤ j1 ∧ j1 < (sL2 : Int)) ∧
  onSome sA2 fun p4 =>
  ∃ (n2 : Int), cellOf h4 (Addr.add (Addr.add p4 ((Int.toNat j1) * 3)) 0) = some (.int .i64 n2) ∧
  bif (n2 == 1) then (
  onSome d1 fun p5 =>
  ∃ (sA3 : Option Addr) (sL3 : Nat) (sC3 : Nat), cellOf h4 (Addr.add p5 1) = some (.slice sA3 sL3 sC3) ∧
  (0 ≤ j1 ∧ j1 < (sL3 : Int)) ∧
  onSome sA3 fun p6 =>
  ∃ (n3 : Int), cellOf h4 (Addr.add (Addr.add p6 ((Int.toNat j1) * 3)) 1) = some (.int .i64 n3) ∧
  bif (n3 == i1) then (
  onSome d1 fun p7 =>
  ∃ (sA4 : Option Addr) (sL4 : Nat) (sC4 : Nat), cellOf h4 (Addr.add p7 1) = some (.slice sA4 sL4 sC4) ∧
  (0 ≤ j1 ∧ j1 < (sL4 : Int)) ∧
  onSome sA4 fun p8 =>
  ∃ (sA5 : Option Addr) (sL5 : Nat) (sC5 : Nat), cellOf h4 (Addr.add (Addr.add p8 ((Int.toNat j1) * 3)) 2) = some (.slice sA5 sL5 sC5) ∧
  C.boleref03_copied sA5 sL5 sC5 h4 fun r2 h5 =>
  ∃ (sA6 : Option Addr) (sL6 : Nat) (sC6 : Nat), r2 = .slice sA6 sL6 sC6 ∧
  K (.tuple #[.slice sA6 sL6 sC6, .int .i64 0]) h5) else (
  I1 (IntKind.wrap .i64 (j1 - 1)) h4 ∧ M1 (IntKind.wrap .i64 (j1 - 1)) h4 < M1 j1 h4)) else (
  I1 (IntKind.wrap .i64 (j1 - 1)) h4 ∧ M1 (IntKind.wrap .i64 (j1 - 1)) h4 < M1 j1 h4)) else (
  onSome d1 fun p9 =>
  ∃ (sA7 : Option Addr) (sL7 : Nat) (sC7 : Nat), cellOf h4 (Addr.add p9 0) = some (.slice sA7 sL7 sC7) ∧
  (0 ≤ (IntKind.wrap .i64 (i1 * 512)) ∧ (IntKind.wrap .i64 (i1 * 512)) ≤ (IntKind.wrap .i64 ((IntKind.wrap .i64 (i1 * 512)) + 512)) ∧ (IntKind.wrap .i64 ((IntKind.wrap .i64 (i1 * 512)) + 512)) ≤ (sC7 : Int)) ∧
  C.boleref03_copied (if sC7 = (Int.toNat (IntKind.wrap .i64 (i1 * 512))) then sA7 else Option.map (Addr.add · (Int.toNat (IntKind.wrap .i64 (i1 * 512)))) sA7) ((Int.toNat (IntKind.wrap .i64 ((IntKind.wrap .i64 (i1 * 512)) + 512))) - (Int.toNat (IntKind.wrap .i64 (i1 * 512)))) (sC7 - (Int.toNat (IntKind.wrap .i64 (i1 * 512)))) h4 fun r3 h6 =>
  ∃ (sA8 : Option Addr) (sL8 : Nat) (sC8 : Nat), r3 = .slice sA8 sL8 sC8 ∧
  K (.tuple #[.slice sA8 sL8 sC8, .int .i64 0]) h6)
def boleref03_Disk_Read (d1 : Option Addr) (i1 : Int) (K : Value → Heap → Prop) (h1 : Heap) : Prop :=
  onSome d1 fun p1 =>
  ∃ (b1 : Bool), cellOf h1 (Addr.add p1 4) = some (.bool b1) ∧
  bif b1 then (
  K (.tuple #[.slice none 0 0, .int .i64 30]) h1) else (
  bif (decide (i1 < 0)) then (
  K (.tuple #[.slice none 0 0, .int .i64 31]) h1) else (
  C.boleref03_Disk_Blocks d1 h1 fun r1 h2 =>
  ∃ (n1 : Int), r1 = .int .i64 n1 ∧
  bif (decide (i1 ≥ n1)) then (
  K (.tuple #[.slice none 0 0, .int .i64 31]) h2) else (
  boleref03_Disk_Read.k1 d1 i1 h2 K)))
def boleref03_Disk_Read.lo : Nat → List Nat × List (Nat × Ty) := fun n => match n with | 6 => ([0, 1], [(6, .int .i64)]) | _ => ([], [])
def boleref03_Disk_Read.od : Nat → Od := fun n => match n with | _ => .nil
theorem boleref03_Disk_Read.eq (d1 : Option Addr) (i1 : Int) (K : Value → Heap → Prop) (h : Heap) : fnX (cx boleref03_Disk_Read.lo boleref03_Disk_Read.od) Tryz.f140 (Tryz.f140.body.getD .skip) [.pointer d1, .int .i64 i1] K h = boleref03_Disk_Read d1 i1 K h := by kernel_rfl
theorem boleref03_Disk_Read.chk : fnOk (cx boleref03_Disk_Read.lo boleref03_Disk_Read.od) Tryz.f140 (Tryz.f140.body.getD .skip) 2 = true := by kernel_rfl
theorem boleref03_Disk_Read.ok {d1 : Option Addr} {i1 : Int} {K : Value → Heap → Prop} {h : Heap} (hx : boleref03_Disk_Read d1 i1 K h) : C.boleref03_Disk_Read d1 i1 h K :=
  fn_to (cxOk _ _) Tryz.func140 (by kernel_rfl) boleref03_Disk_Read.chk (by rw [boleref03_Disk_Read.eq]; exact hx)

-- 144
def adisk_Disk_has (d1 : Option Addr) (i1 : Int) (K : Value → Heap → Prop) (h1 : Heap) : Prop :=
  bif (decide (i1 ≥ 0)) then (
  onSome d1 fun p1 =>
  ∃ (sA1 : Option Addr) (sL1 : Nat) (sC1 : Nat), cellOf h1 (Addr.add p1 0) = some (.slice sA1 sL1 sC1) ∧
  K (.bool (decide (i1 < (sL1 : Int)))) h1) else (
  K (.bool false) h1)
def adisk_Disk_has.lo : Nat → List Nat × List (Nat × Ty) := fun n => match n with | _ => ([], [])
def adisk_Disk_has.od : Nat → Od := fun n => match n with | _ => .nil
theorem adisk_Disk_has.eq (d1 : Option Addr) (i1 : Int) (K : Value → Heap → Prop) (h : Heap) : fnX (cx adisk_Disk_has.lo adisk_Disk_has.od) Tryz.f144 (Tryz.f144.body.getD .skip) [.pointer d1, .int .i64 i1] K h = adisk_Disk_has d1 i1 K h := by kernel_rfl
theorem adisk_Disk_has.chk : fnOk (cx adisk_Disk_has.lo adisk_Disk_has.od) Tryz.f144 (Tryz.f144.body.getD .skip) 2 = true := by kernel_rfl
theorem adisk_Disk_has.ok {d1 : Option Addr} {i1 : Int} {K : Value → Heap → Prop} {h : Heap} (hx : adisk_Disk_has d1 i1 K h) : C.adisk_Disk_has d1 i1 h K :=
  fn_to (cxOk _ _) Tryz.func144 (by kernel_rfl) adisk_Disk_has.chk (by rw [adisk_Disk_has.eq]; exact hx)

-- 145
def geo_Bit.k1 (i1 : Int) (h1 : Heap) (h2 : Heap) (K : Value → Heap → Prop) : Prop :=
  ∃ (n2 : Int), cellOf h2 (Addr.add ⟨h1.size, 0, none⟩ 1) = some (.int .i64 n2) ∧
  K (.tuple #[.int .i64 (IntKind.wrap .i64 (n2 + (IntKind.wrap .i64 (Int.tdiv i1 4096)))), .int .i64 (Int.tmod i1 4096), .int .i64 0]) h2
def geo_Bit (g1 : List Value) (i1 : Int) (K : Value → Heap → Prop) (h1 : Heap) : Prop :=
  New g1 25 h1 fun h2 =>
  bif (decide (i1 < 0)) then (
  K (.tuple #[.int .i64 0, .int .i64 0, .int .i64 31]) h2) else (
  ∃ (n1 : Int), cellOf h2 (Addr.add ⟨h1.size, 0, none⟩ 0) = some (.int .i64 n1) ∧
  bif (decide (i1 ≥ n1)) then (
  K (.tuple #[.int .i64 0, .int .i64 0, .int .i64 31]) h2) else (
  geo_Bit.k1 i1 h1 h2 K))
def geo_Bit.lo : Nat → List Nat × List (Nat × Ty) := fun n => match n with | _ => ([], [])
def geo_Bit.od : Nat → Od := fun n => match n with | _ => .nil
theorem geo_Bit.eq (g1 : List Value) (i1 : Int) (K : Value → Heap → Prop) (h : Heap) : fnX (cx geo_Bit.lo geo_Bit.od) Tryz.f145 (Tryz.f145.body.getD .skip) [.agg ⟨g1⟩, .int .i64 i1] K h = geo_Bit g1 i1 K h := by kernel_rfl
theorem geo_Bit.chk : fnOk (cx geo_Bit.lo geo_Bit.od) Tryz.f145 (Tryz.f145.body.getD .skip) 2 = true := by kernel_rfl
theorem geo_Bit.ok {g1 : List Value} {i1 : Int} {K : Value → Heap → Prop} {h : Heap} (hx : geo_Bit g1 i1 K h) : C.geo_Bit g1 i1 h K :=
  fn_to (cxOk _ _) Tryz.func145 (by kernel_rfl) geo_Bit.chk (by rw [geo_Bit.eq]; exact hx)

-- 146
def bits_has (bA1 : Option Addr) (bL1 : Nat) (bC1 : Nat) (i1 : Int) (K : Value → Heap → Prop) (h1 : Heap) : Prop :=
  bif (decide (i1 ≥ 0)) then (
  K (.bool (decide (i1 < (IntKind.wrap .i64 (8 * (bL1 : Int)))))) h1) else (
  K (.bool false) h1)
def bits_has.lo : Nat → List Nat × List (Nat × Ty) := fun n => match n with | _ => ([], [])
def bits_has.od : Nat → Od := fun n => match n with | _ => .nil
theorem bits_has.eq (bA1 : Option Addr) (bL1 : Nat) (bC1 : Nat) (i1 : Int) (K : Value → Heap → Prop) (h : Heap) : fnX (cx bits_has.lo bits_has.od) Tryz.f146 (Tryz.f146.body.getD .skip) [.slice bA1 bL1 bC1, .int .i64 i1] K h = bits_has bA1 bL1 bC1 i1 K h := by kernel_rfl
theorem bits_has.chk : fnOk (cx bits_has.lo bits_has.od) Tryz.f146 (Tryz.f146.body.getD .skip) 2 = true := by kernel_rfl
theorem bits_has.ok {bA1 : Option Addr} {bL1 : Nat} {bC1 : Nat} {i1 : Int} {K : Value → Heap → Prop} {h : Heap} (hx : bits_has bA1 bL1 bC1 i1 K h) : C.bits_has bA1 bL1 bC1 i1 h K :=
  fn_to (cxOk _ _) Tryz.func146 (by kernel_rfl) bits_has.chk (by rw [bits_has.eq]; exact hx)

-- 147
def bits_on (bA1 : Option Addr) (bL1 : Nat) (bC1 : Nat) (i1 : Int) (K : Value → Heap → Prop) (h1 : Heap) : Prop :=
  (0 ≤ (IntKind.wrap .i64 (Int.tdiv i1 8)) ∧ (IntKind.wrap .i64 (Int.tdiv i1 8)) < (bL1 : Int)) ∧
  onSome bA1 fun p1 =>
  ∃ (n1 : Int), cellOf h1 (Addr.add p1 (Int.toNat (IntKind.wrap .i64 (Int.tdiv i1 8)))) = some (.int .u8 n1) ∧
  if (Int.tmod i1 8) < 0 then False else
  K (.bool ((bitsI .and .u8 (Int.fdiv n1 (2 ^ min (Int.toNat (Int.tmod i1 8)) 8)) 1) == 1)) h1
def bits_on.lo : Nat → List Nat × List (Nat × Ty) := fun n => match n with | _ => ([], [])
def bits_on.od : Nat → Od := fun n => match n with | _ => .nil
theorem bits_on.eq (bA1 : Option Addr) (bL1 : Nat) (bC1 : Nat) (i1 : Int) (K : Value → Heap → Prop) (h : Heap) : fnX (cx bits_on.lo bits_on.od) Tryz.f147 (Tryz.f147.body.getD .skip) [.slice bA1 bL1 bC1, .int .i64 i1] K h = bits_on bA1 bL1 bC1 i1 K h := by kernel_rfl
theorem bits_on.chk : fnOk (cx bits_on.lo bits_on.od) Tryz.f147 (Tryz.f147.body.getD .skip) 2 = true := by kernel_rfl
theorem bits_on.ok {bA1 : Option Addr} {bL1 : Nat} {bC1 : Nat} {i1 : Int} {K : Value → Heap → Prop} {h : Heap} (hx : bits_on bA1 bL1 bC1 i1 K h) : C.bits_on bA1 bL1 bC1 i1 h K :=
  fn_to (cxOk _ _) Tryz.func147 (by kernel_rfl) bits_on.chk (by rw [bits_on.eq]; exact hx)

-- 150
def bits_Runs_c1.k2 (yield1 : Value) (i1 : Int) (h2 : Heap) (I1 : Int → Heap → Prop) (M1 : Int → Heap → Nat) (i3 : Int) (i5 : Int) (h10 : Heap) (K : Value → Heap → Prop) : Prop :=
  bif (i5 == i3) then (
  K (.tuple #[]) h10) else (
  HCallsV Tryz.prog yield1 [.int .i64 i3, .int .i64 (IntKind.wrap .i64 (i5 - i3))] h10 fun r5 h11 =>
  ∃ (b5 : Bool), r5 = .bool b5 ∧
  bif (!b5) then (
  K (.tuple #[]) h11) else (
  I1 i5 h11 ∧ M1 i5 h11 < M1 i1 h2))
def bits_Runs_c1.k1 (yield1 : Value) (cap1 : Option Addr) (i1 : Int) (h2 : Heap) (I1 : Int → Heap → Prop) (M1 : Int → Heap → Nat) (i3 : Int) (h6 : Heap) (K : Value → Heap → Prop) : Prop :=
  ∃ (I3 : Int → Heap → Prop) (M3 : Int → Heap → Nat), I3 i3 h6 ∧
  ∀ (i4 : Int), ∀ h7 : Heap, I3 i4 h7 →
  onSome cap1 fun p3 =>
  ∃ (sA3 : Option Addr) (sL3 : Nat) (sC3 : Nat), cellOf h7 p3 = some (.slice sA3 sL3 sC3) ∧
  C.bits_has sA3 sL3 sC3 i4 h7 fun r3 h8 =>
  ∃ (b3 : Bool), r3 = .bool b3 ∧
  bif b3 then (
  onSome cap1 fun p4 =>
  ∃ (sA4 : Option Addr) (sL4 : Nat) (sC4 : Nat), cellOf h8 p4 = some (.slice sA4 sL4 sC4) ∧
  C.bits_on sA4 sL4 sC4 i4 h8 fun r4 h9 =>
  ∃ (b4 : Bool), r4 = .bool b4 ∧
  bif (!b4) then (
  I3 (IntKind.wrap .i64 (i4 + 1)) h9 ∧ M3 (IntKind.wrap .i64 (i4 + 1)) h9 < M3 i4 h7) else (
  bits_Runs_c1.k2 yield1 i1 h2 I1 M1 i3 i4 h9 K)) else (
  bits_Runs_c1.k2 yield1 i1 h2 I1 M1 i3 i4 h8 K)
def bits_Runs_c1 (yield1 : Value) (cap1 : Option Addr) (K : Value → Heap → Prop) (h1 : Heap) : Prop :=
  ∃ (I1 : Int → Heap → Prop) (M1 : Int → Heap → Nat), I1 0 h1 ∧
  ∀ (i1 : Int), ∀ h2 : Heap, I1 i1 h2 →
  ∃ (I2 : Int → Heap → Prop) (M2 : Int → Heap → Nat), I2 i1 h2 ∧
  ∀ (i2 : Int), ∀ h3 : Heap, I2 i2 h3 →
  onSome cap1 fun p1 =>
  ∃ (sA1 : Option Addr) (sL1 : Nat) (sC1 : Nat), cellOf h3 p1 = some (.slice sA1 sL1 sC1) ∧
  C.bits_has sA1 sL1 sC1 i2 h3 fun r1 h4 =>
  ∃ (b1 : Bool), r1 = .bool b1 ∧
  bif b1 then (
  onSome cap1 fun p2 =>
  ∃ (sA2 : Option Addr) (sL2 : Nat) (sC2 : Nat), cellOf h4 p2 = some (.slice sA2 sL2 sC2) ∧
  C.bits_on sA2 sL2 sC2 i2 h4 fun r2 h5 =>
  ∃ (b2 : Bool), r2 = .bool b2 ∧
  bif b2 then (
  I2 (IntKind.wrap .i64 (i2 + 1)) h5 ∧ M2 (IntKind.wrap .i64 (i2 + 1)) h5 < M2 i2 h3) else (
  bits_Runs_c1.k1 yield1 cap1 i1 h2 I1 M1 i2 h5 K)) else (
  bits_Runs_c1.k1 yield1 cap1 i1 h2 I1 M1 i2 h4 K)
def bits_Runs_c1.lo : Nat → List Nat × List (Nat × Ty) := fun n => match n with | 1 => ([0, 1], [(3, .int .i64)]) | 4 => ([0, 1, 4], [(3, .int .i64)]) | _ => ([], [])
def bits_Runs_c1.od : Nat → Od := fun n => match n with | _ => .nil
theorem bits_Runs_c1.eq (yield1 : Value) (cap1 : Option Addr) (K : Value → Heap → Prop) (h : Heap) : fnX (cx bits_Runs_c1.lo bits_Runs_c1.od) Tryz.f150 (Tryz.f150.body.getD .skip) [yield1, .pointer cap1] K h = bits_Runs_c1 yield1 cap1 K h := by kernel_rfl
theorem bits_Runs_c1.chk : fnOk (cx bits_Runs_c1.lo bits_Runs_c1.od) Tryz.f150 (Tryz.f150.body.getD .skip) 2 = true := by kernel_rfl
theorem bits_Runs_c1.ok {yield1 : Value} {cap1 : Option Addr} {K : Value → Heap → Prop} {h : Heap} (hx : bits_Runs_c1 yield1 cap1 K h) : C.bits_Runs_c1 yield1 cap1 h K :=
  fn_to (cxOk _ _) Tryz.func150 (by kernel_rfl) bits_Runs_c1.chk (by rw [bits_Runs_c1.eq]; exact hx)

-- 154
def inode_numbers (x1 : List Value) (K : Value → Heap → Prop) (h1 : Heap) : Prop :=
  New x1 44 h1 fun h2 =>
  New z238 238 h2 fun h3 =>
  New z238 238 h3 fun h4 =>
  CopyP ti3 (some ⟨h3.size, 0, none⟩) 12 (.slice (some (Addr.add ⟨h1.size, 0, none⟩ 3)) 10 10) h4 fun n1 h5 =>
  ∃ (n2 : Int), cellOf h5 (Addr.add ⟨h1.size, 0, none⟩ 13) = some (.int .i64 n2) ∧
  ∃ (n3 : Int), cellOf h5 (Addr.add ⟨h1.size, 0, none⟩ 14) = some (.int .i64 n3) ∧
  (0 ≤ (10 : Int) ∧ 10 < (12 : Int)) ∧
  Put (Addr.add ⟨h3.size, 0, none⟩ (Int.toNat 10)) (.int .i64 n2) h5 fun h6 =>
  (0 ≤ (11 : Int) ∧ 11 < (12 : Int)) ∧
  Put (Addr.add ⟨h3.size, 0, none⟩ (Int.toNat 11)) (.int .i64 n3) h6 fun h7 =>
  ∃ cs1 : List Value, List.length cs1 = 12 ∧ Cells h7 ⟨h3.size, 0, none⟩ cs1 ∧
  PutRow ⟨h2.size, 0, none⟩ cs1 12 h7 fun h8 =>
  ∃ res1 : List Value, List.length res1 = 12 ∧ Cells h8 ⟨h2.size, 0, none⟩ res1 ∧
  K (.agg ⟨res1⟩) h8
def inode_numbers.lo : Nat → List Nat × List (Nat × Ty) := fun n => match n with | _ => ([], [])
def inode_numbers.od : Nat → Od := fun n => match n with | 2 => (.op 0 [] (.op 1 [] (.op 2 [] (.op 3 [] .nil)))) | _ => .nil
theorem inode_numbers.eq (x1 : List Value) (K : Value → Heap → Prop) (h : Heap) : fnX (cx inode_numbers.lo inode_numbers.od) Tryz.f154 (Tryz.f154.body.getD .skip) [.agg ⟨x1⟩] K h = inode_numbers x1 K h := by kernel_rfl
theorem inode_numbers.chk : fnOk (cx inode_numbers.lo inode_numbers.od) Tryz.f154 (Tryz.f154.body.getD .skip) 1 = true := by kernel_rfl
theorem inode_numbers.ok {x1 : List Value} {K : Value → Heap → Prop} {h : Heap} (hx : inode_numbers x1 K h) : C.inode_numbers x1 h K :=
  fn_to (cxOk _ _) Tryz.func154 (by kernel_rfl) inode_numbers.chk (by rw [inode_numbers.eq]; exact hx)

-- 157
def bits_Put (bA1 : Option Addr) (bL1 : Nat) (bC1 : Nat) (i1 : Int) (is1 : Bool) (K : Value → Heap → Prop) (h1 : Heap) : Prop :=
  C.bits_has bA1 bL1 bC1 i1 h1 fun r1 h2 =>
  ∃ (b1 : Bool), r1 = .bool b1 ∧
  bif (!b1) then (
  K (.int .i64 80) h2) else (
  bif is1 then (
  (0 ≤ (IntKind.wrap .i64 (Int.tdiv i1 8)) ∧ (IntKind.wrap .i64 (Int.tdiv i1 8)) < (bL1 : Int)) ∧
  onSome bA1 fun p1 =>
  ∃ (n1 : Int), cellOf h2 (Addr.add p1 (Int.toNat (IntKind.wrap .i64 (Int.tdiv i1 8)))) = some (.int .u8 n1) ∧
  if (Int.tmod i1 8) < 0 then False else
  (0 ≤ (IntKind.wrap .i64 (Int.tdiv i1 8)) ∧ (IntKind.wrap .i64 (Int.tdiv i1 8)) < (bL1 : Int)) ∧
  onSome bA1 fun p2 =>
  Put (Addr.add p2 (Int.toNat (IntKind.wrap .i64 (Int.tdiv i1 8)))) (.int .u8 (bitsI .or .u8 n1 (IntKind.wrap .u8 ((1 * 2 ^ min (Int.toNat (Int.tmod i1 8)) 8))))) h2 fun h3 =>
  K (.int .i64 0) h3) else (
  (0 ≤ (IntKind.wrap .i64 (Int.tdiv i1 8)) ∧ (IntKind.wrap .i64 (Int.tdiv i1 8)) < (bL1 : Int)) ∧
  onSome bA1 fun p3 =>
  ∃ (n2 : Int), cellOf h2 (Addr.add p3 (Int.toNat (IntKind.wrap .i64 (Int.tdiv i1 8)))) = some (.int .u8 n2) ∧
  if (Int.tmod i1 8) < 0 then False else
  (0 ≤ (IntKind.wrap .i64 (Int.tdiv i1 8)) ∧ (IntKind.wrap .i64 (Int.tdiv i1 8)) < (bL1 : Int)) ∧
  onSome bA1 fun p4 =>
  Put (Addr.add p4 (Int.toNat (IntKind.wrap .i64 (Int.tdiv i1 8)))) (.int .u8 (bitsI .andNot .u8 n2 (IntKind.wrap .u8 ((1 * 2 ^ min (Int.toNat (Int.tmod i1 8)) 8))))) h2 fun h4 =>
  K (.int .i64 0) h4))
def bits_Put.lo : Nat → List Nat × List (Nat × Ty) := fun n => match n with | _ => ([], [])
def bits_Put.od : Nat → Od := fun n => match n with | 4 => (.op 0 [] (.op 1 [] (.op 2 [] (.op 3 [] (.op 4 [] (.op 5 [] (.op 6 [] (.op 7 [] (.op 8 [] (.op 9 [] (.op 10 [] .nil))))))))))) | 5 => (.op 0 [] (.op 1 [] (.op 2 [] (.op 3 [] (.op 4 [] (.op 5 [] (.op 6 [] (.op 7 [] (.op 8 [] (.op 9 [] (.op 10 [] .nil))))))))))) | _ => .nil
theorem bits_Put.eq (bA1 : Option Addr) (bL1 : Nat) (bC1 : Nat) (i1 : Int) (is1 : Bool) (K : Value → Heap → Prop) (h : Heap) : fnX (cx bits_Put.lo bits_Put.od) Tryz.f157 (Tryz.f157.body.getD .skip) [.slice bA1 bL1 bC1, .int .i64 i1, .bool is1] K h = bits_Put bA1 bL1 bC1 i1 is1 K h := by kernel_rfl
theorem bits_Put.chk : fnOk (cx bits_Put.lo bits_Put.od) Tryz.f157 (Tryz.f157.body.getD .skip) 3 = true := by kernel_rfl
theorem bits_Put.ok {bA1 : Option Addr} {bL1 : Nat} {bC1 : Nat} {i1 : Int} {is1 : Bool} {K : Value → Heap → Prop} {h : Heap} (hx : bits_Put bA1 bL1 bC1 i1 is1 K h) : C.bits_Put bA1 bL1 bC1 i1 is1 h K :=
  fn_to (cxOk _ _) Tryz.func157 (by kernel_rfl) bits_Put.chk (by rw [bits_Put.eq]; exact hx)

-- 158
def rec_isWidth (n1 : Int) (K : Value → Heap → Prop) (h1 : Heap) : Prop :=
  bif (decide (n1 ≥ 0)) then (
  bif (decide (n1 < 9)) then (
  (0 ≤ n1 ∧ n1 < (9 : Int)) ∧
  ∃ (b1 : Bool), cellOf h1 (Addr.add ⟨0, 0, none⟩ (Int.toNat n1)) = some (.bool b1) ∧
  K (.bool b1) h1) else (
  K (.bool false) h1)) else (
  K (.bool false) h1)
def rec_isWidth.lo : Nat → List Nat × List (Nat × Ty) := fun n => match n with | _ => ([], [])
def rec_isWidth.od : Nat → Od := fun n => match n with | _ => .nil
theorem rec_isWidth.eq (n1 : Int) (K : Value → Heap → Prop) (h : Heap) : fnX (cx rec_isWidth.lo rec_isWidth.od) Tryz.f158 (Tryz.f158.body.getD .skip) [.int .i64 n1] K h = rec_isWidth n1 K h := by kernel_rfl
theorem rec_isWidth.chk : fnOk (cx rec_isWidth.lo rec_isWidth.od) Tryz.f158 (Tryz.f158.body.getD .skip) 1 = true := by kernel_rfl
theorem rec_isWidth.ok {n1 : Int} {K : Value → Heap → Prop} {h : Heap} (hx : rec_isWidth n1 K h) : C.rec_isWidth n1 h K :=
  fn_to (cxOk _ _) Tryz.func158 (by kernel_rfl) rec_isWidth.chk (by rw [rec_isWidth.eq]; exact hx)

-- 159
def rec_lie (bA1 : Option Addr) (bL1 : Nat) (bC1 : Nat) (at1 : Int) (n1 : Int) (K : Value → Heap → Prop) (h1 : Heap) : Prop :=
  bif (decide (at1 ≥ 0)) then (
  bif (decide (n1 ≥ 0)) then (
  bif (decide (at1 ≤ (bL1 : Int))) then (
  K (.bool (decide (n1 ≤ (IntKind.wrap .i64 ((bL1 : Int) - at1))))) h1) else (
  K (.bool false) h1)) else (
  K (.bool false) h1)) else (
  K (.bool false) h1)
def rec_lie.lo : Nat → List Nat × List (Nat × Ty) := fun n => match n with | _ => ([], [])
def rec_lie.od : Nat → Od := fun n => match n with | _ => .nil
theorem rec_lie.eq (bA1 : Option Addr) (bL1 : Nat) (bC1 : Nat) (at1 : Int) (n1 : Int) (K : Value → Heap → Prop) (h : Heap) : fnX (cx rec_lie.lo rec_lie.od) Tryz.f159 (Tryz.f159.body.getD .skip) [.slice bA1 bL1 bC1, .int .i64 at1, .int .i64 n1] K h = rec_lie bA1 bL1 bC1 at1 n1 K h := by kernel_rfl
theorem rec_lie.chk : fnOk (cx rec_lie.lo rec_lie.od) Tryz.f159 (Tryz.f159.body.getD .skip) 3 = true := by kernel_rfl
theorem rec_lie.ok {bA1 : Option Addr} {bL1 : Nat} {bC1 : Nat} {at1 : Int} {n1 : Int} {K : Value → Heap → Prop} {h : Heap} (hx : rec_lie bA1 bL1 bC1 at1 n1 K h) : C.rec_lie bA1 bL1 bC1 at1 n1 h K :=
  fn_to (cxOk _ _) Tryz.func159 (by kernel_rfl) rec_lie.chk (by rw [rec_lie.eq]; exact hx)
end Go.Proofs.YtcdpakjhjmchhaaGreatDoor.W
