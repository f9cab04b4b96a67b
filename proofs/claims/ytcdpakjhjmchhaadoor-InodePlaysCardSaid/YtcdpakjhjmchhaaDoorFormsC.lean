/-
  WHAT THE FUNCTIONS COMPUTE, as formulas; each held against the loaded code by the kernel. Written by program (gen.py).
-/
import Derived.Test.YtcdpakjhjmchhaaDoorTab
namespace Go.Proofs.YtcdpakjhjmchhaaDoor.W
open Go Go.Proofs Go.Proofs.YtcdpakjhjmchhaaDoor.Wx
-- 45
def space_Free_c1_c1 (from1 : Int) (to1 : Int) (cap1 : Option Addr) (K : Value → Heap → Prop) (h1 : Heap) : Prop :=
  onSome cap1 fun p1 =>
  ∃ (n1 : Int), cellOf h1 p1 = some (.int .i64 n1) ∧
  onSome cap1 fun p2 =>
  Put p2 (.int .i64 (IntKind.wrap .i64 (n1 + (IntKind.wrap .i64 (to1 - from1))))) h1 fun h2 =>
  K (.bool true) h2
def space_Free_c1_c1.lo : Nat → List Nat × List (Nat × Ty) := fun n => match n with | _ => ([], [])
def space_Free_c1_c1.od : Nat → Od := fun n => match n with | _ => .nil
theorem space_Free_c1_c1.eq (from1 : Int) (to1 : Int) (cap1 : Option Addr) (K : Value → Heap → Prop) (h : Heap) : fnX (cx space_Free_c1_c1.lo space_Free_c1_c1.od) Tryd.f45 (Tryd.f45.body.getD .skip) [.int .i64 from1, .int .i64 to1, .pointer cap1] K h = space_Free_c1_c1 from1 to1 cap1 K h := by kernel_rfl
theorem space_Free_c1_c1.chk : fnOk (cx space_Free_c1_c1.lo space_Free_c1_c1.od) Tryd.f45 (Tryd.f45.body.getD .skip) 3 = true := by kernel_rfl
theorem space_Free_c1_c1.ok {from1 : Int} {to1 : Int} {cap1 : Option Addr} {K : Value → Heap → Prop} {h : Heap} (hx : space_Free_c1_c1 from1 to1 cap1 K h) : C.space_Free_c1_c1 from1 to1 cap1 h K :=
  fn_to (cxOk _ _) Tryd.func45 (by kernel_rfl) space_Free_c1_c1.chk (by rw [space_Free_c1_c1.eq]; exact hx)

-- 46
def space_Used (t1 : Option Addr) (g1 : List Value) (i1 : Int) (K : Value → Heap → Prop) (h1 : Heap) : Prop :=
  New g1 29 h1 fun h2 =>
  ∃ cs1 : List Value, List.length cs1 = 5 ∧ Cells h2 ⟨h1.size, 0, none⟩ cs1 ∧
  C.space_bit t1 cs1 i1 h2 fun r1 h3 =>
  ∃ (n1 : Int) (sA1 : Option Addr) (sL1 : Nat) (sC1 : Nat) (n2 : Int) (n3 : Int), r1 = .tuple #[.int .i64 n1, .slice sA1 sL1 sC1, .int .i64 n2, .int .i64 n3] ∧
  bif (n3 != 0) then (
  K (.tuple #[.bool false, .int .i64 n3]) h3) else (
  C.bits_Get sA1 sL1 sC1 n2 h3 fun r2 h4 =>
  ∃ (b1 : Bool) (n4 : Int), r2 = .tuple #[.bool b1, .int .i64 n4] ∧
  K (.tuple #[.bool b1, .int .i64 n4]) h4)
def space_Used.lo : Nat → List Nat × List (Nat × Ty) := fun n => match n with | _ => ([], [])
def space_Used.od : Nat → Od := fun n => match n with | _ => .nil
theorem space_Used.eq (t1 : Option Addr) (g1 : List Value) (i1 : Int) (K : Value → Heap → Prop) (h : Heap) : fnX (cx space_Used.lo space_Used.od) Tryd.f46 (Tryd.f46.body.getD .skip) [.pointer t1, .agg ⟨g1⟩, .int .i64 i1] K h = space_Used t1 g1 i1 K h := by kernel_rfl
theorem space_Used.chk : fnOk (cx space_Used.lo space_Used.od) Tryd.f46 (Tryd.f46.body.getD .skip) 3 = true := by kernel_rfl
theorem space_Used.ok {t1 : Option Addr} {g1 : List Value} {i1 : Int} {K : Value → Heap → Prop} {h : Heap} (hx : space_Used t1 g1 i1 K h) : C.space_Used t1 g1 i1 h K :=
  fn_to (cxOk _ _) Tryd.func46 (by kernel_rfl) space_Used.chk (by rw [space_Used.eq]; exact hx)

-- 47
def bmap_All_c1 (k1 : Int) (num1 : Int) (cap1 : Option Addr) (cap2 : Option Addr) (K : Value → Heap → Prop) (h1 : Heap) : Prop :=
  bif (num1 == 0) then (
  K (.int .i64 0) h1) else (
  onSome cap1 fun p1 =>
  ∃ (sA1 : Option Addr) (sL1 : Nat) (sC1 : Nat), cellOf h1 p1 = some (.slice sA1 sL1 sC1) ∧
  List.length ([.int .i64 k1, .int .i64 num1] : List Value) = 2 ∧
  New [.int .i64 k1, .int .i64 num1] 56 h1 fun h2 =>
  ∃ new1 : List Value, List.length new1 = 1 * 2 ∧ SlCells h2 (some ⟨h1.size, 0, none⟩) new1 ∧ (∀ v ∈ new1, v.oneCell' = true) ∧
  AppendP ti56 56 sA1 sL1 sC1 1 new1 h2 fun sA2 sL2 sC2 h3 =>
  onSome cap1 fun p2 =>
  Put p2 (.slice sA2 sL2 sC2) h3 fun h4 =>
  onSome cap2 fun p3 =>
  ∃ (q1 : Option Addr), cellOf h4 p3 = some (.pointer q1) ∧
  C.bmap_file_look q1 num1 h4 fun r1 h5 =>
  ∃ (n1 : Int), r1 = .int .i64 n1 ∧
  K (.int .i64 n1) h5)
def bmap_All_c1.lo : Nat → List Nat × List (Nat × Ty) := fun n => match n with | _ => ([], [])
def bmap_All_c1.od : Nat → Od := fun n => match n with | _ => .nil
theorem bmap_All_c1.eq (k1 : Int) (num1 : Int) (cap1 : Option Addr) (cap2 : Option Addr) (K : Value → Heap → Prop) (h : Heap) : fnX (cx bmap_All_c1.lo bmap_All_c1.od) Tryd.f47 (Tryd.f47.body.getD .skip) [.int .i64 k1, .int .i64 num1, .pointer cap1, .pointer cap2] K h = bmap_All_c1 k1 num1 cap1 cap2 K h := by kernel_rfl
theorem bmap_All_c1.chk : fnOk (cx bmap_All_c1.lo bmap_All_c1.od) Tryd.f47 (Tryd.f47.body.getD .skip) 4 = true := by kernel_rfl
theorem bmap_All_c1.ok {k1 : Int} {num1 : Int} {cap1 : Option Addr} {cap2 : Option Addr} {K : Value → Heap → Prop} {h : Heap} (hx : bmap_All_c1 k1 num1 cap1 cap2 K h) : C.bmap_All_c1 k1 num1 cap1 cap2 h K :=
  fn_to (cxOk _ _) Tryd.func47 (by kernel_rfl) bmap_All_c1.chk (by rw [bmap_All_c1.eq]; exact hx)

-- 48
def bmap_file_look (f1 : Option Addr) (num1 : Int) (K : Value → Heap → Prop) (h1 : Heap) : Prop :=
  onSome f1 fun p1 =>
  ∃ (n1 : Int), cellOf h1 (Addr.add (Addr.add p1 1) 3) = some (.int .i64 n1) ∧
  bif (decide (num1 < n1)) then (
  K (.int .i64 100) h1) else (
  onSome f1 fun p2 =>
  ∃ (n2 : Int), cellOf h1 (Addr.add (Addr.add p2 1) 0) = some (.int .i64 n2) ∧
  bif (decide (num1 ≥ n2)) then (
  K (.int .i64 100) h1) else (
  K (.int .i64 0) h1))
def bmap_file_look.lo : Nat → List Nat × List (Nat × Ty) := fun n => match n with | _ => ([], [])
def bmap_file_look.od : Nat → Od := fun n => match n with | _ => .nil
theorem bmap_file_look.eq (f1 : Option Addr) (num1 : Int) (K : Value → Heap → Prop) (h : Heap) : fnX (cx bmap_file_look.lo bmap_file_look.od) Tryd.f48 (Tryd.f48.body.getD .skip) [.pointer f1, .int .i64 num1] K h = bmap_file_look f1 num1 K h := by kernel_rfl
theorem bmap_file_look.chk : fnOk (cx bmap_file_look.lo bmap_file_look.od) Tryd.f48 (Tryd.f48.body.getD .skip) 2 = true := by kernel_rfl
theorem bmap_file_look.ok {f1 : Option Addr} {num1 : Int} {K : Value → Heap → Prop} {h : Heap} (hx : bmap_file_look f1 num1 K h) : C.bmap_file_look f1 num1 h K :=
  fn_to (cxOk _ _) Tryd.func48 (by kernel_rfl) bmap_file_look.chk (by rw [bmap_file_look.eq]; exact hx)

-- 49
def bmap_All_c2.k1 (do1 : Value) (sA2 : Option Addr) (sL2 : Nat) (e1 : Int) (i1 : Int) (h6 : Heap) (I1 : Int → Int → Heap → Prop) (M1 : Int → Int → Heap → Nat) (K : Value → Heap → Prop) : Prop :=
  (0 ≤ i1 ∧ i1 < (sL2 : Int)) ∧
  onSome sA2 fun p4 =>
  ∃ (n2 : Int), cellOf h6 (Addr.add p4 (Int.toNat i1)) = some (.int .i64 n2) ∧
  HCallsV Tryd.prog do1 [.int .i64 i1, .int .i64 n2] h6 fun r2 h7 =>
  ∃ (n3 : Int), r2 = .int .i64 n3 ∧
  I1 n3 (IntKind.wrap .i64 (i1 + 1)) h7 ∧ M1 n3 (IntKind.wrap .i64 (i1 + 1)) h7 < M1 e1 i1 h6
def bmap_All_c2 (table1 : Int) (do1 : Value) (cap1 : Option Addr) (cap2 : Option Addr) (K : Value → Heap → Prop) (h1 : Heap) : Prop :=
  bif (table1 == 0) then (
  K (.int .i64 0) h1) else (
  onSome cap1 fun p1 =>
  ∃ (q1 : Option Addr), cellOf h1 p1 = some (.pointer q1) ∧
  C.bmap_file_numbers q1 table1 h1 fun r1 h2 =>
  ∃ (sA1 : Option Addr) (sL1 : Nat) (sC1 : Nat) (sA2 : Option Addr) (sL2 : Nat) (sC2 : Nat) (n1 : Int), r1 = .tuple #[.slice sA1 sL1 sC1, .slice sA2 sL2 sC2, .int .i64 n1] ∧
  onSome cap2 fun p2 =>
  ∃ (sA3 : Option Addr) (sL3 : Nat) (sC3 : Nat), cellOf h2 p2 = some (.slice sA3 sL3 sC3) ∧
  New [.int .i64 table1] 3 h2 fun h3 =>
  ∃ new1 : List Value, List.length new1 = 1 * 1 ∧ SlCells h3 (some ⟨h2.size, 0, none⟩) new1 ∧ (∀ v ∈ new1, v.oneCell' = true) ∧
  AppendP ti3 3 sA3 sL3 sC3 1 new1 h3 fun sA4 sL4 sC4 h4 =>
  onSome cap2 fun p3 =>
  Put p3 (.slice sA4 sL4 sC4) h4 fun h5 =>
  ∃ (I1 : Int → Int → Heap → Prop) (M1 : Int → Int → Heap → Nat), I1 n1 0 h5 ∧
  ∀ (e1 : Int) (i1 : Int), ∀ h6 : Heap, I1 e1 i1 h6 →
  bif (decide (i1 < (sL2 : Int))) then (
  bif (e1 == 0) then (
  bmap_All_c2.k1 do1 sA2 sL2 e1 i1 h6 I1 M1 K) else (
  K (.int .i64 e1) h6)) else (
  K (.int .i64 e1) h6))
def bmap_All_c2.lo : Nat → List Nat × List (Nat × Ty) := fun n => match n with | 6 => ([1, 8], [(9, .int .i64), (10, .int .i64)]) | _ => ([], [])
def bmap_All_c2.od : Nat → Od := fun n => match n with | _ => .nil
theorem bmap_All_c2.eq (table1 : Int) (do1 : Value) (cap1 : Option Addr) (cap2 : Option Addr) (K : Value → Heap → Prop) (h : Heap) : fnX (cx bmap_All_c2.lo bmap_All_c2.od) Tryd.f49 (Tryd.f49.body.getD .skip) [.int .i64 table1, do1, .pointer cap1, .pointer cap2] K h = bmap_All_c2 table1 do1 cap1 cap2 K h := by kernel_rfl
theorem bmap_All_c2.chk : fnOk (cx bmap_All_c2.lo bmap_All_c2.od) Tryd.f49 (Tryd.f49.body.getD .skip) 4 = true := by kernel_rfl
theorem bmap_All_c2.ok {table1 : Int} {do1 : Value} {cap1 : Option Addr} {cap2 : Option Addr} {K : Value → Heap → Prop} {h : Heap} (hx : bmap_All_c2 table1 do1 cap1 cap2 K h) : C.bmap_All_c2 table1 do1 cap1 cap2 h K :=
  fn_to (cxOk _ _) Tryd.func49 (by kernel_rfl) bmap_All_c2.chk (by rw [bmap_All_c2.eq]; exact hx)

-- 50
def bmap_file_numbers (f1 : Option Addr) (table1 : Int) (K : Value → Heap → Prop) (h1 : Heap) : Prop :=
  C.bmap_file_look f1 table1 h1 fun r1 h2 =>
  ∃ (n1 : Int), r1 = .int .i64 n1 ∧
  bif (n1 != 0) then (
  K (.tuple #[.slice none 0 0, .slice none 0 0, .int .i64 n1]) h2) else (
  onSome f1 fun p1 =>
  ∃ (q1 : Option Addr), cellOf h2 (Addr.add p1 0) = some (.pointer q1) ∧
  C.txn_Txn_Read q1 table1 h2 fun r2 h3 =>
  ∃ (sA1 : Option Addr) (sL1 : Nat) (sC1 : Nat) (n2 : Int), r2 = .tuple #[.slice sA1 sL1 sC1, .int .i64 n2] ∧
  bif (n2 != 0) then (
  K (.tuple #[.slice none 0 0, .slice none 0 0, .int .i64 n2]) h3) else (
  (0 ≤ (128 : Int) ∧ (128 : Int) ≤ 128 ∧ (8 : Int) * 128 ≤ 281474976710656 ∧ (128 : Int) ≤ 281474976710656) ∧
  New (repCells z3 (Int.toNat 128)) 3 h3 fun h4 =>
  ∃ (I1 : Int → Heap → Prop) (M1 : Int → Heap → Nat), I1 0 h4 ∧
  ∀ (n3 : Int), ∀ h5 : Heap, I1 n3 h5 →
  bif (decide (n3 < ((Int.toNat 128) : Int))) then (
  C.rec_Get sA1 sL1 sC1 (IntKind.wrap .i64 (4 * n3)) 4 h5 fun r3 h6 =>
  ∃ (n4 : Int) (n5 : Int), r3 = .tuple #[.int .u64 n4, .int .i64 n5] ∧
  (0 ≤ n3 ∧ n3 < ((Int.toNat 128) : Int)) ∧
  Put (Addr.add ⟨h3.size, 0, none⟩ (Int.toNat n3)) (.int .i64 (IntKind.wrap .i64 (n4))) h6 fun h7 =>
  I1 (IntKind.wrap .i64 (n3 + 1)) h7 ∧ M1 (IntKind.wrap .i64 (n3 + 1)) h7 < M1 n3 h5) else (
  K (.tuple #[.slice sA1 sL1 sC1, .slice (some ⟨h3.size, 0, none⟩) (Int.toNat 128) (Int.toNat 128), .int .i64 0]) h5)))
def bmap_file_numbers.lo : Nat → List Nat × List (Nat × Ty) := fun n => match n with | 9 => ([8, 10, 34], [(35, .int .i64)]) | _ => ([], [])
def bmap_file_numbers.od : Nat → Od := fun n => match n with | _ => .nil
theorem bmap_file_numbers.eq (f1 : Option Addr) (table1 : Int) (K : Value → Heap → Prop) (h : Heap) : fnX (cx bmap_file_numbers.lo bmap_file_numbers.od) Tryd.f50 (Tryd.f50.body.getD .skip) [.pointer f1, .int .i64 table1] K h = bmap_file_numbers f1 table1 K h := by kernel_rfl
theorem bmap_file_numbers.chk : fnOk (cx bmap_file_numbers.lo bmap_file_numbers.od) Tryd.f50 (Tryd.f50.body.getD .skip) 2 = true := by kernel_rfl
theorem bmap_file_numbers.ok {f1 : Option Addr} {table1 : Int} {K : Value → Heap → Prop} {h : Heap} (hx : bmap_file_numbers f1 table1 K h) : C.bmap_file_numbers f1 table1 h K :=
  fn_to (cxOk _ _) Tryd.func50 (by kernel_rfl) bmap_file_numbers.chk (by rw [bmap_file_numbers.eq]; exact hx)

-- 51
def bmap_All_c3 (i1 : Int) (num1 : Int) (cap1 : Option Addr) (K : Value → Heap → Prop) (h1 : Heap) : Prop :=
  onSome cap1 fun p1 =>
  ∃ (v1 : Value), cellOf h1 p1 = some (v1) ∧
  HCallsV Tryd.prog v1 [.int .i64 (IntKind.wrap .i64 (10 + i1)), .int .i64 num1] h1 fun r1 h2 =>
  ∃ (n1 : Int), r1 = .int .i64 n1 ∧
  K (.int .i64 n1) h2
def bmap_All_c3.lo : Nat → List Nat × List (Nat × Ty) := fun n => match n with | _ => ([], [])
def bmap_All_c3.od : Nat → Od := fun n => match n with | _ => .nil
theorem bmap_All_c3.eq (i1 : Int) (num1 : Int) (cap1 : Option Addr) (K : Value → Heap → Prop) (h : Heap) : fnX (cx bmap_All_c3.lo bmap_All_c3.od) Tryd.f51 (Tryd.f51.body.getD .skip) [.int .i64 i1, .int .i64 num1, .pointer cap1] K h = bmap_All_c3 i1 num1 cap1 K h := by kernel_rfl
theorem bmap_All_c3.chk : fnOk (cx bmap_All_c3.lo bmap_All_c3.od) Tryd.f51 (Tryd.f51.body.getD .skip) 3 = true := by kernel_rfl
theorem bmap_All_c3.ok {i1 : Int} {num1 : Int} {cap1 : Option Addr} {K : Value → Heap → Prop} {h : Heap} (hx : bmap_All_c3 i1 num1 cap1 K h) : C.bmap_All_c3 i1 num1 cap1 h K :=
  fn_to (cxOk _ _) Tryd.func51 (by kernel_rfl) bmap_All_c3.chk (by rw [bmap_All_c3.eq]; exact hx)

-- 52
def bmap_All_c4 (i1 : Int) (table1 : Int) (cap1 : Option Addr) (cap2 : Option Addr) (K : Value → Heap → Prop) (h1 : Heap) : Prop :=
  New [.int .i64 i1] 3 h1 fun h2 =>
  onSome cap1 fun p1 =>
  ∃ (v1 : Value), cellOf h2 p1 = some (v1) ∧
  HCallsV Tryd.prog v1 [.int .i64 table1, .func (.func 53) #[] ⟨[.pointer cap2, .pointer (some ⟨h1.size, 0, none⟩)]⟩] h2 fun r1 h3 =>
  ∃ (n1 : Int), r1 = .int .i64 n1 ∧
  K (.int .i64 n1) h3
def bmap_All_c4.lo : Nat → List Nat × List (Nat × Ty) := fun n => match n with | _ => ([], [])
def bmap_All_c4.od : Nat → Od := fun n => match n with | _ => .nil
theorem bmap_All_c4.eq (i1 : Int) (table1 : Int) (cap1 : Option Addr) (cap2 : Option Addr) (K : Value → Heap → Prop) (h : Heap) : fnX (cx bmap_All_c4.lo bmap_All_c4.od) Tryd.f52 (Tryd.f52.body.getD .skip) [.int .i64 i1, .int .i64 table1, .pointer cap1, .pointer cap2] K h = bmap_All_c4 i1 table1 cap1 cap2 K h := by kernel_rfl
theorem bmap_All_c4.chk : fnOk (cx bmap_All_c4.lo bmap_All_c4.od) Tryd.f52 (Tryd.f52.body.getD .skip) 4 = true := by kernel_rfl
theorem bmap_All_c4.ok {i1 : Int} {table1 : Int} {cap1 : Option Addr} {cap2 : Option Addr} {K : Value → Heap → Prop} {h : Heap} (hx : bmap_All_c4 i1 table1 cap1 cap2 K h) : C.bmap_All_c4 i1 table1 cap1 cap2 h K :=
  fn_to (cxOk _ _) Tryd.func52 (by kernel_rfl) bmap_All_c4.chk (by rw [bmap_All_c4.eq]; exact hx)

-- 53
def bmap_All_c4_c1 (j1 : Int) (num1 : Int) (cap1 : Option Addr) (cap2 : Option Addr) (K : Value → Heap → Prop) (h1 : Heap) : Prop :=
  onSome cap1 fun p1 =>
  ∃ (v1 : Value), cellOf h1 p1 = some (v1) ∧
  onSome cap2 fun p2 =>
  ∃ (n1 : Int), cellOf h1 p2 = some (.int .i64 n1) ∧
  HCallsV Tryd.prog v1 [.int .i64 (IntKind.wrap .i64 ((IntKind.wrap .i64 (138 + (IntKind.wrap .i64 (n1 * 128)))) + j1)), .int .i64 num1] h1 fun r1 h2 =>
  ∃ (n2 : Int), r1 = .int .i64 n2 ∧
  K (.int .i64 n2) h2
def bmap_All_c4_c1.lo : Nat → List Nat × List (Nat × Ty) := fun n => match n with | _ => ([], [])
def bmap_All_c4_c1.od : Nat → Od := fun n => match n with | _ => .nil
theorem bmap_All_c4_c1.eq (j1 : Int) (num1 : Int) (cap1 : Option Addr) (cap2 : Option Addr) (K : Value → Heap → Prop) (h : Heap) : fnX (cx bmap_All_c4_c1.lo bmap_All_c4_c1.od) Tryd.f53 (Tryd.f53.body.getD .skip) [.int .i64 j1, .int .i64 num1, .pointer cap1, .pointer cap2] K h = bmap_All_c4_c1 j1 num1 cap1 cap2 K h := by kernel_rfl
theorem bmap_All_c4_c1.chk : fnOk (cx bmap_All_c4_c1.lo bmap_All_c4_c1.od) Tryd.f53 (Tryd.f53.body.getD .skip) 4 = true := by kernel_rfl
theorem bmap_All_c4_c1.ok {j1 : Int} {num1 : Int} {cap1 : Option Addr} {cap2 : Option Addr} {K : Value → Heap → Prop} {h : Heap} (hx : bmap_All_c4_c1 j1 num1 cap1 cap2 K h) : C.bmap_All_c4_c1 j1 num1 cap1 cap2 h K :=
  fn_to (cxOk _ _) Tryd.func53 (by kernel_rfl) bmap_All_c4_c1.chk (by rw [bmap_All_c4_c1.eq]; exact hx)

-- 54
def adisk_New (n1 : Int) (K : Value → Heap → Prop) (h1 : Heap) : Prop :=
  bif (decide (n1 < 1)) then (
  K (.tuple #[.pointer none, .int .i64 32]) h1) else (
  bif (decide (n1 > 16384)) then (
  K (.tuple #[.pointer none, .int .i64 32]) h1) else (
  (0 ≤ n1 ∧ n1 ≤ n1 ∧ (512 : Int) * n1 ≤ 281474976710656 ∧ n1 ≤ 281474976710656) ∧
  New (repCells z145 (Int.toNat n1)) 145 h1 fun h2 =>
  New [.slice (some ⟨h1.size, 0, none⟩) (Int.toNat n1) (Int.toNat n1), .slice none 0 0, .int .i64 0, .slice none 0 0, .bool false, .int .i64 0, .int .i64 0, .slice none 0 0] 143 h2 fun h3 =>
  K (.tuple #[.pointer (some ⟨h2.size, 0, none⟩), .int .i64 0]) h3))
def adisk_New.lo : Nat → List Nat × List (Nat × Ty) := fun n => match n with | _ => ([], [])
def adisk_New.od : Nat → Od := fun n => match n with | _ => .nil
set_option maxRecDepth 1000000 in
theorem adisk_New.eq (n1 : Int) (K : Value → Heap → Prop) (h : Heap) : fnX (cx adisk_New.lo adisk_New.od) Tryd.f54 (Tryd.f54.body.getD .skip) [.int .i64 n1] K h = adisk_New n1 K h := by kernel_rfl
theorem adisk_New.chk : fnOk (cx adisk_New.lo adisk_New.od) Tryd.f54 (Tryd.f54.body.getD .skip) 1 = true := by kernel_rfl
set_option maxRecDepth 1000000 in
theorem adisk_New.ok {n1 : Int} {K : Value → Heap → Prop} {h : Heap} (hx : adisk_New n1 K h) : C.adisk_New n1 h K :=
  fn_to (cxOk _ _) Tryd.func54 (by kernel_rfl) adisk_New.chk (by rw [adisk_New.eq]; exact hx)

-- 55
def boleref07_Of.k1 (n1 : Int) (h1 : Heap) (h5 : Heap) (K : Value → Heap → Prop) : Prop :=
  NewRow z29 29 [.int .i64 n1, .int .i64 98, .int .i64 98, .int .i64 0, .int .i64 0] 5 h5 fun h7 =>
  ∃ (I1 : Int → Heap → Prop) (M1 : Int → Heap → Nat), I1 0 h7 ∧
  ∀ (told1 : Int), ∀ h8 : Heap, I1 told1 h8 →
  bif (decide (told1 < n1)) then (
  ∃ (n2 : Int), cellOf h8 (Addr.add ⟨h5.size, 0, none⟩ 2) = some (.int .i64 n2) ∧
  Put (Addr.add ⟨h5.size, 0, none⟩ 2) (.int .i64 (IntKind.wrap .i64 (n2 + 1))) h8 fun h9 =>
  I1 (IntKind.wrap .i64 (told1 + 4096)) h9 ∧ M1 (IntKind.wrap .i64 (told1 + 4096)) h9 < M1 told1 h8) else (
  ∃ (n3 : Int), cellOf h8 (Addr.add ⟨h5.size, 0, none⟩ 2) = some (.int .i64 n3) ∧
  Put (Addr.add ⟨h5.size, 0, none⟩ 3) (.int .i64 n3) h8 fun h10 =>
  ∃ (I2 : Int → Heap → Prop) (M2 : Int → Heap → Nat), I2 64 h10 ∧
  ∀ (row1 : Int), ∀ h11 : Heap, I2 row1 h11 →
  bif (decide (row1 ≤ n1)) then (
  ∃ (n4 : Int), cellOf h11 (Addr.add ⟨h5.size, 0, none⟩ 3) = some (.int .i64 n4) ∧
  Put (Addr.add ⟨h5.size, 0, none⟩ 3) (.int .i64 (IntKind.wrap .i64 (n4 + 1))) h11 fun h12 =>
  ∃ (n5 : Int), cellOf h12 (Addr.add ⟨h5.size, 0, none⟩ 4) = some (.int .i64 n5) ∧
  Put (Addr.add ⟨h5.size, 0, none⟩ 4) (.int .i64 (IntKind.wrap .i64 (n5 + 8))) h12 fun h13 =>
  I2 (IntKind.wrap .i64 (row1 + 64)) h13 ∧ M2 (IntKind.wrap .i64 (row1 + 64)) h13 < M2 row1 h11) else (
  ∃ cs1 : List Value, List.length cs1 = 5 ∧ Cells h11 ⟨h5.size, 0, none⟩ cs1 ∧
  PutRow ⟨h1.size, 0, none⟩ cs1 5 h11 fun h14 =>
  ∃ res3 : List Value, List.length res3 = 5 ∧ Cells h14 ⟨h1.size, 0, none⟩ res3 ∧
  K (.tuple #[.agg ⟨res3⟩, .int .i64 0]) h14))
def boleref07_Of (n1 : Int) (K : Value → Heap → Prop) (h1 : Heap) : Prop :=
  New z29 29 h1 fun h2 =>
  bif (decide (n1 < 128)) then (
  PutRow ⟨h1.size, 0, none⟩ [.int .i64 0, .int .i64 0, .int .i64 0, .int .i64 0, .int .i64 0] 5 h2 fun h3 =>
  ∃ res1 : List Value, List.length res1 = 5 ∧ Cells h3 ⟨h1.size, 0, none⟩ res1 ∧
  K (.tuple #[.agg ⟨res1⟩, .int .i64 70]) h3) else (
  bif (decide (n1 > 16384)) then (
  PutRow ⟨h1.size, 0, none⟩ [.int .i64 0, .int .i64 0, .int .i64 0, .int .i64 0, .int .i64 0] 5 h2 fun h4 =>
  ∃ res2 : List Value, List.length res2 = 5 ∧ Cells h4 ⟨h1.size, 0, none⟩ res2 ∧
  K (.tuple #[.agg ⟨res2⟩, .int .i64 70]) h4) else (
  boleref07_Of.k1 n1 h1 h2 K))
def boleref07_Of.lo : Nat → List Nat × List (Nat × Ty) := fun n => match n with | 5 => ([0, 2, 4], [(5, .int .i64)]) | 10 => ([0, 2, 4], [(6, .int .i64)]) | _ => ([], [])
def boleref07_Of.od : Nat → Od := fun n => match n with | _ => .nil
set_option maxRecDepth 1000000 in
theorem boleref07_Of.eq (n1 : Int) (K : Value → Heap → Prop) (h : Heap) : fnX (cx boleref07_Of.lo boleref07_Of.od) Tryd.f55 (Tryd.f55.body.getD .skip) [.int .i64 n1] K h = boleref07_Of n1 K h := by kernel_rfl
theorem boleref07_Of.chk : fnOk (cx boleref07_Of.lo boleref07_Of.od) Tryd.f55 (Tryd.f55.body.getD .skip) 1 = true := by kernel_rfl
set_option maxRecDepth 1000000 in
theorem boleref07_Of.ok {n1 : Int} {K : Value → Heap → Prop} {h : Heap} (hx : boleref07_Of n1 K h) : C.boleref07_Of n1 h K :=
  fn_to (cxOk _ _) Tryd.func55 (by kernel_rfl) boleref07_Of.chk (by rw [boleref07_Of.eq]; exact hx)

-- 56
def bolelaw11_plain  (K : Value → Heap → Prop) (h1 : Heap) : Prop :=
  New z35 35 h1 fun h2 =>
  NewRow z35 35 [.int .i64 1, .int .i64 1, .int .i64 5, .int .i64 0, .int .i64 0, .int .i64 0, .int .i64 0, .int .i64 0, .int .i64 0, .int .i64 0, .int .i64 0, .int .i64 0, .int .i64 0, .int .i64 0, .int .i64 0] 15 h2 fun h4 =>
  (0 ≤ (0 : Int) ∧ 0 < (10 : Int)) ∧
  Put (Addr.add (Addr.add ⟨h2.size, 0, none⟩ 3) (Int.toNat 0)) (.int .i64 101) h4 fun h5 =>
  ∃ cs1 : List Value, List.length cs1 = 15 ∧ Cells h5 ⟨h2.size, 0, none⟩ cs1 ∧
  PutRow ⟨h1.size, 0, none⟩ cs1 15 h5 fun h6 =>
  ∃ res1 : List Value, List.length res1 = 15 ∧ Cells h6 ⟨h1.size, 0, none⟩ res1 ∧
  K (.agg ⟨res1⟩) h6
def bolelaw11_plain.lo : Nat → List Nat × List (Nat × Ty) := fun n => match n with | _ => ([], [])
def bolelaw11_plain.od : Nat → Od := fun n => match n with | _ => .nil
theorem bolelaw11_plain.eq  (K : Value → Heap → Prop) (h : Heap) : fnX (cx bolelaw11_plain.lo bolelaw11_plain.od) Tryd.f56 (Tryd.f56.body.getD .skip) [] K h = bolelaw11_plain  K h := by kernel_rfl
theorem bolelaw11_plain.chk : fnOk (cx bolelaw11_plain.lo bolelaw11_plain.od) Tryd.f56 (Tryd.f56.body.getD .skip) 0 = true := by kernel_rfl
theorem bolelaw11_plain.ok  {K : Value → Heap → Prop} {h : Heap} (hx : bolelaw11_plain  K h) : C.bolelaw11_plain  h K :=
  fn_to (cxOk _ _) Tryd.func56 (by kernel_rfl) bolelaw11_plain.chk (by rw [bolelaw11_plain.eq]; exact hx)

-- 57
def inode_Encode (x1 : List Value) (K : Value → Heap → Prop) (h1 : Heap) : Prop :=
  New x1 35 h1 fun h2 =>
  ∃ cs1 : List Value, List.length cs1 = 15 ∧ Cells h2 ⟨h1.size, 0, none⟩ cs1 ∧
  C.inode_may cs1 h2 fun r1 h3 =>
  ∃ (b1 : Bool), r1 = .bool b1 ∧
  bif (!b1) then (
  K (.tuple #[.slice none 0 0, .int .i64 111]) h3) else (
  (0 ≤ (64 : Int) ∧ (64 : Int) ≤ 64 ∧ (1 : Int) * 64 ≤ 281474976710656 ∧ (64 : Int) ≤ 281474976710656) ∧
  New (repCells z5 (Int.toNat 64)) 5 h3 fun h4 =>
  ∃ (n1 : Int), cellOf h4 (Addr.add ⟨h1.size, 0, none⟩ 0) = some (.int .i64 n1) ∧
  C.rec_Put (some ⟨h3.size, 0, none⟩) (Int.toNat 64) (Int.toNat 64) 0 1 (IntKind.wrap .u64 (n1)) h4 fun r2 h5 =>
  ∃ (n2 : Int), r2 = .int .i64 n2 ∧
  ∃ (n3 : Int), cellOf h5 (Addr.add ⟨h1.size, 0, none⟩ 1) = some (.int .i64 n3) ∧
  C.rec_Put (some ⟨h3.size, 0, none⟩) (Int.toNat 64) (Int.toNat 64) 2 2 (IntKind.wrap .u64 (n3)) h5 fun r3 h6 =>
  ∃ (n4 : Int), r3 = .int .i64 n4 ∧
  ∃ (n5 : Int), cellOf h6 (Addr.add ⟨h1.size, 0, none⟩ 2) = some (.int .i64 n5) ∧
  C.rec_Put (some ⟨h3.size, 0, none⟩) (Int.toNat 64) (Int.toNat 64) 4 4 (IntKind.wrap .u64 (n5)) h6 fun r4 h7 =>
  ∃ (n6 : Int), r4 = .int .i64 n6 ∧
  ∃ cs2 : List Value, List.length cs2 = 15 ∧ Cells h7 ⟨h1.size, 0, none⟩ cs2 ∧
  C.inode_numbers cs2 h7 fun r5 h8 =>
  ∃ (cs3 : List Value), r5 = .agg ⟨cs3⟩ ∧
  ∃ (I1 : Int → Heap → Prop) (M1 : Int → Heap → Nat), I1 0 h8 ∧
  ∀ (n7 : Int), ∀ h9 : Heap, I1 n7 h9 →
  bif (decide (n7 < 12)) then (
  (0 ≤ n7 ∧ n7 < (12 : Int)) ∧
  ∃ (n8 : Int), cs3[(Int.toNat n7)]? = some (.int .i64 n8) ∧
  C.rec_Put (some ⟨h3.size, 0, none⟩) (Int.toNat 64) (Int.toNat 64) (IntKind.wrap .i64 (8 + (IntKind.wrap .i64 (4 * n7)))) 4 (IntKind.wrap .u64 (n8)) h9 fun r6 h10 =>
  ∃ (n9 : Int), r6 = .int .i64 n9 ∧
  I1 (IntKind.wrap .i64 (n7 + 1)) h10 ∧ M1 (IntKind.wrap .i64 (n7 + 1)) h10 < M1 n7 h9) else (
  K (.tuple #[.slice (some ⟨h3.size, 0, none⟩) (Int.toNat 64) (Int.toNat 64), .int .i64 0]) h9))
def inode_Encode.lo : Nat → List Nat × List (Nat × Ty) := fun n => match n with | 8 => ([4, 27], [(28, .int .i64)]) | _ => ([], [])
def inode_Encode.od : Nat → Od := fun n => match n with | _ => .nil
theorem inode_Encode.eq (x1 : List Value) (K : Value → Heap → Prop) (h : Heap) : fnX (cx inode_Encode.lo inode_Encode.od) Tryd.f57 (Tryd.f57.body.getD .skip) [.agg ⟨x1⟩] K h = inode_Encode x1 K h := by kernel_rfl
theorem inode_Encode.chk : fnOk (cx inode_Encode.lo inode_Encode.od) Tryd.f57 (Tryd.f57.body.getD .skip) 1 = true := by kernel_rfl
theorem inode_Encode.ok {x1 : List Value} {K : Value → Heap → Prop} {h : Heap} (hx : inode_Encode x1 K h) : C.inode_Encode x1 h K :=
  fn_to (cxOk _ _) Tryd.func57 (by kernel_rfl) inode_Encode.chk (by rw [inode_Encode.eq]; exact hx)

-- 58
def inode_Decode (bA1 : Option Addr) (bL1 : Nat) (bC1 : Nat) (K : Value → Heap → Prop) (h1 : Heap) : Prop :=
  New [.slice bA1 bL1 bC1] 72 h1 fun h2 =>
  New z35 35 h2 fun h3 =>
  ∃ (sA1 : Option Addr) (sL1 : Nat) (sC1 : Nat), cellOf h3 ⟨h1.size, 0, none⟩ = some (.slice sA1 sL1 sC1) ∧
  bif ((sL1 : Int) != 64) then (
  PutRow ⟨h2.size, 0, none⟩ [.int .i64 0, .int .i64 0, .int .i64 0, .int .i64 0, .int .i64 0, .int .i64 0, .int .i64 0, .int .i64 0, .int .i64 0, .int .i64 0, .int .i64 0, .int .i64 0, .int .i64 0, .int .i64 0, .int .i64 0] 15 h3 fun h4 =>
  ∃ res1 : List Value, List.length res1 = 15 ∧ Cells h4 ⟨h2.size, 0, none⟩ res1 ∧
  K (.tuple #[.agg ⟨res1⟩, .int .i64 32]) h4) else (
  C.inode_Decode_c1 0 1 (some ⟨h1.size, 0, none⟩) h3 fun r1 h5 =>
  ∃ (n1 : Int), r1 = .int .i64 n1 ∧
  C.inode_Decode_c1 2 2 (some ⟨h1.size, 0, none⟩) h5 fun r2 h6 =>
  ∃ (n2 : Int), r2 = .int .i64 n2 ∧
  C.inode_Decode_c1 4 4 (some ⟨h1.size, 0, none⟩) h6 fun r3 h7 =>
  ∃ (n3 : Int), r3 = .int .i64 n3 ∧
  C.inode_Decode_c1 48 4 (some ⟨h1.size, 0, none⟩) h7 fun r4 h8 =>
  ∃ (n4 : Int), r4 = .int .i64 n4 ∧
  C.inode_Decode_c1 52 4 (some ⟨h1.size, 0, none⟩) h8 fun r5 h9 =>
  ∃ (n5 : Int), r5 = .int .i64 n5 ∧
  NewRow z35 35 [.int .i64 n1, .int .i64 n2, .int .i64 n3, .int .i64 0, .int .i64 0, .int .i64 0, .int .i64 0, .int .i64 0, .int .i64 0, .int .i64 0, .int .i64 0, .int .i64 0, .int .i64 0, .int .i64 n4, .int .i64 n5] 15 h9 fun h11 =>
  ∃ (I1 : Int → Heap → Prop) (M1 : Int → Heap → Nat), I1 0 h11 ∧
  ∀ (n6 : Int), ∀ h12 : Heap, I1 n6 h12 →
  bif (decide (n6 < 10)) then (
  C.inode_Decode_c1 (IntKind.wrap .i64 (8 + (IntKind.wrap .i64 (4 * n6)))) 4 (some ⟨h1.size, 0, none⟩) h12 fun r6 h13 =>
  ∃ (n7 : Int), r6 = .int .i64 n7 ∧
  (0 ≤ n6 ∧ n6 < (10 : Int)) ∧
  Put (Addr.add (Addr.add ⟨h9.size, 0, none⟩ 3) (Int.toNat n6)) (.int .i64 n7) h13 fun h14 =>
  I1 (IntKind.wrap .i64 (n6 + 1)) h14 ∧ M1 (IntKind.wrap .i64 (n6 + 1)) h14 < M1 n6 h12) else (
  ∃ (sA2 : Option Addr) (sL2 : Nat) (sC2 : Nat), cellOf h12 ⟨h1.size, 0, none⟩ = some (.slice sA2 sL2 sC2) ∧
  C.rec_Zero sA2 sL2 sC2 1 1 h12 fun r7 h15 =>
  ∃ (b1 : Bool) (n8 : Int), r7 = .tuple #[.bool b1, .int .i64 n8] ∧
  ∃ (sA3 : Option Addr) (sL3 : Nat) (sC3 : Nat), cellOf h15 ⟨h1.size, 0, none⟩ = some (.slice sA3 sL3 sC3) ∧
  C.rec_Zero sA3 sL3 sC3 56 8 h15 fun r8 h16 =>
  ∃ (b2 : Bool) (n9 : Int), r8 = .tuple #[.bool b2, .int .i64 n9] ∧
  bif (!b1) then (
  PutRow ⟨h2.size, 0, none⟩ [.int .i64 0, .int .i64 0, .int .i64 0, .int .i64 0, .int .i64 0, .int .i64 0, .int .i64 0, .int .i64 0, .int .i64 0, .int .i64 0, .int .i64 0, .int .i64 0, .int .i64 0, .int .i64 0, .int .i64 0] 15 h16 fun h17 =>
  ∃ res2 : List Value, List.length res2 = 15 ∧ Cells h17 ⟨h2.size, 0, none⟩ res2 ∧
  K (.tuple #[.agg ⟨res2⟩, .int .i64 111]) h17) else (
  bif (!b2) then (
  PutRow ⟨h2.size, 0, none⟩ [.int .i64 0, .int .i64 0, .int .i64 0, .int .i64 0, .int .i64 0, .int .i64 0, .int .i64 0, .int .i64 0, .int .i64 0, .int .i64 0, .int .i64 0, .int .i64 0, .int .i64 0, .int .i64 0, .int .i64 0] 15 h16 fun h18 =>
  ∃ res3 : List Value, List.length res3 = 15 ∧ Cells h18 ⟨h2.size, 0, none⟩ res3 ∧
  K (.tuple #[.agg ⟨res3⟩, .int .i64 111]) h18) else (
  ∃ cs1 : List Value, List.length cs1 = 15 ∧ Cells h16 ⟨h9.size, 0, none⟩ cs1 ∧
  C.inode_may cs1 h16 fun r9 h19 =>
  ∃ (b3 : Bool), r9 = .bool b3 ∧
  bif (!b3) then (
  PutRow ⟨h2.size, 0, none⟩ [.int .i64 0, .int .i64 0, .int .i64 0, .int .i64 0, .int .i64 0, .int .i64 0, .int .i64 0, .int .i64 0, .int .i64 0, .int .i64 0, .int .i64 0, .int .i64 0, .int .i64 0, .int .i64 0, .int .i64 0] 15 h19 fun h20 =>
  ∃ res4 : List Value, List.length res4 = 15 ∧ Cells h20 ⟨h2.size, 0, none⟩ res4 ∧
  K (.tuple #[.agg ⟨res4⟩, .int .i64 111]) h20) else (
  ∃ cs2 : List Value, List.length cs2 = 15 ∧ Cells h19 ⟨h9.size, 0, none⟩ cs2 ∧
  PutRow ⟨h2.size, 0, none⟩ cs2 15 h19 fun h21 =>
  ∃ res5 : List Value, List.length res5 = 15 ∧ Cells h21 ⟨h2.size, 0, none⟩ res5 ∧
  K (.tuple #[.agg ⟨res5⟩, .int .i64 0]) h21)))))
def inode_Decode.lo : Nat → List Nat × List (Nat × Ty) := fun n => match n with | 6 => ([1, 2, 4, 5], [(27, .int .i64)]) | _ => ([], [])
def inode_Decode.od : Nat → Od := fun n => match n with | _ => .nil
theorem inode_Decode.eq (bA1 : Option Addr) (bL1 : Nat) (bC1 : Nat) (K : Value → Heap → Prop) (h : Heap) : fnX (cx inode_Decode.lo inode_Decode.od) Tryd.f58 (Tryd.f58.body.getD .skip) [.slice bA1 bL1 bC1] K h = inode_Decode bA1 bL1 bC1 K h := by kernel_rfl
theorem inode_Decode.chk : fnOk (cx inode_Decode.lo inode_Decode.od) Tryd.f58 (Tryd.f58.body.getD .skip) 1 = true := by kernel_rfl
theorem inode_Decode.ok {bA1 : Option Addr} {bL1 : Nat} {bC1 : Nat} {K : Value → Heap → Prop} {h : Heap} (hx : inode_Decode bA1 bL1 bC1 K h) : C.inode_Decode bA1 bL1 bC1 h K :=
  fn_to (cxOk _ _) Tryd.func58 (by kernel_rfl) inode_Decode.chk (by rw [inode_Decode.eq]; exact hx)

-- 59
def inode_isInode (g1 : List Value) (n1 : Int) (K : Value → Heap → Prop) (h1 : Heap) : Prop :=
  New g1 29 h1 fun h2 =>
  ∃ (n2 : Int), cellOf h2 (Addr.add ⟨h1.size, 0, none⟩ 4) = some (.int .i64 n2) ∧
  C.inode_within n1 1 (IntKind.wrap .i64 (n2 - 1)) h2 fun r1 h3 =>
  ∃ (b1 : Bool), r1 = .bool b1 ∧
  K (.bool b1) h3
def inode_isInode.lo : Nat → List Nat × List (Nat × Ty) := fun n => match n with | _ => ([], [])
def inode_isInode.od : Nat → Od := fun n => match n with | _ => .nil
theorem inode_isInode.eq (g1 : List Value) (n1 : Int) (K : Value → Heap → Prop) (h : Heap) : fnX (cx inode_isInode.lo inode_isInode.od) Tryd.f59 (Tryd.f59.body.getD .skip) [.agg ⟨g1⟩, .int .i64 n1] K h = inode_isInode g1 n1 K h := by kernel_rfl
theorem inode_isInode.chk : fnOk (cx inode_isInode.lo inode_isInode.od) Tryd.f59 (Tryd.f59.body.getD .skip) 2 = true := by kernel_rfl
theorem inode_isInode.ok {g1 : List Value} {n1 : Int} {K : Value → Heap → Prop} {h : Heap} (hx : inode_isInode g1 n1 K h) : C.inode_isInode g1 n1 h K :=
  fn_to (cxOk _ _) Tryd.func59 (by kernel_rfl) inode_isInode.chk (by rw [inode_isInode.eq]; exact hx)

-- 60
def inode_place (t1 : Option Addr) (g1 : List Value) (n1 : Int) (K : Value → Heap → Prop) (h1 : Heap) : Prop :=
  New g1 29 h1 fun h2 =>
  ∃ cs1 : List Value, List.length cs1 = 5 ∧ Cells h2 ⟨h1.size, 0, none⟩ cs1 ∧
  C.geo_Record cs1 n1 h2 fun r1 h3 =>
  ∃ (n2 : Int) (n3 : Int) (n4 : Int), r1 = .tuple #[.int .i64 n2, .int .i64 n3, .int .i64 n4] ∧
  bif (n4 != 0) then (
  K (.tuple #[.int .i64 0, .slice none 0 0, .int .i64 0, .int .i64 n4]) h3) else (
  C.txn_Txn_Read t1 n2 h3 fun r2 h4 =>
  ∃ (sA1 : Option Addr) (sL1 : Nat) (sC1 : Nat) (n5 : Int), r2 = .tuple #[.slice sA1 sL1 sC1, .int .i64 n5] ∧
  K (.tuple #[.int .i64 n2, .slice sA1 sL1 sC1, .int .i64 n3, .int .i64 n5]) h4)
def inode_place.lo : Nat → List Nat × List (Nat × Ty) := fun n => match n with | _ => ([], [])
def inode_place.od : Nat → Od := fun n => match n with | _ => .nil
theorem inode_place.eq (t1 : Option Addr) (g1 : List Value) (n1 : Int) (K : Value → Heap → Prop) (h : Heap) : fnX (cx inode_place.lo inode_place.od) Tryd.f60 (Tryd.f60.body.getD .skip) [.pointer t1, .agg ⟨g1⟩, .int .i64 n1] K h = inode_place t1 g1 n1 K h := by kernel_rfl
theorem inode_place.chk : fnOk (cx inode_place.lo inode_place.od) Tryd.f60 (Tryd.f60.body.getD .skip) 3 = true := by kernel_rfl
theorem inode_place.ok {t1 : Option Addr} {g1 : List Value} {n1 : Int} {K : Value → Heap → Prop} {h : Heap} (hx : inode_place t1 g1 n1 K h) : C.inode_place t1 g1 n1 h K :=
  fn_to (cxOk _ _) Tryd.func60 (by kernel_rfl) inode_place.chk (by rw [inode_place.eq]; exact hx)

-- 61
def txn_Txn_Write.k1 (bA1 : Option Addr) (bL1 : Nat) (bC1 : Nat) (h1 : Heap) (h2 : Heap) (was1 : Option Addr) (ok1 : Option Addr) (h8 : Heap) (K : Value → Heap → Prop) : Prop :=
  ∃ (q2 : Option Addr), cellOf h8 ⟨h1.size, 0, none⟩ = some (.pointer q2) ∧
  onSome q2 fun p2 =>
  ∃ (b1 : Bool), cellOf h8 (Addr.add p2 3) = some (.bool b1) ∧
  bif b1 then (
  K (.int .i64 61) h8) else (
  ∃ (n2 : Int), cellOf h8 ⟨h2.size, 0, none⟩ = some (.int .i64 n2) ∧
  bif (decide (n2 < 98)) then (
  K (.int .i64 31) h8) else (
  ∃ (n3 : Int), cellOf h8 ⟨h2.size, 0, none⟩ = some (.int .i64 n3) ∧
  ∃ (q3 : Option Addr), cellOf h8 ⟨h1.size, 0, none⟩ = some (.pointer q3) ∧
  onSome q3 fun p3 =>
  ∃ (q4 : Option Addr), cellOf h8 (Addr.add p3 0) = some (.pointer q4) ∧
  C.adisk_Disk_Blocks q4 h8 fun r1 h9 =>
  ∃ (n4 : Int), r1 = .int .i64 n4 ∧
  (cellOf h9 ⟨h2.size, 0, none⟩ = some (.int .i64 n3)) ∧
  bif (decide (n3 ≥ n4)) then (
  K (.int .i64 31) h9) else (
  bif ((bL1 : Int) != 512) then (
  K (.int .i64 32) h9) else (
  onSome ok1 fun p4 =>
  ∃ (b2 : Bool), cellOf h9 p4 = some (.bool b2) ∧
  bif (!b2) then (
  ∃ (q5 : Option Addr), cellOf h9 ⟨h1.size, 0, none⟩ = some (.pointer q5) ∧
  onSome q5 fun p5 =>
  ∃ (m2 : Option Nat), cellOf h9 (Addr.add p5 1) = some (.map m2) ∧
  MapIn (.int .i64) m2 h9 fun mm2 =>
  bif (decide ((List.length mm2 : Int) ≥ 96)) then (
  K (.int .i64 60) h9) else (
  ∃ (q6 : Option Addr), cellOf h9 ⟨h1.size, 0, none⟩ = some (.pointer q6) ∧
  ∃ (q7 : Option Addr), cellOf h9 ⟨h1.size, 0, none⟩ = some (.pointer q7) ∧
  onSome q7 fun p6 =>
  ∃ (sA2 : Option Addr) (sL2 : Nat) (sC2 : Nat), cellOf h9 (Addr.add p6 2) = some (.slice sA2 sL2 sC2) ∧
  New [.func (.func 110) #[] ⟨[.pointer ok1, .pointer was1, .pointer (some ⟨h1.size, 0, none⟩), .pointer (some ⟨h2.size, 0, none⟩)]⟩] 1 h9 fun h10 =>
  (cellOf h10 ⟨h1.size, 0, none⟩ = some (.pointer q6)) ∧
  (cellOf h10 ⟨h1.size, 0, none⟩ = some (.pointer q7)) ∧
  (cellOf h10 (Addr.add p6 2) = some (.slice sA2 sL2 sC2)) ∧
  ∃ new1 : List Value, List.length new1 = 1 * 1 ∧ SlCells h10 (some ⟨h9.size, 0, none⟩) new1 ∧ (∀ v ∈ new1, v.oneCell' = true) ∧
  AppendP ti1 1 sA2 sL2 sC2 1 new1 h10 fun sA3 sL3 sC3 h11 =>
  (cellOf h11 ⟨h1.size, 0, none⟩ = some (.pointer q6)) ∧
  onSome q6 fun p7 =>
  Put (Addr.add p7 2) (.slice sA3 sL3 sC3) h11 fun h12 =>
  ∃ (q8 : Option Addr), cellOf h12 ⟨h1.size, 0, none⟩ = some (.pointer q8) ∧
  onSome q8 fun p8 =>
  ∃ (m3 : Option Nat), cellOf h12 (Addr.add p8 1) = some (.map m3) ∧
  ∃ (n5 : Int), cellOf h12 ⟨h2.size, 0, none⟩ = some (.int .i64 n5) ∧
  C.slices_Clone_byte_byte bA1 bL1 bC1 h12 fun r2 h13 =>
  ∃ (sA4 : Option Addr) (sL4 : Nat) (sC4 : Nat), r2 = .slice sA4 sL4 sC4 ∧
  (cellOf h13 ⟨h1.size, 0, none⟩ = some (.pointer q8)) ∧
  (cellOf h13 (Addr.add p8 1) = some (.map m3)) ∧
  (cellOf h13 ⟨h2.size, 0, none⟩ = some (.int .i64 n5)) ∧
  onSome m3 fun r3 =>
  MapPut (.int .i64) r3 (.i n5) (.slice sA4 sL4 sC4) h13 fun h14 =>
  K (.int .i64 0) h14)) else (
  ∃ (q9 : Option Addr), cellOf h9 ⟨h1.size, 0, none⟩ = some (.pointer q9) ∧
  ∃ (q10 : Option Addr), cellOf h9 ⟨h1.size, 0, none⟩ = some (.pointer q10) ∧
  onSome q10 fun p9 =>
  ∃ (sA5 : Option Addr) (sL5 : Nat) (sC5 : Nat), cellOf h9 (Addr.add p9 2) = some (.slice sA5 sL5 sC5) ∧
  New [.func (.func 110) #[] ⟨[.pointer ok1, .pointer was1, .pointer (some ⟨h1.size, 0, none⟩), .pointer (some ⟨h2.size, 0, none⟩)]⟩] 1 h9 fun h15 =>
  (cellOf h15 ⟨h1.size, 0, none⟩ = some (.pointer q9)) ∧
  (cellOf h15 ⟨h1.size, 0, none⟩ = some (.pointer q10)) ∧
  (cellOf h15 (Addr.add p9 2) = some (.slice sA5 sL5 sC5)) ∧
  ∃ new2 : List Value, List.length new2 = 1 * 1 ∧ SlCells h15 (some ⟨h9.size, 0, none⟩) new2 ∧ (∀ v ∈ new2, v.oneCell' = true) ∧
  AppendP ti1 1 sA5 sL5 sC5 1 new2 h15 fun sA6 sL6 sC6 h16 =>
  (cellOf h16 ⟨h1.size, 0, none⟩ = some (.pointer q9)) ∧
  onSome q9 fun p10 =>
  Put (Addr.add p10 2) (.slice sA6 sL6 sC6) h16 fun h17 =>
  ∃ (q11 : Option Addr), cellOf h17 ⟨h1.size, 0, none⟩ = some (.pointer q11) ∧
  onSome q11 fun p11 =>
  ∃ (m4 : Option Nat), cellOf h17 (Addr.add p11 1) = some (.map m4) ∧
  ∃ (n6 : Int), cellOf h17 ⟨h2.size, 0, none⟩ = some (.int .i64 n6) ∧
  C.slices_Clone_byte_byte bA1 bL1 bC1 h17 fun r4 h18 =>
  ∃ (sA7 : Option Addr) (sL7 : Nat) (sC7 : Nat), r4 = .slice sA7 sL7 sC7 ∧
  (cellOf h18 ⟨h1.size, 0, none⟩ = some (.pointer q11)) ∧
  (cellOf h18 (Addr.add p11 1) = some (.map m4)) ∧
  (cellOf h18 ⟨h2.size, 0, none⟩ = some (.int .i64 n6)) ∧
  onSome m4 fun r5 =>
  MapPut (.int .i64) r5 (.i n6) (.slice sA7 sL7 sC7) h18 fun h19 =>
  K (.int .i64 0) h19)))))
def txn_Txn_Write (t1 : Option Addr) (i1 : Int) (bA1 : Option Addr) (bL1 : Nat) (bC1 : Nat) (K : Value → Heap → Prop) (h1 : Heap) : Prop :=
  New [.pointer t1] 26 h1 fun h2 =>
  New [.int .i64 i1] 3 h2 fun h3 =>
  ∃ (q1 : Option Addr), cellOf h3 ⟨h1.size, 0, none⟩ = some (.pointer q1) ∧
  onSome q1 fun p1 =>
  ∃ (m1 : Option Nat), cellOf h3 (Addr.add p1 1) = some (.map m1) ∧
  ∃ (n1 : Int), cellOf h3 ⟨h2.size, 0, none⟩ = some (.int .i64 n1) ∧
  (
  MapIn (.int .i64) m1 h3 fun mm1 =>
  ∃ (sA1 : Option Addr) (sL1 : Nat) (sC1 : Nat), Option.getD (mget mm1 (.i n1)) (zeroV ti72) = .slice sA1 sL1 sC1 ∧
  (
  New z72 72 h3 fun h4 =>
  (cellOf h4 ⟨h1.size, 0, none⟩ = some (.pointer q1)) ∧
  (cellOf h4 (Addr.add p1 1) = some (.map m1)) ∧
  (cellOf h4 ⟨h2.size, 0, none⟩ = some (.int .i64 n1)) ∧
  New z4 4 h4 fun h5 =>
  (cellOf h5 ⟨h1.size, 0, none⟩ = some (.pointer q1)) ∧
  (cellOf h5 (Addr.add p1 1) = some (.map m1)) ∧
  (cellOf h5 ⟨h2.size, 0, none⟩ = some (.int .i64 n1)) ∧
  Put ⟨h3.size, 0, none⟩ (.slice sA1 sL1 sC1) h5 fun h6 =>
  Put ⟨h4.size, 0, none⟩ (.bool (Option.isSome (mget mm1 (.i n1)))) h6 fun h7 =>
  txn_Txn_Write.k1 bA1 bL1 bC1 h1 h2 (some ⟨h3.size, 0, none⟩) (some ⟨h4.size, 0, none⟩) h7 K) ∧
  New z4 4 h3 fun h20 =>
  (cellOf h20 ⟨h1.size, 0, none⟩ = some (.pointer q1)) ∧
  (cellOf h20 (Addr.add p1 1) = some (.map m1)) ∧
  (cellOf h20 ⟨h2.size, 0, none⟩ = some (.int .i64 n1)) ∧
  New z72 72 h20 fun h21 =>
  (cellOf h21 ⟨h1.size, 0, none⟩ = some (.pointer q1)) ∧
  (cellOf h21 (Addr.add p1 1) = some (.map m1)) ∧
  (cellOf h21 ⟨h2.size, 0, none⟩ = some (.int .i64 n1)) ∧
  Put ⟨h20.size, 0, none⟩ (.slice sA1 sL1 sC1) h21 fun h22 =>
  Put ⟨h3.size, 0, none⟩ (.bool (Option.isSome (mget mm1 (.i n1)))) h22 fun h23 =>
  txn_Txn_Write.k1 bA1 bL1 bC1 h1 h2 (some ⟨h20.size, 0, none⟩) (some ⟨h3.size, 0, none⟩) h23 K) ∧
  (
  New z72 72 h3 fun h24 =>
  (cellOf h24 ⟨h1.size, 0, none⟩ = some (.pointer q1)) ∧
  (cellOf h24 (Addr.add p1 1) = some (.map m1)) ∧
  (cellOf h24 ⟨h2.size, 0, none⟩ = some (.int .i64 n1)) ∧
  (
  MapIn (.int .i64) m1 h24 fun mm3 =>
  ∃ (sA8 : Option Addr) (sL8 : Nat) (sC8 : Nat), Option.getD (mget mm3 (.i n1)) (zeroV ti72) = .slice sA8 sL8 sC8 ∧
  New z4 4 h24 fun h25 =>
  (cellOf h25 ⟨h1.size, 0, none⟩ = some (.pointer q1)) ∧
  (cellOf h25 (Addr.add p1 1) = some (.map m1)) ∧
  (cellOf h25 ⟨h2.size, 0, none⟩ = some (.int .i64 n1)) ∧
  Put ⟨h3.size, 0, none⟩ (.slice sA8 sL8 sC8) h25 fun h26 =>
  Put ⟨h24.size, 0, none⟩ (.bool (Option.isSome (mget mm3 (.i n1)))) h26 fun h27 =>
  txn_Txn_Write.k1 bA1 bL1 bC1 h1 h2 (some ⟨h3.size, 0, none⟩) (some ⟨h24.size, 0, none⟩) h27 K) ∧
  New z4 4 h24 fun h28 =>
  (cellOf h28 ⟨h1.size, 0, none⟩ = some (.pointer q1)) ∧
  (cellOf h28 (Addr.add p1 1) = some (.map m1)) ∧
  (cellOf h28 ⟨h2.size, 0, none⟩ = some (.int .i64 n1)) ∧
  MapIn (.int .i64) m1 h28 fun mm4 =>
  ∃ (sA9 : Option Addr) (sL9 : Nat) (sC9 : Nat), Option.getD (mget mm4 (.i n1)) (zeroV ti72) = .slice sA9 sL9 sC9 ∧
  Put ⟨h3.size, 0, none⟩ (.slice sA9 sL9 sC9) h28 fun h29 =>
  Put ⟨h24.size, 0, none⟩ (.bool (Option.isSome (mget mm4 (.i n1)))) h29 fun h30 =>
  txn_Txn_Write.k1 bA1 bL1 bC1 h1 h2 (some ⟨h3.size, 0, none⟩) (some ⟨h24.size, 0, none⟩) h30 K) ∧
  New z4 4 h3 fun h31 =>
  (cellOf h31 ⟨h1.size, 0, none⟩ = some (.pointer q1)) ∧
  (cellOf h31 (Addr.add p1 1) = some (.map m1)) ∧
  (cellOf h31 ⟨h2.size, 0, none⟩ = some (.int .i64 n1)) ∧
  (
  MapIn (.int .i64) m1 h31 fun mm5 =>
  ∃ (sA10 : Option Addr) (sL10 : Nat) (sC10 : Nat), Option.getD (mget mm5 (.i n1)) (zeroV ti72) = .slice sA10 sL10 sC10 ∧
  New z72 72 h31 fun h32 =>
  (cellOf h32 ⟨h1.size, 0, none⟩ = some (.pointer q1)) ∧
  (cellOf h32 (Addr.add p1 1) = some (.map m1)) ∧
  (cellOf h32 ⟨h2.size, 0, none⟩ = some (.int .i64 n1)) ∧
  Put ⟨h31.size, 0, none⟩ (.slice sA10 sL10 sC10) h32 fun h33 =>
  Put ⟨h3.size, 0, none⟩ (.bool (Option.isSome (mget mm5 (.i n1)))) h33 fun h34 =>
  txn_Txn_Write.k1 bA1 bL1 bC1 h1 h2 (some ⟨h31.size, 0, none⟩) (some ⟨h3.size, 0, none⟩) h34 K) ∧
  New z72 72 h31 fun h35 =>
  (cellOf h35 ⟨h1.size, 0, none⟩ = some (.pointer q1)) ∧
  (cellOf h35 (Addr.add p1 1) = some (.map m1)) ∧
  (cellOf h35 ⟨h2.size, 0, none⟩ = some (.int .i64 n1)) ∧
  MapIn (.int .i64) m1 h35 fun mm6 =>
  ∃ (sA11 : Option Addr) (sL11 : Nat) (sC11 : Nat), Option.getD (mget mm6 (.i n1)) (zeroV ti72) = .slice sA11 sL11 sC11 ∧
  Put ⟨h31.size, 0, none⟩ (.slice sA11 sL11 sC11) h35 fun h36 =>
  Put ⟨h3.size, 0, none⟩ (.bool (Option.isSome (mget mm6 (.i n1)))) h36 fun h37 =>
  txn_Txn_Write.k1 bA1 bL1 bC1 h1 h2 (some ⟨h31.size, 0, none⟩) (some ⟨h3.size, 0, none⟩) h37 K
def txn_Txn_Write.lo : Nat → List Nat × List (Nat × Ty) := fun n => match n with | _ => ([], [])
set_option maxRecDepth 100000 in
def txn_Txn_Write.od : Nat → Od := fun n => match n with | 1 => (.op 0 [] (.op 1 [] (.op 2 [] (.op 3 [] (.op 4 [] (.alt 5 [] (.op 6 [] (.op 7 [] (.op 8 [] (.alt 9 [0, 3, 4] (.op 10 [0, 3, 4] (.op 11 [] (.op 12 [] .nil))) (.op 10 [0, 3, 4] (.op 9 [0, 3, 4] (.op 11 [] (.op 12 [] .nil)))))))) (.alt 9 [0, 3, 4] (.alt 5 [] (.op 6 [] (.op 7 [] (.op 8 [] (.op 10 [0, 3, 4] (.op 11 [] (.op 12 [] .nil)))))) (.op 10 [0, 3, 4] (.op 5 [] (.op 6 [] (.op 7 [] (.op 8 [] (.op 11 [] (.op 12 [] .nil)))))))) (.op 10 [0, 3, 4] (.alt 5 [] (.op 6 [] (.op 7 [] (.op 8 [] (.op 9 [0, 3, 4] (.op 11 [] (.op 12 [] .nil)))))) (.op 9 [0, 3, 4] (.op 5 [] (.op 6 [] (.op 7 [] (.op 8 [] (.op 11 [] (.op 12 [] .nil)))))))))))))))) | 4 => (.op 0 [] (.op 1 [] (.op 2 [] (.op 3 [] (.op 4 [] (.op 5 [] (.op 6 [] (.op 7 [] (.op 8 [3] (.op 9 [] (.op 10 [] (.op 11 [] .nil)))))))))))) | 10 => (.op 0 [] (.op 1 [] (.op 2 [] (.op 3 [] (.op 4 [] (.op 5 [] (.op 6 [0, 1, 4] (.op 7 [0] (.op 8 [] (.op 9 [] (.op 10 [] .nil))))))))))) | 11 => (.op 0 [] (.op 1 [] (.op 2 [] (.op 3 [] (.op 4 [] (.op 5 [] (.op 6 [0, 3, 4] (.op 7 [] .nil)))))))) | _ => .nil
set_option maxRecDepth 100000 in
theorem txn_Txn_Write.eq (t1 : Option Addr) (i1 : Int) (bA1 : Option Addr) (bL1 : Nat) (bC1 : Nat) (K : Value → Heap → Prop) (h : Heap) : fnX (cx txn_Txn_Write.lo txn_Txn_Write.od) Tryd.f61 (Tryd.f61.body.getD .skip) [.pointer t1, .int .i64 i1, .slice bA1 bL1 bC1] K h = txn_Txn_Write t1 i1 bA1 bL1 bC1 K h := by kernel_rfl
theorem txn_Txn_Write.chk : fnOk (cx txn_Txn_Write.lo txn_Txn_Write.od) Tryd.f61 (Tryd.f61.body.getD .skip) 3 = true := by kernel_rfl
set_option maxRecDepth 100000 in
theorem txn_Txn_Write.ok {t1 : Option Addr} {i1 : Int} {bA1 : Option Addr} {bL1 : Nat} {bC1 : Nat} {K : Value → Heap → Prop} {h : Heap} (hx : txn_Txn_Write t1 i1 bA1 bL1 bC1 K h) : C.txn_Txn_Write t1 i1 bA1 bL1 bC1 h K :=
  fn_to (cxOk _ _) Tryd.func61 (by kernel_rfl) txn_Txn_Write.chk (by rw [txn_Txn_Write.eq]; exact hx)

-- 62
def inode_may (x1 : List Value) (K : Value → Heap → Prop) (h1 : Heap) : Prop :=
  New x1 35 h1 fun h2 =>
  ∃ cs1 : List Value, List.length cs1 = 15 ∧ Cells h2 ⟨h1.size, 0, none⟩ cs1 ∧
  C.inode_numbers cs1 h2 fun r1 h3 =>
  ∃ (cs2 : List Value), r1 = .agg ⟨cs2⟩ ∧
  ∃ (I1 : Int → Heap → Prop) (M1 : Int → Heap → Nat), I1 0 h3 ∧
  ∀ (n1 : Int), ∀ h4 : Heap, I1 n1 h4 →
  bif (decide (n1 < 12)) then (
  (0 ≤ n1 ∧ n1 < (12 : Int)) ∧
  ∃ (n2 : Int), cs2[(Int.toNat n1)]? = some (.int .i64 n2) ∧
  C.inode_within n2 0 4294967295 h4 fun r2 h5 =>
  ∃ (b1 : Bool), r2 = .bool b1 ∧
  bif (!b1) then (
  K (.bool false) h5) else (
  I1 (IntKind.wrap .i64 (n1 + 1)) h5 ∧ M1 (IntKind.wrap .i64 (n1 + 1)) h5 < M1 n1 h4)) else (
  ∃ (n3 : Int), cellOf h4 (Addr.add ⟨h1.size, 0, none⟩ 0) = some (.int .i64 n3) ∧
  bif (n3 == 0) then (
  ∃ cs3 : List Value, List.length cs3 = 15 ∧ Cells h4 ⟨h1.size, 0, none⟩ cs3 ∧
  pairsOk [(.int .i64), (.int .i64), (.int .i64), (.int .i64), (.int .i64), (.int .i64), (.int .i64), (.int .i64), (.int .i64), (.int .i64), (.int .i64), (.int .i64), (.int .i64), (.int .i64), (.int .i64)] cs3 [.int .i64 0, .int .i64 0, .int .i64 0, .int .i64 0, .int .i64 0, .int .i64 0, .int .i64 0, .int .i64 0, .int .i64 0, .int .i64 0, .int .i64 0, .int .i64 0, .int .i64 0, .int .i64 0, .int .i64 0] = true ∧
  K (.bool (cellsEq cs3 [.int .i64 0, .int .i64 0, .int .i64 0, .int .i64 0, .int .i64 0, .int .i64 0, .int .i64 0, .int .i64 0, .int .i64 0, .int .i64 0, .int .i64 0, .int .i64 0, .int .i64 0, .int .i64 0, .int .i64 0])) h4) else (
  bif (n3 == 1) then (
  ∃ (n4 : Int), cellOf h4 (Addr.add ⟨h1.size, 0, none⟩ 1) = some (.int .i64 n4) ∧
  C.inode_within n4 0 1000 h4 fun r3 h6 =>
  ∃ (b2 : Bool), r3 = .bool b2 ∧
  bif b2 then (
  ∃ (n5 : Int), cellOf h6 (Addr.add ⟨h1.size, 0, none⟩ 2) = some (.int .i64 n5) ∧
  C.inode_within n5 0 8459264 h6 fun r4 h7 =>
  ∃ (b3 : Bool), r4 = .bool b3 ∧
  K (.bool b3) h7) else (
  K (.bool false) h6)) else (
  bif (n3 == 2) then (
  ∃ (n6 : Int), cellOf h4 (Addr.add ⟨h1.size, 0, none⟩ 1) = some (.int .i64 n6) ∧
  C.inode_within n6 2 65535 h4 fun r5 h8 =>
  ∃ (b4 : Bool), r5 = .bool b4 ∧
  bif b4 then (
  ∃ (n7 : Int), cellOf h8 (Addr.add ⟨h1.size, 0, none⟩ 2) = some (.int .i64 n7) ∧
  C.inode_within n7 0 8459264 h8 fun r6 h9 =>
  ∃ (b5 : Bool), r6 = .bool b5 ∧
  bif b5 then (
  ∃ (n8 : Int), cellOf h9 (Addr.add ⟨h1.size, 0, none⟩ 2) = some (.int .i64 n8) ∧
  K (.bool ((Int.tmod n8 512) == 0)) h9) else (
  K (.bool false) h9)) else (
  K (.bool false) h8)) else (
  bif (n3 == 3) then (
  ∃ (n9 : Int), cellOf h4 (Addr.add ⟨h1.size, 0, none⟩ 1) = some (.int .i64 n9) ∧
  C.inode_within n9 1 1000 h4 fun r7 h10 =>
  ∃ (b6 : Bool), r7 = .bool b6 ∧
  bif b6 then (
  ∃ (n10 : Int), cellOf h10 (Addr.add ⟨h1.size, 0, none⟩ 2) = some (.int .i64 n10) ∧
  C.inode_within n10 1 1024 h10 fun r8 h11 =>
  ∃ (b7 : Bool), r8 = .bool b7 ∧
  K (.bool b7) h11) else (
  K (.bool false) h10)) else (
  K (.bool false) h4)))))
def inode_may.lo : Nat → List Nat × List (Nat × Ty) := fun n => match n with | 2 => ([1, 6], [(7, .int .i64)]) | _ => ([], [])
def inode_may.od : Nat → Od := fun n => match n with | _ => .nil
set_option maxRecDepth 1000000 in
theorem inode_may.eq (x1 : List Value) (K : Value → Heap → Prop) (h : Heap) : fnX (cx inode_may.lo inode_may.od) Tryd.f62 (Tryd.f62.body.getD .skip) [.agg ⟨x1⟩] K h = inode_may x1 K h := by kernel_rfl
theorem inode_may.chk : fnOk (cx inode_may.lo inode_may.od) Tryd.f62 (Tryd.f62.body.getD .skip) 1 = true := by kernel_rfl
set_option maxRecDepth 1000000 in
theorem inode_may.ok {x1 : List Value} {K : Value → Heap → Prop} {h : Heap} (hx : inode_may x1 K h) : C.inode_may x1 h K :=
  fn_to (cxOk _ _) Tryd.func62 (by kernel_rfl) inode_may.chk (by rw [inode_may.eq]; exact hx)

-- 63
def txn_Txn_Written (t1 : Option Addr) (K : Value → Heap → Prop) (h1 : Heap) : Prop :=
  onSome t1 fun p1 =>
  ∃ (b1 : Bool), cellOf h1 (Addr.add p1 3) = some (.bool b1) ∧
  bif b1 then (
  K (.slice none 0 0) h1) else (
  onSome t1 fun p2 =>
  ∃ (m1 : Option Nat), cellOf h1 (Addr.add p2 1) = some (.map m1) ∧
  C.maps_Keys_map_int_byte_int_byte m1 h1 fun r1 h2 =>
  ∃ (v1 : Value), r1 = v1 ∧
  C.slices_Sorted_int v1 h2 fun r2 h3 =>
  ∃ (sA1 : Option Addr) (sL1 : Nat) (sC1 : Nat), r2 = .slice sA1 sL1 sC1 ∧
  K (.slice sA1 sL1 sC1) h3)
def txn_Txn_Written.lo : Nat → List Nat × List (Nat × Ty) := fun n => match n with | _ => ([], [])
def txn_Txn_Written.od : Nat → Od := fun n => match n with | _ => .nil
theorem txn_Txn_Written.eq (t1 : Option Addr) (K : Value → Heap → Prop) (h : Heap) : fnX (cx txn_Txn_Written.lo txn_Txn_Written.od) Tryd.f63 (Tryd.f63.body.getD .skip) [.pointer t1] K h = txn_Txn_Written t1 K h := by kernel_rfl
theorem txn_Txn_Written.chk : fnOk (cx txn_Txn_Written.lo txn_Txn_Written.od) Tryd.f63 (Tryd.f63.body.getD .skip) 1 = true := by kernel_rfl
theorem txn_Txn_Written.ok {t1 : Option Addr} {K : Value → Heap → Prop} {h : Heap} (hx : txn_Txn_Written t1 K h) : C.txn_Txn_Written t1 h K :=
  fn_to (cxOk _ _) Tryd.func63 (by kernel_rfl) txn_Txn_Written.chk (by rw [txn_Txn_Written.eq]; exact hx)

-- 64
def boleref11_Get (t1 : Option Addr) (g1 : List Value) (n1 : Int) (K : Value → Heap → Prop) (h1 : Heap) : Prop :=
  New g1 29 h1 fun h2 =>
  New z35 35 h2 fun h3 =>
  ∃ cs1 : List Value, List.length cs1 = 5 ∧ Cells h3 ⟨h1.size, 0, none⟩ cs1 ∧
  C.boleref07_Record cs1 n1 h3 fun r1 h4 =>
  ∃ (n2 : Int) (n3 : Int) (n4 : Int), r1 = .tuple #[.int .i64 n2, .int .i64 n3, .int .i64 n4] ∧
  bif (n4 != 0) then (
  PutRow ⟨h2.size, 0, none⟩ [.int .i64 0, .int .i64 0, .int .i64 0, .int .i64 0, .int .i64 0, .int .i64 0, .int .i64 0, .int .i64 0, .int .i64 0, .int .i64 0, .int .i64 0, .int .i64 0, .int .i64 0, .int .i64 0, .int .i64 0] 15 h4 fun h5 =>
  ∃ res1 : List Value, List.length res1 = 15 ∧ Cells h5 ⟨h2.size, 0, none⟩ res1 ∧
  K (.tuple #[.agg ⟨res1⟩, .int .i64 n4]) h5) else (
  C.boleref06_Txn_Read t1 n2 h4 fun r2 h6 =>
  ∃ (sA1 : Option Addr) (sL1 : Nat) (sC1 : Nat) (n5 : Int), r2 = .tuple #[.slice sA1 sL1 sC1, .int .i64 n5] ∧
  bif (n5 != 0) then (
  PutRow ⟨h2.size, 0, none⟩ [.int .i64 0, .int .i64 0, .int .i64 0, .int .i64 0, .int .i64 0, .int .i64 0, .int .i64 0, .int .i64 0, .int .i64 0, .int .i64 0, .int .i64 0, .int .i64 0, .int .i64 0, .int .i64 0, .int .i64 0] 15 h6 fun h7 =>
  ∃ res2 : List Value, List.length res2 = 15 ∧ Cells h7 ⟨h2.size, 0, none⟩ res2 ∧
  K (.tuple #[.agg ⟨res2⟩, .int .i64 n5]) h7) else (
  (0 ≤ n3 ∧ n3 ≤ (IntKind.wrap .i64 (n3 + 64)) ∧ (IntKind.wrap .i64 (n3 + 64)) ≤ (sC1 : Int)) ∧
  C.boleref11_Decode (if sC1 = (Int.toNat n3) then sA1 else Option.map (Addr.add · (Int.toNat n3)) sA1) ((Int.toNat (IntKind.wrap .i64 (n3 + 64))) - (Int.toNat n3)) (sC1 - (Int.toNat n3)) h6 fun r3 h8 =>
  ∃ (cs2 : List Value) (n6 : Int), r3 = .tuple #[.agg ⟨cs2⟩, .int .i64 n6] ∧
  PutRow ⟨h2.size, 0, none⟩ cs2 15 h8 fun h9 =>
  ∃ res3 : List Value, List.length res3 = 15 ∧ Cells h9 ⟨h2.size, 0, none⟩ res3 ∧
  K (.tuple #[.agg ⟨res3⟩, .int .i64 n6]) h9))
def boleref11_Get.lo : Nat → List Nat × List (Nat × Ty) := fun n => match n with | _ => ([], [])
def boleref11_Get.od : Nat → Od := fun n => match n with | _ => .nil
theorem boleref11_Get.eq (t1 : Option Addr) (g1 : List Value) (n1 : Int) (K : Value → Heap → Prop) (h : Heap) : fnX (cx boleref11_Get.lo boleref11_Get.od) Tryd.f64 (Tryd.f64.body.getD .skip) [.pointer t1, .agg ⟨g1⟩, .int .i64 n1] K h = boleref11_Get t1 g1 n1 K h := by kernel_rfl
theorem boleref11_Get.chk : fnOk (cx boleref11_Get.lo boleref11_Get.od) Tryd.f64 (Tryd.f64.body.getD .skip) 3 = true := by kernel_rfl
theorem boleref11_Get.ok {t1 : Option Addr} {g1 : List Value} {n1 : Int} {K : Value → Heap → Prop} {h : Heap} (hx : boleref11_Get t1 g1 n1 K h) : C.boleref11_Get t1 g1 n1 h K :=
  fn_to (cxOk _ _) Tryd.func64 (by kernel_rfl) boleref11_Get.chk (by rw [boleref11_Get.eq]; exact hx)

-- 65
def boleref11_Put (t1 : Option Addr) (g1 : List Value) (n1 : Int) (x1 : List Value) (K : Value → Heap → Prop) (h1 : Heap) : Prop :=
  New g1 29 h1 fun h2 =>
  New x1 35 h2 fun h3 =>
  ∃ cs1 : List Value, List.length cs1 = 5 ∧ Cells h3 ⟨h1.size, 0, none⟩ cs1 ∧
  C.boleref07_Record cs1 n1 h3 fun r1 h4 =>
  ∃ (n2 : Int) (n3 : Int) (n4 : Int), r1 = .tuple #[.int .i64 n2, .int .i64 n3, .int .i64 n4] ∧
  bif (n4 != 0) then (
  K (.int .i64 n4) h4) else (
  ∃ cs2 : List Value, List.length cs2 = 15 ∧ Cells h4 ⟨h2.size, 0, none⟩ cs2 ∧
  C.boleref11_Encode cs2 h4 fun r2 h5 =>
  ∃ (sA1 : Option Addr) (sL1 : Nat) (sC1 : Nat) (n5 : Int), r2 = .tuple #[.slice sA1 sL1 sC1, .int .i64 n5] ∧
  bif (n5 != 0) then (
  K (.int .i64 n5) h5) else (
  C.boleref06_Txn_Read t1 n2 h5 fun r3 h6 =>
  ∃ (sA2 : Option Addr) (sL2 : Nat) (sC2 : Nat) (n6 : Int), r3 = .tuple #[.slice sA2 sL2 sC2, .int .i64 n6] ∧
  bif (n6 != 0) then (
  K (.int .i64 n6) h6) else (
  ∃ (I1 : Int → Heap → Prop) (M1 : Int → Heap → Nat), I1 0 h6 ∧
  ∀ (i1 : Int), ∀ h7 : Heap, I1 i1 h7 →
  bif (decide (i1 < 64)) then (
  (0 ≤ i1 ∧ i1 < (sL1 : Int)) ∧
  onSome sA1 fun p1 =>
  ∃ (n7 : Int), cellOf h7 (Addr.add p1 (Int.toNat i1)) = some (.int .u8 n7) ∧
  (0 ≤ (IntKind.wrap .i64 (n3 + i1)) ∧ (IntKind.wrap .i64 (n3 + i1)) < (sL2 : Int)) ∧
  onSome sA2 fun p2 =>
  Put (Addr.add p2 (Int.toNat (IntKind.wrap .i64 (n3 + i1)))) (.int .u8 n7) h7 fun h8 =>
  I1 (IntKind.wrap .i64 (i1 + 1)) h8 ∧ M1 (IntKind.wrap .i64 (i1 + 1)) h8 < M1 i1 h7) else (
  C.boleref06_Txn_Write t1 n2 sA2 sL2 sC2 h7 fun r4 h9 =>
  ∃ (n8 : Int), r4 = .int .i64 n8 ∧
  K (.int .i64 n8) h9))))
def boleref11_Put.lo : Nat → List Nat × List (Nat × Ty) := fun n => match n with | 11 => ([0, 9, 10, 12, 14], [(16, .int .i64)]) | _ => ([], [])
def boleref11_Put.od : Nat → Od := fun n => match n with | _ => .nil
theorem boleref11_Put.eq (t1 : Option Addr) (g1 : List Value) (n1 : Int) (x1 : List Value) (K : Value → Heap → Prop) (h : Heap) : fnX (cx boleref11_Put.lo boleref11_Put.od) Tryd.f65 (Tryd.f65.body.getD .skip) [.pointer t1, .agg ⟨g1⟩, .int .i64 n1, .agg ⟨x1⟩] K h = boleref11_Put t1 g1 n1 x1 K h := by kernel_rfl
theorem boleref11_Put.chk : fnOk (cx boleref11_Put.lo boleref11_Put.od) Tryd.f65 (Tryd.f65.body.getD .skip) 4 = true := by kernel_rfl
theorem boleref11_Put.ok {t1 : Option Addr} {g1 : List Value} {n1 : Int} {x1 : List Value} {K : Value → Heap → Prop} {h : Heap} (hx : boleref11_Put t1 g1 n1 x1 K h) : C.boleref11_Put t1 g1 n1 x1 h K :=
  fn_to (cxOk _ _) Tryd.func65 (by kernel_rfl) boleref11_Put.chk (by rw [boleref11_Put.eq]; exact hx)

-- 66
def boleref11_Take.k1 (t1 : Option Addr) (h1 : Heap) (h2 : Heap) (h4 : Heap) (K : Value → Heap → Prop) : Prop :=
  ∃ (I1 : Int → Heap → Prop) (M1 : Int → Heap → Nat), I1 1 h4 ∧
  ∀ (n2 : Int), ∀ h5 : Heap, I1 n2 h5 →
  ∃ (n3 : Int), cellOf h5 (Addr.add ⟨h1.size, 0, none⟩ 4) = some (.int .i64 n3) ∧
  bif (decide (n2 < n3)) then (
  ∃ cs2 : List Value, List.length cs2 = 5 ∧ Cells h5 ⟨h1.size, 0, none⟩ cs2 ∧
  C.boleref11_Get t1 cs2 n2 h5 fun r2 h6 =>
  ∃ (cs3 : List Value) (n4 : Int), r2 = .tuple #[.agg ⟨cs3⟩, .int .i64 n4] ∧
  NewRow z35 35 cs3 15 h6 fun h8 =>
  bif (n4 != 0) then (
  K (.tuple #[.int .i64 0, .int .i64 n4]) h8) else (
  ∃ (n5 : Int), cellOf h8 (Addr.add ⟨h6.size, 0, none⟩ 0) = some (.int .i64 n5) ∧
  bif (n5 != 0) then (
  I1 (IntKind.wrap .i64 (n2 + 1)) h8 ∧ M1 (IntKind.wrap .i64 (n2 + 1)) h8 < M1 n2 h5) else (
  ∃ cs4 : List Value, List.length cs4 = 5 ∧ Cells h8 ⟨h1.size, 0, none⟩ cs4 ∧
  ∃ cs5 : List Value, List.length cs5 = 15 ∧ Cells h8 ⟨h2.size, 0, none⟩ cs5 ∧
  C.boleref11_Put t1 cs4 n2 cs5 h8 fun r3 h9 =>
  ∃ (n6 : Int), r3 = .int .i64 n6 ∧
  bif (n6 != 0) then (
  K (.tuple #[.int .i64 0, .int .i64 n6]) h9) else (
  K (.tuple #[.int .i64 n2, .int .i64 0]) h9)))) else (
  K (.tuple #[.int .i64 0, .int .i64 90]) h5)
def boleref11_Take (t1 : Option Addr) (g1 : List Value) (x1 : List Value) (K : Value → Heap → Prop) (h1 : Heap) : Prop :=
  New g1 29 h1 fun h2 =>
  New x1 35 h2 fun h3 =>
  ∃ cs1 : List Value, List.length cs1 = 15 ∧ Cells h3 ⟨h2.size, 0, none⟩ cs1 ∧
  C.boleref11_May cs1 h3 fun r1 h4 =>
  ∃ (b1 : Bool), r1 = .bool b1 ∧
  bif (!b1) then (
  K (.tuple #[.int .i64 0, .int .i64 111]) h4) else (
  ∃ (n1 : Int), cellOf h4 (Addr.add ⟨h2.size, 0, none⟩ 0) = some (.int .i64 n1) ∧
  bif (n1 == 0) then (
  K (.tuple #[.int .i64 0, .int .i64 111]) h4) else (
  boleref11_Take.k1 t1 h1 h2 h4 K))
def boleref11_Take.lo : Nat → List Nat × List (Nat × Ty) := fun n => match n with | 5 => ([0, 4, 5], [(9, .int .i64)]) | _ => ([], [])
def boleref11_Take.od : Nat → Od := fun n => match n with | _ => .nil
theorem boleref11_Take.eq (t1 : Option Addr) (g1 : List Value) (x1 : List Value) (K : Value → Heap → Prop) (h : Heap) : fnX (cx boleref11_Take.lo boleref11_Take.od) Tryd.f66 (Tryd.f66.body.getD .skip) [.pointer t1, .agg ⟨g1⟩, .agg ⟨x1⟩] K h = boleref11_Take t1 g1 x1 K h := by kernel_rfl
theorem boleref11_Take.chk : fnOk (cx boleref11_Take.lo boleref11_Take.od) Tryd.f66 (Tryd.f66.body.getD .skip) 3 = true := by kernel_rfl
theorem boleref11_Take.ok {t1 : Option Addr} {g1 : List Value} {x1 : List Value} {K : Value → Heap → Prop} {h : Heap} (hx : boleref11_Take t1 g1 x1 K h) : C.boleref11_Take t1 g1 x1 h K :=
  fn_to (cxOk _ _) Tryd.func66 (by kernel_rfl) boleref11_Take.chk (by rw [boleref11_Take.eq]; exact hx)

-- 67
def boleref11_Free (t1 : Option Addr) (g1 : List Value) (K : Value → Heap → Prop) (h1 : Heap) : Prop :=
  New g1 29 h1 fun h2 =>
  ∃ (I1 : Int → Int → Heap → Prop) (M1 : Int → Int → Heap → Nat), I1 0 1 h2 ∧
  ∀ (many1 : Int) (n1 : Int), ∀ h3 : Heap, I1 many1 n1 h3 →
  ∃ (n2 : Int), cellOf h3 (Addr.add ⟨h1.size, 0, none⟩ 4) = some (.int .i64 n2) ∧
  bif (decide (n1 < n2)) then (
  ∃ cs1 : List Value, List.length cs1 = 5 ∧ Cells h3 ⟨h1.size, 0, none⟩ cs1 ∧
  C.boleref11_Get t1 cs1 n1 h3 fun r1 h4 =>
  ∃ (cs2 : List Value) (n3 : Int), r1 = .tuple #[.agg ⟨cs2⟩, .int .i64 n3] ∧
  NewRow z35 35 cs2 15 h4 fun h6 =>
  bif (n3 != 0) then (
  K (.tuple #[.int .i64 0, .int .i64 n3]) h6) else (
  ∃ (n4 : Int), cellOf h6 (Addr.add ⟨h4.size, 0, none⟩ 0) = some (.int .i64 n4) ∧
  bif (n4 == 0) then (
  I1 (IntKind.wrap .i64 (many1 + 1)) (IntKind.wrap .i64 (n1 + 1)) h6 ∧ M1 (IntKind.wrap .i64 (many1 + 1)) (IntKind.wrap .i64 (n1 + 1)) h6 < M1 many1 n1 h3) else (
  I1 many1 (IntKind.wrap .i64 (n1 + 1)) h6 ∧ M1 many1 (IntKind.wrap .i64 (n1 + 1)) h6 < M1 many1 n1 h3))) else (
  K (.tuple #[.int .i64 many1, .int .i64 0]) h3)
def boleref11_Free.lo : Nat → List Nat × List (Nat × Ty) := fun n => match n with | 3 => ([0, 3], [(6, .int .i64), (7, .int .i64)]) | _ => ([], [])
def boleref11_Free.od : Nat → Od := fun n => match n with | _ => .nil
theorem boleref11_Free.eq (t1 : Option Addr) (g1 : List Value) (K : Value → Heap → Prop) (h : Heap) : fnX (cx boleref11_Free.lo boleref11_Free.od) Tryd.f67 (Tryd.f67.body.getD .skip) [.pointer t1, .agg ⟨g1⟩] K h = boleref11_Free t1 g1 K h := by kernel_rfl
theorem boleref11_Free.chk : fnOk (cx boleref11_Free.lo boleref11_Free.od) Tryd.f67 (Tryd.f67.body.getD .skip) 2 = true := by kernel_rfl
theorem boleref11_Free.ok {t1 : Option Addr} {g1 : List Value} {K : Value → Heap → Prop} {h : Heap} (hx : boleref11_Free t1 g1 K h) : C.boleref11_Free t1 g1 h K :=
  fn_to (cxOk _ _) Tryd.func67 (by kernel_rfl) boleref11_Free.chk (by rw [boleref11_Free.eq]; exact hx)
end Go.Proofs.YtcdpakjhjmchhaaDoor.W
