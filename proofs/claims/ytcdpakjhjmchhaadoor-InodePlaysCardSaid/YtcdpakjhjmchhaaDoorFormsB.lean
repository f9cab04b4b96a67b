/-
  WHAT THE FUNCTIONS COMPUTE, as formulas; each held against the loaded code by the kernel. Written by program (gen.py).
-/
import Derived.Test.YtcdpakjhjmchhaaDoorTab
namespace Go.Proofs.YtcdpakjhjmchhaaDoor.W
open Go Go.Proofs Go.Proofs.YtcdpakjhjmchhaaDoor.Wx
-- 23
def inode_Get (t1 : Option Addr) (g1 : List Value) (n1 : Int) (K : Value → Heap → Prop) (h1 : Heap) : Prop :=
  New g1 29 h1 fun h2 =>
  New z35 35 h2 fun h3 =>
  ∃ cs1 : List Value, List.length cs1 = 5 ∧ Cells h3 ⟨h1.size, 0, none⟩ cs1 ∧
  C.inode_isInode cs1 n1 h3 fun r1 h4 =>
  ∃ (b1 : Bool), r1 = .bool b1 ∧
  bif (!b1) then (
  PutRow ⟨h2.size, 0, none⟩ [.int .i64 0, .int .i64 0, .int .i64 0, .int .i64 0, .int .i64 0, .int .i64 0, .int .i64 0, .int .i64 0, .int .i64 0, .int .i64 0, .int .i64 0, .int .i64 0, .int .i64 0, .int .i64 0, .int .i64 0] 15 h4 fun h5 =>
  ∃ res1 : List Value, List.length res1 = 15 ∧ Cells h5 ⟨h2.size, 0, none⟩ res1 ∧
  K (.tuple #[.agg ⟨res1⟩, .int .i64 110]) h5) else (
  ∃ cs2 : List Value, List.length cs2 = 5 ∧ Cells h4 ⟨h1.size, 0, none⟩ cs2 ∧
  C.inode_place t1 cs2 n1 h4 fun r2 h6 =>
  ∃ (n2 : Int) (sA1 : Option Addr) (sL1 : Nat) (sC1 : Nat) (n3 : Int) (n4 : Int), r2 = .tuple #[.int .i64 n2, .slice sA1 sL1 sC1, .int .i64 n3, .int .i64 n4] ∧
  bif (n4 != 0) then (
  PutRow ⟨h2.size, 0, none⟩ [.int .i64 0, .int .i64 0, .int .i64 0, .int .i64 0, .int .i64 0, .int .i64 0, .int .i64 0, .int .i64 0, .int .i64 0, .int .i64 0, .int .i64 0, .int .i64 0, .int .i64 0, .int .i64 0, .int .i64 0] 15 h6 fun h7 =>
  ∃ res2 : List Value, List.length res2 = 15 ∧ Cells h7 ⟨h2.size, 0, none⟩ res2 ∧
  K (.tuple #[.agg ⟨res2⟩, .int .i64 n4]) h7) else (
  (0 ≤ n3 ∧ n3 ≤ (IntKind.wrap .i64 (n3 + 64)) ∧ (IntKind.wrap .i64 (n3 + 64)) ≤ (sC1 : Int)) ∧
  C.inode_Decode (if sC1 = (Int.toNat n3) then sA1 else Option.map (Addr.add · (Int.toNat n3)) sA1) ((Int.toNat (IntKind.wrap .i64 (n3 + 64))) - (Int.toNat n3)) (sC1 - (Int.toNat n3)) h6 fun r3 h8 =>
  ∃ (cs3 : List Value) (n5 : Int), r3 = .tuple #[.agg ⟨cs3⟩, .int .i64 n5] ∧
  PutRow ⟨h2.size, 0, none⟩ cs3 15 h8 fun h9 =>
  ∃ res3 : List Value, List.length res3 = 15 ∧ Cells h9 ⟨h2.size, 0, none⟩ res3 ∧
  K (.tuple #[.agg ⟨res3⟩, .int .i64 n5]) h9))
def inode_Get.lo : Nat → List Nat × List (Nat × Ty) := fun n => match n with | _ => ([], [])
def inode_Get.od : Nat → Od := fun n => match n with | _ => .nil
theorem inode_Get.eq (t1 : Option Addr) (g1 : List Value) (n1 : Int) (K : Value → Heap → Prop) (h : Heap) : fnX (cx inode_Get.lo inode_Get.od) Tryd.f23 (Tryd.f23.body.getD .skip) [.pointer t1, .agg ⟨g1⟩, .int .i64 n1] K h = inode_Get t1 g1 n1 K h := by kernel_rfl
theorem inode_Get.chk : fnOk (cx inode_Get.lo inode_Get.od) Tryd.f23 (Tryd.f23.body.getD .skip) 3 = true := by kernel_rfl
theorem inode_Get.ok {t1 : Option Addr} {g1 : List Value} {n1 : Int} {K : Value → Heap → Prop} {h : Heap} (hx : inode_Get t1 g1 n1 K h) : C.inode_Get t1 g1 n1 h K :=
  fn_to (cxOk _ _) Tryd.func23 (by kernel_rfl) inode_Get.chk (by rw [inode_Get.eq]; exact hx)

-- 24
def inode_Free (t1 : Option Addr) (g1 : List Value) (K : Value → Heap → Prop) (h1 : Heap) : Prop :=
  New g1 29 h1 fun h2 =>
  ∃ (I1 : Int → Int → Heap → Prop) (M1 : Int → Int → Heap → Nat), I1 0 1 h2 ∧
  ∀ (many1 : Int) (n1 : Int), ∀ h3 : Heap, I1 many1 n1 h3 →
  ∃ (n2 : Int), cellOf h3 (Addr.add ⟨h1.size, 0, none⟩ 4) = some (.int .i64 n2) ∧
  bif (decide (n1 < n2)) then (
  ∃ cs1 : List Value, List.length cs1 = 5 ∧ Cells h3 ⟨h1.size, 0, none⟩ cs1 ∧
  C.inode_Get t1 cs1 n1 h3 fun r1 h4 =>
  ∃ (cs2 : List Value) (n3 : Int), r1 = .tuple #[.agg ⟨cs2⟩, .int .i64 n3] ∧
  NewRow z35 35 cs2 15 h4 fun h6 =>
  bif (n3 != 0) then (
  K (.tuple #[.int .i64 0, .int .i64 n3]) h6) else (
  ∃ cs3 : List Value, List.length cs3 = 15 ∧ Cells h6 ⟨h4.size, 0, none⟩ cs3 ∧
  pairsOk [(.int .i64), (.int .i64), (.int .i64), (.int .i64), (.int .i64), (.int .i64), (.int .i64), (.int .i64), (.int .i64), (.int .i64), (.int .i64), (.int .i64), (.int .i64), (.int .i64), (.int .i64)] cs3 [.int .i64 0, .int .i64 0, .int .i64 0, .int .i64 0, .int .i64 0, .int .i64 0, .int .i64 0, .int .i64 0, .int .i64 0, .int .i64 0, .int .i64 0, .int .i64 0, .int .i64 0, .int .i64 0, .int .i64 0] = true ∧
  bif (cellsEq cs3 [.int .i64 0, .int .i64 0, .int .i64 0, .int .i64 0, .int .i64 0, .int .i64 0, .int .i64 0, .int .i64 0, .int .i64 0, .int .i64 0, .int .i64 0, .int .i64 0, .int .i64 0, .int .i64 0, .int .i64 0]) then (
  I1 (IntKind.wrap .i64 (many1 + 1)) (IntKind.wrap .i64 (n1 + 1)) h6 ∧ M1 (IntKind.wrap .i64 (many1 + 1)) (IntKind.wrap .i64 (n1 + 1)) h6 < M1 many1 n1 h3) else (
  I1 many1 (IntKind.wrap .i64 (n1 + 1)) h6 ∧ M1 many1 (IntKind.wrap .i64 (n1 + 1)) h6 < M1 many1 n1 h3))) else (
  K (.tuple #[.int .i64 many1, .int .i64 0]) h3)
def inode_Free.lo : Nat → List Nat × List (Nat × Ty) := fun n => match n with | 3 => ([0, 3], [(6, .int .i64), (7, .int .i64)]) | _ => ([], [])
def inode_Free.od : Nat → Od := fun n => match n with | _ => .nil
theorem inode_Free.eq (t1 : Option Addr) (g1 : List Value) (K : Value → Heap → Prop) (h : Heap) : fnX (cx inode_Free.lo inode_Free.od) Tryd.f24 (Tryd.f24.body.getD .skip) [.pointer t1, .agg ⟨g1⟩] K h = inode_Free t1 g1 K h := by kernel_rfl
theorem inode_Free.chk : fnOk (cx inode_Free.lo inode_Free.od) Tryd.f24 (Tryd.f24.body.getD .skip) 2 = true := by kernel_rfl
theorem inode_Free.ok {t1 : Option Addr} {g1 : List Value} {K : Value → Heap → Prop} {h : Heap} (hx : inode_Free t1 g1 K h) : C.inode_Free t1 g1 h K :=
  fn_to (cxOk _ _) Tryd.func24 (by kernel_rfl) inode_Free.chk (by rw [inode_Free.eq]; exact hx)

-- 25
def inode_Take.k1 (t1 : Option Addr) (h1 : Heap) (h2 : Heap) (h5 : Heap) (K : Value → Heap → Prop) : Prop :=
  ∃ (I1 : Int → Heap → Prop) (M1 : Int → Heap → Nat), I1 1 h5 ∧
  ∀ (n2 : Int), ∀ h6 : Heap, I1 n2 h6 →
  ∃ (n3 : Int), cellOf h6 (Addr.add ⟨h1.size, 0, none⟩ 4) = some (.int .i64 n3) ∧
  bif (decide (n2 < n3)) then (
  ∃ cs2 : List Value, List.length cs2 = 5 ∧ Cells h6 ⟨h1.size, 0, none⟩ cs2 ∧
  C.inode_Get t1 cs2 n2 h6 fun r2 h7 =>
  ∃ (cs3 : List Value) (n4 : Int), r2 = .tuple #[.agg ⟨cs3⟩, .int .i64 n4] ∧
  NewRow z35 35 cs3 15 h7 fun h9 =>
  bif (n4 != 0) then (
  K (.tuple #[.int .i64 0, .int .i64 n4]) h9) else (
  ∃ cs4 : List Value, List.length cs4 = 15 ∧ Cells h9 ⟨h7.size, 0, none⟩ cs4 ∧
  pairsOk [(.int .i64), (.int .i64), (.int .i64), (.int .i64), (.int .i64), (.int .i64), (.int .i64), (.int .i64), (.int .i64), (.int .i64), (.int .i64), (.int .i64), (.int .i64), (.int .i64), (.int .i64)] cs4 [.int .i64 0, .int .i64 0, .int .i64 0, .int .i64 0, .int .i64 0, .int .i64 0, .int .i64 0, .int .i64 0, .int .i64 0, .int .i64 0, .int .i64 0, .int .i64 0, .int .i64 0, .int .i64 0, .int .i64 0] = true ∧
  bif (cellsEq cs4 [.int .i64 0, .int .i64 0, .int .i64 0, .int .i64 0, .int .i64 0, .int .i64 0, .int .i64 0, .int .i64 0, .int .i64 0, .int .i64 0, .int .i64 0, .int .i64 0, .int .i64 0, .int .i64 0, .int .i64 0]) then (
  ∃ cs5 : List Value, List.length cs5 = 5 ∧ Cells h9 ⟨h1.size, 0, none⟩ cs5 ∧
  ∃ cs6 : List Value, List.length cs6 = 15 ∧ Cells h9 ⟨h2.size, 0, none⟩ cs6 ∧
  C.inode_Put t1 cs5 n2 cs6 h9 fun r3 h10 =>
  ∃ (n5 : Int), r3 = .int .i64 n5 ∧
  bif (n5 != 0) then (
  K (.tuple #[.int .i64 0, .int .i64 n5]) h10) else (
  K (.tuple #[.int .i64 n2, .int .i64 0]) h10)) else (
  I1 (IntKind.wrap .i64 (n2 + 1)) h9 ∧ M1 (IntKind.wrap .i64 (n2 + 1)) h9 < M1 n2 h6))) else (
  K (.tuple #[.int .i64 0, .int .i64 90]) h6)
def inode_Take (t1 : Option Addr) (g1 : List Value) (x1 : List Value) (K : Value → Heap → Prop) (h1 : Heap) : Prop :=
  New g1 29 h1 fun h2 =>
  New x1 35 h2 fun h3 =>
  ∃ cs1 : List Value, List.length cs1 = 15 ∧ Cells h3 ⟨h2.size, 0, none⟩ cs1 ∧
  C.inode_may cs1 h3 fun r1 h4 =>
  ∃ (b1 : Bool), r1 = .bool b1 ∧
  bif (!b1) then (
  K (.tuple #[.int .i64 0, .int .i64 111]) h4) else (
  ∃ (n1 : Int), cellOf h4 (Addr.add ⟨h2.size, 0, none⟩ 0) = some (.int .i64 n1) ∧
  bif (n1 == 0) then (
  K (.tuple #[.int .i64 0, .int .i64 111]) h4) else (
  inode_Take.k1 t1 h1 h2 h4 K))
def inode_Take.lo : Nat → List Nat × List (Nat × Ty) := fun n => match n with | 4 => ([0, 4, 5], [(8, .int .i64)]) | _ => ([], [])
def inode_Take.od : Nat → Od := fun n => match n with | _ => .nil
theorem inode_Take.eq (t1 : Option Addr) (g1 : List Value) (x1 : List Value) (K : Value → Heap → Prop) (h : Heap) : fnX (cx inode_Take.lo inode_Take.od) Tryd.f25 (Tryd.f25.body.getD .skip) [.pointer t1, .agg ⟨g1⟩, .agg ⟨x1⟩] K h = inode_Take t1 g1 x1 K h := by kernel_rfl
theorem inode_Take.chk : fnOk (cx inode_Take.lo inode_Take.od) Tryd.f25 (Tryd.f25.body.getD .skip) 3 = true := by kernel_rfl
theorem inode_Take.ok {t1 : Option Addr} {g1 : List Value} {x1 : List Value} {K : Value → Heap → Prop} {h : Heap} (hx : inode_Take t1 g1 x1 K h) : C.inode_Take t1 g1 x1 h K :=
  fn_to (cxOk _ _) Tryd.func25 (by kernel_rfl) inode_Take.chk (by rw [inode_Take.eq]; exact hx)

-- 26
def bolelaw11_play_inside (p1 : Option Addr) (K : Value → Heap → Prop) (h1 : Heap) : Prop :=
  onSome p1 fun p2 =>
  ∃ (q1 : Option Addr), cellOf h1 (Addr.add p2 7) = some (.pointer q1) ∧
  C.txn_Txn_Written q1 h1 fun r1 h2 =>
  ∃ (sA1 : Option Addr) (sL1 : Nat) (sC1 : Nat), r1 = .slice sA1 sL1 sC1 ∧
  ∃ (I1 : Int → Heap → Prop) (M1 : Int → Heap → Nat), I1 0 h2 ∧
  ∀ (i1 : Int), ∀ h3 : Heap, I1 i1 h3 →
  bif (decide (i1 < (sL1 : Int))) then (
  (0 ≤ i1 ∧ i1 < (sL1 : Int)) ∧
  onSome sA1 fun p3 =>
  ∃ (n1 : Int), cellOf h3 (Addr.add p3 (Int.toNat i1)) = some (.int .i64 n1) ∧
  onSome p1 fun p4 =>
  ∃ (n2 : Int), cellOf h3 (Addr.add (Addr.add p4 0) 2) = some (.int .i64 n2) ∧
  bif (decide (n1 < n2)) then (
  K (.bool false) h3) else (
  (0 ≤ i1 ∧ i1 < (sL1 : Int)) ∧
  onSome sA1 fun p5 =>
  ∃ (n3 : Int), cellOf h3 (Addr.add p5 (Int.toNat i1)) = some (.int .i64 n3) ∧
  onSome p1 fun p6 =>
  ∃ (n4 : Int), cellOf h3 (Addr.add (Addr.add p6 0) 3) = some (.int .i64 n4) ∧
  bif (decide (n3 ≥ n4)) then (
  K (.bool false) h3) else (
  I1 (IntKind.wrap .i64 (i1 + 1)) h3 ∧ M1 (IntKind.wrap .i64 (i1 + 1)) h3 < M1 i1 h3))) else (
  K (.bool true) h3)
def bolelaw11_play_inside.lo : Nat → List Nat × List (Nat × Ty) := fun n => match n with | 3 => ([0, 3], [(4, .int .i64)]) | _ => ([], [])
def bolelaw11_play_inside.od : Nat → Od := fun n => match n with | 5 => (.op 0 [] (.op 1 [] (.op 2 [] (.op 3 [] (.op 4 [] (.op 5 [] (.op 6 [] (.op 7 [] (.op 8 [] (.op 9 [] (.op 10 [] (.op 11 [] (.op 12 [] (.op 13 [] (.op 14 [] (.op 15 [] (.op 16 [] (.op 17 [] (.op 18 [] (.op 19 [] (.op 20 [] (.op 21 [] .nil)))))))))))))))))))))) | _ => .nil
theorem bolelaw11_play_inside.eq (p1 : Option Addr) (K : Value → Heap → Prop) (h : Heap) : fnX (cx bolelaw11_play_inside.lo bolelaw11_play_inside.od) Tryd.f26 (Tryd.f26.body.getD .skip) [.pointer p1] K h = bolelaw11_play_inside p1 K h := by kernel_rfl
theorem bolelaw11_play_inside.chk : fnOk (cx bolelaw11_play_inside.lo bolelaw11_play_inside.od) Tryd.f26 (Tryd.f26.body.getD .skip) 1 = true := by kernel_rfl
theorem bolelaw11_play_inside.ok {p1 : Option Addr} {K : Value → Heap → Prop} {h : Heap} (hx : bolelaw11_play_inside p1 K h) : C.bolelaw11_play_inside p1 h K :=
  fn_to (cxOk _ _) Tryd.func26 (by kernel_rfl) bolelaw11_play_inside.chk (by rw [bolelaw11_play_inside.eq]; exact hx)

-- 27
def bolelaw11_play_step.k2 (y1 : Option Addr) (f1 : Int) (x1 : Option Addr) (e1 : Int) (h10 : Heap) (K : Value → Heap → Prop) : Prop :=
  onSome x1 fun p6 =>
  ∃ cs5 : List Value, List.length cs5 = 15 ∧ Cells h10 p6 cs5 ∧
  onSome y1 fun p7 =>
  ∃ cs6 : List Value, List.length cs6 = 15 ∧ Cells h10 p7 cs6 ∧
  pairsOk [(.int .i64), (.int .i64), (.int .i64), (.int .i64), (.int .i64), (.int .i64), (.int .i64), (.int .i64), (.int .i64), (.int .i64), (.int .i64), (.int .i64), (.int .i64), (.int .i64), (.int .i64)] cs5 cs6 = true ∧
  bif (cellsEq cs5 cs6) then (
  K (.bool (e1 == f1)) h10) else (
  K (.bool false) h10)
def bolelaw11_play_step.k1 (p1 : Option Addr) (h1 : Heap) (y1 : Option Addr) (f1 : Int) (h6 : Heap) (K : Value → Heap → Prop) : Prop :=
  onSome p1 fun p4 =>
  ∃ (q2 : Option Addr), cellOf h6 (Addr.add p4 7) = some (.pointer q2) ∧
  onSome p1 fun p5 =>
  ∃ cs3 : List Value, List.length cs3 = 5 ∧ Cells h6 (Addr.add p5 0) cs3 ∧
  ∃ (n4 : Int), cellOf h6 (Addr.add ⟨h1.size, 0, none⟩ 1) = some (.int .i64 n4) ∧
  (
  C.inode_Get q2 cs3 n4 h6 fun r2 h7 =>
  ∃ (cs4 : List Value) (n5 : Int), r2 = .tuple #[.agg ⟨cs4⟩, .int .i64 n5] ∧
  New z35 35 h7 fun h8 =>
  (cellOf h8 (Addr.add p4 7) = some (.pointer q2)) ∧
  (List.length (cs3 : List Value) = 5 ∧ Cells h8 (Addr.add p5 0) cs3) ∧
  (cellOf h8 (Addr.add ⟨h1.size, 0, none⟩ 1) = some (.int .i64 n4)) ∧
  PutRow ⟨h7.size, 0, none⟩ cs4 15 h8 fun h9 =>
  bolelaw11_play_step.k2 y1 f1 (some ⟨h7.size, 0, none⟩) n5 h9 K) ∧
  New z35 35 h6 fun h11 =>
  (cellOf h11 (Addr.add p4 7) = some (.pointer q2)) ∧
  (List.length (cs3 : List Value) = 5 ∧ Cells h11 (Addr.add p5 0) cs3) ∧
  (cellOf h11 (Addr.add ⟨h1.size, 0, none⟩ 1) = some (.int .i64 n4)) ∧
  C.inode_Get q2 cs3 n4 h11 fun r3 h12 =>
  ∃ (cs7 : List Value) (n6 : Int), r3 = .tuple #[.agg ⟨cs7⟩, .int .i64 n6] ∧
  PutRow ⟨h6.size, 0, none⟩ cs7 15 h12 fun h13 =>
  bolelaw11_play_step.k2 y1 f1 (some ⟨h6.size, 0, none⟩) n6 h13 K
def bolelaw11_play_step (p1 : Option Addr) (o1 : List Value) (K : Value → Heap → Prop) (h1 : Heap) : Prop :=
  New o1 76 h1 fun h2 =>
  ∃ (n1 : Int), cellOf h2 (Addr.add ⟨h1.size, 0, none⟩ 0) = some (.int .i64 n1) ∧
  bif (n1 == 0) then (
  onSome p1 fun p2 =>
  ∃ (q1 : Option Addr), cellOf h2 (Addr.add p2 8) = some (.pointer q1) ∧
  onSome p1 fun p3 =>
  ∃ cs1 : List Value, List.length cs1 = 5 ∧ Cells h2 (Addr.add p3 0) cs1 ∧
  ∃ (n2 : Int), cellOf h2 (Addr.add ⟨h1.size, 0, none⟩ 1) = some (.int .i64 n2) ∧
  (
  C.boleref11_Get q1 cs1 n2 h2 fun r1 h3 =>
  ∃ (cs2 : List Value) (n3 : Int), r1 = .tuple #[.agg ⟨cs2⟩, .int .i64 n3] ∧
  New z35 35 h3 fun h4 =>
  (cellOf h4 (Addr.add p2 8) = some (.pointer q1)) ∧
  (List.length (cs1 : List Value) = 5 ∧ Cells h4 (Addr.add p3 0) cs1) ∧
  (cellOf h4 (Addr.add ⟨h1.size, 0, none⟩ 1) = some (.int .i64 n2)) ∧
  PutRow ⟨h3.size, 0, none⟩ cs2 15 h4 fun h5 =>
  bolelaw11_play_step.k1 p1 h1 (some ⟨h3.size, 0, none⟩) n3 h5 K) ∧
  New z35 35 h2 fun h14 =>
  (cellOf h14 (Addr.add p2 8) = some (.pointer q1)) ∧
  (List.length (cs1 : List Value) = 5 ∧ Cells h14 (Addr.add p3 0) cs1) ∧
  (cellOf h14 (Addr.add ⟨h1.size, 0, none⟩ 1) = some (.int .i64 n2)) ∧
  C.boleref11_Get q1 cs1 n2 h14 fun r4 h15 =>
  ∃ (cs8 : List Value) (n7 : Int), r4 = .tuple #[.agg ⟨cs8⟩, .int .i64 n7] ∧
  PutRow ⟨h2.size, 0, none⟩ cs8 15 h15 fun h16 =>
  bolelaw11_play_step.k1 p1 h1 (some ⟨h2.size, 0, none⟩) n7 h16 K) else (
  bif (n1 == 1) then (
  onSome p1 fun p8 =>
  ∃ (q3 : Option Addr), cellOf h2 (Addr.add p8 8) = some (.pointer q3) ∧
  onSome p1 fun p9 =>
  ∃ cs9 : List Value, List.length cs9 = 5 ∧ Cells h2 (Addr.add p9 0) cs9 ∧
  ∃ (n8 : Int), cellOf h2 (Addr.add ⟨h1.size, 0, none⟩ 1) = some (.int .i64 n8) ∧
  ∃ cs10 : List Value, List.length cs10 = 15 ∧ Cells h2 (Addr.add ⟨h1.size, 0, none⟩ 3) cs10 ∧
  C.boleref11_Put q3 cs9 n8 cs10 h2 fun r5 h17 =>
  ∃ (n9 : Int), r5 = .int .i64 n9 ∧
  onSome p1 fun p10 =>
  ∃ (q4 : Option Addr), cellOf h17 (Addr.add p10 7) = some (.pointer q4) ∧
  onSome p1 fun p11 =>
  ∃ cs11 : List Value, List.length cs11 = 5 ∧ Cells h17 (Addr.add p11 0) cs11 ∧
  ∃ (n10 : Int), cellOf h17 (Addr.add ⟨h1.size, 0, none⟩ 1) = some (.int .i64 n10) ∧
  ∃ cs12 : List Value, List.length cs12 = 15 ∧ Cells h17 (Addr.add ⟨h1.size, 0, none⟩ 3) cs12 ∧
  C.inode_Put q4 cs11 n10 cs12 h17 fun r6 h18 =>
  ∃ (n11 : Int), r6 = .int .i64 n11 ∧
  K (.bool (n11 == n9)) h18) else (
  bif (n1 == 2) then (
  onSome p1 fun p12 =>
  ∃ (q5 : Option Addr), cellOf h2 (Addr.add p12 8) = some (.pointer q5) ∧
  onSome p1 fun p13 =>
  ∃ cs13 : List Value, List.length cs13 = 5 ∧ Cells h2 (Addr.add p13 0) cs13 ∧
  ∃ cs14 : List Value, List.length cs14 = 15 ∧ Cells h2 (Addr.add ⟨h1.size, 0, none⟩ 3) cs14 ∧
  C.boleref11_Take q5 cs13 cs14 h2 fun r7 h19 =>
  ∃ (n12 : Int) (n13 : Int), r7 = .tuple #[.int .i64 n12, .int .i64 n13] ∧
  onSome p1 fun p14 =>
  ∃ (q6 : Option Addr), cellOf h19 (Addr.add p14 7) = some (.pointer q6) ∧
  onSome p1 fun p15 =>
  ∃ cs15 : List Value, List.length cs15 = 5 ∧ Cells h19 (Addr.add p15 0) cs15 ∧
  ∃ cs16 : List Value, List.length cs16 = 15 ∧ Cells h19 (Addr.add ⟨h1.size, 0, none⟩ 3) cs16 ∧
  C.inode_Take q6 cs15 cs16 h19 fun r8 h20 =>
  ∃ (n14 : Int) (n15 : Int), r8 = .tuple #[.int .i64 n14, .int .i64 n15] ∧
  bif (n14 == n12) then (
  K (.bool (n15 == n13)) h20) else (
  K (.bool false) h20)) else (
  bif (n1 == 3) then (
  onSome p1 fun p16 =>
  ∃ (q7 : Option Addr), cellOf h2 (Addr.add p16 8) = some (.pointer q7) ∧
  onSome p1 fun p17 =>
  ∃ cs17 : List Value, List.length cs17 = 5 ∧ Cells h2 (Addr.add p17 0) cs17 ∧
  C.boleref11_Free q7 cs17 h2 fun r9 h21 =>
  ∃ (n16 : Int) (n17 : Int), r9 = .tuple #[.int .i64 n16, .int .i64 n17] ∧
  onSome p1 fun p18 =>
  ∃ (q8 : Option Addr), cellOf h21 (Addr.add p18 7) = some (.pointer q8) ∧
  onSome p1 fun p19 =>
  ∃ cs18 : List Value, List.length cs18 = 5 ∧ Cells h21 (Addr.add p19 0) cs18 ∧
  C.inode_Free q8 cs18 h21 fun r10 h22 =>
  ∃ (n18 : Int) (n19 : Int), r10 = .tuple #[.int .i64 n18, .int .i64 n19] ∧
  bif (n18 == n16) then (
  K (.bool (n19 == n17)) h22) else (
  K (.bool false) h22)) else (
  bif (n1 == 4) then (
  ∃ (n20 : Int), cellOf h2 (Addr.add ⟨h1.size, 0, none⟩ 1) = some (.int .i64 n20) ∧
  ∃ (n21 : Int), cellOf h2 (Addr.add ⟨h1.size, 0, none⟩ 2) = some (.int .i64 n21) ∧
  ∃ (n22 : Int), cellOf h2 (Addr.add ⟨h1.size, 0, none⟩ 18) = some (.int .u8 n22) ∧
  C.bolelaw11_play_poke p1 n20 n21 n22 h2 fun r11 h23 =>
  ∃ (b1 : Bool), r11 = .bool b1 ∧
  K (.bool b1) h23) else (
  bif (n1 == 5) then (
  onSome p1 fun p20 =>
  ∃ (q9 : Option Addr), cellOf h2 (Addr.add p20 8) = some (.pointer q9) ∧
  C.boleref06_Txn_Mark q9 h2 fun r12 h24 =>
  ∃ (n23 : Int) (n24 : Int), r12 = .tuple #[.int .i64 n23, .int .i64 n24] ∧
  onSome p1 fun p21 =>
  ∃ (q10 : Option Addr), cellOf h24 (Addr.add p21 7) = some (.pointer q10) ∧
  C.txn_Txn_Mark q10 h24 fun r13 h25 =>
  ∃ (n25 : Int) (n26 : Int), r13 = .tuple #[.int .i64 n25, .int .i64 n26] ∧
  bif (n26 == 0) then (
  bif (n24 == 0) then (
  onSome p1 fun p22 =>
  ∃ (sA1 : Option Addr) (sL1 : Nat) (sC1 : Nat), cellOf h25 (Addr.add p22 9) = some (.slice sA1 sL1 sC1) ∧
  List.length ([.int .i64 n25, .int .i64 n23] : List Value) = 2 ∧
  New [.int .i64 n25, .int .i64 n23] 56 h25 fun h26 =>
  ∃ new1 : List Value, List.length new1 = 1 * 2 ∧ SlCells h26 (some ⟨h25.size, 0, none⟩) new1 ∧ (∀ v ∈ new1, v.oneCell' = true) ∧
  AppendP ti56 56 sA1 sL1 sC1 1 new1 h26 fun sA2 sL2 sC2 h27 =>
  onSome p1 fun p23 =>
  Put (Addr.add p23 9) (.slice sA2 sL2 sC2) h27 fun h28 =>
  K (.bool (n26 == n24)) h28) else (
  K (.bool (n26 == n24)) h25)) else (
  K (.bool (n26 == n24)) h25)) else (
  bif (n1 == 6) then (
  onSome p1 fun p24 =>
  ∃ (sA3 : Option Addr) (sL3 : Nat) (sC3 : Nat), cellOf h2 (Addr.add p24 9) = some (.slice sA3 sL3 sC3) ∧
  bif ((sL3 : Int) == 0) then (
  K (.bool true) h2) else (
  ∃ (n27 : Int), cellOf h2 (Addr.add ⟨h1.size, 0, none⟩ 1) = some (.int .i64 n27) ∧
  onSome p1 fun p25 =>
  ∃ (sA4 : Option Addr) (sL4 : Nat) (sC4 : Nat), cellOf h2 (Addr.add p25 9) = some (.slice sA4 sL4 sC4) ∧
  C.bolelaw11_mod n27 (sL4 : Int) h2 fun r14 h29 =>
  ∃ (n28 : Int), r14 = .int .i64 n28 ∧
  onSome p1 fun p26 =>
  ∃ (q11 : Option Addr), cellOf h29 (Addr.add p26 8) = some (.pointer q11) ∧
  onSome p1 fun p27 =>
  ∃ (sA5 : Option Addr) (sL5 : Nat) (sC5 : Nat), cellOf h29 (Addr.add p27 9) = some (.slice sA5 sL5 sC5) ∧
  (0 ≤ n28 ∧ n28 < (sL5 : Int)) ∧
  onSome sA5 fun p28 =>
  (0 ≤ (1 : Int) ∧ 1 < (2 : Int)) ∧
  ∃ (n29 : Int), cellOf h29 (Addr.add (Addr.add p28 ((Int.toNat n28) * 2)) (Int.toNat 1)) = some (.int .i64 n29) ∧
  C.boleref06_Txn_Back q11 n29 h29 fun r15 h30 =>
  ∃ (n30 : Int), r15 = .int .i64 n30 ∧
  onSome p1 fun p29 =>
  ∃ (q12 : Option Addr), cellOf h30 (Addr.add p29 7) = some (.pointer q12) ∧
  onSome p1 fun p30 =>
  ∃ (sA6 : Option Addr) (sL6 : Nat) (sC6 : Nat), cellOf h30 (Addr.add p30 9) = some (.slice sA6 sL6 sC6) ∧
  (0 ≤ n28 ∧ n28 < (sL6 : Int)) ∧
  onSome sA6 fun p31 =>
  (0 ≤ (0 : Int) ∧ 0 < (2 : Int)) ∧
  ∃ (n31 : Int), cellOf h30 (Addr.add (Addr.add p31 ((Int.toNat n28) * 2)) (Int.toNat 0)) = some (.int .i64 n31) ∧
  C.txn_Txn_Back q12 n31 h30 fun r16 h31 =>
  ∃ (n32 : Int), r16 = .int .i64 n32 ∧
  onSome p1 fun p32 =>
  ∃ (sA7 : Option Addr) (sL7 : Nat) (sC7 : Nat), cellOf h31 (Addr.add p32 9) = some (.slice sA7 sL7 sC7) ∧
  (0 ≤ (IntKind.wrap .i64 (n28 + 1)) ∧ (IntKind.wrap .i64 (n28 + 1)) ≤ (sC7 : Int)) ∧
  onSome p1 fun p33 =>
  Put (Addr.add p33 9) (.slice sA7 (Int.toNat (IntKind.wrap .i64 (n28 + 1))) sC7) h31 fun h32 =>
  K (.bool (n32 == n30)) h32)) else (
  bif (n1 == 7) then (
  onSome p1 fun p34 =>
  ∃ (q13 : Option Addr), cellOf h2 (Addr.add p34 8) = some (.pointer q13) ∧
  C.boleref06_Txn_Abort q13 h2 fun r17 h33 =>
  r17 = .tuple #[] ∧
  onSome p1 fun p35 =>
  ∃ (q14 : Option Addr), cellOf h33 (Addr.add p35 7) = some (.pointer q14) ∧
  C.txn_Txn_Abort q14 h33 fun r18 h34 =>
  r18 = .tuple #[] ∧
  K (.bool true) h34) else (
  bif (n1 == 8) then (
  onSome p1 fun p36 =>
  ∃ (q15 : Option Addr), cellOf h2 (Addr.add p36 6) = some (.pointer q15) ∧
  C.boleref03_Disk_Crash q15 none 0 0 h2 fun r19 h35 =>
  r19 = .tuple #[] ∧
  onSome p1 fun p37 =>
  ∃ (q16 : Option Addr), cellOf h35 (Addr.add p37 5) = some (.pointer q16) ∧
  C.adisk_Disk_Crash q16 none 0 0 h35 fun r20 h36 =>
  r20 = .tuple #[] ∧
  K (.bool true) h36) else (
  K (.bool true) h2)))))))))
def bolelaw11_play_step.lo : Nat → List Nat × List (Nat × Ty) := fun n => match n with | _ => ([], [])
set_option maxRecDepth 100000 in
def bolelaw11_play_step.od : Nat → Od := fun n => match n with | 3 => (.op 0 [] (.op 1 [] (.op 2 [] (.op 3 [] (.op 4 [] (.op 5 [] (.op 6 [] (.op 7 [] (.op 8 [] (.op 9 [] (.alt 10 [] (.op 11 [] (.op 12 [] (.op 13 [] (.op 14 [3, 7, 9] (.op 15 [] (.op 16 [] .nil)))))) (.op 14 [3, 7, 9] (.op 10 [] (.op 11 [] (.op 12 [] (.op 13 [] (.op 15 [] (.op 16 [] .nil)))))))))))))))))) | 4 => (.op 0 [] (.op 1 [] (.op 2 [] (.op 3 [] (.op 4 [] (.op 5 [] (.op 6 [] (.op 7 [] (.op 8 [] (.op 9 [] (.alt 10 [] (.op 11 [] (.op 12 [] (.op 13 [] (.op 14 [3, 7, 9] (.op 15 [] (.op 16 [] .nil)))))) (.op 14 [3, 7, 9] (.op 10 [] (.op 11 [] (.op 12 [] (.op 13 [] (.op 15 [] (.op 16 [] .nil)))))))))))))))))) | 7 => (.op 0 [] (.op 1 [] (.op 2 [] (.op 3 [] (.op 4 [] (.op 5 [] (.op 6 [] (.op 7 [] (.op 8 [] (.op 9 [] (.op 10 [] (.op 11 [] (.op 12 [] (.op 13 [] .nil)))))))))))))) | 8 => (.op 0 [] (.op 1 [] (.op 2 [] (.op 3 [] (.op 4 [] (.op 5 [] (.op 6 [] (.op 7 [] (.op 8 [] (.op 9 [] (.op 10 [] (.op 11 [] (.op 13 [] (.op 12 [] (.op 14 [] (.op 15 [] .nil)))))))))))))))) | 10 => (.op 0 [] (.op 1 [] (.op 2 [] (.op 3 [] (.op 4 [] (.op 5 [] (.op 6 [] (.op 7 [] (.op 8 [] (.op 9 [] (.op 10 [] (.op 11 [] (.op 12 [] (.op 13 [] (.op 14 [] (.op 15 [] .nil)))))))))))))))) | 11 => (.op 0 [] (.op 1 [] (.op 2 [] (.op 3 [] (.op 4 [] (.op 5 [] (.op 6 [] (.op 7 [] (.op 8 [] (.op 9 [] (.op 10 [] (.op 11 [] (.op 12 [] (.op 13 [] (.op 14 [] (.op 15 [] .nil)))))))))))))))) | 14 => (.op 0 [] (.op 1 [] (.op 2 [] (.op 3 [] (.op 4 [] (.op 5 [] (.op 6 [] (.op 7 [] (.op 8 [] (.op 9 [] (.op 10 [] (.op 11 [] (.op 12 [] (.op 13 [] .nil)))))))))))))) | 15 => (.op 0 [] (.op 1 [] (.op 2 [] (.op 3 [] (.op 4 [] (.op 5 [] (.op 6 [] (.op 7 [] (.op 8 [] (.op 9 [] (.op 10 [] (.op 11 [] (.op 12 [] (.op 13 [] .nil)))))))))))))) | 28 => (.op 0 [] (.op 1 [] (.op 2 [] (.op 3 [] (.op 4 [] (.op 5 [] (.op 6 [] (.op 7 [] (.op 8 [] .nil))))))))) | 29 => (.op 0 [] (.op 1 [] (.op 2 [] (.op 3 [] (.op 4 [] (.op 5 [] (.op 6 [] (.op 7 [] (.op 8 [] (.op 9 [] (.op 10 [] (.op 11 [] (.op 12 [] (.op 13 [] .nil)))))))))))))) | 30 => (.op 0 [] (.op 1 [] (.op 2 [] (.op 3 [] (.op 4 [] (.op 5 [] (.op 6 [] (.op 7 [] (.op 8 [] (.op 9 [] (.op 10 [] (.op 11 [] (.op 12 [] (.op 13 [] .nil)))))))))))))) | _ => .nil
set_option maxRecDepth 100000 in
theorem bolelaw11_play_step.eq (p1 : Option Addr) (o1 : List Value) (K : Value → Heap → Prop) (h : Heap) : fnX (cx bolelaw11_play_step.lo bolelaw11_play_step.od) Tryd.f27 (Tryd.f27.body.getD .skip) [.pointer p1, .agg ⟨o1⟩] K h = bolelaw11_play_step p1 o1 K h := by kernel_rfl
theorem bolelaw11_play_step.chk : fnOk (cx bolelaw11_play_step.lo bolelaw11_play_step.od) Tryd.f27 (Tryd.f27.body.getD .skip) 2 = true := by kernel_rfl
set_option maxRecDepth 100000 in
theorem bolelaw11_play_step.ok {p1 : Option Addr} {o1 : List Value} {K : Value → Heap → Prop} {h : Heap} (hx : bolelaw11_play_step p1 o1 K h) : C.bolelaw11_play_step p1 o1 h K :=
  fn_to (cxOk _ _) Tryd.func27 (by kernel_rfl) bolelaw11_play_step.chk (by rw [bolelaw11_play_step.eq]; exact hx)

-- 28
def bolelaw11_play_same (p1 : Option Addr) (K : Value → Heap → Prop) (h1 : Heap) : Prop :=
  onSome p1 fun p2 =>
  ∃ (q1 : Option Addr), cellOf h1 (Addr.add p2 7) = some (.pointer q1) ∧
  C.txn_Txn_Written q1 h1 fun r1 h2 =>
  ∃ (sA1 : Option Addr) (sL1 : Nat) (sC1 : Nat), r1 = .slice sA1 sL1 sC1 ∧
  onSome p1 fun p3 =>
  ∃ (q2 : Option Addr), cellOf h2 (Addr.add p3 8) = some (.pointer q2) ∧
  C.boleref06_Txn_Written q2 h2 fun r2 h3 =>
  ∃ (sA2 : Option Addr) (sL2 : Nat) (sC2 : Nat), r2 = .slice sA2 sL2 sC2 ∧
  bif ((sL1 : Int) != (sL2 : Int)) then (
  K (.bool false) h3) else (
  ∃ (I1 : Int → Heap → Prop) (M1 : Int → Heap → Nat), I1 0 h3 ∧
  ∀ (i1 : Int), ∀ h4 : Heap, I1 i1 h4 →
  bif (decide (i1 < (sL1 : Int))) then (
  onSome p1 fun p4 =>
  ∃ (q3 : Option Addr), cellOf h4 (Addr.add p4 7) = some (.pointer q3) ∧
  (0 ≤ i1 ∧ i1 < (sL1 : Int)) ∧
  onSome sA1 fun p5 =>
  ∃ (n1 : Int), cellOf h4 (Addr.add p5 (Int.toNat i1)) = some (.int .i64 n1) ∧
  C.txn_Txn_Read q3 n1 h4 fun r3 h5 =>
  ∃ (sA3 : Option Addr) (sL3 : Nat) (sC3 : Nat) (n2 : Int), r3 = .tuple #[.slice sA3 sL3 sC3, .int .i64 n2] ∧
  onSome p1 fun p6 =>
  ∃ (q4 : Option Addr), cellOf h5 (Addr.add p6 8) = some (.pointer q4) ∧
  (0 ≤ i1 ∧ i1 < (sL2 : Int)) ∧
  onSome sA2 fun p7 =>
  ∃ (n3 : Int), cellOf h5 (Addr.add p7 (Int.toNat i1)) = some (.int .i64 n3) ∧
  C.boleref06_Txn_Read q4 n3 h5 fun r4 h6 =>
  ∃ (sA4 : Option Addr) (sL4 : Nat) (sC4 : Nat) (n4 : Int), r4 = .tuple #[.slice sA4 sL4 sC4, .int .i64 n4] ∧
  (0 ≤ i1 ∧ i1 < (sL1 : Int)) ∧
  onSome sA1 fun p8 =>
  ∃ (n5 : Int), cellOf h6 (Addr.add p8 (Int.toNat i1)) = some (.int .i64 n5) ∧
  (0 ≤ i1 ∧ i1 < (sL2 : Int)) ∧
  onSome sA2 fun p9 =>
  ∃ (n6 : Int), cellOf h6 (Addr.add p9 (Int.toNat i1)) = some (.int .i64 n6) ∧
  bif (n5 != n6) then (
  K (.bool false) h6) else (
  bif (n2 != n4) then (
  K (.bool false) h6) else (
  ∃ bs1 : List UInt8, StrAt h6 sA3 sL3 bs1 ∧
  ∃ bs2 : List UInt8, StrAt h6 sA4 sL4 bs2 ∧
  bif (!((mkStr bs1).toList == (mkStr bs2).toList)) then (
  K (.bool false) h6) else (
  I1 (IntKind.wrap .i64 (i1 + 1)) h6 ∧ M1 (IntKind.wrap .i64 (i1 + 1)) h6 < M1 i1 h4)))) else (
  onSome p1 fun p10 =>
  ∃ (q5 : Option Addr), cellOf h4 (Addr.add p10 5) = some (.pointer q5) ∧
  C.adisk_Disk_Steps q5 h4 fun r5 h7 =>
  ∃ (n7 : Int) (n8 : Int), r5 = .tuple #[.int .i64 n7, .int .i64 n8] ∧
  bif (n7 == 0) then (
  K (.bool (n8 == 0)) h7) else (
  K (.bool false) h7)))
def bolelaw11_play_same.lo : Nat → List Nat × List (Nat × Ty) := fun n => match n with | 6 => ([0, 3, 4], [(5, .int .i64)]) | _ => ([], [])
def bolelaw11_play_same.od : Nat → Od := fun n => match n with | 8 => (.op 0 [] (.op 1 [] (.op 2 [] (.op 3 [] (.op 4 [] (.op 5 [] (.op 6 [] (.op 7 [] (.op 8 [] (.op 9 [] (.op 10 [] (.op 11 [] (.op 12 [] (.op 13 [] .nil)))))))))))))) | 9 => (.op 0 [] (.op 1 [] (.op 2 [] (.op 3 [] (.op 4 [] (.op 5 [] (.op 6 [] (.op 7 [] (.op 8 [] (.op 9 [] (.op 10 [] (.op 11 [] (.op 12 [] (.op 13 [] .nil)))))))))))))) | 10 => (.op 0 [] (.op 1 [] (.op 2 [] (.op 3 [] (.op 4 [] (.op 5 [] (.op 6 [] (.op 7 [] (.op 8 [] (.op 9 [] (.op 10 [] (.op 11 [] (.op 12 [] (.op 13 [] (.op 14 [] (.op 15 [] (.op 16 [] (.op 17 [] (.op 18 [] (.op 19 [] (.op 20 [] .nil))))))))))))))))))))) | _ => .nil
theorem bolelaw11_play_same.eq (p1 : Option Addr) (K : Value → Heap → Prop) (h : Heap) : fnX (cx bolelaw11_play_same.lo bolelaw11_play_same.od) Tryd.f28 (Tryd.f28.body.getD .skip) [.pointer p1] K h = bolelaw11_play_same p1 K h := by kernel_rfl
theorem bolelaw11_play_same.chk : fnOk (cx bolelaw11_play_same.lo bolelaw11_play_same.od) Tryd.f28 (Tryd.f28.body.getD .skip) 1 = true := by kernel_rfl
theorem bolelaw11_play_same.ok {p1 : Option Addr} {K : Value → Heap → Prop} {h : Heap} (hx : bolelaw11_play_same p1 K h) : C.bolelaw11_play_same p1 h K :=
  fn_to (cxOk _ _) Tryd.func28 (by kernel_rfl) bolelaw11_play_same.chk (by rw [bolelaw11_play_same.eq]; exact hx)

-- 30
def adisk_Open (imageA1 : Option Addr) (imageL1 : Nat) (imageC1 : Nat) (K : Value → Heap → Prop) (h1 : Heap) : Prop :=
  bif ((Int.tmod (imageL1 : Int) 512) != 0) then (
  K (.tuple #[.pointer none, .int .i64 32]) h1) else (
  C.adisk_New (IntKind.wrap .i64 (Int.tdiv (imageL1 : Int) 512)) h1 fun r1 h2 =>
  ∃ (q1 : Option Addr) (n1 : Int), r1 = .tuple #[.pointer q1, .int .i64 n1] ∧
  bif (n1 != 0) then (
  K (.tuple #[.pointer none, .int .i64 n1]) h2) else (
  onSome q1 fun p1 =>
  ∃ (sA1 : Option Addr) (sL1 : Nat) (sC1 : Nat), cellOf h2 (Addr.add p1 0) = some (.slice sA1 sL1 sC1) ∧
  ∃ (I1 : Int → Heap → Prop) (M1 : Int → Heap → Nat), I1 0 h2 ∧
  ∀ (n2 : Int), ∀ h3 : Heap, I1 n2 h3 →
  bif (decide (n2 < (sL1 : Int))) then (
  onSome q1 fun p2 =>
  ∃ (sA2 : Option Addr) (sL2 : Nat) (sC2 : Nat), cellOf h3 (Addr.add p2 0) = some (.slice sA2 sL2 sC2) ∧
  (0 ≤ n2 ∧ n2 < (sL2 : Int)) ∧
  onSome sA2 fun p3 =>
  (0 ≤ (IntKind.wrap .i64 (n2 * 512)) ∧ (IntKind.wrap .i64 (n2 * 512)) ≤ (imageL1 : Int)) ∧
  CopyP ti5 (some (Addr.add p3 ((Int.toNat n2) * 512))) 512 (.slice (if imageC1 = (Int.toNat (IntKind.wrap .i64 (n2 * 512))) then imageA1 else Option.map (Addr.add · (Int.toNat (IntKind.wrap .i64 (n2 * 512)))) imageA1) (imageL1 - (Int.toNat (IntKind.wrap .i64 (n2 * 512)))) (imageC1 - (Int.toNat (IntKind.wrap .i64 (n2 * 512))))) h3 fun n3 h4 =>
  I1 (IntKind.wrap .i64 (n2 + 1)) h4 ∧ M1 (IntKind.wrap .i64 (n2 + 1)) h4 < M1 n2 h3) else (
  K (.tuple #[.pointer q1, .int .i64 0]) h3)))
def adisk_Open.lo : Nat → List Nat × List (Nat × Ty) := fun n => match n with | 7 => ([0, 4, 25], [(26, .int .i64)]) | _ => ([], [])
def adisk_Open.od : Nat → Od := fun n => match n with | 9 => (.op 0 [] (.op 1 [] (.op 2 [] (.op 3 [] (.op 4 [] (.op 5 [] (.op 6 [] (.op 7 [] (.op 8 [] (.op 9 [] (.op 10 [] (.op 11 [] .nil)))))))))))) | _ => .nil
theorem adisk_Open.eq (imageA1 : Option Addr) (imageL1 : Nat) (imageC1 : Nat) (K : Value → Heap → Prop) (h : Heap) : fnX (cx adisk_Open.lo adisk_Open.od) Tryd.f30 (Tryd.f30.body.getD .skip) [.slice imageA1 imageL1 imageC1] K h = adisk_Open imageA1 imageL1 imageC1 K h := by kernel_rfl
theorem adisk_Open.chk : fnOk (cx adisk_Open.lo adisk_Open.od) Tryd.f30 (Tryd.f30.body.getD .skip) 1 = true := by kernel_rfl
theorem adisk_Open.ok {imageA1 : Option Addr} {imageL1 : Nat} {imageC1 : Nat} {K : Value → Heap → Prop} {h : Heap} (hx : adisk_Open imageA1 imageL1 imageC1 K h) : C.adisk_Open imageA1 imageL1 imageC1 h K :=
  fn_to (cxOk _ _) Tryd.func30 (by kernel_rfl) adisk_Open.chk (by rw [adisk_Open.eq]; exact hx)

-- 31
def boleref03_Of (imageA1 : Option Addr) (imageL1 : Nat) (imageC1 : Nat) (K : Value → Heap → Prop) (h1 : Heap) : Prop :=
  bif ((imageL1 : Int) == 0) then (
  K (.tuple #[.pointer none, .int .i64 32]) h1) else (
  bif ((Int.tmod (imageL1 : Int) 512) != 0) then (
  K (.tuple #[.pointer none, .int .i64 32]) h1) else (
  bif (decide ((IntKind.wrap .i64 (Int.tdiv (imageL1 : Int) 512)) > 16384)) then (
  K (.tuple #[.pointer none, .int .i64 32]) h1) else (
  C.boleref03_copied imageA1 imageL1 imageC1 h1 fun r1 h2 =>
  ∃ (sA1 : Option Addr) (sL1 : Nat) (sC1 : Nat), r1 = .slice sA1 sL1 sC1 ∧
  New [.slice sA1 sL1 sC1, .slice none 0 0, .slice none 0 0, .int .i64 0, .bool false, .int .i64 0, .int .i64 0] 148 h2 fun h3 =>
  K (.tuple #[.pointer (some ⟨h2.size, 0, none⟩), .int .i64 0]) h3)))
def boleref03_Of.lo : Nat → List Nat × List (Nat × Ty) := fun n => match n with | _ => ([], [])
def boleref03_Of.od : Nat → Od := fun n => match n with | _ => .nil
set_option maxRecDepth 1000000 in
theorem boleref03_Of.eq (imageA1 : Option Addr) (imageL1 : Nat) (imageC1 : Nat) (K : Value → Heap → Prop) (h : Heap) : fnX (cx boleref03_Of.lo boleref03_Of.od) Tryd.f31 (Tryd.f31.body.getD .skip) [.slice imageA1 imageL1 imageC1] K h = boleref03_Of imageA1 imageL1 imageC1 K h := by kernel_rfl
theorem boleref03_Of.chk : fnOk (cx boleref03_Of.lo boleref03_Of.od) Tryd.f31 (Tryd.f31.body.getD .skip) 1 = true := by kernel_rfl
set_option maxRecDepth 1000000 in
theorem boleref03_Of.ok {imageA1 : Option Addr} {imageL1 : Nat} {imageC1 : Nat} {K : Value → Heap → Prop} {h : Heap} (hx : boleref03_Of imageA1 imageL1 imageC1 K h) : C.boleref03_Of imageA1 imageL1 imageC1 h K :=
  fn_to (cxOk _ _) Tryd.func31 (by kernel_rfl) boleref03_Of.chk (by rw [boleref03_Of.eq]; exact hx)

-- 32
def txn_Begin (d1 : Option Addr) (K : Value → Heap → Prop) (h1 : Heap) : Prop :=
  NewM h1 fun h2 =>
  New [.pointer d1, .map (some h1.size), .slice none 0 0, .bool false] 152 h2 fun h3 =>
  K (.pointer (some ⟨h2.size, 0, none⟩)) h3
def txn_Begin.lo : Nat → List Nat × List (Nat × Ty) := fun n => match n with | _ => ([], [])
def txn_Begin.od : Nat → Od := fun n => match n with | _ => .nil
theorem txn_Begin.eq (d1 : Option Addr) (K : Value → Heap → Prop) (h : Heap) : fnX (cx txn_Begin.lo txn_Begin.od) Tryd.f32 (Tryd.f32.body.getD .skip) [.pointer d1] K h = txn_Begin d1 K h := by kernel_rfl
theorem txn_Begin.chk : fnOk (cx txn_Begin.lo txn_Begin.od) Tryd.f32 (Tryd.f32.body.getD .skip) 1 = true := by kernel_rfl
theorem txn_Begin.ok {d1 : Option Addr} {K : Value → Heap → Prop} {h : Heap} (hx : txn_Begin d1 K h) : C.txn_Begin d1 h K :=
  fn_to (cxOk _ _) Tryd.func32 (by kernel_rfl) txn_Begin.chk (by rw [txn_Begin.eq]; exact hx)

-- 33
def boleref06_Begin (d1 : Option Addr) (K : Value → Heap → Prop) (h1 : Heap) : Prop :=
  New [.pointer d1, .slice none 0 0, .bool false] 155 h1 fun h2 =>
  K (.pointer (some ⟨h1.size, 0, none⟩)) h2
def boleref06_Begin.lo : Nat → List Nat × List (Nat × Ty) := fun n => match n with | _ => ([], [])
def boleref06_Begin.od : Nat → Od := fun n => match n with | _ => .nil
theorem boleref06_Begin.eq (d1 : Option Addr) (K : Value → Heap → Prop) (h : Heap) : fnX (cx boleref06_Begin.lo boleref06_Begin.od) Tryd.f33 (Tryd.f33.body.getD .skip) [.pointer d1] K h = boleref06_Begin d1 K h := by kernel_rfl
theorem boleref06_Begin.chk : fnOk (cx boleref06_Begin.lo boleref06_Begin.od) Tryd.f33 (Tryd.f33.body.getD .skip) 1 = true := by kernel_rfl
theorem boleref06_Begin.ok {d1 : Option Addr} {K : Value → Heap → Prop} {h : Heap} (hx : boleref06_Begin d1 K h) : C.boleref06_Begin d1 h K :=
  fn_to (cxOk _ _) Tryd.func33 (by kernel_rfl) boleref06_Begin.chk (by rw [boleref06_Begin.eq]; exact hx)

-- 34
def bmap_Find.k1 (t1 : Option Addr) (k1 : Int) (h1 : Heap) (h2 : Heap) (h3 : Heap) (K : Value → Heap → Prop) : Prop :=
  ∃ cs1 : List Value, List.length cs1 = 5 ∧ Cells h3 ⟨h1.size, 0, none⟩ cs1 ∧
  ∃ cs2 : List Value, List.length cs2 = 15 ∧ Cells h3 ⟨h2.size, 0, none⟩ cs2 ∧
  List.length (cs1 : List Value) = 5 ∧
  List.length (cs2 : List Value) = 15 ∧
  New ([.pointer t1] ++ (cs1 ++ cs2)) 93 h3 fun h4 =>
  C.bmap_file_walk (some ⟨h3.size, 0, none⟩) k1 (Value.func (.func 84) #[] ⟨[]⟩) h4 fun r1 h5 =>
  ∃ (n1 : Int) (n2 : Int), r1 = .tuple #[.int .i64 n1, .int .i64 n2] ∧
  K (.tuple #[.int .i64 n1, .int .i64 n2]) h5
def bmap_Find (t1 : Option Addr) (g1 : List Value) (x1 : List Value) (k1 : Int) (K : Value → Heap → Prop) (h1 : Heap) : Prop :=
  New g1 29 h1 fun h2 =>
  New x1 35 h2 fun h3 =>
  bif (decide (k1 < 0)) then (
  K (.tuple #[.int .i64 0, .int .i64 101]) h3) else (
  bif (decide (k1 ≥ 16522)) then (
  K (.tuple #[.int .i64 0, .int .i64 101]) h3) else (
  bmap_Find.k1 t1 k1 h1 h2 h3 K))
def bmap_Find.lo : Nat → List Nat × List (Nat × Ty) := fun n => match n with | _ => ([], [])
def bmap_Find.od : Nat → Od := fun n => match n with | _ => .nil
set_option maxRecDepth 1000000 in
theorem bmap_Find.eq (t1 : Option Addr) (g1 : List Value) (x1 : List Value) (k1 : Int) (K : Value → Heap → Prop) (h : Heap) : fnX (cx bmap_Find.lo bmap_Find.od) Tryd.f34 (Tryd.f34.body.getD .skip) [.pointer t1, .agg ⟨g1⟩, .agg ⟨x1⟩, .int .i64 k1] K h = bmap_Find t1 g1 x1 k1 K h := by kernel_rfl
theorem bmap_Find.chk : fnOk (cx bmap_Find.lo bmap_Find.od) Tryd.f34 (Tryd.f34.body.getD .skip) 4 = true := by kernel_rfl
set_option maxRecDepth 1000000 in
theorem bmap_Find.ok {t1 : Option Addr} {g1 : List Value} {x1 : List Value} {k1 : Int} {K : Value → Heap → Prop} {h : Heap} (hx : bmap_Find t1 g1 x1 k1 K h) : C.bmap_Find t1 g1 x1 k1 h K :=
  fn_to (cxOk _ _) Tryd.func34 (by kernel_rfl) bmap_Find.chk (by rw [bmap_Find.eq]; exact hx)

-- 36
def bmap_guard (t1 : Option Addr) (K : Value → Heap → Prop) (h1 : Heap) : Prop :=
  New [.pointer t1] 26 h1 fun h2 =>
  ∃ (q1 : Option Addr), cellOf h2 ⟨h1.size, 0, none⟩ = some (.pointer q1) ∧
  C.txn_Txn_Mark q1 h2 fun r1 h3 =>
  ∃ (n1 : Int) (n2 : Int), r1 = .tuple #[.int .i64 n1, .int .i64 n2] ∧
  New z3 3 h3 fun h4 =>
  New z39 39 h4 fun h5 =>
  Put ⟨h3.size, 0, none⟩ (.int .i64 n1) h5 fun h6 =>
  Put ⟨h4.size, 0, none⟩ (.int .i64 n2) h6 fun h7 =>
  K (.func (.func 90) #[] ⟨[.pointer (some ⟨h4.size, 0, none⟩), .pointer (some ⟨h1.size, 0, none⟩), .pointer (some ⟨h3.size, 0, none⟩)]⟩) h7
def bmap_guard.lo : Nat → List Nat × List (Nat × Ty) := fun n => match n with | _ => ([], [])
def bmap_guard.od : Nat → Od := fun n => match n with | _ => .nil
theorem bmap_guard.eq (t1 : Option Addr) (K : Value → Heap → Prop) (h : Heap) : fnX (cx bmap_guard.lo bmap_guard.od) Tryd.f36 (Tryd.f36.body.getD .skip) [.pointer t1] K h = bmap_guard t1 K h := by kernel_rfl
theorem bmap_guard.chk : fnOk (cx bmap_guard.lo bmap_guard.od) Tryd.f36 (Tryd.f36.body.getD .skip) 1 = true := by kernel_rfl
theorem bmap_guard.ok {t1 : Option Addr} {K : Value → Heap → Prop} {h : Heap} (hx : bmap_guard t1 K h) : C.bmap_guard t1 h K :=
  fn_to (cxOk _ _) Tryd.func36 (by kernel_rfl) bmap_guard.chk (by rw [bmap_guard.eq]; exact hx)

-- 37
def bmap_Add_c1 (cap1 : Option Addr) (cap2 : Option Addr) (cap3 : Option Addr) (cap4 : Option Addr) (K : Value → Heap → Prop) (h1 : Heap) : Prop :=
  onSome cap1 fun p1 =>
  ∃ (v1 : Value), cellOf h1 p1 = some (v1) ∧
  onSome cap2 fun p2 =>
  ∃ (n1 : Int), cellOf h1 p2 = some (.int .i64 n1) ∧
  HCallsV Tryd.prog v1 [.int .i64 n1] h1 fun r1 h2 =>
  r1 = .tuple #[] ∧
  onSome cap2 fun p3 =>
  ∃ (n2 : Int), cellOf h2 p3 = some (.int .i64 n2) ∧
  bif (n2 != 0) then (
  onSome cap3 fun p4 =>
  PutRow p4 [.int .i64 0, .int .i64 0, .int .i64 0, .int .i64 0, .int .i64 0, .int .i64 0, .int .i64 0, .int .i64 0, .int .i64 0, .int .i64 0, .int .i64 0, .int .i64 0, .int .i64 0, .int .i64 0, .int .i64 0] 15 h2 fun h3 =>
  onSome cap4 fun p5 =>
  Put p5 (.int .i64 0) h3 fun h4 =>
  K (.tuple #[]) h4) else (
  K (.tuple #[]) h2)
def bmap_Add_c1.lo : Nat → List Nat × List (Nat × Ty) := fun n => match n with | _ => ([], [])
def bmap_Add_c1.od : Nat → Od := fun n => match n with | _ => .nil
theorem bmap_Add_c1.eq (cap1 : Option Addr) (cap2 : Option Addr) (cap3 : Option Addr) (cap4 : Option Addr) (K : Value → Heap → Prop) (h : Heap) : fnX (cx bmap_Add_c1.lo bmap_Add_c1.od) Tryd.f37 (Tryd.f37.body.getD .skip) [.pointer cap1, .pointer cap2, .pointer cap3, .pointer cap4] K h = bmap_Add_c1 cap1 cap2 cap3 cap4 K h := by kernel_rfl
theorem bmap_Add_c1.chk : fnOk (cx bmap_Add_c1.lo bmap_Add_c1.od) Tryd.f37 (Tryd.f37.body.getD .skip) 4 = true := by kernel_rfl
theorem bmap_Add_c1.ok {cap1 : Option Addr} {cap2 : Option Addr} {cap3 : Option Addr} {cap4 : Option Addr} {K : Value → Heap → Prop} {h : Heap} (hx : bmap_Add_c1 cap1 cap2 cap3 cap4 K h) : C.bmap_Add_c1 cap1 cap2 cap3 cap4 h K :=
  fn_to (cxOk _ _) Tryd.func37 (by kernel_rfl) bmap_Add_c1.chk (by rw [bmap_Add_c1.eq]; exact hx)

-- 38
def bmap_file_walk.k1 (f1 : Option Addr) (at1 : Int) (n1 : Int) (h3 : Heap) (I1 : Int → Int → Heap → Prop) (M1 : Int → Int → Heap → Nat) (num1 : Int) (e1 : Int) (h8 : Heap) (K : Value → Heap → Prop) : Prop :=
  bif (e1 != 0) then (
  K (.tuple #[.int .i64 0, .int .i64 e1]) h8) else (
  bif (num1 == 0) then (
  K (.tuple #[.int .i64 0, .int .i64 0]) h8) else (
  C.bmap_file_look f1 num1 h8 fun r4 h9 =>
  ∃ (n6 : Int), r4 = .int .i64 n6 ∧
  bif (n6 != 0) then (
  K (.tuple #[.int .i64 0, .int .i64 n6]) h9) else (
  I1 num1 (IntKind.wrap .i64 (n1 + 1)) h9 ∧ M1 num1 (IntKind.wrap .i64 (n1 + 1)) h9 < M1 at1 n1 h3)))
def bmap_file_walk (f1 : Option Addr) (k1 : Int) (hole1 : Value) (K : Value → Heap → Prop) (h1 : Heap) : Prop :=
  C.bmap_way k1 h1 fun r1 h2 =>
  ∃ (sA1 : Option Addr) (sL1 : Nat) (sC1 : Nat), r1 = .slice sA1 sL1 sC1 ∧
  ∃ (I1 : Int → Int → Heap → Prop) (M1 : Int → Int → Heap → Nat), I1 0 0 h2 ∧
  ∀ (at1 : Int) (n1 : Int), ∀ h3 : Heap, I1 at1 n1 h3 →
  bif (decide (n1 < (sL1 : Int))) then (
  (0 ≤ n1 ∧ n1 < (sL1 : Int)) ∧
  onSome sA1 fun p1 =>
  ∃ cs1 : List Value, List.length cs1 = 2 ∧ Cells h3 (Addr.add p1 ((Int.toNat n1) * 2)) cs1 ∧
  NewRow z96 96 cs1 2 h3 fun h5 =>
  ∃ cs2 : List Value, List.length cs2 = 2 ∧ Cells h5 ⟨h3.size, 0, none⟩ cs2 ∧
  C.bmap_file_number f1 cs2 at1 h5 fun r2 h6 =>
  ∃ (n2 : Int) (sA2 : Option Addr) (sL2 : Nat) (sC2 : Nat) (n3 : Int), r2 = .tuple #[.int .i64 n2, .slice sA2 sL2 sC2, .int .i64 n3] ∧
  bif (n3 == 0) then (
  bif (n2 == 0) then (
  ∃ cs3 : List Value, List.length cs3 = 2 ∧ Cells h6 ⟨h3.size, 0, none⟩ cs3 ∧
  HCallsV Tryd.prog hole1 [.agg ⟨cs3⟩, .int .i64 at1, .slice sA2 sL2 sC2] h6 fun r3 h7 =>
  ∃ (n4 : Int) (n5 : Int), r3 = .tuple #[.int .i64 n4, .int .i64 n5] ∧
  bmap_file_walk.k1 f1 at1 n1 h3 I1 M1 n4 n5 h7 K) else (
  bmap_file_walk.k1 f1 at1 n1 h3 I1 M1 n2 n3 h6 K)) else (
  bmap_file_walk.k1 f1 at1 n1 h3 I1 M1 n2 n3 h6 K)) else (
  K (.tuple #[.int .i64 at1, .int .i64 0]) h3)
def bmap_file_walk.lo : Nat → List Nat × List (Nat × Ty) := fun n => match n with | 3 => ([0, 2, 16, 17], [(8, .int .i64), (18, .int .i64)]) | _ => ([], [])
def bmap_file_walk.od : Nat → Od := fun n => match n with | _ => .nil
theorem bmap_file_walk.eq (f1 : Option Addr) (k1 : Int) (hole1 : Value) (K : Value → Heap → Prop) (h : Heap) : fnX (cx bmap_file_walk.lo bmap_file_walk.od) Tryd.f38 (Tryd.f38.body.getD .skip) [.pointer f1, .int .i64 k1, hole1] K h = bmap_file_walk f1 k1 hole1 K h := by kernel_rfl
theorem bmap_file_walk.chk : fnOk (cx bmap_file_walk.lo bmap_file_walk.od) Tryd.f38 (Tryd.f38.body.getD .skip) 3 = true := by kernel_rfl
theorem bmap_file_walk.ok {f1 : Option Addr} {k1 : Int} {hole1 : Value} {K : Value → Heap → Prop} {h : Heap} (hx : bmap_file_walk f1 k1 hole1 K h) : C.bmap_file_walk f1 k1 hole1 h K :=
  fn_to (cxOk _ _) Tryd.func38 (by kernel_rfl) bmap_file_walk.chk (by rw [bmap_file_walk.eq]; exact hx)

-- 39
def bmap_Add_c2 (s1 : List Value) (at1 : Int) (bA1 : Option Addr) (bL1 : Nat) (bC1 : Nat) (cap1 : Option Addr) (cap2 : Option Addr) (cap3 : Option Addr) (K : Value → Heap → Prop) (h1 : Heap) : Prop :=
  New s1 96 h1 fun h2 =>
  onSome cap1 fun p1 =>
  ∃ (q1 : Option Addr), cellOf h2 p1 = some (.pointer q1) ∧
  onSome cap2 fun p2 =>
  ∃ cs1 : List Value, List.length cs1 = 5 ∧ Cells h2 p2 cs1 ∧
  C.space_Take q1 cs1 h2 fun r1 h3 =>
  ∃ (n1 : Int) (n2 : Int), r1 = .tuple #[.int .i64 n1, .int .i64 n2] ∧
  bif (n2 != 0) then (
  K (.tuple #[.int .i64 0, .int .i64 n2]) h3) else (
  onSome cap3 fun p3 =>
  ∃ (q2 : Option Addr), cellOf h3 p3 = some (.pointer q2) ∧
  ∃ cs2 : List Value, List.length cs2 = 2 ∧ Cells h3 ⟨h1.size, 0, none⟩ cs2 ∧
  C.bmap_file_set q2 cs2 at1 bA1 bL1 bC1 n1 h3 fun r2 h4 =>
  ∃ (n3 : Int), r2 = .int .i64 n3 ∧
  K (.tuple #[.int .i64 n1, .int .i64 n3]) h4)
def bmap_Add_c2.lo : Nat → List Nat × List (Nat × Ty) := fun n => match n with | _ => ([], [])
def bmap_Add_c2.od : Nat → Od := fun n => match n with | _ => .nil
theorem bmap_Add_c2.eq (s1 : List Value) (at1 : Int) (bA1 : Option Addr) (bL1 : Nat) (bC1 : Nat) (cap1 : Option Addr) (cap2 : Option Addr) (cap3 : Option Addr) (K : Value → Heap → Prop) (h : Heap) : fnX (cx bmap_Add_c2.lo bmap_Add_c2.od) Tryd.f39 (Tryd.f39.body.getD .skip) [.agg ⟨s1⟩, .int .i64 at1, .slice bA1 bL1 bC1, .pointer cap1, .pointer cap2, .pointer cap3] K h = bmap_Add_c2 s1 at1 bA1 bL1 bC1 cap1 cap2 cap3 K h := by kernel_rfl
theorem bmap_Add_c2.chk : fnOk (cx bmap_Add_c2.lo bmap_Add_c2.od) Tryd.f39 (Tryd.f39.body.getD .skip) 6 = true := by kernel_rfl
theorem bmap_Add_c2.ok {s1 : List Value} {at1 : Int} {bA1 : Option Addr} {bL1 : Nat} {bC1 : Nat} {cap1 : Option Addr} {cap2 : Option Addr} {cap3 : Option Addr} {K : Value → Heap → Prop} {h : Heap} (hx : bmap_Add_c2 s1 at1 bA1 bL1 bC1 cap1 cap2 cap3 K h) : C.bmap_Add_c2 s1 at1 bA1 bL1 bC1 cap1 cap2 cap3 h K :=
  fn_to (cxOk _ _) Tryd.func39 (by kernel_rfl) bmap_Add_c2.chk (by rw [bmap_Add_c2.eq]; exact hx)

-- 40
def space_Take (t1 : Option Addr) (g1 : List Value) (K : Value → Heap → Prop) (h1 : Heap) : Prop :=
  New [.pointer t1] 26 h1 fun h2 =>
  New g1 29 h2 fun h3 =>
  New z39 39 h3 fun h4 =>
  New z3 3 h4 fun h5 =>
  Put ⟨h4.size, 0, none⟩ (.int .i64 0) h5 fun h6 =>
  ∃ (q1 : Option Addr), cellOf h6 ⟨h1.size, 0, none⟩ = some (.pointer q1) ∧
  ∃ cs1 : List Value, List.length cs1 = 5 ∧ Cells h6 ⟨h2.size, 0, none⟩ cs1 ∧
  C.space_each q1 cs1 (Value.func (.func 93) #[] ⟨[.pointer (some ⟨h2.size, 0, none⟩), .pointer (some ⟨h4.size, 0, none⟩)]⟩) h6 fun r1 h7 =>
  ∃ (n1 : Int), r1 = .int .i64 n1 ∧
  Put ⟨h3.size, 0, none⟩ (.int .i64 n1) h7 fun h8 =>
  ∃ (n2 : Int), cellOf h8 ⟨h3.size, 0, none⟩ = some (.int .i64 n2) ∧
  bif (n2 != 0) then (
  ∃ (n3 : Int), cellOf h8 ⟨h3.size, 0, none⟩ = some (.int .i64 n3) ∧
  Put ⟨h3.size, 0, none⟩ (.int .i64 n3) h8 fun h9 =>
  ∃ (res1 : Int), cellOf h9 ⟨h3.size, 0, none⟩ = some (.int .i64 res1) ∧
  K (.tuple #[.int .i64 0, .int .i64 res1]) h9) else (
  ∃ (n4 : Int), cellOf h8 ⟨h4.size, 0, none⟩ = some (.int .i64 n4) ∧
  bif (n4 == 0) then (
  Put ⟨h3.size, 0, none⟩ (.int .i64 90) h8 fun h10 =>
  ∃ (res2 : Int), cellOf h10 ⟨h3.size, 0, none⟩ = some (.int .i64 res2) ∧
  K (.tuple #[.int .i64 0, .int .i64 res2]) h10) else (
  ∃ (q2 : Option Addr), cellOf h8 ⟨h1.size, 0, none⟩ = some (.pointer q2) ∧
  C.txn_Txn_Mark q2 h8 fun r2 h11 =>
  ∃ (n5 : Int) (n6 : Int), r2 = .tuple #[.int .i64 n5, .int .i64 n6] ∧
  New z3 3 h11 fun h12 =>
  Put ⟨h11.size, 0, none⟩ (.int .i64 n5) h12 fun h13 =>
  Put ⟨h3.size, 0, none⟩ (.int .i64 n6) h13 fun h14 =>
  ∃ (n7 : Int), cellOf h14 ⟨h3.size, 0, none⟩ = some (.int .i64 n7) ∧
  bif (n7 != 0) then (
  ∃ (n8 : Int), cellOf h14 ⟨h3.size, 0, none⟩ = some (.int .i64 n8) ∧
  Put ⟨h3.size, 0, none⟩ (.int .i64 n8) h14 fun h15 =>
  ∃ (res3 : Int), cellOf h15 ⟨h3.size, 0, none⟩ = some (.int .i64 res3) ∧
  K (.tuple #[.int .i64 0, .int .i64 res3]) h15) else (
  ∃ (q3 : Option Addr), cellOf h14 ⟨h1.size, 0, none⟩ = some (.pointer q3) ∧
  ∃ cs2 : List Value, List.length cs2 = 5 ∧ Cells h14 ⟨h2.size, 0, none⟩ cs2 ∧
  ∃ (n9 : Int), cellOf h14 ⟨h4.size, 0, none⟩ = some (.int .i64 n9) ∧
  C.space_set q3 cs2 n9 true h14 fun r3 h16 =>
  ∃ (n10 : Int), r3 = .int .i64 n10 ∧
  Put ⟨h3.size, 0, none⟩ (.int .i64 n10) h16 fun h17 =>
  ∃ (n11 : Int), cellOf h17 ⟨h3.size, 0, none⟩ = some (.int .i64 n11) ∧
  bif (n11 != 0) then (
  ∃ (n12 : Int), cellOf h17 ⟨h3.size, 0, none⟩ = some (.int .i64 n12) ∧
  Put ⟨h3.size, 0, none⟩ (.int .i64 n12) h17 fun h18 =>
  D.space_Take_c2 (some ⟨h1.size, 0, none⟩) (some ⟨h11.size, 0, none⟩) (some ⟨h3.size, 0, none⟩) h18 fun h19 =>
  ∃ (res4 : Int), cellOf h19 ⟨h3.size, 0, none⟩ = some (.int .i64 res4) ∧
  K (.tuple #[.int .i64 0, .int .i64 res4]) h19) else (
  ∃ (q4 : Option Addr), cellOf h17 ⟨h1.size, 0, none⟩ = some (.pointer q4) ∧
  ∃ (n13 : Int), cellOf h17 ⟨h4.size, 0, none⟩ = some (.int .i64 n13) ∧
  (0 ≤ (512 : Int) ∧ (512 : Int) ≤ 512 ∧ (1 : Int) * 512 ≤ 281474976710656 ∧ (512 : Int) ≤ 281474976710656) ∧
  New (repCells z5 (Int.toNat 512)) 5 h17 fun h20 =>
  (cellOf h20 ⟨h1.size, 0, none⟩ = some (.pointer q4)) ∧
  (cellOf h20 ⟨h4.size, 0, none⟩ = some (.int .i64 n13)) ∧
  C.txn_Txn_Write q4 n13 (some ⟨h17.size, 0, none⟩) (Int.toNat 512) (Int.toNat 512) h20 fun r4 h21 =>
  ∃ (n14 : Int), r4 = .int .i64 n14 ∧
  Put ⟨h3.size, 0, none⟩ (.int .i64 n14) h21 fun h22 =>
  ∃ (n15 : Int), cellOf h22 ⟨h3.size, 0, none⟩ = some (.int .i64 n15) ∧
  bif (n15 != 0) then (
  ∃ (n16 : Int), cellOf h22 ⟨h3.size, 0, none⟩ = some (.int .i64 n16) ∧
  Put ⟨h3.size, 0, none⟩ (.int .i64 n16) h22 fun h23 =>
  D.space_Take_c2 (some ⟨h1.size, 0, none⟩) (some ⟨h11.size, 0, none⟩) (some ⟨h3.size, 0, none⟩) h23 fun h24 =>
  ∃ (res5 : Int), cellOf h24 ⟨h3.size, 0, none⟩ = some (.int .i64 res5) ∧
  K (.tuple #[.int .i64 0, .int .i64 res5]) h24) else (
  ∃ (n17 : Int), cellOf h22 ⟨h4.size, 0, none⟩ = some (.int .i64 n17) ∧
  Put ⟨h3.size, 0, none⟩ (.int .i64 0) h22 fun h25 =>
  D.space_Take_c2 (some ⟨h1.size, 0, none⟩) (some ⟨h11.size, 0, none⟩) (some ⟨h3.size, 0, none⟩) h25 fun h26 =>
  ∃ (res6 : Int), cellOf h26 ⟨h3.size, 0, none⟩ = some (.int .i64 res6) ∧
  K (.tuple #[.int .i64 n17, .int .i64 res6]) h26)))))
def space_Take.lo : Nat → List Nat × List (Nat × Ty) := fun n => match n with | _ => ([], [])
def space_Take.od : Nat → Od := fun n => match n with | 4 => (.op 0 [] (.op 1 [] (.op 2 [] .nil))) | 9 => (.op 0 [] (.op 1 [] (.op 2 [] .nil))) | 13 => (.op 0 [] (.op 1 [] (.op 2 [] .nil))) | 14 => (.op 0 [] (.op 1 [] (.op 2 [0, 1] (.op 3 [] (.op 4 [] .nil))))) | 16 => (.op 0 [] (.op 1 [] (.op 2 [] .nil))) | _ => .nil
theorem space_Take.eq (t1 : Option Addr) (g1 : List Value) (K : Value → Heap → Prop) (h : Heap) : fnX (cx space_Take.lo space_Take.od) Tryd.f40 (Tryd.f40.body.getD .skip) [.pointer t1, .agg ⟨g1⟩] K h = space_Take t1 g1 K h := by kernel_rfl
theorem space_Take.chk : fnOk (cx space_Take.lo space_Take.od) Tryd.f40 (Tryd.f40.body.getD .skip) 2 = true := by kernel_rfl
theorem space_Take.ok {t1 : Option Addr} {g1 : List Value} {K : Value → Heap → Prop} {h : Heap} (hx : space_Take t1 g1 K h) : C.space_Take t1 g1 h K :=
  fn_to (cxOk _ _) Tryd.func40 (by kernel_rfl) space_Take.chk (by rw [space_Take.eq]; exact hx)

-- 41
def bmap_file_set (f1 : Option Addr) (s1 : List Value) (at1 : Int) (bA1 : Option Addr) (bL1 : Nat) (bC1 : Nat) (num1 : Int) (K : Value → Heap → Prop) (h1 : Heap) : Prop :=
  New s1 96 h1 fun h2 =>
  ∃ (n1 : Int), cellOf h2 (Addr.add ⟨h1.size, 0, none⟩ 0) = some (.int .i64 n1) ∧
  bif (n1 != 3) then (
  ∃ cs1 : List Value, List.length cs1 = 2 ∧ Cells h2 ⟨h1.size, 0, none⟩ cs1 ∧
  C.bmap_file_own f1 cs1 h2 fun r1 h3 =>
  ∃ (q1 : Option Addr), r1 = .pointer q1 ∧
  onSome q1 fun p1 =>
  Put p1 (.int .i64 num1) h3 fun h4 =>
  K (.int .i64 0) h4) else (
  ∃ (n2 : Int), cellOf h2 (Addr.add ⟨h1.size, 0, none⟩ 1) = some (.int .i64 n2) ∧
  C.rec_Put bA1 bL1 bC1 (IntKind.wrap .i64 (4 * n2)) 4 (IntKind.wrap .u64 (num1)) h2 fun r2 h5 =>
  ∃ (n3 : Int), r2 = .int .i64 n3 ∧
  onSome f1 fun p2 =>
  ∃ (q2 : Option Addr), cellOf h5 (Addr.add p2 0) = some (.pointer q2) ∧
  C.txn_Txn_Write q2 at1 bA1 bL1 bC1 h5 fun r3 h6 =>
  ∃ (n4 : Int), r3 = .int .i64 n4 ∧
  K (.int .i64 n4) h6)
def bmap_file_set.lo : Nat → List Nat × List (Nat × Ty) := fun n => match n with | _ => ([], [])
def bmap_file_set.od : Nat → Od := fun n => match n with | _ => .nil
theorem bmap_file_set.eq (f1 : Option Addr) (s1 : List Value) (at1 : Int) (bA1 : Option Addr) (bL1 : Nat) (bC1 : Nat) (num1 : Int) (K : Value → Heap → Prop) (h : Heap) : fnX (cx bmap_file_set.lo bmap_file_set.od) Tryd.f41 (Tryd.f41.body.getD .skip) [.pointer f1, .agg ⟨s1⟩, .int .i64 at1, .slice bA1 bL1 bC1, .int .i64 num1] K h = bmap_file_set f1 s1 at1 bA1 bL1 bC1 num1 K h := by kernel_rfl
theorem bmap_file_set.chk : fnOk (cx bmap_file_set.lo bmap_file_set.od) Tryd.f41 (Tryd.f41.body.getD .skip) 5 = true := by kernel_rfl
theorem bmap_file_set.ok {f1 : Option Addr} {s1 : List Value} {at1 : Int} {bA1 : Option Addr} {bL1 : Nat} {bC1 : Nat} {num1 : Int} {K : Value → Heap → Prop} {h : Heap} (hx : bmap_file_set f1 s1 at1 bA1 bL1 bC1 num1 K h) : C.bmap_file_set f1 s1 at1 bA1 bL1 bC1 num1 h K :=
  fn_to (cxOk _ _) Tryd.func41 (by kernel_rfl) bmap_file_set.chk (by rw [bmap_file_set.eq]; exact hx)

-- 42
def space_each (t1 : Option Addr) (g1 : List Value) (do1 : Value) (K : Value → Heap → Prop) (h1 : Heap) : Prop :=
  New g1 29 h1 fun h2 =>
  ∃ (n1 : Int), cellOf h2 (Addr.add ⟨h1.size, 0, none⟩ 1) = some (.int .i64 n1) ∧
  ∃ (I1 : Int → Heap → Prop) (M1 : Int → Heap → Nat), I1 n1 h2 ∧
  ∀ (k1 : Int), ∀ h3 : Heap, I1 k1 h3 →
  ∃ (n2 : Int), cellOf h3 (Addr.add ⟨h1.size, 0, none⟩ 2) = some (.int .i64 n2) ∧
  bif (decide (k1 < n2)) then (
  C.txn_Txn_Read t1 k1 h3 fun r1 h4 =>
  ∃ (sA1 : Option Addr) (sL1 : Nat) (sC1 : Nat) (n3 : Int), r1 = .tuple #[.slice sA1 sL1 sC1, .int .i64 n3] ∧
  bif (n3 != 0) then (
  K (.int .i64 n3) h4) else (
  ∃ (n4 : Int), cellOf h4 (Addr.add ⟨h1.size, 0, none⟩ 1) = some (.int .i64 n4) ∧
  HCallsV Tryd.prog do1 [.int .i64 (IntKind.wrap .i64 (4096 * (IntKind.wrap .i64 (k1 - n4)))), .slice sA1 sL1 sC1] h4 fun r2 h5 =>
  ∃ (b1 : Bool), r2 = .bool b1 ∧
  bif (!b1) then (
  K (.int .i64 0) h5) else (
  I1 (IntKind.wrap .i64 (k1 + 1)) h5 ∧ M1 (IntKind.wrap .i64 (k1 + 1)) h5 < M1 k1 h3))) else (
  K (.int .i64 0) h3)
def space_each.lo : Nat → List Nat × List (Nat × Ty) := fun n => match n with | 2 => ([0, 2, 4], [(7, .int .i64)]) | _ => ([], [])
def space_each.od : Nat → Od := fun n => match n with | _ => .nil
theorem space_each.eq (t1 : Option Addr) (g1 : List Value) (do1 : Value) (K : Value → Heap → Prop) (h : Heap) : fnX (cx space_each.lo space_each.od) Tryd.f42 (Tryd.f42.body.getD .skip) [.pointer t1, .agg ⟨g1⟩, do1] K h = space_each t1 g1 do1 K h := by kernel_rfl
theorem space_each.chk : fnOk (cx space_each.lo space_each.od) Tryd.f42 (Tryd.f42.body.getD .skip) 3 = true := by kernel_rfl
theorem space_each.ok {t1 : Option Addr} {g1 : List Value} {do1 : Value} {K : Value → Heap → Prop} {h : Heap} (hx : space_each t1 g1 do1 K h) : C.space_each t1 g1 do1 h K :=
  fn_to (cxOk _ _) Tryd.func42 (by kernel_rfl) space_each.chk (by rw [space_each.eq]; exact hx)

-- 43
def space_Free_c1 (first1 : Int) (bA1 : Option Addr) (bL1 : Nat) (bC1 : Nat) (cap1 : Option Addr) (cap2 : Option Addr) (K : Value → Heap → Prop) (h1 : Heap) : Prop :=
  onSome cap1 fun p1 =>
  ∃ cs1 : List Value, List.length cs1 = 5 ∧ Cells h1 p1 cs1 ∧
  C.space_rows cs1 first1 bA1 bL1 bC1 (Value.func (.func 45) #[] ⟨[.pointer cap2]⟩) h1 fun r1 h2 =>
  r1 = .tuple #[] ∧
  K (.bool true) h2
def space_Free_c1.lo : Nat → List Nat × List (Nat × Ty) := fun n => match n with | _ => ([], [])
def space_Free_c1.od : Nat → Od := fun n => match n with | _ => .nil
theorem space_Free_c1.eq (first1 : Int) (bA1 : Option Addr) (bL1 : Nat) (bC1 : Nat) (cap1 : Option Addr) (cap2 : Option Addr) (K : Value → Heap → Prop) (h : Heap) : fnX (cx space_Free_c1.lo space_Free_c1.od) Tryd.f43 (Tryd.f43.body.getD .skip) [.int .i64 first1, .slice bA1 bL1 bC1, .pointer cap1, .pointer cap2] K h = space_Free_c1 first1 bA1 bL1 bC1 cap1 cap2 K h := by kernel_rfl
theorem space_Free_c1.chk : fnOk (cx space_Free_c1.lo space_Free_c1.od) Tryd.f43 (Tryd.f43.body.getD .skip) 4 = true := by kernel_rfl
theorem space_Free_c1.ok {first1 : Int} {bA1 : Option Addr} {bL1 : Nat} {bC1 : Nat} {cap1 : Option Addr} {cap2 : Option Addr} {K : Value → Heap → Prop} {h : Heap} (hx : space_Free_c1 first1 bA1 bL1 bC1 cap1 cap2 K h) : C.space_Free_c1 first1 bA1 bL1 bC1 cap1 cap2 h K :=
  fn_to (cxOk _ _) Tryd.func43 (by kernel_rfl) space_Free_c1.chk (by rw [space_Free_c1.eq]; exact hx)

-- 44
def space_rows (g1 : List Value) (first1 : Int) (bA1 : Option Addr) (bL1 : Nat) (bC1 : Nat) (do1 : Value) (K : Value → Heap → Prop) (h1 : Heap) : Prop :=
  New g1 29 h1 fun h2 =>
  New [.int .i64 first1] 3 h2 fun h3 =>
  New (cellsL do1) 101 h3 fun h4 =>
  C.bits_Runs bA1 bL1 bC1 h4 fun r1 h5 =>
  ∃ (v1 : Value), r1 = v1 ∧
  ∀ (R1 : Loop),
  (∀ (n1 : Int) (n2 : Int), ∀ (h6 : Heap) (k1 : Value → Heap → Prop), LoopOn h6 (h5.size + 1) R1 .ready none →
  (
  LoopOn h6 (h5.size + 1) R1 .ready none ∧
  SetL h6 (h5.size + 1) R1 .busy none fun h7 =>
  ∃ (n3 : Int), cellOf h7 ⟨h2.size, 0, none⟩ = some (.int .i64 n3) ∧
  ∃ (n4 : Int), cellOf h7 (Addr.add ⟨h1.size, 0, none⟩ 3) = some (.int .i64 n4) ∧
  ∃ (n5 : Int), cellOf h7 ⟨h2.size, 0, none⟩ = some (.int .i64 n5) ∧
  ∃ (n6 : Int), cellOf h7 (Addr.add ⟨h1.size, 0, none⟩ 0) = some (.int .i64 n6) ∧
  bif (decide ((if n4 > (IntKind.wrap .i64 (n3 + n1)) then n4 else (IntKind.wrap .i64 (n3 + n1))) < (if n6 < (IntKind.wrap .i64 ((IntKind.wrap .i64 (n5 + n1)) + n2)) then n6 else (IntKind.wrap .i64 ((IntKind.wrap .i64 (n5 + n1)) + n2))))) then (
  ∃ (v2 : Value), cellOf h7 ⟨h3.size, 0, none⟩ = some (v2) ∧
  HCallsV Tryd.prog v2 [.int .i64 (if n4 > (IntKind.wrap .i64 (n3 + n1)) then n4 else (IntKind.wrap .i64 (n3 + n1))), .int .i64 (if n6 < (IntKind.wrap .i64 ((IntKind.wrap .i64 (n5 + n1)) + n2)) then n6 else (IntKind.wrap .i64 ((IntKind.wrap .i64 (n5 + n1)) + n2)))] h7 fun r2 h8 =>
  ∃ (b1 : Bool), r2 = .bool b1 ∧
  bif (!b1) then (
  LoopOn h8 (h5.size + 1) R1 .busy none ∧
  k1 (.bool false) (setLoop h8 (h5.size + 1) R1 .done (some .ret))) else (
  LoopOn h8 (h5.size + 1) R1 .busy none ∧
  k1 (.bool true) (setLoop h8 (h5.size + 1) R1 .ready none))) else (
  LoopOn h7 (h5.size + 1) R1 .busy none ∧
  k1 (.bool true) (setLoop h7 (h5.size + 1) R1 .ready none))) →
  YCalls Tryd.prog (h5.size + 1) [.int .i64 n1, .int .i64 n2] h6 k1) →
  HCallsF Tryd.prog v1 [.func (.yield (h5.size + 1)) #[] #[]] (beginL h5 R1) fun _ h9 =>
  ∃ (st1 : LoopState) (pend1 : Option Code), LoopOn h9 (h5.size + 1) R1 st1 pend1 ∧ st1 ≠ .busy ∧
  pendX pend1 (
  SetL h9 (h5.size + 1) R1 .exhausted pend1 fun h10 =>
  EndD h5.size h10 fun h11 =>
  K (.tuple #[]) h11) (
  SetL h9 (h5.size + 1) R1 .exhausted pend1 fun h12 =>
  EndD h5.size h12 fun h13 =>
  K (.tuple #[]) h13) (fun _ => False)
def space_rows.lo : Nat → List Nat × List (Nat × Ty) := fun n => match n with | 1000002 => ([], [(14, .int .i64), (15, .int .i64)]) | _ => ([], [])
def space_rows.od : Nat → Od := fun n => match n with | 4 => (.op 0 [] (.op 1 [] (.op 2 [] (.op 3 [] (.op 4 [] (.op 5 [] (.op 6 [] (.op 7 [] (.op 8 [] (.op 9 [] (.op 10 [] (.op 11 [] (.op 12 [] (.op 13 [] (.op 14 [] (.op 15 [] .nil)))))))))))))))) | _ => .nil
theorem space_rows.eq (g1 : List Value) (first1 : Int) (bA1 : Option Addr) (bL1 : Nat) (bC1 : Nat) (do1 : Value) (K : Value → Heap → Prop) (h : Heap) : fnX (cx space_rows.lo space_rows.od) Tryd.f44 (Tryd.f44.body.getD .skip) [.agg ⟨g1⟩, .int .i64 first1, .slice bA1 bL1 bC1, do1] K h = space_rows g1 first1 bA1 bL1 bC1 do1 K h := by kernel_rfl
theorem space_rows.chk : fnOk (cx space_rows.lo space_rows.od) Tryd.f44 (Tryd.f44.body.getD .skip) 4 = true := by kernel_rfl
theorem space_rows.ok {g1 : List Value} {first1 : Int} {bA1 : Option Addr} {bL1 : Nat} {bC1 : Nat} {do1 : Value} {K : Value → Heap → Prop} {h : Heap} (hx : space_rows g1 first1 bA1 bL1 bC1 do1 K h) : C.space_rows g1 first1 bA1 bL1 bC1 do1 h K :=
  fn_to (cxOk _ _) Tryd.func44 (by kernel_rfl) space_rows.chk (by rw [space_rows.eq]; exact hx)
end Go.Proofs.YtcdpakjhjmchhaaDoor.W
