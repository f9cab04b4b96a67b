/-
  WHAT THE FUNCTIONS COMPUTE, as formulas; each held against the loaded code by the kernel. Written by program (gen.py).
-/
import Derived.Test.YtcdpakjhjmchhaaDoorTab
namespace Go.Proofs.YtcdpakjhjmchhaaDoor.W
open Go Go.Proofs Go.Proofs.YtcdpakjhjmchhaaDoor.Wx
-- 5
def bolelaw11_InodeTable.k2 (atA1 : Option Addr) (atL1 : Nat) (h4 : Heap) (q1 : Option Addr) (n3 : Int) (i1 : Int) (h6 : Heap) (I1 : Int → Heap → Prop) (M1 : Int → Heap → Nat) (h11 : Heap) (K : Value → Heap → Prop) : Prop :=
  (0 ≤ i1 ∧ i1 < (atL1 : Int)) ∧
  onSome atA1 fun p3 =>
  ∃ (n4 : Int), cellOf h11 (Addr.add p3 (Int.toNat i1)) = some (.int .i64 n4) ∧
  onSome q1 fun p4 =>
  ∃ (n5 : Int), cellOf h11 (Addr.add (Addr.add p4 0) 4) = some (.int .i64 n5) ∧
  C.bolelaw11_mod n4 (IntKind.wrap .i64 (n5 - 1)) h11 fun r5 h12 =>
  ∃ (n6 : Int), r5 = .int .i64 n6 ∧
  onSome q1 fun p5 =>
  ∃ (q2 : Option Addr), cellOf h12 (Addr.add p5 7) = some (.pointer q2) ∧
  onSome q1 fun p6 =>
  ∃ cs3 : List Value, List.length cs3 = 5 ∧ Cells h12 (Addr.add p6 0) cs3 ∧
  ∃ cs4 : List Value, List.length cs4 = 15 ∧ Cells h12 ⟨h6.size, 0, none⟩ cs4 ∧
  C.inode_Put q2 cs3 (IntKind.wrap .i64 (1 + n6)) cs4 h12 fun r6 h13 =>
  ∃ (n7 : Int), r6 = .int .i64 n7 ∧
  bif (n7 != 0) then (
  K (.bool false) h13) else (
  ∃ cs5 : List Value, List.length cs5 = 15 ∧ Cells h13 ⟨h6.size, 0, none⟩ cs5 ∧
  (0 ≤ (IntKind.wrap .i64 (1 + n6)) ∧ (IntKind.wrap .i64 (1 + n6)) < ((Int.toNat n3) : Int)) ∧
  PutRow (Addr.add ⟨h4.size, 0, none⟩ ((Int.toNat (IntKind.wrap .i64 (1 + n6))) * 15)) cs5 15 h13 fun h14 =>
  I1 (IntKind.wrap .i64 (i1 + 1)) h14 ∧ M1 (IntKind.wrap .i64 (i1 + 1)) h14 < M1 i1 h6)
def bolelaw11_InodeTable.k1 (lA1 : Option Addr) (lL1 : Nat) (atA1 : Option Addr) (atL1 : Nat) (h4 : Heap) (q1 : Option Addr) (n3 : Int) (i1 : Int) (h6 : Heap) (I1 : Int → Heap → Prop) (M1 : Int → Heap → Nat) (K : Value → Heap → Prop) : Prop :=
  NewRow z35 35 [.int .i64 0, .int .i64 0, .int .i64 0, .int .i64 0, .int .i64 0, .int .i64 0, .int .i64 0, .int .i64 0, .int .i64 0, .int .i64 0, .int .i64 0, .int .i64 0, .int .i64 0, .int .i64 0, .int .i64 0] 15 h6 fun h8 =>
  bif (decide (i1 < (lL1 : Int))) then (
  (0 ≤ i1 ∧ i1 < (lL1 : Int)) ∧
  onSome lA1 fun p2 =>
  ∃ cs1 : List Value, List.length cs1 = 15 ∧ Cells h8 (Addr.add p2 ((Int.toNat i1) * 15)) cs1 ∧
  C.bolelaw11_brought cs1 h8 fun r4 h9 =>
  ∃ (cs2 : List Value), r4 = .agg ⟨cs2⟩ ∧
  PutRow ⟨h6.size, 0, none⟩ cs2 15 h9 fun h10 =>
  bolelaw11_InodeTable.k2 atA1 atL1 h4 q1 n3 i1 h6 I1 M1 h10 K) else (
  bolelaw11_InodeTable.k2 atA1 atL1 h4 q1 n3 i1 h6 I1 M1 h8 K)
def bolelaw11_InodeTable.k5 (none1 : Int) (low1 : Int) (k1 : Int) (h16 : Heap) (I2 : Int → Int → Int → Heap → Prop) (M2 : Int → Int → Int → Heap → Nat) (x1 : Option Addr) (h20 : Heap) (K : Value → Heap → Prop) : Prop :=
  onSome x1 fun p11 =>
  ∃ (n10 : Int), cellOf h20 (Addr.add p11 0) = some (.int .i64 n10) ∧
  bif (n10 == 0) then (
  I2 (IntKind.wrap .i64 (none1 + 1)) k1 (IntKind.wrap .i64 (k1 - 1)) h20 ∧ M2 (IntKind.wrap .i64 (none1 + 1)) k1 (IntKind.wrap .i64 (k1 - 1)) h20 < M2 none1 low1 k1 h16) else (
  I2 none1 low1 (IntKind.wrap .i64 (k1 - 1)) h20 ∧ M2 none1 low1 (IntKind.wrap .i64 (k1 - 1)) h20 < M2 none1 low1 k1 h16)
def bolelaw11_InodeTable.k4 (h4 : Heap) (n3 : Int) (none1 : Int) (low1 : Int) (k1 : Int) (h16 : Heap) (I2 : Int → Int → Int → Heap → Prop) (M2 : Int → Int → Int → Heap → Nat) (x1 : Option Addr) (e1 : Int) (h20 : Heap) (K : Value → Heap → Prop) : Prop :=
  bif (e1 != 0) then (
  K (.bool false) h20) else (
  onSome x1 fun p10 =>
  ∃ cs8 : List Value, List.length cs8 = 15 ∧ Cells h20 p10 cs8 ∧
  (0 ≤ k1 ∧ k1 < ((Int.toNat n3) : Int)) ∧
  ∃ cs9 : List Value, List.length cs9 = 15 ∧ Cells h20 (Addr.add ⟨h4.size, 0, none⟩ ((Int.toNat k1) * 15)) cs9 ∧
  pairsOk [(.int .i64), (.int .i64), (.int .i64), (.int .i64), (.int .i64), (.int .i64), (.int .i64), (.int .i64), (.int .i64), (.int .i64), (.int .i64), (.int .i64), (.int .i64), (.int .i64), (.int .i64)] cs8 cs9 = true ∧
  bif (!(cellsEq cs8 cs9)) then (
  K (.bool false) h20) else (
  bolelaw11_InodeTable.k5 none1 low1 k1 h16 I2 M2 x1 h20 K))
def bolelaw11_InodeTable.k8 (h4 : Heap) (n3 : Int) (low3 : Int) (j1 : Int) (h33 : Heap) (I4 : Int → Int → Heap → Prop) (M4 : Int → Int → Heap → Nat) (y1 : Option Addr) (r15 : Int) (h37 : Heap) (K : Value → Heap → Prop) : Prop :=
  bif (r15 != 0) then (
  K (.bool false) h37) else (
  onSome y1 fun p21 =>
  ∃ cs19 : List Value, List.length cs19 = 15 ∧ Cells h37 p21 cs19 ∧
  (0 ≤ j1 ∧ j1 < ((Int.toNat n3) : Int)) ∧
  ∃ cs20 : List Value, List.length cs20 = 15 ∧ Cells h37 (Addr.add ⟨h4.size, 0, none⟩ ((Int.toNat j1) * 15)) cs20 ∧
  pairsOk [(.int .i64), (.int .i64), (.int .i64), (.int .i64), (.int .i64), (.int .i64), (.int .i64), (.int .i64), (.int .i64), (.int .i64), (.int .i64), (.int .i64), (.int .i64), (.int .i64), (.int .i64)] cs19 cs20 = true ∧
  bif (!(cellsEq cs19 cs20)) then (
  K (.bool false) h37) else (
  onSome y1 fun p22 =>
  ∃ (n20 : Int), cellOf h37 (Addr.add p22 0) = some (.int .i64 n20) ∧
  bif (n20 == 0) then (
  I4 j1 (IntKind.wrap .i64 (j1 - 1)) h37 ∧ M4 j1 (IntKind.wrap .i64 (j1 - 1)) h37 < M4 low3 j1 h33) else (
  I4 low3 (IntKind.wrap .i64 (j1 - 1)) h37 ∧ M4 low3 (IntKind.wrap .i64 (j1 - 1)) h37 < M4 low3 j1 h33)))
def bolelaw11_InodeTable.k7 (h4 : Heap) (q1 : Option Addr) (n3 : Int) (low2 : Int) (i2 : Int) (h25 : Heap) (I3 : Int → Int → Heap → Prop) (M3 : Int → Int → Heap → Nat) (h26 : Heap) (n14 : Int) (h31 : Heap) (K : Value → Heap → Prop) : Prop :=
  ∃ cs16 : List Value, List.length cs16 = 15 ∧ Cells h31 ⟨h26.size, 0, none⟩ cs16 ∧
  (0 ≤ n14 ∧ n14 < ((Int.toNat n3) : Int)) ∧
  PutRow (Addr.add ⟨h4.size, 0, none⟩ ((Int.toNat n14) * 15)) cs16 15 h31 fun h32 =>
  onSome q1 fun p18 =>
  ∃ (n18 : Int), cellOf h32 (Addr.add (Addr.add p18 0) 4) = some (.int .i64 n18) ∧
  ∃ (I4 : Int → Int → Heap → Prop) (M4 : Int → Int → Heap → Nat), I4 0 (IntKind.wrap .i64 (n18 - 1)) h32 ∧
  ∀ (low3 : Int) (j1 : Int), ∀ h33 : Heap, I4 low3 j1 h33 →
  bif (decide (j1 > 0)) then (
  onSome q1 fun p19 =>
  ∃ (q7 : Option Addr), cellOf h33 (Addr.add p19 7) = some (.pointer q7) ∧
  onSome q1 fun p20 =>
  ∃ cs17 : List Value, List.length cs17 = 5 ∧ Cells h33 (Addr.add p20 0) cs17 ∧
  (
  C.inode_Get q7 cs17 j1 h33 fun r14 h34 =>
  ∃ (cs18 : List Value) (n19 : Int), r14 = .tuple #[.agg ⟨cs18⟩, .int .i64 n19] ∧
  New z35 35 h34 fun h35 =>
  (cellOf h35 (Addr.add p19 7) = some (.pointer q7)) ∧
  (List.length (cs17 : List Value) = 5 ∧ Cells h35 (Addr.add p20 0) cs17) ∧
  PutRow ⟨h34.size, 0, none⟩ cs18 15 h35 fun h36 =>
  bolelaw11_InodeTable.k8 h4 n3 low3 j1 h33 I4 M4 (some ⟨h34.size, 0, none⟩) n19 h36 K) ∧
  New z35 35 h33 fun h38 =>
  (cellOf h38 (Addr.add p19 7) = some (.pointer q7)) ∧
  (List.length (cs17 : List Value) = 5 ∧ Cells h38 (Addr.add p20 0) cs17) ∧
  C.inode_Get q7 cs17 j1 h38 fun r16 h39 =>
  ∃ (cs21 : List Value) (n21 : Int), r16 = .tuple #[.agg ⟨cs21⟩, .int .i64 n21] ∧
  PutRow ⟨h33.size, 0, none⟩ cs21 15 h39 fun h40 =>
  bolelaw11_InodeTable.k8 h4 n3 low3 j1 h33 I4 M4 (some ⟨h33.size, 0, none⟩) n21 h40 K) else (
  I3 low3 (IntKind.wrap .i64 (i2 + 1)) h33 ∧ M3 low3 (IntKind.wrap .i64 (i2 + 1)) h33 < M3 low2 i2 h25)
def bolelaw11_InodeTable.k6 (h4 : Heap) (q1 : Option Addr) (n3 : Int) (none1 : Int) (low1 : Int) (h24 : Heap) (K : Value → Heap → Prop) : Prop :=
  ∃ (I3 : Int → Int → Heap → Prop) (M3 : Int → Int → Heap → Nat), I3 low1 0 h24 ∧
  ∀ (low2 : Int) (i2 : Int), ∀ h25 : Heap, I3 low2 i2 h25 →
  bif (decide (i2 ≤ none1)) then (
  C.bolelaw11_brought [.int .i64 i2, .int .i64 i2, .int .i64 i2, .int .i64 0, .int .i64 0, .int .i64 0, .int .i64 0, .int .i64 0, .int .i64 0, .int .i64 0, .int .i64 0, .int .i64 0, .int .i64 0, .int .i64 0, .int .i64 0] h25 fun r10 h26 =>
  ∃ (cs12 : List Value), r10 = .agg ⟨cs12⟩ ∧
  NewRow z35 35 cs12 15 h26 fun h28 =>
  onSome q1 fun p14 =>
  ∃ (q5 : Option Addr), cellOf h28 (Addr.add p14 7) = some (.pointer q5) ∧
  onSome q1 fun p15 =>
  ∃ cs13 : List Value, List.length cs13 = 5 ∧ Cells h28 (Addr.add p15 0) cs13 ∧
  ∃ cs14 : List Value, List.length cs14 = 15 ∧ Cells h28 ⟨h26.size, 0, none⟩ cs14 ∧
  C.inode_Take q5 cs13 cs14 h28 fun r11 h29 =>
  ∃ (n14 : Int) (n15 : Int), r11 = .tuple #[.int .i64 n14, .int .i64 n15] ∧
  bif (i2 == none1) then (
  bif (n15 == 90) then (
  bif (n14 == 0) then (
  C.bolelaw11_play_inside q1 h29 fun r12 h30 =>
  ∃ (b3 : Bool), r12 = .bool b3 ∧
  K (.bool b3) h30) else (
  K (.bool false) h29)) else (
  K (.bool false) h29)) else (
  onSome q1 fun p16 =>
  ∃ (q6 : Option Addr), cellOf h29 (Addr.add p16 7) = some (.pointer q6) ∧
  onSome q1 fun p17 =>
  ∃ cs15 : List Value, List.length cs15 = 5 ∧ Cells h29 (Addr.add p17 0) cs15 ∧
  C.inode_Free q6 cs15 h29 fun r13 h31 =>
  ∃ (n16 : Int) (n17 : Int), r13 = .tuple #[.int .i64 n16, .int .i64 n17] ∧
  bif (n15 != 0) then (
  K (.bool false) h31) else (
  bif (n14 != low2) then (
  K (.bool false) h31) else (
  bif (n17 != 0) then (
  K (.bool false) h31) else (
  bif (n16 != (IntKind.wrap .i64 ((IntKind.wrap .i64 (none1 - i2)) - 1))) then (
  K (.bool false) h31) else (
  bolelaw11_InodeTable.k7 h4 q1 n3 low2 i2 h25 I3 M3 h26 n14 h31 K)))))) else (
  K (.bool false) h25)
def bolelaw11_InodeTable.k3 (h4 : Heap) (q1 : Option Addr) (n3 : Int) (h15 : Heap) (K : Value → Heap → Prop) : Prop :=
  onSome q1 fun p7 =>
  ∃ (n8 : Int), cellOf h15 (Addr.add (Addr.add p7 0) 4) = some (.int .i64 n8) ∧
  ∃ (I2 : Int → Int → Int → Heap → Prop) (M2 : Int → Int → Int → Heap → Nat), I2 0 0 (IntKind.wrap .i64 (n8 - 1)) h15 ∧
  ∀ (none1 : Int) (low1 : Int) (k1 : Int), ∀ h16 : Heap, I2 none1 low1 k1 h16 →
  bif (decide (k1 > 0)) then (
  onSome q1 fun p8 =>
  ∃ (q3 : Option Addr), cellOf h16 (Addr.add p8 7) = some (.pointer q3) ∧
  onSome q1 fun p9 =>
  ∃ cs6 : List Value, List.length cs6 = 5 ∧ Cells h16 (Addr.add p9 0) cs6 ∧
  (
  C.inode_Get q3 cs6 k1 h16 fun r7 h17 =>
  ∃ (cs7 : List Value) (n9 : Int), r7 = .tuple #[.agg ⟨cs7⟩, .int .i64 n9] ∧
  New z35 35 h17 fun h18 =>
  (cellOf h18 (Addr.add p8 7) = some (.pointer q3)) ∧
  (List.length (cs6 : List Value) = 5 ∧ Cells h18 (Addr.add p9 0) cs6) ∧
  PutRow ⟨h17.size, 0, none⟩ cs7 15 h18 fun h19 =>
  bolelaw11_InodeTable.k4 h4 n3 none1 low1 k1 h16 I2 M2 (some ⟨h17.size, 0, none⟩) n9 h19 K) ∧
  New z35 35 h16 fun h21 =>
  (cellOf h21 (Addr.add p8 7) = some (.pointer q3)) ∧
  (List.length (cs6 : List Value) = 5 ∧ Cells h21 (Addr.add p9 0) cs6) ∧
  C.inode_Get q3 cs6 k1 h21 fun r8 h22 =>
  ∃ (cs10 : List Value) (n11 : Int), r8 = .tuple #[.agg ⟨cs10⟩, .int .i64 n11] ∧
  PutRow ⟨h16.size, 0, none⟩ cs10 15 h22 fun h23 =>
  bolelaw11_InodeTable.k4 h4 n3 none1 low1 k1 h16 I2 M2 (some ⟨h16.size, 0, none⟩) n11 h23 K) else (
  onSome q1 fun p12 =>
  ∃ (q4 : Option Addr), cellOf h16 (Addr.add p12 7) = some (.pointer q4) ∧
  onSome q1 fun p13 =>
  ∃ cs11 : List Value, List.length cs11 = 5 ∧ Cells h16 (Addr.add p13 0) cs11 ∧
  C.inode_Free q4 cs11 h16 fun r9 h24 =>
  ∃ (n12 : Int) (n13 : Int), r9 = .tuple #[.int .i64 n12, .int .i64 n13] ∧
  bif (n13 != 0) then (
  K (.bool false) h24) else (
  bif (n12 != none1) then (
  K (.bool false) h24) else (
  bolelaw11_InodeTable.k6 h4 q1 n3 none1 low1 h24 K)))
def bolelaw11_InodeTable (n1 : Int) (lA1 : Option Addr) (lL1 : Nat) (lC1 : Nat) (atA1 : Option Addr) (atL1 : Nat) (atC1 : Nat) (K : Value → Heap → Prop) (h1 : Heap) : Prop :=
  C.bolelaw11_fixed  h1 fun r1 h2 =>
  ∃ (b1 : Bool), r1 = .bool b1 ∧
  bif (!b1) then (
  K (.bool false) h2) else (
  C.bolelaw11_mod n1 300 h2 fun r2 h3 =>
  ∃ (n2 : Int), r2 = .int .i64 n2 ∧
  C.bolelaw11_start n2 none 0 0 h3 fun r3 h4 =>
  ∃ (q1 : Option Addr) (b2 : Bool), r3 = .tuple #[.pointer q1, .bool b2] ∧
  bif (!b2) then (
  K (.bool false) h4) else (
  onSome q1 fun p1 =>
  ∃ (n3 : Int), cellOf h4 (Addr.add (Addr.add p1 0) 4) = some (.int .i64 n3) ∧
  (0 ≤ n3 ∧ n3 ≤ n3 ∧ (120 : Int) * n3 ≤ 281474976710656 ∧ n3 ≤ 281474976710656) ∧
  New (repCells z35 (Int.toNat n3)) 35 h4 fun h5 =>
  ∃ (I1 : Int → Heap → Prop) (M1 : Int → Heap → Nat), I1 0 h5 ∧
  ∀ (i1 : Int), ∀ h6 : Heap, I1 i1 h6 →
  bif (decide (i1 < (atL1 : Int))) then (
  bif (decide (i1 < 40)) then (
  bolelaw11_InodeTable.k1 lA1 lL1 atA1 atL1 h4 q1 n3 i1 h6 I1 M1 K) else (
  bolelaw11_InodeTable.k3 h4 q1 n3 h6 K)) else (
  bolelaw11_InodeTable.k3 h4 q1 n3 h6 K)))
def bolelaw11_InodeTable.lo : Nat → List Nat × List (Nat × Ty) := fun n => match n with | 8 => ([1, 2, 7, 9], [(10, .int .i64)]) | 20 => ([7, 9], [(13, .int .i64), (14, .int .i64), (15, .int .i64)]) | 32 => ([7, 9, 13], [(14, .int .i64), (20, .int .i64)]) | 44 => ([7, 9, 13, 20], [(14, .int .i64), (26, .int .i64)]) | _ => ([], [])
set_option maxRecDepth 100000 in
def bolelaw11_InodeTable.od : Nat → Od := fun n => match n with | 13 => (.op 0 [] (.op 1 [] (.op 2 [] (.op 3 [] (.op 4 [] (.op 5 [] (.op 6 [] (.op 7 [] (.op 8 [] (.op 9 [] (.op 10 [] (.op 11 [] (.op 12 [] .nil))))))))))))) | 14 => (.op 0 [] (.op 1 [] (.op 2 [] (.op 3 [] (.op 4 [] (.op 5 [] (.op 6 [] (.op 7 [] (.op 8 [] (.op 9 [] (.op 10 [] (.op 11 [] .nil)))))))))))) | 22 => (.op 0 [] (.op 1 [] (.op 2 [] (.op 3 [] (.op 4 [] (.op 5 [] (.op 6 [] (.op 7 [] (.op 8 [] (.alt 9 [] (.op 10 [] (.op 11 [] (.op 12 [] (.op 13 [3, 7] (.op 14 [] (.op 15 [] .nil)))))) (.op 13 [3, 7] (.op 9 [] (.op 10 [] (.op 11 [] (.op 12 [] (.op 14 [] (.op 15 [] .nil))))))))))))))))) | 23 => (.op 0 [] (.op 1 [] (.op 2 [] (.op 3 [] (.op 4 [] (.op 5 [] (.op 6 [] (.op 7 [] (.op 8 [] (.op 9 [] .nil)))))))))) | 28 => (.op 0 [] (.op 1 [] (.op 2 [] (.op 3 [] (.op 4 [] (.op 5 [] (.op 6 [] (.op 7 [] (.op 8 [] (.op 9 [] (.op 10 [] (.op 11 [] (.op 12 [] (.op 13 [] .nil)))))))))))))) | 35 => (.op 0 [] (.op 1 [] (.op 2 [] (.op 3 [] (.op 4 [] (.op 5 [] (.op 6 [] (.op 7 [] (.op 8 [] (.op 9 [] (.op 10 [] (.op 11 [] (.op 12 [] (.op 13 [] (.op 14 [] .nil))))))))))))))) | 38 => (.op 0 [] (.op 1 [] (.op 2 [] (.op 3 [] (.op 4 [] (.op 5 [] (.op 6 [] (.op 7 [] (.op 8 [] (.op 9 [] (.op 10 [] (.op 11 [] (.op 12 [] (.op 13 [] .nil)))))))))))))) | 46 => (.op 0 [] (.op 1 [] (.op 2 [] (.op 3 [] (.op 4 [] (.op 5 [] (.op 6 [] (.op 7 [] (.op 8 [] (.alt 9 [] (.op 10 [] (.op 11 [] (.op 12 [] (.op 13 [3, 7] (.op 14 [] (.op 15 [] .nil)))))) (.op 13 [3, 7] (.op 9 [] (.op 10 [] (.op 11 [] (.op 12 [] (.op 14 [] (.op 15 [] .nil))))))))))))))))) | 47 => (.op 0 [] (.op 1 [] (.op 2 [] (.op 3 [] (.op 4 [] (.op 5 [] (.op 6 [] (.op 7 [] (.op 8 [] (.op 9 [] .nil)))))))))) | _ => .nil
set_option maxRecDepth 100000 in
theorem bolelaw11_InodeTable.eq (n1 : Int) (lA1 : Option Addr) (lL1 : Nat) (lC1 : Nat) (atA1 : Option Addr) (atL1 : Nat) (atC1 : Nat) (K : Value → Heap → Prop) (h : Heap) : fnX (cx bolelaw11_InodeTable.lo bolelaw11_InodeTable.od) Tryd.f5 (Tryd.f5.body.getD .skip) [.int .i64 n1, .slice lA1 lL1 lC1, .slice atA1 atL1 atC1] K h = bolelaw11_InodeTable n1 lA1 lL1 lC1 atA1 atL1 atC1 K h := by kernel_rfl
theorem bolelaw11_InodeTable.chk : fnOk (cx bolelaw11_InodeTable.lo bolelaw11_InodeTable.od) Tryd.f5 (Tryd.f5.body.getD .skip) 3 = true := by kernel_rfl
set_option maxRecDepth 100000 in
theorem bolelaw11_InodeTable.ok {n1 : Int} {lA1 : Option Addr} {lL1 : Nat} {lC1 : Nat} {atA1 : Option Addr} {atL1 : Nat} {atC1 : Nat} {K : Value → Heap → Prop} {h : Heap} (hx : bolelaw11_InodeTable n1 lA1 lL1 lC1 atA1 atL1 atC1 K h) : C.bolelaw11_InodeTable n1 lA1 lL1 lC1 atA1 atL1 atC1 h K :=
  fn_to (cxOk _ _) Tryd.func5 (by kernel_rfl) bolelaw11_InodeTable.chk (by rw [bolelaw11_InodeTable.eq]; exact hx)

-- 6
def bolelaw11_InodePlays.k1 (scriptA1 : Option Addr) (scriptL1 : Nat) (q1 : Option Addr) (i1 : Int) (h4 : Heap) (I1 : Int → Heap → Prop) (M1 : Int → Heap → Nat) (K : Value → Heap → Prop) : Prop :=
  (0 ≤ i1 ∧ i1 < (scriptL1 : Int)) ∧
  onSome scriptA1 fun p1 =>
  ∃ cs1 : List Value, List.length cs1 = 19 ∧ Cells h4 (Addr.add p1 ((Int.toNat i1) * 19)) cs1 ∧
  C.bolelaw11_play_step q1 cs1 h4 fun r3 h5 =>
  ∃ (b3 : Bool), r3 = .bool b3 ∧
  bif (!b3) then (
  K (.bool false) h5) else (
  C.bolelaw11_play_same q1 h5 fun r4 h6 =>
  ∃ (b4 : Bool), r4 = .bool b4 ∧
  bif (!b4) then (
  K (.bool false) h6) else (
  I1 (IntKind.wrap .i64 (i1 + 1)) h6 ∧ M1 (IntKind.wrap .i64 (i1 + 1)) h6 < M1 i1 h4))
def bolelaw11_InodePlays (n1 : Int) (frontA1 : Option Addr) (frontL1 : Nat) (frontC1 : Nat) (scriptA1 : Option Addr) (scriptL1 : Nat) (scriptC1 : Nat) (K : Value → Heap → Prop) (h1 : Heap) : Prop :=
  C.bolelaw11_fixed  h1 fun r1 h2 =>
  ∃ (b1 : Bool), r1 = .bool b1 ∧
  bif (!b1) then (
  K (.bool false) h2) else (
  C.bolelaw11_start n1 frontA1 frontL1 frontC1 h2 fun r2 h3 =>
  ∃ (q1 : Option Addr) (b2 : Bool), r2 = .tuple #[.pointer q1, .bool b2] ∧
  bif (!b2) then (
  K (.bool false) h3) else (
  ∃ (I1 : Int → Heap → Prop) (M1 : Int → Heap → Nat), I1 0 h3 ∧
  ∀ (i1 : Int), ∀ h4 : Heap, I1 i1 h4 →
  bif (decide (i1 < (scriptL1 : Int))) then (
  bif (decide (i1 < 60)) then (
  bolelaw11_InodePlays.k1 scriptA1 scriptL1 q1 i1 h4 I1 M1 K) else (
  K (.bool true) h4)) else (
  K (.bool true) h4)))
def bolelaw11_InodePlays.lo : Nat → List Nat × List (Nat × Ty) := fun n => match n with | 7 => ([2, 7], [(9, .int .i64)]) | _ => ([], [])
def bolelaw11_InodePlays.od : Nat → Od := fun n => match n with | _ => .nil
theorem bolelaw11_InodePlays.eq (n1 : Int) (frontA1 : Option Addr) (frontL1 : Nat) (frontC1 : Nat) (scriptA1 : Option Addr) (scriptL1 : Nat) (scriptC1 : Nat) (K : Value → Heap → Prop) (h : Heap) : fnX (cx bolelaw11_InodePlays.lo bolelaw11_InodePlays.od) Tryd.f6 (Tryd.f6.body.getD .skip) [.int .i64 n1, .slice frontA1 frontL1 frontC1, .slice scriptA1 scriptL1 scriptC1] K h = bolelaw11_InodePlays n1 frontA1 frontL1 frontC1 scriptA1 scriptL1 scriptC1 K h := by kernel_rfl
theorem bolelaw11_InodePlays.chk : fnOk (cx bolelaw11_InodePlays.lo bolelaw11_InodePlays.od) Tryd.f6 (Tryd.f6.body.getD .skip) 3 = true := by kernel_rfl
theorem bolelaw11_InodePlays.ok {n1 : Int} {frontA1 : Option Addr} {frontL1 : Nat} {frontC1 : Nat} {scriptA1 : Option Addr} {scriptL1 : Nat} {scriptC1 : Nat} {K : Value → Heap → Prop} {h : Heap} (hx : bolelaw11_InodePlays n1 frontA1 frontL1 frontC1 scriptA1 scriptL1 scriptC1 K h) : C.bolelaw11_InodePlays n1 frontA1 frontL1 frontC1 scriptA1 scriptL1 scriptC1 h K :=
  fn_to (cxOk _ _) Tryd.func6 (by kernel_rfl) bolelaw11_InodePlays.chk (by rw [bolelaw11_InodePlays.eq]; exact hx)

-- 7
def bolelaw10_Setup_begin.k1 (h2 : Heap) (h4 : Heap) (q1 : Option Addr) (q2 : Option Addr) (h14 : Heap) (K : Value → Heap → Prop) : Prop :=
  C.txn_Begin q1 h14 fun r6 h15 =>
  ∃ (q3 : Option Addr), r6 = .pointer q3 ∧
  ∃ cs6 : List Value, List.length cs6 = 5 ∧ Cells h15 ⟨h4.size, 0, none⟩ cs6 ∧
  C.boleref06_Begin q2 h15 fun r7 h16 =>
  ∃ (q4 : Option Addr), r7 = .pointer q4 ∧
  (List.length (cs6 : List Value) = 5 ∧ Cells h16 ⟨h4.size, 0, none⟩ cs6) ∧
  PutRow ⟨h2.size, 0, none⟩ cs6 5 h16 fun h17 =>
  ∃ res4 : List Value, List.length res4 = 5 ∧ Cells h17 ⟨h2.size, 0, none⟩ res4 ∧
  K (.tuple #[.pointer q3, .pointer q4, .agg ⟨res4⟩, .bool (!(Option.isNone q3))]) h17
def bolelaw10_Setup_begin (s1 : List Value) (K : Value → Heap → Prop) (h1 : Heap) : Prop :=
  New s1 25 h1 fun h2 =>
  New z29 29 h2 fun h3 =>
  ∃ cs1 : List Value, List.length cs1 = 3 ∧ Cells h3 ⟨h1.size, 0, none⟩ cs1 ∧
  C.bolelaw10_Setup_image cs1 h3 fun r1 h4 =>
  ∃ (sA1 : Option Addr) (sL1 : Nat) (sC1 : Nat) (cs2 : List Value), r1 = .tuple #[.slice sA1 sL1 sC1, .agg ⟨cs2⟩] ∧
  NewRow z29 29 cs2 5 h4 fun h6 =>
  C.adisk_Open sA1 sL1 sC1 h6 fun r2 h7 =>
  ∃ (q1 : Option Addr) (n1 : Int), r2 = .tuple #[.pointer q1, .int .i64 n1] ∧
  C.boleref03_Of sA1 sL1 sC1 h7 fun r3 h8 =>
  ∃ (q2 : Option Addr) (n2 : Int), r3 = .tuple #[.pointer q2, .int .i64 n2] ∧
  C.bolelaw10_num n1 h8 fun r4 h9 =>
  ∃ (n3 : Int), r4 = .int .i64 n3 ∧
  bif (n3 != 0) then (
  ∃ cs3 : List Value, List.length cs3 = 5 ∧ Cells h9 ⟨h4.size, 0, none⟩ cs3 ∧
  PutRow ⟨h2.size, 0, none⟩ cs3 5 h9 fun h10 =>
  ∃ res1 : List Value, List.length res1 = 5 ∧ Cells h10 ⟨h2.size, 0, none⟩ res1 ∧
  K (.tuple #[.pointer none, .pointer none, .agg ⟨res1⟩, .bool false]) h10) else (
  C.bolelaw10_num n2 h9 fun r5 h11 =>
  ∃ (n4 : Int), r5 = .int .i64 n4 ∧
  bif (n4 != 0) then (
  ∃ cs4 : List Value, List.length cs4 = 5 ∧ Cells h11 ⟨h4.size, 0, none⟩ cs4 ∧
  PutRow ⟨h2.size, 0, none⟩ cs4 5 h11 fun h12 =>
  ∃ res2 : List Value, List.length res2 = 5 ∧ Cells h12 ⟨h2.size, 0, none⟩ res2 ∧
  K (.tuple #[.pointer none, .pointer none, .agg ⟨res2⟩, .bool false]) h12) else (
  bif (Option.isNone q1) then (
  ∃ cs5 : List Value, List.length cs5 = 5 ∧ Cells h11 ⟨h4.size, 0, none⟩ cs5 ∧
  PutRow ⟨h2.size, 0, none⟩ cs5 5 h11 fun h13 =>
  ∃ res3 : List Value, List.length res3 = 5 ∧ Cells h13 ⟨h2.size, 0, none⟩ res3 ∧
  K (.tuple #[.pointer none, .pointer none, .agg ⟨res3⟩, .bool false]) h13) else (
  bolelaw10_Setup_begin.k1 h2 h4 q1 q2 h11 K)))
def bolelaw10_Setup_begin.lo : Nat → List Nat × List (Nat × Ty) := fun n => match n with | _ => ([], [])
def bolelaw10_Setup_begin.od : Nat → Od := fun n => match n with | 5 => (.op 0 [] (.op 1 [] (.op 2 [] (.op 3 [] (.op 4 [] .nil))))) | 7 => (.op 0 [] (.op 1 [] (.op 3 [] (.op 4 [] (.op 5 [] (.op 2 [3] (.op 6 [] (.op 7 [] (.op 8 [] (.op 9 [] .nil)))))))))) | _ => .nil
theorem bolelaw10_Setup_begin.eq (s1 : List Value) (K : Value → Heap → Prop) (h : Heap) : fnX (cx bolelaw10_Setup_begin.lo bolelaw10_Setup_begin.od) Tryd.f7 (Tryd.f7.body.getD .skip) [.agg ⟨s1⟩] K h = bolelaw10_Setup_begin s1 K h := by kernel_rfl
theorem bolelaw10_Setup_begin.chk : fnOk (cx bolelaw10_Setup_begin.lo bolelaw10_Setup_begin.od) Tryd.f7 (Tryd.f7.body.getD .skip) 1 = true := by kernel_rfl
theorem bolelaw10_Setup_begin.ok {s1 : List Value} {K : Value → Heap → Prop} {h : Heap} (hx : bolelaw10_Setup_begin s1 K h) : C.bolelaw10_Setup_begin s1 h K :=
  fn_to (cxOk _ _) Tryd.func7 (by kernel_rfl) bolelaw10_Setup_begin.chk (by rw [bolelaw10_Setup_begin.eq]; exact hx)

-- 8
def bolelaw10_known.k1 (sA1 : Option Addr) (sL1 : Nat) (sC1 : Nat) (sA2 : Option Addr) (sL2 : Nat) (sC2 : Nat) (h13 : Heap) (n9 : Int) (h23 : Heap) (K : Value → Heap → Prop) : Prop :=
  List.length ([.int .i64 0, .int .i64 101] : List Value) = 2 ∧
  List.length ([.int .i64 10, .int .i64 103] : List Value) = 2 ∧
  New [.int .i64 0, .int .i64 101, .int .i64 10, .int .i64 103] 56 h23 fun h24 =>
  C.bolelaw10_samePairs sA1 sL1 sC1 (some ⟨h23.size, 0, none⟩) 2 2 h24 fun r14 h25 =>
  ∃ (b2 : Bool), r14 = .bool b2 ∧
  bif b2 then (
  New [.int .i64 102] 3 h25 fun h26 =>
  C.bolelaw10_same sA2 sL2 sC2 (some ⟨h25.size, 0, none⟩) 1 1 h26 fun r15 h27 =>
  ∃ (b3 : Bool), r15 = .bool b3 ∧
  bif b3 then (
  ∃ cs15 : List Value, List.length cs15 = 15 ∧ Cells h27 ⟨h13.size, 0, none⟩ cs15 ∧
  pairsOk [(.int .i64), (.int .i64), (.int .i64), (.int .i64), (.int .i64), (.int .i64), (.int .i64), (.int .i64), (.int .i64), (.int .i64), (.int .i64), (.int .i64), (.int .i64), (.int .i64), (.int .i64)] cs15 [.int .i64 0, .int .i64 0, .int .i64 0, .int .i64 0, .int .i64 0, .int .i64 0, .int .i64 0, .int .i64 0, .int .i64 0, .int .i64 0, .int .i64 0, .int .i64 0, .int .i64 0, .int .i64 0, .int .i64 0] = true ∧
  bif (cellsEq cs15 [.int .i64 0, .int .i64 0, .int .i64 0, .int .i64 0, .int .i64 0, .int .i64 0, .int .i64 0, .int .i64 0, .int .i64 0, .int .i64 0, .int .i64 0, .int .i64 0, .int .i64 0, .int .i64 0, .int .i64 0]) then (
  K (.bool (n9 == 27)) h27) else (
  K (.bool false) h27)) else (
  K (.bool false) h27)) else (
  K (.bool false) h25)
def bolelaw10_known  (K : Value → Heap → Prop) (h1 : Heap) : Prop :=
  C.bolelaw10_Setup_begin [.int .i64 0, .slice none 0 0, .slice none 0 0] h1 fun r1 h2 =>
  ∃ (q1 : Option Addr) (q2 : Option Addr) (cs1 : List Value) (b1 : Bool), r1 = .tuple #[.pointer q1, .pointer q2, .agg ⟨cs1⟩, .bool b1] ∧
  NewRow z29 29 cs1 5 h2 fun h4 =>
  bif (!b1) then (
  K (.bool false) h4) else (
  ∃ cs2 : List Value, List.length cs2 = 5 ∧ Cells h4 ⟨h2.size, 0, none⟩ cs2 ∧
  C.bmap_Add q1 cs2 [.int .i64 0, .int .i64 0, .int .i64 0, .int .i64 0, .int .i64 0, .int .i64 0, .int .i64 0, .int .i64 0, .int .i64 0, .int .i64 0, .int .i64 0, .int .i64 0, .int .i64 0, .int .i64 0, .int .i64 0] 0 h4 fun r2 h5 =>
  ∃ (cs3 : List Value) (n1 : Int) (n2 : Int), r2 = .tuple #[.agg ⟨cs3⟩, .int .i64 n1, .int .i64 n2] ∧
  NewRow z35 35 cs3 15 h5 fun h7 =>
  ∃ cs4 : List Value, List.length cs4 = 5 ∧ Cells h7 ⟨h2.size, 0, none⟩ cs4 ∧
  ∃ cs5 : List Value, List.length cs5 = 15 ∧ Cells h7 ⟨h5.size, 0, none⟩ cs5 ∧
  C.bmap_Add q1 cs4 cs5 10 h7 fun r3 h8 =>
  ∃ (cs6 : List Value) (n3 : Int) (n4 : Int), r3 = .tuple #[.agg ⟨cs6⟩, .int .i64 n3, .int .i64 n4] ∧
  NewRow z35 35 cs6 15 h8 fun h10 =>
  ∃ cs7 : List Value, List.length cs7 = 5 ∧ Cells h10 ⟨h2.size, 0, none⟩ cs7 ∧
  ∃ cs8 : List Value, List.length cs8 = 15 ∧ Cells h10 ⟨h8.size, 0, none⟩ cs8 ∧
  C.bmap_Find q1 cs7 cs8 10 h10 fun r4 h11 =>
  ∃ (n5 : Int) (n6 : Int), r4 = .tuple #[.int .i64 n5, .int .i64 n6] ∧
  ∃ cs9 : List Value, List.length cs9 = 5 ∧ Cells h11 ⟨h2.size, 0, none⟩ cs9 ∧
  ∃ cs10 : List Value, List.length cs10 = 15 ∧ Cells h11 ⟨h8.size, 0, none⟩ cs10 ∧
  C.bmap_All q1 cs9 cs10 h11 fun r5 h12 =>
  ∃ (sA1 : Option Addr) (sL1 : Nat) (sC1 : Nat) (sA2 : Option Addr) (sL2 : Nat) (sC2 : Nat) (n7 : Int), r5 = .tuple #[.slice sA1 sL1 sC1, .slice sA2 sL2 sC2, .int .i64 n7] ∧
  ∃ cs11 : List Value, List.length cs11 = 5 ∧ Cells h12 ⟨h2.size, 0, none⟩ cs11 ∧
  ∃ cs12 : List Value, List.length cs12 = 15 ∧ Cells h12 ⟨h8.size, 0, none⟩ cs12 ∧
  C.bmap_Cut q1 cs11 cs12 0 h12 fun r6 h13 =>
  ∃ (cs13 : List Value) (n8 : Int), r6 = .tuple #[.agg ⟨cs13⟩, .int .i64 n8] ∧
  NewRow z35 35 cs13 15 h13 fun h15 =>
  ∃ cs14 : List Value, List.length cs14 = 5 ∧ Cells h15 ⟨h2.size, 0, none⟩ cs14 ∧
  C.space_Free q1 cs14 h15 fun r7 h16 =>
  ∃ (n9 : Int) (n10 : Int), r7 = .tuple #[.int .i64 n9, .int .i64 n10] ∧
  C.bolelaw10_num n2 h16 fun r8 h17 =>
  ∃ (n11 : Int), r8 = .int .i64 n11 ∧
  bif (n11 != 0) then (
  K (.bool false) h17) else (
  C.bolelaw10_num n4 h17 fun r9 h18 =>
  ∃ (n12 : Int), r9 = .int .i64 n12 ∧
  bif (n12 != 0) then (
  K (.bool false) h18) else (
  C.bolelaw10_num n6 h18 fun r10 h19 =>
  ∃ (n13 : Int), r10 = .int .i64 n13 ∧
  bif (n13 != 0) then (
  K (.bool false) h19) else (
  C.bolelaw10_num n7 h19 fun r11 h20 =>
  ∃ (n14 : Int), r11 = .int .i64 n14 ∧
  bif (n14 != 0) then (
  K (.bool false) h20) else (
  C.bolelaw10_num n8 h20 fun r12 h21 =>
  ∃ (n15 : Int), r12 = .int .i64 n15 ∧
  bif (n15 != 0) then (
  K (.bool false) h21) else (
  C.bolelaw10_num n10 h21 fun r13 h22 =>
  ∃ (n16 : Int), r13 = .int .i64 n16 ∧
  bif (n16 != 0) then (
  K (.bool false) h22) else (
  bif (n1 != 101) then (
  K (.bool false) h22) else (
  bif (n3 != 103) then (
  K (.bool false) h22) else (
  bif (n5 != 103) then (
  K (.bool false) h22) else (
  ∃ (n17 : Int), cellOf h22 (Addr.add ⟨h8.size, 0, none⟩ 13) = some (.int .i64 n17) ∧
  bif (n17 != 102) then (
  K (.bool false) h22) else (
  (0 ≤ (0 : Int) ∧ 0 < (10 : Int)) ∧
  ∃ (n18 : Int), cellOf h22 (Addr.add (Addr.add ⟨h8.size, 0, none⟩ 3) (Int.toNat 0)) = some (.int .i64 n18) ∧
  bif (n18 != 101) then (
  K (.bool false) h22) else (
  bolelaw10_known.k1 sA1 sL1 sC1 sA2 sL2 sC2 h13 n9 h22 K))))))))))))
def bolelaw10_known.lo : Nat → List Nat × List (Nat × Ty) := fun n => match n with | _ => ([], [])
def bolelaw10_known.od : Nat → Od := fun n => match n with | _ => .nil
theorem bolelaw10_known.eq  (K : Value → Heap → Prop) (h : Heap) : fnX (cx bolelaw10_known.lo bolelaw10_known.od) Tryd.f8 (Tryd.f8.body.getD .skip) [] K h = bolelaw10_known  K h := by kernel_rfl
theorem bolelaw10_known.chk : fnOk (cx bolelaw10_known.lo bolelaw10_known.od) Tryd.f8 (Tryd.f8.body.getD .skip) 0 = true := by kernel_rfl
theorem bolelaw10_known.ok  {K : Value → Heap → Prop} {h : Heap} (hx : bolelaw10_known  K h) : C.bolelaw10_known  h K :=
  fn_to (cxOk _ _) Tryd.func8 (by kernel_rfl) bolelaw10_known.chk (by rw [bolelaw10_known.eq]; exact hx)

-- 9
def bolelaw10_index (k1 : Int) (K : Value → Heap → Prop) (h1 : Heap) : Prop :=
  K (.int .i64 (IntKind.wrap .i64 ((Int.tmod (IntKind.wrap .u64 (k1)) 16522)))) h1
def bolelaw10_index.lo : Nat → List Nat × List (Nat × Ty) := fun n => match n with | _ => ([], [])
def bolelaw10_index.od : Nat → Od := fun n => match n with | _ => .nil
set_option maxRecDepth 1000000 in
theorem bolelaw10_index.eq (k1 : Int) (K : Value → Heap → Prop) (h : Heap) : fnX (cx bolelaw10_index.lo bolelaw10_index.od) Tryd.f9 (Tryd.f9.body.getD .skip) [.int .i64 k1] K h = bolelaw10_index k1 K h := by kernel_rfl
theorem bolelaw10_index.chk : fnOk (cx bolelaw10_index.lo bolelaw10_index.od) Tryd.f9 (Tryd.f9.body.getD .skip) 1 = true := by kernel_rfl
set_option maxRecDepth 1000000 in
theorem bolelaw10_index.ok {k1 : Int} {K : Value → Heap → Prop} {h : Heap} (hx : bolelaw10_index k1 K h) : C.bolelaw10_index k1 h K :=
  fn_to (cxOk _ _) Tryd.func9 (by kernel_rfl) bolelaw10_index.chk (by rw [bolelaw10_index.eq]; exact hx)

-- 12
def bolelaw10_num (e1 : Int) (K : Value → Heap → Prop) (h1 : Heap) : Prop :=
  K (.int .i64 e1) h1
def bolelaw10_num.lo : Nat → List Nat × List (Nat × Ty) := fun n => match n with | _ => ([], [])
def bolelaw10_num.od : Nat → Od := fun n => match n with | _ => .nil
theorem bolelaw10_num.eq (e1 : Int) (K : Value → Heap → Prop) (h : Heap) : fnX (cx bolelaw10_num.lo bolelaw10_num.od) Tryd.f12 (Tryd.f12.body.getD .skip) [.int .i64 e1] K h = bolelaw10_num e1 K h := by kernel_rfl
theorem bolelaw10_num.chk : fnOk (cx bolelaw10_num.lo bolelaw10_num.od) Tryd.f12 (Tryd.f12.body.getD .skip) 1 = true := by kernel_rfl
theorem bolelaw10_num.ok {e1 : Int} {K : Value → Heap → Prop} {h : Heap} (hx : bolelaw10_num e1 K h) : C.bolelaw10_num e1 h K :=
  fn_to (cxOk _ _) Tryd.func12 (by kernel_rfl) bolelaw10_num.chk (by rw [bolelaw10_num.eq]; exact hx)

-- 13
def space_Free (t1 : Option Addr) (g1 : List Value) (K : Value → Heap → Prop) (h1 : Heap) : Prop :=
  New g1 29 h1 fun h2 =>
  New z3 3 h2 fun h3 =>
  Put ⟨h2.size, 0, none⟩ (.int .i64 0) h3 fun h4 =>
  ∃ cs1 : List Value, List.length cs1 = 5 ∧ Cells h4 ⟨h1.size, 0, none⟩ cs1 ∧
  C.space_each t1 cs1 (Value.func (.func 43) #[] ⟨[.pointer (some ⟨h1.size, 0, none⟩), .pointer (some ⟨h2.size, 0, none⟩)]⟩) h4 fun r1 h5 =>
  ∃ (n1 : Int), r1 = .int .i64 n1 ∧
  bif (n1 != 0) then (
  K (.tuple #[.int .i64 0, .int .i64 n1]) h5) else (
  ∃ (n2 : Int), cellOf h5 ⟨h2.size, 0, none⟩ = some (.int .i64 n2) ∧
  K (.tuple #[.int .i64 n2, .int .i64 0]) h5)
def space_Free.lo : Nat → List Nat × List (Nat × Ty) := fun n => match n with | _ => ([], [])
def space_Free.od : Nat → Od := fun n => match n with | _ => .nil
theorem space_Free.eq (t1 : Option Addr) (g1 : List Value) (K : Value → Heap → Prop) (h : Heap) : fnX (cx space_Free.lo space_Free.od) Tryd.f13 (Tryd.f13.body.getD .skip) [.pointer t1, .agg ⟨g1⟩] K h = space_Free t1 g1 K h := by kernel_rfl
theorem space_Free.chk : fnOk (cx space_Free.lo space_Free.od) Tryd.f13 (Tryd.f13.body.getD .skip) 2 = true := by kernel_rfl
theorem space_Free.ok {t1 : Option Addr} {g1 : List Value} {K : Value → Heap → Prop} {h : Heap} (hx : space_Free t1 g1 K h) : C.space_Free t1 g1 h K :=
  fn_to (cxOk _ _) Tryd.func13 (by kernel_rfl) space_Free.chk (by rw [space_Free.eq]; exact hx)

-- 15
def bmap_All.k1 (h2 : Heap) (h8 : Heap) (e1 : Int) (k1 : Int) (h13 : Heap) (I1 : Int → Int → Heap → Prop) (M1 : Int → Int → Heap → Nat) (K : Value → Heap → Prop) : Prop :=
  ∃ (v1 : Value), cellOf h13 ⟨h8.size, 0, none⟩ = some (v1) ∧
  (0 ≤ k1 ∧ k1 < (10 : Int)) ∧
  ∃ (n1 : Int), cellOf h13 (Addr.add (Addr.add ⟨h2.size, 0, none⟩ 3) (Int.toNat k1)) = some (.int .i64 n1) ∧
  HCallsV Tryd.prog v1 [.int .i64 k1, .int .i64 n1] h13 fun r1 h14 =>
  ∃ (n2 : Int), r1 = .int .i64 n2 ∧
  I1 n2 (IntKind.wrap .i64 (k1 + 1)) h14 ∧ M1 n2 (IntKind.wrap .i64 (k1 + 1)) h14 < M1 e1 k1 h13
def bmap_All.k4 (h6 : Heap) (h7 : Heap) (e4 : Int) (h19 : Heap) (K : Value → Heap → Prop) : Prop :=
  bif (e4 != 0) then (
  K (.tuple #[.slice none 0 0, .slice none 0 0, .int .i64 e4]) h19) else (
  ∃ (sA1 : Option Addr) (sL1 : Nat) (sC1 : Nat), cellOf h19 ⟨h6.size, 0, none⟩ = some (.slice sA1 sL1 sC1) ∧
  ∃ (sA2 : Option Addr) (sL2 : Nat) (sC2 : Nat), cellOf h19 ⟨h7.size, 0, none⟩ = some (.slice sA2 sL2 sC2) ∧
  K (.tuple #[.slice sA1 sL1 sC1, .slice sA2 sL2 sC2, .int .i64 0]) h19)
def bmap_All.k3 (h2 : Heap) (h6 : Heap) (h7 : Heap) (h8 : Heap) (h10 : Heap) (e3 : Int) (h17 : Heap) (K : Value → Heap → Prop) : Prop :=
  bif (e3 == 0) then (
  ∃ (v3 : Value), cellOf h17 ⟨h10.size, 0, none⟩ = some (v3) ∧
  ∃ (n5 : Int), cellOf h17 (Addr.add ⟨h2.size, 0, none⟩ 14) = some (.int .i64 n5) ∧
  HCallsV Tryd.prog v3 [.int .i64 n5, .func (.func 52) #[] ⟨[.pointer (some ⟨h10.size, 0, none⟩), .pointer (some ⟨h8.size, 0, none⟩)]⟩] h17 fun r3 h18 =>
  ∃ (n6 : Int), r3 = .int .i64 n6 ∧
  bmap_All.k4 h6 h7 n6 h18 K) else (
  bmap_All.k4 h6 h7 e3 h17 K)
def bmap_All.k2 (h2 : Heap) (h6 : Heap) (h7 : Heap) (h8 : Heap) (h10 : Heap) (e2 : Int) (h15 : Heap) (K : Value → Heap → Prop) : Prop :=
  bif (e2 == 0) then (
  ∃ (v2 : Value), cellOf h15 ⟨h10.size, 0, none⟩ = some (v2) ∧
  ∃ (n3 : Int), cellOf h15 (Addr.add ⟨h2.size, 0, none⟩ 13) = some (.int .i64 n3) ∧
  HCallsV Tryd.prog v2 [.int .i64 n3, .func (.func 51) #[] ⟨[.pointer (some ⟨h8.size, 0, none⟩)]⟩] h15 fun r2 h16 =>
  ∃ (n4 : Int), r2 = .int .i64 n4 ∧
  bmap_All.k3 h2 h6 h7 h8 h10 n4 h16 K) else (
  bmap_All.k3 h2 h6 h7 h8 h10 e2 h15 K)
def bmap_All (t1 : Option Addr) (g1 : List Value) (x1 : List Value) (K : Value → Heap → Prop) (h1 : Heap) : Prop :=
  New g1 29 h1 fun h2 =>
  New x1 35 h2 fun h3 =>
  ∃ cs1 : List Value, List.length cs1 = 5 ∧ Cells h3 ⟨h1.size, 0, none⟩ cs1 ∧
  ∃ cs2 : List Value, List.length cs2 = 15 ∧ Cells h3 ⟨h2.size, 0, none⟩ cs2 ∧
  List.length (cs1 : List Value) = 5 ∧
  List.length (cs2 : List Value) = 15 ∧
  New ([.pointer t1] ++ (cs1 ++ cs2)) 93 h3 fun h4 =>
  New z91 91 h4 fun h5 =>
  Put ⟨h4.size, 0, none⟩ (.pointer (some ⟨h3.size, 0, none⟩)) h5 fun h6 =>
  New z51 51 h6 fun h7 =>
  New z22 22 h7 fun h8 =>
  New z107 107 h8 fun h9 =>
  Put ⟨h8.size, 0, none⟩ (.func (.func 47) #[] ⟨[.pointer (some ⟨h6.size, 0, none⟩), .pointer (some ⟨h4.size, 0, none⟩)]⟩) h9 fun h10 =>
  New z110 110 h10 fun h11 =>
  Put ⟨h10.size, 0, none⟩ (.func (.func 49) #[] ⟨[.pointer (some ⟨h4.size, 0, none⟩), .pointer (some ⟨h7.size, 0, none⟩)]⟩) h11 fun h12 =>
  ∃ (I1 : Int → Int → Heap → Prop) (M1 : Int → Int → Heap → Nat), I1 0 0 h12 ∧
  ∀ (e1 : Int) (k1 : Int), ∀ h13 : Heap, I1 e1 k1 h13 →
  bif (decide (k1 < 10)) then (
  bif (e1 == 0) then (
  bmap_All.k1 h2 h8 e1 k1 h13 I1 M1 K) else (
  bmap_All.k2 h2 h6 h7 h8 h10 e1 h13 K)) else (
  bmap_All.k2 h2 h6 h7 h8 h10 e1 h13 K)
def bmap_All.lo : Nat → List Nat × List (Nat × Ty) := fun n => match n with | 8 => ([5, 10, 11, 12, 13], [(14, .int .i64), (15, .int .i64)]) | _ => ([], [])
def bmap_All.od : Nat → Od := fun n => match n with | 10 => (.op 0 [] (.op 1 [] (.op 2 [] (.op 3 [] (.op 4 [] (.op 5 [] (.op 6 [] (.op 7 [] .nil)))))))) | 17 => (.op 0 [] (.op 1 [] (.op 2 [] (.op 3 [] (.op 4 [] .nil))))) | _ => .nil
theorem bmap_All.eq (t1 : Option Addr) (g1 : List Value) (x1 : List Value) (K : Value → Heap → Prop) (h : Heap) : fnX (cx bmap_All.lo bmap_All.od) Tryd.f15 (Tryd.f15.body.getD .skip) [.pointer t1, .agg ⟨g1⟩, .agg ⟨x1⟩] K h = bmap_All t1 g1 x1 K h := by kernel_rfl
theorem bmap_All.chk : fnOk (cx bmap_All.lo bmap_All.od) Tryd.f15 (Tryd.f15.body.getD .skip) 3 = true := by kernel_rfl
theorem bmap_All.ok {t1 : Option Addr} {g1 : List Value} {x1 : List Value} {K : Value → Heap → Prop} {h : Heap} (hx : bmap_All t1 g1 x1 K h) : C.bmap_All t1 g1 x1 h K :=
  fn_to (cxOk _ _) Tryd.func15 (by kernel_rfl) bmap_All.chk (by rw [bmap_All.eq]; exact hx)

-- 16
def bolelaw10_samePairs (aA1 : Option Addr) (aL1 : Nat) (aC1 : Nat) (bA1 : Option Addr) (bL1 : Nat) (bC1 : Nat) (K : Value → Heap → Prop) (h1 : Heap) : Prop :=
  bif ((aL1 : Int) != (bL1 : Int)) then (
  K (.bool false) h1) else (
  ∃ (I1 : Int → Heap → Prop) (M1 : Int → Heap → Nat), I1 0 h1 ∧
  ∀ (n1 : Int), ∀ h2 : Heap, I1 n1 h2 →
  bif (decide (n1 < (aL1 : Int))) then (
  (0 ≤ n1 ∧ n1 < (aL1 : Int)) ∧
  onSome aA1 fun p1 =>
  ∃ cs1 : List Value, List.length cs1 = 2 ∧ Cells h2 (Addr.add p1 ((Int.toNat n1) * 2)) cs1 ∧
  (0 ≤ n1 ∧ n1 < (bL1 : Int)) ∧
  onSome bA1 fun p2 =>
  ∃ cs2 : List Value, List.length cs2 = 2 ∧ Cells h2 (Addr.add p2 ((Int.toNat n1) * 2)) cs2 ∧
  pairsOk [(.int .i64), (.int .i64)] cs1 cs2 = true ∧
  bif (!(cellsEq cs1 cs2)) then (
  K (.bool false) h2) else (
  I1 (IntKind.wrap .i64 (n1 + 1)) h2 ∧ M1 (IntKind.wrap .i64 (n1 + 1)) h2 < M1 n1 h2)) else (
  K (.bool true) h2))
def bolelaw10_samePairs.lo : Nat → List Nat × List (Nat × Ty) := fun n => match n with | 4 => ([0, 1, 12], [(13, .int .i64)]) | _ => ([], [])
def bolelaw10_samePairs.od : Nat → Od := fun n => match n with | 6 => (.op 0 [] (.op 1 [] (.op 2 [] (.op 3 [] (.op 4 [] (.op 5 [] (.op 6 [] (.op 7 [] (.op 8 [] .nil))))))))) | _ => .nil
theorem bolelaw10_samePairs.eq (aA1 : Option Addr) (aL1 : Nat) (aC1 : Nat) (bA1 : Option Addr) (bL1 : Nat) (bC1 : Nat) (K : Value → Heap → Prop) (h : Heap) : fnX (cx bolelaw10_samePairs.lo bolelaw10_samePairs.od) Tryd.f16 (Tryd.f16.body.getD .skip) [.slice aA1 aL1 aC1, .slice bA1 bL1 bC1] K h = bolelaw10_samePairs aA1 aL1 aC1 bA1 bL1 bC1 K h := by kernel_rfl
theorem bolelaw10_samePairs.chk : fnOk (cx bolelaw10_samePairs.lo bolelaw10_samePairs.od) Tryd.f16 (Tryd.f16.body.getD .skip) 2 = true := by kernel_rfl
theorem bolelaw10_samePairs.ok {aA1 : Option Addr} {aL1 : Nat} {aC1 : Nat} {bA1 : Option Addr} {bL1 : Nat} {bC1 : Nat} {K : Value → Heap → Prop} {h : Heap} (hx : bolelaw10_samePairs aA1 aL1 aC1 bA1 bL1 bC1 K h) : C.bolelaw10_samePairs aA1 aL1 aC1 bA1 bL1 bC1 h K :=
  fn_to (cxOk _ _) Tryd.func16 (by kernel_rfl) bolelaw10_samePairs.chk (by rw [bolelaw10_samePairs.eq]; exact hx)

-- 17
def bolelaw10_same (aA1 : Option Addr) (aL1 : Nat) (aC1 : Nat) (bA1 : Option Addr) (bL1 : Nat) (bC1 : Nat) (K : Value → Heap → Prop) (h1 : Heap) : Prop :=
  bif ((aL1 : Int) != (bL1 : Int)) then (
  K (.bool false) h1) else (
  ∃ (I1 : Int → Heap → Prop) (M1 : Int → Heap → Nat), I1 0 h1 ∧
  ∀ (n1 : Int), ∀ h2 : Heap, I1 n1 h2 →
  bif (decide (n1 < (aL1 : Int))) then (
  (0 ≤ n1 ∧ n1 < (aL1 : Int)) ∧
  onSome aA1 fun p1 =>
  ∃ (n2 : Int), cellOf h2 (Addr.add p1 (Int.toNat n1)) = some (.int .i64 n2) ∧
  (0 ≤ n1 ∧ n1 < (bL1 : Int)) ∧
  onSome bA1 fun p2 =>
  ∃ (n3 : Int), cellOf h2 (Addr.add p2 (Int.toNat n1)) = some (.int .i64 n3) ∧
  bif (n2 != n3) then (
  K (.bool false) h2) else (
  I1 (IntKind.wrap .i64 (n1 + 1)) h2 ∧ M1 (IntKind.wrap .i64 (n1 + 1)) h2 < M1 n1 h2)) else (
  K (.bool true) h2))
def bolelaw10_same.lo : Nat → List Nat × List (Nat × Ty) := fun n => match n with | 4 => ([0, 1, 12], [(13, .int .i64)]) | _ => ([], [])
def bolelaw10_same.od : Nat → Od := fun n => match n with | 6 => (.op 0 [] (.op 1 [] (.op 2 [] (.op 3 [] (.op 4 [] (.op 5 [] (.op 6 [] (.op 7 [] (.op 8 [] .nil))))))))) | _ => .nil
theorem bolelaw10_same.eq (aA1 : Option Addr) (aL1 : Nat) (aC1 : Nat) (bA1 : Option Addr) (bL1 : Nat) (bC1 : Nat) (K : Value → Heap → Prop) (h : Heap) : fnX (cx bolelaw10_same.lo bolelaw10_same.od) Tryd.f17 (Tryd.f17.body.getD .skip) [.slice aA1 aL1 aC1, .slice bA1 bL1 bC1] K h = bolelaw10_same aA1 aL1 aC1 bA1 bL1 bC1 K h := by kernel_rfl
theorem bolelaw10_same.chk : fnOk (cx bolelaw10_same.lo bolelaw10_same.od) Tryd.f17 (Tryd.f17.body.getD .skip) 2 = true := by kernel_rfl
theorem bolelaw10_same.ok {aA1 : Option Addr} {aL1 : Nat} {aC1 : Nat} {bA1 : Option Addr} {bL1 : Nat} {bC1 : Nat} {K : Value → Heap → Prop} {h : Heap} (hx : bolelaw10_same aA1 aL1 aC1 bA1 bL1 bC1 K h) : C.bolelaw10_same aA1 aL1 aC1 bA1 bL1 bC1 h K :=
  fn_to (cxOk _ _) Tryd.func17 (by kernel_rfl) bolelaw10_same.chk (by rw [bolelaw10_same.eq]; exact hx)

-- 18
def bolelaw11_fixed.k2 (h3 : Heap) (h6 : Heap) (q2 : Option Addr) (K : Value → Heap → Prop) : Prop :=
  C.bolelaw11_plain  h6 fun r4 h7 =>
  ∃ (cs2 : List Value), r4 = .agg ⟨cs2⟩ ∧
  NewRow z35 35 cs2 15 h7 fun h9 =>
  ∃ cs3 : List Value, List.length cs3 = 15 ∧ Cells h9 ⟨h7.size, 0, none⟩ cs3 ∧
  C.inode_Encode cs3 h9 fun r5 h10 =>
  ∃ (sA1 : Option Addr) (sL1 : Nat) (sC1 : Nat) (n3 : Int), r5 = .tuple #[.slice sA1 sL1 sC1, .int .i64 n3] ∧
  ∃ cs4 : List Value, List.length cs4 = 5 ∧ Cells h10 ⟨h3.size, 0, none⟩ cs4 ∧
  ∃ cs5 : List Value, List.length cs5 = 15 ∧ Cells h10 ⟨h7.size, 0, none⟩ cs5 ∧
  C.inode_Put q2 cs4 8 cs5 h10 fun r6 h11 =>
  ∃ (n4 : Int), r6 = .int .i64 n4 ∧
  ∃ cs6 : List Value, List.length cs6 = 5 ∧ Cells h11 ⟨h3.size, 0, none⟩ cs6 ∧
  ∃ cs7 : List Value, List.length cs7 = 15 ∧ Cells h11 ⟨h7.size, 0, none⟩ cs7 ∧
  C.inode_Take q2 cs6 cs7 h11 fun r7 h12 =>
  ∃ (n5 : Int) (n6 : Int), r7 = .tuple #[.int .i64 n5, .int .i64 n6] ∧
  ∃ cs8 : List Value, List.length cs8 = 5 ∧ Cells h12 ⟨h3.size, 0, none⟩ cs8 ∧
  C.inode_Get q2 cs8 8 h12 fun r8 h13 =>
  ∃ (cs9 : List Value) (n7 : Int), r8 = .tuple #[.agg ⟨cs9⟩, .int .i64 n7] ∧
  NewRow z35 35 cs9 15 h13 fun h15 =>
  ∃ cs10 : List Value, List.length cs10 = 5 ∧ Cells h15 ⟨h3.size, 0, none⟩ cs10 ∧
  C.inode_Free q2 cs10 h15 fun r9 h16 =>
  ∃ (n8 : Int) (n9 : Int), r9 = .tuple #[.int .i64 n8, .int .i64 n9] ∧
  New [.int .u8 0] 5 h16 fun h17 =>
  ∃ new1 : List Value, List.length new1 = 1 * 1 ∧ SlCells h17 (some ⟨h16.size, 0, none⟩) new1 ∧ (∀ v ∈ new1, v.oneCell' = true) ∧
  AppendP ti5 5 sA1 sL1 sC1 1 new1 h17 fun sA2 sL2 sC2 h18 =>
  C.inode_Decode sA2 sL2 sC2 h18 fun r10 h19 =>
  ∃ (cs11 : List Value) (n10 : Int), r10 = .tuple #[.agg ⟨cs11⟩, .int .i64 n10] ∧
  NewRow z35 35 cs11 15 h19 fun h21 =>
  C.inode_Decode sA1 sL1 sC1 h21 fun r11 h22 =>
  ∃ (cs12 : List Value) (n11 : Int), r11 = .tuple #[.agg ⟨cs12⟩, .int .i64 n11] ∧
  NewRow z35 35 cs12 15 h22 fun h24 =>
  bif (n3 == 0) then (
  bif ((sL1 : Int) == 64) then (
  (0 ≤ (8 : Int) ∧ 8 < (sL1 : Int)) ∧
  onSome sA1 fun p1 =>
  ∃ (n12 : Int), cellOf h24 (Addr.add p1 (Int.toNat 8)) = some (.int .u8 n12) ∧
  bif (n12 == 101) then (
  bif (n4 == 0) then (
  bif (n6 == 0) then (
  bif (n5 == 1) then (
  bif (n7 == 0) then (
  ∃ cs13 : List Value, List.length cs13 = 15 ∧ Cells h24 ⟨h13.size, 0, none⟩ cs13 ∧
  ∃ cs14 : List Value, List.length cs14 = 15 ∧ Cells h24 ⟨h7.size, 0, none⟩ cs14 ∧
  pairsOk [(.int .i64), (.int .i64), (.int .i64), (.int .i64), (.int .i64), (.int .i64), (.int .i64), (.int .i64), (.int .i64), (.int .i64), (.int .i64), (.int .i64), (.int .i64), (.int .i64), (.int .i64)] cs13 cs14 = true ∧
  bif (cellsEq cs13 cs14) then (
  bif (n9 == 0) then (
  bif (n8 == 13) then (
  bif (n10 == 32) then (
  bif (n11 == 0) then (
  ∃ cs15 : List Value, List.length cs15 = 15 ∧ Cells h24 ⟨h22.size, 0, none⟩ cs15 ∧
  ∃ cs16 : List Value, List.length cs16 = 15 ∧ Cells h24 ⟨h7.size, 0, none⟩ cs16 ∧
  pairsOk [(.int .i64), (.int .i64), (.int .i64), (.int .i64), (.int .i64), (.int .i64), (.int .i64), (.int .i64), (.int .i64), (.int .i64), (.int .i64), (.int .i64), (.int .i64), (.int .i64), (.int .i64)] cs15 cs16 = true ∧
  K (.bool (cellsEq cs15 cs16)) h24) else (
  K (.bool false) h24)) else (
  K (.bool false) h24)) else (
  K (.bool false) h24)) else (
  K (.bool false) h24)) else (
  K (.bool false) h24)) else (
  K (.bool false) h24)) else (
  K (.bool false) h24)) else (
  K (.bool false) h24)) else (
  K (.bool false) h24)) else (
  K (.bool false) h24)) else (
  K (.bool false) h24)) else (
  K (.bool false) h24)
def bolelaw11_fixed.k1 (h2 : Heap) (q1 : Option Addr) (K : Value → Heap → Prop) : Prop :=
  C.boleref07_Of 128 h2 fun r2 h3 =>
  ∃ (cs1 : List Value) (n2 : Int), r2 = .tuple #[.agg ⟨cs1⟩, .int .i64 n2] ∧
  NewRow z29 29 cs1 5 h3 fun h5 =>
  C.txn_Begin q1 h5 fun r3 h6 =>
  ∃ (q2 : Option Addr), r3 = .pointer q2 ∧
  bif (n2 != 0) then (
  K (.bool false) h6) else (
  bif (Option.isNone q2) then (
  K (.bool false) h6) else (
  bolelaw11_fixed.k2 h3 h6 q2 K))
def bolelaw11_fixed  (K : Value → Heap → Prop) (h1 : Heap) : Prop :=
  C.adisk_New 128 h1 fun r1 h2 =>
  ∃ (q1 : Option Addr) (n1 : Int), r1 = .tuple #[.pointer q1, .int .i64 n1] ∧
  bif (n1 != 0) then (
  K (.bool false) h2) else (
  bif (Option.isNone q1) then (
  K (.bool false) h2) else (
  bolelaw11_fixed.k1 h2 q1 K))
def bolelaw11_fixed.lo : Nat → List Nat × List (Nat × Ty) := fun n => match n with | _ => ([], [])
def bolelaw11_fixed.od : Nat → Od := fun n => match n with | _ => .nil
theorem bolelaw11_fixed.eq  (K : Value → Heap → Prop) (h : Heap) : fnX (cx bolelaw11_fixed.lo bolelaw11_fixed.od) Tryd.f18 (Tryd.f18.body.getD .skip) [] K h = bolelaw11_fixed  K h := by kernel_rfl
theorem bolelaw11_fixed.chk : fnOk (cx bolelaw11_fixed.lo bolelaw11_fixed.od) Tryd.f18 (Tryd.f18.body.getD .skip) 0 = true := by kernel_rfl
theorem bolelaw11_fixed.ok  {K : Value → Heap → Prop} {h : Heap} (hx : bolelaw11_fixed  K h) : C.bolelaw11_fixed  h K :=
  fn_to (cxOk _ _) Tryd.func18 (by kernel_rfl) bolelaw11_fixed.chk (by rw [bolelaw11_fixed.eq]; exact hx)

-- 19
def bolelaw11_start.k1 (h3 : Heap) (q1 : Option Addr) (h9 : Heap) (q2 : Option Addr) (K : Value → Heap → Prop) : Prop :=
  C.txn_Begin q1 h9 fun r5 h10 =>
  ∃ (q3 : Option Addr), r5 = .pointer q3 ∧
  ∃ cs2 : List Value, List.length cs2 = 5 ∧ Cells h10 ⟨h3.size, 0, none⟩ cs2 ∧
  C.boleref06_Begin q2 h10 fun r6 h11 =>
  ∃ (q4 : Option Addr), r6 = .pointer q4 ∧
  (List.length (cs2 : List Value) = 5 ∧ Cells h11 ⟨h3.size, 0, none⟩ cs2) ∧
  List.length (cs2 : List Value) = 5 ∧
  New (cs2 ++ [.pointer q1, .pointer q2, .pointer q3, .pointer q4, .slice none 0 0]) 65 h11 fun h12 =>
  K (.tuple #[.pointer (some ⟨h11.size, 0, none⟩), .bool (!(Option.isNone q3))]) h12
def bolelaw11_start (n1 : Int) (frontA1 : Option Addr) (frontL1 : Nat) (frontC1 : Nat) (K : Value → Heap → Prop) (h1 : Heap) : Prop :=
  C.bolelaw11_mod n1 4096 h1 fun r1 h2 =>
  ∃ (n2 : Int), r1 = .int .i64 n2 ∧
  C.boleref07_Of (IntKind.wrap .i64 (128 + n2)) h2 fun r2 h3 =>
  ∃ (cs1 : List Value) (n3 : Int), r2 = .tuple #[.agg ⟨cs1⟩, .int .i64 n3] ∧
  NewRow z29 29 cs1 5 h3 fun h5 =>
  bif (n3 != 0) then (
  K (.tuple #[.pointer none, .bool false]) h5) else (
  ∃ (n4 : Int), cellOf h5 (Addr.add ⟨h3.size, 0, none⟩ 0) = some (.int .i64 n4) ∧
  (0 ≤ (IntKind.wrap .i64 (512 * n4)) ∧ (IntKind.wrap .i64 (512 * n4)) ≤ (IntKind.wrap .i64 (512 * n4)) ∧ (1 : Int) * (IntKind.wrap .i64 (512 * n4)) ≤ 281474976710656 ∧ (IntKind.wrap .i64 (512 * n4)) ≤ 281474976710656) ∧
  New (repCells z5 (Int.toNat (IntKind.wrap .i64 (512 * n4)))) 5 h5 fun h6 =>
  ∃ (n5 : Int), cellOf h6 (Addr.add ⟨h3.size, 0, none⟩ 2) = some (.int .i64 n5) ∧
  ∃ (n6 : Int), cellOf h6 (Addr.add ⟨h3.size, 0, none⟩ 3) = some (.int .i64 n6) ∧
  (0 ≤ (IntKind.wrap .i64 (512 * n5)) ∧ (IntKind.wrap .i64 (512 * n5)) ≤ (IntKind.wrap .i64 (512 * n6)) ∧ (IntKind.wrap .i64 (512 * n6)) ≤ ((Int.toNat (IntKind.wrap .i64 (512 * n4))) : Int)) ∧
  CopyP ti5 (if (Int.toNat (IntKind.wrap .i64 (512 * n4))) = (Int.toNat (IntKind.wrap .i64 (512 * n5))) then (some ⟨h5.size, 0, none⟩) else Option.map (Addr.add · (Int.toNat (IntKind.wrap .i64 (512 * n5)))) (some ⟨h5.size, 0, none⟩)) ((Int.toNat (IntKind.wrap .i64 (512 * n6))) - (Int.toNat (IntKind.wrap .i64 (512 * n5)))) (.slice frontA1 frontL1 frontC1) h6 fun n7 h7 =>
  C.adisk_Open (some ⟨h5.size, 0, none⟩) (Int.toNat (IntKind.wrap .i64 (512 * n4))) (Int.toNat (IntKind.wrap .i64 (512 * n4))) h7 fun r3 h8 =>
  ∃ (q1 : Option Addr) (n8 : Int), r3 = .tuple #[.pointer q1, .int .i64 n8] ∧
  C.boleref03_Of (some ⟨h5.size, 0, none⟩) (Int.toNat (IntKind.wrap .i64 (512 * n4))) (Int.toNat (IntKind.wrap .i64 (512 * n4))) h8 fun r4 h9 =>
  ∃ (q2 : Option Addr) (n9 : Int), r4 = .tuple #[.pointer q2, .int .i64 n9] ∧
  bif (n8 != 0) then (
  K (.tuple #[.pointer none, .bool false]) h9) else (
  bif (n9 != 0) then (
  K (.tuple #[.pointer none, .bool false]) h9) else (
  bif (Option.isNone q1) then (
  K (.tuple #[.pointer none, .bool false]) h9) else (
  bolelaw11_start.k1 h3 q1 h9 q2 K))))
def bolelaw11_start.lo : Nat → List Nat × List (Nat × Ty) := fun n => match n with | _ => ([], [])
def bolelaw11_start.od : Nat → Od := fun n => match n with | 11 => (.op 0 [] (.op 1 [] (.op 2 [] (.op 3 [] (.op 4 [] (.op 8 [] (.op 9 [] (.op 5 [0] (.op 6 [] (.op 7 [] (.op 10 [] (.op 11 [] .nil)))))))))))) | _ => .nil
theorem bolelaw11_start.eq (n1 : Int) (frontA1 : Option Addr) (frontL1 : Nat) (frontC1 : Nat) (K : Value → Heap → Prop) (h : Heap) : fnX (cx bolelaw11_start.lo bolelaw11_start.od) Tryd.f19 (Tryd.f19.body.getD .skip) [.int .i64 n1, .slice frontA1 frontL1 frontC1] K h = bolelaw11_start n1 frontA1 frontL1 frontC1 K h := by kernel_rfl
theorem bolelaw11_start.chk : fnOk (cx bolelaw11_start.lo bolelaw11_start.od) Tryd.f19 (Tryd.f19.body.getD .skip) 2 = true := by kernel_rfl
theorem bolelaw11_start.ok {n1 : Int} {frontA1 : Option Addr} {frontL1 : Nat} {frontC1 : Nat} {K : Value → Heap → Prop} {h : Heap} (hx : bolelaw11_start n1 frontA1 frontL1 frontC1 K h) : C.bolelaw11_start n1 frontA1 frontL1 frontC1 h K :=
  fn_to (cxOk _ _) Tryd.func19 (by kernel_rfl) bolelaw11_start.chk (by rw [bolelaw11_start.eq]; exact hx)

-- 20
def bolelaw11_mod (k1 : Int) (n1 : Int) (K : Value → Heap → Prop) (h1 : Heap) : Prop :=
  if n1 = 0 then False else
  bif (decide ((Int.tmod k1 n1) < 0)) then (
  K (.int .i64 (IntKind.wrap .i64 ((Int.tmod k1 n1) + n1))) h1) else (
  K (.int .i64 (Int.tmod k1 n1)) h1)
def bolelaw11_mod.lo : Nat → List Nat × List (Nat × Ty) := fun n => match n with | _ => ([], [])
def bolelaw11_mod.od : Nat → Od := fun n => match n with | _ => .nil
theorem bolelaw11_mod.eq (k1 : Int) (n1 : Int) (K : Value → Heap → Prop) (h : Heap) : fnX (cx bolelaw11_mod.lo bolelaw11_mod.od) Tryd.f20 (Tryd.f20.body.getD .skip) [.int .i64 k1, .int .i64 n1] K h = bolelaw11_mod k1 n1 K h := by kernel_rfl
theorem bolelaw11_mod.chk : fnOk (cx bolelaw11_mod.lo bolelaw11_mod.od) Tryd.f20 (Tryd.f20.body.getD .skip) 2 = true := by kernel_rfl
theorem bolelaw11_mod.ok {k1 : Int} {n1 : Int} {K : Value → Heap → Prop} {h : Heap} (hx : bolelaw11_mod k1 n1 K h) : C.bolelaw11_mod k1 n1 h K :=
  fn_to (cxOk _ _) Tryd.func20 (by kernel_rfl) bolelaw11_mod.chk (by rw [bolelaw11_mod.eq]; exact hx)

-- 21
def bolelaw11_brought (x1 : List Value) (K : Value → Heap → Prop) (h1 : Heap) : Prop :=
  New x1 35 h1 fun h2 =>
  New z35 35 h2 fun h3 =>
  ∃ (n1 : Int), cellOf h3 (Addr.add ⟨h1.size, 0, none⟩ 0) = some (.int .i64 n1) ∧
  C.bolelaw11_mod n1 3 h3 fun r1 h4 =>
  ∃ (n2 : Int), r1 = .int .i64 n2 ∧
  NewRow z35 35 [.int .i64 (IntKind.wrap .i64 (1 + n2)), .int .i64 0, .int .i64 0, .int .i64 0, .int .i64 0, .int .i64 0, .int .i64 0, .int .i64 0, .int .i64 0, .int .i64 0, .int .i64 0, .int .i64 0, .int .i64 0, .int .i64 0, .int .i64 0] 15 h4 fun h6 =>
  ∃ (n3 : Int), cellOf h6 (Addr.add ⟨h4.size, 0, none⟩ 0) = some (.int .i64 n3) ∧
  bif (n3 == 1) then (
  ∃ (n4 : Int), cellOf h6 (Addr.add ⟨h1.size, 0, none⟩ 1) = some (.int .i64 n4) ∧
  C.bolelaw11_mod n4 1001 h6 fun r2 h7 =>
  ∃ (n5 : Int), r2 = .int .i64 n5 ∧
  Put (Addr.add ⟨h4.size, 0, none⟩ 1) (.int .i64 n5) h7 fun h8 =>
  ∃ (n6 : Int), cellOf h8 (Addr.add ⟨h1.size, 0, none⟩ 2) = some (.int .i64 n6) ∧
  C.bolelaw11_mod n6 8459265 h8 fun r3 h9 =>
  ∃ (n7 : Int), r3 = .int .i64 n7 ∧
  Put (Addr.add ⟨h4.size, 0, none⟩ 2) (.int .i64 n7) h9 fun h10 =>
  ∃ (I1 : Int → Heap → Prop) (M1 : Int → Heap → Nat), I1 0 h10 ∧
  ∀ (i1 : Int), ∀ h11 : Heap, I1 i1 h11 →
  bif (decide (i1 < 10)) then (
  (0 ≤ i1 ∧ i1 < (10 : Int)) ∧
  ∃ (n8 : Int), cellOf h11 (Addr.add (Addr.add ⟨h1.size, 0, none⟩ 3) (Int.toNat i1)) = some (.int .i64 n8) ∧
  C.bolelaw11_mod n8 4294967296 h11 fun r4 h12 =>
  ∃ (n9 : Int), r4 = .int .i64 n9 ∧
  (0 ≤ i1 ∧ i1 < (10 : Int)) ∧
  Put (Addr.add (Addr.add ⟨h4.size, 0, none⟩ 3) (Int.toNat i1)) (.int .i64 n9) h12 fun h13 =>
  I1 (IntKind.wrap .i64 (i1 + 1)) h13 ∧ M1 (IntKind.wrap .i64 (i1 + 1)) h13 < M1 i1 h11) else (
  ∃ (n10 : Int), cellOf h11 (Addr.add ⟨h1.size, 0, none⟩ 13) = some (.int .i64 n10) ∧
  C.bolelaw11_mod n10 4294967296 h11 fun r5 h14 =>
  ∃ (n11 : Int), r5 = .int .i64 n11 ∧
  Put (Addr.add ⟨h4.size, 0, none⟩ 13) (.int .i64 n11) h14 fun h15 =>
  ∃ (n12 : Int), cellOf h15 (Addr.add ⟨h1.size, 0, none⟩ 14) = some (.int .i64 n12) ∧
  C.bolelaw11_mod n12 4294967296 h15 fun r6 h16 =>
  ∃ (n13 : Int), r6 = .int .i64 n13 ∧
  Put (Addr.add ⟨h4.size, 0, none⟩ 14) (.int .i64 n13) h16 fun h17 =>
  ∃ cs1 : List Value, List.length cs1 = 15 ∧ Cells h17 ⟨h4.size, 0, none⟩ cs1 ∧
  PutRow ⟨h2.size, 0, none⟩ cs1 15 h17 fun h18 =>
  ∃ res1 : List Value, List.length res1 = 15 ∧ Cells h18 ⟨h2.size, 0, none⟩ res1 ∧
  K (.agg ⟨res1⟩) h18)) else (
  bif (n3 == 2) then (
  ∃ (n14 : Int), cellOf h6 (Addr.add ⟨h1.size, 0, none⟩ 1) = some (.int .i64 n14) ∧
  C.bolelaw11_mod n14 65534 h6 fun r7 h19 =>
  ∃ (n15 : Int), r7 = .int .i64 n15 ∧
  Put (Addr.add ⟨h4.size, 0, none⟩ 1) (.int .i64 (IntKind.wrap .i64 (2 + n15))) h19 fun h20 =>
  ∃ (n16 : Int), cellOf h20 (Addr.add ⟨h1.size, 0, none⟩ 2) = some (.int .i64 n16) ∧
  C.bolelaw11_mod n16 16523 h20 fun r8 h21 =>
  ∃ (n17 : Int), r8 = .int .i64 n17 ∧
  Put (Addr.add ⟨h4.size, 0, none⟩ 2) (.int .i64 (IntKind.wrap .i64 (512 * n17))) h21 fun h22 =>
  ∃ (I2 : Int → Heap → Prop) (M2 : Int → Heap → Nat), I2 0 h22 ∧
  ∀ (i2 : Int), ∀ h23 : Heap, I2 i2 h23 →
  bif (decide (i2 < 10)) then (
  (0 ≤ i2 ∧ i2 < (10 : Int)) ∧
  ∃ (n18 : Int), cellOf h23 (Addr.add (Addr.add ⟨h1.size, 0, none⟩ 3) (Int.toNat i2)) = some (.int .i64 n18) ∧
  C.bolelaw11_mod n18 4294967296 h23 fun r9 h24 =>
  ∃ (n19 : Int), r9 = .int .i64 n19 ∧
  (0 ≤ i2 ∧ i2 < (10 : Int)) ∧
  Put (Addr.add (Addr.add ⟨h4.size, 0, none⟩ 3) (Int.toNat i2)) (.int .i64 n19) h24 fun h25 =>
  I2 (IntKind.wrap .i64 (i2 + 1)) h25 ∧ M2 (IntKind.wrap .i64 (i2 + 1)) h25 < M2 i2 h23) else (
  ∃ (n20 : Int), cellOf h23 (Addr.add ⟨h1.size, 0, none⟩ 13) = some (.int .i64 n20) ∧
  C.bolelaw11_mod n20 4294967296 h23 fun r10 h26 =>
  ∃ (n21 : Int), r10 = .int .i64 n21 ∧
  Put (Addr.add ⟨h4.size, 0, none⟩ 13) (.int .i64 n21) h26 fun h27 =>
  ∃ (n22 : Int), cellOf h27 (Addr.add ⟨h1.size, 0, none⟩ 14) = some (.int .i64 n22) ∧
  C.bolelaw11_mod n22 4294967296 h27 fun r11 h28 =>
  ∃ (n23 : Int), r11 = .int .i64 n23 ∧
  Put (Addr.add ⟨h4.size, 0, none⟩ 14) (.int .i64 n23) h28 fun h29 =>
  ∃ cs2 : List Value, List.length cs2 = 15 ∧ Cells h29 ⟨h4.size, 0, none⟩ cs2 ∧
  PutRow ⟨h2.size, 0, none⟩ cs2 15 h29 fun h30 =>
  ∃ res2 : List Value, List.length res2 = 15 ∧ Cells h30 ⟨h2.size, 0, none⟩ res2 ∧
  K (.agg ⟨res2⟩) h30)) else (
  ∃ (n24 : Int), cellOf h6 (Addr.add ⟨h1.size, 0, none⟩ 1) = some (.int .i64 n24) ∧
  C.bolelaw11_mod n24 1000 h6 fun r12 h31 =>
  ∃ (n25 : Int), r12 = .int .i64 n25 ∧
  Put (Addr.add ⟨h4.size, 0, none⟩ 1) (.int .i64 (IntKind.wrap .i64 (1 + n25))) h31 fun h32 =>
  ∃ (n26 : Int), cellOf h32 (Addr.add ⟨h1.size, 0, none⟩ 2) = some (.int .i64 n26) ∧
  C.bolelaw11_mod n26 1024 h32 fun r13 h33 =>
  ∃ (n27 : Int), r13 = .int .i64 n27 ∧
  Put (Addr.add ⟨h4.size, 0, none⟩ 2) (.int .i64 (IntKind.wrap .i64 (1 + n27))) h33 fun h34 =>
  ∃ (I3 : Int → Heap → Prop) (M3 : Int → Heap → Nat), I3 0 h34 ∧
  ∀ (i3 : Int), ∀ h35 : Heap, I3 i3 h35 →
  bif (decide (i3 < 10)) then (
  (0 ≤ i3 ∧ i3 < (10 : Int)) ∧
  ∃ (n28 : Int), cellOf h35 (Addr.add (Addr.add ⟨h1.size, 0, none⟩ 3) (Int.toNat i3)) = some (.int .i64 n28) ∧
  C.bolelaw11_mod n28 4294967296 h35 fun r14 h36 =>
  ∃ (n29 : Int), r14 = .int .i64 n29 ∧
  (0 ≤ i3 ∧ i3 < (10 : Int)) ∧
  Put (Addr.add (Addr.add ⟨h4.size, 0, none⟩ 3) (Int.toNat i3)) (.int .i64 n29) h36 fun h37 =>
  I3 (IntKind.wrap .i64 (i3 + 1)) h37 ∧ M3 (IntKind.wrap .i64 (i3 + 1)) h37 < M3 i3 h35) else (
  ∃ (n30 : Int), cellOf h35 (Addr.add ⟨h1.size, 0, none⟩ 13) = some (.int .i64 n30) ∧
  C.bolelaw11_mod n30 4294967296 h35 fun r15 h38 =>
  ∃ (n31 : Int), r15 = .int .i64 n31 ∧
  Put (Addr.add ⟨h4.size, 0, none⟩ 13) (.int .i64 n31) h38 fun h39 =>
  ∃ (n32 : Int), cellOf h39 (Addr.add ⟨h1.size, 0, none⟩ 14) = some (.int .i64 n32) ∧
  C.bolelaw11_mod n32 4294967296 h39 fun r16 h40 =>
  ∃ (n33 : Int), r16 = .int .i64 n33 ∧
  Put (Addr.add ⟨h4.size, 0, none⟩ 14) (.int .i64 n33) h40 fun h41 =>
  ∃ cs3 : List Value, List.length cs3 = 15 ∧ Cells h41 ⟨h4.size, 0, none⟩ cs3 ∧
  PutRow ⟨h2.size, 0, none⟩ cs3 15 h41 fun h42 =>
  ∃ res3 : List Value, List.length res3 = 15 ∧ Cells h42 ⟨h2.size, 0, none⟩ res3 ∧
  K (.agg ⟨res3⟩) h42)))
def bolelaw11_brought.lo : Nat → List Nat × List (Nat × Ty) := fun n => match n with | 12 => ([1, 2, 3], [(4, .int .i64)]) | _ => ([], [])
def bolelaw11_brought.od : Nat → Od := fun n => match n with | _ => .nil
set_option maxRecDepth 1000000 in
theorem bolelaw11_brought.eq (x1 : List Value) (K : Value → Heap → Prop) (h : Heap) : fnX (cx bolelaw11_brought.lo bolelaw11_brought.od) Tryd.f21 (Tryd.f21.body.getD .skip) [.agg ⟨x1⟩] K h = bolelaw11_brought x1 K h := by kernel_rfl
theorem bolelaw11_brought.chk : fnOk (cx bolelaw11_brought.lo bolelaw11_brought.od) Tryd.f21 (Tryd.f21.body.getD .skip) 1 = true := by kernel_rfl
set_option maxRecDepth 1000000 in
theorem bolelaw11_brought.ok {x1 : List Value} {K : Value → Heap → Prop} {h : Heap} (hx : bolelaw11_brought x1 K h) : C.bolelaw11_brought x1 h K :=
  fn_to (cxOk _ _) Tryd.func21 (by kernel_rfl) bolelaw11_brought.chk (by rw [bolelaw11_brought.eq]; exact hx)

-- 22
def inode_Put (t1 : Option Addr) (g1 : List Value) (n1 : Int) (x1 : List Value) (K : Value → Heap → Prop) (h1 : Heap) : Prop :=
  New g1 29 h1 fun h2 =>
  New x1 35 h2 fun h3 =>
  ∃ cs1 : List Value, List.length cs1 = 5 ∧ Cells h3 ⟨h1.size, 0, none⟩ cs1 ∧
  C.inode_isInode cs1 n1 h3 fun r1 h4 =>
  ∃ (b1 : Bool), r1 = .bool b1 ∧
  bif (!b1) then (
  K (.int .i64 110) h4) else (
  ∃ cs2 : List Value, List.length cs2 = 15 ∧ Cells h4 ⟨h2.size, 0, none⟩ cs2 ∧
  C.inode_Encode cs2 h4 fun r2 h5 =>
  ∃ (sA1 : Option Addr) (sL1 : Nat) (sC1 : Nat) (n2 : Int), r2 = .tuple #[.slice sA1 sL1 sC1, .int .i64 n2] ∧
  bif (n2 != 0) then (
  K (.int .i64 n2) h5) else (
  ∃ cs3 : List Value, List.length cs3 = 5 ∧ Cells h5 ⟨h1.size, 0, none⟩ cs3 ∧
  C.inode_place t1 cs3 n1 h5 fun r3 h6 =>
  ∃ (n3 : Int) (sA2 : Option Addr) (sL2 : Nat) (sC2 : Nat) (n4 : Int) (n5 : Int), r3 = .tuple #[.int .i64 n3, .slice sA2 sL2 sC2, .int .i64 n4, .int .i64 n5] ∧
  bif (n5 != 0) then (
  K (.int .i64 n5) h6) else (
  (0 ≤ n4 ∧ n4 ≤ (sL2 : Int)) ∧
  CopyP ti5 (if sC2 = (Int.toNat n4) then sA2 else Option.map (Addr.add · (Int.toNat n4)) sA2) (sL2 - (Int.toNat n4)) (.slice sA1 sL1 sC1) h6 fun n6 h7 =>
  C.txn_Txn_Write t1 n3 sA2 sL2 sC2 h7 fun r4 h8 =>
  ∃ (n7 : Int), r4 = .int .i64 n7 ∧
  K (.int .i64 n7) h8)))
def inode_Put.lo : Nat → List Nat × List (Nat × Ty) := fun n => match n with | _ => ([], [])
def inode_Put.od : Nat → Od := fun n => match n with | _ => .nil
theorem inode_Put.eq (t1 : Option Addr) (g1 : List Value) (n1 : Int) (x1 : List Value) (K : Value → Heap → Prop) (h : Heap) : fnX (cx inode_Put.lo inode_Put.od) Tryd.f22 (Tryd.f22.body.getD .skip) [.pointer t1, .agg ⟨g1⟩, .int .i64 n1, .agg ⟨x1⟩] K h = inode_Put t1 g1 n1 x1 K h := by kernel_rfl
theorem inode_Put.chk : fnOk (cx inode_Put.lo inode_Put.od) Tryd.f22 (Tryd.f22.body.getD .skip) 4 = true := by kernel_rfl
theorem inode_Put.ok {t1 : Option Addr} {g1 : List Value} {n1 : Int} {x1 : List Value} {K : Value → Heap → Prop} {h : Heap} (hx : inode_Put t1 g1 n1 x1 K h) : C.inode_Put t1 g1 n1 x1 h K :=
  fn_to (cxOk _ _) Tryd.func22 (by kernel_rfl) inode_Put.chk (by rw [inode_Put.eq]; exact hx)
end Go.Proofs.YtcdpakjhjmchhaaDoor.W
