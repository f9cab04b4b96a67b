/-
  WHAT THE FUNCTIONS COMPUTE, as formulas; each held against the loaded code by the kernel. Written by program (gen.py).
-/
import Derived.Test.YtpleolmalbdpnaaDoorTab
namespace Go.Proofs.YtpleolmalbdpnaaDoor.W
open Go Go.Proofs Go.Proofs.YtpleolmalbdpnaaDoor.Wx
-- 3
def bolelaw05_WalKeeps.k4 (sA2 : Option Addr) (sL2 : Nat) (sA4 : Option Addr) (sL4 : Nat) (k1 : Int) (h12 : Heap) (I2 : Int → Heap → Prop) (M2 : Int → Heap → Nat) (named1 : Bool) (K : Value → Heap → Prop) : Prop :=
  ∃ (I3 : Bool → Int → Heap → Prop) (M3 : Bool → Int → Heap → Nat), I3 named1 0 h12 ∧
  ∀ (named2 : Bool) (j1 : Int), ∀ h13 : Heap, I3 named2 j1 h13 →
  bif (decide (j1 < (sL2 : Int))) then (
  bif named2 then (
  I3 true (IntKind.wrap .i64 (j1 + 1)) h13 ∧ M3 true (IntKind.wrap .i64 (j1 + 1)) h13 < M3 named2 j1 h13) else (
  (0 ≤ j1 ∧ j1 < (sL2 : Int)) ∧
  onSome sA2 fun p3 =>
  ∃ (n8 : Int), cellOf h13 (Addr.add (Addr.add p3 ((Int.toNat j1) * 2)) 0) = some (.int .i64 n8) ∧
  (0 ≤ k1 ∧ k1 < (sL4 : Int)) ∧
  onSome sA4 fun p4 =>
  ∃ (n9 : Int), cellOf h13 (Addr.add (Addr.add p4 ((Int.toNat k1) * 3)) 1) = some (.int .i64 n9) ∧
  I3 (n8 == n9) (IntKind.wrap .i64 (j1 + 1)) h13 ∧ M3 (n8 == n9) (IntKind.wrap .i64 (j1 + 1)) h13 < M3 named2 j1 h13)) else (
  bif (!named2) then (
  K (.bool false) h13) else (
  I2 (IntKind.wrap .i64 (k1 + 1)) h13 ∧ M2 (IntKind.wrap .i64 (k1 + 1)) h13 < M2 k1 h12))
def bolelaw05_WalKeeps.k3 (q1 : Option Addr) (wantA1 : Option Addr) (wantL1 : Nat) (wantC1 : Nat) (i1 : Int) (h5 : Heap) (I1 : Option Addr → Nat → Nat → Int → Heap → Prop) (M1 : Option Addr → Nat → Nat → Int → Heap → Nat) (sA2 : Option Addr) (sL2 : Nat) (sC2 : Nat) (sL3 : Nat) (h10 : Heap) (K : Value → Heap → Prop) : Prop :=
  C.adisk_Disk_Tape q1 (sL3 : Int) h10 fun r8 h11 =>
  ∃ (sA4 : Option Addr) (sL4 : Nat) (sC4 : Nat), r8 = .slice sA4 sL4 sC4 ∧
  ∃ (I2 : Int → Heap → Prop) (M2 : Int → Heap → Nat), I2 0 h11 ∧
  ∀ (k1 : Int), ∀ h12 : Heap, I2 k1 h12 →
  bif (decide (k1 < (sL4 : Int))) then (
  (0 ≤ k1 ∧ k1 < (sL4 : Int)) ∧
  onSome sA4 fun p2 =>
  ∃ (n7 : Int), cellOf h12 (Addr.add (Addr.add p2 ((Int.toNat k1) * 3)) 0) = some (.int .i64 n7) ∧
  bif (n7 != 1) then (
  bolelaw05_WalKeeps.k4 sA2 sL2 sA4 sL4 k1 h12 I2 M2 true K) else (
  (0 ≤ k1 ∧ k1 < (sL4 : Int)) ∧
  onSome sA4 fun p5 =>
  ∃ (n10 : Int), cellOf h12 (Addr.add (Addr.add p5 ((Int.toNat k1) * 3)) 1) = some (.int .i64 n10) ∧
  bif (decide (n10 ≥ 1)) then (
  (0 ≤ k1 ∧ k1 < (sL4 : Int)) ∧
  onSome sA4 fun p6 =>
  ∃ (n11 : Int), cellOf h12 (Addr.add (Addr.add p6 ((Int.toNat k1) * 3)) 1) = some (.int .i64 n11) ∧
  bolelaw05_WalKeeps.k4 sA2 sL2 sA4 sL4 k1 h12 I2 M2 (decide (n11 ≤ 97)) K) else (
  bolelaw05_WalKeeps.k4 sA2 sL2 sA4 sL4 k1 h12 I2 M2 false K))) else (
  C.bolelaw05_laid wantA1 wantL1 wantC1 sA2 sL2 sC2 h12 fun r9 h14 =>
  ∃ (sA5 : Option Addr) (sL5 : Nat) (sC5 : Nat), r9 = .slice sA5 sL5 sC5 ∧
  C.wal_Behind q1 h14 fun r10 h15 =>
  ∃ (sA6 : Option Addr) (sL6 : Nat) (sC6 : Nat) (n12 : Int), r10 = .tuple #[.slice sA6 sL6 sC6, .int .i64 n12] ∧
  bif (n12 != 0) then (
  K (.bool false) h15) else (
  C.bolelaw05_sameBut sA6 sL6 sC6 sA5 sL5 sC5 h15 fun r11 h16 =>
  ∃ (b2 : Bool), r11 = .bool b2 ∧
  bif (!b2) then (
  K (.bool false) h16) else (
  C.adisk_Disk_Image q1 h16 fun r12 h17 =>
  ∃ (sA7 : Option Addr) (sL7 : Nat) (sC7 : Nat), r12 = .slice sA7 sL7 sC7 ∧
  C.bolelaw05_sameBut sA7 sL7 sC7 sA5 sL5 sC5 h17 fun r13 h18 =>
  ∃ (b3 : Bool), r13 = .bool b3 ∧
  bif (!b3) then (
  K (.bool false) h18) else (
  C.adisk_Disk_Pending q1 h18 fun r14 h19 =>
  ∃ (sA8 : Option Addr) (sL8 : Nat) (sC8 : Nat), r14 = .slice sA8 sL8 sC8 ∧
  bif ((sL8 : Int) != 0) then (
  K (.bool false) h19) else (
  I1 sA5 sL5 sC5 (IntKind.wrap .i64 (i1 + 1)) h19 ∧ M1 sA5 sL5 sC5 (IntKind.wrap .i64 (i1 + 1)) h19 < M1 wantA1 wantL1 wantC1 i1 h5)))))
def bolelaw05_WalKeeps.k2 (lA1 : Option Addr) (lL1 : Nat) (q1 : Option Addr) (wantA1 : Option Addr) (wantL1 : Nat) (wantC1 : Nat) (i1 : Int) (h5 : Heap) (I1 : Option Addr → Nat → Nat → Int → Heap → Prop) (M1 : Option Addr → Nat → Nat → Int → Heap → Nat) (K : Value → Heap → Prop) : Prop :=
  (0 ≤ i1 ∧ i1 < (lL1 : Int)) ∧
  onSome lA1 fun p1 =>
  ∃ (sA1 : Option Addr) (sL1 : Nat) (sC1 : Nat), cellOf h5 (Addr.add p1 (Int.toNat i1)) = some (.slice sA1 sL1 sC1) ∧
  C.bolelaw05_rows sA1 sL1 sC1 h5 fun r3 h6 =>
  ∃ (sA2 : Option Addr) (sL2 : Nat) (sC2 : Nat), r3 = .slice sA2 sL2 sC2 ∧
  C.adisk_Disk_Steps q1 h6 fun r4 h7 =>
  ∃ (n2 : Int) (n3 : Int), r4 = .tuple #[.int .i64 n2, .int .i64 n3] ∧
  C.adisk_Disk_Tape q1 0 h7 fun r5 h8 =>
  ∃ (sA3 : Option Addr) (sL3 : Nat) (sC3 : Nat), r5 = .slice sA3 sL3 sC3 ∧
  C.wal_Commit q1 sA2 sL2 sC2 h8 fun r6 h9 =>
  ∃ (n4 : Int), r6 = .int .i64 n4 ∧
  C.adisk_Disk_Steps q1 h9 fun r7 h10 =>
  ∃ (n5 : Int) (n6 : Int), r7 = .tuple #[.int .i64 n5, .int .i64 n6] ∧
  bif (n4 != 0) then (
  K (.bool false) h10) else (
  bif (decide ((sL2 : Int) > 0)) then (
  bif ((IntKind.wrap .i64 (n5 - n2)) != (IntKind.wrap .i64 ((IntKind.wrap .i64 (2 * (sL2 : Int))) + 2))) then (
  K (.bool false) h10) else (
  bif ((IntKind.wrap .i64 (n6 - n3)) != 4) then (
  K (.bool false) h10) else (
  bif ((sL2 : Int) == 0) then (
  bif (n5 != n2) then (
  K (.bool false) h10) else (
  bif (n6 != n3) then (
  K (.bool false) h10) else (
  bolelaw05_WalKeeps.k3 q1 wantA1 wantL1 wantC1 i1 h5 I1 M1 sA2 sL2 sC2 sL3 h10 K))) else (
  bolelaw05_WalKeeps.k3 q1 wantA1 wantL1 wantC1 i1 h5 I1 M1 sA2 sL2 sC2 sL3 h10 K)))) else (
  bif ((sL2 : Int) == 0) then (
  bif (n5 != n2) then (
  K (.bool false) h10) else (
  bif (n6 != n3) then (
  K (.bool false) h10) else (
  bolelaw05_WalKeeps.k3 q1 wantA1 wantL1 wantC1 i1 h5 I1 M1 sA2 sL2 sC2 sL3 h10 K))) else (
  bolelaw05_WalKeeps.k3 q1 wantA1 wantL1 wantC1 i1 h5 I1 M1 sA2 sL2 sC2 sL3 h10 K)))
def bolelaw05_WalKeeps.k1 (lA1 : Option Addr) (lL1 : Nat) (h3 : Heap) (q1 : Option Addr) (K : Value → Heap → Prop) : Prop :=
  (0 ≤ (65536 : Int) ∧ (65536 : Int) ≤ 65536 ∧ (1 : Int) * 65536 ≤ 281474976710656 ∧ (65536 : Int) ≤ 281474976710656) ∧
  New (repCells z5 (Int.toNat 65536)) 5 h3 fun h4 =>
  ∃ (I1 : Option Addr → Nat → Nat → Int → Heap → Prop) (M1 : Option Addr → Nat → Nat → Int → Heap → Nat), I1 (some ⟨h3.size, 0, none⟩) (Int.toNat 65536) (Int.toNat 65536) 0 h4 ∧
  ∀ (wantA1 : Option Addr) (wantL1 : Nat) (wantC1 : Nat) (i1 : Int), ∀ h5 : Heap, I1 wantA1 wantL1 wantC1 i1 h5 →
  bif (decide (i1 < (lL1 : Int))) then (
  bif (decide (i1 < 12)) then (
  bolelaw05_WalKeeps.k2 lA1 lL1 q1 wantA1 wantL1 wantC1 i1 h5 I1 M1 K) else (
  K (.bool true) h5)) else (
  K (.bool true) h5)
def bolelaw05_WalKeeps (lA1 : Option Addr) (lL1 : Nat) (lC1 : Nat) (K : Value → Heap → Prop) (h1 : Heap) : Prop :=
  C.bolelaw05_fixed  h1 fun r1 h2 =>
  ∃ (b1 : Bool), r1 = .bool b1 ∧
  bif (!b1) then (
  K (.bool false) h2) else (
  C.adisk_New 128 h2 fun r2 h3 =>
  ∃ (q1 : Option Addr) (n1 : Int), r2 = .tuple #[.pointer q1, .int .i64 n1] ∧
  bif (n1 != 0) then (
  K (.bool false) h3) else (
  bif (Option.isNone q1) then (
  K (.bool false) h3) else (
  bolelaw05_WalKeeps.k1 lA1 lL1 h3 q1 K)))
def bolelaw05_WalKeeps.lo : Nat → List Nat × List (Nat × Ty) := fun n => match n with | 8 => ([0, 3], [(5, .slice), (6, .int .i64)]) | 21 => ([0, 3, 5, 6, 7, 14], [(15, .int .i64)]) | 25 => ([0, 3, 5, 6, 7, 14, 15], [(16, .bool), (17, .int .i64)]) | _ => ([], [])
def bolelaw05_WalKeeps.od : Nat → Od := fun n => match n with | 27 => (.op 0 [] (.op 1 [] (.op 2 [] (.op 3 [] (.op 4 [] (.op 5 [] (.op 6 [] (.op 7 [] (.op 8 [] (.op 9 [] (.op 10 [] (.op 11 [] (.op 12 [] (.op 13 [] (.op 14 [] .nil))))))))))))))) | _ => .nil
theorem bolelaw05_WalKeeps.eq (lA1 : Option Addr) (lL1 : Nat) (lC1 : Nat) (K : Value → Heap → Prop) (h : Heap) : fnX (cx bolelaw05_WalKeeps.lo bolelaw05_WalKeeps.od) Tryd.f3 (Tryd.f3.body.getD .skip) [.slice lA1 lL1 lC1] K h = bolelaw05_WalKeeps lA1 lL1 lC1 K h := by kernel_rfl
theorem bolelaw05_WalKeeps.chk : fnOk (cx bolelaw05_WalKeeps.lo bolelaw05_WalKeeps.od) Tryd.f3 (Tryd.f3.body.getD .skip) 1 = true := by kernel_rfl
theorem bolelaw05_WalKeeps.ok {lA1 : Option Addr} {lL1 : Nat} {lC1 : Nat} {K : Value → Heap → Prop} {h : Heap} (hx : bolelaw05_WalKeeps lA1 lL1 lC1 K h) : C.bolelaw05_WalKeeps lA1 lL1 lC1 h K :=
  fn_to (cxOk _ _) Tryd.func3 (by kernel_rfl) bolelaw05_WalKeeps.chk (by rw [bolelaw05_WalKeeps.eq]; exact hx)

-- 4
def bolelaw05_WalHostile.k3 (h3 : Heap) (n2 : Int) (q1 : Option Addr) (sA1 : Option Addr) (sL1 : Nat) (n9 : Int) (n11 : Int) (n12 : Int) (h14 : Heap) (K : Value → Heap → Prop) : Prop :=
  bif (n9 == 0) then (
  bif (n11 == 0) then (
  bif (n12 == 0) then (
  ∃ bs5 : List UInt8, StrAt h14 sA1 sL1 bs5 ∧
  ∃ bs6 : List UInt8, StrAt h14 (some ⟨h3.size, 0, none⟩) (Int.toNat (IntKind.wrap .i64 (512 * (IntKind.wrap .i64 (90 + n2))))) bs6 ∧
  K (.bool ((mkStr bs5).toList == (mkStr bs6).toList)) h14) else (
  K (.bool false) h14)) else (
  K (.bool false) h14)) else (
  C.adisk_Disk_Tape q1 0 h14 fun r10 h15 =>
  ∃ (sA4 : Option Addr) (sL4 : Nat) (sC4 : Nat), r10 = .slice sA4 sL4 sC4 ∧
  ∃ (I1 : Int → Heap → Prop) (M1 : Int → Heap → Nat), I1 0 h15 ∧
  ∀ (i1 : Int), ∀ h16 : Heap, I1 i1 h16 →
  bif (decide (i1 < (sL4 : Int))) then (
  (0 ≤ i1 ∧ i1 < (sL4 : Int)) ∧
  onSome sA4 fun p1 =>
  ∃ (n13 : Int), cellOf h16 (Addr.add (Addr.add p1 ((Int.toNat i1) * 3)) 0) = some (.int .i64 n13) ∧
  bif (n13 == 1) then (
  (0 ≤ i1 ∧ i1 < (sL4 : Int)) ∧
  onSome sA4 fun p2 =>
  ∃ (n14 : Int), cellOf h16 (Addr.add (Addr.add p2 ((Int.toNat i1) * 3)) 1) = some (.int .i64 n14) ∧
  bif (n14 != 1) then (
  (0 ≤ i1 ∧ i1 < (sL4 : Int)) ∧
  onSome sA4 fun p3 =>
  ∃ (n15 : Int), cellOf h16 (Addr.add (Addr.add p3 ((Int.toNat i1) * 3)) 1) = some (.int .i64 n15) ∧
  bif (decide (n15 < 98)) then (
  K (.bool false) h16) else (
  (0 ≤ i1 ∧ i1 < (sL4 : Int)) ∧
  onSome sA4 fun p4 =>
  ∃ (n16 : Int), cellOf h16 (Addr.add (Addr.add p4 ((Int.toNat i1) * 3)) 1) = some (.int .i64 n16) ∧
  bif (decide (n16 ≥ (IntKind.wrap .i64 (90 + n2)))) then (
  K (.bool false) h16) else (
  I1 (IntKind.wrap .i64 (i1 + 1)) h16 ∧ M1 (IntKind.wrap .i64 (i1 + 1)) h16 < M1 i1 h16))) else (
  I1 (IntKind.wrap .i64 (i1 + 1)) h16 ∧ M1 (IntKind.wrap .i64 (i1 + 1)) h16 < M1 i1 h16)) else (
  I1 (IntKind.wrap .i64 (i1 + 1)) h16 ∧ M1 (IntKind.wrap .i64 (i1 + 1)) h16 < M1 i1 h16)) else (
  bif (n11 == (IntKind.wrap .i64 (n9 + 1))) then (
  K (.bool (n12 == 2)) h16) else (
  K (.bool false) h16)))
def bolelaw05_WalHostile.k2 (h3 : Heap) (n2 : Int) (q1 : Option Addr) (sA1 : Option Addr) (sL1 : Nat) (n6 : Int) (h9 : Heap) (K : Value → Heap → Prop) : Prop :=
  C.wal_Recover q1 h9 fun r6 h10 =>
  ∃ (n9 : Int) (n10 : Int), r6 = .tuple #[.int .i64 n9, .int .i64 n10] ∧
  C.adisk_Disk_Steps q1 h10 fun r7 h11 =>
  ∃ (n11 : Int) (n12 : Int), r7 = .tuple #[.int .i64 n11, .int .i64 n12] ∧
  bif (decide ((IntKind.wrap .i64 (90 + n2)) < 98)) then (
  bif (n6 == 31) then (
  bif (n10 == 31) then (
  bif (n11 == 0) then (
  bif (n12 == 0) then (
  K (.bool ((sL1 : Int) == 0)) h11) else (
  K (.bool false) h11)) else (
  K (.bool false) h11)) else (
  K (.bool false) h11)) else (
  K (.bool false) h11)) else (
  bif (n6 != 0) then (
  bif (n6 == 41) then (
  bif (n10 == 41) then (
  bif (n11 == 0) then (
  bif (n12 == 0) then (
  bif ((sL1 : Int) == 0) then (
  ∃ bs1 : List UInt8, StrAt h11 (some ⟨h3.size, 0, none⟩) (Int.toNat (IntKind.wrap .i64 (512 * (IntKind.wrap .i64 (90 + n2))))) bs1 ∧
  C.adisk_Disk_Image q1 h11 fun r8 h12 =>
  ∃ (sA2 : Option Addr) (sL2 : Nat) (sC2 : Nat), r8 = .slice sA2 sL2 sC2 ∧
  StrAt h12 (some ⟨h3.size, 0, none⟩) (Int.toNat (IntKind.wrap .i64 (512 * (IntKind.wrap .i64 (90 + n2))))) (ByteArray.toList (mkStr bs1)) ∧
  ∃ bs2 : List UInt8, StrAt h12 sA2 sL2 bs2 ∧
  K (.bool ((mkStr bs2).toList == (mkStr bs1).toList)) h12) else (
  K (.bool false) h11)) else (
  K (.bool false) h11)) else (
  K (.bool false) h11)) else (
  K (.bool false) h11)) else (
  K (.bool false) h11)) else (
  bif (n10 != 0) then (
  K (.bool false) h11) else (
  bif (decide (n9 < 0)) then (
  K (.bool false) h11) else (
  bif (decide (n9 > 96)) then (
  K (.bool false) h11) else (
  ∃ bs3 : List UInt8, StrAt h11 sA1 sL1 bs3 ∧
  C.adisk_Disk_Image q1 h11 fun r9 h13 =>
  ∃ (sA3 : Option Addr) (sL3 : Nat) (sC3 : Nat), r9 = .slice sA3 sL3 sC3 ∧
  StrAt h13 sA1 sL1 (ByteArray.toList (mkStr bs3)) ∧
  ∃ bs4 : List UInt8, StrAt h13 sA3 sL3 bs4 ∧
  bif (!((mkStr bs4).toList == (mkStr bs3).toList)) then (
  K (.bool false) h13) else (
  bolelaw05_WalHostile.k3 h3 n2 q1 sA1 sL1 n9 n11 n12 h13 K))))))
def bolelaw05_WalHostile.k1 (h3 : Heap) (n2 : Int) (h7 : Heap) (q1 : Option Addr) (K : Value → Heap → Prop) : Prop :=
  C.wal_Behind q1 h7 fun r4 h8 =>
  ∃ (sA1 : Option Addr) (sL1 : Nat) (sC1 : Nat) (n6 : Int), r4 = .tuple #[.slice sA1 sL1 sC1, .int .i64 n6] ∧
  C.adisk_Disk_Steps q1 h8 fun r5 h9 =>
  ∃ (n7 : Int) (n8 : Int), r5 = .tuple #[.int .i64 n7, .int .i64 n8] ∧
  bif (n7 != 0) then (
  K (.bool false) h9) else (
  bif (n8 != 0) then (
  K (.bool false) h9) else (
  bolelaw05_WalHostile.k2 h3 n2 q1 sA1 sL1 n6 h9 K))
def bolelaw05_WalHostile (headA1 : Option Addr) (headL1 : Nat) (headC1 : Nat) (dataA1 : Option Addr) (dataL1 : Nat) (dataC1 : Nat) (n1 : Int) (K : Value → Heap → Prop) (h1 : Heap) : Prop :=
  C.bolelaw05_fixed  h1 fun r1 h2 =>
  ∃ (b1 : Bool), r1 = .bool b1 ∧
  bif (!b1) then (
  K (.bool false) h2) else (
  C.bolelaw05_mod n1 60 h2 fun r2 h3 =>
  ∃ (n2 : Int), r2 = .int .i64 n2 ∧
  (0 ≤ (IntKind.wrap .i64 (512 * (IntKind.wrap .i64 (90 + n2)))) ∧ (IntKind.wrap .i64 (512 * (IntKind.wrap .i64 (90 + n2)))) ≤ (IntKind.wrap .i64 (512 * (IntKind.wrap .i64 (90 + n2)))) ∧ (1 : Int) * (IntKind.wrap .i64 (512 * (IntKind.wrap .i64 (90 + n2)))) ≤ 281474976710656 ∧ (IntKind.wrap .i64 (512 * (IntKind.wrap .i64 (90 + n2)))) ≤ 281474976710656) ∧
  New (repCells z5 (Int.toNat (IntKind.wrap .i64 (512 * (IntKind.wrap .i64 (90 + n2)))))) 5 h3 fun h4 =>
  (0 ≤ (512 : Int) ∧ (512 : Int) ≤ (1024 : Int) ∧ (1024 : Int) ≤ ((Int.toNat (IntKind.wrap .i64 (512 * (IntKind.wrap .i64 (90 + n2))))) : Int)) ∧
  CopyP ti5 (if (Int.toNat (IntKind.wrap .i64 (512 * (IntKind.wrap .i64 (90 + n2))))) = (Int.toNat 512) then (some ⟨h3.size, 0, none⟩) else Option.map (Addr.add · (Int.toNat 512)) (some ⟨h3.size, 0, none⟩)) ((Int.toNat 1024) - (Int.toNat 512)) (.slice headA1 headL1 headC1) h4 fun n3 h5 =>
  (0 ≤ (1024 : Int) ∧ 1024 ≤ ((Int.toNat (IntKind.wrap .i64 (512 * (IntKind.wrap .i64 (90 + n2))))) : Int)) ∧
  CopyP ti5 (if (Int.toNat (IntKind.wrap .i64 (512 * (IntKind.wrap .i64 (90 + n2))))) = (Int.toNat 1024) then (some ⟨h3.size, 0, none⟩) else Option.map (Addr.add · (Int.toNat 1024)) (some ⟨h3.size, 0, none⟩)) ((Int.toNat (IntKind.wrap .i64 (512 * (IntKind.wrap .i64 (90 + n2))))) - (Int.toNat 1024)) (.slice dataA1 dataL1 dataC1) h5 fun n4 h6 =>
  C.adisk_Open (some ⟨h3.size, 0, none⟩) (Int.toNat (IntKind.wrap .i64 (512 * (IntKind.wrap .i64 (90 + n2))))) (Int.toNat (IntKind.wrap .i64 (512 * (IntKind.wrap .i64 (90 + n2))))) h6 fun r3 h7 =>
  ∃ (q1 : Option Addr) (n5 : Int), r3 = .tuple #[.pointer q1, .int .i64 n5] ∧
  bif (n5 != 0) then (
  K (.bool false) h7) else (
  bif (Option.isNone q1) then (
  K (.bool false) h7) else (
  bolelaw05_WalHostile.k1 h3 n2 h7 q1 K)))
def bolelaw05_WalHostile.lo : Nat → List Nat × List (Nat × Ty) := fun n => match n with | 26 => ([7, 13, 14, 15, 17], [(18, .int .i64)]) | _ => ([], [])
def bolelaw05_WalHostile.od : Nat → Od := fun n => match n with | 19 => (.op 0 [] (.op 1 [] (.op 2 [] (.op 3 [] (.op 4 [] (.op 5 [] (.op 6 [] (.op 7 [] (.op 8 [] (.op 9 [] (.op 10 [] (.op 11 [] (.op 12 [] (.op 13 [] (.op 14 [] (.op 15 [] (.op 16 [] (.op 17 [] (.op 18 [] (.op 19 [] (.op 20 [] (.op 23 [] (.op 24 [] (.op 21 [24] (.op 22 [] (.op 25 [] (.op 26 [] (.op 27 [] .nil)))))))))))))))))))))))))))) | 20 => (.op 0 [] (.op 1 [] (.op 2 [] (.op 3 [] (.op 4 [] (.op 5 [] (.op 6 [] (.op 7 [] (.op 8 [] (.op 9 [] (.op 10 [] (.op 11 [] (.op 14 [] (.op 15 [] (.op 12 [15] (.op 13 [] (.op 16 [] (.op 17 [] .nil)))))))))))))))))) | _ => .nil
theorem bolelaw05_WalHostile.eq (headA1 : Option Addr) (headL1 : Nat) (headC1 : Nat) (dataA1 : Option Addr) (dataL1 : Nat) (dataC1 : Nat) (n1 : Int) (K : Value → Heap → Prop) (h : Heap) : fnX (cx bolelaw05_WalHostile.lo bolelaw05_WalHostile.od) Tryd.f4 (Tryd.f4.body.getD .skip) [.slice headA1 headL1 headC1, .slice dataA1 dataL1 dataC1, .int .i64 n1] K h = bolelaw05_WalHostile headA1 headL1 headC1 dataA1 dataL1 dataC1 n1 K h := by kernel_rfl
theorem bolelaw05_WalHostile.chk : fnOk (cx bolelaw05_WalHostile.lo bolelaw05_WalHostile.od) Tryd.f4 (Tryd.f4.body.getD .skip) 3 = true := by kernel_rfl
theorem bolelaw05_WalHostile.ok {headA1 : Option Addr} {headL1 : Nat} {headC1 : Nat} {dataA1 : Option Addr} {dataL1 : Nat} {dataC1 : Nat} {n1 : Int} {K : Value → Heap → Prop} {h : Heap} (hx : bolelaw05_WalHostile headA1 headL1 headC1 dataA1 dataL1 dataC1 n1 K h) : C.bolelaw05_WalHostile headA1 headL1 headC1 dataA1 dataL1 dataC1 n1 h K :=
  fn_to (cxOk _ _) Tryd.func4 (by kernel_rfl) bolelaw05_WalHostile.chk (by rw [bolelaw05_WalHostile.eq]; exact hx)

-- 5
def bolelaw05_WalAtomic.k6 (againA1 : Option Addr) (againL1 : Nat) (d1 : Option Addr) (i1 : Int) (h13 : Heap) (I1 : Option Addr → Int → Heap → Prop) (M1 : Option Addr → Int → Heap → Nat) (q2 : Option Addr) (h18 : Heap) (K : Value → Heap → Prop) : Prop :=
  bif (decide (i1 < (againL1 : Int))) then (
  bif (decide (i1 < 5)) then (
  (0 ≤ i1 ∧ i1 < (againL1 : Int)) ∧
  onSome againA1 fun p1 =>
  ∃ cs2 : List Value, List.length cs2 = 2 ∧ Cells h18 (Addr.add p1 ((Int.toNat i1) * 2)) cs2 ∧
  C.adisk_Disk_Arm q2 cs2 h18 fun r13 h19 =>
  ∃ (n8 : Int), r13 = .int .i64 n8 ∧
  C.wal_Recover q2 h19 fun r14 h20 =>
  ∃ (n9 : Int) (n10 : Int), r14 = .tuple #[.int .i64 n9, .int .i64 n10] ∧
  bif (n8 != 0) then (
  K (.bool false) h20) else (
  C.adisk_Disk_Down q2 h20 fun r15 h21 =>
  ∃ (b5 : Bool), r15 = .bool b5 ∧
  bif (!((n10 == 30) == b5)) then (
  K (.bool false) h21) else (
  bif (n10 != 0) then (
  bif (n10 != 30) then (
  K (.bool false) h21) else (
  I1 q2 (IntKind.wrap .i64 (i1 + 1)) h21 ∧ M1 q2 (IntKind.wrap .i64 (i1 + 1)) h21 < M1 d1 i1 h13)) else (
  I1 q2 (IntKind.wrap .i64 (i1 + 1)) h21 ∧ M1 q2 (IntKind.wrap .i64 (i1 + 1)) h21 < M1 d1 i1 h13)))) else (
  I1 q2 (IntKind.wrap .i64 (i1 + 1)) h18 ∧ M1 q2 (IntKind.wrap .i64 (i1 + 1)) h18 < M1 d1 i1 h13)) else (
  I1 q2 (IntKind.wrap .i64 (i1 + 1)) h18 ∧ M1 q2 (IntKind.wrap .i64 (i1 + 1)) h18 < M1 d1 i1 h13)
def bolelaw05_WalAtomic.k5 (againA1 : Option Addr) (againL1 : Nat) (wantA1 : Option Addr) (wantL1 : Nat) (wantC1 : Nat) (d1 : Option Addr) (i1 : Int) (h13 : Heap) (I1 : Option Addr → Int → Heap → Prop) (M1 : Option Addr → Int → Heap → Nat) (h15 : Heap) (q2 : Option Addr) (K : Value → Heap → Prop) : Prop :=
  C.wal_Behind q2 h15 fun r11 h16 =>
  ∃ (sA7 : Option Addr) (sL7 : Nat) (sC7 : Nat) (n7 : Int), r11 = .tuple #[.slice sA7 sL7 sC7, .int .i64 n7] ∧
  bif (n7 != 0) then (
  K (.bool false) h16) else (
  C.bolelaw05_sameBut sA7 sL7 sC7 wantA1 wantL1 wantC1 h16 fun r12 h17 =>
  ∃ (b4 : Bool), r12 = .bool b4 ∧
  bif (!b4) then (
  K (.bool false) h17) else (
  bolelaw05_WalAtomic.k6 againA1 againL1 d1 i1 h13 I1 M1 q2 h17 K))
def bolelaw05_WalAtomic.k4 (againA1 : Option Addr) (againL1 : Nat) (wantA1 : Option Addr) (wantL1 : Nat) (wantC1 : Nat) (d1 : Option Addr) (i1 : Int) (h13 : Heap) (I1 : Option Addr → Int → Heap → Prop) (M1 : Option Addr → Int → Heap → Nat) (K : Value → Heap → Prop) : Prop :=
  C.adisk_Disk_Image d1 h13 fun r9 h14 =>
  ∃ (sA6 : Option Addr) (sL6 : Nat) (sC6 : Nat), r9 = .slice sA6 sL6 sC6 ∧
  C.adisk_Open sA6 sL6 sC6 h14 fun r10 h15 =>
  ∃ (q2 : Option Addr) (n6 : Int), r10 = .tuple #[.pointer q2, .int .i64 n6] ∧
  bif (n6 != 0) then (
  K (.bool false) h15) else (
  bif (Option.isNone q2) then (
  K (.bool false) h15) else (
  bolelaw05_WalAtomic.k5 againA1 againL1 wantA1 wantL1 wantC1 d1 i1 h13 I1 M1 h15 q2 K))
def bolelaw05_WalAtomic.k8 (wantA1 : Option Addr) (wantL1 : Nat) (wantC1 : Nat) (h24 : Heap) (q3 : Option Addr) (K : Value → Heap → Prop) : Prop :=
  C.wal_Recover q3 h24 fun r18 h25 =>
  ∃ (n12 : Int) (n13 : Int), r18 = .tuple #[.int .i64 n12, .int .i64 n13] ∧
  C.adisk_Disk_Steps q3 h25 fun r19 h26 =>
  ∃ (n14 : Int) (n15 : Int), r19 = .tuple #[.int .i64 n14, .int .i64 n15] ∧
  C.wal_Recover q3 h26 fun r20 h27 =>
  ∃ (n16 : Int) (n17 : Int), r20 = .tuple #[.int .i64 n16, .int .i64 n17] ∧
  C.adisk_Disk_Steps q3 h27 fun r21 h28 =>
  ∃ (n18 : Int) (n19 : Int), r21 = .tuple #[.int .i64 n18, .int .i64 n19] ∧
  bif (n13 == 0) then (
  bif (n17 == 0) then (
  bif (n16 == 0) then (
  bif (n14 == n18) then (
  bif (n15 == n19) then (
  C.adisk_Disk_Pending q3 h28 fun r22 h29 =>
  ∃ (sA9 : Option Addr) (sL9 : Nat) (sC9 : Nat), r22 = .slice sA9 sL9 sC9 ∧
  bif ((sL9 : Int) == 0) then (
  C.adisk_Disk_Image q3 h29 fun r23 h30 =>
  ∃ (sA10 : Option Addr) (sL10 : Nat) (sC10 : Nat), r23 = .slice sA10 sL10 sC10 ∧
  C.bolelaw05_sameBut sA10 sL10 sC10 wantA1 wantL1 wantC1 h30 fun r24 h31 =>
  ∃ (b6 : Bool), r24 = .bool b6 ∧
  K (.bool b6) h31) else (
  K (.bool false) h29)) else (
  K (.bool false) h28)) else (
  K (.bool false) h28)) else (
  K (.bool false) h28)) else (
  K (.bool false) h28)) else (
  K (.bool false) h28)
def bolelaw05_WalAtomic.k7 (wantA1 : Option Addr) (wantL1 : Nat) (wantC1 : Nat) (d2 : Option Addr) (h22 : Heap) (K : Value → Heap → Prop) : Prop :=
  C.adisk_Disk_Image d2 h22 fun r16 h23 =>
  ∃ (sA8 : Option Addr) (sL8 : Nat) (sC8 : Nat), r16 = .slice sA8 sL8 sC8 ∧
  C.adisk_Open sA8 sL8 sC8 h23 fun r17 h24 =>
  ∃ (q3 : Option Addr) (n11 : Int), r17 = .tuple #[.pointer q3, .int .i64 n11] ∧
  bif (n11 != 0) then (
  K (.bool false) h24) else (
  bif (Option.isNone q3) then (
  K (.bool false) h24) else (
  bolelaw05_WalAtomic.k8 wantA1 wantL1 wantC1 h24 q3 K))
def bolelaw05_WalAtomic.k3 (againA1 : Option Addr) (againL1 : Nat) (q1 : Option Addr) (h12 : Heap) (wantA1 : Option Addr) (wantL1 : Nat) (wantC1 : Nat) (K : Value → Heap → Prop) : Prop :=
  ∃ (I1 : Option Addr → Int → Heap → Prop) (M1 : Option Addr → Int → Heap → Nat), I1 q1 0 h12 ∧
  ∀ (d1 : Option Addr) (i1 : Int), ∀ h13 : Heap, I1 d1 i1 h13 →
  bif (decide (i1 ≤ (againL1 : Int))) then (
  bif (decide (i1 < 6)) then (
  bolelaw05_WalAtomic.k4 againA1 againL1 wantA1 wantL1 wantC1 d1 i1 h13 I1 M1 K) else (
  bolelaw05_WalAtomic.k7 wantA1 wantL1 wantC1 d1 h13 K)) else (
  bolelaw05_WalAtomic.k7 wantA1 wantL1 wantC1 d1 h13 K)
def bolelaw05_WalAtomic.k2 (againA1 : Option Addr) (againL1 : Nat) (h2 : Heap) (q1 : Option Addr) (sA2 : Option Addr) (sL2 : Nat) (sC2 : Nat) (sL4 : Nat) (sA5 : Option Addr) (sL5 : Nat) (sC5 : Nat) (falls1 : Bool) (h12 : Heap) (K : Value → Heap → Prop) : Prop :=
  bif falls1 then (
  ∃ (n5 : Int), cellOf h12 (Addr.add ⟨h2.size, 0, none⟩ 0) = some (.int .i64 n5) ∧
  bif (decide (n5 < (IntKind.wrap .i64 ((sL4 : Int) + 2)))) then (
  bolelaw05_WalAtomic.k3 againA1 againL1 q1 h12 sA2 sL2 sC2 K) else (
  ∃ (n20 : Int), cellOf h12 (Addr.add ⟨h2.size, 0, none⟩ 0) = some (.int .i64 n20) ∧
  bif (decide (n20 < (IntKind.wrap .i64 ((sL4 : Int) + 4)))) then (
  ∃ (sA11 : Option Addr) (sL11 : Nat) (sC11 : Nat), cellOf h12 (Addr.add ⟨h2.size, 0, none⟩ 1) = some (.slice sA11 sL11 sC11) ∧
  bif ((sL11 : Int) == 0) then (
  bolelaw05_WalAtomic.k3 againA1 againL1 q1 h12 sA2 sL2 sC2 K) else (
  ∃ (sA12 : Option Addr) (sL12 : Nat) (sC12 : Nat), cellOf h12 (Addr.add ⟨h2.size, 0, none⟩ 1) = some (.slice sA12 sL12 sC12) ∧
  (0 ≤ (0 : Int) ∧ 0 < (sL12 : Int)) ∧
  onSome sA12 fun p2 =>
  ∃ (b7 : Bool), cellOf h12 (Addr.add p2 (Int.toNat 0)) = some (.bool b7) ∧
  bif (!b7) then (
  bolelaw05_WalAtomic.k3 againA1 againL1 q1 h12 sA2 sL2 sC2 K) else (
  bolelaw05_WalAtomic.k3 againA1 againL1 q1 h12 sA5 sL5 sC5 K))) else (
  bolelaw05_WalAtomic.k3 againA1 againL1 q1 h12 sA5 sL5 sC5 K))) else (
  bolelaw05_WalAtomic.k3 againA1 againL1 q1 h12 sA5 sL5 sC5 K)
def bolelaw05_WalAtomic.k1 (againA1 : Option Addr) (againL1 : Nat) (h2 : Heap) (q1 : Option Addr) (sA2 : Option Addr) (sL2 : Nat) (sC2 : Nat) (sL4 : Nat) (sA5 : Option Addr) (sL5 : Nat) (sC5 : Nat) (n1 : Int) (h10 : Heap) (n2 : Int) (falls1 : Bool) (K : Value → Heap → Prop) : Prop :=
  bif (n1 != 0) then (
  K (.bool false) h10) else (
  C.adisk_Disk_Down q1 h10 fun r8 h11 =>
  ∃ (b3 : Bool), r8 = .bool b3 ∧
  bif (!(b3 == falls1)) then (
  K (.bool false) h11) else (
  bif (!((n2 == 30) == falls1)) then (
  K (.bool false) h11) else (
  bif (n2 != 0) then (
  bif (n2 != 30) then (
  K (.bool false) h11) else (
  bolelaw05_WalAtomic.k2 againA1 againL1 h2 q1 sA2 sL2 sC2 sL4 sA5 sL5 sC5 falls1 h11 K)) else (
  bolelaw05_WalAtomic.k2 againA1 againL1 h2 q1 sA2 sL2 sC2 sL4 sA5 sL5 sC5 falls1 h11 K))))
def bolelaw05_WalAtomic (puts1 : List Value) (cut1 : List Value) (againA1 : Option Addr) (againL1 : Nat) (againC1 : Nat) (K : Value → Heap → Prop) (h1 : Heap) : Prop :=
  New puts1 54 h1 fun h2 =>
  New cut1 57 h2 fun h3 =>
  C.bolelaw05_fixed  h3 fun r1 h4 =>
  ∃ (b1 : Bool), r1 = .bool b1 ∧
  bif (!b1) then (
  K (.bool false) h4) else (
  (0 ≤ (0 : Int) ∧ 0 < (2 : Int)) ∧
  ∃ (sA1 : Option Addr) (sL1 : Nat) (sC1 : Nat), cellOf h4 (Addr.add ⟨h1.size, 0, none⟩ (Int.toNat 0)) = some (.slice sA1 sL1 sC1) ∧
  C.bolelaw05_begun sA1 sL1 sC1 h4 fun r2 h5 =>
  ∃ (q1 : Option Addr) (b2 : Bool), r2 = .tuple #[.pointer q1, .bool b2] ∧
  bif (!b2) then (
  K (.bool false) h5) else (
  C.adisk_Disk_Image q1 h5 fun r3 h6 =>
  ∃ (sA2 : Option Addr) (sL2 : Nat) (sC2 : Nat), r3 = .slice sA2 sL2 sC2 ∧
  (0 ≤ (1 : Int) ∧ 1 < (2 : Int)) ∧
  ∃ (sA3 : Option Addr) (sL3 : Nat) (sC3 : Nat), cellOf h6 (Addr.add ⟨h1.size, 0, none⟩ (Int.toNat 1)) = some (.slice sA3 sL3 sC3) ∧
  C.bolelaw05_rows sA3 sL3 sC3 h6 fun r4 h7 =>
  ∃ (sA4 : Option Addr) (sL4 : Nat) (sC4 : Nat), r4 = .slice sA4 sL4 sC4 ∧
  C.bolelaw05_laid sA2 sL2 sC2 sA4 sL4 sC4 h7 fun r5 h8 =>
  ∃ (sA5 : Option Addr) (sL5 : Nat) (sC5 : Nat), r5 = .slice sA5 sL5 sC5 ∧
  ∃ cs1 : List Value, List.length cs1 = 2 ∧ Cells h8 ⟨h2.size, 0, none⟩ cs1 ∧
  C.adisk_Disk_Arm q1 cs1 h8 fun r6 h9 =>
  ∃ (n1 : Int), r6 = .int .i64 n1 ∧
  C.wal_Commit q1 sA4 sL4 sC4 h9 fun r7 h10 =>
  ∃ (n2 : Int), r7 = .int .i64 n2 ∧
  bif (decide ((sL4 : Int) > 0)) then (
  ∃ (n3 : Int), cellOf h10 (Addr.add ⟨h2.size, 0, none⟩ 0) = some (.int .i64 n3) ∧
  bif (decide (n3 ≥ 1)) then (
  ∃ (n4 : Int), cellOf h10 (Addr.add ⟨h2.size, 0, none⟩ 0) = some (.int .i64 n4) ∧
  bolelaw05_WalAtomic.k1 againA1 againL1 h2 q1 sA2 sL2 sC2 sL4 sA5 sL5 sC5 n1 h10 n2 (decide (n4 ≤ (IntKind.wrap .i64 ((IntKind.wrap .i64 (2 * (sL4 : Int))) + 6)))) K) else (
  bolelaw05_WalAtomic.k1 againA1 againL1 h2 q1 sA2 sL2 sC2 sL4 sA5 sL5 sC5 n1 h10 n2 false K)) else (
  bolelaw05_WalAtomic.k1 againA1 againL1 h2 q1 sA2 sL2 sC2 sL4 sA5 sL5 sC5 n1 h10 n2 false K)))
def bolelaw05_WalAtomic.lo : Nat → List Nat × List (Nat × Ty) := fun n => match n with | 19 => ([2, 16], [(7, .ptr), (17, .int .i64)]) | _ => ([], [])
def bolelaw05_WalAtomic.od : Nat → Od := fun n => match n with | _ => .nil
theorem bolelaw05_WalAtomic.eq (puts1 : List Value) (cut1 : List Value) (againA1 : Option Addr) (againL1 : Nat) (againC1 : Nat) (K : Value → Heap → Prop) (h : Heap) : fnX (cx bolelaw05_WalAtomic.lo bolelaw05_WalAtomic.od) Tryd.f5 (Tryd.f5.body.getD .skip) [.agg ⟨puts1⟩, .agg ⟨cut1⟩, .slice againA1 againL1 againC1] K h = bolelaw05_WalAtomic puts1 cut1 againA1 againL1 againC1 K h := by kernel_rfl
theorem bolelaw05_WalAtomic.chk : fnOk (cx bolelaw05_WalAtomic.lo bolelaw05_WalAtomic.od) Tryd.f5 (Tryd.f5.body.getD .skip) 3 = true := by kernel_rfl
theorem bolelaw05_WalAtomic.ok {puts1 : List Value} {cut1 : List Value} {againA1 : Option Addr} {againL1 : Nat} {againC1 : Nat} {K : Value → Heap → Prop} {h : Heap} (hx : bolelaw05_WalAtomic puts1 cut1 againA1 againL1 againC1 K h) : C.bolelaw05_WalAtomic puts1 cut1 againA1 againL1 againC1 h K :=
  fn_to (cxOk _ _) Tryd.func5 (by kernel_rfl) bolelaw05_WalAtomic.chk (by rw [bolelaw05_WalAtomic.eq]; exact hx)

-- 6
def bolelaw06_TxnReads.k3 (h9 : Heap) (lA1 : Option Addr) (lL1 : Nat) (lC1 : Nat) (i1 : Int) (h13 : Heap) (I1 : Option Addr → Nat → Nat → Int → Heap → Prop) (M1 : Option Addr → Nat → Nat → Int → Heap → Nat) (h18 : Heap) (K : Value → Heap → Prop) : Prop :=
  (0 ≤ i1 ∧ i1 < (118 : Int)) ∧
  ∃ (b4 : Bool), cellOf h18 (Addr.add ⟨h9.size, 0, none⟩ (Int.toNat i1)) = some (.bool b4) ∧
  bif b4 then (
  New [.int .i64 i1] 3 h18 fun h19 =>
  ∃ new1 : List Value, List.length new1 = 1 * 1 ∧ SlCells h19 (some ⟨h18.size, 0, none⟩) new1 ∧ (∀ v ∈ new1, v.oneCell' = true) ∧
  AppendP ti3 3 lA1 lL1 lC1 1 new1 h19 fun sA5 sL5 sC5 h20 =>
  I1 sA5 sL5 sC5 (IntKind.wrap .i64 (i1 + 1)) h20 ∧ M1 sA5 sL5 sC5 (IntKind.wrap .i64 (i1 + 1)) h20 < M1 lA1 lL1 lC1 i1 h13) else (
  I1 lA1 lL1 lC1 (IntKind.wrap .i64 (i1 + 1)) h18 ∧ M1 lA1 lL1 lC1 (IntKind.wrap .i64 (i1 + 1)) h18 < M1 lA1 lL1 lC1 i1 h13)
def bolelaw06_TxnReads.k2 (putsA1 : Option Addr) (putsL1 : Nat) (putsC1 : Nat) (q1 : Option Addr) (q2 : Option Addr) (h7 : Heap) (K : Value → Heap → Prop) : Prop :=
  C.bolelaw06_fill q2 putsA1 putsL1 putsC1 h7 fun r5 h8 =>
  ∃ (cs1 : List Value) (cs2 : List Value) (b3 : Bool), r5 = .tuple #[.agg ⟨cs1⟩, .agg ⟨cs2⟩, .bool b3] ∧
  New z67 67 h8 fun h9 =>
  New z68 68 h9 fun h10 =>
  PutRow ⟨h8.size, 0, none⟩ cs1 118 h10 fun h11 =>
  PutRow ⟨h9.size, 0, none⟩ cs2 118 h11 fun h12 =>
  bif (!b3) then (
  K (.bool false) h12) else (
  ∃ (I1 : Option Addr → Nat → Nat → Int → Heap → Prop) (M1 : Option Addr → Nat → Nat → Int → Heap → Nat), I1 none 0 0 98 h12 ∧
  ∀ (lA1 : Option Addr) (lL1 : Nat) (lC1 : Nat) (i1 : Int), ∀ h13 : Heap, I1 lA1 lL1 lC1 i1 h13 →
  bif (decide (i1 < 118)) then (
  C.txn_Txn_Read q2 i1 h13 fun r6 h14 =>
  ∃ (sA1 : Option Addr) (sL1 : Nat) (sC1 : Nat) (n1 : Int), r6 = .tuple #[.slice sA1 sL1 sC1, .int .i64 n1] ∧
  C.adisk_Disk_Read q1 i1 h14 fun r7 h15 =>
  ∃ (sA2 : Option Addr) (sL2 : Nat) (sC2 : Nat) (n2 : Int), r7 = .tuple #[.slice sA2 sL2 sC2, .int .i64 n2] ∧
  bif (n1 != 0) then (
  K (.bool false) h15) else (
  bif (n2 != 0) then (
  K (.bool false) h15) else (
  ∃ bs1 : List UInt8, StrAt h15 sA1 sL1 bs1 ∧
  (0 ≤ i1 ∧ i1 < (118 : Int)) ∧
  ∃ (n3 : Int), cellOf h15 (Addr.add ⟨h8.size, 0, none⟩ (Int.toNat i1)) = some (.int .u8 n3) ∧
  C.bolelaw06_block n3 h15 fun r8 h16 =>
  ∃ (sA3 : Option Addr) (sL3 : Nat) (sC3 : Nat), r8 = .slice sA3 sL3 sC3 ∧
  StrAt h16 sA1 sL1 (ByteArray.toList (mkStr bs1)) ∧
  ∃ bs2 : List UInt8, StrAt h16 sA3 sL3 bs2 ∧
  bif (!((mkStr bs1).toList == (mkStr bs2).toList)) then (
  K (.bool false) h16) else (
  ∃ bs3 : List UInt8, StrAt h16 sA2 sL2 bs3 ∧
  C.bolelaw06_block (IntKind.wrap .u8 (i1)) h16 fun r9 h17 =>
  ∃ (sA4 : Option Addr) (sL4 : Nat) (sC4 : Nat), r9 = .slice sA4 sL4 sC4 ∧
  StrAt h17 sA2 sL2 (ByteArray.toList (mkStr bs3)) ∧
  ∃ bs4 : List UInt8, StrAt h17 sA4 sL4 bs4 ∧
  bif (!((mkStr bs3).toList == (mkStr bs4).toList)) then (
  K (.bool false) h17) else (
  bolelaw06_TxnReads.k3 h9 lA1 lL1 lC1 i1 h13 I1 M1 h17 K))))) else (
  C.txn_Txn_Written q2 h13 fun r10 h21 =>
  ∃ (sA6 : Option Addr) (sL6 : Nat) (sC6 : Nat), r10 = .slice sA6 sL6 sC6 ∧
  C.bolelaw06_sameInts sA6 sL6 sC6 lA1 lL1 lC1 h21 fun r11 h22 =>
  ∃ (b5 : Bool), r11 = .bool b5 ∧
  bif (!b5) then (
  K (.bool false) h22) else (
  C.txn_Txn_Abort q2 h22 fun r12 h23 =>
  r12 = .tuple #[] ∧
  C.txn_Txn_Read q2 98 h23 fun r13 h24 =>
  ∃ (sA7 : Option Addr) (sL7 : Nat) (sC7 : Nat) (n4 : Int), r13 = .tuple #[.slice sA7 sL7 sC7, .int .i64 n4] ∧
  C.adisk_Disk_Steps q1 h24 fun r14 h25 =>
  ∃ (n5 : Int) (n6 : Int), r14 = .tuple #[.int .i64 n5, .int .i64 n6] ∧
  C.txn_Txn_Over q2 h25 fun r15 h26 =>
  ∃ (b6 : Bool), r15 = .bool b6 ∧
  bif b6 then (
  bif (n4 == 61) then (
  C.txn_Txn_Written q2 h26 fun r16 h27 =>
  ∃ (sA8 : Option Addr) (sL8 : Nat) (sC8 : Nat), r16 = .slice sA8 sL8 sC8 ∧
  bif ((sL8 : Int) == 0) then (
  bif (n5 == 0) then (
  K (.bool (n6 == 0)) h27) else (
  K (.bool false) h27)) else (
  K (.bool false) h27)) else (
  K (.bool false) h26)) else (
  K (.bool false) h26))))
def bolelaw06_TxnReads.k1 (putsA1 : Option Addr) (putsL1 : Nat) (putsC1 : Nat) (q1 : Option Addr) (h4 : Heap) (K : Value → Heap → Prop) : Prop :=
  C.txn_Begin q1 h4 fun r3 h5 =>
  ∃ (q2 : Option Addr), r3 = .pointer q2 ∧
  bif (Option.isNone q2) then (
  K (.bool false) h5) else (
  C.txn_Txn_Over q2 h5 fun r4 h6 =>
  ∃ (b2 : Bool), r4 = .bool b2 ∧
  bif b2 then (
  K (.bool false) h6) else (
  bolelaw06_TxnReads.k2 putsA1 putsL1 putsC1 q1 q2 h6 K))
def bolelaw06_TxnReads (putsA1 : Option Addr) (putsL1 : Nat) (putsC1 : Nat) (K : Value → Heap → Prop) (h1 : Heap) : Prop :=
  C.bolelaw06_fresh 118 h1 fun r1 h2 =>
  ∃ (q1 : Option Addr), r1 = .pointer q1 ∧
  bif (Option.isNone q1) then (
  K (.bool false) h2) else (
  C.bolelaw06_known  h2 fun r2 h3 =>
  ∃ (b1 : Bool), r2 = .bool b1 ∧
  bif (!b1) then (
  K (.bool false) h3) else (
  bolelaw06_TxnReads.k1 putsA1 putsL1 putsC1 q1 h3 K))
def bolelaw06_TxnReads.lo : Nat → List Nat × List (Nat × Ty) := fun n => match n with | 12 => ([3, 4, 5, 6], [(8, .slice), (9, .int .i64)]) | _ => ([], [])
def bolelaw06_TxnReads.od : Nat → Od := fun n => match n with | 16 => (.op 0 [] (.op 1 [] (.op 2 [] (.op 3 [] (.op 4 [] (.op 5 [] (.op 6 [] (.op 7 [] (.op 8 [] (.op 9 [] (.op 10 [] (.op 11 [] (.op 12 [8] (.op 13 [] (.op 14 [] (.op 15 [] (.op 16 [] (.op 17 [] (.op 18 [] (.op 19 [] (.op 20 [] (.op 21 [18] (.op 22 [] (.op 23 [] (.op 24 [] .nil))))))))))))))))))))))))) | _ => .nil
theorem bolelaw06_TxnReads.eq (putsA1 : Option Addr) (putsL1 : Nat) (putsC1 : Nat) (K : Value → Heap → Prop) (h : Heap) : fnX (cx bolelaw06_TxnReads.lo bolelaw06_TxnReads.od) Tryd.f6 (Tryd.f6.body.getD .skip) [.slice putsA1 putsL1 putsC1] K h = bolelaw06_TxnReads putsA1 putsL1 putsC1 K h := by kernel_rfl
theorem bolelaw06_TxnReads.chk : fnOk (cx bolelaw06_TxnReads.lo bolelaw06_TxnReads.od) Tryd.f6 (Tryd.f6.body.getD .skip) 1 = true := by kernel_rfl
theorem bolelaw06_TxnReads.ok {putsA1 : Option Addr} {putsL1 : Nat} {putsC1 : Nat} {K : Value → Heap → Prop} {h : Heap} (hx : bolelaw06_TxnReads putsA1 putsL1 putsC1 K h) : C.bolelaw06_TxnReads putsA1 putsL1 putsC1 h K :=
  fn_to (cxOk _ _) Tryd.func6 (by kernel_rfl) bolelaw06_TxnReads.chk (by rw [bolelaw06_TxnReads.eq]; exact hx)

-- 7
def bolelaw06_TxnBack.k4 (q2 : Option Addr) (h6 : Heap) (lA1 : Option Addr) (lL1 : Nat) (lC1 : Nat) (round1 : Int) (h17 : Heap) (I2 : Int → Heap → Prop) (M2 : Int → Heap → Nat) (h34 : Heap) (K : Value → Heap → Prop) : Prop :=
  C.txn_Txn_Written q2 h34 fun r18 h35 =>
  ∃ (sA2 : Option Addr) (sL2 : Nat) (sC2 : Nat), r18 = .slice sA2 sL2 sC2 ∧
  C.bolelaw06_sameInts sA2 sL2 sC2 lA1 lL1 lC1 h35 fun r19 h36 =>
  ∃ (b6 : Bool), r19 = .bool b6 ∧
  bif (!b6) then (
  K (.bool false) h36) else (
  ∃ (I3 : Int → Heap → Prop) (M3 : Int → Heap → Nat), I3 98 h36 ∧
  ∀ (i2 : Int), ∀ h37 : Heap, I3 i2 h37 →
  bif (decide (i2 < 118)) then (
  C.txn_Txn_Read q2 i2 h37 fun r20 h38 =>
  ∃ (sA3 : Option Addr) (sL3 : Nat) (sC3 : Nat) (n14 : Int), r20 = .tuple #[.slice sA3 sL3 sC3, .int .i64 n14] ∧
  bif (n14 != 0) then (
  K (.bool false) h38) else (
  ∃ bs1 : List UInt8, StrAt h38 sA3 sL3 bs1 ∧
  (0 ≤ i2 ∧ i2 < (118 : Int)) ∧
  ∃ (n15 : Int), cellOf h38 (Addr.add ⟨h6.size, 0, none⟩ (Int.toNat i2)) = some (.int .u8 n15) ∧
  C.bolelaw06_block n15 h38 fun r21 h39 =>
  ∃ (sA4 : Option Addr) (sL4 : Nat) (sC4 : Nat), r21 = .slice sA4 sL4 sC4 ∧
  StrAt h39 sA3 sL3 (ByteArray.toList (mkStr bs1)) ∧
  ∃ bs2 : List UInt8, StrAt h39 sA4 sL4 bs2 ∧
  bif (!((mkStr bs1).toList == (mkStr bs2).toList)) then (
  K (.bool false) h39) else (
  I3 (IntKind.wrap .i64 (i2 + 1)) h39 ∧ M3 (IntKind.wrap .i64 (i2 + 1)) h39 < M3 i2 h37))) else (
  I2 (IntKind.wrap .i64 (round1 + 1)) h37 ∧ M2 (IntKind.wrap .i64 (round1 + 1)) h37 < M2 round1 h17))
def bolelaw06_TxnBack.k3 (thirdA1 : Option Addr) (thirdL1 : Nat) (thirdC1 : Nat) (q2 : Option Addr) (h6 : Heap) (n1 : Int) (lA1 : Option Addr) (lL1 : Nat) (lC1 : Nat) (round1 : Int) (h17 : Heap) (I2 : Int → Heap → Prop) (M2 : Int → Heap → Nat) (n4 : Int) (h25 : Heap) (K : Value → Heap → Prop) : Prop :=
  C.bolelaw06_fill q2 thirdA1 thirdL1 thirdC1 h25 fun r10 h26 =>
  ∃ (cs5 : List Value) (cs6 : List Value) (b5 : Bool), r10 = .tuple #[.agg ⟨cs5⟩, .agg ⟨cs6⟩, .bool b5] ∧
  bif (!b5) then (
  K (.bool false) h26) else (
  C.bolelaw06_taken thirdA1 thirdL1 thirdC1 h26 fun r11 h27 =>
  ∃ (n7 : Int), r11 = .int .i64 n7 ∧
  C.txn_Txn_Back q2 (IntKind.wrap .i64 ((IntKind.wrap .i64 (n4 + n7)) + 1)) h27 fun r12 h28 =>
  ∃ (n8 : Int), r12 = .int .i64 n8 ∧
  bif (n8 != 62) then (
  K (.bool false) h28) else (
  C.txn_Txn_Back q2 n4 h28 fun r13 h29 =>
  ∃ (n9 : Int), r13 = .int .i64 n9 ∧
  bif (n9 != 0) then (
  K (.bool false) h29) else (
  C.txn_Txn_Back q2 (IntKind.wrap .i64 (n4 + 1)) h29 fun r14 h30 =>
  ∃ (n10 : Int), r14 = .int .i64 n10 ∧
  bif (n10 != 62) then (
  K (.bool false) h30) else (
  C.txn_Txn_Back q2 n1 h30 fun r15 h31 =>
  ∃ (n11 : Int), r15 = .int .i64 n11 ∧
  bif (n11 != 0) then (
  K (.bool false) h31) else (
  C.txn_Txn_Back q2 (IntKind.wrap .i64 (n1 + 1)) h31 fun r16 h32 =>
  ∃ (n12 : Int), r16 = .int .i64 n12 ∧
  bif (n12 != 62) then (
  K (.bool false) h32) else (
  C.txn_Txn_Back q2 (-1) h32 fun r17 h33 =>
  ∃ (n13 : Int), r17 = .int .i64 n13 ∧
  bif (n13 != 62) then (
  K (.bool false) h33) else (
  bolelaw06_TxnBack.k4 q2 h6 lA1 lL1 lC1 round1 h17 I2 M2 h33 K)))))))
def bolelaw06_TxnBack.k2 (secondA1 : Option Addr) (secondL1 : Nat) (secondC1 : Nat) (thirdA1 : Option Addr) (thirdL1 : Nat) (thirdC1 : Nat) (q1 : Option Addr) (q2 : Option Addr) (h6 : Heap) (h7 : Heap) (n1 : Int) (h13 : Heap) (K : Value → Heap → Prop) : Prop :=
  ∃ (I1 : Option Addr → Nat → Nat → Int → Heap → Prop) (M1 : Option Addr → Nat → Nat → Int → Heap → Nat), I1 none 0 0 98 h13 ∧
  ∀ (lA1 : Option Addr) (lL1 : Nat) (lC1 : Nat) (i1 : Int), ∀ h14 : Heap, I1 lA1 lL1 lC1 i1 h14 →
  bif (decide (i1 < 118)) then (
  (0 ≤ i1 ∧ i1 < (118 : Int)) ∧
  ∃ (b3 : Bool), cellOf h14 (Addr.add ⟨h7.size, 0, none⟩ (Int.toNat i1)) = some (.bool b3) ∧
  bif b3 then (
  New [.int .i64 i1] 3 h14 fun h15 =>
  ∃ new1 : List Value, List.length new1 = 1 * 1 ∧ SlCells h15 (some ⟨h14.size, 0, none⟩) new1 ∧ (∀ v ∈ new1, v.oneCell' = true) ∧
  AppendP ti3 3 lA1 lL1 lC1 1 new1 h15 fun sA1 sL1 sC1 h16 =>
  I1 sA1 sL1 sC1 (IntKind.wrap .i64 (i1 + 1)) h16 ∧ M1 sA1 sL1 sC1 (IntKind.wrap .i64 (i1 + 1)) h16 < M1 lA1 lL1 lC1 i1 h14) else (
  I1 lA1 lL1 lC1 (IntKind.wrap .i64 (i1 + 1)) h14 ∧ M1 lA1 lL1 lC1 (IntKind.wrap .i64 (i1 + 1)) h14 < M1 lA1 lL1 lC1 i1 h14)) else (
  ∃ (I2 : Int → Heap → Prop) (M2 : Int → Heap → Nat), I2 0 h14 ∧
  ∀ (round1 : Int), ∀ h17 : Heap, I2 round1 h17 →
  bif (decide (round1 < 2)) then (
  C.bolelaw06_fill q2 secondA1 secondL1 secondC1 h17 fun r7 h18 =>
  ∃ (cs3 : List Value) (cs4 : List Value) (b4 : Bool), r7 = .tuple #[.agg ⟨cs3⟩, .agg ⟨cs4⟩, .bool b4] ∧
  New z67 67 h18 fun h19 =>
  New z68 68 h19 fun h20 =>
  PutRow ⟨h18.size, 0, none⟩ cs3 118 h20 fun h21 =>
  PutRow ⟨h19.size, 0, none⟩ cs4 118 h21 fun h22 =>
  C.txn_Txn_Mark q2 h22 fun r8 h23 =>
  ∃ (n4 : Int) (n5 : Int), r8 = .tuple #[.int .i64 n4, .int .i64 n5] ∧
  bif (!b4) then (
  K (.bool false) h23) else (
  C.bolelaw06_taken secondA1 secondL1 secondC1 h23 fun r9 h24 =>
  ∃ (n6 : Int), r9 = .int .i64 n6 ∧
  bif (n4 != (IntKind.wrap .i64 (n1 + n6))) then (
  K (.bool false) h24) else (
  bif (n5 != 0) then (
  K (.bool false) h24) else (
  bolelaw06_TxnBack.k3 thirdA1 thirdL1 thirdC1 q2 h6 n1 lA1 lL1 lC1 round1 h17 I2 M2 n4 h24 K)))) else (
  C.txn_Txn_Commit q2 h17 fun r22 h40 =>
  ∃ (n16 : Int), r22 = .int .i64 n16 ∧
  bif (n16 != 0) then (
  K (.bool false) h40) else (
  ∃ (I4 : Int → Heap → Prop) (M4 : Int → Heap → Nat), I4 98 h40 ∧
  ∀ (i3 : Int), ∀ h41 : Heap, I4 i3 h41 →
  bif (decide (i3 < 118)) then (
  C.adisk_Disk_Read q1 i3 h41 fun r23 h42 =>
  ∃ (sA5 : Option Addr) (sL5 : Nat) (sC5 : Nat) (n17 : Int), r23 = .tuple #[.slice sA5 sL5 sC5, .int .i64 n17] ∧
  bif (n17 != 0) then (
  K (.bool false) h42) else (
  ∃ bs3 : List UInt8, StrAt h42 sA5 sL5 bs3 ∧
  (0 ≤ i3 ∧ i3 < (118 : Int)) ∧
  ∃ (n18 : Int), cellOf h42 (Addr.add ⟨h6.size, 0, none⟩ (Int.toNat i3)) = some (.int .u8 n18) ∧
  C.bolelaw06_block n18 h42 fun r24 h43 =>
  ∃ (sA6 : Option Addr) (sL6 : Nat) (sC6 : Nat), r24 = .slice sA6 sL6 sC6 ∧
  StrAt h43 sA5 sL5 (ByteArray.toList (mkStr bs3)) ∧
  ∃ bs4 : List UInt8, StrAt h43 sA6 sL6 bs4 ∧
  bif (!((mkStr bs3).toList == (mkStr bs4).toList)) then (
  K (.bool false) h43) else (
  I4 (IntKind.wrap .i64 (i3 + 1)) h43 ∧ M4 (IntKind.wrap .i64 (i3 + 1)) h43 < M4 i3 h41))) else (
  C.adisk_Disk_Steps q1 h41 fun r25 h44 =>
  ∃ (n19 : Int) (n20 : Int), r25 = .tuple #[.int .i64 n19, .int .i64 n20] ∧
  bif ((lL1 : Int) == 0) then (
  bif (n19 == 0) then (
  K (.bool (n20 == 0)) h44) else (
  K (.bool false) h44)) else (
  bif (n19 == (IntKind.wrap .i64 ((IntKind.wrap .i64 (2 * (lL1 : Int))) + 2))) then (
  K (.bool (n20 == 4)) h44) else (
  K (.bool false) h44))))))
def bolelaw06_TxnBack.k1 (firstA1 : Option Addr) (firstL1 : Nat) (firstC1 : Nat) (secondA1 : Option Addr) (secondL1 : Nat) (secondC1 : Nat) (thirdA1 : Option Addr) (thirdL1 : Nat) (thirdC1 : Nat) (q1 : Option Addr) (h4 : Heap) (K : Value → Heap → Prop) : Prop :=
  C.txn_Begin q1 h4 fun r3 h5 =>
  ∃ (q2 : Option Addr), r3 = .pointer q2 ∧
  bif (Option.isNone q2) then (
  K (.bool false) h5) else (
  C.bolelaw06_fill q2 firstA1 firstL1 firstC1 h5 fun r4 h6 =>
  ∃ (cs1 : List Value) (cs2 : List Value) (b2 : Bool), r4 = .tuple #[.agg ⟨cs1⟩, .agg ⟨cs2⟩, .bool b2] ∧
  New z67 67 h6 fun h7 =>
  New z68 68 h7 fun h8 =>
  PutRow ⟨h6.size, 0, none⟩ cs1 118 h8 fun h9 =>
  PutRow ⟨h7.size, 0, none⟩ cs2 118 h9 fun h10 =>
  C.txn_Txn_Mark q2 h10 fun r5 h11 =>
  ∃ (n1 : Int) (n2 : Int), r5 = .tuple #[.int .i64 n1, .int .i64 n2] ∧
  bif (!b2) then (
  K (.bool false) h11) else (
  C.bolelaw06_taken firstA1 firstL1 firstC1 h11 fun r6 h12 =>
  ∃ (n3 : Int), r6 = .int .i64 n3 ∧
  bif (n1 != n3) then (
  K (.bool false) h12) else (
  bif (n2 != 0) then (
  K (.bool false) h12) else (
  bolelaw06_TxnBack.k2 secondA1 secondL1 secondC1 thirdA1 thirdL1 thirdC1 q1 q2 h6 h7 n1 h12 K))))
def bolelaw06_TxnBack (firstA1 : Option Addr) (firstL1 : Nat) (firstC1 : Nat) (secondA1 : Option Addr) (secondL1 : Nat) (secondC1 : Nat) (thirdA1 : Option Addr) (thirdL1 : Nat) (thirdC1 : Nat) (K : Value → Heap → Prop) (h1 : Heap) : Prop :=
  C.bolelaw06_fresh 118 h1 fun r1 h2 =>
  ∃ (q1 : Option Addr), r1 = .pointer q1 ∧
  bif (Option.isNone q1) then (
  K (.bool false) h2) else (
  C.bolelaw06_known  h2 fun r2 h3 =>
  ∃ (b1 : Bool), r2 = .bool b1 ∧
  bif (!b1) then (
  K (.bool false) h3) else (
  bolelaw06_TxnBack.k1 firstA1 firstL1 firstC1 secondA1 secondL1 secondC1 thirdA1 thirdL1 thirdC1 q1 h3 K))
def bolelaw06_TxnBack.lo : Nat → List Nat × List (Nat × Ty) := fun n => match n with | 13 => ([1, 2, 7, 8, 9, 10, 12], [(14, .slice), (15, .int .i64)]) | 18 => ([1, 2, 7, 8, 9, 12, 14], [(16, .int .i64)]) | 30 => ([1, 2, 7, 8, 9, 12, 14, 16], [(22, .int .i64)]) | 38 => ([7, 9, 14], [(25, .int .i64)]) | _ => ([], [])
def bolelaw06_TxnBack.od : Nat → Od := fun n => match n with | 33 => (.op 0 [] (.op 1 [] (.op 2 [] (.op 3 [] (.op 4 [] (.op 5 [] (.op 6 [] (.op 7 [] (.op 8 [4] (.op 9 [] (.op 10 [] (.op 11 [] .nil)))))))))))) | 41 => (.op 0 [] (.op 1 [] (.op 2 [] (.op 3 [] (.op 4 [] (.op 5 [] (.op 6 [] (.op 7 [] (.op 8 [4] (.op 9 [] (.op 10 [] (.op 11 [] .nil)))))))))))) | _ => .nil
theorem bolelaw06_TxnBack.eq (firstA1 : Option Addr) (firstL1 : Nat) (firstC1 : Nat) (secondA1 : Option Addr) (secondL1 : Nat) (secondC1 : Nat) (thirdA1 : Option Addr) (thirdL1 : Nat) (thirdC1 : Nat) (K : Value → Heap → Prop) (h : Heap) : fnX (cx bolelaw06_TxnBack.lo bolelaw06_TxnBack.od) Tryd.f7 (Tryd.f7.body.getD .skip) [.slice firstA1 firstL1 firstC1, .slice secondA1 secondL1 secondC1, .slice thirdA1 thirdL1 thirdC1] K h = bolelaw06_TxnBack firstA1 firstL1 firstC1 secondA1 secondL1 secondC1 thirdA1 thirdL1 thirdC1 K h := by kernel_rfl
theorem bolelaw06_TxnBack.chk : fnOk (cx bolelaw06_TxnBack.lo bolelaw06_TxnBack.od) Tryd.f7 (Tryd.f7.body.getD .skip) 3 = true := by kernel_rfl
theorem bolelaw06_TxnBack.ok {firstA1 : Option Addr} {firstL1 : Nat} {firstC1 : Nat} {secondA1 : Option Addr} {secondL1 : Nat} {secondC1 : Nat} {thirdA1 : Option Addr} {thirdL1 : Nat} {thirdC1 : Nat} {K : Value → Heap → Prop} {h : Heap} (hx : bolelaw06_TxnBack firstA1 firstL1 firstC1 secondA1 secondL1 secondC1 thirdA1 thirdL1 thirdC1 K h) : C.bolelaw06_TxnBack firstA1 firstL1 firstC1 secondA1 secondL1 secondC1 thirdA1 thirdL1 thirdC1 h K :=
  fn_to (cxOk _ _) Tryd.func7 (by kernel_rfl) bolelaw06_TxnBack.chk (by rw [bolelaw06_TxnBack.eq]; exact hx)

-- 8
def bolelaw06_TxnLimit.k2 (x1 : Int) (q2 : Option Addr) (n1 : Int) (m1 : Int) (k1 : Int) (h7 : Heap) (I1 : Int → Int → Heap → Prop) (M1 : Int → Int → Heap → Nat) (m2 : Int) (h9 : Heap) (K : Value → Heap → Prop) : Prop :=
  C.bolelaw06_block x1 h9 fun r6 h10 =>
  ∃ (sA1 : Option Addr) (sL1 : Nat) (sC1 : Nat), r6 = .slice sA1 sL1 sC1 ∧
  C.txn_Txn_Write q2 (IntKind.wrap .i64 ((IntKind.wrap .i64 (98 + n1)) + k1)) sA1 sL1 sC1 h10 fun r7 h11 =>
  ∃ (n4 : Int), r7 = .int .i64 n4 ∧
  bif (n4 != 0) then (
  K (.bool false) h11) else (
  I1 m2 (IntKind.wrap .i64 (k1 + 1)) h11 ∧ M1 m2 (IntKind.wrap .i64 (k1 + 1)) h11 < M1 m1 k1 h7)
def bolelaw06_TxnLimit.k5 (x1 : Int) (q1 : Option Addr) (n1 : Int) (h31 : Heap) (K : Value → Heap → Prop) : Prop :=
  C.adisk_Disk_Read q1 (IntKind.wrap .i64 ((IntKind.wrap .i64 (98 + n1)) + 96)) h31 fun r24 h32 =>
  ∃ (sA10 : Option Addr) (sL10 : Nat) (sC10 : Nat) (n14 : Int), r24 = .tuple #[.slice sA10 sL10 sC10, .int .i64 n14] ∧
  C.adisk_Disk_Steps q1 h32 fun r25 h33 =>
  ∃ (n15 : Int) (n16 : Int), r25 = .tuple #[.int .i64 n15, .int .i64 n16] ∧
  bif (n14 == 0) then (
  ∃ bs3 : List UInt8, StrAt h33 sA10 sL10 bs3 ∧
  C.bolelaw06_block x1 h33 fun r26 h34 =>
  ∃ (sA11 : Option Addr) (sL11 : Nat) (sC11 : Nat), r26 = .slice sA11 sL11 sC11 ∧
  StrAt h34 sA10 sL10 (ByteArray.toList (mkStr bs3)) ∧
  ∃ bs4 : List UInt8, StrAt h34 sA11 sL11 bs4 ∧
  bif ((mkStr bs3).toList == (mkStr bs4).toList) then (
  bif (n15 == 194) then (
  K (.bool (n16 == 4)) h34) else (
  K (.bool false) h34)) else (
  K (.bool false) h34)) else (
  K (.bool false) h33)
def bolelaw06_TxnLimit.k4 (x1 : Int) (q1 : Option Addr) (q2 : Option Addr) (n1 : Int) (h27 : Heap) (K : Value → Heap → Prop) : Prop :=
  C.txn_Txn_Read q2 (IntKind.wrap .i64 (98 + n1)) h27 fun r21 h28 =>
  ∃ (sA8 : Option Addr) (sL8 : Nat) (sC8 : Nat) (n12 : Int), r21 = .tuple #[.slice sA8 sL8 sC8, .int .i64 n12] ∧
  bif (n12 != 0) then (
  K (.bool false) h28) else (
  ∃ bs1 : List UInt8, StrAt h28 sA8 sL8 bs1 ∧
  C.bolelaw06_block x1 h28 fun r22 h29 =>
  ∃ (sA9 : Option Addr) (sL9 : Nat) (sC9 : Nat), r22 = .slice sA9 sL9 sC9 ∧
  StrAt h29 sA8 sL8 (ByteArray.toList (mkStr bs1)) ∧
  ∃ bs2 : List UInt8, StrAt h29 sA9 sL9 bs2 ∧
  bif (!((mkStr bs1).toList == (mkStr bs2).toList)) then (
  K (.bool false) h29) else (
  C.txn_Txn_Commit q2 h29 fun r23 h30 =>
  ∃ (n13 : Int), r23 = .int .i64 n13 ∧
  bif (n13 != 0) then (
  K (.bool false) h30) else (
  bolelaw06_TxnLimit.k5 x1 q1 n1 h30 K)))
def bolelaw06_TxnLimit.k3 (x1 : Int) (q1 : Option Addr) (q2 : Option Addr) (n1 : Int) (m1 : Int) (h21 : Heap) (K : Value → Heap → Prop) : Prop :=
  C.txn_Txn_Back q2 m1 h21 fun r16 h22 =>
  ∃ (n9 : Int), r16 = .int .i64 n9 ∧
  bif (n9 != 0) then (
  K (.bool false) h22) else (
  C.bolelaw06_block x1 h22 fun r17 h23 =>
  ∃ (sA6 : Option Addr) (sL6 : Nat) (sC6 : Nat), r17 = .slice sA6 sL6 sC6 ∧
  C.txn_Txn_Write q2 (IntKind.wrap .i64 ((IntKind.wrap .i64 (98 + n1)) + 96)) sA6 sL6 sC6 h23 fun r18 h24 =>
  ∃ (n10 : Int), r18 = .int .i64 n10 ∧
  bif (n10 != 0) then (
  K (.bool false) h24) else (
  C.bolelaw06_block x1 h24 fun r19 h25 =>
  ∃ (sA7 : Option Addr) (sL7 : Nat) (sC7 : Nat), r19 = .slice sA7 sL7 sC7 ∧
  C.txn_Txn_Write q2 (IntKind.wrap .i64 ((IntKind.wrap .i64 (98 + n1)) + 95)) sA7 sL7 sC7 h25 fun r20 h26 =>
  ∃ (n11 : Int), r20 = .int .i64 n11 ∧
  bif (n11 != 60) then (
  K (.bool false) h26) else (
  bolelaw06_TxnLimit.k4 x1 q1 q2 n1 h26 K)))
def bolelaw06_TxnLimit.k1 (from1 : Int) (x1 : Int) (q1 : Option Addr) (h4 : Heap) (K : Value → Heap → Prop) : Prop :=
  C.txn_Begin q1 h4 fun r3 h5 =>
  ∃ (q2 : Option Addr), r3 = .pointer q2 ∧
  bif (Option.isNone q2) then (
  K (.bool false) h5) else (
  C.bolelaw06_mod from1 14 h5 fun r4 h6 =>
  ∃ (n1 : Int), r4 = .int .i64 n1 ∧
  ∃ (I1 : Int → Int → Heap → Prop) (M1 : Int → Int → Heap → Nat), I1 0 0 h6 ∧
  ∀ (m1 : Int) (k1 : Int), ∀ h7 : Heap, I1 m1 k1 h7 →
  bif (decide (k1 < 96)) then (
  bif (k1 == 95) then (
  C.txn_Txn_Mark q2 h7 fun r5 h8 =>
  ∃ (n2 : Int) (n3 : Int), r5 = .tuple #[.int .i64 n2, .int .i64 n3] ∧
  bif (n3 != 0) then (
  K (.bool false) h8) else (
  bolelaw06_TxnLimit.k2 x1 q2 n1 m1 k1 h7 I1 M1 n2 h8 K)) else (
  bolelaw06_TxnLimit.k2 x1 q2 n1 m1 k1 h7 I1 M1 m1 h7 K)) else (
  C.bolelaw06_block x1 h7 fun r8 h12 =>
  ∃ (sA2 : Option Addr) (sL2 : Nat) (sC2 : Nat), r8 = .slice sA2 sL2 sC2 ∧
  C.txn_Txn_Write q2 (IntKind.wrap .i64 ((IntKind.wrap .i64 (98 + n1)) + 96)) sA2 sL2 sC2 h12 fun r9 h13 =>
  ∃ (n5 : Int), r9 = .int .i64 n5 ∧
  bif (n5 != 60) then (
  K (.bool false) h13) else (
  C.bolelaw06_block x1 h13 fun r10 h14 =>
  ∃ (sA3 : Option Addr) (sL3 : Nat) (sC3 : Nat), r10 = .slice sA3 sL3 sC3 ∧
  C.txn_Txn_Write q2 97 sA3 sL3 sC3 h14 fun r11 h15 =>
  ∃ (n6 : Int), r11 = .int .i64 n6 ∧
  bif (n6 != 31) then (
  K (.bool false) h15) else (
  (0 ≤ (511 : Int) ∧ (511 : Int) ≤ 511 ∧ (1 : Int) * 511 ≤ 281474976710656 ∧ (511 : Int) ≤ 281474976710656) ∧
  New (repCells z5 (Int.toNat 511)) 5 h15 fun h16 =>
  C.txn_Txn_Write q2 (IntKind.wrap .i64 ((IntKind.wrap .i64 (98 + n1)) + 96)) (some ⟨h15.size, 0, none⟩) (Int.toNat 511) (Int.toNat 511) h16 fun r12 h17 =>
  ∃ (n7 : Int), r12 = .int .i64 n7 ∧
  bif (n7 != 32) then (
  K (.bool false) h17) else (
  C.bolelaw06_block (IntKind.wrap .u8 (x1 + 1)) h17 fun r13 h18 =>
  ∃ (sA4 : Option Addr) (sL4 : Nat) (sC4 : Nat), r13 = .slice sA4 sL4 sC4 ∧
  C.txn_Txn_Write q2 (IntKind.wrap .i64 (98 + n1)) sA4 sL4 sC4 h18 fun r14 h19 =>
  ∃ (n8 : Int), r14 = .int .i64 n8 ∧
  bif (n8 != 0) then (
  K (.bool false) h19) else (
  C.txn_Txn_Written q2 h19 fun r15 h20 =>
  ∃ (sA5 : Option Addr) (sL5 : Nat) (sC5 : Nat), r15 = .slice sA5 sL5 sC5 ∧
  bif ((sL5 : Int) != 96) then (
  K (.bool false) h20) else (
  bolelaw06_TxnLimit.k3 x1 q1 q2 n1 m1 h20 K)))))))
def bolelaw06_TxnLimit (from1 : Int) (x1 : Int) (K : Value → Heap → Prop) (h1 : Heap) : Prop :=
  C.bolelaw06_fresh 208 h1 fun r1 h2 =>
  ∃ (q1 : Option Addr), r1 = .pointer q1 ∧
  bif (Option.isNone q1) then (
  K (.bool false) h2) else (
  C.bolelaw06_known  h2 fun r2 h3 =>
  ∃ (b1 : Bool), r2 = .bool b1 ∧
  bif (!b1) then (
  K (.bool false) h3) else (
  bolelaw06_TxnLimit.k1 from1 x1 q1 h3 K))
def bolelaw06_TxnLimit.lo : Nat → List Nat × List (Nat × Ty) := fun n => match n with | 10 => ([1, 5, 6, 7], [(8, .int .i64), (9, .int .i64)]) | _ => ([], [])
def bolelaw06_TxnLimit.od : Nat → Od := fun n => match n with | 24 => (.op 0 [] (.op 1 [] (.op 2 [] (.op 3 [] (.op 4 [] (.op 5 [] (.op 6 [4] (.op 7 [] (.op 8 [] (.op 9 [] (.op 10 [] (.op 11 [] (.op 12 [] (.op 13 [] (.op 14 [] .nil))))))))))))))) | 28 => (.op 0 [] (.op 1 [] (.op 2 [] (.op 3 [] (.op 4 [] (.op 5 [] (.op 6 [4] (.op 7 [] (.op 8 [] (.op 9 [] (.op 10 [] (.op 11 [] (.op 12 [] (.op 13 [] (.op 14 [] (.op 15 [] (.op 16 [] (.op 17 [] (.op 18 [] .nil))))))))))))))))))) | _ => .nil
theorem bolelaw06_TxnLimit.eq (from1 : Int) (x1 : Int) (K : Value → Heap → Prop) (h : Heap) : fnX (cx bolelaw06_TxnLimit.lo bolelaw06_TxnLimit.od) Tryd.f8 (Tryd.f8.body.getD .skip) [.int .i64 from1, .int .u8 x1] K h = bolelaw06_TxnLimit from1 x1 K h := by kernel_rfl
theorem bolelaw06_TxnLimit.chk : fnOk (cx bolelaw06_TxnLimit.lo bolelaw06_TxnLimit.od) Tryd.f8 (Tryd.f8.body.getD .skip) 2 = true := by kernel_rfl
theorem bolelaw06_TxnLimit.ok {from1 : Int} {x1 : Int} {K : Value → Heap → Prop} {h : Heap} (hx : bolelaw06_TxnLimit from1 x1 K h) : C.bolelaw06_TxnLimit from1 x1 h K :=
  fn_to (cxOk _ _) Tryd.func8 (by kernel_rfl) bolelaw06_TxnLimit.chk (by rw [bolelaw06_TxnLimit.eq]; exact hx)
end Go.Proofs.YtpleolmalbdpnaaDoor.W
