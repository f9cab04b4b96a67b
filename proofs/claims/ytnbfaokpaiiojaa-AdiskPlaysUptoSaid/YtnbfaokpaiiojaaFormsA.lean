/-
  WHAT THE FUNCTIONS COMPUTE, as formulas; each held against the loaded code by the kernel. Written by program (gen.py).
-/
import Derived.Test.YtnbfaokpaiiojaaTab
namespace Go.Proofs.Ytnbfaokpaiiojaa.W
open Go Go.Proofs Go.Proofs.Ytnbfaokpaiiojaa.Wx
-- 3
def bolelaw03_AdiskMakes.k4 (imageA1 : Option Addr) (imageL1 : Nat) (h8 : Heap) (h10 : Heap) (K : Value → Heap → Prop) : Prop :=
  ∃ cs2 : List Value, List.length cs2 = 2 ∧ Cells h10 ⟨h8.size, 0, none⟩ cs2 ∧
  C.bolelaw03_Pair_asks cs2 h10 fun r6 h11 =>
  ∃ (b2 : Bool), r6 = .bool b2 ∧
  bif b2 then (
  ∃ (q3 : Option Addr), cellOf h11 (Addr.add ⟨h8.size, 0, none⟩ 0) = some (.pointer q3) ∧
  ∃ bs3 : List UInt8, StrAt h11 imageA1 imageL1 bs3 ∧
  C.adisk_Disk_Image q3 h11 fun r7 h12 =>
  ∃ (sA3 : Option Addr) (sL3 : Nat) (sC3 : Nat), r7 = .slice sA3 sL3 sC3 ∧
  StrAt h12 imageA1 imageL1 (ByteArray.toList (mkStr bs3)) ∧
  ∃ bs4 : List UInt8, StrAt h12 sA3 sL3 bs4 ∧
  K (.bool ((mkStr bs4).toList == (mkStr bs3).toList)) h12) else (
  K (.bool false) h11)
def bolelaw03_AdiskMakes.k3 (imageA1 : Option Addr) (imageL1 : Nat) (imageC1 : Nat) (h7 : Heap) (K : Value → Heap → Prop) : Prop :=
  C.bolelaw03_opened imageA1 imageL1 imageC1 h7 fun r5 h8 =>
  ∃ (cs1 : List Value) (b1 : Bool), r5 = .tuple #[.agg ⟨cs1⟩, .bool b1] ∧
  NewRow z32 32 cs1 2 h8 fun h10 =>
  bif (!b1) then (
  K (.bool b1) h10) else (
  ∃ (q2 : Option Addr), cellOf h10 (Addr.add ⟨h8.size, 0, none⟩ 0) = some (.pointer q2) ∧
  bif (Option.isNone q2) then (
  K (.bool b1) h10) else (
  bolelaw03_AdiskMakes.k4 imageA1 imageL1 h8 h10 K))
def bolelaw03_AdiskMakes.k2 (n1 : Int) (imageA1 : Option Addr) (imageL1 : Nat) (imageC1 : Nat) (h2 : Heap) (q1 : Option Addr) (fits1 : Bool) (K : Value → Heap → Prop) : Prop :=
  bif fits1 then (
  C.adisk_Disk_Read q1 (IntKind.wrap .i64 (n1 - 1)) h2 fun r2 h3 =>
  ∃ (sA1 : Option Addr) (sL1 : Nat) (sC1 : Nat) (n3 : Int), r2 = .tuple #[.slice sA1 sL1 sC1, .int .i64 n3] ∧
  C.adisk_Disk_Read q1 n1 h3 fun r3 h4 =>
  ∃ (sA2 : Option Addr) (sL2 : Nat) (sC2 : Nat) (n4 : Int), r3 = .tuple #[.slice sA2 sL2 sC2, .int .i64 n4] ∧
  C.adisk_Disk_Blocks q1 h4 fun r4 h5 =>
  ∃ (n5 : Int), r4 = .int .i64 n5 ∧
  bif (n5 != n1) then (
  K (.bool false) h5) else (
  bif (n3 != 0) then (
  K (.bool false) h5) else (
  ∃ bs1 : List UInt8, StrAt h5 sA1 sL1 bs1 ∧
  (0 ≤ (512 : Int) ∧ (512 : Int) ≤ 512 ∧ (1 : Int) * 512 ≤ 281474976710656 ∧ (512 : Int) ≤ 281474976710656) ∧
  New (repCells z5 (Int.toNat 512)) 5 h5 fun h6 =>
  StrAt h6 sA1 sL1 (ByteArray.toList (mkStr bs1)) ∧
  ∃ bs2 : List UInt8, StrAt h6 (some ⟨h5.size, 0, none⟩) (Int.toNat 512) bs2 ∧
  bif (!((mkStr bs1).toList == (mkStr bs2).toList)) then (
  K (.bool false) h6) else (
  bif (n4 != 31) then (
  K (.bool false) h6) else (
  bolelaw03_AdiskMakes.k3 imageA1 imageL1 imageC1 h6 K))))) else (
  bolelaw03_AdiskMakes.k3 imageA1 imageL1 imageC1 h2 K)
def bolelaw03_AdiskMakes.k1 (n1 : Int) (imageA1 : Option Addr) (imageL1 : Nat) (imageC1 : Nat) (h2 : Heap) (q1 : Option Addr) (n2 : Int) (fits1 : Bool) (K : Value → Heap → Prop) : Prop :=
  bif (!((n2 == 0) == fits1)) then (
  K (.bool false) h2) else (
  bif ((Option.isNone q1) == fits1) then (
  K (.bool false) h2) else (
  bif (!fits1) then (
  bif (n2 != 32) then (
  K (.bool false) h2) else (
  bolelaw03_AdiskMakes.k2 n1 imageA1 imageL1 imageC1 h2 q1 fits1 K)) else (
  bolelaw03_AdiskMakes.k2 n1 imageA1 imageL1 imageC1 h2 q1 fits1 K)))
def bolelaw03_AdiskMakes (n1 : Int) (imageA1 : Option Addr) (imageL1 : Nat) (imageC1 : Nat) (K : Value → Heap → Prop) (h1 : Heap) : Prop :=
  C.adisk_New n1 h1 fun r1 h2 =>
  ∃ (q1 : Option Addr) (n2 : Int), r1 = .tuple #[.pointer q1, .int .i64 n2] ∧
  bif (decide (n1 ≥ 1)) then (
  bolelaw03_AdiskMakes.k1 n1 imageA1 imageL1 imageC1 h2 q1 n2 (decide (n1 ≤ 16384)) K) else (
  bolelaw03_AdiskMakes.k1 n1 imageA1 imageL1 imageC1 h2 q1 n2 false K)
def bolelaw03_AdiskMakes.lo : Nat → List Nat × List (Nat × Ty) := fun n => match n with | _ => ([], [])
def bolelaw03_AdiskMakes.od : Nat → Od := fun n => match n with | 8 => (.op 0 [] (.op 2 [] (.op 1 [] (.op 3 [] (.op 4 [] (.op 5 [] (.op 6 [] (.op 7 [] (.op 8 [] (.op 9 [] (.op 10 [] (.op 11 [10] (.op 12 [] (.op 13 [] (.op 14 [] (.op 15 [] (.op 16 [] (.op 17 [] (.op 18 [] .nil))))))))))))))))))) | 13 => (.op 0 [] (.op 1 [] (.op 2 [] (.op 3 [] (.op 4 [] (.op 7 [] (.op 8 [] (.op 5 [8] (.op 6 [] (.op 9 [] (.op 10 [] (.op 11 [] .nil)))))))))))) | _ => .nil
set_option maxRecDepth 1000000 in
theorem bolelaw03_AdiskMakes.eq (n1 : Int) (imageA1 : Option Addr) (imageL1 : Nat) (imageC1 : Nat) (K : Value → Heap → Prop) (h : Heap) : fnX (cx bolelaw03_AdiskMakes.lo bolelaw03_AdiskMakes.od) Try.f3 (Try.f3.body.getD .skip) [.int .i64 n1, .slice imageA1 imageL1 imageC1] K h = bolelaw03_AdiskMakes n1 imageA1 imageL1 imageC1 K h := by kernel_rfl
theorem bolelaw03_AdiskMakes.chk : fnOk (cx bolelaw03_AdiskMakes.lo bolelaw03_AdiskMakes.od) Try.f3 (Try.f3.body.getD .skip) 2 = true := by kernel_rfl
set_option maxRecDepth 1000000 in
theorem bolelaw03_AdiskMakes.ok {n1 : Int} {imageA1 : Option Addr} {imageL1 : Nat} {imageC1 : Nat} {K : Value → Heap → Prop} {h : Heap} (hx : bolelaw03_AdiskMakes n1 imageA1 imageL1 imageC1 K h) : C.bolelaw03_AdiskMakes n1 imageA1 imageL1 imageC1 h K :=
  fn_to (cxOk _ _) Try.func3 (by kernel_rfl) bolelaw03_AdiskMakes.chk (by rw [bolelaw03_AdiskMakes.eq]; exact hx)

-- 4
def bolelaw03_AdiskLasts.k2 (q1 : Option Addr) (h15 : Heap) (last3 : ByteArray) (K : Value → Heap → Prop) : Prop :=
  C.adisk_Disk_Read q1 0 h15 fun r7 h16 =>
  ∃ (sA6 : Option Addr) (sL6 : Nat) (sC6 : Nat) (n6 : Int), r7 = .tuple #[.slice sA6 sL6 sC6, .int .i64 n6] ∧
  C.adisk_Disk_Image q1 h16 fun r8 h17 =>
  ∃ (sA7 : Option Addr) (sL7 : Nat) (sC7 : Nat), r8 = .slice sA7 sL7 sC7 ∧
  ∃ bs6 : List UInt8, StrAt h17 sA7 sL7 bs6 ∧
  bif ((mkStr bs6).toList == last3.toList) then (
  bif (n6 == 30) then (
  C.adisk_Disk_Down q1 h17 fun r9 h18 =>
  ∃ (b1 : Bool), r9 = .bool b1 ∧
  bif b1 then (
  C.adisk_Disk_Pending q1 h18 fun r10 h19 =>
  ∃ (sA8 : Option Addr) (sL8 : Nat) (sC8 : Nat), r10 = .slice sA8 sL8 sC8 ∧
  K (.bool ((sL8 : Int) == 0)) h19) else (
  K (.bool false) h18)) else (
  K (.bool false) h17)) else (
  K (.bool false) h17)
def bolelaw03_AdiskLasts.k1 (all1 : Bool) (q1 : Option Addr) (n2 : Int) (nowA2 : Option Addr) (nowL2 : Nat) (nowC2 : Nat) (last2 : ByteArray) (h7 : Heap) (K : Value → Heap → Prop) : Prop :=
  ∃ (I2 : Int → Heap → Prop) (M2 : Int → Heap → Nat), I2 0 h7 ∧
  ∀ (i1 : Int), ∀ h8 : Heap, I2 i1 h8 →
  bif (decide (i1 < n2)) then (
  C.adisk_Disk_Read q1 i1 h8 fun r3 h9 =>
  ∃ (sA2 : Option Addr) (sL2 : Nat) (sC2 : Nat) (n4 : Int), r3 = .tuple #[.slice sA2 sL2 sC2, .int .i64 n4] ∧
  bif (n4 != 0) then (
  K (.bool false) h9) else (
  ∃ bs2 : List UInt8, StrAt h9 sA2 sL2 bs2 ∧
  (0 ≤ (IntKind.wrap .i64 (i1 * 512)) ∧ (IntKind.wrap .i64 (i1 * 512)) ≤ (IntKind.wrap .i64 ((IntKind.wrap .i64 (i1 * 512)) + 512)) ∧ (IntKind.wrap .i64 ((IntKind.wrap .i64 (i1 * 512)) + 512)) ≤ (nowC2 : Int)) ∧
  ∃ bs3 : List UInt8, StrAt h9 (if nowC2 = (Int.toNat (IntKind.wrap .i64 (i1 * 512))) then nowA2 else Option.map (Addr.add · (Int.toNat (IntKind.wrap .i64 (i1 * 512)))) nowA2) ((Int.toNat (IntKind.wrap .i64 ((IntKind.wrap .i64 (i1 * 512)) + 512))) - (Int.toNat (IntKind.wrap .i64 (i1 * 512)))) bs3 ∧
  bif (!((mkStr bs2).toList == (mkStr bs3).toList)) then (
  K (.bool false) h9) else (
  I2 (IntKind.wrap .i64 (i1 + 1)) h9 ∧ M2 (IntKind.wrap .i64 (i1 + 1)) h9 < M2 i1 h8))) else (
  C.adisk_Disk_Image q1 h8 fun r4 h10 =>
  ∃ (sA3 : Option Addr) (sL3 : Nat) (sC3 : Nat), r4 = .slice sA3 sL3 sC3 ∧
  ∃ bs4 : List UInt8, StrAt h10 sA3 sL3 bs4 ∧
  bif (!((mkStr bs4).toList == last2.toList)) then (
  K (.bool false) h10) else (
  C.adisk_Disk_Pending q1 h10 fun r5 h11 =>
  ∃ (sA4 : Option Addr) (sL4 : Nat) (sC4 : Nat), r5 = .slice sA4 sL4 sC4 ∧
  ∃ (I3 : Option Addr → Nat → Nat → Int → Heap → Prop) (M3 : Option Addr → Nat → Nat → Int → Heap → Nat), I3 none 0 0 0 h11 ∧
  ∀ (keepA1 : Option Addr) (keepL1 : Nat) (keepC1 : Nat) (n5 : Int), ∀ h12 : Heap, I3 keepA1 keepL1 keepC1 n5 h12 →
  bif (decide (n5 < (sL4 : Int))) then (
  New [.bool all1] 4 h12 fun h13 =>
  ∃ new1 : List Value, List.length new1 = 1 * 1 ∧ SlCells h13 (some ⟨h12.size, 0, none⟩) new1 ∧ (∀ v ∈ new1, v.oneCell' = true) ∧
  AppendP ti4 4 keepA1 keepL1 keepC1 1 new1 h13 fun sA5 sL5 sC5 h14 =>
  I3 sA5 sL5 sC5 (IntKind.wrap .i64 (n5 + 1)) h14 ∧ M3 sA5 sL5 sC5 (IntKind.wrap .i64 (n5 + 1)) h14 < M3 keepA1 keepL1 keepC1 n5 h12) else (
  C.adisk_Disk_Crash q1 keepA1 keepL1 keepC1 h12 fun r6 h15 =>
  r6 = .tuple #[] ∧
  bif all1 then (
  ∃ bs5 : List UInt8, StrAt h15 nowA2 nowL2 bs5 ∧
  bolelaw03_AdiskLasts.k2 q1 h15 (mkStr bs5) K) else (
  bolelaw03_AdiskLasts.k2 q1 h15 last2 K))))
def bolelaw03_AdiskLasts (n1 : Int) (putsA1 : Option Addr) (putsL1 : Nat) (putsC1 : Nat) (all1 : Bool) (K : Value → Heap → Prop) (h1 : Heap) : Prop :=
  C.bolelaw03_fresh n1 h1 fun r1 h2 =>
  ∃ (q1 : Option Addr) (sA1 : Option Addr) (sL1 : Nat) (sC1 : Nat), r1 = .tuple #[.pointer q1, .slice sA1 sL1 sC1] ∧
  bif (Option.isNone q1) then (
  K (.bool false) h2) else (
  C.adisk_Disk_Blocks q1 h2 fun r2 h3 =>
  ∃ (n2 : Int), r2 = .int .i64 n2 ∧
  ∃ bs1 : List UInt8, StrAt h3 sA1 sL1 bs1 ∧
  ∃ (I1 : Option Addr → Nat → Nat → ByteArray → Int → Heap → Prop) (M1 : Option Addr → Nat → Nat → ByteArray → Int → Heap → Nat), I1 sA1 sL1 sC1 (mkStr bs1) 0 h3 ∧
  ∀ (nowA1 : Option Addr) (nowL1 : Nat) (nowC1 : Nat) (last1 : ByteArray) (n3 : Int), ∀ h4 : Heap, I1 nowA1 nowL1 nowC1 last1 n3 h4 →
  bif (decide (n3 < (putsL1 : Int))) then (
  (0 ≤ n3 ∧ n3 < (putsL1 : Int)) ∧
  onSome putsA1 fun p1 =>
  ∃ cs1 : List Value, List.length cs1 = 3 ∧ Cells h4 (Addr.add p1 ((Int.toNat n3) * 3)) cs1 ∧
  NewRow z42 42 cs1 3 h4 fun h6 =>
  bif (decide (n3 ≥ 200)) then (
  bolelaw03_AdiskLasts.k1 all1 q1 n2 nowA1 nowL1 nowC1 last1 h6 K) else (
  ∃ cs2 : List Value, List.length cs2 = 3 ∧ Cells h6 ⟨h4.size, 0, none⟩ cs2 ∧
  C.bolelaw03_do q1 cs2 h6 fun r11 h20 =>
  ∃ (n7 : Int), r11 = .int .i64 n7 ∧
  bif (n7 != 0) then (
  K (.bool false) h20) else (
  ∃ (b2 : Bool), cellOf h20 (Addr.add ⟨h4.size, 0, none⟩ 2) = some (.bool b2) ∧
  bif b2 then (
  ∃ bs7 : List UInt8, StrAt h20 nowA1 nowL1 bs7 ∧
  I1 nowA1 nowL1 nowC1 (mkStr bs7) (IntKind.wrap .i64 (n3 + 1)) h20 ∧ M1 nowA1 nowL1 nowC1 (mkStr bs7) (IntKind.wrap .i64 (n3 + 1)) h20 < M1 nowA1 nowL1 nowC1 last1 n3 h4) else (
  ∃ new2 : List Value, List.length new2 = nowL1 * 1 ∧ SlCells h20 nowA1 new2 ∧ (∀ v ∈ new2, v.oneCell' = true) ∧
  AppendP ti5 5 none 0 0 nowL1 new2 h20 fun sA9 sL9 sC9 h21 =>
  ∃ (n8 : Int), cellOf h21 (Addr.add ⟨h4.size, 0, none⟩ 0) = some (.int .i64 n8) ∧
  ∃ (n9 : Int), cellOf h21 (Addr.add ⟨h4.size, 0, none⟩ 1) = some (.int .u8 n9) ∧
  C.bolelaw03_mod n8 n2 h21 fun r12 h22 =>
  ∃ (n10 : Int), r12 = .int .i64 n10 ∧
  (cellOf h22 (Addr.add ⟨h4.size, 0, none⟩ 1) = some (.int .u8 n9)) ∧
  (0 ≤ (IntKind.wrap .i64 (n10 * 512)) ∧ (IntKind.wrap .i64 (n10 * 512)) ≤ (sL9 : Int)) ∧
  C.bolelaw03_block n9 h22 fun r13 h23 =>
  ∃ (sA10 : Option Addr) (sL10 : Nat) (sC10 : Nat), r13 = .slice sA10 sL10 sC10 ∧
  CopyP ti5 (if sC9 = (Int.toNat (IntKind.wrap .i64 (n10 * 512))) then sA9 else Option.map (Addr.add · (Int.toNat (IntKind.wrap .i64 (n10 * 512)))) sA9) (sL9 - (Int.toNat (IntKind.wrap .i64 (n10 * 512)))) (.slice sA10 sL10 sC10) h23 fun n11 h24 =>
  I1 sA9 sL9 sC9 last1 (IntKind.wrap .i64 (n3 + 1)) h24 ∧ M1 sA9 sL9 sC9 last1 (IntKind.wrap .i64 (n3 + 1)) h24 < M1 nowA1 nowL1 nowC1 last1 n3 h4)))) else (
  bolelaw03_AdiskLasts.k1 all1 q1 n2 nowA1 nowL1 nowC1 last1 h4 K))
def bolelaw03_AdiskLasts.lo : Nat → List Nat × List (Nat × Ty) := fun n => match n with | 8 => ([2, 7, 9, 33, 34], [(10, .slice), (11, .str), (35, .int .i64)]) | 21 => ([2, 7, 9, 10, 11], [(15, .int .i64)]) | 30 => ([2, 7, 10, 11, 99], [(18, .slice), (100, .int .i64)]) | _ => ([], [])
def bolelaw03_AdiskLasts.od : Nat → Od := fun n => match n with | 17 => (.op 0 [] (.op 1 [] (.op 2 [] (.op 3 [] (.op 7 [] (.op 8 [] (.op 4 [8] (.op 5 [] (.op 6 [] (.op 9 [] (.op 10 [] .nil))))))))))) | 24 => (.op 0 [] (.op 1 [] (.op 2 [] (.op 3 [] (.op 4 [] (.op 5 [] (.op 6 [] (.op 7 [] (.op 8 [] (.op 9 [] (.op 10 [] (.op 11 [] (.op 12 [] (.op 13 [] (.op 14 [] .nil))))))))))))))) | _ => .nil
theorem bolelaw03_AdiskLasts.eq (n1 : Int) (putsA1 : Option Addr) (putsL1 : Nat) (putsC1 : Nat) (all1 : Bool) (K : Value → Heap → Prop) (h : Heap) : fnX (cx bolelaw03_AdiskLasts.lo bolelaw03_AdiskLasts.od) Try.f4 (Try.f4.body.getD .skip) [.int .i64 n1, .slice putsA1 putsL1 putsC1, .bool all1] K h = bolelaw03_AdiskLasts n1 putsA1 putsL1 putsC1 all1 K h := by kernel_rfl
theorem bolelaw03_AdiskLasts.chk : fnOk (cx bolelaw03_AdiskLasts.lo bolelaw03_AdiskLasts.od) Try.f4 (Try.f4.body.getD .skip) 3 = true := by kernel_rfl
theorem bolelaw03_AdiskLasts.ok {n1 : Int} {putsA1 : Option Addr} {putsL1 : Nat} {putsC1 : Nat} {all1 : Bool} {K : Value → Heap → Prop} {h : Heap} (hx : bolelaw03_AdiskLasts n1 putsA1 putsL1 putsC1 all1 K h) : C.bolelaw03_AdiskLasts n1 putsA1 putsL1 putsC1 all1 h K :=
  fn_to (cxOk _ _) Try.func4 (by kernel_rfl) bolelaw03_AdiskLasts.chk (by rw [bolelaw03_AdiskLasts.eq]; exact hx)

-- 5
def bolelaw03_AdiskChosen.k1 (keepA1 : Option Addr) (keepL1 : Nat) (keepC1 : Nat) (q1 : Option Addr) (h3 : Heap) (n2 : Int) (k2 : Int) (h10 : Heap) (K : Value → Heap → Prop) : Prop :=
  C.adisk_Disk_Pending q1 h10 fun r3 h11 =>
  ∃ (sA2 : Option Addr) (sL2 : Nat) (sC2 : Nat), r3 = .slice sA2 sL2 sC2 ∧
  bif ((sL2 : Int) != k2) then (
  K (.bool false) h11) else (
  C.adisk_Disk_Crash q1 keepA1 keepL1 keepC1 h11 fun r4 h12 =>
  r4 = .tuple #[] ∧
  C.adisk_Disk_Image q1 h12 fun r5 h13 =>
  ∃ (sA3 : Option Addr) (sL3 : Nat) (sC3 : Nat), r5 = .slice sA3 sL3 sC3 ∧
  bif ((sL3 : Int) != (IntKind.wrap .i64 (512 * n2))) then (
  K (.bool false) h13) else (
  ∃ (I3 : Int → Heap → Prop) (M3 : Int → Heap → Nat), I3 0 h13 ∧
  ∀ (n5 : Int), ∀ h14 : Heap, I3 n5 h14 →
  bif (decide (n5 < ((Int.toNat n2) : Int))) then (
  (0 ≤ (IntKind.wrap .i64 (n5 * 512)) ∧ (IntKind.wrap .i64 (n5 * 512)) ≤ (IntKind.wrap .i64 ((IntKind.wrap .i64 (n5 * 512)) + 512)) ∧ (IntKind.wrap .i64 ((IntKind.wrap .i64 (n5 * 512)) + 512)) ≤ (sC3 : Int)) ∧
  ∃ bs1 : List UInt8, StrAt h14 (if sC3 = (Int.toNat (IntKind.wrap .i64 (n5 * 512))) then sA3 else Option.map (Addr.add · (Int.toNat (IntKind.wrap .i64 (n5 * 512)))) sA3) ((Int.toNat (IntKind.wrap .i64 ((IntKind.wrap .i64 (n5 * 512)) + 512))) - (Int.toNat (IntKind.wrap .i64 (n5 * 512)))) bs1 ∧
  (0 ≤ n5 ∧ n5 < ((Int.toNat n2) : Int)) ∧
  ∃ (n6 : Int), cellOf h14 (Addr.add ⟨h3.size, 0, none⟩ (Int.toNat n5)) = some (.int .u8 n6) ∧
  C.bolelaw03_block n6 h14 fun r6 h15 =>
  ∃ (sA4 : Option Addr) (sL4 : Nat) (sC4 : Nat), r6 = .slice sA4 sL4 sC4 ∧
  StrAt h15 (if sC3 = (Int.toNat (IntKind.wrap .i64 (n5 * 512))) then sA3 else Option.map (Addr.add · (Int.toNat (IntKind.wrap .i64 (n5 * 512)))) sA3) ((Int.toNat (IntKind.wrap .i64 ((IntKind.wrap .i64 (n5 * 512)) + 512))) - (Int.toNat (IntKind.wrap .i64 (n5 * 512)))) (ByteArray.toList (mkStr bs1)) ∧
  ∃ bs2 : List UInt8, StrAt h15 sA4 sL4 bs2 ∧
  bif (!((mkStr bs1).toList == (mkStr bs2).toList)) then (
  K (.bool false) h15) else (
  I3 (IntKind.wrap .i64 (n5 + 1)) h15 ∧ M3 (IntKind.wrap .i64 (n5 + 1)) h15 < M3 n5 h14)) else (
  K (.bool true) h14)))
def bolelaw03_AdiskChosen (n1 : Int) (putsA1 : Option Addr) (putsL1 : Nat) (putsC1 : Nat) (keepA1 : Option Addr) (keepL1 : Nat) (keepC1 : Nat) (K : Value → Heap → Prop) (h1 : Heap) : Prop :=
  C.bolelaw03_fresh n1 h1 fun r1 h2 =>
  ∃ (q1 : Option Addr) (sA1 : Option Addr) (sL1 : Nat) (sC1 : Nat), r1 = .tuple #[.pointer q1, .slice sA1 sL1 sC1] ∧
  bif (Option.isNone q1) then (
  K (.bool false) h2) else (
  C.adisk_Disk_Blocks q1 h2 fun r2 h3 =>
  ∃ (n2 : Int), r2 = .int .i64 n2 ∧
  (0 ≤ n2 ∧ n2 ≤ n2 ∧ (1 : Int) * n2 ≤ 281474976710656 ∧ n2 ≤ 281474976710656) ∧
  New (repCells z5 (Int.toNat n2)) 5 h3 fun h4 =>
  ∃ (I1 : Int → Heap → Prop) (M1 : Int → Heap → Nat), I1 0 h4 ∧
  ∀ (n3 : Int), ∀ h5 : Heap, I1 n3 h5 →
  bif (decide (n3 < ((Int.toNat n2) : Int))) then (
  (0 ≤ n3 ∧ n3 < ((Int.toNat n2) : Int)) ∧
  Put (Addr.add ⟨h3.size, 0, none⟩ (Int.toNat n3)) (.int .u8 (IntKind.wrap .u8 (n3))) h5 fun h6 =>
  I1 (IntKind.wrap .i64 (n3 + 1)) h6 ∧ M1 (IntKind.wrap .i64 (n3 + 1)) h6 < M1 n3 h5) else (
  ∃ (I2 : Int → Int → Heap → Prop) (M2 : Int → Int → Heap → Nat), I2 0 0 h5 ∧
  ∀ (k1 : Int) (n4 : Int), ∀ h7 : Heap, I2 k1 n4 h7 →
  bif (decide (n4 < (putsL1 : Int))) then (
  (0 ≤ n4 ∧ n4 < (putsL1 : Int)) ∧
  onSome putsA1 fun p1 =>
  ∃ cs1 : List Value, List.length cs1 = 3 ∧ Cells h7 (Addr.add p1 ((Int.toNat n4) * 3)) cs1 ∧
  NewRow z42 42 cs1 3 h7 fun h9 =>
  bif (decide (n4 ≥ 200)) then (
  bolelaw03_AdiskChosen.k1 keepA1 keepL1 keepC1 q1 h3 n2 k1 h9 K) else (
  Put (Addr.add ⟨h7.size, 0, none⟩ 2) (.bool false) h9 fun h16 =>
  ∃ cs2 : List Value, List.length cs2 = 3 ∧ Cells h16 ⟨h7.size, 0, none⟩ cs2 ∧
  C.bolelaw03_do q1 cs2 h16 fun r7 h17 =>
  ∃ (n7 : Int), r7 = .int .i64 n7 ∧
  bif (n7 != 0) then (
  K (.bool false) h17) else (
  bif (decide (k1 < (keepL1 : Int))) then (
  (0 ≤ k1 ∧ k1 < (keepL1 : Int)) ∧
  onSome keepA1 fun p2 =>
  ∃ (b1 : Bool), cellOf h17 (Addr.add p2 (Int.toNat k1)) = some (.bool b1) ∧
  bif b1 then (
  ∃ (n8 : Int), cellOf h17 (Addr.add ⟨h7.size, 0, none⟩ 0) = some (.int .i64 n8) ∧
  ∃ (n9 : Int), cellOf h17 (Addr.add ⟨h7.size, 0, none⟩ 1) = some (.int .u8 n9) ∧
  C.bolelaw03_mod n8 n2 h17 fun r8 h18 =>
  ∃ (n10 : Int), r8 = .int .i64 n10 ∧
  (cellOf h18 (Addr.add ⟨h7.size, 0, none⟩ 1) = some (.int .u8 n9)) ∧
  (0 ≤ n10 ∧ n10 < ((Int.toNat n2) : Int)) ∧
  Put (Addr.add ⟨h3.size, 0, none⟩ (Int.toNat n10)) (.int .u8 n9) h18 fun h19 =>
  I2 (IntKind.wrap .i64 (k1 + 1)) (IntKind.wrap .i64 (n4 + 1)) h19 ∧ M2 (IntKind.wrap .i64 (k1 + 1)) (IntKind.wrap .i64 (n4 + 1)) h19 < M2 k1 n4 h7) else (
  I2 (IntKind.wrap .i64 (k1 + 1)) (IntKind.wrap .i64 (n4 + 1)) h17 ∧ M2 (IntKind.wrap .i64 (k1 + 1)) (IntKind.wrap .i64 (n4 + 1)) h17 < M2 k1 n4 h7)) else (
  I2 (IntKind.wrap .i64 (k1 + 1)) (IntKind.wrap .i64 (n4 + 1)) h17 ∧ M2 (IntKind.wrap .i64 (k1 + 1)) (IntKind.wrap .i64 (n4 + 1)) h17 < M2 k1 n4 h7)))) else (
  bolelaw03_AdiskChosen.k1 keepA1 keepL1 keepC1 q1 h3 n2 k1 h7 K)))
def bolelaw03_AdiskChosen.lo : Nat → List Nat × List (Nat × Ty) := fun n => match n with | 7 => ([1, 2, 7, 9, 10, 29], [(30, .int .i64)]) | 13 => ([2, 7, 9, 10, 39, 40], [(12, .int .i64), (41, .int .i64)]) | 30 => ([10, 15, 90], [(91, .int .i64)]) | _ => ([], [])
def bolelaw03_AdiskChosen.od : Nat → Od := fun n => match n with | 20 => (.op 0 [] (.op 1 [] (.op 2 [] (.op 3 [] (.op 5 [] (.op 6 [] (.op 4 [6] (.op 7 [] (.op 8 [] .nil))))))))) | 32 => (.op 0 [] (.op 1 [] (.op 2 [] (.op 3 [] (.op 4 [] (.op 5 [] (.op 6 [] (.op 7 [] (.op 8 [] (.op 9 [] (.op 10 [] (.op 11 [] (.op 12 [7] (.op 13 [] (.op 14 [] .nil))))))))))))))) | _ => .nil
theorem bolelaw03_AdiskChosen.eq (n1 : Int) (putsA1 : Option Addr) (putsL1 : Nat) (putsC1 : Nat) (keepA1 : Option Addr) (keepL1 : Nat) (keepC1 : Nat) (K : Value → Heap → Prop) (h : Heap) : fnX (cx bolelaw03_AdiskChosen.lo bolelaw03_AdiskChosen.od) Try.f5 (Try.f5.body.getD .skip) [.int .i64 n1, .slice putsA1 putsL1 putsC1, .slice keepA1 keepL1 keepC1] K h = bolelaw03_AdiskChosen n1 putsA1 putsL1 putsC1 keepA1 keepL1 keepC1 K h := by kernel_rfl
theorem bolelaw03_AdiskChosen.chk : fnOk (cx bolelaw03_AdiskChosen.lo bolelaw03_AdiskChosen.od) Try.f5 (Try.f5.body.getD .skip) 3 = true := by kernel_rfl
theorem bolelaw03_AdiskChosen.ok {n1 : Int} {putsA1 : Option Addr} {putsL1 : Nat} {putsC1 : Nat} {keepA1 : Option Addr} {keepL1 : Nat} {keepC1 : Nat} {K : Value → Heap → Prop} {h : Heap} (hx : bolelaw03_AdiskChosen n1 putsA1 putsL1 putsC1 keepA1 keepL1 keepC1 K h) : C.bolelaw03_AdiskChosen n1 putsA1 putsL1 putsC1 keepA1 keepL1 keepC1 h K :=
  fn_to (cxOk _ _) Try.func5 (by kernel_rfl) bolelaw03_AdiskChosen.chk (by rw [bolelaw03_AdiskChosen.eq]; exact hx)

-- 6
def bolelaw03_AdiskRefused.k5 (q1 : Option Addr) (h28 : Heap) (K : Value → Heap → Prop) : Prop :=
  C.adisk_Disk_Flush q1 h28 fun r19 h29 =>
  ∃ (n16 : Int), r19 = .int .i64 n16 ∧
  bif (n16 == 0) then (
  C.adisk_Disk_Down q1 h29 fun r20 h30 =>
  ∃ (b2 : Bool), r20 = .bool b2 ∧
  bif (!b2) then (
  C.adisk_Disk_Flush q1 h30 fun r21 h31 =>
  ∃ (n17 : Int), r21 = .int .i64 n17 ∧
  bif (n17 == 30) then (
  C.adisk_Disk_Down q1 h31 fun r22 h32 =>
  ∃ (b3 : Bool), r22 = .bool b3 ∧
  K (.bool b3) h32) else (
  K (.bool false) h31)) else (
  K (.bool false) h30)) else (
  K (.bool false) h29)
def bolelaw03_AdiskRefused.k4 (q1 : Option Addr) (n4 : Int) (n5 : Int) (bs1 : List UInt8) (sL3 : Nat) (h23 : Heap) (K : Value → Heap → Prop) : Prop :=
  C.adisk_Disk_Steps q1 h23 fun r15 h24 =>
  ∃ (n14 : Int) (n15 : Int), r15 = .tuple #[.int .i64 n14, .int .i64 n15] ∧
  bif (n14 != n4) then (
  K (.bool false) h24) else (
  bif (n15 != n5) then (
  K (.bool false) h24) else (
  C.adisk_Disk_Image q1 h24 fun r16 h25 =>
  ∃ (sA6 : Option Addr) (sL6 : Nat) (sC6 : Nat), r16 = .slice sA6 sL6 sC6 ∧
  ∃ bs2 : List UInt8, StrAt h25 sA6 sL6 bs2 ∧
  bif (!((mkStr bs2).toList == (mkStr bs1).toList)) then (
  K (.bool false) h25) else (
  C.adisk_Disk_Pending q1 h25 fun r17 h26 =>
  ∃ (sA7 : Option Addr) (sL7 : Nat) (sC7 : Nat), r17 = .slice sA7 sL7 sC7 ∧
  bif ((sL7 : Int) != (sL3 : Int)) then (
  K (.bool false) h26) else (
  C.adisk_Disk_Down q1 h26 fun r18 h27 =>
  ∃ (b1 : Bool), r18 = .bool b1 ∧
  bif b1 then (
  K (.bool false) h27) else (
  bolelaw03_AdiskRefused.k5 q1 h27 K)))))
def bolelaw03_AdiskRefused.k3 (i1 : Int) (q1 : Option Addr) (n4 : Int) (n5 : Int) (bs1 : List UInt8) (sL3 : Nat) (size1 : Int) (outside1 : Int) (h13 : Heap) (K : Value → Heap → Prop) : Prop :=
  C.adisk_Disk_Read q1 outside1 h13 fun r8 h14 =>
  ∃ (sA4 : Option Addr) (sL4 : Nat) (sC4 : Nat) (n8 : Int), r8 = .tuple #[.slice sA4 sL4 sC4, .int .i64 n8] ∧
  bif (n8 != 31) then (
  (
  (
  K (.bool false) h14) ∧
  K (.bool false) h14) ∧
  K (.bool false) h14) else (
  C.bolelaw03_block 1 h14 fun r9 h15 =>
  ∃ (sA5 : Option Addr) (sL5 : Nat) (sC5 : Nat), r9 = .slice sA5 sL5 sC5 ∧
  C.adisk_Disk_Write q1 outside1 sA5 sL5 sC5 h15 fun r10 h16 =>
  ∃ (n9 : Int), r10 = .int .i64 n9 ∧
  bif (n9 != 31) then (
  (
  (
  K (.bool false) h16) ∧
  K (.bool false) h16) ∧
  K (.bool false) h16) else (
  (0 ≤ size1 ∧ size1 ≤ size1 ∧ (1 : Int) * size1 ≤ 281474976710656 ∧ size1 ≤ 281474976710656) ∧
  New (repCells z5 (Int.toNat size1)) 5 h16 fun h17 =>
  C.adisk_Disk_Write q1 outside1 (some ⟨h16.size, 0, none⟩) (Int.toNat size1) (Int.toNat size1) h17 fun r11 h18 =>
  ∃ (n10 : Int), r11 = .int .i64 n10 ∧
  bif (n10 != 31) then (
  (
  (
  K (.bool false) h18) ∧
  K (.bool false) h18) ∧
  K (.bool false) h18) else (
  (
  C.adisk_Disk_Blocks q1 h18 fun r12 h19 =>
  ∃ (n11 : Int), r12 = .int .i64 n11 ∧
  (
  C.bolelaw03_mod i1 n11 h19 fun r13 h20 =>
  ∃ (n12 : Int), r13 = .int .i64 n12 ∧
  (0 ≤ size1 ∧ size1 ≤ size1 ∧ (1 : Int) * size1 ≤ 281474976710656 ∧ size1 ≤ 281474976710656) ∧
  New (repCells z5 (Int.toNat size1)) 5 h20 fun h21 =>
  C.adisk_Disk_Write q1 n12 (some ⟨h20.size, 0, none⟩) (Int.toNat size1) (Int.toNat size1) h21 fun r14 h22 =>
  ∃ (n13 : Int), r14 = .int .i64 n13 ∧
  bif (n13 != 32) then (
  K (.bool false) h22) else (
  bolelaw03_AdiskRefused.k4 q1 n4 n5 bs1 sL3 h22 K)) ∧
  (0 ≤ size1 ∧ size1 ≤ size1 ∧ (1 : Int) * size1 ≤ 281474976710656 ∧ size1 ≤ 281474976710656) ∧
  New (repCells z5 (Int.toNat size1)) 5 h19 fun h33 =>
  C.bolelaw03_mod i1 n11 h33 fun r23 h34 =>
  ∃ (n18 : Int), r23 = .int .i64 n18 ∧
  C.adisk_Disk_Write q1 n18 (some ⟨h19.size, 0, none⟩) (Int.toNat size1) (Int.toNat size1) h34 fun r24 h35 =>
  ∃ (n19 : Int), r24 = .int .i64 n19 ∧
  bif (n19 != 32) then (
  K (.bool false) h35) else (
  bolelaw03_AdiskRefused.k4 q1 n4 n5 bs1 sL3 h35 K)) ∧
  (0 ≤ size1 ∧ size1 ≤ size1 ∧ (1 : Int) * size1 ≤ 281474976710656 ∧ size1 ≤ 281474976710656) ∧
  New (repCells z5 (Int.toNat size1)) 5 h18 fun h36 =>
  C.adisk_Disk_Blocks q1 h36 fun r25 h37 =>
  ∃ (n20 : Int), r25 = .int .i64 n20 ∧
  C.bolelaw03_mod i1 n20 h37 fun r26 h38 =>
  ∃ (n21 : Int), r26 = .int .i64 n21 ∧
  C.adisk_Disk_Write q1 n21 (some ⟨h18.size, 0, none⟩) (Int.toNat size1) (Int.toNat size1) h38 fun r27 h39 =>
  ∃ (n22 : Int), r27 = .int .i64 n22 ∧
  bif (n22 != 32) then (
  K (.bool false) h39) else (
  bolelaw03_AdiskRefused.k4 q1 n4 n5 bs1 sL3 h39 K))))
def bolelaw03_AdiskRefused.k2 (i1 : Int) (q1 : Option Addr) (n4 : Int) (n5 : Int) (bs1 : List UInt8) (sL3 : Nat) (h11 : Heap) (size1 : Int) (K : Value → Heap → Prop) : Prop :=
  bif (decide (i1 ≥ 0)) then (
  C.adisk_Disk_Blocks q1 h11 fun r7 h12 =>
  ∃ (n7 : Int), r7 = .int .i64 n7 ∧
  bif (decide (i1 < n7)) then (
  bolelaw03_AdiskRefused.k3 i1 q1 n4 n5 bs1 sL3 size1 (IntKind.wrap .i64 ((-1) - i1)) h12 K) else (
  bolelaw03_AdiskRefused.k3 i1 q1 n4 n5 bs1 sL3 size1 i1 h12 K)) else (
  bolelaw03_AdiskRefused.k3 i1 q1 n4 n5 bs1 sL3 size1 i1 h11 K)
def bolelaw03_AdiskRefused.k1 (i1 : Int) (more1 : Int) (q1 : Option Addr) (h6 : Heap) (K : Value → Heap → Prop) : Prop :=
  C.adisk_Disk_Arm q1 [.int .i64 2, .slice none 0 0] h6 fun r2 h7 =>
  ∃ (n3 : Int), r2 = .int .i64 n3 ∧
  bif (n3 != 0) then (
  K (.bool false) h7) else (
  C.adisk_Disk_Steps q1 h7 fun r3 h8 =>
  ∃ (n4 : Int) (n5 : Int), r3 = .tuple #[.int .i64 n4, .int .i64 n5] ∧
  C.adisk_Disk_Image q1 h8 fun r4 h9 =>
  ∃ (sA2 : Option Addr) (sL2 : Nat) (sC2 : Nat), r4 = .slice sA2 sL2 sC2 ∧
  ∃ bs1 : List UInt8, StrAt h9 sA2 sL2 bs1 ∧
  C.adisk_Disk_Pending q1 h9 fun r5 h10 =>
  ∃ (sA3 : Option Addr) (sL3 : Nat) (sC3 : Nat), r5 = .slice sA3 sL3 sC3 ∧
  C.bolelaw03_mod more1 1500 h10 fun r6 h11 =>
  ∃ (n6 : Int), r6 = .int .i64 n6 ∧
  bif (n6 == 512) then (
  bolelaw03_AdiskRefused.k2 i1 q1 n4 n5 bs1 sL3 h11 0 K) else (
  bolelaw03_AdiskRefused.k2 i1 q1 n4 n5 bs1 sL3 h11 n6 K))
def bolelaw03_AdiskRefused (n1 : Int) (putsA1 : Option Addr) (putsL1 : Nat) (putsC1 : Nat) (i1 : Int) (more1 : Int) (K : Value → Heap → Prop) (h1 : Heap) : Prop :=
  C.bolelaw03_fresh n1 h1 fun r1 h2 =>
  ∃ (q1 : Option Addr) (sA1 : Option Addr) (sL1 : Nat) (sC1 : Nat), r1 = .tuple #[.pointer q1, .slice sA1 sL1 sC1] ∧
  bif (Option.isNone q1) then (
  K (.bool false) h2) else (
  ∃ (I1 : Int → Heap → Prop) (M1 : Int → Heap → Nat), I1 0 h2 ∧
  ∀ (n2 : Int), ∀ h3 : Heap, I1 n2 h3 →
  bif (decide (n2 < (putsL1 : Int))) then (
  (0 ≤ n2 ∧ n2 < (putsL1 : Int)) ∧
  onSome putsA1 fun p1 =>
  ∃ cs1 : List Value, List.length cs1 = 3 ∧ Cells h3 (Addr.add p1 ((Int.toNat n2) * 3)) cs1 ∧
  NewRow z42 42 cs1 3 h3 fun h5 =>
  bif (decide (n2 ≥ 30)) then (
  bolelaw03_AdiskRefused.k1 i1 more1 q1 h5 K) else (
  ∃ cs2 : List Value, List.length cs2 = 3 ∧ Cells h5 ⟨h3.size, 0, none⟩ cs2 ∧
  C.bolelaw03_do q1 cs2 h5 fun r28 h40 =>
  ∃ (n23 : Int), r28 = .int .i64 n23 ∧
  bif (n23 != 0) then (
  K (.bool false) h40) else (
  I1 (IntKind.wrap .i64 (n2 + 1)) h40 ∧ M1 (IntKind.wrap .i64 (n2 + 1)) h40 < M1 n2 h3))) else (
  bolelaw03_AdiskRefused.k1 i1 more1 q1 h3 K))
def bolelaw03_AdiskRefused.lo : Nat → List Nat × List (Nat × Ty) := fun n => match n with | 5 => ([2, 3, 9, 30, 31], [(32, .int .i64)]) | _ => ([], [])
def bolelaw03_AdiskRefused.od : Nat → Od := fun n => match n with | 23 => (.op 0 [] (.op 1 [] (.op 2 [] (.op 3 [] (.op 4 [] (.op 5 [] (.op 6 [] (.op 7 [] (.op 8 [] (.op 9 [] (.op 10 [] (.op 11 [] (.op 12 [] (.op 13 [] (.op 14 [] (.op 15 [] (.op 16 [] (.op 17 [] (.op 18 [] (.op 19 [] (.op 20 [] (.op 23 [] (.alt 21 [] (.alt 22 [] (.op 24 [] (.op 25 [] (.op 26 [] (.op 27 [] .nil)))) (.op 24 [] (.op 22 [] (.op 25 [] (.op 26 [] (.op 27 [] .nil)))))) (.op 24 [] (.op 21 [] (.op 22 [] (.op 25 [] (.op 26 [] (.op 27 [] .nil))))))))))))))))))))))))))))) | _ => .nil
theorem bolelaw03_AdiskRefused.eq (n1 : Int) (putsA1 : Option Addr) (putsL1 : Nat) (putsC1 : Nat) (i1 : Int) (more1 : Int) (K : Value → Heap → Prop) (h : Heap) : fnX (cx bolelaw03_AdiskRefused.lo bolelaw03_AdiskRefused.od) Try.f6 (Try.f6.body.getD .skip) [.int .i64 n1, .slice putsA1 putsL1 putsC1, .int .i64 i1, .int .i64 more1] K h = bolelaw03_AdiskRefused n1 putsA1 putsL1 putsC1 i1 more1 K h := by kernel_rfl
theorem bolelaw03_AdiskRefused.chk : fnOk (cx bolelaw03_AdiskRefused.lo bolelaw03_AdiskRefused.od) Try.f6 (Try.f6.body.getD .skip) 4 = true := by kernel_rfl
theorem bolelaw03_AdiskRefused.ok {n1 : Int} {putsA1 : Option Addr} {putsL1 : Nat} {putsC1 : Nat} {i1 : Int} {more1 : Int} {K : Value → Heap → Prop} {h : Heap} (hx : bolelaw03_AdiskRefused n1 putsA1 putsL1 putsC1 i1 more1 K h) : C.bolelaw03_AdiskRefused n1 putsA1 putsL1 putsC1 i1 more1 h K :=
  fn_to (cxOk _ _) Try.func6 (by kernel_rfl) bolelaw03_AdiskRefused.chk (by rw [bolelaw03_AdiskRefused.eq]; exact hx)

-- 7
def bolelaw03_AdiskAfters.k3 (sA2 : Option Addr) (sL2 : Nat) (sC2 : Nat) (sA4 : Option Addr) (sL4 : Nat) (sC4 : Nat) (sA6 : Option Addr) (sL6 : Nat) (sC6 : Nat) (h16 : Heap) (K : Value → Heap → Prop) : Prop :=
  C.adisk_After sA2 sL2 sC2 sA4 sL4 sC4 sA6 sL6 sC6 h16 fun r10 h17 =>
  ∃ (sA13 : Option Addr) (sL13 : Nat) (sC13 : Nat) (n11 : Int), r10 = .tuple #[.slice sA13 sL13 sC13, .int .i64 n11] ∧
  C.boleref03_After sA2 sL2 sC2 sA4 sL4 sC4 sA6 sL6 sC6 h17 fun r11 h18 =>
  ∃ (sA14 : Option Addr) (sL14 : Nat) (sC14 : Nat) (n12 : Int), r11 = .tuple #[.slice sA14 sL14 sC14, .int .i64 n12] ∧
  ∃ bs7 : List UInt8, StrAt h18 sA13 sL13 bs7 ∧
  ∃ bs8 : List UInt8, StrAt h18 sA14 sL14 bs8 ∧
  bif ((mkStr bs7).toList == (mkStr bs8).toList) then (
  K (.bool (n11 == n12)) h18) else (
  K (.bool false) h18)
def bolelaw03_AdiskAfters.k2 (imageA1 : Option Addr) (imageL1 : Nat) (imageC1 : Nat) (actsA1 : Option Addr) (actsL1 : Nat) (keepA1 : Option Addr) (keepL1 : Nat) (keepC1 : Nat) (sA2 : Option Addr) (sL2 : Nat) (sC2 : Nat) (sA3 : Option Addr) (sL3 : Nat) (sC3 : Nat) (sA4 : Option Addr) (sL4 : Nat) (sC4 : Nat) (sA5 : Option Addr) (sL5 : Nat) (sA6 : Option Addr) (sL6 : Nat) (sC6 : Nat) (sA7 : Option Addr) (sL7 : Nat) (sC7 : Nat) (h11 : Heap) (K : Value → Heap → Prop) : Prop :=
  ∃ (I2 : Int → Heap → Prop) (M2 : Int → Heap → Nat), I2 0 h11 ∧
  ∀ (n6 : Int), ∀ h12 : Heap, I2 n6 h12 →
  bif (decide (n6 < (actsL1 : Int))) then (
  (0 ≤ n6 ∧ n6 < (sL4 : Int)) ∧
  onSome sA4 fun p3 =>
  ∃ (n7 : Int), cellOf h12 (Addr.add (Addr.add p3 ((Int.toNat n6) * 3)) 0) = some (.int .i64 n7) ∧
  (0 ≤ n6 ∧ n6 < (actsL1 : Int)) ∧
  onSome actsA1 fun p4 =>
  ∃ (n8 : Int), cellOf h12 (Addr.add (Addr.add p4 ((Int.toNat n6) * 3)) 0) = some (.int .i64 n8) ∧
  bif (n7 != n8) then (
  K (.bool false) h12) else (
  (0 ≤ n6 ∧ n6 < (sL4 : Int)) ∧
  onSome sA4 fun p5 =>
  ∃ (n9 : Int), cellOf h12 (Addr.add (Addr.add p5 ((Int.toNat n6) * 3)) 1) = some (.int .i64 n9) ∧
  (0 ≤ n6 ∧ n6 < (actsL1 : Int)) ∧
  onSome actsA1 fun p6 =>
  ∃ (n10 : Int), cellOf h12 (Addr.add (Addr.add p6 ((Int.toNat n6) * 3)) 1) = some (.int .i64 n10) ∧
  bif (n9 != n10) then (
  K (.bool false) h12) else (
  (0 ≤ n6 ∧ n6 < (sL5 : Int)) ∧
  onSome sA5 fun p7 =>
  ∃ (sA11 : Option Addr) (sL11 : Nat) (sC11 : Nat), cellOf h12 (Addr.add p7 (Int.toNat n6)) = some (.slice sA11 sL11 sC11) ∧
  (0 ≤ n6 ∧ n6 < (actsL1 : Int)) ∧
  onSome actsA1 fun p8 =>
  ∃ (sA12 : Option Addr) (sL12 : Nat) (sC12 : Nat), cellOf h12 (Addr.add (Addr.add p8 ((Int.toNat n6) * 3)) 2) = some (.slice sA12 sL12 sC12) ∧
  C.bolelaw03_kept sA11 sL11 sC11 sA12 sL12 sC12 h12 fun r7 h13 =>
  ∃ (b1 : Bool), r7 = .bool b1 ∧
  bif (!b1) then (
  K (.bool false) h13) else (
  I2 (IntKind.wrap .i64 (n6 + 1)) h13 ∧ M2 (IntKind.wrap .i64 (n6 + 1)) h13 < M2 n6 h12)))) else (
  C.bolelaw03_kept sA3 sL3 sC3 imageA1 imageL1 imageC1 h12 fun r8 h14 =>
  ∃ (b2 : Bool), r8 = .bool b2 ∧
  bif (!b2) then (
  K (.bool false) h14) else (
  C.bolelaw03_unmarked sA7 sL7 sC7 keepA1 keepL1 keepC1 h14 fun r9 h15 =>
  ∃ (b3 : Bool), r9 = .bool b3 ∧
  bif (!b3) then (
  K (.bool false) h15) else (
  bolelaw03_AdiskAfters.k3 sA2 sL2 sC2 sA4 sL4 sC4 sA6 sL6 sC6 h15 K)))
def bolelaw03_AdiskAfters.k1 (imageA1 : Option Addr) (imageL1 : Nat) (imageC1 : Nat) (actsA1 : Option Addr) (actsL1 : Nat) (keepA1 : Option Addr) (keepL1 : Nat) (keepC1 : Nat) (sA1 : Option Addr) (sL1 : Nat) (sA2 : Option Addr) (sL2 : Nat) (sC2 : Nat) (sA3 : Option Addr) (sL3 : Nat) (sC3 : Nat) (sA4 : Option Addr) (sL4 : Nat) (sC4 : Nat) (sA5 : Option Addr) (sL5 : Nat) (sA6 : Option Addr) (sL6 : Nat) (sC6 : Nat) (sA7 : Option Addr) (sL7 : Nat) (sC7 : Nat) (sA8 : Option Addr) (sL8 : Nat) (sC8 : Nat) (h7 : Heap) (sA9 : Option Addr) (sL9 : Nat) (K : Value → Heap → Prop) : Prop :=
  ∃ (I1 : Int → Heap → Prop) (M1 : Int → Heap → Nat), I1 0 h7 ∧
  ∀ (n4 : Int), ∀ h8 : Heap, I1 n4 h8 →
  bif (decide (n4 < (sL8 : Int))) then (
  (0 ≤ n4 ∧ n4 < (sL8 : Int)) ∧
  onSome sA8 fun p1 =>
  Put (Addr.add p1 (Int.toNat n4)) (.int .u8 91) h8 fun h9 =>
  I1 (IntKind.wrap .i64 (n4 + 1)) h9 ∧ M1 (IntKind.wrap .i64 (n4 + 1)) h9 < M1 n4 h8) else (
  New [.int .u8 91, .int .u8 91] 5 h8 fun h10 =>
  ∃ new1 : List Value, List.length new1 = 2 * 1 ∧ SlCells h10 (some ⟨h8.size, 0, none⟩) new1 ∧ (∀ v ∈ new1, v.oneCell' = true) ∧
  AppendP ti5 5 sA8 sL8 sC8 2 new1 h10 fun sA10 sL10 sC10 h11 =>
  ∃ bs5 : List UInt8, StrAt h11 sA9 sL9 bs5 ∧
  ∃ bs6 : List UInt8, StrAt h11 sA1 sL1 bs6 ∧
  bif (!((mkStr bs5).toList == (mkStr bs6).toList)) then (
  K (.bool false) h11) else (
  (0 ≤ (IntKind.wrap .i64 ((actsL1 : Int) + 1)) ∧ (IntKind.wrap .i64 ((actsL1 : Int) + 1)) ≤ (sC4 : Int)) ∧
  (0 ≤ (actsL1 : Int) ∧ (actsL1 : Int) < ((Int.toNat (IntKind.wrap .i64 ((actsL1 : Int) + 1))) : Int)) ∧
  onSome sA4 fun p2 =>
  ∃ (n5 : Int), cellOf h11 (Addr.add (Addr.add p2 ((Int.toNat (actsL1 : Int)) * 3)) 0) = some (.int .i64 n5) ∧
  bif (n5 != (-99)) then (
  K (.bool false) h11) else (
  bolelaw03_AdiskAfters.k2 imageA1 imageL1 imageC1 actsA1 actsL1 keepA1 keepL1 keepC1 sA2 sL2 sC2 sA3 sL3 sC3 sA4 sL4 sC4 sA5 sL5 sA6 sL6 sC6 sA7 sL7 sC7 h11 K)))
def bolelaw03_AdiskAfters (imageA1 : Option Addr) (imageL1 : Nat) (imageC1 : Nat) (actsA1 : Option Addr) (actsL1 : Nat) (actsC1 : Nat) (keepA1 : Option Addr) (keepL1 : Nat) (keepC1 : Nat) (K : Value → Heap → Prop) (h1 : Heap) : Prop :=
  C.boleref03_After imageA1 imageL1 imageC1 actsA1 actsL1 actsC1 keepA1 keepL1 keepC1 h1 fun r1 h2 =>
  ∃ (sA1 : Option Addr) (sL1 : Nat) (sC1 : Nat) (n1 : Int), r1 = .tuple #[.slice sA1 sL1 sC1, .int .i64 n1] ∧
  C.bolelaw03_lent imageA1 imageL1 imageC1 h2 fun r2 h3 =>
  ∃ (sA2 : Option Addr) (sL2 : Nat) (sC2 : Nat) (sA3 : Option Addr) (sL3 : Nat) (sC3 : Nat), r2 = .tuple #[.slice sA2 sL2 sC2, .slice sA3 sL3 sC3] ∧
  C.bolelaw03_copies actsA1 actsL1 actsC1 h3 fun r3 h4 =>
  ∃ (sA4 : Option Addr) (sL4 : Nat) (sC4 : Nat) (sA5 : Option Addr) (sL5 : Nat) (sC5 : Nat), r3 = .tuple #[.slice sA4 sL4 sC4, .slice sA5 sL5 sC5] ∧
  C.bolelaw03_marks keepA1 keepL1 keepC1 h4 fun r4 h5 =>
  ∃ (sA6 : Option Addr) (sL6 : Nat) (sC6 : Nat) (sA7 : Option Addr) (sL7 : Nat) (sC7 : Nat), r4 = .tuple #[.slice sA6 sL6 sC6, .slice sA7 sL7 sC7] ∧
  C.adisk_After sA2 sL2 sC2 sA4 sL4 sC4 sA6 sL6 sC6 h5 fun r5 h6 =>
  ∃ (sA8 : Option Addr) (sL8 : Nat) (sC8 : Nat) (n2 : Int), r5 = .tuple #[.slice sA8 sL8 sC8, .int .i64 n2] ∧
  C.adisk_After sA2 sL2 sC2 sA4 sL4 sC4 sA6 sL6 sC6 h6 fun r6 h7 =>
  ∃ (sA9 : Option Addr) (sL9 : Nat) (sC9 : Nat) (n3 : Int), r6 = .tuple #[.slice sA9 sL9 sC9, .int .i64 n3] ∧
  ∃ bs1 : List UInt8, StrAt h7 sA8 sL8 bs1 ∧
  ∃ bs2 : List UInt8, StrAt h7 sA1 sL1 bs2 ∧
  bif (!((mkStr bs1).toList == (mkStr bs2).toList)) then (
  K (.bool false) h7) else (
  ∃ bs3 : List UInt8, StrAt h7 sA9 sL9 bs3 ∧
  ∃ bs4 : List UInt8, StrAt h7 sA1 sL1 bs4 ∧
  bif (!((mkStr bs3).toList == (mkStr bs4).toList)) then (
  K (.bool false) h7) else (
  bif (n2 != n1) then (
  K (.bool false) h7) else (
  bif (n3 != n1) then (
  K (.bool false) h7) else (
  bolelaw03_AdiskAfters.k1 imageA1 imageL1 imageC1 actsA1 actsL1 keepA1 keepL1 keepC1 sA1 sL1 sA2 sL2 sC2 sA3 sL3 sC3 sA4 sL4 sC4 sA5 sL5 sA6 sL6 sC6 sA7 sL7 sC7 sA8 sL8 sC8 h7 sA9 sL9 K))))
def bolelaw03_AdiskAfters.lo : Nat → List Nat × List (Nat × Ty) := fun n => match n with | 10 => ([0, 1, 2, 7, 9, 10, 11, 12, 13, 14, 15, 17, 82], [(83, .int .i64)]) | 18 => ([0, 1, 2, 9, 10, 11, 12, 13, 14, 112], [(113, .int .i64)]) | _ => ([], [])
def bolelaw03_AdiskAfters.od : Nat → Od := fun n => match n with | 20 => (.op 0 [] (.op 1 [] (.op 2 [] (.op 3 [] (.op 4 [] (.op 5 [] (.op 6 [] (.op 7 [] (.op 8 [] (.op 9 [] (.op 10 [] (.op 11 [] (.op 12 [] (.op 13 [] (.op 14 [] (.op 15 [] (.op 16 [] (.op 17 [] (.op 18 [] (.op 19 [] (.op 20 [] (.op 21 [] (.op 22 [] (.op 23 [] (.op 24 [] (.op 25 [] (.op 26 [] (.op 27 [] (.op 28 [] (.op 29 [] (.op 30 [] (.op 31 [] (.op 32 [] (.op 33 [] (.op 34 [] (.op 35 [] (.op 36 [] .nil))))))))))))))))))))))))))))))))))))) | _ => .nil
theorem bolelaw03_AdiskAfters.eq (imageA1 : Option Addr) (imageL1 : Nat) (imageC1 : Nat) (actsA1 : Option Addr) (actsL1 : Nat) (actsC1 : Nat) (keepA1 : Option Addr) (keepL1 : Nat) (keepC1 : Nat) (K : Value → Heap → Prop) (h : Heap) : fnX (cx bolelaw03_AdiskAfters.lo bolelaw03_AdiskAfters.od) Try.f7 (Try.f7.body.getD .skip) [.slice imageA1 imageL1 imageC1, .slice actsA1 actsL1 actsC1, .slice keepA1 keepL1 keepC1] K h = bolelaw03_AdiskAfters imageA1 imageL1 imageC1 actsA1 actsL1 actsC1 keepA1 keepL1 keepC1 K h := by kernel_rfl
theorem bolelaw03_AdiskAfters.chk : fnOk (cx bolelaw03_AdiskAfters.lo bolelaw03_AdiskAfters.od) Try.f7 (Try.f7.body.getD .skip) 3 = true := by kernel_rfl
theorem bolelaw03_AdiskAfters.ok {imageA1 : Option Addr} {imageL1 : Nat} {imageC1 : Nat} {actsA1 : Option Addr} {actsL1 : Nat} {actsC1 : Nat} {keepA1 : Option Addr} {keepL1 : Nat} {keepC1 : Nat} {K : Value → Heap → Prop} {h : Heap} (hx : bolelaw03_AdiskAfters imageA1 imageL1 imageC1 actsA1 actsL1 actsC1 keepA1 keepL1 keepC1 K h) : C.bolelaw03_AdiskAfters imageA1 imageL1 imageC1 actsA1 actsL1 actsC1 keepA1 keepL1 keepC1 h K :=
  fn_to (cxOk _ _) Try.func7 (by kernel_rfl) bolelaw03_AdiskAfters.chk (by rw [bolelaw03_AdiskAfters.eq]; exact hx)

-- 8
def bolelaw03_AdiskPlays.k3 (h3 : Heap) (h9 : Heap) (n5 : Int) (h11 : Heap) (I1 : Int → Heap → Prop) (M1 : Int → Heap → Nat) (h13 : Heap) (i1 : Int) (K : Value → Heap → Prop) : Prop :=
  (0 ≤ i1 ∧ i1 < (2 : Int)) ∧
  ∃ (q3 : Option Addr), cellOf h13 (Addr.add (Addr.add ⟨h3.size, 0, none⟩ ((Int.toNat i1) * 2)) 0) = some (.pointer q3) ∧
  bif (Option.isNone q3) then (
  I1 (IntKind.wrap .i64 (n5 + 1)) h13 ∧ M1 (IntKind.wrap .i64 (n5 + 1)) h13 < M1 n5 h11) else (
  ∃ (n6 : Int), cellOf h13 (Addr.add ⟨h11.size, 0, none⟩ 0) = some (.int .i64 n6) ∧
  bif (n6 == 10) then (
  (0 ≤ i1 ∧ i1 < (2 : Int)) ∧
  ∃ (q4 : Option Addr), cellOf h13 (Addr.add (Addr.add ⟨h3.size, 0, none⟩ ((Int.toNat i1) * 2)) 1) = some (.pointer q4) ∧
  C.boleref03_Disk_Image q4 h13 fun r4 h14 =>
  ∃ (sA1 : Option Addr) (sL1 : Nat) (sC1 : Nat), r4 = .slice sA1 sL1 sC1 ∧
  C.bolelaw03_opened sA1 sL1 sC1 h14 fun r5 h15 =>
  ∃ (cs4 : List Value) (b3 : Bool), r5 = .tuple #[.agg ⟨cs4⟩, .bool b3] ∧
  NewRow z32 32 cs4 2 h15 fun h17 =>
  bif (!b3) then (
  K (.bool false) h17) else (
  ∃ (q5 : Option Addr), cellOf h17 (Addr.add ⟨h15.size, 0, none⟩ 0) = some (.pointer q5) ∧
  bif (Option.isNone q5) then (
  K (.bool false) h17) else (
  ∃ cs5 : List Value, List.length cs5 = 2 ∧ Cells h17 ⟨h15.size, 0, none⟩ cs5 ∧
  (0 ≤ i1 ∧ i1 < (2 : Int)) ∧
  PutRow (Addr.add ⟨h3.size, 0, none⟩ ((Int.toNat i1) * 2)) cs5 2 h17 fun h18 =>
  I1 (IntKind.wrap .i64 (n5 + 1)) h18 ∧ M1 (IntKind.wrap .i64 (n5 + 1)) h18 < M1 n5 h11))) else (
  (0 ≤ i1 ∧ i1 < (2 : Int)) ∧
  ∃ cs6 : List Value, List.length cs6 = 2 ∧ Cells h13 (Addr.add ⟨h3.size, 0, none⟩ ((Int.toNat i1) * 2)) cs6 ∧
  ∃ cs7 : List Value, List.length cs7 = 5 ∧ Cells h13 ⟨h11.size, 0, none⟩ cs7 ∧
  C.bolelaw03_Pair_plays cs6 cs7 (some ⟨h9.size, 0, none⟩) h13 fun r6 h19 =>
  ∃ (b4 : Bool), r6 = .bool b4 ∧
  bif (!b4) then (
  K (.bool false) h19) else (
  I1 (IntKind.wrap .i64 (n5 + 1)) h19 ∧ M1 (IntKind.wrap .i64 (n5 + 1)) h19 < M1 n5 h11)))
def bolelaw03_AdiskPlays.k2 (imageA1 : Option Addr) (imageL1 : Nat) (imageC1 : Nat) (scriptA1 : Option Addr) (scriptL1 : Nat) (q1 : Option Addr) (h3 : Heap) (q2 : Option Addr) (K : Value → Heap → Prop) : Prop :=
  New z77 77 h3 fun h4 =>
  (0 ≤ (0 : Int) ∧ 0 < (2 : Int)) ∧
  PutRow (Addr.add ⟨h3.size, 0, none⟩ ((Int.toNat 0) * 2)) [.pointer q1, .pointer q2] 2 h4 fun h5 =>
  C.bolelaw03_opened imageA1 imageL1 imageC1 h5 fun r3 h6 =>
  ∃ (cs1 : List Value) (b1 : Bool), r3 = .tuple #[.agg ⟨cs1⟩, .bool b1] ∧
  NewRow z32 32 cs1 2 h6 fun h8 =>
  bif (!b1) then (
  K (.bool false) h8) else (
  ∃ cs2 : List Value, List.length cs2 = 2 ∧ Cells h8 ⟨h6.size, 0, none⟩ cs2 ∧
  (0 ≤ (1 : Int) ∧ 1 < (2 : Int)) ∧
  PutRow (Addr.add ⟨h3.size, 0, none⟩ ((Int.toNat 1) * 2)) cs2 2 h8 fun h9 =>
  New [.slice none 0 0, .slice none 0 0, .slice none 0 0, .slice none 0 0, .slice none 0 0] 83 h9 fun h10 =>
  ∃ (I1 : Int → Heap → Prop) (M1 : Int → Heap → Nat), I1 0 h10 ∧
  ∀ (n5 : Int), ∀ h11 : Heap, I1 n5 h11 →
  bif (decide (n5 < (scriptL1 : Int))) then (
  (0 ≤ n5 ∧ n5 < (scriptL1 : Int)) ∧
  onSome scriptA1 fun p1 =>
  ∃ cs3 : List Value, List.length cs3 = 5 ∧ Cells h11 (Addr.add p1 ((Int.toNat n5) * 5)) cs3 ∧
  NewRow z85 85 cs3 5 h11 fun h13 =>
  ∃ (b2 : Bool), cellOf h13 (Addr.add ⟨h11.size, 0, none⟩ 1) = some (.bool b2) ∧
  bif b2 then (
  bolelaw03_AdiskPlays.k3 h3 h9 n5 h11 I1 M1 h13 1 K) else (
  bolelaw03_AdiskPlays.k3 h3 h9 n5 h11 I1 M1 h13 0 K)) else (
  ∃ cs8 : List Value, List.length cs8 = 4 ∧ Cells h11 ⟨h3.size, 0, none⟩ cs8 ∧
  ∃ (I2 : Int → Heap → Prop) (M2 : Int → Heap → Nat), I2 0 h11 ∧
  ∀ (n7 : Int), ∀ h20 : Heap, I2 n7 h20 →
  bif (decide (n7 < 2)) then (
  (0 ≤ n7 ∧ n7 < (2 : Int)) ∧
  NewRow z32 32 (List.take 2 (List.drop ((Int.toNat n7) * 2) cs8)) 2 h20 fun h22 =>
  ∃ (q6 : Option Addr), cellOf h22 (Addr.add ⟨h20.size, 0, none⟩ 0) = some (.pointer q6) ∧
  bif (Option.isNone q6) then (
  I2 (IntKind.wrap .i64 (n7 + 1)) h22 ∧ M2 (IntKind.wrap .i64 (n7 + 1)) h22 < M2 n7 h20) else (
  ∃ cs9 : List Value, List.length cs9 = 2 ∧ Cells h22 ⟨h20.size, 0, none⟩ cs9 ∧
  C.bolelaw03_Pair_asks cs9 h22 fun r7 h23 =>
  ∃ (b5 : Bool), r7 = .bool b5 ∧
  bif (!b5) then (
  K (.bool false) h23) else (
  ∃ cs10 : List Value, List.length cs10 = 2 ∧ Cells h23 ⟨h20.size, 0, none⟩ cs10 ∧
  C.bolelaw03_Pair_looks cs10 [.int .i64 6, .bool false, .int .i64 0, .slice none 0 0, .slice none 0 0] (some ⟨h9.size, 0, none⟩) h23 fun r8 h24 =>
  ∃ (b6 : Bool), r8 = .bool b6 ∧
  bif (!b6) then (
  K (.bool false) h24) else (
  ∃ cs11 : List Value, List.length cs11 = 2 ∧ Cells h24 ⟨h20.size, 0, none⟩ cs11 ∧
  C.bolelaw03_Pair_looks cs11 [.int .i64 8, .bool false, .int .i64 0, .slice none 0 0, .slice none 0 0] (some ⟨h9.size, 0, none⟩) h24 fun r9 h25 =>
  ∃ (b7 : Bool), r9 = .bool b7 ∧
  bif (!b7) then (
  K (.bool false) h25) else (
  ∃ cs12 : List Value, List.length cs12 = 2 ∧ Cells h25 ⟨h20.size, 0, none⟩ cs12 ∧
  C.bolelaw03_Pair_looks cs12 [.int .i64 9, .bool false, .int .i64 0, .slice none 0 0, .slice none 0 0] (some ⟨h9.size, 0, none⟩) h25 fun r10 h26 =>
  ∃ (b8 : Bool), r10 = .bool b8 ∧
  bif (!b8) then (
  K (.bool false) h26) else (
  I2 (IntKind.wrap .i64 (n7 + 1)) h26 ∧ M2 (IntKind.wrap .i64 (n7 + 1)) h26 < M2 n7 h20)))))) else (
  C.bolelaw03_Book_holds (some ⟨h9.size, 0, none⟩) h20 fun r11 h27 =>
  ∃ (b9 : Bool), r11 = .bool b9 ∧
  K (.bool b9) h27)))
def bolelaw03_AdiskPlays.k1 (imageA1 : Option Addr) (imageL1 : Nat) (imageC1 : Nat) (scriptA1 : Option Addr) (scriptL1 : Nat) (h1 : Heap) (n2 : Int) (K : Value → Heap → Prop) : Prop :=
  C.adisk_New n2 h1 fun r1 h2 =>
  ∃ (q1 : Option Addr) (n3 : Int), r1 = .tuple #[.pointer q1, .int .i64 n3] ∧
  C.boleref03_New n2 h2 fun r2 h3 =>
  ∃ (q2 : Option Addr) (n4 : Int), r2 = .tuple #[.pointer q2, .int .i64 n4] ∧
  bif (n3 != n4) then (
  K (.bool false) h3) else (
  bif (!((Option.isNone q1) == (Option.isNone q2))) then (
  K (.bool false) h3) else (
  bolelaw03_AdiskPlays.k2 imageA1 imageL1 imageC1 scriptA1 scriptL1 q1 h3 q2 K))
def bolelaw03_AdiskPlays (n1 : Int) (imageA1 : Option Addr) (imageL1 : Nat) (imageC1 : Nat) (scriptA1 : Option Addr) (scriptL1 : Nat) (scriptC1 : Nat) (K : Value → Heap → Prop) (h1 : Heap) : Prop :=
  bif (decide ((Int.tmod n1 40) < 0)) then (
  bolelaw03_AdiskPlays.k1 imageA1 imageL1 imageC1 scriptA1 scriptL1 h1 (IntKind.wrap .i64 (0 - (Int.tmod n1 40))) K) else (
  bolelaw03_AdiskPlays.k1 imageA1 imageL1 imageC1 scriptA1 scriptL1 h1 (Int.tmod n1 40) K)
def bolelaw03_AdiskPlays.lo : Nat → List Nat × List (Nat × Ty) := fun n => match n with | 16 => ([11, 14, 63, 64], [(65, .int .i64)]) | 31 => ([14, 106], [(107, .int .i64)]) | _ => ([], [])
def bolelaw03_AdiskPlays.od : Nat → Od := fun n => match n with | 27 => (.op 0 [] (.op 1 [] (.op 2 [] (.op 3 [] (.op 4 [] (.op 5 [] (.op 6 [] .nil))))))) | _ => .nil
theorem bolelaw03_AdiskPlays.eq (n1 : Int) (imageA1 : Option Addr) (imageL1 : Nat) (imageC1 : Nat) (scriptA1 : Option Addr) (scriptL1 : Nat) (scriptC1 : Nat) (K : Value → Heap → Prop) (h : Heap) : fnX (cx bolelaw03_AdiskPlays.lo bolelaw03_AdiskPlays.od) Try.f8 (Try.f8.body.getD .skip) [.int .i64 n1, .slice imageA1 imageL1 imageC1, .slice scriptA1 scriptL1 scriptC1] K h = bolelaw03_AdiskPlays n1 imageA1 imageL1 imageC1 scriptA1 scriptL1 scriptC1 K h := by kernel_rfl
theorem bolelaw03_AdiskPlays.chk : fnOk (cx bolelaw03_AdiskPlays.lo bolelaw03_AdiskPlays.od) Try.f8 (Try.f8.body.getD .skip) 3 = true := by kernel_rfl
theorem bolelaw03_AdiskPlays.ok {n1 : Int} {imageA1 : Option Addr} {imageL1 : Nat} {imageC1 : Nat} {scriptA1 : Option Addr} {scriptL1 : Nat} {scriptC1 : Nat} {K : Value → Heap → Prop} {h : Heap} (hx : bolelaw03_AdiskPlays n1 imageA1 imageL1 imageC1 scriptA1 scriptL1 scriptC1 K h) : C.bolelaw03_AdiskPlays n1 imageA1 imageL1 imageC1 scriptA1 scriptL1 scriptC1 h K :=
  fn_to (cxOk _ _) Try.func8 (by kernel_rfl) bolelaw03_AdiskPlays.chk (by rw [bolelaw03_AdiskPlays.eq]; exact hx)

-- 9
def bolelaw03_AdiskSplits.k1 (firstA1 : Option Addr) (firstL1 : Nat) (q1 : Option Addr) (aA1 : Option Addr) (aL1 : Nat) (aC1 : Nat) (i1 : Int) (h3 : Heap) (I1 : Option Addr → Nat → Nat → Int → Heap → Prop) (M1 : Option Addr → Nat → Nat → Int → Heap → Nat) (K : Value → Heap → Prop) : Prop :=
  (0 ≤ i1 ∧ i1 < (firstL1 : Int)) ∧
  onSome firstA1 fun p1 =>
  ∃ cs1 : List Value, List.length cs1 = 3 ∧ Cells h3 (Addr.add p1 ((Int.toNat i1) * 3)) cs1 ∧
  C.adisk_Disk_Blocks q1 h3 fun r2 h4 =>
  ∃ (n2 : Int), r2 = .int .i64 n2 ∧
  (List.length (cs1 : List Value) = 3 ∧ Cells h4 (Addr.add p1 ((Int.toNat i1) * 3)) cs1) ∧
  C.bolelaw03_act cs1 n2 h4 fun r3 h5 =>
  ∃ (cs2 : List Value), r3 = .agg ⟨cs2⟩ ∧
  List.length (cs2 : List Value) = 3 ∧
  New cs2 70 h5 fun h6 =>
  ∃ new1 : List Value, List.length new1 = 1 * 3 ∧ SlCells h6 (some ⟨h5.size, 0, none⟩) new1 ∧ (∀ v ∈ new1, v.oneCell' = true) ∧
  AppendP ti70 70 aA1 aL1 aC1 1 new1 h6 fun sA2 sL2 sC2 h7 =>
  I1 sA2 sL2 sC2 (IntKind.wrap .i64 (i1 + 1)) h7 ∧ M1 sA2 sL2 sC2 (IntKind.wrap .i64 (i1 + 1)) h7 < M1 aA1 aL1 aC1 i1 h3
def bolelaw03_AdiskSplits.k3 (secondA1 : Option Addr) (secondL1 : Nat) (q1 : Option Addr) (bA1 : Option Addr) (bL1 : Nat) (bC1 : Nat) (i2 : Int) (h11 : Heap) (I2 : Option Addr → Nat → Nat → Int → Heap → Prop) (M2 : Option Addr → Nat → Nat → Int → Heap → Nat) (K : Value → Heap → Prop) : Prop :=
  (0 ≤ i2 ∧ i2 < (secondL1 : Int)) ∧
  onSome secondA1 fun p2 =>
  ∃ cs3 : List Value, List.length cs3 = 3 ∧ Cells h11 (Addr.add p2 ((Int.toNat i2) * 3)) cs3 ∧
  C.adisk_Disk_Blocks q1 h11 fun r4 h12 =>
  ∃ (n3 : Int), r4 = .int .i64 n3 ∧
  (List.length (cs3 : List Value) = 3 ∧ Cells h12 (Addr.add p2 ((Int.toNat i2) * 3)) cs3) ∧
  C.bolelaw03_act cs3 n3 h12 fun r5 h13 =>
  ∃ (cs4 : List Value), r5 = .agg ⟨cs4⟩ ∧
  List.length (cs4 : List Value) = 3 ∧
  New cs4 70 h13 fun h14 =>
  ∃ new3 : List Value, List.length new3 = 1 * 3 ∧ SlCells h14 (some ⟨h13.size, 0, none⟩) new3 ∧ (∀ v ∈ new3, v.oneCell' = true) ∧
  AppendP ti70 70 bA1 bL1 bC1 1 new3 h14 fun sA4 sL4 sC4 h15 =>
  I2 sA4 sL4 sC4 (IntKind.wrap .i64 (i2 + 1)) h15 ∧ M2 sA4 sL4 sC4 (IntKind.wrap .i64 (i2 + 1)) h15 < M2 bA1 bL1 bC1 i2 h11
def bolelaw03_AdiskSplits.k4 (keepA1 : Option Addr) (keepL1 : Nat) (keepC1 : Nat) (sA1 : Option Addr) (sL1 : Nat) (sC1 : Nat) (sA3 : Option Addr) (sL3 : Nat) (sC3 : Nat) (bA2 : Option Addr) (bL2 : Nat) (bC2 : Nat) (h16 : Heap) (K : Value → Heap → Prop) : Prop :=
  C.adisk_After sA1 sL1 sC1 sA3 sL3 sC3 keepA1 keepL1 keepC1 h16 fun r6 h17 =>
  ∃ (sA5 : Option Addr) (sL5 : Nat) (sC5 : Nat) (n4 : Int), r6 = .tuple #[.slice sA5 sL5 sC5, .int .i64 n4] ∧
  bif (n4 != 0) then (
  K (.bool false) h17) else (
  C.adisk_After sA5 sL5 sC5 bA2 bL2 bC2 keepA1 keepL1 keepC1 h17 fun r7 h18 =>
  ∃ (sA6 : Option Addr) (sL6 : Nat) (sC6 : Nat) (n5 : Int), r7 = .tuple #[.slice sA6 sL6 sC6, .int .i64 n5] ∧
  ∃ new4 : List Value, List.length new4 = bL2 * 3 ∧ SlCells h18 bA2 new4 ∧ (∀ v ∈ new4, v.oneCell' = true) ∧
  AppendP ti70 70 sA3 sL3 sC3 bL2 new4 h18 fun sA7 sL7 sC7 h19 =>
  C.adisk_After sA1 sL1 sC1 sA7 sL7 sC7 keepA1 keepL1 keepC1 h19 fun r8 h20 =>
  ∃ (sA8 : Option Addr) (sL8 : Nat) (sC8 : Nat) (n6 : Int), r8 = .tuple #[.slice sA8 sL8 sC8, .int .i64 n6] ∧
  bif (n5 == 0) then (
  bif (n6 == 0) then (
  ∃ bs1 : List UInt8, StrAt h20 sA6 sL6 bs1 ∧
  ∃ bs2 : List UInt8, StrAt h20 sA8 sL8 bs2 ∧
  bif ((mkStr bs1).toList == (mkStr bs2).toList) then (
  K (.bool ((sL6 : Int) == (sL1 : Int))) h20) else (
  K (.bool false) h20)) else (
  K (.bool false) h20)) else (
  K (.bool false) h20))
def bolelaw03_AdiskSplits.k2 (secondA1 : Option Addr) (secondL1 : Nat) (keepA1 : Option Addr) (keepL1 : Nat) (keepC1 : Nat) (q1 : Option Addr) (sA1 : Option Addr) (sL1 : Nat) (sC1 : Nat) (aA2 : Option Addr) (aL2 : Nat) (aC2 : Nat) (h8 : Heap) (K : Value → Heap → Prop) : Prop :=
  List.length ([.int .i64 2, .int .i64 0, .slice none 0 0] : List Value) = 3 ∧
  New [.int .i64 2, .int .i64 0, .slice none 0 0] 70 h8 fun h9 =>
  ∃ new2 : List Value, List.length new2 = 1 * 3 ∧ SlCells h9 (some ⟨h8.size, 0, none⟩) new2 ∧ (∀ v ∈ new2, v.oneCell' = true) ∧
  AppendP ti70 70 aA2 aL2 aC2 1 new2 h9 fun sA3 sL3 sC3 h10 =>
  ∃ (I2 : Option Addr → Nat → Nat → Int → Heap → Prop) (M2 : Option Addr → Nat → Nat → Int → Heap → Nat), I2 none 0 0 0 h10 ∧
  ∀ (bA1 : Option Addr) (bL1 : Nat) (bC1 : Nat) (i2 : Int), ∀ h11 : Heap, I2 bA1 bL1 bC1 i2 h11 →
  bif (decide (i2 < (secondL1 : Int))) then (
  bif (decide (i2 < 60)) then (
  bolelaw03_AdiskSplits.k3 secondA1 secondL1 q1 bA1 bL1 bC1 i2 h11 I2 M2 K) else (
  bolelaw03_AdiskSplits.k4 keepA1 keepL1 keepC1 sA1 sL1 sC1 sA3 sL3 sC3 bA1 bL1 bC1 h11 K)) else (
  bolelaw03_AdiskSplits.k4 keepA1 keepL1 keepC1 sA1 sL1 sC1 sA3 sL3 sC3 bA1 bL1 bC1 h11 K)
def bolelaw03_AdiskSplits (n1 : Int) (firstA1 : Option Addr) (firstL1 : Nat) (firstC1 : Nat) (secondA1 : Option Addr) (secondL1 : Nat) (secondC1 : Nat) (keepA1 : Option Addr) (keepL1 : Nat) (keepC1 : Nat) (K : Value → Heap → Prop) (h1 : Heap) : Prop :=
  C.bolelaw03_fresh n1 h1 fun r1 h2 =>
  ∃ (q1 : Option Addr) (sA1 : Option Addr) (sL1 : Nat) (sC1 : Nat), r1 = .tuple #[.pointer q1, .slice sA1 sL1 sC1] ∧
  bif (Option.isNone q1) then (
  K (.bool false) h2) else (
  ∃ (I1 : Option Addr → Nat → Nat → Int → Heap → Prop) (M1 : Option Addr → Nat → Nat → Int → Heap → Nat), I1 none 0 0 0 h2 ∧
  ∀ (aA1 : Option Addr) (aL1 : Nat) (aC1 : Nat) (i1 : Int), ∀ h3 : Heap, I1 aA1 aL1 aC1 i1 h3 →
  bif (decide (i1 < (firstL1 : Int))) then (
  bif (decide (i1 < 60)) then (
  bolelaw03_AdiskSplits.k1 firstA1 firstL1 q1 aA1 aL1 aC1 i1 h3 I1 M1 K) else (
  bolelaw03_AdiskSplits.k2 secondA1 secondL1 keepA1 keepL1 keepC1 q1 sA1 sL1 sC1 aA1 aL1 aC1 h3 K)) else (
  bolelaw03_AdiskSplits.k2 secondA1 secondL1 keepA1 keepL1 keepC1 q1 sA1 sL1 sC1 aA1 aL1 aC1 h3 K))
def bolelaw03_AdiskSplits.lo : Nat → List Nat × List (Nat × Ty) := fun n => match n with | 7 => ([1, 2, 3, 9, 10, 12], [(11, .slice), (13, .int .i64)]) | 12 => ([2, 3, 9, 10, 11], [(12, .slice), (14, .int .i64)]) | _ => ([], [])
def bolelaw03_AdiskSplits.od : Nat → Od := fun n => match n with | 9 => (.op 0 [] (.op 1 [] (.op 2 [] (.op 3 [] (.op 4 [] (.op 5 [] (.op 6 [4] (.op 7 [] (.op 8 [] (.op 9 [] (.op 10 [] .nil))))))))))) | 14 => (.op 0 [] (.op 1 [] (.op 2 [] (.op 3 [] (.op 4 [] (.op 5 [] (.op 6 [4] (.op 7 [] (.op 8 [] (.op 9 [] (.op 10 [] .nil))))))))))) | _ => .nil
theorem bolelaw03_AdiskSplits.eq (n1 : Int) (firstA1 : Option Addr) (firstL1 : Nat) (firstC1 : Nat) (secondA1 : Option Addr) (secondL1 : Nat) (secondC1 : Nat) (keepA1 : Option Addr) (keepL1 : Nat) (keepC1 : Nat) (K : Value → Heap → Prop) (h : Heap) : fnX (cx bolelaw03_AdiskSplits.lo bolelaw03_AdiskSplits.od) Try.f9 (Try.f9.body.getD .skip) [.int .i64 n1, .slice firstA1 firstL1 firstC1, .slice secondA1 secondL1 secondC1, .slice keepA1 keepL1 keepC1] K h = bolelaw03_AdiskSplits n1 firstA1 firstL1 firstC1 secondA1 secondL1 secondC1 keepA1 keepL1 keepC1 K h := by kernel_rfl
theorem bolelaw03_AdiskSplits.chk : fnOk (cx bolelaw03_AdiskSplits.lo bolelaw03_AdiskSplits.od) Try.f9 (Try.f9.body.getD .skip) 4 = true := by kernel_rfl
theorem bolelaw03_AdiskSplits.ok {n1 : Int} {firstA1 : Option Addr} {firstL1 : Nat} {firstC1 : Nat} {secondA1 : Option Addr} {secondL1 : Nat} {secondC1 : Nat} {keepA1 : Option Addr} {keepL1 : Nat} {keepC1 : Nat} {K : Value → Heap → Prop} {h : Heap} (hx : bolelaw03_AdiskSplits n1 firstA1 firstL1 firstC1 secondA1 secondL1 secondC1 keepA1 keepL1 keepC1 K h) : C.bolelaw03_AdiskSplits n1 firstA1 firstL1 firstC1 secondA1 secondL1 secondC1 keepA1 keepL1 keepC1 h K :=
  fn_to (cxOk _ _) Try.func9 (by kernel_rfl) bolelaw03_AdiskSplits.chk (by rw [bolelaw03_AdiskSplits.eq]; exact hx)
end Go.Proofs.Ytnbfaokpaiiojaa.W
