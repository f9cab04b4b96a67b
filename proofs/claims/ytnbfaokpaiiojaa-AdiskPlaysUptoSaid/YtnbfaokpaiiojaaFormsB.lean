/-
  WHAT THE FUNCTIONS COMPUTE, as formulas; each held against the loaded code by the kernel. Written by program (gen.py).
-/
import Derived.Test.YtnbfaokpaiiojaaTab
namespace Go.Proofs.Ytnbfaokpaiiojaa.W
open Go Go.Proofs Go.Proofs.Ytnbfaokpaiiojaa.Wx
-- 10
def bolelaw03_AdiskCuts.k3 (q1 : Option Addr) (n2 : Int) (acts1 : Int) (n4 : Int) (h6 : Heap) (I1 : Int → Int → Heap → Prop) (M1 : Int → Int → Heap → Nat) (h12 : Heap) (K : Value → Heap → Prop) : Prop :=
  bif ((IntKind.wrap .i64 (n4 + 1)) == (IntKind.wrap .i64 (1 + n2))) then (
  ∃ (b2 : Bool), cellOf h12 (Addr.add ⟨h6.size, 0, none⟩ 2) = some (.bool b2) ∧
  bif (!b2) then (
  ∃ cs4 : List Value, List.length cs4 = 3 ∧ Cells h12 ⟨h6.size, 0, none⟩ cs4 ∧
  C.bolelaw03_do q1 cs4 h12 fun r8 h13 =>
  ∃ (n7 : Int), r8 = .int .i64 n7 ∧
  bif (n7 != 0) then (
  K (.bool false) h13) else (
  I1 (IntKind.wrap .i64 (acts1 + 1)) (IntKind.wrap .i64 (n4 + 1)) h13 ∧ M1 (IntKind.wrap .i64 (acts1 + 1)) (IntKind.wrap .i64 (n4 + 1)) h13 < M1 acts1 n4 h6)) else (
  I1 acts1 (IntKind.wrap .i64 (n4 + 1)) h12 ∧ M1 acts1 (IntKind.wrap .i64 (n4 + 1)) h12 < M1 acts1 n4 h6)) else (
  I1 acts1 (IntKind.wrap .i64 (n4 + 1)) h12 ∧ M1 acts1 (IntKind.wrap .i64 (n4 + 1)) h12 < M1 acts1 n4 h6)
def bolelaw03_AdiskCuts.k6 (q2 : Option Addr) (sA5 : Option Addr) (sL5 : Nat) (n8 : Int) (h22 : Heap) (n9 : Int) (n10 : Int) (steps1 : Int) (K : Value → Heap → Prop) : Prop :=
  bif (n8 == 0) then (
  ∃ bs1 : List UInt8, StrAt h22 sA5 sL5 bs1 ∧
  C.adisk_Disk_Image q2 h22 fun r16 h23 =>
  ∃ (sA6 : Option Addr) (sL6 : Nat) (sC6 : Nat), r16 = .slice sA6 sL6 sC6 ∧
  StrAt h23 sA5 sL5 (ByteArray.toList (mkStr bs1)) ∧
  ∃ bs2 : List UInt8, StrAt h23 sA6 sL6 bs2 ∧
  bif ((mkStr bs2).toList == (mkStr bs1).toList) then (
  K (.bool ((IntKind.wrap .i64 (n9 + n10)) == steps1)) h23) else (
  K (.bool false) h23)) else (
  K (.bool false) h22)
def bolelaw03_AdiskCuts.k5 (keepA1 : Option Addr) (keepL1 : Nat) (keepC1 : Nat) (sA1 : Option Addr) (sL1 : Nat) (sC1 : Nat) (q2 : Option Addr) (putsL2 : Nat) (n2 : Int) (sA3 : Option Addr) (sL3 : Nat) (sC3 : Nat) (h20 : Heap) (K : Value → Heap → Prop) : Prop :=
  C.adisk_After sA1 sL1 sC1 sA3 sL3 sC3 keepA1 keepL1 keepC1 h20 fun r14 h21 =>
  ∃ (sA5 : Option Addr) (sL5 : Nat) (sC5 : Nat) (n8 : Int), r14 = .tuple #[.slice sA5 sL5 sC5, .int .i64 n8] ∧
  C.adisk_Disk_Steps q2 h21 fun r15 h22 =>
  ∃ (n9 : Int) (n10 : Int), r15 = .tuple #[.int .i64 n9, .int .i64 n10] ∧
  bif (decide ((IntKind.wrap .i64 (1 + n2)) < (putsL2 : Int))) then (
  bolelaw03_AdiskCuts.k6 q2 sA5 sL5 n8 h22 n9 n10 (IntKind.wrap .i64 (1 + n2)) K) else (
  bolelaw03_AdiskCuts.k6 q2 sA5 sL5 n8 h22 n9 n10 (putsL2 : Int) K)
def bolelaw03_AdiskCuts.k4 (keepA1 : Option Addr) (keepL1 : Nat) (keepC1 : Nat) (sA1 : Option Addr) (sL1 : Nat) (sC1 : Nat) (q2 : Option Addr) (putsL2 : Nat) (n2 : Int) (sA3 : Option Addr) (sL3 : Nat) (sC3 : Nat) (h17 : Heap) (K : Value → Heap → Prop) : Prop :=
  bif (decide ((IntKind.wrap .i64 (1 + n2)) > (putsL2 : Int))) then (
  C.adisk_Disk_Down q2 h17 fun r12 h18 =>
  ∃ (b4 : Bool), r12 = .bool b4 ∧
  bif b4 then (
  K (.bool false) h18) else (
  C.adisk_Disk_Crash q2 keepA1 keepL1 keepC1 h18 fun r13 h19 =>
  r13 = .tuple #[] ∧
  bolelaw03_AdiskCuts.k5 keepA1 keepL1 keepC1 sA1 sL1 sC1 q2 putsL2 n2 sA3 sL3 sC3 h19 K)) else (
  bolelaw03_AdiskCuts.k5 keepA1 keepL1 keepC1 sA1 sL1 sC1 q2 putsL2 n2 sA3 sL3 sC3 h17 K)
def bolelaw03_AdiskCuts.k2 (at1 : Int) (keepA1 : Option Addr) (keepL1 : Nat) (keepC1 : Nat) (q1 : Option Addr) (sA1 : Option Addr) (sL1 : Nat) (sC1 : Nat) (h3 : Heap) (q2 : Option Addr) (putsA2 : Option Addr) (putsL2 : Nat) (putsC2 : Nat) (K : Value → Heap → Prop) : Prop :=
  C.bolelaw03_mod at1 (IntKind.wrap .i64 ((putsL2 : Int) + 3)) h3 fun r3 h4 =>
  ∃ (n2 : Int), r3 = .int .i64 n2 ∧
  C.adisk_Disk_Arm q2 [.int .i64 (IntKind.wrap .i64 (1 + n2)), .slice keepA1 keepL1 keepC1] h4 fun r4 h5 =>
  ∃ (n3 : Int), r4 = .int .i64 n3 ∧
  bif (n3 != 0) then (
  K (.bool false) h5) else (
  ∃ (I1 : Int → Int → Heap → Prop) (M1 : Int → Int → Heap → Nat), I1 0 0 h5 ∧
  ∀ (acts1 : Int) (n4 : Int), ∀ h6 : Heap, I1 acts1 n4 h6 →
  bif (decide (n4 < (putsL2 : Int))) then (
  (0 ≤ n4 ∧ n4 < (putsL2 : Int)) ∧
  onSome putsA2 fun p1 =>
  ∃ cs1 : List Value, List.length cs1 = 3 ∧ Cells h6 (Addr.add p1 ((Int.toNat n4) * 3)) cs1 ∧
  NewRow z42 42 cs1 3 h6 fun h8 =>
  ∃ cs2 : List Value, List.length cs2 = 3 ∧ Cells h8 ⟨h6.size, 0, none⟩ cs2 ∧
  C.bolelaw03_do q2 cs2 h8 fun r5 h9 =>
  ∃ (n5 : Int), r5 = .int .i64 n5 ∧
  bif (decide ((IntKind.wrap .i64 (n4 + 1)) < (IntKind.wrap .i64 (1 + n2)))) then (
  bif (n5 != 0) then (
  K (.bool false) h9) else (
  ∃ cs3 : List Value, List.length cs3 = 3 ∧ Cells h9 ⟨h6.size, 0, none⟩ cs3 ∧
  C.bolelaw03_do q1 cs3 h9 fun r6 h10 =>
  ∃ (n6 : Int), r6 = .int .i64 n6 ∧
  bif (n6 != 0) then (
  K (.bool false) h10) else (
  I1 (IntKind.wrap .i64 (acts1 + 1)) (IntKind.wrap .i64 (n4 + 1)) h10 ∧ M1 (IntKind.wrap .i64 (acts1 + 1)) (IntKind.wrap .i64 (n4 + 1)) h10 < M1 acts1 n4 h6))) else (
  bif (n5 != 30) then (
  K (.bool false) h9) else (
  C.adisk_Disk_Down q2 h9 fun r7 h11 =>
  ∃ (b1 : Bool), r7 = .bool b1 ∧
  bif (!b1) then (
  K (.bool false) h11) else (
  bolelaw03_AdiskCuts.k3 q1 n2 acts1 n4 h6 I1 M1 h11 K)))) else (
  C.adisk_Disk_Tape q1 0 h6 fun r9 h14 =>
  ∃ (sA3 : Option Addr) (sL3 : Nat) (sC3 : Nat), r9 = .slice sA3 sL3 sC3 ∧
  C.adisk_Disk_Tape q2 0 h14 fun r10 h15 =>
  ∃ (sA4 : Option Addr) (sL4 : Nat) (sC4 : Nat), r10 = .slice sA4 sL4 sC4 ∧
  bif ((sL3 : Int) != acts1) then (
  K (.bool false) h15) else (
  C.bolelaw03_sameActs sA3 sL3 sC3 sA4 sL4 sC4 h15 fun r11 h16 =>
  ∃ (b3 : Bool), r11 = .bool b3 ∧
  bif (!b3) then (
  K (.bool false) h16) else (
  bolelaw03_AdiskCuts.k4 keepA1 keepL1 keepC1 sA1 sL1 sC1 q2 putsL2 n2 sA3 sL3 sC3 h16 K))))
def bolelaw03_AdiskCuts.k1 (putsA1 : Option Addr) (putsL1 : Nat) (putsC1 : Nat) (at1 : Int) (keepA1 : Option Addr) (keepL1 : Nat) (keepC1 : Nat) (q1 : Option Addr) (sA1 : Option Addr) (sL1 : Nat) (sC1 : Nat) (h3 : Heap) (q2 : Option Addr) (K : Value → Heap → Prop) : Prop :=
  bif (decide ((putsL1 : Int) > 60)) then (
  (0 ≤ (60 : Int) ∧ (60 : Int) ≤ (putsC1 : Int)) ∧
  bolelaw03_AdiskCuts.k2 at1 keepA1 keepL1 keepC1 q1 sA1 sL1 sC1 h3 q2 putsA1 (Int.toNat 60) putsC1 K) else (
  bolelaw03_AdiskCuts.k2 at1 keepA1 keepL1 keepC1 q1 sA1 sL1 sC1 h3 q2 putsA1 putsL1 putsC1 K)
def bolelaw03_AdiskCuts (n1 : Int) (putsA1 : Option Addr) (putsL1 : Nat) (putsC1 : Nat) (at1 : Int) (keepA1 : Option Addr) (keepL1 : Nat) (keepC1 : Nat) (K : Value → Heap → Prop) (h1 : Heap) : Prop :=
  C.bolelaw03_fresh n1 h1 fun r1 h2 =>
  ∃ (q1 : Option Addr) (sA1 : Option Addr) (sL1 : Nat) (sC1 : Nat), r1 = .tuple #[.pointer q1, .slice sA1 sL1 sC1] ∧
  C.bolelaw03_fresh n1 h2 fun r2 h3 =>
  ∃ (q2 : Option Addr) (sA2 : Option Addr) (sL2 : Nat) (sC2 : Nat), r2 = .tuple #[.pointer q2, .slice sA2 sL2 sC2] ∧
  bif (Option.isNone q1) then (
  K (.bool false) h3) else (
  bif (Option.isNone q2) then (
  K (.bool false) h3) else (
  bolelaw03_AdiskCuts.k1 putsA1 putsL1 putsC1 at1 keepA1 keepL1 keepC1 q1 sA1 sL1 sC1 h3 q2 K))
def bolelaw03_AdiskCuts.lo : Nat → List Nat × List (Nat × Ty) := fun n => match n with | 12 => ([1, 2, 3, 9, 10, 11, 57, 58], [(13, .int .i64), (59, .int .i64)]) | _ => ([], [])
def bolelaw03_AdiskCuts.od : Nat → Od := fun n => match n with | 39 => (.op 0 [] (.op 1 [] (.op 2 [] (.op 3 [] (.op 6 [] (.op 7 [] (.op 4 [7] (.op 5 [] (.op 8 [] (.op 9 [] (.op 10 [] (.op 11 [] (.op 12 [] (.op 13 [] (.op 14 [] (.op 15 [] (.op 16 [] (.op 17 [] .nil)))))))))))))))))) | _ => .nil
theorem bolelaw03_AdiskCuts.eq (n1 : Int) (putsA1 : Option Addr) (putsL1 : Nat) (putsC1 : Nat) (at1 : Int) (keepA1 : Option Addr) (keepL1 : Nat) (keepC1 : Nat) (K : Value → Heap → Prop) (h : Heap) : fnX (cx bolelaw03_AdiskCuts.lo bolelaw03_AdiskCuts.od) Try.f10 (Try.f10.body.getD .skip) [.int .i64 n1, .slice putsA1 putsL1 putsC1, .int .i64 at1, .slice keepA1 keepL1 keepC1] K h = bolelaw03_AdiskCuts n1 putsA1 putsL1 putsC1 at1 keepA1 keepL1 keepC1 K h := by kernel_rfl
theorem bolelaw03_AdiskCuts.chk : fnOk (cx bolelaw03_AdiskCuts.lo bolelaw03_AdiskCuts.od) Try.f10 (Try.f10.body.getD .skip) 4 = true := by kernel_rfl
theorem bolelaw03_AdiskCuts.ok {n1 : Int} {putsA1 : Option Addr} {putsL1 : Nat} {putsC1 : Nat} {at1 : Int} {keepA1 : Option Addr} {keepL1 : Nat} {keepC1 : Nat} {K : Value → Heap → Prop} {h : Heap} (hx : bolelaw03_AdiskCuts n1 putsA1 putsL1 putsC1 at1 keepA1 keepL1 keepC1 K h) : C.bolelaw03_AdiskCuts n1 putsA1 putsL1 putsC1 at1 keepA1 keepL1 keepC1 h K :=
  fn_to (cxOk _ _) Try.func10 (by kernel_rfl) bolelaw03_AdiskCuts.chk (by rw [bolelaw03_AdiskCuts.eq]; exact hx)

-- 11
def adisk_New (n1 : Int) (K : Value → Heap → Prop) (h1 : Heap) : Prop :=
  bif (decide (n1 < 1)) then (
  K (.tuple #[.pointer none, .int .i64 32]) h1) else (
  bif (decide (n1 > 16384)) then (
  K (.tuple #[.pointer none, .int .i64 32]) h1) else (
  (0 ≤ n1 ∧ n1 ≤ n1 ∧ (512 : Int) * n1 ≤ 281474976710656 ∧ n1 ≤ 281474976710656) ∧
  New (repCells z99 (Int.toNat n1)) 99 h1 fun h2 =>
  New [.slice (some ⟨h1.size, 0, none⟩) (Int.toNat n1) (Int.toNat n1), .slice none 0 0, .int .i64 0, .slice none 0 0, .bool false, .int .i64 0, .int .i64 0, .slice none 0 0] 96 h2 fun h3 =>
  K (.tuple #[.pointer (some ⟨h2.size, 0, none⟩), .int .i64 0]) h3))
def adisk_New.lo : Nat → List Nat × List (Nat × Ty) := fun n => match n with | _ => ([], [])
def adisk_New.od : Nat → Od := fun n => match n with | _ => .nil
set_option maxRecDepth 1000000 in
theorem adisk_New.eq (n1 : Int) (K : Value → Heap → Prop) (h : Heap) : fnX (cx adisk_New.lo adisk_New.od) Try.f11 (Try.f11.body.getD .skip) [.int .i64 n1] K h = adisk_New n1 K h := by kernel_rfl
theorem adisk_New.chk : fnOk (cx adisk_New.lo adisk_New.od) Try.f11 (Try.f11.body.getD .skip) 1 = true := by kernel_rfl
set_option maxRecDepth 1000000 in
theorem adisk_New.ok {n1 : Int} {K : Value → Heap → Prop} {h : Heap} (hx : adisk_New n1 K h) : C.adisk_New n1 h K :=
  fn_to (cxOk _ _) Try.func11 (by kernel_rfl) adisk_New.chk (by rw [adisk_New.eq]; exact hx)

-- 12
def adisk_Disk_Read (d1 : Option Addr) (i1 : Int) (K : Value → Heap → Prop) (h1 : Heap) : Prop :=
  onSome d1 fun p1 =>
  ∃ (b1 : Bool), cellOf h1 (Addr.add p1 4) = some (.bool b1) ∧
  bif b1 then (
  K (.tuple #[.slice none 0 0, .int .i64 30]) h1) else (
  C.adisk_Disk_has d1 i1 h1 fun r1 h2 =>
  ∃ (b2 : Bool), r1 = .bool b2 ∧
  bif (!b2) then (
  K (.tuple #[.slice none 0 0, .int .i64 31]) h2) else (
  onSome d1 fun p2 =>
  ∃ (sA1 : Option Addr) (sL1 : Nat) (sC1 : Nat), cellOf h2 (Addr.add p2 0) = some (.slice sA1 sL1 sC1) ∧
  (0 ≤ i1 ∧ i1 < (sL1 : Int)) ∧
  onSome sA1 fun p3 =>
  ∃ cs1 : List Value, List.length cs1 = 512 ∧ Cells h2 (Addr.add p3 ((Int.toNat i1) * 512)) cs1 ∧
  NewRow z99 99 cs1 512 h2 fun h4 =>
  onSome d1 fun p4 =>
  ∃ (sA2 : Option Addr) (sL2 : Nat) (sC2 : Nat), cellOf h4 (Addr.add p4 1) = some (.slice sA2 sL2 sC2) ∧
  ∃ (I1 : Int → Heap → Prop) (M1 : Int → Heap → Nat), I1 0 h4 ∧
  ∀ (n1 : Int), ∀ h5 : Heap, I1 n1 h5 →
  bif (decide (n1 < (sL2 : Int))) then (
  (0 ≤ n1 ∧ n1 < (sL2 : Int)) ∧
  onSome sA2 fun p5 =>
  ∃ cs2 : List Value, List.length cs2 = 513 ∧ Cells h5 (Addr.add p5 ((Int.toNat n1) * 513)) cs2 ∧
  NewRow z101 101 cs2 513 h5 fun h7 =>
  ∃ (n2 : Int), cellOf h7 (Addr.add ⟨h5.size, 0, none⟩ 0) = some (.int .i64 n2) ∧
  bif (n2 == i1) then (
  ∃ cs3 : List Value, List.length cs3 = 512 ∧ Cells h7 (Addr.add ⟨h5.size, 0, none⟩ 1) cs3 ∧
  PutRow ⟨h2.size, 0, none⟩ cs3 512 h7 fun h8 =>
  I1 (IntKind.wrap .i64 (n1 + 1)) h8 ∧ M1 (IntKind.wrap .i64 (n1 + 1)) h8 < M1 n1 h5) else (
  I1 (IntKind.wrap .i64 (n1 + 1)) h7 ∧ M1 (IntKind.wrap .i64 (n1 + 1)) h7 < M1 n1 h5)) else (
  K (.tuple #[.slice (some ⟨h2.size, 0, none⟩) 512 512, .int .i64 0]) h5)))
def adisk_Disk_Read.lo : Nat → List Nat × List (Nat × Ty) := fun n => match n with | 7 => ([1, 6, 29, 30], [(31, .int .i64)]) | _ => ([], [])
def adisk_Disk_Read.od : Nat → Od := fun n => match n with | _ => .nil
theorem adisk_Disk_Read.eq (d1 : Option Addr) (i1 : Int) (K : Value → Heap → Prop) (h : Heap) : fnX (cx adisk_Disk_Read.lo adisk_Disk_Read.od) Try.f12 (Try.f12.body.getD .skip) [.pointer d1, .int .i64 i1] K h = adisk_Disk_Read d1 i1 K h := by kernel_rfl
theorem adisk_Disk_Read.chk : fnOk (cx adisk_Disk_Read.lo adisk_Disk_Read.od) Try.f12 (Try.f12.body.getD .skip) 2 = true := by kernel_rfl
theorem adisk_Disk_Read.ok {d1 : Option Addr} {i1 : Int} {K : Value → Heap → Prop} {h : Heap} (hx : adisk_Disk_Read d1 i1 K h) : C.adisk_Disk_Read d1 i1 h K :=
  fn_to (cxOk _ _) Try.func12 (by kernel_rfl) adisk_Disk_Read.chk (by rw [adisk_Disk_Read.eq]; exact hx)

-- 13
def adisk_Disk_Blocks (d1 : Option Addr) (K : Value → Heap → Prop) (h1 : Heap) : Prop :=
  onSome d1 fun p1 =>
  ∃ (sA1 : Option Addr) (sL1 : Nat) (sC1 : Nat), cellOf h1 (Addr.add p1 0) = some (.slice sA1 sL1 sC1) ∧
  K (.int .i64 (sL1 : Int)) h1
def adisk_Disk_Blocks.lo : Nat → List Nat × List (Nat × Ty) := fun n => match n with | _ => ([], [])
def adisk_Disk_Blocks.od : Nat → Od := fun n => match n with | _ => .nil
theorem adisk_Disk_Blocks.eq (d1 : Option Addr) (K : Value → Heap → Prop) (h : Heap) : fnX (cx adisk_Disk_Blocks.lo adisk_Disk_Blocks.od) Try.f13 (Try.f13.body.getD .skip) [.pointer d1] K h = adisk_Disk_Blocks d1 K h := by kernel_rfl
theorem adisk_Disk_Blocks.chk : fnOk (cx adisk_Disk_Blocks.lo adisk_Disk_Blocks.od) Try.f13 (Try.f13.body.getD .skip) 1 = true := by kernel_rfl
theorem adisk_Disk_Blocks.ok {d1 : Option Addr} {K : Value → Heap → Prop} {h : Heap} (hx : adisk_Disk_Blocks d1 K h) : C.adisk_Disk_Blocks d1 h K :=
  fn_to (cxOk _ _) Try.func13 (by kernel_rfl) adisk_Disk_Blocks.chk (by rw [adisk_Disk_Blocks.eq]; exact hx)

-- 14
def bolelaw03_opened (imageA1 : Option Addr) (imageL1 : Nat) (imageC1 : Nat) (K : Value → Heap → Prop) (h1 : Heap) : Prop :=
  New z32 32 h1 fun h2 =>
  C.bolelaw03_lent imageA1 imageL1 imageC1 h2 fun r1 h3 =>
  ∃ (sA1 : Option Addr) (sL1 : Nat) (sC1 : Nat) (sA2 : Option Addr) (sL2 : Nat) (sC2 : Nat), r1 = .tuple #[.slice sA1 sL1 sC1, .slice sA2 sL2 sC2] ∧
  C.adisk_Open sA1 sL1 sC1 h3 fun r2 h4 =>
  ∃ (q1 : Option Addr) (n1 : Int), r2 = .tuple #[.pointer q1, .int .i64 n1] ∧
  C.boleref03_Of imageA1 imageL1 imageC1 h4 fun r3 h5 =>
  ∃ (q2 : Option Addr) (n2 : Int), r3 = .tuple #[.pointer q2, .int .i64 n2] ∧
  C.bolelaw03_kept sA2 sL2 sC2 imageA1 imageL1 imageC1 h5 fun r4 h6 =>
  ∃ (b1 : Bool), r4 = .bool b1 ∧
  bif b1 then (
  bif (n1 == n2) then (
  PutRow ⟨h1.size, 0, none⟩ [.pointer q1, .pointer q2] 2 h6 fun h7 =>
  ∃ res1 : List Value, List.length res1 = 2 ∧ Cells h7 ⟨h1.size, 0, none⟩ res1 ∧
  K (.tuple #[.agg ⟨res1⟩, .bool ((Option.isNone q1) == (Option.isNone q2))]) h7) else (
  PutRow ⟨h1.size, 0, none⟩ [.pointer q1, .pointer q2] 2 h6 fun h8 =>
  ∃ res2 : List Value, List.length res2 = 2 ∧ Cells h8 ⟨h1.size, 0, none⟩ res2 ∧
  K (.tuple #[.agg ⟨res2⟩, .bool false]) h8)) else (
  PutRow ⟨h1.size, 0, none⟩ [.pointer q1, .pointer q2] 2 h6 fun h9 =>
  ∃ res3 : List Value, List.length res3 = 2 ∧ Cells h9 ⟨h1.size, 0, none⟩ res3 ∧
  K (.tuple #[.agg ⟨res3⟩, .bool false]) h9)
def bolelaw03_opened.lo : Nat → List Nat × List (Nat × Ty) := fun n => match n with | _ => ([], [])
def bolelaw03_opened.od : Nat → Od := fun n => match n with | _ => .nil
theorem bolelaw03_opened.eq (imageA1 : Option Addr) (imageL1 : Nat) (imageC1 : Nat) (K : Value → Heap → Prop) (h : Heap) : fnX (cx bolelaw03_opened.lo bolelaw03_opened.od) Try.f14 (Try.f14.body.getD .skip) [.slice imageA1 imageL1 imageC1] K h = bolelaw03_opened imageA1 imageL1 imageC1 K h := by kernel_rfl
theorem bolelaw03_opened.chk : fnOk (cx bolelaw03_opened.lo bolelaw03_opened.od) Try.f14 (Try.f14.body.getD .skip) 1 = true := by kernel_rfl
theorem bolelaw03_opened.ok {imageA1 : Option Addr} {imageL1 : Nat} {imageC1 : Nat} {K : Value → Heap → Prop} {h : Heap} (hx : bolelaw03_opened imageA1 imageL1 imageC1 K h) : C.bolelaw03_opened imageA1 imageL1 imageC1 h K :=
  fn_to (cxOk _ _) Try.func14 (by kernel_rfl) bolelaw03_opened.chk (by rw [bolelaw03_opened.eq]; exact hx)

-- 15
def bolelaw03_Pair_asks (p1 : List Value) (K : Value → Heap → Prop) (h1 : Heap) : Prop :=
  New p1 32 h1 fun h2 =>
  ∃ (q1 : Option Addr), cellOf h2 (Addr.add ⟨h1.size, 0, none⟩ 0) = some (.pointer q1) ∧
  C.adisk_Disk_Steps q1 h2 fun r1 h3 =>
  ∃ (n1 : Int) (n2 : Int), r1 = .tuple #[.int .i64 n1, .int .i64 n2] ∧
  ∃ (q2 : Option Addr), cellOf h3 (Addr.add ⟨h1.size, 0, none⟩ 0) = some (.pointer q2) ∧
  ∃ (q3 : Option Addr), cellOf h3 (Addr.add ⟨h1.size, 0, none⟩ 1) = some (.pointer q3) ∧
  C.adisk_Disk_Blocks q2 h3 fun r2 h4 =>
  ∃ (n3 : Int), r2 = .int .i64 n3 ∧
  (cellOf h4 (Addr.add ⟨h1.size, 0, none⟩ 1) = some (.pointer q3)) ∧
  C.boleref03_Disk_Blocks q3 h4 fun r3 h5 =>
  ∃ (n4 : Int), r3 = .int .i64 n4 ∧
  bif (n3 == n4) then (
  ∃ (q4 : Option Addr), cellOf h5 (Addr.add ⟨h1.size, 0, none⟩ 0) = some (.pointer q4) ∧
  ∃ (q5 : Option Addr), cellOf h5 (Addr.add ⟨h1.size, 0, none⟩ 1) = some (.pointer q5) ∧
  onSome q5 fun p2 =>
  ∃ (b1 : Bool), cellOf h5 (Addr.add p2 4) = some (.bool b1) ∧
  C.adisk_Disk_Down q4 h5 fun r4 h6 =>
  ∃ (b2 : Bool), r4 = .bool b2 ∧
  (cellOf h6 (Addr.add ⟨h1.size, 0, none⟩ 1) = some (.pointer q5)) ∧
  (cellOf h6 (Addr.add p2 4) = some (.bool b1)) ∧
  bif (b2 == b1) then (
  ∃ (q6 : Option Addr), cellOf h6 (Addr.add ⟨h1.size, 0, none⟩ 1) = some (.pointer q6) ∧
  onSome q6 fun p3 =>
  ∃ (n5 : Int), cellOf h6 (Addr.add p3 5) = some (.int .i64 n5) ∧
  bif (n1 == n5) then (
  ∃ (q7 : Option Addr), cellOf h6 (Addr.add ⟨h1.size, 0, none⟩ 1) = some (.pointer q7) ∧
  onSome q7 fun p4 =>
  ∃ (n6 : Int), cellOf h6 (Addr.add p4 6) = some (.int .i64 n6) ∧
  K (.bool (n2 == n6)) h6) else (
  K (.bool false) h6)) else (
  K (.bool false) h6)) else (
  K (.bool false) h5)
def bolelaw03_Pair_asks.lo : Nat → List Nat × List (Nat × Ty) := fun n => match n with | _ => ([], [])
def bolelaw03_Pair_asks.od : Nat → Od := fun n => match n with | 2 => (.op 0 [] (.op 1 [] (.op 3 [] (.op 4 [] (.op 2 [4] (.op 5 [] (.op 6 [] (.op 7 [] (.op 8 [] (.op 9 [] (.op 11 [] (.op 12 [] (.op 13 [] (.op 14 [] (.op 15 [] (.op 10 [12, 15] (.op 16 [] (.op 17 [] (.op 18 [] (.op 19 [] (.op 20 [] (.op 21 [] (.op 22 [] (.op 23 [] (.op 24 [] (.op 25 [] (.op 26 [] (.op 27 [] (.op 28 [] (.op 29 [] (.op 30 [] (.op 31 [] (.op 32 [] (.op 33 [] (.op 34 [] (.op 35 [] (.op 36 [] .nil))))))))))))))))))))))))))))))))))))) | _ => .nil
theorem bolelaw03_Pair_asks.eq (p1 : List Value) (K : Value → Heap → Prop) (h : Heap) : fnX (cx bolelaw03_Pair_asks.lo bolelaw03_Pair_asks.od) Try.f15 (Try.f15.body.getD .skip) [.agg ⟨p1⟩] K h = bolelaw03_Pair_asks p1 K h := by kernel_rfl
theorem bolelaw03_Pair_asks.chk : fnOk (cx bolelaw03_Pair_asks.lo bolelaw03_Pair_asks.od) Try.f15 (Try.f15.body.getD .skip) 1 = true := by kernel_rfl
theorem bolelaw03_Pair_asks.ok {p1 : List Value} {K : Value → Heap → Prop} {h : Heap} (hx : bolelaw03_Pair_asks p1 K h) : C.bolelaw03_Pair_asks p1 h K :=
  fn_to (cxOk _ _) Try.func15 (by kernel_rfl) bolelaw03_Pair_asks.chk (by rw [bolelaw03_Pair_asks.eq]; exact hx)

-- 16
def adisk_Disk_Image (d1 : Option Addr) (K : Value → Heap → Prop) (h1 : Heap) : Prop :=
  onSome d1 fun p1 =>
  ∃ (sA1 : Option Addr) (sL1 : Nat) (sC1 : Nat), cellOf h1 (Addr.add p1 0) = some (.slice sA1 sL1 sC1) ∧
  (0 ≤ (0 : Int) ∧ (0 : Int) ≤ (IntKind.wrap .i64 ((sL1 : Int) * 512)) ∧ (1 : Int) * (IntKind.wrap .i64 ((sL1 : Int) * 512)) ≤ 281474976710656 ∧ (IntKind.wrap .i64 ((sL1 : Int) * 512)) ≤ 281474976710656) ∧
  New (repCells z5 (Int.toNat (IntKind.wrap .i64 ((sL1 : Int) * 512)))) 5 h1 fun h2 =>
  onSome d1 fun p2 =>
  ∃ (sA2 : Option Addr) (sL2 : Nat) (sC2 : Nat), cellOf h2 (Addr.add p2 0) = some (.slice sA2 sL2 sC2) ∧
  ∃ (I1 : Option Addr → Nat → Nat → Int → Heap → Prop) (M1 : Option Addr → Nat → Nat → Int → Heap → Nat), I1 (some ⟨h1.size, 0, none⟩) (Int.toNat 0) (Int.toNat (IntKind.wrap .i64 ((sL1 : Int) * 512))) 0 h2 ∧
  ∀ (imageA1 : Option Addr) (imageL1 : Nat) (imageC1 : Nat) (n1 : Int), ∀ h3 : Heap, I1 imageA1 imageL1 imageC1 n1 h3 →
  bif (decide (n1 < (sL2 : Int))) then (
  (0 ≤ n1 ∧ n1 < (sL2 : Int)) ∧
  onSome sA2 fun p3 =>
  ∃ cs1 : List Value, List.length cs1 = 512 ∧ Cells h3 (Addr.add p3 ((Int.toNat n1) * 512)) cs1 ∧
  NewRow z99 99 cs1 512 h3 fun h5 =>
  ∃ new1 : List Value, List.length new1 = 512 * 1 ∧ SlCells h5 (some ⟨h3.size, 0, none⟩) new1 ∧ (∀ v ∈ new1, v.oneCell' = true) ∧
  AppendP ti5 5 imageA1 imageL1 imageC1 512 new1 h5 fun sA3 sL3 sC3 h6 =>
  I1 sA3 sL3 sC3 (IntKind.wrap .i64 (n1 + 1)) h6 ∧ M1 sA3 sL3 sC3 (IntKind.wrap .i64 (n1 + 1)) h6 < M1 imageA1 imageL1 imageC1 n1 h3) else (
  K (.slice imageA1 imageL1 imageC1) h3)
def adisk_Disk_Image.lo : Nat → List Nat × List (Nat × Ty) := fun n => match n with | 3 => ([16, 17], [(3, .slice), (18, .int .i64)]) | _ => ([], [])
def adisk_Disk_Image.od : Nat → Od := fun n => match n with | _ => .nil
theorem adisk_Disk_Image.eq (d1 : Option Addr) (K : Value → Heap → Prop) (h : Heap) : fnX (cx adisk_Disk_Image.lo adisk_Disk_Image.od) Try.f16 (Try.f16.body.getD .skip) [.pointer d1] K h = adisk_Disk_Image d1 K h := by kernel_rfl
theorem adisk_Disk_Image.chk : fnOk (cx adisk_Disk_Image.lo adisk_Disk_Image.od) Try.f16 (Try.f16.body.getD .skip) 1 = true := by kernel_rfl
theorem adisk_Disk_Image.ok {d1 : Option Addr} {K : Value → Heap → Prop} {h : Heap} (hx : adisk_Disk_Image d1 K h) : C.adisk_Disk_Image d1 h K :=
  fn_to (cxOk _ _) Try.func16 (by kernel_rfl) adisk_Disk_Image.chk (by rw [adisk_Disk_Image.eq]; exact hx)

-- 17
def bolelaw03_fresh.k1 (n1 : Int) (imageA1 : Option Addr) (imageL1 : Nat) (imageC1 : Nat) (q1 : Option Addr) (h10 : Heap) (K : Value → Heap → Prop) : Prop :=
  C.bolelaw03_mod n1 9 h10 fun r7 h11 =>
  ∃ (n6 : Int), r7 = .int .i64 n6 ∧
  C.adisk_Disk_Read q1 n6 h11 fun r8 h12 =>
  ∃ (sA3 : Option Addr) (sL3 : Nat) (sC3 : Nat) (n7 : Int), r8 = .tuple #[.slice sA3 sL3 sC3, .int .i64 n7] ∧
  bif (n7 != 0) then (
  K (.tuple #[.pointer none, .slice imageA1 imageL1 imageC1]) h12) else (
  ∃ bs1 : List UInt8, StrAt h12 sA3 sL3 bs1 ∧
  C.bolelaw03_mod n1 9 h12 fun r9 h13 =>
  ∃ (n8 : Int), r9 = .int .i64 n8 ∧
  StrAt h13 sA3 sL3 (ByteArray.toList (mkStr bs1)) ∧
  C.bolelaw03_block (IntKind.wrap .u8 (n8)) h13 fun r10 h14 =>
  ∃ (sA4 : Option Addr) (sL4 : Nat) (sC4 : Nat), r10 = .slice sA4 sL4 sC4 ∧
  StrAt h14 sA3 sL3 (ByteArray.toList (mkStr bs1)) ∧
  ∃ bs2 : List UInt8, StrAt h14 sA4 sL4 bs2 ∧
  bif (!((mkStr bs1).toList == (mkStr bs2).toList)) then (
  K (.tuple #[.pointer none, .slice imageA1 imageL1 imageC1]) h14) else (
  K (.tuple #[.pointer q1, .slice imageA1 imageL1 imageC1]) h14))
def bolelaw03_fresh (n1 : Int) (K : Value → Heap → Prop) (h1 : Heap) : Prop :=
  ∃ (I1 : Option Addr → Nat → Nat → Int → Heap → Prop) (M1 : Option Addr → Nat → Nat → Int → Heap → Nat), I1 none 0 0 0 h1 ∧
  ∀ (imageA1 : Option Addr) (imageL1 : Nat) (imageC1 : Nat) (i1 : Int), ∀ h2 : Heap, I1 imageA1 imageL1 imageC1 i1 h2 →
  C.bolelaw03_mod n1 9 h2 fun r1 h3 =>
  ∃ (n2 : Int), r1 = .int .i64 n2 ∧
  bif (decide (i1 < (IntKind.wrap .i64 (1 + n2)))) then (
  C.bolelaw03_block (IntKind.wrap .u8 (i1)) h3 fun r2 h4 =>
  ∃ (sA1 : Option Addr) (sL1 : Nat) (sC1 : Nat), r2 = .slice sA1 sL1 sC1 ∧
  ∃ new1 : List Value, List.length new1 = sL1 * 1 ∧ SlCells h4 sA1 new1 ∧ (∀ v ∈ new1, v.oneCell' = true) ∧
  AppendP ti5 5 imageA1 imageL1 imageC1 sL1 new1 h4 fun sA2 sL2 sC2 h5 =>
  I1 sA2 sL2 sC2 (IntKind.wrap .i64 (i1 + 1)) h5 ∧ M1 sA2 sL2 sC2 (IntKind.wrap .i64 (i1 + 1)) h5 < M1 imageA1 imageL1 imageC1 i1 h2) else (
  C.adisk_Open imageA1 imageL1 imageC1 h3 fun r3 h6 =>
  ∃ (q1 : Option Addr) (n3 : Int), r3 = .tuple #[.pointer q1, .int .i64 n3] ∧
  bif (n3 != 0) then (
  K (.tuple #[.pointer none, .slice imageA1 imageL1 imageC1]) h6) else (
  bif (Option.isNone q1) then (
  K (.tuple #[.pointer none, .slice imageA1 imageL1 imageC1]) h6) else (
  C.adisk_Disk_Blocks q1 h6 fun r4 h7 =>
  ∃ (n4 : Int), r4 = .int .i64 n4 ∧
  C.bolelaw03_mod n1 9 h7 fun r5 h8 =>
  ∃ (n5 : Int), r5 = .int .i64 n5 ∧
  bif (n4 != (IntKind.wrap .i64 (1 + n5))) then (
  K (.tuple #[.pointer none, .slice imageA1 imageL1 imageC1]) h8) else (
  C.adisk_Disk_Down q1 h8 fun r6 h9 =>
  ∃ (b1 : Bool), r6 = .bool b1 ∧
  bif b1 then (
  K (.tuple #[.pointer none, .slice imageA1 imageL1 imageC1]) h9) else (
  bolelaw03_fresh.k1 n1 imageA1 imageL1 imageC1 q1 h9 K)))))
def bolelaw03_fresh.lo : Nat → List Nat × List (Nat × Ty) := fun n => match n with | 3 => ([0], [(4, .slice), (5, .int .i64)]) | _ => ([], [])
def bolelaw03_fresh.od : Nat → Od := fun n => match n with | 10 => (.op 0 [] (.op 1 [] (.op 2 [] (.op 3 [] (.op 4 [] (.op 5 [] (.op 6 [4] (.op 7 [] (.op 8 [4] (.op 9 [] (.op 10 [] (.op 11 [] .nil)))))))))))) | _ => .nil
theorem bolelaw03_fresh.eq (n1 : Int) (K : Value → Heap → Prop) (h : Heap) : fnX (cx bolelaw03_fresh.lo bolelaw03_fresh.od) Try.f17 (Try.f17.body.getD .skip) [.int .i64 n1] K h = bolelaw03_fresh n1 K h := by kernel_rfl
theorem bolelaw03_fresh.chk : fnOk (cx bolelaw03_fresh.lo bolelaw03_fresh.od) Try.f17 (Try.f17.body.getD .skip) 1 = true := by kernel_rfl
theorem bolelaw03_fresh.ok {n1 : Int} {K : Value → Heap → Prop} {h : Heap} (hx : bolelaw03_fresh n1 K h) : C.bolelaw03_fresh n1 h K :=
  fn_to (cxOk _ _) Try.func17 (by kernel_rfl) bolelaw03_fresh.chk (by rw [bolelaw03_fresh.eq]; exact hx)

-- 18
def bolelaw03_do (d1 : Option Addr) (p1 : List Value) (K : Value → Heap → Prop) (h1 : Heap) : Prop :=
  New p1 42 h1 fun h2 =>
  ∃ (b1 : Bool), cellOf h2 (Addr.add ⟨h1.size, 0, none⟩ 2) = some (.bool b1) ∧
  bif b1 then (
  C.adisk_Disk_Flush d1 h2 fun r1 h3 =>
  ∃ (n1 : Int), r1 = .int .i64 n1 ∧
  K (.int .i64 n1) h3) else (
  ∃ (n2 : Int), cellOf h2 (Addr.add ⟨h1.size, 0, none⟩ 0) = some (.int .i64 n2) ∧
  ∃ (n3 : Int), cellOf h2 (Addr.add ⟨h1.size, 0, none⟩ 1) = some (.int .u8 n3) ∧
  C.adisk_Disk_Blocks d1 h2 fun r2 h4 =>
  ∃ (n4 : Int), r2 = .int .i64 n4 ∧
  (cellOf h4 (Addr.add ⟨h1.size, 0, none⟩ 0) = some (.int .i64 n2)) ∧
  (cellOf h4 (Addr.add ⟨h1.size, 0, none⟩ 1) = some (.int .u8 n3)) ∧
  C.bolelaw03_mod n2 n4 h4 fun r3 h5 =>
  ∃ (n5 : Int), r3 = .int .i64 n5 ∧
  (cellOf h5 (Addr.add ⟨h1.size, 0, none⟩ 1) = some (.int .u8 n3)) ∧
  C.bolelaw03_block n3 h5 fun r4 h6 =>
  ∃ (sA1 : Option Addr) (sL1 : Nat) (sC1 : Nat), r4 = .slice sA1 sL1 sC1 ∧
  C.adisk_Disk_Write d1 n5 sA1 sL1 sC1 h6 fun r5 h7 =>
  ∃ (n6 : Int), r5 = .int .i64 n6 ∧
  K (.int .i64 n6) h7)
def bolelaw03_do.lo : Nat → List Nat × List (Nat × Ty) := fun n => match n with | _ => ([], [])
def bolelaw03_do.od : Nat → Od := fun n => match n with | 3 => (.op 0 [] (.op 1 [] (.op 2 [] (.op 3 [] (.op 6 [] (.op 7 [] (.op 4 [2, 7] (.op 5 [7] (.op 8 [] (.op 9 [] (.op 10 [] .nil))))))))))) | _ => .nil
theorem bolelaw03_do.eq (d1 : Option Addr) (p1 : List Value) (K : Value → Heap → Prop) (h : Heap) : fnX (cx bolelaw03_do.lo bolelaw03_do.od) Try.f18 (Try.f18.body.getD .skip) [.pointer d1, .agg ⟨p1⟩] K h = bolelaw03_do d1 p1 K h := by kernel_rfl
theorem bolelaw03_do.chk : fnOk (cx bolelaw03_do.lo bolelaw03_do.od) Try.f18 (Try.f18.body.getD .skip) 2 = true := by kernel_rfl
theorem bolelaw03_do.ok {d1 : Option Addr} {p1 : List Value} {K : Value → Heap → Prop} {h : Heap} (hx : bolelaw03_do d1 p1 K h) : C.bolelaw03_do d1 p1 h K :=
  fn_to (cxOk _ _) Try.func18 (by kernel_rfl) bolelaw03_do.chk (by rw [bolelaw03_do.eq]; exact hx)

-- 19
def bolelaw03_mod (v1 : Int) (n1 : Int) (K : Value → Heap → Prop) (h1 : Heap) : Prop :=
  if n1 = 0 then False else
  bif (decide ((Int.tmod v1 n1) < 0)) then (
  K (.int .i64 (IntKind.wrap .i64 ((Int.tmod v1 n1) + n1))) h1) else (
  K (.int .i64 (Int.tmod v1 n1)) h1)
def bolelaw03_mod.lo : Nat → List Nat × List (Nat × Ty) := fun n => match n with | _ => ([], [])
def bolelaw03_mod.od : Nat → Od := fun n => match n with | _ => .nil
theorem bolelaw03_mod.eq (v1 : Int) (n1 : Int) (K : Value → Heap → Prop) (h : Heap) : fnX (cx bolelaw03_mod.lo bolelaw03_mod.od) Try.f19 (Try.f19.body.getD .skip) [.int .i64 v1, .int .i64 n1] K h = bolelaw03_mod v1 n1 K h := by kernel_rfl
theorem bolelaw03_mod.chk : fnOk (cx bolelaw03_mod.lo bolelaw03_mod.od) Try.f19 (Try.f19.body.getD .skip) 2 = true := by kernel_rfl
theorem bolelaw03_mod.ok {v1 : Int} {n1 : Int} {K : Value → Heap → Prop} {h : Heap} (hx : bolelaw03_mod v1 n1 K h) : C.bolelaw03_mod v1 n1 h K :=
  fn_to (cxOk _ _) Try.func19 (by kernel_rfl) bolelaw03_mod.chk (by rw [bolelaw03_mod.eq]; exact hx)

-- 20
def bolelaw03_block (x1 : Int) (K : Value → Heap → Prop) (h1 : Heap) : Prop :=
  (0 ≤ (512 : Int) ∧ (512 : Int) ≤ 512 ∧ (1 : Int) * 512 ≤ 281474976710656 ∧ (512 : Int) ≤ 281474976710656) ∧
  New (repCells z5 (Int.toNat 512)) 5 h1 fun h2 =>
  ∃ (I1 : Int → Heap → Prop) (M1 : Int → Heap → Nat), I1 0 h2 ∧
  ∀ (n1 : Int), ∀ h3 : Heap, I1 n1 h3 →
  bif (decide (n1 < ((Int.toNat 512) : Int))) then (
  (0 ≤ n1 ∧ n1 < ((Int.toNat 512) : Int)) ∧
  Put (Addr.add ⟨h1.size, 0, none⟩ (Int.toNat n1)) (.int .u8 x1) h3 fun h4 =>
  I1 (IntKind.wrap .i64 (n1 + 1)) h4 ∧ M1 (IntKind.wrap .i64 (n1 + 1)) h4 < M1 n1 h3) else (
  K (.slice (some ⟨h1.size, 0, none⟩) (Int.toNat 512) (Int.toNat 512)) h3)
def bolelaw03_block.lo : Nat → List Nat × List (Nat × Ty) := fun n => match n with | 3 => ([0, 3, 7], [(8, .int .i64)]) | _ => ([], [])
def bolelaw03_block.od : Nat → Od := fun n => match n with | _ => .nil
theorem bolelaw03_block.eq (x1 : Int) (K : Value → Heap → Prop) (h : Heap) : fnX (cx bolelaw03_block.lo bolelaw03_block.od) Try.f20 (Try.f20.body.getD .skip) [.int .u8 x1] K h = bolelaw03_block x1 K h := by kernel_rfl
theorem bolelaw03_block.chk : fnOk (cx bolelaw03_block.lo bolelaw03_block.od) Try.f20 (Try.f20.body.getD .skip) 1 = true := by kernel_rfl
theorem bolelaw03_block.ok {x1 : Int} {K : Value → Heap → Prop} {h : Heap} (hx : bolelaw03_block x1 K h) : C.bolelaw03_block x1 h K :=
  fn_to (cxOk _ _) Try.func20 (by kernel_rfl) bolelaw03_block.chk (by rw [bolelaw03_block.eq]; exact hx)

-- 21
def adisk_Disk_Pending (d1 : Option Addr) (K : Value → Heap → Prop) (h1 : Heap) : Prop :=
  onSome d1 fun p1 =>
  ∃ (sA1 : Option Addr) (sL1 : Nat) (sC1 : Nat), cellOf h1 (Addr.add p1 1) = some (.slice sA1 sL1 sC1) ∧
  ∃ (I1 : Option Addr → Nat → Nat → Int → Heap → Prop) (M1 : Option Addr → Nat → Nat → Int → Heap → Nat), I1 none 0 0 0 h1 ∧
  ∀ (lA1 : Option Addr) (lL1 : Nat) (lC1 : Nat) (n1 : Int), ∀ h2 : Heap, I1 lA1 lL1 lC1 n1 h2 →
  bif (decide (n1 < (sL1 : Int))) then (
  (0 ≤ n1 ∧ n1 < (sL1 : Int)) ∧
  onSome sA1 fun p2 =>
  ∃ cs1 : List Value, List.length cs1 = 513 ∧ Cells h2 (Addr.add p2 ((Int.toNat n1) * 513)) cs1 ∧
  NewRow z101 101 cs1 513 h2 fun h4 =>
  ∃ (n2 : Int), cellOf h4 (Addr.add ⟨h2.size, 0, none⟩ 0) = some (.int .i64 n2) ∧
  New [.int .i64 n2] 3 h4 fun h5 =>
  ∃ new1 : List Value, List.length new1 = 1 * 1 ∧ SlCells h5 (some ⟨h4.size, 0, none⟩) new1 ∧ (∀ v ∈ new1, v.oneCell' = true) ∧
  AppendP ti3 3 lA1 lL1 lC1 1 new1 h5 fun sA2 sL2 sC2 h6 =>
  I1 sA2 sL2 sC2 (IntKind.wrap .i64 (n1 + 1)) h6 ∧ M1 sA2 sL2 sC2 (IntKind.wrap .i64 (n1 + 1)) h6 < M1 lA1 lL1 lC1 n1 h2) else (
  K (.slice lA1 lL1 lC1) h2)
def adisk_Disk_Pending.lo : Nat → List Nat × List (Nat × Ty) := fun n => match n with | 3 => ([9, 10], [(3, .slice), (11, .int .i64)]) | _ => ([], [])
def adisk_Disk_Pending.od : Nat → Od := fun n => match n with | _ => .nil
theorem adisk_Disk_Pending.eq (d1 : Option Addr) (K : Value → Heap → Prop) (h : Heap) : fnX (cx adisk_Disk_Pending.lo adisk_Disk_Pending.od) Try.f21 (Try.f21.body.getD .skip) [.pointer d1] K h = adisk_Disk_Pending d1 K h := by kernel_rfl
theorem adisk_Disk_Pending.chk : fnOk (cx adisk_Disk_Pending.lo adisk_Disk_Pending.od) Try.f21 (Try.f21.body.getD .skip) 1 = true := by kernel_rfl
theorem adisk_Disk_Pending.ok {d1 : Option Addr} {K : Value → Heap → Prop} {h : Heap} (hx : adisk_Disk_Pending d1 K h) : C.adisk_Disk_Pending d1 h K :=
  fn_to (cxOk _ _) Try.func21 (by kernel_rfl) adisk_Disk_Pending.chk (by rw [adisk_Disk_Pending.eq]; exact hx)

-- 22
def adisk_Disk_Crash (d1 : Option Addr) (keepA1 : Option Addr) (keepL1 : Nat) (keepC1 : Nat) (K : Value → Heap → Prop) (h1 : Heap) : Prop :=
  onSome d1 fun p1 =>
  ∃ (b1 : Bool), cellOf h1 (Addr.add p1 4) = some (.bool b1) ∧
  bif (!b1) then (
  C.adisk_Disk_cut d1 keepA1 keepL1 keepC1 h1 fun r1 h2 =>
  r1 = .tuple #[] ∧
  K (.tuple #[]) h2) else (
  K (.tuple #[]) h1)
def adisk_Disk_Crash.lo : Nat → List Nat × List (Nat × Ty) := fun n => match n with | _ => ([], [])
def adisk_Disk_Crash.od : Nat → Od := fun n => match n with | _ => .nil
theorem adisk_Disk_Crash.eq (d1 : Option Addr) (keepA1 : Option Addr) (keepL1 : Nat) (keepC1 : Nat) (K : Value → Heap → Prop) (h : Heap) : fnX (cx adisk_Disk_Crash.lo adisk_Disk_Crash.od) Try.f22 (Try.f22.body.getD .skip) [.pointer d1, .slice keepA1 keepL1 keepC1] K h = adisk_Disk_Crash d1 keepA1 keepL1 keepC1 K h := by kernel_rfl
theorem adisk_Disk_Crash.chk : fnOk (cx adisk_Disk_Crash.lo adisk_Disk_Crash.od) Try.f22 (Try.f22.body.getD .skip) 2 = true := by kernel_rfl
theorem adisk_Disk_Crash.ok {d1 : Option Addr} {keepA1 : Option Addr} {keepL1 : Nat} {keepC1 : Nat} {K : Value → Heap → Prop} {h : Heap} (hx : adisk_Disk_Crash d1 keepA1 keepL1 keepC1 K h) : C.adisk_Disk_Crash d1 keepA1 keepL1 keepC1 h K :=
  fn_to (cxOk _ _) Try.func22 (by kernel_rfl) adisk_Disk_Crash.chk (by rw [adisk_Disk_Crash.eq]; exact hx)

-- 23
def adisk_Disk_Down (d1 : Option Addr) (K : Value → Heap → Prop) (h1 : Heap) : Prop :=
  onSome d1 fun p1 =>
  ∃ (b1 : Bool), cellOf h1 (Addr.add p1 4) = some (.bool b1) ∧
  K (.bool b1) h1
def adisk_Disk_Down.lo : Nat → List Nat × List (Nat × Ty) := fun n => match n with | _ => ([], [])
def adisk_Disk_Down.od : Nat → Od := fun n => match n with | _ => .nil
theorem adisk_Disk_Down.eq (d1 : Option Addr) (K : Value → Heap → Prop) (h : Heap) : fnX (cx adisk_Disk_Down.lo adisk_Disk_Down.od) Try.f23 (Try.f23.body.getD .skip) [.pointer d1] K h = adisk_Disk_Down d1 K h := by kernel_rfl
theorem adisk_Disk_Down.chk : fnOk (cx adisk_Disk_Down.lo adisk_Disk_Down.od) Try.f23 (Try.f23.body.getD .skip) 1 = true := by kernel_rfl
theorem adisk_Disk_Down.ok {d1 : Option Addr} {K : Value → Heap → Prop} {h : Heap} (hx : adisk_Disk_Down d1 K h) : C.adisk_Disk_Down d1 h K :=
  fn_to (cxOk _ _) Try.func23 (by kernel_rfl) adisk_Disk_Down.chk (by rw [adisk_Disk_Down.eq]; exact hx)

-- 24
def adisk_Disk_Arm (d1 : Option Addr) (c1 : List Value) (K : Value → Heap → Prop) (h1 : Heap) : Prop :=
  New c1 54 h1 fun h2 =>
  onSome d1 fun p1 =>
  ∃ (b1 : Bool), cellOf h2 (Addr.add p1 4) = some (.bool b1) ∧
  bif b1 then (
  K (.int .i64 30) h2) else (
  ∃ (n1 : Int), cellOf h2 (Addr.add ⟨h1.size, 0, none⟩ 0) = some (.int .i64 n1) ∧
  ∃ (sA1 : Option Addr) (sL1 : Nat) (sC1 : Nat), cellOf h2 (Addr.add ⟨h1.size, 0, none⟩ 1) = some (.slice sA1 sL1 sC1) ∧
  C.slices_Clone_bool_bool sA1 sL1 sC1 h2 fun r1 h3 =>
  ∃ (sA2 : Option Addr) (sL2 : Nat) (sC2 : Nat), r1 = .slice sA2 sL2 sC2 ∧
  (cellOf h3 (Addr.add ⟨h1.size, 0, none⟩ 0) = some (.int .i64 n1)) ∧
  onSome d1 fun p2 =>
  Put (Addr.add p2 2) (.int .i64 (if (0 : Int) > n1 then 0 else n1)) h3 fun h4 =>
  onSome d1 fun p3 =>
  Put (Addr.add p3 3) (.slice sA2 sL2 sC2) h4 fun h5 =>
  K (.int .i64 0) h5)
def adisk_Disk_Arm.lo : Nat → List Nat × List (Nat × Ty) := fun n => match n with | _ => ([], [])
def adisk_Disk_Arm.od : Nat → Od := fun n => match n with | 3 => (.op 0 [] (.op 1 [] (.op 2 [] (.op 3 [] (.op 4 [] (.op 5 [] (.op 6 [] (.op 7 [3] (.op 8 [] (.op 9 [] (.op 10 [] (.op 11 [] (.op 12 [] (.op 13 [] .nil)))))))))))))) | _ => .nil
theorem adisk_Disk_Arm.eq (d1 : Option Addr) (c1 : List Value) (K : Value → Heap → Prop) (h : Heap) : fnX (cx adisk_Disk_Arm.lo adisk_Disk_Arm.od) Try.f24 (Try.f24.body.getD .skip) [.pointer d1, .agg ⟨c1⟩] K h = adisk_Disk_Arm d1 c1 K h := by kernel_rfl
theorem adisk_Disk_Arm.chk : fnOk (cx adisk_Disk_Arm.lo adisk_Disk_Arm.od) Try.f24 (Try.f24.body.getD .skip) 2 = true := by kernel_rfl
theorem adisk_Disk_Arm.ok {d1 : Option Addr} {c1 : List Value} {K : Value → Heap → Prop} {h : Heap} (hx : adisk_Disk_Arm d1 c1 K h) : C.adisk_Disk_Arm d1 c1 h K :=
  fn_to (cxOk _ _) Try.func24 (by kernel_rfl) adisk_Disk_Arm.chk (by rw [adisk_Disk_Arm.eq]; exact hx)

-- 25
def adisk_Disk_Steps (d1 : Option Addr) (K : Value → Heap → Prop) (h1 : Heap) : Prop :=
  onSome d1 fun p1 =>
  ∃ (n1 : Int), cellOf h1 (Addr.add p1 5) = some (.int .i64 n1) ∧
  onSome d1 fun p2 =>
  ∃ (n2 : Int), cellOf h1 (Addr.add p2 6) = some (.int .i64 n2) ∧
  K (.tuple #[.int .i64 n1, .int .i64 n2]) h1
def adisk_Disk_Steps.lo : Nat → List Nat × List (Nat × Ty) := fun n => match n with | _ => ([], [])
def adisk_Disk_Steps.od : Nat → Od := fun n => match n with | 1 => (.op 0 [] (.op 1 [] (.op 2 [] (.op 3 [] (.op 4 [] (.op 5 [] (.op 6 [] (.op 7 [] (.op 8 [] (.op 9 [] .nil)))))))))) | _ => .nil
theorem adisk_Disk_Steps.eq (d1 : Option Addr) (K : Value → Heap → Prop) (h : Heap) : fnX (cx adisk_Disk_Steps.lo adisk_Disk_Steps.od) Try.f25 (Try.f25.body.getD .skip) [.pointer d1] K h = adisk_Disk_Steps d1 K h := by kernel_rfl
theorem adisk_Disk_Steps.chk : fnOk (cx adisk_Disk_Steps.lo adisk_Disk_Steps.od) Try.f25 (Try.f25.body.getD .skip) 1 = true := by kernel_rfl
theorem adisk_Disk_Steps.ok {d1 : Option Addr} {K : Value → Heap → Prop} {h : Heap} (hx : adisk_Disk_Steps d1 K h) : C.adisk_Disk_Steps d1 h K :=
  fn_to (cxOk _ _) Try.func25 (by kernel_rfl) adisk_Disk_Steps.chk (by rw [adisk_Disk_Steps.eq]; exact hx)

-- 26
def adisk_Disk_Write (d1 : Option Addr) (i1 : Int) (bA1 : Option Addr) (bL1 : Nat) (bC1 : Nat) (K : Value → Heap → Prop) (h1 : Heap) : Prop :=
  onSome d1 fun p1 =>
  ∃ (b1 : Bool), cellOf h1 (Addr.add p1 4) = some (.bool b1) ∧
  bif b1 then (
  K (.int .i64 30) h1) else (
  C.adisk_Disk_has d1 i1 h1 fun r1 h2 =>
  ∃ (b2 : Bool), r1 = .bool b2 ∧
  bif (!b2) then (
  K (.int .i64 31) h2) else (
  bif ((bL1 : Int) != 512) then (
  K (.int .i64 32) h2) else (
  onSome d1 fun p2 =>
  ∃ (sA1 : Option Addr) (sL1 : Nat) (sC1 : Nat), cellOf h2 (Addr.add p2 1) = some (.slice sA1 sL1 sC1) ∧
  512 ≤ bL1 ∧
  onSome bA1 fun p3 =>
  ∃ cs1 : List Value, List.length cs1 = 512 ∧ Cells h2 p3 cs1 ∧
  List.length (cs1 : List Value) = 512 ∧
  List.length (([.int .i64 i1] ++ cs1) : List Value) = 513 ∧
  New ([.int .i64 i1] ++ cs1) 101 h2 fun h3 =>
  (cellOf h3 (Addr.add p2 1) = some (.slice sA1 sL1 sC1)) ∧
  ∃ new1 : List Value, List.length new1 = 1 * 513 ∧ SlCells h3 (some ⟨h2.size, 0, none⟩) new1 ∧ (∀ v ∈ new1, v.oneCell' = true) ∧
  AppendP ti101 101 sA1 sL1 sC1 1 new1 h3 fun sA2 sL2 sC2 h4 =>
  onSome d1 fun p4 =>
  Put (Addr.add p4 1) (.slice sA2 sL2 sC2) h4 fun h5 =>
  onSome d1 fun p5 =>
  ∃ (sA3 : Option Addr) (sL3 : Nat) (sC3 : Nat), cellOf h5 (Addr.add p5 7) = some (.slice sA3 sL3 sC3) ∧
  C.slices_Clone_byte_byte bA1 bL1 bC1 h5 fun r2 h6 =>
  ∃ (sA4 : Option Addr) (sL4 : Nat) (sC4 : Nat), r2 = .slice sA4 sL4 sC4 ∧
  (cellOf h6 (Addr.add p5 7) = some (.slice sA3 sL3 sC3)) ∧
  List.length ([.int .i64 1, .int .i64 i1, .slice sA4 sL4 sC4] : List Value) = 3 ∧
  New [.int .i64 1, .int .i64 i1, .slice sA4 sL4 sC4] 70 h6 fun h7 =>
  (cellOf h7 (Addr.add p5 7) = some (.slice sA3 sL3 sC3)) ∧
  ∃ new2 : List Value, List.length new2 = 1 * 3 ∧ SlCells h7 (some ⟨h6.size, 0, none⟩) new2 ∧ (∀ v ∈ new2, v.oneCell' = true) ∧
  AppendP ti70 70 sA3 sL3 sC3 1 new2 h7 fun sA5 sL5 sC5 h8 =>
  onSome d1 fun p6 =>
  Put (Addr.add p6 7) (.slice sA5 sL5 sC5) h8 fun h9 =>
  onSome d1 fun p7 =>
  ∃ (n1 : Int), cellOf h9 (Addr.add p7 5) = some (.int .i64 n1) ∧
  onSome d1 fun p8 =>
  Put (Addr.add p8 5) (.int .i64 (IntKind.wrap .i64 (n1 + 1))) h9 fun h10 =>
  C.adisk_Disk_step d1 (Value.nilFunc) h10 fun r3 h11 =>
  ∃ (n2 : Int), r3 = .int .i64 n2 ∧
  K (.int .i64 n2) h11)))
def adisk_Disk_Write.lo : Nat → List Nat × List (Nat × Ty) := fun n => match n with | _ => ([], [])
def adisk_Disk_Write.od : Nat → Od := fun n => match n with | 7 => (.op 0 [] (.op 1 [] (.op 2 [] (.op 3 [] (.op 4 [] (.op 5 [] (.op 6 [] (.op 7 [] (.op 8 [] (.op 9 [] (.op 10 [4] (.op 11 [] (.op 12 [] (.op 13 [] (.op 14 [] .nil))))))))))))))) | 8 => (.op 0 [] (.op 1 [] (.op 2 [] (.op 3 [] (.op 4 [] (.op 5 [] (.op 6 [] (.op 7 [4] (.op 8 [] (.op 9 [4] (.op 10 [] (.op 11 [] (.op 12 [] (.op 13 [] .nil)))))))))))))) | _ => .nil
theorem adisk_Disk_Write.eq (d1 : Option Addr) (i1 : Int) (bA1 : Option Addr) (bL1 : Nat) (bC1 : Nat) (K : Value → Heap → Prop) (h : Heap) : fnX (cx adisk_Disk_Write.lo adisk_Disk_Write.od) Try.f26 (Try.f26.body.getD .skip) [.pointer d1, .int .i64 i1, .slice bA1 bL1 bC1] K h = adisk_Disk_Write d1 i1 bA1 bL1 bC1 K h := by kernel_rfl
theorem adisk_Disk_Write.chk : fnOk (cx adisk_Disk_Write.lo adisk_Disk_Write.od) Try.f26 (Try.f26.body.getD .skip) 3 = true := by kernel_rfl
theorem adisk_Disk_Write.ok {d1 : Option Addr} {i1 : Int} {bA1 : Option Addr} {bL1 : Nat} {bC1 : Nat} {K : Value → Heap → Prop} {h : Heap} (hx : adisk_Disk_Write d1 i1 bA1 bL1 bC1 K h) : C.adisk_Disk_Write d1 i1 bA1 bL1 bC1 h K :=
  fn_to (cxOk _ _) Try.func26 (by kernel_rfl) adisk_Disk_Write.chk (by rw [adisk_Disk_Write.eq]; exact hx)

-- 27
def adisk_Disk_Flush (d1 : Option Addr) (K : Value → Heap → Prop) (h1 : Heap) : Prop :=
  New [.pointer d1] 23 h1 fun h2 =>
  ∃ (q1 : Option Addr), cellOf h2 ⟨h1.size, 0, none⟩ = some (.pointer q1) ∧
  onSome q1 fun p1 =>
  ∃ (b1 : Bool), cellOf h2 (Addr.add p1 4) = some (.bool b1) ∧
  bif b1 then (
  K (.int .i64 30) h2) else (
  ∃ (q2 : Option Addr), cellOf h2 ⟨h1.size, 0, none⟩ = some (.pointer q2) ∧
  onSome q2 fun p2 =>
  ∃ (n1 : Int), cellOf h2 (Addr.add p2 6) = some (.int .i64 n1) ∧
  onSome q2 fun p3 =>
  Put (Addr.add p3 6) (.int .i64 (IntKind.wrap .i64 (n1 + 1))) h2 fun h3 =>
  ∃ (q3 : Option Addr), cellOf h3 ⟨h1.size, 0, none⟩ = some (.pointer q3) ∧
  C.adisk_Disk_step q3 (Value.func (.func 51) #[] ⟨[.pointer (some ⟨h1.size, 0, none⟩)]⟩) h3 fun r1 h4 =>
  ∃ (n2 : Int), r1 = .int .i64 n2 ∧
  K (.int .i64 n2) h4)
def adisk_Disk_Flush.lo : Nat → List Nat × List (Nat × Ty) := fun n => match n with | _ => ([], [])
def adisk_Disk_Flush.od : Nat → Od := fun n => match n with | _ => .nil
theorem adisk_Disk_Flush.eq (d1 : Option Addr) (K : Value → Heap → Prop) (h : Heap) : fnX (cx adisk_Disk_Flush.lo adisk_Disk_Flush.od) Try.f27 (Try.f27.body.getD .skip) [.pointer d1] K h = adisk_Disk_Flush d1 K h := by kernel_rfl
theorem adisk_Disk_Flush.chk : fnOk (cx adisk_Disk_Flush.lo adisk_Disk_Flush.od) Try.f27 (Try.f27.body.getD .skip) 1 = true := by kernel_rfl
theorem adisk_Disk_Flush.ok {d1 : Option Addr} {K : Value → Heap → Prop} {h : Heap} (hx : adisk_Disk_Flush d1 K h) : C.adisk_Disk_Flush d1 h K :=
  fn_to (cxOk _ _) Try.func27 (by kernel_rfl) adisk_Disk_Flush.chk (by rw [adisk_Disk_Flush.eq]; exact hx)

-- 28
def boleref03_After (imageA1 : Option Addr) (imageL1 : Nat) (imageC1 : Nat) (actsA1 : Option Addr) (actsL1 : Nat) (actsC1 : Nat) (keepA1 : Option Addr) (keepL1 : Nat) (keepC1 : Nat) (K : Value → Heap → Prop) (h1 : Heap) : Prop :=
  C.boleref03_Of imageA1 imageL1 imageC1 h1 fun r1 h2 =>
  ∃ (q1 : Option Addr) (n1 : Int), r1 = .tuple #[.pointer q1, .int .i64 n1] ∧
  bif (n1 != 0) then (
  K (.tuple #[.slice none 0 0, .int .i64 n1]) h2) else (
  ∃ (I1 : Int → Heap → Prop) (M1 : Int → Heap → Nat), I1 0 h2 ∧
  ∀ (i1 : Int), ∀ h3 : Heap, I1 i1 h3 →
  bif (decide (i1 < (actsL1 : Int))) then (
  (0 ≤ i1 ∧ i1 < (actsL1 : Int)) ∧
  onSome actsA1 fun p1 =>
  ∃ cs1 : List Value, List.length cs1 = 3 ∧ Cells h3 (Addr.add p1 ((Int.toNat i1) * 3)) cs1 ∧
  C.boleref03_fault (IntKind.wrap .i64 (Int.tdiv (imageL1 : Int) 512)) cs1 h3 fun r2 h4 =>
  ∃ (n2 : Int), r2 = .int .i64 n2 ∧
  bif (n2 != 0) then (
  K (.tuple #[.slice none 0 0, .int .i64 n2]) h4) else (
  I1 (IntKind.wrap .i64 (i1 + 1)) h4 ∧ M1 (IntKind.wrap .i64 (i1 + 1)) h4 < M1 i1 h3)) else (
  C.boleref03_left imageA1 imageL1 imageC1 actsA1 actsL1 actsC1 keepA1 keepL1 keepC1 h3 fun r3 h5 =>
  ∃ (sA1 : Option Addr) (sL1 : Nat) (sC1 : Nat), r3 = .slice sA1 sL1 sC1 ∧
  K (.tuple #[.slice sA1 sL1 sC1, .int .i64 0]) h5))
def boleref03_After.lo : Nat → List Nat × List (Nat × Ty) := fun n => match n with | 5 => ([0, 1, 2], [(10, .int .i64)]) | _ => ([], [])
def boleref03_After.od : Nat → Od := fun n => match n with | _ => .nil
theorem boleref03_After.eq (imageA1 : Option Addr) (imageL1 : Nat) (imageC1 : Nat) (actsA1 : Option Addr) (actsL1 : Nat) (actsC1 : Nat) (keepA1 : Option Addr) (keepL1 : Nat) (keepC1 : Nat) (K : Value → Heap → Prop) (h : Heap) : fnX (cx boleref03_After.lo boleref03_After.od) Try.f28 (Try.f28.body.getD .skip) [.slice imageA1 imageL1 imageC1, .slice actsA1 actsL1 actsC1, .slice keepA1 keepL1 keepC1] K h = boleref03_After imageA1 imageL1 imageC1 actsA1 actsL1 actsC1 keepA1 keepL1 keepC1 K h := by kernel_rfl
theorem boleref03_After.chk : fnOk (cx boleref03_After.lo boleref03_After.od) Try.f28 (Try.f28.body.getD .skip) 3 = true := by kernel_rfl
theorem boleref03_After.ok {imageA1 : Option Addr} {imageL1 : Nat} {imageC1 : Nat} {actsA1 : Option Addr} {actsL1 : Nat} {actsC1 : Nat} {keepA1 : Option Addr} {keepL1 : Nat} {keepC1 : Nat} {K : Value → Heap → Prop} {h : Heap} (hx : boleref03_After imageA1 imageL1 imageC1 actsA1 actsL1 actsC1 keepA1 keepL1 keepC1 K h) : C.boleref03_After imageA1 imageL1 imageC1 actsA1 actsL1 actsC1 keepA1 keepL1 keepC1 h K :=
  fn_to (cxOk _ _) Try.func28 (by kernel_rfl) boleref03_After.chk (by rw [boleref03_After.eq]; exact hx)

-- 29
def bolelaw03_lent (bA1 : Option Addr) (bL1 : Nat) (bC1 : Nat) (K : Value → Heap → Prop) (h1 : Heap) : Prop :=
  ∃ new1 : List Value, List.length new1 = bL1 * 1 ∧ SlCells h1 bA1 new1 ∧ (∀ v ∈ new1, v.oneCell' = true) ∧
  AppendP ti5 5 none 0 0 bL1 new1 h1 fun sA1 sL1 sC1 h2 =>
  New [.int .u8 165] 5 h2 fun h3 =>
  ∃ new2 : List Value, List.length new2 = 1 * 1 ∧ SlCells h3 (some ⟨h2.size, 0, none⟩) new2 ∧ (∀ v ∈ new2, v.oneCell' = true) ∧
  AppendP ti5 5 sA1 sL1 sC1 1 new2 h3 fun sA2 sL2 sC2 h4 =>
  (0 ≤ (bL1 : Int) ∧ (bL1 : Int) ≤ (sC2 : Int)) ∧
  K (.tuple #[.slice sA2 (Int.toNat (bL1 : Int)) sC2, .slice sA2 sL2 sC2]) h4
def bolelaw03_lent.lo : Nat → List Nat × List (Nat × Ty) := fun n => match n with | _ => ([], [])
def bolelaw03_lent.od : Nat → Od := fun n => match n with | _ => .nil
theorem bolelaw03_lent.eq (bA1 : Option Addr) (bL1 : Nat) (bC1 : Nat) (K : Value → Heap → Prop) (h : Heap) : fnX (cx bolelaw03_lent.lo bolelaw03_lent.od) Try.f29 (Try.f29.body.getD .skip) [.slice bA1 bL1 bC1] K h = bolelaw03_lent bA1 bL1 bC1 K h := by kernel_rfl
theorem bolelaw03_lent.chk : fnOk (cx bolelaw03_lent.lo bolelaw03_lent.od) Try.f29 (Try.f29.body.getD .skip) 1 = true := by kernel_rfl
theorem bolelaw03_lent.ok {bA1 : Option Addr} {bL1 : Nat} {bC1 : Nat} {K : Value → Heap → Prop} {h : Heap} (hx : bolelaw03_lent bA1 bL1 bC1 K h) : C.bolelaw03_lent bA1 bL1 bC1 h K :=
  fn_to (cxOk _ _) Try.func29 (by kernel_rfl) bolelaw03_lent.chk (by rw [bolelaw03_lent.eq]; exact hx)

-- 30
def bolelaw03_copies (lA1 : Option Addr) (lL1 : Nat) (lC1 : Nat) (K : Value → Heap → Prop) (h1 : Heap) : Prop :=
  ∃ (I1 : Option Addr → Nat → Nat → Option Addr → Nat → Nat → Int → Heap → Prop) (M1 : Option Addr → Nat → Nat → Option Addr → Nat → Nat → Int → Heap → Nat), I1 none 0 0 none 0 0 0 h1 ∧
  ∀ (mA1 : Option Addr) (mL1 : Nat) (mC1 : Nat) (allA1 : Option Addr) (allL1 : Nat) (allC1 : Nat) (n1 : Int), ∀ h2 : Heap, I1 mA1 mL1 mC1 allA1 allL1 allC1 n1 h2 →
  bif (decide (n1 < (lL1 : Int))) then (
  (0 ≤ n1 ∧ n1 < (lL1 : Int)) ∧
  onSome lA1 fun p1 =>
  ∃ cs1 : List Value, List.length cs1 = 3 ∧ Cells h2 (Addr.add p1 ((Int.toNat n1) * 3)) cs1 ∧
  NewRow z70 70 cs1 3 h2 fun h4 =>
  ∃ (sA1 : Option Addr) (sL1 : Nat) (sC1 : Nat), cellOf h4 (Addr.add ⟨h2.size, 0, none⟩ 2) = some (.slice sA1 sL1 sC1) ∧
  C.bolelaw03_lent sA1 sL1 sC1 h4 fun r1 h5 =>
  ∃ (sA2 : Option Addr) (sL2 : Nat) (sC2 : Nat) (sA3 : Option Addr) (sL3 : Nat) (sC3 : Nat), r1 = .tuple #[.slice sA2 sL2 sC2, .slice sA3 sL3 sC3] ∧
  ∃ (n2 : Int), cellOf h5 (Addr.add ⟨h2.size, 0, none⟩ 0) = some (.int .i64 n2) ∧
  ∃ (n3 : Int), cellOf h5 (Addr.add ⟨h2.size, 0, none⟩ 1) = some (.int .i64 n3) ∧
  List.length ([.int .i64 n2, .int .i64 n3, .slice sA2 sL2 sC2] : List Value) = 3 ∧
  New [.int .i64 n2, .int .i64 n3, .slice sA2 sL2 sC2] 70 h5 fun h6 =>
  ∃ new1 : List Value, List.length new1 = 1 * 3 ∧ SlCells h6 (some ⟨h5.size, 0, none⟩) new1 ∧ (∀ v ∈ new1, v.oneCell' = true) ∧
  AppendP ti70 70 mA1 mL1 mC1 1 new1 h6 fun sA4 sL4 sC4 h7 =>
  New [.slice sA3 sL3 sC3] 22 h7 fun h8 =>
  ∃ new2 : List Value, List.length new2 = 1 * 1 ∧ SlCells h8 (some ⟨h7.size, 0, none⟩) new2 ∧ (∀ v ∈ new2, v.oneCell' = true) ∧
  AppendP ti22 22 allA1 allL1 allC1 1 new2 h8 fun sA5 sL5 sC5 h9 =>
  I1 sA4 sL4 sC4 sA5 sL5 sC5 (IntKind.wrap .i64 (n1 + 1)) h9 ∧ M1 sA4 sL4 sC4 sA5 sL5 sC5 (IntKind.wrap .i64 (n1 + 1)) h9 < M1 mA1 mL1 mC1 allA1 allL1 allC1 n1 h2) else (
  List.length ([.int .i64 (-99), .int .i64 0, .slice none 0 0] : List Value) = 3 ∧
  New [.int .i64 (-99), .int .i64 0, .slice none 0 0] 70 h2 fun h10 =>
  ∃ new3 : List Value, List.length new3 = 1 * 3 ∧ SlCells h10 (some ⟨h2.size, 0, none⟩) new3 ∧ (∀ v ∈ new3, v.oneCell' = true) ∧
  AppendP ti70 70 mA1 mL1 mC1 1 new3 h10 fun sA6 sL6 sC6 h11 =>
  (0 ≤ (lL1 : Int) ∧ (lL1 : Int) ≤ (sC6 : Int)) ∧
  K (.tuple #[.slice sA6 (Int.toNat (lL1 : Int)) sC6, .slice allA1 allL1 allC1]) h11)
def bolelaw03_copies.lo : Nat → List Nat × List (Nat × Ty) := fun n => match n with | 4 => ([0, 10, 11], [(4, .slice), (5, .slice), (12, .int .i64)]) | _ => ([], [])
def bolelaw03_copies.od : Nat → Od := fun n => match n with | _ => .nil
theorem bolelaw03_copies.eq (lA1 : Option Addr) (lL1 : Nat) (lC1 : Nat) (K : Value → Heap → Prop) (h : Heap) : fnX (cx bolelaw03_copies.lo bolelaw03_copies.od) Try.f30 (Try.f30.body.getD .skip) [.slice lA1 lL1 lC1] K h = bolelaw03_copies lA1 lL1 lC1 K h := by kernel_rfl
theorem bolelaw03_copies.chk : fnOk (cx bolelaw03_copies.lo bolelaw03_copies.od) Try.f30 (Try.f30.body.getD .skip) 1 = true := by kernel_rfl
theorem bolelaw03_copies.ok {lA1 : Option Addr} {lL1 : Nat} {lC1 : Nat} {K : Value → Heap → Prop} {h : Heap} (hx : bolelaw03_copies lA1 lL1 lC1 K h) : C.bolelaw03_copies lA1 lL1 lC1 h K :=
  fn_to (cxOk _ _) Try.func30 (by kernel_rfl) bolelaw03_copies.chk (by rw [bolelaw03_copies.eq]; exact hx)

-- 31
def bolelaw03_marks (lA1 : Option Addr) (lL1 : Nat) (lC1 : Nat) (K : Value → Heap → Prop) (h1 : Heap) : Prop :=
  ∃ new1 : List Value, List.length new1 = lL1 * 1 ∧ SlCells h1 lA1 new1 ∧ (∀ v ∈ new1, v.oneCell' = true) ∧
  AppendP ti4 4 none 0 0 lL1 new1 h1 fun sA1 sL1 sC1 h2 =>
  New [.bool true] 4 h2 fun h3 =>
  ∃ new2 : List Value, List.length new2 = 1 * 1 ∧ SlCells h3 (some ⟨h2.size, 0, none⟩) new2 ∧ (∀ v ∈ new2, v.oneCell' = true) ∧
  AppendP ti4 4 sA1 sL1 sC1 1 new2 h3 fun sA2 sL2 sC2 h4 =>
  (0 ≤ (lL1 : Int) ∧ (lL1 : Int) ≤ (sC2 : Int)) ∧
  K (.tuple #[.slice sA2 (Int.toNat (lL1 : Int)) sC2, .slice sA2 sL2 sC2]) h4
def bolelaw03_marks.lo : Nat → List Nat × List (Nat × Ty) := fun n => match n with | _ => ([], [])
def bolelaw03_marks.od : Nat → Od := fun n => match n with | _ => .nil
theorem bolelaw03_marks.eq (lA1 : Option Addr) (lL1 : Nat) (lC1 : Nat) (K : Value → Heap → Prop) (h : Heap) : fnX (cx bolelaw03_marks.lo bolelaw03_marks.od) Try.f31 (Try.f31.body.getD .skip) [.slice lA1 lL1 lC1] K h = bolelaw03_marks lA1 lL1 lC1 K h := by kernel_rfl
theorem bolelaw03_marks.chk : fnOk (cx bolelaw03_marks.lo bolelaw03_marks.od) Try.f31 (Try.f31.body.getD .skip) 1 = true := by kernel_rfl
theorem bolelaw03_marks.ok {lA1 : Option Addr} {lL1 : Nat} {lC1 : Nat} {K : Value → Heap → Prop} {h : Heap} (hx : bolelaw03_marks lA1 lL1 lC1 K h) : C.bolelaw03_marks lA1 lL1 lC1 h K :=
  fn_to (cxOk _ _) Try.func31 (by kernel_rfl) bolelaw03_marks.chk (by rw [bolelaw03_marks.eq]; exact hx)

-- 32
def adisk_After (imageA1 : Option Addr) (imageL1 : Nat) (imageC1 : Nat) (actsA1 : Option Addr) (actsL1 : Nat) (actsC1 : Nat) (keepA1 : Option Addr) (keepL1 : Nat) (keepC1 : Nat) (K : Value → Heap → Prop) (h1 : Heap) : Prop :=
  C.adisk_Open imageA1 imageL1 imageC1 h1 fun r1 h2 =>
  ∃ (q1 : Option Addr) (n1 : Int), r1 = .tuple #[.pointer q1, .int .i64 n1] ∧
  bif (n1 != 0) then (
  K (.tuple #[.slice none 0 0, .int .i64 n1]) h2) else (
  ∃ (I1 : Int → Heap → Prop) (M1 : Int → Heap → Nat), I1 0 h2 ∧
  ∀ (n2 : Int), ∀ h3 : Heap, I1 n2 h3 →
  bif (decide (n2 < (actsL1 : Int))) then (
  (0 ≤ n2 ∧ n2 < (actsL1 : Int)) ∧
  onSome actsA1 fun p1 =>
  ∃ cs1 : List Value, List.length cs1 = 3 ∧ Cells h3 (Addr.add p1 ((Int.toNat n2) * 3)) cs1 ∧
  NewRow z70 70 cs1 3 h3 fun h5 =>
  ∃ cs2 : List Value, List.length cs2 = 3 ∧ Cells h5 ⟨h3.size, 0, none⟩ cs2 ∧
  C.adisk_Disk_Blocks q1 h5 fun r2 h6 =>
  ∃ (n3 : Int), r2 = .int .i64 n3 ∧
  (List.length (cs2 : List Value) = 3 ∧ Cells h6 ⟨h3.size, 0, none⟩ cs2) ∧
  C.adisk_refused cs2 n3 h6 fun r3 h7 =>
  ∃ (n4 : Int), r3 = .int .i64 n4 ∧
  bif (n4 != 0) then (
  K (.tuple #[.slice none 0 0, .int .i64 n4]) h7) else (
  I1 (IntKind.wrap .i64 (n2 + 1)) h7 ∧ M1 (IntKind.wrap .i64 (n2 + 1)) h7 < M1 n2 h3)) else (
  ∃ (I2 : Int → Heap → Prop) (M2 : Int → Heap → Nat), I2 0 h3 ∧
  ∀ (n5 : Int), ∀ h8 : Heap, I2 n5 h8 →
  bif (decide (n5 < (actsL1 : Int))) then (
  (0 ≤ n5 ∧ n5 < (actsL1 : Int)) ∧
  onSome actsA1 fun p2 =>
  ∃ cs3 : List Value, List.length cs3 = 3 ∧ Cells h8 (Addr.add p2 ((Int.toNat n5) * 3)) cs3 ∧
  NewRow z70 70 cs3 3 h8 fun h10 =>
  ∃ (n6 : Int), cellOf h10 (Addr.add ⟨h8.size, 0, none⟩ 0) = some (.int .i64 n6) ∧
  bif (n6 == 2) then (
  C.adisk_Disk_Flush q1 h10 fun r4 h11 =>
  ∃ (n7 : Int), r4 = .int .i64 n7 ∧
  I2 (IntKind.wrap .i64 (n5 + 1)) h11 ∧ M2 (IntKind.wrap .i64 (n5 + 1)) h11 < M2 n5 h8) else (
  ∃ (n8 : Int), cellOf h10 (Addr.add ⟨h8.size, 0, none⟩ 1) = some (.int .i64 n8) ∧
  ∃ (sA1 : Option Addr) (sL1 : Nat) (sC1 : Nat), cellOf h10 (Addr.add ⟨h8.size, 0, none⟩ 2) = some (.slice sA1 sL1 sC1) ∧
  C.adisk_Disk_Write q1 n8 sA1 sL1 sC1 h10 fun r5 h12 =>
  ∃ (n9 : Int), r5 = .int .i64 n9 ∧
  I2 (IntKind.wrap .i64 (n5 + 1)) h12 ∧ M2 (IntKind.wrap .i64 (n5 + 1)) h12 < M2 n5 h8)) else (
  C.adisk_Disk_cut q1 keepA1 keepL1 keepC1 h8 fun r6 h13 =>
  r6 = .tuple #[] ∧
  C.adisk_Disk_Image q1 h13 fun r7 h14 =>
  ∃ (sA2 : Option Addr) (sL2 : Nat) (sC2 : Nat), r7 = .slice sA2 sL2 sC2 ∧
  K (.tuple #[.slice sA2 sL2 sC2, .int .i64 0]) h14)))
def adisk_After.lo : Nat → List Nat × List (Nat × Ty) := fun n => match n with | 5 => ([1, 2, 8, 23, 24], [(25, .int .i64)]) | 12 => ([2, 8, 37, 38], [(39, .int .i64)]) | _ => ([], [])
def adisk_After.od : Nat → Od := fun n => match n with | 7 => (.op 0 [] (.op 1 [] (.op 2 [0] (.op 3 [] (.op 4 [] .nil))))) | _ => .nil
theorem adisk_After.eq (imageA1 : Option Addr) (imageL1 : Nat) (imageC1 : Nat) (actsA1 : Option Addr) (actsL1 : Nat) (actsC1 : Nat) (keepA1 : Option Addr) (keepL1 : Nat) (keepC1 : Nat) (K : Value → Heap → Prop) (h : Heap) : fnX (cx adisk_After.lo adisk_After.od) Try.f32 (Try.f32.body.getD .skip) [.slice imageA1 imageL1 imageC1, .slice actsA1 actsL1 actsC1, .slice keepA1 keepL1 keepC1] K h = adisk_After imageA1 imageL1 imageC1 actsA1 actsL1 actsC1 keepA1 keepL1 keepC1 K h := by kernel_rfl
theorem adisk_After.chk : fnOk (cx adisk_After.lo adisk_After.od) Try.f32 (Try.f32.body.getD .skip) 3 = true := by kernel_rfl
theorem adisk_After.ok {imageA1 : Option Addr} {imageL1 : Nat} {imageC1 : Nat} {actsA1 : Option Addr} {actsL1 : Nat} {actsC1 : Nat} {keepA1 : Option Addr} {keepL1 : Nat} {keepC1 : Nat} {K : Value → Heap → Prop} {h : Heap} (hx : adisk_After imageA1 imageL1 imageC1 actsA1 actsL1 actsC1 keepA1 keepL1 keepC1 K h) : C.adisk_After imageA1 imageL1 imageC1 actsA1 actsL1 actsC1 keepA1 keepL1 keepC1 h K :=
  fn_to (cxOk _ _) Try.func32 (by kernel_rfl) adisk_After.chk (by rw [adisk_After.eq]; exact hx)

-- 33
def bolelaw03_kept.k1 (fullA1 : Option Addr) (fullL1 : Nat) (h1 : Heap) (ok1 : Bool) (K : Value → Heap → Prop) : Prop :=
  ∃ (I1 : Int → Heap → Prop) (M1 : Int → Heap → Nat), I1 0 h1 ∧
  ∀ (n2 : Int), ∀ h2 : Heap, I1 n2 h2 →
  bif (decide (n2 < (fullL1 : Int))) then (
  (0 ≤ n2 ∧ n2 < (fullL1 : Int)) ∧
  onSome fullA1 fun p2 =>
  ∃ (n3 : Int), cellOf h2 (Addr.add p2 (Int.toNat n2)) = some (.int .u8 n3) ∧
  (0 ≤ n2 ∧ n2 < (fullL1 : Int)) ∧
  onSome fullA1 fun p3 =>
  Put (Addr.add p3 (Int.toNat n2)) (.int .u8 (IntKind.wrap .u8 (n3 + 101))) h2 fun h3 =>
  I1 (IntKind.wrap .i64 (n2 + 1)) h3 ∧ M1 (IntKind.wrap .i64 (n2 + 1)) h3 < M1 n2 h2) else (
  K (.bool ok1) h2)
def bolelaw03_kept (fullA1 : Option Addr) (fullL1 : Nat) (fullC1 : Nat) (bA1 : Option Addr) (bL1 : Nat) (bC1 : Nat) (K : Value → Heap → Prop) (h1 : Heap) : Prop :=
  (0 ≤ (bL1 : Int) ∧ (bL1 : Int) ≤ (fullC1 : Int)) ∧
  ∃ bs1 : List UInt8, StrAt h1 fullA1 (Int.toNat (bL1 : Int)) bs1 ∧
  ∃ bs2 : List UInt8, StrAt h1 bA1 bL1 bs2 ∧
  bif ((mkStr bs1).toList == (mkStr bs2).toList) then (
  (0 ≤ (bL1 : Int) ∧ (bL1 : Int) < (fullL1 : Int)) ∧
  onSome fullA1 fun p1 =>
  ∃ (n1 : Int), cellOf h1 (Addr.add p1 (Int.toNat (bL1 : Int))) = some (.int .u8 n1) ∧
  bolelaw03_kept.k1 fullA1 fullL1 h1 (n1 == 165) K) else (
  bolelaw03_kept.k1 fullA1 fullL1 h1 false K)
def bolelaw03_kept.lo : Nat → List Nat × List (Nat × Ty) := fun n => match n with | 3 => ([0, 5, 24], [(25, .int .i64)]) | _ => ([], [])
def bolelaw03_kept.od : Nat → Od := fun n => match n with | 1 => (.op 0 [] (.op 1 [] (.op 2 [] (.op 3 [] (.op 4 [] (.op 5 [] (.op 6 [] (.op 7 [] (.op 8 [] (.op 9 [] (.op 10 [] (.op 11 [] (.op 12 [] (.op 13 [] (.op 14 [] (.op 15 [] (.op 16 [] .nil))))))))))))))))) | _ => .nil
theorem bolelaw03_kept.eq (fullA1 : Option Addr) (fullL1 : Nat) (fullC1 : Nat) (bA1 : Option Addr) (bL1 : Nat) (bC1 : Nat) (K : Value → Heap → Prop) (h : Heap) : fnX (cx bolelaw03_kept.lo bolelaw03_kept.od) Try.f33 (Try.f33.body.getD .skip) [.slice fullA1 fullL1 fullC1, .slice bA1 bL1 bC1] K h = bolelaw03_kept fullA1 fullL1 fullC1 bA1 bL1 bC1 K h := by kernel_rfl
theorem bolelaw03_kept.chk : fnOk (cx bolelaw03_kept.lo bolelaw03_kept.od) Try.f33 (Try.f33.body.getD .skip) 2 = true := by kernel_rfl
theorem bolelaw03_kept.ok {fullA1 : Option Addr} {fullL1 : Nat} {fullC1 : Nat} {bA1 : Option Addr} {bL1 : Nat} {bC1 : Nat} {K : Value → Heap → Prop} {h : Heap} (hx : bolelaw03_kept fullA1 fullL1 fullC1 bA1 bL1 bC1 K h) : C.bolelaw03_kept fullA1 fullL1 fullC1 bA1 bL1 bC1 h K :=
  fn_to (cxOk _ _) Try.func33 (by kernel_rfl) bolelaw03_kept.chk (by rw [bolelaw03_kept.eq]; exact hx)
end Go.Proofs.Ytnbfaokpaiiojaa.W
