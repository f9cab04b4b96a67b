/-
  WHAT THE FUNCTIONS COMPUTE, as formulas; each held against the loaded code by the kernel. Written by program (gen.py).
-/
import Derived.Test.YtpleolmalbdpnaaDoorTab
namespace Go.Proofs.YtpleolmalbdpnaaDoor.W
open Go Go.Proofs Go.Proofs.YtpleolmalbdpnaaDoor.Wx
-- 9
def bolelaw06_TxnWhole.k9 (all1 : Bool) (none1 : Bool) (i1 : Int) (h33 : Heap) (I1 : Bool → Bool → Int → Heap → Prop) (M1 : Bool → Bool → Int → Heap → Nat) (bs5 : List UInt8) (all2 : Bool) (h36 : Heap) (K : Value → Heap → Prop) : Prop :=
  bif none1 then (
  C.bolelaw06_block (IntKind.wrap .u8 (i1)) h36 fun r25 h37 =>
  ∃ (sA9 : Option Addr) (sL9 : Nat) (sC9 : Nat), r25 = .slice sA9 sL9 sC9 ∧
  ∃ bs8 : List UInt8, StrAt h37 sA9 sL9 bs8 ∧
  I1 all2 ((mkStr bs5).toList == (mkStr bs8).toList) (IntKind.wrap .i64 (i1 + 1)) h37 ∧ M1 all2 ((mkStr bs5).toList == (mkStr bs8).toList) (IntKind.wrap .i64 (i1 + 1)) h37 < M1 all1 none1 i1 h33) else (
  I1 all2 false (IntKind.wrap .i64 (i1 + 1)) h36 ∧ M1 all2 false (IntKind.wrap .i64 (i1 + 1)) h36 < M1 all1 none1 i1 h33)
def bolelaw06_TxnWhole.k8 (h6 : Heap) (h7 : Heap) (n3 : Int) (sA4 : Option Addr) (sC4 : Nat) (h32 : Heap) (K : Value → Heap → Prop) : Prop :=
  ∃ (I1 : Bool → Bool → Int → Heap → Prop) (M1 : Bool → Bool → Int → Heap → Nat), I1 true true 98 h32 ∧
  ∀ (all1 : Bool) (none1 : Bool) (i1 : Int), ∀ h33 : Heap, I1 all1 none1 i1 h33 →
  bif (decide (i1 < 118)) then (
  (0 ≤ (IntKind.wrap .i64 (i1 * 512)) ∧ (IntKind.wrap .i64 (i1 * 512)) ≤ (IntKind.wrap .i64 ((IntKind.wrap .i64 (i1 * 512)) + 512)) ∧ (IntKind.wrap .i64 ((IntKind.wrap .i64 (i1 * 512)) + 512)) ≤ (sC4 : Int)) ∧
  ∃ bs5 : List UInt8, StrAt h33 (if sC4 = (Int.toNat (IntKind.wrap .i64 (i1 * 512))) then sA4 else Option.map (Addr.add · (Int.toNat (IntKind.wrap .i64 (i1 * 512)))) sA4) ((Int.toNat (IntKind.wrap .i64 ((IntKind.wrap .i64 (i1 * 512)) + 512))) - (Int.toNat (IntKind.wrap .i64 (i1 * 512)))) bs5 ∧
  (0 ≤ i1 ∧ i1 < (118 : Int)) ∧
  ∃ (b6 : Bool), cellOf h33 (Addr.add ⟨h7.size, 0, none⟩ (Int.toNat i1)) = some (.bool b6) ∧
  bif (!b6) then (
  C.bolelaw06_block (IntKind.wrap .u8 (i1)) h33 fun r23 h34 =>
  ∃ (sA7 : Option Addr) (sL7 : Nat) (sC7 : Nat), r23 = .slice sA7 sL7 sC7 ∧
  ∃ bs6 : List UInt8, StrAt h34 sA7 sL7 bs6 ∧
  bif (!((mkStr bs5).toList == (mkStr bs6).toList)) then (
  K (.bool false) h34) else (
  I1 all1 none1 (IntKind.wrap .i64 (i1 + 1)) h34 ∧ M1 all1 none1 (IntKind.wrap .i64 (i1 + 1)) h34 < M1 all1 none1 i1 h33)) else (
  bif all1 then (
  (0 ≤ i1 ∧ i1 < (118 : Int)) ∧
  ∃ (n12 : Int), cellOf h33 (Addr.add ⟨h6.size, 0, none⟩ (Int.toNat i1)) = some (.int .u8 n12) ∧
  C.bolelaw06_block n12 h33 fun r24 h35 =>
  ∃ (sA8 : Option Addr) (sL8 : Nat) (sC8 : Nat), r24 = .slice sA8 sL8 sC8 ∧
  ∃ bs7 : List UInt8, StrAt h35 sA8 sL8 bs7 ∧
  bolelaw06_TxnWhole.k9 all1 none1 i1 h33 I1 M1 bs5 ((mkStr bs5).toList == (mkStr bs7).toList) h35 K) else (
  bolelaw06_TxnWhole.k9 all1 none1 i1 h33 I1 M1 bs5 false h33 K))) else (
  bif all1 then (
  K (.bool true) h33) else (
  bif none1 then (
  K (.bool (!(n3 == 0))) h33) else (
  K (.bool false) h33)))
def bolelaw06_TxnWhole.k7 (h6 : Heap) (h7 : Heap) (n3 : Int) (h27 : Heap) (q4 : Option Addr) (K : Value → Heap → Prop) : Prop :=
  C.wal_Recover q4 h27 fun r19 h28 =>
  ∃ (n10 : Int) (n11 : Int), r19 = .tuple #[.int .i64 n10, .int .i64 n11] ∧
  bif (n11 != 0) then (
  K (.bool false) h28) else (
  C.adisk_Disk_Image q4 h28 fun r20 h29 =>
  ∃ (sA4 : Option Addr) (sL4 : Nat) (sC4 : Nat), r20 = .slice sA4 sL4 sC4 ∧
  bif ((sL4 : Int) != 60416) then (
  K (.bool false) h29) else (
  (0 ≤ (512 : Int) ∧ (512 : Int) ≤ (sC4 : Int)) ∧
  ∃ bs1 : List UInt8, StrAt h29 sA4 (Int.toNat 512) bs1 ∧
  C.bolelaw06_block 0 h29 fun r21 h30 =>
  ∃ (sA5 : Option Addr) (sL5 : Nat) (sC5 : Nat), r21 = .slice sA5 sL5 sC5 ∧
  StrAt h30 sA4 (Int.toNat 512) (ByteArray.toList (mkStr bs1)) ∧
  ∃ bs2 : List UInt8, StrAt h30 sA5 sL5 bs2 ∧
  bif (!((mkStr bs1).toList == (mkStr bs2).toList)) then (
  K (.bool false) h30) else (
  (0 ≤ (512 : Int) ∧ (512 : Int) ≤ (1024 : Int) ∧ (1024 : Int) ≤ (sC4 : Int)) ∧
  ∃ bs3 : List UInt8, StrAt h30 (if sC4 = (Int.toNat 512) then sA4 else Option.map (Addr.add · (Int.toNat 512)) sA4) ((Int.toNat 1024) - (Int.toNat 512)) bs3 ∧
  C.bolelaw06_block 0 h30 fun r22 h31 =>
  ∃ (sA6 : Option Addr) (sL6 : Nat) (sC6 : Nat), r22 = .slice sA6 sL6 sC6 ∧
  StrAt h31 (if sC4 = (Int.toNat 512) then sA4 else Option.map (Addr.add · (Int.toNat 512)) sA4) ((Int.toNat 1024) - (Int.toNat 512)) (ByteArray.toList (mkStr bs3)) ∧
  ∃ bs4 : List UInt8, StrAt h31 sA6 sL6 bs4 ∧
  bif (!((mkStr bs3).toList == (mkStr bs4).toList)) then (
  K (.bool false) h31) else (
  bolelaw06_TxnWhole.k8 h6 h7 n3 sA4 sC4 h31 K))))
def bolelaw06_TxnWhole.k6 (h6 : Heap) (h7 : Heap) (n3 : Int) (q3 : Option Addr) (h25 : Heap) (K : Value → Heap → Prop) : Prop :=
  C.adisk_Disk_Image q3 h25 fun r17 h26 =>
  ∃ (sA3 : Option Addr) (sL3 : Nat) (sC3 : Nat), r17 = .slice sA3 sL3 sC3 ∧
  C.adisk_Open sA3 sL3 sC3 h26 fun r18 h27 =>
  ∃ (q4 : Option Addr) (n9 : Int), r18 = .tuple #[.pointer q4, .int .i64 n9] ∧
  bif (n9 != 0) then (
  K (.bool false) h27) else (
  bif (Option.isNone q4) then (
  K (.bool false) h27) else (
  bolelaw06_TxnWhole.k7 h6 h7 n3 h27 q4 K))
def bolelaw06_TxnWhole.k5 (again1 : Int) (leftA1 : Option Addr) (leftL1 : Nat) (leftC1 : Nat) (h6 : Heap) (h7 : Heap) (sL1 : Nat) (n3 : Int) (h20 : Heap) (q3 : Option Addr) (K : Value → Heap → Prop) : Prop :=
  C.bolelaw06_mod again1 (IntKind.wrap .i64 ((sL1 : Int) + 4)) h20 fun r13 h21 =>
  ∃ (n5 : Int), r13 = .int .i64 n5 ∧
  C.adisk_Disk_Arm q3 [.int .i64 n5, .slice leftA1 leftL1 leftC1] h21 fun r14 h22 =>
  ∃ (n6 : Int), r14 = .int .i64 n6 ∧
  bif (n6 != 0) then (
  K (.bool false) h22) else (
  C.wal_Recover q3 h22 fun r15 h23 =>
  ∃ (n7 : Int) (n8 : Int), r15 = .tuple #[.int .i64 n7, .int .i64 n8] ∧
  bif (n8 != 0) then (
  bif (n8 != 30) then (
  K (.bool false) h23) else (
  C.adisk_Disk_Down q3 h23 fun r16 h24 =>
  ∃ (b5 : Bool), r16 = .bool b5 ∧
  bif (!b5) then (
  K (.bool false) h24) else (
  bolelaw06_TxnWhole.k6 h6 h7 n3 q3 h24 K))) else (
  bolelaw06_TxnWhole.k6 h6 h7 n3 q3 h23 K))
def bolelaw06_TxnWhole.k4 (again1 : Int) (leftA1 : Option Addr) (leftL1 : Nat) (leftC1 : Nat) (q1 : Option Addr) (h6 : Heap) (h7 : Heap) (sL1 : Nat) (n3 : Int) (h18 : Heap) (K : Value → Heap → Prop) : Prop :=
  C.adisk_Disk_Image q1 h18 fun r11 h19 =>
  ∃ (sA2 : Option Addr) (sL2 : Nat) (sC2 : Nat), r11 = .slice sA2 sL2 sC2 ∧
  C.adisk_Open sA2 sL2 sC2 h19 fun r12 h20 =>
  ∃ (q3 : Option Addr) (n4 : Int), r12 = .tuple #[.pointer q3, .int .i64 n4] ∧
  bif (n4 != 0) then (
  K (.bool false) h20) else (
  bif (Option.isNone q3) then (
  K (.bool false) h20) else (
  bolelaw06_TxnWhole.k5 again1 leftA1 leftL1 leftC1 h6 h7 sL1 n3 h20 q3 K))
def bolelaw06_TxnWhole.k3 (again1 : Int) (leftA1 : Option Addr) (leftL1 : Nat) (leftC1 : Nat) (q1 : Option Addr) (q2 : Option Addr) (h6 : Heap) (h7 : Heap) (sL1 : Nat) (n1 : Int) (n3 : Int) (h16 : Heap) (steps1 : Int) (K : Value → Heap → Prop) : Prop :=
  bif (n1 == 0) then (
  bif (!((n3 == 0) == true)) then (
  K (.bool false) h16) else (
  C.txn_Txn_Over q2 h16 fun r10 h17 =>
  ∃ (b4 : Bool), r10 = .bool b4 ∧
  bif (!b4) then (
  K (.bool false) h17) else (
  bolelaw06_TxnWhole.k4 again1 leftA1 leftL1 leftC1 q1 h6 h7 sL1 n3 h17 K))) else (
  bif (!((n3 == 0) == (decide (n1 > steps1)))) then (
  K (.bool false) h16) else (
  C.txn_Txn_Over q2 h16 fun r26 h38 =>
  ∃ (b7 : Bool), r26 = .bool b7 ∧
  bif (!b7) then (
  K (.bool false) h38) else (
  bolelaw06_TxnWhole.k4 again1 leftA1 leftL1 leftC1 q1 h6 h7 sL1 n3 h38 K)))
def bolelaw06_TxnWhole.k2 (again1 : Int) (leftA1 : Option Addr) (leftL1 : Nat) (leftC1 : Nat) (q1 : Option Addr) (q2 : Option Addr) (h6 : Heap) (h7 : Heap) (sL1 : Nat) (n1 : Int) (n3 : Int) (h16 : Heap) (K : Value → Heap → Prop) : Prop :=
  bif ((sL1 : Int) == 0) then (
  bolelaw06_TxnWhole.k3 again1 leftA1 leftL1 leftC1 q1 q2 h6 h7 sL1 n1 n3 h16 0 K) else (
  bolelaw06_TxnWhole.k3 again1 leftA1 leftL1 leftC1 q1 q2 h6 h7 sL1 n1 n3 h16 (IntKind.wrap .i64 ((IntKind.wrap .i64 (2 * (sL1 : Int))) + 6)) K)
def bolelaw06_TxnWhole.k1 (putsA1 : Option Addr) (putsL1 : Nat) (putsC1 : Nat) (at1 : Int) (keepA1 : Option Addr) (keepL1 : Nat) (keepC1 : Nat) (again1 : Int) (leftA1 : Option Addr) (leftL1 : Nat) (leftC1 : Nat) (q1 : Option Addr) (h4 : Heap) (K : Value → Heap → Prop) : Prop :=
  C.txn_Begin q1 h4 fun r3 h5 =>
  ∃ (q2 : Option Addr), r3 = .pointer q2 ∧
  bif (Option.isNone q2) then (
  K (.bool false) h5) else (
  C.bolelaw06_fill q2 putsA1 putsL1 putsC1 h5 fun r4 h6 =>
  ∃ (cs1 : List Value) (cs2 : List Value) (b2 : Bool), r4 = .tuple #[.agg ⟨cs1⟩, .agg ⟨cs2⟩, .bool b2] ∧
  New z67 67 h6 fun h7 =>
  New z68 68 h7 fun h8 =>
  PutRow ⟨h6.size, 0, none⟩ cs1 118 h8 fun h9 =>
  PutRow ⟨h7.size, 0, none⟩ cs2 118 h9 fun h10 =>
  bif (!b2) then (
  K (.bool false) h10) else (
  C.txn_Txn_Written q2 h10 fun r5 h11 =>
  ∃ (sA1 : Option Addr) (sL1 : Nat) (sC1 : Nat), r5 = .slice sA1 sL1 sC1 ∧
  C.bolelaw06_mod at1 (IntKind.wrap .i64 ((IntKind.wrap .i64 (2 * (sL1 : Int))) + 8)) h11 fun r6 h12 =>
  ∃ (n1 : Int), r6 = .int .i64 n1 ∧
  C.adisk_Disk_Arm q1 [.int .i64 n1, .slice keepA1 keepL1 keepC1] h12 fun r7 h13 =>
  ∃ (n2 : Int), r7 = .int .i64 n2 ∧
  bif (n2 != 0) then (
  K (.bool false) h13) else (
  C.txn_Txn_Commit q2 h13 fun r8 h14 =>
  ∃ (n3 : Int), r8 = .int .i64 n3 ∧
  bif (!(n3 == 0)) then (
  bif (n3 != 30) then (
  K (.bool false) h14) else (
  C.adisk_Disk_Down q1 h14 fun r9 h15 =>
  ∃ (b3 : Bool), r9 = .bool b3 ∧
  bif (!b3) then (
  K (.bool false) h15) else (
  bolelaw06_TxnWhole.k2 again1 leftA1 leftL1 leftC1 q1 q2 h6 h7 sL1 n1 n3 h15 K))) else (
  bolelaw06_TxnWhole.k2 again1 leftA1 leftL1 leftC1 q1 q2 h6 h7 sL1 n1 n3 h14 K))))
def bolelaw06_TxnWhole (putsA1 : Option Addr) (putsL1 : Nat) (putsC1 : Nat) (at1 : Int) (keepA1 : Option Addr) (keepL1 : Nat) (keepC1 : Nat) (again1 : Int) (leftA1 : Option Addr) (leftL1 : Nat) (leftC1 : Nat) (K : Value → Heap → Prop) (h1 : Heap) : Prop :=
  C.bolelaw06_fresh 118 h1 fun r1 h2 =>
  ∃ (q1 : Option Addr), r1 = .pointer q1 ∧
  bif (Option.isNone q1) then (
  K (.bool false) h2) else (
  C.bolelaw06_known  h2 fun r2 h3 =>
  ∃ (b1 : Bool), r2 = .bool b1 ∧
  bif (!b1) then (
  K (.bool false) h3) else (
  bolelaw06_TxnWhole.k1 putsA1 putsL1 putsC1 at1 keepA1 keepL1 keepC1 again1 leftA1 leftL1 leftC1 q1 h3 K))
def bolelaw06_TxnWhole.lo : Nat → List Nat × List (Nat × Ty) := fun n => match n with | 44 => ([13, 14, 18, 27], [(28, .bool), (29, .bool), (30, .int .i64)]) | _ => ([], [])
def bolelaw06_TxnWhole.od : Nat → Od := fun n => match n with | 39 => (.op 0 [] (.op 1 [] (.op 2 [] (.op 3 [] (.op 4 [] (.op 5 [] (.op 6 [] (.op 7 [6] (.op 8 [] (.op 9 [] (.op 10 [] (.op 11 [] (.op 12 [] (.op 13 [] (.op 14 [] (.op 15 [14] (.op 16 [] (.op 17 [] (.op 18 [] .nil))))))))))))))))))) | _ => .nil
theorem bolelaw06_TxnWhole.eq (putsA1 : Option Addr) (putsL1 : Nat) (putsC1 : Nat) (at1 : Int) (keepA1 : Option Addr) (keepL1 : Nat) (keepC1 : Nat) (again1 : Int) (leftA1 : Option Addr) (leftL1 : Nat) (leftC1 : Nat) (K : Value → Heap → Prop) (h : Heap) : fnX (cx bolelaw06_TxnWhole.lo bolelaw06_TxnWhole.od) Tryd.f9 (Tryd.f9.body.getD .skip) [.slice putsA1 putsL1 putsC1, .int .i64 at1, .slice keepA1 keepL1 keepC1, .int .i64 again1, .slice leftA1 leftL1 leftC1] K h = bolelaw06_TxnWhole putsA1 putsL1 putsC1 at1 keepA1 keepL1 keepC1 again1 leftA1 leftL1 leftC1 K h := by kernel_rfl
theorem bolelaw06_TxnWhole.chk : fnOk (cx bolelaw06_TxnWhole.lo bolelaw06_TxnWhole.od) Tryd.f9 (Tryd.f9.body.getD .skip) 5 = true := by kernel_rfl
theorem bolelaw06_TxnWhole.ok {putsA1 : Option Addr} {putsL1 : Nat} {putsC1 : Nat} {at1 : Int} {keepA1 : Option Addr} {keepL1 : Nat} {keepC1 : Nat} {again1 : Int} {leftA1 : Option Addr} {leftL1 : Nat} {leftC1 : Nat} {K : Value → Heap → Prop} {h : Heap} (hx : bolelaw06_TxnWhole putsA1 putsL1 putsC1 at1 keepA1 keepL1 keepC1 again1 leftA1 leftL1 leftC1 K h) : C.bolelaw06_TxnWhole putsA1 putsL1 putsC1 at1 keepA1 keepL1 keepC1 again1 leftA1 leftL1 leftC1 h K :=
  fn_to (cxOk _ _) Tryd.func9 (by kernel_rfl) bolelaw06_TxnWhole.chk (by rw [bolelaw06_TxnWhole.eq]; exact hx)

-- 10
def bolelaw05_fixed.k1 (h2 : Heap) (q1 : Option Addr) (K : Value → Heap → Prop) : Prop :=
  C.bolelaw05_block none 0 0 65 h2 fun r2 h3 =>
  ∃ (sA1 : Option Addr) (sL1 : Nat) (sC1 : Nat), r2 = .slice sA1 sL1 sC1 ∧
  C.bolelaw05_block none 0 0 66 h3 fun r3 h4 =>
  ∃ (sA2 : Option Addr) (sL2 : Nat) (sC2 : Nat), r3 = .slice sA2 sL2 sC2 ∧
  List.length ([.int .i64 98, .slice sA1 sL1 sC1] : List Value) = 2 ∧
  List.length ([.int .i64 99, .slice sA2 sL2 sC2] : List Value) = 2 ∧
  New [.int .i64 98, .slice sA1 sL1 sC1, .int .i64 99, .slice sA2 sL2 sC2] 40 h4 fun h5 =>
  C.wal_Commit q1 (some ⟨h4.size, 0, none⟩) 2 2 h5 fun r4 h6 =>
  ∃ (n2 : Int), r4 = .int .i64 n2 ∧
  C.adisk_Disk_Steps q1 h6 fun r5 h7 =>
  ∃ (n3 : Int) (n4 : Int), r5 = .tuple #[.int .i64 n3, .int .i64 n4] ∧
  C.adisk_Disk_Read q1 98 h7 fun r6 h8 =>
  ∃ (sA3 : Option Addr) (sL3 : Nat) (sC3 : Nat) (n5 : Int), r6 = .tuple #[.slice sA3 sL3 sC3, .int .i64 n5] ∧
  C.adisk_Disk_Read q1 3 h8 fun r7 h9 =>
  ∃ (sA4 : Option Addr) (sL4 : Nat) (sC4 : Nat) (n6 : Int), r7 = .tuple #[.slice sA4 sL4 sC4, .int .i64 n6] ∧
  C.wal_Recover q1 h9 fun r8 h10 =>
  ∃ (n7 : Int) (n8 : Int), r8 = .tuple #[.int .i64 n7, .int .i64 n8] ∧
  C.wal_Behind q1 h10 fun r9 h11 =>
  ∃ (sA5 : Option Addr) (sL5 : Nat) (sC5 : Nat) (n9 : Int), r9 = .tuple #[.slice sA5 sL5 sC5, .int .i64 n9] ∧
  bif (n2 == 0) then (
  bif (n3 == 6) then (
  bif (n4 == 4) then (
  bif (n5 == 0) then (
  C.bolelaw05_sameBytes sA3 sL3 sC3 sA1 sL1 sC1 h11 fun r10 h12 =>
  ∃ (b1 : Bool), r10 = .bool b1 ∧
  bif b1 then (
  bif (n6 == 0) then (
  C.bolelaw05_sameBytes sA4 sL4 sC4 sA2 sL2 sC2 h12 fun r11 h13 =>
  ∃ (b2 : Bool), r11 = .bool b2 ∧
  bif b2 then (
  bif (n8 == 0) then (
  bif (n7 == 0) then (
  bif (n9 == 0) then (
  bif ((sL5 : Int) == 51200) then (
  (0 ≤ (50176 : Int) ∧ 50176 < (sL5 : Int)) ∧
  onSome sA5 fun p1 =>
  ∃ (n10 : Int), cellOf h13 (Addr.add p1 (Int.toNat 50176)) = some (.int .u8 n10) ∧
  bif (n10 == 65) then (
  (0 ≤ (512 : Int) ∧ 512 < (sL5 : Int)) ∧
  onSome sA5 fun p2 =>
  ∃ (n11 : Int), cellOf h13 (Addr.add p2 (Int.toNat 512)) = some (.int .u8 n11) ∧
  K (.bool (n11 == 0)) h13) else (
  K (.bool false) h13)) else (
  K (.bool false) h13)) else (
  K (.bool false) h13)) else (
  K (.bool false) h13)) else (
  K (.bool false) h13)) else (
  K (.bool false) h13)) else (
  K (.bool false) h12)) else (
  K (.bool false) h12)) else (
  K (.bool false) h11)) else (
  K (.bool false) h11)) else (
  K (.bool false) h11)) else (
  K (.bool false) h11)
def bolelaw05_fixed  (K : Value → Heap → Prop) (h1 : Heap) : Prop :=
  C.adisk_New 100 h1 fun r1 h2 =>
  ∃ (q1 : Option Addr) (n1 : Int), r1 = .tuple #[.pointer q1, .int .i64 n1] ∧
  bif (n1 != 0) then (
  K (.bool false) h2) else (
  bif (Option.isNone q1) then (
  K (.bool false) h2) else (
  bolelaw05_fixed.k1 h2 q1 K))
def bolelaw05_fixed.lo : Nat → List Nat × List (Nat × Ty) := fun n => match n with | _ => ([], [])
def bolelaw05_fixed.od : Nat → Od := fun n => match n with | _ => .nil
theorem bolelaw05_fixed.eq  (K : Value → Heap → Prop) (h : Heap) : fnX (cx bolelaw05_fixed.lo bolelaw05_fixed.od) Tryd.f10 (Tryd.f10.body.getD .skip) [] K h = bolelaw05_fixed  K h := by kernel_rfl
theorem bolelaw05_fixed.chk : fnOk (cx bolelaw05_fixed.lo bolelaw05_fixed.od) Tryd.f10 (Tryd.f10.body.getD .skip) 0 = true := by kernel_rfl
theorem bolelaw05_fixed.ok  {K : Value → Heap → Prop} {h : Heap} (hx : bolelaw05_fixed  K h) : C.bolelaw05_fixed  h K :=
  fn_to (cxOk _ _) Tryd.func10 (by kernel_rfl) bolelaw05_fixed.chk (by rw [bolelaw05_fixed.eq]; exact hx)

-- 11
def adisk_New (n1 : Int) (K : Value → Heap → Prop) (h1 : Heap) : Prop :=
  bif (decide (n1 < 1)) then (
  K (.tuple #[.pointer none, .int .i64 32]) h1) else (
  bif (decide (n1 > 16384)) then (
  K (.tuple #[.pointer none, .int .i64 32]) h1) else (
  (0 ≤ n1 ∧ n1 ≤ n1 ∧ (512 : Int) * n1 ≤ 281474976710656 ∧ n1 ≤ 281474976710656) ∧
  New (repCells z104 (Int.toNat n1)) 104 h1 fun h2 =>
  New [.slice (some ⟨h1.size, 0, none⟩) (Int.toNat n1) (Int.toNat n1), .slice none 0 0, .int .i64 0, .slice none 0 0, .bool false, .int .i64 0, .int .i64 0, .slice none 0 0] 87 h2 fun h3 =>
  K (.tuple #[.pointer (some ⟨h2.size, 0, none⟩), .int .i64 0]) h3))
def adisk_New.lo : Nat → List Nat × List (Nat × Ty) := fun n => match n with | _ => ([], [])
def adisk_New.od : Nat → Od := fun n => match n with | _ => .nil
set_option maxRecDepth 1000000 in
theorem adisk_New.eq (n1 : Int) (K : Value → Heap → Prop) (h : Heap) : fnX (cx adisk_New.lo adisk_New.od) Tryd.f11 (Tryd.f11.body.getD .skip) [.int .i64 n1] K h = adisk_New n1 K h := by kernel_rfl
theorem adisk_New.chk : fnOk (cx adisk_New.lo adisk_New.od) Tryd.f11 (Tryd.f11.body.getD .skip) 1 = true := by kernel_rfl
set_option maxRecDepth 1000000 in
theorem adisk_New.ok {n1 : Int} {K : Value → Heap → Prop} {h : Heap} (hx : adisk_New n1 K h) : C.adisk_New n1 h K :=
  fn_to (cxOk _ _) Tryd.func11 (by kernel_rfl) adisk_New.chk (by rw [adisk_New.eq]; exact hx)

-- 12
def bolelaw05_rows (lA1 : Option Addr) (lL1 : Nat) (lC1 : Nat) (K : Value → Heap → Prop) (h1 : Heap) : Prop :=
  ∃ (I1 : Option Addr → Nat → Nat → Int → Heap → Prop) (M1 : Option Addr → Nat → Nat → Int → Heap → Nat), I1 none 0 0 0 h1 ∧
  ∀ (outA1 : Option Addr) (outL1 : Nat) (outC1 : Nat) (at1 : Int), ∀ h2 : Heap, I1 outA1 outL1 outC1 at1 h2 →
  bif (decide (at1 < 30)) then (
  ∃ (I2 : Option Addr → Nat → Nat → Int → Heap → Prop) (M2 : Option Addr → Nat → Nat → Int → Heap → Nat), I2 outA1 outL1 outC1 (IntKind.wrap .i64 ((lL1 : Int) - 1)) h2 ∧
  ∀ (outA2 : Option Addr) (outL2 : Nat) (outC2 : Nat) (i1 : Int), ∀ h3 : Heap, I2 outA2 outL2 outC2 i1 h3 →
  bif (decide (i1 ≥ 0)) then (
  (0 ≤ i1 ∧ i1 < (lL1 : Int)) ∧
  onSome lA1 fun p1 =>
  ∃ (n1 : Int), cellOf h3 (Addr.add (Addr.add p1 ((Int.toNat i1) * 2)) 0) = some (.int .i64 n1) ∧
  C.bolelaw05_mod n1 30 h3 fun r1 h4 =>
  ∃ (n2 : Int), r1 = .int .i64 n2 ∧
  bif (n2 == at1) then (
  (0 ≤ i1 ∧ i1 < (lL1 : Int)) ∧
  onSome lA1 fun p2 =>
  ∃ (n3 : Int), cellOf h4 (Addr.add (Addr.add p2 ((Int.toNat i1) * 2)) 1) = some (.int .u8 n3) ∧
  C.bolelaw05_block none 0 0 n3 h4 fun r2 h5 =>
  ∃ (sA1 : Option Addr) (sL1 : Nat) (sC1 : Nat), r2 = .slice sA1 sL1 sC1 ∧
  List.length ([.int .i64 (IntKind.wrap .i64 (98 + at1)), .slice sA1 sL1 sC1] : List Value) = 2 ∧
  New [.int .i64 (IntKind.wrap .i64 (98 + at1)), .slice sA1 sL1 sC1] 40 h5 fun h6 =>
  ∃ new1 : List Value, List.length new1 = 1 * 2 ∧ SlCells h6 (some ⟨h5.size, 0, none⟩) new1 ∧ (∀ v ∈ new1, v.oneCell' = true) ∧
  AppendP ti40 40 outA2 outL2 outC2 1 new1 h6 fun sA2 sL2 sC2 h7 =>
  I1 sA2 sL2 sC2 (IntKind.wrap .i64 (at1 + 1)) h7 ∧ M1 sA2 sL2 sC2 (IntKind.wrap .i64 (at1 + 1)) h7 < M1 outA1 outL1 outC1 at1 h2) else (
  I2 outA2 outL2 outC2 (IntKind.wrap .i64 (i1 - 1)) h4 ∧ M2 outA2 outL2 outC2 (IntKind.wrap .i64 (i1 - 1)) h4 < M2 outA2 outL2 outC2 i1 h3)) else (
  I1 outA2 outL2 outC2 (IntKind.wrap .i64 (at1 + 1)) h3 ∧ M1 outA2 outL2 outC2 (IntKind.wrap .i64 (at1 + 1)) h3 < M1 outA1 outL1 outC1 at1 h2)) else (
  K (.slice outA1 outL1 outC1) h2)
def bolelaw05_rows.lo : Nat → List Nat × List (Nat × Ty) := fun n => match n with | 3 => ([0], [(3, .slice), (4, .int .i64)]) | 6 => ([0, 4], [(3, .slice), (5, .int .i64)]) | _ => ([], [])
def bolelaw05_rows.od : Nat → Od := fun n => match n with | _ => .nil
theorem bolelaw05_rows.eq (lA1 : Option Addr) (lL1 : Nat) (lC1 : Nat) (K : Value → Heap → Prop) (h : Heap) : fnX (cx bolelaw05_rows.lo bolelaw05_rows.od) Tryd.f12 (Tryd.f12.body.getD .skip) [.slice lA1 lL1 lC1] K h = bolelaw05_rows lA1 lL1 lC1 K h := by kernel_rfl
theorem bolelaw05_rows.chk : fnOk (cx bolelaw05_rows.lo bolelaw05_rows.od) Tryd.f12 (Tryd.f12.body.getD .skip) 1 = true := by kernel_rfl
theorem bolelaw05_rows.ok {lA1 : Option Addr} {lL1 : Nat} {lC1 : Nat} {K : Value → Heap → Prop} {h : Heap} (hx : bolelaw05_rows lA1 lL1 lC1 K h) : C.bolelaw05_rows lA1 lL1 lC1 h K :=
  fn_to (cxOk _ _) Tryd.func12 (by kernel_rfl) bolelaw05_rows.chk (by rw [bolelaw05_rows.eq]; exact hx)

-- 13
def adisk_Disk_Steps (d1 : Option Addr) (K : Value → Heap → Prop) (h1 : Heap) : Prop :=
  onSome d1 fun p1 =>
  ∃ (n1 : Int), cellOf h1 (Addr.add p1 5) = some (.int .i64 n1) ∧
  onSome d1 fun p2 =>
  ∃ (n2 : Int), cellOf h1 (Addr.add p2 6) = some (.int .i64 n2) ∧
  K (.tuple #[.int .i64 n1, .int .i64 n2]) h1
def adisk_Disk_Steps.lo : Nat → List Nat × List (Nat × Ty) := fun n => match n with | _ => ([], [])
def adisk_Disk_Steps.od : Nat → Od := fun n => match n with | 1 => (.op 0 [] (.op 1 [] (.op 2 [] (.op 3 [] (.op 4 [] (.op 5 [] (.op 6 [] (.op 7 [] (.op 8 [] (.op 9 [] .nil)))))))))) | _ => .nil
theorem adisk_Disk_Steps.eq (d1 : Option Addr) (K : Value → Heap → Prop) (h : Heap) : fnX (cx adisk_Disk_Steps.lo adisk_Disk_Steps.od) Tryd.f13 (Tryd.f13.body.getD .skip) [.pointer d1] K h = adisk_Disk_Steps d1 K h := by kernel_rfl
theorem adisk_Disk_Steps.chk : fnOk (cx adisk_Disk_Steps.lo adisk_Disk_Steps.od) Tryd.f13 (Tryd.f13.body.getD .skip) 1 = true := by kernel_rfl
theorem adisk_Disk_Steps.ok {d1 : Option Addr} {K : Value → Heap → Prop} {h : Heap} (hx : adisk_Disk_Steps d1 K h) : C.adisk_Disk_Steps d1 h K :=
  fn_to (cxOk _ _) Tryd.func13 (by kernel_rfl) adisk_Disk_Steps.chk (by rw [adisk_Disk_Steps.eq]; exact hx)

-- 14
def adisk_Disk_Tape (d1 : Option Addr) (from1 : Int) (K : Value → Heap → Prop) (h1 : Heap) : Prop :=
  ∃ (I1 : Option Addr → Nat → Nat → Int → Heap → Prop) (M1 : Option Addr → Nat → Nat → Int → Heap → Nat), I1 none 0 0 (if (0 : Int) > from1 then 0 else from1) h1 ∧
  ∀ (lA1 : Option Addr) (lL1 : Nat) (lC1 : Nat) (k1 : Int), ∀ h2 : Heap, I1 lA1 lL1 lC1 k1 h2 →
  onSome d1 fun p1 =>
  ∃ (sA1 : Option Addr) (sL1 : Nat) (sC1 : Nat), cellOf h2 (Addr.add p1 7) = some (.slice sA1 sL1 sC1) ∧
  bif (decide (k1 < (sL1 : Int))) then (
  onSome d1 fun p2 =>
  ∃ (sA2 : Option Addr) (sL2 : Nat) (sC2 : Nat), cellOf h2 (Addr.add p2 7) = some (.slice sA2 sL2 sC2) ∧
  (0 ≤ k1 ∧ k1 < (sL2 : Int)) ∧
  onSome sA2 fun p3 =>
  ∃ cs1 : List Value, List.length cs1 = 3 ∧ Cells h2 (Addr.add p3 ((Int.toNat k1) * 3)) cs1 ∧
  NewRow z38 38 cs1 3 h2 fun h4 =>
  ∃ (sA3 : Option Addr) (sL3 : Nat) (sC3 : Nat), cellOf h4 (Addr.add ⟨h2.size, 0, none⟩ 2) = some (.slice sA3 sL3 sC3) ∧
  C.slices_Clone_byte_byte sA3 sL3 sC3 h4 fun r1 h5 =>
  ∃ (sA4 : Option Addr) (sL4 : Nat) (sC4 : Nat), r1 = .slice sA4 sL4 sC4 ∧
  Put (Addr.add ⟨h2.size, 0, none⟩ 2) (.slice sA4 sL4 sC4) h5 fun h6 =>
  ∃ cs2 : List Value, List.length cs2 = 3 ∧ Cells h6 ⟨h2.size, 0, none⟩ cs2 ∧
  List.length (cs2 : List Value) = 3 ∧
  New cs2 38 h6 fun h7 =>
  ∃ new1 : List Value, List.length new1 = 1 * 3 ∧ SlCells h7 (some ⟨h6.size, 0, none⟩) new1 ∧ (∀ v ∈ new1, v.oneCell' = true) ∧
  AppendP ti38 38 lA1 lL1 lC1 1 new1 h7 fun sA5 sL5 sC5 h8 =>
  I1 sA5 sL5 sC5 (IntKind.wrap .i64 (k1 + 1)) h8 ∧ M1 sA5 sL5 sC5 (IntKind.wrap .i64 (k1 + 1)) h8 < M1 lA1 lL1 lC1 k1 h2) else (
  K (.slice lA1 lL1 lC1) h2)
def adisk_Disk_Tape.lo : Nat → List Nat × List (Nat × Ty) := fun n => match n with | 3 => ([0], [(5, .slice), (6, .int .i64)]) | _ => ([], [])
def adisk_Disk_Tape.od : Nat → Od := fun n => match n with | _ => .nil
theorem adisk_Disk_Tape.eq (d1 : Option Addr) (from1 : Int) (K : Value → Heap → Prop) (h : Heap) : fnX (cx adisk_Disk_Tape.lo adisk_Disk_Tape.od) Tryd.f14 (Tryd.f14.body.getD .skip) [.pointer d1, .int .i64 from1] K h = adisk_Disk_Tape d1 from1 K h := by kernel_rfl
theorem adisk_Disk_Tape.chk : fnOk (cx adisk_Disk_Tape.lo adisk_Disk_Tape.od) Tryd.f14 (Tryd.f14.body.getD .skip) 2 = true := by kernel_rfl
theorem adisk_Disk_Tape.ok {d1 : Option Addr} {from1 : Int} {K : Value → Heap → Prop} {h : Heap} (hx : adisk_Disk_Tape d1 from1 K h) : C.adisk_Disk_Tape d1 from1 h K :=
  fn_to (cxOk _ _) Tryd.func14 (by kernel_rfl) adisk_Disk_Tape.chk (by rw [adisk_Disk_Tape.eq]; exact hx)

-- 15
def wal_Commit (d1 : Option Addr) (lA1 : Option Addr) (lL1 : Nat) (lC1 : Nat) (K : Value → Heap → Prop) (h1 : Heap) : Prop :=
  bif ((lL1 : Int) == 0) then (
  K (.int .i64 0) h1) else (
  C.adisk_Disk_Blocks d1 h1 fun r1 h2 =>
  ∃ (n1 : Int), r1 = .int .i64 n1 ∧
  C.wal_may lA1 lL1 lC1 n1 h2 fun r2 h3 =>
  ∃ (b1 : Bool), r2 = .bool b1 ∧
  bif (!b1) then (
  K (.int .i64 40) h3) else (
  ∃ (I1 : Option Addr → Nat → Nat → Option Addr → Nat → Nat → Int → Heap → Prop) (M1 : Option Addr → Nat → Nat → Option Addr → Nat → Nat → Int → Heap → Nat), I1 none 0 0 none 0 0 0 h3 ∧
  ∀ (numsA1 : Option Addr) (numsL1 : Nat) (numsC1 : Nat) (dataA1 : Option Addr) (dataL1 : Nat) (dataC1 : Nat) (n2 : Int), ∀ h4 : Heap, I1 numsA1 numsL1 numsC1 dataA1 dataL1 dataC1 n2 h4 →
  bif (decide (n2 < (lL1 : Int))) then (
  (0 ≤ n2 ∧ n2 < (lL1 : Int)) ∧
  onSome lA1 fun p1 =>
  ∃ cs1 : List Value, List.length cs1 = 2 ∧ Cells h4 (Addr.add p1 ((Int.toNat n2) * 2)) cs1 ∧
  NewRow z40 40 cs1 2 h4 fun h6 =>
  ∃ (n3 : Int), cellOf h6 (Addr.add ⟨h4.size, 0, none⟩ 0) = some (.int .i64 n3) ∧
  New [.int .i64 n3] 3 h6 fun h7 =>
  ∃ new1 : List Value, List.length new1 = 1 * 1 ∧ SlCells h7 (some ⟨h6.size, 0, none⟩) new1 ∧ (∀ v ∈ new1, v.oneCell' = true) ∧
  AppendP ti3 3 numsA1 numsL1 numsC1 1 new1 h7 fun sA1 sL1 sC1 h8 =>
  ∃ (sA2 : Option Addr) (sL2 : Nat) (sC2 : Nat), cellOf h8 (Addr.add ⟨h4.size, 0, none⟩ 1) = some (.slice sA2 sL2 sC2) ∧
  New [.slice sA2 sL2 sC2] 28 h8 fun h9 =>
  ∃ new2 : List Value, List.length new2 = 1 * 1 ∧ SlCells h9 (some ⟨h8.size, 0, none⟩) new2 ∧ (∀ v ∈ new2, v.oneCell' = true) ∧
  AppendP ti28 28 dataA1 dataL1 dataC1 1 new2 h9 fun sA3 sL3 sC3 h10 =>
  I1 sA1 sL1 sC1 sA3 sL3 sC3 (IntKind.wrap .i64 (n2 + 1)) h10 ∧ M1 sA1 sL1 sC1 sA3 sL3 sC3 (IntKind.wrap .i64 (n2 + 1)) h10 < M1 numsA1 numsL1 numsC1 dataA1 dataL1 dataC1 n2 h4) else (
  C.head_Make numsA1 numsL1 numsC1 dataA1 dataL1 dataC1 h4 fun r3 h11 =>
  ∃ (sA4 : Option Addr) (sL4 : Nat) (sC4 : Nat) (n4 : Int), r3 = .tuple #[.slice sA4 sL4 sC4, .int .i64 n4] ∧
  bif (n4 != 0) then (
  K (.int .i64 n4) h11) else (
  C.adisk_Disk_Down d1 h11 fun r4 h12 =>
  ∃ (b2 : Bool), r4 = .bool b2 ∧
  bif b2 then (
  K (.int .i64 30) h12) else (
  New z96 96 h12 fun h13 =>
  ∃ (I2 : Int → Heap → Prop) (M2 : Int → Heap → Nat), I2 0 h13 ∧
  ∀ (n5 : Int), ∀ h14 : Heap, I2 n5 h14 →
  bif (decide (n5 < (lL1 : Int))) then (
  (0 ≤ n5 ∧ n5 < (lL1 : Int)) ∧
  onSome lA1 fun p2 =>
  ∃ cs2 : List Value, List.length cs2 = 2 ∧ Cells h14 (Addr.add p2 ((Int.toNat n5) * 2)) cs2 ∧
  NewRow z40 40 cs2 2 h14 fun h16 =>
  ∃ (sA5 : Option Addr) (sL5 : Nat) (sC5 : Nat), cellOf h16 (Addr.add ⟨h14.size, 0, none⟩ 1) = some (.slice sA5 sL5 sC5) ∧
  C.wal_steps_write (some ⟨h12.size, 0, none⟩) (IntKind.wrap .i64 (2 + n5)) sA5 sL5 sC5 h16 fun r5 h17 =>
  r5 = .tuple #[] ∧
  I2 (IntKind.wrap .i64 (n5 + 1)) h17 ∧ M2 (IntKind.wrap .i64 (n5 + 1)) h17 < M2 n5 h14) else (
  C.wal_steps_flush (some ⟨h12.size, 0, none⟩) h14 fun r6 h18 =>
  r6 = .tuple #[] ∧
  C.wal_steps_write (some ⟨h12.size, 0, none⟩) 1 sA4 sL4 sC4 h18 fun r7 h19 =>
  r7 = .tuple #[] ∧
  C.wal_steps_flush (some ⟨h12.size, 0, none⟩) h19 fun r8 h20 =>
  r8 = .tuple #[] ∧
  C.wal_steps_home (some ⟨h12.size, 0, none⟩) lA1 lL1 lC1 h20 fun r9 h21 =>
  r9 = .tuple #[] ∧
  ∃ (sA6 : Option Addr) (sL6 : Nat) (sC6 : Nat), cellOf h21 ⟨h12.size, 0, none⟩ = some (.slice sA6 sL6 sC6) ∧
  C.wal_steps_do sA6 sL6 sC6 d1 h21 fun r10 h22 =>
  ∃ (n6 : Int), r10 = .int .i64 n6 ∧
  K (.int .i64 n6) h22))))))
def wal_Commit.lo : Nat → List Nat × List (Nat × Ty) := fun n => match n with | 8 => ([0, 1, 22, 23], [(5, .slice), (6, .slice), (24, .int .i64)]) | 20 => ([0, 1, 9, 11, 50, 51], [(52, .int .i64)]) | _ => ([], [])
def wal_Commit.od : Nat → Od := fun n => match n with | _ => .nil
theorem wal_Commit.eq (d1 : Option Addr) (lA1 : Option Addr) (lL1 : Nat) (lC1 : Nat) (K : Value → Heap → Prop) (h : Heap) : fnX (cx wal_Commit.lo wal_Commit.od) Tryd.f15 (Tryd.f15.body.getD .skip) [.pointer d1, .slice lA1 lL1 lC1] K h = wal_Commit d1 lA1 lL1 lC1 K h := by kernel_rfl
theorem wal_Commit.chk : fnOk (cx wal_Commit.lo wal_Commit.od) Tryd.f15 (Tryd.f15.body.getD .skip) 2 = true := by kernel_rfl
theorem wal_Commit.ok {d1 : Option Addr} {lA1 : Option Addr} {lL1 : Nat} {lC1 : Nat} {K : Value → Heap → Prop} {h : Heap} (hx : wal_Commit d1 lA1 lL1 lC1 K h) : C.wal_Commit d1 lA1 lL1 lC1 h K :=
  fn_to (cxOk _ _) Tryd.func15 (by kernel_rfl) wal_Commit.chk (by rw [wal_Commit.eq]; exact hx)

-- 16
def bolelaw05_laid (imageA1 : Option Addr) (imageL1 : Nat) (imageC1 : Nat) (lA1 : Option Addr) (lL1 : Nat) (lC1 : Nat) (K : Value → Heap → Prop) (h1 : Heap) : Prop :=
  New [] 5 h1 fun h2 =>
  ∃ new1 : List Value, List.length new1 = imageL1 * 1 ∧ SlCells h2 imageA1 new1 ∧ (∀ v ∈ new1, v.oneCell' = true) ∧
  AppendP ti5 5 (some ⟨h1.size, 0, none⟩) 0 0 imageL1 new1 h2 fun sA1 sL1 sC1 h3 =>
  ∃ (I1 : Int → Heap → Prop) (M1 : Int → Heap → Nat), I1 0 h3 ∧
  ∀ (i1 : Int), ∀ h4 : Heap, I1 i1 h4 →
  bif (decide (i1 < (lL1 : Int))) then (
  (0 ≤ i1 ∧ i1 < (lL1 : Int)) ∧
  onSome lA1 fun p1 =>
  ∃ (n1 : Int), cellOf h4 (Addr.add (Addr.add p1 ((Int.toNat i1) * 2)) 0) = some (.int .i64 n1) ∧
  (0 ≤ i1 ∧ i1 < (lL1 : Int)) ∧
  onSome lA1 fun p2 =>
  ∃ (n2 : Int), cellOf h4 (Addr.add (Addr.add p2 ((Int.toNat i1) * 2)) 0) = some (.int .i64 n2) ∧
  (0 ≤ (IntKind.wrap .i64 (512 * n1)) ∧ (IntKind.wrap .i64 (512 * n1)) ≤ (IntKind.wrap .i64 ((IntKind.wrap .i64 (512 * n2)) + 512)) ∧ (IntKind.wrap .i64 ((IntKind.wrap .i64 (512 * n2)) + 512)) ≤ (sC1 : Int)) ∧
  (0 ≤ i1 ∧ i1 < (lL1 : Int)) ∧
  onSome lA1 fun p3 =>
  ∃ (sA2 : Option Addr) (sL2 : Nat) (sC2 : Nat), cellOf h4 (Addr.add (Addr.add p3 ((Int.toNat i1) * 2)) 1) = some (.slice sA2 sL2 sC2) ∧
  CopyP ti5 (if sC1 = (Int.toNat (IntKind.wrap .i64 (512 * n1))) then sA1 else Option.map (Addr.add · (Int.toNat (IntKind.wrap .i64 (512 * n1)))) sA1) ((Int.toNat (IntKind.wrap .i64 ((IntKind.wrap .i64 (512 * n2)) + 512))) - (Int.toNat (IntKind.wrap .i64 (512 * n1)))) (.slice sA2 sL2 sC2) h4 fun n3 h5 =>
  I1 (IntKind.wrap .i64 (i1 + 1)) h5 ∧ M1 (IntKind.wrap .i64 (i1 + 1)) h5 < M1 i1 h4) else (
  K (.slice sA1 sL1 sC1) h4)
def bolelaw05_laid.lo : Nat → List Nat × List (Nat × Ty) := fun n => match n with | 3 => ([1, 5], [(6, .int .i64)]) | _ => ([], [])
def bolelaw05_laid.od : Nat → Od := fun n => match n with | 5 => (.op 0 [] (.op 1 [] (.op 2 [] (.op 3 [] (.op 4 [] (.op 5 [] (.op 6 [] (.op 7 [] (.op 8 [] (.op 9 [] (.op 10 [] (.op 11 [] (.op 12 [] (.op 13 [] (.op 14 [] (.op 15 [] (.op 16 [] (.op 17 [] (.op 18 [] (.op 19 [] (.op 20 [] .nil))))))))))))))))))))) | _ => .nil
theorem bolelaw05_laid.eq (imageA1 : Option Addr) (imageL1 : Nat) (imageC1 : Nat) (lA1 : Option Addr) (lL1 : Nat) (lC1 : Nat) (K : Value → Heap → Prop) (h : Heap) : fnX (cx bolelaw05_laid.lo bolelaw05_laid.od) Tryd.f16 (Tryd.f16.body.getD .skip) [.slice imageA1 imageL1 imageC1, .slice lA1 lL1 lC1] K h = bolelaw05_laid imageA1 imageL1 imageC1 lA1 lL1 lC1 K h := by kernel_rfl
theorem bolelaw05_laid.chk : fnOk (cx bolelaw05_laid.lo bolelaw05_laid.od) Tryd.f16 (Tryd.f16.body.getD .skip) 2 = true := by kernel_rfl
theorem bolelaw05_laid.ok {imageA1 : Option Addr} {imageL1 : Nat} {imageC1 : Nat} {lA1 : Option Addr} {lL1 : Nat} {lC1 : Nat} {K : Value → Heap → Prop} {h : Heap} (hx : bolelaw05_laid imageA1 imageL1 imageC1 lA1 lL1 lC1 K h) : C.bolelaw05_laid imageA1 imageL1 imageC1 lA1 lL1 lC1 h K :=
  fn_to (cxOk _ _) Tryd.func16 (by kernel_rfl) bolelaw05_laid.chk (by rw [bolelaw05_laid.eq]; exact hx)

-- 17
def wal_Behind (d1 : Option Addr) (K : Value → Heap → Prop) (h1 : Heap) : Prop :=
  New z25 25 h1 fun h2 =>
  C.wal_held d1 h2 (fun r1 h3 =>
  ∃ (sA1 : Option Addr) (sL1 : Nat) (sC1 : Nat), r1 = .slice sA1 sL1 sC1 ∧
  C.adisk_Disk_Blocks d1 h3 fun r2 h4 =>
  ∃ (n1 : Int), r2 = .int .i64 n1 ∧
  ∃ (I1 : Option Addr → Nat → Nat → Int → Heap → Prop) (M1 : Option Addr → Nat → Nat → Int → Heap → Nat), I1 none 0 0 0 h4 ∧
  ∀ (allA1 : Option Addr) (allL1 : Nat) (allC1 : Nat) (n2 : Int), ∀ h5 : Heap, I1 allA1 allL1 allC1 n2 h5 →
  bif (decide (n2 < n1)) then (
  C.wal_read d1 n2 h5 (fun r3 h6 =>
  ∃ (sA2 : Option Addr) (sL2 : Nat) (sC2 : Nat), r3 = .slice sA2 sL2 sC2 ∧
  ∃ new1 : List Value, List.length new1 = sL2 * 1 ∧ SlCells h6 sA2 new1 ∧ (∀ v ∈ new1, v.oneCell' = true) ∧
  AppendP ti5 5 allA1 allL1 allC1 sL2 new1 h6 fun sA3 sL3 sC3 h7 =>
  I1 sA3 sL3 sC3 (IntKind.wrap .i64 (n2 + 1)) h7 ∧ M1 sA3 sL3 sC3 (IntKind.wrap .i64 (n2 + 1)) h7 < M1 allA1 allL1 allC1 n2 h5) (fun x1 h8 =>
  PD.wal_Behind_c1 (some ⟨h1.size, 0, none⟩) x1 h8 fun h9 =>
  ∃ (res1 : Int), cellOf h9 ⟨h1.size, 0, none⟩ = some (.int .i64 res1) ∧
  K (.tuple #[.slice none 0 0, .int .i64 res1]) h9)) else (
  ∃ (I2 : Int → Heap → Prop) (M2 : Int → Heap → Nat), I2 0 h5 ∧
  ∀ (n3 : Int), ∀ h10 : Heap, I2 n3 h10 →
  bif (decide (n3 < (sL1 : Int))) then (
  (0 ≤ n3 ∧ n3 < (sL1 : Int)) ∧
  onSome sA1 fun p1 =>
  ∃ cs1 : List Value, List.length cs1 = 2 ∧ Cells h10 (Addr.add p1 ((Int.toNat n3) * 2)) cs1 ∧
  NewRow z40 40 cs1 2 h10 fun h12 =>
  ∃ (n4 : Int), cellOf h12 (Addr.add ⟨h10.size, 0, none⟩ 0) = some (.int .i64 n4) ∧
  (0 ≤ (IntKind.wrap .i64 (n4 * 512)) ∧ (IntKind.wrap .i64 (n4 * 512)) ≤ (allL1 : Int)) ∧
  ∃ (sA4 : Option Addr) (sL4 : Nat) (sC4 : Nat), cellOf h12 (Addr.add ⟨h10.size, 0, none⟩ 1) = some (.slice sA4 sL4 sC4) ∧
  CopyP ti5 (if allC1 = (Int.toNat (IntKind.wrap .i64 (n4 * 512))) then allA1 else Option.map (Addr.add · (Int.toNat (IntKind.wrap .i64 (n4 * 512)))) allA1) (allL1 - (Int.toNat (IntKind.wrap .i64 (n4 * 512)))) (.slice sA4 sL4 sC4) h12 fun n5 h13 =>
  I2 (IntKind.wrap .i64 (n3 + 1)) h13 ∧ M2 (IntKind.wrap .i64 (n3 + 1)) h13 < M2 n3 h10) else (
  (0 ≤ (512 : Int) ∧ 512 ≤ (allL1 : Int)) ∧
  C.head_Empty  h10 fun r4 h14 =>
  ∃ (sA5 : Option Addr) (sL5 : Nat) (sC5 : Nat), r4 = .slice sA5 sL5 sC5 ∧
  CopyP ti5 (if allC1 = (Int.toNat 512) then allA1 else Option.map (Addr.add · (Int.toNat 512)) allA1) (allL1 - (Int.toNat 512)) (.slice sA5 sL5 sC5) h14 fun n6 h15 =>
  Put ⟨h1.size, 0, none⟩ (.int .i64 0) h15 fun h16 =>
  D.wal_Behind_c1 (some ⟨h1.size, 0, none⟩) h16 fun h17 =>
  ∃ (res2 : Int), cellOf h17 ⟨h1.size, 0, none⟩ = some (.int .i64 res2) ∧
  K (.tuple #[.slice allA1 allL1 allC1, .int .i64 res2]) h17))) (fun x2 h18 =>
  PD.wal_Behind_c1 (some ⟨h1.size, 0, none⟩) x2 h18 fun h19 =>
  ∃ (res3 : Int), cellOf h19 ⟨h1.size, 0, none⟩ = some (.int .i64 res3) ∧
  K (.tuple #[.slice none 0 0, .int .i64 res3]) h19)
def wal_Behind.lo : Nat → List Nat × List (Nat × Ty) := fun n => match n with | 5 => ([0, 2, 3, 4, 13], [(5, .slice), (14, .int .i64)]) | 10 => ([3, 5, 23, 24], [(25, .int .i64)]) | _ => ([], [])
def wal_Behind.od : Nat → Od := fun n => match n with | 12 => (.op 0 [] (.op 1 [] (.op 2 [] (.op 3 [] (.op 4 [] (.op 5 [] (.op 6 [] (.op 7 [] .nil)))))))) | 14 => (.op 0 [] (.op 1 [] (.op 2 [] (.op 3 [] .nil)))) | _ => .nil
theorem wal_Behind.eq (d1 : Option Addr) (K : Value → Heap → Prop) (h : Heap) : fnPX (cx wal_Behind.lo wal_Behind.od) Tryd.f17 (Tryd.f17.body.getD .skip) [.pointer d1] K (fun _ _ => False) h = wal_Behind d1 K h := by kernel_rfl
theorem wal_Behind.chk : fnOk (cx wal_Behind.lo wal_Behind.od) Tryd.f17 (Tryd.f17.body.getD .skip) 1 = true := by kernel_rfl
theorem wal_Behind.ok {d1 : Option Addr} {K : Value → Heap → Prop} {h : Heap} (hx : wal_Behind d1 K h) : C.wal_Behind d1 h K :=
  hcalls_of_p (fnP_to (cxOk _ _) Tryd.func17 (by kernel_rfl) wal_Behind.chk (by rw [wal_Behind.eq]; exact hx))

-- 18
def bolelaw05_sameBut.k1 (aA1 : Option Addr) (aL1 : Nat) (aC1 : Nat) (bA1 : Option Addr) (bL1 : Nat) (bC1 : Nat) (h1 : Heap) (K : Value → Heap → Prop) : Prop :=
  (0 ≤ (1024 : Int) ∧ (1024 : Int) ≤ (aC1 : Int)) ∧
  ∃ bs1 : List UInt8, StrAt h1 aA1 (Int.toNat 1024) bs1 ∧
  (0 ≤ (1024 : Int) ∧ (1024 : Int) ≤ (bC1 : Int)) ∧
  ∃ bs2 : List UInt8, StrAt h1 bA1 (Int.toNat 1024) bs2 ∧
  bif ((mkStr bs1).toList == (mkStr bs2).toList) then (
  (0 ≤ (50176 : Int) ∧ 50176 ≤ (aL1 : Int)) ∧
  ∃ bs3 : List UInt8, StrAt h1 (if aC1 = (Int.toNat 50176) then aA1 else Option.map (Addr.add · (Int.toNat 50176)) aA1) (aL1 - (Int.toNat 50176)) bs3 ∧
  (0 ≤ (50176 : Int) ∧ 50176 ≤ (bL1 : Int)) ∧
  ∃ bs4 : List UInt8, StrAt h1 (if bC1 = (Int.toNat 50176) then bA1 else Option.map (Addr.add · (Int.toNat 50176)) bA1) (bL1 - (Int.toNat 50176)) bs4 ∧
  K (.bool ((mkStr bs3).toList == (mkStr bs4).toList)) h1) else (
  K (.bool false) h1)
def bolelaw05_sameBut (aA1 : Option Addr) (aL1 : Nat) (aC1 : Nat) (bA1 : Option Addr) (bL1 : Nat) (bC1 : Nat) (K : Value → Heap → Prop) (h1 : Heap) : Prop :=
  bif ((aL1 : Int) != (bL1 : Int)) then (
  K (.bool false) h1) else (
  bif (decide ((aL1 : Int) < 50176)) then (
  K (.bool false) h1) else (
  bolelaw05_sameBut.k1 aA1 aL1 aC1 bA1 bL1 bC1 h1 K))
def bolelaw05_sameBut.lo : Nat → List Nat × List (Nat × Ty) := fun n => match n with | _ => ([], [])
def bolelaw05_sameBut.od : Nat → Od := fun n => match n with | 3 => (.op 0 [] (.op 1 [] (.op 2 [] (.op 3 [] (.op 4 [] (.op 5 [] (.op 6 [] (.op 7 [] (.op 8 [] (.op 9 [] (.op 10 [] (.op 11 [] (.op 12 [] (.op 13 [] (.op 14 [] (.op 15 [] (.op 16 [] .nil))))))))))))))))) | _ => .nil
set_option maxRecDepth 1000000 in
theorem bolelaw05_sameBut.eq (aA1 : Option Addr) (aL1 : Nat) (aC1 : Nat) (bA1 : Option Addr) (bL1 : Nat) (bC1 : Nat) (K : Value → Heap → Prop) (h : Heap) : fnX (cx bolelaw05_sameBut.lo bolelaw05_sameBut.od) Tryd.f18 (Tryd.f18.body.getD .skip) [.slice aA1 aL1 aC1, .slice bA1 bL1 bC1] K h = bolelaw05_sameBut aA1 aL1 aC1 bA1 bL1 bC1 K h := by kernel_rfl
theorem bolelaw05_sameBut.chk : fnOk (cx bolelaw05_sameBut.lo bolelaw05_sameBut.od) Tryd.f18 (Tryd.f18.body.getD .skip) 2 = true := by kernel_rfl
set_option maxRecDepth 1000000 in
theorem bolelaw05_sameBut.ok {aA1 : Option Addr} {aL1 : Nat} {aC1 : Nat} {bA1 : Option Addr} {bL1 : Nat} {bC1 : Nat} {K : Value → Heap → Prop} {h : Heap} (hx : bolelaw05_sameBut aA1 aL1 aC1 bA1 bL1 bC1 K h) : C.bolelaw05_sameBut aA1 aL1 aC1 bA1 bL1 bC1 h K :=
  fn_to (cxOk _ _) Tryd.func18 (by kernel_rfl) bolelaw05_sameBut.chk (by rw [bolelaw05_sameBut.eq]; exact hx)

-- 19
def adisk_Disk_Image (d1 : Option Addr) (K : Value → Heap → Prop) (h1 : Heap) : Prop :=
  onSome d1 fun p1 =>
  ∃ (sA1 : Option Addr) (sL1 : Nat) (sC1 : Nat), cellOf h1 (Addr.add p1 0) = some (.slice sA1 sL1 sC1) ∧
  (0 ≤ (0 : Int) ∧ (0 : Int) ≤ (IntKind.wrap .i64 ((sL1 : Int) * 512)) ∧ (1 : Int) * (IntKind.wrap .i64 ((sL1 : Int) * 512)) ≤ 281474976710656 ∧ (IntKind.wrap .i64 ((sL1 : Int) * 512)) ≤ 281474976710656) ∧
  New (repCells z5 (Int.toNat (IntKind.wrap .i64 ((sL1 : Int) * 512)))) 5 h1 fun h2 =>
  onSome d1 fun p2 =>
  ∃ (sA2 : Option Addr) (sL2 : Nat) (sC2 : Nat), cellOf h2 (Addr.add p2 0) = some (.slice sA2 sL2 sC2) ∧
  ∃ (I1 : Option Addr → Nat → Nat → Int → Heap → Prop) (M1 : Option Addr → Nat → Nat → Int → Heap → Nat), I1 (some ⟨h1.size, 0, none⟩) (Int.toNat 0) (Int.toNat (IntKind.wrap .i64 ((sL1 : Int) * 512))) 0 h2 ∧
  ∀ (imageA1 : Option Addr) (imageL1 : Nat) (imageC1 : Nat) (n1 : Int), ∀ h3 : Heap, I1 imageA1 imageL1 imageC1 n1 h3 →
  bif (decide (n1 < (sL2 : Int))) then (
  (0 ≤ n1 ∧ n1 < (sL2 : Int)) ∧
  onSome sA2 fun p3 =>
  ∃ cs1 : List Value, List.length cs1 = 512 ∧ Cells h3 (Addr.add p3 ((Int.toNat n1) * 512)) cs1 ∧
  NewRow z104 104 cs1 512 h3 fun h5 =>
  ∃ new1 : List Value, List.length new1 = 512 * 1 ∧ SlCells h5 (some ⟨h3.size, 0, none⟩) new1 ∧ (∀ v ∈ new1, v.oneCell' = true) ∧
  AppendP ti5 5 imageA1 imageL1 imageC1 512 new1 h5 fun sA3 sL3 sC3 h6 =>
  I1 sA3 sL3 sC3 (IntKind.wrap .i64 (n1 + 1)) h6 ∧ M1 sA3 sL3 sC3 (IntKind.wrap .i64 (n1 + 1)) h6 < M1 imageA1 imageL1 imageC1 n1 h3) else (
  K (.slice imageA1 imageL1 imageC1) h3)
def adisk_Disk_Image.lo : Nat → List Nat × List (Nat × Ty) := fun n => match n with | 3 => ([16, 17], [(3, .slice), (18, .int .i64)]) | _ => ([], [])
def adisk_Disk_Image.od : Nat → Od := fun n => match n with | _ => .nil
theorem adisk_Disk_Image.eq (d1 : Option Addr) (K : Value → Heap → Prop) (h : Heap) : fnX (cx adisk_Disk_Image.lo adisk_Disk_Image.od) Tryd.f19 (Tryd.f19.body.getD .skip) [.pointer d1] K h = adisk_Disk_Image d1 K h := by kernel_rfl
theorem adisk_Disk_Image.chk : fnOk (cx adisk_Disk_Image.lo adisk_Disk_Image.od) Tryd.f19 (Tryd.f19.body.getD .skip) 1 = true := by kernel_rfl
theorem adisk_Disk_Image.ok {d1 : Option Addr} {K : Value → Heap → Prop} {h : Heap} (hx : adisk_Disk_Image d1 K h) : C.adisk_Disk_Image d1 h K :=
  fn_to (cxOk _ _) Tryd.func19 (by kernel_rfl) adisk_Disk_Image.chk (by rw [adisk_Disk_Image.eq]; exact hx)

-- 20
def adisk_Disk_Pending (d1 : Option Addr) (K : Value → Heap → Prop) (h1 : Heap) : Prop :=
  onSome d1 fun p1 =>
  ∃ (sA1 : Option Addr) (sL1 : Nat) (sC1 : Nat), cellOf h1 (Addr.add p1 1) = some (.slice sA1 sL1 sC1) ∧
  ∃ (I1 : Option Addr → Nat → Nat → Int → Heap → Prop) (M1 : Option Addr → Nat → Nat → Int → Heap → Nat), I1 none 0 0 0 h1 ∧
  ∀ (lA1 : Option Addr) (lL1 : Nat) (lC1 : Nat) (n1 : Int), ∀ h2 : Heap, I1 lA1 lL1 lC1 n1 h2 →
  bif (decide (n1 < (sL1 : Int))) then (
  (0 ≤ n1 ∧ n1 < (sL1 : Int)) ∧
  onSome sA1 fun p2 =>
  ∃ cs1 : List Value, List.length cs1 = 513 ∧ Cells h2 (Addr.add p2 ((Int.toNat n1) * 513)) cs1 ∧
  NewRow z106 106 cs1 513 h2 fun h4 =>
  ∃ (n2 : Int), cellOf h4 (Addr.add ⟨h2.size, 0, none⟩ 0) = some (.int .i64 n2) ∧
  New [.int .i64 n2] 3 h4 fun h5 =>
  ∃ new1 : List Value, List.length new1 = 1 * 1 ∧ SlCells h5 (some ⟨h4.size, 0, none⟩) new1 ∧ (∀ v ∈ new1, v.oneCell' = true) ∧
  AppendP ti3 3 lA1 lL1 lC1 1 new1 h5 fun sA2 sL2 sC2 h6 =>
  I1 sA2 sL2 sC2 (IntKind.wrap .i64 (n1 + 1)) h6 ∧ M1 sA2 sL2 sC2 (IntKind.wrap .i64 (n1 + 1)) h6 < M1 lA1 lL1 lC1 n1 h2) else (
  K (.slice lA1 lL1 lC1) h2)
def adisk_Disk_Pending.lo : Nat → List Nat × List (Nat × Ty) := fun n => match n with | 3 => ([9, 10], [(3, .slice), (11, .int .i64)]) | _ => ([], [])
def adisk_Disk_Pending.od : Nat → Od := fun n => match n with | _ => .nil
theorem adisk_Disk_Pending.eq (d1 : Option Addr) (K : Value → Heap → Prop) (h : Heap) : fnX (cx adisk_Disk_Pending.lo adisk_Disk_Pending.od) Tryd.f20 (Tryd.f20.body.getD .skip) [.pointer d1] K h = adisk_Disk_Pending d1 K h := by kernel_rfl
theorem adisk_Disk_Pending.chk : fnOk (cx adisk_Disk_Pending.lo adisk_Disk_Pending.od) Tryd.f20 (Tryd.f20.body.getD .skip) 1 = true := by kernel_rfl
theorem adisk_Disk_Pending.ok {d1 : Option Addr} {K : Value → Heap → Prop} {h : Heap} (hx : adisk_Disk_Pending d1 K h) : C.adisk_Disk_Pending d1 h K :=
  fn_to (cxOk _ _) Tryd.func20 (by kernel_rfl) adisk_Disk_Pending.chk (by rw [adisk_Disk_Pending.eq]; exact hx)

-- 21
def bolelaw05_mod (k1 : Int) (n1 : Int) (K : Value → Heap → Prop) (h1 : Heap) : Prop :=
  if n1 = 0 then False else
  bif (decide ((Int.tmod k1 n1) < 0)) then (
  K (.int .i64 (IntKind.wrap .i64 ((Int.tmod k1 n1) + n1))) h1) else (
  K (.int .i64 (Int.tmod k1 n1)) h1)
def bolelaw05_mod.lo : Nat → List Nat × List (Nat × Ty) := fun n => match n with | _ => ([], [])
def bolelaw05_mod.od : Nat → Od := fun n => match n with | _ => .nil
theorem bolelaw05_mod.eq (k1 : Int) (n1 : Int) (K : Value → Heap → Prop) (h : Heap) : fnX (cx bolelaw05_mod.lo bolelaw05_mod.od) Tryd.f21 (Tryd.f21.body.getD .skip) [.int .i64 k1, .int .i64 n1] K h = bolelaw05_mod k1 n1 K h := by kernel_rfl
theorem bolelaw05_mod.chk : fnOk (cx bolelaw05_mod.lo bolelaw05_mod.od) Tryd.f21 (Tryd.f21.body.getD .skip) 2 = true := by kernel_rfl
theorem bolelaw05_mod.ok {k1 : Int} {n1 : Int} {K : Value → Heap → Prop} {h : Heap} (hx : bolelaw05_mod k1 n1 K h) : C.bolelaw05_mod k1 n1 h K :=
  fn_to (cxOk _ _) Tryd.func21 (by kernel_rfl) bolelaw05_mod.chk (by rw [bolelaw05_mod.eq]; exact hx)

-- 22
def adisk_Open (imageA1 : Option Addr) (imageL1 : Nat) (imageC1 : Nat) (K : Value → Heap → Prop) (h1 : Heap) : Prop :=
  bif ((Int.tmod (imageL1 : Int) 512) != 0) then (
  K (.tuple #[.pointer none, .int .i64 32]) h1) else (
  C.adisk_New (IntKind.wrap .i64 (Int.tdiv (imageL1 : Int) 512)) h1 fun r1 h2 =>
  ∃ (q1 : Option Addr) (n1 : Int), r1 = .tuple #[.pointer q1, .int .i64 n1] ∧
  bif (n1 != 0) then (
  K (.tuple #[.pointer none, .int .i64 n1]) h2) else (
  onSome q1 fun p1 =>
  ∃ (sA1 : Option Addr) (sL1 : Nat) (sC1 : Nat), cellOf h2 (Addr.add p1 0) = some (.slice sA1 sL1 sC1) ∧
  ∃ (I1 : Int → Heap → Prop) (M1 : Int → Heap → Nat), I1 0 h2 ∧
  ∀ (n2 : Int), ∀ h3 : Heap, I1 n2 h3 →
  bif (decide (n2 < (sL1 : Int))) then (
  onSome q1 fun p2 =>
  ∃ (sA2 : Option Addr) (sL2 : Nat) (sC2 : Nat), cellOf h3 (Addr.add p2 0) = some (.slice sA2 sL2 sC2) ∧
  (0 ≤ n2 ∧ n2 < (sL2 : Int)) ∧
  onSome sA2 fun p3 =>
  (0 ≤ (IntKind.wrap .i64 (n2 * 512)) ∧ (IntKind.wrap .i64 (n2 * 512)) ≤ (imageL1 : Int)) ∧
  CopyP ti5 (some (Addr.add p3 ((Int.toNat n2) * 512))) 512 (.slice (if imageC1 = (Int.toNat (IntKind.wrap .i64 (n2 * 512))) then imageA1 else Option.map (Addr.add · (Int.toNat (IntKind.wrap .i64 (n2 * 512)))) imageA1) (imageL1 - (Int.toNat (IntKind.wrap .i64 (n2 * 512)))) (imageC1 - (Int.toNat (IntKind.wrap .i64 (n2 * 512))))) h3 fun n3 h4 =>
  I1 (IntKind.wrap .i64 (n2 + 1)) h4 ∧ M1 (IntKind.wrap .i64 (n2 + 1)) h4 < M1 n2 h3) else (
  K (.tuple #[.pointer q1, .int .i64 0]) h3)))
def adisk_Open.lo : Nat → List Nat × List (Nat × Ty) := fun n => match n with | 7 => ([0, 4, 25], [(26, .int .i64)]) | _ => ([], [])
def adisk_Open.od : Nat → Od := fun n => match n with | 9 => (.op 0 [] (.op 1 [] (.op 2 [] (.op 3 [] (.op 4 [] (.op 5 [] (.op 6 [] (.op 7 [] (.op 8 [] (.op 9 [] (.op 10 [] (.op 11 [] .nil)))))))))))) | _ => .nil
theorem adisk_Open.eq (imageA1 : Option Addr) (imageL1 : Nat) (imageC1 : Nat) (K : Value → Heap → Prop) (h : Heap) : fnX (cx adisk_Open.lo adisk_Open.od) Tryd.f22 (Tryd.f22.body.getD .skip) [.slice imageA1 imageL1 imageC1] K h = adisk_Open imageA1 imageL1 imageC1 K h := by kernel_rfl
theorem adisk_Open.chk : fnOk (cx adisk_Open.lo adisk_Open.od) Tryd.f22 (Tryd.f22.body.getD .skip) 1 = true := by kernel_rfl
theorem adisk_Open.ok {imageA1 : Option Addr} {imageL1 : Nat} {imageC1 : Nat} {K : Value → Heap → Prop} {h : Heap} (hx : adisk_Open imageA1 imageL1 imageC1 K h) : C.adisk_Open imageA1 imageL1 imageC1 h K :=
  fn_to (cxOk _ _) Tryd.func22 (by kernel_rfl) adisk_Open.chk (by rw [adisk_Open.eq]; exact hx)

-- 23
def wal_Recover (d1 : Option Addr) (K : Value → Heap → Prop) (h1 : Heap) : Prop :=
  New z25 25 h1 fun h2 =>
  C.wal_held d1 h2 (fun r1 h3 =>
  ∃ (sA1 : Option Addr) (sL1 : Nat) (sC1 : Nat), r1 = .slice sA1 sL1 sC1 ∧
  bif ((sL1 : Int) == 0) then (
  Put ⟨h1.size, 0, none⟩ (.int .i64 0) h3 fun h4 =>
  D.wal_Recover_c1 (some ⟨h1.size, 0, none⟩) h4 fun h5 =>
  ∃ (res1 : Int), cellOf h5 ⟨h1.size, 0, none⟩ = some (.int .i64 res1) ∧
  K (.tuple #[.int .i64 0, .int .i64 res1]) h5) else (
  New z96 96 h3 fun h6 =>
  C.wal_steps_home (some ⟨h3.size, 0, none⟩) sA1 sL1 sC1 h6 fun r2 h7 =>
  r2 = .tuple #[] ∧
  ∃ (sA2 : Option Addr) (sL2 : Nat) (sC2 : Nat), cellOf h7 ⟨h3.size, 0, none⟩ = some (.slice sA2 sL2 sC2) ∧
  C.wal_steps_do sA2 sL2 sC2 d1 h7 fun r3 h8 =>
  ∃ (n1 : Int), r3 = .int .i64 n1 ∧
  bif (n1 != 0) then (
  Put ⟨h1.size, 0, none⟩ (.int .i64 n1) h8 fun h9 =>
  D.wal_Recover_c1 (some ⟨h1.size, 0, none⟩) h9 fun h10 =>
  ∃ (res2 : Int), cellOf h10 ⟨h1.size, 0, none⟩ = some (.int .i64 res2) ∧
  K (.tuple #[.int .i64 0, .int .i64 res2]) h10) else (
  Put ⟨h1.size, 0, none⟩ (.int .i64 0) h8 fun h11 =>
  D.wal_Recover_c1 (some ⟨h1.size, 0, none⟩) h11 fun h12 =>
  ∃ (res3 : Int), cellOf h12 ⟨h1.size, 0, none⟩ = some (.int .i64 res3) ∧
  K (.tuple #[.int .i64 (sL1 : Int), .int .i64 res3]) h12))) (fun x1 h13 =>
  PD.wal_Recover_c1 (some ⟨h1.size, 0, none⟩) x1 h13 fun h14 =>
  ∃ (res4 : Int), cellOf h14 ⟨h1.size, 0, none⟩ = some (.int .i64 res4) ∧
  K (.tuple #[.int .i64 0, .int .i64 res4]) h14)
def wal_Recover.lo : Nat → List Nat × List (Nat × Ty) := fun n => match n with | _ => ([], [])
def wal_Recover.od : Nat → Od := fun n => match n with | _ => .nil
theorem wal_Recover.eq (d1 : Option Addr) (K : Value → Heap → Prop) (h : Heap) : fnPX (cx wal_Recover.lo wal_Recover.od) Tryd.f23 (Tryd.f23.body.getD .skip) [.pointer d1] K (fun _ _ => False) h = wal_Recover d1 K h := by kernel_rfl
theorem wal_Recover.chk : fnOk (cx wal_Recover.lo wal_Recover.od) Tryd.f23 (Tryd.f23.body.getD .skip) 1 = true := by kernel_rfl
theorem wal_Recover.ok {d1 : Option Addr} {K : Value → Heap → Prop} {h : Heap} (hx : wal_Recover d1 K h) : C.wal_Recover d1 h K :=
  hcalls_of_p (fnP_to (cxOk _ _) Tryd.func23 (by kernel_rfl) wal_Recover.chk (by rw [wal_Recover.eq]; exact hx))

-- 24
def bolelaw05_begun.k1 (firstA1 : Option Addr) (firstL1 : Nat) (firstC1 : Nat) (h2 : Heap) (q1 : Option Addr) (K : Value → Heap → Prop) : Prop :=
  C.bolelaw05_rows firstA1 firstL1 firstC1 h2 fun r2 h3 =>
  ∃ (sA1 : Option Addr) (sL1 : Nat) (sC1 : Nat), r2 = .slice sA1 sL1 sC1 ∧
  C.wal_Commit q1 sA1 sL1 sC1 h3 fun r3 h4 =>
  ∃ (n2 : Int), r3 = .int .i64 n2 ∧
  K (.tuple #[.pointer q1, .bool (n2 == 0)]) h4
def bolelaw05_begun (firstA1 : Option Addr) (firstL1 : Nat) (firstC1 : Nat) (K : Value → Heap → Prop) (h1 : Heap) : Prop :=
  C.adisk_New 128 h1 fun r1 h2 =>
  ∃ (q1 : Option Addr) (n1 : Int), r1 = .tuple #[.pointer q1, .int .i64 n1] ∧
  bif (n1 != 0) then (
  K (.tuple #[.pointer none, .bool false]) h2) else (
  bif (Option.isNone q1) then (
  K (.tuple #[.pointer none, .bool false]) h2) else (
  bolelaw05_begun.k1 firstA1 firstL1 firstC1 h2 q1 K))
def bolelaw05_begun.lo : Nat → List Nat × List (Nat × Ty) := fun n => match n with | _ => ([], [])
def bolelaw05_begun.od : Nat → Od := fun n => match n with | _ => .nil
theorem bolelaw05_begun.eq (firstA1 : Option Addr) (firstL1 : Nat) (firstC1 : Nat) (K : Value → Heap → Prop) (h : Heap) : fnX (cx bolelaw05_begun.lo bolelaw05_begun.od) Tryd.f24 (Tryd.f24.body.getD .skip) [.slice firstA1 firstL1 firstC1] K h = bolelaw05_begun firstA1 firstL1 firstC1 K h := by kernel_rfl
theorem bolelaw05_begun.chk : fnOk (cx bolelaw05_begun.lo bolelaw05_begun.od) Tryd.f24 (Tryd.f24.body.getD .skip) 1 = true := by kernel_rfl
theorem bolelaw05_begun.ok {firstA1 : Option Addr} {firstL1 : Nat} {firstC1 : Nat} {K : Value → Heap → Prop} {h : Heap} (hx : bolelaw05_begun firstA1 firstL1 firstC1 K h) : C.bolelaw05_begun firstA1 firstL1 firstC1 h K :=
  fn_to (cxOk _ _) Tryd.func24 (by kernel_rfl) bolelaw05_begun.chk (by rw [bolelaw05_begun.eq]; exact hx)

-- 25
def adisk_Disk_Arm (d1 : Option Addr) (c1 : List Value) (K : Value → Heap → Prop) (h1 : Heap) : Prop :=
  New c1 57 h1 fun h2 =>
  onSome d1 fun p1 =>
  ∃ (b1 : Bool), cellOf h2 (Addr.add p1 4) = some (.bool b1) ∧
  bif b1 then (
  K (.int .i64 30) h2) else (
  ∃ (n1 : Int), cellOf h2 (Addr.add ⟨h1.size, 0, none⟩ 0) = some (.int .i64 n1) ∧
  ∃ (sA1 : Option Addr) (sL1 : Nat) (sC1 : Nat), cellOf h2 (Addr.add ⟨h1.size, 0, none⟩ 1) = some (.slice sA1 sL1 sC1) ∧
  C.slices_Clone_bool_bool sA1 sL1 sC1 h2 fun r1 h3 =>
  ∃ (sA2 : Option Addr) (sL2 : Nat) (sC2 : Nat), r1 = .slice sA2 sL2 sC2 ∧
  (cellOf h3 (Addr.add ⟨h1.size, 0, none⟩ 0) = some (.int .i64 n1)) ∧
  onSome d1 fun p2 =>
  Put (Addr.add p2 2) (.int .i64 (if (0 : Int) > n1 then 0 else n1)) h3 fun h4 =>
  onSome d1 fun p3 =>
  Put (Addr.add p3 3) (.slice sA2 sL2 sC2) h4 fun h5 =>
  K (.int .i64 0) h5)
def adisk_Disk_Arm.lo : Nat → List Nat × List (Nat × Ty) := fun n => match n with | _ => ([], [])
def adisk_Disk_Arm.od : Nat → Od := fun n => match n with | 3 => (.op 0 [] (.op 1 [] (.op 2 [] (.op 3 [] (.op 4 [] (.op 5 [] (.op 6 [] (.op 7 [3] (.op 8 [] (.op 9 [] (.op 10 [] (.op 11 [] (.op 12 [] (.op 13 [] .nil)))))))))))))) | _ => .nil
theorem adisk_Disk_Arm.eq (d1 : Option Addr) (c1 : List Value) (K : Value → Heap → Prop) (h : Heap) : fnX (cx adisk_Disk_Arm.lo adisk_Disk_Arm.od) Tryd.f25 (Tryd.f25.body.getD .skip) [.pointer d1, .agg ⟨c1⟩] K h = adisk_Disk_Arm d1 c1 K h := by kernel_rfl
theorem adisk_Disk_Arm.chk : fnOk (cx adisk_Disk_Arm.lo adisk_Disk_Arm.od) Tryd.f25 (Tryd.f25.body.getD .skip) 2 = true := by kernel_rfl
theorem adisk_Disk_Arm.ok {d1 : Option Addr} {c1 : List Value} {K : Value → Heap → Prop} {h : Heap} (hx : adisk_Disk_Arm d1 c1 K h) : C.adisk_Disk_Arm d1 c1 h K :=
  fn_to (cxOk _ _) Tryd.func25 (by kernel_rfl) adisk_Disk_Arm.chk (by rw [adisk_Disk_Arm.eq]; exact hx)

-- 26
def adisk_Disk_Down (d1 : Option Addr) (K : Value → Heap → Prop) (h1 : Heap) : Prop :=
  onSome d1 fun p1 =>
  ∃ (b1 : Bool), cellOf h1 (Addr.add p1 4) = some (.bool b1) ∧
  K (.bool b1) h1
def adisk_Disk_Down.lo : Nat → List Nat × List (Nat × Ty) := fun n => match n with | _ => ([], [])
def adisk_Disk_Down.od : Nat → Od := fun n => match n with | _ => .nil
theorem adisk_Disk_Down.eq (d1 : Option Addr) (K : Value → Heap → Prop) (h : Heap) : fnX (cx adisk_Disk_Down.lo adisk_Disk_Down.od) Tryd.f26 (Tryd.f26.body.getD .skip) [.pointer d1] K h = adisk_Disk_Down d1 K h := by kernel_rfl
theorem adisk_Disk_Down.chk : fnOk (cx adisk_Disk_Down.lo adisk_Disk_Down.od) Tryd.f26 (Tryd.f26.body.getD .skip) 1 = true := by kernel_rfl
theorem adisk_Disk_Down.ok {d1 : Option Addr} {K : Value → Heap → Prop} {h : Heap} (hx : adisk_Disk_Down d1 K h) : C.adisk_Disk_Down d1 h K :=
  fn_to (cxOk _ _) Tryd.func26 (by kernel_rfl) adisk_Disk_Down.chk (by rw [adisk_Disk_Down.eq]; exact hx)

-- 27
def bolelaw06_fresh (n1 : Int) (K : Value → Heap → Prop) (h1 : Heap) : Prop :=
  ∃ (I1 : Option Addr → Nat → Nat → Int → Heap → Prop) (M1 : Option Addr → Nat → Nat → Int → Heap → Nat), I1 none 0 0 0 h1 ∧
  ∀ (imageA1 : Option Addr) (imageL1 : Nat) (imageC1 : Nat) (i1 : Int), ∀ h2 : Heap, I1 imageA1 imageL1 imageC1 i1 h2 →
  bif (decide (i1 < n1)) then (
  bif (decide (i1 > 0)) then (
  bif (decide (i1 < 98)) then (
  C.bolelaw06_block 0 h2 fun r1 h3 =>
  ∃ (sA1 : Option Addr) (sL1 : Nat) (sC1 : Nat), r1 = .slice sA1 sL1 sC1 ∧
  ∃ new1 : List Value, List.length new1 = sL1 * 1 ∧ SlCells h3 sA1 new1 ∧ (∀ v ∈ new1, v.oneCell' = true) ∧
  AppendP ti5 5 imageA1 imageL1 imageC1 sL1 new1 h3 fun sA2 sL2 sC2 h4 =>
  I1 sA2 sL2 sC2 (IntKind.wrap .i64 (i1 + 1)) h4 ∧ M1 sA2 sL2 sC2 (IntKind.wrap .i64 (i1 + 1)) h4 < M1 imageA1 imageL1 imageC1 i1 h2) else (
  C.bolelaw06_block (IntKind.wrap .u8 (i1)) h2 fun r2 h5 =>
  ∃ (sA3 : Option Addr) (sL3 : Nat) (sC3 : Nat), r2 = .slice sA3 sL3 sC3 ∧
  ∃ new2 : List Value, List.length new2 = sL3 * 1 ∧ SlCells h5 sA3 new2 ∧ (∀ v ∈ new2, v.oneCell' = true) ∧
  AppendP ti5 5 imageA1 imageL1 imageC1 sL3 new2 h5 fun sA4 sL4 sC4 h6 =>
  I1 sA4 sL4 sC4 (IntKind.wrap .i64 (i1 + 1)) h6 ∧ M1 sA4 sL4 sC4 (IntKind.wrap .i64 (i1 + 1)) h6 < M1 imageA1 imageL1 imageC1 i1 h2)) else (
  C.bolelaw06_block (IntKind.wrap .u8 (i1)) h2 fun r3 h7 =>
  ∃ (sA5 : Option Addr) (sL5 : Nat) (sC5 : Nat), r3 = .slice sA5 sL5 sC5 ∧
  ∃ new3 : List Value, List.length new3 = sL5 * 1 ∧ SlCells h7 sA5 new3 ∧ (∀ v ∈ new3, v.oneCell' = true) ∧
  AppendP ti5 5 imageA1 imageL1 imageC1 sL5 new3 h7 fun sA6 sL6 sC6 h8 =>
  I1 sA6 sL6 sC6 (IntKind.wrap .i64 (i1 + 1)) h8 ∧ M1 sA6 sL6 sC6 (IntKind.wrap .i64 (i1 + 1)) h8 < M1 imageA1 imageL1 imageC1 i1 h2)) else (
  C.adisk_Open imageA1 imageL1 imageC1 h2 fun r4 h9 =>
  ∃ (q1 : Option Addr) (n2 : Int), r4 = .tuple #[.pointer q1, .int .i64 n2] ∧
  bif (n2 != 0) then (
  K (.pointer none) h9) else (
  bif (Option.isNone q1) then (
  K (.pointer none) h9) else (
  C.adisk_Disk_Blocks q1 h9 fun r5 h10 =>
  ∃ (n3 : Int), r5 = .int .i64 n3 ∧
  bif (n3 != n1) then (
  K (.pointer none) h10) else (
  K (.pointer q1) h10))))
def bolelaw06_fresh.lo : Nat → List Nat × List (Nat × Ty) := fun n => match n with | 3 => ([0], [(3, .slice), (4, .int .i64)]) | _ => ([], [])
def bolelaw06_fresh.od : Nat → Od := fun n => match n with | _ => .nil
theorem bolelaw06_fresh.eq (n1 : Int) (K : Value → Heap → Prop) (h : Heap) : fnX (cx bolelaw06_fresh.lo bolelaw06_fresh.od) Tryd.f27 (Tryd.f27.body.getD .skip) [.int .i64 n1] K h = bolelaw06_fresh n1 K h := by kernel_rfl
theorem bolelaw06_fresh.chk : fnOk (cx bolelaw06_fresh.lo bolelaw06_fresh.od) Tryd.f27 (Tryd.f27.body.getD .skip) 1 = true := by kernel_rfl
theorem bolelaw06_fresh.ok {n1 : Int} {K : Value → Heap → Prop} {h : Heap} (hx : bolelaw06_fresh n1 K h) : C.bolelaw06_fresh n1 h K :=
  fn_to (cxOk _ _) Tryd.func27 (by kernel_rfl) bolelaw06_fresh.chk (by rw [bolelaw06_fresh.eq]; exact hx)

-- 28
def bolelaw06_known.k2 (q1 : Option Addr) (h11 : Heap) (K : Value → Heap → Prop) : Prop :=
  C.adisk_Disk_Read q1 98 h11 fun r9 h12 =>
  ∃ (sA4 : Option Addr) (sL4 : Nat) (sC4 : Nat) (n4 : Int), r9 = .tuple #[.slice sA4 sL4 sC4, .int .i64 n4] ∧
  C.adisk_Disk_Steps q1 h12 fun r10 h13 =>
  ∃ (n5 : Int) (n6 : Int), r10 = .tuple #[.int .i64 n5, .int .i64 n6] ∧
  bif (n4 == 0) then (
  ∃ bs3 : List UInt8, StrAt h13 sA4 sL4 bs3 ∧
  C.bolelaw06_block 65 h13 fun r11 h14 =>
  ∃ (sA5 : Option Addr) (sL5 : Nat) (sC5 : Nat), r11 = .slice sA5 sL5 sC5 ∧
  StrAt h14 sA4 sL4 (ByteArray.toList (mkStr bs3)) ∧
  ∃ bs4 : List UInt8, StrAt h14 sA5 sL5 bs4 ∧
  bif ((mkStr bs3).toList == (mkStr bs4).toList) then (
  bif (n5 == 4) then (
  K (.bool (n6 == 4)) h14) else (
  K (.bool false) h14)) else (
  K (.bool false) h14)) else (
  K (.bool false) h13)
def bolelaw06_known.k1 (q1 : Option Addr) (q2 : Option Addr) (h6 : Heap) (K : Value → Heap → Prop) : Prop :=
  C.txn_Txn_Read q2 98 h6 fun r5 h7 =>
  ∃ (sA2 : Option Addr) (sL2 : Nat) (sC2 : Nat) (n2 : Int), r5 = .tuple #[.slice sA2 sL2 sC2, .int .i64 n2] ∧
  bif (n2 != 0) then (
  K (.bool false) h7) else (
  ∃ bs1 : List UInt8, StrAt h7 sA2 sL2 bs1 ∧
  C.bolelaw06_block 65 h7 fun r6 h8 =>
  ∃ (sA3 : Option Addr) (sL3 : Nat) (sC3 : Nat), r6 = .slice sA3 sL3 sC3 ∧
  StrAt h8 sA2 sL2 (ByteArray.toList (mkStr bs1)) ∧
  ∃ bs2 : List UInt8, StrAt h8 sA3 sL3 bs2 ∧
  bif (!((mkStr bs1).toList == (mkStr bs2).toList)) then (
  K (.bool false) h8) else (
  C.txn_Txn_Commit q2 h8 fun r7 h9 =>
  ∃ (n3 : Int), r7 = .int .i64 n3 ∧
  bif (n3 != 0) then (
  K (.bool false) h9) else (
  C.txn_Txn_Over q2 h9 fun r8 h10 =>
  ∃ (b1 : Bool), r8 = .bool b1 ∧
  bif (!b1) then (
  K (.bool false) h10) else (
  bolelaw06_known.k2 q1 h10 K))))
def bolelaw06_known  (K : Value → Heap → Prop) (h1 : Heap) : Prop :=
  C.bolelaw06_fresh 120 h1 fun r1 h2 =>
  ∃ (q1 : Option Addr), r1 = .pointer q1 ∧
  bif (Option.isNone q1) then (
  K (.bool false) h2) else (
  C.txn_Begin q1 h2 fun r2 h3 =>
  ∃ (q2 : Option Addr), r2 = .pointer q2 ∧
  bif (Option.isNone q2) then (
  K (.bool false) h3) else (
  C.bolelaw06_block 65 h3 fun r3 h4 =>
  ∃ (sA1 : Option Addr) (sL1 : Nat) (sC1 : Nat), r3 = .slice sA1 sL1 sC1 ∧
  C.txn_Txn_Write q2 98 sA1 sL1 sC1 h4 fun r4 h5 =>
  ∃ (n1 : Int), r4 = .int .i64 n1 ∧
  bif (n1 != 0) then (
  K (.bool false) h5) else (
  bolelaw06_known.k1 q1 q2 h5 K)))
def bolelaw06_known.lo : Nat → List Nat × List (Nat × Ty) := fun n => match n with | _ => ([], [])
def bolelaw06_known.od : Nat → Od := fun n => match n with | 8 => (.op 0 [] (.op 1 [] (.op 2 [] (.op 3 [] (.op 4 [] (.op 5 [4] (.op 6 [] (.op 7 [] (.op 8 [] (.op 9 [] (.op 10 [] (.op 11 [] (.op 12 [] (.op 13 [] (.op 14 [] (.op 15 [] (.op 16 [] (.op 17 [] (.op 18 [] .nil))))))))))))))))))) | 12 => (.op 0 [] (.op 1 [] (.op 2 [] (.op 3 [] (.op 4 [] (.op 5 [4] (.op 6 [] (.op 7 [] (.op 8 [] (.op 9 [] (.op 10 [] (.op 11 [] (.op 12 [] (.op 13 [] (.op 14 [] (.op 15 [] (.op 16 [] (.op 17 [] .nil)))))))))))))))))) | _ => .nil
theorem bolelaw06_known.eq  (K : Value → Heap → Prop) (h : Heap) : fnX (cx bolelaw06_known.lo bolelaw06_known.od) Tryd.f28 (Tryd.f28.body.getD .skip) [] K h = bolelaw06_known  K h := by kernel_rfl
theorem bolelaw06_known.chk : fnOk (cx bolelaw06_known.lo bolelaw06_known.od) Tryd.f28 (Tryd.f28.body.getD .skip) 0 = true := by kernel_rfl
theorem bolelaw06_known.ok  {K : Value → Heap → Prop} {h : Heap} (hx : bolelaw06_known  K h) : C.bolelaw06_known  h K :=
  fn_to (cxOk _ _) Tryd.func28 (by kernel_rfl) bolelaw06_known.chk (by rw [bolelaw06_known.eq]; exact hx)
end Go.Proofs.YtpleolmalbdpnaaDoor.W
