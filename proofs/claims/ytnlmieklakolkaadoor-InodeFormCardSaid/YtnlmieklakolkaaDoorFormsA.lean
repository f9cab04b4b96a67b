/-
  WHAT THE FUNCTIONS COMPUTE, as formulas; each held against the loaded code by the kernel. Written by program (gen.py).
-/
import Derived.Test.YtnlmieklakolkaaDoorTab
namespace Go.Proofs.YtnlmieklakolkaaDoor.W
open Go Go.Proofs Go.Proofs.YtnlmieklakolkaaDoor.Wx
-- 3
def bolelaw04_HeadExact.k1 (bA1 : Option Addr) (bL1 : Nat) (bC1 : Nat) (n1 : Int) (h1 : Heap) (q1 : Option Addr) (sA8 : Option Addr) (sL8 : Nat) (sC8 : Nat) (h13 : Heap) (K : Value → Heap → Prop) : Prop :=
  New [.slice bA1 bL1 bC1, .slice sA8 sL8 sC8] 26 h13 fun h14 =>
  ∃ (I1 : Int → Heap → Prop) (M1 : Int → Heap → Nat), I1 0 h14 ∧
  ∀ (n6 : Int), ∀ h15 : Heap, I1 n6 h15 →
  bif (decide (n6 < (2 : Int))) then (
  (0 ≤ n6 ∧ n6 < (2 : Int)) ∧
  ∃ (sA16 : Option Addr) (sL16 : Nat) (sC16 : Nat), cellOf h15 (Addr.add ⟨h13.size, 0, none⟩ (Int.toNat n6)) = some (.slice sA16 sL16 sC16) ∧
  New [] 5 h15 fun h16 =>
  ∃ new1 : List Value, List.length new1 = sL16 * 1 ∧ SlCells h16 sA16 new1 ∧ (∀ v ∈ new1, v.oneCell' = true) ∧
  AppendP ti5 5 (some ⟨h15.size, 0, none⟩) 0 0 sL16 new1 h16 fun sA17 sL17 sC17 h17 =>
  New [.int .u8 108] 5 h17 fun h18 =>
  ∃ new2 : List Value, List.length new2 = 1 * 1 ∧ SlCells h18 (some ⟨h17.size, 0, none⟩) new2 ∧ (∀ v ∈ new2, v.oneCell' = true) ∧
  AppendP ti5 5 sA17 sL17 sC17 1 new2 h18 fun sA18 sL18 sC18 h19 =>
  (0 ≤ (sL16 : Int) ∧ (sL16 : Int) ≤ (sC18 : Int)) ∧
  C.head_Nums sA18 (Int.toNat (sL16 : Int)) sC18 n1 h19 fun r11 h20 =>
  ∃ (sA19 : Option Addr) (sL19 : Nat) (sC19 : Nat) (n7 : Int), r11 = .tuple #[.slice sA19 sL19 sC19, .int .i64 n7] ∧
  C.boleref04_Nums sA16 sL16 sC16 n1 h20 fun r12 h21 =>
  ∃ (sA20 : Option Addr) (sL20 : Nat) (sC20 : Nat) (n8 : Int), r12 = .tuple #[.slice sA20 sL20 sC20, .int .i64 n8] ∧
  C.bolelaw04_same sA19 sL19 sC19 sA20 sL20 sC20 h21 fun r13 h22 =>
  ∃ (b4 : Bool), r13 = .bool b4 ∧
  bif (!b4) then (
  K (.bool false) h22) else (
  bif (n7 != n8) then (
  K (.bool false) h22) else (
  (0 ≤ (sL16 : Int) ∧ (sL16 : Int) ≤ (sC18 : Int)) ∧
  ∃ (sA21 : Option Addr) (sL21 : Nat) (sC21 : Nat), cellOf h22 (Addr.add ⟨h1.size, 0, none⟩ 1) = some (.slice sA21 sL21 sC21) ∧
  C.bolelaw04_Room_in q1 h22 fun r14 h23 =>
  ∃ (sA22 : Option Addr) (sL22 : Nat) (sC22 : Nat), r14 = .slice sA22 sL22 sC22 ∧
  (cellOf h23 (Addr.add ⟨h1.size, 0, none⟩ 1) = some (.slice sA21 sL21 sC21)) ∧
  C.head_Good sA18 (Int.toNat (sL16 : Int)) sC18 n1 sA22 sL22 sC22 h23 fun r15 h24 =>
  ∃ (b5 : Bool), r15 = .bool b5 ∧
  (cellOf h24 (Addr.add ⟨h1.size, 0, none⟩ 1) = some (.slice sA21 sL21 sC21)) ∧
  C.boleref04_Good sA16 sL16 sC16 n1 sA21 sL21 sC21 h24 fun r16 h25 =>
  ∃ (b6 : Bool), r16 = .bool b6 ∧
  bif (!(b5 == b6)) then (
  K (.bool false) h25) else (
  (0 ≤ (sL16 : Int) ∧ (sL16 : Int) ≤ (sC18 : Int)) ∧
  ∃ bs5 : List UInt8, StrAt h25 sA18 (Int.toNat (sL16 : Int)) bs5 ∧
  ∃ bs6 : List UInt8, StrAt h25 sA16 sL16 bs6 ∧
  bif (!((mkStr bs5).toList == (mkStr bs6).toList)) then (
  K (.bool false) h25) else (
  (0 ≤ (sL16 : Int) ∧ (sL16 : Int) < (sL18 : Int)) ∧
  onSome sA18 fun p3 =>
  ∃ (n9 : Int), cellOf h25 (Addr.add p3 (Int.toNat (sL16 : Int))) = some (.int .u8 n9) ∧
  bif (n9 != 108) then (
  K (.bool false) h25) else (
  I1 (IntKind.wrap .i64 (n6 + 1)) h25 ∧ M1 (IntKind.wrap .i64 (n6 + 1)) h25 < M1 n6 h15)))))) else (
  ∃ (sA23 : Option Addr) (sL23 : Nat) (sC23 : Nat), cellOf h15 (Addr.add ⟨h1.size, 0, none⟩ 1) = some (.slice sA23 sL23 sC23) ∧
  C.bolelaw04_Room_kept q1 sA23 sL23 sC23 h15 fun r17 h26 =>
  ∃ (b7 : Bool), r17 = .bool b7 ∧
  K (.bool b7) h26)
def bolelaw04_HeadExact (a1 : List Value) (bA1 : Option Addr) (bL1 : Nat) (bC1 : Nat) (n1 : Int) (K : Value → Heap → Prop) (h1 : Heap) : Prop :=
  New a1 25 h1 fun h2 =>
  C.bolelaw04_known  h2 fun r1 h3 =>
  ∃ (b1 : Bool), r1 = .bool b1 ∧
  bif (!b1) then (
  K (.bool false) h3) else (
  ∃ (sA1 : Option Addr) (sL1 : Nat) (sC1 : Nat), cellOf h3 (Addr.add ⟨h1.size, 0, none⟩ 1) = some (.slice sA1 sL1 sC1) ∧
  ∃ (sA2 : Option Addr) (sL2 : Nat) (sC2 : Nat), cellOf h3 (Addr.add ⟨h1.size, 0, none⟩ 0) = some (.slice sA2 sL2 sC2) ∧
  C.bolelaw04_room sA1 sL1 sC1 h3 fun r2 h4 =>
  ∃ (q1 : Option Addr), r2 = .pointer q1 ∧
  (cellOf h4 (Addr.add ⟨h1.size, 0, none⟩ 0) = some (.slice sA2 sL2 sC2)) ∧
  C.bolelaw04_ints sA2 sL2 sC2 h4 fun r3 h5 =>
  ∃ (sA3 : Option Addr) (sL3 : Nat) (sC3 : Nat), r3 = .slice sA3 sL3 sC3 ∧
  C.bolelaw04_Room_in q1 h5 fun r4 h6 =>
  ∃ (sA4 : Option Addr) (sL4 : Nat) (sC4 : Nat), r4 = .slice sA4 sL4 sC4 ∧
  C.head_Make sA3 sL3 sC3 sA4 sL4 sC4 h6 fun r5 h7 =>
  ∃ (sA5 : Option Addr) (sL5 : Nat) (sC5 : Nat) (n2 : Int), r5 = .tuple #[.slice sA5 sL5 sC5, .int .i64 n2] ∧
  ∃ (sA6 : Option Addr) (sL6 : Nat) (sC6 : Nat), cellOf h7 (Addr.add ⟨h1.size, 0, none⟩ 0) = some (.slice sA6 sL6 sC6) ∧
  ∃ (sA7 : Option Addr) (sL7 : Nat) (sC7 : Nat), cellOf h7 (Addr.add ⟨h1.size, 0, none⟩ 1) = some (.slice sA7 sL7 sC7) ∧
  C.boleref04_Make sA6 sL6 sC6 sA7 sL7 sC7 h7 fun r6 h8 =>
  ∃ (sA8 : Option Addr) (sL8 : Nat) (sC8 : Nat) (n3 : Int), r6 = .tuple #[.slice sA8 sL8 sC8, .int .i64 n3] ∧
  ∃ (sA9 : Option Addr) (sL9 : Nat) (sC9 : Nat), cellOf h8 (Addr.add ⟨h1.size, 0, none⟩ 0) = some (.slice sA9 sL9 sC9) ∧
  (0 ≤ (IntKind.wrap .i64 ((sL9 : Int) + 2)) ∧ (IntKind.wrap .i64 ((sL9 : Int) + 2)) ≤ (sC3 : Int)) ∧
  ∃ bs1 : List UInt8, StrAt h8 sA5 sL5 bs1 ∧
  ∃ bs2 : List UInt8, StrAt h8 sA8 sL8 bs2 ∧
  bif (!((mkStr bs1).toList == (mkStr bs2).toList)) then (
  K (.bool false) h8) else (
  bif (n2 != n3) then (
  K (.bool false) h8) else (
  ∃ (sA10 : Option Addr) (sL10 : Nat) (sC10 : Nat), cellOf h8 (Addr.add ⟨h1.size, 0, none⟩ 1) = some (.slice sA10 sL10 sC10) ∧
  C.bolelaw04_Room_kept q1 sA10 sL10 sC10 h8 fun r7 h9 =>
  ∃ (b2 : Bool), r7 = .bool b2 ∧
  bif (!b2) then (
  K (.bool false) h9) else (
  ∃ (sA11 : Option Addr) (sL11 : Nat) (sC11 : Nat), cellOf h9 (Addr.add ⟨h1.size, 0, none⟩ 0) = some (.slice sA11 sL11 sC11) ∧
  C.bolelaw04_same sA3 sL3 sC3 sA11 sL11 sC11 h9 fun r8 h10 =>
  ∃ (b3 : Bool), r8 = .bool b3 ∧
  bif (!b3) then (
  K (.bool false) h10) else (
  ∃ (sA12 : Option Addr) (sL12 : Nat) (sC12 : Nat), cellOf h10 (Addr.add ⟨h1.size, 0, none⟩ 0) = some (.slice sA12 sL12 sC12) ∧
  (0 ≤ (sL12 : Int) ∧ (sL12 : Int) < ((Int.toNat (IntKind.wrap .i64 ((sL9 : Int) + 2))) : Int)) ∧
  onSome sA3 fun p1 =>
  ∃ (n4 : Int), cellOf h10 (Addr.add p1 (Int.toNat (sL12 : Int))) = some (.int .i64 n4) ∧
  bif (n4 != (-71)) then (
  K (.bool false) h10) else (
  ∃ (sA13 : Option Addr) (sL13 : Nat) (sC13 : Nat), cellOf h10 (Addr.add ⟨h1.size, 0, none⟩ 0) = some (.slice sA13 sL13 sC13) ∧
  (0 ≤ (IntKind.wrap .i64 ((sL13 : Int) + 1)) ∧ (IntKind.wrap .i64 ((sL13 : Int) + 1)) < ((Int.toNat (IntKind.wrap .i64 ((sL9 : Int) + 2))) : Int)) ∧
  onSome sA3 fun p2 =>
  ∃ (n5 : Int), cellOf h10 (Addr.add p2 (Int.toNat (IntKind.wrap .i64 ((sL13 : Int) + 1)))) = some (.int .i64 n5) ∧
  bif (n5 != (-72)) then (
  K (.bool false) h10) else (
  C.head_Empty  h10 fun r9 h11 =>
  ∃ (sA14 : Option Addr) (sL14 : Nat) (sC14 : Nat), r9 = .slice sA14 sL14 sC14 ∧
  ∃ bs3 : List UInt8, StrAt h11 sA14 sL14 bs3 ∧
  C.boleref04_Empty  h11 fun r10 h12 =>
  ∃ (sA15 : Option Addr) (sL15 : Nat) (sC15 : Nat), r10 = .slice sA15 sL15 sC15 ∧
  StrAt h12 sA14 sL14 (ByteArray.toList (mkStr bs3)) ∧
  ∃ bs4 : List UInt8, StrAt h12 sA15 sL15 bs4 ∧
  bif (!((mkStr bs3).toList == (mkStr bs4).toList)) then (
  K (.bool false) h12) else (
  bolelaw04_HeadExact.k1 bA1 bL1 bC1 n1 h1 q1 sA8 sL8 sC8 h12 K))))))))
def bolelaw04_HeadExact.lo : Nat → List Nat × List (Nat × Ty) := fun n => match n with | 10 => ([2, 3, 7, 102, 103], [(104, .int .i64)]) | _ => ([], [])
set_option maxRecDepth 100000 in
def bolelaw04_HeadExact.od : Nat → Od := fun n => match n with | 3 => (.op 0 [] (.op 1 [] (.op 3 [] (.op 4 [] (.op 2 [4] (.op 5 [] (.op 6 [] (.op 7 [] .nil)))))))) | 7 => (.op 0 [] (.op 1 [] (.op 2 [] (.op 3 [] (.op 4 [] (.op 5 [] (.op 6 [] (.op 7 [] (.op 8 [] (.op 9 [] (.op 10 [] (.op 11 [] (.op 12 [] (.op 13 [] (.op 14 [] (.op 15 [] (.op 16 [] (.op 17 [] (.op 18 [] (.op 19 [] (.op 20 [] (.op 21 [] (.op 22 [] (.op 23 [] (.op 24 [] (.op 25 [] (.op 26 [] (.op 27 [] (.op 28 [] (.op 29 [] (.op 30 [] (.op 31 [] (.op 32 [] (.op 33 [] (.op 34 [] (.op 35 [] (.op 36 [] (.op 37 [] (.op 38 [] (.op 39 [] (.op 40 [] (.op 41 [] (.op 42 [] (.op 43 [] (.op 44 [] (.op 45 [] (.op 46 [45] (.op 47 [] (.op 48 [] (.op 49 [] .nil)))))))))))))))))))))))))))))))))))))))))))))))))) | 15 => (.op 0 [] (.op 1 [] (.op 2 [] (.op 3 [] (.op 4 [] (.op 5 [] (.op 6 [] (.op 7 [] (.op 8 [] (.op 9 [] (.op 10 [] (.op 11 [] (.op 12 [] (.op 13 [] (.op 14 [] (.op 15 [] (.op 18 [] (.op 19 [] (.op 20 [] (.op 21 [] (.op 16 [21] (.op 17 [21] (.op 22 [] (.op 23 [] (.op 24 [] (.op 25 [] (.op 26 [] (.op 27 [] (.op 28 [] (.op 29 [] (.op 30 [] (.op 31 [] (.op 32 [] (.op 33 [] (.op 34 [] (.op 35 [] (.op 36 [] (.op 37 [] (.op 38 [] (.op 39 [] (.op 40 [] (.op 41 [] (.op 42 [] .nil))))))))))))))))))))))))))))))))))))))))))) | _ => .nil
set_option maxRecDepth 100000 in
theorem bolelaw04_HeadExact.eq (a1 : List Value) (bA1 : Option Addr) (bL1 : Nat) (bC1 : Nat) (n1 : Int) (K : Value → Heap → Prop) (h : Heap) : fnX (cx bolelaw04_HeadExact.lo bolelaw04_HeadExact.od) Tryd.f3 (Tryd.f3.body.getD .skip) [.agg ⟨a1⟩, .slice bA1 bL1 bC1, .int .i64 n1] K h = bolelaw04_HeadExact a1 bA1 bL1 bC1 n1 K h := by kernel_rfl
theorem bolelaw04_HeadExact.chk : fnOk (cx bolelaw04_HeadExact.lo bolelaw04_HeadExact.od) Tryd.f3 (Tryd.f3.body.getD .skip) 3 = true := by kernel_rfl
set_option maxRecDepth 100000 in
theorem bolelaw04_HeadExact.ok {a1 : List Value} {bA1 : Option Addr} {bL1 : Nat} {bC1 : Nat} {n1 : Int} {K : Value → Heap → Prop} {h : Heap} (hx : bolelaw04_HeadExact a1 bA1 bL1 bC1 n1 K h) : C.bolelaw04_HeadExact a1 bA1 bL1 bC1 n1 h K :=
  fn_to (cxOk _ _) Tryd.func3 (by kernel_rfl) bolelaw04_HeadExact.chk (by rw [bolelaw04_HeadExact.eq]; exact hx)

-- 4
def bolelaw04_HeadBack.k3 (n1 : Int) (sA1 : Option Addr) (sL1 : Nat) (sC1 : Nat) (sA2 : Option Addr) (sL2 : Nat) (sA3 : Option Addr) (sL3 : Nat) (sC3 : Nat) (h22 : Heap) (K : Value → Heap → Prop) : Prop :=
  New [] 26 h22 fun h23 =>
  ∃ new3 : List Value, List.length new3 = sL2 * 1 ∧ SlCells h23 sA2 new3 ∧ (∀ v ∈ new3, v.oneCell' = true) ∧
  AppendP ti26 26 (some ⟨h22.size, 0, none⟩) 0 0 sL2 new3 h23 fun sA8 sL8 sC8 h24 =>
  (0 ≤ (IntKind.wrap .i64 ((sL2 : Int) - 1)) ∧ (IntKind.wrap .i64 ((sL2 : Int) - 1)) < (sL8 : Int)) ∧
  onSome sA8 fun p3 =>
  ∃ (sA9 : Option Addr) (sL9 : Nat) (sC9 : Nat), cellOf h24 (Addr.add p3 (Int.toNat (IntKind.wrap .i64 ((sL2 : Int) - 1)))) = some (.slice sA9 sL9 sC9) ∧
  (0 ≤ (0 : Int) ∧ 0 < (sL8 : Int)) ∧
  onSome sA8 fun p4 =>
  ∃ (sA10 : Option Addr) (sL10 : Nat) (sC10 : Nat), cellOf h24 (Addr.add p4 (Int.toNat 0)) = some (.slice sA10 sL10 sC10) ∧
  (0 ≤ (0 : Int) ∧ 0 < (sL8 : Int)) ∧
  onSome sA8 fun p5 =>
  Put (Addr.add p5 (Int.toNat 0)) (.slice sA9 sL9 sC9) h24 fun h25 =>
  (0 ≤ (IntKind.wrap .i64 ((sL2 : Int) - 1)) ∧ (IntKind.wrap .i64 ((sL2 : Int) - 1)) < (sL8 : Int)) ∧
  onSome sA8 fun p6 =>
  Put (Addr.add p6 (Int.toNat (IntKind.wrap .i64 ((sL2 : Int) - 1)))) (.slice sA10 sL10 sC10) h25 fun h26 =>
  C.head_Make sA1 sL1 sC1 sA8 sL8 sC8 h26 fun r14 h27 =>
  ∃ (sA11 : Option Addr) (sL11 : Nat) (sC11 : Nat) (n8 : Int), r14 = .tuple #[.slice sA11 sL11 sC11, .int .i64 n8] ∧
  C.bolelaw04_num n8 h27 fun r15 h28 =>
  ∃ (n9 : Int), r15 = .int .i64 n9 ∧
  bif (n9 == 0) then (
  C.head_Good sA11 sL11 sC11 n1 sA8 sL8 sC8 h28 fun r16 h29 =>
  ∃ (b7 : Bool), r16 = .bool b7 ∧
  bif b7 then (
  ∃ bs1 : List UInt8, StrAt h29 sA11 sL11 bs1 ∧
  ∃ bs2 : List UInt8, StrAt h29 sA3 sL3 bs2 ∧
  C.head_Good sA3 sL3 sC3 n1 sA8 sL8 sC8 h29 fun r17 h30 =>
  ∃ (b8 : Bool), r17 = .bool b8 ∧
  StrAt h30 sA11 sL11 (ByteArray.toList (mkStr bs1)) ∧
  StrAt h30 sA3 sL3 (ByteArray.toList (mkStr bs2)) ∧
  K (.bool (b8 == ((mkStr bs1).toList == (mkStr bs2).toList))) h30) else (
  K (.bool false) h29)) else (
  K (.bool false) h28)
def bolelaw04_HeadBack.k2 (n1 : Int) (sA1 : Option Addr) (sL1 : Nat) (sC1 : Nat) (sA2 : Option Addr) (sL2 : Nat) (sC2 : Nat) (sA3 : Option Addr) (sL3 : Nat) (sC3 : Nat) (h14 : Heap) (K : Value → Heap → Prop) : Prop :=
  (0 ≤ (1 : Int) ∧ 1 ≤ (sL2 : Int)) ∧
  C.head_Good sA3 sL3 sC3 n1 (if sC2 = (Int.toNat 1) then sA2 else Option.map (Addr.add · (Int.toNat 1)) sA2) (sL2 - (Int.toNat 1)) (sC2 - (Int.toNat 1)) h14 fun r11 h15 =>
  ∃ (b5 : Bool), r11 = .bool b5 ∧
  bif b5 then (
  K (.bool false) h15) else (
  New [] 26 h15 fun h16 =>
  ∃ new1 : List Value, List.length new1 = sL2 * 1 ∧ SlCells h16 sA2 new1 ∧ (∀ v ∈ new1, v.oneCell' = true) ∧
  AppendP ti26 26 (some ⟨h15.size, 0, none⟩) 0 0 sL2 new1 h16 fun sA5 sL5 sC5 h17 =>
  C.bolelaw04_block 0 h17 fun r12 h18 =>
  ∃ (sA6 : Option Addr) (sL6 : Nat) (sC6 : Nat), r12 = .slice sA6 sL6 sC6 ∧
  New [.slice sA6 sL6 sC6] 26 h18 fun h19 =>
  ∃ new2 : List Value, List.length new2 = 1 * 1 ∧ SlCells h19 (some ⟨h18.size, 0, none⟩) new2 ∧ (∀ v ∈ new2, v.oneCell' = true) ∧
  AppendP ti26 26 sA5 sL5 sC5 1 new2 h19 fun sA7 sL7 sC7 h20 =>
  C.head_Good sA3 sL3 sC3 n1 sA7 sL7 sC7 h20 fun r13 h21 =>
  ∃ (b6 : Bool), r13 = .bool b6 ∧
  bif b6 then (
  K (.bool false) h21) else (
  bolelaw04_HeadBack.k3 n1 sA1 sL1 sC1 sA2 sL2 sA3 sL3 sC3 h21 K))
def bolelaw04_HeadBack.k1 (n1 : Int) (sA1 : Option Addr) (sL1 : Nat) (sC1 : Nat) (sA2 : Option Addr) (sL2 : Nat) (sC2 : Nat) (sA3 : Option Addr) (sL3 : Nat) (sC3 : Nat) (h7 : Heap) (K : Value → Heap → Prop) : Prop :=
  (0 ≤ (IntKind.wrap .i64 ((sL1 : Int) - 1)) ∧ (IntKind.wrap .i64 ((sL1 : Int) - 1)) < (sL1 : Int)) ∧
  onSome sA1 fun p2 =>
  ∃ (n4 : Int), cellOf h7 (Addr.add p2 (Int.toNat (IntKind.wrap .i64 ((sL1 : Int) - 1)))) = some (.int .i64 n4) ∧
  C.head_Nums sA3 sL3 sC3 n1 h7 fun r5 h8 =>
  ∃ (sA4 : Option Addr) (sL4 : Nat) (sC4 : Nat) (n5 : Int), r5 = .tuple #[.slice sA4 sL4 sC4, .int .i64 n5] ∧
  bif (decide (n1 ≤ n4)) then (
  C.bolelaw04_num n5 h8 fun r6 h9 =>
  ∃ (n6 : Int), r6 = .int .i64 n6 ∧
  bif (n6 == 41) then (
  bif ((sL4 : Int) == 0) then (
  C.head_Good sA3 sL3 sC3 n1 sA2 sL2 sC2 h9 fun r7 h10 =>
  ∃ (b2 : Bool), r7 = .bool b2 ∧
  K (.bool (!b2)) h10) else (
  K (.bool false) h9)) else (
  K (.bool false) h9)) else (
  C.bolelaw04_num n5 h8 fun r8 h11 =>
  ∃ (n7 : Int), r8 = .int .i64 n7 ∧
  bif (n7 != 0) then (
  K (.bool false) h11) else (
  C.bolelaw04_same sA4 sL4 sC4 sA1 sL1 sC1 h11 fun r9 h12 =>
  ∃ (b3 : Bool), r9 = .bool b3 ∧
  bif (!b3) then (
  K (.bool false) h12) else (
  C.head_Good sA3 sL3 sC3 n1 sA2 sL2 sC2 h12 fun r10 h13 =>
  ∃ (b4 : Bool), r10 = .bool b4 ∧
  bif (!b4) then (
  K (.bool false) h13) else (
  bolelaw04_HeadBack.k2 n1 sA1 sL1 sC1 sA2 sL2 sC2 sA3 sL3 sC3 h13 K))))
def bolelaw04_HeadBack (p1 : List Value) (n1 : Int) (K : Value → Heap → Prop) (h1 : Heap) : Prop :=
  New p1 43 h1 fun h2 =>
  C.bolelaw04_known  h2 fun r1 h3 =>
  ∃ (b1 : Bool), r1 = .bool b1 ∧
  bif (!b1) then (
  K (.bool false) h3) else (
  ∃ cs1 : List Value, List.length cs1 = 2 ∧ Cells h3 ⟨h1.size, 0, none⟩ cs1 ∧
  C.bolelaw04_Plan_made cs1 h3 fun r2 h4 =>
  ∃ (sA1 : Option Addr) (sL1 : Nat) (sC1 : Nat) (sA2 : Option Addr) (sL2 : Nat) (sC2 : Nat), r2 = .tuple #[.slice sA1 sL1 sC1, .slice sA2 sL2 sC2] ∧
  C.head_Make sA1 sL1 sC1 sA2 sL2 sC2 h4 fun r3 h5 =>
  ∃ (sA3 : Option Addr) (sL3 : Nat) (sC3 : Nat) (n2 : Int), r3 = .tuple #[.slice sA3 sL3 sC3, .int .i64 n2] ∧
  C.bolelaw04_num n2 h5 fun r4 h6 =>
  ∃ (n3 : Int), r4 = .int .i64 n3 ∧
  bif (n3 != 0) then (
  K (.bool false) h6) else (
  bif ((sL3 : Int) != 512) then (
  K (.bool false) h6) else (
  bolelaw04_HeadBack.k1 n1 sA1 sL1 sC1 sA2 sL2 sC2 sA3 sL3 sC3 h6 K)))
def bolelaw04_HeadBack.lo : Nat → List Nat × List (Nat × Ty) := fun n => match n with | _ => ([], [])
def bolelaw04_HeadBack.od : Nat → Od := fun n => match n with | 16 => (.op 0 [] (.op 1 [] (.op 2 [] (.op 3 [] (.op 4 [] (.op 5 [] (.op 6 [] (.op 7 [] (.op 8 [] (.op 9 [] (.op 10 [] (.op 11 [] (.op 12 [] (.op 13 [] (.op 14 [] (.op 15 [] (.op 16 [] (.op 17 [] .nil)))))))))))))))))) | 18 => (.op 0 [] (.op 1 [] (.op 2 [] (.op 3 [] (.op 4 [] (.op 5 [] (.op 6 [] (.op 7 [] (.op 8 [] (.op 9 [] (.op 10 [] (.op 11 [] (.op 12 [] (.op 14 [] (.op 15 [] (.op 16 [] (.op 17 [] (.op 18 [] (.op 13 [15, 17] (.op 19 [] (.op 20 [] (.op 21 [] .nil)))))))))))))))))))))) | _ => .nil
theorem bolelaw04_HeadBack.eq (p1 : List Value) (n1 : Int) (K : Value → Heap → Prop) (h : Heap) : fnX (cx bolelaw04_HeadBack.lo bolelaw04_HeadBack.od) Tryd.f4 (Tryd.f4.body.getD .skip) [.agg ⟨p1⟩, .int .i64 n1] K h = bolelaw04_HeadBack p1 n1 K h := by kernel_rfl
theorem bolelaw04_HeadBack.chk : fnOk (cx bolelaw04_HeadBack.lo bolelaw04_HeadBack.od) Tryd.f4 (Tryd.f4.body.getD .skip) 2 = true := by kernel_rfl
theorem bolelaw04_HeadBack.ok {p1 : List Value} {n1 : Int} {K : Value → Heap → Prop} {h : Heap} (hx : bolelaw04_HeadBack p1 n1 K h) : C.bolelaw04_HeadBack p1 n1 h K :=
  fn_to (cxOk _ _) Tryd.func4 (by kernel_rfl) bolelaw04_HeadBack.chk (by rw [bolelaw04_HeadBack.eq]; exact hx)

-- 5
def bolelaw04_HeadOnce.k1 (hA1 : Option Addr) (hL1 : Nat) (hC1 : Nat) (n1 : Int) (dataA1 : Option Addr) (dataL1 : Nat) (dataC1 : Nat) (sA1 : Option Addr) (sL1 : Nat) (sC1 : Nat) (h7 : Heap) (K : Value → Heap → Prop) : Prop :=
  C.head_Good hA1 hL1 hC1 n1 dataA1 dataL1 dataC1 h7 fun r6 h8 =>
  ∃ (b4 : Bool), r6 = .bool b4 ∧
  bif (!b4) then (
  K (.bool true) h8) else (
  C.head_Make sA1 sL1 sC1 dataA1 dataL1 dataC1 h8 fun r7 h9 =>
  ∃ (sA2 : Option Addr) (sL2 : Nat) (sC2 : Nat) (n4 : Int), r7 = .tuple #[.slice sA2 sL2 sC2, .int .i64 n4] ∧
  bif (decide (n1 > 98)) then (
  C.bolelaw04_num n4 h9 fun r8 h10 =>
  ∃ (n5 : Int), r8 = .int .i64 n5 ∧
  bif (n5 == 0) then (
  ∃ bs1 : List UInt8, StrAt h10 sA2 sL2 bs1 ∧
  ∃ bs2 : List UInt8, StrAt h10 hA1 hL1 bs2 ∧
  bif ((mkStr bs1).toList == (mkStr bs2).toList) then (
  K (.bool true) h10) else (
  C.bolelaw04_num n4 h10 fun r9 h11 =>
  ∃ (n6 : Int), r9 = .int .i64 n6 ∧
  bif (n6 == 40) then (
  (0 ≤ (IntKind.wrap .i64 ((sL1 : Int) - 1)) ∧ (IntKind.wrap .i64 ((sL1 : Int) - 1)) < (sL1 : Int)) ∧
  onSome sA1 fun p1 =>
  ∃ (n7 : Int), cellOf h11 (Addr.add p1 (Int.toNat (IntKind.wrap .i64 ((sL1 : Int) - 1)))) = some (.int .i64 n7) ∧
  K (.bool (decide (n7 ≥ 16384))) h11) else (
  K (.bool false) h11))) else (
  C.bolelaw04_num n4 h10 fun r10 h12 =>
  ∃ (n8 : Int), r10 = .int .i64 n8 ∧
  bif (n8 == 40) then (
  (0 ≤ (IntKind.wrap .i64 ((sL1 : Int) - 1)) ∧ (IntKind.wrap .i64 ((sL1 : Int) - 1)) < (sL1 : Int)) ∧
  onSome sA1 fun p2 =>
  ∃ (n9 : Int), cellOf h12 (Addr.add p2 (Int.toNat (IntKind.wrap .i64 ((sL1 : Int) - 1)))) = some (.int .i64 n9) ∧
  K (.bool (decide (n9 ≥ 16384))) h12) else (
  K (.bool false) h12))) else (
  K (.bool false) h9))
def bolelaw04_HeadOnce (hA1 : Option Addr) (hL1 : Nat) (hC1 : Nat) (n1 : Int) (dataA1 : Option Addr) (dataL1 : Nat) (dataC1 : Nat) (K : Value → Heap → Prop) (h1 : Heap) : Prop :=
  C.bolelaw04_known  h1 fun r1 h2 =>
  ∃ (b1 : Bool), r1 = .bool b1 ∧
  bif (!b1) then (
  K (.bool false) h2) else (
  C.head_Nums hA1 hL1 hC1 n1 h2 fun r2 h3 =>
  ∃ (sA1 : Option Addr) (sL1 : Nat) (sC1 : Nat) (n2 : Int), r2 = .tuple #[.slice sA1 sL1 sC1, .int .i64 n2] ∧
  C.bolelaw04_num n2 h3 fun r3 h4 =>
  ∃ (n3 : Int), r3 = .int .i64 n3 ∧
  bif (n3 != 0) then (
  C.head_Good hA1 hL1 hC1 n1 dataA1 dataL1 dataC1 h4 fun r4 h5 =>
  ∃ (b2 : Bool), r4 = .bool b2 ∧
  K (.bool (!b2)) h5) else (
  bif ((sL1 : Int) == 0) then (
  C.head_Good hA1 hL1 hC1 n1 dataA1 dataL1 dataC1 h4 fun r5 h6 =>
  ∃ (b3 : Bool), r5 = .bool b3 ∧
  K (.bool (!b3)) h6) else (
  bolelaw04_HeadOnce.k1 hA1 hL1 hC1 n1 dataA1 dataL1 dataC1 sA1 sL1 sC1 h4 K)))
def bolelaw04_HeadOnce.lo : Nat → List Nat × List (Nat × Ty) := fun n => match n with | _ => ([], [])
def bolelaw04_HeadOnce.od : Nat → Od := fun n => match n with | _ => .nil
theorem bolelaw04_HeadOnce.eq (hA1 : Option Addr) (hL1 : Nat) (hC1 : Nat) (n1 : Int) (dataA1 : Option Addr) (dataL1 : Nat) (dataC1 : Nat) (K : Value → Heap → Prop) (h : Heap) : fnX (cx bolelaw04_HeadOnce.lo bolelaw04_HeadOnce.od) Tryd.f5 (Tryd.f5.body.getD .skip) [.slice hA1 hL1 hC1, .int .i64 n1, .slice dataA1 dataL1 dataC1] K h = bolelaw04_HeadOnce hA1 hL1 hC1 n1 dataA1 dataL1 dataC1 K h := by kernel_rfl
theorem bolelaw04_HeadOnce.chk : fnOk (cx bolelaw04_HeadOnce.lo bolelaw04_HeadOnce.od) Tryd.f5 (Tryd.f5.body.getD .skip) 3 = true := by kernel_rfl
theorem bolelaw04_HeadOnce.ok {hA1 : Option Addr} {hL1 : Nat} {hC1 : Nat} {n1 : Int} {dataA1 : Option Addr} {dataL1 : Nat} {dataC1 : Nat} {K : Value → Heap → Prop} {h : Heap} (hx : bolelaw04_HeadOnce hA1 hL1 hC1 n1 dataA1 dataL1 dataC1 K h) : C.bolelaw04_HeadOnce hA1 hL1 hC1 n1 dataA1 dataL1 dataC1 h K :=
  fn_to (cxOk _ _) Tryd.func5 (by kernel_rfl) bolelaw04_HeadOnce.chk (by rw [bolelaw04_HeadOnce.eq]; exact hx)

-- 6
def bolelaw04_HeadBursts.k3 (at1 : Int) (sA7 : Option Addr) (sL7 : Nat) (turned1 : Bool) (k1 : Int) (h14 : Heap) (I1 : Bool → Int → Heap → Prop) (M1 : Bool → Int → Heap → Nat) (h17 : Heap) (K : Value → Heap → Prop) : Prop :=
  (0 ≤ (IntKind.wrap .i64 (Int.tdiv (IntKind.wrap .i64 (at1 + k1)) 8)) ∧ (IntKind.wrap .i64 (Int.tdiv (IntKind.wrap .i64 (at1 + k1)) 8)) < (sL7 : Int)) ∧
  onSome sA7 fun p3 =>
  ∃ (n5 : Int), cellOf h17 (Addr.add p3 (Int.toNat (IntKind.wrap .i64 (Int.tdiv (IntKind.wrap .i64 (at1 + k1)) 8)))) = some (.int .u8 n5) ∧
  if (Int.tmod (IntKind.wrap .i64 (at1 + k1)) 8) < 0 then False else
  (0 ≤ (IntKind.wrap .i64 (Int.tdiv (IntKind.wrap .i64 (at1 + k1)) 8)) ∧ (IntKind.wrap .i64 (Int.tdiv (IntKind.wrap .i64 (at1 + k1)) 8)) < (sL7 : Int)) ∧
  onSome sA7 fun p4 =>
  Put (Addr.add p4 (Int.toNat (IntKind.wrap .i64 (Int.tdiv (IntKind.wrap .i64 (at1 + k1)) 8)))) (.int .u8 (bitsI .xor .u8 n5 (IntKind.wrap .u8 ((1 * 2 ^ min (Int.toNat (Int.tmod (IntKind.wrap .i64 (at1 + k1)) 8)) 8))))) h17 fun h18 =>
  I1 true (IntKind.wrap .i64 (k1 + 1)) h18 ∧ M1 true (IntKind.wrap .i64 (k1 + 1)) h18 < M1 turned1 k1 h14
def bolelaw04_HeadBursts.k2 (at1 : Int) (mask1 : Int) (sA2 : Option Addr) (sL2 : Nat) (sA3 : Option Addr) (sL3 : Nat) (h7 : Heap) (i1 : Int) (K : Value → Heap → Prop) : Prop :=
  New [] 5 h7 fun h8 =>
  ∃ new1 : List Value, List.length new1 = sL3 * 1 ∧ SlCells h8 sA3 new1 ∧ (∀ v ∈ new1, v.oneCell' = true) ∧
  AppendP ti5 5 (some ⟨h7.size, 0, none⟩) 0 0 sL3 new1 h8 fun sA4 sL4 sC4 h9 =>
  New [.slice sA4 sL4 sC4] 26 h9 fun h10 =>
  ∃ new2 : List Value, List.length new2 = sL2 * 1 ∧ SlCells h10 sA2 new2 ∧ (∀ v ∈ new2, v.oneCell' = true) ∧
  AppendP ti26 26 (some ⟨h9.size, 0, none⟩) 1 1 sL2 new2 h10 fun sA5 sL5 sC5 h11 =>
  New [] 5 h11 fun h12 =>
  (0 ≤ i1 ∧ i1 < (sL5 : Int)) ∧
  onSome sA5 fun p2 =>
  ∃ (sA6 : Option Addr) (sL6 : Nat) (sC6 : Nat), cellOf h12 (Addr.add p2 (Int.toNat i1)) = some (.slice sA6 sL6 sC6) ∧
  ∃ new3 : List Value, List.length new3 = sL6 * 1 ∧ SlCells h12 sA6 new3 ∧ (∀ v ∈ new3, v.oneCell' = true) ∧
  AppendP ti5 5 (some ⟨h11.size, 0, none⟩) 0 0 sL6 new3 h12 fun sA7 sL7 sC7 h13 =>
  ∃ (I1 : Bool → Int → Heap → Prop) (M1 : Bool → Int → Heap → Nat), I1 false 0 h13 ∧
  ∀ (turned1 : Bool) (k1 : Int), ∀ h14 : Heap, I1 turned1 k1 h14 →
  bif (decide (k1 < 32)) then (
  bif (decide (at1 < 0)) then (
  I1 turned1 (IntKind.wrap .i64 (k1 + 1)) h14 ∧ M1 turned1 (IntKind.wrap .i64 (k1 + 1)) h14 < M1 turned1 k1 h14) else (
  bif (decide (at1 ≥ 4096)) then (
  I1 turned1 (IntKind.wrap .i64 (k1 + 1)) h14 ∧ M1 turned1 (IntKind.wrap .i64 (k1 + 1)) h14 < M1 turned1 k1 h14) else (
  bif (decide ((IntKind.wrap .i64 (at1 + k1)) ≥ 4096)) then (
  I1 turned1 (IntKind.wrap .i64 (k1 + 1)) h14 ∧ M1 turned1 (IntKind.wrap .i64 (k1 + 1)) h14 < M1 turned1 k1 h14) else (
  if k1 < 0 then False else
  bif ((bitsI .and .u32 (Int.fdiv mask1 (2 ^ min (Int.toNat k1) 32)) 1) == 0) then (
  I1 turned1 (IntKind.wrap .i64 (k1 + 1)) h14 ∧ M1 turned1 (IntKind.wrap .i64 (k1 + 1)) h14 < M1 turned1 k1 h14) else (
  bif (i1 == 0) then (
  C.bolelaw04_stretch (IntKind.wrap .i64 (at1 + k1)) h14 fun r5 h15 =>
  ∃ (n3 : Int), r5 = .int .i64 n3 ∧
  C.bolelaw04_stretch at1 h15 fun r6 h16 =>
  ∃ (n4 : Int), r6 = .int .i64 n4 ∧
  bif (n3 != n4) then (
  I1 turned1 (IntKind.wrap .i64 (k1 + 1)) h16 ∧ M1 turned1 (IntKind.wrap .i64 (k1 + 1)) h16 < M1 turned1 k1 h14) else (
  bolelaw04_HeadBursts.k3 at1 sA7 sL7 turned1 k1 h14 I1 M1 h16 K)) else (
  bolelaw04_HeadBursts.k3 at1 sA7 sL7 turned1 k1 h14 I1 M1 h14 K)))))) else (
  (0 ≤ i1 ∧ i1 < (sL5 : Int)) ∧
  onSome sA5 fun p5 =>
  Put (Addr.add p5 (Int.toNat i1)) (.slice sA7 sL7 sC7) h14 fun h19 =>
  (0 ≤ (0 : Int) ∧ 0 < (sL5 : Int)) ∧
  onSome sA5 fun p6 =>
  ∃ (sA8 : Option Addr) (sL8 : Nat) (sC8 : Nat), cellOf h19 (Addr.add p6 (Int.toNat 0)) = some (.slice sA8 sL8 sC8) ∧
  (0 ≤ (1 : Int) ∧ 1 ≤ (sL5 : Int)) ∧
  C.head_Good sA8 sL8 sC8 16384 (if sC5 = (Int.toNat 1) then sA5 else Option.map (Addr.add · (Int.toNat 1)) sA5) (sL5 - (Int.toNat 1)) (sC5 - (Int.toNat 1)) h19 fun r7 h20 =>
  ∃ (b2 : Bool), r7 = .bool b2 ∧
  K (.bool (b2 == (!turned1))) h20)
def bolelaw04_HeadBursts.k1 (which1 : Int) (at1 : Int) (mask1 : Int) (sA2 : Option Addr) (sL2 : Nat) (sA3 : Option Addr) (sL3 : Nat) (h7 : Heap) (K : Value → Heap → Prop) : Prop :=
  if (IntKind.wrap .i64 ((sL2 : Int) + 1)) = 0 then False else
  bif (decide ((Int.tmod which1 (IntKind.wrap .i64 ((sL2 : Int) + 1))) < 0)) then (
  bolelaw04_HeadBursts.k2 at1 mask1 sA2 sL2 sA3 sL3 h7 (IntKind.wrap .i64 (0 - (Int.tmod which1 (IntKind.wrap .i64 ((sL2 : Int) + 1))))) K) else (
  bolelaw04_HeadBursts.k2 at1 mask1 sA2 sL2 sA3 sL3 h7 (Int.tmod which1 (IntKind.wrap .i64 ((sL2 : Int) + 1))) K)
def bolelaw04_HeadBursts (p1 : List Value) (which1 : Int) (at1 : Int) (mask1 : Int) (K : Value → Heap → Prop) (h1 : Heap) : Prop :=
  New p1 43 h1 fun h2 =>
  C.bolelaw04_known  h2 fun r1 h3 =>
  ∃ (b1 : Bool), r1 = .bool b1 ∧
  bif (!b1) then (
  K (.bool false) h3) else (
  ∃ cs1 : List Value, List.length cs1 = 2 ∧ Cells h3 ⟨h1.size, 0, none⟩ cs1 ∧
  C.bolelaw04_Plan_made cs1 h3 fun r2 h4 =>
  ∃ (sA1 : Option Addr) (sL1 : Nat) (sC1 : Nat) (sA2 : Option Addr) (sL2 : Nat) (sC2 : Nat), r2 = .tuple #[.slice sA1 sL1 sC1, .slice sA2 sL2 sC2] ∧
  C.head_Make sA1 sL1 sC1 sA2 sL2 sC2 h4 fun r3 h5 =>
  ∃ (sA3 : Option Addr) (sL3 : Nat) (sC3 : Nat) (n1 : Int), r3 = .tuple #[.slice sA3 sL3 sC3, .int .i64 n1] ∧
  C.bolelaw04_num n1 h5 fun r4 h6 =>
  ∃ (n2 : Int), r4 = .int .i64 n2 ∧
  bif (n2 != 0) then (
  K (.bool false) h6) else (
  bif ((sL3 : Int) != 512) then (
  K (.bool false) h6) else (
  bolelaw04_HeadBursts.k1 which1 at1 mask1 sA2 sL2 sA3 sL3 h6 K)))
def bolelaw04_HeadBursts.lo : Nat → List Nat × List (Nat × Ty) := fun n => match n with | 14 => ([2, 3, 13, 14, 15], [(16, .bool), (17, .int .i64)]) | _ => ([], [])
def bolelaw04_HeadBursts.od : Nat → Od := fun n => match n with | 17 => (.op 0 [] (.op 1 [] (.op 2 [] (.op 3 [] (.op 4 [] (.op 5 [] (.op 6 [] (.op 7 [] (.op 8 [] (.op 9 [] (.op 10 [] (.op 11 [] (.op 12 [] (.op 13 [] (.op 14 [] (.op 15 [] (.op 16 [] (.op 17 [] (.op 18 [] (.op 19 [] .nil)))))))))))))))))))) | 20 => (.op 0 [] (.op 1 [] (.op 2 [] (.op 3 [] (.op 4 [] (.op 6 [] (.op 7 [] (.op 5 [] (.op 8 [] (.op 9 [] .nil)))))))))) | _ => .nil
theorem bolelaw04_HeadBursts.eq (p1 : List Value) (which1 : Int) (at1 : Int) (mask1 : Int) (K : Value → Heap → Prop) (h : Heap) : fnX (cx bolelaw04_HeadBursts.lo bolelaw04_HeadBursts.od) Tryd.f6 (Tryd.f6.body.getD .skip) [.agg ⟨p1⟩, .int .i64 which1, .int .i64 at1, .int .u32 mask1] K h = bolelaw04_HeadBursts p1 which1 at1 mask1 K h := by kernel_rfl
theorem bolelaw04_HeadBursts.chk : fnOk (cx bolelaw04_HeadBursts.lo bolelaw04_HeadBursts.od) Tryd.f6 (Tryd.f6.body.getD .skip) 4 = true := by kernel_rfl
theorem bolelaw04_HeadBursts.ok {p1 : List Value} {which1 : Int} {at1 : Int} {mask1 : Int} {K : Value → Heap → Prop} {h : Heap} (hx : bolelaw04_HeadBursts p1 which1 at1 mask1 K h) : C.bolelaw04_HeadBursts p1 which1 at1 mask1 h K :=
  fn_to (cxOk _ _) Tryd.func6 (by kernel_rfl) bolelaw04_HeadBursts.chk (by rw [bolelaw04_HeadBursts.eq]; exact hx)

-- 7
def bolelaw04_HeadOwn.k1 (headsA1 : Option Addr) (headsL1 : Nat) (listsA1 : Option Addr) (listsL1 : Nat) (wasA1 : Option Addr) (wasL1 : Nat) (sA10 : Option Addr) (sL10 : Nat) (sC10 : Nat) (sA11 : Option Addr) (sL11 : Nat) (sC11 : Nat) (h23 : Heap) (K : Value → Heap → Prop) : Prop :=
  ∃ (I3 : Int → Heap → Prop) (M3 : Int → Heap → Nat), I3 0 h23 ∧
  ∀ (n5 : Int), ∀ h24 : Heap, I3 n5 h24 →
  bif (decide (n5 < (headsL1 : Int))) then (
  (0 ≤ n5 ∧ n5 < (headsL1 : Int)) ∧
  onSome headsA1 fun p8 =>
  ∃ (sA14 : Option Addr) (sL14 : Nat) (sC14 : Nat), cellOf h24 (Addr.add p8 (Int.toNat n5)) = some (.slice sA14 sL14 sC14) ∧
  ∃ (I4 : Int → Heap → Prop) (M4 : Int → Heap → Nat), I4 0 h24 ∧
  ∀ (n6 : Int), ∀ h25 : Heap, I4 n6 h25 →
  bif (decide (n6 < (sL14 : Int))) then (
  (0 ≤ n6 ∧ n6 < (sL14 : Int)) ∧
  onSome sA14 fun p9 =>
  Put (Addr.add p9 (Int.toNat n6)) (.int .u8 (IntKind.wrap .u8 ((IntKind.wrap .i64 (10 + n5))))) h25 fun h26 =>
  I4 (IntKind.wrap .i64 (n6 + 1)) h26 ∧ M4 (IntKind.wrap .i64 (n6 + 1)) h26 < M4 n6 h25) else (
  I3 (IntKind.wrap .i64 (n5 + 1)) h25 ∧ M3 (IntKind.wrap .i64 (n5 + 1)) h25 < M3 n5 h24)) else (
  ∃ (I5 : Int → Heap → Prop) (M5 : Int → Heap → Nat), I5 0 h24 ∧
  ∀ (n7 : Int), ∀ h27 : Heap, I5 n7 h27 →
  bif (decide (n7 < (listsL1 : Int))) then (
  (0 ≤ n7 ∧ n7 < (listsL1 : Int)) ∧
  onSome listsA1 fun p10 =>
  ∃ (sA15 : Option Addr) (sL15 : Nat) (sC15 : Nat), cellOf h27 (Addr.add p10 (Int.toNat n7)) = some (.slice sA15 sL15 sC15) ∧
  ∃ (I6 : Int → Heap → Prop) (M6 : Int → Heap → Nat), I6 0 h27 ∧
  ∀ (n8 : Int), ∀ h28 : Heap, I6 n8 h28 →
  bif (decide (n8 < (sL15 : Int))) then (
  (0 ≤ n8 ∧ n8 < (sL15 : Int)) ∧
  onSome sA15 fun p11 =>
  Put (Addr.add p11 (Int.toNat n8)) (.int .i64 (IntKind.wrap .i64 ((-10) - n7))) h28 fun h29 =>
  I6 (IntKind.wrap .i64 (n8 + 1)) h29 ∧ M6 (IntKind.wrap .i64 (n8 + 1)) h29 < M6 n8 h28) else (
  I5 (IntKind.wrap .i64 (n7 + 1)) h28 ∧ M5 (IntKind.wrap .i64 (n7 + 1)) h28 < M5 n7 h27)) else (
  ∃ (I7 : Option Addr → Nat → Nat → Int → Heap → Prop) (M7 : Option Addr → Nat → Nat → Int → Heap → Nat), I7 none 0 0 0 h27 ∧
  ∀ (longsA1 : Option Addr) (longsL1 : Nat) (longsC1 : Nat) (n9 : Int), ∀ h30 : Heap, I7 longsA1 longsL1 longsC1 n9 h30 →
  bif (decide (n9 < (headsL1 : Int))) then (
  (0 ≤ n9 ∧ n9 < (headsL1 : Int)) ∧
  onSome headsA1 fun p12 =>
  ∃ (sA16 : Option Addr) (sL16 : Nat) (sC16 : Nat), cellOf h30 (Addr.add p12 (Int.toNat n9)) = some (.slice sA16 sL16 sC16) ∧
  New [.int .u8 (IntKind.wrap .u8 ((IntKind.wrap .i64 (10 + n9)))), .int .u8 (IntKind.wrap .u8 ((IntKind.wrap .i64 (10 + n9))))] 5 h30 fun h31 =>
  ∃ new4 : List Value, List.length new4 = 2 * 1 ∧ SlCells h31 (some ⟨h30.size, 0, none⟩) new4 ∧ (∀ v ∈ new4, v.oneCell' = true) ∧
  AppendP ti5 5 sA16 sL16 sC16 2 new4 h31 fun sA17 sL17 sC17 h32 =>
  New [.slice sA17 sL17 sC17] 26 h32 fun h33 =>
  ∃ new5 : List Value, List.length new5 = 1 * 1 ∧ SlCells h33 (some ⟨h32.size, 0, none⟩) new5 ∧ (∀ v ∈ new5, v.oneCell' = true) ∧
  AppendP ti26 26 longsA1 longsL1 longsC1 1 new5 h33 fun sA18 sL18 sC18 h34 =>
  I7 sA18 sL18 sC18 (IntKind.wrap .i64 (n9 + 1)) h34 ∧ M7 sA18 sL18 sC18 (IntKind.wrap .i64 (n9 + 1)) h34 < M7 longsA1 longsL1 longsC1 n9 h30) else (
  ∃ (I8 : Option Addr → Nat → Nat → Int → Heap → Prop) (M8 : Option Addr → Nat → Nat → Int → Heap → Nat), I8 none 0 0 0 h30 ∧
  ∀ (longerA1 : Option Addr) (longerL1 : Nat) (longerC1 : Nat) (n10 : Int), ∀ h35 : Heap, I8 longerA1 longerL1 longerC1 n10 h35 →
  bif (decide (n10 < (listsL1 : Int))) then (
  (0 ≤ n10 ∧ n10 < (listsL1 : Int)) ∧
  onSome listsA1 fun p13 =>
  ∃ (sA19 : Option Addr) (sL19 : Nat) (sC19 : Nat), cellOf h35 (Addr.add p13 (Int.toNat n10)) = some (.slice sA19 sL19 sC19) ∧
  New [.int .i64 (IntKind.wrap .i64 ((-10) - n10)), .int .i64 (IntKind.wrap .i64 ((-10) - n10))] 3 h35 fun h36 =>
  ∃ new6 : List Value, List.length new6 = 2 * 1 ∧ SlCells h36 (some ⟨h35.size, 0, none⟩) new6 ∧ (∀ v ∈ new6, v.oneCell' = true) ∧
  AppendP ti3 3 sA19 sL19 sC19 2 new6 h36 fun sA20 sL20 sC20 h37 =>
  New [.slice sA20 sL20 sC20] 22 h37 fun h38 =>
  ∃ new7 : List Value, List.length new7 = 1 * 1 ∧ SlCells h38 (some ⟨h37.size, 0, none⟩) new7 ∧ (∀ v ∈ new7, v.oneCell' = true) ∧
  AppendP ti22 22 longerA1 longerL1 longerC1 1 new7 h38 fun sA21 sL21 sC21 h39 =>
  I8 sA21 sL21 sC21 (IntKind.wrap .i64 (n10 + 1)) h39 ∧ M8 sA21 sL21 sC21 (IntKind.wrap .i64 (n10 + 1)) h39 < M8 longerA1 longerL1 longerC1 n10 h35) else (
  ∃ (I9 : Int → Heap → Prop) (M9 : Int → Heap → Nat), I9 0 h35 ∧
  ∀ (n11 : Int), ∀ h40 : Heap, I9 n11 h40 →
  bif (decide (n11 < (longsL1 : Int))) then (
  (0 ≤ n11 ∧ n11 < (longsL1 : Int)) ∧
  onSome longsA1 fun p14 =>
  ∃ (sA22 : Option Addr) (sL22 : Nat) (sC22 : Nat), cellOf h40 (Addr.add p14 (Int.toNat n11)) = some (.slice sA22 sL22 sC22) ∧
  ∃ (I10 : Int → Heap → Prop) (M10 : Int → Heap → Nat), I10 0 h40 ∧
  ∀ (n12 : Int), ∀ h41 : Heap, I10 n12 h41 →
  bif (decide (n12 < (sL22 : Int))) then (
  (0 ≤ n12 ∧ n12 < (sL22 : Int)) ∧
  onSome sA22 fun p15 =>
  ∃ (n13 : Int), cellOf h41 (Addr.add p15 (Int.toNat n12)) = some (.int .u8 n13) ∧
  bif (n13 != (IntKind.wrap .u8 ((IntKind.wrap .i64 (10 + n11))))) then (
  K (.bool false) h41) else (
  (0 ≤ n11 ∧ n11 < (headsL1 : Int)) ∧
  onSome headsA1 fun p16 =>
  ∃ (sA23 : Option Addr) (sL23 : Nat) (sC23 : Nat), cellOf h41 (Addr.add p16 (Int.toNat n11)) = some (.slice sA23 sL23 sC23) ∧
  bif (decide (n12 < (sL23 : Int))) then (
  (0 ≤ n11 ∧ n11 < (headsL1 : Int)) ∧
  onSome headsA1 fun p17 =>
  ∃ (sA24 : Option Addr) (sL24 : Nat) (sC24 : Nat), cellOf h41 (Addr.add p17 (Int.toNat n11)) = some (.slice sA24 sL24 sC24) ∧
  (0 ≤ n12 ∧ n12 < (sL24 : Int)) ∧
  onSome sA24 fun p18 =>
  ∃ (n14 : Int), cellOf h41 (Addr.add p18 (Int.toNat n12)) = some (.int .u8 n14) ∧
  bif (n14 != n13) then (
  K (.bool false) h41) else (
  I10 (IntKind.wrap .i64 (n12 + 1)) h41 ∧ M10 (IntKind.wrap .i64 (n12 + 1)) h41 < M10 n12 h41)) else (
  I10 (IntKind.wrap .i64 (n12 + 1)) h41 ∧ M10 (IntKind.wrap .i64 (n12 + 1)) h41 < M10 n12 h41))) else (
  I9 (IntKind.wrap .i64 (n11 + 1)) h41 ∧ M9 (IntKind.wrap .i64 (n11 + 1)) h41 < M9 n11 h40)) else (
  ∃ (I11 : Int → Heap → Prop) (M11 : Int → Heap → Nat), I11 0 h40 ∧
  ∀ (n15 : Int), ∀ h42 : Heap, I11 n15 h42 →
  bif (decide (n15 < (longerL1 : Int))) then (
  (0 ≤ n15 ∧ n15 < (longerL1 : Int)) ∧
  onSome longerA1 fun p19 =>
  ∃ (sA25 : Option Addr) (sL25 : Nat) (sC25 : Nat), cellOf h42 (Addr.add p19 (Int.toNat n15)) = some (.slice sA25 sL25 sC25) ∧
  ∃ (I12 : Int → Heap → Prop) (M12 : Int → Heap → Nat), I12 0 h42 ∧
  ∀ (n16 : Int), ∀ h43 : Heap, I12 n16 h43 →
  bif (decide (n16 < (sL25 : Int))) then (
  (0 ≤ n16 ∧ n16 < (sL25 : Int)) ∧
  onSome sA25 fun p20 =>
  ∃ (n17 : Int), cellOf h43 (Addr.add p20 (Int.toNat n16)) = some (.int .i64 n17) ∧
  bif (n17 != (IntKind.wrap .i64 ((-10) - n15))) then (
  K (.bool false) h43) else (
  (0 ≤ n15 ∧ n15 < (listsL1 : Int)) ∧
  onSome listsA1 fun p21 =>
  ∃ (sA26 : Option Addr) (sL26 : Nat) (sC26 : Nat), cellOf h43 (Addr.add p21 (Int.toNat n15)) = some (.slice sA26 sL26 sC26) ∧
  bif (decide (n16 < (sL26 : Int))) then (
  (0 ≤ n15 ∧ n15 < (listsL1 : Int)) ∧
  onSome listsA1 fun p22 =>
  ∃ (sA27 : Option Addr) (sL27 : Nat) (sC27 : Nat), cellOf h43 (Addr.add p22 (Int.toNat n15)) = some (.slice sA27 sL27 sC27) ∧
  (0 ≤ n16 ∧ n16 < (sL27 : Int)) ∧
  onSome sA27 fun p23 =>
  ∃ (n18 : Int), cellOf h43 (Addr.add p23 (Int.toNat n16)) = some (.int .i64 n18) ∧
  bif (n18 != n17) then (
  K (.bool false) h43) else (
  I12 (IntKind.wrap .i64 (n16 + 1)) h43 ∧ M12 (IntKind.wrap .i64 (n16 + 1)) h43 < M12 n16 h43)) else (
  I12 (IntKind.wrap .i64 (n16 + 1)) h43 ∧ M12 (IntKind.wrap .i64 (n16 + 1)) h43 < M12 n16 h43))) else (
  I11 (IntKind.wrap .i64 (n15 + 1)) h43 ∧ M11 (IntKind.wrap .i64 (n15 + 1)) h43 < M11 n15 h42)) else (
  C.head_Make sA10 sL10 sC10 sA11 sL11 sC11 h42 fun r9 h44 =>
  ∃ (sA28 : Option Addr) (sL28 : Nat) (sC28 : Nat) (n19 : Int), r9 = .tuple #[.slice sA28 sL28 sC28, .int .i64 n19] ∧
  C.bolelaw04_num n19 h44 fun r10 h45 =>
  ∃ (n20 : Int), r10 = .int .i64 n20 ∧
  bif (n20 == 0) then (
  ∃ bs2 : List UInt8, StrAt h45 sA28 sL28 bs2 ∧
  (0 ≤ (0 : Int) ∧ 0 < (wasL1 : Int)) ∧
  onSome wasA1 fun p24 =>
  ∃ (s4 : ByteArray), cellOf h45 (Addr.add p24 (Int.toNat 0)) = some (.string s4) ∧
  bif ((mkStr bs2).toList == s4.toList) then (
  (0 ≤ (1 : Int) ∧ 1 < (wasL1 : Int)) ∧
  onSome wasA1 fun p25 =>
  ∃ (s5 : ByteArray), cellOf h45 (Addr.add p25 (Int.toNat 1)) = some (.string s5) ∧
  C.head_Empty  h45 fun r11 h46 =>
  ∃ (sA29 : Option Addr) (sL29 : Nat) (sC29 : Nat), r11 = .slice sA29 sL29 sC29 ∧
  (cellOf h46 (Addr.add p25 (Int.toNat 1)) = some (.string s5)) ∧
  ∃ bs3 : List UInt8, StrAt h46 sA29 sL29 bs3 ∧
  K (.bool ((mkStr bs3).toList == s5.toList)) h46) else (
  K (.bool false) h45)) else (
  K (.bool false) h45)))))))
def bolelaw04_HeadOwn (p1 : List Value) (q1 : List Value) (K : Value → Heap → Prop) (h1 : Heap) : Prop :=
  New p1 43 h1 fun h2 =>
  New q1 43 h2 fun h3 =>
  C.bolelaw04_known  h3 fun r1 h4 =>
  ∃ (b1 : Bool), r1 = .bool b1 ∧
  bif (!b1) then (
  K (.bool false) h4) else (
  ∃ cs1 : List Value, List.length cs1 = 2 ∧ Cells h4 ⟨h1.size, 0, none⟩ cs1 ∧
  ∃ cs2 : List Value, List.length cs2 = 2 ∧ Cells h4 ⟨h2.size, 0, none⟩ cs2 ∧
  ∃ cs3 : List Value, List.length cs3 = 2 ∧ Cells h4 ⟨h1.size, 0, none⟩ cs3 ∧
  List.length (cs1 : List Value) = 2 ∧
  List.length (cs2 : List Value) = 2 ∧
  List.length (cs3 : List Value) = 2 ∧
  New (cs1 ++ (cs2 ++ cs3)) 43 h4 fun h5 =>
  ∃ (I1 : Option Addr → Nat → Nat → Option Addr → Nat → Nat → Int → Heap → Prop) (M1 : Option Addr → Nat → Nat → Option Addr → Nat → Nat → Int → Heap → Nat), I1 none 0 0 none 0 0 0 h5 ∧
  ∀ (headsA1 : Option Addr) (headsL1 : Nat) (headsC1 : Nat) (listsA1 : Option Addr) (listsL1 : Nat) (listsC1 : Nat) (n1 : Int), ∀ h6 : Heap, I1 headsA1 headsL1 headsC1 listsA1 listsL1 listsC1 n1 h6 →
  bif (decide (n1 < (3 : Int))) then (
  (0 ≤ n1 ∧ n1 < (3 : Int)) ∧
  ∃ cs4 : List Value, List.length cs4 = 2 ∧ Cells h6 (Addr.add ⟨h4.size, 0, none⟩ ((Int.toNat n1) * 2)) cs4 ∧
  NewRow z43 43 cs4 2 h6 fun h8 =>
  ∃ cs5 : List Value, List.length cs5 = 2 ∧ Cells h8 ⟨h6.size, 0, none⟩ cs5 ∧
  C.bolelaw04_Plan_made cs5 h8 fun r2 h9 =>
  ∃ (sA1 : Option Addr) (sL1 : Nat) (sC1 : Nat) (sA2 : Option Addr) (sL2 : Nat) (sC2 : Nat), r2 = .tuple #[.slice sA1 sL1 sC1, .slice sA2 sL2 sC2] ∧
  C.head_Make sA1 sL1 sC1 sA2 sL2 sC2 h9 fun r3 h10 =>
  ∃ (sA3 : Option Addr) (sL3 : Nat) (sC3 : Nat) (n2 : Int), r3 = .tuple #[.slice sA3 sL3 sC3, .int .i64 n2] ∧
  C.head_Nums sA3 sL3 sC3 16384 h10 fun r4 h11 =>
  ∃ (sA4 : Option Addr) (sL4 : Nat) (sC4 : Nat) (n3 : Int), r4 = .tuple #[.slice sA4 sL4 sC4, .int .i64 n3] ∧
  C.head_Empty  h11 fun r5 h12 =>
  ∃ (sA5 : Option Addr) (sL5 : Nat) (sC5 : Nat), r5 = .slice sA5 sL5 sC5 ∧
  New [.slice sA3 sL3 sC3, .slice sA5 sL5 sC5] 26 h12 fun h13 =>
  ∃ new1 : List Value, List.length new1 = 2 * 1 ∧ SlCells h13 (some ⟨h12.size, 0, none⟩) new1 ∧ (∀ v ∈ new1, v.oneCell' = true) ∧
  AppendP ti26 26 headsA1 headsL1 headsC1 2 new1 h13 fun sA6 sL6 sC6 h14 =>
  New [.slice sA4 sL4 sC4] 22 h14 fun h15 =>
  ∃ new2 : List Value, List.length new2 = 1 * 1 ∧ SlCells h15 (some ⟨h14.size, 0, none⟩) new2 ∧ (∀ v ∈ new2, v.oneCell' = true) ∧
  AppendP ti22 22 listsA1 listsL1 listsC1 1 new2 h15 fun sA7 sL7 sC7 h16 =>
  I1 sA6 sL6 sC6 sA7 sL7 sC7 (IntKind.wrap .i64 (n1 + 1)) h16 ∧ M1 sA6 sL6 sC6 sA7 sL7 sC7 (IntKind.wrap .i64 (n1 + 1)) h16 < M1 headsA1 headsL1 headsC1 listsA1 listsL1 listsC1 n1 h6) else (
  ∃ (I2 : Option Addr → Nat → Nat → Int → Heap → Prop) (M2 : Option Addr → Nat → Nat → Int → Heap → Nat), I2 none 0 0 0 h6 ∧
  ∀ (wasA1 : Option Addr) (wasL1 : Nat) (wasC1 : Nat) (n4 : Int), ∀ h17 : Heap, I2 wasA1 wasL1 wasC1 n4 h17 →
  bif (decide (n4 < (headsL1 : Int))) then (
  (0 ≤ n4 ∧ n4 < (headsL1 : Int)) ∧
  onSome headsA1 fun p2 =>
  ∃ (sA8 : Option Addr) (sL8 : Nat) (sC8 : Nat), cellOf h17 (Addr.add p2 (Int.toNat n4)) = some (.slice sA8 sL8 sC8) ∧
  ∃ bs1 : List UInt8, StrAt h17 sA8 sL8 bs1 ∧
  New [.string (mkStr bs1)] 9 h17 fun h18 =>
  ∃ new3 : List Value, List.length new3 = 1 * 1 ∧ SlCells h18 (some ⟨h17.size, 0, none⟩) new3 ∧ (∀ v ∈ new3, v.oneCell' = true) ∧
  AppendP ti9 9 wasA1 wasL1 wasC1 1 new3 h18 fun sA9 sL9 sC9 h19 =>
  I2 sA9 sL9 sC9 (IntKind.wrap .i64 (n4 + 1)) h19 ∧ M2 sA9 sL9 sC9 (IntKind.wrap .i64 (n4 + 1)) h19 < M2 wasA1 wasL1 wasC1 n4 h17) else (
  ∃ cs6 : List Value, List.length cs6 = 2 ∧ Cells h17 ⟨h1.size, 0, none⟩ cs6 ∧
  C.bolelaw04_Plan_made cs6 h17 fun r6 h20 =>
  ∃ (sA10 : Option Addr) (sL10 : Nat) (sC10 : Nat) (sA11 : Option Addr) (sL11 : Nat) (sC11 : Nat), r6 = .tuple #[.slice sA10 sL10 sC10, .slice sA11 sL11 sC11] ∧
  (0 ≤ (0 : Int) ∧ 0 < (wasL1 : Int)) ∧
  onSome wasA1 fun p3 =>
  ∃ (s1 : ByteArray), cellOf h20 (Addr.add p3 (Int.toNat 0)) = some (.string s1) ∧
  bif ((s1.size : Int) != 512) then (
  K (.bool false) h20) else (
  (0 ≤ (0 : Int) ∧ 0 < (wasL1 : Int)) ∧
  onSome wasA1 fun p4 =>
  ∃ (s2 : ByteArray), cellOf h20 (Addr.add p4 (Int.toNat 0)) = some (.string s2) ∧
  (0 ≤ (4 : Int) ∧ 4 < (wasL1 : Int)) ∧
  onSome wasA1 fun p5 =>
  ∃ (s3 : ByteArray), cellOf h20 (Addr.add p5 (Int.toNat 4)) = some (.string s3) ∧
  bif (!(s2.toList == s3.toList)) then (
  K (.bool false) h20) else (
  (0 ≤ (0 : Int) ∧ 0 < (listsL1 : Int)) ∧
  onSome listsA1 fun p6 =>
  ∃ (sA12 : Option Addr) (sL12 : Nat) (sC12 : Nat), cellOf h20 (Addr.add p6 (Int.toNat 0)) = some (.slice sA12 sL12 sC12) ∧
  C.bolelaw04_same sA12 sL12 sC12 sA10 sL10 sC10 h20 fun r7 h21 =>
  ∃ (b2 : Bool), r7 = .bool b2 ∧
  bif (!b2) then (
  K (.bool false) h21) else (
  (0 ≤ (2 : Int) ∧ 2 < (listsL1 : Int)) ∧
  onSome listsA1 fun p7 =>
  ∃ (sA13 : Option Addr) (sL13 : Nat) (sC13 : Nat), cellOf h21 (Addr.add p7 (Int.toNat 2)) = some (.slice sA13 sL13 sC13) ∧
  C.bolelaw04_same sA13 sL13 sC13 sA10 sL10 sC10 h21 fun r8 h22 =>
  ∃ (b3 : Bool), r8 = .bool b3 ∧
  bif (!b3) then (
  K (.bool false) h22) else (
  bolelaw04_HeadOwn.k1 headsA1 headsL1 listsA1 listsL1 wasA1 wasL1 sA10 sL10 sC10 sA11 sL11 sC11 h22 K)))))))
def bolelaw04_HeadOwn.lo : Nat → List Nat × List (Nat × Ty) := fun n => match n with | 6 => ([2, 47, 48], [(5, .slice), (6, .slice), (49, .int .i64)]) | 15 => ([2, 5, 6, 79, 80], [(15, .slice), (81, .int .i64)]) | 23 => ([5, 6, 15, 18, 19, 126, 127], [(128, .int .i64)]) | 26 => ([5, 6, 15, 18, 19, 20, 21, 126, 127, 128, 134], [(135, .int .i64)]) | 32 => ([5, 6, 15, 18, 19, 146, 147], [(148, .int .i64)]) | 35 => ([5, 6, 15, 18, 19, 23, 24, 146, 147, 148, 154], [(155, .int .i64)]) | 43 => ([5, 6, 15, 18, 19, 27, 165, 166], [(26, .slice), (167, .int .i64)]) | 48 => ([5, 6, 15, 18, 19, 26, 185, 186], [(27, .slice), (187, .int .i64)]) | 53 => ([5, 6, 15, 18, 19, 27, 203, 204], [(205, .int .i64)]) | 56 => ([5, 6, 15, 18, 19, 27, 32, 203, 204, 205, 210, 211], [(212, .int .i64)]) | 63 => ([6, 15, 18, 19, 244, 245], [(246, .int .i64)]) | 66 => ([6, 15, 18, 19, 36, 244, 245, 246, 251, 252], [(253, .int .i64)]) | _ => ([], [])
def bolelaw04_HeadOwn.od : Nat → Od := fun n => match n with | 20 => (.op 0 [] (.op 1 [] (.op 2 [] (.op 3 [] (.op 4 [] (.op 5 [] (.op 6 [] (.op 7 [] (.op 8 [] (.op 9 [] (.op 10 [] (.op 11 [] (.op 12 [] (.op 13 [] (.op 14 [] (.op 15 [] (.op 16 [] (.op 17 [] (.op 18 [] (.op 19 [] (.op 20 [] (.op 21 [] (.op 22 [] (.op 23 [] (.op 24 [] (.op 25 [] (.op 26 [] (.op 27 [] (.op 28 [] (.op 29 [] .nil)))))))))))))))))))))))))))))) | 73 => (.op 0 [] (.op 1 [] (.op 2 [] (.op 3 [] (.op 4 [] (.op 5 [] (.op 6 [] (.op 7 [] (.op 8 [] (.op 9 [] (.op 10 [] (.op 11 [] (.op 14 [] (.op 15 [] (.op 16 [] (.op 12 [16] (.op 13 [] (.op 17 [] (.op 18 [] (.op 19 [] .nil)))))))))))))))))))) | _ => .nil
theorem bolelaw04_HeadOwn.eq (p1 : List Value) (q1 : List Value) (K : Value → Heap → Prop) (h : Heap) : fnX (cx bolelaw04_HeadOwn.lo bolelaw04_HeadOwn.od) Tryd.f7 (Tryd.f7.body.getD .skip) [.agg ⟨p1⟩, .agg ⟨q1⟩] K h = bolelaw04_HeadOwn p1 q1 K h := by kernel_rfl
theorem bolelaw04_HeadOwn.chk : fnOk (cx bolelaw04_HeadOwn.lo bolelaw04_HeadOwn.od) Tryd.f7 (Tryd.f7.body.getD .skip) 2 = true := by kernel_rfl
theorem bolelaw04_HeadOwn.ok {p1 : List Value} {q1 : List Value} {K : Value → Heap → Prop} {h : Heap} (hx : bolelaw04_HeadOwn p1 q1 K h) : C.bolelaw04_HeadOwn p1 q1 h K :=
  fn_to (cxOk _ _) Tryd.func7 (by kernel_rfl) bolelaw04_HeadOwn.chk (by rw [bolelaw04_HeadOwn.eq]; exact hx)

-- 8
def bolelaw11_InodeBytes.k3 (h17 : Heap) (h21 : Heap) (K : Value → Heap → Prop) : Prop :=
  ∃ (I2 : Int → Heap → Prop) (M2 : Int → Heap → Nat), I2 0 h21 ∧
  ∀ (i2 : Int), ∀ h22 : Heap, I2 i2 h22 →
  bif (decide (i2 < (3 : Int))) then (
  New [] 5 h22 fun h23 =>
  (0 ≤ i2 ∧ i2 < (3 : Int)) ∧
  ∃ (sA10 : Option Addr) (sL10 : Nat) (sC10 : Nat), cellOf h23 (Addr.add ⟨h17.size, 0, none⟩ (Int.toNat i2)) = some (.slice sA10 sL10 sC10) ∧
  ∃ new5 : List Value, List.length new5 = sL10 * 1 ∧ SlCells h23 sA10 new5 ∧ (∀ v ∈ new5, v.oneCell' = true) ∧
  AppendP ti5 5 (some ⟨h22.size, 0, none⟩) 0 0 sL10 new5 h23 fun sA11 sL11 sC11 h24 =>
  New [.int .u8 77] 5 h24 fun h25 =>
  ∃ new6 : List Value, List.length new6 = 1 * 1 ∧ SlCells h25 (some ⟨h24.size, 0, none⟩) new6 ∧ (∀ v ∈ new6, v.oneCell' = true) ∧
  AppendP ti5 5 sA11 sL11 sC11 1 new6 h25 fun sA12 sL12 sC12 h26 =>
  (0 ≤ i2 ∧ i2 < (3 : Int)) ∧
  ∃ (sA13 : Option Addr) (sL13 : Nat) (sC13 : Nat), cellOf h26 (Addr.add ⟨h17.size, 0, none⟩ (Int.toNat i2)) = some (.slice sA13 sL13 sC13) ∧
  C.boleref11_Decode sA13 sL13 sC13 h26 fun r6 h27 =>
  ∃ (cs4 : List Value) (n8 : Int), r6 = .tuple #[.agg ⟨cs4⟩, .int .i64 n8] ∧
  NewRow z58 58 cs4 15 h27 fun h29 =>
  (0 ≤ i2 ∧ i2 < (3 : Int)) ∧
  ∃ (sA14 : Option Addr) (sL14 : Nat) (sC14 : Nat), cellOf h29 (Addr.add ⟨h17.size, 0, none⟩ (Int.toNat i2)) = some (.slice sA14 sL14 sC14) ∧
  (0 ≤ (sL14 : Int) ∧ (sL14 : Int) ≤ (sC12 : Int)) ∧
  C.inode_Decode sA12 (Int.toNat (sL14 : Int)) sC12 h29 fun r7 h30 =>
  ∃ (cs5 : List Value) (n9 : Int), r7 = .tuple #[.agg ⟨cs5⟩, .int .i64 n9] ∧
  NewRow z58 58 cs5 15 h30 fun h32 =>
  ∃ cs6 : List Value, List.length cs6 = 15 ∧ Cells h32 ⟨h30.size, 0, none⟩ cs6 ∧
  ∃ cs7 : List Value, List.length cs7 = 15 ∧ Cells h32 ⟨h27.size, 0, none⟩ cs7 ∧
  pairsOk [(.int .i64), (.int .i64), (.int .i64), (.int .i64), (.int .i64), (.int .i64), (.int .i64), (.int .i64), (.int .i64), (.int .i64), (.int .i64), (.int .i64), (.int .i64), (.int .i64), (.int .i64)] cs6 cs7 = true ∧
  bif (!(cellsEq cs6 cs7)) then (
  K (.bool false) h32) else (
  bif (n9 != n8) then (
  K (.bool false) h32) else (
  ∃ bs7 : List UInt8, StrAt h32 sA12 sL12 bs7 ∧
  (0 ≤ i2 ∧ i2 < (3 : Int)) ∧
  ∃ (sA15 : Option Addr) (sL15 : Nat) (sC15 : Nat), cellOf h32 (Addr.add ⟨h17.size, 0, none⟩ (Int.toNat i2)) = some (.slice sA15 sL15 sC15) ∧
  ∃ bs8 : List UInt8, StrAt h32 sA15 sL15 bs8 ∧
  (((mkStr bs8).size + (mkStr [77]).size : Nat) : Int) ≤ 9223372036854775807 ∧
  bif (!((mkStr bs7).toList == ((mkStr bs8) ++ (mkStr [77])).toList)) then (
  K (.bool false) h32) else (
  I2 (IntKind.wrap .i64 (i2 + 1)) h32 ∧ M2 (IntKind.wrap .i64 (i2 + 1)) h32 < M2 i2 h22)))) else (
  K (.bool true) h22)
def bolelaw11_InodeBytes.k2 (bA1 : Option Addr) (bL1 : Nat) (h2 : Heap) (sA1 : Option Addr) (sL1 : Nat) (h11 : Heap) (K : Value → Heap → Prop) : Prop :=
  New [] 5 h11 fun h12 =>
  ∃ new2 : List Value, List.length new2 = bL1 * 1 ∧ SlCells h12 bA1 new2 ∧ (∀ v ∈ new2, v.oneCell' = true) ∧
  AppendP ti5 5 (some ⟨h11.size, 0, none⟩) 0 0 bL1 new2 h12 fun sA5 sL5 sC5 h13 =>
  New [] 5 h13 fun h14 =>
  ∃ new3 : List Value, List.length new3 = sL1 * 1 ∧ SlCells h14 sA1 new3 ∧ (∀ v ∈ new3, v.oneCell' = true) ∧
  AppendP ti5 5 (some ⟨h13.size, 0, none⟩) 0 0 sL1 new3 h14 fun sA6 sL6 sC6 h15 =>
  New [] 5 h15 fun h16 =>
  ∃ new4 : List Value, List.length new4 = sL1 * 1 ∧ SlCells h16 sA1 new4 ∧ (∀ v ∈ new4, v.oneCell' = true) ∧
  AppendP ti5 5 (some ⟨h15.size, 0, none⟩) 0 0 sL1 new4 h16 fun sA7 sL7 sC7 h17 =>
  New [.slice sA5 sL5 sC5, .slice sA6 sL6 sC6, .slice sA7 sL7 sC7] 26 h17 fun h18 =>
  bif ((sL1 : Int) == 64) then (
  (0 ≤ (0 : Int) ∧ 0 < (2 : Int)) ∧
  ∃ (n4 : Int), cellOf h18 (Addr.add ⟨h2.size, 0, none⟩ (Int.toNat 0)) = some (.int .i64 n4) ∧
  C.bolelaw11_mod n4 64 h18 fun r5 h19 =>
  ∃ (n5 : Int), r5 = .int .i64 n5 ∧
  (0 ≤ (2 : Int) ∧ 2 < (3 : Int)) ∧
  ∃ (sA8 : Option Addr) (sL8 : Nat) (sC8 : Nat), cellOf h19 (Addr.add ⟨h17.size, 0, none⟩ (Int.toNat 2)) = some (.slice sA8 sL8 sC8) ∧
  (0 ≤ (2 : Int) ∧ 2 < (3 : Int)) ∧
  ∃ (sA9 : Option Addr) (sL9 : Nat) (sC9 : Nat), cellOf h19 (Addr.add ⟨h17.size, 0, none⟩ (Int.toNat 2)) = some (.slice sA9 sL9 sC9) ∧
  (0 ≤ n5 ∧ n5 < (sL9 : Int)) ∧
  onSome sA9 fun p2 =>
  ∃ (n6 : Int), cellOf h19 (Addr.add p2 (Int.toNat n5)) = some (.int .u8 n6) ∧
  (0 ≤ (1 : Int) ∧ 1 < (2 : Int)) ∧
  ∃ (n7 : Int), cellOf h19 (Addr.add ⟨h2.size, 0, none⟩ (Int.toNat 1)) = some (.int .i64 n7) ∧
  (0 ≤ n5 ∧ n5 < (sL8 : Int)) ∧
  onSome sA8 fun p3 =>
  Put (Addr.add p3 (Int.toNat n5)) (.int .u8 (bitsI .xor .u8 n6 (IntKind.wrap .u8 (n7)))) h19 fun h20 =>
  bolelaw11_InodeBytes.k3 h17 h20 K) else (
  bolelaw11_InodeBytes.k3 h17 h18 K)
def bolelaw11_InodeBytes.k1 (bA1 : Option Addr) (bL1 : Nat) (h2 : Heap) (sA1 : Option Addr) (sL1 : Nat) (sA2 : Option Addr) (sL2 : Nat) (h7 : Heap) (sA3 : Option Addr) (sL3 : Nat) (sC3 : Nat) (K : Value → Heap → Prop) : Prop :=
  ∃ (I1 : Int → Heap → Prop) (M1 : Int → Heap → Nat), I1 0 h7 ∧
  ∀ (i1 : Int), ∀ h8 : Heap, I1 i1 h8 →
  bif (decide (i1 < (sL3 : Int))) then (
  (0 ≤ i1 ∧ i1 < (sL3 : Int)) ∧
  onSome sA3 fun p1 =>
  Put (Addr.add p1 (Int.toNat i1)) (.int .u8 99) h8 fun h9 =>
  I1 (IntKind.wrap .i64 (i1 + 1)) h9 ∧ M1 (IntKind.wrap .i64 (i1 + 1)) h9 < M1 i1 h8) else (
  New [.int .u8 99] 5 h8 fun h10 =>
  ∃ new1 : List Value, List.length new1 = 1 * 1 ∧ SlCells h10 (some ⟨h8.size, 0, none⟩) new1 ∧ (∀ v ∈ new1, v.oneCell' = true) ∧
  AppendP ti5 5 sA3 sL3 sC3 1 new1 h10 fun sA4 sL4 sC4 h11 =>
  ∃ bs5 : List UInt8, StrAt h11 sA2 sL2 bs5 ∧
  ∃ bs6 : List UInt8, StrAt h11 sA1 sL1 bs6 ∧
  bif (!((mkStr bs5).toList == (mkStr bs6).toList)) then (
  K (.bool false) h11) else (
  bif ((sL4 : Int) != (IntKind.wrap .i64 ((sL1 : Int) + 1))) then (
  K (.bool false) h11) else (
  bolelaw11_InodeBytes.k2 bA1 bL1 h2 sA1 sL1 h11 K)))
def bolelaw11_InodeBytes (x1 : List Value) (bA1 : Option Addr) (bL1 : Nat) (bC1 : Nat) (turn1 : List Value) (K : Value → Heap → Prop) (h1 : Heap) : Prop :=
  New x1 58 h1 fun h2 =>
  New turn1 59 h2 fun h3 =>
  C.bolelaw11_fixed  h3 fun r1 h4 =>
  ∃ (b1 : Bool), r1 = .bool b1 ∧
  bif (!b1) then (
  K (.bool false) h4) else (
  ∃ cs1 : List Value, List.length cs1 = 15 ∧ Cells h4 ⟨h1.size, 0, none⟩ cs1 ∧
  C.boleref11_Encode cs1 h4 fun r2 h5 =>
  ∃ (sA1 : Option Addr) (sL1 : Nat) (sC1 : Nat) (n1 : Int), r2 = .tuple #[.slice sA1 sL1 sC1, .int .i64 n1] ∧
  ∃ cs2 : List Value, List.length cs2 = 15 ∧ Cells h5 ⟨h1.size, 0, none⟩ cs2 ∧
  C.inode_Encode cs2 h5 fun r3 h6 =>
  ∃ (sA2 : Option Addr) (sL2 : Nat) (sC2 : Nat) (n2 : Int), r3 = .tuple #[.slice sA2 sL2 sC2, .int .i64 n2] ∧
  ∃ cs3 : List Value, List.length cs3 = 15 ∧ Cells h6 ⟨h1.size, 0, none⟩ cs3 ∧
  C.inode_Encode cs3 h6 fun r4 h7 =>
  ∃ (sA3 : Option Addr) (sL3 : Nat) (sC3 : Nat) (n3 : Int), r4 = .tuple #[.slice sA3 sL3 sC3, .int .i64 n3] ∧
  bif (n2 != n1) then (
  K (.bool false) h7) else (
  bif (n3 != n1) then (
  K (.bool false) h7) else (
  ∃ bs1 : List UInt8, StrAt h7 sA2 sL2 bs1 ∧
  ∃ bs2 : List UInt8, StrAt h7 sA1 sL1 bs2 ∧
  bif (!((mkStr bs1).toList == (mkStr bs2).toList)) then (
  K (.bool false) h7) else (
  ∃ bs3 : List UInt8, StrAt h7 sA3 sL3 bs3 ∧
  ∃ bs4 : List UInt8, StrAt h7 sA1 sL1 bs4 ∧
  bif (!((mkStr bs3).toList == (mkStr bs4).toList)) then (
  K (.bool false) h7) else (
  bolelaw11_InodeBytes.k1 bA1 bL1 h2 sA1 sL1 sA2 sL2 h7 sA3 sL3 sC3 K)))))
def bolelaw11_InodeBytes.lo : Nat → List Nat × List (Nat × Ty) := fun n => match n with | 9 => ([1, 5, 7, 9, 11], [(13, .int .i64)]) | 20 => ([15], [(17, .int .i64)]) | _ => ([], [])
def bolelaw11_InodeBytes.od : Nat → Od := fun n => match n with | 18 => (.op 0 [] (.op 1 [] (.op 2 [] (.op 3 [] (.op 4 [] (.op 5 [] (.op 6 [] (.op 7 [] (.op 8 [] (.op 9 [] (.op 10 [] (.op 11 [] (.op 12 [] (.op 13 [] (.op 14 [] (.op 15 [] .nil)))))))))))))))) | 25 => (.op 0 [] (.op 1 [] (.op 2 [] (.op 3 [] (.op 4 [] (.op 5 [] (.op 6 [] (.op 7 [] (.op 8 [] (.op 9 [] (.op 10 [] (.op 11 [] (.op 12 [] (.op 13 [] (.op 14 [] (.op 15 [] (.op 16 [] (.op 17 [] (.op 18 [] .nil))))))))))))))))))) | _ => .nil
theorem bolelaw11_InodeBytes.eq (x1 : List Value) (bA1 : Option Addr) (bL1 : Nat) (bC1 : Nat) (turn1 : List Value) (K : Value → Heap → Prop) (h : Heap) : fnX (cx bolelaw11_InodeBytes.lo bolelaw11_InodeBytes.od) Tryd.f8 (Tryd.f8.body.getD .skip) [.agg ⟨x1⟩, .slice bA1 bL1 bC1, .agg ⟨turn1⟩] K h = bolelaw11_InodeBytes x1 bA1 bL1 bC1 turn1 K h := by kernel_rfl
theorem bolelaw11_InodeBytes.chk : fnOk (cx bolelaw11_InodeBytes.lo bolelaw11_InodeBytes.od) Tryd.f8 (Tryd.f8.body.getD .skip) 3 = true := by kernel_rfl
theorem bolelaw11_InodeBytes.ok {x1 : List Value} {bA1 : Option Addr} {bL1 : Nat} {bC1 : Nat} {turn1 : List Value} {K : Value → Heap → Prop} {h : Heap} (hx : bolelaw11_InodeBytes x1 bA1 bL1 bC1 turn1 K h) : C.bolelaw11_InodeBytes x1 bA1 bL1 bC1 turn1 h K :=
  fn_to (cxOk _ _) Tryd.func8 (by kernel_rfl) bolelaw11_InodeBytes.chk (by rw [bolelaw11_InodeBytes.eq]; exact hx)
end Go.Proofs.YtnlmieklakolkaaDoor.W
