/-
  WHAT THE FUNCTIONS COMPUTE, as formulas; each held against the loaded code by the kernel. Written by program (gen.py).
-/
import Derived.Test.YtgpkcakanieodaaDoorTab
namespace Go.Proofs.YtgpkcakanieodaaDoor.W
open Go Go.Proofs Go.Proofs.YtgpkcakanieodaaDoor.Wx
-- 3
def bolelaw14_SlotsPlays (bA1 : Option Addr) (bL1 : Nat) (bC1 : Nat) (scriptA1 : Option Addr) (scriptL1 : Nat) (scriptC1 : Nat) (K : Value → Heap → Prop) (h1 : Heap) : Prop :=
  C.bolelaw14_fixed  h1 fun r1 h2 =>
  ∃ (b1 : Bool), r1 = .bool b1 ∧
  bif (!b1) then (
  K (.bool false) h2) else (
  New [] 5 h2 fun h3 =>
  ∃ new1 : List Value, List.length new1 = bL1 * 1 ∧ SlCells h3 bA1 new1 ∧ (∀ v ∈ new1, v.oneCell' = true) ∧
  AppendP ti5 5 (some ⟨h2.size, 0, none⟩) 0 0 bL1 new1 h3 fun sA1 sL1 sC1 h4 =>
  New [.int .u8 77, .int .u8 78, .int .u8 79] 5 h4 fun h5 =>
  ∃ new2 : List Value, List.length new2 = 3 * 1 ∧ SlCells h5 (some ⟨h4.size, 0, none⟩) new2 ∧ (∀ v ∈ new2, v.oneCell' = true) ∧
  AppendP ti5 5 sA1 sL1 sC1 3 new2 h5 fun sA2 sL2 sC2 h6 =>
  (0 ≤ (bL1 : Int) ∧ (bL1 : Int) ≤ (sC2 : Int)) ∧
  New [] 5 h6 fun h7 =>
  ∃ new3 : List Value, List.length new3 = bL1 * 1 ∧ SlCells h7 bA1 new3 ∧ (∀ v ∈ new3, v.oneCell' = true) ∧
  AppendP ti5 5 (some ⟨h6.size, 0, none⟩) 0 0 bL1 new3 h7 fun sA3 sL3 sC3 h8 =>
  New [.slice none 0 0, .slice none 0 0, .slice none 0 0, .slice none 0 0] 28 h8 fun h9 =>
  ∃ (I1 : Int → Heap → Prop) (M1 : Int → Heap → Nat), I1 0 h9 ∧
  ∀ (i1 : Int), ∀ h10 : Heap, I1 i1 h10 →
  bif (decide (i1 < (scriptL1 : Int))) then (
  (0 ≤ i1 ∧ i1 < (scriptL1 : Int)) ∧
  onSome scriptA1 fun p1 =>
  ∃ cs1 : List Value, List.length cs1 = 6 ∧ Cells h10 (Addr.add p1 ((Int.toNat i1) * 6)) cs1 ∧
  NewRow z32 32 cs1 6 h10 fun h12 =>
  ∃ (n1 : Int), cellOf h12 (Addr.add ⟨h10.size, 0, none⟩ 0) = some (.int .i64 n1) ∧
  bif (n1 == 0) then (
  C.boleref14_Read sA3 sL3 sC3 h12 fun r2 h13 =>
  ∃ (sA4 : Option Addr) (sL4 : Nat) (sC4 : Nat) (n2 : Int), r2 = .tuple #[.slice sA4 sL4 sC4, .int .i64 n2] ∧
  C.bolelaw14_Book_read (some ⟨h8.size, 0, none⟩) sA2 (Int.toNat (bL1 : Int)) sC2 sA4 sL4 sC4 n2 h13 fun r3 h14 =>
  ∃ (b2 : Bool), r3 = .bool b2 ∧
  bif (!b2) then (
  K (.bool false) h14) else (
  C.bolelaw14_sameBytes sA2 (Int.toNat (bL1 : Int)) sC2 sA3 sL3 sC3 h14 fun r4 h15 =>
  ∃ (b3 : Bool), r4 = .bool b3 ∧
  bif (!b3) then (
  K (.bool false) h15) else (
  I1 (IntKind.wrap .i64 (i1 + 1)) h15 ∧ M1 (IntKind.wrap .i64 (i1 + 1)) h15 < M1 i1 h10))) else (
  bif (n1 == 1) then (
  ∃ cs2 : List Value, List.length cs2 = 3 ∧ Cells h12 (Addr.add ⟨h10.size, 0, none⟩ 1) cs2 ∧
  C.boleref14_Put sA3 sL3 sC3 cs2 h12 fun r5 h16 =>
  ∃ (n3 : Int), r5 = .int .i64 n3 ∧
  ∃ cs3 : List Value, List.length cs3 = 3 ∧ Cells h16 (Addr.add ⟨h10.size, 0, none⟩ 1) cs3 ∧
  C.slots_Put sA2 (Int.toNat (bL1 : Int)) sC2 cs3 h16 fun r6 h17 =>
  ∃ (n4 : Int), r6 = .int .i64 n4 ∧
  bif (!(n4 == n3)) then (
  K (.bool false) h17) else (
  C.bolelaw14_sameBytes sA2 (Int.toNat (bL1 : Int)) sC2 sA3 sL3 sC3 h17 fun r7 h18 =>
  ∃ (b4 : Bool), r7 = .bool b4 ∧
  bif (!b4) then (
  K (.bool false) h18) else (
  I1 (IntKind.wrap .i64 (i1 + 1)) h18 ∧ M1 (IntKind.wrap .i64 (i1 + 1)) h18 < M1 i1 h10))) else (
  bif (n1 == 2) then (
  ∃ (n5 : Int), cellOf h12 (Addr.add (Addr.add ⟨h10.size, 0, none⟩ 1) 0) = some (.int .i64 n5) ∧
  C.boleref14_Clear sA3 sL3 sC3 n5 h12 fun r8 h19 =>
  ∃ (n6 : Int), r8 = .int .i64 n6 ∧
  ∃ (n7 : Int), cellOf h19 (Addr.add (Addr.add ⟨h10.size, 0, none⟩ 1) 0) = some (.int .i64 n7) ∧
  C.slots_Clear sA2 (Int.toNat (bL1 : Int)) sC2 n7 h19 fun r9 h20 =>
  ∃ (n8 : Int), r9 = .int .i64 n8 ∧
  bif (!(n8 == n6)) then (
  K (.bool false) h20) else (
  C.bolelaw14_sameBytes sA2 (Int.toNat (bL1 : Int)) sC2 sA3 sL3 sC3 h20 fun r10 h21 =>
  ∃ (b5 : Bool), r10 = .bool b5 ∧
  bif (!b5) then (
  K (.bool false) h21) else (
  I1 (IntKind.wrap .i64 (i1 + 1)) h21 ∧ M1 (IntKind.wrap .i64 (i1 + 1)) h21 < M1 i1 h10))) else (
  bif (n1 == 3) then (
  C.boleref14_Lowest sA3 sL3 sC3 h12 fun r11 h22 =>
  ∃ (n9 : Int) (n10 : Int), r11 = .tuple #[.int .i64 n9, .int .i64 n10] ∧
  C.slots_Lowest sA2 (Int.toNat (bL1 : Int)) sC2 h22 fun r12 h23 =>
  ∃ (n11 : Int) (n12 : Int), r12 = .tuple #[.int .i64 n11, .int .i64 n12] ∧
  bif (n11 == n9) then (
  bif (!(n12 == n10)) then (
  K (.bool false) h23) else (
  C.bolelaw14_sameBytes sA2 (Int.toNat (bL1 : Int)) sC2 sA3 sL3 sC3 h23 fun r13 h24 =>
  ∃ (b6 : Bool), r13 = .bool b6 ∧
  bif (!b6) then (
  K (.bool false) h24) else (
  I1 (IntKind.wrap .i64 (i1 + 1)) h24 ∧ M1 (IntKind.wrap .i64 (i1 + 1)) h24 < M1 i1 h10))) else (
  K (.bool false) h23)) else (
  bif (n1 == 4) then (
  ∃ (n13 : Int), cellOf h12 (Addr.add ⟨h10.size, 0, none⟩ 4) = some (.int .i64 n13) ∧
  bif (decide (n13 ≥ 0)) then (
  ∃ (n14 : Int), cellOf h12 (Addr.add ⟨h10.size, 0, none⟩ 4) = some (.int .i64 n14) ∧
  bif (decide (n14 < ((Int.toNat (bL1 : Int)) : Int))) then (
  ∃ (n15 : Int), cellOf h12 (Addr.add ⟨h10.size, 0, none⟩ 4) = some (.int .i64 n15) ∧
  ∃ (n16 : Int), cellOf h12 (Addr.add ⟨h10.size, 0, none⟩ 5) = some (.int .u8 n16) ∧
  (0 ≤ n15 ∧ n15 < ((Int.toNat (bL1 : Int)) : Int)) ∧
  onSome sA2 fun p2 =>
  Put (Addr.add p2 (Int.toNat n15)) (.int .u8 n16) h12 fun h25 =>
  ∃ (n17 : Int), cellOf h25 (Addr.add ⟨h10.size, 0, none⟩ 4) = some (.int .i64 n17) ∧
  ∃ (n18 : Int), cellOf h25 (Addr.add ⟨h10.size, 0, none⟩ 5) = some (.int .u8 n18) ∧
  (0 ≤ n17 ∧ n17 < (sL3 : Int)) ∧
  onSome sA3 fun p3 =>
  Put (Addr.add p3 (Int.toNat n17)) (.int .u8 n18) h25 fun h26 =>
  C.bolelaw14_sameBytes sA2 (Int.toNat (bL1 : Int)) sC2 sA3 sL3 sC3 h26 fun r14 h27 =>
  ∃ (b7 : Bool), r14 = .bool b7 ∧
  bif (!b7) then (
  K (.bool false) h27) else (
  I1 (IntKind.wrap .i64 (i1 + 1)) h27 ∧ M1 (IntKind.wrap .i64 (i1 + 1)) h27 < M1 i1 h10)) else (
  C.bolelaw14_sameBytes sA2 (Int.toNat (bL1 : Int)) sC2 sA3 sL3 sC3 h12 fun r15 h28 =>
  ∃ (b8 : Bool), r15 = .bool b8 ∧
  bif (!b8) then (
  K (.bool false) h28) else (
  I1 (IntKind.wrap .i64 (i1 + 1)) h28 ∧ M1 (IntKind.wrap .i64 (i1 + 1)) h28 < M1 i1 h10))) else (
  C.bolelaw14_sameBytes sA2 (Int.toNat (bL1 : Int)) sC2 sA3 sL3 sC3 h12 fun r16 h29 =>
  ∃ (b9 : Bool), r16 = .bool b9 ∧
  bif (!b9) then (
  K (.bool false) h29) else (
  I1 (IntKind.wrap .i64 (i1 + 1)) h29 ∧ M1 (IntKind.wrap .i64 (i1 + 1)) h29 < M1 i1 h10))) else (
  C.bolelaw14_sameBytes sA2 (Int.toNat (bL1 : Int)) sC2 sA3 sL3 sC3 h12 fun r17 h30 =>
  ∃ (b10 : Bool), r17 = .bool b10 ∧
  bif (!b10) then (
  K (.bool false) h30) else (
  I1 (IntKind.wrap .i64 (i1 + 1)) h30 ∧ M1 (IntKind.wrap .i64 (i1 + 1)) h30 < M1 i1 h10))))))) else (
  ∃ (I2 : Int → Heap → Prop) (M2 : Int → Heap → Nat), I2 0 h10 ∧
  ∀ (i2 : Int), ∀ h31 : Heap, I2 i2 h31 →
  bif (decide (i2 < ((Int.toNat (bL1 : Int)) : Int))) then (
  (0 ≤ i2 ∧ i2 < ((Int.toNat (bL1 : Int)) : Int)) ∧
  onSome sA2 fun p4 =>
  Put (Addr.add p4 (Int.toNat i2)) (.int .u8 7) h31 fun h32 =>
  I2 (IntKind.wrap .i64 (i2 + 1)) h32 ∧ M2 (IntKind.wrap .i64 (i2 + 1)) h32 < M2 i2 h31) else (
  C.bolelaw14_Book_whole (some ⟨h8.size, 0, none⟩) h31 fun r18 h33 =>
  ∃ (b11 : Bool), r18 = .bool b11 ∧
  bif b11 then (
  (0 ≤ (bL1 : Int) ∧ (bL1 : Int) < (sL2 : Int)) ∧
  onSome sA2 fun p5 =>
  ∃ (n19 : Int), cellOf h33 (Addr.add p5 (Int.toNat (bL1 : Int))) = some (.int .u8 n19) ∧
  bif (n19 == 77) then (
  (0 ≤ (IntKind.wrap .i64 ((bL1 : Int) + 1)) ∧ (IntKind.wrap .i64 ((bL1 : Int) + 1)) < (sL2 : Int)) ∧
  onSome sA2 fun p6 =>
  ∃ (n20 : Int), cellOf h33 (Addr.add p6 (Int.toNat (IntKind.wrap .i64 ((bL1 : Int) + 1)))) = some (.int .u8 n20) ∧
  bif (n20 == 78) then (
  (0 ≤ (IntKind.wrap .i64 ((bL1 : Int) + 2)) ∧ (IntKind.wrap .i64 ((bL1 : Int) + 2)) < (sL2 : Int)) ∧
  onSome sA2 fun p7 =>
  ∃ (n21 : Int), cellOf h33 (Addr.add p7 (Int.toNat (IntKind.wrap .i64 ((bL1 : Int) + 2)))) = some (.int .u8 n21) ∧
  K (.bool (n21 == 79)) h33) else (
  K (.bool false) h33)) else (
  K (.bool false) h33)) else (
  K (.bool false) h33))))
def bolelaw14_SlotsPlays.lo : Nat → List Nat × List (Nat × Ty) := fun n => match n with | 8 => ([0, 1, 5, 6, 7, 8], [(9, .int .i64)]) | 33 => ([0, 5, 6, 8], [(20, .int .i64)]) | _ => ([], [])
def bolelaw14_SlotsPlays.od : Nat → Od := fun n => match n with | _ => .nil
theorem bolelaw14_SlotsPlays.eq (bA1 : Option Addr) (bL1 : Nat) (bC1 : Nat) (scriptA1 : Option Addr) (scriptL1 : Nat) (scriptC1 : Nat) (K : Value → Heap → Prop) (h : Heap) : fnX (cx bolelaw14_SlotsPlays.lo bolelaw14_SlotsPlays.od) Tryd.f3 (Tryd.f3.body.getD .skip) [.slice bA1 bL1 bC1, .slice scriptA1 scriptL1 scriptC1] K h = bolelaw14_SlotsPlays bA1 bL1 bC1 scriptA1 scriptL1 scriptC1 K h := by kernel_rfl
theorem bolelaw14_SlotsPlays.chk : fnOk (cx bolelaw14_SlotsPlays.lo bolelaw14_SlotsPlays.od) Tryd.f3 (Tryd.f3.body.getD .skip) 2 = true := by kernel_rfl
theorem bolelaw14_SlotsPlays.ok {bA1 : Option Addr} {bL1 : Nat} {bC1 : Nat} {scriptA1 : Option Addr} {scriptL1 : Nat} {scriptC1 : Nat} {K : Value → Heap → Prop} {h : Heap} (hx : bolelaw14_SlotsPlays bA1 bL1 bC1 scriptA1 scriptL1 scriptC1 K h) : C.bolelaw14_SlotsPlays bA1 bL1 bC1 scriptA1 scriptL1 scriptC1 h K :=
  fn_to (cxOk _ _) Tryd.func3 (by kernel_rfl) bolelaw14_SlotsPlays.chk (by rw [bolelaw14_SlotsPlays.eq]; exact hx)

-- 4
def bolelaw14_SlotsReads.k1 (bA1 : Option Addr) (bL1 : Nat) (h2 : Heap) (i1 : Int) (h4 : Heap) (I1 : Int → Heap → Prop) (M1 : Int → Heap → Nat) (K : Value → Heap → Prop) : Prop :=
  (0 ≤ i1 ∧ i1 < (bL1 : Int)) ∧
  onSome bA1 fun p1 =>
  ∃ (n1 : Int), cellOf h4 (Addr.add p1 (Int.toNat i1)) = some (.int .u8 n1) ∧
  (0 ≤ i1 ∧ i1 < ((Int.toNat 512) : Int)) ∧
  Put (Addr.add ⟨h2.size, 0, none⟩ (Int.toNat i1)) (.int .u8 n1) h4 fun h5 =>
  I1 (IntKind.wrap .i64 (i1 + 1)) h5 ∧ M1 (IntKind.wrap .i64 (i1 + 1)) h5 < M1 i1 h4
def bolelaw14_SlotsReads.k2 (bA1 : Option Addr) (bL1 : Nat) (at1 : Int) (by1 : Int) (h2 : Heap) (h6 : Heap) (K : Value → Heap → Prop) : Prop :=
  New [] 5 h6 fun h7 =>
  ∃ new1 : List Value, List.length new1 = (Int.toNat 512) * 1 ∧ SlCells h7 (some ⟨h2.size, 0, none⟩) new1 ∧ (∀ v ∈ new1, v.oneCell' = true) ∧
  AppendP ti5 5 (some ⟨h6.size, 0, none⟩) 0 0 (Int.toNat 512) new1 h7 fun sA1 sL1 sC1 h8 =>
  C.bolelaw14_mod at1 512 h8 fun r2 h9 =>
  ∃ (n2 : Int), r2 = .int .i64 n2 ∧
  (0 ≤ n2 ∧ n2 < (sL1 : Int)) ∧
  onSome sA1 fun p2 =>
  ∃ (n3 : Int), cellOf h9 (Addr.add p2 (Int.toNat n2)) = some (.int .u8 n3) ∧
  (0 ≤ n2 ∧ n2 < (sL1 : Int)) ∧
  onSome sA1 fun p3 =>
  Put (Addr.add p3 (Int.toNat n2)) (.int .u8 (bitsI .xor .u8 n3 by1)) h9 fun h10 =>
  New [] 5 h10 fun h11 =>
  ∃ new2 : List Value, List.length new2 = bL1 * 1 ∧ SlCells h11 bA1 new2 ∧ (∀ v ∈ new2, v.oneCell' = true) ∧
  AppendP ti5 5 (some ⟨h10.size, 0, none⟩) 0 0 bL1 new2 h11 fun sA2 sL2 sC2 h12 =>
  New [.slice sA2 sL2 sC2, .slice (some ⟨h2.size, 0, none⟩) (Int.toNat 512) (Int.toNat 512), .slice sA1 sL1 sC1] 22 h12 fun h13 =>
  ∃ (I2 : Int → Heap → Prop) (M2 : Int → Heap → Nat), I2 0 h13 ∧
  ∀ (i2 : Int), ∀ h14 : Heap, I2 i2 h14 →
  bif (decide (i2 < (3 : Int))) then (
  (0 ≤ i2 ∧ i2 < (3 : Int)) ∧
  ∃ (sA3 : Option Addr) (sL3 : Nat) (sC3 : Nat), cellOf h14 (Addr.add ⟨h12.size, 0, none⟩ (Int.toNat i2)) = some (.slice sA3 sL3 sC3) ∧
  C.boleref14_Read sA3 sL3 sC3 h14 fun r3 h15 =>
  ∃ (sA4 : Option Addr) (sL4 : Nat) (sC4 : Nat) (n4 : Int), r3 = .tuple #[.slice sA4 sL4 sC4, .int .i64 n4] ∧
  (0 ≤ i2 ∧ i2 < (3 : Int)) ∧
  ∃ (sA5 : Option Addr) (sL5 : Nat) (sC5 : Nat), cellOf h15 (Addr.add ⟨h12.size, 0, none⟩ (Int.toNat i2)) = some (.slice sA5 sL5 sC5) ∧
  C.boleref14_Lowest sA5 sL5 sC5 h15 fun r4 h16 =>
  ∃ (n5 : Int) (n6 : Int), r4 = .tuple #[.int .i64 n5, .int .i64 n6] ∧
  New [] 5 h16 fun h17 =>
  (0 ≤ i2 ∧ i2 < (3 : Int)) ∧
  ∃ (sA6 : Option Addr) (sL6 : Nat) (sC6 : Nat), cellOf h17 (Addr.add ⟨h12.size, 0, none⟩ (Int.toNat i2)) = some (.slice sA6 sL6 sC6) ∧
  ∃ new3 : List Value, List.length new3 = sL6 * 1 ∧ SlCells h17 sA6 new3 ∧ (∀ v ∈ new3, v.oneCell' = true) ∧
  AppendP ti5 5 (some ⟨h16.size, 0, none⟩) 0 0 sL6 new3 h17 fun sA7 sL7 sC7 h18 =>
  (0 ≤ i2 ∧ i2 < (3 : Int)) ∧
  ∃ (sA8 : Option Addr) (sL8 : Nat) (sC8 : Nat), cellOf h18 (Addr.add ⟨h12.size, 0, none⟩ (Int.toNat i2)) = some (.slice sA8 sL8 sC8) ∧
  C.slots_Read sA8 sL8 sC8 h18 fun r5 h19 =>
  ∃ (sA9 : Option Addr) (sL9 : Nat) (sC9 : Nat) (n7 : Int), r5 = .tuple #[.slice sA9 sL9 sC9, .int .i64 n7] ∧
  (0 ≤ i2 ∧ i2 < (3 : Int)) ∧
  ∃ (sA10 : Option Addr) (sL10 : Nat) (sC10 : Nat), cellOf h19 (Addr.add ⟨h12.size, 0, none⟩ (Int.toNat i2)) = some (.slice sA10 sL10 sC10) ∧
  C.slots_Lowest sA10 sL10 sC10 h19 fun r6 h20 =>
  ∃ (n8 : Int) (n9 : Int), r6 = .tuple #[.int .i64 n8, .int .i64 n9] ∧
  bif (n7 != n4) then (
  K (.bool false) h20) else (
  bif (n9 != n6) then (
  K (.bool false) h20) else (
  bif (n8 != n5) then (
  K (.bool false) h20) else (
  C.bolelaw14_sameEntries sA9 sL9 sC9 sA4 sL4 sC4 h20 fun r7 h21 =>
  ∃ (b2 : Bool), r7 = .bool b2 ∧
  bif (!b2) then (
  K (.bool false) h21) else (
  (0 ≤ i2 ∧ i2 < (3 : Int)) ∧
  ∃ (sA11 : Option Addr) (sL11 : Nat) (sC11 : Nat), cellOf h21 (Addr.add ⟨h12.size, 0, none⟩ (Int.toNat i2)) = some (.slice sA11 sL11 sC11) ∧
  C.bolelaw14_sameBytes sA11 sL11 sC11 sA7 sL7 sC7 h21 fun r8 h22 =>
  ∃ (b3 : Bool), r8 = .bool b3 ∧
  bif (!b3) then (
  K (.bool false) h22) else (
  I2 (IntKind.wrap .i64 (i2 + 1)) h22 ∧ M2 (IntKind.wrap .i64 (i2 + 1)) h22 < M2 i2 h14)))))) else (
  K (.bool true) h14)
def bolelaw14_SlotsReads (bA1 : Option Addr) (bL1 : Nat) (bC1 : Nat) (at1 : Int) (by1 : Int) (K : Value → Heap → Prop) (h1 : Heap) : Prop :=
  C.bolelaw14_fixed  h1 fun r1 h2 =>
  ∃ (b1 : Bool), r1 = .bool b1 ∧
  bif (!b1) then (
  K (.bool false) h2) else (
  (0 ≤ (512 : Int) ∧ (512 : Int) ≤ 512 ∧ (1 : Int) * 512 ≤ 281474976710656 ∧ (512 : Int) ≤ 281474976710656) ∧
  New (repCells z5 (Int.toNat 512)) 5 h2 fun h3 =>
  ∃ (I1 : Int → Heap → Prop) (M1 : Int → Heap → Nat), I1 0 h3 ∧
  ∀ (i1 : Int), ∀ h4 : Heap, I1 i1 h4 →
  bif (decide (i1 < (bL1 : Int))) then (
  bif (decide (i1 < 512)) then (
  bolelaw14_SlotsReads.k1 bA1 bL1 h2 i1 h4 I1 M1 K) else (
  bolelaw14_SlotsReads.k2 bA1 bL1 at1 by1 h2 h4 K)) else (
  bolelaw14_SlotsReads.k2 bA1 bL1 at1 by1 h2 h4 K))
def bolelaw14_SlotsReads.lo : Nat → List Nat × List (Nat × Ty) := fun n => match n with | 5 => ([0, 1, 2, 7], [(8, .int .i64)]) | 13 => ([10], [(11, .int .i64)]) | _ => ([], [])
def bolelaw14_SlotsReads.od : Nat → Od := fun n => match n with | _ => .nil
theorem bolelaw14_SlotsReads.eq (bA1 : Option Addr) (bL1 : Nat) (bC1 : Nat) (at1 : Int) (by1 : Int) (K : Value → Heap → Prop) (h : Heap) : fnX (cx bolelaw14_SlotsReads.lo bolelaw14_SlotsReads.od) Tryd.f4 (Tryd.f4.body.getD .skip) [.slice bA1 bL1 bC1, .int .i64 at1, .int .u8 by1] K h = bolelaw14_SlotsReads bA1 bL1 bC1 at1 by1 K h := by kernel_rfl
theorem bolelaw14_SlotsReads.chk : fnOk (cx bolelaw14_SlotsReads.lo bolelaw14_SlotsReads.od) Tryd.f4 (Tryd.f4.body.getD .skip) 3 = true := by kernel_rfl
theorem bolelaw14_SlotsReads.ok {bA1 : Option Addr} {bL1 : Nat} {bC1 : Nat} {at1 : Int} {by1 : Int} {K : Value → Heap → Prop} {h : Heap} (hx : bolelaw14_SlotsReads bA1 bL1 bC1 at1 by1 K h) : C.bolelaw14_SlotsReads bA1 bL1 bC1 at1 by1 h K :=
  fn_to (cxOk _ _) Tryd.func4 (by kernel_rfl) bolelaw14_SlotsReads.chk (by rw [bolelaw14_SlotsReads.eq]; exact hx)

-- 5
def bolelaw14_SlotsBack (lA1 : Option Addr) (lL1 : Nat) (lC1 : Nat) (goneA1 : Option Addr) (goneL1 : Nat) (goneC1 : Nat) (K : Value → Heap → Prop) (h1 : Heap) : Prop :=
  C.bolelaw14_fixed  h1 fun r1 h2 =>
  ∃ (b1 : Bool), r1 = .bool b1 ∧
  bif (!b1) then (
  K (.bool false) h2) else (
  (0 ≤ (512 : Int) ∧ (512 : Int) ≤ 512 ∧ (1 : Int) * 512 ≤ 281474976710656 ∧ (512 : Int) ≤ 281474976710656) ∧
  New (repCells z5 (Int.toNat 512)) 5 h2 fun h3 =>
  New z56 56 h3 fun h4 =>
  ∃ (I1 : Int → Heap → Prop) (M1 : Int → Heap → Nat), I1 0 h4 ∧
  ∀ (i1 : Int), ∀ h5 : Heap, I1 i1 h5 →
  bif (decide (i1 < (lL1 : Int))) then (
  (0 ≤ i1 ∧ i1 < (lL1 : Int)) ∧
  onSome lA1 fun p1 =>
  ∃ cs1 : List Value, List.length cs1 = 4 ∧ Cells h5 (Addr.add p1 ((Int.toNat i1) * 4)) cs1 ∧
  C.bolelaw14_Cell_entry cs1 h5 fun r2 h6 =>
  ∃ (cs2 : List Value), r2 = .agg ⟨cs2⟩ ∧
  NewRow z30 30 cs2 3 h6 fun h8 =>
  ∃ cs3 : List Value, List.length cs3 = 3 ∧ Cells h8 ⟨h6.size, 0, none⟩ cs3 ∧
  C.slots_Put (some ⟨h2.size, 0, none⟩) (Int.toNat 512) (Int.toNat 512) cs3 h8 fun r3 h9 =>
  ∃ (n1 : Int), r3 = .int .i64 n1 ∧
  bif (n1 != 0) then (
  K (.bool false) h9) else (
  ∃ (n2 : Int), cellOf h9 (Addr.add ⟨h6.size, 0, none⟩ 0) = some (.int .i64 n2) ∧
  ∃ cs4 : List Value, List.length cs4 = 3 ∧ Cells h9 ⟨h6.size, 0, none⟩ cs4 ∧
  (0 ≤ n2 ∧ n2 < (16 : Int)) ∧
  PutRow (Addr.add ⟨h3.size, 0, none⟩ ((Int.toNat n2) * 3)) cs4 3 h9 fun h10 =>
  bif (decide (i1 < (goneL1 : Int))) then (
  (0 ≤ i1 ∧ i1 < (goneL1 : Int)) ∧
  onSome goneA1 fun p2 =>
  ∃ (n3 : Int), cellOf h10 (Addr.add p2 (Int.toNat i1)) = some (.int .i64 n3) ∧
  C.bolelaw14_mod n3 32 h10 fun r4 h11 =>
  ∃ (n4 : Int), r4 = .int .i64 n4 ∧
  bif (decide (n4 < 16)) then (
  C.slots_Clear (some ⟨h2.size, 0, none⟩) (Int.toNat 512) (Int.toNat 512) n4 h11 fun r5 h12 =>
  ∃ (n5 : Int), r5 = .int .i64 n5 ∧
  bif (n5 != 0) then (
  K (.bool false) h12) else (
  (0 ≤ n4 ∧ n4 < (16 : Int)) ∧
  PutRow (Addr.add ⟨h3.size, 0, none⟩ ((Int.toNat n4) * 3)) [.int .i64 0, .string (mkStr []), .int .i64 0] 3 h12 fun h13 =>
  I1 (IntKind.wrap .i64 (i1 + 1)) h13 ∧ M1 (IntKind.wrap .i64 (i1 + 1)) h13 < M1 i1 h5)) else (
  I1 (IntKind.wrap .i64 (i1 + 1)) h11 ∧ M1 (IntKind.wrap .i64 (i1 + 1)) h11 < M1 i1 h5)) else (
  I1 (IntKind.wrap .i64 (i1 + 1)) h10 ∧ M1 (IntKind.wrap .i64 (i1 + 1)) h10 < M1 i1 h5))) else (
  (0 ≤ (512 : Int) ∧ (512 : Int) ≤ 512 ∧ (1 : Int) * 512 ≤ 281474976710656 ∧ (512 : Int) ≤ 281474976710656) ∧
  New (repCells z5 (Int.toNat 512)) 5 h5 fun h14 =>
  ∃ (I2 : Int → Int → Heap → Prop) (M2 : Int → Int → Heap → Nat), I2 (-1) 15 h14 ∧
  ∀ (low1 : Int) (k1 : Int), ∀ h15 : Heap, I2 low1 k1 h15 →
  bif (decide (k1 ≥ 0)) then (
  (0 ≤ k1 ∧ k1 < (16 : Int)) ∧
  ∃ (n6 : Int), cellOf h15 (Addr.add (Addr.add ⟨h3.size, 0, none⟩ ((Int.toNat k1) * 3)) 2) = some (.int .i64 n6) ∧
  bif (n6 == 0) then (
  I2 k1 (IntKind.wrap .i64 (k1 - 1)) h15 ∧ M2 k1 (IntKind.wrap .i64 (k1 - 1)) h15 < M2 low1 k1 h15) else (
  (0 ≤ k1 ∧ k1 < (16 : Int)) ∧
  ∃ cs5 : List Value, List.length cs5 = 3 ∧ Cells h15 (Addr.add ⟨h3.size, 0, none⟩ ((Int.toNat k1) * 3)) cs5 ∧
  C.slots_Put (some ⟨h5.size, 0, none⟩) (Int.toNat 512) (Int.toNat 512) cs5 h15 fun r6 h16 =>
  ∃ (n7 : Int), r6 = .int .i64 n7 ∧
  bif (n7 != 0) then (
  K (.bool false) h16) else (
  I2 low1 (IntKind.wrap .i64 (k1 - 1)) h16 ∧ M2 low1 (IntKind.wrap .i64 (k1 - 1)) h16 < M2 low1 k1 h15))) else (
  ∃ (I3 : Option Addr → Nat → Nat → Int → Heap → Prop) (M3 : Option Addr → Nat → Nat → Int → Heap → Nat), I3 none 0 0 0 h15 ∧
  ∀ (wantA1 : Option Addr) (wantL1 : Nat) (wantC1 : Nat) (k2 : Int), ∀ h17 : Heap, I3 wantA1 wantL1 wantC1 k2 h17 →
  bif (decide (k2 < 16)) then (
  (0 ≤ k2 ∧ k2 < (16 : Int)) ∧
  ∃ (n8 : Int), cellOf h17 (Addr.add (Addr.add ⟨h3.size, 0, none⟩ ((Int.toNat k2) * 3)) 2) = some (.int .i64 n8) ∧
  bif (n8 != 0) then (
  (0 ≤ k2 ∧ k2 < (16 : Int)) ∧
  ∃ cs6 : List Value, List.length cs6 = 3 ∧ Cells h17 (Addr.add ⟨h3.size, 0, none⟩ ((Int.toNat k2) * 3)) cs6 ∧
  List.length (cs6 : List Value) = 3 ∧
  New cs6 30 h17 fun h18 =>
  ∃ new1 : List Value, List.length new1 = 1 * 3 ∧ SlCells h18 (some ⟨h17.size, 0, none⟩) new1 ∧ (∀ v ∈ new1, v.oneCell' = true) ∧
  AppendP ti30 30 wantA1 wantL1 wantC1 1 new1 h18 fun sA1 sL1 sC1 h19 =>
  I3 sA1 sL1 sC1 (IntKind.wrap .i64 (k2 + 1)) h19 ∧ M3 sA1 sL1 sC1 (IntKind.wrap .i64 (k2 + 1)) h19 < M3 wantA1 wantL1 wantC1 k2 h17) else (
  I3 wantA1 wantL1 wantC1 (IntKind.wrap .i64 (k2 + 1)) h17 ∧ M3 wantA1 wantL1 wantC1 (IntKind.wrap .i64 (k2 + 1)) h17 < M3 wantA1 wantL1 wantC1 k2 h17)) else (
  C.slots_Read (some ⟨h2.size, 0, none⟩) (Int.toNat 512) (Int.toNat 512) h17 fun r7 h20 =>
  ∃ (sA2 : Option Addr) (sL2 : Nat) (sC2 : Nat) (n9 : Int), r7 = .tuple #[.slice sA2 sL2 sC2, .int .i64 n9] ∧
  C.slots_Lowest (some ⟨h2.size, 0, none⟩) (Int.toNat 512) (Int.toNat 512) h20 fun r8 h21 =>
  ∃ (n10 : Int) (n11 : Int), r8 = .tuple #[.int .i64 n10, .int .i64 n11] ∧
  bif (n9 == 0) then (
  bif (n11 == 0) then (
  bif (n10 == low1) then (
  C.bolelaw14_sameEntries sA2 sL2 sC2 wantA1 wantL1 wantC1 h21 fun r9 h22 =>
  ∃ (b2 : Bool), r9 = .bool b2 ∧
  bif b2 then (
  C.bolelaw14_sameBytes (some ⟨h2.size, 0, none⟩) (Int.toNat 512) (Int.toNat 512) (some ⟨h5.size, 0, none⟩) (Int.toNat 512) (Int.toNat 512) h22 fun r10 h23 =>
  ∃ (b3 : Bool), r10 = .bool b3 ∧
  K (.bool b3) h23) else (
  K (.bool false) h22)) else (
  K (.bool false) h21)) else (
  K (.bool false) h21)) else (
  K (.bool false) h21)))))
def bolelaw14_SlotsBack.lo : Nat → List Nat × List (Nat × Ty) := fun n => match n with | 6 => ([0, 1, 5, 6], [(7, .int .i64)]) | 22 => ([5, 6, 10, 12], [(11, .int .i64), (13, .int .i64)]) | 29 => ([5, 6, 11, 12], [(10, .slice), (14, .int .i64)]) | _ => ([], [])
def bolelaw14_SlotsBack.od : Nat → Od := fun n => match n with | _ => .nil
theorem bolelaw14_SlotsBack.eq (lA1 : Option Addr) (lL1 : Nat) (lC1 : Nat) (goneA1 : Option Addr) (goneL1 : Nat) (goneC1 : Nat) (K : Value → Heap → Prop) (h : Heap) : fnX (cx bolelaw14_SlotsBack.lo bolelaw14_SlotsBack.od) Tryd.f5 (Tryd.f5.body.getD .skip) [.slice lA1 lL1 lC1, .slice goneA1 goneL1 goneC1] K h = bolelaw14_SlotsBack lA1 lL1 lC1 goneA1 goneL1 goneC1 K h := by kernel_rfl
theorem bolelaw14_SlotsBack.chk : fnOk (cx bolelaw14_SlotsBack.lo bolelaw14_SlotsBack.od) Tryd.f5 (Tryd.f5.body.getD .skip) 2 = true := by kernel_rfl
theorem bolelaw14_SlotsBack.ok {lA1 : Option Addr} {lL1 : Nat} {lC1 : Nat} {goneA1 : Option Addr} {goneL1 : Nat} {goneC1 : Nat} {K : Value → Heap → Prop} {h : Heap} (hx : bolelaw14_SlotsBack lA1 lL1 lC1 goneA1 goneL1 goneC1 K h) : C.bolelaw14_SlotsBack lA1 lL1 lC1 goneA1 goneL1 goneC1 h K :=
  fn_to (cxOk _ _) Tryd.func5 (by kernel_rfl) bolelaw14_SlotsBack.chk (by rw [bolelaw14_SlotsBack.eq]; exact hx)

-- 6
def bolelaw14_SlotsForm.k2 (h1 : Heap) (h9 : Heap) (h14 : Heap) (sA2 : Option Addr) (sL2 : Nat) (sC2 : Nat) (by1 : Int) (K : Value → Heap → Prop) : Prop :=
  ∃ (n6 : Int), cellOf h14 (Addr.add ⟨h1.size, 0, none⟩ 0) = some (.int .i64 n6) ∧
  C.bolelaw14_mod n6 512 h14 fun r8 h15 =>
  ∃ (n7 : Int), r8 = .int .i64 n7 ∧
  (0 ≤ n7 ∧ n7 < ((Int.toNat 512) : Int)) ∧
  ∃ (n8 : Int), cellOf h15 (Addr.add ⟨h9.size, 0, none⟩ (Int.toNat n7)) = some (.int .u8 n8) ∧
  (0 ≤ n7 ∧ n7 < ((Int.toNat 512) : Int)) ∧
  Put (Addr.add ⟨h9.size, 0, none⟩ (Int.toNat n7)) (.int .u8 (bitsI .xor .u8 n8 by1)) h15 fun h16 =>
  C.slots_Read (some ⟨h9.size, 0, none⟩) (Int.toNat 512) (Int.toNat 512) h16 fun r9 h17 =>
  ∃ (sA3 : Option Addr) (sL3 : Nat) (sC3 : Nat) (n9 : Int), r9 = .tuple #[.slice sA3 sL3 sC3, .int .i64 n9] ∧
  bif (n9 == 140) then (
  bif ((sL3 : Int) == 0) then (
  K (.bool true) h17) else (
  bif (n9 == 0) then (
  C.bolelaw14_sameEntries sA2 sL2 sC2 sA3 sL3 sC3 h17 fun r10 h18 =>
  ∃ (b3 : Bool), r10 = .bool b3 ∧
  K (.bool (!b3)) h18) else (
  K (.bool false) h17))) else (
  bif (n9 == 0) then (
  C.bolelaw14_sameEntries sA2 sL2 sC2 sA3 sL3 sC3 h17 fun r11 h19 =>
  ∃ (b4 : Bool), r11 = .bool b4 ∧
  K (.bool (!b4)) h19) else (
  K (.bool false) h17))
def bolelaw14_SlotsForm.k1 (lA1 : Option Addr) (lL1 : Nat) (h1 : Heap) (h9 : Heap) (K : Value → Heap → Prop) : Prop :=
  (0 ≤ (512 : Int) ∧ (512 : Int) ≤ 512 ∧ (1 : Int) * 512 ≤ 281474976710656 ∧ (512 : Int) ≤ 281474976710656) ∧
  New (repCells z5 (Int.toNat 512)) 5 h9 fun h10 =>
  ∃ (I2 : Int → Heap → Prop) (M2 : Int → Heap → Nat), I2 0 h10 ∧
  ∀ (i2 : Int), ∀ h11 : Heap, I2 i2 h11 →
  bif (decide (i2 < (lL1 : Int))) then (
  (0 ≤ i2 ∧ i2 < (lL1 : Int)) ∧
  onSome lA1 fun p2 =>
  ∃ cs2 : List Value, List.length cs2 = 4 ∧ Cells h11 (Addr.add p2 ((Int.toNat i2) * 4)) cs2 ∧
  C.bolelaw14_Cell_entry cs2 h11 fun r5 h12 =>
  ∃ (cs3 : List Value), r5 = .agg ⟨cs3⟩ ∧
  C.slots_Put (some ⟨h9.size, 0, none⟩) (Int.toNat 512) (Int.toNat 512) cs3 h12 fun r6 h13 =>
  ∃ (n3 : Int), r6 = .int .i64 n3 ∧
  bif (n3 != 0) then (
  K (.bool false) h13) else (
  I2 (IntKind.wrap .i64 (i2 + 1)) h13 ∧ M2 (IntKind.wrap .i64 (i2 + 1)) h13 < M2 i2 h11)) else (
  C.slots_Read (some ⟨h9.size, 0, none⟩) (Int.toNat 512) (Int.toNat 512) h11 fun r7 h14 =>
  ∃ (sA2 : Option Addr) (sL2 : Nat) (sC2 : Nat) (n4 : Int), r7 = .tuple #[.slice sA2 sL2 sC2, .int .i64 n4] ∧
  bif (n4 != 0) then (
  K (.bool false) h14) else (
  ∃ (n5 : Int), cellOf h14 (Addr.add ⟨h1.size, 0, none⟩ 1) = some (.int .u8 n5) ∧
  bif (n5 == 0) then (
  bolelaw14_SlotsForm.k2 h1 h9 h14 sA2 sL2 sC2 1 K) else (
  bolelaw14_SlotsForm.k2 h1 h9 h14 sA2 sL2 sC2 n5 K)))
def bolelaw14_SlotsForm (bA1 : Option Addr) (bL1 : Nat) (bC1 : Nat) (lA1 : Option Addr) (lL1 : Nat) (lC1 : Nat) (x1 : List Value) (K : Value → Heap → Prop) (h1 : Heap) : Prop :=
  New x1 62 h1 fun h2 =>
  C.bolelaw14_fixed  h2 fun r1 h3 =>
  ∃ (b1 : Bool), r1 = .bool b1 ∧
  bif (!b1) then (
  K (.bool false) h3) else (
  C.slots_Read bA1 bL1 bC1 h3 fun r2 h4 =>
  ∃ (sA1 : Option Addr) (sL1 : Nat) (sC1 : Nat) (n1 : Int), r2 = .tuple #[.slice sA1 sL1 sC1, .int .i64 n1] ∧
  bif (n1 == 0) then (
  (0 ≤ (512 : Int) ∧ (512 : Int) ≤ 512 ∧ (1 : Int) * 512 ≤ 281474976710656 ∧ (512 : Int) ≤ 281474976710656) ∧
  New (repCells z5 (Int.toNat 512)) 5 h4 fun h5 =>
  ∃ (I1 : Int → Heap → Prop) (M1 : Int → Heap → Nat), I1 0 h5 ∧
  ∀ (i1 : Int), ∀ h6 : Heap, I1 i1 h6 →
  bif (decide (i1 < (sL1 : Int))) then (
  (0 ≤ i1 ∧ i1 < (sL1 : Int)) ∧
  onSome sA1 fun p1 =>
  ∃ cs1 : List Value, List.length cs1 = 3 ∧ Cells h6 (Addr.add p1 ((Int.toNat i1) * 3)) cs1 ∧
  C.slots_Put (some ⟨h4.size, 0, none⟩) (Int.toNat 512) (Int.toNat 512) cs1 h6 fun r3 h7 =>
  ∃ (n2 : Int), r3 = .int .i64 n2 ∧
  bif (n2 != 0) then (
  K (.bool false) h7) else (
  I1 (IntKind.wrap .i64 (i1 + 1)) h7 ∧ M1 (IntKind.wrap .i64 (i1 + 1)) h7 < M1 i1 h6)) else (
  C.bolelaw14_sameBytes (some ⟨h4.size, 0, none⟩) (Int.toNat 512) (Int.toNat 512) bA1 bL1 bC1 h6 fun r4 h8 =>
  ∃ (b2 : Bool), r4 = .bool b2 ∧
  bif (!b2) then (
  K (.bool false) h8) else (
  bolelaw14_SlotsForm.k1 lA1 lL1 h1 h8 K))) else (
  bolelaw14_SlotsForm.k1 lA1 lL1 h1 h4 K))
def bolelaw14_SlotsForm.lo : Nat → List Nat × List (Nat × Ty) := fun n => match n with | 7 => ([0, 1, 5, 7, 9], [(10, .int .i64)]) | 15 => ([1, 5, 11], [(12, .int .i64)]) | _ => ([], [])
def bolelaw14_SlotsForm.od : Nat → Od := fun n => match n with | _ => .nil
theorem bolelaw14_SlotsForm.eq (bA1 : Option Addr) (bL1 : Nat) (bC1 : Nat) (lA1 : Option Addr) (lL1 : Nat) (lC1 : Nat) (x1 : List Value) (K : Value → Heap → Prop) (h : Heap) : fnX (cx bolelaw14_SlotsForm.lo bolelaw14_SlotsForm.od) Tryd.f6 (Tryd.f6.body.getD .skip) [.slice bA1 bL1 bC1, .slice lA1 lL1 lC1, .agg ⟨x1⟩] K h = bolelaw14_SlotsForm bA1 bL1 bC1 lA1 lL1 lC1 x1 K h := by kernel_rfl
theorem bolelaw14_SlotsForm.chk : fnOk (cx bolelaw14_SlotsForm.lo bolelaw14_SlotsForm.od) Tryd.f6 (Tryd.f6.body.getD .skip) 3 = true := by kernel_rfl
theorem bolelaw14_SlotsForm.ok {bA1 : Option Addr} {bL1 : Nat} {bC1 : Nat} {lA1 : Option Addr} {lL1 : Nat} {lC1 : Nat} {x1 : List Value} {K : Value → Heap → Prop} {h : Heap} (hx : bolelaw14_SlotsForm bA1 bL1 bC1 lA1 lL1 lC1 x1 K h) : C.bolelaw14_SlotsForm bA1 bL1 bC1 lA1 lL1 lC1 x1 h K :=
  fn_to (cxOk _ _) Tryd.func6 (by kernel_rfl) bolelaw14_SlotsForm.chk (by rw [bolelaw14_SlotsForm.eq]; exact hx)

-- 7
def bolelaw14_SlotsRefused.k1 (bA1 : Option Addr) (bL1 : Nat) (h4 : Heap) (i1 : Int) (h6 : Heap) (I1 : Int → Heap → Prop) (M1 : Int → Heap → Nat) (K : Value → Heap → Prop) : Prop :=
  (0 ≤ i1 ∧ i1 < (bL1 : Int)) ∧
  onSome bA1 fun p1 =>
  ∃ (n1 : Int), cellOf h6 (Addr.add p1 (Int.toNat i1)) = some (.int .u8 n1) ∧
  (0 ≤ i1 ∧ i1 < ((Int.toNat 512) : Int)) ∧
  Put (Addr.add ⟨h4.size, 0, none⟩ (Int.toNat i1)) (.int .u8 n1) h6 fun h7 =>
  I1 (IntKind.wrap .i64 (i1 + 1)) h7 ∧ M1 (IntKind.wrap .i64 (i1 + 1)) h7 < M1 i1 h6
def bolelaw14_SlotsRefused.k3 (h4 : Heap) (sA1 : Option Addr) (sL1 : Nat) (h11 : Heap) (h26 : Heap) (K : Value → Heap → Prop) : Prop :=
  ∃ cs5 : List Value, List.length cs5 = 3 ∧ Cells h26 ⟨h11.size, 0, none⟩ cs5 ∧
  C.slots_Put (some ⟨h4.size, 0, none⟩) (Int.toNat 512) (Int.toNat 512) cs5 h26 fun r13 h27 =>
  ∃ (n26 : Int), r13 = .int .i64 n26 ∧
  bif (n26 != 0) then (
  K (.bool false) h27) else (
  ∃ (I3 : Int → Heap → Prop) (M3 : Int → Heap → Nat), I3 0 h27 ∧
  ∀ (i3 : Int), ∀ h28 : Heap, I3 i3 h28 →
  bif (decide (i3 < 512)) then (
  ∃ (n27 : Int), cellOf h28 (Addr.add ⟨h11.size, 0, none⟩ 0) = some (.int .i64 n27) ∧
  bif ((IntKind.wrap .i64 (Int.tdiv i3 32)) != n27) then (
  (0 ≤ i3 ∧ i3 < ((Int.toNat 512) : Int)) ∧
  ∃ (n28 : Int), cellOf h28 (Addr.add ⟨h4.size, 0, none⟩ (Int.toNat i3)) = some (.int .u8 n28) ∧
  (0 ≤ i3 ∧ i3 < (sL1 : Int)) ∧
  onSome sA1 fun p2 =>
  ∃ (n29 : Int), cellOf h28 (Addr.add p2 (Int.toNat i3)) = some (.int .u8 n29) ∧
  bif (n28 != n29) then (
  K (.bool false) h28) else (
  I3 (IntKind.wrap .i64 (i3 + 1)) h28 ∧ M3 (IntKind.wrap .i64 (i3 + 1)) h28 < M3 i3 h28)) else (
  I3 (IntKind.wrap .i64 (i3 + 1)) h28 ∧ M3 (IntKind.wrap .i64 (i3 + 1)) h28 < M3 i3 h28)) else (
  ∃ (n30 : Int), cellOf h28 (Addr.add ⟨h11.size, 0, none⟩ 0) = some (.int .i64 n30) ∧
  C.slots_Clear (some ⟨h4.size, 0, none⟩) (Int.toNat 512) (Int.toNat 512) n30 h28 fun r14 h29 =>
  ∃ (n31 : Int), r14 = .int .i64 n31 ∧
  bif (n31 != 0) then (
  K (.bool false) h29) else (
  ∃ (I4 : Int → Heap → Prop) (M4 : Int → Heap → Nat), I4 0 h29 ∧
  ∀ (i4 : Int), ∀ h30 : Heap, I4 i4 h30 →
  bif (decide (i4 < 512)) then (
  ∃ (n32 : Int), cellOf h30 (Addr.add ⟨h11.size, 0, none⟩ 0) = some (.int .i64 n32) ∧
  bif ((IntKind.wrap .i64 (Int.tdiv i4 32)) != n32) then (
  (0 ≤ i4 ∧ i4 < ((Int.toNat 512) : Int)) ∧
  ∃ (n33 : Int), cellOf h30 (Addr.add ⟨h4.size, 0, none⟩ (Int.toNat i4)) = some (.int .u8 n33) ∧
  (0 ≤ i4 ∧ i4 < (sL1 : Int)) ∧
  onSome sA1 fun p3 =>
  ∃ (n34 : Int), cellOf h30 (Addr.add p3 (Int.toNat i4)) = some (.int .u8 n34) ∧
  bif (n33 != n34) then (
  K (.bool false) h30) else (
  ∃ (n35 : Int), cellOf h30 (Addr.add ⟨h11.size, 0, none⟩ 0) = some (.int .i64 n35) ∧
  bif ((IntKind.wrap .i64 (Int.tdiv i4 32)) == n35) then (
  (0 ≤ i4 ∧ i4 < ((Int.toNat 512) : Int)) ∧
  ∃ (n36 : Int), cellOf h30 (Addr.add ⟨h4.size, 0, none⟩ (Int.toNat i4)) = some (.int .u8 n36) ∧
  bif (n36 != 0) then (
  K (.bool false) h30) else (
  I4 (IntKind.wrap .i64 (i4 + 1)) h30 ∧ M4 (IntKind.wrap .i64 (i4 + 1)) h30 < M4 i4 h30)) else (
  I4 (IntKind.wrap .i64 (i4 + 1)) h30 ∧ M4 (IntKind.wrap .i64 (i4 + 1)) h30 < M4 i4 h30))) else (
  ∃ (n37 : Int), cellOf h30 (Addr.add ⟨h11.size, 0, none⟩ 0) = some (.int .i64 n37) ∧
  bif ((IntKind.wrap .i64 (Int.tdiv i4 32)) == n37) then (
  (0 ≤ i4 ∧ i4 < ((Int.toNat 512) : Int)) ∧
  ∃ (n38 : Int), cellOf h30 (Addr.add ⟨h4.size, 0, none⟩ (Int.toNat i4)) = some (.int .u8 n38) ∧
  bif (n38 != 0) then (
  K (.bool false) h30) else (
  I4 (IntKind.wrap .i64 (i4 + 1)) h30 ∧ M4 (IntKind.wrap .i64 (i4 + 1)) h30 < M4 i4 h30)) else (
  I4 (IntKind.wrap .i64 (i4 + 1)) h30 ∧ M4 (IntKind.wrap .i64 (i4 + 1)) h30 < M4 i4 h30))) else (
  K (.bool true) h30))))
def bolelaw14_SlotsRefused.k2 (h1 : Heap) (h2 : Heap) (h4 : Heap) (h8 : Heap) (K : Value → Heap → Prop) : Prop :=
  New [] 5 h8 fun h9 =>
  ∃ new1 : List Value, List.length new1 = (Int.toNat 512) * 1 ∧ SlCells h9 (some ⟨h4.size, 0, none⟩) new1 ∧ (∀ v ∈ new1, v.oneCell' = true) ∧
  AppendP ti5 5 (some ⟨h8.size, 0, none⟩) 0 0 (Int.toNat 512) new1 h9 fun sA1 sL1 sC1 h10 =>
  ∃ cs1 : List Value, List.length cs1 = 4 ∧ Cells h10 ⟨h1.size, 0, none⟩ cs1 ∧
  C.bolelaw14_Cell_entry cs1 h10 fun r2 h11 =>
  ∃ (cs2 : List Value), r2 = .agg ⟨cs2⟩ ∧
  NewRow z30 30 cs2 3 h11 fun h13 =>
  ∃ (n2 : Int), cellOf h13 (Addr.add ⟨h2.size, 0, none⟩ 0) = some (.int .i64 n2) ∧
  ∃ (n3 : Int), cellOf h13 (Addr.add ⟨h2.size, 0, none⟩ 0) = some (.int .i64 n3) ∧
  ∃ (n4 : Int), cellOf h13 (Addr.add ⟨h11.size, 0, none⟩ 0) = some (.int .i64 n4) ∧
  ∃ (s1 : ByteArray), cellOf h13 (Addr.add ⟨h11.size, 0, none⟩ 1) = some (.string s1) ∧
  ∃ (n5 : Int), cellOf h13 (Addr.add ⟨h11.size, 0, none⟩ 0) = some (.int .i64 n5) ∧
  ∃ (s2 : ByteArray), cellOf h13 (Addr.add ⟨h11.size, 0, none⟩ 1) = some (.string s2) ∧
  ∃ (n6 : Int), cellOf h13 (Addr.add ⟨h2.size, 0, none⟩ 2) = some (.int .i64 n6) ∧
  ∃ (n7 : Int), cellOf h13 (Addr.add ⟨h11.size, 0, none⟩ 0) = some (.int .i64 n7) ∧
  ∃ (s3 : ByteArray), cellOf h13 (Addr.add ⟨h11.size, 0, none⟩ 1) = some (.string s3) ∧
  ∃ (n8 : Int), cellOf h13 (Addr.add ⟨h2.size, 0, none⟩ 2) = some (.int .i64 n8) ∧
  ∃ (n9 : Int), cellOf h13 (Addr.add ⟨h11.size, 0, none⟩ 0) = some (.int .i64 n9) ∧
  ∃ (n10 : Int), cellOf h13 (Addr.add ⟨h11.size, 0, none⟩ 0) = some (.int .i64 n10) ∧
  ∃ (n11 : Int), cellOf h13 (Addr.add ⟨h11.size, 0, none⟩ 0) = some (.int .i64 n11) ∧
  ∃ (n12 : Int), cellOf h13 (Addr.add ⟨h11.size, 0, none⟩ 0) = some (.int .i64 n12) ∧
  ∃ (s4 : ByteArray), cellOf h13 (Addr.add ⟨h2.size, 0, none⟩ 1) = some (.string s4) ∧
  (((mkStr [97, 47]).size + s4.size : Nat) : Int) ≤ 9223372036854775807 ∧
  ∃ (n13 : Int), cellOf h13 (Addr.add ⟨h11.size, 0, none⟩ 0) = some (.int .i64 n13) ∧
  ∃ (s5 : ByteArray), cellOf h13 (Addr.add ⟨h2.size, 0, none⟩ 1) = some (.string s5) ∧
  ((s5.size + (mkStr [0]).size : Nat) : Int) ≤ 9223372036854775807 ∧
  ∃ (n14 : Int), cellOf h13 (Addr.add ⟨h11.size, 0, none⟩ 0) = some (.int .i64 n14) ∧
  C.bolelaw14_mod n2 1073741824 h13 fun r3 h14 =>
  ∃ (n15 : Int), r3 = .int .i64 n15 ∧
  (cellOf h14 (Addr.add ⟨h2.size, 0, none⟩ 0) = some (.int .i64 n3)) ∧
  (cellOf h14 (Addr.add ⟨h11.size, 0, none⟩ 0) = some (.int .i64 n4)) ∧
  (cellOf h14 (Addr.add ⟨h11.size, 0, none⟩ 1) = some (.string s1)) ∧
  (cellOf h14 (Addr.add ⟨h11.size, 0, none⟩ 0) = some (.int .i64 n5)) ∧
  (cellOf h14 (Addr.add ⟨h11.size, 0, none⟩ 1) = some (.string s2)) ∧
  (cellOf h14 (Addr.add ⟨h2.size, 0, none⟩ 2) = some (.int .i64 n6)) ∧
  (cellOf h14 (Addr.add ⟨h11.size, 0, none⟩ 0) = some (.int .i64 n7)) ∧
  (cellOf h14 (Addr.add ⟨h11.size, 0, none⟩ 1) = some (.string s3)) ∧
  (cellOf h14 (Addr.add ⟨h2.size, 0, none⟩ 2) = some (.int .i64 n8)) ∧
  (cellOf h14 (Addr.add ⟨h11.size, 0, none⟩ 0) = some (.int .i64 n9)) ∧
  (cellOf h14 (Addr.add ⟨h11.size, 0, none⟩ 0) = some (.int .i64 n10)) ∧
  (cellOf h14 (Addr.add ⟨h11.size, 0, none⟩ 0) = some (.int .i64 n11)) ∧
  (cellOf h14 (Addr.add ⟨h11.size, 0, none⟩ 0) = some (.int .i64 n12)) ∧
  (cellOf h14 (Addr.add ⟨h2.size, 0, none⟩ 1) = some (.string s4)) ∧
  (cellOf h14 (Addr.add ⟨h11.size, 0, none⟩ 0) = some (.int .i64 n13)) ∧
  (cellOf h14 (Addr.add ⟨h2.size, 0, none⟩ 1) = some (.string s5)) ∧
  (cellOf h14 (Addr.add ⟨h11.size, 0, none⟩ 0) = some (.int .i64 n14)) ∧
  C.bolelaw14_mod n3 1073741824 h14 fun r4 h15 =>
  ∃ (n16 : Int), r4 = .int .i64 n16 ∧
  (cellOf h15 (Addr.add ⟨h11.size, 0, none⟩ 0) = some (.int .i64 n4)) ∧
  (cellOf h15 (Addr.add ⟨h11.size, 0, none⟩ 1) = some (.string s1)) ∧
  (cellOf h15 (Addr.add ⟨h11.size, 0, none⟩ 0) = some (.int .i64 n5)) ∧
  (cellOf h15 (Addr.add ⟨h11.size, 0, none⟩ 1) = some (.string s2)) ∧
  (cellOf h15 (Addr.add ⟨h2.size, 0, none⟩ 2) = some (.int .i64 n6)) ∧
  (cellOf h15 (Addr.add ⟨h11.size, 0, none⟩ 0) = some (.int .i64 n7)) ∧
  (cellOf h15 (Addr.add ⟨h11.size, 0, none⟩ 1) = some (.string s3)) ∧
  (cellOf h15 (Addr.add ⟨h2.size, 0, none⟩ 2) = some (.int .i64 n8)) ∧
  (cellOf h15 (Addr.add ⟨h11.size, 0, none⟩ 0) = some (.int .i64 n9)) ∧
  (cellOf h15 (Addr.add ⟨h11.size, 0, none⟩ 0) = some (.int .i64 n10)) ∧
  (cellOf h15 (Addr.add ⟨h11.size, 0, none⟩ 0) = some (.int .i64 n11)) ∧
  (cellOf h15 (Addr.add ⟨h11.size, 0, none⟩ 0) = some (.int .i64 n12)) ∧
  (cellOf h15 (Addr.add ⟨h2.size, 0, none⟩ 1) = some (.string s4)) ∧
  (cellOf h15 (Addr.add ⟨h11.size, 0, none⟩ 0) = some (.int .i64 n13)) ∧
  (cellOf h15 (Addr.add ⟨h2.size, 0, none⟩ 1) = some (.string s5)) ∧
  (cellOf h15 (Addr.add ⟨h11.size, 0, none⟩ 0) = some (.int .i64 n14)) ∧
  C.bolelaw14_mod n6 1073741824 h15 fun r5 h16 =>
  ∃ (n17 : Int), r5 = .int .i64 n17 ∧
  (cellOf h16 (Addr.add ⟨h11.size, 0, none⟩ 0) = some (.int .i64 n4)) ∧
  (cellOf h16 (Addr.add ⟨h11.size, 0, none⟩ 1) = some (.string s1)) ∧
  (cellOf h16 (Addr.add ⟨h11.size, 0, none⟩ 0) = some (.int .i64 n5)) ∧
  (cellOf h16 (Addr.add ⟨h11.size, 0, none⟩ 1) = some (.string s2)) ∧
  (cellOf h16 (Addr.add ⟨h11.size, 0, none⟩ 0) = some (.int .i64 n7)) ∧
  (cellOf h16 (Addr.add ⟨h11.size, 0, none⟩ 1) = some (.string s3)) ∧
  (cellOf h16 (Addr.add ⟨h2.size, 0, none⟩ 2) = some (.int .i64 n8)) ∧
  (cellOf h16 (Addr.add ⟨h11.size, 0, none⟩ 0) = some (.int .i64 n9)) ∧
  (cellOf h16 (Addr.add ⟨h11.size, 0, none⟩ 0) = some (.int .i64 n10)) ∧
  (cellOf h16 (Addr.add ⟨h11.size, 0, none⟩ 0) = some (.int .i64 n11)) ∧
  (cellOf h16 (Addr.add ⟨h11.size, 0, none⟩ 0) = some (.int .i64 n12)) ∧
  (cellOf h16 (Addr.add ⟨h2.size, 0, none⟩ 1) = some (.string s4)) ∧
  (cellOf h16 (Addr.add ⟨h11.size, 0, none⟩ 0) = some (.int .i64 n13)) ∧
  (cellOf h16 (Addr.add ⟨h2.size, 0, none⟩ 1) = some (.string s5)) ∧
  (cellOf h16 (Addr.add ⟨h11.size, 0, none⟩ 0) = some (.int .i64 n14)) ∧
  C.bolelaw14_mod n8 1073741824 h16 fun r6 h17 =>
  ∃ (n18 : Int), r6 = .int .i64 n18 ∧
  (cellOf h17 (Addr.add ⟨h11.size, 0, none⟩ 0) = some (.int .i64 n4)) ∧
  (cellOf h17 (Addr.add ⟨h11.size, 0, none⟩ 1) = some (.string s1)) ∧
  (cellOf h17 (Addr.add ⟨h11.size, 0, none⟩ 0) = some (.int .i64 n5)) ∧
  (cellOf h17 (Addr.add ⟨h11.size, 0, none⟩ 1) = some (.string s2)) ∧
  (cellOf h17 (Addr.add ⟨h11.size, 0, none⟩ 0) = some (.int .i64 n7)) ∧
  (cellOf h17 (Addr.add ⟨h11.size, 0, none⟩ 1) = some (.string s3)) ∧
  (cellOf h17 (Addr.add ⟨h11.size, 0, none⟩ 0) = some (.int .i64 n9)) ∧
  (cellOf h17 (Addr.add ⟨h11.size, 0, none⟩ 0) = some (.int .i64 n10)) ∧
  (cellOf h17 (Addr.add ⟨h11.size, 0, none⟩ 0) = some (.int .i64 n11)) ∧
  (cellOf h17 (Addr.add ⟨h11.size, 0, none⟩ 0) = some (.int .i64 n12)) ∧
  (cellOf h17 (Addr.add ⟨h2.size, 0, none⟩ 1) = some (.string s4)) ∧
  (cellOf h17 (Addr.add ⟨h11.size, 0, none⟩ 0) = some (.int .i64 n13)) ∧
  (cellOf h17 (Addr.add ⟨h2.size, 0, none⟩ 1) = some (.string s5)) ∧
  (cellOf h17 (Addr.add ⟨h11.size, 0, none⟩ 0) = some (.int .i64 n14)) ∧
  List.length ([.int .i64 (IntKind.wrap .i64 ((-1) - n15)), .string (mkStr [97]), .int .i64 1] : List Value) = 3 ∧
  List.length ([.int .i64 (IntKind.wrap .i64 (16 + n16)), .string (mkStr [97]), .int .i64 1] : List Value) = 3 ∧
  List.length ([.int .i64 n4, .string s1, .int .i64 0] : List Value) = 3 ∧
  List.length ([.int .i64 n5, .string s2, .int .i64 (IntKind.wrap .i64 ((-1) - n17))] : List Value) = 3 ∧
  List.length ([.int .i64 n7, .string s3, .int .i64 (IntKind.wrap .i64 (4294967296 + n18))] : List Value) = 3 ∧
  List.length ([.int .i64 n9, .string (mkStr []), .int .i64 1] : List Value) = 3 ∧
  List.length ([.int .i64 n10, .string (mkStr [46]), .int .i64 1] : List Value) = 3 ∧
  List.length ([.int .i64 n11, .string (mkStr [46, 46]), .int .i64 1] : List Value) = 3 ∧
  List.length ([.int .i64 n12, .string ((mkStr [97, 47]) ++ s4), .int .i64 1] : List Value) = 3 ∧
  List.length ([.int .i64 n13, .string (s5 ++ (mkStr [0])), .int .i64 1] : List Value) = 3 ∧
  List.length ([.int .i64 n14, .string (mkStr [49, 50, 51, 52, 53, 54, 55, 56, 57, 48, 49, 50, 51, 52, 53, 54, 55, 56, 57, 48, 49, 50, 51, 52, 53, 54, 55, 56]), .int .i64 1] : List Value) = 3 ∧
  New [.int .i64 (IntKind.wrap .i64 ((-1) - n15)), .string (mkStr [97]), .int .i64 1, .int .i64 (IntKind.wrap .i64 (16 + n16)), .string (mkStr [97]), .int .i64 1, .int .i64 n4, .string s1, .int .i64 0, .int .i64 n5, .string s2, .int .i64 (IntKind.wrap .i64 ((-1) - n17)), .int .i64 n7, .string s3, .int .i64 (IntKind.wrap .i64 (4294967296 + n18)), .int .i64 n9, .string (mkStr []), .int .i64 1, .int .i64 n10, .string (mkStr [46]), .int .i64 1, .int .i64 n11, .string (mkStr [46, 46]), .int .i64 1, .int .i64 n12, .string ((mkStr [97, 47]) ++ s4), .int .i64 1, .int .i64 n13, .string (s5 ++ (mkStr [0])), .int .i64 1, .int .i64 n14, .string (mkStr [49, 50, 51, 52, 53, 54, 55, 56, 57, 48, 49, 50, 51, 52, 53, 54, 55, 56, 57, 48, 49, 50, 51, 52, 53, 54, 55, 56]), .int .i64 1] 30 h17 fun h18 =>
  ∃ (I2 : Int → Heap → Prop) (M2 : Int → Heap → Nat), I2 0 h18 ∧
  ∀ (i2 : Int), ∀ h19 : Heap, I2 i2 h19 →
  bif (decide (i2 < (11 : Int))) then (
  (0 ≤ i2 ∧ i2 < (11 : Int)) ∧
  ∃ cs3 : List Value, List.length cs3 = 3 ∧ Cells h19 (Addr.add ⟨h17.size, 0, none⟩ ((Int.toNat i2) * 3)) cs3 ∧
  C.slots_Put (some ⟨h4.size, 0, none⟩) (Int.toNat 512) (Int.toNat 512) cs3 h19 fun r7 h20 =>
  ∃ (n19 : Int), r7 = .int .i64 n19 ∧
  bif (n19 != 140) then (
  K (.bool false) h20) else (
  I2 (IntKind.wrap .i64 (i2 + 1)) h20 ∧ M2 (IntKind.wrap .i64 (i2 + 1)) h20 < M2 i2 h19)) else (
  (0 ≤ (0 : Int) ∧ 0 < (11 : Int)) ∧
  ∃ (n20 : Int), cellOf h19 (Addr.add (Addr.add ⟨h17.size, 0, none⟩ ((Int.toNat 0) * 3)) 0) = some (.int .i64 n20) ∧
  C.slots_Clear (some ⟨h4.size, 0, none⟩) (Int.toNat 512) (Int.toNat 512) n20 h19 fun r8 h21 =>
  ∃ (n21 : Int), r8 = .int .i64 n21 ∧
  bif (n21 != 140) then (
  K (.bool false) h21) else (
  (0 ≤ (1 : Int) ∧ 1 < (11 : Int)) ∧
  ∃ (n22 : Int), cellOf h21 (Addr.add (Addr.add ⟨h17.size, 0, none⟩ ((Int.toNat 1) * 3)) 0) = some (.int .i64 n22) ∧
  C.slots_Clear (some ⟨h4.size, 0, none⟩) (Int.toNat 512) (Int.toNat 512) n22 h21 fun r9 h22 =>
  ∃ (n23 : Int), r9 = .int .i64 n23 ∧
  bif (n23 != 140) then (
  K (.bool false) h22) else (
  (0 ≤ (511 : Int) ∧ (511 : Int) ≤ ((Int.toNat 512) : Int)) ∧
  ∃ cs4 : List Value, List.length cs4 = 3 ∧ Cells h22 ⟨h11.size, 0, none⟩ cs4 ∧
  C.slots_Put (some ⟨h4.size, 0, none⟩) (Int.toNat 511) (Int.toNat 512) cs4 h22 fun r10 h23 =>
  ∃ (n24 : Int), r10 = .int .i64 n24 ∧
  bif (n24 != 32) then (
  K (.bool false) h23) else (
  (0 ≤ (1 : Int) ∧ 1 ≤ ((Int.toNat 512) : Int)) ∧
  C.slots_Clear (if (Int.toNat 512) = (Int.toNat 1) then (some ⟨h4.size, 0, none⟩) else Option.map (Addr.add · (Int.toNat 1)) (some ⟨h4.size, 0, none⟩)) ((Int.toNat 512) - (Int.toNat 1)) ((Int.toNat 512) - (Int.toNat 1)) 0 h23 fun r11 h24 =>
  ∃ (n25 : Int), r11 = .int .i64 n25 ∧
  bif (n25 != 32) then (
  K (.bool false) h24) else (
  C.bolelaw14_sameBytes (some ⟨h4.size, 0, none⟩) (Int.toNat 512) (Int.toNat 512) sA1 sL1 sC1 h24 fun r12 h25 =>
  ∃ (b2 : Bool), r12 = .bool b2 ∧
  bif (!b2) then (
  K (.bool false) h25) else (
  bolelaw14_SlotsRefused.k3 h4 sA1 sL1 h11 h25 K))))))
def bolelaw14_SlotsRefused (bA1 : Option Addr) (bL1 : Nat) (bC1 : Nat) (c1 : List Value) (bad1 : List Value) (K : Value → Heap → Prop) (h1 : Heap) : Prop :=
  New c1 58 h1 fun h2 =>
  New bad1 30 h2 fun h3 =>
  C.bolelaw14_fixed  h3 fun r1 h4 =>
  ∃ (b1 : Bool), r1 = .bool b1 ∧
  bif (!b1) then (
  K (.bool false) h4) else (
  (0 ≤ (512 : Int) ∧ (512 : Int) ≤ 512 ∧ (1 : Int) * 512 ≤ 281474976710656 ∧ (512 : Int) ≤ 281474976710656) ∧
  New (repCells z5 (Int.toNat 512)) 5 h4 fun h5 =>
  ∃ (I1 : Int → Heap → Prop) (M1 : Int → Heap → Nat), I1 0 h5 ∧
  ∀ (i1 : Int), ∀ h6 : Heap, I1 i1 h6 →
  bif (decide (i1 < (bL1 : Int))) then (
  bif (decide (i1 < 512)) then (
  bolelaw14_SlotsRefused.k1 bA1 bL1 h4 i1 h6 I1 M1 K) else (
  bolelaw14_SlotsRefused.k2 h1 h2 h4 h6 K)) else (
  bolelaw14_SlotsRefused.k2 h1 h2 h4 h6 K))
def bolelaw14_SlotsRefused.lo : Nat → List Nat × List (Nat × Ty) := fun n => match n with | 5 => ([0, 4, 5, 7], [(8, .int .i64)]) | 12 => ([7, 9, 10, 11], [(12, .int .i64)]) | 21 => ([7, 9, 10], [(13, .int .i64)]) | 28 => ([7, 9, 10], [(14, .int .i64)]) | _ => ([], [])
set_option maxRecDepth 100000 in
def bolelaw14_SlotsRefused.od : Nat → Od := fun n => match n with | 10 => (.op 0 [] (.op 1 [] (.op 5 [] (.op 6 [] (.op 10 [] (.op 11 [] (.op 12 [] (.op 13 [] (.op 14 [] (.op 15 [] (.op 16 [] (.op 17 [] (.op 18 [] (.op 19 [] (.op 20 [] (.op 24 [] (.op 25 [] (.op 26 [] (.op 27 [] (.op 28 [] (.op 29 [] (.op 33 [] (.op 34 [] (.op 35 [] (.op 36 [] (.op 37 [] (.op 38 [] (.op 39 [] (.op 40 [] (.op 41 [] (.op 42 [] (.op 43 [] (.op 44 [] (.op 45 [] (.op 46 [] (.op 47 [] (.op 48 [] (.op 49 [] (.op 50 [] (.op 51 [] (.op 52 [] (.op 53 [] (.op 54 [] (.op 55 [] (.op 56 [] (.op 2 [6, 11, 13, 16, 18, 20, 25, 27, 29, 34, 37, 40, 43, 45, 49, 51, 55] (.op 3 [] (.op 4 [] (.op 7 [11, 13, 16, 18, 20, 25, 27, 29, 34, 37, 40, 43, 45, 49, 51, 55] (.op 8 [] (.op 9 [] (.op 21 [11, 13, 16, 18, 25, 27, 29, 34, 37, 40, 43, 45, 49, 51, 55] (.op 22 [] (.op 23 [] (.op 30 [11, 13, 16, 18, 25, 27, 34, 37, 40, 43, 45, 49, 51, 55] (.op 31 [] (.op 32 [] (.op 57 [] (.op 58 [] .nil))))))))))))))))))))))))))))))))))))))))))))))))))))))))))) | 16 => (.op 0 [] (.op 1 [] (.op 2 [] (.op 3 [] (.op 4 [] (.op 5 [] (.op 6 [] (.op 7 [] (.op 8 [] (.op 9 [] (.op 10 [] (.op 11 [] (.op 12 [] (.op 13 [] (.op 14 [] (.op 15 [] (.op 16 [] (.op 17 [] (.op 18 [] (.op 19 [] (.op 20 [] (.op 21 [] (.op 22 [] (.op 23 [] (.op 24 [] (.op 25 [] (.op 26 [] (.op 27 [] (.op 28 [] (.op 29 [] (.op 30 [] (.op 31 [] (.op 32 [] (.op 33 [] (.op 34 [] .nil))))))))))))))))))))))))))))))))))) | 23 => (.op 0 [] (.op 1 [] (.op 2 [] (.op 3 [] (.op 4 [] (.op 5 [] (.op 6 [] (.op 7 [] (.op 8 [] (.op 9 [] (.op 10 [] (.op 11 [] (.op 12 [] (.op 13 [] (.op 14 [] (.op 15 [] .nil)))))))))))))))) | 30 => (.op 0 [] (.op 1 [] (.op 2 [] (.op 3 [] (.op 4 [] (.op 5 [] (.op 6 [] (.op 7 [] (.op 8 [] (.op 9 [] (.op 10 [] (.op 11 [] (.op 12 [] (.op 13 [] (.op 14 [] (.op 15 [] (.op 16 [] (.op 17 [] (.op 18 [] (.op 19 [] (.op 20 [] (.op 21 [] (.op 22 [] (.op 23 [] (.op 24 [] (.op 25 [] (.op 26 [] (.op 27 [] (.op 28 [] (.op 29 [] .nil)))))))))))))))))))))))))))))) | _ => .nil
set_option maxRecDepth 100000 in
theorem bolelaw14_SlotsRefused.eq (bA1 : Option Addr) (bL1 : Nat) (bC1 : Nat) (c1 : List Value) (bad1 : List Value) (K : Value → Heap → Prop) (h : Heap) : fnX (cx bolelaw14_SlotsRefused.lo bolelaw14_SlotsRefused.od) Tryd.f7 (Tryd.f7.body.getD .skip) [.slice bA1 bL1 bC1, .agg ⟨c1⟩, .agg ⟨bad1⟩] K h = bolelaw14_SlotsRefused bA1 bL1 bC1 c1 bad1 K h := by kernel_rfl
theorem bolelaw14_SlotsRefused.chk : fnOk (cx bolelaw14_SlotsRefused.lo bolelaw14_SlotsRefused.od) Tryd.f7 (Tryd.f7.body.getD .skip) 3 = true := by kernel_rfl
set_option maxRecDepth 100000 in
theorem bolelaw14_SlotsRefused.ok {bA1 : Option Addr} {bL1 : Nat} {bC1 : Nat} {c1 : List Value} {bad1 : List Value} {K : Value → Heap → Prop} {h : Heap} (hx : bolelaw14_SlotsRefused bA1 bL1 bC1 c1 bad1 K h) : C.bolelaw14_SlotsRefused bA1 bL1 bC1 c1 bad1 h K :=
  fn_to (cxOk _ _) Tryd.func7 (by kernel_rfl) bolelaw14_SlotsRefused.chk (by rw [bolelaw14_SlotsRefused.eq]; exact hx)

-- 8
def bolelaw14_fixed.k1 (h1 : Heap) (h8 : Heap) (K : Value → Heap → Prop) : Prop :=
  C.slots_Clear (some ⟨h1.size, 0, none⟩) (Int.toNat 512) (Int.toNat 512) 2 h8 fun r5 h9 =>
  ∃ (n5 : Int), r5 = .int .i64 n5 ∧
  bif (n5 == 0) then (
  (0 ≤ (512 : Int) ∧ (512 : Int) ≤ 512 ∧ (1 : Int) * 512 ≤ 281474976710656 ∧ (512 : Int) ≤ 281474976710656) ∧
  New (repCells z5 (Int.toNat 512)) 5 h9 fun h10 =>
  C.bolelaw14_sameBytes (some ⟨h1.size, 0, none⟩) (Int.toNat 512) (Int.toNat 512) (some ⟨h9.size, 0, none⟩) (Int.toNat 512) (Int.toNat 512) h10 fun r6 h11 =>
  ∃ (b2 : Bool), r6 = .bool b2 ∧
  K (.bool b2) h11) else (
  K (.bool false) h9)
def bolelaw14_fixed  (K : Value → Heap → Prop) (h1 : Heap) : Prop :=
  (0 ≤ (512 : Int) ∧ (512 : Int) ≤ 512 ∧ (1 : Int) * 512 ≤ 281474976710656 ∧ (512 : Int) ≤ 281474976710656) ∧
  New (repCells z5 (Int.toNat 512)) 5 h1 fun h2 =>
  C.slots_Put (some ⟨h1.size, 0, none⟩) (Int.toNat 512) (Int.toNat 512) [.int .i64 2, .string (mkStr [97, 98]), .int .i64 258] h2 fun r1 h3 =>
  ∃ (n1 : Int), r1 = .int .i64 n1 ∧
  C.slots_Read (some ⟨h1.size, 0, none⟩) (Int.toNat 512) (Int.toNat 512) h3 fun r2 h4 =>
  ∃ (sA1 : Option Addr) (sL1 : Nat) (sC1 : Nat) (n2 : Int), r2 = .tuple #[.slice sA1 sL1 sC1, .int .i64 n2] ∧
  C.slots_Lowest (some ⟨h1.size, 0, none⟩) (Int.toNat 512) (Int.toNat 512) h4 fun r3 h5 =>
  ∃ (n3 : Int) (n4 : Int), r3 = .tuple #[.int .i64 n3, .int .i64 n4] ∧
  bif (n1 != 0) then (
  K (.bool false) h5) else (
  bif (n2 != 0) then (
  K (.bool false) h5) else (
  bif (n4 != 0) then (
  K (.bool false) h5) else (
  bif (n3 != 0) then (
  K (.bool false) h5) else (
  (0 ≤ (64 : Int) ∧ (64 : Int) ≤ (71 : Int) ∧ (71 : Int) ≤ ((Int.toNat 512) : Int)) ∧
  ∃ bs1 : List UInt8, StrAt h5 (if (Int.toNat 512) = (Int.toNat 64) then (some ⟨h1.size, 0, none⟩) else Option.map (Addr.add · (Int.toNat 64)) (some ⟨h1.size, 0, none⟩)) ((Int.toNat 71) - (Int.toNat 64)) bs1 ∧
  bif (!((mkStr bs1).toList == (mkStr [2, 1, 0, 0, 2, 97, 98]).toList)) then (
  K (.bool false) h5) else (
  List.length ([.int .i64 2, .string (mkStr [97, 98]), .int .i64 258] : List Value) = 3 ∧
  New [.int .i64 2, .string (mkStr [97, 98]), .int .i64 258] 30 h5 fun h6 =>
  C.bolelaw14_sameEntries sA1 sL1 sC1 (some ⟨h5.size, 0, none⟩) 1 1 h6 fun r4 h7 =>
  ∃ (b1 : Bool), r4 = .bool b1 ∧
  bif (!b1) then (
  K (.bool false) h7) else (
  bolelaw14_fixed.k1 h1 h7 K))))))
def bolelaw14_fixed.lo : Nat → List Nat × List (Nat × Ty) := fun n => match n with | _ => ([], [])
def bolelaw14_fixed.od : Nat → Od := fun n => match n with | _ => .nil
theorem bolelaw14_fixed.eq  (K : Value → Heap → Prop) (h : Heap) : fnX (cx bolelaw14_fixed.lo bolelaw14_fixed.od) Tryd.f8 (Tryd.f8.body.getD .skip) [] K h = bolelaw14_fixed  K h := by kernel_rfl
theorem bolelaw14_fixed.chk : fnOk (cx bolelaw14_fixed.lo bolelaw14_fixed.od) Tryd.f8 (Tryd.f8.body.getD .skip) 0 = true := by kernel_rfl
theorem bolelaw14_fixed.ok  {K : Value → Heap → Prop} {h : Heap} (hx : bolelaw14_fixed  K h) : C.bolelaw14_fixed  h K :=
  fn_to (cxOk _ _) Tryd.func8 (by kernel_rfl) bolelaw14_fixed.chk (by rw [bolelaw14_fixed.eq]; exact hx)

-- 9
def boleref14_Read (bA1 : Option Addr) (bL1 : Nat) (bC1 : Nat) (K : Value → Heap → Prop) (h1 : Heap) : Prop :=
  bif ((bL1 : Int) != 512) then (
  K (.tuple #[.slice none 0 0, .int .i64 32]) h1) else (
  ∃ (I1 : Option Addr → Nat → Nat → Int → Heap → Prop) (M1 : Option Addr → Nat → Nat → Int → Heap → Nat), I1 none 0 0 0 h1 ∧
  ∀ (lA1 : Option Addr) (lL1 : Nat) (lC1 : Nat) (k1 : Int), ∀ h2 : Heap, I1 lA1 lL1 lC1 k1 h2 →
  bif (decide (k1 < 16)) then (
  (0 ≤ (IntKind.wrap .i64 (32 * k1)) ∧ (IntKind.wrap .i64 (32 * k1)) ≤ (IntKind.wrap .i64 ((IntKind.wrap .i64 (32 * k1)) + 32)) ∧ (IntKind.wrap .i64 ((IntKind.wrap .i64 (32 * k1)) + 32)) ≤ (bC1 : Int)) ∧
  C.boleref14_one (if bC1 = (Int.toNat (IntKind.wrap .i64 (32 * k1))) then bA1 else Option.map (Addr.add · (Int.toNat (IntKind.wrap .i64 (32 * k1)))) bA1) ((Int.toNat (IntKind.wrap .i64 ((IntKind.wrap .i64 (32 * k1)) + 32))) - (Int.toNat (IntKind.wrap .i64 (32 * k1)))) (bC1 - (Int.toNat (IntKind.wrap .i64 (32 * k1)))) h2 fun r1 h3 =>
  ∃ (n1 : Int) (s1 : ByteArray) (b1 : Bool), r1 = .tuple #[.int .i64 n1, .string s1, .bool b1] ∧
  bif (!b1) then (
  K (.tuple #[.slice none 0 0, .int .i64 140]) h3) else (
  bif (n1 != 0) then (
  List.length ([.int .i64 k1, .string s1, .int .i64 n1] : List Value) = 3 ∧
  New [.int .i64 k1, .string s1, .int .i64 n1] 30 h3 fun h4 =>
  ∃ new1 : List Value, List.length new1 = 1 * 3 ∧ SlCells h4 (some ⟨h3.size, 0, none⟩) new1 ∧ (∀ v ∈ new1, v.oneCell' = true) ∧
  AppendP ti30 30 lA1 lL1 lC1 1 new1 h4 fun sA1 sL1 sC1 h5 =>
  I1 sA1 sL1 sC1 (IntKind.wrap .i64 (k1 + 1)) h5 ∧ M1 sA1 sL1 sC1 (IntKind.wrap .i64 (k1 + 1)) h5 < M1 lA1 lL1 lC1 k1 h2) else (
  I1 lA1 lL1 lC1 (IntKind.wrap .i64 (k1 + 1)) h3 ∧ M1 lA1 lL1 lC1 (IntKind.wrap .i64 (k1 + 1)) h3 < M1 lA1 lL1 lC1 k1 h2))) else (
  K (.tuple #[.slice lA1 lL1 lC1, .int .i64 0]) h2))
def boleref14_Read.lo : Nat → List Nat × List (Nat × Ty) := fun n => match n with | 5 => ([0], [(4, .slice), (5, .int .i64)]) | _ => ([], [])
def boleref14_Read.od : Nat → Od := fun n => match n with | _ => .nil
theorem boleref14_Read.eq (bA1 : Option Addr) (bL1 : Nat) (bC1 : Nat) (K : Value → Heap → Prop) (h : Heap) : fnX (cx boleref14_Read.lo boleref14_Read.od) Tryd.f9 (Tryd.f9.body.getD .skip) [.slice bA1 bL1 bC1] K h = boleref14_Read bA1 bL1 bC1 K h := by kernel_rfl
theorem boleref14_Read.chk : fnOk (cx boleref14_Read.lo boleref14_Read.od) Tryd.f9 (Tryd.f9.body.getD .skip) 1 = true := by kernel_rfl
theorem boleref14_Read.ok {bA1 : Option Addr} {bL1 : Nat} {bC1 : Nat} {K : Value → Heap → Prop} {h : Heap} (hx : boleref14_Read bA1 bL1 bC1 K h) : C.boleref14_Read bA1 bL1 bC1 h K :=
  fn_to (cxOk _ _) Tryd.func9 (by kernel_rfl) boleref14_Read.chk (by rw [boleref14_Read.eq]; exact hx)

-- 10
def bolelaw14_Book_read.k1 (k1 : Option Addr) (wantA1 : Option Addr) (wantL1 : Nat) (sA1 : Option Addr) (sL1 : Nat) (sC1 : Nat) (sA2 : Option Addr) (sL2 : Nat) (sC2 : Nat) (h6 : Heap) (K : Value → Heap → Prop) : Prop :=
  onSome k1 fun p1 =>
  ∃ (sA3 : Option Addr) (sL3 : Nat) (sC3 : Nat), cellOf h6 (Addr.add p1 2) = some (.slice sA3 sL3 sC3) ∧
  NewRow z30 30 [.int .i64 (IntKind.wrap .i64 ((-2) - (sL3 : Int))), .string (mkStr [109, 97, 114, 107]), .int .i64 0] 3 h6 fun h8 =>
  ∃ (I1 : Int → Heap → Prop) (M1 : Int → Heap → Nat), I1 0 h8 ∧
  ∀ (i1 : Int), ∀ h9 : Heap, I1 i1 h9 →
  bif (decide (i1 < (sL2 : Int))) then (
  ∃ cs1 : List Value, List.length cs1 = 3 ∧ Cells h9 ⟨h6.size, 0, none⟩ cs1 ∧
  (0 ≤ i1 ∧ i1 < (sL2 : Int)) ∧
  onSome sA2 fun p2 =>
  PutRow (Addr.add p2 ((Int.toNat i1) * 3)) cs1 3 h9 fun h10 =>
  I1 (IntKind.wrap .i64 (i1 + 1)) h10 ∧ M1 (IntKind.wrap .i64 (i1 + 1)) h10 < M1 i1 h9) else (
  onSome k1 fun p3 =>
  ∃ (sA4 : Option Addr) (sL4 : Nat) (sC4 : Nat), cellOf h9 (Addr.add p3 0) = some (.slice sA4 sL4 sC4) ∧
  New [.slice sA1 sL1 sC1] 33 h9 fun h11 =>
  ∃ new1 : List Value, List.length new1 = 1 * 1 ∧ SlCells h11 (some ⟨h9.size, 0, none⟩) new1 ∧ (∀ v ∈ new1, v.oneCell' = true) ∧
  AppendP ti33 33 sA4 sL4 sC4 1 new1 h11 fun sA5 sL5 sC5 h12 =>
  onSome k1 fun p4 =>
  Put (Addr.add p4 0) (.slice sA5 sL5 sC5) h12 fun h13 =>
  onSome k1 fun p5 =>
  ∃ (sA6 : Option Addr) (sL6 : Nat) (sC6 : Nat), cellOf h13 (Addr.add p5 1) = some (.slice sA6 sL6 sC6) ∧
  New [] 30 h13 fun h14 =>
  (cellOf h14 (Addr.add p5 1) = some (.slice sA6 sL6 sC6)) ∧
  ∃ new2 : List Value, List.length new2 = wantL1 * 3 ∧ SlCells h14 wantA1 new2 ∧ (∀ v ∈ new2, v.oneCell' = true) ∧
  AppendP ti30 30 (some ⟨h13.size, 0, none⟩) 0 0 wantL1 new2 h14 fun sA7 sL7 sC7 h15 =>
  (cellOf h15 (Addr.add p5 1) = some (.slice sA6 sL6 sC6)) ∧
  New [.slice sA7 sL7 sC7] 33 h15 fun h16 =>
  (cellOf h16 (Addr.add p5 1) = some (.slice sA6 sL6 sC6)) ∧
  ∃ new3 : List Value, List.length new3 = 1 * 1 ∧ SlCells h16 (some ⟨h15.size, 0, none⟩) new3 ∧ (∀ v ∈ new3, v.oneCell' = true) ∧
  AppendP ti33 33 sA6 sL6 sC6 1 new3 h16 fun sA8 sL8 sC8 h17 =>
  onSome k1 fun p6 =>
  Put (Addr.add p6 1) (.slice sA8 sL8 sC8) h17 fun h18 =>
  onSome k1 fun p7 =>
  ∃ (sA9 : Option Addr) (sL9 : Nat) (sC9 : Nat), cellOf h18 (Addr.add p7 2) = some (.slice sA9 sL9 sC9) ∧
  New [.slice sA2 sL2 sC2] 33 h18 fun h19 =>
  ∃ new4 : List Value, List.length new4 = 1 * 1 ∧ SlCells h19 (some ⟨h18.size, 0, none⟩) new4 ∧ (∀ v ∈ new4, v.oneCell' = true) ∧
  AppendP ti33 33 sA9 sL9 sC9 1 new4 h19 fun sA10 sL10 sC10 h20 =>
  onSome k1 fun p8 =>
  Put (Addr.add p8 2) (.slice sA10 sL10 sC10) h20 fun h21 =>
  onSome k1 fun p9 =>
  ∃ (sA11 : Option Addr) (sL11 : Nat) (sC11 : Nat), cellOf h21 (Addr.add p9 3) = some (.slice sA11 sL11 sC11) ∧
  ∃ cs2 : List Value, List.length cs2 = 3 ∧ Cells h21 ⟨h6.size, 0, none⟩ cs2 ∧
  List.length (cs2 : List Value) = 3 ∧
  New cs2 30 h21 fun h22 =>
  (cellOf h22 (Addr.add p9 3) = some (.slice sA11 sL11 sC11)) ∧
  ∃ new5 : List Value, List.length new5 = 1 * 3 ∧ SlCells h22 (some ⟨h21.size, 0, none⟩) new5 ∧ (∀ v ∈ new5, v.oneCell' = true) ∧
  AppendP ti30 30 sA2 sL2 sC2 1 new5 h22 fun sA12 sL12 sC12 h23 =>
  (cellOf h23 (Addr.add p9 3) = some (.slice sA11 sL11 sC11)) ∧
  New [.slice sA12 sL12 sC12] 33 h23 fun h24 =>
  (cellOf h24 (Addr.add p9 3) = some (.slice sA11 sL11 sC11)) ∧
  ∃ new6 : List Value, List.length new6 = 1 * 1 ∧ SlCells h24 (some ⟨h23.size, 0, none⟩) new6 ∧ (∀ v ∈ new6, v.oneCell' = true) ∧
  AppendP ti33 33 sA11 sL11 sC11 1 new6 h24 fun sA13 sL13 sC13 h25 =>
  onSome k1 fun p10 =>
  Put (Addr.add p10 3) (.slice sA13 sL13 sC13) h25 fun h26 =>
  K (.bool true) h26)
def bolelaw14_Book_read (k1 : Option Addr) (bA1 : Option Addr) (bL1 : Nat) (bC1 : Nat) (wantA1 : Option Addr) (wantL1 : Nat) (wantC1 : Nat) (f1 : Int) (K : Value → Heap → Prop) (h1 : Heap) : Prop :=
  C.slots_Read bA1 bL1 bC1 h1 fun r1 h2 =>
  ∃ (sA1 : Option Addr) (sL1 : Nat) (sC1 : Nat) (n1 : Int), r1 = .tuple #[.slice sA1 sL1 sC1, .int .i64 n1] ∧
  C.slots_Read bA1 bL1 bC1 h2 fun r2 h3 =>
  ∃ (sA2 : Option Addr) (sL2 : Nat) (sC2 : Nat) (n2 : Int), r2 = .tuple #[.slice sA2 sL2 sC2, .int .i64 n2] ∧
  bif (n1 != f1) then (
  K (.bool false) h3) else (
  bif (n2 != f1) then (
  K (.bool false) h3) else (
  C.bolelaw14_sameEntries sA1 sL1 sC1 wantA1 wantL1 wantC1 h3 fun r3 h4 =>
  ∃ (b1 : Bool), r3 = .bool b1 ∧
  bif (!b1) then (
  K (.bool false) h4) else (
  C.bolelaw14_sameEntries sA2 sL2 sC2 wantA1 wantL1 wantC1 h4 fun r4 h5 =>
  ∃ (b2 : Bool), r4 = .bool b2 ∧
  bif (!b2) then (
  K (.bool false) h5) else (
  bolelaw14_Book_read.k1 k1 wantA1 wantL1 sA1 sL1 sC1 sA2 sL2 sC2 h5 K))))
def bolelaw14_Book_read.lo : Nat → List Nat × List (Nat × Ty) := fun n => match n with | 7 => ([0, 2, 9, 11, 13], [(14, .int .i64)]) | _ => ([], [])
def bolelaw14_Book_read.od : Nat → Od := fun n => match n with | 11 => (.op 0 [] (.op 1 [] (.op 2 [] (.op 3 [] (.op 4 [] (.op 6 [] (.op 5 [4] (.op 7 [4] (.op 8 [4] (.op 9 [] (.op 10 [] (.op 11 [] (.op 12 [] .nil))))))))))))) | 13 => (.op 0 [] (.op 1 [] (.op 2 [] (.op 3 [] (.op 4 [] (.op 5 [] (.op 6 [] (.op 7 [4] (.op 8 [4] (.op 9 [4] (.op 10 [] (.op 11 [] (.op 12 [] (.op 13 [] .nil)))))))))))))) | _ => .nil
theorem bolelaw14_Book_read.eq (k1 : Option Addr) (bA1 : Option Addr) (bL1 : Nat) (bC1 : Nat) (wantA1 : Option Addr) (wantL1 : Nat) (wantC1 : Nat) (f1 : Int) (K : Value → Heap → Prop) (h : Heap) : fnX (cx bolelaw14_Book_read.lo bolelaw14_Book_read.od) Tryd.f10 (Tryd.f10.body.getD .skip) [.pointer k1, .slice bA1 bL1 bC1, .slice wantA1 wantL1 wantC1, .int .i64 f1] K h = bolelaw14_Book_read k1 bA1 bL1 bC1 wantA1 wantL1 wantC1 f1 K h := by kernel_rfl
theorem bolelaw14_Book_read.chk : fnOk (cx bolelaw14_Book_read.lo bolelaw14_Book_read.od) Tryd.f10 (Tryd.f10.body.getD .skip) 4 = true := by kernel_rfl
theorem bolelaw14_Book_read.ok {k1 : Option Addr} {bA1 : Option Addr} {bL1 : Nat} {bC1 : Nat} {wantA1 : Option Addr} {wantL1 : Nat} {wantC1 : Nat} {f1 : Int} {K : Value → Heap → Prop} {h : Heap} (hx : bolelaw14_Book_read k1 bA1 bL1 bC1 wantA1 wantL1 wantC1 f1 K h) : C.bolelaw14_Book_read k1 bA1 bL1 bC1 wantA1 wantL1 wantC1 f1 h K :=
  fn_to (cxOk _ _) Tryd.func10 (by kernel_rfl) bolelaw14_Book_read.chk (by rw [bolelaw14_Book_read.eq]; exact hx)
end Go.Proofs.YtgpkcakanieodaaDoor.W
