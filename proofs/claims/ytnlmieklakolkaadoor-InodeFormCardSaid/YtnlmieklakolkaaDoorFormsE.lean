/-
  WHAT THE FUNCTIONS COMPUTE, as formulas; each held against the loaded code by the kernel. Written by program (gen.py).
-/
import Derived.Test.YtnlmieklakolkaaDoorTab
namespace Go.Proofs.YtnlmieklakolkaaDoor.W
open Go Go.Proofs Go.Proofs.YtnlmieklakolkaaDoor.Wx
-- 72
def txn_Txn_Write.k1 (bA1 : Option Addr) (bL1 : Nat) (bC1 : Nat) (h1 : Heap) (h2 : Heap) (was1 : Option Addr) (ok1 : Option Addr) (h8 : Heap) (K : Value → Heap → Prop) : Prop :=
  ∃ (q2 : Option Addr), cellOf h8 ⟨h1.size, 0, none⟩ = some (.pointer q2) ∧
  onSome q2 fun p2 =>
  ∃ (b1 : Bool), cellOf h8 (Addr.add p2 3) = some (.bool b1) ∧
  bif b1 then (
  K (.int .i64 61) h8) else (
  ∃ (n2 : Int), cellOf h8 ⟨h2.size, 0, none⟩ = some (.int .i64 n2) ∧
  bif (decide (n2 < 98)) then (
  K (.int .i64 31) h8) else (
  ∃ (n3 : Int), cellOf h8 ⟨h2.size, 0, none⟩ = some (.int .i64 n3) ∧
  ∃ (q3 : Option Addr), cellOf h8 ⟨h1.size, 0, none⟩ = some (.pointer q3) ∧
  onSome q3 fun p3 =>
  ∃ (q4 : Option Addr), cellOf h8 (Addr.add p3 0) = some (.pointer q4) ∧
  C.adisk_Disk_Blocks q4 h8 fun r1 h9 =>
  ∃ (n4 : Int), r1 = .int .i64 n4 ∧
  (cellOf h9 ⟨h2.size, 0, none⟩ = some (.int .i64 n3)) ∧
  bif (decide (n3 ≥ n4)) then (
  K (.int .i64 31) h9) else (
  bif ((bL1 : Int) != 512) then (
  K (.int .i64 32) h9) else (
  onSome ok1 fun p4 =>
  ∃ (b2 : Bool), cellOf h9 p4 = some (.bool b2) ∧
  bif (!b2) then (
  ∃ (q5 : Option Addr), cellOf h9 ⟨h1.size, 0, none⟩ = some (.pointer q5) ∧
  onSome q5 fun p5 =>
  ∃ (m2 : Option Nat), cellOf h9 (Addr.add p5 1) = some (.map m2) ∧
  MapIn (.int .i64) m2 h9 fun mm2 =>
  bif (decide ((List.length mm2 : Int) ≥ 96)) then (
  K (.int .i64 60) h9) else (
  ∃ (q6 : Option Addr), cellOf h9 ⟨h1.size, 0, none⟩ = some (.pointer q6) ∧
  ∃ (q7 : Option Addr), cellOf h9 ⟨h1.size, 0, none⟩ = some (.pointer q7) ∧
  onSome q7 fun p6 =>
  ∃ (sA2 : Option Addr) (sL2 : Nat) (sC2 : Nat), cellOf h9 (Addr.add p6 2) = some (.slice sA2 sL2 sC2) ∧
  New [.func (.func 82) #[] ⟨[.pointer ok1, .pointer was1, .pointer (some ⟨h1.size, 0, none⟩), .pointer (some ⟨h2.size, 0, none⟩)]⟩] 1 h9 fun h10 =>
  (cellOf h10 ⟨h1.size, 0, none⟩ = some (.pointer q6)) ∧
  (cellOf h10 ⟨h1.size, 0, none⟩ = some (.pointer q7)) ∧
  (cellOf h10 (Addr.add p6 2) = some (.slice sA2 sL2 sC2)) ∧
  ∃ new1 : List Value, List.length new1 = 1 * 1 ∧ SlCells h10 (some ⟨h9.size, 0, none⟩) new1 ∧ (∀ v ∈ new1, v.oneCell' = true) ∧
  AppendP ti1 1 sA2 sL2 sC2 1 new1 h10 fun sA3 sL3 sC3 h11 =>
  (cellOf h11 ⟨h1.size, 0, none⟩ = some (.pointer q6)) ∧
  onSome q6 fun p7 =>
  Put (Addr.add p7 2) (.slice sA3 sL3 sC3) h11 fun h12 =>
  ∃ (q8 : Option Addr), cellOf h12 ⟨h1.size, 0, none⟩ = some (.pointer q8) ∧
  onSome q8 fun p8 =>
  ∃ (m3 : Option Nat), cellOf h12 (Addr.add p8 1) = some (.map m3) ∧
  ∃ (n5 : Int), cellOf h12 ⟨h2.size, 0, none⟩ = some (.int .i64 n5) ∧
  C.slices_Clone_byte_byte bA1 bL1 bC1 h12 fun r2 h13 =>
  ∃ (sA4 : Option Addr) (sL4 : Nat) (sC4 : Nat), r2 = .slice sA4 sL4 sC4 ∧
  (cellOf h13 ⟨h1.size, 0, none⟩ = some (.pointer q8)) ∧
  (cellOf h13 (Addr.add p8 1) = some (.map m3)) ∧
  (cellOf h13 ⟨h2.size, 0, none⟩ = some (.int .i64 n5)) ∧
  onSome m3 fun r3 =>
  MapPut (.int .i64) r3 (.i n5) (.slice sA4 sL4 sC4) h13 fun h14 =>
  K (.int .i64 0) h14)) else (
  ∃ (q9 : Option Addr), cellOf h9 ⟨h1.size, 0, none⟩ = some (.pointer q9) ∧
  ∃ (q10 : Option Addr), cellOf h9 ⟨h1.size, 0, none⟩ = some (.pointer q10) ∧
  onSome q10 fun p9 =>
  ∃ (sA5 : Option Addr) (sL5 : Nat) (sC5 : Nat), cellOf h9 (Addr.add p9 2) = some (.slice sA5 sL5 sC5) ∧
  New [.func (.func 82) #[] ⟨[.pointer ok1, .pointer was1, .pointer (some ⟨h1.size, 0, none⟩), .pointer (some ⟨h2.size, 0, none⟩)]⟩] 1 h9 fun h15 =>
  (cellOf h15 ⟨h1.size, 0, none⟩ = some (.pointer q9)) ∧
  (cellOf h15 ⟨h1.size, 0, none⟩ = some (.pointer q10)) ∧
  (cellOf h15 (Addr.add p9 2) = some (.slice sA5 sL5 sC5)) ∧
  ∃ new2 : List Value, List.length new2 = 1 * 1 ∧ SlCells h15 (some ⟨h9.size, 0, none⟩) new2 ∧ (∀ v ∈ new2, v.oneCell' = true) ∧
  AppendP ti1 1 sA5 sL5 sC5 1 new2 h15 fun sA6 sL6 sC6 h16 =>
  (cellOf h16 ⟨h1.size, 0, none⟩ = some (.pointer q9)) ∧
  onSome q9 fun p10 =>
  Put (Addr.add p10 2) (.slice sA6 sL6 sC6) h16 fun h17 =>
  ∃ (q11 : Option Addr), cellOf h17 ⟨h1.size, 0, none⟩ = some (.pointer q11) ∧
  onSome q11 fun p11 =>
  ∃ (m4 : Option Nat), cellOf h17 (Addr.add p11 1) = some (.map m4) ∧
  ∃ (n6 : Int), cellOf h17 ⟨h2.size, 0, none⟩ = some (.int .i64 n6) ∧
  C.slices_Clone_byte_byte bA1 bL1 bC1 h17 fun r4 h18 =>
  ∃ (sA7 : Option Addr) (sL7 : Nat) (sC7 : Nat), r4 = .slice sA7 sL7 sC7 ∧
  (cellOf h18 ⟨h1.size, 0, none⟩ = some (.pointer q11)) ∧
  (cellOf h18 (Addr.add p11 1) = some (.map m4)) ∧
  (cellOf h18 ⟨h2.size, 0, none⟩ = some (.int .i64 n6)) ∧
  onSome m4 fun r5 =>
  MapPut (.int .i64) r5 (.i n6) (.slice sA7 sL7 sC7) h18 fun h19 =>
  K (.int .i64 0) h19)))))
def txn_Txn_Write (t1 : Option Addr) (i1 : Int) (bA1 : Option Addr) (bL1 : Nat) (bC1 : Nat) (K : Value → Heap → Prop) (h1 : Heap) : Prop :=
  New [.pointer t1] 90 h1 fun h2 =>
  New [.int .i64 i1] 3 h2 fun h3 =>
  ∃ (q1 : Option Addr), cellOf h3 ⟨h1.size, 0, none⟩ = some (.pointer q1) ∧
  onSome q1 fun p1 =>
  ∃ (m1 : Option Nat), cellOf h3 (Addr.add p1 1) = some (.map m1) ∧
  ∃ (n1 : Int), cellOf h3 ⟨h2.size, 0, none⟩ = some (.int .i64 n1) ∧
  (
  MapIn (.int .i64) m1 h3 fun mm1 =>
  ∃ (sA1 : Option Addr) (sL1 : Nat) (sC1 : Nat), Option.getD (mget mm1 (.i n1)) (zeroV ti26) = .slice sA1 sL1 sC1 ∧
  (
  New z26 26 h3 fun h4 =>
  (cellOf h4 ⟨h1.size, 0, none⟩ = some (.pointer q1)) ∧
  (cellOf h4 (Addr.add p1 1) = some (.map m1)) ∧
  (cellOf h4 ⟨h2.size, 0, none⟩ = some (.int .i64 n1)) ∧
  New z4 4 h4 fun h5 =>
  (cellOf h5 ⟨h1.size, 0, none⟩ = some (.pointer q1)) ∧
  (cellOf h5 (Addr.add p1 1) = some (.map m1)) ∧
  (cellOf h5 ⟨h2.size, 0, none⟩ = some (.int .i64 n1)) ∧
  Put ⟨h3.size, 0, none⟩ (.slice sA1 sL1 sC1) h5 fun h6 =>
  Put ⟨h4.size, 0, none⟩ (.bool (Option.isSome (mget mm1 (.i n1)))) h6 fun h7 =>
  txn_Txn_Write.k1 bA1 bL1 bC1 h1 h2 (some ⟨h3.size, 0, none⟩) (some ⟨h4.size, 0, none⟩) h7 K) ∧
  New z4 4 h3 fun h20 =>
  (cellOf h20 ⟨h1.size, 0, none⟩ = some (.pointer q1)) ∧
  (cellOf h20 (Addr.add p1 1) = some (.map m1)) ∧
  (cellOf h20 ⟨h2.size, 0, none⟩ = some (.int .i64 n1)) ∧
  New z26 26 h20 fun h21 =>
  (cellOf h21 ⟨h1.size, 0, none⟩ = some (.pointer q1)) ∧
  (cellOf h21 (Addr.add p1 1) = some (.map m1)) ∧
  (cellOf h21 ⟨h2.size, 0, none⟩ = some (.int .i64 n1)) ∧
  Put ⟨h20.size, 0, none⟩ (.slice sA1 sL1 sC1) h21 fun h22 =>
  Put ⟨h3.size, 0, none⟩ (.bool (Option.isSome (mget mm1 (.i n1)))) h22 fun h23 =>
  txn_Txn_Write.k1 bA1 bL1 bC1 h1 h2 (some ⟨h20.size, 0, none⟩) (some ⟨h3.size, 0, none⟩) h23 K) ∧
  (
  New z26 26 h3 fun h24 =>
  (cellOf h24 ⟨h1.size, 0, none⟩ = some (.pointer q1)) ∧
  (cellOf h24 (Addr.add p1 1) = some (.map m1)) ∧
  (cellOf h24 ⟨h2.size, 0, none⟩ = some (.int .i64 n1)) ∧
  (
  MapIn (.int .i64) m1 h24 fun mm3 =>
  ∃ (sA8 : Option Addr) (sL8 : Nat) (sC8 : Nat), Option.getD (mget mm3 (.i n1)) (zeroV ti26) = .slice sA8 sL8 sC8 ∧
  New z4 4 h24 fun h25 =>
  (cellOf h25 ⟨h1.size, 0, none⟩ = some (.pointer q1)) ∧
  (cellOf h25 (Addr.add p1 1) = some (.map m1)) ∧
  (cellOf h25 ⟨h2.size, 0, none⟩ = some (.int .i64 n1)) ∧
  Put ⟨h3.size, 0, none⟩ (.slice sA8 sL8 sC8) h25 fun h26 =>
  Put ⟨h24.size, 0, none⟩ (.bool (Option.isSome (mget mm3 (.i n1)))) h26 fun h27 =>
  txn_Txn_Write.k1 bA1 bL1 bC1 h1 h2 (some ⟨h3.size, 0, none⟩) (some ⟨h24.size, 0, none⟩) h27 K) ∧
  New z4 4 h24 fun h28 =>
  (cellOf h28 ⟨h1.size, 0, none⟩ = some (.pointer q1)) ∧
  (cellOf h28 (Addr.add p1 1) = some (.map m1)) ∧
  (cellOf h28 ⟨h2.size, 0, none⟩ = some (.int .i64 n1)) ∧
  MapIn (.int .i64) m1 h28 fun mm4 =>
  ∃ (sA9 : Option Addr) (sL9 : Nat) (sC9 : Nat), Option.getD (mget mm4 (.i n1)) (zeroV ti26) = .slice sA9 sL9 sC9 ∧
  Put ⟨h3.size, 0, none⟩ (.slice sA9 sL9 sC9) h28 fun h29 =>
  Put ⟨h24.size, 0, none⟩ (.bool (Option.isSome (mget mm4 (.i n1)))) h29 fun h30 =>
  txn_Txn_Write.k1 bA1 bL1 bC1 h1 h2 (some ⟨h3.size, 0, none⟩) (some ⟨h24.size, 0, none⟩) h30 K) ∧
  New z4 4 h3 fun h31 =>
  (cellOf h31 ⟨h1.size, 0, none⟩ = some (.pointer q1)) ∧
  (cellOf h31 (Addr.add p1 1) = some (.map m1)) ∧
  (cellOf h31 ⟨h2.size, 0, none⟩ = some (.int .i64 n1)) ∧
  (
  MapIn (.int .i64) m1 h31 fun mm5 =>
  ∃ (sA10 : Option Addr) (sL10 : Nat) (sC10 : Nat), Option.getD (mget mm5 (.i n1)) (zeroV ti26) = .slice sA10 sL10 sC10 ∧
  New z26 26 h31 fun h32 =>
  (cellOf h32 ⟨h1.size, 0, none⟩ = some (.pointer q1)) ∧
  (cellOf h32 (Addr.add p1 1) = some (.map m1)) ∧
  (cellOf h32 ⟨h2.size, 0, none⟩ = some (.int .i64 n1)) ∧
  Put ⟨h31.size, 0, none⟩ (.slice sA10 sL10 sC10) h32 fun h33 =>
  Put ⟨h3.size, 0, none⟩ (.bool (Option.isSome (mget mm5 (.i n1)))) h33 fun h34 =>
  txn_Txn_Write.k1 bA1 bL1 bC1 h1 h2 (some ⟨h31.size, 0, none⟩) (some ⟨h3.size, 0, none⟩) h34 K) ∧
  New z26 26 h31 fun h35 =>
  (cellOf h35 ⟨h1.size, 0, none⟩ = some (.pointer q1)) ∧
  (cellOf h35 (Addr.add p1 1) = some (.map m1)) ∧
  (cellOf h35 ⟨h2.size, 0, none⟩ = some (.int .i64 n1)) ∧
  MapIn (.int .i64) m1 h35 fun mm6 =>
  ∃ (sA11 : Option Addr) (sL11 : Nat) (sC11 : Nat), Option.getD (mget mm6 (.i n1)) (zeroV ti26) = .slice sA11 sL11 sC11 ∧
  Put ⟨h31.size, 0, none⟩ (.slice sA11 sL11 sC11) h35 fun h36 =>
  Put ⟨h3.size, 0, none⟩ (.bool (Option.isSome (mget mm6 (.i n1)))) h36 fun h37 =>
  txn_Txn_Write.k1 bA1 bL1 bC1 h1 h2 (some ⟨h31.size, 0, none⟩) (some ⟨h3.size, 0, none⟩) h37 K
def txn_Txn_Write.lo : Nat → List Nat × List (Nat × Ty) := fun n => match n with | _ => ([], [])
set_option maxRecDepth 100000 in
def txn_Txn_Write.od : Nat → Od := fun n => match n with | 1 => (.op 0 [] (.op 1 [] (.op 2 [] (.op 3 [] (.op 4 [] (.alt 5 [] (.op 6 [] (.op 7 [] (.op 8 [] (.alt 9 [0, 3, 4] (.op 10 [0, 3, 4] (.op 11 [] (.op 12 [] .nil))) (.op 10 [0, 3, 4] (.op 9 [0, 3, 4] (.op 11 [] (.op 12 [] .nil)))))))) (.alt 9 [0, 3, 4] (.alt 5 [] (.op 6 [] (.op 7 [] (.op 8 [] (.op 10 [0, 3, 4] (.op 11 [] (.op 12 [] .nil)))))) (.op 10 [0, 3, 4] (.op 5 [] (.op 6 [] (.op 7 [] (.op 8 [] (.op 11 [] (.op 12 [] .nil)))))))) (.op 10 [0, 3, 4] (.alt 5 [] (.op 6 [] (.op 7 [] (.op 8 [] (.op 9 [0, 3, 4] (.op 11 [] (.op 12 [] .nil)))))) (.op 9 [0, 3, 4] (.op 5 [] (.op 6 [] (.op 7 [] (.op 8 [] (.op 11 [] (.op 12 [] .nil)))))))))))))))) | 4 => (.op 0 [] (.op 1 [] (.op 2 [] (.op 3 [] (.op 4 [] (.op 5 [] (.op 6 [] (.op 7 [] (.op 8 [3] (.op 9 [] (.op 10 [] (.op 11 [] .nil)))))))))))) | 10 => (.op 0 [] (.op 1 [] (.op 2 [] (.op 3 [] (.op 4 [] (.op 5 [] (.op 6 [0, 1, 4] (.op 7 [0] (.op 8 [] (.op 9 [] (.op 10 [] .nil))))))))))) | 11 => (.op 0 [] (.op 1 [] (.op 2 [] (.op 3 [] (.op 4 [] (.op 5 [] (.op 6 [0, 3, 4] (.op 7 [] .nil)))))))) | _ => .nil
set_option maxRecDepth 100000 in
theorem txn_Txn_Write.eq (t1 : Option Addr) (i1 : Int) (bA1 : Option Addr) (bL1 : Nat) (bC1 : Nat) (K : Value → Heap → Prop) (h : Heap) : fnX (cx txn_Txn_Write.lo txn_Txn_Write.od) Tryd.f72 (Tryd.f72.body.getD .skip) [.pointer t1, .int .i64 i1, .slice bA1 bL1 bC1] K h = txn_Txn_Write t1 i1 bA1 bL1 bC1 K h := by kernel_rfl
theorem txn_Txn_Write.chk : fnOk (cx txn_Txn_Write.lo txn_Txn_Write.od) Tryd.f72 (Tryd.f72.body.getD .skip) 3 = true := by kernel_rfl
set_option maxRecDepth 100000 in
theorem txn_Txn_Write.ok {t1 : Option Addr} {i1 : Int} {bA1 : Option Addr} {bL1 : Nat} {bC1 : Nat} {K : Value → Heap → Prop} {h : Heap} (hx : txn_Txn_Write t1 i1 bA1 bL1 bC1 K h) : C.txn_Txn_Write t1 i1 bA1 bL1 bC1 h K :=
  fn_to (cxOk _ _) Tryd.func72 (by kernel_rfl) txn_Txn_Write.chk (by rw [txn_Txn_Write.eq]; exact hx)

-- 73
def boleref11_within (n1 : Int) (low1 : Int) (high1 : Int) (K : Value → Heap → Prop) (h1 : Heap) : Prop :=
  bif (decide (n1 ≥ low1)) then (
  K (.bool (decide (n1 ≤ high1))) h1) else (
  K (.bool false) h1)
def boleref11_within.lo : Nat → List Nat × List (Nat × Ty) := fun n => match n with | _ => ([], [])
def boleref11_within.od : Nat → Od := fun n => match n with | _ => .nil
theorem boleref11_within.eq (n1 : Int) (low1 : Int) (high1 : Int) (K : Value → Heap → Prop) (h : Heap) : fnX (cx boleref11_within.lo boleref11_within.od) Tryd.f73 (Tryd.f73.body.getD .skip) [.int .i64 n1, .int .i64 low1, .int .i64 high1] K h = boleref11_within n1 low1 high1 K h := by kernel_rfl
theorem boleref11_within.chk : fnOk (cx boleref11_within.lo boleref11_within.od) Tryd.f73 (Tryd.f73.body.getD .skip) 3 = true := by kernel_rfl
theorem boleref11_within.ok {n1 : Int} {low1 : Int} {high1 : Int} {K : Value → Heap → Prop} {h : Heap} (hx : boleref11_within n1 low1 high1 K h) : C.boleref11_within n1 low1 high1 h K :=
  fn_to (cxOk _ _) Tryd.func73 (by kernel_rfl) boleref11_within.chk (by rw [boleref11_within.eq]; exact hx)

-- 74
def boleref11_low (n1 : Int) (bytes1 : Int) (K : Value → Heap → Prop) (h1 : Heap) : Prop :=
  ∃ (I1 : Int → Option Addr → Nat → Nat → Int → Heap → Prop) (M1 : Int → Option Addr → Nat → Nat → Int → Heap → Nat), I1 n1 none 0 0 0 h1 ∧
  ∀ (n2 : Int) (bA1 : Option Addr) (bL1 : Nat) (bC1 : Nat) (i1 : Int), ∀ h2 : Heap, I1 n2 bA1 bL1 bC1 i1 h2 →
  bif (decide (i1 < bytes1)) then (
  New [.int .u8 (IntKind.wrap .u8 ((Int.tmod n2 256)))] 5 h2 fun h3 =>
  ∃ new1 : List Value, List.length new1 = 1 * 1 ∧ SlCells h3 (some ⟨h2.size, 0, none⟩) new1 ∧ (∀ v ∈ new1, v.oneCell' = true) ∧
  AppendP ti5 5 bA1 bL1 bC1 1 new1 h3 fun sA1 sL1 sC1 h4 =>
  I1 (IntKind.wrap .i64 (Int.tdiv n2 256)) sA1 sL1 sC1 (IntKind.wrap .i64 (i1 + 1)) h4 ∧ M1 (IntKind.wrap .i64 (Int.tdiv n2 256)) sA1 sL1 sC1 (IntKind.wrap .i64 (i1 + 1)) h4 < M1 n2 bA1 bL1 bC1 i1 h2) else (
  K (.slice bA1 bL1 bC1) h2)
def boleref11_low.lo : Nat → List Nat × List (Nat × Ty) := fun n => match n with | 3 => ([1], [(0, .int .i64), (5, .slice), (6, .int .i64)]) | _ => ([], [])
def boleref11_low.od : Nat → Od := fun n => match n with | _ => .nil
theorem boleref11_low.eq (n1 : Int) (bytes1 : Int) (K : Value → Heap → Prop) (h : Heap) : fnX (cx boleref11_low.lo boleref11_low.od) Tryd.f74 (Tryd.f74.body.getD .skip) [.int .i64 n1, .int .i64 bytes1] K h = boleref11_low n1 bytes1 K h := by kernel_rfl
theorem boleref11_low.chk : fnOk (cx boleref11_low.lo boleref11_low.od) Tryd.f74 (Tryd.f74.body.getD .skip) 2 = true := by kernel_rfl
theorem boleref11_low.ok {n1 : Int} {bytes1 : Int} {K : Value → Heap → Prop} {h : Heap} (hx : boleref11_low n1 bytes1 K h) : C.boleref11_low n1 bytes1 h K :=
  fn_to (cxOk _ _) Tryd.func74 (by kernel_rfl) boleref11_low.chk (by rw [boleref11_low.eq]; exact hx)

-- 75
def inode_within (v1 : Int) (low1 : Int) (high1 : Int) (K : Value → Heap → Prop) (h1 : Heap) : Prop :=
  bif (decide (v1 ≥ low1)) then (
  K (.bool (decide (v1 ≤ high1))) h1) else (
  K (.bool false) h1)
def inode_within.lo : Nat → List Nat × List (Nat × Ty) := fun n => match n with | _ => ([], [])
def inode_within.od : Nat → Od := fun n => match n with | _ => .nil
theorem inode_within.eq (v1 : Int) (low1 : Int) (high1 : Int) (K : Value → Heap → Prop) (h : Heap) : fnX (cx inode_within.lo inode_within.od) Tryd.f75 (Tryd.f75.body.getD .skip) [.int .i64 v1, .int .i64 low1, .int .i64 high1] K h = inode_within v1 low1 high1 K h := by kernel_rfl
theorem inode_within.chk : fnOk (cx inode_within.lo inode_within.od) Tryd.f75 (Tryd.f75.body.getD .skip) 3 = true := by kernel_rfl
theorem inode_within.ok {v1 : Int} {low1 : Int} {high1 : Int} {K : Value → Heap → Prop} {h : Heap} (hx : inode_within v1 low1 high1 K h) : C.inode_within v1 low1 high1 h K :=
  fn_to (cxOk _ _) Tryd.func75 (by kernel_rfl) inode_within.chk (by rw [inode_within.eq]; exact hx)

-- 76
def sum_step (v1 : Int) (b1 : Int) (K : Value → Heap → Prop) (h1 : Heap) : Prop :=
  (0 ≤ (bitsI .and .u32 (bitsI .xor .u32 v1 (IntKind.wrap .u32 (b1))) 15) ∧ (bitsI .and .u32 (bitsI .xor .u32 v1 (IntKind.wrap .u32 (b1))) 15) < (16 : Int)) ∧
  ∃ (n1 : Int), cellOf h1 (Addr.add ⟨1, 0, none⟩ (Int.toNat (bitsI .and .u32 (bitsI .xor .u32 v1 (IntKind.wrap .u32 (b1))) 15))) = some (.int .u32 n1) ∧
  (0 ≤ (bitsI .and .u32 (bitsI .xor .u32 n1 (Int.fdiv (bitsI .xor .u32 v1 (IntKind.wrap .u32 (b1))) (2 ^ min (Int.toNat 4) 32))) 15) ∧ (bitsI .and .u32 (bitsI .xor .u32 n1 (Int.fdiv (bitsI .xor .u32 v1 (IntKind.wrap .u32 (b1))) (2 ^ min (Int.toNat 4) 32))) 15) < (16 : Int)) ∧
  ∃ (n2 : Int), cellOf h1 (Addr.add ⟨1, 0, none⟩ (Int.toNat (bitsI .and .u32 (bitsI .xor .u32 n1 (Int.fdiv (bitsI .xor .u32 v1 (IntKind.wrap .u32 (b1))) (2 ^ min (Int.toNat 4) 32))) 15))) = some (.int .u32 n2) ∧
  K (.int .u32 (bitsI .xor .u32 n2 (Int.fdiv (bitsI .xor .u32 n1 (Int.fdiv (bitsI .xor .u32 v1 (IntKind.wrap .u32 (b1))) (2 ^ min (Int.toNat 4) 32))) (2 ^ min (Int.toNat 4) 32)))) h1
def sum_step.lo : Nat → List Nat × List (Nat × Ty) := fun n => match n with | _ => ([], [])
def sum_step.od : Nat → Od := fun n => match n with | _ => .nil
theorem sum_step.eq (v1 : Int) (b1 : Int) (K : Value → Heap → Prop) (h : Heap) : fnX (cx sum_step.lo sum_step.od) Tryd.f76 (Tryd.f76.body.getD .skip) [.int .u32 v1, .int .u8 b1] K h = sum_step v1 b1 K h := by kernel_rfl
theorem sum_step.chk : fnOk (cx sum_step.lo sum_step.od) Tryd.f76 (Tryd.f76.body.getD .skip) 2 = true := by kernel_rfl
theorem sum_step.ok {v1 : Int} {b1 : Int} {K : Value → Heap → Prop} {h : Heap} (hx : sum_step v1 b1 K h) : C.sum_step v1 b1 h K :=
  fn_to (cxOk _ _) Tryd.func76 (by kernel_rfl) sum_step.chk (by rw [sum_step.eq]; exact hx)

-- 77
def sum_behind (v1 : Int) (n1 : Int) (K : Value → Heap → Prop) (h1 : Heap) : Prop :=
  New z137 137 h1 fun h2 =>
  ∃ (I1 : Int → Heap → Prop) (M1 : Int → Heap → Nat), I1 0 h2 ∧
  ∀ (n2 : Int), ∀ h3 : Heap, I1 n2 h3 →
  bif (decide (n2 < 32)) then (
  if n2 < 0 then False else
  C.sum_step (IntKind.wrap .u32 ((1 * 2 ^ min (Int.toNat n2) 32))) 0 h3 fun r1 h4 =>
  ∃ (n3 : Int), r1 = .int .u32 n3 ∧
  (0 ≤ n2 ∧ n2 < (32 : Int)) ∧
  Put (Addr.add ⟨h1.size, 0, none⟩ (Int.toNat n2)) (.int .u32 n3) h4 fun h5 =>
  I1 (IntKind.wrap .i64 (n2 + 1)) h5 ∧ M1 (IntKind.wrap .i64 (n2 + 1)) h5 < M1 n2 h3) else (
  ∃ (I2 : Int → Int → Heap → Prop) (M2 : Int → Int → Heap → Nat), I2 v1 n1 h3 ∧
  ∀ (v2 : Int) (n4 : Int), ∀ h6 : Heap, I2 v2 n4 h6 →
  bif (decide (n4 > 0)) then (
  bif ((bitsI .and .i64 n4 1) == 1) then (
  C.sum_matrix_times (some ⟨h1.size, 0, none⟩) v2 h6 fun r2 h7 =>
  ∃ (n5 : Int), r2 = .int .u32 n5 ∧
  C.sum_matrix_square (some ⟨h1.size, 0, none⟩) h7 fun r3 h8 =>
  ∃ (cs1 : List Value), r3 = .agg ⟨cs1⟩ ∧
  PutRow ⟨h1.size, 0, none⟩ cs1 32 h8 fun h9 =>
  I2 n5 (Int.fdiv n4 (2 ^ min (Int.toNat 1) 64)) h9 ∧ M2 n5 (Int.fdiv n4 (2 ^ min (Int.toNat 1) 64)) h9 < M2 v2 n4 h6) else (
  C.sum_matrix_square (some ⟨h1.size, 0, none⟩) h6 fun r4 h10 =>
  ∃ (cs2 : List Value), r4 = .agg ⟨cs2⟩ ∧
  PutRow ⟨h1.size, 0, none⟩ cs2 32 h10 fun h11 =>
  I2 v2 (Int.fdiv n4 (2 ^ min (Int.toNat 1) 64)) h11 ∧ M2 v2 (Int.fdiv n4 (2 ^ min (Int.toNat 1) 64)) h11 < M2 v2 n4 h6)) else (
  K (.int .u32 v2) h6))
def sum_behind.lo : Nat → List Nat × List (Nat × Ty) := fun n => match n with | 3 => ([0, 1, 5], [(7, .int .i64)]) | 7 => ([5], [(0, .int .u32), (1, .int .i64)]) | _ => ([], [])
def sum_behind.od : Nat → Od := fun n => match n with | _ => .nil
theorem sum_behind.eq (v1 : Int) (n1 : Int) (K : Value → Heap → Prop) (h : Heap) : fnX (cx sum_behind.lo sum_behind.od) Tryd.f77 (Tryd.f77.body.getD .skip) [.int .u32 v1, .int .i64 n1] K h = sum_behind v1 n1 K h := by kernel_rfl
theorem sum_behind.chk : fnOk (cx sum_behind.lo sum_behind.od) Tryd.f77 (Tryd.f77.body.getD .skip) 2 = true := by kernel_rfl
theorem sum_behind.ok {v1 : Int} {n1 : Int} {K : Value → Heap → Prop} {h : Heap} (hx : sum_behind v1 n1 K h) : C.sum_behind v1 n1 h K :=
  fn_to (cxOk _ _) Tryd.func77 (by kernel_rfl) sum_behind.chk (by rw [sum_behind.eq]; exact hx)

-- 78
def boleref01_one (w1 : Int) (K : Value → Heap → Prop) (h1 : Heap) : Prop :=
  bif ((Int.tmod w1 2) == 1) then (
  K (.int .u32 (bitsI .xor .u32 (IntKind.wrap .u32 (Int.tdiv w1 2)) 3988292384)) h1) else (
  K (.int .u32 (IntKind.wrap .u32 (Int.tdiv w1 2))) h1)
def boleref01_one.lo : Nat → List Nat × List (Nat × Ty) := fun n => match n with | _ => ([], [])
def boleref01_one.od : Nat → Od := fun n => match n with | _ => .nil
theorem boleref01_one.eq (w1 : Int) (K : Value → Heap → Prop) (h : Heap) : fnX (cx boleref01_one.lo boleref01_one.od) Tryd.f78 (Tryd.f78.body.getD .skip) [.int .u32 w1] K h = boleref01_one w1 K h := by kernel_rfl
theorem boleref01_one.chk : fnOk (cx boleref01_one.lo boleref01_one.od) Tryd.f78 (Tryd.f78.body.getD .skip) 1 = true := by kernel_rfl
theorem boleref01_one.ok {w1 : Int} {K : Value → Heap → Prop} {h : Heap} (hx : boleref01_one w1 K h) : C.boleref01_one w1 h K :=
  fn_to (cxOk _ _) Tryd.func78 (by kernel_rfl) boleref01_one.chk (by rw [boleref01_one.eq]; exact hx)

-- 79
def geo_Record.k1 (n1 : Int) (h1 : Heap) (h2 : Heap) (K : Value → Heap → Prop) : Prop :=
  ∃ (n3 : Int), cellOf h2 (Addr.add ⟨h1.size, 0, none⟩ 2) = some (.int .i64 n3) ∧
  K (.tuple #[.int .i64 (IntKind.wrap .i64 (n3 + (IntKind.wrap .i64 (Int.tdiv n1 8)))), .int .i64 (IntKind.wrap .i64 ((Int.tmod n1 8) * 64)), .int .i64 0]) h2
def geo_Record (g1 : List Value) (n1 : Int) (K : Value → Heap → Prop) (h1 : Heap) : Prop :=
  New g1 87 h1 fun h2 =>
  bif (decide (n1 < 1)) then (
  K (.tuple #[.int .i64 0, .int .i64 0, .int .i64 110]) h2) else (
  ∃ (n2 : Int), cellOf h2 (Addr.add ⟨h1.size, 0, none⟩ 4) = some (.int .i64 n2) ∧
  bif (decide (n1 ≥ n2)) then (
  K (.tuple #[.int .i64 0, .int .i64 0, .int .i64 110]) h2) else (
  geo_Record.k1 n1 h1 h2 K))
def geo_Record.lo : Nat → List Nat × List (Nat × Ty) := fun n => match n with | _ => ([], [])
def geo_Record.od : Nat → Od := fun n => match n with | _ => .nil
theorem geo_Record.eq (g1 : List Value) (n1 : Int) (K : Value → Heap → Prop) (h : Heap) : fnX (cx geo_Record.lo geo_Record.od) Tryd.f79 (Tryd.f79.body.getD .skip) [.agg ⟨g1⟩, .int .i64 n1] K h = geo_Record g1 n1 K h := by kernel_rfl
theorem geo_Record.chk : fnOk (cx geo_Record.lo geo_Record.od) Tryd.f79 (Tryd.f79.body.getD .skip) 2 = true := by kernel_rfl
theorem geo_Record.ok {g1 : List Value} {n1 : Int} {K : Value → Heap → Prop} {h : Heap} (hx : geo_Record g1 n1 K h) : C.geo_Record g1 n1 h K :=
  fn_to (cxOk _ _) Tryd.func79 (by kernel_rfl) geo_Record.chk (by rw [geo_Record.eq]; exact hx)

-- 80
def txn_Txn_Read.k1 (t1 : Option Addr) (i1 : Int) (h3 : Heap) (K : Value → Heap → Prop) : Prop :=
  onSome t1 fun p3 =>
  ∃ (m1 : Option Nat), cellOf h3 (Addr.add p3 1) = some (.map m1) ∧
  MapIn (.int .i64) m1 h3 fun mm1 =>
  ∃ (sA1 : Option Addr) (sL1 : Nat) (sC1 : Nat), Option.getD (mget mm1 (.i i1)) (zeroV ti26) = .slice sA1 sL1 sC1 ∧
  bif (Option.isSome (mget mm1 (.i i1))) then (
  C.slices_Clone_byte_byte sA1 sL1 sC1 h3 fun r2 h4 =>
  ∃ (sA2 : Option Addr) (sL2 : Nat) (sC2 : Nat), r2 = .slice sA2 sL2 sC2 ∧
  K (.tuple #[.slice sA2 sL2 sC2, .int .i64 0]) h4) else (
  onSome t1 fun p4 =>
  ∃ (q2 : Option Addr), cellOf h3 (Addr.add p4 0) = some (.pointer q2) ∧
  C.adisk_Disk_Read q2 i1 h3 fun r3 h5 =>
  ∃ (sA3 : Option Addr) (sL3 : Nat) (sC3 : Nat) (n2 : Int), r3 = .tuple #[.slice sA3 sL3 sC3, .int .i64 n2] ∧
  K (.tuple #[.slice sA3 sL3 sC3, .int .i64 n2]) h5)
def txn_Txn_Read (t1 : Option Addr) (i1 : Int) (K : Value → Heap → Prop) (h1 : Heap) : Prop :=
  onSome t1 fun p1 =>
  ∃ (b1 : Bool), cellOf h1 (Addr.add p1 3) = some (.bool b1) ∧
  bif b1 then (
  K (.tuple #[.slice none 0 0, .int .i64 61]) h1) else (
  bif (decide (i1 < 0)) then (
  K (.tuple #[.slice none 0 0, .int .i64 31]) h1) else (
  onSome t1 fun p2 =>
  ∃ (q1 : Option Addr), cellOf h1 (Addr.add p2 0) = some (.pointer q1) ∧
  C.adisk_Disk_Blocks q1 h1 fun r1 h2 =>
  ∃ (n1 : Int), r1 = .int .i64 n1 ∧
  bif (decide (i1 ≥ n1)) then (
  K (.tuple #[.slice none 0 0, .int .i64 31]) h2) else (
  txn_Txn_Read.k1 t1 i1 h2 K)))
def txn_Txn_Read.lo : Nat → List Nat × List (Nat × Ty) := fun n => match n with | _ => ([], [])
def txn_Txn_Read.od : Nat → Od := fun n => match n with | _ => .nil
theorem txn_Txn_Read.eq (t1 : Option Addr) (i1 : Int) (K : Value → Heap → Prop) (h : Heap) : fnX (cx txn_Txn_Read.lo txn_Txn_Read.od) Tryd.f80 (Tryd.f80.body.getD .skip) [.pointer t1, .int .i64 i1] K h = txn_Txn_Read t1 i1 K h := by kernel_rfl
theorem txn_Txn_Read.chk : fnOk (cx txn_Txn_Read.lo txn_Txn_Read.od) Tryd.f80 (Tryd.f80.body.getD .skip) 2 = true := by kernel_rfl
theorem txn_Txn_Read.ok {t1 : Option Addr} {i1 : Int} {K : Value → Heap → Prop} {h : Heap} (hx : txn_Txn_Read t1 i1 K h) : C.txn_Txn_Read t1 i1 h K :=
  fn_to (cxOk _ _) Tryd.func80 (by kernel_rfl) txn_Txn_Read.chk (by rw [txn_Txn_Read.eq]; exact hx)

-- 81
def adisk_Disk_Blocks (d1 : Option Addr) (K : Value → Heap → Prop) (h1 : Heap) : Prop :=
  onSome d1 fun p1 =>
  ∃ (sA1 : Option Addr) (sL1 : Nat) (sC1 : Nat), cellOf h1 (Addr.add p1 0) = some (.slice sA1 sL1 sC1) ∧
  K (.int .i64 (sL1 : Int)) h1
def adisk_Disk_Blocks.lo : Nat → List Nat × List (Nat × Ty) := fun n => match n with | _ => ([], [])
def adisk_Disk_Blocks.od : Nat → Od := fun n => match n with | _ => .nil
theorem adisk_Disk_Blocks.eq (d1 : Option Addr) (K : Value → Heap → Prop) (h : Heap) : fnX (cx adisk_Disk_Blocks.lo adisk_Disk_Blocks.od) Tryd.f81 (Tryd.f81.body.getD .skip) [.pointer d1] K h = adisk_Disk_Blocks d1 K h := by kernel_rfl
theorem adisk_Disk_Blocks.chk : fnOk (cx adisk_Disk_Blocks.lo adisk_Disk_Blocks.od) Tryd.f81 (Tryd.f81.body.getD .skip) 1 = true := by kernel_rfl
theorem adisk_Disk_Blocks.ok {d1 : Option Addr} {K : Value → Heap → Prop} {h : Heap} (hx : adisk_Disk_Blocks d1 K h) : C.adisk_Disk_Blocks d1 h K :=
  fn_to (cxOk _ _) Tryd.func81 (by kernel_rfl) adisk_Disk_Blocks.chk (by rw [adisk_Disk_Blocks.eq]; exact hx)

-- 82
def txn_Txn_Write_c1 (cap1 : Option Addr) (cap2 : Option Addr) (cap3 : Option Addr) (cap4 : Option Addr) (K : Value → Heap → Prop) (h1 : Heap) : Prop :=
  onSome cap1 fun p1 =>
  ∃ (b1 : Bool), cellOf h1 p1 = some (.bool b1) ∧
  bif b1 then (
  onSome cap3 fun p2 =>
  ∃ (q1 : Option Addr), cellOf h1 p2 = some (.pointer q1) ∧
  onSome q1 fun p3 =>
  ∃ (m1 : Option Nat), cellOf h1 (Addr.add p3 1) = some (.map m1) ∧
  onSome cap4 fun p4 =>
  ∃ (n1 : Int), cellOf h1 p4 = some (.int .i64 n1) ∧
  onSome cap2 fun p5 =>
  ∃ (sA1 : Option Addr) (sL1 : Nat) (sC1 : Nat), cellOf h1 p5 = some (.slice sA1 sL1 sC1) ∧
  onSome m1 fun r1 =>
  MapPut (.int .i64) r1 (.i n1) (.slice sA1 sL1 sC1) h1 fun h2 =>
  K (.tuple #[]) h2) else (
  onSome cap3 fun p6 =>
  ∃ (q2 : Option Addr), cellOf h1 p6 = some (.pointer q2) ∧
  onSome q2 fun p7 =>
  ∃ (m2 : Option Nat), cellOf h1 (Addr.add p7 1) = some (.map m2) ∧
  onSome cap4 fun p8 =>
  ∃ (n2 : Int), cellOf h1 p8 = some (.int .i64 n2) ∧
  MapDel (.int .i64) m2 (.i n2) h1 fun h3 =>
  K (.tuple #[]) h3)
def txn_Txn_Write_c1.lo : Nat → List Nat × List (Nat × Ty) := fun n => match n with | _ => ([], [])
def txn_Txn_Write_c1.od : Nat → Od := fun n => match n with | 1 => (.op 0 [] (.op 1 [] (.op 2 [] (.op 3 [] (.op 4 [] (.op 5 [] (.op 6 [] .nil))))))) | 2 => (.op 0 [] (.op 1 [] (.op 2 [] (.op 3 [] (.op 4 [] (.op 5 [] .nil)))))) | _ => .nil
theorem txn_Txn_Write_c1.eq (cap1 : Option Addr) (cap2 : Option Addr) (cap3 : Option Addr) (cap4 : Option Addr) (K : Value → Heap → Prop) (h : Heap) : fnX (cx txn_Txn_Write_c1.lo txn_Txn_Write_c1.od) Tryd.f82 (Tryd.f82.body.getD .skip) [.pointer cap1, .pointer cap2, .pointer cap3, .pointer cap4] K h = txn_Txn_Write_c1 cap1 cap2 cap3 cap4 K h := by kernel_rfl
theorem txn_Txn_Write_c1.chk : fnOk (cx txn_Txn_Write_c1.lo txn_Txn_Write_c1.od) Tryd.f82 (Tryd.f82.body.getD .skip) 4 = true := by kernel_rfl
theorem txn_Txn_Write_c1.ok {cap1 : Option Addr} {cap2 : Option Addr} {cap3 : Option Addr} {cap4 : Option Addr} {K : Value → Heap → Prop} {h : Heap} (hx : txn_Txn_Write_c1 cap1 cap2 cap3 cap4 K h) : C.txn_Txn_Write_c1 cap1 cap2 cap3 cap4 h K :=
  fn_to (cxOk _ _) Tryd.func82 (by kernel_rfl) txn_Txn_Write_c1.chk (by rw [txn_Txn_Write_c1.eq]; exact hx)

-- 83
def slices_Clone_byte_byte (sA1 : Option Addr) (sL1 : Nat) (sC1 : Nat) (K : Value → Heap → Prop) (h1 : Heap) : Prop :=
  bif (Option.isNone sA1) then (
  K (.slice none 0 0) h1) else (
  New [] 5 h1 fun h2 =>
  ∃ new1 : List Value, List.length new1 = sL1 * 1 ∧ SlCells h2 sA1 new1 ∧ (∀ v ∈ new1, v.oneCell' = true) ∧
  AppendP ti5 5 (some ⟨h1.size, 0, none⟩) 0 0 sL1 new1 h2 fun sA2 sL2 sC2 h3 =>
  K (.slice sA2 sL2 sC2) h3)
def slices_Clone_byte_byte.lo : Nat → List Nat × List (Nat × Ty) := fun n => match n with | _ => ([], [])
def slices_Clone_byte_byte.od : Nat → Od := fun n => match n with | _ => .nil
theorem slices_Clone_byte_byte.eq (sA1 : Option Addr) (sL1 : Nat) (sC1 : Nat) (K : Value → Heap → Prop) (h : Heap) : fnX (cx slices_Clone_byte_byte.lo slices_Clone_byte_byte.od) Tryd.f83 (Tryd.f83.body.getD .skip) [.slice sA1 sL1 sC1] K h = slices_Clone_byte_byte sA1 sL1 sC1 K h := by kernel_rfl
theorem slices_Clone_byte_byte.chk : fnOk (cx slices_Clone_byte_byte.lo slices_Clone_byte_byte.od) Tryd.f83 (Tryd.f83.body.getD .skip) 1 = true := by kernel_rfl
theorem slices_Clone_byte_byte.ok {sA1 : Option Addr} {sL1 : Nat} {sC1 : Nat} {K : Value → Heap → Prop} {h : Heap} (hx : slices_Clone_byte_byte sA1 sL1 sC1 K h) : C.slices_Clone_byte_byte sA1 sL1 sC1 h K :=
  fn_to (cxOk _ _) Tryd.func83 (by kernel_rfl) slices_Clone_byte_byte.chk (by rw [slices_Clone_byte_byte.eq]; exact hx)

-- 84
def sum_matrix_times (m1 : Option Addr) (v1 : Int) (K : Value → Heap → Prop) (h1 : Heap) : Prop :=
  ∃ (I1 : Int → Int → Int → Heap → Prop) (M1 : Int → Int → Int → Heap → Nat), I1 v1 0 0 h1 ∧
  ∀ (v2 : Int) (r1 : Int) (i1 : Int), ∀ h2 : Heap, I1 v2 r1 i1 h2 →
  bif (v2 != 0) then (
  bif ((bitsI .and .u32 v2 1) == 1) then (
  onSome m1 fun p1 =>
  (0 ≤ i1 ∧ i1 < (32 : Int)) ∧
  ∃ (n1 : Int), cellOf h2 (Addr.add p1 (Int.toNat i1)) = some (.int .u32 n1) ∧
  I1 (Int.fdiv v2 (2 ^ min (Int.toNat 1) 32)) (bitsI .xor .u32 r1 n1) (IntKind.wrap .i64 (i1 + 1)) h2 ∧ M1 (Int.fdiv v2 (2 ^ min (Int.toNat 1) 32)) (bitsI .xor .u32 r1 n1) (IntKind.wrap .i64 (i1 + 1)) h2 < M1 v2 r1 i1 h2) else (
  I1 (Int.fdiv v2 (2 ^ min (Int.toNat 1) 32)) r1 (IntKind.wrap .i64 (i1 + 1)) h2 ∧ M1 (Int.fdiv v2 (2 ^ min (Int.toNat 1) 32)) r1 (IntKind.wrap .i64 (i1 + 1)) h2 < M1 v2 r1 i1 h2)) else (
  K (.int .u32 r1) h2)
def sum_matrix_times.lo : Nat → List Nat × List (Nat × Ty) := fun n => match n with | 3 => ([0], [(1, .int .u32), (5, .int .u32), (6, .int .i64)]) | _ => ([], [])
def sum_matrix_times.od : Nat → Od := fun n => match n with | _ => .nil
theorem sum_matrix_times.eq (m1 : Option Addr) (v1 : Int) (K : Value → Heap → Prop) (h : Heap) : fnX (cx sum_matrix_times.lo sum_matrix_times.od) Tryd.f84 (Tryd.f84.body.getD .skip) [.pointer m1, .int .u32 v1] K h = sum_matrix_times m1 v1 K h := by kernel_rfl
theorem sum_matrix_times.chk : fnOk (cx sum_matrix_times.lo sum_matrix_times.od) Tryd.f84 (Tryd.f84.body.getD .skip) 2 = true := by kernel_rfl
theorem sum_matrix_times.ok {m1 : Option Addr} {v1 : Int} {K : Value → Heap → Prop} {h : Heap} (hx : sum_matrix_times m1 v1 K h) : C.sum_matrix_times m1 v1 h K :=
  fn_to (cxOk _ _) Tryd.func84 (by kernel_rfl) sum_matrix_times.chk (by rw [sum_matrix_times.eq]; exact hx)

-- 85
def sum_matrix_square (m1 : Option Addr) (K : Value → Heap → Prop) (h1 : Heap) : Prop :=
  New z137 137 h1 fun h2 =>
  New z137 137 h2 fun h3 =>
  ∃ (I1 : Int → Heap → Prop) (M1 : Int → Heap → Nat), I1 0 h3 ∧
  ∀ (n1 : Int), ∀ h4 : Heap, I1 n1 h4 →
  bif (decide (n1 < 32)) then (
  onSome m1 fun p1 =>
  (0 ≤ n1 ∧ n1 < (32 : Int)) ∧
  ∃ (n2 : Int), cellOf h4 (Addr.add p1 (Int.toNat n1)) = some (.int .u32 n2) ∧
  C.sum_matrix_times m1 n2 h4 fun r1 h5 =>
  ∃ (n3 : Int), r1 = .int .u32 n3 ∧
  (0 ≤ n1 ∧ n1 < (32 : Int)) ∧
  Put (Addr.add ⟨h2.size, 0, none⟩ (Int.toNat n1)) (.int .u32 n3) h5 fun h6 =>
  I1 (IntKind.wrap .i64 (n1 + 1)) h6 ∧ M1 (IntKind.wrap .i64 (n1 + 1)) h6 < M1 n1 h4) else (
  ∃ cs1 : List Value, List.length cs1 = 32 ∧ Cells h4 ⟨h2.size, 0, none⟩ cs1 ∧
  PutRow ⟨h1.size, 0, none⟩ cs1 32 h4 fun h7 =>
  ∃ res1 : List Value, List.length res1 = 32 ∧ Cells h7 ⟨h1.size, 0, none⟩ res1 ∧
  K (.agg ⟨res1⟩) h7)
def sum_matrix_square.lo : Nat → List Nat × List (Nat × Ty) := fun n => match n with | 3 => ([0, 2, 3], [(5, .int .i64)]) | _ => ([], [])
def sum_matrix_square.od : Nat → Od := fun n => match n with | _ => .nil
theorem sum_matrix_square.eq (m1 : Option Addr) (K : Value → Heap → Prop) (h : Heap) : fnX (cx sum_matrix_square.lo sum_matrix_square.od) Tryd.f85 (Tryd.f85.body.getD .skip) [.pointer m1] K h = sum_matrix_square m1 K h := by kernel_rfl
theorem sum_matrix_square.chk : fnOk (cx sum_matrix_square.lo sum_matrix_square.od) Tryd.f85 (Tryd.f85.body.getD .skip) 1 = true := by kernel_rfl
theorem sum_matrix_square.ok {m1 : Option Addr} {K : Value → Heap → Prop} {h : Heap} (hx : sum_matrix_square m1 K h) : C.sum_matrix_square m1 h K :=
  fn_to (cxOk _ _) Tryd.func85 (by kernel_rfl) sum_matrix_square.chk (by rw [sum_matrix_square.eq]; exact hx)

-- 86
def adisk_Disk_Read (d1 : Option Addr) (i1 : Int) (K : Value → Heap → Prop) (h1 : Heap) : Prop :=
  onSome d1 fun p1 =>
  ∃ (b1 : Bool), cellOf h1 (Addr.add p1 4) = some (.bool b1) ∧
  bif b1 then (
  K (.tuple #[.slice none 0 0, .int .i64 30]) h1) else (
  C.adisk_Disk_has d1 i1 h1 fun r1 h2 =>
  ∃ (b2 : Bool), r1 = .bool b2 ∧
  bif (!b2) then (
  K (.tuple #[.slice none 0 0, .int .i64 31]) h2) else (
  onSome d1 fun p2 =>
  ∃ (sA1 : Option Addr) (sL1 : Nat) (sC1 : Nat), cellOf h2 (Addr.add p2 0) = some (.slice sA1 sL1 sC1) ∧
  (0 ≤ i1 ∧ i1 < (sL1 : Int)) ∧
  onSome sA1 fun p3 =>
  ∃ cs1 : List Value, List.length cs1 = 512 ∧ Cells h2 (Addr.add p3 ((Int.toNat i1) * 512)) cs1 ∧
  NewRow z141 141 cs1 512 h2 fun h4 =>
  onSome d1 fun p4 =>
  ∃ (sA2 : Option Addr) (sL2 : Nat) (sC2 : Nat), cellOf h4 (Addr.add p4 1) = some (.slice sA2 sL2 sC2) ∧
  ∃ (I1 : Int → Heap → Prop) (M1 : Int → Heap → Nat), I1 0 h4 ∧
  ∀ (n1 : Int), ∀ h5 : Heap, I1 n1 h5 →
  bif (decide (n1 < (sL2 : Int))) then (
  (0 ≤ n1 ∧ n1 < (sL2 : Int)) ∧
  onSome sA2 fun p5 =>
  ∃ cs2 : List Value, List.length cs2 = 513 ∧ Cells h5 (Addr.add p5 ((Int.toNat n1) * 513)) cs2 ∧
  NewRow z143 143 cs2 513 h5 fun h7 =>
  ∃ (n2 : Int), cellOf h7 (Addr.add ⟨h5.size, 0, none⟩ 0) = some (.int .i64 n2) ∧
  bif (n2 == i1) then (
  ∃ cs3 : List Value, List.length cs3 = 512 ∧ Cells h7 (Addr.add ⟨h5.size, 0, none⟩ 1) cs3 ∧
  PutRow ⟨h2.size, 0, none⟩ cs3 512 h7 fun h8 =>
  I1 (IntKind.wrap .i64 (n1 + 1)) h8 ∧ M1 (IntKind.wrap .i64 (n1 + 1)) h8 < M1 n1 h5) else (
  I1 (IntKind.wrap .i64 (n1 + 1)) h7 ∧ M1 (IntKind.wrap .i64 (n1 + 1)) h7 < M1 n1 h5)) else (
  K (.tuple #[.slice (some ⟨h2.size, 0, none⟩) 512 512, .int .i64 0]) h5)))
def adisk_Disk_Read.lo : Nat → List Nat × List (Nat × Ty) := fun n => match n with | 7 => ([1, 6, 29, 30], [(31, .int .i64)]) | _ => ([], [])
def adisk_Disk_Read.od : Nat → Od := fun n => match n with | _ => .nil
theorem adisk_Disk_Read.eq (d1 : Option Addr) (i1 : Int) (K : Value → Heap → Prop) (h : Heap) : fnX (cx adisk_Disk_Read.lo adisk_Disk_Read.od) Tryd.f86 (Tryd.f86.body.getD .skip) [.pointer d1, .int .i64 i1] K h = adisk_Disk_Read d1 i1 K h := by kernel_rfl
theorem adisk_Disk_Read.chk : fnOk (cx adisk_Disk_Read.lo adisk_Disk_Read.od) Tryd.f86 (Tryd.f86.body.getD .skip) 2 = true := by kernel_rfl
theorem adisk_Disk_Read.ok {d1 : Option Addr} {i1 : Int} {K : Value → Heap → Prop} {h : Heap} (hx : adisk_Disk_Read d1 i1 K h) : C.adisk_Disk_Read d1 i1 h K :=
  fn_to (cxOk _ _) Tryd.func86 (by kernel_rfl) adisk_Disk_Read.chk (by rw [adisk_Disk_Read.eq]; exact hx)

-- 87
def adisk_Disk_has (d1 : Option Addr) (i1 : Int) (K : Value → Heap → Prop) (h1 : Heap) : Prop :=
  bif (decide (i1 ≥ 0)) then (
  onSome d1 fun p1 =>
  ∃ (sA1 : Option Addr) (sL1 : Nat) (sC1 : Nat), cellOf h1 (Addr.add p1 0) = some (.slice sA1 sL1 sC1) ∧
  K (.bool (decide (i1 < (sL1 : Int)))) h1) else (
  K (.bool false) h1)
def adisk_Disk_has.lo : Nat → List Nat × List (Nat × Ty) := fun n => match n with | _ => ([], [])
def adisk_Disk_has.od : Nat → Od := fun n => match n with | _ => .nil
theorem adisk_Disk_has.eq (d1 : Option Addr) (i1 : Int) (K : Value → Heap → Prop) (h : Heap) : fnX (cx adisk_Disk_has.lo adisk_Disk_has.od) Tryd.f87 (Tryd.f87.body.getD .skip) [.pointer d1, .int .i64 i1] K h = adisk_Disk_has d1 i1 K h := by kernel_rfl
theorem adisk_Disk_has.chk : fnOk (cx adisk_Disk_has.lo adisk_Disk_has.od) Tryd.f87 (Tryd.f87.body.getD .skip) 2 = true := by kernel_rfl
theorem adisk_Disk_has.ok {d1 : Option Addr} {i1 : Int} {K : Value → Heap → Prop} {h : Heap} (hx : adisk_Disk_has d1 i1 K h) : C.adisk_Disk_has d1 i1 h K :=
  fn_to (cxOk _ _) Tryd.func87 (by kernel_rfl) adisk_Disk_has.chk (by rw [adisk_Disk_has.eq]; exact hx)

-- 110
def gosem_cut_vars  (K : Value → Heap → Prop) (h1 : Heap) : Prop :=
  PutRow ⟨0, 0, none⟩ [.bool false, .bool true, .bool true, .bool false, .bool true, .bool false, .bool false, .bool false, .bool true] 9 h1 fun h2 =>
  PutRow ⟨1, 0, none⟩ [.int .u32 0, .int .u32 498536548, .int .u32 997073096, .int .u32 651767980, .int .u32 1994146192, .int .u32 1802195444, .int .u32 1303535960, .int .u32 1342533948, .int .u32 3988292384, .int .u32 4027552580, .int .u32 3604390888, .int .u32 3412177804, .int .u32 2607071920, .int .u32 2262029012, .int .u32 2685067896, .int .u32 3183342108] 16 h2 fun h3 =>
  K (.tuple #[]) h3
def gosem_cut_vars.lo : Nat → List Nat × List (Nat × Ty) := fun n => match n with | _ => ([], [])
def gosem_cut_vars.od : Nat → Od := fun n => match n with | _ => .nil
theorem gosem_cut_vars.eq  (K : Value → Heap → Prop) (h : Heap) : fnX (cx gosem_cut_vars.lo gosem_cut_vars.od) Tryd.f110 (Tryd.f110.body.getD .skip) [] K h = gosem_cut_vars  K h := by kernel_rfl
theorem gosem_cut_vars.chk : fnOk (cx gosem_cut_vars.lo gosem_cut_vars.od) Tryd.f110 (Tryd.f110.body.getD .skip) 0 = true := by kernel_rfl
theorem gosem_cut_vars.ok  {K : Value → Heap → Prop} {h : Heap} (hx : gosem_cut_vars  K h) : C.gosem_cut_vars  h K :=
  fn_to (cxOk _ _) Tryd.func110 (by kernel_rfl) gosem_cut_vars.chk (by rw [gosem_cut_vars.eq]; exact hx)
end Go.Proofs.YtnlmieklakolkaaDoor.W
