/-
  TEXTS FOR fileRefuses_card: FormsB FormsC FormsD FormsE FormsF FormsG FormsH FormsI FormsJ ReI InA InW Tb8 GlH.
-/
import Derived.Test.YtcdpakjhjmchhaaGreatDoorCards
import Derived.Test.YtcdpakjhjmchhaaGreatDoorTie
import Derived.Lib.SmallJoins
import Derived.Test.YtcdpakjhjmchhaaGreatDoorGp2
namespace Go.Proofs.YtcdpakjhjmchhaaGreatDoor.W
open Go Go.Proofs Go.Proofs.YtcdpakjhjmchhaaGreatDoor.Wx
def bolelaw12_FileRefuses.k7 (h2 : Heap) (q1 : Option Addr) (h22 : Heap) (K : Value → Heap → Prop) : Prop :=
  ∃ cs16 : List Value, List.length cs16 = 5 ∧ Cells h22 ⟨h2.size, 0, none⟩ cs16 ∧
  C.file_Read q1 cs16 2 8459260 100 h22 fun r17 h23 =>
  ∃ (s6 : ByteArray) (n17 : Int), r17 = .tuple #[.string s6, .int .i64 n17] ∧
  bif (n17 == 0) then (
  K (.bool (s6.toList == (mkStr [0, 0, 0, 122]).toList)) h23) else (
  K (.bool false) h23)
def bolelaw12_FileRefuses.k6 (h2 : Heap) (q1 : Option Addr) (h19 : Heap) (K : Value → Heap → Prop) : Prop :=
  C.txn_Txn_Written q1 h19 fun r15 h20 =>
  ∃ (sA1 : Option Addr) (sL1 : Nat) (sC1 : Nat), r15 = .slice sA1 sL1 sC1 ∧
  bif ((sL1 : Int) != 0) then (
  K (.bool false) h20) else (
  ∃ cs15 : List Value, List.length cs15 = 5 ∧ Cells h20 ⟨h2.size, 0, none⟩ cs15 ∧
  C.file_Write q1 cs15 2 8459263 (mkStr [122]) h20 fun r16 h21 =>
  ∃ (n16 : Int), r16 = .int .i64 n16 ∧
  bif (n16 != 0) then (
  K (.bool false) h21) else (
  bolelaw12_FileRefuses.k7 h2 q1 h21 K))
def bolelaw12_FileRefuses.k5 (h2 : Heap) (q1 : Option Addr) (s2 : ByteArray) (h13 : Heap) (K : Value → Heap → Prop) : Prop :=
  ∃ cs10 : List Value, List.length cs10 = 5 ∧ Cells h13 ⟨h2.size, 0, none⟩ cs10 ∧
  ((s2.size + (mkStr [97]).size : Nat) : Int) ≤ 9223372036854775807 ∧
  C.file_Write q1 cs10 2 (IntKind.wrap .i64 (8459264 - (s2.size : Int))) (s2 ++ (mkStr [97])) h13 fun r10 h14 =>
  ∃ (n11 : Int), r10 = .int .i64 n11 ∧
  bif (n11 != 120) then (
  K (.bool false) h14) else (
  ∃ cs11 : List Value, List.length cs11 = 5 ∧ Cells h14 ⟨h2.size, 0, none⟩ cs11 ∧
  ((s2.size + (mkStr [97]).size : Nat) : Int) ≤ 9223372036854775807 ∧
  C.file_Write q1 cs11 2 9223372036854775807 (s2 ++ (mkStr [97])) h14 fun r11 h15 =>
  ∃ (n12 : Int), r11 = .int .i64 n12 ∧
  bif (n12 != 120) then (
  K (.bool false) h15) else (
  ∃ cs12 : List Value, List.length cs12 = 5 ∧ Cells h15 ⟨h2.size, 0, none⟩ cs12 ∧
  C.file_Cut q1 cs12 2 8459265 h15 fun r12 h16 =>
  ∃ (n13 : Int), r12 = .int .i64 n13 ∧
  bif (n13 != 120) then (
  K (.bool false) h16) else (
  ∃ cs13 : List Value, List.length cs13 = 5 ∧ Cells h16 ⟨h2.size, 0, none⟩ cs13 ∧
  C.file_Cut q1 cs13 2 9223372036854775807 h16 fun r13 h17 =>
  ∃ (n14 : Int), r13 = .int .i64 n14 ∧
  bif (n14 != 120) then (
  K (.bool false) h17) else (
  ∃ cs14 : List Value, List.length cs14 = 5 ∧ Cells h17 ⟨h2.size, 0, none⟩ cs14 ∧
  C.file_Write q1 cs14 2 8459264 (mkStr []) h17 fun r14 h18 =>
  ∃ (n15 : Int), r14 = .int .i64 n15 ∧
  bif (n15 != 0) then (
  K (.bool false) h18) else (
  bolelaw12_FileRefuses.k6 h2 q1 h18 K)))))
def bolelaw12_FileRefuses.k4 (h2 : Heap) (q1 : Option Addr) (below1 : Int) (s2 : ByteArray) (none1 : Int) (h8 : Heap) (K : Value → Heap → Prop) : Prop :=
  ∃ cs6 : List Value, List.length cs6 = 5 ∧ Cells h8 ⟨h2.size, 0, none⟩ cs6 ∧
  C.file_Write q1 cs6 none1 0 s2 h8 fun r6 h9 =>
  ∃ (n7 : Int), r6 = .int .i64 n7 ∧
  bif (n7 != 110) then (
  K (.bool false) h9) else (
  ∃ cs7 : List Value, List.length cs7 = 5 ∧ Cells h9 ⟨h2.size, 0, none⟩ cs7 ∧
  C.file_Write q1 cs7 none1 below1 s2 h9 fun r7 h10 =>
  ∃ (n8 : Int), r7 = .int .i64 n8 ∧
  bif (n8 != 1) then (
  K (.bool false) h10) else (
  ∃ cs8 : List Value, List.length cs8 = 5 ∧ Cells h10 ⟨h2.size, 0, none⟩ cs8 ∧
  C.file_Cut q1 cs8 none1 5 h10 fun r8 h11 =>
  ∃ (n9 : Int), r8 = .int .i64 n9 ∧
  bif (n9 != 110) then (
  K (.bool false) h11) else (
  ∃ cs9 : List Value, List.length cs9 = 5 ∧ Cells h11 ⟨h2.size, 0, none⟩ cs9 ∧
  C.file_Cut q1 cs9 none1 below1 h11 fun r9 h12 =>
  ∃ (n10 : Int), r9 = .int .i64 n10 ∧
  bif (n10 != 1) then (
  K (.bool false) h12) else (
  bolelaw12_FileRefuses.k5 h2 q1 s2 h12 K))))
def bolelaw12_FileRefuses.k3 (h2 : Heap) (q1 : Option Addr) (h4 : Heap) (below1 : Int) (s2 : ByteArray) (none1 : Int) (K : Value → Heap → Prop) : Prop :=
  ∃ cs2 : List Value, List.length cs2 = 5 ∧ Cells h4 ⟨h2.size, 0, none⟩ cs2 ∧
  C.file_Read q1 cs2 none1 0 1 h4 fun r2 h5 =>
  ∃ (s3 : ByteArray) (n2 : Int), r2 = .tuple #[.string s3, .int .i64 n2] ∧
  ∃ cs3 : List Value, List.length cs3 = 5 ∧ Cells h5 ⟨h2.size, 0, none⟩ cs3 ∧
  C.file_Read q1 cs3 none1 below1 1 h5 fun r3 h6 =>
  ∃ (s4 : ByteArray) (n3 : Int), r3 = .tuple #[.string s4, .int .i64 n3] ∧
  ∃ cs4 : List Value, List.length cs4 = 5 ∧ Cells h6 ⟨h2.size, 0, none⟩ cs4 ∧
  C.file_Read q1 cs4 2 0 below1 h6 fun r4 h7 =>
  ∃ (s5 : ByteArray) (n4 : Int), r4 = .tuple #[.string s5, .int .i64 n4] ∧
  ∃ cs5 : List Value, List.length cs5 = 5 ∧ Cells h7 ⟨h2.size, 0, none⟩ cs5 ∧
  C.file_Blocks q1 cs5 none1 h7 fun r5 h8 =>
  ∃ (n5 : Int) (n6 : Int), r5 = .tuple #[.int .i64 n5, .int .i64 n6] ∧
  bif (n2 != 110) then (
  K (.bool false) h8) else (
  bif (n3 != 1) then (
  K (.bool false) h8) else (
  bif (n4 != 1) then (
  K (.bool false) h8) else (
  bif (n6 != 110) then (
  K (.bool false) h8) else (
  bolelaw12_FileRefuses.k4 h2 q1 below1 s2 none1 h8 K))))
def bolelaw12_FileRefuses.k2 (n1 : Int) (h2 : Heap) (q1 : Option Addr) (h4 : Heap) (below1 : Int) (s2 : ByteArray) (K : Value → Heap → Prop) : Prop :=
  bif (decide (n1 ≥ 1)) then (
  bif (decide (n1 ≤ 3)) then (
  bolelaw12_FileRefuses.k3 h2 q1 h4 below1 s2 4 K) else (
  bolelaw12_FileRefuses.k3 h2 q1 h4 below1 s2 n1 K)) else (
  bolelaw12_FileRefuses.k3 h2 q1 h4 below1 s2 n1 K)
def bolelaw12_FileRefuses.k1 (n1 : Int) (s1 : ByteArray) (h2 : Heap) (q1 : Option Addr) (h4 : Heap) (below1 : Int) (K : Value → Heap → Prop) : Prop :=
  bif (decide ((s1.size : Int) > 1000)) then (
  (0 ≤ (1000 : Int) ∧ 1000 ≤ (s1.size : Int)) ∧
  bolelaw12_FileRefuses.k2 n1 h2 q1 h4 below1 (ByteArray.extract s1 0 (Int.toNat 1000)) K) else (
  bolelaw12_FileRefuses.k2 n1 h2 q1 h4 below1 s1 K)
def bolelaw12_FileRefuses (n1 : Int) (off1 : Int) (s1 : ByteArray) (K : Value → Heap → Prop) (h1 : Heap) : Prop :=
  C.bolelaw12_fresh 150 h1 fun r1 h2 =>
  ∃ (q1 : Option Addr) (cs1 : List Value), r1 = .tuple #[.pointer q1, .agg ⟨cs1⟩] ∧
  NewRow z25 25 cs1 5 h2 fun h4 =>
  bif (Option.isNone q1) then (
  K (.bool false) h4) else (
  bif (decide (off1 ≥ 0)) then (
  bolelaw12_FileRefuses.k1 n1 s1 h2 q1 h4 (IntKind.wrap .i64 ((-1) - off1)) K) else (
  bolelaw12_FileRefuses.k1 n1 s1 h2 q1 h4 off1 K))
def bolelaw12_FileRefuses.lo : Nat → List Nat × List (Nat × Ty) := fun n => match n with | _ => ([], [])
def bolelaw12_FileRefuses.od : Nat → Od := fun n => match n with | _ => .nil
theorem bolelaw12_FileRefuses.eq (n1 : Int) (off1 : Int) (s1 : ByteArray) (K : Value → Heap → Prop) (h : Heap) : fnX (cx bolelaw12_FileRefuses.lo bolelaw12_FileRefuses.od) Tryz.f8 (Tryz.f8.body.getD .skip) [.int .i64 n1, .int .i64 off1, .string s1] K h = bolelaw12_FileRefuses n1 off1 s1 K h := by kernel_rfl
theorem bolelaw12_FileRefuses.chk : fnOk (cx bolelaw12_FileRefuses.lo bolelaw12_FileRefuses.od) Tryz.f8 (Tryz.f8.body.getD .skip) 3 = true := by kernel_rfl
theorem bolelaw12_FileRefuses.ok {n1 : Int} {off1 : Int} {s1 : ByteArray} {K : Value → Heap → Prop} {h : Heap} (hx : bolelaw12_FileRefuses n1 off1 s1 K h) : C.bolelaw12_FileRefuses n1 off1 s1 h K :=
  fn_to (cxOk _ _) Tryz.func8 (by kernel_rfl) bolelaw12_FileRefuses.chk (by rw [bolelaw12_FileRefuses.eq]; exact hx)
end Go.Proofs.YtcdpakjhjmchhaaGreatDoor.W
namespace Go.Proofs.YtcdpakjhjmchhaaGreatDoor.W
open Go Go.Proofs Go.Proofs.YtcdpakjhjmchhaaGreatDoor.Wx
def bolelaw12_fresh.k3 (h1 : Heap) (h3 : Heap) (q1 : Option Addr) (q2 : Option Addr) (h23 : Heap) (K : Value → Heap → Prop) : Prop :=
  C.txn_Txn_Abort q2 h23 fun r8 h24 =>
  r8 = .tuple #[] ∧
  ∃ cs14 : List Value, List.length cs14 = 5 ∧ Cells h24 ⟨h3.size, 0, none⟩ cs14 ∧
  C.txn_Begin q1 h24 fun r9 h25 =>
  ∃ (q3 : Option Addr), r9 = .pointer q3 ∧
  (List.length (cs14 : List Value) = 5 ∧ Cells h25 ⟨h3.size, 0, none⟩ cs14) ∧
  PutRow ⟨h1.size, 0, none⟩ cs14 5 h25 fun h26 =>
  ∃ res9 : List Value, List.length res9 = 5 ∧ Cells h26 ⟨h1.size, 0, none⟩ res9 ∧
  K (.tuple #[.pointer q3, .agg ⟨res9⟩]) h26
def bolelaw12_fresh.k2 (h1 : Heap) (h3 : Heap) (q1 : Option Addr) (q2 : Option Addr) (h16 : Heap) (K : Value → Heap → Prop) : Prop :=
  ∃ cs8 : List Value, List.length cs8 = 5 ∧ Cells h16 ⟨h3.size, 0, none⟩ cs8 ∧
  C.file_Read q2 cs8 2 0 100 h16 fun r6 h17 =>
  ∃ (s1 : ByteArray) (n4 : Int), r6 = .tuple #[.string s1, .int .i64 n4] ∧
  ∃ cs9 : List Value, List.length cs9 = 5 ∧ Cells h17 ⟨h3.size, 0, none⟩ cs9 ∧
  C.file_Blocks q2 cs9 2 h17 fun r7 h18 =>
  ∃ (n5 : Int) (n6 : Int), r7 = .tuple #[.int .i64 n5, .int .i64 n6] ∧
  bif (n4 != 0) then (
  ∃ cs10 : List Value, List.length cs10 = 5 ∧ Cells h18 ⟨h3.size, 0, none⟩ cs10 ∧
  PutRow ⟨h1.size, 0, none⟩ cs10 5 h18 fun h19 =>
  ∃ res5 : List Value, List.length res5 = 5 ∧ Cells h19 ⟨h1.size, 0, none⟩ res5 ∧
  K (.tuple #[.pointer none, .agg ⟨res5⟩]) h19) else (
  bif (!(s1.toList == (mkStr [0, 0, 0, 97, 98, 99]).toList)) then (
  ∃ cs11 : List Value, List.length cs11 = 5 ∧ Cells h18 ⟨h3.size, 0, none⟩ cs11 ∧
  PutRow ⟨h1.size, 0, none⟩ cs11 5 h18 fun h20 =>
  ∃ res6 : List Value, List.length res6 = 5 ∧ Cells h20 ⟨h1.size, 0, none⟩ res6 ∧
  K (.tuple #[.pointer none, .agg ⟨res6⟩]) h20) else (
  bif (n6 != 0) then (
  ∃ cs12 : List Value, List.length cs12 = 5 ∧ Cells h18 ⟨h3.size, 0, none⟩ cs12 ∧
  PutRow ⟨h1.size, 0, none⟩ cs12 5 h18 fun h21 =>
  ∃ res7 : List Value, List.length res7 = 5 ∧ Cells h21 ⟨h1.size, 0, none⟩ res7 ∧
  K (.tuple #[.pointer none, .agg ⟨res7⟩]) h21) else (
  bif (n5 != 1) then (
  ∃ cs13 : List Value, List.length cs13 = 5 ∧ Cells h18 ⟨h3.size, 0, none⟩ cs13 ∧
  PutRow ⟨h1.size, 0, none⟩ cs13 5 h18 fun h22 =>
  ∃ res8 : List Value, List.length res8 = 5 ∧ Cells h22 ⟨h1.size, 0, none⟩ res8 ∧
  K (.tuple #[.pointer none, .agg ⟨res8⟩]) h22) else (
  bolelaw12_fresh.k3 h1 h3 q1 q2 h18 K))))
def bolelaw12_fresh.k1 (h1 : Heap) (h3 : Heap) (q1 : Option Addr) (h11 : Heap) (K : Value → Heap → Prop) : Prop :=
  C.txn_Begin q1 h11 fun r4 h12 =>
  ∃ (q2 : Option Addr), r4 = .pointer q2 ∧
  bif (Option.isNone q2) then (
  ∃ cs5 : List Value, List.length cs5 = 5 ∧ Cells h12 ⟨h3.size, 0, none⟩ cs5 ∧
  PutRow ⟨h1.size, 0, none⟩ cs5 5 h12 fun h13 =>
  ∃ res3 : List Value, List.length res3 = 5 ∧ Cells h13 ⟨h1.size, 0, none⟩ res3 ∧
  K (.tuple #[.pointer none, .agg ⟨res3⟩]) h13) else (
  ∃ cs6 : List Value, List.length cs6 = 5 ∧ Cells h12 ⟨h3.size, 0, none⟩ cs6 ∧
  C.file_Write q2 cs6 2 3 (mkStr [97, 98, 99]) h12 fun r5 h14 =>
  ∃ (n3 : Int), r5 = .int .i64 n3 ∧
  bif (n3 != 0) then (
  ∃ cs7 : List Value, List.length cs7 = 5 ∧ Cells h14 ⟨h3.size, 0, none⟩ cs7 ∧
  PutRow ⟨h1.size, 0, none⟩ cs7 5 h14 fun h15 =>
  ∃ res4 : List Value, List.length res4 = 5 ∧ Cells h15 ⟨h1.size, 0, none⟩ res4 ∧
  K (.tuple #[.pointer none, .agg ⟨res4⟩]) h15) else (
  bolelaw12_fresh.k2 h1 h3 q1 q2 h14 K))
def bolelaw12_fresh (n1 : Int) (K : Value → Heap → Prop) (h1 : Heap) : Prop :=
  New z25 25 h1 fun h2 =>
  C.boleref09_Geo n1 h2 fun r1 h3 =>
  ∃ (cs1 : List Value), r1 = .agg ⟨cs1⟩ ∧
  NewRow z25 25 cs1 5 h3 fun h5 =>
  ∃ cs2 : List Value, List.length cs2 = 5 ∧ Cells h5 ⟨h3.size, 0, none⟩ cs2 ∧
  List.length ([.int .i64 2, .int .i64 2, .int .i64 0, .int .i64 0, .int .i64 0, .int .i64 0, .int .i64 0, .int .i64 0, .int .i64 0, .int .i64 0, .int .i64 0, .int .i64 0, .int .i64 0, .int .i64 0, .int .i64 0] : List Value) = 15 ∧
  List.length ([.int .i64 1, .int .i64 1, .int .i64 0, .int .i64 0, .int .i64 0, .int .i64 0, .int .i64 0, .int .i64 0, .int .i64 0, .int .i64 0, .int .i64 0, .int .i64 0, .int .i64 0, .int .i64 0, .int .i64 0] : List Value) = 15 ∧
  List.length ([.int .i64 1, .int .i64 1, .int .i64 0, .int .i64 0, .int .i64 0, .int .i64 0, .int .i64 0, .int .i64 0, .int .i64 0, .int .i64 0, .int .i64 0, .int .i64 0, .int .i64 0, .int .i64 0, .int .i64 0] : List Value) = 15 ∧
  New [.int .i64 2, .int .i64 2, .int .i64 0, .int .i64 0, .int .i64 0, .int .i64 0, .int .i64 0, .int .i64 0, .int .i64 0, .int .i64 0, .int .i64 0, .int .i64 0, .int .i64 0, .int .i64 0, .int .i64 0, .int .i64 1, .int .i64 1, .int .i64 0, .int .i64 0, .int .i64 0, .int .i64 0, .int .i64 0, .int .i64 0, .int .i64 0, .int .i64 0, .int .i64 0, .int .i64 0, .int .i64 0, .int .i64 0, .int .i64 0, .int .i64 1, .int .i64 1, .int .i64 0, .int .i64 0, .int .i64 0, .int .i64 0, .int .i64 0, .int .i64 0, .int .i64 0, .int .i64 0, .int .i64 0, .int .i64 0, .int .i64 0, .int .i64 0, .int .i64 0] 44 h5 fun h6 =>
  C.boleref12_Image cs2 (some ⟨h5.size, 0, none⟩) 3 3 h6 fun r2 h7 =>
  ∃ (sA1 : Option Addr) (sL1 : Nat) (sC1 : Nat), r2 = .slice sA1 sL1 sC1 ∧
  C.adisk_Open sA1 sL1 sC1 h7 fun r3 h8 =>
  ∃ (q1 : Option Addr) (n2 : Int), r3 = .tuple #[.pointer q1, .int .i64 n2] ∧
  bif (n2 != 0) then (
  ∃ cs3 : List Value, List.length cs3 = 5 ∧ Cells h8 ⟨h3.size, 0, none⟩ cs3 ∧
  PutRow ⟨h1.size, 0, none⟩ cs3 5 h8 fun h9 =>
  ∃ res1 : List Value, List.length res1 = 5 ∧ Cells h9 ⟨h1.size, 0, none⟩ res1 ∧
  K (.tuple #[.pointer none, .agg ⟨res1⟩]) h9) else (
  bif (Option.isNone q1) then (
  ∃ cs4 : List Value, List.length cs4 = 5 ∧ Cells h8 ⟨h3.size, 0, none⟩ cs4 ∧
  PutRow ⟨h1.size, 0, none⟩ cs4 5 h8 fun h10 =>
  ∃ res2 : List Value, List.length res2 = 5 ∧ Cells h10 ⟨h1.size, 0, none⟩ res2 ∧
  K (.tuple #[.pointer none, .agg ⟨res2⟩]) h10) else (
  bolelaw12_fresh.k1 h1 h3 q1 h8 K))
def bolelaw12_fresh.lo : Nat → List Nat × List (Nat × Ty) := fun n => match n with | _ => ([], [])
def bolelaw12_fresh.od : Nat → Od := fun n => match n with | 5 => (.op 0 [] (.op 1 [] (.op 2 [] .nil))) | 8 => (.op 0 [] (.op 1 [] (.op 2 [] .nil))) | 12 => (.op 0 [] (.op 1 [] (.op 2 [] .nil))) | 14 => (.op 0 [] (.op 2 [] (.op 1 [2] (.op 3 [] (.op 4 [] .nil))))) | _ => .nil
theorem bolelaw12_fresh.eq (n1 : Int) (K : Value → Heap → Prop) (h : Heap) : fnX (cx bolelaw12_fresh.lo bolelaw12_fresh.od) Tryz.f10 (Tryz.f10.body.getD .skip) [.int .i64 n1] K h = bolelaw12_fresh n1 K h := by kernel_rfl
theorem bolelaw12_fresh.chk : fnOk (cx bolelaw12_fresh.lo bolelaw12_fresh.od) Tryz.f10 (Tryz.f10.body.getD .skip) 1 = true := by kernel_rfl
theorem bolelaw12_fresh.ok {n1 : Int} {K : Value → Heap → Prop} {h : Heap} (hx : bolelaw12_fresh n1 K h) : C.bolelaw12_fresh n1 h K :=
  fn_to (cxOk _ _) Tryz.func10 (by kernel_rfl) bolelaw12_fresh.chk (by rw [bolelaw12_fresh.eq]; exact hx)
def file_Write (t1 : Option Addr) (g1 : List Value) (n1 : Int) (off1 : Int) (s1 : ByteArray) (K : Value → Heap → Prop) (h1 : Heap) : Prop :=
  New [.pointer t1] 23 h1 fun h2 =>
  New g1 25 h2 fun h3 =>
  New [.string s1] 9 h3 fun h4 =>
  New z28 28 h4 fun h5 =>
  bif (decide (off1 < 0)) then (
  Put ⟨h4.size, 0, none⟩ (.int .i64 1) h5 fun h6 =>
  ∃ (res1 : Int), cellOf h6 ⟨h4.size, 0, none⟩ = some (.int .i64 res1) ∧
  K (.int .i64 res1) h6) else (
  ∃ (q1 : Option Addr), cellOf h5 ⟨h1.size, 0, none⟩ = some (.pointer q1) ∧
  ∃ cs1 : List Value, List.length cs1 = 5 ∧ Cells h5 ⟨h2.size, 0, none⟩ cs1 ∧
  C.file_get q1 cs1 n1 h5 fun r1 h7 =>
  ∃ (cs2 : List Value) (n2 : Int), r1 = .tuple #[.agg ⟨cs2⟩, .int .i64 n2] ∧
  NewRow z44 44 cs2 15 h7 fun h9 =>
  Put ⟨h4.size, 0, none⟩ (.int .i64 n2) h9 fun h10 =>
  ∃ (n3 : Int), cellOf h10 ⟨h4.size, 0, none⟩ = some (.int .i64 n3) ∧
  bif (n3 != 0) then (
  ∃ (n4 : Int), cellOf h10 ⟨h4.size, 0, none⟩ = some (.int .i64 n4) ∧
  Put ⟨h4.size, 0, none⟩ (.int .i64 n4) h10 fun h11 =>
  ∃ (res2 : Int), cellOf h11 ⟨h4.size, 0, none⟩ = some (.int .i64 res2) ∧
  K (.int .i64 res2) h11) else (
  ∃ (s2 : ByteArray), cellOf h10 ⟨h3.size, 0, none⟩ = some (.string s2) ∧
  bif (decide ((s2.size : Int) > (IntKind.wrap .i64 (8459264 - off1)))) then (
  Put ⟨h4.size, 0, none⟩ (.int .i64 120) h10 fun h12 =>
  ∃ (res3 : Int), cellOf h12 ⟨h4.size, 0, none⟩ = some (.int .i64 res3) ∧
  K (.int .i64 res3) h12) else (
  ∃ (s3 : ByteArray), cellOf h10 ⟨h3.size, 0, none⟩ = some (.string s3) ∧
  bif (s3.toList == (mkStr []).toList) then (
  Put ⟨h4.size, 0, none⟩ (.int .i64 0) h10 fun h13 =>
  ∃ (res4 : Int), cellOf h13 ⟨h4.size, 0, none⟩ = some (.int .i64 res4) ∧
  K (.int .i64 res4) h13) else (
  ∃ (q2 : Option Addr), cellOf h10 ⟨h1.size, 0, none⟩ = some (.pointer q2) ∧
  C.file_undo q2 (some ⟨h4.size, 0, none⟩) h10 fun r2 h14 =>
  ∃ (g2 : Nat) (fs1 : List Value) (cs3 : List Value), r2 = .func (.func g2) ⟨fs1⟩ ⟨cs3⟩ ∧
  ∃ (s4 : ByteArray), cellOf h14 ⟨h3.size, 0, none⟩ = some (.string s4) ∧
  C.file_parts off1 (s4.size : Int) h14 fun r3 h15 =>
  ∃ (v1 : Value), r3 = v1 ∧
  ∀ (R1 : Loop),
  (∀ (cs4 : List Value), ∀ (h16 : Heap) (k1 : Value → Heap → Prop), LoopOn h16 (h15.size + 1) R1 .ready none →
  (
  NewRow z118 118 cs4 4 h16 fun h18 =>
  LoopOn h18 (h15.size + 1) R1 .ready none ∧
  SetL h18 (h15.size + 1) R1 .busy none fun h19 =>
  ∃ (q3 : Option Addr), cellOf h19 ⟨h1.size, 0, none⟩ = some (.pointer q3) ∧
  ∃ cs5 : List Value, List.length cs5 = 5 ∧ Cells h19 ⟨h2.size, 0, none⟩ cs5 ∧
  ∃ cs6 : List Value, List.length cs6 = 15 ∧ Cells h19 ⟨h7.size, 0, none⟩ cs6 ∧
  ∃ (n5 : Int), cellOf h19 (Addr.add ⟨h16.size, 0, none⟩ 0) = some (.int .i64 n5) ∧
  C.bmap_Add q3 cs5 cs6 n5 h19 fun r4 h20 =>
  ∃ (cs7 : List Value) (n6 : Int) (n7 : Int), r4 = .tuple #[.agg ⟨cs7⟩, .int .i64 n6, .int .i64 n7] ∧
  NewRow z44 44 cs7 15 h20 fun h22 =>
  bif (n7 != 0) then (
  Put ⟨h4.size, 0, none⟩ (.int .i64 n7) h22 fun h23 =>
  LoopOn h23 (h15.size + 1) R1 .busy none ∧
  k1 (.bool false) (setLoop h23 (h15.size + 1) R1 .done (some .ret))) else (
  ∃ (q4 : Option Addr), cellOf h22 ⟨h1.size, 0, none⟩ = some (.pointer q4) ∧
  C.txn_Txn_Read q4 n6 h22 fun r5 h24 =>
  ∃ (sA1 : Option Addr) (sL1 : Nat) (sC1 : Nat) (n8 : Int), r5 = .tuple #[.slice sA1 sL1 sC1, .int .i64 n8] ∧
  bif (n8 != 0) then (
  Put ⟨h4.size, 0, none⟩ (.int .i64 n8) h24 fun h25 =>
  LoopOn h25 (h15.size + 1) R1 .busy none ∧
  k1 (.bool false) (setLoop h25 (h15.size + 1) R1 .done (some .ret))) else (
  ∃ (n9 : Int), cellOf h24 (Addr.add ⟨h16.size, 0, none⟩ 1) = some (.int .i64 n9) ∧
  ∃ (n10 : Int), cellOf h24 (Addr.add ⟨h16.size, 0, none⟩ 2) = some (.int .i64 n10) ∧
  (0 ≤ n9 ∧ n9 ≤ n10 ∧ n10 ≤ (sC1 : Int)) ∧
  ∃ (s5 : ByteArray), cellOf h24 ⟨h3.size, 0, none⟩ = some (.string s5) ∧
  ∃ (n11 : Int), cellOf h24 (Addr.add ⟨h16.size, 0, none⟩ 3) = some (.int .i64 n11) ∧
  (0 ≤ n11 ∧ n11 ≤ (s5.size : Int)) ∧
  CopyP ti5 (if sC1 = (Int.toNat n9) then sA1 else Option.map (Addr.add · (Int.toNat n9)) sA1) ((Int.toNat n10) - (Int.toNat n9)) (.string (ByteArray.extract s5 (Int.toNat n11) s5.size)) h24 fun n12 h26 =>
  ∃ (q5 : Option Addr), cellOf h26 ⟨h1.size, 0, none⟩ = some (.pointer q5) ∧
  C.txn_Txn_Write q5 n6 sA1 sL1 sC1 h26 fun r6 h27 =>
  ∃ (n13 : Int), r6 = .int .i64 n13 ∧
  bif (n13 != 0) then (
  Put ⟨h4.size, 0, none⟩ (.int .i64 n13) h27 fun h28 =>
  LoopOn h28 (h15.size + 1) R1 .busy none ∧
  k1 (.bool false) (setLoop h28 (h15.size + 1) R1 .done (some .ret))) else (
  ∃ cs8 : List Value, List.length cs8 = 15 ∧ Cells h27 ⟨h20.size, 0, none⟩ cs8 ∧
  PutRow ⟨h7.size, 0, none⟩ cs8 15 h27 fun h29 =>
  LoopOn h29 (h15.size + 1) R1 .busy none ∧
  k1 (.bool true) (setLoop h29 (h15.size + 1) R1 .ready none))))) →
  YCalls Tryz.prog (h15.size + 1) [.agg ⟨cs4⟩] h16 k1) →
  HCallsF Tryz.prog v1 [.func (.yield (h15.size + 1)) #[] #[]] (beginL h15 R1) fun _ h30 =>
  ∃ (st1 : LoopState) (pend1 : Option Code), LoopOn h30 (h15.size + 1) R1 st1 pend1 ∧ st1 ≠ .busy ∧
  pendX pend1 (
  SetL h30 (h15.size + 1) R1 .exhausted pend1 fun h31 =>
  ∃ (n14 : Int), cellOf h31 (Addr.add ⟨h7.size, 0, none⟩ 2) = some (.int .i64 n14) ∧
  ∃ (s6 : ByteArray), cellOf h31 ⟨h3.size, 0, none⟩ = some (.string s6) ∧
  Put (Addr.add ⟨h7.size, 0, none⟩ 2) (.int .i64 (if (IntKind.wrap .i64 (off1 + (s6.size : Int))) > n14 then (IntKind.wrap .i64 (off1 + (s6.size : Int))) else n14)) h31 fun h32 =>
  ∃ (q6 : Option Addr), cellOf h32 ⟨h1.size, 0, none⟩ = some (.pointer q6) ∧
  ∃ cs9 : List Value, List.length cs9 = 5 ∧ Cells h32 ⟨h2.size, 0, none⟩ cs9 ∧
  ∃ cs10 : List Value, List.length cs10 = 15 ∧ Cells h32 ⟨h7.size, 0, none⟩ cs10 ∧
  C.inode_Put q6 cs9 n1 cs10 h32 fun r7 h33 =>
  ∃ (n15 : Int), r7 = .int .i64 n15 ∧
  Put ⟨h4.size, 0, none⟩ (.int .i64 n15) h33 fun h34 =>
  EndD h15.size h34 fun h35 =>
  DCallsV Tryz.prog (.func (.func g2) ⟨fs1⟩ ⟨cs3⟩) [] h35 fun h36 =>
  ∃ (res5 : Int), cellOf h36 ⟨h4.size, 0, none⟩ = some (.int .i64 res5) ∧
  K (.int .i64 res5) h36) (
  SetL h30 (h15.size + 1) R1 .exhausted pend1 fun h37 =>
  EndD h15.size h37 fun h38 =>
  DCallsV Tryz.prog (.func (.func g2) ⟨fs1⟩ ⟨cs3⟩) [] h38 fun h39 =>
  ∃ (res6 : Int), cellOf h39 ⟨h4.size, 0, none⟩ = some (.int .i64 res6) ∧
  K (.int .i64 res6) h39) (fun _ => False)))))
def file_Write.lo : Nat → List Nat × List (Nat × Ty) := fun n => match n with | 1000012 => ([], [(43, .agg)]) | _ => ([], [])
def file_Write.od : Nat → Od := fun n => match n with | 19 => (.op 0 [] (.op 1 [] (.op 2 [] (.op 3 [] (.op 4 [] (.op 5 [] (.op 6 [] (.op 7 [] (.op 8 [] (.op 9 [] (.op 10 [] .nil))))))))))) | _ => .nil
set_option maxRecDepth 1000000 in
theorem file_Write.eq (t1 : Option Addr) (g1 : List Value) (n1 : Int) (off1 : Int) (s1 : ByteArray) (K : Value → Heap → Prop) (h : Heap) : fnX (cx file_Write.lo file_Write.od) Tryz.f12 (Tryz.f12.body.getD .skip) [.pointer t1, .agg ⟨g1⟩, .int .i64 n1, .int .i64 off1, .string s1] K h = file_Write t1 g1 n1 off1 s1 K h := by kernel_rfl
theorem file_Write.chk : fnOk (cx file_Write.lo file_Write.od) Tryz.f12 (Tryz.f12.body.getD .skip) 5 = true := by kernel_rfl
set_option maxRecDepth 1000000 in
theorem file_Write.ok {t1 : Option Addr} {g1 : List Value} {n1 : Int} {off1 : Int} {s1 : ByteArray} {K : Value → Heap → Prop} {h : Heap} (hx : file_Write t1 g1 n1 off1 s1 K h) : C.file_Write t1 g1 n1 off1 s1 h K :=
  fn_to (cxOk _ _) Tryz.func12 (by kernel_rfl) file_Write.chk (by rw [file_Write.eq]; exact hx)
def file_Read.k1 (n1 : Int) (off1 : Int) (size1 : Int) (h1 : Heap) (h2 : Heap) (h3 : Heap) (h4 : Heap) (h10 : Heap) (K : Value → Heap → Prop) : Prop :=
  ∃ (q1 : Option Addr), cellOf h10 ⟨h1.size, 0, none⟩ = some (.pointer q1) ∧
  ∃ cs1 : List Value, List.length cs1 = 5 ∧ Cells h10 ⟨h2.size, 0, none⟩ cs1 ∧
  C.file_get q1 cs1 n1 h10 fun r1 h11 =>
  ∃ (cs2 : List Value) (n2 : Int), r1 = .tuple #[.agg ⟨cs2⟩, .int .i64 n2] ∧
  NewRow z44 44 cs2 15 h11 fun h13 =>
  bif (n2 != 0) then (
  Put ⟨h3.size, 0, none⟩ (.string (mkStr [])) h13 fun h14 =>
  Put ⟨h4.size, 0, none⟩ (.int .i64 n2) h14 fun h15 =>
  ∃ (res5 : ByteArray), cellOf h15 ⟨h3.size, 0, none⟩ = some (.string res5) ∧
  ∃ (res6 : Int), cellOf h15 ⟨h4.size, 0, none⟩ = some (.int .i64 res6) ∧
  K (.tuple #[.string res5, .int .i64 res6]) h15) else (
  ∃ (n3 : Int), cellOf h13 (Addr.add ⟨h11.size, 0, none⟩ 2) = some (.int .i64 n3) ∧
  bif (decide (off1 ≥ n3)) then (
  Put ⟨h3.size, 0, none⟩ (.string (mkStr [])) h13 fun h16 =>
  Put ⟨h4.size, 0, none⟩ (.int .i64 0) h16 fun h17 =>
  ∃ (res7 : ByteArray), cellOf h17 ⟨h3.size, 0, none⟩ = some (.string res7) ∧
  ∃ (res8 : Int), cellOf h17 ⟨h4.size, 0, none⟩ = some (.int .i64 res8) ∧
  K (.tuple #[.string res7, .int .i64 res8]) h17) else (
  New z123 123 h13 fun h18 =>
  ∃ (n4 : Int), cellOf h18 (Addr.add ⟨h11.size, 0, none⟩ 2) = some (.int .i64 n4) ∧
  C.file_parts off1 (if (IntKind.wrap .i64 (n4 - off1)) < size1 then (IntKind.wrap .i64 (n4 - off1)) else size1) h18 fun r2 h19 =>
  ∃ (v1 : Value), r2 = v1 ∧
  ∀ (R1 : Loop),
  (∀ (cs3 : List Value), ∀ (h20 : Heap) (k1 : Value → Heap → Prop), LoopOn h20 (h19.size + 1) R1 .ready none →
  (
  NewRow z118 118 cs3 4 h20 fun h22 =>
  LoopOn h22 (h19.size + 1) R1 .ready none ∧
  SetL h22 (h19.size + 1) R1 .busy none fun h23 =>
  ∃ (q2 : Option Addr), cellOf h23 ⟨h1.size, 0, none⟩ = some (.pointer q2) ∧
  ∃ cs4 : List Value, List.length cs4 = 5 ∧ Cells h23 ⟨h2.size, 0, none⟩ cs4 ∧
  ∃ cs5 : List Value, List.length cs5 = 15 ∧ Cells h23 ⟨h11.size, 0, none⟩ cs5 ∧
  ∃ (n5 : Int), cellOf h23 (Addr.add ⟨h20.size, 0, none⟩ 0) = some (.int .i64 n5) ∧
  C.file_block q2 cs4 cs5 n5 h23 fun r3 h24 =>
  ∃ (sA1 : Option Addr) (sL1 : Nat) (sC1 : Nat) (n6 : Int), r3 = .tuple #[.slice sA1 sL1 sC1, .int .i64 n6] ∧
  bif (n6 != 0) then (
  Put ⟨h3.size, 0, none⟩ (.string (mkStr [])) h24 fun h25 =>
  Put ⟨h4.size, 0, none⟩ (.int .i64 n6) h25 fun h26 =>
  LoopOn h26 (h19.size + 1) R1 .busy none ∧
  k1 (.bool false) (setLoop h26 (h19.size + 1) R1 .done (some .ret))) else (
  ∃ (n7 : Int), cellOf h24 (Addr.add ⟨h20.size, 0, none⟩ 1) = some (.int .i64 n7) ∧
  ∃ (n8 : Int), cellOf h24 (Addr.add ⟨h20.size, 0, none⟩ 2) = some (.int .i64 n8) ∧
  (0 ≤ n7 ∧ n7 ≤ n8 ∧ n8 ≤ (sC1 : Int)) ∧
  C.strings_Builder_Write (some ⟨h13.size, 0, none⟩) (if sC1 = (Int.toNat n7) then sA1 else Option.map (Addr.add · (Int.toNat n7)) sA1) ((Int.toNat n8) - (Int.toNat n7)) (sC1 - (Int.toNat n7)) h24 fun r4 h27 =>
  ∃ (n9 : Int) (v2 : Value), r4 = .tuple #[.int .i64 n9, v2] ∧
  LoopOn h27 (h19.size + 1) R1 .busy none ∧
  k1 (.bool true) (setLoop h27 (h19.size + 1) R1 .ready none))) →
  YCalls Tryz.prog (h19.size + 1) [.agg ⟨cs3⟩] h20 k1) →
  HCallsF Tryz.prog v1 [.func (.yield (h19.size + 1)) #[] #[]] (beginL h19 R1) fun _ h28 =>
  ∃ (st1 : LoopState) (pend1 : Option Code), LoopOn h28 (h19.size + 1) R1 st1 pend1 ∧ st1 ≠ .busy ∧
  pendX pend1 (
  SetL h28 (h19.size + 1) R1 .exhausted pend1 fun h29 =>
  C.strings_Builder_String (some ⟨h13.size, 0, none⟩) h29 fun r5 h30 =>
  ∃ (s1 : ByteArray), r5 = .string s1 ∧
  Put ⟨h3.size, 0, none⟩ (.string s1) h30 fun h31 =>
  Put ⟨h4.size, 0, none⟩ (.int .i64 0) h31 fun h32 =>
  EndD h19.size h32 fun h33 =>
  ∃ (res9 : ByteArray), cellOf h33 ⟨h3.size, 0, none⟩ = some (.string res9) ∧
  ∃ (res10 : Int), cellOf h33 ⟨h4.size, 0, none⟩ = some (.int .i64 res10) ∧
  K (.tuple #[.string res9, .int .i64 res10]) h33) (
  SetL h28 (h19.size + 1) R1 .exhausted pend1 fun h34 =>
  EndD h19.size h34 fun h35 =>
  ∃ (res11 : ByteArray), cellOf h35 ⟨h3.size, 0, none⟩ = some (.string res11) ∧
  ∃ (res12 : Int), cellOf h35 ⟨h4.size, 0, none⟩ = some (.int .i64 res12) ∧
  K (.tuple #[.string res11, .int .i64 res12]) h35) (fun _ => False)))
def file_Read (t1 : Option Addr) (g1 : List Value) (n1 : Int) (off1 : Int) (size1 : Int) (K : Value → Heap → Prop) (h1 : Heap) : Prop :=
  New [.pointer t1] 23 h1 fun h2 =>
  New g1 25 h2 fun h3 =>
  New z9 9 h3 fun h4 =>
  New z28 28 h4 fun h5 =>
  bif (decide (off1 < 0)) then (
  Put ⟨h3.size, 0, none⟩ (.string (mkStr [])) h5 fun h6 =>
  Put ⟨h4.size, 0, none⟩ (.int .i64 1) h6 fun h7 =>
  ∃ (res1 : ByteArray), cellOf h7 ⟨h3.size, 0, none⟩ = some (.string res1) ∧
  ∃ (res2 : Int), cellOf h7 ⟨h4.size, 0, none⟩ = some (.int .i64 res2) ∧
  K (.tuple #[.string res1, .int .i64 res2]) h7) else (
  bif (decide (size1 < 0)) then (
  Put ⟨h3.size, 0, none⟩ (.string (mkStr [])) h5 fun h8 =>
  Put ⟨h4.size, 0, none⟩ (.int .i64 1) h8 fun h9 =>
  ∃ (res3 : ByteArray), cellOf h9 ⟨h3.size, 0, none⟩ = some (.string res3) ∧
  ∃ (res4 : Int), cellOf h9 ⟨h4.size, 0, none⟩ = some (.int .i64 res4) ∧
  K (.tuple #[.string res3, .int .i64 res4]) h9) else (
  file_Read.k1 n1 off1 size1 h1 h2 h3 h4 h5 K))
def file_Read.lo : Nat → List Nat × List (Nat × Ty) := fun n => match n with | 1000010 => ([], [(46, .agg)]) | _ => ([], [])
def file_Read.od : Nat → Od := fun n => match n with | _ => .nil
theorem file_Read.eq (t1 : Option Addr) (g1 : List Value) (n1 : Int) (off1 : Int) (size1 : Int) (K : Value → Heap → Prop) (h : Heap) : fnX (cx file_Read.lo file_Read.od) Tryz.f14 (Tryz.f14.body.getD .skip) [.pointer t1, .agg ⟨g1⟩, .int .i64 n1, .int .i64 off1, .int .i64 size1] K h = file_Read t1 g1 n1 off1 size1 K h := by kernel_rfl
theorem file_Read.chk : fnOk (cx file_Read.lo file_Read.od) Tryz.f14 (Tryz.f14.body.getD .skip) 5 = true := by kernel_rfl
theorem file_Read.ok {t1 : Option Addr} {g1 : List Value} {n1 : Int} {off1 : Int} {size1 : Int} {K : Value → Heap → Prop} {h : Heap} (hx : file_Read t1 g1 n1 off1 size1 K h) : C.file_Read t1 g1 n1 off1 size1 h K :=
  fn_to (cxOk _ _) Tryz.func14 (by kernel_rfl) file_Read.chk (by rw [file_Read.eq]; exact hx)
end Go.Proofs.YtcdpakjhjmchhaaGreatDoor.W
namespace Go.Proofs.YtcdpakjhjmchhaaGreatDoor.W
open Go Go.Proofs Go.Proofs.YtcdpakjhjmchhaaGreatDoor.Wx
def file_Cut.k1 (t1 : Option Addr) (n1 : Int) (size1 : Int) (h1 : Heap) (h2 : Heap) (h5 : Heap) (g2 : Nat) (fs1 : List Value) (cs3 : List Value) (h22 : Heap) (K : Value → Heap → Prop) : Prop :=
  Put (Addr.add ⟨h5.size, 0, none⟩ 2) (.int .i64 size1) h22 fun h23 =>
  ∃ cs9 : List Value, List.length cs9 = 5 ∧ Cells h23 ⟨h1.size, 0, none⟩ cs9 ∧
  ∃ cs10 : List Value, List.length cs10 = 15 ∧ Cells h23 ⟨h5.size, 0, none⟩ cs10 ∧
  C.inode_Put t1 cs9 n1 cs10 h23 fun r5 h24 =>
  ∃ (n13 : Int), r5 = .int .i64 n13 ∧
  Put ⟨h2.size, 0, none⟩ (.int .i64 n13) h24 fun h25 =>
  DCallsV Tryz.prog (.func (.func g2) ⟨fs1⟩ ⟨cs3⟩) [] h25 fun h26 =>
  ∃ (res7 : Int), cellOf h26 ⟨h2.size, 0, none⟩ = some (.int .i64 res7) ∧
  K (.int .i64 res7) h26
def file_Cut (t1 : Option Addr) (g1 : List Value) (n1 : Int) (size1 : Int) (K : Value → Heap → Prop) (h1 : Heap) : Prop :=
  New g1 25 h1 fun h2 =>
  New z28 28 h2 fun h3 =>
  bif (decide (size1 < 0)) then (
  Put ⟨h2.size, 0, none⟩ (.int .i64 1) h3 fun h4 =>
  ∃ (res1 : Int), cellOf h4 ⟨h2.size, 0, none⟩ = some (.int .i64 res1) ∧
  K (.int .i64 res1) h4) else (
  ∃ cs1 : List Value, List.length cs1 = 5 ∧ Cells h3 ⟨h1.size, 0, none⟩ cs1 ∧
  C.file_get t1 cs1 n1 h3 fun r1 h5 =>
  ∃ (cs2 : List Value) (n2 : Int), r1 = .tuple #[.agg ⟨cs2⟩, .int .i64 n2] ∧
  NewRow z44 44 cs2 15 h5 fun h7 =>
  Put ⟨h2.size, 0, none⟩ (.int .i64 n2) h7 fun h8 =>
  ∃ (n3 : Int), cellOf h8 ⟨h2.size, 0, none⟩ = some (.int .i64 n3) ∧
  bif (n3 != 0) then (
  ∃ (n4 : Int), cellOf h8 ⟨h2.size, 0, none⟩ = some (.int .i64 n4) ∧
  Put ⟨h2.size, 0, none⟩ (.int .i64 n4) h8 fun h9 =>
  ∃ (res2 : Int), cellOf h9 ⟨h2.size, 0, none⟩ = some (.int .i64 res2) ∧
  K (.int .i64 res2) h9) else (
  bif (decide (size1 > 8459264)) then (
  Put ⟨h2.size, 0, none⟩ (.int .i64 120) h8 fun h10 =>
  ∃ (res3 : Int), cellOf h10 ⟨h2.size, 0, none⟩ = some (.int .i64 res3) ∧
  K (.int .i64 res3) h10) else (
  ∃ (n5 : Int), cellOf h8 (Addr.add ⟨h5.size, 0, none⟩ 2) = some (.int .i64 n5) ∧
  bif (size1 == n5) then (
  Put ⟨h2.size, 0, none⟩ (.int .i64 0) h8 fun h11 =>
  ∃ (res4 : Int), cellOf h11 ⟨h2.size, 0, none⟩ = some (.int .i64 res4) ∧
  K (.int .i64 res4) h11) else (
  C.file_undo t1 (some ⟨h2.size, 0, none⟩) h8 fun r2 h12 =>
  ∃ (g2 : Nat) (fs1 : List Value) (cs3 : List Value), r2 = .func (.func g2) ⟨fs1⟩ ⟨cs3⟩ ∧
  ∃ (n6 : Int), cellOf h12 (Addr.add ⟨h5.size, 0, none⟩ 2) = some (.int .i64 n6) ∧
  bif (decide (size1 < n6)) then (
  ∃ cs4 : List Value, List.length cs4 = 5 ∧ Cells h12 ⟨h1.size, 0, none⟩ cs4 ∧
  ∃ cs5 : List Value, List.length cs5 = 15 ∧ Cells h12 ⟨h5.size, 0, none⟩ cs5 ∧
  C.bmap_Cut t1 cs4 cs5 (IntKind.wrap .i64 (Int.tdiv (IntKind.wrap .i64 ((IntKind.wrap .i64 (size1 + 512)) - 1)) 512)) h12 fun r3 h13 =>
  ∃ (cs6 : List Value) (n7 : Int), r3 = .tuple #[.agg ⟨cs6⟩, .int .i64 n7] ∧
  PutRow ⟨h5.size, 0, none⟩ cs6 15 h13 fun h14 =>
  Put ⟨h2.size, 0, none⟩ (.int .i64 n7) h14 fun h15 =>
  ∃ (n8 : Int), cellOf h15 ⟨h2.size, 0, none⟩ = some (.int .i64 n8) ∧
  bif (n8 != 0) then (
  ∃ (n9 : Int), cellOf h15 ⟨h2.size, 0, none⟩ = some (.int .i64 n9) ∧
  Put ⟨h2.size, 0, none⟩ (.int .i64 n9) h15 fun h16 =>
  DCallsV Tryz.prog (.func (.func g2) ⟨fs1⟩ ⟨cs3⟩) [] h16 fun h17 =>
  ∃ (res5 : Int), cellOf h17 ⟨h2.size, 0, none⟩ = some (.int .i64 res5) ∧
  K (.int .i64 res5) h17) else (
  ∃ cs7 : List Value, List.length cs7 = 5 ∧ Cells h15 ⟨h1.size, 0, none⟩ cs7 ∧
  ∃ cs8 : List Value, List.length cs8 = 15 ∧ Cells h15 ⟨h5.size, 0, none⟩ cs8 ∧
  C.file_wipe t1 cs7 cs8 size1 h15 fun r4 h18 =>
  ∃ (n10 : Int), r4 = .int .i64 n10 ∧
  Put ⟨h2.size, 0, none⟩ (.int .i64 n10) h18 fun h19 =>
  ∃ (n11 : Int), cellOf h19 ⟨h2.size, 0, none⟩ = some (.int .i64 n11) ∧
  bif (n11 != 0) then (
  ∃ (n12 : Int), cellOf h19 ⟨h2.size, 0, none⟩ = some (.int .i64 n12) ∧
  Put ⟨h2.size, 0, none⟩ (.int .i64 n12) h19 fun h20 =>
  DCallsV Tryz.prog (.func (.func g2) ⟨fs1⟩ ⟨cs3⟩) [] h20 fun h21 =>
  ∃ (res6 : Int), cellOf h21 ⟨h2.size, 0, none⟩ = some (.int .i64 res6) ∧
  K (.int .i64 res6) h21) else (
  file_Cut.k1 t1 n1 size1 h1 h2 h5 g2 fs1 cs3 h19 K))) else (
  file_Cut.k1 t1 n1 size1 h1 h2 h5 g2 fs1 cs3 h12 K)))))
def file_Cut.lo : Nat → List Nat × List (Nat × Ty) := fun n => match n with | _ => ([], [])
def file_Cut.od : Nat → Od := fun n => match n with | _ => .nil
set_option maxRecDepth 1000000 in
theorem file_Cut.eq (t1 : Option Addr) (g1 : List Value) (n1 : Int) (size1 : Int) (K : Value → Heap → Prop) (h : Heap) : fnX (cx file_Cut.lo file_Cut.od) Tryz.f15 (Tryz.f15.body.getD .skip) [.pointer t1, .agg ⟨g1⟩, .int .i64 n1, .int .i64 size1] K h = file_Cut t1 g1 n1 size1 K h := by kernel_rfl
theorem file_Cut.chk : fnOk (cx file_Cut.lo file_Cut.od) Tryz.f15 (Tryz.f15.body.getD .skip) 4 = true := by kernel_rfl
set_option maxRecDepth 1000000 in
theorem file_Cut.ok {t1 : Option Addr} {g1 : List Value} {n1 : Int} {size1 : Int} {K : Value → Heap → Prop} {h : Heap} (hx : file_Cut t1 g1 n1 size1 K h) : C.file_Cut t1 g1 n1 size1 h K :=
  fn_to (cxOk _ _) Tryz.func15 (by kernel_rfl) file_Cut.chk (by rw [file_Cut.eq]; exact hx)
def file_Blocks (t1 : Option Addr) (g1 : List Value) (n1 : Int) (K : Value → Heap → Prop) (h1 : Heap) : Prop :=
  New g1 25 h1 fun h2 =>
  ∃ cs1 : List Value, List.length cs1 = 5 ∧ Cells h2 ⟨h1.size, 0, none⟩ cs1 ∧
  C.file_get t1 cs1 n1 h2 fun r1 h3 =>
  ∃ (cs2 : List Value) (n2 : Int), r1 = .tuple #[.agg ⟨cs2⟩, .int .i64 n2] ∧
  NewRow z44 44 cs2 15 h3 fun h5 =>
  bif (n2 != 0) then (
  K (.tuple #[.int .i64 0, .int .i64 n2]) h5) else (
  ∃ cs3 : List Value, List.length cs3 = 5 ∧ Cells h5 ⟨h1.size, 0, none⟩ cs3 ∧
  ∃ cs4 : List Value, List.length cs4 = 15 ∧ Cells h5 ⟨h3.size, 0, none⟩ cs4 ∧
  C.bmap_All t1 cs3 cs4 h5 fun r2 h6 =>
  ∃ (sA1 : Option Addr) (sL1 : Nat) (sC1 : Nat) (sA2 : Option Addr) (sL2 : Nat) (sC2 : Nat) (n3 : Int), r2 = .tuple #[.slice sA1 sL1 sC1, .slice sA2 sL2 sC2, .int .i64 n3] ∧
  bif (n3 != 0) then (
  K (.tuple #[.int .i64 0, .int .i64 n3]) h6) else (
  K (.tuple #[.int .i64 (IntKind.wrap .i64 ((sL1 : Int) + (sL2 : Int))), .int .i64 0]) h6))
def file_Blocks.lo : Nat → List Nat × List (Nat × Ty) := fun n => match n with | _ => ([], [])
def file_Blocks.od : Nat → Od := fun n => match n with | _ => .nil
theorem file_Blocks.eq (t1 : Option Addr) (g1 : List Value) (n1 : Int) (K : Value → Heap → Prop) (h : Heap) : fnX (cx file_Blocks.lo file_Blocks.od) Tryz.f16 (Tryz.f16.body.getD .skip) [.pointer t1, .agg ⟨g1⟩, .int .i64 n1] K h = file_Blocks t1 g1 n1 K h := by kernel_rfl
theorem file_Blocks.chk : fnOk (cx file_Blocks.lo file_Blocks.od) Tryz.f16 (Tryz.f16.body.getD .skip) 3 = true := by kernel_rfl
theorem file_Blocks.ok {t1 : Option Addr} {g1 : List Value} {n1 : Int} {K : Value → Heap → Prop} {h : Heap} (hx : file_Blocks t1 g1 n1 K h) : C.file_Blocks t1 g1 n1 h K :=
  fn_to (cxOk _ _) Tryz.func16 (by kernel_rfl) file_Blocks.chk (by rw [file_Blocks.eq]; exact hx)
def txn_Txn_Mark (t1 : Option Addr) (K : Value → Heap → Prop) (h1 : Heap) : Prop :=
  onSome t1 fun p1 =>
  ∃ (b1 : Bool), cellOf h1 (Addr.add p1 3) = some (.bool b1) ∧
  bif b1 then (
  K (.tuple #[.int .i64 0, .int .i64 61]) h1) else (
  onSome t1 fun p2 =>
  ∃ (sA1 : Option Addr) (sL1 : Nat) (sC1 : Nat), cellOf h1 (Addr.add p2 2) = some (.slice sA1 sL1 sC1) ∧
  K (.tuple #[.int .i64 (sL1 : Int), .int .i64 0]) h1)
def txn_Txn_Mark.lo : Nat → List Nat × List (Nat × Ty) := fun n => match n with | _ => ([], [])
def txn_Txn_Mark.od : Nat → Od := fun n => match n with | _ => .nil
theorem txn_Txn_Mark.eq (t1 : Option Addr) (K : Value → Heap → Prop) (h : Heap) : fnX (cx txn_Txn_Mark.lo txn_Txn_Mark.od) Tryz.f19 (Tryz.f19.body.getD .skip) [.pointer t1] K h = txn_Txn_Mark t1 K h := by kernel_rfl
theorem txn_Txn_Mark.chk : fnOk (cx txn_Txn_Mark.lo txn_Txn_Mark.od) Tryz.f19 (Tryz.f19.body.getD .skip) 1 = true := by kernel_rfl
theorem txn_Txn_Mark.ok {t1 : Option Addr} {K : Value → Heap → Prop} {h : Heap} (hx : txn_Txn_Mark t1 K h) : C.txn_Txn_Mark t1 h K :=
  fn_to (cxOk _ _) Tryz.func19 (by kernel_rfl) txn_Txn_Mark.chk (by rw [txn_Txn_Mark.eq]; exact hx)
def bmap_Find.k1 (t1 : Option Addr) (k1 : Int) (h1 : Heap) (h2 : Heap) (h3 : Heap) (K : Value → Heap → Prop) : Prop :=
  ∃ cs1 : List Value, List.length cs1 = 5 ∧ Cells h3 ⟨h1.size, 0, none⟩ cs1 ∧
  ∃ cs2 : List Value, List.length cs2 = 15 ∧ Cells h3 ⟨h2.size, 0, none⟩ cs2 ∧
  List.length (cs1 : List Value) = 5 ∧
  List.length (cs2 : List Value) = 15 ∧
  New ([.pointer t1] ++ (cs1 ++ cs2)) 146 h3 fun h4 =>
  C.bmap_file_walk (some ⟨h3.size, 0, none⟩) k1 (Value.func (.func 66) #[] ⟨[]⟩) h4 fun r1 h5 =>
  ∃ (n1 : Int) (n2 : Int), r1 = .tuple #[.int .i64 n1, .int .i64 n2] ∧
  K (.tuple #[.int .i64 n1, .int .i64 n2]) h5
def bmap_Find (t1 : Option Addr) (g1 : List Value) (x1 : List Value) (k1 : Int) (K : Value → Heap → Prop) (h1 : Heap) : Prop :=
  New g1 25 h1 fun h2 =>
  New x1 44 h2 fun h3 =>
  bif (decide (k1 < 0)) then (
  K (.tuple #[.int .i64 0, .int .i64 101]) h3) else (
  bif (decide (k1 ≥ 16522)) then (
  K (.tuple #[.int .i64 0, .int .i64 101]) h3) else (
  bmap_Find.k1 t1 k1 h1 h2 h3 K))
def bmap_Find.lo : Nat → List Nat × List (Nat × Ty) := fun n => match n with | _ => ([], [])
def bmap_Find.od : Nat → Od := fun n => match n with | _ => .nil
set_option maxRecDepth 1000000 in
theorem bmap_Find.eq (t1 : Option Addr) (g1 : List Value) (x1 : List Value) (k1 : Int) (K : Value → Heap → Prop) (h : Heap) : fnX (cx bmap_Find.lo bmap_Find.od) Tryz.f22 (Tryz.f22.body.getD .skip) [.pointer t1, .agg ⟨g1⟩, .agg ⟨x1⟩, .int .i64 k1] K h = bmap_Find t1 g1 x1 k1 K h := by kernel_rfl
theorem bmap_Find.chk : fnOk (cx bmap_Find.lo bmap_Find.od) Tryz.f22 (Tryz.f22.body.getD .skip) 4 = true := by kernel_rfl
set_option maxRecDepth 1000000 in
theorem bmap_Find.ok {t1 : Option Addr} {g1 : List Value} {x1 : List Value} {k1 : Int} {K : Value → Heap → Prop} {h : Heap} (hx : bmap_Find t1 g1 x1 k1 K h) : C.bmap_Find t1 g1 x1 k1 h K :=
  fn_to (cxOk _ _) Tryz.func22 (by kernel_rfl) bmap_Find.chk (by rw [bmap_Find.eq]; exact hx)
def bmap_Add.k1 (k1 : Int) (h1 : Heap) (h2 : Heap) (h3 : Heap) (h4 : Heap) (h5 : Heap) (h6 : Heap) (h14 : Heap) (K : Value → Heap → Prop) : Prop :=
  ∃ (q1 : Option Addr), cellOf h14 ⟨h1.size, 0, none⟩ = some (.pointer q1) ∧
  C.bmap_guard q1 h14 fun r1 h15 =>
  ∃ (g2 : Nat) (fs1 : List Value) (cs1 : List Value), r1 = .func (.func g2) ⟨fs1⟩ ⟨cs1⟩ ∧
  New z157 157 h15 fun h16 =>
  Put ⟨h15.size, 0, none⟩ (.func (.func g2) ⟨fs1⟩ ⟨cs1⟩) h16 fun h17 =>
  ∃ (q2 : Option Addr), cellOf h17 ⟨h1.size, 0, none⟩ = some (.pointer q2) ∧
  ∃ cs2 : List Value, List.length cs2 = 5 ∧ Cells h17 ⟨h2.size, 0, none⟩ cs2 ∧
  ∃ cs3 : List Value, List.length cs3 = 15 ∧ Cells h17 ⟨h3.size, 0, none⟩ cs3 ∧
  List.length (cs2 : List Value) = 5 ∧
  List.length (cs3 : List Value) = 15 ∧
  New ([.pointer q2] ++ (cs2 ++ cs3)) 146 h17 fun h18 =>
  New z144 144 h18 fun h19 =>
  Put ⟨h18.size, 0, none⟩ (.pointer (some ⟨h17.size, 0, none⟩)) h19 fun h20 =>
  ∃ (q3 : Option Addr), cellOf h20 ⟨h18.size, 0, none⟩ = some (.pointer q3) ∧
  C.bmap_file_walk q3 k1 (Value.func (.func 73) #[] ⟨[.pointer (some ⟨h1.size, 0, none⟩), .pointer (some ⟨h2.size, 0, none⟩), .pointer (some ⟨h18.size, 0, none⟩)]⟩) h20 fun r2 h21 =>
  ∃ (n1 : Int) (n2 : Int), r2 = .tuple #[.int .i64 n1, .int .i64 n2] ∧
  Put ⟨h5.size, 0, none⟩ (.int .i64 n1) h21 fun h22 =>
  Put ⟨h6.size, 0, none⟩ (.int .i64 n2) h22 fun h23 =>
  ∃ (q4 : Option Addr), cellOf h23 ⟨h18.size, 0, none⟩ = some (.pointer q4) ∧
  onSome q4 fun p1 =>
  ∃ cs4 : List Value, List.length cs4 = 15 ∧ Cells h23 (Addr.add p1 6) cs4 ∧
  ∃ (n3 : Int), cellOf h23 ⟨h5.size, 0, none⟩ = some (.int .i64 n3) ∧
  ∃ (n4 : Int), cellOf h23 ⟨h6.size, 0, none⟩ = some (.int .i64 n4) ∧
  PutRow ⟨h4.size, 0, none⟩ cs4 15 h23 fun h24 =>
  (cellOf h24 ⟨h5.size, 0, none⟩ = some (.int .i64 n3)) ∧
  (cellOf h24 ⟨h6.size, 0, none⟩ = some (.int .i64 n4)) ∧
  Put ⟨h5.size, 0, none⟩ (.int .i64 n3) h24 fun h25 =>
  (cellOf h25 ⟨h6.size, 0, none⟩ = some (.int .i64 n4)) ∧
  Put ⟨h6.size, 0, none⟩ (.int .i64 n4) h25 fun h26 =>
  D.bmap_Add_c1 (some ⟨h15.size, 0, none⟩) (some ⟨h6.size, 0, none⟩) (some ⟨h4.size, 0, none⟩) (some ⟨h5.size, 0, none⟩) h26 fun h27 =>
  ∃ res7 : List Value, List.length res7 = 15 ∧ Cells h27 ⟨h4.size, 0, none⟩ res7 ∧
  ∃ (res8 : Int), cellOf h27 ⟨h5.size, 0, none⟩ = some (.int .i64 res8) ∧
  ∃ (res9 : Int), cellOf h27 ⟨h6.size, 0, none⟩ = some (.int .i64 res9) ∧
  K (.tuple #[.agg ⟨res7⟩, .int .i64 res8, .int .i64 res9]) h27
def bmap_Add (t1 : Option Addr) (g1 : List Value) (x1 : List Value) (k1 : Int) (K : Value → Heap → Prop) (h1 : Heap) : Prop :=
  New [.pointer t1] 23 h1 fun h2 =>
  New g1 25 h2 fun h3 =>
  New x1 44 h3 fun h4 =>
  New z44 44 h4 fun h5 =>
  New z3 3 h5 fun h6 =>
  New z28 28 h6 fun h7 =>
  bif (decide (k1 < 0)) then (
  PutRow ⟨h4.size, 0, none⟩ [.int .i64 0, .int .i64 0, .int .i64 0, .int .i64 0, .int .i64 0, .int .i64 0, .int .i64 0, .int .i64 0, .int .i64 0, .int .i64 0, .int .i64 0, .int .i64 0, .int .i64 0, .int .i64 0, .int .i64 0] 15 h7 fun h8 =>
  Put ⟨h5.size, 0, none⟩ (.int .i64 0) h8 fun h9 =>
  Put ⟨h6.size, 0, none⟩ (.int .i64 101) h9 fun h10 =>
  ∃ res1 : List Value, List.length res1 = 15 ∧ Cells h10 ⟨h4.size, 0, none⟩ res1 ∧
  ∃ (res2 : Int), cellOf h10 ⟨h5.size, 0, none⟩ = some (.int .i64 res2) ∧
  ∃ (res3 : Int), cellOf h10 ⟨h6.size, 0, none⟩ = some (.int .i64 res3) ∧
  K (.tuple #[.agg ⟨res1⟩, .int .i64 res2, .int .i64 res3]) h10) else (
  bif (decide (k1 ≥ 16522)) then (
  PutRow ⟨h4.size, 0, none⟩ [.int .i64 0, .int .i64 0, .int .i64 0, .int .i64 0, .int .i64 0, .int .i64 0, .int .i64 0, .int .i64 0, .int .i64 0, .int .i64 0, .int .i64 0, .int .i64 0, .int .i64 0, .int .i64 0, .int .i64 0] 15 h7 fun h11 =>
  Put ⟨h5.size, 0, none⟩ (.int .i64 0) h11 fun h12 =>
  Put ⟨h6.size, 0, none⟩ (.int .i64 101) h12 fun h13 =>
  ∃ res4 : List Value, List.length res4 = 15 ∧ Cells h13 ⟨h4.size, 0, none⟩ res4 ∧
  ∃ (res5 : Int), cellOf h13 ⟨h5.size, 0, none⟩ = some (.int .i64 res5) ∧
  ∃ (res6 : Int), cellOf h13 ⟨h6.size, 0, none⟩ = some (.int .i64 res6) ∧
  K (.tuple #[.agg ⟨res4⟩, .int .i64 res5, .int .i64 res6]) h13) else (
  bmap_Add.k1 k1 h1 h2 h3 h4 h5 h6 h7 K))
def bmap_Add.lo : Nat → List Nat × List (Nat × Ty) := fun n => match n with | _ => ([], [])
def bmap_Add.od : Nat → Od := fun n => match n with | 7 => (.op 0 [] (.op 1 [] (.op 2 [] (.op 3 [] (.op 4 [] (.op 5 [] (.op 6 [4, 5] (.op 7 [5] (.op 8 [] .nil))))))))) | _ => .nil
set_option maxRecDepth 1000000 in
theorem bmap_Add.eq (t1 : Option Addr) (g1 : List Value) (x1 : List Value) (k1 : Int) (K : Value → Heap → Prop) (h : Heap) : fnX (cx bmap_Add.lo bmap_Add.od) Tryz.f24 (Tryz.f24.body.getD .skip) [.pointer t1, .agg ⟨g1⟩, .agg ⟨x1⟩, .int .i64 k1] K h = bmap_Add t1 g1 x1 k1 K h := by kernel_rfl
theorem bmap_Add.chk : fnOk (cx bmap_Add.lo bmap_Add.od) Tryz.f24 (Tryz.f24.body.getD .skip) 4 = true := by kernel_rfl
set_option maxRecDepth 1000000 in
theorem bmap_Add.ok {t1 : Option Addr} {g1 : List Value} {x1 : List Value} {k1 : Int} {K : Value → Heap → Prop} {h : Heap} (hx : bmap_Add t1 g1 x1 k1 K h) : C.bmap_Add t1 g1 x1 k1 h K :=
  fn_to (cxOk _ _) Tryz.func24 (by kernel_rfl) bmap_Add.chk (by rw [bmap_Add.eq]; exact hx)
def bmap_Cut.k2 (k1 : Int) (h3 : Heap) (h4 : Heap) (h11 : Heap) (h14 : Heap) (h28 : Heap) (K : Value → Heap → Prop) : Prop :=
  bif (decide (k1 < 16522)) then (
  ∃ (q10 : Option Addr), cellOf h28 ⟨h14.size, 0, none⟩ = some (.pointer q10) ∧
  onSome q10 fun p7 =>
  ∃ (n7 : Int), cellOf h28 (Addr.add (Addr.add p7 6) 14) = some (.int .i64 n7) ∧
  bif (n7 != 0) then (
  New z3 3 h28 fun h29 =>
  Put ⟨h28.size, 0, none⟩ (.int .i64 (if (IntKind.wrap .i64 (k1 - 138)) > 0 then (IntKind.wrap .i64 (k1 - 138)) else 0)) h29 fun h30 =>
  ∃ (q11 : Option Addr), cellOf h30 ⟨h14.size, 0, none⟩ = some (.pointer q11) ∧
  ∃ (q12 : Option Addr), cellOf h30 ⟨h14.size, 0, none⟩ = some (.pointer q12) ∧
  onSome q12 fun p8 =>
  ∃ (n8 : Int), cellOf h30 (Addr.add (Addr.add p8 6) 14) = some (.int .i64 n8) ∧
  ∃ (n9 : Int), cellOf h30 ⟨h28.size, 0, none⟩ = some (.int .i64 n9) ∧
  C.bmap_file_cut q11 n8 (IntKind.wrap .i64 (Int.tdiv n9 128)) (Value.func (.func 81) #[] ⟨[.pointer (some ⟨h14.size, 0, none⟩), .pointer (some ⟨h28.size, 0, none⟩)]⟩) h30 fun r4 h31 =>
  ∃ (b2 : Bool) (n10 : Int), r4 = .tuple #[.bool b2, .int .i64 n10] ∧
  bif (n10 != 0) then (
  ∃ cs6 : List Value, List.length cs6 = 15 ∧ Cells h31 ⟨h3.size, 0, none⟩ cs6 ∧
  PutRow ⟨h3.size, 0, none⟩ cs6 15 h31 fun h32 =>
  Put ⟨h4.size, 0, none⟩ (.int .i64 n10) h32 fun h33 =>
  D.bmap_Cut_c1 (some ⟨h11.size, 0, none⟩) (some ⟨h4.size, 0, none⟩) (some ⟨h3.size, 0, none⟩) h33 fun h34 =>
  ∃ res9 : List Value, List.length res9 = 15 ∧ Cells h34 ⟨h3.size, 0, none⟩ res9 ∧
  ∃ (res10 : Int), cellOf h34 ⟨h4.size, 0, none⟩ = some (.int .i64 res10) ∧
  K (.tuple #[.agg ⟨res9⟩, .int .i64 res10]) h34) else (
  bif (!b2) then (
  ∃ (q13 : Option Addr), cellOf h31 ⟨h14.size, 0, none⟩ = some (.pointer q13) ∧
  onSome q13 fun p9 =>
  Put (Addr.add (Addr.add p9 6) 14) (.int .i64 0) h31 fun h35 =>
  ∃ (q14 : Option Addr), cellOf h35 ⟨h14.size, 0, none⟩ = some (.pointer q14) ∧
  onSome q14 fun p10 =>
  ∃ cs7 : List Value, List.length cs7 = 15 ∧ Cells h35 (Addr.add p10 6) cs7 ∧
  PutRow ⟨h3.size, 0, none⟩ cs7 15 h35 fun h36 =>
  Put ⟨h4.size, 0, none⟩ (.int .i64 0) h36 fun h37 =>
  D.bmap_Cut_c1 (some ⟨h11.size, 0, none⟩) (some ⟨h4.size, 0, none⟩) (some ⟨h3.size, 0, none⟩) h37 fun h38 =>
  ∃ res11 : List Value, List.length res11 = 15 ∧ Cells h38 ⟨h3.size, 0, none⟩ res11 ∧
  ∃ (res12 : Int), cellOf h38 ⟨h4.size, 0, none⟩ = some (.int .i64 res12) ∧
  K (.tuple #[.agg ⟨res11⟩, .int .i64 res12]) h38) else (
  ∃ (q15 : Option Addr), cellOf h31 ⟨h14.size, 0, none⟩ = some (.pointer q15) ∧
  onSome q15 fun p11 =>
  ∃ cs8 : List Value, List.length cs8 = 15 ∧ Cells h31 (Addr.add p11 6) cs8 ∧
  PutRow ⟨h3.size, 0, none⟩ cs8 15 h31 fun h39 =>
  Put ⟨h4.size, 0, none⟩ (.int .i64 0) h39 fun h40 =>
  D.bmap_Cut_c1 (some ⟨h11.size, 0, none⟩) (some ⟨h4.size, 0, none⟩) (some ⟨h3.size, 0, none⟩) h40 fun h41 =>
  ∃ res13 : List Value, List.length res13 = 15 ∧ Cells h41 ⟨h3.size, 0, none⟩ res13 ∧
  ∃ (res14 : Int), cellOf h41 ⟨h4.size, 0, none⟩ = some (.int .i64 res14) ∧
  K (.tuple #[.agg ⟨res13⟩, .int .i64 res14]) h41))) else (
  ∃ (q16 : Option Addr), cellOf h28 ⟨h14.size, 0, none⟩ = some (.pointer q16) ∧
  onSome q16 fun p12 =>
  ∃ cs9 : List Value, List.length cs9 = 15 ∧ Cells h28 (Addr.add p12 6) cs9 ∧
  PutRow ⟨h3.size, 0, none⟩ cs9 15 h28 fun h42 =>
  Put ⟨h4.size, 0, none⟩ (.int .i64 0) h42 fun h43 =>
  D.bmap_Cut_c1 (some ⟨h11.size, 0, none⟩) (some ⟨h4.size, 0, none⟩) (some ⟨h3.size, 0, none⟩) h43 fun h44 =>
  ∃ res15 : List Value, List.length res15 = 15 ∧ Cells h44 ⟨h3.size, 0, none⟩ res15 ∧
  ∃ (res16 : Int), cellOf h44 ⟨h4.size, 0, none⟩ = some (.int .i64 res16) ∧
  K (.tuple #[.agg ⟨res15⟩, .int .i64 res16]) h44)) else (
  ∃ (q17 : Option Addr), cellOf h28 ⟨h14.size, 0, none⟩ = some (.pointer q17) ∧
  onSome q17 fun p13 =>
  ∃ cs10 : List Value, List.length cs10 = 15 ∧ Cells h28 (Addr.add p13 6) cs10 ∧
  PutRow ⟨h3.size, 0, none⟩ cs10 15 h28 fun h45 =>
  Put ⟨h4.size, 0, none⟩ (.int .i64 0) h45 fun h46 =>
  D.bmap_Cut_c1 (some ⟨h11.size, 0, none⟩) (some ⟨h4.size, 0, none⟩) (some ⟨h3.size, 0, none⟩) h46 fun h47 =>
  ∃ res17 : List Value, List.length res17 = 15 ∧ Cells h47 ⟨h3.size, 0, none⟩ res17 ∧
  ∃ (res18 : Int), cellOf h47 ⟨h4.size, 0, none⟩ = some (.int .i64 res18) ∧
  K (.tuple #[.agg ⟨res17⟩, .int .i64 res18]) h47)
def bmap_Cut.k1 (t1 : Option Addr) (k1 : Int) (h1 : Heap) (h2 : Heap) (h3 : Heap) (h4 : Heap) (h10 : Heap) (K : Value → Heap → Prop) : Prop :=
  C.bmap_guard t1 h10 fun r1 h11 =>
  ∃ (g2 : Nat) (fs1 : List Value) (cs1 : List Value), r1 = .func (.func g2) ⟨fs1⟩ ⟨cs1⟩ ∧
  New z157 157 h11 fun h12 =>
  Put ⟨h11.size, 0, none⟩ (.func (.func g2) ⟨fs1⟩ ⟨cs1⟩) h12 fun h13 =>
  ∃ cs2 : List Value, List.length cs2 = 5 ∧ Cells h13 ⟨h1.size, 0, none⟩ cs2 ∧
  ∃ cs3 : List Value, List.length cs3 = 15 ∧ Cells h13 ⟨h2.size, 0, none⟩ cs3 ∧
  List.length (cs2 : List Value) = 5 ∧
  List.length (cs3 : List Value) = 15 ∧
  New ([.pointer t1] ++ (cs2 ++ cs3)) 146 h13 fun h14 =>
  New z144 144 h14 fun h15 =>
  Put ⟨h14.size, 0, none⟩ (.pointer (some ⟨h13.size, 0, none⟩)) h15 fun h16 =>
  ∃ (I1 : Int → Heap → Prop) (M1 : Int → Heap → Nat), I1 k1 h16 ∧
  ∀ (i1 : Int), ∀ h17 : Heap, I1 i1 h17 →
  bif (decide (i1 < 10)) then (
  ∃ (q1 : Option Addr), cellOf h17 ⟨h14.size, 0, none⟩ = some (.pointer q1) ∧
  onSome q1 fun p1 =>
  (0 ≤ i1 ∧ i1 < (10 : Int)) ∧
  ∃ (n1 : Int), cellOf h17 (Addr.add (Addr.add (Addr.add p1 6) 3) (Int.toNat i1)) = some (.int .i64 n1) ∧
  bif (n1 != 0) then (
  ∃ (q2 : Option Addr), cellOf h17 ⟨h14.size, 0, none⟩ = some (.pointer q2) ∧
  ∃ (q3 : Option Addr), cellOf h17 ⟨h14.size, 0, none⟩ = some (.pointer q3) ∧
  onSome q3 fun p2 =>
  (0 ≤ i1 ∧ i1 < (10 : Int)) ∧
  ∃ (n2 : Int), cellOf h17 (Addr.add (Addr.add (Addr.add p2 6) 3) (Int.toNat i1)) = some (.int .i64 n2) ∧
  C.bmap_file_give q2 n2 h17 fun r2 h18 =>
  ∃ (n3 : Int), r2 = .int .i64 n3 ∧
  bif (n3 != 0) then (
  ∃ cs4 : List Value, List.length cs4 = 15 ∧ Cells h18 ⟨h3.size, 0, none⟩ cs4 ∧
  PutRow ⟨h3.size, 0, none⟩ cs4 15 h18 fun h19 =>
  Put ⟨h4.size, 0, none⟩ (.int .i64 n3) h19 fun h20 =>
  D.bmap_Cut_c1 (some ⟨h11.size, 0, none⟩) (some ⟨h4.size, 0, none⟩) (some ⟨h3.size, 0, none⟩) h20 fun h21 =>
  ∃ res5 : List Value, List.length res5 = 15 ∧ Cells h21 ⟨h3.size, 0, none⟩ res5 ∧
  ∃ (res6 : Int), cellOf h21 ⟨h4.size, 0, none⟩ = some (.int .i64 res6) ∧
  K (.tuple #[.agg ⟨res5⟩, .int .i64 res6]) h21) else (
  ∃ (q4 : Option Addr), cellOf h18 ⟨h14.size, 0, none⟩ = some (.pointer q4) ∧
  onSome q4 fun p3 =>
  (0 ≤ i1 ∧ i1 < (10 : Int)) ∧
  Put (Addr.add (Addr.add (Addr.add p3 6) 3) (Int.toNat i1)) (.int .i64 0) h18 fun h22 =>
  I1 (IntKind.wrap .i64 (i1 + 1)) h22 ∧ M1 (IntKind.wrap .i64 (i1 + 1)) h22 < M1 i1 h17)) else (
  I1 (IntKind.wrap .i64 (i1 + 1)) h17 ∧ M1 (IntKind.wrap .i64 (i1 + 1)) h17 < M1 i1 h17)) else (
  bif (decide (k1 < 138)) then (
  ∃ (q5 : Option Addr), cellOf h17 ⟨h14.size, 0, none⟩ = some (.pointer q5) ∧
  onSome q5 fun p4 =>
  ∃ (n4 : Int), cellOf h17 (Addr.add (Addr.add p4 6) 13) = some (.int .i64 n4) ∧
  bif (n4 != 0) then (
  ∃ (q6 : Option Addr), cellOf h17 ⟨h14.size, 0, none⟩ = some (.pointer q6) ∧
  ∃ (q7 : Option Addr), cellOf h17 ⟨h14.size, 0, none⟩ = some (.pointer q7) ∧
  onSome q7 fun p5 =>
  ∃ (n5 : Int), cellOf h17 (Addr.add (Addr.add p5 6) 13) = some (.int .i64 n5) ∧
  ∃ (q8 : Option Addr), cellOf h17 ⟨h14.size, 0, none⟩ = some (.pointer q8) ∧
  C.bmap_file_cut q6 n5 (IntKind.wrap .i64 (k1 - 10)) (Value.func (.func 80) ⟨[.pointer q8]⟩ ⟨[]⟩) h17 fun r3 h23 =>
  ∃ (b1 : Bool) (n6 : Int), r3 = .tuple #[.bool b1, .int .i64 n6] ∧
  bif (n6 != 0) then (
  ∃ cs5 : List Value, List.length cs5 = 15 ∧ Cells h23 ⟨h3.size, 0, none⟩ cs5 ∧
  PutRow ⟨h3.size, 0, none⟩ cs5 15 h23 fun h24 =>
  Put ⟨h4.size, 0, none⟩ (.int .i64 n6) h24 fun h25 =>
  D.bmap_Cut_c1 (some ⟨h11.size, 0, none⟩) (some ⟨h4.size, 0, none⟩) (some ⟨h3.size, 0, none⟩) h25 fun h26 =>
  ∃ res7 : List Value, List.length res7 = 15 ∧ Cells h26 ⟨h3.size, 0, none⟩ res7 ∧
  ∃ (res8 : Int), cellOf h26 ⟨h4.size, 0, none⟩ = some (.int .i64 res8) ∧
  K (.tuple #[.agg ⟨res7⟩, .int .i64 res8]) h26) else (
  bif (!b1) then (
  ∃ (q9 : Option Addr), cellOf h23 ⟨h14.size, 0, none⟩ = some (.pointer q9) ∧
  onSome q9 fun p6 =>
  Put (Addr.add (Addr.add p6 6) 13) (.int .i64 0) h23 fun h27 =>
  bmap_Cut.k2 k1 h3 h4 h11 h14 h27 K) else (
  bmap_Cut.k2 k1 h3 h4 h11 h14 h23 K))) else (
  bmap_Cut.k2 k1 h3 h4 h11 h14 h17 K)) else (
  bmap_Cut.k2 k1 h3 h4 h11 h14 h17 K))
def bmap_Cut (t1 : Option Addr) (g1 : List Value) (x1 : List Value) (k1 : Int) (K : Value → Heap → Prop) (h1 : Heap) : Prop :=
  New g1 25 h1 fun h2 =>
  New x1 44 h2 fun h3 =>
  New z44 44 h3 fun h4 =>
  New z28 28 h4 fun h5 =>
  bif (decide (k1 < 0)) then (
  PutRow ⟨h3.size, 0, none⟩ [.int .i64 0, .int .i64 0, .int .i64 0, .int .i64 0, .int .i64 0, .int .i64 0, .int .i64 0, .int .i64 0, .int .i64 0, .int .i64 0, .int .i64 0, .int .i64 0, .int .i64 0, .int .i64 0, .int .i64 0] 15 h5 fun h6 =>
  Put ⟨h4.size, 0, none⟩ (.int .i64 101) h6 fun h7 =>
  ∃ res1 : List Value, List.length res1 = 15 ∧ Cells h7 ⟨h3.size, 0, none⟩ res1 ∧
  ∃ (res2 : Int), cellOf h7 ⟨h4.size, 0, none⟩ = some (.int .i64 res2) ∧
  K (.tuple #[.agg ⟨res1⟩, .int .i64 res2]) h7) else (
  bif (decide (k1 > 16522)) then (
  PutRow ⟨h3.size, 0, none⟩ [.int .i64 0, .int .i64 0, .int .i64 0, .int .i64 0, .int .i64 0, .int .i64 0, .int .i64 0, .int .i64 0, .int .i64 0, .int .i64 0, .int .i64 0, .int .i64 0, .int .i64 0, .int .i64 0, .int .i64 0] 15 h5 fun h8 =>
  Put ⟨h4.size, 0, none⟩ (.int .i64 101) h8 fun h9 =>
  ∃ res3 : List Value, List.length res3 = 15 ∧ Cells h9 ⟨h3.size, 0, none⟩ res3 ∧
  ∃ (res4 : Int), cellOf h9 ⟨h4.size, 0, none⟩ = some (.int .i64 res4) ∧
  K (.tuple #[.agg ⟨res3⟩, .int .i64 res4]) h9) else (
  bmap_Cut.k1 t1 k1 h1 h2 h3 h4 h5 K))
def bmap_Cut.lo : Nat → List Nat × List (Nat × Ty) := fun n => match n with | 7 => ([3, 8, 9, 11], [(12, .int .i64)]) | _ => ([], [])
def bmap_Cut.od : Nat → Od := fun n => match n with | 10 => (.op 0 [] (.op 1 [] (.op 2 [] (.op 3 [] (.op 4 [] (.op 5 [] (.op 6 [] (.op 7 [] (.op 8 [] (.op 9 [] .nil)))))))))) | 15 => (.op 0 [] (.op 1 [] (.op 2 [] (.op 3 [] (.op 4 [] (.op 5 [] (.op 6 [] (.op 7 [] (.op 8 [] (.op 9 [] (.op 10 [] (.op 11 [] (.op 12 [] (.op 13 [] (.op 14 [] (.op 15 [] .nil)))))))))))))))) | 22 => (.op 0 [] (.op 1 [] (.op 2 [] (.op 3 [] (.op 4 [] (.op 5 [] (.op 6 [] (.op 7 [] (.op 8 [] (.op 9 [] (.op 10 [] (.op 11 [] (.op 12 [] (.op 13 [] (.op 14 [] .nil))))))))))))))) | _ => .nil
set_option maxRecDepth 1000000 in
theorem bmap_Cut.eq (t1 : Option Addr) (g1 : List Value) (x1 : List Value) (k1 : Int) (K : Value → Heap → Prop) (h : Heap) : fnX (cx bmap_Cut.lo bmap_Cut.od) Tryz.f26 (Tryz.f26.body.getD .skip) [.pointer t1, .agg ⟨g1⟩, .agg ⟨x1⟩, .int .i64 k1] K h = bmap_Cut t1 g1 x1 k1 K h := by kernel_rfl
theorem bmap_Cut.chk : fnOk (cx bmap_Cut.lo bmap_Cut.od) Tryz.f26 (Tryz.f26.body.getD .skip) 4 = true := by kernel_rfl
set_option maxRecDepth 1000000 in
theorem bmap_Cut.ok {t1 : Option Addr} {g1 : List Value} {x1 : List Value} {k1 : Int} {K : Value → Heap → Prop} {h : Heap} (hx : bmap_Cut t1 g1 x1 k1 K h) : C.bmap_Cut t1 g1 x1 k1 h K :=
  fn_to (cxOk _ _) Tryz.func26 (by kernel_rfl) bmap_Cut.chk (by rw [bmap_Cut.eq]; exact hx)
def bmap_All.k1 (h2 : Heap) (h8 : Heap) (e1 : Int) (k1 : Int) (h13 : Heap) (I1 : Int → Int → Heap → Prop) (M1 : Int → Int → Heap → Nat) (K : Value → Heap → Prop) : Prop :=
  ∃ (v1 : Value), cellOf h13 ⟨h8.size, 0, none⟩ = some (v1) ∧
  (0 ≤ k1 ∧ k1 < (10 : Int)) ∧
  ∃ (n1 : Int), cellOf h13 (Addr.add (Addr.add ⟨h2.size, 0, none⟩ 3) (Int.toNat k1)) = some (.int .i64 n1) ∧
  HCallsV Tryz.prog v1 [.int .i64 k1, .int .i64 n1] h13 fun r1 h14 =>
  ∃ (n2 : Int), r1 = .int .i64 n2 ∧
  I1 n2 (IntKind.wrap .i64 (k1 + 1)) h14 ∧ M1 n2 (IntKind.wrap .i64 (k1 + 1)) h14 < M1 e1 k1 h13
def bmap_All.k4 (h6 : Heap) (h7 : Heap) (e4 : Int) (h19 : Heap) (K : Value → Heap → Prop) : Prop :=
  bif (e4 != 0) then (
  K (.tuple #[.slice none 0 0, .slice none 0 0, .int .i64 e4]) h19) else (
  ∃ (sA1 : Option Addr) (sL1 : Nat) (sC1 : Nat), cellOf h19 ⟨h6.size, 0, none⟩ = some (.slice sA1 sL1 sC1) ∧
  ∃ (sA2 : Option Addr) (sL2 : Nat) (sC2 : Nat), cellOf h19 ⟨h7.size, 0, none⟩ = some (.slice sA2 sL2 sC2) ∧
  K (.tuple #[.slice sA1 sL1 sC1, .slice sA2 sL2 sC2, .int .i64 0]) h19)
def bmap_All.k3 (h2 : Heap) (h6 : Heap) (h7 : Heap) (h8 : Heap) (h10 : Heap) (e3 : Int) (h17 : Heap) (K : Value → Heap → Prop) : Prop :=
  bif (e3 == 0) then (
  ∃ (v3 : Value), cellOf h17 ⟨h10.size, 0, none⟩ = some (v3) ∧
  ∃ (n5 : Int), cellOf h17 (Addr.add ⟨h2.size, 0, none⟩ 14) = some (.int .i64 n5) ∧
  HCallsV Tryz.prog v3 [.int .i64 n5, .func (.func 88) #[] ⟨[.pointer (some ⟨h10.size, 0, none⟩), .pointer (some ⟨h8.size, 0, none⟩)]⟩] h17 fun r3 h18 =>
  ∃ (n6 : Int), r3 = .int .i64 n6 ∧
  bmap_All.k4 h6 h7 n6 h18 K) else (
  bmap_All.k4 h6 h7 e3 h17 K)
def bmap_All.k2 (h2 : Heap) (h6 : Heap) (h7 : Heap) (h8 : Heap) (h10 : Heap) (e2 : Int) (h15 : Heap) (K : Value → Heap → Prop) : Prop :=
  bif (e2 == 0) then (
  ∃ (v2 : Value), cellOf h15 ⟨h10.size, 0, none⟩ = some (v2) ∧
  ∃ (n3 : Int), cellOf h15 (Addr.add ⟨h2.size, 0, none⟩ 13) = some (.int .i64 n3) ∧
  HCallsV Tryz.prog v2 [.int .i64 n3, .func (.func 87) #[] ⟨[.pointer (some ⟨h8.size, 0, none⟩)]⟩] h15 fun r2 h16 =>
  ∃ (n4 : Int), r2 = .int .i64 n4 ∧
  bmap_All.k3 h2 h6 h7 h8 h10 n4 h16 K) else (
  bmap_All.k3 h2 h6 h7 h8 h10 e2 h15 K)
def bmap_All (t1 : Option Addr) (g1 : List Value) (x1 : List Value) (K : Value → Heap → Prop) (h1 : Heap) : Prop :=
  New g1 25 h1 fun h2 =>
  New x1 44 h2 fun h3 =>
  ∃ cs1 : List Value, List.length cs1 = 5 ∧ Cells h3 ⟨h1.size, 0, none⟩ cs1 ∧
  ∃ cs2 : List Value, List.length cs2 = 15 ∧ Cells h3 ⟨h2.size, 0, none⟩ cs2 ∧
  List.length (cs1 : List Value) = 5 ∧
  List.length (cs2 : List Value) = 15 ∧
  New ([.pointer t1] ++ (cs1 ++ cs2)) 146 h3 fun h4 =>
  New z144 144 h4 fun h5 =>
  Put ⟨h4.size, 0, none⟩ (.pointer (some ⟨h3.size, 0, none⟩)) h5 fun h6 =>
  New z50 50 h6 fun h7 =>
  New z22 22 h7 fun h8 =>
  New z162 162 h8 fun h9 =>
  Put ⟨h8.size, 0, none⟩ (.func (.func 83) #[] ⟨[.pointer (some ⟨h6.size, 0, none⟩), .pointer (some ⟨h4.size, 0, none⟩)]⟩) h9 fun h10 =>
  New z165 165 h10 fun h11 =>
  Put ⟨h10.size, 0, none⟩ (.func (.func 85) #[] ⟨[.pointer (some ⟨h4.size, 0, none⟩), .pointer (some ⟨h7.size, 0, none⟩)]⟩) h11 fun h12 =>
  ∃ (I1 : Int → Int → Heap → Prop) (M1 : Int → Int → Heap → Nat), I1 0 0 h12 ∧
  ∀ (e1 : Int) (k1 : Int), ∀ h13 : Heap, I1 e1 k1 h13 →
  bif (decide (k1 < 10)) then (
  bif (e1 == 0) then (
  bmap_All.k1 h2 h8 e1 k1 h13 I1 M1 K) else (
  bmap_All.k2 h2 h6 h7 h8 h10 e1 h13 K)) else (
  bmap_All.k2 h2 h6 h7 h8 h10 e1 h13 K)
def bmap_All.lo : Nat → List Nat × List (Nat × Ty) := fun n => match n with | 8 => ([5, 10, 11, 12, 13], [(14, .int .i64), (15, .int .i64)]) | _ => ([], [])
def bmap_All.od : Nat → Od := fun n => match n with | 10 => (.op 0 [] (.op 1 [] (.op 2 [] (.op 3 [] (.op 4 [] (.op 5 [] (.op 6 [] (.op 7 [] .nil)))))))) | 17 => (.op 0 [] (.op 1 [] (.op 2 [] (.op 3 [] (.op 4 [] .nil))))) | _ => .nil
theorem bmap_All.eq (t1 : Option Addr) (g1 : List Value) (x1 : List Value) (K : Value → Heap → Prop) (h : Heap) : fnX (cx bmap_All.lo bmap_All.od) Tryz.f28 (Tryz.f28.body.getD .skip) [.pointer t1, .agg ⟨g1⟩, .agg ⟨x1⟩] K h = bmap_All t1 g1 x1 K h := by kernel_rfl
theorem bmap_All.chk : fnOk (cx bmap_All.lo bmap_All.od) Tryz.f28 (Tryz.f28.body.getD .skip) 3 = true := by kernel_rfl
theorem bmap_All.ok {t1 : Option Addr} {g1 : List Value} {x1 : List Value} {K : Value → Heap → Prop} {h : Heap} (hx : bmap_All t1 g1 x1 K h) : C.bmap_All t1 g1 x1 h K :=
  fn_to (cxOk _ _) Tryz.func28 (by kernel_rfl) bmap_All.chk (by rw [bmap_All.eq]; exact hx)
end Go.Proofs.YtcdpakjhjmchhaaGreatDoor.W
namespace Go.Proofs.YtcdpakjhjmchhaaGreatDoor.W
open Go Go.Proofs Go.Proofs.YtcdpakjhjmchhaaGreatDoor.Wx
def txn_Txn_Back.k1 (t1 : Option Addr) (mark1 : Int) (h1 : Heap) (K : Value → Heap → Prop) : Prop :=
  onSome t1 fun p3 =>
  ∃ (sA2 : Option Addr) (sL2 : Nat) (sC2 : Nat), cellOf h1 (Addr.add p3 2) = some (.slice sA2 sL2 sC2) ∧
  ∃ (I1 : Int → Heap → Prop) (M1 : Int → Heap → Nat), I1 (IntKind.wrap .i64 ((sL2 : Int) - 1)) h1 ∧
  ∀ (k1 : Int), ∀ h2 : Heap, I1 k1 h2 →
  bif (decide (k1 ≥ mark1)) then (
  onSome t1 fun p4 =>
  ∃ (sA3 : Option Addr) (sL3 : Nat) (sC3 : Nat), cellOf h2 (Addr.add p4 2) = some (.slice sA3 sL3 sC3) ∧
  (0 ≤ k1 ∧ k1 < (sL3 : Int)) ∧
  onSome sA3 fun p5 =>
  ∃ (v1 : Value), cellOf h2 (Addr.add p5 (Int.toNat k1)) = some (v1) ∧
  HCallsV Tryz.prog v1 [] h2 fun r1 h3 =>
  r1 = .tuple #[] ∧
  I1 (IntKind.wrap .i64 (k1 - 1)) h3 ∧ M1 (IntKind.wrap .i64 (k1 - 1)) h3 < M1 k1 h2) else (
  onSome t1 fun p6 =>
  ∃ (sA4 : Option Addr) (sL4 : Nat) (sC4 : Nat), cellOf h2 (Addr.add p6 2) = some (.slice sA4 sL4 sC4) ∧
  (0 ≤ mark1 ∧ mark1 ≤ (sC4 : Int)) ∧
  onSome t1 fun p7 =>
  Put (Addr.add p7 2) (.slice sA4 (Int.toNat mark1) sC4) h2 fun h4 =>
  K (.int .i64 0) h4)
def txn_Txn_Back (t1 : Option Addr) (mark1 : Int) (K : Value → Heap → Prop) (h1 : Heap) : Prop :=
  onSome t1 fun p1 =>
  ∃ (b1 : Bool), cellOf h1 (Addr.add p1 3) = some (.bool b1) ∧
  bif b1 then (
  K (.int .i64 61) h1) else (
  bif (decide (mark1 < 0)) then (
  K (.int .i64 62) h1) else (
  onSome t1 fun p2 =>
  ∃ (sA1 : Option Addr) (sL1 : Nat) (sC1 : Nat), cellOf h1 (Addr.add p2 2) = some (.slice sA1 sL1 sC1) ∧
  bif (decide (mark1 > (sL1 : Int))) then (
  K (.int .i64 62) h1) else (
  txn_Txn_Back.k1 t1 mark1 h1 K)))
def txn_Txn_Back.lo : Nat → List Nat × List (Nat × Ty) := fun n => match n with | 6 => ([0, 1], [(5, .int .i64)]) | _ => ([], [])
def txn_Txn_Back.od : Nat → Od := fun n => match n with | _ => .nil
theorem txn_Txn_Back.eq (t1 : Option Addr) (mark1 : Int) (K : Value → Heap → Prop) (h : Heap) : fnX (cx txn_Txn_Back.lo txn_Txn_Back.od) Tryz.f32 (Tryz.f32.body.getD .skip) [.pointer t1, .int .i64 mark1] K h = txn_Txn_Back t1 mark1 K h := by kernel_rfl
theorem txn_Txn_Back.chk : fnOk (cx txn_Txn_Back.lo txn_Txn_Back.od) Tryz.f32 (Tryz.f32.body.getD .skip) 2 = true := by kernel_rfl
theorem txn_Txn_Back.ok {t1 : Option Addr} {mark1 : Int} {K : Value → Heap → Prop} {h : Heap} (hx : txn_Txn_Back t1 mark1 K h) : C.txn_Txn_Back t1 mark1 h K :=
  fn_to (cxOk _ _) Tryz.func32 (by kernel_rfl) txn_Txn_Back.chk (by rw [txn_Txn_Back.eq]; exact hx)
def txn_Txn_Written (t1 : Option Addr) (K : Value → Heap → Prop) (h1 : Heap) : Prop :=
  onSome t1 fun p1 =>
  ∃ (b1 : Bool), cellOf h1 (Addr.add p1 3) = some (.bool b1) ∧
  bif b1 then (
  K (.slice none 0 0) h1) else (
  onSome t1 fun p2 =>
  ∃ (m1 : Option Nat), cellOf h1 (Addr.add p2 1) = some (.map m1) ∧
  C.maps_Keys_map_int_byte_int_byte m1 h1 fun r1 h2 =>
  ∃ (v1 : Value), r1 = v1 ∧
  C.slices_Sorted_int v1 h2 fun r2 h3 =>
  ∃ (sA1 : Option Addr) (sL1 : Nat) (sC1 : Nat), r2 = .slice sA1 sL1 sC1 ∧
  K (.slice sA1 sL1 sC1) h3)
def txn_Txn_Written.lo : Nat → List Nat × List (Nat × Ty) := fun n => match n with | _ => ([], [])
def txn_Txn_Written.od : Nat → Od := fun n => match n with | _ => .nil
theorem txn_Txn_Written.eq (t1 : Option Addr) (K : Value → Heap → Prop) (h : Heap) : fnX (cx txn_Txn_Written.lo txn_Txn_Written.od) Tryz.f36 (Tryz.f36.body.getD .skip) [.pointer t1] K h = txn_Txn_Written t1 K h := by kernel_rfl
theorem txn_Txn_Written.chk : fnOk (cx txn_Txn_Written.lo txn_Txn_Written.od) Tryz.f36 (Tryz.f36.body.getD .skip) 1 = true := by kernel_rfl
theorem txn_Txn_Written.ok {t1 : Option Addr} {K : Value → Heap → Prop} {h : Heap} (hx : txn_Txn_Written t1 K h) : C.txn_Txn_Written t1 h K :=
  fn_to (cxOk _ _) Tryz.func36 (by kernel_rfl) txn_Txn_Written.chk (by rw [txn_Txn_Written.eq]; exact hx)
def txn_Txn_Read.k1 (t1 : Option Addr) (i1 : Int) (h3 : Heap) (K : Value → Heap → Prop) : Prop :=
  onSome t1 fun p3 =>
  ∃ (m1 : Option Nat), cellOf h3 (Addr.add p3 1) = some (.map m1) ∧
  MapIn (.int .i64) m1 h3 fun mm1 =>
  ∃ (sA1 : Option Addr) (sL1 : Nat) (sC1 : Nat), Option.getD (mget mm1 (.i i1)) (zeroV ti33) = .slice sA1 sL1 sC1 ∧
  bif (Option.isSome (mget mm1 (.i i1))) then (
  C.slices_Clone_byte_byte sA1 sL1 sC1 h3 fun r2 h4 =>
  ∃ (sA2 : Option Addr) (sL2 : Nat) (sC2 : Nat), r2 = .slice sA2 sL2 sC2 ∧
  K (.tuple #[.slice sA2 sL2 sC2, .int .i64 0]) h4) else (
  onSome t1 fun p4 =>
  ∃ (q2 : Option Addr), cellOf h3 (Addr.add p4 0) = some (.pointer q2) ∧
  C.adisk_Disk_Read q2 i1 h3 fun r3 h5 =>
  ∃ (sA3 : Option Addr) (sL3 : Nat) (sC3 : Nat) (n2 : Int), r3 = .tuple #[.slice sA3 sL3 sC3, .int .i64 n2] ∧
  K (.tuple #[.slice sA3 sL3 sC3, .int .i64 n2]) h5)
def txn_Txn_Read (t1 : Option Addr) (i1 : Int) (K : Value → Heap → Prop) (h1 : Heap) : Prop :=
  onSome t1 fun p1 =>
  ∃ (b1 : Bool), cellOf h1 (Addr.add p1 3) = some (.bool b1) ∧
  bif b1 then (
  K (.tuple #[.slice none 0 0, .int .i64 61]) h1) else (
  bif (decide (i1 < 0)) then (
  K (.tuple #[.slice none 0 0, .int .i64 31]) h1) else (
  onSome t1 fun p2 =>
  ∃ (q1 : Option Addr), cellOf h1 (Addr.add p2 0) = some (.pointer q1) ∧
  C.adisk_Disk_Blocks q1 h1 fun r1 h2 =>
  ∃ (n1 : Int), r1 = .int .i64 n1 ∧
  bif (decide (i1 ≥ n1)) then (
  K (.tuple #[.slice none 0 0, .int .i64 31]) h2) else (
  txn_Txn_Read.k1 t1 i1 h2 K)))
def txn_Txn_Read.lo : Nat → List Nat × List (Nat × Ty) := fun n => match n with | _ => ([], [])
def txn_Txn_Read.od : Nat → Od := fun n => match n with | _ => .nil
theorem txn_Txn_Read.eq (t1 : Option Addr) (i1 : Int) (K : Value → Heap → Prop) (h : Heap) : fnX (cx txn_Txn_Read.lo txn_Txn_Read.od) Tryz.f39 (Tryz.f39.body.getD .skip) [.pointer t1, .int .i64 i1] K h = txn_Txn_Read t1 i1 K h := by kernel_rfl
theorem txn_Txn_Read.chk : fnOk (cx txn_Txn_Read.lo txn_Txn_Read.od) Tryz.f39 (Tryz.f39.body.getD .skip) 2 = true := by kernel_rfl
theorem txn_Txn_Read.ok {t1 : Option Addr} {i1 : Int} {K : Value → Heap → Prop} {h : Heap} (hx : txn_Txn_Read t1 i1 K h) : C.txn_Txn_Read t1 i1 h K :=
  fn_to (cxOk _ _) Tryz.func39 (by kernel_rfl) txn_Txn_Read.chk (by rw [txn_Txn_Read.eq]; exact hx)
def space_Used (t1 : Option Addr) (g1 : List Value) (i1 : Int) (K : Value → Heap → Prop) (h1 : Heap) : Prop :=
  New g1 25 h1 fun h2 =>
  ∃ cs1 : List Value, List.length cs1 = 5 ∧ Cells h2 ⟨h1.size, 0, none⟩ cs1 ∧
  C.space_bit t1 cs1 i1 h2 fun r1 h3 =>
  ∃ (n1 : Int) (sA1 : Option Addr) (sL1 : Nat) (sC1 : Nat) (n2 : Int) (n3 : Int), r1 = .tuple #[.int .i64 n1, .slice sA1 sL1 sC1, .int .i64 n2, .int .i64 n3] ∧
  bif (n3 != 0) then (
  K (.tuple #[.bool false, .int .i64 n3]) h3) else (
  C.bits_Get sA1 sL1 sC1 n2 h3 fun r2 h4 =>
  ∃ (b1 : Bool) (n4 : Int), r2 = .tuple #[.bool b1, .int .i64 n4] ∧
  K (.tuple #[.bool b1, .int .i64 n4]) h4)
def space_Used.lo : Nat → List Nat × List (Nat × Ty) := fun n => match n with | _ => ([], [])
def space_Used.od : Nat → Od := fun n => match n with | _ => .nil
theorem space_Used.eq (t1 : Option Addr) (g1 : List Value) (i1 : Int) (K : Value → Heap → Prop) (h : Heap) : fnX (cx space_Used.lo space_Used.od) Tryz.f40 (Tryz.f40.body.getD .skip) [.pointer t1, .agg ⟨g1⟩, .int .i64 i1] K h = space_Used t1 g1 i1 K h := by kernel_rfl
theorem space_Used.chk : fnOk (cx space_Used.lo space_Used.od) Tryz.f40 (Tryz.f40.body.getD .skip) 3 = true := by kernel_rfl
theorem space_Used.ok {t1 : Option Addr} {g1 : List Value} {i1 : Int} {K : Value → Heap → Prop} {h : Heap} (hx : space_Used t1 g1 i1 K h) : C.space_Used t1 g1 i1 h K :=
  fn_to (cxOk _ _) Tryz.func40 (by kernel_rfl) space_Used.chk (by rw [space_Used.eq]; exact hx)
def boleref09_Geo (n1 : Int) (K : Value → Heap → Prop) (h1 : Heap) : Prop :=
  NewRow z25 25 [.int .i64 n1, .int .i64 98, .int .i64 (IntKind.wrap .i64 (98 + (IntKind.wrap .i64 (Int.tdiv (IntKind.wrap .i64 ((IntKind.wrap .i64 (n1 + 4096)) - 1)) 4096)))), .int .i64 (IntKind.wrap .i64 ((IntKind.wrap .i64 (98 + (IntKind.wrap .i64 (Int.tdiv (IntKind.wrap .i64 ((IntKind.wrap .i64 (n1 + 4096)) - 1)) 4096)))) + (IntKind.wrap .i64 (Int.tdiv n1 64)))), .int .i64 (IntKind.wrap .i64 (8 * (IntKind.wrap .i64 (Int.tdiv n1 64))))] 5 h1 fun h3 =>
  ∃ res1 : List Value, List.length res1 = 5 ∧ Cells h3 ⟨h1.size, 0, none⟩ res1 ∧
  K (.agg ⟨res1⟩) h3
def boleref09_Geo.lo : Nat → List Nat × List (Nat × Ty) := fun n => match n with | _ => ([], [])
def boleref09_Geo.od : Nat → Od := fun n => match n with | _ => .nil
theorem boleref09_Geo.eq (n1 : Int) (K : Value → Heap → Prop) (h : Heap) : fnX (cx boleref09_Geo.lo boleref09_Geo.od) Tryz.f44 (Tryz.f44.body.getD .skip) [.int .i64 n1] K h = boleref09_Geo n1 K h := by kernel_rfl
theorem boleref09_Geo.chk : fnOk (cx boleref09_Geo.lo boleref09_Geo.od) Tryz.f44 (Tryz.f44.body.getD .skip) 1 = true := by kernel_rfl
theorem boleref09_Geo.ok {n1 : Int} {K : Value → Heap → Prop} {h : Heap} (hx : boleref09_Geo n1 K h) : C.boleref09_Geo n1 h K :=
  fn_to (cxOk _ _) Tryz.func44 (by kernel_rfl) boleref09_Geo.chk (by rw [boleref09_Geo.eq]; exact hx)
def boleref12_Image.k1 (h1 : Heap) (h2 : Heap) (n1 : Int) (h3 : Heap) (n2 : Int) (n3 : Int) (n7 : Int) (h8 : Heap) (I2 : Int → Heap → Prop) (M2 : Int → Heap → Nat) (h11 : Heap) (sA1 : Option Addr) (sL1 : Nat) (K : Value → Heap → Prop) : Prop :=
  ∃ (I3 : Int → Heap → Prop) (M3 : Int → Heap → Nat), I3 0 h11 ∧
  ∀ (k1 : Int), ∀ h12 : Heap, I3 k1 h12 →
  bif (decide (k1 < (sL1 : Int))) then (
  ∃ (n10 : Int), cellOf h12 (Addr.add ⟨h1.size, 0, none⟩ 2) = some (.int .i64 n10) ∧
  (0 ≤ k1 ∧ k1 < (sL1 : Int)) ∧
  onSome sA1 fun p2 =>
  ∃ (n11 : Int), cellOf h12 (Addr.add p2 (Int.toNat k1)) = some (.int .u8 n11) ∧
  (0 ≤ (IntKind.wrap .i64 ((IntKind.wrap .i64 ((IntKind.wrap .i64 (n10 * 512)) + (IntKind.wrap .i64 (64 * (IntKind.wrap .i64 (n7 + 1)))))) + k1)) ∧ (IntKind.wrap .i64 ((IntKind.wrap .i64 ((IntKind.wrap .i64 (n10 * 512)) + (IntKind.wrap .i64 (64 * (IntKind.wrap .i64 (n7 + 1)))))) + k1)) < ((Int.toNat (IntKind.wrap .i64 (n1 * 512))) : Int)) ∧
  Put (Addr.add ⟨h2.size, 0, none⟩ (Int.toNat (IntKind.wrap .i64 ((IntKind.wrap .i64 ((IntKind.wrap .i64 (n10 * 512)) + (IntKind.wrap .i64 (64 * (IntKind.wrap .i64 (n7 + 1)))))) + k1)))) (.int .u8 n11) h12 fun h13 =>
  I3 (IntKind.wrap .i64 (k1 + 1)) h13 ∧ M3 (IntKind.wrap .i64 (k1 + 1)) h13 < M3 k1 h12) else (
  ∃ cs3 : List Value, List.length cs3 = 10 ∧ Cells h12 (Addr.add ⟨h8.size, 0, none⟩ 3) cs3 ∧
  ∃ (I4 : Int → Heap → Prop) (M4 : Int → Heap → Nat), I4 0 h12 ∧
  ∀ (n12 : Int), ∀ h14 : Heap, I4 n12 h14 →
  bif (decide (n12 < 10)) then (
  (0 ≤ n12 ∧ n12 < (10 : Int)) ∧
  ∃ (n13 : Int), cs3[(Int.toNat n12)]? = some (.int .i64 n13) ∧
  ∃ (n14 : Int), cellOf h14 (Addr.add ⟨h1.size, 0, none⟩ 3) = some (.int .i64 n14) ∧
  bif (decide (n13 ≥ n14)) then (
  ∃ (n15 : Int), cellOf h14 (Addr.add ⟨h1.size, 0, none⟩ 0) = some (.int .i64 n15) ∧
  bif (decide (n13 < n15)) then (
  (0 ≤ n13 ∧ n13 < (((Int.toNat (IntKind.wrap .i64 ((IntKind.wrap .i64 (n2 - n3)) * 4096))) : Nat) : Int)) ∧
  Put (Addr.add ⟨h3.size, 0, none⟩ (Int.toNat n13)) (.bool true) h14 fun h15 =>
  I4 (IntKind.wrap .i64 (n12 + 1)) h15 ∧ M4 (IntKind.wrap .i64 (n12 + 1)) h15 < M4 n12 h14) else (
  I4 (IntKind.wrap .i64 (n12 + 1)) h14 ∧ M4 (IntKind.wrap .i64 (n12 + 1)) h14 < M4 n12 h14)) else (
  I4 (IntKind.wrap .i64 (n12 + 1)) h14 ∧ M4 (IntKind.wrap .i64 (n12 + 1)) h14 < M4 n12 h14)) else (
  I2 (IntKind.wrap .i64 (n7 + 1)) h14 ∧ M2 (IntKind.wrap .i64 (n7 + 1)) h14 < M2 n7 h8))
def boleref12_Image (g1 : List Value) (recordsA1 : Option Addr) (recordsL1 : Nat) (recordsC1 : Nat) (K : Value → Heap → Prop) (h1 : Heap) : Prop :=
  New g1 25 h1 fun h2 =>
  ∃ (n1 : Int), cellOf h2 (Addr.add ⟨h1.size, 0, none⟩ 0) = some (.int .i64 n1) ∧
  (0 ≤ (IntKind.wrap .i64 (n1 * 512)) ∧ (IntKind.wrap .i64 (n1 * 512)) ≤ (IntKind.wrap .i64 (n1 * 512)) ∧ (1 : Int) * (IntKind.wrap .i64 (n1 * 512)) ≤ 281474976710656 ∧ (IntKind.wrap .i64 (n1 * 512)) ≤ 281474976710656) ∧
  New (repCells z5 (Int.toNat (IntKind.wrap .i64 (n1 * 512)))) 5 h2 fun h3 =>
  ∃ (n2 : Int), cellOf h3 (Addr.add ⟨h1.size, 0, none⟩ 2) = some (.int .i64 n2) ∧
  ∃ (n3 : Int), cellOf h3 (Addr.add ⟨h1.size, 0, none⟩ 1) = some (.int .i64 n3) ∧
  (0 ≤ (IntKind.wrap .i64 ((IntKind.wrap .i64 (n2 - n3)) * 4096)) ∧ (IntKind.wrap .i64 ((IntKind.wrap .i64 (n2 - n3)) * 4096)) ≤ (IntKind.wrap .i64 ((IntKind.wrap .i64 (n2 - n3)) * 4096)) ∧ (1 : Int) * (IntKind.wrap .i64 ((IntKind.wrap .i64 (n2 - n3)) * 4096)) ≤ 281474976710656 ∧ (IntKind.wrap .i64 ((IntKind.wrap .i64 (n2 - n3)) * 4096)) ≤ 281474976710656) ∧
  New (repCells z4 (Int.toNat (IntKind.wrap .i64 ((IntKind.wrap .i64 (n2 - n3)) * 4096)))) 4 h3 fun h4 =>
  ∃ (I1 : Int → Heap → Prop) (M1 : Int → Heap → Nat), I1 0 h4 ∧
  ∀ (n4 : Int), ∀ h5 : Heap, I1 n4 h5 →
  bif (decide (n4 < (((Int.toNat (IntKind.wrap .i64 ((IntKind.wrap .i64 (n2 - n3)) * 4096))) : Nat) : Int))) then (
  ∃ (n5 : Int), cellOf h5 (Addr.add ⟨h1.size, 0, none⟩ 3) = some (.int .i64 n5) ∧
  bif (decide (n4 < n5)) then (
  (0 ≤ n4 ∧ n4 < (((Int.toNat (IntKind.wrap .i64 ((IntKind.wrap .i64 (n2 - n3)) * 4096))) : Nat) : Int)) ∧
  Put (Addr.add ⟨h3.size, 0, none⟩ (Int.toNat n4)) (.bool true) h5 fun h6 =>
  I1 (IntKind.wrap .i64 (n4 + 1)) h6 ∧ M1 (IntKind.wrap .i64 (n4 + 1)) h6 < M1 n4 h5) else (
  ∃ (n6 : Int), cellOf h5 (Addr.add ⟨h1.size, 0, none⟩ 0) = some (.int .i64 n6) ∧
  (0 ≤ n4 ∧ n4 < (((Int.toNat (IntKind.wrap .i64 ((IntKind.wrap .i64 (n2 - n3)) * 4096))) : Nat) : Int)) ∧
  Put (Addr.add ⟨h3.size, 0, none⟩ (Int.toNat n4)) (.bool (decide (n4 ≥ n6))) h5 fun h7 =>
  I1 (IntKind.wrap .i64 (n4 + 1)) h7 ∧ M1 (IntKind.wrap .i64 (n4 + 1)) h7 < M1 n4 h5)) else (
  ∃ (I2 : Int → Heap → Prop) (M2 : Int → Heap → Nat), I2 0 h5 ∧
  ∀ (n7 : Int), ∀ h8 : Heap, I2 n7 h8 →
  bif (decide (n7 < (recordsL1 : Int))) then (
  (0 ≤ n7 ∧ n7 < (recordsL1 : Int)) ∧
  onSome recordsA1 fun p1 =>
  ∃ cs1 : List Value, List.length cs1 = 15 ∧ Cells h8 (Addr.add p1 ((Int.toNat n7) * 15)) cs1 ∧
  NewRow z44 44 cs1 15 h8 fun h10 =>
  ∃ cs2 : List Value, List.length cs2 = 15 ∧ Cells h10 ⟨h8.size, 0, none⟩ cs2 ∧
  C.boleref11_Encode cs2 h10 fun r1 h11 =>
  ∃ (sA1 : Option Addr) (sL1 : Nat) (sC1 : Nat) (n8 : Int), r1 = .tuple #[.slice sA1 sL1 sC1, .int .i64 n8] ∧
  bif (n8 != 0) then (
  I2 (IntKind.wrap .i64 (n7 + 1)) h11 ∧ M2 (IntKind.wrap .i64 (n7 + 1)) h11 < M2 n7 h8) else (
  ∃ (n9 : Int), cellOf h11 (Addr.add ⟨h1.size, 0, none⟩ 4) = some (.int .i64 n9) ∧
  bif (decide ((IntKind.wrap .i64 (n7 + 1)) ≥ n9)) then (
  I2 (IntKind.wrap .i64 (n7 + 1)) h11 ∧ M2 (IntKind.wrap .i64 (n7 + 1)) h11 < M2 n7 h8) else (
  boleref12_Image.k1 h1 h2 n1 h3 n2 n3 n7 h8 I2 M2 h11 sA1 sL1 K))) else (
  ∃ (I5 : Int → Heap → Prop) (M5 : Int → Heap → Nat), I5 0 h8 ∧
  ∀ (n16 : Int), ∀ h16 : Heap, I5 n16 h16 →
  bif (decide (n16 < (((Int.toNat (IntKind.wrap .i64 ((IntKind.wrap .i64 (n2 - n3)) * 4096))) : Nat) : Int))) then (
  (0 ≤ n16 ∧ n16 < (((Int.toNat (IntKind.wrap .i64 ((IntKind.wrap .i64 (n2 - n3)) * 4096))) : Nat) : Int)) ∧
  ∃ (b1 : Bool), cellOf h16 (Addr.add ⟨h3.size, 0, none⟩ (Int.toNat n16)) = some (.bool b1) ∧
  bif b1 then (
  ∃ (I6 : Int → Int → Heap → Prop) (M6 : Int → Int → Heap → Nat), I6 1 0 h16 ∧
  ∀ (v1 : Int) (k2 : Int), ∀ h17 : Heap, I6 v1 k2 h17 →
  bif (decide (k2 < (Int.tmod n16 8))) then (
  I6 (IntKind.wrap .u8 (v1 * 2)) (IntKind.wrap .i64 (k2 + 1)) h17 ∧ M6 (IntKind.wrap .u8 (v1 * 2)) (IntKind.wrap .i64 (k2 + 1)) h17 < M6 v1 k2 h17) else (
  ∃ (n17 : Int), cellOf h17 (Addr.add ⟨h1.size, 0, none⟩ 1) = some (.int .i64 n17) ∧
  ∃ (n18 : Int), cellOf h17 (Addr.add ⟨h1.size, 0, none⟩ 1) = some (.int .i64 n18) ∧
  (0 ≤ (IntKind.wrap .i64 ((IntKind.wrap .i64 (n18 * 512)) + (IntKind.wrap .i64 (Int.tdiv n16 8)))) ∧ (IntKind.wrap .i64 ((IntKind.wrap .i64 (n18 * 512)) + (IntKind.wrap .i64 (Int.tdiv n16 8)))) < ((Int.toNat (IntKind.wrap .i64 (n1 * 512))) : Int)) ∧
  ∃ (n19 : Int), cellOf h17 (Addr.add ⟨h2.size, 0, none⟩ (Int.toNat (IntKind.wrap .i64 ((IntKind.wrap .i64 (n18 * 512)) + (IntKind.wrap .i64 (Int.tdiv n16 8)))))) = some (.int .u8 n19) ∧
  (0 ≤ (IntKind.wrap .i64 ((IntKind.wrap .i64 (n17 * 512)) + (IntKind.wrap .i64 (Int.tdiv n16 8)))) ∧ (IntKind.wrap .i64 ((IntKind.wrap .i64 (n17 * 512)) + (IntKind.wrap .i64 (Int.tdiv n16 8)))) < ((Int.toNat (IntKind.wrap .i64 (n1 * 512))) : Int)) ∧
  Put (Addr.add ⟨h2.size, 0, none⟩ (Int.toNat (IntKind.wrap .i64 ((IntKind.wrap .i64 (n17 * 512)) + (IntKind.wrap .i64 (Int.tdiv n16 8)))))) (.int .u8 (IntKind.wrap .u8 (n19 + v1))) h17 fun h18 =>
  I5 (IntKind.wrap .i64 (n16 + 1)) h18 ∧ M5 (IntKind.wrap .i64 (n16 + 1)) h18 < M5 n16 h16)) else (
  I5 (IntKind.wrap .i64 (n16 + 1)) h16 ∧ M5 (IntKind.wrap .i64 (n16 + 1)) h16 < M5 n16 h16)) else (
  K (.slice (some ⟨h2.size, 0, none⟩) (Int.toNat (IntKind.wrap .i64 (n1 * 512))) (Int.toNat (IntKind.wrap .i64 (n1 * 512)))) h16)))
def boleref12_Image.lo : Nat → List Nat × List (Nat × Ty) := fun n => match n with | 4 => ([1, 2, 5, 6, 30], [(31, .int .i64)]) | 9 => ([2, 5, 6, 48, 49], [(50, .int .i64)]) | 14 => ([2, 5, 6, 8, 9, 10, 48, 49, 50], [(12, .int .i64)]) | 18 => ([2, 5, 6, 48, 49, 50, 91], [(92, .int .i64)]) | 25 => ([2, 5, 6, 111], [(112, .int .i64)]) | 30 => ([2, 5, 6, 15, 111, 112], [(16, .int .u8), (17, .int .i64)]) | _ => ([], [])
def boleref12_Image.od : Nat → Od := fun n => match n with | 16 => (.op 0 [] (.op 1 [] (.op 2 [] (.op 3 [] (.op 4 [] (.op 5 [] (.op 6 [] (.op 7 [] (.op 8 [] (.op 9 [] (.op 10 [] (.op 11 [] (.op 12 [] (.op 13 [] (.op 14 [] (.op 15 [] .nil)))))))))))))))) | 33 => (.op 0 [] (.op 1 [] (.op 2 [] (.op 3 [] (.op 4 [] (.op 5 [] (.op 6 [] (.op 7 [] (.op 8 [] (.op 9 [] (.op 10 [] (.op 11 [] (.op 12 [] (.op 13 [] (.op 14 [] (.op 15 [] (.op 16 [] (.op 17 [] (.op 18 [] (.op 19 [] .nil)))))))))))))))))))) | _ => .nil
theorem boleref12_Image.eq (g1 : List Value) (recordsA1 : Option Addr) (recordsL1 : Nat) (recordsC1 : Nat) (K : Value → Heap → Prop) (h : Heap) : fnX (cx boleref12_Image.lo boleref12_Image.od) Tryz.f45 (Tryz.f45.body.getD .skip) [.agg ⟨g1⟩, .slice recordsA1 recordsL1 recordsC1] K h = boleref12_Image g1 recordsA1 recordsL1 recordsC1 K h := by kernel_rfl
theorem boleref12_Image.chk : fnOk (cx boleref12_Image.lo boleref12_Image.od) Tryz.f45 (Tryz.f45.body.getD .skip) 2 = true := by kernel_rfl
theorem boleref12_Image.ok {g1 : List Value} {recordsA1 : Option Addr} {recordsL1 : Nat} {recordsC1 : Nat} {K : Value → Heap → Prop} {h : Heap} (hx : boleref12_Image g1 recordsA1 recordsL1 recordsC1 K h) : C.boleref12_Image g1 recordsA1 recordsL1 recordsC1 h K :=
  fn_to (cxOk _ _) Tryz.func45 (by kernel_rfl) boleref12_Image.chk (by rw [boleref12_Image.eq]; exact hx)
def adisk_Open (imageA1 : Option Addr) (imageL1 : Nat) (imageC1 : Nat) (K : Value → Heap → Prop) (h1 : Heap) : Prop :=
  bif ((Int.tmod (imageL1 : Int) 512) != 0) then (
  K (.tuple #[.pointer none, .int .i64 32]) h1) else (
  C.adisk_New (IntKind.wrap .i64 (Int.tdiv (imageL1 : Int) 512)) h1 fun r1 h2 =>
  ∃ (q1 : Option Addr) (n1 : Int), r1 = .tuple #[.pointer q1, .int .i64 n1] ∧
  bif (n1 != 0) then (
  K (.tuple #[.pointer none, .int .i64 n1]) h2) else (
  onSome q1 fun p1 =>
  ∃ (sA1 : Option Addr) (sL1 : Nat) (sC1 : Nat), cellOf h2 (Addr.add p1 0) = some (.slice sA1 sL1 sC1) ∧
  ∃ (I1 : Int → Heap → Prop) (M1 : Int → Heap → Nat), I1 0 h2 ∧
  ∀ (n2 : Int), ∀ h3 : Heap, I1 n2 h3 →
  bif (decide (n2 < (sL1 : Int))) then (
  onSome q1 fun p2 =>
  ∃ (sA2 : Option Addr) (sL2 : Nat) (sC2 : Nat), cellOf h3 (Addr.add p2 0) = some (.slice sA2 sL2 sC2) ∧
  (0 ≤ n2 ∧ n2 < (sL2 : Int)) ∧
  onSome sA2 fun p3 =>
  (0 ≤ (IntKind.wrap .i64 (n2 * 512)) ∧ (IntKind.wrap .i64 (n2 * 512)) ≤ (imageL1 : Int)) ∧
  CopyP ti5 (some (Addr.add p3 ((Int.toNat n2) * 512))) 512 (.slice (if imageC1 = (Int.toNat (IntKind.wrap .i64 (n2 * 512))) then imageA1 else Option.map (Addr.add · (Int.toNat (IntKind.wrap .i64 (n2 * 512)))) imageA1) (imageL1 - (Int.toNat (IntKind.wrap .i64 (n2 * 512)))) (imageC1 - (Int.toNat (IntKind.wrap .i64 (n2 * 512))))) h3 fun n3 h4 =>
  I1 (IntKind.wrap .i64 (n2 + 1)) h4 ∧ M1 (IntKind.wrap .i64 (n2 + 1)) h4 < M1 n2 h3) else (
  K (.tuple #[.pointer q1, .int .i64 0]) h3)))
def adisk_Open.lo : Nat → List Nat × List (Nat × Ty) := fun n => match n with | 7 => ([0, 4, 25], [(26, .int .i64)]) | _ => ([], [])
def adisk_Open.od : Nat → Od := fun n => match n with | 9 => (.op 0 [] (.op 1 [] (.op 2 [] (.op 3 [] (.op 4 [] (.op 5 [] (.op 6 [] (.op 7 [] (.op 8 [] (.op 9 [] (.op 10 [] (.op 11 [] .nil)))))))))))) | _ => .nil
theorem adisk_Open.eq (imageA1 : Option Addr) (imageL1 : Nat) (imageC1 : Nat) (K : Value → Heap → Prop) (h : Heap) : fnX (cx adisk_Open.lo adisk_Open.od) Tryz.f46 (Tryz.f46.body.getD .skip) [.slice imageA1 imageL1 imageC1] K h = adisk_Open imageA1 imageL1 imageC1 K h := by kernel_rfl
theorem adisk_Open.chk : fnOk (cx adisk_Open.lo adisk_Open.od) Tryz.f46 (Tryz.f46.body.getD .skip) 1 = true := by kernel_rfl
theorem adisk_Open.ok {imageA1 : Option Addr} {imageL1 : Nat} {imageC1 : Nat} {K : Value → Heap → Prop} {h : Heap} (hx : adisk_Open imageA1 imageL1 imageC1 K h) : C.adisk_Open imageA1 imageL1 imageC1 h K :=
  fn_to (cxOk _ _) Tryz.func46 (by kernel_rfl) adisk_Open.chk (by rw [adisk_Open.eq]; exact hx)
def txn_Begin (d1 : Option Addr) (K : Value → Heap → Prop) (h1 : Heap) : Prop :=
  NewM h1 fun h2 =>
  New [.pointer d1, .map (some h1.size), .slice none 0 0, .bool false] 140 h2 fun h3 =>
  K (.pointer (some ⟨h2.size, 0, none⟩)) h3
def txn_Begin.lo : Nat → List Nat × List (Nat × Ty) := fun n => match n with | _ => ([], [])
def txn_Begin.od : Nat → Od := fun n => match n with | _ => .nil
theorem txn_Begin.eq (d1 : Option Addr) (K : Value → Heap → Prop) (h : Heap) : fnX (cx txn_Begin.lo txn_Begin.od) Tryz.f47 (Tryz.f47.body.getD .skip) [.pointer d1] K h = txn_Begin d1 K h := by kernel_rfl
theorem txn_Begin.chk : fnOk (cx txn_Begin.lo txn_Begin.od) Tryz.f47 (Tryz.f47.body.getD .skip) 1 = true := by kernel_rfl
theorem txn_Begin.ok {d1 : Option Addr} {K : Value → Heap → Prop} {h : Heap} (hx : txn_Begin d1 K h) : C.txn_Begin d1 h K :=
  fn_to (cxOk _ _) Tryz.func47 (by kernel_rfl) txn_Begin.chk (by rw [txn_Begin.eq]; exact hx)
def txn_Txn_Abort (t1 : Option Addr) (K : Value → Heap → Prop) (h1 : Heap) : Prop :=
  C.txn_Txn_end t1 h1 fun r1 h2 =>
  r1 = .tuple #[] ∧
  K (.tuple #[]) h2
def txn_Txn_Abort.lo : Nat → List Nat × List (Nat × Ty) := fun n => match n with | _ => ([], [])
def txn_Txn_Abort.od : Nat → Od := fun n => match n with | _ => .nil
theorem txn_Txn_Abort.eq (t1 : Option Addr) (K : Value → Heap → Prop) (h : Heap) : fnX (cx txn_Txn_Abort.lo txn_Txn_Abort.od) Tryz.f48 (Tryz.f48.body.getD .skip) [.pointer t1] K h = txn_Txn_Abort t1 K h := by kernel_rfl
theorem txn_Txn_Abort.chk : fnOk (cx txn_Txn_Abort.lo txn_Txn_Abort.od) Tryz.f48 (Tryz.f48.body.getD .skip) 1 = true := by kernel_rfl
theorem txn_Txn_Abort.ok {t1 : Option Addr} {K : Value → Heap → Prop} {h : Heap} (hx : txn_Txn_Abort t1 K h) : C.txn_Txn_Abort t1 h K :=
  fn_to (cxOk _ _) Tryz.func48 (by kernel_rfl) txn_Txn_Abort.chk (by rw [txn_Txn_Abort.eq]; exact hx)
def space_each (t1 : Option Addr) (g1 : List Value) (do1 : Value) (K : Value → Heap → Prop) (h1 : Heap) : Prop :=
  New g1 25 h1 fun h2 =>
  ∃ (n1 : Int), cellOf h2 (Addr.add ⟨h1.size, 0, none⟩ 1) = some (.int .i64 n1) ∧
  ∃ (I1 : Int → Heap → Prop) (M1 : Int → Heap → Nat), I1 n1 h2 ∧
  ∀ (k1 : Int), ∀ h3 : Heap, I1 k1 h3 →
  ∃ (n2 : Int), cellOf h3 (Addr.add ⟨h1.size, 0, none⟩ 2) = some (.int .i64 n2) ∧
  bif (decide (k1 < n2)) then (
  C.txn_Txn_Read t1 k1 h3 fun r1 h4 =>
  ∃ (sA1 : Option Addr) (sL1 : Nat) (sC1 : Nat) (n3 : Int), r1 = .tuple #[.slice sA1 sL1 sC1, .int .i64 n3] ∧
  bif (n3 != 0) then (
  K (.int .i64 n3) h4) else (
  ∃ (n4 : Int), cellOf h4 (Addr.add ⟨h1.size, 0, none⟩ 1) = some (.int .i64 n4) ∧
  HCallsV Tryz.prog do1 [.int .i64 (IntKind.wrap .i64 (4096 * (IntKind.wrap .i64 (k1 - n4)))), .slice sA1 sL1 sC1] h4 fun r2 h5 =>
  ∃ (b1 : Bool), r2 = .bool b1 ∧
  bif (!b1) then (
  K (.int .i64 0) h5) else (
  I1 (IntKind.wrap .i64 (k1 + 1)) h5 ∧ M1 (IntKind.wrap .i64 (k1 + 1)) h5 < M1 k1 h3))) else (
  K (.int .i64 0) h3)
def space_each.lo : Nat → List Nat × List (Nat × Ty) := fun n => match n with | 2 => ([0, 2, 4], [(7, .int .i64)]) | _ => ([], [])
def space_each.od : Nat → Od := fun n => match n with | _ => .nil
theorem space_each.eq (t1 : Option Addr) (g1 : List Value) (do1 : Value) (K : Value → Heap → Prop) (h : Heap) : fnX (cx space_each.lo space_each.od) Tryz.f49 (Tryz.f49.body.getD .skip) [.pointer t1, .agg ⟨g1⟩, do1] K h = space_each t1 g1 do1 K h := by kernel_rfl
theorem space_each.chk : fnOk (cx space_each.lo space_each.od) Tryz.f49 (Tryz.f49.body.getD .skip) 3 = true := by kernel_rfl
theorem space_each.ok {t1 : Option Addr} {g1 : List Value} {do1 : Value} {K : Value → Heap → Prop} {h : Heap} (hx : space_each t1 g1 do1 K h) : C.space_each t1 g1 do1 h K :=
  fn_to (cxOk _ _) Tryz.func49 (by kernel_rfl) space_each.chk (by rw [space_each.eq]; exact hx)
end Go.Proofs.YtcdpakjhjmchhaaGreatDoor.W
namespace Go.Proofs.YtcdpakjhjmchhaaGreatDoor.W
open Go Go.Proofs Go.Proofs.YtcdpakjhjmchhaaGreatDoor.Wx
def space_rows (g1 : List Value) (first1 : Int) (bA1 : Option Addr) (bL1 : Nat) (bC1 : Nat) (do1 : Value) (K : Value → Heap → Prop) (h1 : Heap) : Prop :=
  New g1 25 h1 fun h2 =>
  New [.int .i64 first1] 3 h2 fun h3 =>
  New (cellsL do1) 109 h3 fun h4 =>
  C.bits_Runs bA1 bL1 bC1 h4 fun r1 h5 =>
  ∃ (v1 : Value), r1 = v1 ∧
  ∀ (R1 : Loop),
  (∀ (n1 : Int) (n2 : Int), ∀ (h6 : Heap) (k1 : Value → Heap → Prop), LoopOn h6 (h5.size + 1) R1 .ready none →
  (
  LoopOn h6 (h5.size + 1) R1 .ready none ∧
  SetL h6 (h5.size + 1) R1 .busy none fun h7 =>
  ∃ (n3 : Int), cellOf h7 ⟨h2.size, 0, none⟩ = some (.int .i64 n3) ∧
  ∃ (n4 : Int), cellOf h7 (Addr.add ⟨h1.size, 0, none⟩ 3) = some (.int .i64 n4) ∧
  ∃ (n5 : Int), cellOf h7 ⟨h2.size, 0, none⟩ = some (.int .i64 n5) ∧
  ∃ (n6 : Int), cellOf h7 (Addr.add ⟨h1.size, 0, none⟩ 0) = some (.int .i64 n6) ∧
  bif (decide ((if n4 > (IntKind.wrap .i64 (n3 + n1)) then n4 else (IntKind.wrap .i64 (n3 + n1))) < (if n6 < (IntKind.wrap .i64 ((IntKind.wrap .i64 (n5 + n1)) + n2)) then n6 else (IntKind.wrap .i64 ((IntKind.wrap .i64 (n5 + n1)) + n2))))) then (
  ∃ (v2 : Value), cellOf h7 ⟨h3.size, 0, none⟩ = some (v2) ∧
  HCallsV Tryz.prog v2 [.int .i64 (if n4 > (IntKind.wrap .i64 (n3 + n1)) then n4 else (IntKind.wrap .i64 (n3 + n1))), .int .i64 (if n6 < (IntKind.wrap .i64 ((IntKind.wrap .i64 (n5 + n1)) + n2)) then n6 else (IntKind.wrap .i64 ((IntKind.wrap .i64 (n5 + n1)) + n2)))] h7 fun r2 h8 =>
  ∃ (b1 : Bool), r2 = .bool b1 ∧
  bif (!b1) then (
  LoopOn h8 (h5.size + 1) R1 .busy none ∧
  k1 (.bool false) (setLoop h8 (h5.size + 1) R1 .done (some .ret))) else (
  LoopOn h8 (h5.size + 1) R1 .busy none ∧
  k1 (.bool true) (setLoop h8 (h5.size + 1) R1 .ready none))) else (
  LoopOn h7 (h5.size + 1) R1 .busy none ∧
  k1 (.bool true) (setLoop h7 (h5.size + 1) R1 .ready none))) →
  YCalls Tryz.prog (h5.size + 1) [.int .i64 n1, .int .i64 n2] h6 k1) →
  HCallsF Tryz.prog v1 [.func (.yield (h5.size + 1)) #[] #[]] (beginL h5 R1) fun _ h9 =>
  ∃ (st1 : LoopState) (pend1 : Option Code), LoopOn h9 (h5.size + 1) R1 st1 pend1 ∧ st1 ≠ .busy ∧
  pendX pend1 (
  SetL h9 (h5.size + 1) R1 .exhausted pend1 fun h10 =>
  EndD h5.size h10 fun h11 =>
  K (.tuple #[]) h11) (
  SetL h9 (h5.size + 1) R1 .exhausted pend1 fun h12 =>
  EndD h5.size h12 fun h13 =>
  K (.tuple #[]) h13) (fun _ => False)
def space_rows.lo : Nat → List Nat × List (Nat × Ty) := fun n => match n with | 1000002 => ([], [(14, .int .i64), (15, .int .i64)]) | _ => ([], [])
def space_rows.od : Nat → Od := fun n => match n with | 4 => (.op 0 [] (.op 1 [] (.op 2 [] (.op 3 [] (.op 4 [] (.op 5 [] (.op 6 [] (.op 7 [] (.op 8 [] (.op 9 [] (.op 10 [] (.op 11 [] (.op 12 [] (.op 13 [] (.op 14 [] (.op 15 [] .nil)))))))))))))))) | _ => .nil
theorem space_rows.eq (g1 : List Value) (first1 : Int) (bA1 : Option Addr) (bL1 : Nat) (bC1 : Nat) (do1 : Value) (K : Value → Heap → Prop) (h : Heap) : fnX (cx space_rows.lo space_rows.od) Tryz.f51 (Tryz.f51.body.getD .skip) [.agg ⟨g1⟩, .int .i64 first1, .slice bA1 bL1 bC1, do1] K h = space_rows g1 first1 bA1 bL1 bC1 do1 K h := by kernel_rfl
theorem space_rows.chk : fnOk (cx space_rows.lo space_rows.od) Tryz.f51 (Tryz.f51.body.getD .skip) 4 = true := by kernel_rfl
theorem space_rows.ok {g1 : List Value} {first1 : Int} {bA1 : Option Addr} {bL1 : Nat} {bC1 : Nat} {do1 : Value} {K : Value → Heap → Prop} {h : Heap} (hx : space_rows g1 first1 bA1 bL1 bC1 do1 K h) : C.space_rows g1 first1 bA1 bL1 bC1 do1 h K :=
  fn_to (cxOk _ _) Tryz.func51 (by kernel_rfl) space_rows.chk (by rw [space_rows.eq]; exact hx)
def file_get (t1 : Option Addr) (g1 : List Value) (n1 : Int) (K : Value → Heap → Prop) (h1 : Heap) : Prop :=
  New g1 25 h1 fun h2 =>
  New z44 44 h2 fun h3 =>
  ∃ cs1 : List Value, List.length cs1 = 5 ∧ Cells h3 ⟨h1.size, 0, none⟩ cs1 ∧
  C.inode_Get t1 cs1 n1 h3 fun r1 h4 =>
  ∃ (cs2 : List Value) (n2 : Int), r1 = .tuple #[.agg ⟨cs2⟩, .int .i64 n2] ∧
  NewRow z44 44 cs2 15 h4 fun h6 =>
  bif (n2 == 0) then (
  ∃ (n3 : Int), cellOf h6 (Addr.add ⟨h4.size, 0, none⟩ 0) = some (.int .i64 n3) ∧
  bif (n3 == 0) then (
  ∃ cs3 : List Value, List.length cs3 = 15 ∧ Cells h6 ⟨h4.size, 0, none⟩ cs3 ∧
  PutRow ⟨h2.size, 0, none⟩ cs3 15 h6 fun h7 =>
  ∃ res1 : List Value, List.length res1 = 15 ∧ Cells h7 ⟨h2.size, 0, none⟩ res1 ∧
  K (.tuple #[.agg ⟨res1⟩, .int .i64 110]) h7) else (
  ∃ cs4 : List Value, List.length cs4 = 15 ∧ Cells h6 ⟨h4.size, 0, none⟩ cs4 ∧
  PutRow ⟨h2.size, 0, none⟩ cs4 15 h6 fun h8 =>
  ∃ res2 : List Value, List.length res2 = 15 ∧ Cells h8 ⟨h2.size, 0, none⟩ res2 ∧
  K (.tuple #[.agg ⟨res2⟩, .int .i64 n2]) h8)) else (
  ∃ cs5 : List Value, List.length cs5 = 15 ∧ Cells h6 ⟨h4.size, 0, none⟩ cs5 ∧
  PutRow ⟨h2.size, 0, none⟩ cs5 15 h6 fun h9 =>
  ∃ res3 : List Value, List.length res3 = 15 ∧ Cells h9 ⟨h2.size, 0, none⟩ res3 ∧
  K (.tuple #[.agg ⟨res3⟩, .int .i64 n2]) h9)
def file_get.lo : Nat → List Nat × List (Nat × Ty) := fun n => match n with | _ => ([], [])
def file_get.od : Nat → Od := fun n => match n with | _ => .nil
theorem file_get.eq (t1 : Option Addr) (g1 : List Value) (n1 : Int) (K : Value → Heap → Prop) (h : Heap) : fnX (cx file_get.lo file_get.od) Tryz.f53 (Tryz.f53.body.getD .skip) [.pointer t1, .agg ⟨g1⟩, .int .i64 n1] K h = file_get t1 g1 n1 K h := by kernel_rfl
theorem file_get.chk : fnOk (cx file_get.lo file_get.od) Tryz.f53 (Tryz.f53.body.getD .skip) 3 = true := by kernel_rfl
theorem file_get.ok {t1 : Option Addr} {g1 : List Value} {n1 : Int} {K : Value → Heap → Prop} {h : Heap} (hx : file_get t1 g1 n1 K h) : C.file_get t1 g1 n1 h K :=
  fn_to (cxOk _ _) Tryz.func53 (by kernel_rfl) file_get.chk (by rw [file_get.eq]; exact hx)
def file_undo (t1 : Option Addr) (e1 : Option Addr) (K : Value → Heap → Prop) (h1 : Heap) : Prop :=
  New [.pointer t1] 23 h1 fun h2 =>
  New [.pointer e1] 113 h2 fun h3 =>
  ∃ (q1 : Option Addr), cellOf h3 ⟨h1.size, 0, none⟩ = some (.pointer q1) ∧
  C.txn_Txn_Mark q1 h3 fun r1 h4 =>
  ∃ (n1 : Int) (n2 : Int), r1 = .tuple #[.int .i64 n1, .int .i64 n2] ∧
  New z3 3 h4 fun h5 =>
  Put ⟨h4.size, 0, none⟩ (.int .i64 n1) h5 fun h6 =>
  K (.func (.func 109) #[] ⟨[.pointer (some ⟨h2.size, 0, none⟩), .pointer (some ⟨h1.size, 0, none⟩), .pointer (some ⟨h4.size, 0, none⟩)]⟩) h6
def file_undo.lo : Nat → List Nat × List (Nat × Ty) := fun n => match n with | _ => ([], [])
def file_undo.od : Nat → Od := fun n => match n with | _ => .nil
theorem file_undo.eq (t1 : Option Addr) (e1 : Option Addr) (K : Value → Heap → Prop) (h : Heap) : fnX (cx file_undo.lo file_undo.od) Tryz.f54 (Tryz.f54.body.getD .skip) [.pointer t1, .pointer e1] K h = file_undo t1 e1 K h := by kernel_rfl
theorem file_undo.chk : fnOk (cx file_undo.lo file_undo.od) Tryz.f54 (Tryz.f54.body.getD .skip) 2 = true := by kernel_rfl
theorem file_undo.ok {t1 : Option Addr} {e1 : Option Addr} {K : Value → Heap → Prop} {h : Heap} (hx : file_undo t1 e1 K h) : C.file_undo t1 e1 h K :=
  fn_to (cxOk _ _) Tryz.func54 (by kernel_rfl) file_undo.chk (by rw [file_undo.eq]; exact hx)
def file_parts (off1 : Int) (n1 : Int) (K : Value → Heap → Prop) (h1 : Heap) : Prop :=
  New [.int .i64 off1] 3 h1 fun h2 =>
  New [.int .i64 n1] 3 h2 fun h3 =>
  K (.func (.func 110) #[] ⟨[.pointer (some ⟨h2.size, 0, none⟩), .pointer (some ⟨h1.size, 0, none⟩)]⟩) h3
def file_parts.lo : Nat → List Nat × List (Nat × Ty) := fun n => match n with | _ => ([], [])
def file_parts.od : Nat → Od := fun n => match n with | _ => .nil
theorem file_parts.eq (off1 : Int) (n1 : Int) (K : Value → Heap → Prop) (h : Heap) : fnX (cx file_parts.lo file_parts.od) Tryz.f55 (Tryz.f55.body.getD .skip) [.int .i64 off1, .int .i64 n1] K h = file_parts off1 n1 K h := by kernel_rfl
theorem file_parts.chk : fnOk (cx file_parts.lo file_parts.od) Tryz.f55 (Tryz.f55.body.getD .skip) 2 = true := by kernel_rfl
theorem file_parts.ok {off1 : Int} {n1 : Int} {K : Value → Heap → Prop} {h : Heap} (hx : file_parts off1 n1 K h) : C.file_parts off1 n1 h K :=
  fn_to (cxOk _ _) Tryz.func55 (by kernel_rfl) file_parts.chk (by rw [file_parts.eq]; exact hx)
def txn_Txn_Write.k1 (bA1 : Option Addr) (bL1 : Nat) (bC1 : Nat) (h1 : Heap) (h2 : Heap) (was1 : Option Addr) (ok1 : Option Addr) (h8 : Heap) (K : Value → Heap → Prop) : Prop :=
  ∃ (q2 : Option Addr), cellOf h8 ⟨h1.size, 0, none⟩ = some (.pointer q2) ∧
  onSome q2 fun p2 =>
  ∃ (b1 : Bool), cellOf h8 (Addr.add p2 3) = some (.bool b1) ∧
  bif b1 then (
  K (.int .i64 61) h8) else (
  ∃ (n2 : Int), cellOf h8 ⟨h2.size, 0, none⟩ = some (.int .i64 n2) ∧
  bif (decide (n2 < 98)) then (
  K (.int .i64 31) h8) else (
  ∃ (n3 : Int), cellOf h8 ⟨h2.size, 0, none⟩ = some (.int .i64 n3) ∧
  ∃ (q3 : Option Addr), cellOf h8 ⟨h1.size, 0, none⟩ = some (.pointer q3) ∧
  onSome q3 fun p3 =>
  ∃ (q4 : Option Addr), cellOf h8 (Addr.add p3 0) = some (.pointer q4) ∧
  C.adisk_Disk_Blocks q4 h8 fun r1 h9 =>
  ∃ (n4 : Int), r1 = .int .i64 n4 ∧
  (cellOf h9 ⟨h2.size, 0, none⟩ = some (.int .i64 n3)) ∧
  bif (decide (n3 ≥ n4)) then (
  K (.int .i64 31) h9) else (
  bif ((bL1 : Int) != 512) then (
  K (.int .i64 32) h9) else (
  onSome ok1 fun p4 =>
  ∃ (b2 : Bool), cellOf h9 p4 = some (.bool b2) ∧
  bif (!b2) then (
  ∃ (q5 : Option Addr), cellOf h9 ⟨h1.size, 0, none⟩ = some (.pointer q5) ∧
  onSome q5 fun p5 =>
  ∃ (m2 : Option Nat), cellOf h9 (Addr.add p5 1) = some (.map m2) ∧
  MapIn (.int .i64) m2 h9 fun mm2 =>
  bif (decide ((List.length mm2 : Int) ≥ 96)) then (
  K (.int .i64 60) h9) else (
  ∃ (q6 : Option Addr), cellOf h9 ⟨h1.size, 0, none⟩ = some (.pointer q6) ∧
  ∃ (q7 : Option Addr), cellOf h9 ⟨h1.size, 0, none⟩ = some (.pointer q7) ∧
  onSome q7 fun p6 =>
  ∃ (sA2 : Option Addr) (sL2 : Nat) (sC2 : Nat), cellOf h9 (Addr.add p6 2) = some (.slice sA2 sL2 sC2) ∧
  New [.func (.func 111) #[] ⟨[.pointer ok1, .pointer was1, .pointer (some ⟨h1.size, 0, none⟩), .pointer (some ⟨h2.size, 0, none⟩)]⟩] 1 h9 fun h10 =>
  (cellOf h10 ⟨h1.size, 0, none⟩ = some (.pointer q6)) ∧
  (cellOf h10 ⟨h1.size, 0, none⟩ = some (.pointer q7)) ∧
  (cellOf h10 (Addr.add p6 2) = some (.slice sA2 sL2 sC2)) ∧
  ∃ new1 : List Value, List.length new1 = 1 * 1 ∧ SlCells h10 (some ⟨h9.size, 0, none⟩) new1 ∧ (∀ v ∈ new1, v.oneCell' = true) ∧
  AppendP ti1 1 sA2 sL2 sC2 1 new1 h10 fun sA3 sL3 sC3 h11 =>
  (cellOf h11 ⟨h1.size, 0, none⟩ = some (.pointer q6)) ∧
  onSome q6 fun p7 =>
  Put (Addr.add p7 2) (.slice sA3 sL3 sC3) h11 fun h12 =>
  ∃ (q8 : Option Addr), cellOf h12 ⟨h1.size, 0, none⟩ = some (.pointer q8) ∧
  onSome q8 fun p8 =>
  ∃ (m3 : Option Nat), cellOf h12 (Addr.add p8 1) = some (.map m3) ∧
  ∃ (n5 : Int), cellOf h12 ⟨h2.size, 0, none⟩ = some (.int .i64 n5) ∧
  C.slices_Clone_byte_byte bA1 bL1 bC1 h12 fun r2 h13 =>
  ∃ (sA4 : Option Addr) (sL4 : Nat) (sC4 : Nat), r2 = .slice sA4 sL4 sC4 ∧
  (cellOf h13 ⟨h1.size, 0, none⟩ = some (.pointer q8)) ∧
  (cellOf h13 (Addr.add p8 1) = some (.map m3)) ∧
  (cellOf h13 ⟨h2.size, 0, none⟩ = some (.int .i64 n5)) ∧
  onSome m3 fun r3 =>
  MapPut (.int .i64) r3 (.i n5) (.slice sA4 sL4 sC4) h13 fun h14 =>
  K (.int .i64 0) h14)) else (
  ∃ (q9 : Option Addr), cellOf h9 ⟨h1.size, 0, none⟩ = some (.pointer q9) ∧
  ∃ (q10 : Option Addr), cellOf h9 ⟨h1.size, 0, none⟩ = some (.pointer q10) ∧
  onSome q10 fun p9 =>
  ∃ (sA5 : Option Addr) (sL5 : Nat) (sC5 : Nat), cellOf h9 (Addr.add p9 2) = some (.slice sA5 sL5 sC5) ∧
  New [.func (.func 111) #[] ⟨[.pointer ok1, .pointer was1, .pointer (some ⟨h1.size, 0, none⟩), .pointer (some ⟨h2.size, 0, none⟩)]⟩] 1 h9 fun h15 =>
  (cellOf h15 ⟨h1.size, 0, none⟩ = some (.pointer q9)) ∧
  (cellOf h15 ⟨h1.size, 0, none⟩ = some (.pointer q10)) ∧
  (cellOf h15 (Addr.add p9 2) = some (.slice sA5 sL5 sC5)) ∧
  ∃ new2 : List Value, List.length new2 = 1 * 1 ∧ SlCells h15 (some ⟨h9.size, 0, none⟩) new2 ∧ (∀ v ∈ new2, v.oneCell' = true) ∧
  AppendP ti1 1 sA5 sL5 sC5 1 new2 h15 fun sA6 sL6 sC6 h16 =>
  (cellOf h16 ⟨h1.size, 0, none⟩ = some (.pointer q9)) ∧
  onSome q9 fun p10 =>
  Put (Addr.add p10 2) (.slice sA6 sL6 sC6) h16 fun h17 =>
  ∃ (q11 : Option Addr), cellOf h17 ⟨h1.size, 0, none⟩ = some (.pointer q11) ∧
  onSome q11 fun p11 =>
  ∃ (m4 : Option Nat), cellOf h17 (Addr.add p11 1) = some (.map m4) ∧
  ∃ (n6 : Int), cellOf h17 ⟨h2.size, 0, none⟩ = some (.int .i64 n6) ∧
  C.slices_Clone_byte_byte bA1 bL1 bC1 h17 fun r4 h18 =>
  ∃ (sA7 : Option Addr) (sL7 : Nat) (sC7 : Nat), r4 = .slice sA7 sL7 sC7 ∧
  (cellOf h18 ⟨h1.size, 0, none⟩ = some (.pointer q11)) ∧
  (cellOf h18 (Addr.add p11 1) = some (.map m4)) ∧
  (cellOf h18 ⟨h2.size, 0, none⟩ = some (.int .i64 n6)) ∧
  onSome m4 fun r5 =>
  MapPut (.int .i64) r5 (.i n6) (.slice sA7 sL7 sC7) h18 fun h19 =>
  K (.int .i64 0) h19)))))
def txn_Txn_Write (t1 : Option Addr) (i1 : Int) (bA1 : Option Addr) (bL1 : Nat) (bC1 : Nat) (K : Value → Heap → Prop) (h1 : Heap) : Prop :=
  New [.pointer t1] 23 h1 fun h2 =>
  New [.int .i64 i1] 3 h2 fun h3 =>
  ∃ (q1 : Option Addr), cellOf h3 ⟨h1.size, 0, none⟩ = some (.pointer q1) ∧
  onSome q1 fun p1 =>
  ∃ (m1 : Option Nat), cellOf h3 (Addr.add p1 1) = some (.map m1) ∧
  ∃ (n1 : Int), cellOf h3 ⟨h2.size, 0, none⟩ = some (.int .i64 n1) ∧
  (
  MapIn (.int .i64) m1 h3 fun mm1 =>
  ∃ (sA1 : Option Addr) (sL1 : Nat) (sC1 : Nat), Option.getD (mget mm1 (.i n1)) (zeroV ti33) = .slice sA1 sL1 sC1 ∧
  (
  New z33 33 h3 fun h4 =>
  (cellOf h4 ⟨h1.size, 0, none⟩ = some (.pointer q1)) ∧
  (cellOf h4 (Addr.add p1 1) = some (.map m1)) ∧
  (cellOf h4 ⟨h2.size, 0, none⟩ = some (.int .i64 n1)) ∧
  New z4 4 h4 fun h5 =>
  (cellOf h5 ⟨h1.size, 0, none⟩ = some (.pointer q1)) ∧
  (cellOf h5 (Addr.add p1 1) = some (.map m1)) ∧
  (cellOf h5 ⟨h2.size, 0, none⟩ = some (.int .i64 n1)) ∧
  Put ⟨h3.size, 0, none⟩ (.slice sA1 sL1 sC1) h5 fun h6 =>
  Put ⟨h4.size, 0, none⟩ (.bool (Option.isSome (mget mm1 (.i n1)))) h6 fun h7 =>
  txn_Txn_Write.k1 bA1 bL1 bC1 h1 h2 (some ⟨h3.size, 0, none⟩) (some ⟨h4.size, 0, none⟩) h7 K) ∧
  New z4 4 h3 fun h20 =>
  (cellOf h20 ⟨h1.size, 0, none⟩ = some (.pointer q1)) ∧
  (cellOf h20 (Addr.add p1 1) = some (.map m1)) ∧
  (cellOf h20 ⟨h2.size, 0, none⟩ = some (.int .i64 n1)) ∧
  New z33 33 h20 fun h21 =>
  (cellOf h21 ⟨h1.size, 0, none⟩ = some (.pointer q1)) ∧
  (cellOf h21 (Addr.add p1 1) = some (.map m1)) ∧
  (cellOf h21 ⟨h2.size, 0, none⟩ = some (.int .i64 n1)) ∧
  Put ⟨h20.size, 0, none⟩ (.slice sA1 sL1 sC1) h21 fun h22 =>
  Put ⟨h3.size, 0, none⟩ (.bool (Option.isSome (mget mm1 (.i n1)))) h22 fun h23 =>
  txn_Txn_Write.k1 bA1 bL1 bC1 h1 h2 (some ⟨h20.size, 0, none⟩) (some ⟨h3.size, 0, none⟩) h23 K) ∧
  (
  New z33 33 h3 fun h24 =>
  (cellOf h24 ⟨h1.size, 0, none⟩ = some (.pointer q1)) ∧
  (cellOf h24 (Addr.add p1 1) = some (.map m1)) ∧
  (cellOf h24 ⟨h2.size, 0, none⟩ = some (.int .i64 n1)) ∧
  (
  MapIn (.int .i64) m1 h24 fun mm3 =>
  ∃ (sA8 : Option Addr) (sL8 : Nat) (sC8 : Nat), Option.getD (mget mm3 (.i n1)) (zeroV ti33) = .slice sA8 sL8 sC8 ∧
  New z4 4 h24 fun h25 =>
  (cellOf h25 ⟨h1.size, 0, none⟩ = some (.pointer q1)) ∧
  (cellOf h25 (Addr.add p1 1) = some (.map m1)) ∧
  (cellOf h25 ⟨h2.size, 0, none⟩ = some (.int .i64 n1)) ∧
  Put ⟨h3.size, 0, none⟩ (.slice sA8 sL8 sC8) h25 fun h26 =>
  Put ⟨h24.size, 0, none⟩ (.bool (Option.isSome (mget mm3 (.i n1)))) h26 fun h27 =>
  txn_Txn_Write.k1 bA1 bL1 bC1 h1 h2 (some ⟨h3.size, 0, none⟩) (some ⟨h24.size, 0, none⟩) h27 K) ∧
  New z4 4 h24 fun h28 =>
  (cellOf h28 ⟨h1.size, 0, none⟩ = some (.pointer q1)) ∧
  (cellOf h28 (Addr.add p1 1) = some (.map m1)) ∧
  (cellOf h28 ⟨h2.size, 0, none⟩ = some (.int .i64 n1)) ∧
  MapIn (.int .i64) m1 h28 fun mm4 =>
  ∃ (sA9 : Option Addr) (sL9 : Nat) (sC9 : Nat), Option.getD (mget mm4 (.i n1)) (zeroV ti33) = .slice sA9 sL9 sC9 ∧
  Put ⟨h3.size, 0, none⟩ (.slice sA9 sL9 sC9) h28 fun h29 =>
  Put ⟨h24.size, 0, none⟩ (.bool (Option.isSome (mget mm4 (.i n1)))) h29 fun h30 =>
  txn_Txn_Write.k1 bA1 bL1 bC1 h1 h2 (some ⟨h3.size, 0, none⟩) (some ⟨h24.size, 0, none⟩) h30 K) ∧
  New z4 4 h3 fun h31 =>
  (cellOf h31 ⟨h1.size, 0, none⟩ = some (.pointer q1)) ∧
  (cellOf h31 (Addr.add p1 1) = some (.map m1)) ∧
  (cellOf h31 ⟨h2.size, 0, none⟩ = some (.int .i64 n1)) ∧
  (
  MapIn (.int .i64) m1 h31 fun mm5 =>
  ∃ (sA10 : Option Addr) (sL10 : Nat) (sC10 : Nat), Option.getD (mget mm5 (.i n1)) (zeroV ti33) = .slice sA10 sL10 sC10 ∧
  New z33 33 h31 fun h32 =>
  (cellOf h32 ⟨h1.size, 0, none⟩ = some (.pointer q1)) ∧
  (cellOf h32 (Addr.add p1 1) = some (.map m1)) ∧
  (cellOf h32 ⟨h2.size, 0, none⟩ = some (.int .i64 n1)) ∧
  Put ⟨h31.size, 0, none⟩ (.slice sA10 sL10 sC10) h32 fun h33 =>
  Put ⟨h3.size, 0, none⟩ (.bool (Option.isSome (mget mm5 (.i n1)))) h33 fun h34 =>
  txn_Txn_Write.k1 bA1 bL1 bC1 h1 h2 (some ⟨h31.size, 0, none⟩) (some ⟨h3.size, 0, none⟩) h34 K) ∧
  New z33 33 h31 fun h35 =>
  (cellOf h35 ⟨h1.size, 0, none⟩ = some (.pointer q1)) ∧
  (cellOf h35 (Addr.add p1 1) = some (.map m1)) ∧
  (cellOf h35 ⟨h2.size, 0, none⟩ = some (.int .i64 n1)) ∧
  MapIn (.int .i64) m1 h35 fun mm6 =>
  ∃ (sA11 : Option Addr) (sL11 : Nat) (sC11 : Nat), Option.getD (mget mm6 (.i n1)) (zeroV ti33) = .slice sA11 sL11 sC11 ∧
  Put ⟨h31.size, 0, none⟩ (.slice sA11 sL11 sC11) h35 fun h36 =>
  Put ⟨h3.size, 0, none⟩ (.bool (Option.isSome (mget mm6 (.i n1)))) h36 fun h37 =>
  txn_Txn_Write.k1 bA1 bL1 bC1 h1 h2 (some ⟨h31.size, 0, none⟩) (some ⟨h3.size, 0, none⟩) h37 K
def txn_Txn_Write.lo : Nat → List Nat × List (Nat × Ty) := fun n => match n with | _ => ([], [])
set_option maxRecDepth 100000 in
def txn_Txn_Write.od : Nat → Od := fun n => match n with | 1 => (.op 0 [] (.op 1 [] (.op 2 [] (.op 3 [] (.op 4 [] (.alt 5 [] (.op 6 [] (.op 7 [] (.op 8 [] (.alt 9 [0, 3, 4] (.op 10 [0, 3, 4] (.op 11 [] (.op 12 [] .nil))) (.op 10 [0, 3, 4] (.op 9 [0, 3, 4] (.op 11 [] (.op 12 [] .nil)))))))) (.alt 9 [0, 3, 4] (.alt 5 [] (.op 6 [] (.op 7 [] (.op 8 [] (.op 10 [0, 3, 4] (.op 11 [] (.op 12 [] .nil)))))) (.op 10 [0, 3, 4] (.op 5 [] (.op 6 [] (.op 7 [] (.op 8 [] (.op 11 [] (.op 12 [] .nil)))))))) (.op 10 [0, 3, 4] (.alt 5 [] (.op 6 [] (.op 7 [] (.op 8 [] (.op 9 [0, 3, 4] (.op 11 [] (.op 12 [] .nil)))))) (.op 9 [0, 3, 4] (.op 5 [] (.op 6 [] (.op 7 [] (.op 8 [] (.op 11 [] (.op 12 [] .nil)))))))))))))))) | 4 => (.op 0 [] (.op 1 [] (.op 2 [] (.op 3 [] (.op 4 [] (.op 5 [] (.op 6 [] (.op 7 [] (.op 8 [3] (.op 9 [] (.op 10 [] (.op 11 [] .nil)))))))))))) | 10 => (.op 0 [] (.op 1 [] (.op 2 [] (.op 3 [] (.op 4 [] (.op 5 [] (.op 6 [0, 1, 4] (.op 7 [0] (.op 8 [] (.op 9 [] (.op 10 [] .nil))))))))))) | 11 => (.op 0 [] (.op 1 [] (.op 2 [] (.op 3 [] (.op 4 [] (.op 5 [] (.op 6 [0, 3, 4] (.op 7 [] .nil)))))))) | _ => .nil
set_option maxRecDepth 100000 in
theorem txn_Txn_Write.eq (t1 : Option Addr) (i1 : Int) (bA1 : Option Addr) (bL1 : Nat) (bC1 : Nat) (K : Value → Heap → Prop) (h : Heap) : fnX (cx txn_Txn_Write.lo txn_Txn_Write.od) Tryz.f56 (Tryz.f56.body.getD .skip) [.pointer t1, .int .i64 i1, .slice bA1 bL1 bC1] K h = txn_Txn_Write t1 i1 bA1 bL1 bC1 K h := by kernel_rfl
theorem txn_Txn_Write.chk : fnOk (cx txn_Txn_Write.lo txn_Txn_Write.od) Tryz.f56 (Tryz.f56.body.getD .skip) 3 = true := by kernel_rfl
set_option maxRecDepth 100000 in
theorem txn_Txn_Write.ok {t1 : Option Addr} {i1 : Int} {bA1 : Option Addr} {bL1 : Nat} {bC1 : Nat} {K : Value → Heap → Prop} {h : Heap} (hx : txn_Txn_Write t1 i1 bA1 bL1 bC1 K h) : C.txn_Txn_Write t1 i1 bA1 bL1 bC1 h K :=
  fn_to (cxOk _ _) Tryz.func56 (by kernel_rfl) txn_Txn_Write.chk (by rw [txn_Txn_Write.eq]; exact hx)
def inode_Put (t1 : Option Addr) (g1 : List Value) (n1 : Int) (x1 : List Value) (K : Value → Heap → Prop) (h1 : Heap) : Prop :=
  New g1 25 h1 fun h2 =>
  New x1 44 h2 fun h3 =>
  ∃ cs1 : List Value, List.length cs1 = 5 ∧ Cells h3 ⟨h1.size, 0, none⟩ cs1 ∧
  C.inode_isInode cs1 n1 h3 fun r1 h4 =>
  ∃ (b1 : Bool), r1 = .bool b1 ∧
  bif (!b1) then (
  K (.int .i64 110) h4) else (
  ∃ cs2 : List Value, List.length cs2 = 15 ∧ Cells h4 ⟨h2.size, 0, none⟩ cs2 ∧
  C.inode_Encode cs2 h4 fun r2 h5 =>
  ∃ (sA1 : Option Addr) (sL1 : Nat) (sC1 : Nat) (n2 : Int), r2 = .tuple #[.slice sA1 sL1 sC1, .int .i64 n2] ∧
  bif (n2 != 0) then (
  K (.int .i64 n2) h5) else (
  ∃ cs3 : List Value, List.length cs3 = 5 ∧ Cells h5 ⟨h1.size, 0, none⟩ cs3 ∧
  C.inode_place t1 cs3 n1 h5 fun r3 h6 =>
  ∃ (n3 : Int) (sA2 : Option Addr) (sL2 : Nat) (sC2 : Nat) (n4 : Int) (n5 : Int), r3 = .tuple #[.int .i64 n3, .slice sA2 sL2 sC2, .int .i64 n4, .int .i64 n5] ∧
  bif (n5 != 0) then (
  K (.int .i64 n5) h6) else (
  (0 ≤ n4 ∧ n4 ≤ (sL2 : Int)) ∧
  CopyP ti5 (if sC2 = (Int.toNat n4) then sA2 else Option.map (Addr.add · (Int.toNat n4)) sA2) (sL2 - (Int.toNat n4)) (.slice sA1 sL1 sC1) h6 fun n6 h7 =>
  C.txn_Txn_Write t1 n3 sA2 sL2 sC2 h7 fun r4 h8 =>
  ∃ (n7 : Int), r4 = .int .i64 n7 ∧
  K (.int .i64 n7) h8)))
def inode_Put.lo : Nat → List Nat × List (Nat × Ty) := fun n => match n with | _ => ([], [])
def inode_Put.od : Nat → Od := fun n => match n with | _ => .nil
theorem inode_Put.eq (t1 : Option Addr) (g1 : List Value) (n1 : Int) (x1 : List Value) (K : Value → Heap → Prop) (h : Heap) : fnX (cx inode_Put.lo inode_Put.od) Tryz.f57 (Tryz.f57.body.getD .skip) [.pointer t1, .agg ⟨g1⟩, .int .i64 n1, .agg ⟨x1⟩] K h = inode_Put t1 g1 n1 x1 K h := by kernel_rfl
theorem inode_Put.chk : fnOk (cx inode_Put.lo inode_Put.od) Tryz.f57 (Tryz.f57.body.getD .skip) 4 = true := by kernel_rfl
theorem inode_Put.ok {t1 : Option Addr} {g1 : List Value} {n1 : Int} {x1 : List Value} {K : Value → Heap → Prop} {h : Heap} (hx : inode_Put t1 g1 n1 x1 K h) : C.inode_Put t1 g1 n1 x1 h K :=
  fn_to (cxOk _ _) Tryz.func57 (by kernel_rfl) inode_Put.chk (by rw [inode_Put.eq]; exact hx)
def file_block (t1 : Option Addr) (g1 : List Value) (x1 : List Value) (k1 : Int) (K : Value → Heap → Prop) (h1 : Heap) : Prop :=
  New g1 25 h1 fun h2 =>
  New x1 44 h2 fun h3 =>
  ∃ cs1 : List Value, List.length cs1 = 5 ∧ Cells h3 ⟨h1.size, 0, none⟩ cs1 ∧
  ∃ cs2 : List Value, List.length cs2 = 15 ∧ Cells h3 ⟨h2.size, 0, none⟩ cs2 ∧
  C.bmap_Find t1 cs1 cs2 k1 h3 fun r1 h4 =>
  ∃ (n1 : Int) (n2 : Int), r1 = .tuple #[.int .i64 n1, .int .i64 n2] ∧
  bif (n2 != 0) then (
  K (.tuple #[.slice none 0 0, .int .i64 n2]) h4) else (
  bif (n1 == 0) then (
  (0 ≤ (512 : Int) ∧ (512 : Int) ≤ 512 ∧ (1 : Int) * 512 ≤ 281474976710656 ∧ (512 : Int) ≤ 281474976710656) ∧
  New (repCells z5 (Int.toNat 512)) 5 h4 fun h5 =>
  K (.tuple #[.slice (some ⟨h4.size, 0, none⟩) (Int.toNat 512) (Int.toNat 512), .int .i64 0]) h5) else (
  C.txn_Txn_Read t1 n1 h4 fun r2 h6 =>
  ∃ (sA1 : Option Addr) (sL1 : Nat) (sC1 : Nat) (n3 : Int), r2 = .tuple #[.slice sA1 sL1 sC1, .int .i64 n3] ∧
  K (.tuple #[.slice sA1 sL1 sC1, .int .i64 n3]) h6))
def file_block.lo : Nat → List Nat × List (Nat × Ty) := fun n => match n with | _ => ([], [])
def file_block.od : Nat → Od := fun n => match n with | _ => .nil
theorem file_block.eq (t1 : Option Addr) (g1 : List Value) (x1 : List Value) (k1 : Int) (K : Value → Heap → Prop) (h : Heap) : fnX (cx file_block.lo file_block.od) Tryz.f58 (Tryz.f58.body.getD .skip) [.pointer t1, .agg ⟨g1⟩, .agg ⟨x1⟩, .int .i64 k1] K h = file_block t1 g1 x1 k1 K h := by kernel_rfl
theorem file_block.chk : fnOk (cx file_block.lo file_block.od) Tryz.f58 (Tryz.f58.body.getD .skip) 4 = true := by kernel_rfl
theorem file_block.ok {t1 : Option Addr} {g1 : List Value} {x1 : List Value} {k1 : Int} {K : Value → Heap → Prop} {h : Heap} (hx : file_block t1 g1 x1 k1 K h) : C.file_block t1 g1 x1 k1 h K :=
  fn_to (cxOk _ _) Tryz.func58 (by kernel_rfl) file_block.chk (by rw [file_block.eq]; exact hx)
def strings_Builder_Write (b1 : Option Addr) (pA1 : Option Addr) (pL1 : Nat) (pC1 : Nat) (K : Value → Heap → Prop) (h1 : Heap) : Prop :=
  C.strings_Builder_copyCheck b1 h1 fun r1 h2 =>
  r1 = .tuple #[] ∧
  onSome b1 fun p1 =>
  ∃ (sA1 : Option Addr) (sL1 : Nat) (sC1 : Nat), cellOf h2 (Addr.add p1 1) = some (.slice sA1 sL1 sC1) ∧
  ∃ new1 : List Value, List.length new1 = pL1 * 1 ∧ SlCells h2 pA1 new1 ∧ (∀ v ∈ new1, v.oneCell' = true) ∧
  AppendP ti5 5 sA1 sL1 sC1 pL1 new1 h2 fun sA2 sL2 sC2 h3 =>
  onSome b1 fun p2 =>
  Put (Addr.add p2 1) (.slice sA2 sL2 sC2) h3 fun h4 =>
  K (.tuple #[.int .i64 (pL1 : Int), .nilIface]) h4
def strings_Builder_Write.lo : Nat → List Nat × List (Nat × Ty) := fun n => match n with | _ => ([], [])
def strings_Builder_Write.od : Nat → Od := fun n => match n with | _ => .nil
theorem strings_Builder_Write.eq (b1 : Option Addr) (pA1 : Option Addr) (pL1 : Nat) (pC1 : Nat) (K : Value → Heap → Prop) (h : Heap) : fnX (cx strings_Builder_Write.lo strings_Builder_Write.od) Tryz.f59 (Tryz.f59.body.getD .skip) [.pointer b1, .slice pA1 pL1 pC1] K h = strings_Builder_Write b1 pA1 pL1 pC1 K h := by kernel_rfl
theorem strings_Builder_Write.chk : fnOk (cx strings_Builder_Write.lo strings_Builder_Write.od) Tryz.f59 (Tryz.f59.body.getD .skip) 2 = true := by kernel_rfl
theorem strings_Builder_Write.ok {b1 : Option Addr} {pA1 : Option Addr} {pL1 : Nat} {pC1 : Nat} {K : Value → Heap → Prop} {h : Heap} (hx : strings_Builder_Write b1 pA1 pL1 pC1 K h) : C.strings_Builder_Write b1 pA1 pL1 pC1 h K :=
  fn_to (cxOk _ _) Tryz.func59 (by kernel_rfl) strings_Builder_Write.chk (by rw [strings_Builder_Write.eq]; exact hx)
def file_wipe.k1 (t1 : Option Addr) (size1 : Int) (h4 : Heap) (n1 : Int) (K : Value → Heap → Prop) : Prop :=
  C.txn_Txn_Read t1 n1 h4 fun r2 h5 =>
  ∃ (sA1 : Option Addr) (sL1 : Nat) (sC1 : Nat) (n3 : Int), r2 = .tuple #[.slice sA1 sL1 sC1, .int .i64 n3] ∧
  bif (n3 != 0) then (
  K (.int .i64 n3) h5) else (
  ∃ (I1 : Int → Heap → Prop) (M1 : Int → Heap → Nat), I1 (Int.tmod size1 512) h5 ∧
  ∀ (k1 : Int), ∀ h6 : Heap, I1 k1 h6 →
  bif (decide (k1 < 512)) then (
  (0 ≤ k1 ∧ k1 < (sL1 : Int)) ∧
  onSome sA1 fun p1 =>
  Put (Addr.add p1 (Int.toNat k1)) (.int .u8 0) h6 fun h7 =>
  I1 (IntKind.wrap .i64 (k1 + 1)) h7 ∧ M1 (IntKind.wrap .i64 (k1 + 1)) h7 < M1 k1 h6) else (
  C.txn_Txn_Write t1 n1 sA1 sL1 sC1 h6 fun r3 h8 =>
  ∃ (n4 : Int), r3 = .int .i64 n4 ∧
  K (.int .i64 n4) h8))
def file_wipe (t1 : Option Addr) (g1 : List Value) (x1 : List Value) (size1 : Int) (K : Value → Heap → Prop) (h1 : Heap) : Prop :=
  New g1 25 h1 fun h2 =>
  New x1 44 h2 fun h3 =>
  bif ((Int.tmod size1 512) == 0) then (
  K (.int .i64 0) h3) else (
  ∃ cs1 : List Value, List.length cs1 = 5 ∧ Cells h3 ⟨h1.size, 0, none⟩ cs1 ∧
  ∃ cs2 : List Value, List.length cs2 = 15 ∧ Cells h3 ⟨h2.size, 0, none⟩ cs2 ∧
  C.bmap_Find t1 cs1 cs2 (IntKind.wrap .i64 (Int.tdiv size1 512)) h3 fun r1 h4 =>
  ∃ (n1 : Int) (n2 : Int), r1 = .tuple #[.int .i64 n1, .int .i64 n2] ∧
  bif (n2 != 0) then (
  K (.int .i64 n2) h4) else (
  bif (n1 == 0) then (
  K (.int .i64 n2) h4) else (
  file_wipe.k1 t1 size1 h4 n1 K)))
def file_wipe.lo : Nat → List Nat × List (Nat × Ty) := fun n => match n with | 10 => ([0, 9, 11], [(12, .int .i64)]) | _ => ([], [])
def file_wipe.od : Nat → Od := fun n => match n with | _ => .nil
theorem file_wipe.eq (t1 : Option Addr) (g1 : List Value) (x1 : List Value) (size1 : Int) (K : Value → Heap → Prop) (h : Heap) : fnX (cx file_wipe.lo file_wipe.od) Tryz.f61 (Tryz.f61.body.getD .skip) [.pointer t1, .agg ⟨g1⟩, .agg ⟨x1⟩, .int .i64 size1] K h = file_wipe t1 g1 x1 size1 K h := by kernel_rfl
theorem file_wipe.chk : fnOk (cx file_wipe.lo file_wipe.od) Tryz.f61 (Tryz.f61.body.getD .skip) 4 = true := by kernel_rfl
theorem file_wipe.ok {t1 : Option Addr} {g1 : List Value} {x1 : List Value} {size1 : Int} {K : Value → Heap → Prop} {h : Heap} (hx : file_wipe t1 g1 x1 size1 K h) : C.file_wipe t1 g1 x1 size1 h K :=
  fn_to (cxOk _ _) Tryz.func61 (by kernel_rfl) file_wipe.chk (by rw [file_wipe.eq]; exact hx)
def bmap_file_walk.k1 (f1 : Option Addr) (at1 : Int) (n1 : Int) (h3 : Heap) (I1 : Int → Int → Heap → Prop) (M1 : Int → Int → Heap → Nat) (num1 : Int) (e1 : Int) (h8 : Heap) (K : Value → Heap → Prop) : Prop :=
  bif (e1 != 0) then (
  K (.tuple #[.int .i64 0, .int .i64 e1]) h8) else (
  bif (num1 == 0) then (
  K (.tuple #[.int .i64 0, .int .i64 0]) h8) else (
  C.bmap_file_look f1 num1 h8 fun r4 h9 =>
  ∃ (n6 : Int), r4 = .int .i64 n6 ∧
  bif (n6 != 0) then (
  K (.tuple #[.int .i64 0, .int .i64 n6]) h9) else (
  I1 num1 (IntKind.wrap .i64 (n1 + 1)) h9 ∧ M1 num1 (IntKind.wrap .i64 (n1 + 1)) h9 < M1 at1 n1 h3)))
def bmap_file_walk (f1 : Option Addr) (k1 : Int) (hole1 : Value) (K : Value → Heap → Prop) (h1 : Heap) : Prop :=
  C.bmap_way k1 h1 fun r1 h2 =>
  ∃ (sA1 : Option Addr) (sL1 : Nat) (sC1 : Nat), r1 = .slice sA1 sL1 sC1 ∧
  ∃ (I1 : Int → Int → Heap → Prop) (M1 : Int → Int → Heap → Nat), I1 0 0 h2 ∧
  ∀ (at1 : Int) (n1 : Int), ∀ h3 : Heap, I1 at1 n1 h3 →
  bif (decide (n1 < (sL1 : Int))) then (
  (0 ≤ n1 ∧ n1 < (sL1 : Int)) ∧
  onSome sA1 fun p1 =>
  ∃ cs1 : List Value, List.length cs1 = 2 ∧ Cells h3 (Addr.add p1 ((Int.toNat n1) * 2)) cs1 ∧
  NewRow z149 149 cs1 2 h3 fun h5 =>
  ∃ cs2 : List Value, List.length cs2 = 2 ∧ Cells h5 ⟨h3.size, 0, none⟩ cs2 ∧
  C.bmap_file_number f1 cs2 at1 h5 fun r2 h6 =>
  ∃ (n2 : Int) (sA2 : Option Addr) (sL2 : Nat) (sC2 : Nat) (n3 : Int), r2 = .tuple #[.int .i64 n2, .slice sA2 sL2 sC2, .int .i64 n3] ∧
  bif (n3 == 0) then (
  bif (n2 == 0) then (
  ∃ cs3 : List Value, List.length cs3 = 2 ∧ Cells h6 ⟨h3.size, 0, none⟩ cs3 ∧
  HCallsV Tryz.prog hole1 [.agg ⟨cs3⟩, .int .i64 at1, .slice sA2 sL2 sC2] h6 fun r3 h7 =>
  ∃ (n4 : Int) (n5 : Int), r3 = .tuple #[.int .i64 n4, .int .i64 n5] ∧
  bmap_file_walk.k1 f1 at1 n1 h3 I1 M1 n4 n5 h7 K) else (
  bmap_file_walk.k1 f1 at1 n1 h3 I1 M1 n2 n3 h6 K)) else (
  bmap_file_walk.k1 f1 at1 n1 h3 I1 M1 n2 n3 h6 K)) else (
  K (.tuple #[.int .i64 at1, .int .i64 0]) h3)
def bmap_file_walk.lo : Nat → List Nat × List (Nat × Ty) := fun n => match n with | 3 => ([0, 2, 16, 17], [(8, .int .i64), (18, .int .i64)]) | _ => ([], [])
def bmap_file_walk.od : Nat → Od := fun n => match n with | _ => .nil
theorem bmap_file_walk.eq (f1 : Option Addr) (k1 : Int) (hole1 : Value) (K : Value → Heap → Prop) (h : Heap) : fnX (cx bmap_file_walk.lo bmap_file_walk.od) Tryz.f65 (Tryz.f65.body.getD .skip) [.pointer f1, .int .i64 k1, hole1] K h = bmap_file_walk f1 k1 hole1 K h := by kernel_rfl
theorem bmap_file_walk.chk : fnOk (cx bmap_file_walk.lo bmap_file_walk.od) Tryz.f65 (Tryz.f65.body.getD .skip) 3 = true := by kernel_rfl
theorem bmap_file_walk.ok {f1 : Option Addr} {k1 : Int} {hole1 : Value} {K : Value → Heap → Prop} {h : Heap} (hx : bmap_file_walk f1 k1 hole1 K h) : C.bmap_file_walk f1 k1 hole1 h K :=
  fn_to (cxOk _ _) Tryz.func65 (by kernel_rfl) bmap_file_walk.chk (by rw [bmap_file_walk.eq]; exact hx)
def bmap_Find_c1 (x1 : List Value) (x2 : Int) (xA1 : Option Addr) (xL1 : Nat) (xC1 : Nat) (K : Value → Heap → Prop) (h1 : Heap) : Prop :=
  New x1 149 h1 fun h2 =>
  K (.tuple #[.int .i64 0, .int .i64 0]) h2
def bmap_Find_c1.lo : Nat → List Nat × List (Nat × Ty) := fun n => match n with | _ => ([], [])
def bmap_Find_c1.od : Nat → Od := fun n => match n with | _ => .nil
theorem bmap_Find_c1.eq (x1 : List Value) (x2 : Int) (xA1 : Option Addr) (xL1 : Nat) (xC1 : Nat) (K : Value → Heap → Prop) (h : Heap) : fnX (cx bmap_Find_c1.lo bmap_Find_c1.od) Tryz.f66 (Tryz.f66.body.getD .skip) [.agg ⟨x1⟩, .int .i64 x2, .slice xA1 xL1 xC1] K h = bmap_Find_c1 x1 x2 xA1 xL1 xC1 K h := by kernel_rfl
theorem bmap_Find_c1.chk : fnOk (cx bmap_Find_c1.lo bmap_Find_c1.od) Tryz.f66 (Tryz.f66.body.getD .skip) 3 = true := by kernel_rfl
theorem bmap_Find_c1.ok {x1 : List Value} {x2 : Int} {xA1 : Option Addr} {xL1 : Nat} {xC1 : Nat} {K : Value → Heap → Prop} {h : Heap} (hx : bmap_Find_c1 x1 x2 xA1 xL1 xC1 K h) : C.bmap_Find_c1 x1 x2 xA1 xL1 xC1 h K :=
  fn_to (cxOk _ _) Tryz.func66 (by kernel_rfl) bmap_Find_c1.chk (by rw [bmap_Find_c1.eq]; exact hx)
def bmap_guard (t1 : Option Addr) (K : Value → Heap → Prop) (h1 : Heap) : Prop :=
  New [.pointer t1] 23 h1 fun h2 =>
  ∃ (q1 : Option Addr), cellOf h2 ⟨h1.size, 0, none⟩ = some (.pointer q1) ∧
  C.txn_Txn_Mark q1 h2 fun r1 h3 =>
  ∃ (n1 : Int) (n2 : Int), r1 = .tuple #[.int .i64 n1, .int .i64 n2] ∧
  New z3 3 h3 fun h4 =>
  New z28 28 h4 fun h5 =>
  Put ⟨h3.size, 0, none⟩ (.int .i64 n1) h5 fun h6 =>
  Put ⟨h4.size, 0, none⟩ (.int .i64 n2) h6 fun h7 =>
  K (.func (.func 121) #[] ⟨[.pointer (some ⟨h4.size, 0, none⟩), .pointer (some ⟨h1.size, 0, none⟩), .pointer (some ⟨h3.size, 0, none⟩)]⟩) h7
def bmap_guard.lo : Nat → List Nat × List (Nat × Ty) := fun n => match n with | _ => ([], [])
def bmap_guard.od : Nat → Od := fun n => match n with | _ => .nil
theorem bmap_guard.eq (t1 : Option Addr) (K : Value → Heap → Prop) (h : Heap) : fnX (cx bmap_guard.lo bmap_guard.od) Tryz.f71 (Tryz.f71.body.getD .skip) [.pointer t1] K h = bmap_guard t1 K h := by kernel_rfl
theorem bmap_guard.chk : fnOk (cx bmap_guard.lo bmap_guard.od) Tryz.f71 (Tryz.f71.body.getD .skip) 1 = true := by kernel_rfl
theorem bmap_guard.ok {t1 : Option Addr} {K : Value → Heap → Prop} {h : Heap} (hx : bmap_guard t1 K h) : C.bmap_guard t1 h K :=
  fn_to (cxOk _ _) Tryz.func71 (by kernel_rfl) bmap_guard.chk (by rw [bmap_guard.eq]; exact hx)
def bmap_Add_c1 (cap1 : Option Addr) (cap2 : Option Addr) (cap3 : Option Addr) (cap4 : Option Addr) (K : Value → Heap → Prop) (h1 : Heap) : Prop :=
  onSome cap1 fun p1 =>
  ∃ (v1 : Value), cellOf h1 p1 = some (v1) ∧
  onSome cap2 fun p2 =>
  ∃ (n1 : Int), cellOf h1 p2 = some (.int .i64 n1) ∧
  HCallsV Tryz.prog v1 [.int .i64 n1] h1 fun r1 h2 =>
  r1 = .tuple #[] ∧
  onSome cap2 fun p3 =>
  ∃ (n2 : Int), cellOf h2 p3 = some (.int .i64 n2) ∧
  bif (n2 != 0) then (
  onSome cap3 fun p4 =>
  PutRow p4 [.int .i64 0, .int .i64 0, .int .i64 0, .int .i64 0, .int .i64 0, .int .i64 0, .int .i64 0, .int .i64 0, .int .i64 0, .int .i64 0, .int .i64 0, .int .i64 0, .int .i64 0, .int .i64 0, .int .i64 0] 15 h2 fun h3 =>
  onSome cap4 fun p5 =>
  Put p5 (.int .i64 0) h3 fun h4 =>
  K (.tuple #[]) h4) else (
  K (.tuple #[]) h2)
def bmap_Add_c1.lo : Nat → List Nat × List (Nat × Ty) := fun n => match n with | _ => ([], [])
def bmap_Add_c1.od : Nat → Od := fun n => match n with | _ => .nil
theorem bmap_Add_c1.eq (cap1 : Option Addr) (cap2 : Option Addr) (cap3 : Option Addr) (cap4 : Option Addr) (K : Value → Heap → Prop) (h : Heap) : fnX (cx bmap_Add_c1.lo bmap_Add_c1.od) Tryz.f72 (Tryz.f72.body.getD .skip) [.pointer cap1, .pointer cap2, .pointer cap3, .pointer cap4] K h = bmap_Add_c1 cap1 cap2 cap3 cap4 K h := by kernel_rfl
theorem bmap_Add_c1.chkD : fnOkD (cx bmap_Add_c1.lo bmap_Add_c1.od) Tryz.f72 (Tryz.f72.body.getD .skip) 4 = true := by kernel_rfl
theorem bmap_Add_c1.okD {cap1 : Option Addr} {cap2 : Option Addr} {cap3 : Option Addr} {cap4 : Option Addr} {K : Heap → Prop} {h : Heap} (hx : bmap_Add_c1 cap1 cap2 cap3 cap4 (fun _ h' => K h') h) : D.bmap_Add_c1 cap1 cap2 cap3 cap4 h K :=
  fnD_to (cxOk _ _) Tryz.func72 (by kernel_rfl) bmap_Add_c1.chkD (by rw [bmap_Add_c1.eq]; exact hx)
def bmap_Add_c2 (s1 : List Value) (at1 : Int) (bA1 : Option Addr) (bL1 : Nat) (bC1 : Nat) (cap1 : Option Addr) (cap2 : Option Addr) (cap3 : Option Addr) (K : Value → Heap → Prop) (h1 : Heap) : Prop :=
  New s1 149 h1 fun h2 =>
  onSome cap1 fun p1 =>
  ∃ (q1 : Option Addr), cellOf h2 p1 = some (.pointer q1) ∧
  onSome cap2 fun p2 =>
  ∃ cs1 : List Value, List.length cs1 = 5 ∧ Cells h2 p2 cs1 ∧
  C.space_Take q1 cs1 h2 fun r1 h3 =>
  ∃ (n1 : Int) (n2 : Int), r1 = .tuple #[.int .i64 n1, .int .i64 n2] ∧
  bif (n2 != 0) then (
  K (.tuple #[.int .i64 0, .int .i64 n2]) h3) else (
  onSome cap3 fun p3 =>
  ∃ (q2 : Option Addr), cellOf h3 p3 = some (.pointer q2) ∧
  ∃ cs2 : List Value, List.length cs2 = 2 ∧ Cells h3 ⟨h1.size, 0, none⟩ cs2 ∧
  C.bmap_file_set q2 cs2 at1 bA1 bL1 bC1 n1 h3 fun r2 h4 =>
  ∃ (n3 : Int), r2 = .int .i64 n3 ∧
  K (.tuple #[.int .i64 n1, .int .i64 n3]) h4)
def bmap_Add_c2.lo : Nat → List Nat × List (Nat × Ty) := fun n => match n with | _ => ([], [])
def bmap_Add_c2.od : Nat → Od := fun n => match n with | _ => .nil
theorem bmap_Add_c2.eq (s1 : List Value) (at1 : Int) (bA1 : Option Addr) (bL1 : Nat) (bC1 : Nat) (cap1 : Option Addr) (cap2 : Option Addr) (cap3 : Option Addr) (K : Value → Heap → Prop) (h : Heap) : fnX (cx bmap_Add_c2.lo bmap_Add_c2.od) Tryz.f73 (Tryz.f73.body.getD .skip) [.agg ⟨s1⟩, .int .i64 at1, .slice bA1 bL1 bC1, .pointer cap1, .pointer cap2, .pointer cap3] K h = bmap_Add_c2 s1 at1 bA1 bL1 bC1 cap1 cap2 cap3 K h := by kernel_rfl
theorem bmap_Add_c2.chk : fnOk (cx bmap_Add_c2.lo bmap_Add_c2.od) Tryz.f73 (Tryz.f73.body.getD .skip) 6 = true := by kernel_rfl
theorem bmap_Add_c2.ok {s1 : List Value} {at1 : Int} {bA1 : Option Addr} {bL1 : Nat} {bC1 : Nat} {cap1 : Option Addr} {cap2 : Option Addr} {cap3 : Option Addr} {K : Value → Heap → Prop} {h : Heap} (hx : bmap_Add_c2 s1 at1 bA1 bL1 bC1 cap1 cap2 cap3 K h) : C.bmap_Add_c2 s1 at1 bA1 bL1 bC1 cap1 cap2 cap3 h K :=
  fn_to (cxOk _ _) Tryz.func73 (by kernel_rfl) bmap_Add_c2.chk (by rw [bmap_Add_c2.eq]; exact hx)
end Go.Proofs.YtcdpakjhjmchhaaGreatDoor.W
namespace Go.Proofs.YtcdpakjhjmchhaaGreatDoor.W
open Go Go.Proofs Go.Proofs.YtcdpakjhjmchhaaGreatDoor.Wx
def space_Take (t1 : Option Addr) (g1 : List Value) (K : Value → Heap → Prop) (h1 : Heap) : Prop :=
  New [.pointer t1] 23 h1 fun h2 =>
  New g1 25 h2 fun h3 =>
  New z28 28 h3 fun h4 =>
  New z3 3 h4 fun h5 =>
  Put ⟨h4.size, 0, none⟩ (.int .i64 0) h5 fun h6 =>
  ∃ (q1 : Option Addr), cellOf h6 ⟨h1.size, 0, none⟩ = some (.pointer q1) ∧
  ∃ cs1 : List Value, List.length cs1 = 5 ∧ Cells h6 ⟨h2.size, 0, none⟩ cs1 ∧
  C.space_each q1 cs1 (Value.func (.func 122) #[] ⟨[.pointer (some ⟨h2.size, 0, none⟩), .pointer (some ⟨h4.size, 0, none⟩)]⟩) h6 fun r1 h7 =>
  ∃ (n1 : Int), r1 = .int .i64 n1 ∧
  Put ⟨h3.size, 0, none⟩ (.int .i64 n1) h7 fun h8 =>
  ∃ (n2 : Int), cellOf h8 ⟨h3.size, 0, none⟩ = some (.int .i64 n2) ∧
  bif (n2 != 0) then (
  ∃ (n3 : Int), cellOf h8 ⟨h3.size, 0, none⟩ = some (.int .i64 n3) ∧
  Put ⟨h3.size, 0, none⟩ (.int .i64 n3) h8 fun h9 =>
  ∃ (res1 : Int), cellOf h9 ⟨h3.size, 0, none⟩ = some (.int .i64 res1) ∧
  K (.tuple #[.int .i64 0, .int .i64 res1]) h9) else (
  ∃ (n4 : Int), cellOf h8 ⟨h4.size, 0, none⟩ = some (.int .i64 n4) ∧
  bif (n4 == 0) then (
  Put ⟨h3.size, 0, none⟩ (.int .i64 90) h8 fun h10 =>
  ∃ (res2 : Int), cellOf h10 ⟨h3.size, 0, none⟩ = some (.int .i64 res2) ∧
  K (.tuple #[.int .i64 0, .int .i64 res2]) h10) else (
  ∃ (q2 : Option Addr), cellOf h8 ⟨h1.size, 0, none⟩ = some (.pointer q2) ∧
  C.txn_Txn_Mark q2 h8 fun r2 h11 =>
  ∃ (n5 : Int) (n6 : Int), r2 = .tuple #[.int .i64 n5, .int .i64 n6] ∧
  New z3 3 h11 fun h12 =>
  Put ⟨h11.size, 0, none⟩ (.int .i64 n5) h12 fun h13 =>
  Put ⟨h3.size, 0, none⟩ (.int .i64 n6) h13 fun h14 =>
  ∃ (n7 : Int), cellOf h14 ⟨h3.size, 0, none⟩ = some (.int .i64 n7) ∧
  bif (n7 != 0) then (
  ∃ (n8 : Int), cellOf h14 ⟨h3.size, 0, none⟩ = some (.int .i64 n8) ∧
  Put ⟨h3.size, 0, none⟩ (.int .i64 n8) h14 fun h15 =>
  ∃ (res3 : Int), cellOf h15 ⟨h3.size, 0, none⟩ = some (.int .i64 res3) ∧
  K (.tuple #[.int .i64 0, .int .i64 res3]) h15) else (
  ∃ (q3 : Option Addr), cellOf h14 ⟨h1.size, 0, none⟩ = some (.pointer q3) ∧
  ∃ cs2 : List Value, List.length cs2 = 5 ∧ Cells h14 ⟨h2.size, 0, none⟩ cs2 ∧
  ∃ (n9 : Int), cellOf h14 ⟨h4.size, 0, none⟩ = some (.int .i64 n9) ∧
  C.space_set q3 cs2 n9 true h14 fun r3 h16 =>
  ∃ (n10 : Int), r3 = .int .i64 n10 ∧
  Put ⟨h3.size, 0, none⟩ (.int .i64 n10) h16 fun h17 =>
  ∃ (n11 : Int), cellOf h17 ⟨h3.size, 0, none⟩ = some (.int .i64 n11) ∧
  bif (n11 != 0) then (
  ∃ (n12 : Int), cellOf h17 ⟨h3.size, 0, none⟩ = some (.int .i64 n12) ∧
  Put ⟨h3.size, 0, none⟩ (.int .i64 n12) h17 fun h18 =>
  D.space_Take_c2 (some ⟨h1.size, 0, none⟩) (some ⟨h11.size, 0, none⟩) (some ⟨h3.size, 0, none⟩) h18 fun h19 =>
  ∃ (res4 : Int), cellOf h19 ⟨h3.size, 0, none⟩ = some (.int .i64 res4) ∧
  K (.tuple #[.int .i64 0, .int .i64 res4]) h19) else (
  ∃ (q4 : Option Addr), cellOf h17 ⟨h1.size, 0, none⟩ = some (.pointer q4) ∧
  ∃ (n13 : Int), cellOf h17 ⟨h4.size, 0, none⟩ = some (.int .i64 n13) ∧
  (0 ≤ (512 : Int) ∧ (512 : Int) ≤ 512 ∧ (1 : Int) * 512 ≤ 281474976710656 ∧ (512 : Int) ≤ 281474976710656) ∧
  New (repCells z5 (Int.toNat 512)) 5 h17 fun h20 =>
  (cellOf h20 ⟨h1.size, 0, none⟩ = some (.pointer q4)) ∧
  (cellOf h20 ⟨h4.size, 0, none⟩ = some (.int .i64 n13)) ∧
  C.txn_Txn_Write q4 n13 (some ⟨h17.size, 0, none⟩) (Int.toNat 512) (Int.toNat 512) h20 fun r4 h21 =>
  ∃ (n14 : Int), r4 = .int .i64 n14 ∧
  Put ⟨h3.size, 0, none⟩ (.int .i64 n14) h21 fun h22 =>
  ∃ (n15 : Int), cellOf h22 ⟨h3.size, 0, none⟩ = some (.int .i64 n15) ∧
  bif (n15 != 0) then (
  ∃ (n16 : Int), cellOf h22 ⟨h3.size, 0, none⟩ = some (.int .i64 n16) ∧
  Put ⟨h3.size, 0, none⟩ (.int .i64 n16) h22 fun h23 =>
  D.space_Take_c2 (some ⟨h1.size, 0, none⟩) (some ⟨h11.size, 0, none⟩) (some ⟨h3.size, 0, none⟩) h23 fun h24 =>
  ∃ (res5 : Int), cellOf h24 ⟨h3.size, 0, none⟩ = some (.int .i64 res5) ∧
  K (.tuple #[.int .i64 0, .int .i64 res5]) h24) else (
  ∃ (n17 : Int), cellOf h22 ⟨h4.size, 0, none⟩ = some (.int .i64 n17) ∧
  Put ⟨h3.size, 0, none⟩ (.int .i64 0) h22 fun h25 =>
  D.space_Take_c2 (some ⟨h1.size, 0, none⟩) (some ⟨h11.size, 0, none⟩) (some ⟨h3.size, 0, none⟩) h25 fun h26 =>
  ∃ (res6 : Int), cellOf h26 ⟨h3.size, 0, none⟩ = some (.int .i64 res6) ∧
  K (.tuple #[.int .i64 n17, .int .i64 res6]) h26)))))
def space_Take.lo : Nat → List Nat × List (Nat × Ty) := fun n => match n with | _ => ([], [])
def space_Take.od : Nat → Od := fun n => match n with | 4 => (.op 0 [] (.op 1 [] (.op 2 [] .nil))) | 9 => (.op 0 [] (.op 1 [] (.op 2 [] .nil))) | 13 => (.op 0 [] (.op 1 [] (.op 2 [] .nil))) | 14 => (.op 0 [] (.op 1 [] (.op 2 [0, 1] (.op 3 [] (.op 4 [] .nil))))) | 16 => (.op 0 [] (.op 1 [] (.op 2 [] .nil))) | _ => .nil
theorem space_Take.eq (t1 : Option Addr) (g1 : List Value) (K : Value → Heap → Prop) (h : Heap) : fnX (cx space_Take.lo space_Take.od) Tryz.f74 (Tryz.f74.body.getD .skip) [.pointer t1, .agg ⟨g1⟩] K h = space_Take t1 g1 K h := by kernel_rfl
theorem space_Take.chk : fnOk (cx space_Take.lo space_Take.od) Tryz.f74 (Tryz.f74.body.getD .skip) 2 = true := by kernel_rfl
theorem space_Take.ok {t1 : Option Addr} {g1 : List Value} {K : Value → Heap → Prop} {h : Heap} (hx : space_Take t1 g1 K h) : C.space_Take t1 g1 h K :=
  fn_to (cxOk _ _) Tryz.func74 (by kernel_rfl) space_Take.chk (by rw [space_Take.eq]; exact hx)
def bmap_file_set (f1 : Option Addr) (s1 : List Value) (at1 : Int) (bA1 : Option Addr) (bL1 : Nat) (bC1 : Nat) (num1 : Int) (K : Value → Heap → Prop) (h1 : Heap) : Prop :=
  New s1 149 h1 fun h2 =>
  ∃ (n1 : Int), cellOf h2 (Addr.add ⟨h1.size, 0, none⟩ 0) = some (.int .i64 n1) ∧
  bif (n1 != 3) then (
  ∃ cs1 : List Value, List.length cs1 = 2 ∧ Cells h2 ⟨h1.size, 0, none⟩ cs1 ∧
  C.bmap_file_own f1 cs1 h2 fun r1 h3 =>
  ∃ (q1 : Option Addr), r1 = .pointer q1 ∧
  onSome q1 fun p1 =>
  Put p1 (.int .i64 num1) h3 fun h4 =>
  K (.int .i64 0) h4) else (
  ∃ (n2 : Int), cellOf h2 (Addr.add ⟨h1.size, 0, none⟩ 1) = some (.int .i64 n2) ∧
  C.rec_Put bA1 bL1 bC1 (IntKind.wrap .i64 (4 * n2)) 4 (IntKind.wrap .u64 (num1)) h2 fun r2 h5 =>
  ∃ (n3 : Int), r2 = .int .i64 n3 ∧
  onSome f1 fun p2 =>
  ∃ (q2 : Option Addr), cellOf h5 (Addr.add p2 0) = some (.pointer q2) ∧
  C.txn_Txn_Write q2 at1 bA1 bL1 bC1 h5 fun r3 h6 =>
  ∃ (n4 : Int), r3 = .int .i64 n4 ∧
  K (.int .i64 n4) h6)
def bmap_file_set.lo : Nat → List Nat × List (Nat × Ty) := fun n => match n with | _ => ([], [])
def bmap_file_set.od : Nat → Od := fun n => match n with | _ => .nil
theorem bmap_file_set.eq (f1 : Option Addr) (s1 : List Value) (at1 : Int) (bA1 : Option Addr) (bL1 : Nat) (bC1 : Nat) (num1 : Int) (K : Value → Heap → Prop) (h : Heap) : fnX (cx bmap_file_set.lo bmap_file_set.od) Tryz.f75 (Tryz.f75.body.getD .skip) [.pointer f1, .agg ⟨s1⟩, .int .i64 at1, .slice bA1 bL1 bC1, .int .i64 num1] K h = bmap_file_set f1 s1 at1 bA1 bL1 bC1 num1 K h := by kernel_rfl
theorem bmap_file_set.chk : fnOk (cx bmap_file_set.lo bmap_file_set.od) Tryz.f75 (Tryz.f75.body.getD .skip) 5 = true := by kernel_rfl
theorem bmap_file_set.ok {f1 : Option Addr} {s1 : List Value} {at1 : Int} {bA1 : Option Addr} {bL1 : Nat} {bC1 : Nat} {num1 : Int} {K : Value → Heap → Prop} {h : Heap} (hx : bmap_file_set f1 s1 at1 bA1 bL1 bC1 num1 K h) : C.bmap_file_set f1 s1 at1 bA1 bL1 bC1 num1 h K :=
  fn_to (cxOk _ _) Tryz.func75 (by kernel_rfl) bmap_file_set.chk (by rw [bmap_file_set.eq]; exact hx)
def bmap_Cut_c1 (cap1 : Option Addr) (cap2 : Option Addr) (cap3 : Option Addr) (K : Value → Heap → Prop) (h1 : Heap) : Prop :=
  onSome cap1 fun p1 =>
  ∃ (v1 : Value), cellOf h1 p1 = some (v1) ∧
  onSome cap2 fun p2 =>
  ∃ (n1 : Int), cellOf h1 p2 = some (.int .i64 n1) ∧
  HCallsV Tryz.prog v1 [.int .i64 n1] h1 fun r1 h2 =>
  r1 = .tuple #[] ∧
  onSome cap2 fun p3 =>
  ∃ (n2 : Int), cellOf h2 p3 = some (.int .i64 n2) ∧
  bif (n2 != 0) then (
  onSome cap3 fun p4 =>
  PutRow p4 [.int .i64 0, .int .i64 0, .int .i64 0, .int .i64 0, .int .i64 0, .int .i64 0, .int .i64 0, .int .i64 0, .int .i64 0, .int .i64 0, .int .i64 0, .int .i64 0, .int .i64 0, .int .i64 0, .int .i64 0] 15 h2 fun h3 =>
  K (.tuple #[]) h3) else (
  K (.tuple #[]) h2)
def bmap_Cut_c1.lo : Nat → List Nat × List (Nat × Ty) := fun n => match n with | _ => ([], [])
def bmap_Cut_c1.od : Nat → Od := fun n => match n with | _ => .nil
theorem bmap_Cut_c1.eq (cap1 : Option Addr) (cap2 : Option Addr) (cap3 : Option Addr) (K : Value → Heap → Prop) (h : Heap) : fnX (cx bmap_Cut_c1.lo bmap_Cut_c1.od) Tryz.f77 (Tryz.f77.body.getD .skip) [.pointer cap1, .pointer cap2, .pointer cap3] K h = bmap_Cut_c1 cap1 cap2 cap3 K h := by kernel_rfl
theorem bmap_Cut_c1.chkD : fnOkD (cx bmap_Cut_c1.lo bmap_Cut_c1.od) Tryz.f77 (Tryz.f77.body.getD .skip) 3 = true := by kernel_rfl
theorem bmap_Cut_c1.okD {cap1 : Option Addr} {cap2 : Option Addr} {cap3 : Option Addr} {K : Heap → Prop} {h : Heap} (hx : bmap_Cut_c1 cap1 cap2 cap3 (fun _ h' => K h') h) : D.bmap_Cut_c1 cap1 cap2 cap3 h K :=
  fnD_to (cxOk _ _) Tryz.func77 (by kernel_rfl) bmap_Cut_c1.chkD (by rw [bmap_Cut_c1.eq]; exact hx)
def bmap_file_give (f1 : Option Addr) (num1 : Int) (K : Value → Heap → Prop) (h1 : Heap) : Prop :=
  C.bmap_file_look f1 num1 h1 fun r1 h2 =>
  ∃ (n1 : Int), r1 = .int .i64 n1 ∧
  bif (n1 != 0) then (
  K (.int .i64 n1) h2) else (
  onSome f1 fun p1 =>
  ∃ (q1 : Option Addr), cellOf h2 (Addr.add p1 0) = some (.pointer q1) ∧
  onSome f1 fun p2 =>
  ∃ cs1 : List Value, List.length cs1 = 5 ∧ Cells h2 (Addr.add p2 1) cs1 ∧
  C.space_Give q1 cs1 num1 h2 fun r2 h3 =>
  ∃ (n2 : Int), r2 = .int .i64 n2 ∧
  K (.int .i64 n2) h3)
def bmap_file_give.lo : Nat → List Nat × List (Nat × Ty) := fun n => match n with | _ => ([], [])
def bmap_file_give.od : Nat → Od := fun n => match n with | 4 => (.op 0 [] (.op 1 [] (.op 2 [] (.op 3 [] (.op 4 [] (.op 5 [] (.op 6 [] (.op 7 [] (.op 8 [] (.op 9 [] (.op 10 [] .nil))))))))))) | _ => .nil
theorem bmap_file_give.eq (f1 : Option Addr) (num1 : Int) (K : Value → Heap → Prop) (h : Heap) : fnX (cx bmap_file_give.lo bmap_file_give.od) Tryz.f78 (Tryz.f78.body.getD .skip) [.pointer f1, .int .i64 num1] K h = bmap_file_give f1 num1 K h := by kernel_rfl
theorem bmap_file_give.chk : fnOk (cx bmap_file_give.lo bmap_file_give.od) Tryz.f78 (Tryz.f78.body.getD .skip) 2 = true := by kernel_rfl
theorem bmap_file_give.ok {f1 : Option Addr} {num1 : Int} {K : Value → Heap → Prop} {h : Heap} (hx : bmap_file_give f1 num1 K h) : C.bmap_file_give f1 num1 h K :=
  fn_to (cxOk _ _) Tryz.func78 (by kernel_rfl) bmap_file_give.chk (by rw [bmap_file_give.eq]; exact hx)
def bmap_file_cut.k1 (left1 : Bool) (turned1 : Bool) (n2 : Int) (h3 : Heap) (I1 : Bool → Bool → Int → Heap → Prop) (M1 : Bool → Bool → Int → Heap → Nat) (b1 : Bool) (h6 : Heap) (K : Value → Heap → Prop) : Prop :=
  bif left1 then (
  bif turned1 then (
  I1 true true (IntKind.wrap .i64 (n2 + 1)) h6 ∧ M1 true true (IntKind.wrap .i64 (n2 + 1)) h6 < M1 left1 turned1 n2 h3) else (
  I1 true b1 (IntKind.wrap .i64 (n2 + 1)) h6 ∧ M1 true b1 (IntKind.wrap .i64 (n2 + 1)) h6 < M1 left1 turned1 n2 h3)) else (
  bif turned1 then (
  I1 (!b1) true (IntKind.wrap .i64 (n2 + 1)) h6 ∧ M1 (!b1) true (IntKind.wrap .i64 (n2 + 1)) h6 < M1 left1 turned1 n2 h3) else (
  I1 (!b1) b1 (IntKind.wrap .i64 (n2 + 1)) h6 ∧ M1 (!b1) b1 (IntKind.wrap .i64 (n2 + 1)) h6 < M1 left1 turned1 n2 h3))
def bmap_file_cut (f1 : Option Addr) (table1 : Int) (from1 : Int) (drop1 : Value) (K : Value → Heap → Prop) (h1 : Heap) : Prop :=
  C.bmap_file_numbers f1 table1 h1 fun r1 h2 =>
  ∃ (sA1 : Option Addr) (sL1 : Nat) (sC1 : Nat) (sA2 : Option Addr) (sL2 : Nat) (sC2 : Nat) (n1 : Int), r1 = .tuple #[.slice sA1 sL1 sC1, .slice sA2 sL2 sC2, .int .i64 n1] ∧
  bif (n1 != 0) then (
  K (.tuple #[.bool false, .int .i64 n1]) h2) else (
  ∃ (I1 : Bool → Bool → Int → Heap → Prop) (M1 : Bool → Bool → Int → Heap → Nat), I1 false false 0 h2 ∧
  ∀ (left1 : Bool) (turned1 : Bool) (n2 : Int), ∀ h3 : Heap, I1 left1 turned1 n2 h3 →
  bif (decide (n2 < (sL2 : Int))) then (
  (0 ≤ n2 ∧ n2 < (sL2 : Int)) ∧
  onSome sA2 fun p1 =>
  ∃ (n3 : Int), cellOf h3 (Addr.add p1 (Int.toNat n2)) = some (.int .i64 n3) ∧
  bif (n3 == 0) then (
  I1 left1 turned1 (IntKind.wrap .i64 (n2 + 1)) h3 ∧ M1 left1 turned1 (IntKind.wrap .i64 (n2 + 1)) h3 < M1 left1 turned1 n2 h3) else (
  bif (decide (n2 < from1)) then (
  I1 true turned1 (IntKind.wrap .i64 (n2 + 1)) h3 ∧ M1 true turned1 (IntKind.wrap .i64 (n2 + 1)) h3 < M1 left1 turned1 n2 h3) else (
  HCallsV Tryz.prog drop1 [.int .i64 n2, .int .i64 n3] h3 fun r2 h4 =>
  ∃ (b1 : Bool) (n4 : Int), r2 = .tuple #[.bool b1, .int .i64 n4] ∧
  bif (n4 != 0) then (
  K (.tuple #[.bool false, .int .i64 n4]) h4) else (
  bif b1 then (
  C.rec_Put sA1 sL1 sC1 (IntKind.wrap .i64 (4 * n2)) 4 0 h4 fun r3 h5 =>
  ∃ (n5 : Int), r3 = .int .i64 n5 ∧
  bmap_file_cut.k1 left1 turned1 n2 h3 I1 M1 b1 h5 K) else (
  bmap_file_cut.k1 left1 turned1 n2 h3 I1 M1 b1 h4 K))))) else (
  bif (!left1) then (
  onSome f1 fun p2 =>
  ∃ (q1 : Option Addr), cellOf h3 (Addr.add p2 0) = some (.pointer q1) ∧
  onSome f1 fun p3 =>
  ∃ cs1 : List Value, List.length cs1 = 5 ∧ Cells h3 (Addr.add p3 1) cs1 ∧
  C.space_Give q1 cs1 table1 h3 fun r4 h7 =>
  ∃ (n6 : Int), r4 = .int .i64 n6 ∧
  K (.tuple #[.bool false, .int .i64 n6]) h7) else (
  bif turned1 then (
  onSome f1 fun p4 =>
  ∃ (q2 : Option Addr), cellOf h3 (Addr.add p4 0) = some (.pointer q2) ∧
  C.txn_Txn_Write q2 table1 sA1 sL1 sC1 h3 fun r5 h8 =>
  ∃ (n7 : Int), r5 = .int .i64 n7 ∧
  K (.tuple #[.bool true, .int .i64 n7]) h8) else (
  K (.tuple #[.bool true, .int .i64 0]) h3))))
def bmap_file_cut.lo : Nat → List Nat × List (Nat × Ty) := fun n => match n with | 6 => ([0, 1, 2, 3, 10, 29, 30], [(13, .bool), (14, .bool), (31, .int .i64)]) | _ => ([], [])
def bmap_file_cut.od : Nat → Od := fun n => match n with | 19 => (.op 0 [] (.op 1 [] (.op 2 [] (.op 3 [] (.op 4 [] (.op 5 [] (.op 6 [] (.op 7 [] (.op 8 [] (.op 9 [] (.op 10 [] (.op 11 [] .nil)))))))))))) | _ => .nil
theorem bmap_file_cut.eq (f1 : Option Addr) (table1 : Int) (from1 : Int) (drop1 : Value) (K : Value → Heap → Prop) (h : Heap) : fnX (cx bmap_file_cut.lo bmap_file_cut.od) Tryz.f79 (Tryz.f79.body.getD .skip) [.pointer f1, .int .i64 table1, .int .i64 from1, drop1] K h = bmap_file_cut f1 table1 from1 drop1 K h := by kernel_rfl
theorem bmap_file_cut.chk : fnOk (cx bmap_file_cut.lo bmap_file_cut.od) Tryz.f79 (Tryz.f79.body.getD .skip) 4 = true := by kernel_rfl
theorem bmap_file_cut.ok {f1 : Option Addr} {table1 : Int} {from1 : Int} {drop1 : Value} {K : Value → Heap → Prop} {h : Heap} (hx : bmap_file_cut f1 table1 from1 drop1 K h) : C.bmap_file_cut f1 table1 from1 drop1 h K :=
  fn_to (cxOk _ _) Tryz.func79 (by kernel_rfl) bmap_file_cut.chk (by rw [bmap_file_cut.eq]; exact hx)
def bmap_file_leaf (f1 : Option Addr) (x1 : Int) (num1 : Int) (K : Value → Heap → Prop) (h1 : Heap) : Prop :=
  C.bmap_file_give f1 num1 h1 fun r1 h2 =>
  ∃ (n1 : Int), r1 = .int .i64 n1 ∧
  K (.tuple #[.bool true, .int .i64 n1]) h2
def bmap_file_leaf.lo : Nat → List Nat × List (Nat × Ty) := fun n => match n with | _ => ([], [])
def bmap_file_leaf.od : Nat → Od := fun n => match n with | _ => .nil
theorem bmap_file_leaf.eq (f1 : Option Addr) (x1 : Int) (num1 : Int) (K : Value → Heap → Prop) (h : Heap) : fnX (cx bmap_file_leaf.lo bmap_file_leaf.od) Tryz.f80 (Tryz.f80.body.getD .skip) [.pointer f1, .int .i64 x1, .int .i64 num1] K h = bmap_file_leaf f1 x1 num1 K h := by kernel_rfl
theorem bmap_file_leaf.chk : fnOk (cx bmap_file_leaf.lo bmap_file_leaf.od) Tryz.f80 (Tryz.f80.body.getD .skip) 3 = true := by kernel_rfl
theorem bmap_file_leaf.ok {f1 : Option Addr} {x1 : Int} {num1 : Int} {K : Value → Heap → Prop} {h : Heap} (hx : bmap_file_leaf f1 x1 num1 K h) : C.bmap_file_leaf f1 x1 num1 h K :=
  fn_to (cxOk _ _) Tryz.func80 (by kernel_rfl) bmap_file_leaf.chk (by rw [bmap_file_leaf.eq]; exact hx)
def bmap_Cut_c2 (i1 : Int) (num1 : Int) (cap1 : Option Addr) (cap2 : Option Addr) (K : Value → Heap → Prop) (h1 : Heap) : Prop :=
  onSome cap1 fun p1 =>
  ∃ (q1 : Option Addr), cellOf h1 p1 = some (.pointer q1) ∧
  onSome cap2 fun p2 =>
  ∃ (n1 : Int), cellOf h1 p2 = some (.int .i64 n1) ∧
  onSome cap1 fun p3 =>
  ∃ (q2 : Option Addr), cellOf h1 p3 = some (.pointer q2) ∧
  C.bmap_file_cut q1 num1 (IntKind.wrap .i64 (n1 - (IntKind.wrap .i64 (i1 * 128)))) (Value.func (.func 80) ⟨[.pointer q2]⟩ ⟨[]⟩) h1 fun r1 h2 =>
  ∃ (b1 : Bool) (n2 : Int), r1 = .tuple #[.bool b1, .int .i64 n2] ∧
  K (.tuple #[.bool (!b1), .int .i64 n2]) h2
def bmap_Cut_c2.lo : Nat → List Nat × List (Nat × Ty) := fun n => match n with | _ => ([], [])
def bmap_Cut_c2.od : Nat → Od := fun n => match n with | _ => .nil
theorem bmap_Cut_c2.eq (i1 : Int) (num1 : Int) (cap1 : Option Addr) (cap2 : Option Addr) (K : Value → Heap → Prop) (h : Heap) : fnX (cx bmap_Cut_c2.lo bmap_Cut_c2.od) Tryz.f81 (Tryz.f81.body.getD .skip) [.int .i64 i1, .int .i64 num1, .pointer cap1, .pointer cap2] K h = bmap_Cut_c2 i1 num1 cap1 cap2 K h := by kernel_rfl
theorem bmap_Cut_c2.chk : fnOk (cx bmap_Cut_c2.lo bmap_Cut_c2.od) Tryz.f81 (Tryz.f81.body.getD .skip) 4 = true := by kernel_rfl
theorem bmap_Cut_c2.ok {i1 : Int} {num1 : Int} {cap1 : Option Addr} {cap2 : Option Addr} {K : Value → Heap → Prop} {h : Heap} (hx : bmap_Cut_c2 i1 num1 cap1 cap2 K h) : C.bmap_Cut_c2 i1 num1 cap1 cap2 h K :=
  fn_to (cxOk _ _) Tryz.func81 (by kernel_rfl) bmap_Cut_c2.chk (by rw [bmap_Cut_c2.eq]; exact hx)
def bmap_All_c1 (k1 : Int) (num1 : Int) (cap1 : Option Addr) (cap2 : Option Addr) (K : Value → Heap → Prop) (h1 : Heap) : Prop :=
  bif (num1 == 0) then (
  K (.int .i64 0) h1) else (
  onSome cap1 fun p1 =>
  ∃ (sA1 : Option Addr) (sL1 : Nat) (sC1 : Nat), cellOf h1 p1 = some (.slice sA1 sL1 sC1) ∧
  List.length ([.int .i64 k1, .int .i64 num1] : List Value) = 2 ∧
  New [.int .i64 k1, .int .i64 num1] 56 h1 fun h2 =>
  ∃ new1 : List Value, List.length new1 = 1 * 2 ∧ SlCells h2 (some ⟨h1.size, 0, none⟩) new1 ∧ (∀ v ∈ new1, v.oneCell' = true) ∧
  AppendP ti56 56 sA1 sL1 sC1 1 new1 h2 fun sA2 sL2 sC2 h3 =>
  onSome cap1 fun p2 =>
  Put p2 (.slice sA2 sL2 sC2) h3 fun h4 =>
  onSome cap2 fun p3 =>
  ∃ (q1 : Option Addr), cellOf h4 p3 = some (.pointer q1) ∧
  C.bmap_file_look q1 num1 h4 fun r1 h5 =>
  ∃ (n1 : Int), r1 = .int .i64 n1 ∧
  K (.int .i64 n1) h5)
def bmap_All_c1.lo : Nat → List Nat × List (Nat × Ty) := fun n => match n with | _ => ([], [])
def bmap_All_c1.od : Nat → Od := fun n => match n with | _ => .nil
theorem bmap_All_c1.eq (k1 : Int) (num1 : Int) (cap1 : Option Addr) (cap2 : Option Addr) (K : Value → Heap → Prop) (h : Heap) : fnX (cx bmap_All_c1.lo bmap_All_c1.od) Tryz.f83 (Tryz.f83.body.getD .skip) [.int .i64 k1, .int .i64 num1, .pointer cap1, .pointer cap2] K h = bmap_All_c1 k1 num1 cap1 cap2 K h := by kernel_rfl
theorem bmap_All_c1.chk : fnOk (cx bmap_All_c1.lo bmap_All_c1.od) Tryz.f83 (Tryz.f83.body.getD .skip) 4 = true := by kernel_rfl
theorem bmap_All_c1.ok {k1 : Int} {num1 : Int} {cap1 : Option Addr} {cap2 : Option Addr} {K : Value → Heap → Prop} {h : Heap} (hx : bmap_All_c1 k1 num1 cap1 cap2 K h) : C.bmap_All_c1 k1 num1 cap1 cap2 h K :=
  fn_to (cxOk _ _) Tryz.func83 (by kernel_rfl) bmap_All_c1.chk (by rw [bmap_All_c1.eq]; exact hx)
def bmap_file_look (f1 : Option Addr) (num1 : Int) (K : Value → Heap → Prop) (h1 : Heap) : Prop :=
  onSome f1 fun p1 =>
  ∃ (n1 : Int), cellOf h1 (Addr.add (Addr.add p1 1) 3) = some (.int .i64 n1) ∧
  bif (decide (num1 < n1)) then (
  K (.int .i64 100) h1) else (
  onSome f1 fun p2 =>
  ∃ (n2 : Int), cellOf h1 (Addr.add (Addr.add p2 1) 0) = some (.int .i64 n2) ∧
  bif (decide (num1 ≥ n2)) then (
  K (.int .i64 100) h1) else (
  K (.int .i64 0) h1))
def bmap_file_look.lo : Nat → List Nat × List (Nat × Ty) := fun n => match n with | _ => ([], [])
def bmap_file_look.od : Nat → Od := fun n => match n with | _ => .nil
theorem bmap_file_look.eq (f1 : Option Addr) (num1 : Int) (K : Value → Heap → Prop) (h : Heap) : fnX (cx bmap_file_look.lo bmap_file_look.od) Tryz.f84 (Tryz.f84.body.getD .skip) [.pointer f1, .int .i64 num1] K h = bmap_file_look f1 num1 K h := by kernel_rfl
theorem bmap_file_look.chk : fnOk (cx bmap_file_look.lo bmap_file_look.od) Tryz.f84 (Tryz.f84.body.getD .skip) 2 = true := by kernel_rfl
theorem bmap_file_look.ok {f1 : Option Addr} {num1 : Int} {K : Value → Heap → Prop} {h : Heap} (hx : bmap_file_look f1 num1 K h) : C.bmap_file_look f1 num1 h K :=
  fn_to (cxOk _ _) Tryz.func84 (by kernel_rfl) bmap_file_look.chk (by rw [bmap_file_look.eq]; exact hx)
def bmap_All_c2.k1 (do1 : Value) (sA2 : Option Addr) (sL2 : Nat) (e1 : Int) (i1 : Int) (h6 : Heap) (I1 : Int → Int → Heap → Prop) (M1 : Int → Int → Heap → Nat) (K : Value → Heap → Prop) : Prop :=
  (0 ≤ i1 ∧ i1 < (sL2 : Int)) ∧
  onSome sA2 fun p4 =>
  ∃ (n2 : Int), cellOf h6 (Addr.add p4 (Int.toNat i1)) = some (.int .i64 n2) ∧
  HCallsV Tryz.prog do1 [.int .i64 i1, .int .i64 n2] h6 fun r2 h7 =>
  ∃ (n3 : Int), r2 = .int .i64 n3 ∧
  I1 n3 (IntKind.wrap .i64 (i1 + 1)) h7 ∧ M1 n3 (IntKind.wrap .i64 (i1 + 1)) h7 < M1 e1 i1 h6
def bmap_All_c2 (table1 : Int) (do1 : Value) (cap1 : Option Addr) (cap2 : Option Addr) (K : Value → Heap → Prop) (h1 : Heap) : Prop :=
  bif (table1 == 0) then (
  K (.int .i64 0) h1) else (
  onSome cap1 fun p1 =>
  ∃ (q1 : Option Addr), cellOf h1 p1 = some (.pointer q1) ∧
  C.bmap_file_numbers q1 table1 h1 fun r1 h2 =>
  ∃ (sA1 : Option Addr) (sL1 : Nat) (sC1 : Nat) (sA2 : Option Addr) (sL2 : Nat) (sC2 : Nat) (n1 : Int), r1 = .tuple #[.slice sA1 sL1 sC1, .slice sA2 sL2 sC2, .int .i64 n1] ∧
  onSome cap2 fun p2 =>
  ∃ (sA3 : Option Addr) (sL3 : Nat) (sC3 : Nat), cellOf h2 p2 = some (.slice sA3 sL3 sC3) ∧
  New [.int .i64 table1] 3 h2 fun h3 =>
  ∃ new1 : List Value, List.length new1 = 1 * 1 ∧ SlCells h3 (some ⟨h2.size, 0, none⟩) new1 ∧ (∀ v ∈ new1, v.oneCell' = true) ∧
  AppendP ti3 3 sA3 sL3 sC3 1 new1 h3 fun sA4 sL4 sC4 h4 =>
  onSome cap2 fun p3 =>
  Put p3 (.slice sA4 sL4 sC4) h4 fun h5 =>
  ∃ (I1 : Int → Int → Heap → Prop) (M1 : Int → Int → Heap → Nat), I1 n1 0 h5 ∧
  ∀ (e1 : Int) (i1 : Int), ∀ h6 : Heap, I1 e1 i1 h6 →
  bif (decide (i1 < (sL2 : Int))) then (
  bif (e1 == 0) then (
  bmap_All_c2.k1 do1 sA2 sL2 e1 i1 h6 I1 M1 K) else (
  K (.int .i64 e1) h6)) else (
  K (.int .i64 e1) h6))
def bmap_All_c2.lo : Nat → List Nat × List (Nat × Ty) := fun n => match n with | 6 => ([1, 8], [(9, .int .i64), (10, .int .i64)]) | _ => ([], [])
def bmap_All_c2.od : Nat → Od := fun n => match n with | _ => .nil
theorem bmap_All_c2.eq (table1 : Int) (do1 : Value) (cap1 : Option Addr) (cap2 : Option Addr) (K : Value → Heap → Prop) (h : Heap) : fnX (cx bmap_All_c2.lo bmap_All_c2.od) Tryz.f85 (Tryz.f85.body.getD .skip) [.int .i64 table1, do1, .pointer cap1, .pointer cap2] K h = bmap_All_c2 table1 do1 cap1 cap2 K h := by kernel_rfl
theorem bmap_All_c2.chk : fnOk (cx bmap_All_c2.lo bmap_All_c2.od) Tryz.f85 (Tryz.f85.body.getD .skip) 4 = true := by kernel_rfl
theorem bmap_All_c2.ok {table1 : Int} {do1 : Value} {cap1 : Option Addr} {cap2 : Option Addr} {K : Value → Heap → Prop} {h : Heap} (hx : bmap_All_c2 table1 do1 cap1 cap2 K h) : C.bmap_All_c2 table1 do1 cap1 cap2 h K :=
  fn_to (cxOk _ _) Tryz.func85 (by kernel_rfl) bmap_All_c2.chk (by rw [bmap_All_c2.eq]; exact hx)
def bmap_file_numbers (f1 : Option Addr) (table1 : Int) (K : Value → Heap → Prop) (h1 : Heap) : Prop :=
  C.bmap_file_look f1 table1 h1 fun r1 h2 =>
  ∃ (n1 : Int), r1 = .int .i64 n1 ∧
  bif (n1 != 0) then (
  K (.tuple #[.slice none 0 0, .slice none 0 0, .int .i64 n1]) h2) else (
  onSome f1 fun p1 =>
  ∃ (q1 : Option Addr), cellOf h2 (Addr.add p1 0) = some (.pointer q1) ∧
  C.txn_Txn_Read q1 table1 h2 fun r2 h3 =>
  ∃ (sA1 : Option Addr) (sL1 : Nat) (sC1 : Nat) (n2 : Int), r2 = .tuple #[.slice sA1 sL1 sC1, .int .i64 n2] ∧
  bif (n2 != 0) then (
  K (.tuple #[.slice none 0 0, .slice none 0 0, .int .i64 n2]) h3) else (
  (0 ≤ (128 : Int) ∧ (128 : Int) ≤ 128 ∧ (8 : Int) * 128 ≤ 281474976710656 ∧ (128 : Int) ≤ 281474976710656) ∧
  New (repCells z3 (Int.toNat 128)) 3 h3 fun h4 =>
  ∃ (I1 : Int → Heap → Prop) (M1 : Int → Heap → Nat), I1 0 h4 ∧
  ∀ (n3 : Int), ∀ h5 : Heap, I1 n3 h5 →
  bif (decide (n3 < ((Int.toNat 128) : Int))) then (
  C.rec_Get sA1 sL1 sC1 (IntKind.wrap .i64 (4 * n3)) 4 h5 fun r3 h6 =>
  ∃ (n4 : Int) (n5 : Int), r3 = .tuple #[.int .u64 n4, .int .i64 n5] ∧
  (0 ≤ n3 ∧ n3 < ((Int.toNat 128) : Int)) ∧
  Put (Addr.add ⟨h3.size, 0, none⟩ (Int.toNat n3)) (.int .i64 (IntKind.wrap .i64 (n4))) h6 fun h7 =>
  I1 (IntKind.wrap .i64 (n3 + 1)) h7 ∧ M1 (IntKind.wrap .i64 (n3 + 1)) h7 < M1 n3 h5) else (
  K (.tuple #[.slice sA1 sL1 sC1, .slice (some ⟨h3.size, 0, none⟩) (Int.toNat 128) (Int.toNat 128), .int .i64 0]) h5)))
def bmap_file_numbers.lo : Nat → List Nat × List (Nat × Ty) := fun n => match n with | 9 => ([8, 10, 34], [(35, .int .i64)]) | _ => ([], [])
def bmap_file_numbers.od : Nat → Od := fun n => match n with | _ => .nil
theorem bmap_file_numbers.eq (f1 : Option Addr) (table1 : Int) (K : Value → Heap → Prop) (h : Heap) : fnX (cx bmap_file_numbers.lo bmap_file_numbers.od) Tryz.f86 (Tryz.f86.body.getD .skip) [.pointer f1, .int .i64 table1] K h = bmap_file_numbers f1 table1 K h := by kernel_rfl
theorem bmap_file_numbers.chk : fnOk (cx bmap_file_numbers.lo bmap_file_numbers.od) Tryz.f86 (Tryz.f86.body.getD .skip) 2 = true := by kernel_rfl
theorem bmap_file_numbers.ok {f1 : Option Addr} {table1 : Int} {K : Value → Heap → Prop} {h : Heap} (hx : bmap_file_numbers f1 table1 K h) : C.bmap_file_numbers f1 table1 h K :=
  fn_to (cxOk _ _) Tryz.func86 (by kernel_rfl) bmap_file_numbers.chk (by rw [bmap_file_numbers.eq]; exact hx)
def bmap_All_c3 (i1 : Int) (num1 : Int) (cap1 : Option Addr) (K : Value → Heap → Prop) (h1 : Heap) : Prop :=
  onSome cap1 fun p1 =>
  ∃ (v1 : Value), cellOf h1 p1 = some (v1) ∧
  HCallsV Tryz.prog v1 [.int .i64 (IntKind.wrap .i64 (10 + i1)), .int .i64 num1] h1 fun r1 h2 =>
  ∃ (n1 : Int), r1 = .int .i64 n1 ∧
  K (.int .i64 n1) h2
def bmap_All_c3.lo : Nat → List Nat × List (Nat × Ty) := fun n => match n with | _ => ([], [])
def bmap_All_c3.od : Nat → Od := fun n => match n with | _ => .nil
theorem bmap_All_c3.eq (i1 : Int) (num1 : Int) (cap1 : Option Addr) (K : Value → Heap → Prop) (h : Heap) : fnX (cx bmap_All_c3.lo bmap_All_c3.od) Tryz.f87 (Tryz.f87.body.getD .skip) [.int .i64 i1, .int .i64 num1, .pointer cap1] K h = bmap_All_c3 i1 num1 cap1 K h := by kernel_rfl
theorem bmap_All_c3.chk : fnOk (cx bmap_All_c3.lo bmap_All_c3.od) Tryz.f87 (Tryz.f87.body.getD .skip) 3 = true := by kernel_rfl
theorem bmap_All_c3.ok {i1 : Int} {num1 : Int} {cap1 : Option Addr} {K : Value → Heap → Prop} {h : Heap} (hx : bmap_All_c3 i1 num1 cap1 K h) : C.bmap_All_c3 i1 num1 cap1 h K :=
  fn_to (cxOk _ _) Tryz.func87 (by kernel_rfl) bmap_All_c3.chk (by rw [bmap_All_c3.eq]; exact hx)
def bmap_All_c4 (i1 : Int) (table1 : Int) (cap1 : Option Addr) (cap2 : Option Addr) (K : Value → Heap → Prop) (h1 : Heap) : Prop :=
  New [.int .i64 i1] 3 h1 fun h2 =>
  onSome cap1 fun p1 =>
  ∃ (v1 : Value), cellOf h2 p1 = some (v1) ∧
  HCallsV Tryz.prog v1 [.int .i64 table1, .func (.func 89) #[] ⟨[.pointer cap2, .pointer (some ⟨h1.size, 0, none⟩)]⟩] h2 fun r1 h3 =>
  ∃ (n1 : Int), r1 = .int .i64 n1 ∧
  K (.int .i64 n1) h3
def bmap_All_c4.lo : Nat → List Nat × List (Nat × Ty) := fun n => match n with | _ => ([], [])
def bmap_All_c4.od : Nat → Od := fun n => match n with | _ => .nil
theorem bmap_All_c4.eq (i1 : Int) (table1 : Int) (cap1 : Option Addr) (cap2 : Option Addr) (K : Value → Heap → Prop) (h : Heap) : fnX (cx bmap_All_c4.lo bmap_All_c4.od) Tryz.f88 (Tryz.f88.body.getD .skip) [.int .i64 i1, .int .i64 table1, .pointer cap1, .pointer cap2] K h = bmap_All_c4 i1 table1 cap1 cap2 K h := by kernel_rfl
theorem bmap_All_c4.chk : fnOk (cx bmap_All_c4.lo bmap_All_c4.od) Tryz.f88 (Tryz.f88.body.getD .skip) 4 = true := by kernel_rfl
theorem bmap_All_c4.ok {i1 : Int} {table1 : Int} {cap1 : Option Addr} {cap2 : Option Addr} {K : Value → Heap → Prop} {h : Heap} (hx : bmap_All_c4 i1 table1 cap1 cap2 K h) : C.bmap_All_c4 i1 table1 cap1 cap2 h K :=
  fn_to (cxOk _ _) Tryz.func88 (by kernel_rfl) bmap_All_c4.chk (by rw [bmap_All_c4.eq]; exact hx)
def bmap_All_c4_c1 (j1 : Int) (num1 : Int) (cap1 : Option Addr) (cap2 : Option Addr) (K : Value → Heap → Prop) (h1 : Heap) : Prop :=
  onSome cap1 fun p1 =>
  ∃ (v1 : Value), cellOf h1 p1 = some (v1) ∧
  onSome cap2 fun p2 =>
  ∃ (n1 : Int), cellOf h1 p2 = some (.int .i64 n1) ∧
  HCallsV Tryz.prog v1 [.int .i64 (IntKind.wrap .i64 ((IntKind.wrap .i64 (138 + (IntKind.wrap .i64 (n1 * 128)))) + j1)), .int .i64 num1] h1 fun r1 h2 =>
  ∃ (n2 : Int), r1 = .int .i64 n2 ∧
  K (.int .i64 n2) h2
def bmap_All_c4_c1.lo : Nat → List Nat × List (Nat × Ty) := fun n => match n with | _ => ([], [])
def bmap_All_c4_c1.od : Nat → Od := fun n => match n with | _ => .nil
theorem bmap_All_c4_c1.eq (j1 : Int) (num1 : Int) (cap1 : Option Addr) (cap2 : Option Addr) (K : Value → Heap → Prop) (h : Heap) : fnX (cx bmap_All_c4_c1.lo bmap_All_c4_c1.od) Tryz.f89 (Tryz.f89.body.getD .skip) [.int .i64 j1, .int .i64 num1, .pointer cap1, .pointer cap2] K h = bmap_All_c4_c1 j1 num1 cap1 cap2 K h := by kernel_rfl
theorem bmap_All_c4_c1.chk : fnOk (cx bmap_All_c4_c1.lo bmap_All_c4_c1.od) Tryz.f89 (Tryz.f89.body.getD .skip) 4 = true := by kernel_rfl
theorem bmap_All_c4_c1.ok {j1 : Int} {num1 : Int} {cap1 : Option Addr} {cap2 : Option Addr} {K : Value → Heap → Prop} {h : Heap} (hx : bmap_All_c4_c1 j1 num1 cap1 cap2 K h) : C.bmap_All_c4_c1 j1 num1 cap1 cap2 h K :=
  fn_to (cxOk _ _) Tryz.func89 (by kernel_rfl) bmap_All_c4_c1.chk (by rw [bmap_All_c4_c1.eq]; exact hx)
def maps_Keys_map_int_byte_int_byte (m1 : Option Nat) (K : Value → Heap → Prop) (h1 : Heap) : Prop :=
  New [.map m1] 137 h1 fun h2 =>
  K (.func (.func 143) #[] ⟨[.pointer (some ⟨h1.size, 0, none⟩)]⟩) h2
def maps_Keys_map_int_byte_int_byte.lo : Nat → List Nat × List (Nat × Ty) := fun n => match n with | _ => ([], [])
def maps_Keys_map_int_byte_int_byte.od : Nat → Od := fun n => match n with | _ => .nil
theorem maps_Keys_map_int_byte_int_byte.eq (m1 : Option Nat) (K : Value → Heap → Prop) (h : Heap) : fnX (cx maps_Keys_map_int_byte_int_byte.lo maps_Keys_map_int_byte_int_byte.od) Tryz.f96 (Tryz.f96.body.getD .skip) [.map m1] K h = maps_Keys_map_int_byte_int_byte m1 K h := by kernel_rfl
theorem maps_Keys_map_int_byte_int_byte.chk : fnOk (cx maps_Keys_map_int_byte_int_byte.lo maps_Keys_map_int_byte_int_byte.od) Tryz.f96 (Tryz.f96.body.getD .skip) 1 = true := by kernel_rfl
theorem maps_Keys_map_int_byte_int_byte.ok {m1 : Option Nat} {K : Value → Heap → Prop} {h : Heap} (hx : maps_Keys_map_int_byte_int_byte m1 K h) : C.maps_Keys_map_int_byte_int_byte m1 h K :=
  fn_to (cxOk _ _) Tryz.func96 (by kernel_rfl) maps_Keys_map_int_byte_int_byte.chk (by rw [maps_Keys_map_int_byte_int_byte.eq]; exact hx)
def adisk_Disk_Blocks (d1 : Option Addr) (K : Value → Heap → Prop) (h1 : Heap) : Prop :=
  onSome d1 fun p1 =>
  ∃ (sA1 : Option Addr) (sL1 : Nat) (sC1 : Nat), cellOf h1 (Addr.add p1 0) = some (.slice sA1 sL1 sC1) ∧
  K (.int .i64 (sL1 : Int)) h1
def adisk_Disk_Blocks.lo : Nat → List Nat × List (Nat × Ty) := fun n => match n with | _ => ([], [])
def adisk_Disk_Blocks.od : Nat → Od := fun n => match n with | _ => .nil
theorem adisk_Disk_Blocks.eq (d1 : Option Addr) (K : Value → Heap → Prop) (h : Heap) : fnX (cx adisk_Disk_Blocks.lo adisk_Disk_Blocks.od) Tryz.f97 (Tryz.f97.body.getD .skip) [.pointer d1] K h = adisk_Disk_Blocks d1 K h := by kernel_rfl
theorem adisk_Disk_Blocks.chk : fnOk (cx adisk_Disk_Blocks.lo adisk_Disk_Blocks.od) Tryz.f97 (Tryz.f97.body.getD .skip) 1 = true := by kernel_rfl
theorem adisk_Disk_Blocks.ok {d1 : Option Addr} {K : Value → Heap → Prop} {h : Heap} (hx : adisk_Disk_Blocks d1 K h) : C.adisk_Disk_Blocks d1 h K :=
  fn_to (cxOk _ _) Tryz.func97 (by kernel_rfl) adisk_Disk_Blocks.chk (by rw [adisk_Disk_Blocks.eq]; exact hx)
end Go.Proofs.YtcdpakjhjmchhaaGreatDoor.W
namespace Go.Proofs.YtcdpakjhjmchhaaGreatDoor.W
open Go Go.Proofs Go.Proofs.YtcdpakjhjmchhaaGreatDoor.Wx
def slices_Clone_byte_byte (sA1 : Option Addr) (sL1 : Nat) (sC1 : Nat) (K : Value → Heap → Prop) (h1 : Heap) : Prop :=
  bif (Option.isNone sA1) then (
  K (.slice none 0 0) h1) else (
  New [] 5 h1 fun h2 =>
  ∃ new1 : List Value, List.length new1 = sL1 * 1 ∧ SlCells h2 sA1 new1 ∧ (∀ v ∈ new1, v.oneCell' = true) ∧
  AppendP ti5 5 (some ⟨h1.size, 0, none⟩) 0 0 sL1 new1 h2 fun sA2 sL2 sC2 h3 =>
  K (.slice sA2 sL2 sC2) h3)
def slices_Clone_byte_byte.lo : Nat → List Nat × List (Nat × Ty) := fun n => match n with | _ => ([], [])
def slices_Clone_byte_byte.od : Nat → Od := fun n => match n with | _ => .nil
theorem slices_Clone_byte_byte.eq (sA1 : Option Addr) (sL1 : Nat) (sC1 : Nat) (K : Value → Heap → Prop) (h : Heap) : fnX (cx slices_Clone_byte_byte.lo slices_Clone_byte_byte.od) Tryz.f98 (Tryz.f98.body.getD .skip) [.slice sA1 sL1 sC1] K h = slices_Clone_byte_byte sA1 sL1 sC1 K h := by kernel_rfl
theorem slices_Clone_byte_byte.chk : fnOk (cx slices_Clone_byte_byte.lo slices_Clone_byte_byte.od) Tryz.f98 (Tryz.f98.body.getD .skip) 1 = true := by kernel_rfl
theorem slices_Clone_byte_byte.ok {sA1 : Option Addr} {sL1 : Nat} {sC1 : Nat} {K : Value → Heap → Prop} {h : Heap} (hx : slices_Clone_byte_byte sA1 sL1 sC1 K h) : C.slices_Clone_byte_byte sA1 sL1 sC1 h K :=
  fn_to (cxOk _ _) Tryz.func98 (by kernel_rfl) slices_Clone_byte_byte.chk (by rw [slices_Clone_byte_byte.eq]; exact hx)
def adisk_Disk_Read (d1 : Option Addr) (i1 : Int) (K : Value → Heap → Prop) (h1 : Heap) : Prop :=
  onSome d1 fun p1 =>
  ∃ (b1 : Bool), cellOf h1 (Addr.add p1 4) = some (.bool b1) ∧
  bif b1 then (
  K (.tuple #[.slice none 0 0, .int .i64 30]) h1) else (
  C.adisk_Disk_has d1 i1 h1 fun r1 h2 =>
  ∃ (b2 : Bool), r1 = .bool b2 ∧
  bif (!b2) then (
  K (.tuple #[.slice none 0 0, .int .i64 31]) h2) else (
  onSome d1 fun p2 =>
  ∃ (sA1 : Option Addr) (sL1 : Nat) (sC1 : Nat), cellOf h2 (Addr.add p2 0) = some (.slice sA1 sL1 sC1) ∧
  (0 ≤ i1 ∧ i1 < (sL1 : Int)) ∧
  onSome sA1 fun p3 =>
  ∃ cs1 : List Value, List.length cs1 = 512 ∧ Cells h2 (Addr.add p3 ((Int.toNat i1) * 512)) cs1 ∧
  NewRow z194 194 cs1 512 h2 fun h4 =>
  onSome d1 fun p4 =>
  ∃ (sA2 : Option Addr) (sL2 : Nat) (sC2 : Nat), cellOf h4 (Addr.add p4 1) = some (.slice sA2 sL2 sC2) ∧
  ∃ (I1 : Int → Heap → Prop) (M1 : Int → Heap → Nat), I1 0 h4 ∧
  ∀ (n1 : Int), ∀ h5 : Heap, I1 n1 h5 →
  bif (decide (n1 < (sL2 : Int))) then (
  (0 ≤ n1 ∧ n1 < (sL2 : Int)) ∧
  onSome sA2 fun p5 =>
  ∃ cs2 : List Value, List.length cs2 = 513 ∧ Cells h5 (Addr.add p5 ((Int.toNat n1) * 513)) cs2 ∧
  NewRow z230 230 cs2 513 h5 fun h7 =>
  ∃ (n2 : Int), cellOf h7 (Addr.add ⟨h5.size, 0, none⟩ 0) = some (.int .i64 n2) ∧
  bif (n2 == i1) then (
  ∃ cs3 : List Value, List.length cs3 = 512 ∧ Cells h7 (Addr.add ⟨h5.size, 0, none⟩ 1) cs3 ∧
  PutRow ⟨h2.size, 0, none⟩ cs3 512 h7 fun h8 =>
  I1 (IntKind.wrap .i64 (n1 + 1)) h8 ∧ M1 (IntKind.wrap .i64 (n1 + 1)) h8 < M1 n1 h5) else (
  I1 (IntKind.wrap .i64 (n1 + 1)) h7 ∧ M1 (IntKind.wrap .i64 (n1 + 1)) h7 < M1 n1 h5)) else (
  K (.tuple #[.slice (some ⟨h2.size, 0, none⟩) 512 512, .int .i64 0]) h5)))
def adisk_Disk_Read.lo : Nat → List Nat × List (Nat × Ty) := fun n => match n with | 7 => ([1, 6, 29, 30], [(31, .int .i64)]) | _ => ([], [])
def adisk_Disk_Read.od : Nat → Od := fun n => match n with | _ => .nil
theorem adisk_Disk_Read.eq (d1 : Option Addr) (i1 : Int) (K : Value → Heap → Prop) (h : Heap) : fnX (cx adisk_Disk_Read.lo adisk_Disk_Read.od) Tryz.f99 (Tryz.f99.body.getD .skip) [.pointer d1, .int .i64 i1] K h = adisk_Disk_Read d1 i1 K h := by kernel_rfl
theorem adisk_Disk_Read.chk : fnOk (cx adisk_Disk_Read.lo adisk_Disk_Read.od) Tryz.f99 (Tryz.f99.body.getD .skip) 2 = true := by kernel_rfl
theorem adisk_Disk_Read.ok {d1 : Option Addr} {i1 : Int} {K : Value → Heap → Prop} {h : Heap} (hx : adisk_Disk_Read d1 i1 K h) : C.adisk_Disk_Read d1 i1 h K :=
  fn_to (cxOk _ _) Tryz.func99 (by kernel_rfl) adisk_Disk_Read.chk (by rw [adisk_Disk_Read.eq]; exact hx)
def space_bit (t1 : Option Addr) (g1 : List Value) (i1 : Int) (K : Value → Heap → Prop) (h1 : Heap) : Prop :=
  New g1 25 h1 fun h2 =>
  ∃ cs1 : List Value, List.length cs1 = 5 ∧ Cells h2 ⟨h1.size, 0, none⟩ cs1 ∧
  C.geo_Bit cs1 i1 h2 fun r1 h3 =>
  ∃ (n1 : Int) (n2 : Int) (n3 : Int), r1 = .tuple #[.int .i64 n1, .int .i64 n2, .int .i64 n3] ∧
  bif (n3 != 0) then (
  K (.tuple #[.int .i64 0, .slice none 0 0, .int .i64 0, .int .i64 n3]) h3) else (
  C.txn_Txn_Read t1 n1 h3 fun r2 h4 =>
  ∃ (sA1 : Option Addr) (sL1 : Nat) (sC1 : Nat) (n4 : Int), r2 = .tuple #[.slice sA1 sL1 sC1, .int .i64 n4] ∧
  K (.tuple #[.int .i64 n1, .slice sA1 sL1 sC1, .int .i64 n2, .int .i64 n4]) h4)
def space_bit.lo : Nat → List Nat × List (Nat × Ty) := fun n => match n with | _ => ([], [])
def space_bit.od : Nat → Od := fun n => match n with | _ => .nil
theorem space_bit.eq (t1 : Option Addr) (g1 : List Value) (i1 : Int) (K : Value → Heap → Prop) (h : Heap) : fnX (cx space_bit.lo space_bit.od) Tryz.f100 (Tryz.f100.body.getD .skip) [.pointer t1, .agg ⟨g1⟩, .int .i64 i1] K h = space_bit t1 g1 i1 K h := by kernel_rfl
theorem space_bit.chk : fnOk (cx space_bit.lo space_bit.od) Tryz.f100 (Tryz.f100.body.getD .skip) 3 = true := by kernel_rfl
theorem space_bit.ok {t1 : Option Addr} {g1 : List Value} {i1 : Int} {K : Value → Heap → Prop} {h : Heap} (hx : space_bit t1 g1 i1 K h) : C.space_bit t1 g1 i1 h K :=
  fn_to (cxOk _ _) Tryz.func100 (by kernel_rfl) space_bit.chk (by rw [space_bit.eq]; exact hx)
def bits_Get (bA1 : Option Addr) (bL1 : Nat) (bC1 : Nat) (i1 : Int) (K : Value → Heap → Prop) (h1 : Heap) : Prop :=
  C.bits_has bA1 bL1 bC1 i1 h1 fun r1 h2 =>
  ∃ (b1 : Bool), r1 = .bool b1 ∧
  bif (!b1) then (
  K (.tuple #[.bool false, .int .i64 80]) h2) else (
  C.bits_on bA1 bL1 bC1 i1 h2 fun r2 h3 =>
  ∃ (b2 : Bool), r2 = .bool b2 ∧
  K (.tuple #[.bool b2, .int .i64 0]) h3)
def bits_Get.lo : Nat → List Nat × List (Nat × Ty) := fun n => match n with | _ => ([], [])
def bits_Get.od : Nat → Od := fun n => match n with | _ => .nil
theorem bits_Get.eq (bA1 : Option Addr) (bL1 : Nat) (bC1 : Nat) (i1 : Int) (K : Value → Heap → Prop) (h : Heap) : fnX (cx bits_Get.lo bits_Get.od) Tryz.f101 (Tryz.f101.body.getD .skip) [.slice bA1 bL1 bC1, .int .i64 i1] K h = bits_Get bA1 bL1 bC1 i1 K h := by kernel_rfl
theorem bits_Get.chk : fnOk (cx bits_Get.lo bits_Get.od) Tryz.f101 (Tryz.f101.body.getD .skip) 2 = true := by kernel_rfl
theorem bits_Get.ok {bA1 : Option Addr} {bL1 : Nat} {bC1 : Nat} {i1 : Int} {K : Value → Heap → Prop} {h : Heap} (hx : bits_Get bA1 bL1 bC1 i1 K h) : C.bits_Get bA1 bL1 bC1 i1 h K :=
  fn_to (cxOk _ _) Tryz.func101 (by kernel_rfl) bits_Get.chk (by rw [bits_Get.eq]; exact hx)
def boleref11_Encode (x1 : List Value) (K : Value → Heap → Prop) (h1 : Heap) : Prop :=
  New x1 44 h1 fun h2 =>
  ∃ cs1 : List Value, List.length cs1 = 15 ∧ Cells h2 ⟨h1.size, 0, none⟩ cs1 ∧
  C.boleref11_May cs1 h2 fun r1 h3 =>
  ∃ (b1 : Bool), r1 = .bool b1 ∧
  bif (!b1) then (
  K (.tuple #[.slice none 0 0, .int .i64 111]) h3) else (
  ∃ cs2 : List Value, List.length cs2 = 15 ∧ Cells h3 ⟨h1.size, 0, none⟩ cs2 ∧
  C.boleref11_laid cs2 h3 fun r2 h4 =>
  ∃ (sA1 : Option Addr) (sL1 : Nat) (sC1 : Nat), r2 = .slice sA1 sL1 sC1 ∧
  K (.tuple #[.slice sA1 sL1 sC1, .int .i64 0]) h4)
def boleref11_Encode.lo : Nat → List Nat × List (Nat × Ty) := fun n => match n with | _ => ([], [])
def boleref11_Encode.od : Nat → Od := fun n => match n with | _ => .nil
theorem boleref11_Encode.eq (x1 : List Value) (K : Value → Heap → Prop) (h : Heap) : fnX (cx boleref11_Encode.lo boleref11_Encode.od) Tryz.f104 (Tryz.f104.body.getD .skip) [.agg ⟨x1⟩] K h = boleref11_Encode x1 K h := by kernel_rfl
theorem boleref11_Encode.chk : fnOk (cx boleref11_Encode.lo boleref11_Encode.od) Tryz.f104 (Tryz.f104.body.getD .skip) 1 = true := by kernel_rfl
theorem boleref11_Encode.ok {x1 : List Value} {K : Value → Heap → Prop} {h : Heap} (hx : boleref11_Encode x1 K h) : C.boleref11_Encode x1 h K :=
  fn_to (cxOk _ _) Tryz.func104 (by kernel_rfl) boleref11_Encode.chk (by rw [boleref11_Encode.eq]; exact hx)
def adisk_New (n1 : Int) (K : Value → Heap → Prop) (h1 : Heap) : Prop :=
  bif (decide (n1 < 1)) then (
  K (.tuple #[.pointer none, .int .i64 32]) h1) else (
  bif (decide (n1 > 16384)) then (
  K (.tuple #[.pointer none, .int .i64 32]) h1) else (
  (0 ≤ n1 ∧ n1 ≤ n1 ∧ (512 : Int) * n1 ≤ 281474976710656 ∧ n1 ≤ 281474976710656) ∧
  New (repCells z194 (Int.toNat n1)) 194 h1 fun h2 =>
  New [.slice (some ⟨h1.size, 0, none⟩) (Int.toNat n1) (Int.toNat n1), .slice none 0 0, .int .i64 0, .slice none 0 0, .bool false, .int .i64 0, .int .i64 0, .slice none 0 0] 192 h2 fun h3 =>
  K (.tuple #[.pointer (some ⟨h2.size, 0, none⟩), .int .i64 0]) h3))
def adisk_New.lo : Nat → List Nat × List (Nat × Ty) := fun n => match n with | _ => ([], [])
def adisk_New.od : Nat → Od := fun n => match n with | _ => .nil
set_option maxRecDepth 1000000 in
theorem adisk_New.eq (n1 : Int) (K : Value → Heap → Prop) (h : Heap) : fnX (cx adisk_New.lo adisk_New.od) Tryz.f105 (Tryz.f105.body.getD .skip) [.int .i64 n1] K h = adisk_New n1 K h := by kernel_rfl
theorem adisk_New.chk : fnOk (cx adisk_New.lo adisk_New.od) Tryz.f105 (Tryz.f105.body.getD .skip) 1 = true := by kernel_rfl
set_option maxRecDepth 1000000 in
theorem adisk_New.ok {n1 : Int} {K : Value → Heap → Prop} {h : Heap} (hx : adisk_New n1 K h) : C.adisk_New n1 h K :=
  fn_to (cxOk _ _) Tryz.func105 (by kernel_rfl) adisk_New.chk (by rw [adisk_New.eq]; exact hx)
def txn_Txn_end (t1 : Option Addr) (K : Value → Heap → Prop) (h1 : Heap) : Prop :=
  onSome t1 fun p1 =>
  Put (Addr.add p1 1) (.map none) h1 fun h2 =>
  onSome t1 fun p2 =>
  Put (Addr.add p2 2) (.slice none 0 0) h2 fun h3 =>
  onSome t1 fun p3 =>
  Put (Addr.add p3 3) (.bool true) h3 fun h4 =>
  K (.tuple #[]) h4
def txn_Txn_end.lo : Nat → List Nat × List (Nat × Ty) := fun n => match n with | _ => ([], [])
def txn_Txn_end.od : Nat → Od := fun n => match n with | _ => .nil
theorem txn_Txn_end.eq (t1 : Option Addr) (K : Value → Heap → Prop) (h : Heap) : fnX (cx txn_Txn_end.lo txn_Txn_end.od) Tryz.f106 (Tryz.f106.body.getD .skip) [.pointer t1] K h = txn_Txn_end t1 K h := by kernel_rfl
theorem txn_Txn_end.chk : fnOk (cx txn_Txn_end.lo txn_Txn_end.od) Tryz.f106 (Tryz.f106.body.getD .skip) 1 = true := by kernel_rfl
theorem txn_Txn_end.ok {t1 : Option Addr} {K : Value → Heap → Prop} {h : Heap} (hx : txn_Txn_end t1 K h) : C.txn_Txn_end t1 h K :=
  fn_to (cxOk _ _) Tryz.func106 (by kernel_rfl) txn_Txn_end.chk (by rw [txn_Txn_end.eq]; exact hx)
def bits_Runs (bA1 : Option Addr) (bL1 : Nat) (bC1 : Nat) (K : Value → Heap → Prop) (h1 : Heap) : Prop :=
  New [] 5 h1 fun h2 =>
  ∃ new1 : List Value, List.length new1 = bL1 * 1 ∧ SlCells h2 bA1 new1 ∧ (∀ v ∈ new1, v.oneCell' = true) ∧
  AppendP ti5 5 (some ⟨h1.size, 0, none⟩) 0 0 bL1 new1 h2 fun sA1 sL1 sC1 h3 =>
  New z33 33 h3 fun h4 =>
  Put ⟨h3.size, 0, none⟩ (.slice sA1 sL1 sC1) h4 fun h5 =>
  K (.func (.func 150) #[] ⟨[.pointer (some ⟨h3.size, 0, none⟩)]⟩) h5
def bits_Runs.lo : Nat → List Nat × List (Nat × Ty) := fun n => match n with | _ => ([], [])
def bits_Runs.od : Nat → Od := fun n => match n with | _ => .nil
theorem bits_Runs.eq (bA1 : Option Addr) (bL1 : Nat) (bC1 : Nat) (K : Value → Heap → Prop) (h : Heap) : fnX (cx bits_Runs.lo bits_Runs.od) Tryz.f107 (Tryz.f107.body.getD .skip) [.slice bA1 bL1 bC1] K h = bits_Runs bA1 bL1 bC1 K h := by kernel_rfl
theorem bits_Runs.chk : fnOk (cx bits_Runs.lo bits_Runs.od) Tryz.f107 (Tryz.f107.body.getD .skip) 1 = true := by kernel_rfl
theorem bits_Runs.ok {bA1 : Option Addr} {bL1 : Nat} {bC1 : Nat} {K : Value → Heap → Prop} {h : Heap} (hx : bits_Runs bA1 bL1 bC1 K h) : C.bits_Runs bA1 bL1 bC1 h K :=
  fn_to (cxOk _ _) Tryz.func107 (by kernel_rfl) bits_Runs.chk (by rw [bits_Runs.eq]; exact hx)
def inode_Get (t1 : Option Addr) (g1 : List Value) (n1 : Int) (K : Value → Heap → Prop) (h1 : Heap) : Prop :=
  New g1 25 h1 fun h2 =>
  New z44 44 h2 fun h3 =>
  ∃ cs1 : List Value, List.length cs1 = 5 ∧ Cells h3 ⟨h1.size, 0, none⟩ cs1 ∧
  C.inode_isInode cs1 n1 h3 fun r1 h4 =>
  ∃ (b1 : Bool), r1 = .bool b1 ∧
  bif (!b1) then (
  PutRow ⟨h2.size, 0, none⟩ [.int .i64 0, .int .i64 0, .int .i64 0, .int .i64 0, .int .i64 0, .int .i64 0, .int .i64 0, .int .i64 0, .int .i64 0, .int .i64 0, .int .i64 0, .int .i64 0, .int .i64 0, .int .i64 0, .int .i64 0] 15 h4 fun h5 =>
  ∃ res1 : List Value, List.length res1 = 15 ∧ Cells h5 ⟨h2.size, 0, none⟩ res1 ∧
  K (.tuple #[.agg ⟨res1⟩, .int .i64 110]) h5) else (
  ∃ cs2 : List Value, List.length cs2 = 5 ∧ Cells h4 ⟨h1.size, 0, none⟩ cs2 ∧
  C.inode_place t1 cs2 n1 h4 fun r2 h6 =>
  ∃ (n2 : Int) (sA1 : Option Addr) (sL1 : Nat) (sC1 : Nat) (n3 : Int) (n4 : Int), r2 = .tuple #[.int .i64 n2, .slice sA1 sL1 sC1, .int .i64 n3, .int .i64 n4] ∧
  bif (n4 != 0) then (
  PutRow ⟨h2.size, 0, none⟩ [.int .i64 0, .int .i64 0, .int .i64 0, .int .i64 0, .int .i64 0, .int .i64 0, .int .i64 0, .int .i64 0, .int .i64 0, .int .i64 0, .int .i64 0, .int .i64 0, .int .i64 0, .int .i64 0, .int .i64 0] 15 h6 fun h7 =>
  ∃ res2 : List Value, List.length res2 = 15 ∧ Cells h7 ⟨h2.size, 0, none⟩ res2 ∧
  K (.tuple #[.agg ⟨res2⟩, .int .i64 n4]) h7) else (
  (0 ≤ n3 ∧ n3 ≤ (IntKind.wrap .i64 (n3 + 64)) ∧ (IntKind.wrap .i64 (n3 + 64)) ≤ (sC1 : Int)) ∧
  C.inode_Decode (if sC1 = (Int.toNat n3) then sA1 else Option.map (Addr.add · (Int.toNat n3)) sA1) ((Int.toNat (IntKind.wrap .i64 (n3 + 64))) - (Int.toNat n3)) (sC1 - (Int.toNat n3)) h6 fun r3 h8 =>
  ∃ (cs3 : List Value) (n5 : Int), r3 = .tuple #[.agg ⟨cs3⟩, .int .i64 n5] ∧
  PutRow ⟨h2.size, 0, none⟩ cs3 15 h8 fun h9 =>
  ∃ res3 : List Value, List.length res3 = 15 ∧ Cells h9 ⟨h2.size, 0, none⟩ res3 ∧
  K (.tuple #[.agg ⟨res3⟩, .int .i64 n5]) h9))
def inode_Get.lo : Nat → List Nat × List (Nat × Ty) := fun n => match n with | _ => ([], [])
def inode_Get.od : Nat → Od := fun n => match n with | _ => .nil
theorem inode_Get.eq (t1 : Option Addr) (g1 : List Value) (n1 : Int) (K : Value → Heap → Prop) (h : Heap) : fnX (cx inode_Get.lo inode_Get.od) Tryz.f108 (Tryz.f108.body.getD .skip) [.pointer t1, .agg ⟨g1⟩, .int .i64 n1] K h = inode_Get t1 g1 n1 K h := by kernel_rfl
theorem inode_Get.chk : fnOk (cx inode_Get.lo inode_Get.od) Tryz.f108 (Tryz.f108.body.getD .skip) 3 = true := by kernel_rfl
theorem inode_Get.ok {t1 : Option Addr} {g1 : List Value} {n1 : Int} {K : Value → Heap → Prop} {h : Heap} (hx : inode_Get t1 g1 n1 K h) : C.inode_Get t1 g1 n1 h K :=
  fn_to (cxOk _ _) Tryz.func108 (by kernel_rfl) inode_Get.chk (by rw [inode_Get.eq]; exact hx)
def file_undo_c1 (cap1 : Option Addr) (cap2 : Option Addr) (cap3 : Option Addr) (K : Value → Heap → Prop) (h1 : Heap) : Prop :=
  onSome cap1 fun p1 =>
  ∃ (q1 : Option Addr), cellOf h1 p1 = some (.pointer q1) ∧
  onSome q1 fun p2 =>
  ∃ (n1 : Int), cellOf h1 p2 = some (.int .i64 n1) ∧
  bif (n1 != 0) then (
  onSome cap2 fun p3 =>
  ∃ (q2 : Option Addr), cellOf h1 p3 = some (.pointer q2) ∧
  onSome cap3 fun p4 =>
  ∃ (n2 : Int), cellOf h1 p4 = some (.int .i64 n2) ∧
  C.txn_Txn_Back q2 n2 h1 fun r1 h2 =>
  ∃ (n3 : Int), r1 = .int .i64 n3 ∧
  K (.tuple #[]) h2) else (
  K (.tuple #[]) h1)
def file_undo_c1.lo : Nat → List Nat × List (Nat × Ty) := fun n => match n with | _ => ([], [])
def file_undo_c1.od : Nat → Od := fun n => match n with | _ => .nil
theorem file_undo_c1.eq (cap1 : Option Addr) (cap2 : Option Addr) (cap3 : Option Addr) (K : Value → Heap → Prop) (h : Heap) : fnX (cx file_undo_c1.lo file_undo_c1.od) Tryz.f109 (Tryz.f109.body.getD .skip) [.pointer cap1, .pointer cap2, .pointer cap3] K h = file_undo_c1 cap1 cap2 cap3 K h := by kernel_rfl
def file_parts_c1 (yield1 : Value) (cap1 : Option Addr) (cap2 : Option Addr) (K : Value → Heap → Prop) (h1 : Heap) : Prop :=
  ∃ (I1 : Int → Heap → Prop) (M1 : Int → Heap → Nat), I1 0 h1 ∧
  ∀ (at1 : Int), ∀ h2 : Heap, I1 at1 h2 →
  onSome cap1 fun p1 =>
  ∃ (n1 : Int), cellOf h2 p1 = some (.int .i64 n1) ∧
  bif (decide (at1 < n1)) then (
  onSome cap2 fun p2 =>
  ∃ (n2 : Int), cellOf h2 p2 = some (.int .i64 n2) ∧
  onSome cap2 fun p3 =>
  ∃ (n3 : Int), cellOf h2 p3 = some (.int .i64 n3) ∧
  NewRow z118 118 [.int .i64 (IntKind.wrap .i64 (Int.tdiv (IntKind.wrap .i64 (n2 + at1)) 512)), .int .i64 (Int.tmod (IntKind.wrap .i64 (n3 + at1)) 512), .int .i64 0, .int .i64 at1] 4 h2 fun h4 =>
  ∃ (n4 : Int), cellOf h4 (Addr.add ⟨h2.size, 0, none⟩ 1) = some (.int .i64 n4) ∧
  onSome cap1 fun p4 =>
  ∃ (n5 : Int), cellOf h4 p4 = some (.int .i64 n5) ∧
  Put (Addr.add ⟨h2.size, 0, none⟩ 2) (.int .i64 (if (IntKind.wrap .i64 ((IntKind.wrap .i64 (n4 + n5)) - at1)) < 512 then (IntKind.wrap .i64 ((IntKind.wrap .i64 (n4 + n5)) - at1)) else 512)) h4 fun h5 =>
  ∃ cs1 : List Value, List.length cs1 = 4 ∧ Cells h5 ⟨h2.size, 0, none⟩ cs1 ∧
  HCallsV Tryz.prog yield1 [.agg ⟨cs1⟩] h5 fun r1 h6 =>
  ∃ (b1 : Bool), r1 = .bool b1 ∧
  bif (!b1) then (
  K (.tuple #[]) h6) else (
  ∃ (n6 : Int), cellOf h6 (Addr.add ⟨h2.size, 0, none⟩ 2) = some (.int .i64 n6) ∧
  ∃ (n7 : Int), cellOf h6 (Addr.add ⟨h2.size, 0, none⟩ 1) = some (.int .i64 n7) ∧
  I1 (IntKind.wrap .i64 (at1 + (IntKind.wrap .i64 (n6 - n7)))) h6 ∧ M1 (IntKind.wrap .i64 (at1 + (IntKind.wrap .i64 (n6 - n7)))) h6 < M1 at1 h2)) else (
  K (.tuple #[]) h2)
def file_parts_c1.lo : Nat → List Nat × List (Nat × Ty) := fun n => match n with | 1 => ([0, 1, 2], [(4, .int .i64)]) | _ => ([], [])
def file_parts_c1.od : Nat → Od := fun n => match n with | _ => .nil
theorem file_parts_c1.eq (yield1 : Value) (cap1 : Option Addr) (cap2 : Option Addr) (K : Value → Heap → Prop) (h : Heap) : fnX (cx file_parts_c1.lo file_parts_c1.od) Tryz.f110 (Tryz.f110.body.getD .skip) [yield1, .pointer cap1, .pointer cap2] K h = file_parts_c1 yield1 cap1 cap2 K h := by kernel_rfl
theorem file_parts_c1.chk : fnOk (cx file_parts_c1.lo file_parts_c1.od) Tryz.f110 (Tryz.f110.body.getD .skip) 3 = true := by kernel_rfl
theorem file_parts_c1.ok {yield1 : Value} {cap1 : Option Addr} {cap2 : Option Addr} {K : Value → Heap → Prop} {h : Heap} (hx : file_parts_c1 yield1 cap1 cap2 K h) : C.file_parts_c1 yield1 cap1 cap2 h K :=
  fn_to (cxOk _ _) Tryz.func110 (by kernel_rfl) file_parts_c1.chk (by rw [file_parts_c1.eq]; exact hx)
def txn_Txn_Write_c1 (cap1 : Option Addr) (cap2 : Option Addr) (cap3 : Option Addr) (cap4 : Option Addr) (K : Value → Heap → Prop) (h1 : Heap) : Prop :=
  onSome cap1 fun p1 =>
  ∃ (b1 : Bool), cellOf h1 p1 = some (.bool b1) ∧
  bif b1 then (
  onSome cap3 fun p2 =>
  ∃ (q1 : Option Addr), cellOf h1 p2 = some (.pointer q1) ∧
  onSome q1 fun p3 =>
  ∃ (m1 : Option Nat), cellOf h1 (Addr.add p3 1) = some (.map m1) ∧
  onSome cap4 fun p4 =>
  ∃ (n1 : Int), cellOf h1 p4 = some (.int .i64 n1) ∧
  onSome cap2 fun p5 =>
  ∃ (sA1 : Option Addr) (sL1 : Nat) (sC1 : Nat), cellOf h1 p5 = some (.slice sA1 sL1 sC1) ∧
  onSome m1 fun r1 =>
  MapPut (.int .i64) r1 (.i n1) (.slice sA1 sL1 sC1) h1 fun h2 =>
  K (.tuple #[]) h2) else (
  onSome cap3 fun p6 =>
  ∃ (q2 : Option Addr), cellOf h1 p6 = some (.pointer q2) ∧
  onSome q2 fun p7 =>
  ∃ (m2 : Option Nat), cellOf h1 (Addr.add p7 1) = some (.map m2) ∧
  onSome cap4 fun p8 =>
  ∃ (n2 : Int), cellOf h1 p8 = some (.int .i64 n2) ∧
  MapDel (.int .i64) m2 (.i n2) h1 fun h3 =>
  K (.tuple #[]) h3)
def txn_Txn_Write_c1.lo : Nat → List Nat × List (Nat × Ty) := fun n => match n with | _ => ([], [])
def txn_Txn_Write_c1.od : Nat → Od := fun n => match n with | 1 => (.op 0 [] (.op 1 [] (.op 2 [] (.op 3 [] (.op 4 [] (.op 5 [] (.op 6 [] .nil))))))) | 2 => (.op 0 [] (.op 1 [] (.op 2 [] (.op 3 [] (.op 4 [] (.op 5 [] .nil)))))) | _ => .nil
theorem txn_Txn_Write_c1.eq (cap1 : Option Addr) (cap2 : Option Addr) (cap3 : Option Addr) (cap4 : Option Addr) (K : Value → Heap → Prop) (h : Heap) : fnX (cx txn_Txn_Write_c1.lo txn_Txn_Write_c1.od) Tryz.f111 (Tryz.f111.body.getD .skip) [.pointer cap1, .pointer cap2, .pointer cap3, .pointer cap4] K h = txn_Txn_Write_c1 cap1 cap2 cap3 cap4 K h := by kernel_rfl
theorem txn_Txn_Write_c1.chk : fnOk (cx txn_Txn_Write_c1.lo txn_Txn_Write_c1.od) Tryz.f111 (Tryz.f111.body.getD .skip) 4 = true := by kernel_rfl
theorem txn_Txn_Write_c1.ok {cap1 : Option Addr} {cap2 : Option Addr} {cap3 : Option Addr} {cap4 : Option Addr} {K : Value → Heap → Prop} {h : Heap} (hx : txn_Txn_Write_c1 cap1 cap2 cap3 cap4 K h) : C.txn_Txn_Write_c1 cap1 cap2 cap3 cap4 h K :=
  fn_to (cxOk _ _) Tryz.func111 (by kernel_rfl) txn_Txn_Write_c1.chk (by rw [txn_Txn_Write_c1.eq]; exact hx)
def inode_isInode (g1 : List Value) (n1 : Int) (K : Value → Heap → Prop) (h1 : Heap) : Prop :=
  New g1 25 h1 fun h2 =>
  ∃ (n2 : Int), cellOf h2 (Addr.add ⟨h1.size, 0, none⟩ 4) = some (.int .i64 n2) ∧
  C.inode_within n1 1 (IntKind.wrap .i64 (n2 - 1)) h2 fun r1 h3 =>
  ∃ (b1 : Bool), r1 = .bool b1 ∧
  K (.bool b1) h3
def inode_isInode.lo : Nat → List Nat × List (Nat × Ty) := fun n => match n with | _ => ([], [])
def inode_isInode.od : Nat → Od := fun n => match n with | _ => .nil
theorem inode_isInode.eq (g1 : List Value) (n1 : Int) (K : Value → Heap → Prop) (h : Heap) : fnX (cx inode_isInode.lo inode_isInode.od) Tryz.f112 (Tryz.f112.body.getD .skip) [.agg ⟨g1⟩, .int .i64 n1] K h = inode_isInode g1 n1 K h := by kernel_rfl
theorem inode_isInode.chk : fnOk (cx inode_isInode.lo inode_isInode.od) Tryz.f112 (Tryz.f112.body.getD .skip) 2 = true := by kernel_rfl
theorem inode_isInode.ok {g1 : List Value} {n1 : Int} {K : Value → Heap → Prop} {h : Heap} (hx : inode_isInode g1 n1 K h) : C.inode_isInode g1 n1 h K :=
  fn_to (cxOk _ _) Tryz.func112 (by kernel_rfl) inode_isInode.chk (by rw [inode_isInode.eq]; exact hx)
def inode_Encode (x1 : List Value) (K : Value → Heap → Prop) (h1 : Heap) : Prop :=
  New x1 44 h1 fun h2 =>
  ∃ cs1 : List Value, List.length cs1 = 15 ∧ Cells h2 ⟨h1.size, 0, none⟩ cs1 ∧
  C.inode_may cs1 h2 fun r1 h3 =>
  ∃ (b1 : Bool), r1 = .bool b1 ∧
  bif (!b1) then (
  K (.tuple #[.slice none 0 0, .int .i64 111]) h3) else (
  (0 ≤ (64 : Int) ∧ (64 : Int) ≤ 64 ∧ (1 : Int) * 64 ≤ 281474976710656 ∧ (64 : Int) ≤ 281474976710656) ∧
  New (repCells z5 (Int.toNat 64)) 5 h3 fun h4 =>
  ∃ (n1 : Int), cellOf h4 (Addr.add ⟨h1.size, 0, none⟩ 0) = some (.int .i64 n1) ∧
  C.rec_Put (some ⟨h3.size, 0, none⟩) (Int.toNat 64) (Int.toNat 64) 0 1 (IntKind.wrap .u64 (n1)) h4 fun r2 h5 =>
  ∃ (n2 : Int), r2 = .int .i64 n2 ∧
  ∃ (n3 : Int), cellOf h5 (Addr.add ⟨h1.size, 0, none⟩ 1) = some (.int .i64 n3) ∧
  C.rec_Put (some ⟨h3.size, 0, none⟩) (Int.toNat 64) (Int.toNat 64) 2 2 (IntKind.wrap .u64 (n3)) h5 fun r3 h6 =>
  ∃ (n4 : Int), r3 = .int .i64 n4 ∧
  ∃ (n5 : Int), cellOf h6 (Addr.add ⟨h1.size, 0, none⟩ 2) = some (.int .i64 n5) ∧
  C.rec_Put (some ⟨h3.size, 0, none⟩) (Int.toNat 64) (Int.toNat 64) 4 4 (IntKind.wrap .u64 (n5)) h6 fun r4 h7 =>
  ∃ (n6 : Int), r4 = .int .i64 n6 ∧
  ∃ cs2 : List Value, List.length cs2 = 15 ∧ Cells h7 ⟨h1.size, 0, none⟩ cs2 ∧
  C.inode_numbers cs2 h7 fun r5 h8 =>
  ∃ (cs3 : List Value), r5 = .agg ⟨cs3⟩ ∧
  ∃ (I1 : Int → Heap → Prop) (M1 : Int → Heap → Nat), I1 0 h8 ∧
  ∀ (n7 : Int), ∀ h9 : Heap, I1 n7 h9 →
  bif (decide (n7 < 12)) then (
  (0 ≤ n7 ∧ n7 < (12 : Int)) ∧
  ∃ (n8 : Int), cs3[(Int.toNat n7)]? = some (.int .i64 n8) ∧
  C.rec_Put (some ⟨h3.size, 0, none⟩) (Int.toNat 64) (Int.toNat 64) (IntKind.wrap .i64 (8 + (IntKind.wrap .i64 (4 * n7)))) 4 (IntKind.wrap .u64 (n8)) h9 fun r6 h10 =>
  ∃ (n9 : Int), r6 = .int .i64 n9 ∧
  I1 (IntKind.wrap .i64 (n7 + 1)) h10 ∧ M1 (IntKind.wrap .i64 (n7 + 1)) h10 < M1 n7 h9) else (
  K (.tuple #[.slice (some ⟨h3.size, 0, none⟩) (Int.toNat 64) (Int.toNat 64), .int .i64 0]) h9))
def inode_Encode.lo : Nat → List Nat × List (Nat × Ty) := fun n => match n with | 8 => ([4, 27], [(28, .int .i64)]) | _ => ([], [])
def inode_Encode.od : Nat → Od := fun n => match n with | _ => .nil
theorem inode_Encode.eq (x1 : List Value) (K : Value → Heap → Prop) (h : Heap) : fnX (cx inode_Encode.lo inode_Encode.od) Tryz.f113 (Tryz.f113.body.getD .skip) [.agg ⟨x1⟩] K h = inode_Encode x1 K h := by kernel_rfl
theorem inode_Encode.chk : fnOk (cx inode_Encode.lo inode_Encode.od) Tryz.f113 (Tryz.f113.body.getD .skip) 1 = true := by kernel_rfl
theorem inode_Encode.ok {x1 : List Value} {K : Value → Heap → Prop} {h : Heap} (hx : inode_Encode x1 K h) : C.inode_Encode x1 h K :=
  fn_to (cxOk _ _) Tryz.func113 (by kernel_rfl) inode_Encode.chk (by rw [inode_Encode.eq]; exact hx)
def inode_place (t1 : Option Addr) (g1 : List Value) (n1 : Int) (K : Value → Heap → Prop) (h1 : Heap) : Prop :=
  New g1 25 h1 fun h2 =>
  ∃ cs1 : List Value, List.length cs1 = 5 ∧ Cells h2 ⟨h1.size, 0, none⟩ cs1 ∧
  C.geo_Record cs1 n1 h2 fun r1 h3 =>
  ∃ (n2 : Int) (n3 : Int) (n4 : Int), r1 = .tuple #[.int .i64 n2, .int .i64 n3, .int .i64 n4] ∧
  bif (n4 != 0) then (
  K (.tuple #[.int .i64 0, .slice none 0 0, .int .i64 0, .int .i64 n4]) h3) else (
  C.txn_Txn_Read t1 n2 h3 fun r2 h4 =>
  ∃ (sA1 : Option Addr) (sL1 : Nat) (sC1 : Nat) (n5 : Int), r2 = .tuple #[.slice sA1 sL1 sC1, .int .i64 n5] ∧
  K (.tuple #[.int .i64 n2, .slice sA1 sL1 sC1, .int .i64 n3, .int .i64 n5]) h4)
def inode_place.lo : Nat → List Nat × List (Nat × Ty) := fun n => match n with | _ => ([], [])
def inode_place.od : Nat → Od := fun n => match n with | _ => .nil
theorem inode_place.eq (t1 : Option Addr) (g1 : List Value) (n1 : Int) (K : Value → Heap → Prop) (h : Heap) : fnX (cx inode_place.lo inode_place.od) Tryz.f114 (Tryz.f114.body.getD .skip) [.pointer t1, .agg ⟨g1⟩, .int .i64 n1] K h = inode_place t1 g1 n1 K h := by kernel_rfl
theorem inode_place.chk : fnOk (cx inode_place.lo inode_place.od) Tryz.f114 (Tryz.f114.body.getD .skip) 3 = true := by kernel_rfl
theorem inode_place.ok {t1 : Option Addr} {g1 : List Value} {n1 : Int} {K : Value → Heap → Prop} {h : Heap} (hx : inode_place t1 g1 n1 K h) : C.inode_place t1 g1 n1 h K :=
  fn_to (cxOk _ _) Tryz.func114 (by kernel_rfl) inode_place.chk (by rw [inode_place.eq]; exact hx)
def bmap_way (k1 : Int) (K : Value → Heap → Prop) (h1 : Heap) : Prop :=
  bif (decide (k1 < 10)) then (
  List.length ([.int .i64 0, .int .i64 k1] : List Value) = 2 ∧
  New [.int .i64 0, .int .i64 k1] 149 h1 fun h2 =>
  K (.slice (some ⟨h1.size, 0, none⟩) 1 1) h2) else (
  bif (decide (k1 < 138)) then (
  List.length ([.int .i64 1, .int .i64 0] : List Value) = 2 ∧
  List.length ([.int .i64 3, .int .i64 (IntKind.wrap .i64 (k1 - 10))] : List Value) = 2 ∧
  New [.int .i64 1, .int .i64 0, .int .i64 3, .int .i64 (IntKind.wrap .i64 (k1 - 10))] 149 h1 fun h3 =>
  K (.slice (some ⟨h1.size, 0, none⟩) 2 2) h3) else (
  List.length ([.int .i64 2, .int .i64 0] : List Value) = 2 ∧
  List.length ([.int .i64 3, .int .i64 (IntKind.wrap .i64 (Int.tdiv (IntKind.wrap .i64 (k1 - 138)) 128))] : List Value) = 2 ∧
  List.length ([.int .i64 3, .int .i64 (Int.tmod (IntKind.wrap .i64 (k1 - 138)) 128)] : List Value) = 2 ∧
  New [.int .i64 2, .int .i64 0, .int .i64 3, .int .i64 (IntKind.wrap .i64 (Int.tdiv (IntKind.wrap .i64 (k1 - 138)) 128)), .int .i64 3, .int .i64 (Int.tmod (IntKind.wrap .i64 (k1 - 138)) 128)] 149 h1 fun h4 =>
  K (.slice (some ⟨h1.size, 0, none⟩) 3 3) h4))
def bmap_way.lo : Nat → List Nat × List (Nat × Ty) := fun n => match n with | _ => ([], [])
def bmap_way.od : Nat → Od := fun n => match n with | _ => .nil
theorem bmap_way.eq (k1 : Int) (K : Value → Heap → Prop) (h : Heap) : fnX (cx bmap_way.lo bmap_way.od) Tryz.f118 (Tryz.f118.body.getD .skip) [.int .i64 k1] K h = bmap_way k1 K h := by kernel_rfl
theorem bmap_way.chk : fnOk (cx bmap_way.lo bmap_way.od) Tryz.f118 (Tryz.f118.body.getD .skip) 1 = true := by kernel_rfl
theorem bmap_way.ok {k1 : Int} {K : Value → Heap → Prop} {h : Heap} (hx : bmap_way k1 K h) : C.bmap_way k1 h K :=
  fn_to (cxOk _ _) Tryz.func118 (by kernel_rfl) bmap_way.chk (by rw [bmap_way.eq]; exact hx)
def bmap_file_number (f1 : Option Addr) (s1 : List Value) (at1 : Int) (K : Value → Heap → Prop) (h1 : Heap) : Prop :=
  New s1 149 h1 fun h2 =>
  ∃ (n1 : Int), cellOf h2 (Addr.add ⟨h1.size, 0, none⟩ 0) = some (.int .i64 n1) ∧
  bif (n1 != 3) then (
  ∃ cs1 : List Value, List.length cs1 = 2 ∧ Cells h2 ⟨h1.size, 0, none⟩ cs1 ∧
  C.bmap_file_own f1 cs1 h2 fun r1 h3 =>
  ∃ (q1 : Option Addr), r1 = .pointer q1 ∧
  onSome q1 fun p1 =>
  ∃ (n2 : Int), cellOf h3 p1 = some (.int .i64 n2) ∧
  K (.tuple #[.int .i64 n2, .slice none 0 0, .int .i64 0]) h3) else (
  onSome f1 fun p2 =>
  ∃ (q2 : Option Addr), cellOf h2 (Addr.add p2 0) = some (.pointer q2) ∧
  C.txn_Txn_Read q2 at1 h2 fun r2 h4 =>
  ∃ (sA1 : Option Addr) (sL1 : Nat) (sC1 : Nat) (n3 : Int), r2 = .tuple #[.slice sA1 sL1 sC1, .int .i64 n3] ∧
  bif (n3 != 0) then (
  K (.tuple #[.int .i64 0, .slice none 0 0, .int .i64 n3]) h4) else (
  ∃ (n4 : Int), cellOf h4 (Addr.add ⟨h1.size, 0, none⟩ 1) = some (.int .i64 n4) ∧
  C.rec_Get sA1 sL1 sC1 (IntKind.wrap .i64 (4 * n4)) 4 h4 fun r3 h5 =>
  ∃ (n5 : Int) (n6 : Int), r3 = .tuple #[.int .u64 n5, .int .i64 n6] ∧
  K (.tuple #[.int .i64 (IntKind.wrap .i64 (n5)), .slice sA1 sL1 sC1, .int .i64 0]) h5))
def bmap_file_number.lo : Nat → List Nat × List (Nat × Ty) := fun n => match n with | _ => ([], [])
def bmap_file_number.od : Nat → Od := fun n => match n with | _ => .nil
theorem bmap_file_number.eq (f1 : Option Addr) (s1 : List Value) (at1 : Int) (K : Value → Heap → Prop) (h : Heap) : fnX (cx bmap_file_number.lo bmap_file_number.od) Tryz.f119 (Tryz.f119.body.getD .skip) [.pointer f1, .agg ⟨s1⟩, .int .i64 at1] K h = bmap_file_number f1 s1 at1 K h := by kernel_rfl
theorem bmap_file_number.chk : fnOk (cx bmap_file_number.lo bmap_file_number.od) Tryz.f119 (Tryz.f119.body.getD .skip) 3 = true := by kernel_rfl
theorem bmap_file_number.ok {f1 : Option Addr} {s1 : List Value} {at1 : Int} {K : Value → Heap → Prop} {h : Heap} (hx : bmap_file_number f1 s1 at1 K h) : C.bmap_file_number f1 s1 at1 h K :=
  fn_to (cxOk _ _) Tryz.func119 (by kernel_rfl) bmap_file_number.chk (by rw [bmap_file_number.eq]; exact hx)
def bmap_guard_c1 (e1 : Int) (cap1 : Option Addr) (cap2 : Option Addr) (cap3 : Option Addr) (K : Value → Heap → Prop) (h1 : Heap) : Prop :=
  bif (e1 != 0) then (
  onSome cap1 fun p1 =>
  ∃ (n1 : Int), cellOf h1 p1 = some (.int .i64 n1) ∧
  bif (n1 == 0) then (
  onSome cap2 fun p2 =>
  ∃ (q1 : Option Addr), cellOf h1 p2 = some (.pointer q1) ∧
  onSome cap3 fun p3 =>
  ∃ (n2 : Int), cellOf h1 p3 = some (.int .i64 n2) ∧
  C.txn_Txn_Back q1 n2 h1 fun r1 h2 =>
  ∃ (n3 : Int), r1 = .int .i64 n3 ∧
  K (.tuple #[]) h2) else (
  K (.tuple #[]) h1)) else (
  K (.tuple #[]) h1)
def bmap_guard_c1.lo : Nat → List Nat × List (Nat × Ty) := fun n => match n with | _ => ([], [])
def bmap_guard_c1.od : Nat → Od := fun n => match n with | _ => .nil
theorem bmap_guard_c1.eq (e1 : Int) (cap1 : Option Addr) (cap2 : Option Addr) (cap3 : Option Addr) (K : Value → Heap → Prop) (h : Heap) : fnX (cx bmap_guard_c1.lo bmap_guard_c1.od) Tryz.f121 (Tryz.f121.body.getD .skip) [.int .i64 e1, .pointer cap1, .pointer cap2, .pointer cap3] K h = bmap_guard_c1 e1 cap1 cap2 cap3 K h := by kernel_rfl
theorem bmap_guard_c1.chk : fnOk (cx bmap_guard_c1.lo bmap_guard_c1.od) Tryz.f121 (Tryz.f121.body.getD .skip) 4 = true := by kernel_rfl
theorem bmap_guard_c1.ok {e1 : Int} {cap1 : Option Addr} {cap2 : Option Addr} {cap3 : Option Addr} {K : Value → Heap → Prop} {h : Heap} (hx : bmap_guard_c1 e1 cap1 cap2 cap3 K h) : C.bmap_guard_c1 e1 cap1 cap2 cap3 h K :=
  fn_to (cxOk _ _) Tryz.func121 (by kernel_rfl) bmap_guard_c1.chk (by rw [bmap_guard_c1.eq]; exact hx)
def space_Take_c1 (first1 : Int) (bA1 : Option Addr) (bL1 : Nat) (bC1 : Nat) (cap1 : Option Addr) (cap2 : Option Addr) (K : Value → Heap → Prop) (h1 : Heap) : Prop :=
  onSome cap1 fun p1 =>
  ∃ cs1 : List Value, List.length cs1 = 5 ∧ Cells h1 p1 cs1 ∧
  C.space_rows cs1 first1 bA1 bL1 bC1 (Value.func (.func 123) #[] ⟨[.pointer cap2]⟩) h1 fun r1 h2 =>
  r1 = .tuple #[] ∧
  onSome cap2 fun p2 =>
  ∃ (n1 : Int), cellOf h2 p2 = some (.int .i64 n1) ∧
  K (.bool (n1 == 0)) h2
def space_Take_c1.lo : Nat → List Nat × List (Nat × Ty) := fun n => match n with | _ => ([], [])
def space_Take_c1.od : Nat → Od := fun n => match n with | _ => .nil
theorem space_Take_c1.eq (first1 : Int) (bA1 : Option Addr) (bL1 : Nat) (bC1 : Nat) (cap1 : Option Addr) (cap2 : Option Addr) (K : Value → Heap → Prop) (h : Heap) : fnX (cx space_Take_c1.lo space_Take_c1.od) Tryz.f122 (Tryz.f122.body.getD .skip) [.int .i64 first1, .slice bA1 bL1 bC1, .pointer cap1, .pointer cap2] K h = space_Take_c1 first1 bA1 bL1 bC1 cap1 cap2 K h := by kernel_rfl
theorem space_Take_c1.chk : fnOk (cx space_Take_c1.lo space_Take_c1.od) Tryz.f122 (Tryz.f122.body.getD .skip) 4 = true := by kernel_rfl
theorem space_Take_c1.ok {first1 : Int} {bA1 : Option Addr} {bL1 : Nat} {bC1 : Nat} {cap1 : Option Addr} {cap2 : Option Addr} {K : Value → Heap → Prop} {h : Heap} (hx : space_Take_c1 first1 bA1 bL1 bC1 cap1 cap2 K h) : C.space_Take_c1 first1 bA1 bL1 bC1 cap1 cap2 h K :=
  fn_to (cxOk _ _) Tryz.func122 (by kernel_rfl) space_Take_c1.chk (by rw [space_Take_c1.eq]; exact hx)
def space_Take_c1_c1 (from1 : Int) (x1 : Int) (cap1 : Option Addr) (K : Value → Heap → Prop) (h1 : Heap) : Prop :=
  onSome cap1 fun p1 =>
  Put p1 (.int .i64 from1) h1 fun h2 =>
  K (.bool false) h2
def space_Take_c1_c1.lo : Nat → List Nat × List (Nat × Ty) := fun n => match n with | _ => ([], [])
def space_Take_c1_c1.od : Nat → Od := fun n => match n with | _ => .nil
theorem space_Take_c1_c1.eq (from1 : Int) (x1 : Int) (cap1 : Option Addr) (K : Value → Heap → Prop) (h : Heap) : fnX (cx space_Take_c1_c1.lo space_Take_c1_c1.od) Tryz.f123 (Tryz.f123.body.getD .skip) [.int .i64 from1, .int .i64 x1, .pointer cap1] K h = space_Take_c1_c1 from1 x1 cap1 K h := by kernel_rfl
theorem space_Take_c1_c1.chk : fnOk (cx space_Take_c1_c1.lo space_Take_c1_c1.od) Tryz.f123 (Tryz.f123.body.getD .skip) 3 = true := by kernel_rfl
theorem space_Take_c1_c1.ok {from1 : Int} {x1 : Int} {cap1 : Option Addr} {K : Value → Heap → Prop} {h : Heap} (hx : space_Take_c1_c1 from1 x1 cap1 K h) : C.space_Take_c1_c1 from1 x1 cap1 h K :=
  fn_to (cxOk _ _) Tryz.func123 (by kernel_rfl) space_Take_c1_c1.chk (by rw [space_Take_c1_c1.eq]; exact hx)
def space_Take_c2 (cap1 : Option Addr) (cap2 : Option Addr) (cap3 : Option Addr) (K : Value → Heap → Prop) (h1 : Heap) : Prop :=
  onSome cap1 fun p1 =>
  ∃ (q1 : Option Addr), cellOf h1 p1 = some (.pointer q1) ∧
  onSome cap2 fun p2 =>
  ∃ (n1 : Int), cellOf h1 p2 = some (.int .i64 n1) ∧
  C.space_back q1 n1 cap3 h1 fun r1 h2 =>
  r1 = .tuple #[] ∧
  K (.tuple #[]) h2
def space_Take_c2.lo : Nat → List Nat × List (Nat × Ty) := fun n => match n with | _ => ([], [])
def space_Take_c2.od : Nat → Od := fun n => match n with | _ => .nil
theorem space_Take_c2.eq (cap1 : Option Addr) (cap2 : Option Addr) (cap3 : Option Addr) (K : Value → Heap → Prop) (h : Heap) : fnX (cx space_Take_c2.lo space_Take_c2.od) Tryz.f124 (Tryz.f124.body.getD .skip) [.pointer cap1, .pointer cap2, .pointer cap3] K h = space_Take_c2 cap1 cap2 cap3 K h := by kernel_rfl
theorem space_Take_c2.chkD : fnOkD (cx space_Take_c2.lo space_Take_c2.od) Tryz.f124 (Tryz.f124.body.getD .skip) 3 = true := by kernel_rfl
theorem space_Take_c2.okD {cap1 : Option Addr} {cap2 : Option Addr} {cap3 : Option Addr} {K : Heap → Prop} {h : Heap} (hx : space_Take_c2 cap1 cap2 cap3 (fun _ h' => K h') h) : D.space_Take_c2 cap1 cap2 cap3 h K :=
  fnD_to (cxOk _ _) Tryz.func124 (by kernel_rfl) space_Take_c2.chkD (by rw [space_Take_c2.eq]; exact hx)
def space_back (t1 : Option Addr) (mark1 : Int) (e1 : Option Addr) (K : Value → Heap → Prop) (h1 : Heap) : Prop :=
  onSome e1 fun p1 =>
  ∃ (n1 : Int), cellOf h1 p1 = some (.int .i64 n1) ∧
  bif (n1 != 0) then (
  C.txn_Txn_Back t1 mark1 h1 fun r1 h2 =>
  ∃ (n2 : Int), r1 = .int .i64 n2 ∧
  K (.tuple #[]) h2) else (
  K (.tuple #[]) h1)
def space_back.lo : Nat → List Nat × List (Nat × Ty) := fun n => match n with | _ => ([], [])
def space_back.od : Nat → Od := fun n => match n with | _ => .nil
theorem space_back.eq (t1 : Option Addr) (mark1 : Int) (e1 : Option Addr) (K : Value → Heap → Prop) (h : Heap) : fnX (cx space_back.lo space_back.od) Tryz.f125 (Tryz.f125.body.getD .skip) [.pointer t1, .int .i64 mark1, .pointer e1] K h = space_back t1 mark1 e1 K h := by kernel_rfl
theorem space_back.chk : fnOk (cx space_back.lo space_back.od) Tryz.f125 (Tryz.f125.body.getD .skip) 3 = true := by kernel_rfl
theorem space_back.ok {t1 : Option Addr} {mark1 : Int} {e1 : Option Addr} {K : Value → Heap → Prop} {h : Heap} (hx : space_back t1 mark1 e1 K h) : C.space_back t1 mark1 e1 h K :=
  fn_to (cxOk _ _) Tryz.func125 (by kernel_rfl) space_back.chk (by rw [space_back.eq]; exact hx)
def space_set (t1 : Option Addr) (g1 : List Value) (i1 : Int) (on1 : Bool) (K : Value → Heap → Prop) (h1 : Heap) : Prop :=
  New g1 25 h1 fun h2 =>
  ∃ cs1 : List Value, List.length cs1 = 5 ∧ Cells h2 ⟨h1.size, 0, none⟩ cs1 ∧
  C.space_bit t1 cs1 i1 h2 fun r1 h3 =>
  ∃ (n1 : Int) (sA1 : Option Addr) (sL1 : Nat) (sC1 : Nat) (n2 : Int) (n3 : Int), r1 = .tuple #[.int .i64 n1, .slice sA1 sL1 sC1, .int .i64 n2, .int .i64 n3] ∧
  bif (n3 != 0) then (
  K (.int .i64 n3) h3) else (
  C.bits_Put sA1 sL1 sC1 n2 on1 h3 fun r2 h4 =>
  ∃ (n4 : Int), r2 = .int .i64 n4 ∧
  bif (n4 != 0) then (
  K (.int .i64 n4) h4) else (
  C.txn_Txn_Write t1 n1 sA1 sL1 sC1 h4 fun r3 h5 =>
  ∃ (n5 : Int), r3 = .int .i64 n5 ∧
  K (.int .i64 n5) h5))
def space_set.lo : Nat → List Nat × List (Nat × Ty) := fun n => match n with | _ => ([], [])
def space_set.od : Nat → Od := fun n => match n with | _ => .nil
theorem space_set.eq (t1 : Option Addr) (g1 : List Value) (i1 : Int) (on1 : Bool) (K : Value → Heap → Prop) (h : Heap) : fnX (cx space_set.lo space_set.od) Tryz.f126 (Tryz.f126.body.getD .skip) [.pointer t1, .agg ⟨g1⟩, .int .i64 i1, .bool on1] K h = space_set t1 g1 i1 on1 K h := by kernel_rfl
theorem space_set.chk : fnOk (cx space_set.lo space_set.od) Tryz.f126 (Tryz.f126.body.getD .skip) 4 = true := by kernel_rfl
theorem space_set.ok {t1 : Option Addr} {g1 : List Value} {i1 : Int} {on1 : Bool} {K : Value → Heap → Prop} {h : Heap} (hx : space_set t1 g1 i1 on1 K h) : C.space_set t1 g1 i1 on1 h K :=
  fn_to (cxOk _ _) Tryz.func126 (by kernel_rfl) space_set.chk (by rw [space_set.eq]; exact hx)
def bmap_file_own (f1 : Option Addr) (s1 : List Value) (K : Value → Heap → Prop) (h1 : Heap) : Prop :=
  New s1 149 h1 fun h2 =>
  ∃ (n1 : Int), cellOf h2 (Addr.add ⟨h1.size, 0, none⟩ 0) = some (.int .i64 n1) ∧
  bif (n1 == 0) then (
  ∃ (n2 : Int), cellOf h2 (Addr.add ⟨h1.size, 0, none⟩ 1) = some (.int .i64 n2) ∧
  onSome f1 fun p1 =>
  (0 ≤ n2 ∧ n2 < (10 : Int)) ∧
  K (.pointer (some (Addr.add (Addr.add (Addr.add p1 6) 3) (Int.toNat n2)))) h2) else (
  bif (n1 == 1) then (
  onSome f1 fun p2 =>
  K (.pointer (some (Addr.add (Addr.add p2 6) 13))) h2) else (
  onSome f1 fun p3 =>
  K (.pointer (some (Addr.add (Addr.add p3 6) 14))) h2))
def bmap_file_own.lo : Nat → List Nat × List (Nat × Ty) := fun n => match n with | _ => ([], [])
def bmap_file_own.od : Nat → Od := fun n => match n with | 3 => (.op 0 [] (.op 1 [] (.op 2 [] (.op 3 [] (.op 4 [] (.op 5 [] (.op 6 [] (.op 7 [] .nil)))))))) | _ => .nil
theorem bmap_file_own.eq (f1 : Option Addr) (s1 : List Value) (K : Value → Heap → Prop) (h : Heap) : fnX (cx bmap_file_own.lo bmap_file_own.od) Tryz.f127 (Tryz.f127.body.getD .skip) [.pointer f1, .agg ⟨s1⟩] K h = bmap_file_own f1 s1 K h := by kernel_rfl
theorem bmap_file_own.chk : fnOk (cx bmap_file_own.lo bmap_file_own.od) Tryz.f127 (Tryz.f127.body.getD .skip) 2 = true := by kernel_rfl
theorem bmap_file_own.ok {f1 : Option Addr} {s1 : List Value} {K : Value → Heap → Prop} {h : Heap} (hx : bmap_file_own f1 s1 K h) : C.bmap_file_own f1 s1 h K :=
  fn_to (cxOk _ _) Tryz.func127 (by kernel_rfl) bmap_file_own.chk (by rw [bmap_file_own.eq]; exact hx)
def rec_Put (bA1 : Option Addr) (bL1 : Nat) (bC1 : Nat) (at1 : Int) (n1 : Int) (v1 : Int) (K : Value → Heap → Prop) (h1 : Heap) : Prop :=
  C.rec_isWidth n1 h1 fun r1 h2 =>
  ∃ (b1 : Bool), r1 = .bool b1 ∧
  bif (!b1) then (
  K (.int .i64 1) h2) else (
  bif (decide (n1 < 8)) then (
  if (IntKind.wrap .i64 (8 * n1)) < 0 then False else
  bif ((Int.fdiv v1 (2 ^ min (Int.toNat (IntKind.wrap .i64 (8 * n1))) 64)) != 0) then (
  K (.int .i64 1) h2) else (
  C.rec_lie bA1 bL1 bC1 at1 n1 h2 fun r2 h3 =>
  ∃ (b2 : Bool), r2 = .bool b2 ∧
  bif (!b2) then (
  K (.int .i64 20) h3) else (
  ∃ (I1 : Int → Heap → Prop) (M1 : Int → Heap → Nat), I1 0 h3 ∧
  ∀ (n2 : Int), ∀ h4 : Heap, I1 n2 h4 →
  bif (decide (n2 < n1)) then (
  if (IntKind.wrap .i64 (8 * n2)) < 0 then False else
  (0 ≤ (IntKind.wrap .i64 (at1 + n2)) ∧ (IntKind.wrap .i64 (at1 + n2)) < (bL1 : Int)) ∧
  onSome bA1 fun p1 =>
  Put (Addr.add p1 (Int.toNat (IntKind.wrap .i64 (at1 + n2)))) (.int .u8 (IntKind.wrap .u8 ((Int.fdiv v1 (2 ^ min (Int.toNat (IntKind.wrap .i64 (8 * n2))) 64))))) h4 fun h5 =>
  I1 (IntKind.wrap .i64 (n2 + 1)) h5 ∧ M1 (IntKind.wrap .i64 (n2 + 1)) h5 < M1 n2 h4) else (
  K (.int .i64 0) h4)))) else (
  C.rec_lie bA1 bL1 bC1 at1 n1 h2 fun r3 h6 =>
  ∃ (b3 : Bool), r3 = .bool b3 ∧
  bif (!b3) then (
  K (.int .i64 20) h6) else (
  ∃ (I2 : Int → Heap → Prop) (M2 : Int → Heap → Nat), I2 0 h6 ∧
  ∀ (n3 : Int), ∀ h7 : Heap, I2 n3 h7 →
  bif (decide (n3 < n1)) then (
  if (IntKind.wrap .i64 (8 * n3)) < 0 then False else
  (0 ≤ (IntKind.wrap .i64 (at1 + n3)) ∧ (IntKind.wrap .i64 (at1 + n3)) < (bL1 : Int)) ∧
  onSome bA1 fun p2 =>
  Put (Addr.add p2 (Int.toNat (IntKind.wrap .i64 (at1 + n3)))) (.int .u8 (IntKind.wrap .u8 ((Int.fdiv v1 (2 ^ min (Int.toNat (IntKind.wrap .i64 (8 * n3))) 64))))) h7 fun h8 =>
  I2 (IntKind.wrap .i64 (n3 + 1)) h8 ∧ M2 (IntKind.wrap .i64 (n3 + 1)) h8 < M2 n3 h7) else (
  K (.int .i64 0) h7))))
def rec_Put.lo : Nat → List Nat × List (Nat × Ty) := fun n => match n with | 6 => ([0, 1, 3, 31], [(32, .int .i64)]) | _ => ([], [])
def rec_Put.od : Nat → Od := fun n => match n with | _ => .nil
theorem rec_Put.eq (bA1 : Option Addr) (bL1 : Nat) (bC1 : Nat) (at1 : Int) (n1 : Int) (v1 : Int) (K : Value → Heap → Prop) (h : Heap) : fnX (cx rec_Put.lo rec_Put.od) Tryz.f128 (Tryz.f128.body.getD .skip) [.slice bA1 bL1 bC1, .int .i64 at1, .int .i64 n1, .int .u64 v1] K h = rec_Put bA1 bL1 bC1 at1 n1 v1 K h := by kernel_rfl
theorem rec_Put.chk : fnOk (cx rec_Put.lo rec_Put.od) Tryz.f128 (Tryz.f128.body.getD .skip) 4 = true := by kernel_rfl
theorem rec_Put.ok {bA1 : Option Addr} {bL1 : Nat} {bC1 : Nat} {at1 : Int} {n1 : Int} {v1 : Int} {K : Value → Heap → Prop} {h : Heap} (hx : rec_Put bA1 bL1 bC1 at1 n1 v1 K h) : C.rec_Put bA1 bL1 bC1 at1 n1 v1 h K :=
  fn_to (cxOk _ _) Tryz.func128 (by kernel_rfl) rec_Put.chk (by rw [rec_Put.eq]; exact hx)
end Go.Proofs.YtcdpakjhjmchhaaGreatDoor.W
namespace Go.Proofs.YtcdpakjhjmchhaaGreatDoor.W
open Go Go.Proofs Go.Proofs.YtcdpakjhjmchhaaGreatDoor.Wx
def space_Give.k1 (t1 : Option Addr) (i1 : Int) (h1 : Heap) (h2 : Heap) (K : Value → Heap → Prop) : Prop :=
  ∃ cs1 : List Value, List.length cs1 = 5 ∧ Cells h2 ⟨h1.size, 0, none⟩ cs1 ∧
  C.space_Used t1 cs1 i1 h2 fun r1 h3 =>
  ∃ (b1 : Bool) (n3 : Int), r1 = .tuple #[.bool b1, .int .i64 n3] ∧
  bif (n3 != 0) then (
  K (.int .i64 n3) h3) else (
  bif (!b1) then (
  K (.int .i64 91) h3) else (
  ∃ cs2 : List Value, List.length cs2 = 5 ∧ Cells h3 ⟨h1.size, 0, none⟩ cs2 ∧
  C.space_set t1 cs2 i1 false h3 fun r2 h4 =>
  ∃ (n4 : Int), r2 = .int .i64 n4 ∧
  K (.int .i64 n4) h4))
def space_Give (t1 : Option Addr) (g1 : List Value) (i1 : Int) (K : Value → Heap → Prop) (h1 : Heap) : Prop :=
  New g1 25 h1 fun h2 =>
  ∃ (n1 : Int), cellOf h2 (Addr.add ⟨h1.size, 0, none⟩ 3) = some (.int .i64 n1) ∧
  bif (decide (i1 < n1)) then (
  K (.int .i64 91) h2) else (
  ∃ (n2 : Int), cellOf h2 (Addr.add ⟨h1.size, 0, none⟩ 0) = some (.int .i64 n2) ∧
  bif (decide (i1 ≥ n2)) then (
  K (.int .i64 91) h2) else (
  space_Give.k1 t1 i1 h1 h2 K))
def space_Give.lo : Nat → List Nat × List (Nat × Ty) := fun n => match n with | _ => ([], [])
def space_Give.od : Nat → Od := fun n => match n with | _ => .nil
theorem space_Give.eq (t1 : Option Addr) (g1 : List Value) (i1 : Int) (K : Value → Heap → Prop) (h : Heap) : fnX (cx space_Give.lo space_Give.od) Tryz.f133 (Tryz.f133.body.getD .skip) [.pointer t1, .agg ⟨g1⟩, .int .i64 i1] K h = space_Give t1 g1 i1 K h := by kernel_rfl
theorem space_Give.chk : fnOk (cx space_Give.lo space_Give.od) Tryz.f133 (Tryz.f133.body.getD .skip) 3 = true := by kernel_rfl
theorem space_Give.ok {t1 : Option Addr} {g1 : List Value} {i1 : Int} {K : Value → Heap → Prop} {h : Heap} (hx : space_Give t1 g1 i1 K h) : C.space_Give t1 g1 i1 h K :=
  fn_to (cxOk _ _) Tryz.func133 (by kernel_rfl) space_Give.chk (by rw [space_Give.eq]; exact hx)
def rec_Get (bA1 : Option Addr) (bL1 : Nat) (bC1 : Nat) (at1 : Int) (n1 : Int) (K : Value → Heap → Prop) (h1 : Heap) : Prop :=
  C.rec_isWidth n1 h1 fun r1 h2 =>
  ∃ (b1 : Bool), r1 = .bool b1 ∧
  bif (!b1) then (
  K (.tuple #[.int .u64 0, .int .i64 1]) h2) else (
  C.rec_lie bA1 bL1 bC1 at1 n1 h2 fun r2 h3 =>
  ∃ (b2 : Bool), r2 = .bool b2 ∧
  bif (!b2) then (
  K (.tuple #[.int .u64 0, .int .i64 20]) h3) else (
  ∃ (I1 : Int → Int → Heap → Prop) (M1 : Int → Int → Heap → Nat), I1 0 0 h3 ∧
  ∀ (v1 : Int) (n2 : Int), ∀ h4 : Heap, I1 v1 n2 h4 →
  bif (decide (n2 < n1)) then (
  (0 ≤ (IntKind.wrap .i64 (at1 + n2)) ∧ (IntKind.wrap .i64 (at1 + n2)) < (bL1 : Int)) ∧
  onSome bA1 fun p1 =>
  ∃ (n3 : Int), cellOf h4 (Addr.add p1 (Int.toNat (IntKind.wrap .i64 (at1 + n2)))) = some (.int .u8 n3) ∧
  if (IntKind.wrap .i64 (8 * n2)) < 0 then False else
  I1 (bitsI .or .u64 v1 (IntKind.wrap .u64 (((IntKind.wrap .u64 (n3)) * 2 ^ min (Int.toNat (IntKind.wrap .i64 (8 * n2))) 64)))) (IntKind.wrap .i64 (n2 + 1)) h4 ∧ M1 (bitsI .or .u64 v1 (IntKind.wrap .u64 (((IntKind.wrap .u64 (n3)) * 2 ^ min (Int.toNat (IntKind.wrap .i64 (8 * n2))) 64)))) (IntKind.wrap .i64 (n2 + 1)) h4 < M1 v1 n2 h4) else (
  K (.tuple #[.int .u64 v1, .int .i64 0]) h4)))
def rec_Get.lo : Nat → List Nat × List (Nat × Ty) := fun n => match n with | 7 => ([0, 1, 20], [(8, .int .u64), (21, .int .i64)]) | _ => ([], [])
def rec_Get.od : Nat → Od := fun n => match n with | _ => .nil
theorem rec_Get.eq (bA1 : Option Addr) (bL1 : Nat) (bC1 : Nat) (at1 : Int) (n1 : Int) (K : Value → Heap → Prop) (h : Heap) : fnX (cx rec_Get.lo rec_Get.od) Tryz.f137 (Tryz.f137.body.getD .skip) [.slice bA1 bL1 bC1, .int .i64 at1, .int .i64 n1] K h = rec_Get bA1 bL1 bC1 at1 n1 K h := by kernel_rfl
theorem rec_Get.chk : fnOk (cx rec_Get.lo rec_Get.od) Tryz.f137 (Tryz.f137.body.getD .skip) 3 = true := by kernel_rfl
theorem rec_Get.ok {bA1 : Option Addr} {bL1 : Nat} {bC1 : Nat} {at1 : Int} {n1 : Int} {K : Value → Heap → Prop} {h : Heap} (hx : rec_Get bA1 bL1 bC1 at1 n1 K h) : C.rec_Get bA1 bL1 bC1 at1 n1 h K :=
  fn_to (cxOk _ _) Tryz.func137 (by kernel_rfl) rec_Get.chk (by rw [rec_Get.eq]; exact hx)
def adisk_Disk_has (d1 : Option Addr) (i1 : Int) (K : Value → Heap → Prop) (h1 : Heap) : Prop :=
  bif (decide (i1 ≥ 0)) then (
  onSome d1 fun p1 =>
  ∃ (sA1 : Option Addr) (sL1 : Nat) (sC1 : Nat), cellOf h1 (Addr.add p1 0) = some (.slice sA1 sL1 sC1) ∧
  K (.bool (decide (i1 < (sL1 : Int)))) h1) else (
  K (.bool false) h1)
def adisk_Disk_has.lo : Nat → List Nat × List (Nat × Ty) := fun n => match n with | _ => ([], [])
def adisk_Disk_has.od : Nat → Od := fun n => match n with | _ => .nil
theorem adisk_Disk_has.eq (d1 : Option Addr) (i1 : Int) (K : Value → Heap → Prop) (h : Heap) : fnX (cx adisk_Disk_has.lo adisk_Disk_has.od) Tryz.f144 (Tryz.f144.body.getD .skip) [.pointer d1, .int .i64 i1] K h = adisk_Disk_has d1 i1 K h := by kernel_rfl
theorem adisk_Disk_has.chk : fnOk (cx adisk_Disk_has.lo adisk_Disk_has.od) Tryz.f144 (Tryz.f144.body.getD .skip) 2 = true := by kernel_rfl
theorem adisk_Disk_has.ok {d1 : Option Addr} {i1 : Int} {K : Value → Heap → Prop} {h : Heap} (hx : adisk_Disk_has d1 i1 K h) : C.adisk_Disk_has d1 i1 h K :=
  fn_to (cxOk _ _) Tryz.func144 (by kernel_rfl) adisk_Disk_has.chk (by rw [adisk_Disk_has.eq]; exact hx)
def geo_Bit.k1 (i1 : Int) (h1 : Heap) (h2 : Heap) (K : Value → Heap → Prop) : Prop :=
  ∃ (n2 : Int), cellOf h2 (Addr.add ⟨h1.size, 0, none⟩ 1) = some (.int .i64 n2) ∧
  K (.tuple #[.int .i64 (IntKind.wrap .i64 (n2 + (IntKind.wrap .i64 (Int.tdiv i1 4096)))), .int .i64 (Int.tmod i1 4096), .int .i64 0]) h2
def geo_Bit (g1 : List Value) (i1 : Int) (K : Value → Heap → Prop) (h1 : Heap) : Prop :=
  New g1 25 h1 fun h2 =>
  bif (decide (i1 < 0)) then (
  K (.tuple #[.int .i64 0, .int .i64 0, .int .i64 31]) h2) else (
  ∃ (n1 : Int), cellOf h2 (Addr.add ⟨h1.size, 0, none⟩ 0) = some (.int .i64 n1) ∧
  bif (decide (i1 ≥ n1)) then (
  K (.tuple #[.int .i64 0, .int .i64 0, .int .i64 31]) h2) else (
  geo_Bit.k1 i1 h1 h2 K))
def geo_Bit.lo : Nat → List Nat × List (Nat × Ty) := fun n => match n with | _ => ([], [])
def geo_Bit.od : Nat → Od := fun n => match n with | _ => .nil
theorem geo_Bit.eq (g1 : List Value) (i1 : Int) (K : Value → Heap → Prop) (h : Heap) : fnX (cx geo_Bit.lo geo_Bit.od) Tryz.f145 (Tryz.f145.body.getD .skip) [.agg ⟨g1⟩, .int .i64 i1] K h = geo_Bit g1 i1 K h := by kernel_rfl
theorem geo_Bit.chk : fnOk (cx geo_Bit.lo geo_Bit.od) Tryz.f145 (Tryz.f145.body.getD .skip) 2 = true := by kernel_rfl
theorem geo_Bit.ok {g1 : List Value} {i1 : Int} {K : Value → Heap → Prop} {h : Heap} (hx : geo_Bit g1 i1 K h) : C.geo_Bit g1 i1 h K :=
  fn_to (cxOk _ _) Tryz.func145 (by kernel_rfl) geo_Bit.chk (by rw [geo_Bit.eq]; exact hx)
def bits_has (bA1 : Option Addr) (bL1 : Nat) (bC1 : Nat) (i1 : Int) (K : Value → Heap → Prop) (h1 : Heap) : Prop :=
  bif (decide (i1 ≥ 0)) then (
  K (.bool (decide (i1 < (IntKind.wrap .i64 (8 * (bL1 : Int)))))) h1) else (
  K (.bool false) h1)
def bits_has.lo : Nat → List Nat × List (Nat × Ty) := fun n => match n with | _ => ([], [])
def bits_has.od : Nat → Od := fun n => match n with | _ => .nil
theorem bits_has.eq (bA1 : Option Addr) (bL1 : Nat) (bC1 : Nat) (i1 : Int) (K : Value → Heap → Prop) (h : Heap) : fnX (cx bits_has.lo bits_has.od) Tryz.f146 (Tryz.f146.body.getD .skip) [.slice bA1 bL1 bC1, .int .i64 i1] K h = bits_has bA1 bL1 bC1 i1 K h := by kernel_rfl
theorem bits_has.chk : fnOk (cx bits_has.lo bits_has.od) Tryz.f146 (Tryz.f146.body.getD .skip) 2 = true := by kernel_rfl
theorem bits_has.ok {bA1 : Option Addr} {bL1 : Nat} {bC1 : Nat} {i1 : Int} {K : Value → Heap → Prop} {h : Heap} (hx : bits_has bA1 bL1 bC1 i1 K h) : C.bits_has bA1 bL1 bC1 i1 h K :=
  fn_to (cxOk _ _) Tryz.func146 (by kernel_rfl) bits_has.chk (by rw [bits_has.eq]; exact hx)
def bits_on (bA1 : Option Addr) (bL1 : Nat) (bC1 : Nat) (i1 : Int) (K : Value → Heap → Prop) (h1 : Heap) : Prop :=
  (0 ≤ (IntKind.wrap .i64 (Int.tdiv i1 8)) ∧ (IntKind.wrap .i64 (Int.tdiv i1 8)) < (bL1 : Int)) ∧
  onSome bA1 fun p1 =>
  ∃ (n1 : Int), cellOf h1 (Addr.add p1 (Int.toNat (IntKind.wrap .i64 (Int.tdiv i1 8)))) = some (.int .u8 n1) ∧
  if (Int.tmod i1 8) < 0 then False else
  K (.bool ((bitsI .and .u8 (Int.fdiv n1 (2 ^ min (Int.toNat (Int.tmod i1 8)) 8)) 1) == 1)) h1
def bits_on.lo : Nat → List Nat × List (Nat × Ty) := fun n => match n with | _ => ([], [])
def bits_on.od : Nat → Od := fun n => match n with | _ => .nil
theorem bits_on.eq (bA1 : Option Addr) (bL1 : Nat) (bC1 : Nat) (i1 : Int) (K : Value → Heap → Prop) (h : Heap) : fnX (cx bits_on.lo bits_on.od) Tryz.f147 (Tryz.f147.body.getD .skip) [.slice bA1 bL1 bC1, .int .i64 i1] K h = bits_on bA1 bL1 bC1 i1 K h := by kernel_rfl
theorem bits_on.chk : fnOk (cx bits_on.lo bits_on.od) Tryz.f147 (Tryz.f147.body.getD .skip) 2 = true := by kernel_rfl
theorem bits_on.ok {bA1 : Option Addr} {bL1 : Nat} {bC1 : Nat} {i1 : Int} {K : Value → Heap → Prop} {h : Heap} (hx : bits_on bA1 bL1 bC1 i1 K h) : C.bits_on bA1 bL1 bC1 i1 h K :=
  fn_to (cxOk _ _) Tryz.func147 (by kernel_rfl) bits_on.chk (by rw [bits_on.eq]; exact hx)
def boleref11_May.k1 (h1 : Heap) (h7 : Heap) (K : Value → Heap → Prop) : Prop :=
  ∃ (n4 : Int), cellOf h7 (Addr.add ⟨h1.size, 0, none⟩ 0) = some (.int .i64 n4) ∧
  bif (n4 == 0) then (
  ∃ cs1 : List Value, List.length cs1 = 15 ∧ Cells h7 ⟨h1.size, 0, none⟩ cs1 ∧
  pairsOk [(.int .i64), (.int .i64), (.int .i64), (.int .i64), (.int .i64), (.int .i64), (.int .i64), (.int .i64), (.int .i64), (.int .i64), (.int .i64), (.int .i64), (.int .i64), (.int .i64), (.int .i64)] cs1 [.int .i64 0, .int .i64 0, .int .i64 0, .int .i64 0, .int .i64 0, .int .i64 0, .int .i64 0, .int .i64 0, .int .i64 0, .int .i64 0, .int .i64 0, .int .i64 0, .int .i64 0, .int .i64 0, .int .i64 0] = true ∧
  K (.bool (cellsEq cs1 [.int .i64 0, .int .i64 0, .int .i64 0, .int .i64 0, .int .i64 0, .int .i64 0, .int .i64 0, .int .i64 0, .int .i64 0, .int .i64 0, .int .i64 0, .int .i64 0, .int .i64 0, .int .i64 0, .int .i64 0])) h7) else (
  bif (n4 == 1) then (
  ∃ (n5 : Int), cellOf h7 (Addr.add ⟨h1.size, 0, none⟩ 1) = some (.int .i64 n5) ∧
  C.boleref11_within n5 0 1000 h7 fun r4 h8 =>
  ∃ (b4 : Bool), r4 = .bool b4 ∧
  bif b4 then (
  ∃ (n6 : Int), cellOf h8 (Addr.add ⟨h1.size, 0, none⟩ 2) = some (.int .i64 n6) ∧
  C.boleref11_within n6 0 8459264 h8 fun r5 h9 =>
  ∃ (b5 : Bool), r5 = .bool b5 ∧
  K (.bool b5) h9) else (
  K (.bool false) h8)) else (
  bif (n4 == 2) then (
  ∃ (n7 : Int), cellOf h7 (Addr.add ⟨h1.size, 0, none⟩ 1) = some (.int .i64 n7) ∧
  C.boleref11_within n7 2 65535 h7 fun r6 h10 =>
  ∃ (b6 : Bool), r6 = .bool b6 ∧
  bif b6 then (
  ∃ (n8 : Int), cellOf h10 (Addr.add ⟨h1.size, 0, none⟩ 2) = some (.int .i64 n8) ∧
  C.boleref11_within n8 0 8459264 h10 fun r7 h11 =>
  ∃ (b7 : Bool), r7 = .bool b7 ∧
  bif b7 then (
  ∃ (n9 : Int), cellOf h11 (Addr.add ⟨h1.size, 0, none⟩ 2) = some (.int .i64 n9) ∧
  K (.bool ((Int.tmod n9 512) == 0)) h11) else (
  K (.bool false) h11)) else (
  K (.bool false) h10)) else (
  bif (n4 == 3) then (
  ∃ (n10 : Int), cellOf h7 (Addr.add ⟨h1.size, 0, none⟩ 1) = some (.int .i64 n10) ∧
  C.boleref11_within n10 1 1000 h7 fun r8 h12 =>
  ∃ (b8 : Bool), r8 = .bool b8 ∧
  bif b8 then (
  ∃ (n11 : Int), cellOf h12 (Addr.add ⟨h1.size, 0, none⟩ 2) = some (.int .i64 n11) ∧
  C.boleref11_within n11 1 1024 h12 fun r9 h13 =>
  ∃ (b9 : Bool), r9 = .bool b9 ∧
  K (.bool b9) h13) else (
  K (.bool false) h12)) else (
  K (.bool false) h7))))
def boleref11_May (x1 : List Value) (K : Value → Heap → Prop) (h1 : Heap) : Prop :=
  New x1 44 h1 fun h2 =>
  ∃ (I1 : Int → Heap → Prop) (M1 : Int → Heap → Nat), I1 0 h2 ∧
  ∀ (i1 : Int), ∀ h3 : Heap, I1 i1 h3 →
  bif (decide (i1 < 10)) then (
  (0 ≤ i1 ∧ i1 < (10 : Int)) ∧
  ∃ (n1 : Int), cellOf h3 (Addr.add (Addr.add ⟨h1.size, 0, none⟩ 3) (Int.toNat i1)) = some (.int .i64 n1) ∧
  C.boleref11_within n1 0 4294967295 h3 fun r1 h4 =>
  ∃ (b1 : Bool), r1 = .bool b1 ∧
  bif (!b1) then (
  K (.bool false) h4) else (
  I1 (IntKind.wrap .i64 (i1 + 1)) h4 ∧ M1 (IntKind.wrap .i64 (i1 + 1)) h4 < M1 i1 h3)) else (
  ∃ (n2 : Int), cellOf h3 (Addr.add ⟨h1.size, 0, none⟩ 13) = some (.int .i64 n2) ∧
  C.boleref11_within n2 0 4294967295 h3 fun r2 h5 =>
  ∃ (b2 : Bool), r2 = .bool b2 ∧
  bif (!b2) then (
  K (.bool false) h5) else (
  ∃ (n3 : Int), cellOf h5 (Addr.add ⟨h1.size, 0, none⟩ 14) = some (.int .i64 n3) ∧
  C.boleref11_within n3 0 4294967295 h5 fun r3 h6 =>
  ∃ (b3 : Bool), r3 = .bool b3 ∧
  bif (!b3) then (
  K (.bool false) h6) else (
  boleref11_May.k1 h1 h6 K)))
def boleref11_May.lo : Nat → List Nat × List (Nat × Ty) := fun n => match n with | 2 => ([1], [(3, .int .i64)]) | _ => ([], [])
def boleref11_May.od : Nat → Od := fun n => match n with | _ => .nil
theorem boleref11_May.eq (x1 : List Value) (K : Value → Heap → Prop) (h : Heap) : fnX (cx boleref11_May.lo boleref11_May.od) Tryz.f148 (Tryz.f148.body.getD .skip) [.agg ⟨x1⟩] K h = boleref11_May x1 K h := by kernel_rfl
theorem boleref11_May.chk : fnOk (cx boleref11_May.lo boleref11_May.od) Tryz.f148 (Tryz.f148.body.getD .skip) 1 = true := by kernel_rfl
theorem boleref11_May.ok {x1 : List Value} {K : Value → Heap → Prop} {h : Heap} (hx : boleref11_May x1 K h) : C.boleref11_May x1 h K :=
  fn_to (cxOk _ _) Tryz.func148 (by kernel_rfl) boleref11_May.chk (by rw [boleref11_May.eq]; exact hx)
def boleref11_laid (x1 : List Value) (K : Value → Heap → Prop) (h1 : Heap) : Prop :=
  New x1 44 h1 fun h2 =>
  ∃ (n1 : Int), cellOf h2 (Addr.add ⟨h1.size, 0, none⟩ 0) = some (.int .i64 n1) ∧
  New [.int .u8 (IntKind.wrap .u8 (n1)), .int .u8 0] 5 h2 fun h3 =>
  ∃ (n2 : Int), cellOf h3 (Addr.add ⟨h1.size, 0, none⟩ 1) = some (.int .i64 n2) ∧
  C.boleref11_low n2 2 h3 fun r1 h4 =>
  ∃ (sA1 : Option Addr) (sL1 : Nat) (sC1 : Nat), r1 = .slice sA1 sL1 sC1 ∧
  ∃ new1 : List Value, List.length new1 = sL1 * 1 ∧ SlCells h4 sA1 new1 ∧ (∀ v ∈ new1, v.oneCell' = true) ∧
  AppendP ti5 5 (some ⟨h2.size, 0, none⟩) 2 2 sL1 new1 h4 fun sA2 sL2 sC2 h5 =>
  ∃ (n3 : Int), cellOf h5 (Addr.add ⟨h1.size, 0, none⟩ 2) = some (.int .i64 n3) ∧
  C.boleref11_low n3 4 h5 fun r2 h6 =>
  ∃ (sA3 : Option Addr) (sL3 : Nat) (sC3 : Nat), r2 = .slice sA3 sL3 sC3 ∧
  ∃ new2 : List Value, List.length new2 = sL3 * 1 ∧ SlCells h6 sA3 new2 ∧ (∀ v ∈ new2, v.oneCell' = true) ∧
  AppendP ti5 5 sA2 sL2 sC2 sL3 new2 h6 fun sA4 sL4 sC4 h7 =>
  ∃ (I1 : Option Addr → Nat → Nat → Int → Heap → Prop) (M1 : Option Addr → Nat → Nat → Int → Heap → Nat), I1 sA4 sL4 sC4 0 h7 ∧
  ∀ (bA1 : Option Addr) (bL1 : Nat) (bC1 : Nat) (i1 : Int), ∀ h8 : Heap, I1 bA1 bL1 bC1 i1 h8 →
  bif (decide (i1 < 10)) then (
  (0 ≤ i1 ∧ i1 < (10 : Int)) ∧
  ∃ (n4 : Int), cellOf h8 (Addr.add (Addr.add ⟨h1.size, 0, none⟩ 3) (Int.toNat i1)) = some (.int .i64 n4) ∧
  C.boleref11_low n4 4 h8 fun r3 h9 =>
  ∃ (sA5 : Option Addr) (sL5 : Nat) (sC5 : Nat), r3 = .slice sA5 sL5 sC5 ∧
  ∃ new3 : List Value, List.length new3 = sL5 * 1 ∧ SlCells h9 sA5 new3 ∧ (∀ v ∈ new3, v.oneCell' = true) ∧
  AppendP ti5 5 bA1 bL1 bC1 sL5 new3 h9 fun sA6 sL6 sC6 h10 =>
  I1 sA6 sL6 sC6 (IntKind.wrap .i64 (i1 + 1)) h10 ∧ M1 sA6 sL6 sC6 (IntKind.wrap .i64 (i1 + 1)) h10 < M1 bA1 bL1 bC1 i1 h8) else (
  ∃ (n5 : Int), cellOf h8 (Addr.add ⟨h1.size, 0, none⟩ 13) = some (.int .i64 n5) ∧
  C.boleref11_low n5 4 h8 fun r4 h11 =>
  ∃ (sA7 : Option Addr) (sL7 : Nat) (sC7 : Nat), r4 = .slice sA7 sL7 sC7 ∧
  ∃ new4 : List Value, List.length new4 = sL7 * 1 ∧ SlCells h11 sA7 new4 ∧ (∀ v ∈ new4, v.oneCell' = true) ∧
  AppendP ti5 5 bA1 bL1 bC1 sL7 new4 h11 fun sA8 sL8 sC8 h12 =>
  ∃ (n6 : Int), cellOf h12 (Addr.add ⟨h1.size, 0, none⟩ 14) = some (.int .i64 n6) ∧
  C.boleref11_low n6 4 h12 fun r5 h13 =>
  ∃ (sA9 : Option Addr) (sL9 : Nat) (sC9 : Nat), r5 = .slice sA9 sL9 sC9 ∧
  ∃ new5 : List Value, List.length new5 = sL9 * 1 ∧ SlCells h13 sA9 new5 ∧ (∀ v ∈ new5, v.oneCell' = true) ∧
  AppendP ti5 5 sA8 sL8 sC8 sL9 new5 h13 fun sA10 sL10 sC10 h14 =>
  New [.int .u8 0, .int .u8 0, .int .u8 0, .int .u8 0, .int .u8 0, .int .u8 0, .int .u8 0, .int .u8 0] 5 h14 fun h15 =>
  ∃ new6 : List Value, List.length new6 = 8 * 1 ∧ SlCells h15 (some ⟨h14.size, 0, none⟩) new6 ∧ (∀ v ∈ new6, v.oneCell' = true) ∧
  AppendP ti5 5 sA10 sL10 sC10 8 new6 h15 fun sA11 sL11 sC11 h16 =>
  K (.slice sA11 sL11 sC11) h16)
def boleref11_laid.lo : Nat → List Nat × List (Nat × Ty) := fun n => match n with | 5 => ([1], [(3, .slice), (4, .int .i64)]) | _ => ([], [])
def boleref11_laid.od : Nat → Od := fun n => match n with | _ => .nil
theorem boleref11_laid.eq (x1 : List Value) (K : Value → Heap → Prop) (h : Heap) : fnX (cx boleref11_laid.lo boleref11_laid.od) Tryz.f149 (Tryz.f149.body.getD .skip) [.agg ⟨x1⟩] K h = boleref11_laid x1 K h := by kernel_rfl
theorem boleref11_laid.chk : fnOk (cx boleref11_laid.lo boleref11_laid.od) Tryz.f149 (Tryz.f149.body.getD .skip) 1 = true := by kernel_rfl
theorem boleref11_laid.ok {x1 : List Value} {K : Value → Heap → Prop} {h : Heap} (hx : boleref11_laid x1 K h) : C.boleref11_laid x1 h K :=
  fn_to (cxOk _ _) Tryz.func149 (by kernel_rfl) boleref11_laid.chk (by rw [boleref11_laid.eq]; exact hx)
def bits_Runs_c1.k2 (yield1 : Value) (i1 : Int) (h2 : Heap) (I1 : Int → Heap → Prop) (M1 : Int → Heap → Nat) (i3 : Int) (i5 : Int) (h10 : Heap) (K : Value → Heap → Prop) : Prop :=
  bif (i5 == i3) then (
  K (.tuple #[]) h10) else (
  HCallsV Tryz.prog yield1 [.int .i64 i3, .int .i64 (IntKind.wrap .i64 (i5 - i3))] h10 fun r5 h11 =>
  ∃ (b5 : Bool), r5 = .bool b5 ∧
  bif (!b5) then (
  K (.tuple #[]) h11) else (
  I1 i5 h11 ∧ M1 i5 h11 < M1 i1 h2))
def bits_Runs_c1.k1 (yield1 : Value) (cap1 : Option Addr) (i1 : Int) (h2 : Heap) (I1 : Int → Heap → Prop) (M1 : Int → Heap → Nat) (i3 : Int) (h6 : Heap) (K : Value → Heap → Prop) : Prop :=
  ∃ (I3 : Int → Heap → Prop) (M3 : Int → Heap → Nat), I3 i3 h6 ∧
  ∀ (i4 : Int), ∀ h7 : Heap, I3 i4 h7 →
  onSome cap1 fun p3 =>
  ∃ (sA3 : Option Addr) (sL3 : Nat) (sC3 : Nat), cellOf h7 p3 = some (.slice sA3 sL3 sC3) ∧
  C.bits_has sA3 sL3 sC3 i4 h7 fun r3 h8 =>
  ∃ (b3 : Bool), r3 = .bool b3 ∧
  bif b3 then (
  onSome cap1 fun p4 =>
  ∃ (sA4 : Option Addr) (sL4 : Nat) (sC4 : Nat), cellOf h8 p4 = some (.slice sA4 sL4 sC4) ∧
  C.bits_on sA4 sL4 sC4 i4 h8 fun r4 h9 =>
  ∃ (b4 : Bool), r4 = .bool b4 ∧
  bif (!b4) then (
  I3 (IntKind.wrap .i64 (i4 + 1)) h9 ∧ M3 (IntKind.wrap .i64 (i4 + 1)) h9 < M3 i4 h7) else (
  bits_Runs_c1.k2 yield1 i1 h2 I1 M1 i3 i4 h9 K)) else (
  bits_Runs_c1.k2 yield1 i1 h2 I1 M1 i3 i4 h8 K)
def bits_Runs_c1 (yield1 : Value) (cap1 : Option Addr) (K : Value → Heap → Prop) (h1 : Heap) : Prop :=
  ∃ (I1 : Int → Heap → Prop) (M1 : Int → Heap → Nat), I1 0 h1 ∧
  ∀ (i1 : Int), ∀ h2 : Heap, I1 i1 h2 →
  ∃ (I2 : Int → Heap → Prop) (M2 : Int → Heap → Nat), I2 i1 h2 ∧
  ∀ (i2 : Int), ∀ h3 : Heap, I2 i2 h3 →
  onSome cap1 fun p1 =>
  ∃ (sA1 : Option Addr) (sL1 : Nat) (sC1 : Nat), cellOf h3 p1 = some (.slice sA1 sL1 sC1) ∧
  C.bits_has sA1 sL1 sC1 i2 h3 fun r1 h4 =>
  ∃ (b1 : Bool), r1 = .bool b1 ∧
  bif b1 then (
  onSome cap1 fun p2 =>
  ∃ (sA2 : Option Addr) (sL2 : Nat) (sC2 : Nat), cellOf h4 p2 = some (.slice sA2 sL2 sC2) ∧
  C.bits_on sA2 sL2 sC2 i2 h4 fun r2 h5 =>
  ∃ (b2 : Bool), r2 = .bool b2 ∧
  bif b2 then (
  I2 (IntKind.wrap .i64 (i2 + 1)) h5 ∧ M2 (IntKind.wrap .i64 (i2 + 1)) h5 < M2 i2 h3) else (
  bits_Runs_c1.k1 yield1 cap1 i1 h2 I1 M1 i2 h5 K)) else (
  bits_Runs_c1.k1 yield1 cap1 i1 h2 I1 M1 i2 h4 K)
def bits_Runs_c1.lo : Nat → List Nat × List (Nat × Ty) := fun n => match n with | 1 => ([0, 1], [(3, .int .i64)]) | 4 => ([0, 1, 4], [(3, .int .i64)]) | _ => ([], [])
def bits_Runs_c1.od : Nat → Od := fun n => match n with | _ => .nil
theorem bits_Runs_c1.eq (yield1 : Value) (cap1 : Option Addr) (K : Value → Heap → Prop) (h : Heap) : fnX (cx bits_Runs_c1.lo bits_Runs_c1.od) Tryz.f150 (Tryz.f150.body.getD .skip) [yield1, .pointer cap1] K h = bits_Runs_c1 yield1 cap1 K h := by kernel_rfl
theorem bits_Runs_c1.chk : fnOk (cx bits_Runs_c1.lo bits_Runs_c1.od) Tryz.f150 (Tryz.f150.body.getD .skip) 2 = true := by kernel_rfl
theorem bits_Runs_c1.ok {yield1 : Value} {cap1 : Option Addr} {K : Value → Heap → Prop} {h : Heap} (hx : bits_Runs_c1 yield1 cap1 K h) : C.bits_Runs_c1 yield1 cap1 h K :=
  fn_to (cxOk _ _) Tryz.func150 (by kernel_rfl) bits_Runs_c1.chk (by rw [bits_Runs_c1.eq]; exact hx)
def inode_Decode (bA1 : Option Addr) (bL1 : Nat) (bC1 : Nat) (K : Value → Heap → Prop) (h1 : Heap) : Prop :=
  New [.slice bA1 bL1 bC1] 33 h1 fun h2 =>
  New z44 44 h2 fun h3 =>
  ∃ (sA1 : Option Addr) (sL1 : Nat) (sC1 : Nat), cellOf h3 ⟨h1.size, 0, none⟩ = some (.slice sA1 sL1 sC1) ∧
  bif ((sL1 : Int) != 64) then (
  PutRow ⟨h2.size, 0, none⟩ [.int .i64 0, .int .i64 0, .int .i64 0, .int .i64 0, .int .i64 0, .int .i64 0, .int .i64 0, .int .i64 0, .int .i64 0, .int .i64 0, .int .i64 0, .int .i64 0, .int .i64 0, .int .i64 0, .int .i64 0] 15 h3 fun h4 =>
  ∃ res1 : List Value, List.length res1 = 15 ∧ Cells h4 ⟨h2.size, 0, none⟩ res1 ∧
  K (.tuple #[.agg ⟨res1⟩, .int .i64 32]) h4) else (
  C.inode_Decode_c1 0 1 (some ⟨h1.size, 0, none⟩) h3 fun r1 h5 =>
  ∃ (n1 : Int), r1 = .int .i64 n1 ∧
  C.inode_Decode_c1 2 2 (some ⟨h1.size, 0, none⟩) h5 fun r2 h6 =>
  ∃ (n2 : Int), r2 = .int .i64 n2 ∧
  C.inode_Decode_c1 4 4 (some ⟨h1.size, 0, none⟩) h6 fun r3 h7 =>
  ∃ (n3 : Int), r3 = .int .i64 n3 ∧
  C.inode_Decode_c1 48 4 (some ⟨h1.size, 0, none⟩) h7 fun r4 h8 =>
  ∃ (n4 : Int), r4 = .int .i64 n4 ∧
  C.inode_Decode_c1 52 4 (some ⟨h1.size, 0, none⟩) h8 fun r5 h9 =>
  ∃ (n5 : Int), r5 = .int .i64 n5 ∧
  NewRow z44 44 [.int .i64 n1, .int .i64 n2, .int .i64 n3, .int .i64 0, .int .i64 0, .int .i64 0, .int .i64 0, .int .i64 0, .int .i64 0, .int .i64 0, .int .i64 0, .int .i64 0, .int .i64 0, .int .i64 n4, .int .i64 n5] 15 h9 fun h11 =>
  ∃ (I1 : Int → Heap → Prop) (M1 : Int → Heap → Nat), I1 0 h11 ∧
  ∀ (n6 : Int), ∀ h12 : Heap, I1 n6 h12 →
  bif (decide (n6 < 10)) then (
  C.inode_Decode_c1 (IntKind.wrap .i64 (8 + (IntKind.wrap .i64 (4 * n6)))) 4 (some ⟨h1.size, 0, none⟩) h12 fun r6 h13 =>
  ∃ (n7 : Int), r6 = .int .i64 n7 ∧
  (0 ≤ n6 ∧ n6 < (10 : Int)) ∧
  Put (Addr.add (Addr.add ⟨h9.size, 0, none⟩ 3) (Int.toNat n6)) (.int .i64 n7) h13 fun h14 =>
  I1 (IntKind.wrap .i64 (n6 + 1)) h14 ∧ M1 (IntKind.wrap .i64 (n6 + 1)) h14 < M1 n6 h12) else (
  ∃ (sA2 : Option Addr) (sL2 : Nat) (sC2 : Nat), cellOf h12 ⟨h1.size, 0, none⟩ = some (.slice sA2 sL2 sC2) ∧
  C.rec_Zero sA2 sL2 sC2 1 1 h12 fun r7 h15 =>
  ∃ (b1 : Bool) (n8 : Int), r7 = .tuple #[.bool b1, .int .i64 n8] ∧
  ∃ (sA3 : Option Addr) (sL3 : Nat) (sC3 : Nat), cellOf h15 ⟨h1.size, 0, none⟩ = some (.slice sA3 sL3 sC3) ∧
  C.rec_Zero sA3 sL3 sC3 56 8 h15 fun r8 h16 =>
  ∃ (b2 : Bool) (n9 : Int), r8 = .tuple #[.bool b2, .int .i64 n9] ∧
  bif (!b1) then (
  PutRow ⟨h2.size, 0, none⟩ [.int .i64 0, .int .i64 0, .int .i64 0, .int .i64 0, .int .i64 0, .int .i64 0, .int .i64 0, .int .i64 0, .int .i64 0, .int .i64 0, .int .i64 0, .int .i64 0, .int .i64 0, .int .i64 0, .int .i64 0] 15 h16 fun h17 =>
  ∃ res2 : List Value, List.length res2 = 15 ∧ Cells h17 ⟨h2.size, 0, none⟩ res2 ∧
  K (.tuple #[.agg ⟨res2⟩, .int .i64 111]) h17) else (
  bif (!b2) then (
  PutRow ⟨h2.size, 0, none⟩ [.int .i64 0, .int .i64 0, .int .i64 0, .int .i64 0, .int .i64 0, .int .i64 0, .int .i64 0, .int .i64 0, .int .i64 0, .int .i64 0, .int .i64 0, .int .i64 0, .int .i64 0, .int .i64 0, .int .i64 0] 15 h16 fun h18 =>
  ∃ res3 : List Value, List.length res3 = 15 ∧ Cells h18 ⟨h2.size, 0, none⟩ res3 ∧
  K (.tuple #[.agg ⟨res3⟩, .int .i64 111]) h18) else (
  ∃ cs1 : List Value, List.length cs1 = 15 ∧ Cells h16 ⟨h9.size, 0, none⟩ cs1 ∧
  C.inode_may cs1 h16 fun r9 h19 =>
  ∃ (b3 : Bool), r9 = .bool b3 ∧
  bif (!b3) then (
  PutRow ⟨h2.size, 0, none⟩ [.int .i64 0, .int .i64 0, .int .i64 0, .int .i64 0, .int .i64 0, .int .i64 0, .int .i64 0, .int .i64 0, .int .i64 0, .int .i64 0, .int .i64 0, .int .i64 0, .int .i64 0, .int .i64 0, .int .i64 0] 15 h19 fun h20 =>
  ∃ res4 : List Value, List.length res4 = 15 ∧ Cells h20 ⟨h2.size, 0, none⟩ res4 ∧
  K (.tuple #[.agg ⟨res4⟩, .int .i64 111]) h20) else (
  ∃ cs2 : List Value, List.length cs2 = 15 ∧ Cells h19 ⟨h9.size, 0, none⟩ cs2 ∧
  PutRow ⟨h2.size, 0, none⟩ cs2 15 h19 fun h21 =>
  ∃ res5 : List Value, List.length res5 = 15 ∧ Cells h21 ⟨h2.size, 0, none⟩ res5 ∧
  K (.tuple #[.agg ⟨res5⟩, .int .i64 0]) h21)))))
def inode_Decode.lo : Nat → List Nat × List (Nat × Ty) := fun n => match n with | 6 => ([1, 2, 4, 5], [(27, .int .i64)]) | _ => ([], [])
def inode_Decode.od : Nat → Od := fun n => match n with | _ => .nil
theorem inode_Decode.eq (bA1 : Option Addr) (bL1 : Nat) (bC1 : Nat) (K : Value → Heap → Prop) (h : Heap) : fnX (cx inode_Decode.lo inode_Decode.od) Tryz.f151 (Tryz.f151.body.getD .skip) [.slice bA1 bL1 bC1] K h = inode_Decode bA1 bL1 bC1 K h := by kernel_rfl
theorem inode_Decode.chk : fnOk (cx inode_Decode.lo inode_Decode.od) Tryz.f151 (Tryz.f151.body.getD .skip) 1 = true := by kernel_rfl
theorem inode_Decode.ok {bA1 : Option Addr} {bL1 : Nat} {bC1 : Nat} {K : Value → Heap → Prop} {h : Heap} (hx : inode_Decode bA1 bL1 bC1 K h) : C.inode_Decode bA1 bL1 bC1 h K :=
  fn_to (cxOk _ _) Tryz.func151 (by kernel_rfl) inode_Decode.chk (by rw [inode_Decode.eq]; exact hx)
def inode_within (v1 : Int) (low1 : Int) (high1 : Int) (K : Value → Heap → Prop) (h1 : Heap) : Prop :=
  bif (decide (v1 ≥ low1)) then (
  K (.bool (decide (v1 ≤ high1))) h1) else (
  K (.bool false) h1)
def inode_within.lo : Nat → List Nat × List (Nat × Ty) := fun n => match n with | _ => ([], [])
def inode_within.od : Nat → Od := fun n => match n with | _ => .nil
theorem inode_within.eq (v1 : Int) (low1 : Int) (high1 : Int) (K : Value → Heap → Prop) (h : Heap) : fnX (cx inode_within.lo inode_within.od) Tryz.f152 (Tryz.f152.body.getD .skip) [.int .i64 v1, .int .i64 low1, .int .i64 high1] K h = inode_within v1 low1 high1 K h := by kernel_rfl
theorem inode_within.chk : fnOk (cx inode_within.lo inode_within.od) Tryz.f152 (Tryz.f152.body.getD .skip) 3 = true := by kernel_rfl
theorem inode_within.ok {v1 : Int} {low1 : Int} {high1 : Int} {K : Value → Heap → Prop} {h : Heap} (hx : inode_within v1 low1 high1 K h) : C.inode_within v1 low1 high1 h K :=
  fn_to (cxOk _ _) Tryz.func152 (by kernel_rfl) inode_within.chk (by rw [inode_within.eq]; exact hx)
def inode_may (x1 : List Value) (K : Value → Heap → Prop) (h1 : Heap) : Prop :=
  New x1 44 h1 fun h2 =>
  ∃ cs1 : List Value, List.length cs1 = 15 ∧ Cells h2 ⟨h1.size, 0, none⟩ cs1 ∧
  C.inode_numbers cs1 h2 fun r1 h3 =>
  ∃ (cs2 : List Value), r1 = .agg ⟨cs2⟩ ∧
  ∃ (I1 : Int → Heap → Prop) (M1 : Int → Heap → Nat), I1 0 h3 ∧
  ∀ (n1 : Int), ∀ h4 : Heap, I1 n1 h4 →
  bif (decide (n1 < 12)) then (
  (0 ≤ n1 ∧ n1 < (12 : Int)) ∧
  ∃ (n2 : Int), cs2[(Int.toNat n1)]? = some (.int .i64 n2) ∧
  C.inode_within n2 0 4294967295 h4 fun r2 h5 =>
  ∃ (b1 : Bool), r2 = .bool b1 ∧
  bif (!b1) then (
  K (.bool false) h5) else (
  I1 (IntKind.wrap .i64 (n1 + 1)) h5 ∧ M1 (IntKind.wrap .i64 (n1 + 1)) h5 < M1 n1 h4)) else (
  ∃ (n3 : Int), cellOf h4 (Addr.add ⟨h1.size, 0, none⟩ 0) = some (.int .i64 n3) ∧
  bif (n3 == 0) then (
  ∃ cs3 : List Value, List.length cs3 = 15 ∧ Cells h4 ⟨h1.size, 0, none⟩ cs3 ∧
  pairsOk [(.int .i64), (.int .i64), (.int .i64), (.int .i64), (.int .i64), (.int .i64), (.int .i64), (.int .i64), (.int .i64), (.int .i64), (.int .i64), (.int .i64), (.int .i64), (.int .i64), (.int .i64)] cs3 [.int .i64 0, .int .i64 0, .int .i64 0, .int .i64 0, .int .i64 0, .int .i64 0, .int .i64 0, .int .i64 0, .int .i64 0, .int .i64 0, .int .i64 0, .int .i64 0, .int .i64 0, .int .i64 0, .int .i64 0] = true ∧
  K (.bool (cellsEq cs3 [.int .i64 0, .int .i64 0, .int .i64 0, .int .i64 0, .int .i64 0, .int .i64 0, .int .i64 0, .int .i64 0, .int .i64 0, .int .i64 0, .int .i64 0, .int .i64 0, .int .i64 0, .int .i64 0, .int .i64 0])) h4) else (
  bif (n3 == 1) then (
  ∃ (n4 : Int), cellOf h4 (Addr.add ⟨h1.size, 0, none⟩ 1) = some (.int .i64 n4) ∧
  C.inode_within n4 0 1000 h4 fun r3 h6 =>
  ∃ (b2 : Bool), r3 = .bool b2 ∧
  bif b2 then (
  ∃ (n5 : Int), cellOf h6 (Addr.add ⟨h1.size, 0, none⟩ 2) = some (.int .i64 n5) ∧
  C.inode_within n5 0 8459264 h6 fun r4 h7 =>
  ∃ (b3 : Bool), r4 = .bool b3 ∧
  K (.bool b3) h7) else (
  K (.bool false) h6)) else (
  bif (n3 == 2) then (
  ∃ (n6 : Int), cellOf h4 (Addr.add ⟨h1.size, 0, none⟩ 1) = some (.int .i64 n6) ∧
  C.inode_within n6 2 65535 h4 fun r5 h8 =>
  ∃ (b4 : Bool), r5 = .bool b4 ∧
  bif b4 then (
  ∃ (n7 : Int), cellOf h8 (Addr.add ⟨h1.size, 0, none⟩ 2) = some (.int .i64 n7) ∧
  C.inode_within n7 0 8459264 h8 fun r6 h9 =>
  ∃ (b5 : Bool), r6 = .bool b5 ∧
  bif b5 then (
  ∃ (n8 : Int), cellOf h9 (Addr.add ⟨h1.size, 0, none⟩ 2) = some (.int .i64 n8) ∧
  K (.bool ((Int.tmod n8 512) == 0)) h9) else (
  K (.bool false) h9)) else (
  K (.bool false) h8)) else (
  bif (n3 == 3) then (
  ∃ (n9 : Int), cellOf h4 (Addr.add ⟨h1.size, 0, none⟩ 1) = some (.int .i64 n9) ∧
  C.inode_within n9 1 1000 h4 fun r7 h10 =>
  ∃ (b6 : Bool), r7 = .bool b6 ∧
  bif b6 then (
  ∃ (n10 : Int), cellOf h10 (Addr.add ⟨h1.size, 0, none⟩ 2) = some (.int .i64 n10) ∧
  C.inode_within n10 1 1024 h10 fun r8 h11 =>
  ∃ (b7 : Bool), r8 = .bool b7 ∧
  K (.bool b7) h11) else (
  K (.bool false) h10)) else (
  K (.bool false) h4)))))
def inode_may.lo : Nat → List Nat × List (Nat × Ty) := fun n => match n with | 2 => ([1, 6], [(7, .int .i64)]) | _ => ([], [])
def inode_may.od : Nat → Od := fun n => match n with | _ => .nil
set_option maxRecDepth 1000000 in
theorem inode_may.eq (x1 : List Value) (K : Value → Heap → Prop) (h : Heap) : fnX (cx inode_may.lo inode_may.od) Tryz.f153 (Tryz.f153.body.getD .skip) [.agg ⟨x1⟩] K h = inode_may x1 K h := by kernel_rfl
theorem inode_may.chk : fnOk (cx inode_may.lo inode_may.od) Tryz.f153 (Tryz.f153.body.getD .skip) 1 = true := by kernel_rfl
set_option maxRecDepth 1000000 in
theorem inode_may.ok {x1 : List Value} {K : Value → Heap → Prop} {h : Heap} (hx : inode_may x1 K h) : C.inode_may x1 h K :=
  fn_to (cxOk _ _) Tryz.func153 (by kernel_rfl) inode_may.chk (by rw [inode_may.eq]; exact hx)
def inode_numbers (x1 : List Value) (K : Value → Heap → Prop) (h1 : Heap) : Prop :=
  New x1 44 h1 fun h2 =>
  New z238 238 h2 fun h3 =>
  New z238 238 h3 fun h4 =>
  CopyP ti3 (some ⟨h3.size, 0, none⟩) 12 (.slice (some (Addr.add ⟨h1.size, 0, none⟩ 3)) 10 10) h4 fun n1 h5 =>
  ∃ (n2 : Int), cellOf h5 (Addr.add ⟨h1.size, 0, none⟩ 13) = some (.int .i64 n2) ∧
  ∃ (n3 : Int), cellOf h5 (Addr.add ⟨h1.size, 0, none⟩ 14) = some (.int .i64 n3) ∧
  (0 ≤ (10 : Int) ∧ 10 < (12 : Int)) ∧
  Put (Addr.add ⟨h3.size, 0, none⟩ (Int.toNat 10)) (.int .i64 n2) h5 fun h6 =>
  (0 ≤ (11 : Int) ∧ 11 < (12 : Int)) ∧
  Put (Addr.add ⟨h3.size, 0, none⟩ (Int.toNat 11)) (.int .i64 n3) h6 fun h7 =>
  ∃ cs1 : List Value, List.length cs1 = 12 ∧ Cells h7 ⟨h3.size, 0, none⟩ cs1 ∧
  PutRow ⟨h2.size, 0, none⟩ cs1 12 h7 fun h8 =>
  ∃ res1 : List Value, List.length res1 = 12 ∧ Cells h8 ⟨h2.size, 0, none⟩ res1 ∧
  K (.agg ⟨res1⟩) h8
def inode_numbers.lo : Nat → List Nat × List (Nat × Ty) := fun n => match n with | _ => ([], [])
def inode_numbers.od : Nat → Od := fun n => match n with | 2 => (.op 0 [] (.op 1 [] (.op 2 [] (.op 3 [] .nil)))) | _ => .nil
theorem inode_numbers.eq (x1 : List Value) (K : Value → Heap → Prop) (h : Heap) : fnX (cx inode_numbers.lo inode_numbers.od) Tryz.f154 (Tryz.f154.body.getD .skip) [.agg ⟨x1⟩] K h = inode_numbers x1 K h := by kernel_rfl
theorem inode_numbers.chk : fnOk (cx inode_numbers.lo inode_numbers.od) Tryz.f154 (Tryz.f154.body.getD .skip) 1 = true := by kernel_rfl
theorem inode_numbers.ok {x1 : List Value} {K : Value → Heap → Prop} {h : Heap} (hx : inode_numbers x1 K h) : C.inode_numbers x1 h K :=
  fn_to (cxOk _ _) Tryz.func154 (by kernel_rfl) inode_numbers.chk (by rw [inode_numbers.eq]; exact hx)
def geo_Record.k1 (n1 : Int) (h1 : Heap) (h2 : Heap) (K : Value → Heap → Prop) : Prop :=
  ∃ (n3 : Int), cellOf h2 (Addr.add ⟨h1.size, 0, none⟩ 2) = some (.int .i64 n3) ∧
  K (.tuple #[.int .i64 (IntKind.wrap .i64 (n3 + (IntKind.wrap .i64 (Int.tdiv n1 8)))), .int .i64 (IntKind.wrap .i64 ((Int.tmod n1 8) * 64)), .int .i64 0]) h2
def geo_Record (g1 : List Value) (n1 : Int) (K : Value → Heap → Prop) (h1 : Heap) : Prop :=
  New g1 25 h1 fun h2 =>
  bif (decide (n1 < 1)) then (
  K (.tuple #[.int .i64 0, .int .i64 0, .int .i64 110]) h2) else (
  ∃ (n2 : Int), cellOf h2 (Addr.add ⟨h1.size, 0, none⟩ 4) = some (.int .i64 n2) ∧
  bif (decide (n1 ≥ n2)) then (
  K (.tuple #[.int .i64 0, .int .i64 0, .int .i64 110]) h2) else (
  geo_Record.k1 n1 h1 h2 K))
def geo_Record.lo : Nat → List Nat × List (Nat × Ty) := fun n => match n with | _ => ([], [])
def geo_Record.od : Nat → Od := fun n => match n with | _ => .nil
theorem geo_Record.eq (g1 : List Value) (n1 : Int) (K : Value → Heap → Prop) (h : Heap) : fnX (cx geo_Record.lo geo_Record.od) Tryz.f155 (Tryz.f155.body.getD .skip) [.agg ⟨g1⟩, .int .i64 n1] K h = geo_Record g1 n1 K h := by kernel_rfl
theorem geo_Record.chk : fnOk (cx geo_Record.lo geo_Record.od) Tryz.f155 (Tryz.f155.body.getD .skip) 2 = true := by kernel_rfl
theorem geo_Record.ok {g1 : List Value} {n1 : Int} {K : Value → Heap → Prop} {h : Heap} (hx : geo_Record g1 n1 K h) : C.geo_Record g1 n1 h K :=
  fn_to (cxOk _ _) Tryz.func155 (by kernel_rfl) geo_Record.chk (by rw [geo_Record.eq]; exact hx)
def bits_Put (bA1 : Option Addr) (bL1 : Nat) (bC1 : Nat) (i1 : Int) (is1 : Bool) (K : Value → Heap → Prop) (h1 : Heap) : Prop :=
  C.bits_has bA1 bL1 bC1 i1 h1 fun r1 h2 =>
  ∃ (b1 : Bool), r1 = .bool b1 ∧
  bif (!b1) then (
  K (.int .i64 80) h2) else (
  bif is1 then (
  (0 ≤ (IntKind.wrap .i64 (Int.tdiv i1 8)) ∧ (IntKind.wrap .i64 (Int.tdiv i1 8)) < (bL1 : Int)) ∧
  onSome bA1 fun p1 =>
  ∃ (n1 : Int), cellOf h2 (Addr.add p1 (Int.toNat (IntKind.wrap .i64 (Int.tdiv i1 8)))) = some (.int .u8 n1) ∧
  if (Int.tmod i1 8) < 0 then False else
  (0 ≤ (IntKind.wrap .i64 (Int.tdiv i1 8)) ∧ (IntKind.wrap .i64 (Int.tdiv i1 8)) < (bL1 : Int)) ∧
  onSome bA1 fun p2 =>
  Put (Addr.add p2 (Int.toNat (IntKind.wrap .i64 (Int.tdiv i1 8)))) (.int .u8 (bitsI .or .u8 n1 (IntKind.wrap .u8 ((1 * 2 ^ min (Int.toNat (Int.tmod i1 8)) 8))))) h2 fun h3 =>
  K (.int .i64 0) h3) else (
  (0 ≤ (IntKind.wrap .i64 (Int.tdiv i1 8)) ∧ (IntKind.wrap .i64 (Int.tdiv i1 8)) < (bL1 : Int)) ∧
  onSome bA1 fun p3 =>
  ∃ (n2 : Int), cellOf h2 (Addr.add p3 (Int.toNat (IntKind.wrap .i64 (Int.tdiv i1 8)))) = some (.int .u8 n2) ∧
  if (Int.tmod i1 8) < 0 then False else
  (0 ≤ (IntKind.wrap .i64 (Int.tdiv i1 8)) ∧ (IntKind.wrap .i64 (Int.tdiv i1 8)) < (bL1 : Int)) ∧
  onSome bA1 fun p4 =>
  Put (Addr.add p4 (Int.toNat (IntKind.wrap .i64 (Int.tdiv i1 8)))) (.int .u8 (bitsI .andNot .u8 n2 (IntKind.wrap .u8 ((1 * 2 ^ min (Int.toNat (Int.tmod i1 8)) 8))))) h2 fun h4 =>
  K (.int .i64 0) h4))
def bits_Put.lo : Nat → List Nat × List (Nat × Ty) := fun n => match n with | _ => ([], [])
def bits_Put.od : Nat → Od := fun n => match n with | 4 => (.op 0 [] (.op 1 [] (.op 2 [] (.op 3 [] (.op 4 [] (.op 5 [] (.op 6 [] (.op 7 [] (.op 8 [] (.op 9 [] (.op 10 [] .nil))))))))))) | 5 => (.op 0 [] (.op 1 [] (.op 2 [] (.op 3 [] (.op 4 [] (.op 5 [] (.op 6 [] (.op 7 [] (.op 8 [] (.op 9 [] (.op 10 [] .nil))))))))))) | _ => .nil
theorem bits_Put.eq (bA1 : Option Addr) (bL1 : Nat) (bC1 : Nat) (i1 : Int) (is1 : Bool) (K : Value → Heap → Prop) (h : Heap) : fnX (cx bits_Put.lo bits_Put.od) Tryz.f157 (Tryz.f157.body.getD .skip) [.slice bA1 bL1 bC1, .int .i64 i1, .bool is1] K h = bits_Put bA1 bL1 bC1 i1 is1 K h := by kernel_rfl
theorem bits_Put.chk : fnOk (cx bits_Put.lo bits_Put.od) Tryz.f157 (Tryz.f157.body.getD .skip) 3 = true := by kernel_rfl
theorem bits_Put.ok {bA1 : Option Addr} {bL1 : Nat} {bC1 : Nat} {i1 : Int} {is1 : Bool} {K : Value → Heap → Prop} {h : Heap} (hx : bits_Put bA1 bL1 bC1 i1 is1 K h) : C.bits_Put bA1 bL1 bC1 i1 is1 h K :=
  fn_to (cxOk _ _) Tryz.func157 (by kernel_rfl) bits_Put.chk (by rw [bits_Put.eq]; exact hx)
def rec_isWidth (n1 : Int) (K : Value → Heap → Prop) (h1 : Heap) : Prop :=
  bif (decide (n1 ≥ 0)) then (
  bif (decide (n1 < 9)) then (
  (0 ≤ n1 ∧ n1 < (9 : Int)) ∧
  ∃ (b1 : Bool), cellOf h1 (Addr.add ⟨0, 0, none⟩ (Int.toNat n1)) = some (.bool b1) ∧
  K (.bool b1) h1) else (
  K (.bool false) h1)) else (
  K (.bool false) h1)
def rec_isWidth.lo : Nat → List Nat × List (Nat × Ty) := fun n => match n with | _ => ([], [])
def rec_isWidth.od : Nat → Od := fun n => match n with | _ => .nil
theorem rec_isWidth.eq (n1 : Int) (K : Value → Heap → Prop) (h : Heap) : fnX (cx rec_isWidth.lo rec_isWidth.od) Tryz.f158 (Tryz.f158.body.getD .skip) [.int .i64 n1] K h = rec_isWidth n1 K h := by kernel_rfl
theorem rec_isWidth.chk : fnOk (cx rec_isWidth.lo rec_isWidth.od) Tryz.f158 (Tryz.f158.body.getD .skip) 1 = true := by kernel_rfl
theorem rec_isWidth.ok {n1 : Int} {K : Value → Heap → Prop} {h : Heap} (hx : rec_isWidth n1 K h) : C.rec_isWidth n1 h K :=
  fn_to (cxOk _ _) Tryz.func158 (by kernel_rfl) rec_isWidth.chk (by rw [rec_isWidth.eq]; exact hx)
def rec_lie (bA1 : Option Addr) (bL1 : Nat) (bC1 : Nat) (at1 : Int) (n1 : Int) (K : Value → Heap → Prop) (h1 : Heap) : Prop :=
  bif (decide (at1 ≥ 0)) then (
  bif (decide (n1 ≥ 0)) then (
  bif (decide (at1 ≤ (bL1 : Int))) then (
  K (.bool (decide (n1 ≤ (IntKind.wrap .i64 ((bL1 : Int) - at1))))) h1) else (
  K (.bool false) h1)) else (
  K (.bool false) h1)) else (
  K (.bool false) h1)
def rec_lie.lo : Nat → List Nat × List (Nat × Ty) := fun n => match n with | _ => ([], [])
def rec_lie.od : Nat → Od := fun n => match n with | _ => .nil
theorem rec_lie.eq (bA1 : Option Addr) (bL1 : Nat) (bC1 : Nat) (at1 : Int) (n1 : Int) (K : Value → Heap → Prop) (h : Heap) : fnX (cx rec_lie.lo rec_lie.od) Tryz.f159 (Tryz.f159.body.getD .skip) [.slice bA1 bL1 bC1, .int .i64 at1, .int .i64 n1] K h = rec_lie bA1 bL1 bC1 at1 n1 K h := by kernel_rfl
theorem rec_lie.chk : fnOk (cx rec_lie.lo rec_lie.od) Tryz.f159 (Tryz.f159.body.getD .skip) 3 = true := by kernel_rfl
theorem rec_lie.ok {bA1 : Option Addr} {bL1 : Nat} {bC1 : Nat} {at1 : Int} {n1 : Int} {K : Value → Heap → Prop} {h : Heap} (hx : rec_lie bA1 bL1 bC1 at1 n1 K h) : C.rec_lie bA1 bL1 bC1 at1 n1 h K :=
  fn_to (cxOk _ _) Tryz.func159 (by kernel_rfl) rec_lie.chk (by rw [rec_lie.eq]; exact hx)
end Go.Proofs.YtcdpakjhjmchhaaGreatDoor.W
namespace Go.Proofs.YtcdpakjhjmchhaaGreatDoor.W
open Go Go.Proofs Go.Proofs.YtcdpakjhjmchhaaGreatDoor.Wx
def boleref11_within (n1 : Int) (low1 : Int) (high1 : Int) (K : Value → Heap → Prop) (h1 : Heap) : Prop :=
  bif (decide (n1 ≥ low1)) then (
  K (.bool (decide (n1 ≤ high1))) h1) else (
  K (.bool false) h1)
def boleref11_within.lo : Nat → List Nat × List (Nat × Ty) := fun n => match n with | _ => ([], [])
def boleref11_within.od : Nat → Od := fun n => match n with | _ => .nil
theorem boleref11_within.eq (n1 : Int) (low1 : Int) (high1 : Int) (K : Value → Heap → Prop) (h : Heap) : fnX (cx boleref11_within.lo boleref11_within.od) Tryz.f167 (Tryz.f167.body.getD .skip) [.int .i64 n1, .int .i64 low1, .int .i64 high1] K h = boleref11_within n1 low1 high1 K h := by kernel_rfl
theorem boleref11_within.chk : fnOk (cx boleref11_within.lo boleref11_within.od) Tryz.f167 (Tryz.f167.body.getD .skip) 3 = true := by kernel_rfl
theorem boleref11_within.ok {n1 : Int} {low1 : Int} {high1 : Int} {K : Value → Heap → Prop} {h : Heap} (hx : boleref11_within n1 low1 high1 K h) : C.boleref11_within n1 low1 high1 h K :=
  fn_to (cxOk _ _) Tryz.func167 (by kernel_rfl) boleref11_within.chk (by rw [boleref11_within.eq]; exact hx)
def boleref11_low (n1 : Int) (bytes1 : Int) (K : Value → Heap → Prop) (h1 : Heap) : Prop :=
  ∃ (I1 : Int → Option Addr → Nat → Nat → Int → Heap → Prop) (M1 : Int → Option Addr → Nat → Nat → Int → Heap → Nat), I1 n1 none 0 0 0 h1 ∧
  ∀ (n2 : Int) (bA1 : Option Addr) (bL1 : Nat) (bC1 : Nat) (i1 : Int), ∀ h2 : Heap, I1 n2 bA1 bL1 bC1 i1 h2 →
  bif (decide (i1 < bytes1)) then (
  New [.int .u8 (IntKind.wrap .u8 ((Int.tmod n2 256)))] 5 h2 fun h3 =>
  ∃ new1 : List Value, List.length new1 = 1 * 1 ∧ SlCells h3 (some ⟨h2.size, 0, none⟩) new1 ∧ (∀ v ∈ new1, v.oneCell' = true) ∧
  AppendP ti5 5 bA1 bL1 bC1 1 new1 h3 fun sA1 sL1 sC1 h4 =>
  I1 (IntKind.wrap .i64 (Int.tdiv n2 256)) sA1 sL1 sC1 (IntKind.wrap .i64 (i1 + 1)) h4 ∧ M1 (IntKind.wrap .i64 (Int.tdiv n2 256)) sA1 sL1 sC1 (IntKind.wrap .i64 (i1 + 1)) h4 < M1 n2 bA1 bL1 bC1 i1 h2) else (
  K (.slice bA1 bL1 bC1) h2)
def boleref11_low.lo : Nat → List Nat × List (Nat × Ty) := fun n => match n with | 3 => ([1], [(0, .int .i64), (5, .slice), (6, .int .i64)]) | _ => ([], [])
def boleref11_low.od : Nat → Od := fun n => match n with | _ => .nil
theorem boleref11_low.eq (n1 : Int) (bytes1 : Int) (K : Value → Heap → Prop) (h : Heap) : fnX (cx boleref11_low.lo boleref11_low.od) Tryz.f168 (Tryz.f168.body.getD .skip) [.int .i64 n1, .int .i64 bytes1] K h = boleref11_low n1 bytes1 K h := by kernel_rfl
theorem boleref11_low.chk : fnOk (cx boleref11_low.lo boleref11_low.od) Tryz.f168 (Tryz.f168.body.getD .skip) 2 = true := by kernel_rfl
theorem boleref11_low.ok {n1 : Int} {bytes1 : Int} {K : Value → Heap → Prop} {h : Heap} (hx : boleref11_low n1 bytes1 K h) : C.boleref11_low n1 bytes1 h K :=
  fn_to (cxOk _ _) Tryz.func168 (by kernel_rfl) boleref11_low.chk (by rw [boleref11_low.eq]; exact hx)
def inode_Decode_c1 (at1 : Int) (n1 : Int) (cap1 : Option Addr) (K : Value → Heap → Prop) (h1 : Heap) : Prop :=
  onSome cap1 fun p1 =>
  ∃ (sA1 : Option Addr) (sL1 : Nat) (sC1 : Nat), cellOf h1 p1 = some (.slice sA1 sL1 sC1) ∧
  C.rec_Get sA1 sL1 sC1 at1 n1 h1 fun r1 h2 =>
  ∃ (n2 : Int) (n3 : Int), r1 = .tuple #[.int .u64 n2, .int .i64 n3] ∧
  K (.int .i64 (IntKind.wrap .i64 (n2))) h2
def inode_Decode_c1.lo : Nat → List Nat × List (Nat × Ty) := fun n => match n with | _ => ([], [])
def inode_Decode_c1.od : Nat → Od := fun n => match n with | _ => .nil
theorem inode_Decode_c1.eq (at1 : Int) (n1 : Int) (cap1 : Option Addr) (K : Value → Heap → Prop) (h : Heap) : fnX (cx inode_Decode_c1.lo inode_Decode_c1.od) Tryz.f169 (Tryz.f169.body.getD .skip) [.int .i64 at1, .int .i64 n1, .pointer cap1] K h = inode_Decode_c1 at1 n1 cap1 K h := by kernel_rfl
theorem inode_Decode_c1.chk : fnOk (cx inode_Decode_c1.lo inode_Decode_c1.od) Tryz.f169 (Tryz.f169.body.getD .skip) 3 = true := by kernel_rfl
theorem inode_Decode_c1.ok {at1 : Int} {n1 : Int} {cap1 : Option Addr} {K : Value → Heap → Prop} {h : Heap} (hx : inode_Decode_c1 at1 n1 cap1 K h) : C.inode_Decode_c1 at1 n1 cap1 h K :=
  fn_to (cxOk _ _) Tryz.func169 (by kernel_rfl) inode_Decode_c1.chk (by rw [inode_Decode_c1.eq]; exact hx)
def rec_Zero (bA1 : Option Addr) (bL1 : Nat) (bC1 : Nat) (at1 : Int) (n1 : Int) (K : Value → Heap → Prop) (h1 : Heap) : Prop :=
  bif (decide (n1 < 0)) then (
  K (.tuple #[.bool false, .int .i64 1]) h1) else (
  C.rec_lie bA1 bL1 bC1 at1 n1 h1 fun r1 h2 =>
  ∃ (b1 : Bool), r1 = .bool b1 ∧
  bif (!b1) then (
  K (.tuple #[.bool false, .int .i64 20]) h2) else (
  (0 ≤ at1 ∧ at1 ≤ (IntKind.wrap .i64 (at1 + n1)) ∧ (IntKind.wrap .i64 (at1 + n1)) ≤ (bC1 : Int)) ∧
  C.rec_zeros (if bC1 = (Int.toNat at1) then bA1 else Option.map (Addr.add · (Int.toNat at1)) bA1) ((Int.toNat (IntKind.wrap .i64 (at1 + n1))) - (Int.toNat at1)) (bC1 - (Int.toNat at1)) h2 fun r2 h3 =>
  ∃ (b2 : Bool), r2 = .bool b2 ∧
  K (.tuple #[.bool b2, .int .i64 0]) h3))
def rec_Zero.lo : Nat → List Nat × List (Nat × Ty) := fun n => match n with | _ => ([], [])
def rec_Zero.od : Nat → Od := fun n => match n with | _ => .nil
theorem rec_Zero.eq (bA1 : Option Addr) (bL1 : Nat) (bC1 : Nat) (at1 : Int) (n1 : Int) (K : Value → Heap → Prop) (h : Heap) : fnX (cx rec_Zero.lo rec_Zero.od) Tryz.f170 (Tryz.f170.body.getD .skip) [.slice bA1 bL1 bC1, .int .i64 at1, .int .i64 n1] K h = rec_Zero bA1 bL1 bC1 at1 n1 K h := by kernel_rfl
theorem rec_Zero.chk : fnOk (cx rec_Zero.lo rec_Zero.od) Tryz.f170 (Tryz.f170.body.getD .skip) 3 = true := by kernel_rfl
theorem rec_Zero.ok {bA1 : Option Addr} {bL1 : Nat} {bC1 : Nat} {at1 : Int} {n1 : Int} {K : Value → Heap → Prop} {h : Heap} (hx : rec_Zero bA1 bL1 bC1 at1 n1 K h) : C.rec_Zero bA1 bL1 bC1 at1 n1 h K :=
  fn_to (cxOk _ _) Tryz.func170 (by kernel_rfl) rec_Zero.chk (by rw [rec_Zero.eq]; exact hx)
def rec_zeros (bA1 : Option Addr) (bL1 : Nat) (bC1 : Nat) (K : Value → Heap → Prop) (h1 : Heap) : Prop :=
  ∃ (I1 : Int → Heap → Prop) (M1 : Int → Heap → Nat), I1 0 h1 ∧
  ∀ (n1 : Int), ∀ h2 : Heap, I1 n1 h2 →
  bif (decide (n1 < (bL1 : Int))) then (
  (0 ≤ n1 ∧ n1 < (bL1 : Int)) ∧
  onSome bA1 fun p1 =>
  ∃ (n2 : Int), cellOf h2 (Addr.add p1 (Int.toNat n1)) = some (.int .u8 n2) ∧
  bif (n2 != 0) then (
  K (.bool false) h2) else (
  I1 (IntKind.wrap .i64 (n1 + 1)) h2 ∧ M1 (IntKind.wrap .i64 (n1 + 1)) h2 < M1 n1 h2)) else (
  K (.bool true) h2)
def rec_zeros.lo : Nat → List Nat × List (Nat × Ty) := fun n => match n with | 2 => ([5, 6], [(7, .int .i64)]) | _ => ([], [])
def rec_zeros.od : Nat → Od := fun n => match n with | _ => .nil
theorem rec_zeros.eq (bA1 : Option Addr) (bL1 : Nat) (bC1 : Nat) (K : Value → Heap → Prop) (h : Heap) : fnX (cx rec_zeros.lo rec_zeros.od) Tryz.f182 (Tryz.f182.body.getD .skip) [.slice bA1 bL1 bC1] K h = rec_zeros bA1 bL1 bC1 K h := by kernel_rfl
theorem rec_zeros.chk : fnOk (cx rec_zeros.lo rec_zeros.od) Tryz.f182 (Tryz.f182.body.getD .skip) 1 = true := by kernel_rfl
theorem rec_zeros.ok {bA1 : Option Addr} {bL1 : Nat} {bC1 : Nat} {K : Value → Heap → Prop} {h : Heap} (hx : rec_zeros bA1 bL1 bC1 K h) : C.rec_zeros bA1 bL1 bC1 h K :=
  fn_to (cxOk _ _) Tryz.func182 (by kernel_rfl) rec_zeros.chk (by rw [rec_zeros.eq]; exact hx)
end Go.Proofs.YtcdpakjhjmchhaaGreatDoor.W
namespace Go.Proofs.YtcdpakjhjmchhaaGreatDoor.Su
end Go.Proofs.YtcdpakjhjmchhaaGreatDoor.Su
namespace Go.Proofs.YtcdpakjhjmchhaaGreatDoor.Re
open Go Go.Proofs Go.Proofs.YtcdpakjhjmchhaaGreatDoor.Wx Go.Proofs.YtcdpakjhjmchhaaGreatDoor.Hp Go.Proofs.YtcdpakjhjmchhaaGreatDoor.W
def widthsL : List Bool := [false, true, true, false, true, false, false, false, true]
def Wide (h : Heap) : Prop := rd h 0 = widthsL.map .bool
theorem Wide.lt {h : Heap} (g : Wide h) : 0 < h.size := rd_lt (show (rd h 0)[0]? = some (.bool false) by rw [g]; rfl)
theorem Wide.fr {h h' : Heap} {F : Nat → Prop} (g : Wide h) (f : Fr F h h') (hF : ¬ F 0) : Wide h' := (f.rd g.lt hF).trans g
theorem lie_spec {a : Option Addr} {l c : Nat} {at_ n : Int} {h : Heap} {K : Value → Heap → Prop} (hl : l ≤ 140737488355328) (h0 : 0 ≤ at_) (h1 : 0 ≤ n) (h2 : at_ + n ≤ l) (hK : K (.bool true) h) : C.rec_lie a l c at_ n h K := by
  refine rec_lie.ok (ct (decide_eq_true h0) (ct (decide_eq_true h1) (ct (decide_eq_true (by omega)) ?_)))
  rw [wrap_i64 (by omega) (by omega), decide_eq_true (by omega)]; exact hK
/-- bytes as a number, the lowest one first -/
def leN : List UInt8 → Nat
  | [] => 0
  | b :: r => b.toNat + 256 * leN r
theorem leN_lt : ∀ bs : List UInt8, leN bs < 256 ^ bs.length := by
  intro bs
  induction bs with
  | nil => exact Nat.one_pos
  | cons b r ih =>
    have hb : b.toNat < 256 := b.toNat_lt
    rw [leN, List.length_cons, Nat.pow_succ]; omega
theorem leN_snoc (bs : List UInt8) (b : UInt8) : leN (bs ++ [b]) = leN bs + b.toNat * 256 ^ bs.length := by
  induction bs with
  | nil => simp [leN]
  | cons x r ih => rw [List.cons_append, leN, ih, leN, List.length_cons, Nat.pow_succ, Nat.mul_add]; simp only [Nat.mul_comm, Nat.mul_left_comm, Nat.mul_assoc, Nat.add_assoc]
theorem pow_256 (k : Nat) : 256 ^ k = 2 ^ (8 * k) := by rw [Nat.pow_mul]
theorem or_step {v : Nat} {b : UInt8} {k : Nat} (hk : k < 8) (hv : v < 256 ^ k) :
    bitsI .or .u64 (v : Int) (IntKind.wrap .u64 ((IntKind.wrap .u64 (b.toNat : Int)) * 2 ^ min (Int.toNat (IntKind.wrap .i64 (8 * (k : Int)))) 64)) = ((v + b.toNat * 256 ^ k : Nat) : Int) := by
  have hb : b.toNat < 256 := b.toNat_lt
  have wu : ∀ n : Nat, n < 18446744073709551616 → IntKind.wrap .u64 (n : Int) = (n : Int) := fun n h => by
    show (n : Int) % 18446744073709551616 = n
    exact Int.emod_eq_of_lt (by omega) (by omega)
  rw [wrap_i64 (by omega) (by omega), wu _ (by omega)]
  have e1 : min (Int.toNat (8 * (k : Int))) 64 = 8 * k := by omega
  rw [e1]
  have hp : 256 ^ k ≤ 256 ^ 7 := Nat.pow_le_pow_right (by decide) (by omega)
  have hp1 : 256 ^ (k + 1) ≤ 256 ^ 8 := Nat.pow_le_pow_right (by decide) (by omega)
  have hsum : v + b.toNat * 256 ^ k < 256 ^ (k + 1) := by
    rw [Nat.pow_succ]
    have : b.toNat * 256 ^ k ≤ 255 * 256 ^ k := Nat.mul_le_mul_right _ (by omega)
    omega
  have e8 : (256 : Nat) ^ 8 = 18446744073709551616 := by decide
  have e2 : ((b.toNat : Int) * 2 ^ (8 * k)) = ((b.toNat * 256 ^ k : Nat) : Int) := by rw [pow_256]; simp
  rw [e2, wu _ (by omega)]
  show IntKind.wrap .u64 (((BitVec.ofInt 64 (v : Int) ||| BitVec.ofInt 64 ((b.toNat * 256 ^ k : Nat) : Int)).toNat : Nat) : Int) = _
  rw [BitVec.toNat_or, BitVec.ofInt_natCast, BitVec.ofInt_natCast, BitVec.toNat_ofNat, BitVec.toNat_ofNat, Nat.mod_eq_of_lt (by omega), Nat.mod_eq_of_lt (by omega)]
  have e3 : v ||| b.toNat * 256 ^ k = v + b.toNat * 256 ^ k := by
    rw [Nat.or_comm, pow_256, Nat.mul_comm, ← Nat.two_pow_add_eq_or_of_lt (by rw [← pow_256]; exact hv)]
    omega
  rw [e3, wu _ (by omega)]
/-- bytes over bytes -/
def putU (xs : List UInt8) (o : Nat) (ys : List UInt8) : List UInt8 := xs.take o ++ ys ++ xs.drop (o + ys.length)
theorem putU_length {xs ys : List UInt8} {o : Nat} (h : o + ys.length ≤ xs.length) : (putU xs o ys).length = xs.length := by
  simp only [putU, List.length_append, List.length_take, List.length_drop]; omega
theorem putU_put {xs ys : List UInt8} {o : Nat} (h : o + ys.length ≤ xs.length) : put (xs.map bv) o (ys.map bv) = (putU xs o ys).map bv := by
  rw [put_eq _ _ _ (by rw [List.length_map, List.length_map]; exact h)]
  simp only [putU, List.map_append, List.map_take, List.map_drop, List.length_map]
theorem putU_nil (xs : List UInt8) (o : Nat) : putU xs o [] = xs := by simp [putU]
theorem putU_app (xs ys zs : List UInt8) (ys' : List UInt8) (h : ys'.length = ys.length) : putU (xs ++ ys ++ zs) xs.length ys' = xs ++ ys' ++ zs := by
  have e1 : (xs ++ ys ++ zs).take xs.length = xs := by rw [List.append_assoc, List.take_left]
  have e2 : (xs ++ ys ++ zs).drop (xs.length + ys.length) = zs := by rw [← List.length_append, List.drop_left]
  rw [putU, h, e1, e2]
/-- a number as n bytes, the lowest first -/
def leBs (n v : Nat) : List UInt8 := (List.range n).map fun k => UInt8.ofNat (v / 256 ^ k)
theorem leB_length (n v : Nat) : (leBs n v).length = n := by rw [leBs, List.length_map, List.length_range]
theorem byte_of (v k : Nat) (hk : k < 8) : (Value.int .u8 (IntKind.wrap .u8 (Int.fdiv (v : Int) (2 ^ min (Int.toNat (IntKind.wrap .i64 (8 * (k : Int)))) 64)))) = bv (UInt8.ofNat (v / 256 ^ k)) := by
  rw [wrap_i64 (by omega) (by omega), show min (Int.toNat (8 * (k : Int))) 64 = 8 * k by omega]
  have e : Int.fdiv (v : Int) (2 ^ (8 * k)) = ((v / 256 ^ k : Nat) : Int) := by
    rw [pow_256, Int.fdiv_eq_ediv_of_nonneg _ (by exact Int.le_of_lt (Int.pow_pos (by decide)))]
    simp
  rw [e]
  show Value.int .u8 (((v / 256 ^ k : Nat) : Int) % 256) = Value.int .u8 ((UInt8.ofNat (v / 256 ^ k)).toNat : Int)
  rw [UInt8.toNat_ofNat']
  simp
def allZero (bs : List UInt8) : Bool := bs.all (· == 0)
theorem zeros_spec {a : Option Addr} {l c : Nat} {bs : List UInt8} {h : Heap} {K : Value → Heap → Prop} (B : StrAt h a l bs) (hl : l ≤ 140737488355328) (hK : K (.bool (allZero bs)) h) : C.rec_zeros a l c h K := by
  have hb := B.1
  refine rec_zeros.ok ⟨fun n hh => 0 ≤ n ∧ n ≤ l ∧ h = hh ∧ allZero bs = allZero (bs.drop n.toNat), fun n _ => ((l : Int) - n).toNat, ⟨by omega, by omega, rfl, rfl⟩, ?_⟩
  rintro n _ ⟨n0, n1, rfl, e⟩
  refine cd (fun hn => ?_) fun hn => ?_
  · have hn' : n.toNat < bs.length := by omega
    obtain ⟨_, B2⟩ := B
    have ed : allZero (bs.drop n.toNat) = (bs[n.toNat] == 0 && allZero (bs.drop (n.toNat + 1))) := by rw [List.drop_eq_getElem_cons hn']; rfl
    cases a with
    | none => have B2 : bs.map bv = [] := B2; have := List.map_eq_nil_iff.mp B2; rw [this] at hn'; exact absurd hn' (by simp)
    | some p =>
      refine ⟨⟨n0, hn⟩, os ⟨_, B2 n.toNat (bv bs[n.toNat]) (by rw [List.getElem?_map, List.getElem?_eq_getElem hn']; rfl), cn (fun x => ?_) fun x => ?_⟩⟩
      · have : (bs[n.toNat] == 0) = false := by
          rw [beq_eq_false_iff_ne]; intro e0; rw [e0] at x; exact x rfl
        rw [e, ed, this] at hK; exact hK
      · have : (bs[n.toNat] == 0) = true := by
          rw [beq_iff_eq]; exact UInt8.toNat_inj.mp (by have x : ((bs[n.toNat].toNat : Nat) : Int) = 0 := x; show _ = 0; omega)
        rw [wrap_i64 (by omega) (by omega)]
        exact ⟨⟨by omega, by omega, rfl, by rw [e, ed, this, show (n + 1).toNat = n.toNat + 1 by omega]; rfl⟩, falls hn⟩
  · rw [List.drop_of_length_le (by omega)] at e
    rw [e] at hK; exact hK
/-- a part of a slice, as Go cuts it -/
theorem StrAt.cut {h : Heap} {a : Option Addr} {l c i j : Nat} {bs : List UInt8} (B : StrAt h a l bs) (hlc : l ≤ c) (hij : i ≤ j) (hj : j ≤ l) : StrAt h (if c = i then a else Option.map (Addr.add · i) a) (j - i) ((bs.drop i).take (j - i)) := by
  by_cases e : c = i
  · rw [if_pos e]
    have : j - i = 0 := by omega
    rw [this, List.take_zero]; exact StrAt.nil _ _
  · rw [if_neg e]
    exact StrAt.take (StrAt.drop B i) (by omega)
theorem Zero_spec {a : Option Addr} {l c : Nat} {bs : List UInt8} {at_ n : Int} {h : Heap} {K : Value → Heap → Prop} (B : StrAt h a l bs) (hlc : l ≤ c) (hl : l ≤ 140737488355328) (h0 : 0 ≤ at_) (h1 : 0 ≤ n) (h2 : at_ + n ≤ l)
    (hK : K (.tuple #[.bool (allZero ((bs.drop at_.toNat).take n.toNat)), .int .i64 0]) h) : C.rec_Zero a l c at_ n h K := by
  refine rec_Zero.ok (cf (decide_eq_false (by omega)) (lie_spec hl h0 h1 h2 ⟨_, rfl, cnot (ct rfl ?_)⟩))
  rw [wrap_i64 (by omega) (by omega)]
  have e : (at_ + n).toNat - at_.toNat = n.toNat := by omega
  refine ⟨⟨h0, by omega, by omega⟩, zeros_spec (bs := (bs.drop at_.toNat).take n.toNat) ?_ (by omega) ⟨_, rfl, hK⟩⟩
  have := StrAt.cut B hlc (i := at_.toNat) (j := (at_ + n).toNat) (by omega) (by omega)
  rw [e] at this
  rw [e]; exact this
end Go.Proofs.YtcdpakjhjmchhaaGreatDoor.Re
namespace Go.Proofs.YtcdpakjhjmchhaaGreatDoor.Hd
open Go Go.Proofs Go.Proofs.YtcdpakjhjmchhaaGreatDoor.Wx Go.Proofs.YtcdpakjhjmchhaaGreatDoor.Hp Go.Proofs.YtcdpakjhjmchhaaGreatDoor.W Go.Proofs.YtcdpakjhjmchhaaGreatDoor.Re
def ints (ns : List Int) : List Value := ns.map fun n => .int .i64 n
def zeros (n : Nat) : List UInt8 := List.replicate n 0
theorem zeros_add (m n : Nat) : zeros (m + n) = zeros m ++ zeros n := List.replicate_append_replicate.symm
theorem zeros_length (n : Nat) : (zeros n).length = n := List.length_replicate
def flat4 (ns : List Int) : List UInt8 := ns.flatMap fun i => leBs 4 i.toNat
theorem flat4_length (ns : List Int) : (flat4 ns).length = 4 * ns.length := by
  induction ns with
  | nil => rfl
  | cons n r ih =>
    have e : flat4 (n :: r) = leBs 4 n.toNat ++ flat4 r := rfl
    rw [e, List.length_append, leB_length, ih, List.length_cons]; omega
theorem wrap_u64 {n : Int} (h0 : 0 ≤ n) (h1 : n < 18446744073709551616) : IntKind.wrap .u64 n = n := by
  show n % 18446744073709551616 = n
  exact Int.emod_eq_of_lt h0 h1
def getAt (hd : List UInt8) (o n : Nat) : Nat := leN ((hd.drop o).take n)
theorem getAt_lt (hd : List UInt8) (o n : Nat) : getAt hd o n < 256 ^ n := by
  refine Nat.lt_of_lt_of_le (leN_lt _) (Nat.pow_le_pow_right (by decide) ?_)
  rw [List.length_take]; exact Nat.min_le_left _ _
theorem leB_succ (n v : Nat) : leBs (n + 1) v = UInt8.ofNat v :: leBs n (v / 256) := by
  rw [leBs, List.range_succ_eq_map, List.map_cons, List.map_map]
  congr 1
  · rw [Nat.pow_zero, Nat.div_one]
  · rw [leBs]
    apply List.map_congr_left
    intro k _
    show UInt8.ofNat (v / 256 ^ (k + 1)) = UInt8.ofNat (v / 256 / 256 ^ k)
    rw [Nat.pow_succ, Nat.mul_comm, Nat.div_div_eq_div_mul]
theorem leN_leB : ∀ (n v : Nat), v < 256 ^ n → leN (leBs n v) = v := by
  intro n
  induction n with
  | zero =>
    intro v h
    have e : v = 0 := by simpa using h
    rw [e]; rfl
  | succ n ih =>
    intro v h
    rw [leB_succ, leN, ih (v / 256) (by rw [Nat.pow_succ] at h; omega), UInt8.toNat_ofNat']
    omega
theorem drop_app {xs ys : List UInt8} {n : Nat} (h : xs.length = n) : (xs ++ ys).drop n = ys := by rw [← h, List.drop_left]
theorem take_app {xs ys : List UInt8} {n : Nat} (h : xs.length = n) : (xs ++ ys).take n = xs := by rw [← h, List.take_left]
theorem flat4_part : ∀ (ns : List Int) (i : Nat) (hi : i < ns.length) (zs : List UInt8), ((flat4 ns ++ zs).drop (4 * i)).take 4 = leBs 4 ns[i].toNat := by
  intro ns
  induction ns with
  | nil => intro i hi; exact absurd hi (Nat.not_lt_zero _)
  | cons n r ih =>
    intro i hi zs
    have e : flat4 (n :: r) = leBs 4 n.toNat ++ flat4 r := rfl
    rw [e, List.append_assoc]
    cases i with
    | zero => rw [Nat.mul_zero, List.drop_zero]; exact take_app (leB_length _ _)
    | succ i =>
      rw [show 4 * (i + 1) = 4 + 4 * i by omega, ← List.drop_drop, drop_app (leB_length _ _)]
      exact ih i (by simpa using hi) zs
theorem bv_wrap (n : Int) : (Value.int .u8 (IntKind.wrap .u8 n)) = bv (UInt8.ofNat (n % 256).toNat) := by
  show Value.int .u8 (n % 256) = Value.int .u8 ((UInt8.ofNat (n % 256).toNat).toNat : Int)
  rw [UInt8.toNat_ofNat']
  congr 1
  have := Int.emod_nonneg n (show (256 : Int) ≠ 0 by decide)
  have := Int.emod_lt_of_pos n (show (0 : Int) < 256 by decide)
  omega
end Go.Proofs.YtcdpakjhjmchhaaGreatDoor.Hd
namespace Go.Proofs.YtcdpakjhjmchhaaGreatDoor.In
open Go Go.Proofs Go.Proofs.YtcdpakjhjmchhaaGreatDoor.Re Go.Proofs.YtcdpakjhjmchhaaGreatDoor.Hd
def z15 : List Int := List.replicate 15 0
/-- what a record of this kind may tell -/
def kindOk (k l s : Int) (R : List Int) : Bool :=
  if k = 0 then decide (R = z15) else if k = 1 then (decide (0 ≤ l) && decide (l ≤ 1000)) && (decide (0 ≤ s) && decide (s ≤ 8459264))
  else if k = 2 then (decide (2 ≤ l) && decide (l ≤ 65535)) && ((decide (0 ≤ s) && decide (s ≤ 8459264)) && decide (s % 512 = 0))
  else if k = 3 then (decide (1 ≤ l) && decide (l ≤ 1000)) && (decide (1 ≤ s) && decide (s ≤ 1024)) else false
def wordOk (n : Int) : Bool := decide (0 ≤ n) && decide (n ≤ 4294967295)
/-- may it be a record -/
def mayR (R : List Int) : Bool := (R.drop 3).all wordOk && kindOk (R.getD 0 0) (R.getD 1 0) (R.getD 2 0) R
/-- a record's bytes -/
def encR (R : List Int) : List UInt8 := leBs 1 (R.getD 0 0).toNat ++ ([0] ++ (leBs 2 (R.getD 1 0).toNat ++ (leBs 4 (R.getD 2 0).toNat ++ (flat4 (R.drop 3) ++ zeros 8))))
/-- the numbers that bytes tell -/
def getR (bs : List UInt8) : List Int := [(getAt bs 0 1 : Int), (getAt bs 2 2 : Int), (getAt bs 4 4 : Int)] ++ (List.range 12).map fun i => (getAt bs (8 + 4 * i) 4 : Int)
theorem getR_length (bs : List UInt8) : (getR bs).length = 15 := by rw [getR, List.length_append, List.length_map, List.length_range]; rfl
def clean (bs : List UInt8) : Bool := allZero ((bs.drop 1).take 1) && allZero ((bs.drop 56).take 8)
def decOk (bs : List UInt8) : Bool := clean bs && mayR (getR bs)
/-- what Decode answers -/
def decA (bs : List UInt8) : List Int × Int := if bs.length ≠ 64 then (z15, 32) else if decOk bs then (getR bs, 0) else (z15, 111)
theorem list15 {R : List Int} (h : R.length = 15) : R = [R.getD 0 0, R.getD 1 0, R.getD 2 0] ++ R.drop 3 := by
  match R, h with
  | [a, b, c, d0, d1, d2, d3, d4, d5, d6, d7, d8, d9, x, y], _ => rfl
theorem mayR_bounds {R : List Int} (h : R.length = 15) (m : mayR R = true) : 0 ≤ R.getD 0 0 ∧ R.getD 0 0 ≤ 3 ∧ 0 ≤ R.getD 1 0 ∧ R.getD 1 0 ≤ 65535 ∧ 0 ≤ R.getD 2 0 ∧ R.getD 2 0 ≤ 8459264 ∧ ∀ n ∈ R.drop 3, 0 ≤ n ∧ n ≤ 4294967295 := by
  rw [mayR, Bool.and_eq_true] at m
  have hw : ∀ n ∈ R.drop 3, 0 ≤ n ∧ n ≤ 4294967295 := fun n hn => by
    have := List.all_eq_true.mp m.1 n hn
    rw [wordOk, Bool.and_eq_true, decide_eq_true_eq, decide_eq_true_eq] at this; exact this
  have k := m.2
  unfold kindOk at k
  split at k
  · rename_i h0
    have e := of_decide_eq_true k
    subst e
    refine ⟨by decide, by decide, by decide, by decide, by decide, by decide, hw⟩
  · split at k
    · simp only [Bool.and_eq_true, decide_eq_true_eq] at k
      exact ⟨by omega, by omega, by omega, by omega, by omega, by omega, hw⟩
    · split at k
      · simp only [Bool.and_eq_true, decide_eq_true_eq] at k
        exact ⟨by omega, by omega, by omega, by omega, by omega, by omega, hw⟩
      · split at k
        · simp only [Bool.and_eq_true, decide_eq_true_eq] at k
          exact ⟨by omega, by omega, by omega, by omega, by omega, by omega, hw⟩
        · cases k
theorem encR_length {R : List Int} (h : R.length = 15) : (encR R).length = 64 := by
  simp only [encR, List.length_append, leB_length, flat4_length, zeros_length, List.length_drop, h, List.length_singleton]
theorem encR_drops {R : List Int} (h : R.length = 15) : (encR R).drop 1 = [0] ++ (leBs 2 (R.getD 1 0).toNat ++ (leBs 4 (R.getD 2 0).toNat ++ (flat4 (R.drop 3) ++ zeros 8))) ∧ (encR R).drop 2 = leBs 2 (R.getD 1 0).toNat ++ (leBs 4 (R.getD 2 0).toNat ++ (flat4 (R.drop 3) ++ zeros 8)) ∧
    (encR R).drop 4 = leBs 4 (R.getD 2 0).toNat ++ (flat4 (R.drop 3) ++ zeros 8) ∧ (encR R).drop 8 = flat4 (R.drop 3) ++ zeros 8 ∧ (encR R).drop 56 = zeros 8 := by
  have d1 : (encR R).drop 1 = [0] ++ (leBs 2 (R.getD 1 0).toNat ++ (leBs 4 (R.getD 2 0).toNat ++ (flat4 (R.drop 3) ++ zeros 8))) := drop_app (leB_length 1 _)
  have d2 : (encR R).drop 2 = leBs 2 (R.getD 1 0).toNat ++ (leBs 4 (R.getD 2 0).toNat ++ (flat4 (R.drop 3) ++ zeros 8)) := by rw [show 2 = 1 + 1 by rfl, ← List.drop_drop, d1]; rfl
  have d4 : (encR R).drop 4 = leBs 4 (R.getD 2 0).toNat ++ (flat4 (R.drop 3) ++ zeros 8) := by rw [show 4 = 2 + 2 by rfl, ← List.drop_drop, d2]; exact drop_app (leB_length 2 _)
  have d8 : (encR R).drop 8 = flat4 (R.drop 3) ++ zeros 8 := by rw [show 8 = 4 + 4 by rfl, ← List.drop_drop, d4]; exact drop_app (leB_length 4 _)
  refine ⟨d1, d2, d4, d8, ?_⟩
  rw [show 56 = 8 + 48 by rfl, ← List.drop_drop, d8]
  exact drop_app (by rw [flat4_length, List.length_drop, h])
theorem getR_enc {R : List Int} (h : R.length = 15) (m : mayR R = true) : getR (encR R) = R ∧ clean (encR R) = true := by
  obtain ⟨k0, k1, l0, l1, s0, s1, hw⟩ := mayR_bounds h m
  obtain ⟨d1, d2, d4, d8, d56⟩ := encR_drops h
  refine ⟨?_, ?_⟩
  · conv => rhs; rw [list15 h]
    have g0 : getAt (encR R) 0 1 = (R.getD 0 0).toNat := by
      rw [getAt, List.drop_zero, encR, take_app (leB_length 1 _), leN_leB 1 _ (by omega)]
    have g1 : getAt (encR R) 2 2 = (R.getD 1 0).toNat := by
      rw [getAt, d2, take_app (leB_length 2 _), leN_leB 2 _ (by omega)]
    have g2 : getAt (encR R) 4 4 = (R.getD 2 0).toNat := by
      rw [getAt, d4, take_app (leB_length 4 _), leN_leB 4 _ (by omega)]
    rw [getR, g0, g1, g2, Int.toNat_of_nonneg k0, Int.toNat_of_nonneg l0, Int.toNat_of_nonneg s0]
    congr 1
    apply List.ext_getElem
    · rw [List.length_map, List.length_range, List.length_drop, h]
    · intro i h1 h2
      rw [List.length_map, List.length_range] at h1
      rw [List.getElem_map, List.getElem_range, getAt, ← List.drop_drop, d8, flat4_part _ i h2, leN_leB 4 _ (by have := (hw _ (List.getElem_mem h2)).2; have := (hw _ (List.getElem_mem h2)).1; omega), Int.toNat_of_nonneg (hw _ (List.getElem_mem h2)).1]
  · rw [clean, d1, d56]; rfl
end Go.Proofs.YtcdpakjhjmchhaaGreatDoor.In
namespace Go.Proofs.YtcdpakjhjmchhaaGreatDoor.In
open Go Go.Proofs Go.Proofs.YtcdpakjhjmchhaaGreatDoor.Wx Go.Proofs.YtcdpakjhjmchhaaGreatDoor.Hp Go.Proofs.YtcdpakjhjmchhaaGreatDoor.W Go.Proofs.YtcdpakjhjmchhaaGreatDoor.Su Go.Proofs.YtcdpakjhjmchhaaGreatDoor.Re Go.Proofs.YtcdpakjhjmchhaaGreatDoor.Hd
/-- the laid table -/
structure Glo (h : Heap) : Prop where
  wide : Wide h
theorem Glo.fr {h h' : Heap} {F : Nat → Prop} (g : Glo h) (f : Fr F h h') (h1 : ∀ b, b < 1 → ¬ F b) : Glo h' := ⟨g.wide.fr f (h1 _ (by decide))⟩
theorem Glo.no {h h' : Heap} (g : Glo h) (f : Fr No h h') : Glo h' := g.fr f fun _ _ x => x
theorem Glo.lt {h : Heap} (g : Glo h) : 1 ≤ h.size := by have := g.wide.lt; omega
theorem isWidth_spec {n : Int} {h : Heap} {K : Value → Heap → Prop} (g : Glo h) (hn : n = 1 ∨ n = 2 ∨ n = 4 ∨ n = 8) (hK : K (.bool true) h) : C.rec_isWidth n h K := by
  refine rec_isWidth.ok (ct (decide_eq_true (by omega)) (ct (decide_eq_true (by omega)) ⟨⟨by omega, by omega⟩, true, rda g.wide ?_, hK⟩))
  rcases hn with rfl | rfl | rfl | rfl <;> rfl
theorem Get_w {a : Option Addr} {l c : Nat} {bs : List UInt8} {at_ n : Int} {h : Heap} {K : Value → Heap → Prop} (g : Glo h) (B : StrAt h a l bs) (hl : l ≤ 140737488355328) (hn : n = 1 ∨ n = 2 ∨ n = 4 ∨ n = 8) (h0 : 0 ≤ at_) (h2 : at_ + n ≤ l)
    (hK : K (.tuple #[.int .u64 (leN ((bs.drop at_.toNat).take n.toNat)), .int .i64 0]) h) : C.rec_Get a l c at_ n h K := by
  have hb := B.1
  refine rec_Get.ok (isWidth_spec g hn ⟨_, rfl, cnot (ct rfl (lie_spec hl h0 (by omega) h2 ⟨_, rfl, cnot (ct rfl ?_)⟩))⟩)
  have hlen : ∀ k : Nat, (k : Int) ≤ n → ((bs.drop at_.toNat).take k).length = k := fun k hk => by rw [List.length_take, List.length_drop]; omega
  refine ⟨fun v k hh => 0 ≤ k ∧ k ≤ n ∧ h = hh ∧ v = (leN ((bs.drop at_.toNat).take k.toNat) : Nat), fun _ k _ => (n - k).toNat, ⟨by omega, by omega, rfl, rfl⟩, ?_⟩
  rintro v k _ ⟨k0, k1, rfl, rfl⟩
  refine cd (fun hk => ?_) fun hk => ?_
  · rw [wrap_i64 (n := at_ + k) (by omega) (by omega)]
    obtain ⟨_, B2⟩ := B
    have hi : at_.toNat + k.toNat < bs.length := by omega
    cases a with
    | none => have B2 : bs.map bv = [] := B2; have := List.map_eq_nil_iff.mp B2; rw [this] at hi; exact absurd hi (by simp)
    | some p =>
      refine ⟨⟨by omega, by omega⟩, os ⟨_, B2 (at_ + k).toNat (bv bs[at_.toNat + k.toNat]) (by rw [show (at_ + k).toNat = at_.toNat + k.toNat by omega, List.getElem?_map, List.getElem?_eq_getElem hi]; rfl), ?_⟩⟩
      have w8 : IntKind.wrap .i64 (8 * k) = 8 * k := wrap_i64 (by omega) (by omega)
      rw [if_neg (by rw [w8]; omega), wrap_i64 (n := k + 1) (by omega) (by omega)]
      have hlk := hlen k.toNat (by omega)
      have hlt := leN_lt ((bs.drop at_.toNat).take k.toNat)
      rw [hlk] at hlt
      have eo := or_step (v := leN ((bs.drop at_.toNat).take k.toNat)) (b := bs[at_.toNat + k.toNat]) (k := k.toNat) (by omega) hlt
      rw [show ((k.toNat : Nat) : Int) = k by omega] at eo
      rw [eo]
      refine ⟨⟨by omega, by omega, rfl, ?_⟩, by show (n - (k + 1)).toNat < (n - k).toNat; omega⟩
      have hi2 : k.toNat < (bs.drop at_.toNat).length := by rw [List.length_drop]; omega
      rw [show (k + 1).toNat = k.toNat + 1 by omega, List.take_succ_eq_append_getElem hi2, leN_snoc, hlk, List.getElem_drop]
  · have : k = n := by omega
    subst this
    exact hK
theorem Put_w {b o l c : Nat} {bs : List UInt8} {at_ n : Int} {v : Nat} {F : Nat → Prop} {h : Heap} {K : Value → Heap → Prop} (g : Glo h) (s : Sl h 1 (some ⟨b, o, none⟩) l c (bs.map bv) F) (hl : l ≤ 140737488355328) (hn : n = 1 ∨ n = 2 ∨ n = 4) (h0 : 0 ≤ at_) (h2 : at_ + n ≤ l)
    (hv : v < 256 ^ n.toNat) (hK : ∀ h', Fr (fun x => x = b) h h' → Sl h' 1 (some ⟨b, o, none⟩) l c ((putU bs at_.toNat (leBs n.toNat v)).map bv) F → K (.int .i64 0) h') : C.rec_Put (some ⟨b, o, none⟩) l c at_ n (v : Int) h K := by
  have hbl := s.1
  rw [List.length_map, Nat.mul_one] at hbl
  refine rec_Put.ok (isWidth_spec g (by omega) ⟨_, rfl, cnot (ct rfl (ct (decide_eq_true (by omega)) ?_))⟩)
  have w8 : IntKind.wrap .i64 (8 * n) = 8 * n := wrap_i64 (by omega) (by omega)
  rw [if_neg (by rw [w8]; omega)]
  have hz : Int.fdiv (v : Int) (2 ^ min (Int.toNat (IntKind.wrap .i64 (8 * n))) 64) = 0 := by
    rw [w8, show min (Int.toNat (8 * n)) 64 = 8 * n.toNat by omega]
    have e : Int.fdiv (v : Int) (2 ^ (8 * n.toNat)) = ((v / 256 ^ n.toNat : Nat) : Int) := by
      rw [pow_256, Int.fdiv_eq_ediv_of_nonneg _ (by exact Int.le_of_lt (Int.pow_pos (by decide)))]
      simp
    rw [e, Nat.div_eq_of_lt hv]; rfl
  refine cf (by rw [hz]; rfl) (lie_spec hl h0 (by omega) h2 ⟨_, rfl, cnot (ct rfl ?_)⟩)
  have hlB := leB_length n.toNat v
  refine ⟨fun k hh => 0 ≤ k ∧ k ≤ n ∧ Fr (fun x => x = b) h hh ∧ Sl hh 1 (some ⟨b, o, none⟩) l c ((putU bs at_.toNat ((leBs n.toNat v).take k.toNat)).map bv) F, fun k _ => (n - k).toNat, ⟨by omega, by omega, Fr.refl _ _, by rw [show (0 : Int).toNat = 0 from rfl, List.take_zero, putU_nil]; exact s⟩, ?_⟩
  rintro k h4 ⟨k0, k1, f4, s4⟩
  refine cd (fun hk => ?_) fun hk => ?_
  · rw [if_neg (by rw [wrap_i64 (by omega) (by omega)]; omega), wrap_i64 (n := at_ + k) (by omega) (by omega)]
    obtain ⟨w1, w2⟩ := s4.wr
    refine ⟨⟨by omega, by omega⟩, os (Put.add w1 (by omega) fun h5 d5 => ?_)⟩
    have hkB : k.toNat < (leBs n.toNat v).length := by omega
    have eb := byte_of v k.toNat (by omega)
    rw [show ((k.toNat : Nat) : Int) = k by omega] at eb
    rw [eb] at d5
    have s5 := s4.putAt (j := (at_ + k).toNat) (new := [_]) (by rw [List.length_singleton]; omega) d5
    rw [wrap_i64 (n := k + 1) (by omega) (by omega)]
    refine ⟨⟨by omega, by omega, f4.did d5 (fun _ => rfl), ?_⟩, by show (n - (k + 1)).toNat < (n - k).toNat; omega⟩
    have hl1 : ((leBs n.toNat v).take k.toNat).length = k.toNat := by rw [List.length_take]; omega
    have ee : (leBs n.toNat v)[k.toNat] = UInt8.ofNat (v / 256 ^ k.toNat) := by simp only [leBs, List.getElem_map, List.getElem_range]
    have ep : put ((putU bs at_.toNat ((leBs n.toNat v).take k.toNat)).map bv) (at_ + k).toNat [bv (UInt8.ofNat (v / 256 ^ k.toNat))] = (putU bs at_.toNat ((leBs n.toNat v).take (k + 1).toNat)).map bv := by
      rw [← putU_put (by rw [hl1]; omega), ← putU_put (by rw [List.length_take]; omega), show (k + 1).toNat = k.toNat + 1 by omega, List.take_succ_eq_append_getElem hkB, List.map_append, List.map_singleton, ee]
      have : ∀ (ys : List Value) (X : List Value) (o : Nat) (y : Value), put X o (ys ++ [y]) = (put X o ys).set (o + ys.length) y := by
        intro ys
        induction ys with
        | nil => intro X o y; rfl
        | cons v r ih =>
          intro X o y
          show put (X.set o v) (o + 1) (r ++ [y]) = _
          rw [ih, List.length_cons, show o + 1 + r.length = o + (r.length + 1) by omega]; rfl
      rw [this, List.length_map, hl1, show (at_ + k).toNat = at_.toNat + k.toNat by omega]; rfl
    rw [ep] at s5
    exact s5
  · have : k = n := by omega
    subst this
    rw [List.take_of_length_le (by omega)] at s4
    exact hK h4 f4 s4
end Go.Proofs.YtcdpakjhjmchhaaGreatDoor.In
namespace Go.Proofs.YtcdpakjhjmchhaaGreatDoor
open Go Go.ChangeShapes Go.WideShapes Go.ChangeAt Go.RowKit Go.Proofs.YtcdpakjhjmchhaaGreatDoor.Wx Go.Proofs.YtcdpakjhjmchhaaGreatDoor.Hp Go.Proofs.YtcdpakjhjmchhaaGreatDoor.Gl
theorem Tryz.own : ownKnob Tryz.prog.godebug = none := by kernel_rfl
theorem Tryz.laidOut : laidOutB Tryz.prog = true := by kernel_rfl
theorem Tryz.cellsBool : Tryz.prog.cellsOf 4 = 1 := by kernel_rfl
theorem Tryz.cellsWide : Tryz.prog.cellsOf 253 = 9 := by kernel_rfl
theorem Tryz.gWide : Tryz.prog.globalNamed "bole/rec.widths" = some 0 := by kernel_rfl
theorem Tryz.tWide : (Tryz.prog.globals[0]?).map (·.type) = some 253 := by kernel_rfl
/-- what the rows' list gives -/
theorem table1 {W : World} (h : laidMetH Tryz.prog [("bole/rec.widths", Rows.laid_bole_rec_widths)] W) : In.Glo W.heap := by
  obtain ⟨ps, ⟨g', t', cs, fuel, p, q, hg', ht', hvar, hd, _, _⟩, _⟩ := h
  obtain rfl := Option.some.inj (Tryz.gWide.symm.trans hg')
  obtain rfl := Option.some.inj (Tryz.tWide.symm.trans ht')
  exact ⟨(rd_var Tryz.gWide hvar).trans (cells_of_bools (zs := Re.widthsL) Tryz.underlying253 Tryz.underlying4 Tryz.cellsBool Tryz.cellsWide hd)⟩
def layO (cs : List Value) : Obj → Obj
  | .cells _ t frozen => .cells ⟨cs⟩ t frozen
  | o => o
/-- a world for the witness: the table holds what its initialiser lays -/
noncomputable def laidWorld (os : Os) : World :=
  { World.holding Tryz.prog os ⟨#[], #[], []⟩ with heap := ((World.holding Tryz.prog os ⟨#[], #[], []⟩).heap.modify 0 (layO (Re.widthsL.map .bool))) }
end Go.Proofs.YtcdpakjhjmchhaaGreatDoor
namespace Go.Proofs.YtcdpakjhjmchhaaGreatDoor.Gl
open Go Go.ChangeShapes Go.WideShapes Go.ChangeAt Go.RowKit Go.Proofs Go.Proofs.YtcdpakjhjmchhaaGreatDoor.Wx Go.Proofs.YtcdpakjhjmchhaaGreatDoor.Hp
/-- a text -/
theorem open_text {H : Type} {enc : TypeId × Value → H} {P : Program} {W : World} {base t : Nat} {v : Value} {d : DataW H} {p : List MemPlace} (ht : P.underlying t = some .string) (hval : Value.okWide P W .any base t v)
    (h : DataW.Trod enc P W 0 (fun _ => true) true t v d p) : ∃ l : List UInt8, v = .string (mkStr l) ∧ d = .lit (.string l) := by
  obtain ⟨s, rfl⟩ := okWide_string ht hval
  obtain ⟨fuel, hf⟩ := h
  obtain ⟨s', e1, e2, _⟩ := DataW.trod_string ht hf
  have e1 : s = s' := by simpa [Value.cells] using e1
  subst e1
  obtain ⟨⟨l⟩⟩ := s
  exact ⟨l, rfl, congrArg Prod.fst e2⟩
theorem text_le {H : Type} {P : Program} {t : TypeId} {l : List UInt8} (L : Light (H := H) P t (.lit (.string l))) : l.length ≤ 140737488351232 := by
  refine L _ ?_
  simp [DataW.weights]
end Go.Proofs.YtcdpakjhjmchhaaGreatDoor.Gl
