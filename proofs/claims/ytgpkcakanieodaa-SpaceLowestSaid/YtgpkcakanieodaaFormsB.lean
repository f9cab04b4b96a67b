/-
  WHAT THE FUNCTIONS COMPUTE, as formulas; each held against the loaded code by the kernel. Written by program (gen.py).
-/
import Derived.Test.YtgpkcakanieodaaTab
namespace Go.Proofs.Ytgpkcakanieodaa.W
open Go Go.Proofs Go.Proofs.Ytgpkcakanieodaa.Wx
-- 15
def space_Free (t1 : Option Addr) (g1 : List Value) (K : Value → Heap → Prop) (h1 : Heap) : Prop :=
  New g1 30 h1 fun h2 =>
  New z3 3 h2 fun h3 =>
  Put ⟨h2.size, 0, none⟩ (.int .i64 0) h3 fun h4 =>
  ∃ cs1 : List Value, List.length cs1 = 5 ∧ Cells h4 ⟨h1.size, 0, none⟩ cs1 ∧
  C.space_each t1 cs1 (Value.func (.func 51) #[] ⟨[.pointer (some ⟨h1.size, 0, none⟩), .pointer (some ⟨h2.size, 0, none⟩)]⟩) h4 fun r1 h5 =>
  ∃ (n1 : Int), r1 = .int .i64 n1 ∧
  bif (n1 != 0) then (
  K (.tuple #[.int .i64 0, .int .i64 n1]) h5) else (
  ∃ (n2 : Int), cellOf h5 ⟨h2.size, 0, none⟩ = some (.int .i64 n2) ∧
  K (.tuple #[.int .i64 n2, .int .i64 0]) h5)
def space_Free.lo : Nat → List Nat × List (Nat × Ty) := fun n => match n with | _ => ([], [])
def space_Free.od : Nat → Od := fun n => match n with | _ => .nil
theorem space_Free.eq (t1 : Option Addr) (g1 : List Value) (K : Value → Heap → Prop) (h : Heap) : fnX (cx space_Free.lo space_Free.od) Try.f15 (Try.f15.body.getD .skip) [.pointer t1, .agg ⟨g1⟩] K h = space_Free t1 g1 K h := by kernel_rfl
theorem space_Free.chk : fnOk (cx space_Free.lo space_Free.od) Try.f15 (Try.f15.body.getD .skip) 2 = true := by kernel_rfl
theorem space_Free.ok {t1 : Option Addr} {g1 : List Value} {K : Value → Heap → Prop} {h : Heap} (hx : space_Free t1 g1 K h) : C.space_Free t1 g1 h K :=
  fn_to (cxOk _ _) Try.func15 (by kernel_rfl) space_Free.chk (by rw [space_Free.eq]; exact hx)

-- 16
def bolelaw13_known.k1 (n1 : Int) (n2 : Int) (n3 : Int) (n4 : Int) (n5 : Int) (h14 : Heap) (K : Value → Heap → Prop) : Prop :=
  C.bolelaw13_num n1 h14 fun r9 h15 =>
  ∃ (n6 : Int), r9 = .int .i64 n6 ∧
  bif (n6 == 0) then (
  C.bolelaw13_num n2 h15 fun r10 h16 =>
  ∃ (n7 : Int), r10 = .int .i64 n7 ∧
  bif (n7 == 0) then (
  C.bolelaw13_num n3 h16 fun r11 h17 =>
  ∃ (n8 : Int), r11 = .int .i64 n8 ∧
  bif (n8 == 0) then (
  C.bolelaw13_num n4 h17 fun r12 h18 =>
  ∃ (n9 : Int), r12 = .int .i64 n9 ∧
  bif (n9 == 0) then (
  C.bolelaw13_num n5 h18 fun r13 h19 =>
  ∃ (n10 : Int), r13 = .int .i64 n10 ∧
  bif (n10 == 0) then (
  C.path_Name (mkStr [46, 46, 46]) h19 fun r14 h20 =>
  ∃ (b5 : Bool), r14 = .bool b5 ∧
  bif b5 then (
  C.path_Name (mkStr [46, 46]) h20 fun r15 h21 =>
  ∃ (b6 : Bool), r15 = .bool b6 ∧
  K (.bool (!b6)) h21) else (
  K (.bool false) h20)) else (
  K (.bool false) h19)) else (
  K (.bool false) h18)) else (
  K (.bool false) h17)) else (
  K (.bool false) h16)) else (
  K (.bool false) h15)
def bolelaw13_known  (K : Value → Heap → Prop) (h1 : Heap) : Prop :=
  C.path_Parse (mkStr [47, 47, 97, 47, 46, 47, 98, 47, 47, 47, 46, 46]) h1 fun r1 h2 =>
  ∃ (sA1 : Option Addr) (sL1 : Nat) (sC1 : Nat) (n1 : Int), r1 = .tuple #[.slice sA1 sL1 sC1, .int .i64 n1] ∧
  C.path_Text (mkStr [97, 47, 46, 46, 47, 98]) h2 fun r2 h3 =>
  ∃ (sA2 : Option Addr) (sL2 : Nat) (sC2 : Nat) (b1 : Bool) (n2 : Int), r2 = .tuple #[.slice sA2 sL2 sC2, .bool b1, .int .i64 n2] ∧
  C.path_Make (mkStr [47, 97, 47, 98, 47, 47]) h3 fun r3 h4 =>
  ∃ (sA3 : Option Addr) (sL3 : Nat) (sC3 : Nat) (s1 : ByteArray) (n3 : Int), r3 = .tuple #[.slice sA3 sL3 sC3, .string s1, .int .i64 n3] ∧
  New [.string (mkStr [97]), .string (mkStr [46, 46])] 9 h4 fun h5 =>
  C.path_Join (some ⟨h4.size, 0, none⟩) 2 2 h5 fun r4 h6 =>
  ∃ (s2 : ByteArray) (n4 : Int), r4 = .tuple #[.string s2, .int .i64 n4] ∧
  C.path_Clean (mkStr [47, 97, 47, 46, 46, 47, 46, 46, 47, 98, 47, 46, 47, 99, 47]) h6 fun r5 h7 =>
  ∃ (s3 : ByteArray) (n5 : Int), r5 = .tuple #[.string s3, .int .i64 n5] ∧
  New [.string (mkStr [97]), .string (mkStr [98]), .string (mkStr [46, 46])] 9 h7 fun h8 =>
  C.bolelaw13_same sA1 sL1 sC1 (some ⟨h7.size, 0, none⟩) 3 3 h8 fun r6 h9 =>
  ∃ (b2 : Bool), r6 = .bool b2 ∧
  bif (!b2) then (
  K (.bool false) h9) else (
  New [.string (mkStr [97]), .string (mkStr [46, 46]), .string (mkStr [98])] 9 h9 fun h10 =>
  C.bolelaw13_same sA2 sL2 sC2 (some ⟨h9.size, 0, none⟩) 3 3 h10 fun r7 h11 =>
  ∃ (b3 : Bool), r7 = .bool b3 ∧
  bif (!b3) then (
  K (.bool false) h11) else (
  bif b1 then (
  K (.bool false) h11) else (
  New [.string (mkStr [97])] 9 h11 fun h12 =>
  C.bolelaw13_same sA3 sL3 sC3 (some ⟨h11.size, 0, none⟩) 1 1 h12 fun r8 h13 =>
  ∃ (b4 : Bool), r8 = .bool b4 ∧
  bif (!b4) then (
  K (.bool false) h13) else (
  bif (!(s1.toList == (mkStr [98]).toList)) then (
  K (.bool false) h13) else (
  bif (!(s2.toList == (mkStr [47, 97, 47, 46, 46]).toList)) then (
  K (.bool false) h13) else (
  bif (!(s3.toList == (mkStr [47, 98, 47, 99]).toList)) then (
  K (.bool false) h13) else (
  bolelaw13_known.k1 n1 n2 n3 n4 n5 h13 K)))))))
def bolelaw13_known.lo : Nat → List Nat × List (Nat × Ty) := fun n => match n with | _ => ([], [])
def bolelaw13_known.od : Nat → Od := fun n => match n with | _ => .nil
theorem bolelaw13_known.eq  (K : Value → Heap → Prop) (h : Heap) : fnX (cx bolelaw13_known.lo bolelaw13_known.od) Try.f16 (Try.f16.body.getD .skip) [] K h = bolelaw13_known  K h := by kernel_rfl
theorem bolelaw13_known.chk : fnOk (cx bolelaw13_known.lo bolelaw13_known.od) Try.f16 (Try.f16.body.getD .skip) 0 = true := by kernel_rfl
theorem bolelaw13_known.ok  {K : Value → Heap → Prop} {h : Heap} (hx : bolelaw13_known  K h) : C.bolelaw13_known  h K :=
  fn_to (cxOk _ _) Try.func16 (by kernel_rfl) bolelaw13_known.chk (by rw [bolelaw13_known.eq]; exact hx)

-- 17
def path_Parse (s1 : ByteArray) (K : Value → Heap → Prop) (h1 : Heap) : Prop :=
  C.path_wrong s1 true h1 fun r1 h2 =>
  ∃ (b1 : Bool), r1 = .bool b1 ∧
  bif b1 then (
  K (.tuple #[.slice none 0 0, .int .i64 1]) h2) else (
  C.path_components s1 1024 h2 fun r2 h3 =>
  ∃ (sA1 : Option Addr) (sL1 : Nat) (sC1 : Nat) (n1 : Int), r2 = .tuple #[.slice sA1 sL1 sC1, .int .i64 n1] ∧
  K (.tuple #[.slice sA1 sL1 sC1, .int .i64 n1]) h3)
def path_Parse.lo : Nat → List Nat × List (Nat × Ty) := fun n => match n with | _ => ([], [])
def path_Parse.od : Nat → Od := fun n => match n with | _ => .nil
theorem path_Parse.eq (s1 : ByteArray) (K : Value → Heap → Prop) (h : Heap) : fnX (cx path_Parse.lo path_Parse.od) Try.f17 (Try.f17.body.getD .skip) [.string s1] K h = path_Parse s1 K h := by kernel_rfl
theorem path_Parse.chk : fnOk (cx path_Parse.lo path_Parse.od) Try.f17 (Try.f17.body.getD .skip) 1 = true := by kernel_rfl
theorem path_Parse.ok {s1 : ByteArray} {K : Value → Heap → Prop} {h : Heap} (hx : path_Parse s1 K h) : C.path_Parse s1 h K :=
  fn_to (cxOk _ _) Try.func17 (by kernel_rfl) path_Parse.chk (by rw [path_Parse.eq]; exact hx)

-- 18
def boleref13_Parse.k1 (s1 : ByteArray) (h3 : Heap) (K : Value → Heap → Prop) : Prop :=
  C.boleref13_components s1 h3 fun r2 h4 =>
  ∃ (sA1 : Option Addr) (sL1 : Nat) (sC1 : Nat) (b3 : Bool), r2 = .tuple #[.slice sA1 sL1 sC1, .bool b3] ∧
  bif (!b3) then (
  K (.tuple #[.slice none 0 0, .int .i64 130]) h4) else (
  bif (decide ((s1.size : Int) > 1024)) then (
  K (.tuple #[.slice none 0 0, .int .i64 130]) h4) else (
  K (.tuple #[.slice sA1 sL1 sC1, .int .i64 0]) h4))
def boleref13_Parse (s1 : ByteArray) (K : Value → Heap → Prop) (h1 : Heap) : Prop :=
  bif (s1.toList == (mkStr []).toList) then (
  K (.tuple #[.slice none 0 0, .int .i64 1]) h1) else (
  (0 ≤ (0 : Int) ∧ 0 < (s1.size : Int)) ∧
  ∃ b1 : UInt8, s1.toList[Int.toNat 0]? = some b1 ∧
  bif (((UInt8.toNat b1 : Nat) : Int) != 47) then (
  K (.tuple #[.slice none 0 0, .int .i64 1]) h1) else (
  C.boleref13_zero s1 h1 fun r1 h2 =>
  ∃ (b2 : Bool), r1 = .bool b2 ∧
  bif b2 then (
  K (.tuple #[.slice none 0 0, .int .i64 1]) h2) else (
  boleref13_Parse.k1 s1 h2 K)))
def boleref13_Parse.lo : Nat → List Nat × List (Nat × Ty) := fun n => match n with | _ => ([], [])
def boleref13_Parse.od : Nat → Od := fun n => match n with | _ => .nil
theorem boleref13_Parse.eq (s1 : ByteArray) (K : Value → Heap → Prop) (h : Heap) : fnX (cx boleref13_Parse.lo boleref13_Parse.od) Try.f18 (Try.f18.body.getD .skip) [.string s1] K h = boleref13_Parse s1 K h := by kernel_rfl
theorem boleref13_Parse.chk : fnOk (cx boleref13_Parse.lo boleref13_Parse.od) Try.f18 (Try.f18.body.getD .skip) 1 = true := by kernel_rfl
theorem boleref13_Parse.ok {s1 : ByteArray} {K : Value → Heap → Prop} {h : Heap} (hx : boleref13_Parse s1 K h) : C.boleref13_Parse s1 h K :=
  fn_to (cxOk _ _) Try.func18 (by kernel_rfl) boleref13_Parse.chk (by rw [boleref13_Parse.eq]; exact hx)

-- 19
def path_Text (s1 : ByteArray) (K : Value → Heap → Prop) (h1 : Heap) : Prop :=
  C.path_wrong s1 false h1 fun r1 h2 =>
  ∃ (b1 : Bool), r1 = .bool b1 ∧
  bif b1 then (
  K (.tuple #[.slice none 0 0, .bool false, .int .i64 1]) h2) else (
  C.path_components s1 1024 h2 fun r2 h3 =>
  ∃ (sA1 : Option Addr) (sL1 : Nat) (sC1 : Nat) (n1 : Int), r2 = .tuple #[.slice sA1 sL1 sC1, .int .i64 n1] ∧
  bif (n1 != 0) then (
  K (.tuple #[.slice none 0 0, .bool false, .int .i64 n1]) h3) else (
  (0 ≤ (0 : Int) ∧ 0 < (s1.size : Int)) ∧
  ∃ b2 : UInt8, s1.toList[Int.toNat 0]? = some b2 ∧
  K (.tuple #[.slice sA1 sL1 sC1, .bool (((UInt8.toNat b2 : Nat) : Int) == 47), .int .i64 0]) h3))
def path_Text.lo : Nat → List Nat × List (Nat × Ty) := fun n => match n with | _ => ([], [])
def path_Text.od : Nat → Od := fun n => match n with | 6 => (.op 0 [] (.op 1 [] (.op 2 [] (.op 3 [] (.op 4 [] (.op 5 [] (.op 6 [] .nil))))))) | _ => .nil
theorem path_Text.eq (s1 : ByteArray) (K : Value → Heap → Prop) (h : Heap) : fnX (cx path_Text.lo path_Text.od) Try.f19 (Try.f19.body.getD .skip) [.string s1] K h = path_Text s1 K h := by kernel_rfl
theorem path_Text.chk : fnOk (cx path_Text.lo path_Text.od) Try.f19 (Try.f19.body.getD .skip) 1 = true := by kernel_rfl
theorem path_Text.ok {s1 : ByteArray} {K : Value → Heap → Prop} {h : Heap} (hx : path_Text s1 K h) : C.path_Text s1 h K :=
  fn_to (cxOk _ _) Try.func19 (by kernel_rfl) path_Text.chk (by rw [path_Text.eq]; exact hx)

-- 20
def boleref13_Text.k2 (s1 : ByteArray) (h4 : Heap) (sA1 : Option Addr) (sL1 : Nat) (sC1 : Nat) (K : Value → Heap → Prop) : Prop :=
  (0 ≤ (0 : Int) ∧ 0 < (s1.size : Int)) ∧
  ∃ b3 : UInt8, s1.toList[Int.toNat 0]? = some b3 ∧
  K (.tuple #[.slice sA1 sL1 sC1, .bool (((UInt8.toNat b3 : Nat) : Int) == 47), .int .i64 0]) h4
def boleref13_Text.k1 (s1 : ByteArray) (h3 : Heap) (K : Value → Heap → Prop) : Prop :=
  C.boleref13_components s1 h3 fun r2 h4 =>
  ∃ (sA1 : Option Addr) (sL1 : Nat) (sC1 : Nat) (b2 : Bool), r2 = .tuple #[.slice sA1 sL1 sC1, .bool b2] ∧
  bif (!b2) then (
  K (.tuple #[.slice none 0 0, .bool false, .int .i64 130]) h4) else (
  bif (decide ((s1.size : Int) > 1024)) then (
  K (.tuple #[.slice none 0 0, .bool false, .int .i64 130]) h4) else (
  boleref13_Text.k2 s1 h4 sA1 sL1 sC1 K))
def boleref13_Text (s1 : ByteArray) (K : Value → Heap → Prop) (h1 : Heap) : Prop :=
  bif (s1.toList == (mkStr []).toList) then (
  K (.tuple #[.slice none 0 0, .bool false, .int .i64 1]) h1) else (
  C.boleref13_zero s1 h1 fun r1 h2 =>
  ∃ (b1 : Bool), r1 = .bool b1 ∧
  bif b1 then (
  K (.tuple #[.slice none 0 0, .bool false, .int .i64 1]) h2) else (
  boleref13_Text.k1 s1 h2 K))
def boleref13_Text.lo : Nat → List Nat × List (Nat × Ty) := fun n => match n with | _ => ([], [])
def boleref13_Text.od : Nat → Od := fun n => match n with | 6 => (.op 0 [] (.op 1 [] (.op 2 [] (.op 3 [] (.op 4 [] (.op 5 [] (.op 6 [] .nil))))))) | _ => .nil
theorem boleref13_Text.eq (s1 : ByteArray) (K : Value → Heap → Prop) (h : Heap) : fnX (cx boleref13_Text.lo boleref13_Text.od) Try.f20 (Try.f20.body.getD .skip) [.string s1] K h = boleref13_Text s1 K h := by kernel_rfl
theorem boleref13_Text.chk : fnOk (cx boleref13_Text.lo boleref13_Text.od) Try.f20 (Try.f20.body.getD .skip) 1 = true := by kernel_rfl
theorem boleref13_Text.ok {s1 : ByteArray} {K : Value → Heap → Prop} {h : Heap} (hx : boleref13_Text s1 K h) : C.boleref13_Text s1 h K :=
  fn_to (cxOk _ _) Try.func20 (by kernel_rfl) boleref13_Text.chk (by rw [boleref13_Text.eq]; exact hx)

-- 21
def bolelaw13_same (aA1 : Option Addr) (aL1 : Nat) (aC1 : Nat) (bA1 : Option Addr) (bL1 : Nat) (bC1 : Nat) (K : Value → Heap → Prop) (h1 : Heap) : Prop :=
  bif ((aL1 : Int) != (bL1 : Int)) then (
  K (.bool false) h1) else (
  ∃ (I1 : Int → Heap → Prop) (M1 : Int → Heap → Nat), I1 0 h1 ∧
  ∀ (n1 : Int), ∀ h2 : Heap, I1 n1 h2 →
  bif (decide (n1 < (aL1 : Int))) then (
  (0 ≤ n1 ∧ n1 < (aL1 : Int)) ∧
  onSome aA1 fun p1 =>
  ∃ (s1 : ByteArray), cellOf h2 (Addr.add p1 (Int.toNat n1)) = some (.string s1) ∧
  (0 ≤ n1 ∧ n1 < (bL1 : Int)) ∧
  onSome bA1 fun p2 =>
  ∃ (s2 : ByteArray), cellOf h2 (Addr.add p2 (Int.toNat n1)) = some (.string s2) ∧
  bif (!(s1.toList == s2.toList)) then (
  K (.bool false) h2) else (
  I1 (IntKind.wrap .i64 (n1 + 1)) h2 ∧ M1 (IntKind.wrap .i64 (n1 + 1)) h2 < M1 n1 h2)) else (
  K (.bool true) h2))
def bolelaw13_same.lo : Nat → List Nat × List (Nat × Ty) := fun n => match n with | 4 => ([0, 1, 12], [(13, .int .i64)]) | _ => ([], [])
def bolelaw13_same.od : Nat → Od := fun n => match n with | 6 => (.op 0 [] (.op 1 [] (.op 2 [] (.op 3 [] (.op 4 [] (.op 5 [] (.op 6 [] (.op 7 [] (.op 8 [] .nil))))))))) | _ => .nil
theorem bolelaw13_same.eq (aA1 : Option Addr) (aL1 : Nat) (aC1 : Nat) (bA1 : Option Addr) (bL1 : Nat) (bC1 : Nat) (K : Value → Heap → Prop) (h : Heap) : fnX (cx bolelaw13_same.lo bolelaw13_same.od) Try.f21 (Try.f21.body.getD .skip) [.slice aA1 aL1 aC1, .slice bA1 bL1 bC1] K h = bolelaw13_same aA1 aL1 aC1 bA1 bL1 bC1 K h := by kernel_rfl
theorem bolelaw13_same.chk : fnOk (cx bolelaw13_same.lo bolelaw13_same.od) Try.f21 (Try.f21.body.getD .skip) 2 = true := by kernel_rfl
theorem bolelaw13_same.ok {aA1 : Option Addr} {aL1 : Nat} {aC1 : Nat} {bA1 : Option Addr} {bL1 : Nat} {bC1 : Nat} {K : Value → Heap → Prop} {h : Heap} (hx : bolelaw13_same aA1 aL1 aC1 bA1 bL1 bC1 K h) : C.bolelaw13_same aA1 aL1 aC1 bA1 bL1 bC1 h K :=
  fn_to (cxOk _ _) Try.func21 (by kernel_rfl) bolelaw13_same.chk (by rw [bolelaw13_same.eq]; exact hx)

-- 22
def path_Make.k1 (h5 : Heap) (h13 : Heap) (sA1 : Option Addr) (sL1 : Nat) (sC1 : Nat) (K : Value → Heap → Prop) : Prop :=
  (0 ≤ (IntKind.wrap .i64 ((sL1 : Int) - 1)) ∧ (IntKind.wrap .i64 ((sL1 : Int) - 1)) ≤ (IntKind.wrap .i64 ((sL1 : Int) - 1)) ∧ (IntKind.wrap .i64 ((sL1 : Int) - 1)) ≤ (sC1 : Int)) ∧
  (0 ≤ (IntKind.wrap .i64 ((sL1 : Int) - 1)) ∧ (IntKind.wrap .i64 ((sL1 : Int) - 1)) < (sL1 : Int)) ∧
  onSome sA1 fun p1 =>
  ∃ (s4 : ByteArray), cellOf h13 (Addr.add p1 (Int.toNat (IntKind.wrap .i64 ((sL1 : Int) - 1)))) = some (.string s4) ∧
  EndD h5.size h13 fun h16 =>
  K (.tuple #[.slice sA1 (Int.toNat (IntKind.wrap .i64 ((sL1 : Int) - 1))) (Int.toNat (IntKind.wrap .i64 ((sL1 : Int) - 1))), .string s4, .int .i64 0]) h16
def path_Make (s1 : ByteArray) (K : Value → Heap → Prop) (h1 : Heap) : Prop :=
  C.path_wrong s1 true h1 fun r1 h2 =>
  ∃ (b1 : Bool), r1 = .bool b1 ∧
  bif b1 then (
  K (.tuple #[.slice none 0 0, .string (mkStr []), .int .i64 1]) h2) else (
  New z9 9 h2 fun h3 =>
  Put ⟨h2.size, 0, none⟩ (.string (mkStr [])) h3 fun h4 =>
  C.path_pieces s1 h4 fun r2 h5 =>
  ∃ (v1 : Value), r2 = v1 ∧
  ∀ (R1 : Loop),
  (∀ (s2 : ByteArray), ∀ (h6 : Heap) (k1 : Value → Heap → Prop), LoopOn h6 (h5.size + 1) R1 .ready none →
  (
  LoopOn h6 (h5.size + 1) R1 .ready none ∧
  SetL h6 (h5.size + 1) R1 .busy none fun h7 =>
  Put ⟨h2.size, 0, none⟩ (.string s2) h7 fun h8 =>
  LoopOn h8 (h5.size + 1) R1 .busy none ∧
  k1 (.bool true) (setLoop h8 (h5.size + 1) R1 .ready none)) →
  YCalls Try.prog (h5.size + 1) [.string s2] h6 k1) →
  HCallsF Try.prog v1 [.func (.yield (h5.size + 1)) #[] #[]] (beginL h5 R1) fun _ h9 =>
  ∃ (st1 : LoopState) (pend1 : Option Code), LoopOn h9 (h5.size + 1) R1 st1 pend1 ∧ st1 ≠ .busy ∧
  pendX pend1 (
  SetL h9 (h5.size + 1) R1 .exhausted pend1 fun h10 =>
  ∃ (s3 : ByteArray), cellOf h10 ⟨h2.size, 0, none⟩ = some (.string s3) ∧
  C.path_does s3 h10 fun r3 h11 =>
  ∃ (v2 : Value) (b2 : Bool), r3 = .tuple #[v2, .bool b2] ∧
  bif b2 then (
  EndD h5.size h11 fun h12 =>
  K (.tuple #[.slice none 0 0, .string (mkStr []), .int .i64 1]) h12) else (
  C.path_components s1 1024 h11 fun r4 h13 =>
  ∃ (sA1 : Option Addr) (sL1 : Nat) (sC1 : Nat) (n1 : Int), r4 = .tuple #[.slice sA1 sL1 sC1, .int .i64 n1] ∧
  bif (n1 != 0) then (
  EndD h5.size h13 fun h14 =>
  K (.tuple #[.slice none 0 0, .string (mkStr []), .int .i64 n1]) h14) else (
  bif ((sL1 : Int) == 0) then (
  EndD h5.size h13 fun h15 =>
  K (.tuple #[.slice none 0 0, .string (mkStr []), .int .i64 n1]) h15) else (
  path_Make.k1 h5 h13 sA1 sL1 sC1 K)))) (
  False) (fun _ => False))
def path_Make.lo : Nat → List Nat × List (Nat × Ty) := fun n => match n with | 1000005 => ([], [(15, .str)]) | _ => ([], [])
def path_Make.od : Nat → Od := fun n => match n with | 13 => (.op 0 [] (.op 1 [] (.op 2 [] (.op 3 [] (.op 4 [] (.op 5 [] (.op 6 [] (.op 7 [] (.op 8 [] (.op 9 [] (.op 10 [] (.op 11 [] (.op 12 [] (.op 13 [] (.op 14 [] (.op 15 [] (.op 16 [] .nil))))))))))))))))) | _ => .nil
theorem path_Make.eq (s1 : ByteArray) (K : Value → Heap → Prop) (h : Heap) : fnX (cx path_Make.lo path_Make.od) Try.f22 (Try.f22.body.getD .skip) [.string s1] K h = path_Make s1 K h := by kernel_rfl
theorem path_Make.chk : fnOk (cx path_Make.lo path_Make.od) Try.f22 (Try.f22.body.getD .skip) 1 = true := by kernel_rfl
theorem path_Make.ok {s1 : ByteArray} {K : Value → Heap → Prop} {h : Heap} (hx : path_Make s1 K h) : C.path_Make s1 h K :=
  fn_to (cxOk _ _) Try.func22 (by kernel_rfl) path_Make.chk (by rw [path_Make.eq]; exact hx)

-- 23
def boleref13_Make.k1 (s1 : ByteArray) (h2 : Heap) (K : Value → Heap → Prop) : Prop :=
  C.boleref13_Parse s1 h2 fun r2 h3 =>
  ∃ (sA2 : Option Addr) (sL2 : Nat) (sC2 : Nat) (n1 : Int), r2 = .tuple #[.slice sA2 sL2 sC2, .int .i64 n1] ∧
  bif (n1 != 0) then (
  K (.tuple #[.slice none 0 0, .string (mkStr []), .int .i64 n1]) h3) else (
  bif ((sL2 : Int) == 0) then (
  K (.tuple #[.slice none 0 0, .string (mkStr []), .int .i64 0]) h3) else (
  (0 ≤ (IntKind.wrap .i64 ((sL2 : Int) - 1)) ∧ (IntKind.wrap .i64 ((sL2 : Int) - 1)) ≤ (sC2 : Int)) ∧
  (0 ≤ (IntKind.wrap .i64 ((sL2 : Int) - 1)) ∧ (IntKind.wrap .i64 ((sL2 : Int) - 1)) < (sL2 : Int)) ∧
  onSome sA2 fun p3 =>
  ∃ (s4 : ByteArray), cellOf h3 (Addr.add p3 (Int.toNat (IntKind.wrap .i64 ((sL2 : Int) - 1)))) = some (.string s4) ∧
  K (.tuple #[.slice sA2 (Int.toNat (IntKind.wrap .i64 ((sL2 : Int) - 1))) sC2, .string s4, .int .i64 0]) h3))
def boleref13_Make (s1 : ByteArray) (K : Value → Heap → Prop) (h1 : Heap) : Prop :=
  C.boleref13_pieces s1 h1 fun r1 h2 =>
  ∃ (sA1 : Option Addr) (sL1 : Nat) (sC1 : Nat), r1 = .slice sA1 sL1 sC1 ∧
  bif (decide ((sL1 : Int) > 0)) then (
  (0 ≤ (IntKind.wrap .i64 ((sL1 : Int) - 1)) ∧ (IntKind.wrap .i64 ((sL1 : Int) - 1)) < (sL1 : Int)) ∧
  onSome sA1 fun p1 =>
  ∃ (s2 : ByteArray), cellOf h2 (Addr.add p1 (Int.toNat (IntKind.wrap .i64 ((sL1 : Int) - 1)))) = some (.string s2) ∧
  bif (s2.toList == (mkStr [46]).toList) then (
  K (.tuple #[.slice none 0 0, .string (mkStr []), .int .i64 1]) h2) else (
  (0 ≤ (IntKind.wrap .i64 ((sL1 : Int) - 1)) ∧ (IntKind.wrap .i64 ((sL1 : Int) - 1)) < (sL1 : Int)) ∧
  onSome sA1 fun p2 =>
  ∃ (s3 : ByteArray), cellOf h2 (Addr.add p2 (Int.toNat (IntKind.wrap .i64 ((sL1 : Int) - 1)))) = some (.string s3) ∧
  bif (s3.toList == (mkStr [46, 46]).toList) then (
  K (.tuple #[.slice none 0 0, .string (mkStr []), .int .i64 1]) h2) else (
  boleref13_Make.k1 s1 h2 K))) else (
  boleref13_Make.k1 s1 h2 K)
def boleref13_Make.lo : Nat → List Nat × List (Nat × Ty) := fun n => match n with | _ => ([], [])
def boleref13_Make.od : Nat → Od := fun n => match n with | 9 => (.op 0 [] (.op 1 [] (.op 2 [] (.op 3 [] (.op 4 [] (.op 5 [] (.op 6 [] (.op 7 [] (.op 8 [] (.op 9 [] (.op 10 [] (.op 11 [] (.op 12 [] (.op 13 [] .nil)))))))))))))) | _ => .nil
theorem boleref13_Make.eq (s1 : ByteArray) (K : Value → Heap → Prop) (h : Heap) : fnX (cx boleref13_Make.lo boleref13_Make.od) Try.f23 (Try.f23.body.getD .skip) [.string s1] K h = boleref13_Make s1 K h := by kernel_rfl
theorem boleref13_Make.chk : fnOk (cx boleref13_Make.lo boleref13_Make.od) Try.f23 (Try.f23.body.getD .skip) 1 = true := by kernel_rfl
theorem boleref13_Make.ok {s1 : ByteArray} {K : Value → Heap → Prop} {h : Heap} (hx : boleref13_Make s1 K h) : C.boleref13_Make s1 h K :=
  fn_to (cxOk _ _) Try.func23 (by kernel_rfl) boleref13_Make.chk (by rw [boleref13_Make.eq]; exact hx)

-- 24
def path_Clean (s1 : ByteArray) (K : Value → Heap → Prop) (h1 : Heap) : Prop :=
  C.path_Parse s1 h1 fun r1 h2 =>
  ∃ (sA1 : Option Addr) (sL1 : Nat) (sC1 : Nat) (n1 : Int), r1 = .tuple #[.slice sA1 sL1 sC1, .int .i64 n1] ∧
  bif (n1 != 0) then (
  K (.tuple #[.string (mkStr []), .int .i64 n1]) h2) else (
  ∃ (I1 : Option Addr → Nat → Nat → Int → Heap → Prop) (M1 : Option Addr → Nat → Nat → Int → Heap → Nat), I1 none 0 0 0 h2 ∧
  ∀ (leftA1 : Option Addr) (leftL1 : Nat) (leftC1 : Nat) (n2 : Int), ∀ h3 : Heap, I1 leftA1 leftL1 leftC1 n2 h3 →
  bif (decide (n2 < (sL1 : Int))) then (
  (0 ≤ n2 ∧ n2 < (sL1 : Int)) ∧
  onSome sA1 fun p1 =>
  ∃ (s2 : ByteArray), cellOf h3 (Addr.add p1 (Int.toNat n2)) = some (.string s2) ∧
  C.path_does s2 h3 fun r2 h4 =>
  ∃ (v1 : Value) (b1 : Bool), r2 = .tuple #[v1, .bool b1] ∧
  bif b1 then (
  HCallsV Try.prog v1 [.slice leftA1 leftL1 leftC1] h4 fun r3 h5 =>
  ∃ (sA2 : Option Addr) (sL2 : Nat) (sC2 : Nat), r3 = .slice sA2 sL2 sC2 ∧
  I1 sA2 sL2 sC2 (IntKind.wrap .i64 (n2 + 1)) h5 ∧ M1 sA2 sL2 sC2 (IntKind.wrap .i64 (n2 + 1)) h5 < M1 leftA1 leftL1 leftC1 n2 h3) else (
  New [.string s2] 9 h4 fun h6 =>
  ∃ new1 : List Value, List.length new1 = 1 * 1 ∧ SlCells h6 (some ⟨h4.size, 0, none⟩) new1 ∧ (∀ v ∈ new1, v.oneCell' = true) ∧
  AppendP ti9 9 leftA1 leftL1 leftC1 1 new1 h6 fun sA3 sL3 sC3 h7 =>
  I1 sA3 sL3 sC3 (IntKind.wrap .i64 (n2 + 1)) h7 ∧ M1 sA3 sL3 sC3 (IntKind.wrap .i64 (n2 + 1)) h7 < M1 leftA1 leftL1 leftC1 n2 h3)) else (
  C.path_Join leftA1 leftL1 leftC1 h3 fun r4 h8 =>
  ∃ (s3 : ByteArray) (n3 : Int), r4 = .tuple #[.string s3, .int .i64 n3] ∧
  K (.tuple #[.string s3, .int .i64 n3]) h8))
def path_Clean.lo : Nat → List Nat × List (Nat × Ty) := fun n => match n with | 6 => ([19, 20], [(6, .slice), (21, .int .i64)]) | _ => ([], [])
def path_Clean.od : Nat → Od := fun n => match n with | _ => .nil
theorem path_Clean.eq (s1 : ByteArray) (K : Value → Heap → Prop) (h : Heap) : fnX (cx path_Clean.lo path_Clean.od) Try.f24 (Try.f24.body.getD .skip) [.string s1] K h = path_Clean s1 K h := by kernel_rfl
theorem path_Clean.chk : fnOk (cx path_Clean.lo path_Clean.od) Try.f24 (Try.f24.body.getD .skip) 1 = true := by kernel_rfl
theorem path_Clean.ok {s1 : ByteArray} {K : Value → Heap → Prop} {h : Heap} (hx : path_Clean s1 K h) : C.path_Clean s1 h K :=
  fn_to (cxOk _ _) Try.func24 (by kernel_rfl) path_Clean.chk (by rw [path_Clean.eq]; exact hx)

-- 25
def boleref13_Clean (s1 : ByteArray) (K : Value → Heap → Prop) (h1 : Heap) : Prop :=
  C.boleref13_Parse s1 h1 fun r1 h2 =>
  ∃ (sA1 : Option Addr) (sL1 : Nat) (sC1 : Nat) (n1 : Int), r1 = .tuple #[.slice sA1 sL1 sC1, .int .i64 n1] ∧
  bif (n1 != 0) then (
  K (.tuple #[.string (mkStr []), .int .i64 n1]) h2) else (
  ∃ (I1 : Option Addr → Nat → Nat → Int → Heap → Prop) (M1 : Option Addr → Nat → Nat → Int → Heap → Nat), I1 none 0 0 0 h2 ∧
  ∀ (leftA1 : Option Addr) (leftL1 : Nat) (leftC1 : Nat) (n2 : Int), ∀ h3 : Heap, I1 leftA1 leftL1 leftC1 n2 h3 →
  bif (decide (n2 < (sL1 : Int))) then (
  (0 ≤ n2 ∧ n2 < (sL1 : Int)) ∧
  onSome sA1 fun p1 =>
  ∃ (s2 : ByteArray), cellOf h3 (Addr.add p1 (Int.toNat n2)) = some (.string s2) ∧
  bif (!(s2.toList == (mkStr [46, 46]).toList)) then (
  New [.string s2] 9 h3 fun h4 =>
  ∃ new1 : List Value, List.length new1 = 1 * 1 ∧ SlCells h4 (some ⟨h3.size, 0, none⟩) new1 ∧ (∀ v ∈ new1, v.oneCell' = true) ∧
  AppendP ti9 9 leftA1 leftL1 leftC1 1 new1 h4 fun sA2 sL2 sC2 h5 =>
  I1 sA2 sL2 sC2 (IntKind.wrap .i64 (n2 + 1)) h5 ∧ M1 sA2 sL2 sC2 (IntKind.wrap .i64 (n2 + 1)) h5 < M1 leftA1 leftL1 leftC1 n2 h3) else (
  bif (decide ((leftL1 : Int) > 0)) then (
  (0 ≤ (IntKind.wrap .i64 ((leftL1 : Int) - 1)) ∧ (IntKind.wrap .i64 ((leftL1 : Int) - 1)) ≤ (leftC1 : Int)) ∧
  I1 leftA1 (Int.toNat (IntKind.wrap .i64 ((leftL1 : Int) - 1))) leftC1 (IntKind.wrap .i64 (n2 + 1)) h3 ∧ M1 leftA1 (Int.toNat (IntKind.wrap .i64 ((leftL1 : Int) - 1))) leftC1 (IntKind.wrap .i64 (n2 + 1)) h3 < M1 leftA1 leftL1 leftC1 n2 h3) else (
  I1 leftA1 leftL1 leftC1 (IntKind.wrap .i64 (n2 + 1)) h3 ∧ M1 leftA1 leftL1 leftC1 (IntKind.wrap .i64 (n2 + 1)) h3 < M1 leftA1 leftL1 leftC1 n2 h3))) else (
  C.boleref13_Join leftA1 leftL1 leftC1 h3 fun r2 h6 =>
  ∃ (s3 : ByteArray) (n3 : Int), r2 = .tuple #[.string s3, .int .i64 n3] ∧
  K (.tuple #[.string s3, .int .i64 n3]) h6))
def boleref13_Clean.lo : Nat → List Nat × List (Nat × Ty) := fun n => match n with | 6 => ([17, 18], [(6, .slice), (19, .int .i64)]) | _ => ([], [])
def boleref13_Clean.od : Nat → Od := fun n => match n with | _ => .nil
theorem boleref13_Clean.eq (s1 : ByteArray) (K : Value → Heap → Prop) (h : Heap) : fnX (cx boleref13_Clean.lo boleref13_Clean.od) Try.f25 (Try.f25.body.getD .skip) [.string s1] K h = boleref13_Clean s1 K h := by kernel_rfl
theorem boleref13_Clean.chk : fnOk (cx boleref13_Clean.lo boleref13_Clean.od) Try.f25 (Try.f25.body.getD .skip) 1 = true := by kernel_rfl
theorem boleref13_Clean.ok {s1 : ByteArray} {K : Value → Heap → Prop} {h : Heap} (hx : boleref13_Clean s1 K h) : C.boleref13_Clean s1 h K :=
  fn_to (cxOk _ _) Try.func25 (by kernel_rfl) boleref13_Clean.chk (by rw [boleref13_Clean.eq]; exact hx)

-- 26
def path_Name (s1 : ByteArray) (K : Value → Heap → Prop) (h1 : Heap) : Prop :=
  C.path_does s1 h1 fun r1 h2 =>
  ∃ (v1 : Value) (b1 : Bool), r1 = .tuple #[v1, .bool b1] ∧
  bif (decide ((s1.size : Int) ≥ 1)) then (
  bif (decide ((s1.size : Int) ≤ 27)) then (
  bif (!b1) then (
  C.strings_ContainsAny s1 (mkStr [47, 0]) h2 fun r2 h3 =>
  ∃ (b2 : Bool), r2 = .bool b2 ∧
  K (.bool (!b2)) h3) else (
  K (.bool false) h2)) else (
  K (.bool false) h2)) else (
  K (.bool false) h2)
def path_Name.lo : Nat → List Nat × List (Nat × Ty) := fun n => match n with | _ => ([], [])
def path_Name.od : Nat → Od := fun n => match n with | _ => .nil
theorem path_Name.eq (s1 : ByteArray) (K : Value → Heap → Prop) (h : Heap) : fnX (cx path_Name.lo path_Name.od) Try.f26 (Try.f26.body.getD .skip) [.string s1] K h = path_Name s1 K h := by kernel_rfl
theorem path_Name.chk : fnOk (cx path_Name.lo path_Name.od) Try.f26 (Try.f26.body.getD .skip) 1 = true := by kernel_rfl
theorem path_Name.ok {s1 : ByteArray} {K : Value → Heap → Prop} {h : Heap} (hx : path_Name s1 K h) : C.path_Name s1 h K :=
  fn_to (cxOk _ _) Try.func26 (by kernel_rfl) path_Name.chk (by rw [path_Name.eq]; exact hx)

-- 27
def boleref13_Name (s1 : ByteArray) (K : Value → Heap → Prop) (h1 : Heap) : Prop :=
  bif (!(s1.toList == (mkStr [46]).toList)) then (
  bif (!(s1.toList == (mkStr [46, 46]).toList)) then (
  bif (decide ((s1.size : Int) ≤ 27)) then (
  C.boleref13_zero s1 h1 fun r1 h2 =>
  ∃ (b1 : Bool), r1 = .bool b1 ∧
  bif (!b1) then (
  C.boleref13_pieces s1 h2 fun r2 h3 =>
  ∃ (sA1 : Option Addr) (sL1 : Nat) (sC1 : Nat), r2 = .slice sA1 sL1 sC1 ∧
  bif ((sL1 : Int) == 1) then (
  C.boleref13_pieces s1 h3 fun r3 h4 =>
  ∃ (sA2 : Option Addr) (sL2 : Nat) (sC2 : Nat), r3 = .slice sA2 sL2 sC2 ∧
  (0 ≤ (0 : Int) ∧ 0 < (sL2 : Int)) ∧
  onSome sA2 fun p1 =>
  ∃ (s2 : ByteArray), cellOf h4 (Addr.add p1 (Int.toNat 0)) = some (.string s2) ∧
  K (.bool (s2.toList == s1.toList)) h4) else (
  K (.bool false) h3)) else (
  K (.bool false) h2)) else (
  K (.bool false) h1)) else (
  K (.bool false) h1)) else (
  K (.bool false) h1)
def boleref13_Name.lo : Nat → List Nat × List (Nat × Ty) := fun n => match n with | _ => ([], [])
def boleref13_Name.od : Nat → Od := fun n => match n with | _ => .nil
theorem boleref13_Name.eq (s1 : ByteArray) (K : Value → Heap → Prop) (h : Heap) : fnX (cx boleref13_Name.lo boleref13_Name.od) Try.f27 (Try.f27.body.getD .skip) [.string s1] K h = boleref13_Name s1 K h := by kernel_rfl
theorem boleref13_Name.chk : fnOk (cx boleref13_Name.lo boleref13_Name.od) Try.f27 (Try.f27.body.getD .skip) 1 = true := by kernel_rfl
theorem boleref13_Name.ok {s1 : ByteArray} {K : Value → Heap → Prop} {h : Heap} (hx : boleref13_Name s1 K h) : C.boleref13_Name s1 h K :=
  fn_to (cxOk _ _) Try.func27 (by kernel_rfl) boleref13_Name.chk (by rw [boleref13_Name.eq]; exact hx)

-- 28
def path_Join.k1 (long1 : Bool) (n1 : Int) (h2 : Heap) (I1 : Bool → Int → Heap → Prop) (M1 : Bool → Int → Heap → Nat) (s1 : ByteArray) (h4 : Heap) (K : Value → Heap → Prop) : Prop :=
  bif long1 then (
  I1 true (IntKind.wrap .i64 (n1 + 1)) h4 ∧ M1 true (IntKind.wrap .i64 (n1 + 1)) h4 < M1 long1 n1 h2) else (
  I1 (decide ((s1.size : Int) > 27)) (IntKind.wrap .i64 (n1 + 1)) h4 ∧ M1 (decide ((s1.size : Int) > 27)) (IntKind.wrap .i64 (n1 + 1)) h4 < M1 long1 n1 h2)
def path_Join (partsA1 : Option Addr) (partsL1 : Nat) (partsC1 : Nat) (K : Value → Heap → Prop) (h1 : Heap) : Prop :=
  ∃ (I1 : Bool → Int → Heap → Prop) (M1 : Bool → Int → Heap → Nat), I1 (decide ((partsL1 : Int) > 32)) 0 h1 ∧
  ∀ (long1 : Bool) (n1 : Int), ∀ h2 : Heap, I1 long1 n1 h2 →
  bif (decide (n1 < (partsL1 : Int))) then (
  (0 ≤ n1 ∧ n1 < (partsL1 : Int)) ∧
  onSome partsA1 fun p1 =>
  ∃ (s1 : ByteArray), cellOf h2 (Addr.add p1 (Int.toNat n1)) = some (.string s1) ∧
  bif (s1.toList == (mkStr []).toList) then (
  K (.tuple #[.string (mkStr []), .int .i64 1]) h2) else (
  bif (s1.toList == (mkStr [46]).toList) then (
  K (.tuple #[.string (mkStr []), .int .i64 1]) h2) else (
  C.strings_ContainsAny s1 (mkStr [47, 0]) h2 fun r1 h3 =>
  ∃ (b1 : Bool), r1 = .bool b1 ∧
  bif b1 then (
  K (.tuple #[.string (mkStr []), .int .i64 1]) h3) else (
  path_Join.k1 long1 n1 h2 I1 M1 s1 h3 K)))) else (
  bif long1 then (
  K (.tuple #[.string (mkStr []), .int .i64 130]) h2) else (
  C.strings_Join partsA1 partsL1 partsC1 (mkStr [47]) h2 fun r2 h5 =>
  ∃ (s2 : ByteArray), r2 = .string s2 ∧
  (((mkStr [47]).size + s2.size : Nat) : Int) ≤ 9223372036854775807 ∧
  K (.tuple #[.string ((mkStr [47]) ++ s2), .int .i64 0]) h5))
def path_Join.lo : Nat → List Nat × List (Nat × Ty) := fun n => match n with | 3 => ([0, 10, 11], [(4, .bool), (12, .int .i64)]) | _ => ([], [])
def path_Join.od : Nat → Od := fun n => match n with | _ => .nil
theorem path_Join.eq (partsA1 : Option Addr) (partsL1 : Nat) (partsC1 : Nat) (K : Value → Heap → Prop) (h : Heap) : fnX (cx path_Join.lo path_Join.od) Try.f28 (Try.f28.body.getD .skip) [.slice partsA1 partsL1 partsC1] K h = path_Join partsA1 partsL1 partsC1 K h := by kernel_rfl
theorem path_Join.chk : fnOk (cx path_Join.lo path_Join.od) Try.f28 (Try.f28.body.getD .skip) 1 = true := by kernel_rfl
theorem path_Join.ok {partsA1 : Option Addr} {partsL1 : Nat} {partsC1 : Nat} {K : Value → Heap → Prop} {h : Heap} (hx : path_Join partsA1 partsL1 partsC1 K h) : C.path_Join partsA1 partsL1 partsC1 h K :=
  fn_to (cxOk _ _) Try.func28 (by kernel_rfl) path_Join.chk (by rw [path_Join.eq]; exact hx)

-- 29
def boleref13_Join.k1 (long1 : Bool) (n1 : Int) (h2 : Heap) (I1 : Bool → Int → Heap → Prop) (M1 : Bool → Int → Heap → Nat) (s1 : ByteArray) (h6 : Heap) (K : Value → Heap → Prop) : Prop :=
  bif long1 then (
  I1 true (IntKind.wrap .i64 (n1 + 1)) h6 ∧ M1 true (IntKind.wrap .i64 (n1 + 1)) h6 < M1 long1 n1 h2) else (
  I1 (decide ((s1.size : Int) > 27)) (IntKind.wrap .i64 (n1 + 1)) h6 ∧ M1 (decide ((s1.size : Int) > 27)) (IntKind.wrap .i64 (n1 + 1)) h6 < M1 long1 n1 h2)
def boleref13_Join (partsA1 : Option Addr) (partsL1 : Nat) (partsC1 : Nat) (K : Value → Heap → Prop) (h1 : Heap) : Prop :=
  ∃ (I1 : Bool → Int → Heap → Prop) (M1 : Bool → Int → Heap → Nat), I1 (decide ((partsL1 : Int) > 32)) 0 h1 ∧
  ∀ (long1 : Bool) (n1 : Int), ∀ h2 : Heap, I1 long1 n1 h2 →
  bif (decide (n1 < (partsL1 : Int))) then (
  (0 ≤ n1 ∧ n1 < (partsL1 : Int)) ∧
  onSome partsA1 fun p1 =>
  ∃ (s1 : ByteArray), cellOf h2 (Addr.add p1 (Int.toNat n1)) = some (.string s1) ∧
  bif (s1.toList == (mkStr [46]).toList) then (
  K (.tuple #[.string (mkStr []), .int .i64 1]) h2) else (
  C.boleref13_zero s1 h2 fun r1 h3 =>
  ∃ (b1 : Bool), r1 = .bool b1 ∧
  bif b1 then (
  K (.tuple #[.string (mkStr []), .int .i64 1]) h3) else (
  C.boleref13_pieces s1 h3 fun r2 h4 =>
  ∃ (sA1 : Option Addr) (sL1 : Nat) (sC1 : Nat), r2 = .slice sA1 sL1 sC1 ∧
  bif ((sL1 : Int) != 1) then (
  K (.tuple #[.string (mkStr []), .int .i64 1]) h4) else (
  C.boleref13_pieces s1 h4 fun r3 h5 =>
  ∃ (sA2 : Option Addr) (sL2 : Nat) (sC2 : Nat), r3 = .slice sA2 sL2 sC2 ∧
  (0 ≤ (0 : Int) ∧ 0 < (sL2 : Int)) ∧
  onSome sA2 fun p2 =>
  ∃ (s2 : ByteArray), cellOf h5 (Addr.add p2 (Int.toNat 0)) = some (.string s2) ∧
  bif (!(s2.toList == s1.toList)) then (
  K (.tuple #[.string (mkStr []), .int .i64 1]) h5) else (
  boleref13_Join.k1 long1 n1 h2 I1 M1 s1 h5 K))))) else (
  bif long1 then (
  K (.tuple #[.string (mkStr []), .int .i64 130]) h2) else (
  ∃ (I2 : ByteArray → Int → Heap → Prop) (M2 : ByteArray → Int → Heap → Nat), I2 (mkStr []) 0 h2 ∧
  ∀ (s3 : ByteArray) (n2 : Int), ∀ h7 : Heap, I2 s3 n2 h7 →
  bif (decide (n2 < (partsL1 : Int))) then (
  (0 ≤ n2 ∧ n2 < (partsL1 : Int)) ∧
  onSome partsA1 fun p3 =>
  ∃ (s4 : ByteArray), cellOf h7 (Addr.add p3 (Int.toNat n2)) = some (.string s4) ∧
  ((s3.size + (mkStr [47]).size : Nat) : Int) ≤ 9223372036854775807 ∧
  (((s3 ++ (mkStr [47])).size + s4.size : Nat) : Int) ≤ 9223372036854775807 ∧
  I2 ((s3 ++ (mkStr [47])) ++ s4) (IntKind.wrap .i64 (n2 + 1)) h7 ∧ M2 ((s3 ++ (mkStr [47])) ++ s4) (IntKind.wrap .i64 (n2 + 1)) h7 < M2 s3 n2 h7) else (
  bif (s3.toList == (mkStr []).toList) then (
  K (.tuple #[.string (mkStr [47]), .int .i64 0]) h7) else (
  K (.tuple #[.string s3, .int .i64 0]) h7))))
def boleref13_Join.lo : Nat → List Nat × List (Nat × Ty) := fun n => match n with | 3 => ([0, 13, 14], [(4, .bool), (15, .int .i64)]) | 13 => ([47, 48], [(7, .str), (49, .int .i64)]) | _ => ([], [])
def boleref13_Join.od : Nat → Od := fun n => match n with | _ => .nil
theorem boleref13_Join.eq (partsA1 : Option Addr) (partsL1 : Nat) (partsC1 : Nat) (K : Value → Heap → Prop) (h : Heap) : fnX (cx boleref13_Join.lo boleref13_Join.od) Try.f29 (Try.f29.body.getD .skip) [.slice partsA1 partsL1 partsC1] K h = boleref13_Join partsA1 partsL1 partsC1 K h := by kernel_rfl
theorem boleref13_Join.chk : fnOk (cx boleref13_Join.lo boleref13_Join.od) Try.f29 (Try.f29.body.getD .skip) 1 = true := by kernel_rfl
theorem boleref13_Join.ok {partsA1 : Option Addr} {partsL1 : Nat} {partsC1 : Nat} {K : Value → Heap → Prop} {h : Heap} (hx : boleref13_Join partsA1 partsL1 partsC1 K h) : C.boleref13_Join partsA1 partsL1 partsC1 h K :=
  fn_to (cxOk _ _) Try.func29 (by kernel_rfl) boleref13_Join.chk (by rw [boleref13_Join.eq]; exact hx)

-- 30
def bolelaw13_num (e1 : Int) (K : Value → Heap → Prop) (h1 : Heap) : Prop :=
  K (.int .i64 e1) h1
def bolelaw13_num.lo : Nat → List Nat × List (Nat × Ty) := fun n => match n with | _ => ([], [])
def bolelaw13_num.od : Nat → Od := fun n => match n with | _ => .nil
theorem bolelaw13_num.eq (e1 : Int) (K : Value → Heap → Prop) (h : Heap) : fnX (cx bolelaw13_num.lo bolelaw13_num.od) Try.f30 (Try.f30.body.getD .skip) [.int .i64 e1] K h = bolelaw13_num e1 K h := by kernel_rfl
theorem bolelaw13_num.chk : fnOk (cx bolelaw13_num.lo bolelaw13_num.od) Try.f30 (Try.f30.body.getD .skip) 1 = true := by kernel_rfl
theorem bolelaw13_num.ok {e1 : Int} {K : Value → Heap → Prop} {h : Heap} (hx : bolelaw13_num e1 K h) : C.bolelaw13_num e1 h K :=
  fn_to (cxOk _ _) Try.func30 (by kernel_rfl) bolelaw13_num.chk (by rw [bolelaw13_num.eq]; exact hx)

-- 31
def bolelaw13_dotted.k1 (s3 : ByteArray) (h3 : Heap) (K : Value → Heap → Prop) : Prop :=
  bif (decide ((s3.size : Int) ≥ 2)) then (
  (0 ≤ (IntKind.wrap .i64 ((s3.size : Int) - 1)) ∧ (IntKind.wrap .i64 ((s3.size : Int) - 1)) < (s3.size : Int)) ∧
  ∃ b2 : UInt8, s3.toList[Int.toNat (IntKind.wrap .i64 ((s3.size : Int) - 1))]? = some b2 ∧
  bif (((UInt8.toNat b2 : Nat) : Int) == 46) then (
  (0 ≤ (IntKind.wrap .i64 ((s3.size : Int) - 2)) ∧ (IntKind.wrap .i64 ((s3.size : Int) - 2)) < (s3.size : Int)) ∧
  ∃ b3 : UInt8, s3.toList[Int.toNat (IntKind.wrap .i64 ((s3.size : Int) - 2))]? = some b3 ∧
  K (.bool (((UInt8.toNat b3 : Nat) : Int) == 47)) h3) else (
  K (.bool false) h3)) else (
  K (.bool false) h3)
def bolelaw13_dotted (s1 : ByteArray) (K : Value → Heap → Prop) (h1 : Heap) : Prop :=
  ∃ (I1 : ByteArray → Heap → Prop) (M1 : ByteArray → Heap → Nat), I1 s1 h1 ∧
  ∀ (s2 : ByteArray), ∀ h2 : Heap, I1 s2 h2 →
  bif (decide ((s2.size : Int) > 0)) then (
  (0 ≤ (IntKind.wrap .i64 ((s2.size : Int) - 1)) ∧ (IntKind.wrap .i64 ((s2.size : Int) - 1)) < (s2.size : Int)) ∧
  ∃ b1 : UInt8, s2.toList[Int.toNat (IntKind.wrap .i64 ((s2.size : Int) - 1))]? = some b1 ∧
  bif (((UInt8.toNat b1 : Nat) : Int) == 47) then (
  (0 ≤ (IntKind.wrap .i64 ((s2.size : Int) - 1)) ∧ (IntKind.wrap .i64 ((s2.size : Int) - 1)) ≤ (s2.size : Int)) ∧
  I1 (ByteArray.extract s2 0 (Int.toNat (IntKind.wrap .i64 ((s2.size : Int) - 1)))) h2 ∧ M1 (ByteArray.extract s2 0 (Int.toNat (IntKind.wrap .i64 ((s2.size : Int) - 1)))) h2 < M1 s2 h2) else (
  bolelaw13_dotted.k1 s2 h2 K)) else (
  bolelaw13_dotted.k1 s2 h2 K)
def bolelaw13_dotted.lo : Nat → List Nat × List (Nat × Ty) := fun n => match n with | 1 => ([], [(0, .str)]) | _ => ([], [])
def bolelaw13_dotted.od : Nat → Od := fun n => match n with | _ => .nil
theorem bolelaw13_dotted.eq (s1 : ByteArray) (K : Value → Heap → Prop) (h : Heap) : fnX (cx bolelaw13_dotted.lo bolelaw13_dotted.od) Try.f31 (Try.f31.body.getD .skip) [.string s1] K h = bolelaw13_dotted s1 K h := by kernel_rfl
theorem bolelaw13_dotted.chk : fnOk (cx bolelaw13_dotted.lo bolelaw13_dotted.od) Try.f31 (Try.f31.body.getD .skip) 1 = true := by kernel_rfl
theorem bolelaw13_dotted.ok {s1 : ByteArray} {K : Value → Heap → Prop} {h : Heap} (hx : bolelaw13_dotted s1 K h) : C.bolelaw13_dotted s1 h K :=
  fn_to (cxOk _ _) Try.func31 (by kernel_rfl) bolelaw13_dotted.chk (by rw [bolelaw13_dotted.eq]; exact hx)

-- 32
def bolelaw13_mark (i1 : Int) (K : Value → Heap → Prop) (h1 : Heap) : Prop :=
  New [.int .u8 (IntKind.wrap .u8 ((IntKind.wrap .i64 (97 + i1))))] 5 h1 fun h2 =>
  ∃ bs1 : List UInt8, StrAt h2 (some ⟨h1.size, 0, none⟩) 1 bs1 ∧
  (((mkStr [47, 109, 97, 114, 107, 32]).size + (mkStr bs1).size : Nat) : Int) ≤ 9223372036854775807 ∧
  K (.string ((mkStr [47, 109, 97, 114, 107, 32]) ++ (mkStr bs1))) h2
def bolelaw13_mark.lo : Nat → List Nat × List (Nat × Ty) := fun n => match n with | _ => ([], [])
def bolelaw13_mark.od : Nat → Od := fun n => match n with | _ => .nil
theorem bolelaw13_mark.eq (i1 : Int) (K : Value → Heap → Prop) (h : Heap) : fnX (cx bolelaw13_mark.lo bolelaw13_mark.od) Try.f32 (Try.f32.body.getD .skip) [.int .i64 i1] K h = bolelaw13_mark i1 K h := by kernel_rfl
theorem bolelaw13_mark.chk : fnOk (cx bolelaw13_mark.lo bolelaw13_mark.od) Try.f32 (Try.f32.body.getD .skip) 1 = true := by kernel_rfl
theorem bolelaw13_mark.ok {i1 : Int} {K : Value → Heap → Prop} {h : Heap} (hx : bolelaw13_mark i1 K h) : C.bolelaw13_mark i1 h K :=
  fn_to (cxOk _ _) Try.func32 (by kernel_rfl) bolelaw13_mark.chk (by rw [bolelaw13_mark.eq]; exact hx)

-- 33
def boleref09_Geo (n1 : Int) (K : Value → Heap → Prop) (h1 : Heap) : Prop :=
  NewRow z30 30 [.int .i64 n1, .int .i64 98, .int .i64 (IntKind.wrap .i64 (98 + (IntKind.wrap .i64 (Int.tdiv (IntKind.wrap .i64 ((IntKind.wrap .i64 (n1 + 4096)) - 1)) 4096)))), .int .i64 (IntKind.wrap .i64 ((IntKind.wrap .i64 (98 + (IntKind.wrap .i64 (Int.tdiv (IntKind.wrap .i64 ((IntKind.wrap .i64 (n1 + 4096)) - 1)) 4096)))) + (IntKind.wrap .i64 (Int.tdiv n1 64)))), .int .i64 (IntKind.wrap .i64 (8 * (IntKind.wrap .i64 (Int.tdiv n1 64))))] 5 h1 fun h3 =>
  ∃ res1 : List Value, List.length res1 = 5 ∧ Cells h3 ⟨h1.size, 0, none⟩ res1 ∧
  K (.agg ⟨res1⟩) h3
def boleref09_Geo.lo : Nat → List Nat × List (Nat × Ty) := fun n => match n with | _ => ([], [])
def boleref09_Geo.od : Nat → Od := fun n => match n with | _ => .nil
theorem boleref09_Geo.eq (n1 : Int) (K : Value → Heap → Prop) (h : Heap) : fnX (cx boleref09_Geo.lo boleref09_Geo.od) Try.f33 (Try.f33.body.getD .skip) [.int .i64 n1] K h = boleref09_Geo n1 K h := by kernel_rfl
theorem boleref09_Geo.chk : fnOk (cx boleref09_Geo.lo boleref09_Geo.od) Try.f33 (Try.f33.body.getD .skip) 1 = true := by kernel_rfl
theorem boleref09_Geo.ok {n1 : Int} {K : Value → Heap → Prop} {h : Heap} (hx : boleref09_Geo n1 K h) : C.boleref09_Geo n1 h K :=
  fn_to (cxOk _ _) Try.func33 (by kernel_rfl) boleref09_Geo.chk (by rw [boleref09_Geo.eq]; exact hx)

-- 34
def bolelaw09_Case_blocks (c1 : List Value) (K : Value → Heap → Prop) (h1 : Heap) : Prop :=
  New c1 27 h1 fun h2 =>
  ∃ (n1 : Int), cellOf h2 (Addr.add ⟨h1.size, 0, none⟩ 0) = some (.int .i64 n1) ∧
  C.bolelaw09_mod n1 200 h2 fun r1 h3 =>
  ∃ (n2 : Int), r1 = .int .i64 n2 ∧
  bif (decide (n2 < 180)) then (
  K (.int .i64 (IntKind.wrap .i64 (128 + n2))) h3) else (
  bif (decide (n2 < 190)) then (
  K (.int .i64 (IntKind.wrap .i64 ((IntKind.wrap .i64 (4096 + n2)) - 185))) h3) else (
  K (.int .i64 (IntKind.wrap .i64 ((IntKind.wrap .i64 (8192 + n2)) - 195))) h3))
def bolelaw09_Case_blocks.lo : Nat → List Nat × List (Nat × Ty) := fun n => match n with | _ => ([], [])
def bolelaw09_Case_blocks.od : Nat → Od := fun n => match n with | _ => .nil
theorem bolelaw09_Case_blocks.eq (c1 : List Value) (K : Value → Heap → Prop) (h : Heap) : fnX (cx bolelaw09_Case_blocks.lo bolelaw09_Case_blocks.od) Try.f34 (Try.f34.body.getD .skip) [.agg ⟨c1⟩] K h = bolelaw09_Case_blocks c1 K h := by kernel_rfl
theorem bolelaw09_Case_blocks.chk : fnOk (cx bolelaw09_Case_blocks.lo bolelaw09_Case_blocks.od) Try.f34 (Try.f34.body.getD .skip) 1 = true := by kernel_rfl
theorem bolelaw09_Case_blocks.ok {c1 : List Value} {K : Value → Heap → Prop} {h : Heap} (hx : bolelaw09_Case_blocks c1 K h) : C.bolelaw09_Case_blocks c1 h K :=
  fn_to (cxOk _ _) Try.func34 (by kernel_rfl) bolelaw09_Case_blocks.chk (by rw [bolelaw09_Case_blocks.eq]; exact hx)

-- 35
def adisk_Open (imageA1 : Option Addr) (imageL1 : Nat) (imageC1 : Nat) (K : Value → Heap → Prop) (h1 : Heap) : Prop :=
  bif ((Int.tmod (imageL1 : Int) 512) != 0) then (
  K (.tuple #[.pointer none, .int .i64 32]) h1) else (
  C.adisk_New (IntKind.wrap .i64 (Int.tdiv (imageL1 : Int) 512)) h1 fun r1 h2 =>
  ∃ (q1 : Option Addr) (n1 : Int), r1 = .tuple #[.pointer q1, .int .i64 n1] ∧
  bif (n1 != 0) then (
  K (.tuple #[.pointer none, .int .i64 n1]) h2) else (
  onSome q1 fun p1 =>
  ∃ (sA1 : Option Addr) (sL1 : Nat) (sC1 : Nat), cellOf h2 (Addr.add p1 0) = some (.slice sA1 sL1 sC1) ∧
  ∃ (I1 : Int → Heap → Prop) (M1 : Int → Heap → Nat), I1 0 h2 ∧
  ∀ (n2 : Int), ∀ h3 : Heap, I1 n2 h3 →
  bif (decide (n2 < (sL1 : Int))) then (
  onSome q1 fun p2 =>
  ∃ (sA2 : Option Addr) (sL2 : Nat) (sC2 : Nat), cellOf h3 (Addr.add p2 0) = some (.slice sA2 sL2 sC2) ∧
  (0 ≤ n2 ∧ n2 < (sL2 : Int)) ∧
  onSome sA2 fun p3 =>
  (0 ≤ (IntKind.wrap .i64 (n2 * 512)) ∧ (IntKind.wrap .i64 (n2 * 512)) ≤ (imageL1 : Int)) ∧
  CopyP ti5 (some (Addr.add p3 ((Int.toNat n2) * 512))) 512 (.slice (if imageC1 = (Int.toNat (IntKind.wrap .i64 (n2 * 512))) then imageA1 else Option.map (Addr.add · (Int.toNat (IntKind.wrap .i64 (n2 * 512)))) imageA1) (imageL1 - (Int.toNat (IntKind.wrap .i64 (n2 * 512)))) (imageC1 - (Int.toNat (IntKind.wrap .i64 (n2 * 512))))) h3 fun n3 h4 =>
  I1 (IntKind.wrap .i64 (n2 + 1)) h4 ∧ M1 (IntKind.wrap .i64 (n2 + 1)) h4 < M1 n2 h3) else (
  K (.tuple #[.pointer q1, .int .i64 0]) h3)))
def adisk_Open.lo : Nat → List Nat × List (Nat × Ty) := fun n => match n with | 7 => ([0, 4, 25], [(26, .int .i64)]) | _ => ([], [])
def adisk_Open.od : Nat → Od := fun n => match n with | 9 => (.op 0 [] (.op 1 [] (.op 2 [] (.op 3 [] (.op 4 [] (.op 5 [] (.op 6 [] (.op 7 [] (.op 8 [] (.op 9 [] (.op 10 [] (.op 11 [] .nil)))))))))))) | _ => .nil
theorem adisk_Open.eq (imageA1 : Option Addr) (imageL1 : Nat) (imageC1 : Nat) (K : Value → Heap → Prop) (h : Heap) : fnX (cx adisk_Open.lo adisk_Open.od) Try.f35 (Try.f35.body.getD .skip) [.slice imageA1 imageL1 imageC1] K h = adisk_Open imageA1 imageL1 imageC1 K h := by kernel_rfl
theorem adisk_Open.chk : fnOk (cx adisk_Open.lo adisk_Open.od) Try.f35 (Try.f35.body.getD .skip) 1 = true := by kernel_rfl
theorem adisk_Open.ok {imageA1 : Option Addr} {imageL1 : Nat} {imageC1 : Nat} {K : Value → Heap → Prop} {h : Heap} (hx : adisk_Open imageA1 imageL1 imageC1 K h) : C.adisk_Open imageA1 imageL1 imageC1 h K :=
  fn_to (cxOk _ _) Try.func35 (by kernel_rfl) adisk_Open.chk (by rw [adisk_Open.eq]; exact hx)

-- 36
def bolelaw09_Case_image.k3 (n1 : Int) (h4 : Heap) (h6 : Heap) (i2 : Int) (h10 : Heap) (I2 : Int → Heap → Prop) (M2 : Int → Heap → Nat) (on2 : Bool) (K : Value → Heap → Prop) : Prop :=
  bif on2 then (
  ∃ (n9 : Int), cellOf h10 (Addr.add ⟨h4.size, 0, none⟩ 1) = some (.int .i64 n9) ∧
  (0 ≤ (IntKind.wrap .i64 ((IntKind.wrap .i64 (n9 * 512)) + (IntKind.wrap .i64 (Int.tdiv i2 8)))) ∧ (IntKind.wrap .i64 ((IntKind.wrap .i64 (n9 * 512)) + (IntKind.wrap .i64 (Int.tdiv i2 8)))) < ((Int.toNat (IntKind.wrap .i64 (n1 * 512))) : Int)) ∧
  ∃ (n10 : Int), cellOf h10 (Addr.add ⟨h6.size, 0, none⟩ (Int.toNat (IntKind.wrap .i64 ((IntKind.wrap .i64 (n9 * 512)) + (IntKind.wrap .i64 (Int.tdiv i2 8)))))) = some (.int .u8 n10) ∧
  if (Int.tmod i2 8) < 0 then False else
  (0 ≤ (IntKind.wrap .i64 ((IntKind.wrap .i64 (n9 * 512)) + (IntKind.wrap .i64 (Int.tdiv i2 8)))) ∧ (IntKind.wrap .i64 ((IntKind.wrap .i64 (n9 * 512)) + (IntKind.wrap .i64 (Int.tdiv i2 8)))) < ((Int.toNat (IntKind.wrap .i64 (n1 * 512))) : Int)) ∧
  Put (Addr.add ⟨h6.size, 0, none⟩ (Int.toNat (IntKind.wrap .i64 ((IntKind.wrap .i64 (n9 * 512)) + (IntKind.wrap .i64 (Int.tdiv i2 8)))))) (.int .u8 (bitsI .or .u8 n10 (IntKind.wrap .u8 ((1 * 2 ^ min (Int.toNat (Int.tmod i2 8)) 8))))) h10 fun h11 =>
  I2 (IntKind.wrap .i64 (i2 + 1)) h11 ∧ M2 (IntKind.wrap .i64 (i2 + 1)) h11 < M2 i2 h10) else (
  I2 (IntKind.wrap .i64 (i2 + 1)) h10 ∧ M2 (IntKind.wrap .i64 (i2 + 1)) h10 < M2 i2 h10)
def bolelaw09_Case_image.k2 (n1 : Int) (h4 : Heap) (h6 : Heap) (i2 : Int) (h10 : Heap) (I2 : Int → Heap → Prop) (M2 : Int → Heap → Nat) (n6 : Int) (x1 : Int) (K : Value → Heap → Prop) : Prop :=
  if (Int.tmod (IntKind.wrap .i64 (i2 - n6)) 8) < 0 then False else
  bolelaw09_Case_image.k3 n1 h4 h6 i2 h10 I2 M2 ((bitsI .and .u8 (Int.fdiv x1 (2 ^ min (Int.toNat (Int.tmod (IntKind.wrap .i64 (i2 - n6)) 8)) 8)) 1) == 1) K
def bolelaw09_Case_image.k1 (h1 : Heap) (n1 : Int) (h4 : Heap) (h6 : Heap) (i2 : Int) (h10 : Heap) (I2 : Int → Heap → Prop) (M2 : Int → Heap → Nat) (on1 : Bool) (K : Value → Heap → Prop) : Prop :=
  bif (!on1) then (
  ∃ (n6 : Int), cellOf h10 (Addr.add ⟨h4.size, 0, none⟩ 3) = some (.int .i64 n6) ∧
  ∃ (n7 : Int), cellOf h10 (Addr.add ⟨h1.size, 0, none⟩ 2) = some (.int .u8 n7) ∧
  ∃ (sA1 : Option Addr) (sL1 : Nat) (sC1 : Nat), cellOf h10 (Addr.add ⟨h1.size, 0, none⟩ 1) = some (.slice sA1 sL1 sC1) ∧
  bif (decide ((IntKind.wrap .i64 (Int.tdiv (IntKind.wrap .i64 (i2 - n6)) 8)) < (sL1 : Int))) then (
  ∃ (sA2 : Option Addr) (sL2 : Nat) (sC2 : Nat), cellOf h10 (Addr.add ⟨h1.size, 0, none⟩ 1) = some (.slice sA2 sL2 sC2) ∧
  (0 ≤ (IntKind.wrap .i64 (Int.tdiv (IntKind.wrap .i64 (i2 - n6)) 8)) ∧ (IntKind.wrap .i64 (Int.tdiv (IntKind.wrap .i64 (i2 - n6)) 8)) < (sL2 : Int)) ∧
  onSome sA2 fun p1 =>
  ∃ (n8 : Int), cellOf h10 (Addr.add p1 (Int.toNat (IntKind.wrap .i64 (Int.tdiv (IntKind.wrap .i64 (i2 - n6)) 8)))) = some (.int .u8 n8) ∧
  bolelaw09_Case_image.k2 n1 h4 h6 i2 h10 I2 M2 n6 n8 K) else (
  bolelaw09_Case_image.k2 n1 h4 h6 i2 h10 I2 M2 n6 n7 K)) else (
  bolelaw09_Case_image.k3 n1 h4 h6 i2 h10 I2 M2 on1 K)
def bolelaw09_Case_image (c1 : List Value) (K : Value → Heap → Prop) (h1 : Heap) : Prop :=
  New c1 27 h1 fun h2 =>
  ∃ cs1 : List Value, List.length cs1 = 4 ∧ Cells h2 ⟨h1.size, 0, none⟩ cs1 ∧
  C.bolelaw09_Case_blocks cs1 h2 fun r1 h3 =>
  ∃ (n1 : Int), r1 = .int .i64 n1 ∧
  C.boleref09_Geo n1 h3 fun r2 h4 =>
  ∃ (cs2 : List Value), r2 = .agg ⟨cs2⟩ ∧
  NewRow z30 30 cs2 5 h4 fun h6 =>
  (0 ≤ (IntKind.wrap .i64 (n1 * 512)) ∧ (IntKind.wrap .i64 (n1 * 512)) ≤ (IntKind.wrap .i64 (n1 * 512)) ∧ (1 : Int) * (IntKind.wrap .i64 (n1 * 512)) ≤ 281474976710656 ∧ (IntKind.wrap .i64 (n1 * 512)) ≤ 281474976710656) ∧
  New (repCells z5 (Int.toNat (IntKind.wrap .i64 (n1 * 512)))) 5 h6 fun h7 =>
  ∃ (n2 : Int), cellOf h7 (Addr.add ⟨h4.size, 0, none⟩ 3) = some (.int .i64 n2) ∧
  ∃ (I1 : Int → Heap → Prop) (M1 : Int → Heap → Nat), I1 (IntKind.wrap .i64 (n2 * 512)) h7 ∧
  ∀ (i1 : Int), ∀ h8 : Heap, I1 i1 h8 →
  bif (decide (i1 < ((Int.toNat (IntKind.wrap .i64 (n1 * 512))) : Int))) then (
  (0 ≤ i1 ∧ i1 < ((Int.toNat (IntKind.wrap .i64 (n1 * 512))) : Int)) ∧
  Put (Addr.add ⟨h6.size, 0, none⟩ (Int.toNat i1)) (.int .u8 7) h8 fun h9 =>
  I1 (IntKind.wrap .i64 (i1 + 1)) h9 ∧ M1 (IntKind.wrap .i64 (i1 + 1)) h9 < M1 i1 h8) else (
  ∃ (I2 : Int → Heap → Prop) (M2 : Int → Heap → Nat), I2 0 h8 ∧
  ∀ (i2 : Int), ∀ h10 : Heap, I2 i2 h10 →
  ∃ (n3 : Int), cellOf h10 (Addr.add ⟨h4.size, 0, none⟩ 2) = some (.int .i64 n3) ∧
  ∃ (n4 : Int), cellOf h10 (Addr.add ⟨h4.size, 0, none⟩ 1) = some (.int .i64 n4) ∧
  bif (decide (i2 < (IntKind.wrap .i64 ((IntKind.wrap .i64 (n3 - n4)) * 4096)))) then (
  ∃ (n5 : Int), cellOf h10 (Addr.add ⟨h4.size, 0, none⟩ 3) = some (.int .i64 n5) ∧
  bif (decide (i2 < n5)) then (
  bolelaw09_Case_image.k1 h1 n1 h4 h6 i2 h10 I2 M2 true K) else (
  bolelaw09_Case_image.k1 h1 n1 h4 h6 i2 h10 I2 M2 (decide (i2 ≥ n1)) K)) else (
  K (.slice (some ⟨h6.size, 0, none⟩) (Int.toNat (IntKind.wrap .i64 (n1 * 512))) (Int.toNat (IntKind.wrap .i64 (n1 * 512)))) h10))
def bolelaw09_Case_image.lo : Nat → List Nat × List (Nat × Ty) := fun n => match n with | 5 => ([1, 3, 4, 5], [(6, .int .i64)]) | 9 => ([1, 3, 4, 5], [(7, .int .i64)]) | _ => ([], [])
def bolelaw09_Case_image.od : Nat → Od := fun n => match n with | 19 => (.op 0 [] (.op 1 [] (.op 2 [] (.op 3 [] (.op 4 [] (.op 5 [] (.op 6 [] (.op 7 [] (.op 8 [] (.op 9 [] (.op 10 [] (.op 11 [] (.op 12 [] (.op 13 [] (.op 14 [] .nil))))))))))))))) | _ => .nil
theorem bolelaw09_Case_image.eq (c1 : List Value) (K : Value → Heap → Prop) (h : Heap) : fnX (cx bolelaw09_Case_image.lo bolelaw09_Case_image.od) Try.f36 (Try.f36.body.getD .skip) [.agg ⟨c1⟩] K h = bolelaw09_Case_image c1 K h := by kernel_rfl
theorem bolelaw09_Case_image.chk : fnOk (cx bolelaw09_Case_image.lo bolelaw09_Case_image.od) Try.f36 (Try.f36.body.getD .skip) 1 = true := by kernel_rfl
theorem bolelaw09_Case_image.ok {c1 : List Value} {K : Value → Heap → Prop} {h : Heap} (hx : bolelaw09_Case_image c1 K h) : C.bolelaw09_Case_image c1 h K :=
  fn_to (cxOk _ _) Try.func36 (by kernel_rfl) bolelaw09_Case_image.chk (by rw [bolelaw09_Case_image.eq]; exact hx)

-- 37
def txn_Begin (d1 : Option Addr) (K : Value → Heap → Prop) (h1 : Heap) : Prop :=
  NewM h1 fun h2 =>
  New [.pointer d1, .map (some h1.size), .slice none 0 0, .bool false] 79 h2 fun h3 =>
  K (.pointer (some ⟨h2.size, 0, none⟩)) h3
def txn_Begin.lo : Nat → List Nat × List (Nat × Ty) := fun n => match n with | _ => ([], [])
def txn_Begin.od : Nat → Od := fun n => match n with | _ => .nil
theorem txn_Begin.eq (d1 : Option Addr) (K : Value → Heap → Prop) (h : Heap) : fnX (cx txn_Begin.lo txn_Begin.od) Try.f37 (Try.f37.body.getD .skip) [.pointer d1] K h = txn_Begin d1 K h := by kernel_rfl
theorem txn_Begin.chk : fnOk (cx txn_Begin.lo txn_Begin.od) Try.f37 (Try.f37.body.getD .skip) 1 = true := by kernel_rfl
theorem txn_Begin.ok {d1 : Option Addr} {K : Value → Heap → Prop} {h : Heap} (hx : txn_Begin d1 K h) : C.txn_Begin d1 h K :=
  fn_to (cxOk _ _) Try.func37 (by kernel_rfl) txn_Begin.chk (by rw [txn_Begin.eq]; exact hx)

-- 38
def space_Used (t1 : Option Addr) (g1 : List Value) (i1 : Int) (K : Value → Heap → Prop) (h1 : Heap) : Prop :=
  New g1 30 h1 fun h2 =>
  ∃ cs1 : List Value, List.length cs1 = 5 ∧ Cells h2 ⟨h1.size, 0, none⟩ cs1 ∧
  C.space_bit t1 cs1 i1 h2 fun r1 h3 =>
  ∃ (n1 : Int) (sA1 : Option Addr) (sL1 : Nat) (sC1 : Nat) (n2 : Int) (n3 : Int), r1 = .tuple #[.int .i64 n1, .slice sA1 sL1 sC1, .int .i64 n2, .int .i64 n3] ∧
  bif (n3 != 0) then (
  K (.tuple #[.bool false, .int .i64 n3]) h3) else (
  C.bits_Get sA1 sL1 sC1 n2 h3 fun r2 h4 =>
  ∃ (b1 : Bool) (n4 : Int), r2 = .tuple #[.bool b1, .int .i64 n4] ∧
  K (.tuple #[.bool b1, .int .i64 n4]) h4)
def space_Used.lo : Nat → List Nat × List (Nat × Ty) := fun n => match n with | _ => ([], [])
def space_Used.od : Nat → Od := fun n => match n with | _ => .nil
theorem space_Used.eq (t1 : Option Addr) (g1 : List Value) (i1 : Int) (K : Value → Heap → Prop) (h : Heap) : fnX (cx space_Used.lo space_Used.od) Try.f38 (Try.f38.body.getD .skip) [.pointer t1, .agg ⟨g1⟩, .int .i64 i1] K h = space_Used t1 g1 i1 K h := by kernel_rfl
theorem space_Used.chk : fnOk (cx space_Used.lo space_Used.od) Try.f38 (Try.f38.body.getD .skip) 3 = true := by kernel_rfl
theorem space_Used.ok {t1 : Option Addr} {g1 : List Value} {i1 : Int} {K : Value → Heap → Prop} {h : Heap} (hx : space_Used t1 g1 i1 K h) : C.space_Used t1 g1 i1 h K :=
  fn_to (cxOk _ _) Try.func38 (by kernel_rfl) space_Used.chk (by rw [space_Used.eq]; exact hx)

-- 39
def space_set (t1 : Option Addr) (g1 : List Value) (i1 : Int) (on1 : Bool) (K : Value → Heap → Prop) (h1 : Heap) : Prop :=
  New g1 30 h1 fun h2 =>
  ∃ cs1 : List Value, List.length cs1 = 5 ∧ Cells h2 ⟨h1.size, 0, none⟩ cs1 ∧
  C.space_bit t1 cs1 i1 h2 fun r1 h3 =>
  ∃ (n1 : Int) (sA1 : Option Addr) (sL1 : Nat) (sC1 : Nat) (n2 : Int) (n3 : Int), r1 = .tuple #[.int .i64 n1, .slice sA1 sL1 sC1, .int .i64 n2, .int .i64 n3] ∧
  bif (n3 != 0) then (
  K (.int .i64 n3) h3) else (
  C.bits_Put sA1 sL1 sC1 n2 on1 h3 fun r2 h4 =>
  ∃ (n4 : Int), r2 = .int .i64 n4 ∧
  bif (n4 != 0) then (
  K (.int .i64 n4) h4) else (
  C.txn_Txn_Write t1 n1 sA1 sL1 sC1 h4 fun r3 h5 =>
  ∃ (n5 : Int), r3 = .int .i64 n5 ∧
  K (.int .i64 n5) h5))
def space_set.lo : Nat → List Nat × List (Nat × Ty) := fun n => match n with | _ => ([], [])
def space_set.od : Nat → Od := fun n => match n with | _ => .nil
theorem space_set.eq (t1 : Option Addr) (g1 : List Value) (i1 : Int) (on1 : Bool) (K : Value → Heap → Prop) (h : Heap) : fnX (cx space_set.lo space_set.od) Try.f39 (Try.f39.body.getD .skip) [.pointer t1, .agg ⟨g1⟩, .int .i64 i1, .bool on1] K h = space_set t1 g1 i1 on1 K h := by kernel_rfl
theorem space_set.chk : fnOk (cx space_set.lo space_set.od) Try.f39 (Try.f39.body.getD .skip) 4 = true := by kernel_rfl
theorem space_set.ok {t1 : Option Addr} {g1 : List Value} {i1 : Int} {on1 : Bool} {K : Value → Heap → Prop} {h : Heap} (hx : space_set t1 g1 i1 on1 K h) : C.space_set t1 g1 i1 on1 h K :=
  fn_to (cxOk _ _) Try.func39 (by kernel_rfl) space_set.chk (by rw [space_set.eq]; exact hx)

-- 40
def adisk_Disk_Blocks (d1 : Option Addr) (K : Value → Heap → Prop) (h1 : Heap) : Prop :=
  onSome d1 fun p1 =>
  ∃ (sA1 : Option Addr) (sL1 : Nat) (sC1 : Nat), cellOf h1 (Addr.add p1 0) = some (.slice sA1 sL1 sC1) ∧
  K (.int .i64 (sL1 : Int)) h1
def adisk_Disk_Blocks.lo : Nat → List Nat × List (Nat × Ty) := fun n => match n with | _ => ([], [])
def adisk_Disk_Blocks.od : Nat → Od := fun n => match n with | _ => .nil
theorem adisk_Disk_Blocks.eq (d1 : Option Addr) (K : Value → Heap → Prop) (h : Heap) : fnX (cx adisk_Disk_Blocks.lo adisk_Disk_Blocks.od) Try.f40 (Try.f40.body.getD .skip) [.pointer d1] K h = adisk_Disk_Blocks d1 K h := by kernel_rfl
theorem adisk_Disk_Blocks.chk : fnOk (cx adisk_Disk_Blocks.lo adisk_Disk_Blocks.od) Try.f40 (Try.f40.body.getD .skip) 1 = true := by kernel_rfl
theorem adisk_Disk_Blocks.ok {d1 : Option Addr} {K : Value → Heap → Prop} {h : Heap} (hx : adisk_Disk_Blocks d1 K h) : C.adisk_Disk_Blocks d1 h K :=
  fn_to (cxOk _ _) Try.func40 (by kernel_rfl) adisk_Disk_Blocks.chk (by rw [adisk_Disk_Blocks.eq]; exact hx)

-- 41
def slices_Clone_byte_byte (sA1 : Option Addr) (sL1 : Nat) (sC1 : Nat) (K : Value → Heap → Prop) (h1 : Heap) : Prop :=
  bif (Option.isNone sA1) then (
  K (.slice none 0 0) h1) else (
  New [] 5 h1 fun h2 =>
  ∃ new1 : List Value, List.length new1 = sL1 * 1 ∧ SlCells h2 sA1 new1 ∧ (∀ v ∈ new1, v.oneCell' = true) ∧
  AppendP ti5 5 (some ⟨h1.size, 0, none⟩) 0 0 sL1 new1 h2 fun sA2 sL2 sC2 h3 =>
  K (.slice sA2 sL2 sC2) h3)
def slices_Clone_byte_byte.lo : Nat → List Nat × List (Nat × Ty) := fun n => match n with | _ => ([], [])
def slices_Clone_byte_byte.od : Nat → Od := fun n => match n with | _ => .nil
theorem slices_Clone_byte_byte.eq (sA1 : Option Addr) (sL1 : Nat) (sC1 : Nat) (K : Value → Heap → Prop) (h : Heap) : fnX (cx slices_Clone_byte_byte.lo slices_Clone_byte_byte.od) Try.f41 (Try.f41.body.getD .skip) [.slice sA1 sL1 sC1] K h = slices_Clone_byte_byte sA1 sL1 sC1 K h := by kernel_rfl
theorem slices_Clone_byte_byte.chk : fnOk (cx slices_Clone_byte_byte.lo slices_Clone_byte_byte.od) Try.f41 (Try.f41.body.getD .skip) 1 = true := by kernel_rfl
theorem slices_Clone_byte_byte.ok {sA1 : Option Addr} {sL1 : Nat} {sC1 : Nat} {K : Value → Heap → Prop} {h : Heap} (hx : slices_Clone_byte_byte sA1 sL1 sC1 K h) : C.slices_Clone_byte_byte sA1 sL1 sC1 h K :=
  fn_to (cxOk _ _) Try.func41 (by kernel_rfl) slices_Clone_byte_byte.chk (by rw [slices_Clone_byte_byte.eq]; exact hx)

-- 42
def adisk_Disk_Read (d1 : Option Addr) (i1 : Int) (K : Value → Heap → Prop) (h1 : Heap) : Prop :=
  onSome d1 fun p1 =>
  ∃ (b1 : Bool), cellOf h1 (Addr.add p1 4) = some (.bool b1) ∧
  bif b1 then (
  K (.tuple #[.slice none 0 0, .int .i64 30]) h1) else (
  C.adisk_Disk_has d1 i1 h1 fun r1 h2 =>
  ∃ (b2 : Bool), r1 = .bool b2 ∧
  bif (!b2) then (
  K (.tuple #[.slice none 0 0, .int .i64 31]) h2) else (
  onSome d1 fun p2 =>
  ∃ (sA1 : Option Addr) (sL1 : Nat) (sC1 : Nat), cellOf h2 (Addr.add p2 0) = some (.slice sA1 sL1 sC1) ∧
  (0 ≤ i1 ∧ i1 < (sL1 : Int)) ∧
  onSome sA1 fun p3 =>
  ∃ cs1 : List Value, List.length cs1 = 512 ∧ Cells h2 (Addr.add p3 ((Int.toNat i1) * 512)) cs1 ∧
  NewRow z109 109 cs1 512 h2 fun h4 =>
  onSome d1 fun p4 =>
  ∃ (sA2 : Option Addr) (sL2 : Nat) (sC2 : Nat), cellOf h4 (Addr.add p4 1) = some (.slice sA2 sL2 sC2) ∧
  ∃ (I1 : Int → Heap → Prop) (M1 : Int → Heap → Nat), I1 0 h4 ∧
  ∀ (n1 : Int), ∀ h5 : Heap, I1 n1 h5 →
  bif (decide (n1 < (sL2 : Int))) then (
  (0 ≤ n1 ∧ n1 < (sL2 : Int)) ∧
  onSome sA2 fun p5 =>
  ∃ cs2 : List Value, List.length cs2 = 513 ∧ Cells h5 (Addr.add p5 ((Int.toNat n1) * 513)) cs2 ∧
  NewRow z116 116 cs2 513 h5 fun h7 =>
  ∃ (n2 : Int), cellOf h7 (Addr.add ⟨h5.size, 0, none⟩ 0) = some (.int .i64 n2) ∧
  bif (n2 == i1) then (
  ∃ cs3 : List Value, List.length cs3 = 512 ∧ Cells h7 (Addr.add ⟨h5.size, 0, none⟩ 1) cs3 ∧
  PutRow ⟨h2.size, 0, none⟩ cs3 512 h7 fun h8 =>
  I1 (IntKind.wrap .i64 (n1 + 1)) h8 ∧ M1 (IntKind.wrap .i64 (n1 + 1)) h8 < M1 n1 h5) else (
  I1 (IntKind.wrap .i64 (n1 + 1)) h7 ∧ M1 (IntKind.wrap .i64 (n1 + 1)) h7 < M1 n1 h5)) else (
  K (.tuple #[.slice (some ⟨h2.size, 0, none⟩) 512 512, .int .i64 0]) h5)))
def adisk_Disk_Read.lo : Nat → List Nat × List (Nat × Ty) := fun n => match n with | 7 => ([1, 6, 29, 30], [(31, .int .i64)]) | _ => ([], [])
def adisk_Disk_Read.od : Nat → Od := fun n => match n with | _ => .nil
theorem adisk_Disk_Read.eq (d1 : Option Addr) (i1 : Int) (K : Value → Heap → Prop) (h : Heap) : fnX (cx adisk_Disk_Read.lo adisk_Disk_Read.od) Try.f42 (Try.f42.body.getD .skip) [.pointer d1, .int .i64 i1] K h = adisk_Disk_Read d1 i1 K h := by kernel_rfl
theorem adisk_Disk_Read.chk : fnOk (cx adisk_Disk_Read.lo adisk_Disk_Read.od) Try.f42 (Try.f42.body.getD .skip) 2 = true := by kernel_rfl
theorem adisk_Disk_Read.ok {d1 : Option Addr} {i1 : Int} {K : Value → Heap → Prop} {h : Heap} (hx : adisk_Disk_Read d1 i1 K h) : C.adisk_Disk_Read d1 i1 h K :=
  fn_to (cxOk _ _) Try.func42 (by kernel_rfl) adisk_Disk_Read.chk (by rw [adisk_Disk_Read.eq]; exact hx)
end Go.Proofs.Ytgpkcakanieodaa.W
