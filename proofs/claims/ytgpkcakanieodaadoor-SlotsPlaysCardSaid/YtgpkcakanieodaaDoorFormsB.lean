/-
  WHAT THE FUNCTIONS COMPUTE, as formulas; each held against the loaded code by the kernel. Written by program (gen.py).
-/
import Derived.Test.YtgpkcakanieodaaDoorTab
namespace Go.Proofs.YtgpkcakanieodaaDoor.W
open Go Go.Proofs Go.Proofs.YtgpkcakanieodaaDoor.Wx
-- 11
def boleref14_Put.k1 (bA1 : Option Addr) (bL1 : Nat) (bC1 : Nat) (h1 : Heap) (h4 : Heap) (K : Value → Heap → Prop) : Prop :=
  ∃ (n5 : Int), cellOf h4 (Addr.add ⟨h1.size, 0, none⟩ 2) = some (.int .i64 n5) ∧
  ∃ (s2 : ByteArray), cellOf h4 (Addr.add ⟨h1.size, 0, none⟩ 1) = some (.string s2) ∧
  C.boleref14_form n5 s2 h4 fun r2 h5 =>
  ∃ (sA1 : Option Addr) (sL1 : Nat) (sC1 : Nat), r2 = .slice sA1 sL1 sC1 ∧
  ∃ (n6 : Int), cellOf h5 (Addr.add ⟨h1.size, 0, none⟩ 0) = some (.int .i64 n6) ∧
  C.boleref14_laid bA1 bL1 bC1 n6 sA1 sL1 sC1 h5 fun r3 h6 =>
  r3 = .tuple #[] ∧
  K (.int .i64 0) h6
def boleref14_Put (bA1 : Option Addr) (bL1 : Nat) (bC1 : Nat) (e1 : List Value) (K : Value → Heap → Prop) (h1 : Heap) : Prop :=
  New e1 30 h1 fun h2 =>
  bif ((bL1 : Int) != 512) then (
  K (.int .i64 32) h2) else (
  ∃ (n1 : Int), cellOf h2 (Addr.add ⟨h1.size, 0, none⟩ 0) = some (.int .i64 n1) ∧
  bif (decide (n1 < 0)) then (
  K (.int .i64 140) h2) else (
  ∃ (n2 : Int), cellOf h2 (Addr.add ⟨h1.size, 0, none⟩ 0) = some (.int .i64 n2) ∧
  bif (decide (n2 ≥ 16)) then (
  K (.int .i64 140) h2) else (
  ∃ (n3 : Int), cellOf h2 (Addr.add ⟨h1.size, 0, none⟩ 2) = some (.int .i64 n3) ∧
  bif (decide (n3 < 1)) then (
  K (.int .i64 140) h2) else (
  ∃ (n4 : Int), cellOf h2 (Addr.add ⟨h1.size, 0, none⟩ 2) = some (.int .i64 n4) ∧
  bif (decide (n4 > 4294967295)) then (
  K (.int .i64 140) h2) else (
  ∃ (s1 : ByteArray), cellOf h2 (Addr.add ⟨h1.size, 0, none⟩ 1) = some (.string s1) ∧
  C.boleref14_Name s1 h2 fun r1 h3 =>
  ∃ (b1 : Bool), r1 = .bool b1 ∧
  bif (!b1) then (
  K (.int .i64 140) h3) else (
  boleref14_Put.k1 bA1 bL1 bC1 h1 h3 K))))))
def boleref14_Put.lo : Nat → List Nat × List (Nat × Ty) := fun n => match n with | _ => ([], [])
def boleref14_Put.od : Nat → Od := fun n => match n with | _ => .nil
theorem boleref14_Put.eq (bA1 : Option Addr) (bL1 : Nat) (bC1 : Nat) (e1 : List Value) (K : Value → Heap → Prop) (h : Heap) : fnX (cx boleref14_Put.lo boleref14_Put.od) Tryd.f11 (Tryd.f11.body.getD .skip) [.slice bA1 bL1 bC1, .agg ⟨e1⟩] K h = boleref14_Put bA1 bL1 bC1 e1 K h := by kernel_rfl
theorem boleref14_Put.chk : fnOk (cx boleref14_Put.lo boleref14_Put.od) Tryd.f11 (Tryd.f11.body.getD .skip) 2 = true := by kernel_rfl
theorem boleref14_Put.ok {bA1 : Option Addr} {bL1 : Nat} {bC1 : Nat} {e1 : List Value} {K : Value → Heap → Prop} {h : Heap} (hx : boleref14_Put bA1 bL1 bC1 e1 K h) : C.boleref14_Put bA1 bL1 bC1 e1 h K :=
  fn_to (cxOk _ _) Tryd.func11 (by kernel_rfl) boleref14_Put.chk (by rw [boleref14_Put.eq]; exact hx)

-- 12
def slots_Put.k1 (bA1 : Option Addr) (bL1 : Nat) (bC1 : Nat) (h1 : Heap) (h5 : Heap) (K : Value → Heap → Prop) : Prop :=
  ∃ (n4 : Int), cellOf h5 (Addr.add ⟨h1.size, 0, none⟩ 0) = some (.int .i64 n4) ∧
  C.slots_cell bA1 bL1 bC1 n4 h5 fun r3 h6 =>
  ∃ (sA1 : Option Addr) (sL1 : Nat) (sC1 : Nat), r3 = .slice sA1 sL1 sC1 ∧
  ∃ (n5 : Int), cellOf h6 (Addr.add ⟨h1.size, 0, none⟩ 2) = some (.int .i64 n5) ∧
  C.rec_Put sA1 sL1 sC1 0 4 (IntKind.wrap .u64 (n5)) h6 fun r4 h7 =>
  ∃ (n6 : Int), r4 = .int .i64 n6 ∧
  ∃ (s2 : ByteArray), cellOf h7 (Addr.add ⟨h1.size, 0, none⟩ 1) = some (.string s2) ∧
  C.rec_Put sA1 sL1 sC1 4 1 (IntKind.wrap .u64 ((s2.size : Int))) h7 fun r5 h8 =>
  ∃ (n7 : Int), r5 = .int .i64 n7 ∧
  ∃ (s3 : ByteArray), cellOf h8 (Addr.add ⟨h1.size, 0, none⟩ 1) = some (.string s3) ∧
  C.rec_PutText sA1 sL1 sC1 5 27 s3 h8 fun r6 h9 =>
  ∃ (n8 : Int), r6 = .int .i64 n8 ∧
  K (.int .i64 0) h9
def slots_Put (bA1 : Option Addr) (bL1 : Nat) (bC1 : Nat) (e1 : List Value) (K : Value → Heap → Prop) (h1 : Heap) : Prop :=
  New e1 30 h1 fun h2 =>
  bif ((bL1 : Int) != 512) then (
  K (.int .i64 32) h2) else (
  ∃ (n1 : Int), cellOf h2 (Addr.add ⟨h1.size, 0, none⟩ 0) = some (.int .i64 n1) ∧
  C.slots_isPlace n1 h2 fun r1 h3 =>
  ∃ (b1 : Bool), r1 = .bool b1 ∧
  bif (!b1) then (
  K (.int .i64 140) h3) else (
  ∃ (n2 : Int), cellOf h3 (Addr.add ⟨h1.size, 0, none⟩ 2) = some (.int .i64 n2) ∧
  bif (decide (n2 < 1)) then (
  K (.int .i64 140) h3) else (
  ∃ (n3 : Int), cellOf h3 (Addr.add ⟨h1.size, 0, none⟩ 2) = some (.int .i64 n3) ∧
  bif (decide (n3 > 4294967295)) then (
  K (.int .i64 140) h3) else (
  ∃ (s1 : ByteArray), cellOf h3 (Addr.add ⟨h1.size, 0, none⟩ 1) = some (.string s1) ∧
  C.path_Name s1 h3 fun r2 h4 =>
  ∃ (b2 : Bool), r2 = .bool b2 ∧
  bif (!b2) then (
  K (.int .i64 140) h4) else (
  slots_Put.k1 bA1 bL1 bC1 h1 h4 K)))))
def slots_Put.lo : Nat → List Nat × List (Nat × Ty) := fun n => match n with | _ => ([], [])
def slots_Put.od : Nat → Od := fun n => match n with | _ => .nil
theorem slots_Put.eq (bA1 : Option Addr) (bL1 : Nat) (bC1 : Nat) (e1 : List Value) (K : Value → Heap → Prop) (h : Heap) : fnX (cx slots_Put.lo slots_Put.od) Tryd.f12 (Tryd.f12.body.getD .skip) [.slice bA1 bL1 bC1, .agg ⟨e1⟩] K h = slots_Put bA1 bL1 bC1 e1 K h := by kernel_rfl
theorem slots_Put.chk : fnOk (cx slots_Put.lo slots_Put.od) Tryd.f12 (Tryd.f12.body.getD .skip) 2 = true := by kernel_rfl
theorem slots_Put.ok {bA1 : Option Addr} {bL1 : Nat} {bC1 : Nat} {e1 : List Value} {K : Value → Heap → Prop} {h : Heap} (hx : slots_Put bA1 bL1 bC1 e1 K h) : C.slots_Put bA1 bL1 bC1 e1 h K :=
  fn_to (cxOk _ _) Tryd.func12 (by kernel_rfl) slots_Put.chk (by rw [slots_Put.eq]; exact hx)

-- 13
def boleref14_Clear (bA1 : Option Addr) (bL1 : Nat) (bC1 : Nat) (place1 : Int) (K : Value → Heap → Prop) (h1 : Heap) : Prop :=
  bif ((bL1 : Int) != 512) then (
  K (.int .i64 32) h1) else (
  bif (decide (place1 < 0)) then (
  K (.int .i64 140) h1) else (
  bif (decide (place1 ≥ 16)) then (
  K (.int .i64 140) h1) else (
  (0 ≤ (32 : Int) ∧ (32 : Int) ≤ 32 ∧ (1 : Int) * 32 ≤ 281474976710656 ∧ (32 : Int) ≤ 281474976710656) ∧
  New (repCells z5 (Int.toNat 32)) 5 h1 fun h2 =>
  C.boleref14_laid bA1 bL1 bC1 place1 (some ⟨h1.size, 0, none⟩) (Int.toNat 32) (Int.toNat 32) h2 fun r1 h3 =>
  r1 = .tuple #[] ∧
  K (.int .i64 0) h3)))
def boleref14_Clear.lo : Nat → List Nat × List (Nat × Ty) := fun n => match n with | _ => ([], [])
def boleref14_Clear.od : Nat → Od := fun n => match n with | _ => .nil
theorem boleref14_Clear.eq (bA1 : Option Addr) (bL1 : Nat) (bC1 : Nat) (place1 : Int) (K : Value → Heap → Prop) (h : Heap) : fnX (cx boleref14_Clear.lo boleref14_Clear.od) Tryd.f13 (Tryd.f13.body.getD .skip) [.slice bA1 bL1 bC1, .int .i64 place1] K h = boleref14_Clear bA1 bL1 bC1 place1 K h := by kernel_rfl
theorem boleref14_Clear.chk : fnOk (cx boleref14_Clear.lo boleref14_Clear.od) Tryd.f13 (Tryd.f13.body.getD .skip) 2 = true := by kernel_rfl
theorem boleref14_Clear.ok {bA1 : Option Addr} {bL1 : Nat} {bC1 : Nat} {place1 : Int} {K : Value → Heap → Prop} {h : Heap} (hx : boleref14_Clear bA1 bL1 bC1 place1 K h) : C.boleref14_Clear bA1 bL1 bC1 place1 h K :=
  fn_to (cxOk _ _) Tryd.func13 (by kernel_rfl) boleref14_Clear.chk (by rw [boleref14_Clear.eq]; exact hx)

-- 14
def slots_Clear (bA1 : Option Addr) (bL1 : Nat) (bC1 : Nat) (place1 : Int) (K : Value → Heap → Prop) (h1 : Heap) : Prop :=
  bif ((bL1 : Int) != 512) then (
  K (.int .i64 32) h1) else (
  C.slots_isPlace place1 h1 fun r1 h2 =>
  ∃ (b1 : Bool), r1 = .bool b1 ∧
  bif (!b1) then (
  K (.int .i64 140) h2) else (
  C.slots_cell bA1 bL1 bC1 place1 h2 fun r2 h3 =>
  ∃ (sA1 : Option Addr) (sL1 : Nat) (sC1 : Nat), r2 = .slice sA1 sL1 sC1 ∧
  ClearP ti5 sA1 sL1 h3 fun h4 =>
  K (.int .i64 0) h4))
def slots_Clear.lo : Nat → List Nat × List (Nat × Ty) := fun n => match n with | _ => ([], [])
def slots_Clear.od : Nat → Od := fun n => match n with | _ => .nil
theorem slots_Clear.eq (bA1 : Option Addr) (bL1 : Nat) (bC1 : Nat) (place1 : Int) (K : Value → Heap → Prop) (h : Heap) : fnX (cx slots_Clear.lo slots_Clear.od) Tryd.f14 (Tryd.f14.body.getD .skip) [.slice bA1 bL1 bC1, .int .i64 place1] K h = slots_Clear bA1 bL1 bC1 place1 K h := by kernel_rfl
theorem slots_Clear.chk : fnOk (cx slots_Clear.lo slots_Clear.od) Tryd.f14 (Tryd.f14.body.getD .skip) 2 = true := by kernel_rfl
theorem slots_Clear.ok {bA1 : Option Addr} {bL1 : Nat} {bC1 : Nat} {place1 : Int} {K : Value → Heap → Prop} {h : Heap} (hx : slots_Clear bA1 bL1 bC1 place1 K h) : C.slots_Clear bA1 bL1 bC1 place1 h K :=
  fn_to (cxOk _ _) Tryd.func14 (by kernel_rfl) slots_Clear.chk (by rw [slots_Clear.eq]; exact hx)

-- 15
def boleref14_Lowest (bA1 : Option Addr) (bL1 : Nat) (bC1 : Nat) (K : Value → Heap → Prop) (h1 : Heap) : Prop :=
  C.boleref14_Read bA1 bL1 bC1 h1 fun r1 h2 =>
  ∃ (sA1 : Option Addr) (sL1 : Nat) (sC1 : Nat) (n1 : Int), r1 = .tuple #[.slice sA1 sL1 sC1, .int .i64 n1] ∧
  bif (n1 != 0) then (
  K (.tuple #[.int .i64 0, .int .i64 n1]) h2) else (
  ∃ (I1 : Int → Heap → Prop) (M1 : Int → Heap → Nat), I1 0 h2 ∧
  ∀ (k1 : Int), ∀ h3 : Heap, I1 k1 h3 →
  bif (decide (k1 < 16)) then (
  bif (decide (k1 ≥ (sL1 : Int))) then (
  K (.tuple #[.int .i64 k1, .int .i64 0]) h3) else (
  (0 ≤ k1 ∧ k1 < (sL1 : Int)) ∧
  onSome sA1 fun p1 =>
  ∃ (n2 : Int), cellOf h3 (Addr.add (Addr.add p1 ((Int.toNat k1) * 3)) 0) = some (.int .i64 n2) ∧
  bif (n2 != k1) then (
  K (.tuple #[.int .i64 k1, .int .i64 0]) h3) else (
  I1 (IntKind.wrap .i64 (k1 + 1)) h3 ∧ M1 (IntKind.wrap .i64 (k1 + 1)) h3 < M1 k1 h3))) else (
  K (.tuple #[.int .i64 (-1), .int .i64 0]) h3))
def boleref14_Lowest.lo : Nat → List Nat × List (Nat × Ty) := fun n => match n with | 5 => ([4], [(6, .int .i64)]) | _ => ([], [])
def boleref14_Lowest.od : Nat → Od := fun n => match n with | _ => .nil
theorem boleref14_Lowest.eq (bA1 : Option Addr) (bL1 : Nat) (bC1 : Nat) (K : Value → Heap → Prop) (h : Heap) : fnX (cx boleref14_Lowest.lo boleref14_Lowest.od) Tryd.f15 (Tryd.f15.body.getD .skip) [.slice bA1 bL1 bC1] K h = boleref14_Lowest bA1 bL1 bC1 K h := by kernel_rfl
theorem boleref14_Lowest.chk : fnOk (cx boleref14_Lowest.lo boleref14_Lowest.od) Tryd.f15 (Tryd.f15.body.getD .skip) 1 = true := by kernel_rfl
theorem boleref14_Lowest.ok {bA1 : Option Addr} {bL1 : Nat} {bC1 : Nat} {K : Value → Heap → Prop} {h : Heap} (hx : boleref14_Lowest bA1 bL1 bC1 K h) : C.boleref14_Lowest bA1 bL1 bC1 h K :=
  fn_to (cxOk _ _) Tryd.func15 (by kernel_rfl) boleref14_Lowest.chk (by rw [boleref14_Lowest.eq]; exact hx)

-- 16
def slots_Lowest (bA1 : Option Addr) (bL1 : Nat) (bC1 : Nat) (K : Value → Heap → Prop) (h1 : Heap) : Prop :=
  C.slots_Read bA1 bL1 bC1 h1 fun r1 h2 =>
  ∃ (sA1 : Option Addr) (sL1 : Nat) (sC1 : Nat) (n1 : Int), r1 = .tuple #[.slice sA1 sL1 sC1, .int .i64 n1] ∧
  bif (n1 != 0) then (
  K (.tuple #[.int .i64 0, .int .i64 n1]) h2) else (
  ∃ (I1 : Int → Heap → Prop) (M1 : Int → Heap → Nat), I1 0 h2 ∧
  ∀ (n2 : Int), ∀ h3 : Heap, I1 n2 h3 →
  bif (decide (n2 < 16)) then (
  bif (n2 == (sL1 : Int)) then (
  K (.tuple #[.int .i64 n2, .int .i64 0]) h3) else (
  (0 ≤ n2 ∧ n2 < (sL1 : Int)) ∧
  onSome sA1 fun p1 =>
  ∃ (n3 : Int), cellOf h3 (Addr.add (Addr.add p1 ((Int.toNat n2) * 3)) 0) = some (.int .i64 n3) ∧
  bif (n3 != n2) then (
  K (.tuple #[.int .i64 n2, .int .i64 0]) h3) else (
  I1 (IntKind.wrap .i64 (n2 + 1)) h3 ∧ M1 (IntKind.wrap .i64 (n2 + 1)) h3 < M1 n2 h3))) else (
  K (.tuple #[.int .i64 (-1), .int .i64 0]) h3))
def slots_Lowest.lo : Nat → List Nat × List (Nat × Ty) := fun n => match n with | 5 => ([4], [(15, .int .i64)]) | _ => ([], [])
def slots_Lowest.od : Nat → Od := fun n => match n with | _ => .nil
theorem slots_Lowest.eq (bA1 : Option Addr) (bL1 : Nat) (bC1 : Nat) (K : Value → Heap → Prop) (h : Heap) : fnX (cx slots_Lowest.lo slots_Lowest.od) Tryd.f16 (Tryd.f16.body.getD .skip) [.slice bA1 bL1 bC1] K h = slots_Lowest bA1 bL1 bC1 K h := by kernel_rfl
theorem slots_Lowest.chk : fnOk (cx slots_Lowest.lo slots_Lowest.od) Tryd.f16 (Tryd.f16.body.getD .skip) 1 = true := by kernel_rfl
theorem slots_Lowest.ok {bA1 : Option Addr} {bL1 : Nat} {bC1 : Nat} {K : Value → Heap → Prop} {h : Heap} (hx : slots_Lowest bA1 bL1 bC1 K h) : C.slots_Lowest bA1 bL1 bC1 h K :=
  fn_to (cxOk _ _) Tryd.func16 (by kernel_rfl) slots_Lowest.chk (by rw [slots_Lowest.eq]; exact hx)

-- 17
def bolelaw14_sameBytes (aA1 : Option Addr) (aL1 : Nat) (aC1 : Nat) (bA1 : Option Addr) (bL1 : Nat) (bC1 : Nat) (K : Value → Heap → Prop) (h1 : Heap) : Prop :=
  bif ((aL1 : Int) != (bL1 : Int)) then (
  K (.bool false) h1) else (
  ∃ (I1 : Int → Heap → Prop) (M1 : Int → Heap → Nat), I1 0 h1 ∧
  ∀ (i1 : Int), ∀ h2 : Heap, I1 i1 h2 →
  bif (decide (i1 < (aL1 : Int))) then (
  (0 ≤ i1 ∧ i1 < (aL1 : Int)) ∧
  onSome aA1 fun p1 =>
  ∃ (n1 : Int), cellOf h2 (Addr.add p1 (Int.toNat i1)) = some (.int .u8 n1) ∧
  (0 ≤ i1 ∧ i1 < (bL1 : Int)) ∧
  onSome bA1 fun p2 =>
  ∃ (n2 : Int), cellOf h2 (Addr.add p2 (Int.toNat i1)) = some (.int .u8 n2) ∧
  bif (n1 != n2) then (
  K (.bool false) h2) else (
  I1 (IntKind.wrap .i64 (i1 + 1)) h2 ∧ M1 (IntKind.wrap .i64 (i1 + 1)) h2 < M1 i1 h2)) else (
  K (.bool true) h2))
def bolelaw14_sameBytes.lo : Nat → List Nat × List (Nat × Ty) := fun n => match n with | 4 => ([0, 1], [(5, .int .i64)]) | _ => ([], [])
def bolelaw14_sameBytes.od : Nat → Od := fun n => match n with | 6 => (.op 0 [] (.op 1 [] (.op 2 [] (.op 3 [] (.op 4 [] (.op 5 [] (.op 6 [] (.op 7 [] (.op 8 [] .nil))))))))) | _ => .nil
theorem bolelaw14_sameBytes.eq (aA1 : Option Addr) (aL1 : Nat) (aC1 : Nat) (bA1 : Option Addr) (bL1 : Nat) (bC1 : Nat) (K : Value → Heap → Prop) (h : Heap) : fnX (cx bolelaw14_sameBytes.lo bolelaw14_sameBytes.od) Tryd.f17 (Tryd.f17.body.getD .skip) [.slice aA1 aL1 aC1, .slice bA1 bL1 bC1] K h = bolelaw14_sameBytes aA1 aL1 aC1 bA1 bL1 bC1 K h := by kernel_rfl
theorem bolelaw14_sameBytes.chk : fnOk (cx bolelaw14_sameBytes.lo bolelaw14_sameBytes.od) Tryd.f17 (Tryd.f17.body.getD .skip) 2 = true := by kernel_rfl
theorem bolelaw14_sameBytes.ok {aA1 : Option Addr} {aL1 : Nat} {aC1 : Nat} {bA1 : Option Addr} {bL1 : Nat} {bC1 : Nat} {K : Value → Heap → Prop} {h : Heap} (hx : bolelaw14_sameBytes aA1 aL1 aC1 bA1 bL1 bC1 K h) : C.bolelaw14_sameBytes aA1 aL1 aC1 bA1 bL1 bC1 h K :=
  fn_to (cxOk _ _) Tryd.func17 (by kernel_rfl) bolelaw14_sameBytes.chk (by rw [bolelaw14_sameBytes.eq]; exact hx)

-- 18
def bolelaw14_Book_whole (k1 : Option Addr) (K : Value → Heap → Prop) (h1 : Heap) : Prop :=
  ∃ (I1 : Int → Heap → Prop) (M1 : Int → Heap → Nat), I1 0 h1 ∧
  ∀ (i1 : Int), ∀ h2 : Heap, I1 i1 h2 →
  onSome k1 fun p1 =>
  ∃ (sA1 : Option Addr) (sL1 : Nat) (sC1 : Nat), cellOf h2 (Addr.add p1 0) = some (.slice sA1 sL1 sC1) ∧
  bif (decide (i1 < (sL1 : Int))) then (
  onSome k1 fun p2 =>
  ∃ (sA2 : Option Addr) (sL2 : Nat) (sC2 : Nat), cellOf h2 (Addr.add p2 0) = some (.slice sA2 sL2 sC2) ∧
  (0 ≤ i1 ∧ i1 < (sL2 : Int)) ∧
  onSome sA2 fun p3 =>
  ∃ (sA3 : Option Addr) (sL3 : Nat) (sC3 : Nat), cellOf h2 (Addr.add p3 (Int.toNat i1)) = some (.slice sA3 sL3 sC3) ∧
  onSome k1 fun p4 =>
  ∃ (sA4 : Option Addr) (sL4 : Nat) (sC4 : Nat), cellOf h2 (Addr.add p4 1) = some (.slice sA4 sL4 sC4) ∧
  (0 ≤ i1 ∧ i1 < (sL4 : Int)) ∧
  onSome sA4 fun p5 =>
  ∃ (sA5 : Option Addr) (sL5 : Nat) (sC5 : Nat), cellOf h2 (Addr.add p5 (Int.toNat i1)) = some (.slice sA5 sL5 sC5) ∧
  C.bolelaw14_sameEntries sA3 sL3 sC3 sA5 sL5 sC5 h2 fun r1 h3 =>
  ∃ (b1 : Bool), r1 = .bool b1 ∧
  bif (!b1) then (
  K (.bool false) h3) else (
  NewRow z30 30 [.int .i64 (IntKind.wrap .i64 ((-2) - i1)), .string (mkStr [109, 97, 114, 107]), .int .i64 0] 3 h3 fun h5 =>
  ∃ (I2 : Int → Heap → Prop) (M2 : Int → Heap → Nat), I2 0 h5 ∧
  ∀ (j1 : Int), ∀ h6 : Heap, I2 j1 h6 →
  onSome k1 fun p6 =>
  ∃ (sA6 : Option Addr) (sL6 : Nat) (sC6 : Nat), cellOf h6 (Addr.add p6 3) = some (.slice sA6 sL6 sC6) ∧
  (0 ≤ i1 ∧ i1 < (sL6 : Int)) ∧
  onSome sA6 fun p7 =>
  ∃ (sA7 : Option Addr) (sL7 : Nat) (sC7 : Nat), cellOf h6 (Addr.add p7 (Int.toNat i1)) = some (.slice sA7 sL7 sC7) ∧
  bif (decide (j1 < (sL7 : Int))) then (
  onSome k1 fun p8 =>
  ∃ (sA8 : Option Addr) (sL8 : Nat) (sC8 : Nat), cellOf h6 (Addr.add p8 3) = some (.slice sA8 sL8 sC8) ∧
  (0 ≤ i1 ∧ i1 < (sL8 : Int)) ∧
  onSome sA8 fun p9 =>
  ∃ (sA9 : Option Addr) (sL9 : Nat) (sC9 : Nat), cellOf h6 (Addr.add p9 (Int.toNat i1)) = some (.slice sA9 sL9 sC9) ∧
  (0 ≤ j1 ∧ j1 < (sL9 : Int)) ∧
  onSome sA9 fun p10 =>
  ∃ cs1 : List Value, List.length cs1 = 3 ∧ Cells h6 (Addr.add p10 ((Int.toNat j1) * 3)) cs1 ∧
  ∃ cs2 : List Value, List.length cs2 = 3 ∧ Cells h6 ⟨h3.size, 0, none⟩ cs2 ∧
  pairsOk [(.int .i64), .str, (.int .i64)] cs1 cs2 = true ∧
  bif (!(cellsEq cs1 cs2)) then (
  K (.bool false) h6) else (
  onSome k1 fun p11 =>
  ∃ (sA10 : Option Addr) (sL10 : Nat) (sC10 : Nat), cellOf h6 (Addr.add p11 2) = some (.slice sA10 sL10 sC10) ∧
  (0 ≤ i1 ∧ i1 < (sL10 : Int)) ∧
  onSome sA10 fun p12 =>
  ∃ (sA11 : Option Addr) (sL11 : Nat) (sC11 : Nat), cellOf h6 (Addr.add p12 (Int.toNat i1)) = some (.slice sA11 sL11 sC11) ∧
  bif (decide (j1 < (sL11 : Int))) then (
  onSome k1 fun p13 =>
  ∃ (sA12 : Option Addr) (sL12 : Nat) (sC12 : Nat), cellOf h6 (Addr.add p13 2) = some (.slice sA12 sL12 sC12) ∧
  (0 ≤ i1 ∧ i1 < (sL12 : Int)) ∧
  onSome sA12 fun p14 =>
  ∃ (sA13 : Option Addr) (sL13 : Nat) (sC13 : Nat), cellOf h6 (Addr.add p14 (Int.toNat i1)) = some (.slice sA13 sL13 sC13) ∧
  (0 ≤ j1 ∧ j1 < (sL13 : Int)) ∧
  onSome sA13 fun p15 =>
  ∃ cs3 : List Value, List.length cs3 = 3 ∧ Cells h6 (Addr.add p15 ((Int.toNat j1) * 3)) cs3 ∧
  ∃ cs4 : List Value, List.length cs4 = 3 ∧ Cells h6 ⟨h3.size, 0, none⟩ cs4 ∧
  pairsOk [(.int .i64), .str, (.int .i64)] cs3 cs4 = true ∧
  bif (!(cellsEq cs3 cs4)) then (
  K (.bool false) h6) else (
  I2 (IntKind.wrap .i64 (j1 + 1)) h6 ∧ M2 (IntKind.wrap .i64 (j1 + 1)) h6 < M2 j1 h6)) else (
  I2 (IntKind.wrap .i64 (j1 + 1)) h6 ∧ M2 (IntKind.wrap .i64 (j1 + 1)) h6 < M2 j1 h6))) else (
  I1 (IntKind.wrap .i64 (i1 + 1)) h6 ∧ M1 (IntKind.wrap .i64 (i1 + 1)) h6 < M1 i1 h2))) else (
  K (.bool true) h2)
def bolelaw14_Book_whole.lo : Nat → List Nat × List (Nat × Ty) := fun n => match n with | 2 => ([0], [(3, .int .i64)]) | 8 => ([0, 3, 4], [(5, .int .i64)]) | _ => ([], [])
def bolelaw14_Book_whole.od : Nat → Od := fun n => match n with | 4 => (.op 0 [] (.op 1 [] (.op 2 [] (.op 3 [] (.op 4 [] (.op 5 [] (.op 6 [] (.op 7 [] (.op 8 [] (.op 9 [] (.op 10 [] (.op 11 [] (.op 12 [] (.op 13 [] (.op 14 [] (.op 15 [] .nil)))))))))))))))) | 10 => (.op 0 [] (.op 1 [] (.op 2 [] (.op 3 [] (.op 4 [] (.op 5 [] (.op 6 [] (.op 7 [] (.op 8 [] (.op 9 [] (.op 10 [] (.op 11 [] (.op 12 [] (.op 13 [] (.op 14 [] (.op 15 [] (.op 16 [] (.op 17 [] (.op 18 [] (.op 19 [] (.op 20 [] (.op 21 [] (.op 22 [] (.op 23 [] (.op 24 [] (.op 25 [] (.op 26 [] (.op 27 [] (.op 28 [] (.op 29 [] (.op 30 [] (.op 31 [] (.op 32 [] (.op 33 [] (.op 34 [] (.op 35 [] (.op 36 [] (.op 37 [] .nil)))))))))))))))))))))))))))))))))))))) | _ => .nil
theorem bolelaw14_Book_whole.eq (k1 : Option Addr) (K : Value → Heap → Prop) (h : Heap) : fnX (cx bolelaw14_Book_whole.lo bolelaw14_Book_whole.od) Tryd.f18 (Tryd.f18.body.getD .skip) [.pointer k1] K h = bolelaw14_Book_whole k1 K h := by kernel_rfl
theorem bolelaw14_Book_whole.chk : fnOk (cx bolelaw14_Book_whole.lo bolelaw14_Book_whole.od) Tryd.f18 (Tryd.f18.body.getD .skip) 1 = true := by kernel_rfl
theorem bolelaw14_Book_whole.ok {k1 : Option Addr} {K : Value → Heap → Prop} {h : Heap} (hx : bolelaw14_Book_whole k1 K h) : C.bolelaw14_Book_whole k1 h K :=
  fn_to (cxOk _ _) Tryd.func18 (by kernel_rfl) bolelaw14_Book_whole.chk (by rw [bolelaw14_Book_whole.eq]; exact hx)

-- 19
def bolelaw14_mod (k1 : Int) (n1 : Int) (K : Value → Heap → Prop) (h1 : Heap) : Prop :=
  if n1 = 0 then False else
  bif (decide ((Int.tmod k1 n1) < 0)) then (
  K (.int .i64 (IntKind.wrap .i64 ((Int.tmod k1 n1) + n1))) h1) else (
  K (.int .i64 (Int.tmod k1 n1)) h1)
def bolelaw14_mod.lo : Nat → List Nat × List (Nat × Ty) := fun n => match n with | _ => ([], [])
def bolelaw14_mod.od : Nat → Od := fun n => match n with | _ => .nil
theorem bolelaw14_mod.eq (k1 : Int) (n1 : Int) (K : Value → Heap → Prop) (h : Heap) : fnX (cx bolelaw14_mod.lo bolelaw14_mod.od) Tryd.f19 (Tryd.f19.body.getD .skip) [.int .i64 k1, .int .i64 n1] K h = bolelaw14_mod k1 n1 K h := by kernel_rfl
theorem bolelaw14_mod.chk : fnOk (cx bolelaw14_mod.lo bolelaw14_mod.od) Tryd.f19 (Tryd.f19.body.getD .skip) 2 = true := by kernel_rfl
theorem bolelaw14_mod.ok {k1 : Int} {n1 : Int} {K : Value → Heap → Prop} {h : Heap} (hx : bolelaw14_mod k1 n1 K h) : C.bolelaw14_mod k1 n1 h K :=
  fn_to (cxOk _ _) Tryd.func19 (by kernel_rfl) bolelaw14_mod.chk (by rw [bolelaw14_mod.eq]; exact hx)

-- 20
def slots_Read (bA1 : Option Addr) (bL1 : Nat) (bC1 : Nat) (K : Value → Heap → Prop) (h1 : Heap) : Prop :=
  bif ((bL1 : Int) != 512) then (
  K (.tuple #[.slice none 0 0, .int .i64 32]) h1) else (
  ∃ (I1 : Option Addr → Nat → Nat → Int → Heap → Prop) (M1 : Option Addr → Nat → Nat → Int → Heap → Nat), I1 none 0 0 0 h1 ∧
  ∀ (lA1 : Option Addr) (lL1 : Nat) (lC1 : Nat) (n1 : Int), ∀ h2 : Heap, I1 lA1 lL1 lC1 n1 h2 →
  bif (decide (n1 < 16)) then (
  C.slots_cell bA1 bL1 bC1 n1 h2 fun r1 h3 =>
  ∃ (sA1 : Option Addr) (sL1 : Nat) (sC1 : Nat), r1 = .slice sA1 sL1 sC1 ∧
  C.slots_read sA1 sL1 sC1 h3 fun r2 h4 =>
  ∃ (n2 : Int) (s1 : ByteArray) (b1 : Bool), r2 = .tuple #[.int .i64 n2, .string s1, .bool b1] ∧
  bif (!b1) then (
  K (.tuple #[.slice none 0 0, .int .i64 140]) h4) else (
  bif (n2 != 0) then (
  List.length ([.int .i64 n1, .string s1, .int .i64 n2] : List Value) = 3 ∧
  New [.int .i64 n1, .string s1, .int .i64 n2] 30 h4 fun h5 =>
  ∃ new1 : List Value, List.length new1 = 1 * 3 ∧ SlCells h5 (some ⟨h4.size, 0, none⟩) new1 ∧ (∀ v ∈ new1, v.oneCell' = true) ∧
  AppendP ti30 30 lA1 lL1 lC1 1 new1 h5 fun sA2 sL2 sC2 h6 =>
  I1 sA2 sL2 sC2 (IntKind.wrap .i64 (n1 + 1)) h6 ∧ M1 sA2 sL2 sC2 (IntKind.wrap .i64 (n1 + 1)) h6 < M1 lA1 lL1 lC1 n1 h2) else (
  I1 lA1 lL1 lC1 (IntKind.wrap .i64 (n1 + 1)) h4 ∧ M1 lA1 lL1 lC1 (IntKind.wrap .i64 (n1 + 1)) h4 < M1 lA1 lL1 lC1 n1 h2))) else (
  K (.tuple #[.slice lA1 lL1 lC1, .int .i64 0]) h2))
def slots_Read.lo : Nat → List Nat × List (Nat × Ty) := fun n => match n with | 5 => ([0], [(4, .slice), (12, .int .i64)]) | _ => ([], [])
def slots_Read.od : Nat → Od := fun n => match n with | _ => .nil
theorem slots_Read.eq (bA1 : Option Addr) (bL1 : Nat) (bC1 : Nat) (K : Value → Heap → Prop) (h : Heap) : fnX (cx slots_Read.lo slots_Read.od) Tryd.f20 (Tryd.f20.body.getD .skip) [.slice bA1 bL1 bC1] K h = slots_Read bA1 bL1 bC1 K h := by kernel_rfl
theorem slots_Read.chk : fnOk (cx slots_Read.lo slots_Read.od) Tryd.f20 (Tryd.f20.body.getD .skip) 1 = true := by kernel_rfl
theorem slots_Read.ok {bA1 : Option Addr} {bL1 : Nat} {bC1 : Nat} {K : Value → Heap → Prop} {h : Heap} (hx : slots_Read bA1 bL1 bC1 K h) : C.slots_Read bA1 bL1 bC1 h K :=
  fn_to (cxOk _ _) Tryd.func20 (by kernel_rfl) slots_Read.chk (by rw [slots_Read.eq]; exact hx)

-- 21
def bolelaw14_sameEntries (aA1 : Option Addr) (aL1 : Nat) (aC1 : Nat) (bA1 : Option Addr) (bL1 : Nat) (bC1 : Nat) (K : Value → Heap → Prop) (h1 : Heap) : Prop :=
  bif ((aL1 : Int) != (bL1 : Int)) then (
  K (.bool false) h1) else (
  ∃ (I1 : Int → Heap → Prop) (M1 : Int → Heap → Nat), I1 0 h1 ∧
  ∀ (i1 : Int), ∀ h2 : Heap, I1 i1 h2 →
  bif (decide (i1 < (aL1 : Int))) then (
  (0 ≤ i1 ∧ i1 < (aL1 : Int)) ∧
  onSome aA1 fun p1 =>
  ∃ cs1 : List Value, List.length cs1 = 3 ∧ Cells h2 (Addr.add p1 ((Int.toNat i1) * 3)) cs1 ∧
  (0 ≤ i1 ∧ i1 < (bL1 : Int)) ∧
  onSome bA1 fun p2 =>
  ∃ cs2 : List Value, List.length cs2 = 3 ∧ Cells h2 (Addr.add p2 ((Int.toNat i1) * 3)) cs2 ∧
  pairsOk [(.int .i64), .str, (.int .i64)] cs1 cs2 = true ∧
  bif (!(cellsEq cs1 cs2)) then (
  K (.bool false) h2) else (
  I1 (IntKind.wrap .i64 (i1 + 1)) h2 ∧ M1 (IntKind.wrap .i64 (i1 + 1)) h2 < M1 i1 h2)) else (
  K (.bool true) h2))
def bolelaw14_sameEntries.lo : Nat → List Nat × List (Nat × Ty) := fun n => match n with | 4 => ([0, 1], [(5, .int .i64)]) | _ => ([], [])
def bolelaw14_sameEntries.od : Nat → Od := fun n => match n with | 6 => (.op 0 [] (.op 1 [] (.op 2 [] (.op 3 [] (.op 4 [] (.op 5 [] (.op 6 [] (.op 7 [] (.op 8 [] .nil))))))))) | _ => .nil
theorem bolelaw14_sameEntries.eq (aA1 : Option Addr) (aL1 : Nat) (aC1 : Nat) (bA1 : Option Addr) (bL1 : Nat) (bC1 : Nat) (K : Value → Heap → Prop) (h : Heap) : fnX (cx bolelaw14_sameEntries.lo bolelaw14_sameEntries.od) Tryd.f21 (Tryd.f21.body.getD .skip) [.slice aA1 aL1 aC1, .slice bA1 bL1 bC1] K h = bolelaw14_sameEntries aA1 aL1 aC1 bA1 bL1 bC1 K h := by kernel_rfl
theorem bolelaw14_sameEntries.chk : fnOk (cx bolelaw14_sameEntries.lo bolelaw14_sameEntries.od) Tryd.f21 (Tryd.f21.body.getD .skip) 2 = true := by kernel_rfl
theorem bolelaw14_sameEntries.ok {aA1 : Option Addr} {aL1 : Nat} {aC1 : Nat} {bA1 : Option Addr} {bL1 : Nat} {bC1 : Nat} {K : Value → Heap → Prop} {h : Heap} (hx : bolelaw14_sameEntries aA1 aL1 aC1 bA1 bL1 bC1 K h) : C.bolelaw14_sameEntries aA1 aL1 aC1 bA1 bL1 bC1 h K :=
  fn_to (cxOk _ _) Tryd.func21 (by kernel_rfl) bolelaw14_sameEntries.chk (by rw [bolelaw14_sameEntries.eq]; exact hx)

-- 22
def bolelaw14_Cell_entry.k3 (h1 : Heap) (plain2 : Bool) (i1 : Int) (h9 : Heap) (I1 : Bool → Int → Heap → Prop) (M1 : Bool → Int → Heap → Nat) (K : Value → Heap → Prop) : Prop :=
  ∃ (s7 : ByteArray), cellOf h9 (Addr.add ⟨h1.size, 0, none⟩ 3) = some (.string s7) ∧
  (0 ≤ i1 ∧ i1 < (s7.size : Int)) ∧
  ∃ b1 : UInt8, s7.toList[Int.toNat i1]? = some b1 ∧
  bif (((UInt8.toNat b1 : Nat) : Int) != 47) then (
  ∃ (s8 : ByteArray), cellOf h9 (Addr.add ⟨h1.size, 0, none⟩ 3) = some (.string s8) ∧
  (0 ≤ i1 ∧ i1 < (s8.size : Int)) ∧
  ∃ b2 : UInt8, s8.toList[Int.toNat i1]? = some b2 ∧
  I1 (((UInt8.toNat b2 : Nat) : Int) != 0) (IntKind.wrap .i64 (i1 + 1)) h9 ∧ M1 (((UInt8.toNat b2 : Nat) : Int) != 0) (IntKind.wrap .i64 (i1 + 1)) h9 < M1 plain2 i1 h9) else (
  I1 false (IntKind.wrap .i64 (i1 + 1)) h9 ∧ M1 false (IntKind.wrap .i64 (i1 + 1)) h9 < M1 plain2 i1 h9)
def bolelaw14_Cell_entry.k4 (h1 : Heap) (h2 : Heap) (e1 : Option Addr) (plain3 : Bool) (h10 : Heap) (K : Value → Heap → Prop) : Prop :=
  bif (!plain3) then (
  onSome e1 fun p1 =>
  Put (Addr.add p1 1) (.string (mkStr [110])) h10 fun h11 =>
  ∃ (n5 : Int), cellOf h11 (Addr.add ⟨h1.size, 0, none⟩ 2) = some (.int .i64 n5) ∧
  C.bolelaw14_mod n5 1000000 h11 fun r3 h12 =>
  ∃ (n6 : Int), r3 = .int .i64 n6 ∧
  ∃ (I2 : Int → Heap → Prop) (M2 : Int → Heap → Nat), I2 n6 h12 ∧
  ∀ (v1 : Int), ∀ h13 : Heap, I2 v1 h13 →
  bif (decide (v1 > 0)) then (
  onSome e1 fun p2 =>
  ∃ (s9 : ByteArray), cellOf h13 (Addr.add p2 1) = some (.string s9) ∧
  New [.int .u8 (IntKind.wrap .u8 ((IntKind.wrap .i64 (48 + (Int.tmod v1 10)))))] 5 h13 fun h14 =>
  ∃ bs1 : List UInt8, StrAt h14 (some ⟨h13.size, 0, none⟩) 1 bs1 ∧
  ((s9.size + (mkStr bs1).size : Nat) : Int) ≤ 9223372036854775807 ∧
  onSome e1 fun p3 =>
  Put (Addr.add p3 1) (.string (s9 ++ (mkStr bs1))) h14 fun h15 =>
  I2 (IntKind.wrap .i64 (Int.tdiv v1 10)) h15 ∧ M2 (IntKind.wrap .i64 (Int.tdiv v1 10)) h15 < M2 v1 h13) else (
  onSome e1 fun p4 =>
  ∃ cs1 : List Value, List.length cs1 = 3 ∧ Cells h13 p4 cs1 ∧
  PutRow ⟨h2.size, 0, none⟩ cs1 3 h13 fun h16 =>
  ∃ res1 : List Value, List.length res1 = 3 ∧ Cells h16 ⟨h2.size, 0, none⟩ res1 ∧
  K (.agg ⟨res1⟩) h16)) else (
  onSome e1 fun p5 =>
  ∃ cs2 : List Value, List.length cs2 = 3 ∧ Cells h10 p5 cs2 ∧
  PutRow ⟨h2.size, 0, none⟩ cs2 3 h10 fun h17 =>
  ∃ res2 : List Value, List.length res2 = 3 ∧ Cells h17 ⟨h2.size, 0, none⟩ res2 ∧
  K (.agg ⟨res2⟩) h17)
def bolelaw14_Cell_entry.k2 (h1 : Heap) (h2 : Heap) (e1 : Option Addr) (h8 : Heap) (plain1 : Bool) (K : Value → Heap → Prop) : Prop :=
  ∃ (I1 : Bool → Int → Heap → Prop) (M1 : Bool → Int → Heap → Nat), I1 plain1 0 h8 ∧
  ∀ (plain2 : Bool) (i1 : Int), ∀ h9 : Heap, I1 plain2 i1 h9 →
  ∃ (s6 : ByteArray), cellOf h9 (Addr.add ⟨h1.size, 0, none⟩ 3) = some (.string s6) ∧
  bif (decide (i1 < (s6.size : Int))) then (
  bif plain2 then (
  bolelaw14_Cell_entry.k3 h1 plain2 i1 h9 I1 M1 K) else (
  bolelaw14_Cell_entry.k4 h1 h2 e1 plain2 h9 K)) else (
  bolelaw14_Cell_entry.k4 h1 h2 e1 plain2 h9 K)
def bolelaw14_Cell_entry.k1 (h1 : Heap) (h2 : Heap) (e1 : Option Addr) (h8 : Heap) (K : Value → Heap → Prop) : Prop :=
  ∃ (s2 : ByteArray), cellOf h8 (Addr.add ⟨h1.size, 0, none⟩ 3) = some (.string s2) ∧
  bif (decide ((s2.size : Int) ≥ 1)) then (
  ∃ (s3 : ByteArray), cellOf h8 (Addr.add ⟨h1.size, 0, none⟩ 3) = some (.string s3) ∧
  bif (decide ((s3.size : Int) ≤ 27)) then (
  ∃ (s4 : ByteArray), cellOf h8 (Addr.add ⟨h1.size, 0, none⟩ 3) = some (.string s4) ∧
  bif (!(s4.toList == (mkStr [46]).toList)) then (
  ∃ (s5 : ByteArray), cellOf h8 (Addr.add ⟨h1.size, 0, none⟩ 3) = some (.string s5) ∧
  bolelaw14_Cell_entry.k2 h1 h2 e1 h8 (!(s5.toList == (mkStr [46, 46]).toList)) K) else (
  bolelaw14_Cell_entry.k2 h1 h2 e1 h8 false K)) else (
  bolelaw14_Cell_entry.k2 h1 h2 e1 h8 false K)) else (
  bolelaw14_Cell_entry.k2 h1 h2 e1 h8 false K)
def bolelaw14_Cell_entry (c1 : List Value) (K : Value → Heap → Prop) (h1 : Heap) : Prop :=
  New c1 58 h1 fun h2 =>
  New z30 30 h2 fun h3 =>
  ∃ (n1 : Int), cellOf h3 (Addr.add ⟨h1.size, 0, none⟩ 0) = some (.int .i64 n1) ∧
  ∃ (n2 : Int), cellOf h3 (Addr.add ⟨h1.size, 0, none⟩ 1) = some (.int .i64 n2) ∧
  ∃ (s1 : ByteArray), cellOf h3 (Addr.add ⟨h1.size, 0, none⟩ 3) = some (.string s1) ∧
  (
  C.bolelaw14_mod n1 16 h3 fun r1 h4 =>
  ∃ (n3 : Int), r1 = .int .i64 n3 ∧
  (cellOf h4 (Addr.add ⟨h1.size, 0, none⟩ 1) = some (.int .i64 n2)) ∧
  (cellOf h4 (Addr.add ⟨h1.size, 0, none⟩ 3) = some (.string s1)) ∧
  (
  C.bolelaw14_mod n2 4294967295 h4 fun r2 h5 =>
  ∃ (n4 : Int), r2 = .int .i64 n4 ∧
  (cellOf h5 (Addr.add ⟨h1.size, 0, none⟩ 3) = some (.string s1)) ∧
  New z30 30 h5 fun h6 =>
  (cellOf h6 (Addr.add ⟨h1.size, 0, none⟩ 0) = some (.int .i64 n1)) ∧
  (cellOf h6 (Addr.add ⟨h1.size, 0, none⟩ 1) = some (.int .i64 n2)) ∧
  (cellOf h6 (Addr.add ⟨h1.size, 0, none⟩ 3) = some (.string s1)) ∧
  PutRow ⟨h5.size, 0, none⟩ [.int .i64 n3, .string s1, .int .i64 (IntKind.wrap .i64 (1 + n4))] 3 h6 fun h7 =>
  bolelaw14_Cell_entry.k1 h1 h2 (some ⟨h5.size, 0, none⟩) h7 K) ∧
  New z30 30 h4 fun h18 =>
  (cellOf h18 (Addr.add ⟨h1.size, 0, none⟩ 0) = some (.int .i64 n1)) ∧
  (cellOf h18 (Addr.add ⟨h1.size, 0, none⟩ 1) = some (.int .i64 n2)) ∧
  (cellOf h18 (Addr.add ⟨h1.size, 0, none⟩ 3) = some (.string s1)) ∧
  C.bolelaw14_mod n2 4294967295 h18 fun r4 h19 =>
  ∃ (n7 : Int), r4 = .int .i64 n7 ∧
  (cellOf h19 (Addr.add ⟨h1.size, 0, none⟩ 3) = some (.string s1)) ∧
  PutRow ⟨h4.size, 0, none⟩ [.int .i64 n3, .string s1, .int .i64 (IntKind.wrap .i64 (1 + n7))] 3 h19 fun h20 =>
  bolelaw14_Cell_entry.k1 h1 h2 (some ⟨h4.size, 0, none⟩) h20 K) ∧
  New z30 30 h3 fun h21 =>
  (cellOf h21 (Addr.add ⟨h1.size, 0, none⟩ 0) = some (.int .i64 n1)) ∧
  (cellOf h21 (Addr.add ⟨h1.size, 0, none⟩ 1) = some (.int .i64 n2)) ∧
  (cellOf h21 (Addr.add ⟨h1.size, 0, none⟩ 3) = some (.string s1)) ∧
  C.bolelaw14_mod n1 16 h21 fun r5 h22 =>
  ∃ (n8 : Int), r5 = .int .i64 n8 ∧
  (cellOf h22 (Addr.add ⟨h1.size, 0, none⟩ 1) = some (.int .i64 n2)) ∧
  (cellOf h22 (Addr.add ⟨h1.size, 0, none⟩ 3) = some (.string s1)) ∧
  C.bolelaw14_mod n2 4294967295 h22 fun r6 h23 =>
  ∃ (n9 : Int), r6 = .int .i64 n9 ∧
  (cellOf h23 (Addr.add ⟨h1.size, 0, none⟩ 3) = some (.string s1)) ∧
  PutRow ⟨h3.size, 0, none⟩ [.int .i64 n8, .string s1, .int .i64 (IntKind.wrap .i64 (1 + n9))] 3 h23 fun h24 =>
  bolelaw14_Cell_entry.k1 h1 h2 (some ⟨h3.size, 0, none⟩) h24 K
def bolelaw14_Cell_entry.lo : Nat → List Nat × List (Nat × Ty) := fun n => match n with | 4 => ([1, 2, 3], [(4, .bool), (5, .int .i64)]) | 10 => ([2, 3], [(6, .int .i64)]) | _ => ([], [])
def bolelaw14_Cell_entry.od : Nat → Od := fun n => match n with | 1 => (.op 0 [] (.op 1 [] (.op 3 [] (.op 4 [] (.op 7 [] (.op 8 [] (.alt 2 [4, 8] (.alt 5 [8] (.op 6 [] (.op 9 [] (.op 10 [1, 4, 8] (.op 11 [] .nil)))) (.op 10 [1, 4, 8] (.op 5 [8] (.op 6 [] (.op 9 [] (.op 11 [] .nil)))))) (.op 10 [1, 4, 8] (.op 2 [4, 8] (.op 5 [8] (.op 6 [] (.op 9 [] (.op 11 [] .nil))))))))))))) | _ => .nil
theorem bolelaw14_Cell_entry.eq (c1 : List Value) (K : Value → Heap → Prop) (h : Heap) : fnX (cx bolelaw14_Cell_entry.lo bolelaw14_Cell_entry.od) Tryd.f22 (Tryd.f22.body.getD .skip) [.agg ⟨c1⟩] K h = bolelaw14_Cell_entry c1 K h := by kernel_rfl
theorem bolelaw14_Cell_entry.chk : fnOk (cx bolelaw14_Cell_entry.lo bolelaw14_Cell_entry.od) Tryd.f22 (Tryd.f22.body.getD .skip) 1 = true := by kernel_rfl
theorem bolelaw14_Cell_entry.ok {c1 : List Value} {K : Value → Heap → Prop} {h : Heap} (hx : bolelaw14_Cell_entry c1 K h) : C.bolelaw14_Cell_entry c1 h K :=
  fn_to (cxOk _ _) Tryd.func22 (by kernel_rfl) bolelaw14_Cell_entry.chk (by rw [bolelaw14_Cell_entry.eq]; exact hx)

-- 23
def boleref14_one.k1 (bA1 : Option Addr) (bL1 : Nat) (n1 : Int) (name1 : ByteArray) (h4 : Heap) (K : Value → Heap → Prop) : Prop :=
  C.boleref14_form n1 name1 h4 fun r3 h5 =>
  ∃ (sA1 : Option Addr) (sL1 : Nat) (sC1 : Nat), r3 = .slice sA1 sL1 sC1 ∧
  ∃ (I1 : Int → Heap → Prop) (M1 : Int → Heap → Nat), I1 0 h5 ∧
  ∀ (i1 : Int), ∀ h6 : Heap, I1 i1 h6 →
  bif (decide (i1 < 32)) then (
  (0 ≤ i1 ∧ i1 < (bL1 : Int)) ∧
  onSome bA1 fun p2 =>
  ∃ (n3 : Int), cellOf h6 (Addr.add p2 (Int.toNat i1)) = some (.int .u8 n3) ∧
  (0 ≤ i1 ∧ i1 < (sL1 : Int)) ∧
  onSome sA1 fun p3 =>
  ∃ (n4 : Int), cellOf h6 (Addr.add p3 (Int.toNat i1)) = some (.int .u8 n4) ∧
  bif (n3 != n4) then (
  K (.tuple #[.int .i64 0, .string (mkStr []), .bool false]) h6) else (
  I1 (IntKind.wrap .i64 (i1 + 1)) h6 ∧ M1 (IntKind.wrap .i64 (i1 + 1)) h6 < M1 i1 h6)) else (
  K (.tuple #[.int .i64 n1, .string name1, .bool true]) h6)
def boleref14_one (bA1 : Option Addr) (bL1 : Nat) (bC1 : Nat) (K : Value → Heap → Prop) (h1 : Heap) : Prop :=
  C.boleref14_number bA1 bL1 bC1 h1 fun r1 h2 =>
  ∃ (n1 : Int), r1 = .int .i64 n1 ∧
  bif (n1 != 0) then (
  (0 ≤ (4 : Int) ∧ 4 < (bL1 : Int)) ∧
  onSome bA1 fun p1 =>
  ∃ (n2 : Int), cellOf h2 (Addr.add p1 (Int.toNat 4)) = some (.int .u8 n2) ∧
  bif (decide ((IntKind.wrap .i64 (n2)) > 27)) then (
  K (.tuple #[.int .i64 0, .string (mkStr []), .bool false]) h2) else (
  (0 ≤ (5 : Int) ∧ (5 : Int) ≤ (IntKind.wrap .i64 (5 + (IntKind.wrap .i64 (n2)))) ∧ (IntKind.wrap .i64 (5 + (IntKind.wrap .i64 (n2)))) ≤ (bC1 : Int)) ∧
  ∃ bs1 : List UInt8, StrAt h2 (if bC1 = (Int.toNat 5) then bA1 else Option.map (Addr.add · (Int.toNat 5)) bA1) ((Int.toNat (IntKind.wrap .i64 (5 + (IntKind.wrap .i64 (n2))))) - (Int.toNat 5)) bs1 ∧
  C.boleref14_Name (mkStr bs1) h2 fun r2 h3 =>
  ∃ (b1 : Bool), r2 = .bool b1 ∧
  bif (!b1) then (
  K (.tuple #[.int .i64 0, .string (mkStr []), .bool false]) h3) else (
  boleref14_one.k1 bA1 bL1 n1 (mkStr bs1) h3 K))) else (
  boleref14_one.k1 bA1 bL1 n1 (mkStr []) h2 K)
def boleref14_one.lo : Nat → List Nat × List (Nat × Ty) := fun n => match n with | 12 => ([0, 5, 6, 8], [(9, .int .i64)]) | _ => ([], [])
def boleref14_one.od : Nat → Od := fun n => match n with | 14 => (.op 0 [] (.op 1 [] (.op 2 [] (.op 3 [] (.op 4 [] (.op 5 [] (.op 6 [] (.op 7 [] (.op 8 [] .nil))))))))) | _ => .nil
theorem boleref14_one.eq (bA1 : Option Addr) (bL1 : Nat) (bC1 : Nat) (K : Value → Heap → Prop) (h : Heap) : fnX (cx boleref14_one.lo boleref14_one.od) Tryd.f23 (Tryd.f23.body.getD .skip) [.slice bA1 bL1 bC1] K h = boleref14_one bA1 bL1 bC1 K h := by kernel_rfl
theorem boleref14_one.chk : fnOk (cx boleref14_one.lo boleref14_one.od) Tryd.f23 (Tryd.f23.body.getD .skip) 1 = true := by kernel_rfl
theorem boleref14_one.ok {bA1 : Option Addr} {bL1 : Nat} {bC1 : Nat} {K : Value → Heap → Prop} {h : Heap} (hx : boleref14_one bA1 bL1 bC1 K h) : C.boleref14_one bA1 bL1 bC1 h K :=
  fn_to (cxOk _ _) Tryd.func23 (by kernel_rfl) boleref14_one.chk (by rw [boleref14_one.eq]; exact hx)

-- 24
def boleref14_Name.k1 (s1 : ByteArray) (h1 : Heap) (K : Value → Heap → Prop) : Prop :=
  ∃ (I1 : Int → Heap → Prop) (M1 : Int → Heap → Nat), I1 0 h1 ∧
  ∀ (i1 : Int), ∀ h2 : Heap, I1 i1 h2 →
  bif (decide (i1 < (s1.size : Int))) then (
  (0 ≤ i1 ∧ i1 < (s1.size : Int)) ∧
  ∃ b1 : UInt8, s1.toList[Int.toNat i1]? = some b1 ∧
  bif (((UInt8.toNat b1 : Nat) : Int) == 47) then (
  K (.bool false) h2) else (
  (0 ≤ i1 ∧ i1 < (s1.size : Int)) ∧
  ∃ b2 : UInt8, s1.toList[Int.toNat i1]? = some b2 ∧
  bif (((UInt8.toNat b2 : Nat) : Int) == 0) then (
  K (.bool false) h2) else (
  I1 (IntKind.wrap .i64 (i1 + 1)) h2 ∧ M1 (IntKind.wrap .i64 (i1 + 1)) h2 < M1 i1 h2))) else (
  K (.bool true) h2)
def boleref14_Name (s1 : ByteArray) (K : Value → Heap → Prop) (h1 : Heap) : Prop :=
  bif (decide ((s1.size : Int) < 1)) then (
  K (.bool false) h1) else (
  bif (decide ((s1.size : Int) > 27)) then (
  K (.bool false) h1) else (
  bif (s1.toList == (mkStr [46]).toList) then (
  K (.bool false) h1) else (
  bif (s1.toList == (mkStr [46, 46]).toList) then (
  K (.bool false) h1) else (
  boleref14_Name.k1 s1 h1 K))))
def boleref14_Name.lo : Nat → List Nat × List (Nat × Ty) := fun n => match n with | 4 => ([0], [(3, .int .i64)]) | _ => ([], [])
def boleref14_Name.od : Nat → Od := fun n => match n with | _ => .nil
theorem boleref14_Name.eq (s1 : ByteArray) (K : Value → Heap → Prop) (h : Heap) : fnX (cx boleref14_Name.lo boleref14_Name.od) Tryd.f24 (Tryd.f24.body.getD .skip) [.string s1] K h = boleref14_Name s1 K h := by kernel_rfl
theorem boleref14_Name.chk : fnOk (cx boleref14_Name.lo boleref14_Name.od) Tryd.f24 (Tryd.f24.body.getD .skip) 1 = true := by kernel_rfl
theorem boleref14_Name.ok {s1 : ByteArray} {K : Value → Heap → Prop} {h : Heap} (hx : boleref14_Name s1 K h) : C.boleref14_Name s1 h K :=
  fn_to (cxOk _ _) Tryd.func24 (by kernel_rfl) boleref14_Name.chk (by rw [boleref14_Name.eq]; exact hx)

-- 25
def boleref14_form (inode1 : Int) (name1 : ByteArray) (K : Value → Heap → Prop) (h1 : Heap) : Prop :=
  (0 ≤ (32 : Int) ∧ (32 : Int) ≤ 32 ∧ (1 : Int) * 32 ≤ 281474976710656 ∧ (32 : Int) ≤ 281474976710656) ∧
  New (repCells z5 (Int.toNat 32)) 5 h1 fun h2 =>
  bif (inode1 == 0) then (
  K (.slice (some ⟨h1.size, 0, none⟩) (Int.toNat 32) (Int.toNat 32)) h2) else (
  ∃ (I1 : Int → Int → Heap → Prop) (M1 : Int → Int → Heap → Nat), I1 inode1 0 h2 ∧
  ∀ (v1 : Int) (i1 : Int), ∀ h3 : Heap, I1 v1 i1 h3 →
  bif (decide (i1 < 4)) then (
  (0 ≤ i1 ∧ i1 < ((Int.toNat 32) : Int)) ∧
  Put (Addr.add ⟨h1.size, 0, none⟩ (Int.toNat i1)) (.int .u8 (IntKind.wrap .u8 ((Int.tmod v1 256)))) h3 fun h4 =>
  I1 (IntKind.wrap .i64 (Int.tdiv v1 256)) (IntKind.wrap .i64 (i1 + 1)) h4 ∧ M1 (IntKind.wrap .i64 (Int.tdiv v1 256)) (IntKind.wrap .i64 (i1 + 1)) h4 < M1 v1 i1 h3) else (
  (0 ≤ (4 : Int) ∧ 4 < ((Int.toNat 32) : Int)) ∧
  Put (Addr.add ⟨h1.size, 0, none⟩ (Int.toNat 4)) (.int .u8 (IntKind.wrap .u8 ((name1.size : Int)))) h3 fun h5 =>
  ∃ (I2 : Int → Heap → Prop) (M2 : Int → Heap → Nat), I2 0 h5 ∧
  ∀ (i2 : Int), ∀ h6 : Heap, I2 i2 h6 →
  bif (decide (i2 < (name1.size : Int))) then (
  (0 ≤ i2 ∧ i2 < (name1.size : Int)) ∧
  ∃ b1 : UInt8, name1.toList[Int.toNat i2]? = some b1 ∧
  (0 ≤ (IntKind.wrap .i64 (5 + i2)) ∧ (IntKind.wrap .i64 (5 + i2)) < ((Int.toNat 32) : Int)) ∧
  Put (Addr.add ⟨h1.size, 0, none⟩ (Int.toNat (IntKind.wrap .i64 (5 + i2)))) (.int .u8 ((UInt8.toNat b1 : Nat) : Int)) h6 fun h7 =>
  I2 (IntKind.wrap .i64 (i2 + 1)) h7 ∧ M2 (IntKind.wrap .i64 (i2 + 1)) h7 < M2 i2 h6) else (
  K (.slice (some ⟨h1.size, 0, none⟩) (Int.toNat 32) (Int.toNat 32)) h6)))
def boleref14_form.lo : Nat → List Nat × List (Nat × Ty) := fun n => match n with | 6 => ([1, 5], [(6, .int .i64), (7, .int .i64)]) | 12 => ([1, 5], [(8, .int .i64)]) | _ => ([], [])
def boleref14_form.od : Nat → Od := fun n => match n with | _ => .nil
theorem boleref14_form.eq (inode1 : Int) (name1 : ByteArray) (K : Value → Heap → Prop) (h : Heap) : fnX (cx boleref14_form.lo boleref14_form.od) Tryd.f25 (Tryd.f25.body.getD .skip) [.int .i64 inode1, .string name1] K h = boleref14_form inode1 name1 K h := by kernel_rfl
theorem boleref14_form.chk : fnOk (cx boleref14_form.lo boleref14_form.od) Tryd.f25 (Tryd.f25.body.getD .skip) 2 = true := by kernel_rfl
theorem boleref14_form.ok {inode1 : Int} {name1 : ByteArray} {K : Value → Heap → Prop} {h : Heap} (hx : boleref14_form inode1 name1 K h) : C.boleref14_form inode1 name1 h K :=
  fn_to (cxOk _ _) Tryd.func25 (by kernel_rfl) boleref14_form.chk (by rw [boleref14_form.eq]; exact hx)

-- 26
def boleref14_laid (bA1 : Option Addr) (bL1 : Nat) (bC1 : Nat) (place1 : Int) (lA1 : Option Addr) (lL1 : Nat) (lC1 : Nat) (K : Value → Heap → Prop) (h1 : Heap) : Prop :=
  ∃ (I1 : Int → Heap → Prop) (M1 : Int → Heap → Nat), I1 0 h1 ∧
  ∀ (i1 : Int), ∀ h2 : Heap, I1 i1 h2 →
  bif (decide (i1 < 32)) then (
  (0 ≤ i1 ∧ i1 < (lL1 : Int)) ∧
  onSome lA1 fun p1 =>
  ∃ (n1 : Int), cellOf h2 (Addr.add p1 (Int.toNat i1)) = some (.int .u8 n1) ∧
  (0 ≤ (IntKind.wrap .i64 ((IntKind.wrap .i64 (32 * place1)) + i1)) ∧ (IntKind.wrap .i64 ((IntKind.wrap .i64 (32 * place1)) + i1)) < (bL1 : Int)) ∧
  onSome bA1 fun p2 =>
  Put (Addr.add p2 (Int.toNat (IntKind.wrap .i64 ((IntKind.wrap .i64 (32 * place1)) + i1)))) (.int .u8 n1) h2 fun h3 =>
  I1 (IntKind.wrap .i64 (i1 + 1)) h3 ∧ M1 (IntKind.wrap .i64 (i1 + 1)) h3 < M1 i1 h2) else (
  K (.tuple #[]) h2)
def boleref14_laid.lo : Nat → List Nat × List (Nat × Ty) := fun n => match n with | 1 => ([0, 1, 2], [(6, .int .i64)]) | _ => ([], [])
def boleref14_laid.od : Nat → Od := fun n => match n with | _ => .nil
theorem boleref14_laid.eq (bA1 : Option Addr) (bL1 : Nat) (bC1 : Nat) (place1 : Int) (lA1 : Option Addr) (lL1 : Nat) (lC1 : Nat) (K : Value → Heap → Prop) (h : Heap) : fnX (cx boleref14_laid.lo boleref14_laid.od) Tryd.f26 (Tryd.f26.body.getD .skip) [.slice bA1 bL1 bC1, .int .i64 place1, .slice lA1 lL1 lC1] K h = boleref14_laid bA1 bL1 bC1 place1 lA1 lL1 lC1 K h := by kernel_rfl
theorem boleref14_laid.chk : fnOk (cx boleref14_laid.lo boleref14_laid.od) Tryd.f26 (Tryd.f26.body.getD .skip) 3 = true := by kernel_rfl
theorem boleref14_laid.ok {bA1 : Option Addr} {bL1 : Nat} {bC1 : Nat} {place1 : Int} {lA1 : Option Addr} {lL1 : Nat} {lC1 : Nat} {K : Value → Heap → Prop} {h : Heap} (hx : boleref14_laid bA1 bL1 bC1 place1 lA1 lL1 lC1 K h) : C.boleref14_laid bA1 bL1 bC1 place1 lA1 lL1 lC1 h K :=
  fn_to (cxOk _ _) Tryd.func26 (by kernel_rfl) boleref14_laid.chk (by rw [boleref14_laid.eq]; exact hx)

-- 27
def slots_isPlace (k1 : Int) (K : Value → Heap → Prop) (h1 : Heap) : Prop :=
  bif (decide (k1 ≥ 0)) then (
  K (.bool (decide (k1 < 16))) h1) else (
  K (.bool false) h1)
def slots_isPlace.lo : Nat → List Nat × List (Nat × Ty) := fun n => match n with | _ => ([], [])
def slots_isPlace.od : Nat → Od := fun n => match n with | _ => .nil
theorem slots_isPlace.eq (k1 : Int) (K : Value → Heap → Prop) (h : Heap) : fnX (cx slots_isPlace.lo slots_isPlace.od) Tryd.f27 (Tryd.f27.body.getD .skip) [.int .i64 k1] K h = slots_isPlace k1 K h := by kernel_rfl
theorem slots_isPlace.chk : fnOk (cx slots_isPlace.lo slots_isPlace.od) Tryd.f27 (Tryd.f27.body.getD .skip) 1 = true := by kernel_rfl
theorem slots_isPlace.ok {k1 : Int} {K : Value → Heap → Prop} {h : Heap} (hx : slots_isPlace k1 K h) : C.slots_isPlace k1 h K :=
  fn_to (cxOk _ _) Tryd.func27 (by kernel_rfl) slots_isPlace.chk (by rw [slots_isPlace.eq]; exact hx)

-- 28
def path_Name (s1 : ByteArray) (K : Value → Heap → Prop) (h1 : Heap) : Prop :=
  C.path_does s1 h1 fun r1 h2 =>
  ∃ (v1 : Value) (b1 : Bool), r1 = .tuple #[v1, .bool b1] ∧
  bif (decide ((s1.size : Int) ≥ 1)) then (
  bif (decide ((s1.size : Int) ≤ 27)) then (
  bif (!b1) then (
  C.strings_ContainsAny s1 (mkStr [47, 0]) h2 fun r2 h3 =>
  ∃ (b2 : Bool), r2 = .bool b2 ∧
  K (.bool (!b2)) h3) else (
  K (.bool false) h2)) else (
  K (.bool false) h2)) else (
  K (.bool false) h2)
def path_Name.lo : Nat → List Nat × List (Nat × Ty) := fun n => match n with | _ => ([], [])
def path_Name.od : Nat → Od := fun n => match n with | _ => .nil
theorem path_Name.eq (s1 : ByteArray) (K : Value → Heap → Prop) (h : Heap) : fnX (cx path_Name.lo path_Name.od) Tryd.f28 (Tryd.f28.body.getD .skip) [.string s1] K h = path_Name s1 K h := by kernel_rfl
theorem path_Name.chk : fnOk (cx path_Name.lo path_Name.od) Tryd.f28 (Tryd.f28.body.getD .skip) 1 = true := by kernel_rfl
theorem path_Name.ok {s1 : ByteArray} {K : Value → Heap → Prop} {h : Heap} (hx : path_Name s1 K h) : C.path_Name s1 h K :=
  fn_to (cxOk _ _) Tryd.func28 (by kernel_rfl) path_Name.chk (by rw [path_Name.eq]; exact hx)

-- 29
def slots_cell (bA1 : Option Addr) (bL1 : Nat) (bC1 : Nat) (k1 : Int) (K : Value → Heap → Prop) (h1 : Heap) : Prop :=
  (0 ≤ (IntKind.wrap .i64 (32 * k1)) ∧ (IntKind.wrap .i64 (32 * k1)) ≤ (IntKind.wrap .i64 ((IntKind.wrap .i64 (32 * k1)) + 32)) ∧ (IntKind.wrap .i64 ((IntKind.wrap .i64 (32 * k1)) + 32)) ≤ (IntKind.wrap .i64 ((IntKind.wrap .i64 (32 * k1)) + 32)) ∧ (IntKind.wrap .i64 ((IntKind.wrap .i64 (32 * k1)) + 32)) ≤ (bC1 : Int)) ∧
  K (.slice (if (Int.toNat (IntKind.wrap .i64 ((IntKind.wrap .i64 (32 * k1)) + 32))) = (Int.toNat (IntKind.wrap .i64 (32 * k1))) then bA1 else Option.map (Addr.add · (Int.toNat (IntKind.wrap .i64 (32 * k1)))) bA1) ((Int.toNat (IntKind.wrap .i64 ((IntKind.wrap .i64 (32 * k1)) + 32))) - (Int.toNat (IntKind.wrap .i64 (32 * k1)))) ((Int.toNat (IntKind.wrap .i64 ((IntKind.wrap .i64 (32 * k1)) + 32))) - (Int.toNat (IntKind.wrap .i64 (32 * k1))))) h1
def slots_cell.lo : Nat → List Nat × List (Nat × Ty) := fun n => match n with | _ => ([], [])
def slots_cell.od : Nat → Od := fun n => match n with | _ => .nil
theorem slots_cell.eq (bA1 : Option Addr) (bL1 : Nat) (bC1 : Nat) (k1 : Int) (K : Value → Heap → Prop) (h : Heap) : fnX (cx slots_cell.lo slots_cell.od) Tryd.f29 (Tryd.f29.body.getD .skip) [.slice bA1 bL1 bC1, .int .i64 k1] K h = slots_cell bA1 bL1 bC1 k1 K h := by kernel_rfl
theorem slots_cell.chk : fnOk (cx slots_cell.lo slots_cell.od) Tryd.f29 (Tryd.f29.body.getD .skip) 2 = true := by kernel_rfl
theorem slots_cell.ok {bA1 : Option Addr} {bL1 : Nat} {bC1 : Nat} {k1 : Int} {K : Value → Heap → Prop} {h : Heap} (hx : slots_cell bA1 bL1 bC1 k1 K h) : C.slots_cell bA1 bL1 bC1 k1 h K :=
  fn_to (cxOk _ _) Tryd.func29 (by kernel_rfl) slots_cell.chk (by rw [slots_cell.eq]; exact hx)

-- 30
def rec_Put (bA1 : Option Addr) (bL1 : Nat) (bC1 : Nat) (at1 : Int) (n1 : Int) (v1 : Int) (K : Value → Heap → Prop) (h1 : Heap) : Prop :=
  C.rec_isWidth n1 h1 fun r1 h2 =>
  ∃ (b1 : Bool), r1 = .bool b1 ∧
  bif (!b1) then (
  K (.int .i64 1) h2) else (
  bif (decide (n1 < 8)) then (
  if (IntKind.wrap .i64 (8 * n1)) < 0 then False else
  bif ((Int.fdiv v1 (2 ^ min (Int.toNat (IntKind.wrap .i64 (8 * n1))) 64)) != 0) then (
  K (.int .i64 1) h2) else (
  C.rec_lie bA1 bL1 bC1 at1 n1 h2 fun r2 h3 =>
  ∃ (b2 : Bool), r2 = .bool b2 ∧
  bif (!b2) then (
  K (.int .i64 20) h3) else (
  ∃ (I1 : Int → Heap → Prop) (M1 : Int → Heap → Nat), I1 0 h3 ∧
  ∀ (n2 : Int), ∀ h4 : Heap, I1 n2 h4 →
  bif (decide (n2 < n1)) then (
  if (IntKind.wrap .i64 (8 * n2)) < 0 then False else
  (0 ≤ (IntKind.wrap .i64 (at1 + n2)) ∧ (IntKind.wrap .i64 (at1 + n2)) < (bL1 : Int)) ∧
  onSome bA1 fun p1 =>
  Put (Addr.add p1 (Int.toNat (IntKind.wrap .i64 (at1 + n2)))) (.int .u8 (IntKind.wrap .u8 ((Int.fdiv v1 (2 ^ min (Int.toNat (IntKind.wrap .i64 (8 * n2))) 64))))) h4 fun h5 =>
  I1 (IntKind.wrap .i64 (n2 + 1)) h5 ∧ M1 (IntKind.wrap .i64 (n2 + 1)) h5 < M1 n2 h4) else (
  K (.int .i64 0) h4)))) else (
  C.rec_lie bA1 bL1 bC1 at1 n1 h2 fun r3 h6 =>
  ∃ (b3 : Bool), r3 = .bool b3 ∧
  bif (!b3) then (
  K (.int .i64 20) h6) else (
  ∃ (I2 : Int → Heap → Prop) (M2 : Int → Heap → Nat), I2 0 h6 ∧
  ∀ (n3 : Int), ∀ h7 : Heap, I2 n3 h7 →
  bif (decide (n3 < n1)) then (
  if (IntKind.wrap .i64 (8 * n3)) < 0 then False else
  (0 ≤ (IntKind.wrap .i64 (at1 + n3)) ∧ (IntKind.wrap .i64 (at1 + n3)) < (bL1 : Int)) ∧
  onSome bA1 fun p2 =>
  Put (Addr.add p2 (Int.toNat (IntKind.wrap .i64 (at1 + n3)))) (.int .u8 (IntKind.wrap .u8 ((Int.fdiv v1 (2 ^ min (Int.toNat (IntKind.wrap .i64 (8 * n3))) 64))))) h7 fun h8 =>
  I2 (IntKind.wrap .i64 (n3 + 1)) h8 ∧ M2 (IntKind.wrap .i64 (n3 + 1)) h8 < M2 n3 h7) else (
  K (.int .i64 0) h7))))
def rec_Put.lo : Nat → List Nat × List (Nat × Ty) := fun n => match n with | 6 => ([0, 1, 3, 31], [(32, .int .i64)]) | _ => ([], [])
def rec_Put.od : Nat → Od := fun n => match n with | _ => .nil
theorem rec_Put.eq (bA1 : Option Addr) (bL1 : Nat) (bC1 : Nat) (at1 : Int) (n1 : Int) (v1 : Int) (K : Value → Heap → Prop) (h : Heap) : fnX (cx rec_Put.lo rec_Put.od) Tryd.f30 (Tryd.f30.body.getD .skip) [.slice bA1 bL1 bC1, .int .i64 at1, .int .i64 n1, .int .u64 v1] K h = rec_Put bA1 bL1 bC1 at1 n1 v1 K h := by kernel_rfl
theorem rec_Put.chk : fnOk (cx rec_Put.lo rec_Put.od) Tryd.f30 (Tryd.f30.body.getD .skip) 4 = true := by kernel_rfl
theorem rec_Put.ok {bA1 : Option Addr} {bL1 : Nat} {bC1 : Nat} {at1 : Int} {n1 : Int} {v1 : Int} {K : Value → Heap → Prop} {h : Heap} (hx : rec_Put bA1 bL1 bC1 at1 n1 v1 K h) : C.rec_Put bA1 bL1 bC1 at1 n1 v1 h K :=
  fn_to (cxOk _ _) Tryd.func30 (by kernel_rfl) rec_Put.chk (by rw [rec_Put.eq]; exact hx)

-- 31
def rec_PutText (bA1 : Option Addr) (bL1 : Nat) (bC1 : Nat) (at1 : Int) (n1 : Int) (s1 : ByteArray) (K : Value → Heap → Prop) (h1 : Heap) : Prop :=
  bif (decide (n1 < 0)) then (
  K (.int .i64 1) h1) else (
  bif (decide ((s1.size : Int) > n1)) then (
  K (.int .i64 1) h1) else (
  NewS s1 5 h1 fun cap1 h2 =>
  C.rec_ahead (some ⟨h1.size, 0, none⟩) s1.size cap1 h2 fun r1 h3 =>
  ∃ (n2 : Int), r1 = .int .i64 n2 ∧
  bif (decide (n2 < (s1.size : Int))) then (
  K (.int .i64 1) h3) else (
  C.rec_lie bA1 bL1 bC1 at1 n1 h3 fun r2 h4 =>
  ∃ (b1 : Bool), r2 = .bool b1 ∧
  bif (!b1) then (
  K (.int .i64 20) h4) else (
  (0 ≤ at1 ∧ at1 ≤ (IntKind.wrap .i64 (at1 + n1)) ∧ (IntKind.wrap .i64 (at1 + n1)) ≤ (bC1 : Int)) ∧
  CopyP ti5 (if bC1 = (Int.toNat at1) then bA1 else Option.map (Addr.add · (Int.toNat at1)) bA1) ((Int.toNat (IntKind.wrap .i64 (at1 + n1))) - (Int.toNat at1)) (.string s1) h4 fun n3 h5 =>
  (0 ≤ (IntKind.wrap .i64 (at1 + (n3 : Int))) ∧ (IntKind.wrap .i64 (at1 + (n3 : Int))) ≤ (IntKind.wrap .i64 (at1 + n1)) ∧ (IntKind.wrap .i64 (at1 + n1)) ≤ (bC1 : Int)) ∧
  ClearP ti5 (if bC1 = (Int.toNat (IntKind.wrap .i64 (at1 + (n3 : Int)))) then bA1 else Option.map (Addr.add · (Int.toNat (IntKind.wrap .i64 (at1 + (n3 : Int))))) bA1) ((Int.toNat (IntKind.wrap .i64 (at1 + n1))) - (Int.toNat (IntKind.wrap .i64 (at1 + (n3 : Int))))) h5 fun h6 =>
  K (.int .i64 0) h6))))
def rec_PutText.lo : Nat → List Nat × List (Nat × Ty) := fun n => match n with | _ => ([], [])
def rec_PutText.od : Nat → Od := fun n => match n with | _ => .nil
theorem rec_PutText.eq (bA1 : Option Addr) (bL1 : Nat) (bC1 : Nat) (at1 : Int) (n1 : Int) (s1 : ByteArray) (K : Value → Heap → Prop) (h : Heap) : fnX (cx rec_PutText.lo rec_PutText.od) Tryd.f31 (Tryd.f31.body.getD .skip) [.slice bA1 bL1 bC1, .int .i64 at1, .int .i64 n1, .string s1] K h = rec_PutText bA1 bL1 bC1 at1 n1 s1 K h := by kernel_rfl
theorem rec_PutText.chk : fnOk (cx rec_PutText.lo rec_PutText.od) Tryd.f31 (Tryd.f31.body.getD .skip) 4 = true := by kernel_rfl
theorem rec_PutText.ok {bA1 : Option Addr} {bL1 : Nat} {bC1 : Nat} {at1 : Int} {n1 : Int} {s1 : ByteArray} {K : Value → Heap → Prop} {h : Heap} (hx : rec_PutText bA1 bL1 bC1 at1 n1 s1 K h) : C.rec_PutText bA1 bL1 bC1 at1 n1 s1 h K :=
  fn_to (cxOk _ _) Tryd.func31 (by kernel_rfl) rec_PutText.chk (by rw [rec_PutText.eq]; exact hx)

-- 32
def slots_read.k1 (cA1 : Option Addr) (cL1 : Nat) (cC1 : Nat) (n1 : Int) (h3 : Heap) (n3 : Int) (K : Value → Heap → Prop) : Prop :=
  (0 ≤ (5 : Int) ∧ (5 : Int) ≤ (IntKind.wrap .u64 (5 + n3)) ∧ (IntKind.wrap .u64 (5 + n3)) ≤ (IntKind.wrap .u64 (5 + n3)) ∧ (IntKind.wrap .u64 (5 + n3)) ≤ (cC1 : Int)) ∧
  ∃ bs1 : List UInt8, StrAt h3 (if (Int.toNat (IntKind.wrap .u64 (5 + n3))) = (Int.toNat 5) then cA1 else Option.map (Addr.add · (Int.toNat 5)) cA1) ((Int.toNat (IntKind.wrap .u64 (5 + n3))) - (Int.toNat 5)) bs1 ∧
  C.rec_Zero cA1 cL1 cC1 (IntKind.wrap .i64 (5 + (IntKind.wrap .i64 (n3)))) (IntKind.wrap .i64 (27 - (IntKind.wrap .i64 (n3)))) h3 fun r4 h5 =>
  ∃ (b2 : Bool) (n6 : Int), r4 = .tuple #[.bool b2, .int .i64 n6] ∧
  bif b2 then (
  C.path_Name (mkStr bs1) h5 fun r5 h6 =>
  ∃ (b3 : Bool), r5 = .bool b3 ∧
  K (.tuple #[.int .i64 (IntKind.wrap .i64 (n1)), .string (mkStr bs1), .bool b3]) h6) else (
  K (.tuple #[.int .i64 (IntKind.wrap .i64 (n1)), .string (mkStr bs1), .bool false]) h5)
def slots_read (cA1 : Option Addr) (cL1 : Nat) (cC1 : Nat) (K : Value → Heap → Prop) (h1 : Heap) : Prop :=
  C.rec_Get cA1 cL1 cC1 0 4 h1 fun r1 h2 =>
  ∃ (n1 : Int) (n2 : Int), r1 = .tuple #[.int .u64 n1, .int .i64 n2] ∧
  C.rec_Get cA1 cL1 cC1 4 1 h2 fun r2 h3 =>
  ∃ (n3 : Int) (n4 : Int), r2 = .tuple #[.int .u64 n3, .int .i64 n4] ∧
  bif (n1 == 0) then (
  C.rec_Zero cA1 cL1 cC1 0 32 h3 fun r3 h4 =>
  ∃ (b1 : Bool) (n5 : Int), r3 = .tuple #[.bool b1, .int .i64 n5] ∧
  K (.tuple #[.int .i64 0, .string (mkStr []), .bool b1]) h4) else (
  bif (decide (n3 < 1)) then (
  K (.tuple #[.int .i64 0, .string (mkStr []), .bool false]) h3) else (
  bif (decide (n3 > 27)) then (
  K (.tuple #[.int .i64 0, .string (mkStr []), .bool false]) h3) else (
  slots_read.k1 cA1 cL1 cC1 n1 h3 n3 K)))
def slots_read.lo : Nat → List Nat × List (Nat × Ty) := fun n => match n with | _ => ([], [])
def slots_read.od : Nat → Od := fun n => match n with | _ => .nil
theorem slots_read.eq (cA1 : Option Addr) (cL1 : Nat) (cC1 : Nat) (K : Value → Heap → Prop) (h : Heap) : fnX (cx slots_read.lo slots_read.od) Tryd.f32 (Tryd.f32.body.getD .skip) [.slice cA1 cL1 cC1] K h = slots_read cA1 cL1 cC1 K h := by kernel_rfl
theorem slots_read.chk : fnOk (cx slots_read.lo slots_read.od) Tryd.f32 (Tryd.f32.body.getD .skip) 1 = true := by kernel_rfl
theorem slots_read.ok {cA1 : Option Addr} {cL1 : Nat} {cC1 : Nat} {K : Value → Heap → Prop} {h : Heap} (hx : slots_read cA1 cL1 cC1 K h) : C.slots_read cA1 cL1 cC1 h K :=
  fn_to (cxOk _ _) Tryd.func32 (by kernel_rfl) slots_read.chk (by rw [slots_read.eq]; exact hx)

-- 33
def boleref14_number (bA1 : Option Addr) (bL1 : Nat) (bC1 : Nat) (K : Value → Heap → Prop) (h1 : Heap) : Prop :=
  (0 ≤ (0 : Int) ∧ 0 < (bL1 : Int)) ∧
  onSome bA1 fun p1 =>
  ∃ (n1 : Int), cellOf h1 (Addr.add p1 (Int.toNat 0)) = some (.int .u8 n1) ∧
  (0 ≤ (1 : Int) ∧ 1 < (bL1 : Int)) ∧
  onSome bA1 fun p2 =>
  ∃ (n2 : Int), cellOf h1 (Addr.add p2 (Int.toNat 1)) = some (.int .u8 n2) ∧
  (0 ≤ (2 : Int) ∧ 2 < (bL1 : Int)) ∧
  onSome bA1 fun p3 =>
  ∃ (n3 : Int), cellOf h1 (Addr.add p3 (Int.toNat 2)) = some (.int .u8 n3) ∧
  (0 ≤ (3 : Int) ∧ 3 < (bL1 : Int)) ∧
  onSome bA1 fun p4 =>
  ∃ (n4 : Int), cellOf h1 (Addr.add p4 (Int.toNat 3)) = some (.int .u8 n4) ∧
  K (.int .i64 (IntKind.wrap .i64 ((IntKind.wrap .i64 ((IntKind.wrap .i64 ((IntKind.wrap .i64 (n1)) + (IntKind.wrap .i64 (256 * (IntKind.wrap .i64 (n2)))))) + (IntKind.wrap .i64 (65536 * (IntKind.wrap .i64 (n3)))))) + (IntKind.wrap .i64 (16777216 * (IntKind.wrap .i64 (n4))))))) h1
def boleref14_number.lo : Nat → List Nat × List (Nat × Ty) := fun n => match n with | _ => ([], [])
def boleref14_number.od : Nat → Od := fun n => match n with | 1 => (.op 0 [] (.op 1 [] (.op 2 [] (.op 3 [] (.op 4 [] (.op 5 [] (.op 6 [] (.op 7 [] (.op 8 [] (.op 9 [] (.op 10 [] (.op 11 [] (.op 12 [] (.op 13 [] (.op 14 [] (.op 15 [] (.op 16 [] (.op 17 [] (.op 18 [] (.op 19 [] (.op 20 [] (.op 21 [] (.op 22 [] .nil))))))))))))))))))))))) | _ => .nil
theorem boleref14_number.eq (bA1 : Option Addr) (bL1 : Nat) (bC1 : Nat) (K : Value → Heap → Prop) (h : Heap) : fnX (cx boleref14_number.lo boleref14_number.od) Tryd.f33 (Tryd.f33.body.getD .skip) [.slice bA1 bL1 bC1] K h = boleref14_number bA1 bL1 bC1 K h := by kernel_rfl
theorem boleref14_number.chk : fnOk (cx boleref14_number.lo boleref14_number.od) Tryd.f33 (Tryd.f33.body.getD .skip) 1 = true := by kernel_rfl
theorem boleref14_number.ok {bA1 : Option Addr} {bL1 : Nat} {bC1 : Nat} {K : Value → Heap → Prop} {h : Heap} (hx : boleref14_number bA1 bL1 bC1 K h) : C.boleref14_number bA1 bL1 bC1 h K :=
  fn_to (cxOk _ _) Tryd.func33 (by kernel_rfl) boleref14_number.chk (by rw [boleref14_number.eq]; exact hx)

-- 34
def path_does (s1 : ByteArray) (K : Value → Heap → Prop) (h1 : Heap) : Prop :=
  NewM h1 fun h2 =>
  MapPut .str h1.size (.s (ByteArray.toList (mkStr [46]))) (.func (.func 41) #[] ⟨[]⟩) h2 fun h3 =>
  MapPut .str h1.size (.s (ByteArray.toList (mkStr [46, 46]))) (.func (.func 42) #[] ⟨[]⟩) h3 fun h4 =>
  MapIn .str (some h1.size) h4 fun mm1 =>
  ∃ (v1 : Value), Option.getD (mget mm1 (.s (ByteArray.toList s1))) (zeroV ti76) = v1 ∧
  K (.tuple #[v1, .bool (Option.isSome (mget mm1 (.s (ByteArray.toList s1))))]) h4
def path_does.lo : Nat → List Nat × List (Nat × Ty) := fun n => match n with | _ => ([], [])
def path_does.od : Nat → Od := fun n => match n with | _ => .nil
theorem path_does.eq (s1 : ByteArray) (K : Value → Heap → Prop) (h : Heap) : fnX (cx path_does.lo path_does.od) Tryd.f34 (Tryd.f34.body.getD .skip) [.string s1] K h = path_does s1 K h := by kernel_rfl
theorem path_does.chk : fnOk (cx path_does.lo path_does.od) Tryd.f34 (Tryd.f34.body.getD .skip) 1 = true := by kernel_rfl
theorem path_does.ok {s1 : ByteArray} {K : Value → Heap → Prop} {h : Heap} (hx : path_does s1 K h) : C.path_does s1 h K :=
  fn_to (cxOk _ _) Tryd.func34 (by kernel_rfl) path_does.chk (by rw [path_does.eq]; exact hx)

-- 35
def strings_ContainsAny (s1 : ByteArray) (chars1 : ByteArray) (K : Value → Heap → Prop) (h1 : Heap) : Prop :=
  C.strings_IndexAny s1 chars1 h1 fun r1 h2 =>
  ∃ (n1 : Int), r1 = .int .i64 n1 ∧
  K (.bool (decide (n1 ≥ 0))) h2
def strings_ContainsAny.lo : Nat → List Nat × List (Nat × Ty) := fun n => match n with | _ => ([], [])
def strings_ContainsAny.od : Nat → Od := fun n => match n with | _ => .nil
theorem strings_ContainsAny.eq (s1 : ByteArray) (chars1 : ByteArray) (K : Value → Heap → Prop) (h : Heap) : fnX (cx strings_ContainsAny.lo strings_ContainsAny.od) Tryd.f35 (Tryd.f35.body.getD .skip) [.string s1, .string chars1] K h = strings_ContainsAny s1 chars1 K h := by kernel_rfl
theorem strings_ContainsAny.chk : fnOk (cx strings_ContainsAny.lo strings_ContainsAny.od) Tryd.f35 (Tryd.f35.body.getD .skip) 2 = true := by kernel_rfl
theorem strings_ContainsAny.ok {s1 : ByteArray} {chars1 : ByteArray} {K : Value → Heap → Prop} {h : Heap} (hx : strings_ContainsAny s1 chars1 K h) : C.strings_ContainsAny s1 chars1 h K :=
  fn_to (cxOk _ _) Tryd.func35 (by kernel_rfl) strings_ContainsAny.chk (by rw [strings_ContainsAny.eq]; exact hx)

-- 36
def rec_isWidth (n1 : Int) (K : Value → Heap → Prop) (h1 : Heap) : Prop :=
  bif (decide (n1 ≥ 0)) then (
  bif (decide (n1 < 9)) then (
  (0 ≤ n1 ∧ n1 < (9 : Int)) ∧
  ∃ (b1 : Bool), cellOf h1 (Addr.add ⟨0, 0, none⟩ (Int.toNat n1)) = some (.bool b1) ∧
  K (.bool b1) h1) else (
  K (.bool false) h1)) else (
  K (.bool false) h1)
def rec_isWidth.lo : Nat → List Nat × List (Nat × Ty) := fun n => match n with | _ => ([], [])
def rec_isWidth.od : Nat → Od := fun n => match n with | _ => .nil
theorem rec_isWidth.eq (n1 : Int) (K : Value → Heap → Prop) (h : Heap) : fnX (cx rec_isWidth.lo rec_isWidth.od) Tryd.f36 (Tryd.f36.body.getD .skip) [.int .i64 n1] K h = rec_isWidth n1 K h := by kernel_rfl
theorem rec_isWidth.chk : fnOk (cx rec_isWidth.lo rec_isWidth.od) Tryd.f36 (Tryd.f36.body.getD .skip) 1 = true := by kernel_rfl
theorem rec_isWidth.ok {n1 : Int} {K : Value → Heap → Prop} {h : Heap} (hx : rec_isWidth n1 K h) : C.rec_isWidth n1 h K :=
  fn_to (cxOk _ _) Tryd.func36 (by kernel_rfl) rec_isWidth.chk (by rw [rec_isWidth.eq]; exact hx)
end Go.Proofs.YtgpkcakanieodaaDoor.W
