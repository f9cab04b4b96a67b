/-
  WHAT THE FUNCTIONS COMPUTE, as formulas; each held against the loaded code by the kernel. Written by program (gen.py).
-/
import Derived.Test.YtgpkcakanieodaaTab
namespace Go.Proofs.Ytgpkcakanieodaa.W
open Go Go.Proofs Go.Proofs.Ytgpkcakanieodaa.Wx
-- 73
def path_does_c2 (aheadA1 : Option Addr) (aheadL1 : Nat) (aheadC1 : Nat) (K : Value → Heap → Prop) (h1 : Heap) : Prop :=
  (0 ≤ (if (IntKind.wrap .i64 ((aheadL1 : Int) - 1)) > 0 then (IntKind.wrap .i64 ((aheadL1 : Int) - 1)) else 0) ∧ (if (IntKind.wrap .i64 ((aheadL1 : Int) - 1)) > 0 then (IntKind.wrap .i64 ((aheadL1 : Int) - 1)) else 0) ≤ (aheadC1 : Int)) ∧
  K (.slice aheadA1 (Int.toNat (if (IntKind.wrap .i64 ((aheadL1 : Int) - 1)) > 0 then (IntKind.wrap .i64 ((aheadL1 : Int) - 1)) else 0)) aheadC1) h1
def path_does_c2.lo : Nat → List Nat × List (Nat × Ty) := fun n => match n with | _ => ([], [])
def path_does_c2.od : Nat → Od := fun n => match n with | _ => .nil
theorem path_does_c2.eq (aheadA1 : Option Addr) (aheadL1 : Nat) (aheadC1 : Nat) (K : Value → Heap → Prop) (h : Heap) : fnX (cx path_does_c2.lo path_does_c2.od) Try.f73 (Try.f73.body.getD .skip) [.slice aheadA1 aheadL1 aheadC1] K h = path_does_c2 aheadA1 aheadL1 aheadC1 K h := by kernel_rfl
theorem path_does_c2.chk : fnOk (cx path_does_c2.lo path_does_c2.od) Try.f73 (Try.f73.body.getD .skip) 1 = true := by kernel_rfl
theorem path_does_c2.ok {aheadA1 : Option Addr} {aheadL1 : Nat} {aheadC1 : Nat} {K : Value → Heap → Prop} {h : Heap} (hx : path_does_c2 aheadA1 aheadL1 aheadC1 K h) : C.path_does_c2 aheadA1 aheadL1 aheadC1 h K :=
  fn_to (cxOk _ _) Try.func73 (by kernel_rfl) path_does_c2.chk (by rw [path_does_c2.eq]; exact hx)

-- 74
def strings_IndexAny.k1 (s1 : ByteArray) (chars1 : ByteArray) (h10 : Heap) (K : Value → Heap → Prop) : Prop :=
  NewI s1 h10 fun h11 =>
  ∃ (I2 : Heap → Prop) (M2 : Heap → Nat), I2  h11 ∧
  ∀ h12 : Heap, I2  h12 →
  Addr.off ⟨h10.size, 0, none⟩ = 0 ∧
  ∃ (s2 : ByteArray) (pos1 : Nat), h12[Addr.block ⟨h10.size, 0, none⟩]? = some (.stringIter s2 pos1) ∧
  (pos1 < ByteArray.size s2 → ∀ h13 : Heap, IterTo h12 (Addr.block ⟨h10.size, 0, none⟩) s2 (pos1 + (Utf8.decode s2 pos1).2) h13 →
  C.strings_IndexRune chars1 (((Utf8.decode s2 pos1).1 : Nat) : Int) h13 fun r6 h14 =>
  ∃ (n3 : Int), r6 = .int .i64 n3 ∧
  bif (decide (n3 ≥ 0)) then (
  K (.int .i64 (pos1 : Int)) h14) else (
  I2  h14 ∧ M2  h14 < M2  h12)) ∧
  (¬ pos1 < ByteArray.size s2 →
  K (.int .i64 (-1)) h12)
def strings_IndexAny (s1 : ByteArray) (chars1 : ByteArray) (K : Value → Heap → Prop) (h1 : Heap) : Prop :=
  bif (chars1.toList == (mkStr []).toList) then (
  K (.int .i64 (-1)) h1) else (
  bif ((chars1.size : Int) == 1) then (
  (0 ≤ (0 : Int) ∧ 0 < (chars1.size : Int)) ∧
  ∃ b1 : UInt8, chars1.toList[Int.toNat 0]? = some b1 ∧
  bif (decide ((IntKind.wrap .i32 (((UInt8.toNat b1 : Nat) : Int))) ≥ 128)) then (
  C.strings_IndexRune s1 65533 h1 fun r1 h2 =>
  ∃ (n1 : Int), r1 = .int .i64 n1 ∧
  K (.int .i64 n1) h2) else (
  C.strings_IndexRune s1 (IntKind.wrap .i32 (((UInt8.toNat b1 : Nat) : Int))) h1 fun r2 h3 =>
  ∃ (n2 : Int), r2 = .int .i64 n2 ∧
  K (.int .i64 n2) h3)) else (
  C.strings_shouldUseASCIISet (s1.size : Int) h1 fun r3 h4 =>
  ∃ (b2 : Bool), r3 = .bool b2 ∧
  bif b2 then (
  C.strings_makeASCIISet chars1 h4 fun r4 h5 =>
  ∃ (cs1 : List Value) (b3 : Bool), r4 = .tuple #[.agg ⟨cs1⟩, .bool b3] ∧
  NewRow z138 138 cs1 256 h5 fun h7 =>
  bif b3 then (
  ∃ (I1 : Int → Heap → Prop) (M1 : Int → Heap → Nat), I1 0 h7 ∧
  ∀ (i1 : Int), ∀ h8 : Heap, I1 i1 h8 →
  bif (decide (i1 < (s1.size : Int))) then (
  (0 ≤ i1 ∧ i1 < (s1.size : Int)) ∧
  ∃ b4 : UInt8, s1.toList[Int.toNat i1]? = some b4 ∧
  C.strings_asciiSet_contains (some ⟨h5.size, 0, none⟩) ((UInt8.toNat b4 : Nat) : Int) h8 fun r5 h9 =>
  ∃ (b5 : Bool), r5 = .bool b5 ∧
  bif b5 then (
  K (.int .i64 i1) h9) else (
  I1 (IntKind.wrap .i64 (i1 + 1)) h9 ∧ M1 (IntKind.wrap .i64 (i1 + 1)) h9 < M1 i1 h8)) else (
  K (.int .i64 (-1)) h8)) else (
  strings_IndexAny.k1 s1 chars1 h7 K)) else (
  strings_IndexAny.k1 s1 chars1 h4 K)))
def strings_IndexAny.lo : Nat → List Nat × List (Nat × Ty) := fun n => match n with | 12 => ([0, 6], [(8, .int .i64)]) | 18 => ([1, 45], []) | _ => ([], [])
def strings_IndexAny.od : Nat → Od := fun n => match n with | _ => .nil
theorem strings_IndexAny.eq (s1 : ByteArray) (chars1 : ByteArray) (K : Value → Heap → Prop) (h : Heap) : fnX (cx strings_IndexAny.lo strings_IndexAny.od) Try.f74 (Try.f74.body.getD .skip) [.string s1, .string chars1] K h = strings_IndexAny s1 chars1 K h := by kernel_rfl
theorem strings_IndexAny.chk : fnOk (cx strings_IndexAny.lo strings_IndexAny.od) Try.f74 (Try.f74.body.getD .skip) 2 = true := by kernel_rfl
theorem strings_IndexAny.ok {s1 : ByteArray} {chars1 : ByteArray} {K : Value → Heap → Prop} {h : Heap} (hx : strings_IndexAny s1 chars1 K h) : C.strings_IndexAny s1 chars1 h K :=
  fn_to (cxOk _ _) Try.func74 (by kernel_rfl) strings_IndexAny.chk (by rw [strings_IndexAny.eq]; exact hx)

-- 76
def strings_Builder_WriteString (b1 : Option Addr) (s1 : ByteArray) (K : Value → Heap → Prop) (h1 : Heap) : Prop :=
  C.strings_Builder_copyCheck b1 h1 fun r1 h2 =>
  r1 = .tuple #[] ∧
  onSome b1 fun p1 =>
  ∃ (sA1 : Option Addr) (sL1 : Nat) (sC1 : Nat), cellOf h2 (Addr.add p1 1) = some (.slice sA1 sL1 sC1) ∧
  AppendP ti5 5 sA1 sL1 sC1 s1.size (List.map bv s1.toList) h2 fun sA2 sL2 sC2 h3 =>
  onSome b1 fun p2 =>
  Put (Addr.add p2 1) (.slice sA2 sL2 sC2) h3 fun h4 =>
  K (.tuple #[.int .i64 (s1.size : Int), .nilIface]) h4
def strings_Builder_WriteString.lo : Nat → List Nat × List (Nat × Ty) := fun n => match n with | _ => ([], [])
def strings_Builder_WriteString.od : Nat → Od := fun n => match n with | _ => .nil
theorem strings_Builder_WriteString.eq (b1 : Option Addr) (s1 : ByteArray) (K : Value → Heap → Prop) (h : Heap) : fnX (cx strings_Builder_WriteString.lo strings_Builder_WriteString.od) Try.f76 (Try.f76.body.getD .skip) [.pointer b1, .string s1] K h = strings_Builder_WriteString b1 s1 K h := by kernel_rfl
theorem strings_Builder_WriteString.chk : fnOk (cx strings_Builder_WriteString.lo strings_Builder_WriteString.od) Try.f76 (Try.f76.body.getD .skip) 2 = true := by kernel_rfl
theorem strings_Builder_WriteString.ok {b1 : Option Addr} {s1 : ByteArray} {K : Value → Heap → Prop} {h : Heap} (hx : strings_Builder_WriteString b1 s1 K h) : C.strings_Builder_WriteString b1 s1 h K :=
  fn_to (cxOk _ _) Try.func76 (by kernel_rfl) strings_Builder_WriteString.chk (by rw [strings_Builder_WriteString.eq]; exact hx)

-- 78
def geo_Bit.k1 (i1 : Int) (h1 : Heap) (h2 : Heap) (K : Value → Heap → Prop) : Prop :=
  ∃ (n2 : Int), cellOf h2 (Addr.add ⟨h1.size, 0, none⟩ 1) = some (.int .i64 n2) ∧
  K (.tuple #[.int .i64 (IntKind.wrap .i64 (n2 + (IntKind.wrap .i64 (Int.tdiv i1 4096)))), .int .i64 (Int.tmod i1 4096), .int .i64 0]) h2
def geo_Bit (g1 : List Value) (i1 : Int) (K : Value → Heap → Prop) (h1 : Heap) : Prop :=
  New g1 30 h1 fun h2 =>
  bif (decide (i1 < 0)) then (
  K (.tuple #[.int .i64 0, .int .i64 0, .int .i64 31]) h2) else (
  ∃ (n1 : Int), cellOf h2 (Addr.add ⟨h1.size, 0, none⟩ 0) = some (.int .i64 n1) ∧
  bif (decide (i1 ≥ n1)) then (
  K (.tuple #[.int .i64 0, .int .i64 0, .int .i64 31]) h2) else (
  geo_Bit.k1 i1 h1 h2 K))
def geo_Bit.lo : Nat → List Nat × List (Nat × Ty) := fun n => match n with | _ => ([], [])
def geo_Bit.od : Nat → Od := fun n => match n with | _ => .nil
theorem geo_Bit.eq (g1 : List Value) (i1 : Int) (K : Value → Heap → Prop) (h : Heap) : fnX (cx geo_Bit.lo geo_Bit.od) Try.f78 (Try.f78.body.getD .skip) [.agg ⟨g1⟩, .int .i64 i1] K h = geo_Bit g1 i1 K h := by kernel_rfl
theorem geo_Bit.chk : fnOk (cx geo_Bit.lo geo_Bit.od) Try.f78 (Try.f78.body.getD .skip) 2 = true := by kernel_rfl
theorem geo_Bit.ok {g1 : List Value} {i1 : Int} {K : Value → Heap → Prop} {h : Heap} (hx : geo_Bit g1 i1 K h) : C.geo_Bit g1 i1 h K :=
  fn_to (cxOk _ _) Try.func78 (by kernel_rfl) geo_Bit.chk (by rw [geo_Bit.eq]; exact hx)

-- 79
def bits_has (bA1 : Option Addr) (bL1 : Nat) (bC1 : Nat) (i1 : Int) (K : Value → Heap → Prop) (h1 : Heap) : Prop :=
  bif (decide (i1 ≥ 0)) then (
  K (.bool (decide (i1 < (IntKind.wrap .i64 (8 * (bL1 : Int)))))) h1) else (
  K (.bool false) h1)
def bits_has.lo : Nat → List Nat × List (Nat × Ty) := fun n => match n with | _ => ([], [])
def bits_has.od : Nat → Od := fun n => match n with | _ => .nil
theorem bits_has.eq (bA1 : Option Addr) (bL1 : Nat) (bC1 : Nat) (i1 : Int) (K : Value → Heap → Prop) (h : Heap) : fnX (cx bits_has.lo bits_has.od) Try.f79 (Try.f79.body.getD .skip) [.slice bA1 bL1 bC1, .int .i64 i1] K h = bits_has bA1 bL1 bC1 i1 K h := by kernel_rfl
theorem bits_has.chk : fnOk (cx bits_has.lo bits_has.od) Try.f79 (Try.f79.body.getD .skip) 2 = true := by kernel_rfl
theorem bits_has.ok {bA1 : Option Addr} {bL1 : Nat} {bC1 : Nat} {i1 : Int} {K : Value → Heap → Prop} {h : Heap} (hx : bits_has bA1 bL1 bC1 i1 K h) : C.bits_has bA1 bL1 bC1 i1 h K :=
  fn_to (cxOk _ _) Try.func79 (by kernel_rfl) bits_has.chk (by rw [bits_has.eq]; exact hx)

-- 80
def bits_on (bA1 : Option Addr) (bL1 : Nat) (bC1 : Nat) (i1 : Int) (K : Value → Heap → Prop) (h1 : Heap) : Prop :=
  (0 ≤ (IntKind.wrap .i64 (Int.tdiv i1 8)) ∧ (IntKind.wrap .i64 (Int.tdiv i1 8)) < (bL1 : Int)) ∧
  onSome bA1 fun p1 =>
  ∃ (n1 : Int), cellOf h1 (Addr.add p1 (Int.toNat (IntKind.wrap .i64 (Int.tdiv i1 8)))) = some (.int .u8 n1) ∧
  if (Int.tmod i1 8) < 0 then False else
  K (.bool ((bitsI .and .u8 (Int.fdiv n1 (2 ^ min (Int.toNat (Int.tmod i1 8)) 8)) 1) == 1)) h1
def bits_on.lo : Nat → List Nat × List (Nat × Ty) := fun n => match n with | _ => ([], [])
def bits_on.od : Nat → Od := fun n => match n with | _ => .nil
theorem bits_on.eq (bA1 : Option Addr) (bL1 : Nat) (bC1 : Nat) (i1 : Int) (K : Value → Heap → Prop) (h : Heap) : fnX (cx bits_on.lo bits_on.od) Try.f80 (Try.f80.body.getD .skip) [.slice bA1 bL1 bC1, .int .i64 i1] K h = bits_on bA1 bL1 bC1 i1 K h := by kernel_rfl
theorem bits_on.chk : fnOk (cx bits_on.lo bits_on.od) Try.f80 (Try.f80.body.getD .skip) 2 = true := by kernel_rfl
theorem bits_on.ok {bA1 : Option Addr} {bL1 : Nat} {bC1 : Nat} {i1 : Int} {K : Value → Heap → Prop} {h : Heap} (hx : bits_on bA1 bL1 bC1 i1 K h) : C.bits_on bA1 bL1 bC1 i1 h K :=
  fn_to (cxOk _ _) Try.func80 (by kernel_rfl) bits_on.chk (by rw [bits_on.eq]; exact hx)

-- 81
def bits_Runs_c1.k2 (yield1 : Value) (i1 : Int) (h2 : Heap) (I1 : Int → Heap → Prop) (M1 : Int → Heap → Nat) (i3 : Int) (i5 : Int) (h10 : Heap) (K : Value → Heap → Prop) : Prop :=
  bif (i5 == i3) then (
  K (.tuple #[]) h10) else (
  HCallsV Try.prog yield1 [.int .i64 i3, .int .i64 (IntKind.wrap .i64 (i5 - i3))] h10 fun r5 h11 =>
  ∃ (b5 : Bool), r5 = .bool b5 ∧
  bif (!b5) then (
  K (.tuple #[]) h11) else (
  I1 i5 h11 ∧ M1 i5 h11 < M1 i1 h2))
def bits_Runs_c1.k1 (yield1 : Value) (cap1 : Option Addr) (i1 : Int) (h2 : Heap) (I1 : Int → Heap → Prop) (M1 : Int → Heap → Nat) (i3 : Int) (h6 : Heap) (K : Value → Heap → Prop) : Prop :=
  ∃ (I3 : Int → Heap → Prop) (M3 : Int → Heap → Nat), I3 i3 h6 ∧
  ∀ (i4 : Int), ∀ h7 : Heap, I3 i4 h7 →
  onSome cap1 fun p3 =>
  ∃ (sA3 : Option Addr) (sL3 : Nat) (sC3 : Nat), cellOf h7 p3 = some (.slice sA3 sL3 sC3) ∧
  C.bits_has sA3 sL3 sC3 i4 h7 fun r3 h8 =>
  ∃ (b3 : Bool), r3 = .bool b3 ∧
  bif b3 then (
  onSome cap1 fun p4 =>
  ∃ (sA4 : Option Addr) (sL4 : Nat) (sC4 : Nat), cellOf h8 p4 = some (.slice sA4 sL4 sC4) ∧
  C.bits_on sA4 sL4 sC4 i4 h8 fun r4 h9 =>
  ∃ (b4 : Bool), r4 = .bool b4 ∧
  bif (!b4) then (
  I3 (IntKind.wrap .i64 (i4 + 1)) h9 ∧ M3 (IntKind.wrap .i64 (i4 + 1)) h9 < M3 i4 h7) else (
  bits_Runs_c1.k2 yield1 i1 h2 I1 M1 i3 i4 h9 K)) else (
  bits_Runs_c1.k2 yield1 i1 h2 I1 M1 i3 i4 h8 K)
def bits_Runs_c1 (yield1 : Value) (cap1 : Option Addr) (K : Value → Heap → Prop) (h1 : Heap) : Prop :=
  ∃ (I1 : Int → Heap → Prop) (M1 : Int → Heap → Nat), I1 0 h1 ∧
  ∀ (i1 : Int), ∀ h2 : Heap, I1 i1 h2 →
  ∃ (I2 : Int → Heap → Prop) (M2 : Int → Heap → Nat), I2 i1 h2 ∧
  ∀ (i2 : Int), ∀ h3 : Heap, I2 i2 h3 →
  onSome cap1 fun p1 =>
  ∃ (sA1 : Option Addr) (sL1 : Nat) (sC1 : Nat), cellOf h3 p1 = some (.slice sA1 sL1 sC1) ∧
  C.bits_has sA1 sL1 sC1 i2 h3 fun r1 h4 =>
  ∃ (b1 : Bool), r1 = .bool b1 ∧
  bif b1 then (
  onSome cap1 fun p2 =>
  ∃ (sA2 : Option Addr) (sL2 : Nat) (sC2 : Nat), cellOf h4 p2 = some (.slice sA2 sL2 sC2) ∧
  C.bits_on sA2 sL2 sC2 i2 h4 fun r2 h5 =>
  ∃ (b2 : Bool), r2 = .bool b2 ∧
  bif b2 then (
  I2 (IntKind.wrap .i64 (i2 + 1)) h5 ∧ M2 (IntKind.wrap .i64 (i2 + 1)) h5 < M2 i2 h3) else (
  bits_Runs_c1.k1 yield1 cap1 i1 h2 I1 M1 i2 h5 K)) else (
  bits_Runs_c1.k1 yield1 cap1 i1 h2 I1 M1 i2 h4 K)
def bits_Runs_c1.lo : Nat → List Nat × List (Nat × Ty) := fun n => match n with | 1 => ([0, 1], [(3, .int .i64)]) | 4 => ([0, 1, 4], [(3, .int .i64)]) | _ => ([], [])
def bits_Runs_c1.od : Nat → Od := fun n => match n with | _ => .nil
theorem bits_Runs_c1.eq (yield1 : Value) (cap1 : Option Addr) (K : Value → Heap → Prop) (h : Heap) : fnX (cx bits_Runs_c1.lo bits_Runs_c1.od) Try.f81 (Try.f81.body.getD .skip) [yield1, .pointer cap1] K h = bits_Runs_c1 yield1 cap1 K h := by kernel_rfl
theorem bits_Runs_c1.chk : fnOk (cx bits_Runs_c1.lo bits_Runs_c1.od) Try.f81 (Try.f81.body.getD .skip) 2 = true := by kernel_rfl
theorem bits_Runs_c1.ok {yield1 : Value} {cap1 : Option Addr} {K : Value → Heap → Prop} {h : Heap} (hx : bits_Runs_c1 yield1 cap1 K h) : C.bits_Runs_c1 yield1 cap1 h K :=
  fn_to (cxOk _ _) Try.func81 (by kernel_rfl) bits_Runs_c1.chk (by rw [bits_Runs_c1.eq]; exact hx)

-- 82
def internal_stringslite_IndexByte (s1 : ByteArray) (c1 : Int) (K : Value → Heap → Prop) (h1 : Heap) : Prop :=
  (IntKind.u8 = IntKind.u8) ∧
  K (.int .i64 (byteIn (ByteArray.toList s1) (UInt8.ofNat (Int.toNat c1)))) h1
def internal_stringslite_IndexByte.lo : Nat → List Nat × List (Nat × Ty) := fun n => match n with | _ => ([], [])
def internal_stringslite_IndexByte.od : Nat → Od := fun n => match n with | _ => .nil
theorem internal_stringslite_IndexByte.eq (s1 : ByteArray) (c1 : Int) (K : Value → Heap → Prop) (h : Heap) : fnX (cx internal_stringslite_IndexByte.lo internal_stringslite_IndexByte.od) Try.f82 (Try.f82.body.getD .skip) [.string s1, .int .u8 c1] K h = internal_stringslite_IndexByte s1 c1 K h := by kernel_rfl
theorem internal_stringslite_IndexByte.chk : fnOk (cx internal_stringslite_IndexByte.lo internal_stringslite_IndexByte.od) Try.f82 (Try.f82.body.getD .skip) 2 = true := by kernel_rfl
theorem internal_stringslite_IndexByte.ok {s1 : ByteArray} {c1 : Int} {K : Value → Heap → Prop} {h : Heap} (hx : internal_stringslite_IndexByte s1 c1 K h) : C.internal_stringslite_IndexByte s1 c1 h K :=
  fn_to (cxOk _ _) Try.func82 (by kernel_rfl) internal_stringslite_IndexByte.chk (by rw [internal_stringslite_IndexByte.eq]; exact hx)

-- 83
def strings_IndexRune.k1 (s1 : ByteArray) (r1 : Int) (i2 : Int) (h9 : Heap) (K : Value → Heap → Prop) : Prop :=
  ∃ (I3 : Int → Heap → Prop) (M3 : Int → Heap → Nat), I3 1 h9 ∧
  ∀ (j1 : Int), ∀ h10 : Heap, I3 j1 h10 →
  bif (decide (j1 < ((Utf8.encode r1).size : Int))) then (
  (0 ≤ (IntKind.wrap .i64 (i2 - j1)) ∧ (IntKind.wrap .i64 (i2 - j1)) < (s1.size : Int)) ∧
  ∃ b5 : UInt8, s1.toList[Int.toNat (IntKind.wrap .i64 (i2 - j1))]? = some b5 ∧
  (0 ≤ (IntKind.wrap .i64 ((IntKind.wrap .i64 (((Utf8.encode r1).size : Int) - 1)) - j1)) ∧ (IntKind.wrap .i64 ((IntKind.wrap .i64 (((Utf8.encode r1).size : Int) - 1)) - j1)) < ((Utf8.encode r1).size : Int)) ∧
  ∃ b6 : UInt8, (Utf8.encode r1).toList[Int.toNat (IntKind.wrap .i64 ((IntKind.wrap .i64 (((Utf8.encode r1).size : Int) - 1)) - j1))]? = some b6 ∧
  bif (((UInt8.toNat b5 : Nat) : Int) != ((UInt8.toNat b6 : Nat) : Int)) then (
  False) else (
  I3 (IntKind.wrap .i64 (j1 + 1)) h10 ∧ M3 (IntKind.wrap .i64 (j1 + 1)) h10 < M3 j1 h10)) else (
  K (.int .i64 (IntKind.wrap .i64 (i2 - (IntKind.wrap .i64 (((Utf8.encode r1).size : Int) - 1))))) h10)
def strings_IndexRune.k2 (s1 : ByteArray) (r1 : Int) (i4 : Int) (h17 : Heap) (K : Value → Heap → Prop) : Prop :=
  ∃ (I6 : Int → Heap → Prop) (M6 : Int → Heap → Nat), I6 1 h17 ∧
  ∀ (j2 : Int), ∀ h18 : Heap, I6 j2 h18 →
  bif (decide (j2 < ((Utf8.encode r1).size : Int))) then (
  (0 ≤ (IntKind.wrap .i64 (i4 - j2)) ∧ (IntKind.wrap .i64 (i4 - j2)) < (s1.size : Int)) ∧
  ∃ b11 : UInt8, s1.toList[Int.toNat (IntKind.wrap .i64 (i4 - j2))]? = some b11 ∧
  (0 ≤ (IntKind.wrap .i64 ((IntKind.wrap .i64 (((Utf8.encode r1).size : Int) - 1)) - j2)) ∧ (IntKind.wrap .i64 ((IntKind.wrap .i64 (((Utf8.encode r1).size : Int) - 1)) - j2)) < ((Utf8.encode r1).size : Int)) ∧
  ∃ b12 : UInt8, (Utf8.encode r1).toList[Int.toNat (IntKind.wrap .i64 ((IntKind.wrap .i64 (((Utf8.encode r1).size : Int) - 1)) - j2))]? = some b12 ∧
  bif (((UInt8.toNat b11 : Nat) : Int) != ((UInt8.toNat b12 : Nat) : Int)) then (
  False) else (
  I6 (IntKind.wrap .i64 (j2 + 1)) h18 ∧ M6 (IntKind.wrap .i64 (j2 + 1)) h18 < M6 j2 h18)) else (
  K (.int .i64 (IntKind.wrap .i64 (i4 - (IntKind.wrap .i64 (((Utf8.encode r1).size : Int) - 1))))) h18)
def strings_IndexRune (s1 : ByteArray) (r1 : Int) (K : Value → Heap → Prop) (h1 : Heap) : Prop :=
  bif (decide ((0 : Int) ≤ r1)) then (
  bif (decide (r1 < 128)) then (
  C.strings_IndexByte s1 (IntKind.wrap .u8 (r1)) h1 fun r2 h2 =>
  ∃ (n1 : Int), r2 = .int .i64 n1 ∧
  K (.int .i64 n1) h2) else (
  bif (r1 == 65533) then (
  NewI s1 h1 fun h3 =>
  ∃ (I1 : Heap → Prop) (M1 : Heap → Nat), I1  h3 ∧
  ∀ h4 : Heap, I1  h4 →
  Addr.off ⟨h1.size, 0, none⟩ = 0 ∧
  ∃ (s2 : ByteArray) (pos1 : Nat), h4[Addr.block ⟨h1.size, 0, none⟩]? = some (.stringIter s2 pos1) ∧
  (pos1 < ByteArray.size s2 → ∀ h5 : Heap, IterTo h4 (Addr.block ⟨h1.size, 0, none⟩) s2 (pos1 + (Utf8.decode s2 pos1).2) h5 →
  bif ((((Utf8.decode s2 pos1).1 : Nat) : Int) == 65533) then (
  K (.int .i64 (pos1 : Int)) h5) else (
  I1  h5 ∧ M1  h5 < M1  h4)) ∧
  (¬ pos1 < ByteArray.size s2 →
  K (.int .i64 (-1)) h4)) else (
  C.unicode_utf8_ValidRune r1 h1 fun r3 h6 =>
  ∃ (b1 : Bool), r3 = .bool b1 ∧
  bif (!b1) then (
  K (.int .i64 (-1)) h6) else (
  ∃ (I2 : Int → Heap → Prop) (M2 : Int → Heap → Nat), I2 (IntKind.wrap .i64 (((Utf8.encode r1).size : Int) - 1)) h6 ∧
  ∀ (i1 : Int), ∀ h7 : Heap, I2 i1 h7 →
  bif (decide (i1 < (s1.size : Int))) then (
  (0 ≤ i1 ∧ i1 < (s1.size : Int)) ∧
  ∃ b2 : UInt8, s1.toList[Int.toNat i1]? = some b2 ∧
  (0 ≤ (IntKind.wrap .i64 (((Utf8.encode r1).size : Int) - 1)) ∧ (IntKind.wrap .i64 (((Utf8.encode r1).size : Int) - 1)) < ((Utf8.encode r1).size : Int)) ∧
  ∃ b3 : UInt8, (Utf8.encode r1).toList[Int.toNat (IntKind.wrap .i64 (((Utf8.encode r1).size : Int) - 1))]? = some b3 ∧
  bif (((UInt8.toNat b2 : Nat) : Int) != ((UInt8.toNat b3 : Nat) : Int)) then (
  (0 ≤ (IntKind.wrap .i64 (i1 + 1)) ∧ (IntKind.wrap .i64 (i1 + 1)) ≤ (s1.size : Int)) ∧
  (0 ≤ (IntKind.wrap .i64 (((Utf8.encode r1).size : Int) - 1)) ∧ (IntKind.wrap .i64 (((Utf8.encode r1).size : Int) - 1)) < ((Utf8.encode r1).size : Int)) ∧
  ∃ b4 : UInt8, (Utf8.encode r1).toList[Int.toNat (IntKind.wrap .i64 (((Utf8.encode r1).size : Int) - 1))]? = some b4 ∧
  C.strings_IndexByte (ByteArray.extract s1 (Int.toNat (IntKind.wrap .i64 (i1 + 1))) s1.size) ((UInt8.toNat b4 : Nat) : Int) h7 fun r4 h8 =>
  ∃ (n2 : Int), r4 = .int .i64 n2 ∧
  bif (decide (n2 < 0)) then (
  K (.int .i64 (-1)) h8) else (
  strings_IndexRune.k1 s1 r1 (IntKind.wrap .i64 (i1 + (IntKind.wrap .i64 (n2 + 1)))) h8 K)) else (
  strings_IndexRune.k1 s1 r1 i1 h7 K)) else (
  K (.int .i64 (-1)) h7))))) else (
  bif (r1 == 65533) then (
  NewI s1 h1 fun h11 =>
  ∃ (I4 : Heap → Prop) (M4 : Heap → Nat), I4  h11 ∧
  ∀ h12 : Heap, I4  h12 →
  Addr.off ⟨h1.size, 0, none⟩ = 0 ∧
  ∃ (s3 : ByteArray) (pos2 : Nat), h12[Addr.block ⟨h1.size, 0, none⟩]? = some (.stringIter s3 pos2) ∧
  (pos2 < ByteArray.size s3 → ∀ h13 : Heap, IterTo h12 (Addr.block ⟨h1.size, 0, none⟩) s3 (pos2 + (Utf8.decode s3 pos2).2) h13 →
  bif ((((Utf8.decode s3 pos2).1 : Nat) : Int) == 65533) then (
  K (.int .i64 (pos2 : Int)) h13) else (
  I4  h13 ∧ M4  h13 < M4  h12)) ∧
  (¬ pos2 < ByteArray.size s3 →
  K (.int .i64 (-1)) h12)) else (
  C.unicode_utf8_ValidRune r1 h1 fun r5 h14 =>
  ∃ (b7 : Bool), r5 = .bool b7 ∧
  bif (!b7) then (
  K (.int .i64 (-1)) h14) else (
  ∃ (I5 : Int → Heap → Prop) (M5 : Int → Heap → Nat), I5 (IntKind.wrap .i64 (((Utf8.encode r1).size : Int) - 1)) h14 ∧
  ∀ (i3 : Int), ∀ h15 : Heap, I5 i3 h15 →
  bif (decide (i3 < (s1.size : Int))) then (
  (0 ≤ i3 ∧ i3 < (s1.size : Int)) ∧
  ∃ b8 : UInt8, s1.toList[Int.toNat i3]? = some b8 ∧
  (0 ≤ (IntKind.wrap .i64 (((Utf8.encode r1).size : Int) - 1)) ∧ (IntKind.wrap .i64 (((Utf8.encode r1).size : Int) - 1)) < ((Utf8.encode r1).size : Int)) ∧
  ∃ b9 : UInt8, (Utf8.encode r1).toList[Int.toNat (IntKind.wrap .i64 (((Utf8.encode r1).size : Int) - 1))]? = some b9 ∧
  bif (((UInt8.toNat b8 : Nat) : Int) != ((UInt8.toNat b9 : Nat) : Int)) then (
  (0 ≤ (IntKind.wrap .i64 (i3 + 1)) ∧ (IntKind.wrap .i64 (i3 + 1)) ≤ (s1.size : Int)) ∧
  (0 ≤ (IntKind.wrap .i64 (((Utf8.encode r1).size : Int) - 1)) ∧ (IntKind.wrap .i64 (((Utf8.encode r1).size : Int) - 1)) < ((Utf8.encode r1).size : Int)) ∧
  ∃ b10 : UInt8, (Utf8.encode r1).toList[Int.toNat (IntKind.wrap .i64 (((Utf8.encode r1).size : Int) - 1))]? = some b10 ∧
  C.strings_IndexByte (ByteArray.extract s1 (Int.toNat (IntKind.wrap .i64 (i3 + 1))) s1.size) ((UInt8.toNat b10 : Nat) : Int) h15 fun r6 h16 =>
  ∃ (n3 : Int), r6 = .int .i64 n3 ∧
  bif (decide (n3 < 0)) then (
  K (.int .i64 (-1)) h16) else (
  strings_IndexRune.k2 s1 r1 (IntKind.wrap .i64 (i3 + (IntKind.wrap .i64 (n3 + 1)))) h16 K)) else (
  strings_IndexRune.k2 s1 r1 i3 h15 K)) else (
  K (.int .i64 (-1)) h15))))
def strings_IndexRune.lo : Nat → List Nat × List (Nat × Ty) := fun n => match n with | 5 => ([0, 7, 8], [(9, .int .i64)]) | 12 => ([0, 7, 8, 9], [(12, .int .i64)]) | 38 => ([175], []) | _ => ([], [])
def strings_IndexRune.od : Nat → Od := fun n => match n with | 6 => (.op 0 [] (.op 1 [] (.op 2 [] (.op 3 [] (.op 4 [] (.op 5 [] (.op 6 [] .nil))))))) | 7 => (.op 0 [] (.op 1 [] (.op 2 [] (.op 3 [] (.op 4 [] (.op 5 [] (.op 6 [] (.op 7 [] (.op 8 [] .nil))))))))) | 14 => (.op 0 [] (.op 1 [] (.op 2 [] (.op 3 [] (.op 4 [] (.op 5 [] (.op 6 [] (.op 7 [] (.op 8 [] (.op 9 [] (.op 10 [] .nil))))))))))) | 31 => (.op 0 [] (.op 1 [] (.op 2 [] (.op 3 [] (.op 4 [] (.op 5 [] (.op 6 [] (.op 7 [] (.op 8 [] (.op 9 [] (.op 10 [] .nil))))))))))) | _ => .nil
theorem strings_IndexRune.eq (s1 : ByteArray) (r1 : Int) (K : Value → Heap → Prop) (h : Heap) : fnX (cx strings_IndexRune.lo strings_IndexRune.od) Try.f83 (Try.f83.body.getD .skip) [.string s1, .int .i32 r1] K h = strings_IndexRune s1 r1 K h := by kernel_rfl
theorem strings_IndexRune.chk : fnOk (cx strings_IndexRune.lo strings_IndexRune.od) Try.f83 (Try.f83.body.getD .skip) 2 = true := by kernel_rfl
theorem strings_IndexRune.ok {s1 : ByteArray} {r1 : Int} {K : Value → Heap → Prop} {h : Heap} (hx : strings_IndexRune s1 r1 K h) : C.strings_IndexRune s1 r1 h K :=
  fn_to (cxOk _ _) Try.func83 (by kernel_rfl) strings_IndexRune.chk (by rw [strings_IndexRune.eq]; exact hx)

-- 84
def strings_shouldUseASCIISet (bufLen1 : Int) (K : Value → Heap → Prop) (h1 : Heap) : Prop :=
  K (.bool (decide (bufLen1 > 8))) h1
def strings_shouldUseASCIISet.lo : Nat → List Nat × List (Nat × Ty) := fun n => match n with | _ => ([], [])
def strings_shouldUseASCIISet.od : Nat → Od := fun n => match n with | _ => .nil
theorem strings_shouldUseASCIISet.eq (bufLen1 : Int) (K : Value → Heap → Prop) (h : Heap) : fnX (cx strings_shouldUseASCIISet.lo strings_shouldUseASCIISet.od) Try.f84 (Try.f84.body.getD .skip) [.int .i64 bufLen1] K h = strings_shouldUseASCIISet bufLen1 K h := by kernel_rfl
theorem strings_shouldUseASCIISet.chk : fnOk (cx strings_shouldUseASCIISet.lo strings_shouldUseASCIISet.od) Try.f84 (Try.f84.body.getD .skip) 1 = true := by kernel_rfl
theorem strings_shouldUseASCIISet.ok {bufLen1 : Int} {K : Value → Heap → Prop} {h : Heap} (hx : strings_shouldUseASCIISet bufLen1 K h) : C.strings_shouldUseASCIISet bufLen1 h K :=
  fn_to (cxOk _ _) Try.func84 (by kernel_rfl) strings_shouldUseASCIISet.chk (by rw [strings_shouldUseASCIISet.eq]; exact hx)

-- 85
def strings_makeASCIISet (chars1 : ByteArray) (K : Value → Heap → Prop) (h1 : Heap) : Prop :=
  New z138 138 h1 fun h2 =>
  ∃ (I1 : Int → Heap → Prop) (M1 : Int → Heap → Nat), I1 0 h2 ∧
  ∀ (i1 : Int), ∀ h3 : Heap, I1 i1 h3 →
  bif (decide (i1 < (chars1.size : Int))) then (
  (0 ≤ i1 ∧ i1 < (chars1.size : Int)) ∧
  ∃ b1 : UInt8, chars1.toList[Int.toNat i1]? = some b1 ∧
  bif (decide (((UInt8.toNat b1 : Nat) : Int) ≥ 128)) then (
  ∃ cs1 : List Value, List.length cs1 = 256 ∧ Cells h3 ⟨h1.size, 0, none⟩ cs1 ∧
  PutRow ⟨h1.size, 0, none⟩ cs1 256 h3 fun h4 =>
  ∃ res1 : List Value, List.length res1 = 256 ∧ Cells h4 ⟨h1.size, 0, none⟩ res1 ∧
  K (.tuple #[.agg ⟨res1⟩, .bool false]) h4) else (
  (0 ≤ ((UInt8.toNat b1 : Nat) : Int) ∧ ((UInt8.toNat b1 : Nat) : Int) < (256 : Int)) ∧
  Put (Addr.add ⟨h1.size, 0, none⟩ (Int.toNat ((UInt8.toNat b1 : Nat) : Int))) (.bool true) h3 fun h5 =>
  I1 (IntKind.wrap .i64 (i1 + 1)) h5 ∧ M1 (IntKind.wrap .i64 (i1 + 1)) h5 < M1 i1 h3)) else (
  ∃ cs2 : List Value, List.length cs2 = 256 ∧ Cells h3 ⟨h1.size, 0, none⟩ cs2 ∧
  PutRow ⟨h1.size, 0, none⟩ cs2 256 h3 fun h6 =>
  ∃ res2 : List Value, List.length res2 = 256 ∧ Cells h6 ⟨h1.size, 0, none⟩ res2 ∧
  K (.tuple #[.agg ⟨res2⟩, .bool true]) h6)
def strings_makeASCIISet.lo : Nat → List Nat × List (Nat × Ty) := fun n => match n with | 2 => ([0, 2], [(4, .int .i64)]) | _ => ([], [])
def strings_makeASCIISet.od : Nat → Od := fun n => match n with | _ => .nil
theorem strings_makeASCIISet.eq (chars1 : ByteArray) (K : Value → Heap → Prop) (h : Heap) : fnX (cx strings_makeASCIISet.lo strings_makeASCIISet.od) Try.f85 (Try.f85.body.getD .skip) [.string chars1] K h = strings_makeASCIISet chars1 K h := by kernel_rfl
theorem strings_makeASCIISet.chk : fnOk (cx strings_makeASCIISet.lo strings_makeASCIISet.od) Try.f85 (Try.f85.body.getD .skip) 1 = true := by kernel_rfl
theorem strings_makeASCIISet.ok {chars1 : ByteArray} {K : Value → Heap → Prop} {h : Heap} (hx : strings_makeASCIISet chars1 K h) : C.strings_makeASCIISet chars1 h K :=
  fn_to (cxOk _ _) Try.func85 (by kernel_rfl) strings_makeASCIISet.chk (by rw [strings_makeASCIISet.eq]; exact hx)

-- 86
def strings_asciiSet_contains (as1 : Option Addr) (c1 : Int) (K : Value → Heap → Prop) (h1 : Heap) : Prop :=
  onSome as1 fun p1 =>
  (0 ≤ c1 ∧ c1 < (256 : Int)) ∧
  ∃ (b1 : Bool), cellOf h1 (Addr.add p1 (Int.toNat c1)) = some (.bool b1) ∧
  K (.bool b1) h1
def strings_asciiSet_contains.lo : Nat → List Nat × List (Nat × Ty) := fun n => match n with | _ => ([], [])
def strings_asciiSet_contains.od : Nat → Od := fun n => match n with | _ => .nil
theorem strings_asciiSet_contains.eq (as1 : Option Addr) (c1 : Int) (K : Value → Heap → Prop) (h : Heap) : fnX (cx strings_asciiSet_contains.lo strings_asciiSet_contains.od) Try.f86 (Try.f86.body.getD .skip) [.pointer as1, .int .u8 c1] K h = strings_asciiSet_contains as1 c1 K h := by kernel_rfl
theorem strings_asciiSet_contains.chk : fnOk (cx strings_asciiSet_contains.lo strings_asciiSet_contains.od) Try.f86 (Try.f86.body.getD .skip) 2 = true := by kernel_rfl
theorem strings_asciiSet_contains.ok {as1 : Option Addr} {c1 : Int} {K : Value → Heap → Prop} {h : Heap} (hx : strings_asciiSet_contains as1 c1 K h) : C.strings_asciiSet_contains as1 c1 h K :=
  fn_to (cxOk _ _) Try.func86 (by kernel_rfl) strings_asciiSet_contains.chk (by rw [strings_asciiSet_contains.eq]; exact hx)

-- 88
def strings_Builder_grow (b1 : Option Addr) (n1 : Int) (K : Value → Heap → Prop) (h1 : Heap) : Prop :=
  onSome b1 fun p1 =>
  ∃ (sA1 : Option Addr) (sL1 : Nat) (sC1 : Nat), cellOf h1 (Addr.add p1 1) = some (.slice sA1 sL1 sC1) ∧
  onSome b1 fun p2 =>
  ∃ (sA2 : Option Addr) (sL2 : Nat) (sC2 : Nat), cellOf h1 (Addr.add p2 1) = some (.slice sA2 sL2 sC2) ∧
  C.internal_bytealg_MakeNoZero (IntKind.wrap .i64 ((IntKind.wrap .i64 (2 * (sC1 : Int))) + n1)) h1 fun r1 h2 =>
  ∃ (sA3 : Option Addr) (sL3 : Nat) (sC3 : Nat), r1 = .slice sA3 sL3 sC3 ∧
  (cellOf h2 (Addr.add p2 1) = some (.slice sA2 sL2 sC2)) ∧
  (0 ≤ (sL2 : Int) ∧ (sL2 : Int) ≤ (sC3 : Int)) ∧
  onSome b1 fun p3 =>
  ∃ (sA4 : Option Addr) (sL4 : Nat) (sC4 : Nat), cellOf h2 (Addr.add p3 1) = some (.slice sA4 sL4 sC4) ∧
  CopyP ti5 sA3 (Int.toNat (sL2 : Int)) (.slice sA4 sL4 sC4) h2 fun n2 h3 =>
  onSome b1 fun p4 =>
  Put (Addr.add p4 1) (.slice sA3 (Int.toNat (sL2 : Int)) sC3) h3 fun h4 =>
  K (.tuple #[]) h4
def strings_Builder_grow.lo : Nat → List Nat × List (Nat × Ty) := fun n => match n with | _ => ([], [])
def strings_Builder_grow.od : Nat → Od := fun n => match n with | 0 => (.op 0 [] (.op 1 [] (.op 2 [] (.op 3 [] (.op 4 [] (.op 5 [] (.op 6 [] (.op 7 [] (.op 9 [] (.op 10 [] (.op 11 [] (.op 12 [] (.op 13 [] (.op 8 [12] (.op 14 [] (.op 15 [] .nil)))))))))))))))) | _ => .nil
theorem strings_Builder_grow.eq (b1 : Option Addr) (n1 : Int) (K : Value → Heap → Prop) (h : Heap) : fnX (cx strings_Builder_grow.lo strings_Builder_grow.od) Try.f88 (Try.f88.body.getD .skip) [.pointer b1, .int .i64 n1] K h = strings_Builder_grow b1 n1 K h := by kernel_rfl
theorem strings_Builder_grow.chk : fnOk (cx strings_Builder_grow.lo strings_Builder_grow.od) Try.f88 (Try.f88.body.getD .skip) 2 = true := by kernel_rfl
theorem strings_Builder_grow.ok {b1 : Option Addr} {n1 : Int} {K : Value → Heap → Prop} {h : Heap} (hx : strings_Builder_grow b1 n1 K h) : C.strings_Builder_grow b1 n1 h K :=
  fn_to (cxOk _ _) Try.func88 (by kernel_rfl) strings_Builder_grow.chk (by rw [strings_Builder_grow.eq]; exact hx)

-- 90
def unicode_utf8_ValidRune (r1 : Int) (K : Value → Heap → Prop) (h1 : Heap) : Prop :=
  bif (decide ((0 : Int) ≤ r1)) then (
  bif (decide (r1 < 55296)) then (
  K (.bool true) h1) else (
  bif (decide ((57343 : Int) < r1)) then (
  bif (decide (r1 ≤ 1114111)) then (
  K (.bool true) h1) else (
  K (.bool false) h1)) else (
  K (.bool false) h1))) else (
  bif (decide ((57343 : Int) < r1)) then (
  bif (decide (r1 ≤ 1114111)) then (
  K (.bool true) h1) else (
  K (.bool false) h1)) else (
  K (.bool false) h1))
def unicode_utf8_ValidRune.lo : Nat → List Nat × List (Nat × Ty) := fun n => match n with | _ => ([], [])
def unicode_utf8_ValidRune.od : Nat → Od := fun n => match n with | _ => .nil
theorem unicode_utf8_ValidRune.eq (r1 : Int) (K : Value → Heap → Prop) (h : Heap) : fnX (cx unicode_utf8_ValidRune.lo unicode_utf8_ValidRune.od) Try.f90 (Try.f90.body.getD .skip) [.int .i32 r1] K h = unicode_utf8_ValidRune r1 K h := by kernel_rfl
theorem unicode_utf8_ValidRune.chk : fnOk (cx unicode_utf8_ValidRune.lo unicode_utf8_ValidRune.od) Try.f90 (Try.f90.body.getD .skip) 1 = true := by kernel_rfl
theorem unicode_utf8_ValidRune.ok {r1 : Int} {K : Value → Heap → Prop} {h : Heap} (hx : unicode_utf8_ValidRune r1 K h) : C.unicode_utf8_ValidRune r1 h K :=
  fn_to (cxOk _ _) Try.func90 (by kernel_rfl) unicode_utf8_ValidRune.chk (by rw [unicode_utf8_ValidRune.eq]; exact hx)

-- 91
def internal_bytealg_Cutover (n1 : Int) (K : Value → Heap → Prop) (h1 : Heap) : Prop :=
  K (.int .i64 (IntKind.wrap .i64 (Int.tdiv (IntKind.wrap .i64 (n1 + 16)) 8))) h1
def internal_bytealg_Cutover.lo : Nat → List Nat × List (Nat × Ty) := fun n => match n with | _ => ([], [])
def internal_bytealg_Cutover.od : Nat → Od := fun n => match n with | _ => .nil
theorem internal_bytealg_Cutover.eq (n1 : Int) (K : Value → Heap → Prop) (h : Heap) : fnX (cx internal_bytealg_Cutover.lo internal_bytealg_Cutover.od) Try.f91 (Try.f91.body.getD .skip) [.int .i64 n1] K h = internal_bytealg_Cutover n1 K h := by kernel_rfl
theorem internal_bytealg_Cutover.chk : fnOk (cx internal_bytealg_Cutover.lo internal_bytealg_Cutover.od) Try.f91 (Try.f91.body.getD .skip) 1 = true := by kernel_rfl
theorem internal_bytealg_Cutover.ok {n1 : Int} {K : Value → Heap → Prop} {h : Heap} (hx : internal_bytealg_Cutover n1 K h) : C.internal_bytealg_Cutover n1 h K :=
  fn_to (cxOk _ _) Try.func91 (by kernel_rfl) internal_bytealg_Cutover.chk (by rw [internal_bytealg_Cutover.eq]; exact hx)
end Go.Proofs.Ytgpkcakanieodaa.W
