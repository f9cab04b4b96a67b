/-
  WHAT THE FUNCTIONS COMPUTE, as formulas; each held against the loaded code by the kernel. Written by program (gen.py).
-/
import Derived.Test.YtgpkcakanieodaaTab
namespace Go.Proofs.Ytgpkcakanieodaa.W
open Go Go.Proofs Go.Proofs.Ytgpkcakanieodaa.Wx
-- 43
def space_each (t1 : Option Addr) (g1 : List Value) (do1 : Value) (K : Value → Heap → Prop) (h1 : Heap) : Prop :=
  New g1 30 h1 fun h2 =>
  ∃ (n1 : Int), cellOf h2 (Addr.add ⟨h1.size, 0, none⟩ 1) = some (.int .i64 n1) ∧
  ∃ (I1 : Int → Heap → Prop) (M1 : Int → Heap → Nat), I1 n1 h2 ∧
  ∀ (k1 : Int), ∀ h3 : Heap, I1 k1 h3 →
  ∃ (n2 : Int), cellOf h3 (Addr.add ⟨h1.size, 0, none⟩ 2) = some (.int .i64 n2) ∧
  bif (decide (k1 < n2)) then (
  C.txn_Txn_Read t1 k1 h3 fun r1 h4 =>
  ∃ (sA1 : Option Addr) (sL1 : Nat) (sC1 : Nat) (n3 : Int), r1 = .tuple #[.slice sA1 sL1 sC1, .int .i64 n3] ∧
  bif (n3 != 0) then (
  K (.int .i64 n3) h4) else (
  ∃ (n4 : Int), cellOf h4 (Addr.add ⟨h1.size, 0, none⟩ 1) = some (.int .i64 n4) ∧
  HCallsV Try.prog do1 [.int .i64 (IntKind.wrap .i64 (4096 * (IntKind.wrap .i64 (k1 - n4)))), .slice sA1 sL1 sC1] h4 fun r2 h5 =>
  ∃ (b1 : Bool), r2 = .bool b1 ∧
  bif (!b1) then (
  K (.int .i64 0) h5) else (
  I1 (IntKind.wrap .i64 (k1 + 1)) h5 ∧ M1 (IntKind.wrap .i64 (k1 + 1)) h5 < M1 k1 h3))) else (
  K (.int .i64 0) h3)
def space_each.lo : Nat → List Nat × List (Nat × Ty) := fun n => match n with | 2 => ([0, 2, 4], [(7, .int .i64)]) | _ => ([], [])
def space_each.od : Nat → Od := fun n => match n with | _ => .nil
theorem space_each.eq (t1 : Option Addr) (g1 : List Value) (do1 : Value) (K : Value → Heap → Prop) (h : Heap) : fnX (cx space_each.lo space_each.od) Try.f43 (Try.f43.body.getD .skip) [.pointer t1, .agg ⟨g1⟩, do1] K h = space_each t1 g1 do1 K h := by kernel_rfl
theorem space_each.chk : fnOk (cx space_each.lo space_each.od) Try.f43 (Try.f43.body.getD .skip) 3 = true := by kernel_rfl
theorem space_each.ok {t1 : Option Addr} {g1 : List Value} {do1 : Value} {K : Value → Heap → Prop} {h : Heap} (hx : space_each t1 g1 do1 K h) : C.space_each t1 g1 do1 h K :=
  fn_to (cxOk _ _) Try.func43 (by kernel_rfl) space_each.chk (by rw [space_each.eq]; exact hx)

-- 44
def space_Take_c1 (first1 : Int) (bA1 : Option Addr) (bL1 : Nat) (bC1 : Nat) (cap1 : Option Addr) (cap2 : Option Addr) (K : Value → Heap → Prop) (h1 : Heap) : Prop :=
  onSome cap1 fun p1 =>
  ∃ cs1 : List Value, List.length cs1 = 5 ∧ Cells h1 p1 cs1 ∧
  C.space_rows cs1 first1 bA1 bL1 bC1 (Value.func (.func 46) #[] ⟨[.pointer cap2]⟩) h1 fun r1 h2 =>
  r1 = .tuple #[] ∧
  onSome cap2 fun p2 =>
  ∃ (n1 : Int), cellOf h2 p2 = some (.int .i64 n1) ∧
  K (.bool (n1 == 0)) h2
def space_Take_c1.lo : Nat → List Nat × List (Nat × Ty) := fun n => match n with | _ => ([], [])
def space_Take_c1.od : Nat → Od := fun n => match n with | _ => .nil
theorem space_Take_c1.eq (first1 : Int) (bA1 : Option Addr) (bL1 : Nat) (bC1 : Nat) (cap1 : Option Addr) (cap2 : Option Addr) (K : Value → Heap → Prop) (h : Heap) : fnX (cx space_Take_c1.lo space_Take_c1.od) Try.f44 (Try.f44.body.getD .skip) [.int .i64 first1, .slice bA1 bL1 bC1, .pointer cap1, .pointer cap2] K h = space_Take_c1 first1 bA1 bL1 bC1 cap1 cap2 K h := by kernel_rfl
theorem space_Take_c1.chk : fnOk (cx space_Take_c1.lo space_Take_c1.od) Try.f44 (Try.f44.body.getD .skip) 4 = true := by kernel_rfl
theorem space_Take_c1.ok {first1 : Int} {bA1 : Option Addr} {bL1 : Nat} {bC1 : Nat} {cap1 : Option Addr} {cap2 : Option Addr} {K : Value → Heap → Prop} {h : Heap} (hx : space_Take_c1 first1 bA1 bL1 bC1 cap1 cap2 K h) : C.space_Take_c1 first1 bA1 bL1 bC1 cap1 cap2 h K :=
  fn_to (cxOk _ _) Try.func44 (by kernel_rfl) space_Take_c1.chk (by rw [space_Take_c1.eq]; exact hx)

-- 45
def space_rows (g1 : List Value) (first1 : Int) (bA1 : Option Addr) (bL1 : Nat) (bC1 : Nat) (do1 : Value) (K : Value → Heap → Prop) (h1 : Heap) : Prop :=
  New g1 30 h1 fun h2 =>
  New [.int .i64 first1] 3 h2 fun h3 =>
  New (cellsL do1) 84 h3 fun h4 =>
  C.bits_Runs bA1 bL1 bC1 h4 fun r1 h5 =>
  ∃ (v1 : Value), r1 = v1 ∧
  ∀ (R1 : Loop),
  (∀ (n1 : Int) (n2 : Int), ∀ (h6 : Heap) (k1 : Value → Heap → Prop), LoopOn h6 (h5.size + 1) R1 .ready none →
  (
  LoopOn h6 (h5.size + 1) R1 .ready none ∧
  SetL h6 (h5.size + 1) R1 .busy none fun h7 =>
  ∃ (n3 : Int), cellOf h7 ⟨h2.size, 0, none⟩ = some (.int .i64 n3) ∧
  ∃ (n4 : Int), cellOf h7 (Addr.add ⟨h1.size, 0, none⟩ 3) = some (.int .i64 n4) ∧
  ∃ (n5 : Int), cellOf h7 ⟨h2.size, 0, none⟩ = some (.int .i64 n5) ∧
  ∃ (n6 : Int), cellOf h7 (Addr.add ⟨h1.size, 0, none⟩ 0) = some (.int .i64 n6) ∧
  bif (decide ((if n4 > (IntKind.wrap .i64 (n3 + n1)) then n4 else (IntKind.wrap .i64 (n3 + n1))) < (if n6 < (IntKind.wrap .i64 ((IntKind.wrap .i64 (n5 + n1)) + n2)) then n6 else (IntKind.wrap .i64 ((IntKind.wrap .i64 (n5 + n1)) + n2))))) then (
  ∃ (v2 : Value), cellOf h7 ⟨h3.size, 0, none⟩ = some (v2) ∧
  HCallsV Try.prog v2 [.int .i64 (if n4 > (IntKind.wrap .i64 (n3 + n1)) then n4 else (IntKind.wrap .i64 (n3 + n1))), .int .i64 (if n6 < (IntKind.wrap .i64 ((IntKind.wrap .i64 (n5 + n1)) + n2)) then n6 else (IntKind.wrap .i64 ((IntKind.wrap .i64 (n5 + n1)) + n2)))] h7 fun r2 h8 =>
  ∃ (b1 : Bool), r2 = .bool b1 ∧
  bif (!b1) then (
  LoopOn h8 (h5.size + 1) R1 .busy none ∧
  k1 (.bool false) (setLoop h8 (h5.size + 1) R1 .done (some .ret))) else (
  LoopOn h8 (h5.size + 1) R1 .busy none ∧
  k1 (.bool true) (setLoop h8 (h5.size + 1) R1 .ready none))) else (
  LoopOn h7 (h5.size + 1) R1 .busy none ∧
  k1 (.bool true) (setLoop h7 (h5.size + 1) R1 .ready none))) →
  YCalls Try.prog (h5.size + 1) [.int .i64 n1, .int .i64 n2] h6 k1) →
  HCallsF Try.prog v1 [.func (.yield (h5.size + 1)) #[] #[]] (beginL h5 R1) fun _ h9 =>
  ∃ (st1 : LoopState) (pend1 : Option Code), LoopOn h9 (h5.size + 1) R1 st1 pend1 ∧ st1 ≠ .busy ∧
  pendX pend1 (
  SetL h9 (h5.size + 1) R1 .exhausted pend1 fun h10 =>
  EndD h5.size h10 fun h11 =>
  K (.tuple #[]) h11) (
  SetL h9 (h5.size + 1) R1 .exhausted pend1 fun h12 =>
  EndD h5.size h12 fun h13 =>
  K (.tuple #[]) h13) (fun _ => False)
def space_rows.lo : Nat → List Nat × List (Nat × Ty) := fun n => match n with | 1000002 => ([], [(14, .int .i64), (15, .int .i64)]) | _ => ([], [])
def space_rows.od : Nat → Od := fun n => match n with | 4 => (.op 0 [] (.op 1 [] (.op 2 [] (.op 3 [] (.op 4 [] (.op 5 [] (.op 6 [] (.op 7 [] (.op 8 [] (.op 9 [] (.op 10 [] (.op 11 [] (.op 12 [] (.op 13 [] (.op 14 [] (.op 15 [] .nil)))))))))))))))) | _ => .nil
theorem space_rows.eq (g1 : List Value) (first1 : Int) (bA1 : Option Addr) (bL1 : Nat) (bC1 : Nat) (do1 : Value) (K : Value → Heap → Prop) (h : Heap) : fnX (cx space_rows.lo space_rows.od) Try.f45 (Try.f45.body.getD .skip) [.agg ⟨g1⟩, .int .i64 first1, .slice bA1 bL1 bC1, do1] K h = space_rows g1 first1 bA1 bL1 bC1 do1 K h := by kernel_rfl
theorem space_rows.chk : fnOk (cx space_rows.lo space_rows.od) Try.f45 (Try.f45.body.getD .skip) 4 = true := by kernel_rfl
theorem space_rows.ok {g1 : List Value} {first1 : Int} {bA1 : Option Addr} {bL1 : Nat} {bC1 : Nat} {do1 : Value} {K : Value → Heap → Prop} {h : Heap} (hx : space_rows g1 first1 bA1 bL1 bC1 do1 K h) : C.space_rows g1 first1 bA1 bL1 bC1 do1 h K :=
  fn_to (cxOk _ _) Try.func45 (by kernel_rfl) space_rows.chk (by rw [space_rows.eq]; exact hx)

-- 46
def space_Take_c1_c1 (from1 : Int) (x1 : Int) (cap1 : Option Addr) (K : Value → Heap → Prop) (h1 : Heap) : Prop :=
  onSome cap1 fun p1 =>
  Put p1 (.int .i64 from1) h1 fun h2 =>
  K (.bool false) h2
def space_Take_c1_c1.lo : Nat → List Nat × List (Nat × Ty) := fun n => match n with | _ => ([], [])
def space_Take_c1_c1.od : Nat → Od := fun n => match n with | _ => .nil
theorem space_Take_c1_c1.eq (from1 : Int) (x1 : Int) (cap1 : Option Addr) (K : Value → Heap → Prop) (h : Heap) : fnX (cx space_Take_c1_c1.lo space_Take_c1_c1.od) Try.f46 (Try.f46.body.getD .skip) [.int .i64 from1, .int .i64 x1, .pointer cap1] K h = space_Take_c1_c1 from1 x1 cap1 K h := by kernel_rfl
theorem space_Take_c1_c1.chk : fnOk (cx space_Take_c1_c1.lo space_Take_c1_c1.od) Try.f46 (Try.f46.body.getD .skip) 3 = true := by kernel_rfl
theorem space_Take_c1_c1.ok {from1 : Int} {x1 : Int} {cap1 : Option Addr} {K : Value → Heap → Prop} {h : Heap} (hx : space_Take_c1_c1 from1 x1 cap1 K h) : C.space_Take_c1_c1 from1 x1 cap1 h K :=
  fn_to (cxOk _ _) Try.func46 (by kernel_rfl) space_Take_c1_c1.chk (by rw [space_Take_c1_c1.eq]; exact hx)

-- 47
def txn_Txn_Mark (t1 : Option Addr) (K : Value → Heap → Prop) (h1 : Heap) : Prop :=
  onSome t1 fun p1 =>
  ∃ (b1 : Bool), cellOf h1 (Addr.add p1 3) = some (.bool b1) ∧
  bif b1 then (
  K (.tuple #[.int .i64 0, .int .i64 61]) h1) else (
  onSome t1 fun p2 =>
  ∃ (sA1 : Option Addr) (sL1 : Nat) (sC1 : Nat), cellOf h1 (Addr.add p2 2) = some (.slice sA1 sL1 sC1) ∧
  K (.tuple #[.int .i64 (sL1 : Int), .int .i64 0]) h1)
def txn_Txn_Mark.lo : Nat → List Nat × List (Nat × Ty) := fun n => match n with | _ => ([], [])
def txn_Txn_Mark.od : Nat → Od := fun n => match n with | _ => .nil
theorem txn_Txn_Mark.eq (t1 : Option Addr) (K : Value → Heap → Prop) (h : Heap) : fnX (cx txn_Txn_Mark.lo txn_Txn_Mark.od) Try.f47 (Try.f47.body.getD .skip) [.pointer t1] K h = txn_Txn_Mark t1 K h := by kernel_rfl
theorem txn_Txn_Mark.chk : fnOk (cx txn_Txn_Mark.lo txn_Txn_Mark.od) Try.f47 (Try.f47.body.getD .skip) 1 = true := by kernel_rfl
theorem txn_Txn_Mark.ok {t1 : Option Addr} {K : Value → Heap → Prop} {h : Heap} (hx : txn_Txn_Mark t1 K h) : C.txn_Txn_Mark t1 h K :=
  fn_to (cxOk _ _) Try.func47 (by kernel_rfl) txn_Txn_Mark.chk (by rw [txn_Txn_Mark.eq]; exact hx)

-- 48
def space_Take_c2 (cap1 : Option Addr) (cap2 : Option Addr) (cap3 : Option Addr) (K : Value → Heap → Prop) (h1 : Heap) : Prop :=
  onSome cap1 fun p1 =>
  ∃ (q1 : Option Addr), cellOf h1 p1 = some (.pointer q1) ∧
  onSome cap2 fun p2 =>
  ∃ (n1 : Int), cellOf h1 p2 = some (.int .i64 n1) ∧
  C.space_back q1 n1 cap3 h1 fun r1 h2 =>
  r1 = .tuple #[] ∧
  K (.tuple #[]) h2
def space_Take_c2.lo : Nat → List Nat × List (Nat × Ty) := fun n => match n with | _ => ([], [])
def space_Take_c2.od : Nat → Od := fun n => match n with | _ => .nil
theorem space_Take_c2.eq (cap1 : Option Addr) (cap2 : Option Addr) (cap3 : Option Addr) (K : Value → Heap → Prop) (h : Heap) : fnX (cx space_Take_c2.lo space_Take_c2.od) Try.f48 (Try.f48.body.getD .skip) [.pointer cap1, .pointer cap2, .pointer cap3] K h = space_Take_c2 cap1 cap2 cap3 K h := by kernel_rfl
theorem space_Take_c2.chk : fnOk (cx space_Take_c2.lo space_Take_c2.od) Try.f48 (Try.f48.body.getD .skip) 3 = true := by kernel_rfl
theorem space_Take_c2.ok {cap1 : Option Addr} {cap2 : Option Addr} {cap3 : Option Addr} {K : Value → Heap → Prop} {h : Heap} (hx : space_Take_c2 cap1 cap2 cap3 K h) : C.space_Take_c2 cap1 cap2 cap3 h K :=
  fn_to (cxOk _ _) Try.func48 (by kernel_rfl) space_Take_c2.chk (by rw [space_Take_c2.eq]; exact hx)
theorem space_Take_c2.chkD : fnOkD (cx space_Take_c2.lo space_Take_c2.od) Try.f48 (Try.f48.body.getD .skip) 3 = true := by kernel_rfl
theorem space_Take_c2.okD {cap1 : Option Addr} {cap2 : Option Addr} {cap3 : Option Addr} {K : Heap → Prop} {h : Heap} (hx : space_Take_c2 cap1 cap2 cap3 (fun _ h' => K h') h) : D.space_Take_c2 cap1 cap2 cap3 h K :=
  fnD_to (cxOk _ _) Try.func48 (by kernel_rfl) space_Take_c2.chkD (by rw [space_Take_c2.eq]; exact hx)

-- 49
def space_back (t1 : Option Addr) (mark1 : Int) (e1 : Option Addr) (K : Value → Heap → Prop) (h1 : Heap) : Prop :=
  onSome e1 fun p1 =>
  ∃ (n1 : Int), cellOf h1 p1 = some (.int .i64 n1) ∧
  bif (n1 != 0) then (
  C.txn_Txn_Back t1 mark1 h1 fun r1 h2 =>
  ∃ (n2 : Int), r1 = .int .i64 n2 ∧
  K (.tuple #[]) h2) else (
  K (.tuple #[]) h1)
def space_back.lo : Nat → List Nat × List (Nat × Ty) := fun n => match n with | _ => ([], [])
def space_back.od : Nat → Od := fun n => match n with | _ => .nil
theorem space_back.eq (t1 : Option Addr) (mark1 : Int) (e1 : Option Addr) (K : Value → Heap → Prop) (h : Heap) : fnX (cx space_back.lo space_back.od) Try.f49 (Try.f49.body.getD .skip) [.pointer t1, .int .i64 mark1, .pointer e1] K h = space_back t1 mark1 e1 K h := by kernel_rfl
theorem space_back.chk : fnOk (cx space_back.lo space_back.od) Try.f49 (Try.f49.body.getD .skip) 3 = true := by kernel_rfl
theorem space_back.ok {t1 : Option Addr} {mark1 : Int} {e1 : Option Addr} {K : Value → Heap → Prop} {h : Heap} (hx : space_back t1 mark1 e1 K h) : C.space_back t1 mark1 e1 h K :=
  fn_to (cxOk _ _) Try.func49 (by kernel_rfl) space_back.chk (by rw [space_back.eq]; exact hx)

-- 50
def txn_Txn_Write.k1 (bA1 : Option Addr) (bL1 : Nat) (bC1 : Nat) (h1 : Heap) (h2 : Heap) (was1 : Option Addr) (ok1 : Option Addr) (h8 : Heap) (K : Value → Heap → Prop) : Prop :=
  ∃ (q2 : Option Addr), cellOf h8 ⟨h1.size, 0, none⟩ = some (.pointer q2) ∧
  onSome q2 fun p2 =>
  ∃ (b1 : Bool), cellOf h8 (Addr.add p2 3) = some (.bool b1) ∧
  bif b1 then (
  K (.int .i64 61) h8) else (
  ∃ (n2 : Int), cellOf h8 ⟨h2.size, 0, none⟩ = some (.int .i64 n2) ∧
  bif (decide (n2 < 98)) then (
  K (.int .i64 31) h8) else (
  ∃ (n3 : Int), cellOf h8 ⟨h2.size, 0, none⟩ = some (.int .i64 n3) ∧
  ∃ (q3 : Option Addr), cellOf h8 ⟨h1.size, 0, none⟩ = some (.pointer q3) ∧
  onSome q3 fun p3 =>
  ∃ (q4 : Option Addr), cellOf h8 (Addr.add p3 0) = some (.pointer q4) ∧
  C.adisk_Disk_Blocks q4 h8 fun r1 h9 =>
  ∃ (n4 : Int), r1 = .int .i64 n4 ∧
  (cellOf h9 ⟨h2.size, 0, none⟩ = some (.int .i64 n3)) ∧
  bif (decide (n3 ≥ n4)) then (
  K (.int .i64 31) h9) else (
  bif ((bL1 : Int) != 512) then (
  K (.int .i64 32) h9) else (
  onSome ok1 fun p4 =>
  ∃ (b2 : Bool), cellOf h9 p4 = some (.bool b2) ∧
  bif (!b2) then (
  ∃ (q5 : Option Addr), cellOf h9 ⟨h1.size, 0, none⟩ = some (.pointer q5) ∧
  onSome q5 fun p5 =>
  ∃ (m2 : Option Nat), cellOf h9 (Addr.add p5 1) = some (.map m2) ∧
  MapIn (.int .i64) m2 h9 fun mm2 =>
  bif (decide ((List.length mm2 : Int) ≥ 96)) then (
  K (.int .i64 60) h9) else (
  ∃ (q6 : Option Addr), cellOf h9 ⟨h1.size, 0, none⟩ = some (.pointer q6) ∧
  ∃ (q7 : Option Addr), cellOf h9 ⟨h1.size, 0, none⟩ = some (.pointer q7) ∧
  onSome q7 fun p6 =>
  ∃ (sA2 : Option Addr) (sL2 : Nat) (sC2 : Nat), cellOf h9 (Addr.add p6 2) = some (.slice sA2 sL2 sC2) ∧
  New [.func (.func 69) #[] ⟨[.pointer ok1, .pointer was1, .pointer (some ⟨h1.size, 0, none⟩), .pointer (some ⟨h2.size, 0, none⟩)]⟩] 1 h9 fun h10 =>
  (cellOf h10 ⟨h1.size, 0, none⟩ = some (.pointer q6)) ∧
  (cellOf h10 ⟨h1.size, 0, none⟩ = some (.pointer q7)) ∧
  (cellOf h10 (Addr.add p6 2) = some (.slice sA2 sL2 sC2)) ∧
  ∃ new1 : List Value, List.length new1 = 1 * 1 ∧ SlCells h10 (some ⟨h9.size, 0, none⟩) new1 ∧ (∀ v ∈ new1, v.oneCell' = true) ∧
  AppendP ti1 1 sA2 sL2 sC2 1 new1 h10 fun sA3 sL3 sC3 h11 =>
  (cellOf h11 ⟨h1.size, 0, none⟩ = some (.pointer q6)) ∧
  onSome q6 fun p7 =>
  Put (Addr.add p7 2) (.slice sA3 sL3 sC3) h11 fun h12 =>
  ∃ (q8 : Option Addr), cellOf h12 ⟨h1.size, 0, none⟩ = some (.pointer q8) ∧
  onSome q8 fun p8 =>
  ∃ (m3 : Option Nat), cellOf h12 (Addr.add p8 1) = some (.map m3) ∧
  ∃ (n5 : Int), cellOf h12 ⟨h2.size, 0, none⟩ = some (.int .i64 n5) ∧
  C.slices_Clone_byte_byte bA1 bL1 bC1 h12 fun r2 h13 =>
  ∃ (sA4 : Option Addr) (sL4 : Nat) (sC4 : Nat), r2 = .slice sA4 sL4 sC4 ∧
  (cellOf h13 ⟨h1.size, 0, none⟩ = some (.pointer q8)) ∧
  (cellOf h13 (Addr.add p8 1) = some (.map m3)) ∧
  (cellOf h13 ⟨h2.size, 0, none⟩ = some (.int .i64 n5)) ∧
  onSome m3 fun r3 =>
  MapPut (.int .i64) r3 (.i n5) (.slice sA4 sL4 sC4) h13 fun h14 =>
  K (.int .i64 0) h14)) else (
  ∃ (q9 : Option Addr), cellOf h9 ⟨h1.size, 0, none⟩ = some (.pointer q9) ∧
  ∃ (q10 : Option Addr), cellOf h9 ⟨h1.size, 0, none⟩ = some (.pointer q10) ∧
  onSome q10 fun p9 =>
  ∃ (sA5 : Option Addr) (sL5 : Nat) (sC5 : Nat), cellOf h9 (Addr.add p9 2) = some (.slice sA5 sL5 sC5) ∧
  New [.func (.func 69) #[] ⟨[.pointer ok1, .pointer was1, .pointer (some ⟨h1.size, 0, none⟩), .pointer (some ⟨h2.size, 0, none⟩)]⟩] 1 h9 fun h15 =>
  (cellOf h15 ⟨h1.size, 0, none⟩ = some (.pointer q9)) ∧
  (cellOf h15 ⟨h1.size, 0, none⟩ = some (.pointer q10)) ∧
  (cellOf h15 (Addr.add p9 2) = some (.slice sA5 sL5 sC5)) ∧
  ∃ new2 : List Value, List.length new2 = 1 * 1 ∧ SlCells h15 (some ⟨h9.size, 0, none⟩) new2 ∧ (∀ v ∈ new2, v.oneCell' = true) ∧
  AppendP ti1 1 sA5 sL5 sC5 1 new2 h15 fun sA6 sL6 sC6 h16 =>
  (cellOf h16 ⟨h1.size, 0, none⟩ = some (.pointer q9)) ∧
  onSome q9 fun p10 =>
  Put (Addr.add p10 2) (.slice sA6 sL6 sC6) h16 fun h17 =>
  ∃ (q11 : Option Addr), cellOf h17 ⟨h1.size, 0, none⟩ = some (.pointer q11) ∧
  onSome q11 fun p11 =>
  ∃ (m4 : Option Nat), cellOf h17 (Addr.add p11 1) = some (.map m4) ∧
  ∃ (n6 : Int), cellOf h17 ⟨h2.size, 0, none⟩ = some (.int .i64 n6) ∧
  C.slices_Clone_byte_byte bA1 bL1 bC1 h17 fun r4 h18 =>
  ∃ (sA7 : Option Addr) (sL7 : Nat) (sC7 : Nat), r4 = .slice sA7 sL7 sC7 ∧
  (cellOf h18 ⟨h1.size, 0, none⟩ = some (.pointer q11)) ∧
  (cellOf h18 (Addr.add p11 1) = some (.map m4)) ∧
  (cellOf h18 ⟨h2.size, 0, none⟩ = some (.int .i64 n6)) ∧
  onSome m4 fun r5 =>
  MapPut (.int .i64) r5 (.i n6) (.slice sA7 sL7 sC7) h18 fun h19 =>
  K (.int .i64 0) h19)))))
def txn_Txn_Write (t1 : Option Addr) (i1 : Int) (bA1 : Option Addr) (bL1 : Nat) (bC1 : Nat) (K : Value → Heap → Prop) (h1 : Heap) : Prop :=
  New [.pointer t1] 28 h1 fun h2 =>
  New [.int .i64 i1] 3 h2 fun h3 =>
  ∃ (q1 : Option Addr), cellOf h3 ⟨h1.size, 0, none⟩ = some (.pointer q1) ∧
  onSome q1 fun p1 =>
  ∃ (m1 : Option Nat), cellOf h3 (Addr.add p1 1) = some (.map m1) ∧
  ∃ (n1 : Int), cellOf h3 ⟨h2.size, 0, none⟩ = some (.int .i64 n1) ∧
  (
  MapIn (.int .i64) m1 h3 fun mm1 =>
  ∃ (sA1 : Option Addr) (sL1 : Nat) (sC1 : Nat), Option.getD (mget mm1 (.i n1)) (zeroV ti24) = .slice sA1 sL1 sC1 ∧
  (
  New z24 24 h3 fun h4 =>
  (cellOf h4 ⟨h1.size, 0, none⟩ = some (.pointer q1)) ∧
  (cellOf h4 (Addr.add p1 1) = some (.map m1)) ∧
  (cellOf h4 ⟨h2.size, 0, none⟩ = some (.int .i64 n1)) ∧
  New z4 4 h4 fun h5 =>
  (cellOf h5 ⟨h1.size, 0, none⟩ = some (.pointer q1)) ∧
  (cellOf h5 (Addr.add p1 1) = some (.map m1)) ∧
  (cellOf h5 ⟨h2.size, 0, none⟩ = some (.int .i64 n1)) ∧
  Put ⟨h3.size, 0, none⟩ (.slice sA1 sL1 sC1) h5 fun h6 =>
  Put ⟨h4.size, 0, none⟩ (.bool (Option.isSome (mget mm1 (.i n1)))) h6 fun h7 =>
  txn_Txn_Write.k1 bA1 bL1 bC1 h1 h2 (some ⟨h3.size, 0, none⟩) (some ⟨h4.size, 0, none⟩) h7 K) ∧
  New z4 4 h3 fun h20 =>
  (cellOf h20 ⟨h1.size, 0, none⟩ = some (.pointer q1)) ∧
  (cellOf h20 (Addr.add p1 1) = some (.map m1)) ∧
  (cellOf h20 ⟨h2.size, 0, none⟩ = some (.int .i64 n1)) ∧
  New z24 24 h20 fun h21 =>
  (cellOf h21 ⟨h1.size, 0, none⟩ = some (.pointer q1)) ∧
  (cellOf h21 (Addr.add p1 1) = some (.map m1)) ∧
  (cellOf h21 ⟨h2.size, 0, none⟩ = some (.int .i64 n1)) ∧
  Put ⟨h20.size, 0, none⟩ (.slice sA1 sL1 sC1) h21 fun h22 =>
  Put ⟨h3.size, 0, none⟩ (.bool (Option.isSome (mget mm1 (.i n1)))) h22 fun h23 =>
  txn_Txn_Write.k1 bA1 bL1 bC1 h1 h2 (some ⟨h20.size, 0, none⟩) (some ⟨h3.size, 0, none⟩) h23 K) ∧
  (
  New z24 24 h3 fun h24 =>
  (cellOf h24 ⟨h1.size, 0, none⟩ = some (.pointer q1)) ∧
  (cellOf h24 (Addr.add p1 1) = some (.map m1)) ∧
  (cellOf h24 ⟨h2.size, 0, none⟩ = some (.int .i64 n1)) ∧
  (
  MapIn (.int .i64) m1 h24 fun mm3 =>
  ∃ (sA8 : Option Addr) (sL8 : Nat) (sC8 : Nat), Option.getD (mget mm3 (.i n1)) (zeroV ti24) = .slice sA8 sL8 sC8 ∧
  New z4 4 h24 fun h25 =>
  (cellOf h25 ⟨h1.size, 0, none⟩ = some (.pointer q1)) ∧
  (cellOf h25 (Addr.add p1 1) = some (.map m1)) ∧
  (cellOf h25 ⟨h2.size, 0, none⟩ = some (.int .i64 n1)) ∧
  Put ⟨h3.size, 0, none⟩ (.slice sA8 sL8 sC8) h25 fun h26 =>
  Put ⟨h24.size, 0, none⟩ (.bool (Option.isSome (mget mm3 (.i n1)))) h26 fun h27 =>
  txn_Txn_Write.k1 bA1 bL1 bC1 h1 h2 (some ⟨h3.size, 0, none⟩) (some ⟨h24.size, 0, none⟩) h27 K) ∧
  New z4 4 h24 fun h28 =>
  (cellOf h28 ⟨h1.size, 0, none⟩ = some (.pointer q1)) ∧
  (cellOf h28 (Addr.add p1 1) = some (.map m1)) ∧
  (cellOf h28 ⟨h2.size, 0, none⟩ = some (.int .i64 n1)) ∧
  MapIn (.int .i64) m1 h28 fun mm4 =>
  ∃ (sA9 : Option Addr) (sL9 : Nat) (sC9 : Nat), Option.getD (mget mm4 (.i n1)) (zeroV ti24) = .slice sA9 sL9 sC9 ∧
  Put ⟨h3.size, 0, none⟩ (.slice sA9 sL9 sC9) h28 fun h29 =>
  Put ⟨h24.size, 0, none⟩ (.bool (Option.isSome (mget mm4 (.i n1)))) h29 fun h30 =>
  txn_Txn_Write.k1 bA1 bL1 bC1 h1 h2 (some ⟨h3.size, 0, none⟩) (some ⟨h24.size, 0, none⟩) h30 K) ∧
  New z4 4 h3 fun h31 =>
  (cellOf h31 ⟨h1.size, 0, none⟩ = some (.pointer q1)) ∧
  (cellOf h31 (Addr.add p1 1) = some (.map m1)) ∧
  (cellOf h31 ⟨h2.size, 0, none⟩ = some (.int .i64 n1)) ∧
  (
  MapIn (.int .i64) m1 h31 fun mm5 =>
  ∃ (sA10 : Option Addr) (sL10 : Nat) (sC10 : Nat), Option.getD (mget mm5 (.i n1)) (zeroV ti24) = .slice sA10 sL10 sC10 ∧
  New z24 24 h31 fun h32 =>
  (cellOf h32 ⟨h1.size, 0, none⟩ = some (.pointer q1)) ∧
  (cellOf h32 (Addr.add p1 1) = some (.map m1)) ∧
  (cellOf h32 ⟨h2.size, 0, none⟩ = some (.int .i64 n1)) ∧
  Put ⟨h31.size, 0, none⟩ (.slice sA10 sL10 sC10) h32 fun h33 =>
  Put ⟨h3.size, 0, none⟩ (.bool (Option.isSome (mget mm5 (.i n1)))) h33 fun h34 =>
  txn_Txn_Write.k1 bA1 bL1 bC1 h1 h2 (some ⟨h31.size, 0, none⟩) (some ⟨h3.size, 0, none⟩) h34 K) ∧
  New z24 24 h31 fun h35 =>
  (cellOf h35 ⟨h1.size, 0, none⟩ = some (.pointer q1)) ∧
  (cellOf h35 (Addr.add p1 1) = some (.map m1)) ∧
  (cellOf h35 ⟨h2.size, 0, none⟩ = some (.int .i64 n1)) ∧
  MapIn (.int .i64) m1 h35 fun mm6 =>
  ∃ (sA11 : Option Addr) (sL11 : Nat) (sC11 : Nat), Option.getD (mget mm6 (.i n1)) (zeroV ti24) = .slice sA11 sL11 sC11 ∧
  Put ⟨h31.size, 0, none⟩ (.slice sA11 sL11 sC11) h35 fun h36 =>
  Put ⟨h3.size, 0, none⟩ (.bool (Option.isSome (mget mm6 (.i n1)))) h36 fun h37 =>
  txn_Txn_Write.k1 bA1 bL1 bC1 h1 h2 (some ⟨h31.size, 0, none⟩) (some ⟨h3.size, 0, none⟩) h37 K
def txn_Txn_Write.lo : Nat → List Nat × List (Nat × Ty) := fun n => match n with | _ => ([], [])
set_option maxRecDepth 100000 in
def txn_Txn_Write.od : Nat → Od := fun n => match n with | 1 => (.op 0 [] (.op 1 [] (.op 2 [] (.op 3 [] (.op 4 [] (.alt 5 [] (.op 6 [] (.op 7 [] (.op 8 [] (.alt 9 [0, 3, 4] (.op 10 [0, 3, 4] (.op 11 [] (.op 12 [] .nil))) (.op 10 [0, 3, 4] (.op 9 [0, 3, 4] (.op 11 [] (.op 12 [] .nil)))))))) (.alt 9 [0, 3, 4] (.alt 5 [] (.op 6 [] (.op 7 [] (.op 8 [] (.op 10 [0, 3, 4] (.op 11 [] (.op 12 [] .nil)))))) (.op 10 [0, 3, 4] (.op 5 [] (.op 6 [] (.op 7 [] (.op 8 [] (.op 11 [] (.op 12 [] .nil)))))))) (.op 10 [0, 3, 4] (.alt 5 [] (.op 6 [] (.op 7 [] (.op 8 [] (.op 9 [0, 3, 4] (.op 11 [] (.op 12 [] .nil)))))) (.op 9 [0, 3, 4] (.op 5 [] (.op 6 [] (.op 7 [] (.op 8 [] (.op 11 [] (.op 12 [] .nil)))))))))))))))) | 4 => (.op 0 [] (.op 1 [] (.op 2 [] (.op 3 [] (.op 4 [] (.op 5 [] (.op 6 [] (.op 7 [] (.op 8 [3] (.op 9 [] (.op 10 [] (.op 11 [] .nil)))))))))))) | 10 => (.op 0 [] (.op 1 [] (.op 2 [] (.op 3 [] (.op 4 [] (.op 5 [] (.op 6 [0, 1, 4] (.op 7 [0] (.op 8 [] (.op 9 [] (.op 10 [] .nil))))))))))) | 11 => (.op 0 [] (.op 1 [] (.op 2 [] (.op 3 [] (.op 4 [] (.op 5 [] (.op 6 [0, 3, 4] (.op 7 [] .nil)))))))) | _ => .nil
set_option maxRecDepth 100000 in
theorem txn_Txn_Write.eq (t1 : Option Addr) (i1 : Int) (bA1 : Option Addr) (bL1 : Nat) (bC1 : Nat) (K : Value → Heap → Prop) (h : Heap) : fnX (cx txn_Txn_Write.lo txn_Txn_Write.od) Try.f50 (Try.f50.body.getD .skip) [.pointer t1, .int .i64 i1, .slice bA1 bL1 bC1] K h = txn_Txn_Write t1 i1 bA1 bL1 bC1 K h := by kernel_rfl
theorem txn_Txn_Write.chk : fnOk (cx txn_Txn_Write.lo txn_Txn_Write.od) Try.f50 (Try.f50.body.getD .skip) 3 = true := by kernel_rfl
set_option maxRecDepth 100000 in
theorem txn_Txn_Write.ok {t1 : Option Addr} {i1 : Int} {bA1 : Option Addr} {bL1 : Nat} {bC1 : Nat} {K : Value → Heap → Prop} {h : Heap} (hx : txn_Txn_Write t1 i1 bA1 bL1 bC1 K h) : C.txn_Txn_Write t1 i1 bA1 bL1 bC1 h K :=
  fn_to (cxOk _ _) Try.func50 (by kernel_rfl) txn_Txn_Write.chk (by rw [txn_Txn_Write.eq]; exact hx)

-- 51
def space_Free_c1 (first1 : Int) (bA1 : Option Addr) (bL1 : Nat) (bC1 : Nat) (cap1 : Option Addr) (cap2 : Option Addr) (K : Value → Heap → Prop) (h1 : Heap) : Prop :=
  onSome cap1 fun p1 =>
  ∃ cs1 : List Value, List.length cs1 = 5 ∧ Cells h1 p1 cs1 ∧
  C.space_rows cs1 first1 bA1 bL1 bC1 (Value.func (.func 52) #[] ⟨[.pointer cap2]⟩) h1 fun r1 h2 =>
  r1 = .tuple #[] ∧
  K (.bool true) h2
def space_Free_c1.lo : Nat → List Nat × List (Nat × Ty) := fun n => match n with | _ => ([], [])
def space_Free_c1.od : Nat → Od := fun n => match n with | _ => .nil
theorem space_Free_c1.eq (first1 : Int) (bA1 : Option Addr) (bL1 : Nat) (bC1 : Nat) (cap1 : Option Addr) (cap2 : Option Addr) (K : Value → Heap → Prop) (h : Heap) : fnX (cx space_Free_c1.lo space_Free_c1.od) Try.f51 (Try.f51.body.getD .skip) [.int .i64 first1, .slice bA1 bL1 bC1, .pointer cap1, .pointer cap2] K h = space_Free_c1 first1 bA1 bL1 bC1 cap1 cap2 K h := by kernel_rfl
theorem space_Free_c1.chk : fnOk (cx space_Free_c1.lo space_Free_c1.od) Try.f51 (Try.f51.body.getD .skip) 4 = true := by kernel_rfl
theorem space_Free_c1.ok {first1 : Int} {bA1 : Option Addr} {bL1 : Nat} {bC1 : Nat} {cap1 : Option Addr} {cap2 : Option Addr} {K : Value → Heap → Prop} {h : Heap} (hx : space_Free_c1 first1 bA1 bL1 bC1 cap1 cap2 K h) : C.space_Free_c1 first1 bA1 bL1 bC1 cap1 cap2 h K :=
  fn_to (cxOk _ _) Try.func51 (by kernel_rfl) space_Free_c1.chk (by rw [space_Free_c1.eq]; exact hx)

-- 52
def space_Free_c1_c1 (from1 : Int) (to1 : Int) (cap1 : Option Addr) (K : Value → Heap → Prop) (h1 : Heap) : Prop :=
  onSome cap1 fun p1 =>
  ∃ (n1 : Int), cellOf h1 p1 = some (.int .i64 n1) ∧
  onSome cap1 fun p2 =>
  Put p2 (.int .i64 (IntKind.wrap .i64 (n1 + (IntKind.wrap .i64 (to1 - from1))))) h1 fun h2 =>
  K (.bool true) h2
def space_Free_c1_c1.lo : Nat → List Nat × List (Nat × Ty) := fun n => match n with | _ => ([], [])
def space_Free_c1_c1.od : Nat → Od := fun n => match n with | _ => .nil
theorem space_Free_c1_c1.eq (from1 : Int) (to1 : Int) (cap1 : Option Addr) (K : Value → Heap → Prop) (h : Heap) : fnX (cx space_Free_c1_c1.lo space_Free_c1_c1.od) Try.f52 (Try.f52.body.getD .skip) [.int .i64 from1, .int .i64 to1, .pointer cap1] K h = space_Free_c1_c1 from1 to1 cap1 K h := by kernel_rfl
theorem space_Free_c1_c1.chk : fnOk (cx space_Free_c1_c1.lo space_Free_c1_c1.od) Try.f52 (Try.f52.body.getD .skip) 3 = true := by kernel_rfl
theorem space_Free_c1_c1.ok {from1 : Int} {to1 : Int} {cap1 : Option Addr} {K : Value → Heap → Prop} {h : Heap} (hx : space_Free_c1_c1 from1 to1 cap1 K h) : C.space_Free_c1_c1 from1 to1 cap1 h K :=
  fn_to (cxOk _ _) Try.func52 (by kernel_rfl) space_Free_c1_c1.chk (by rw [space_Free_c1_c1.eq]; exact hx)

-- 53
def path_wrong (s1 : ByteArray) (isPath1 : Bool) (K : Value → Heap → Prop) (h1 : Heap) : Prop :=
  bif (s1.toList == (mkStr []).toList) then (
  K (.bool true) h1) else (
  C.strings_IndexByte s1 0 h1 fun r1 h2 =>
  ∃ (n1 : Int), r1 = .int .i64 n1 ∧
  bif (decide (n1 ≥ 0)) then (
  K (.bool true) h2) else (
  bif isPath1 then (
  (0 ≤ (0 : Int) ∧ 0 < (s1.size : Int)) ∧
  ∃ b1 : UInt8, s1.toList[Int.toNat 0]? = some b1 ∧
  K (.bool (((UInt8.toNat b1 : Nat) : Int) != 47)) h2) else (
  K (.bool false) h2)))
def path_wrong.lo : Nat → List Nat × List (Nat × Ty) := fun n => match n with | _ => ([], [])
def path_wrong.od : Nat → Od := fun n => match n with | _ => .nil
theorem path_wrong.eq (s1 : ByteArray) (isPath1 : Bool) (K : Value → Heap → Prop) (h : Heap) : fnX (cx path_wrong.lo path_wrong.od) Try.f53 (Try.f53.body.getD .skip) [.string s1, .bool isPath1] K h = path_wrong s1 isPath1 K h := by kernel_rfl
theorem path_wrong.chk : fnOk (cx path_wrong.lo path_wrong.od) Try.f53 (Try.f53.body.getD .skip) 2 = true := by kernel_rfl
theorem path_wrong.ok {s1 : ByteArray} {isPath1 : Bool} {K : Value → Heap → Prop} {h : Heap} (hx : path_wrong s1 isPath1 K h) : C.path_wrong s1 isPath1 h K :=
  fn_to (cxOk _ _) Try.func53 (by kernel_rfl) path_wrong.chk (by rw [path_wrong.eq]; exact hx)

-- 54
def path_components (s1 : ByteArray) (most1 : Int) (K : Value → Heap → Prop) (h1 : Heap) : Prop :=
  New z42 42 h1 fun h2 =>
  New z34 34 h2 fun h3 =>
  bif (decide ((s1.size : Int) > most1)) then (
  Put ⟨h1.size, 0, none⟩ (.slice none 0 0) h3 fun h4 =>
  Put ⟨h2.size, 0, none⟩ (.int .i64 130) h4 fun h5 =>
  ∃ (resA1 : Option Addr) (resL1 : Nat) (resC1 : Nat), cellOf h5 ⟨h1.size, 0, none⟩ = some (.slice resA1 resL1 resC1) ∧
  ∃ (res1 : Int), cellOf h5 ⟨h2.size, 0, none⟩ = some (.int .i64 res1) ∧
  K (.tuple #[.slice resA1 resL1 resC1, .int .i64 res1]) h5) else (
  New z42 42 h3 fun h6 =>
  C.path_pieces s1 h6 fun r1 h7 =>
  ∃ (v1 : Value), r1 = v1 ∧
  ∀ (R1 : Loop),
  (∀ (s2 : ByteArray), ∀ (h8 : Heap) (k1 : Value → Heap → Prop), LoopOn h8 (h7.size + 1) R1 .ready none →
  (
  LoopOn h8 (h7.size + 1) R1 .ready none ∧
  SetL h8 (h7.size + 1) R1 .busy none fun h9 =>
  bif (s2.toList == (mkStr [46]).toList) then (
  LoopOn h9 (h7.size + 1) R1 .busy none ∧
  k1 (.bool true) (setLoop h9 (h7.size + 1) R1 .ready none)) else (
  bif (decide ((s2.size : Int) > 27)) then (
  Put ⟨h1.size, 0, none⟩ (.slice none 0 0) h9 fun h10 =>
  Put ⟨h2.size, 0, none⟩ (.int .i64 130) h10 fun h11 =>
  LoopOn h11 (h7.size + 1) R1 .busy none ∧
  k1 (.bool false) (setLoop h11 (h7.size + 1) R1 .done (some .ret))) else (
  ∃ (sA1 : Option Addr) (sL1 : Nat) (sC1 : Nat), cellOf h9 ⟨h3.size, 0, none⟩ = some (.slice sA1 sL1 sC1) ∧
  bif ((sL1 : Int) == 32) then (
  Put ⟨h1.size, 0, none⟩ (.slice none 0 0) h9 fun h12 =>
  Put ⟨h2.size, 0, none⟩ (.int .i64 130) h12 fun h13 =>
  LoopOn h13 (h7.size + 1) R1 .busy none ∧
  k1 (.bool false) (setLoop h13 (h7.size + 1) R1 .done (some .ret))) else (
  ∃ (sA2 : Option Addr) (sL2 : Nat) (sC2 : Nat), cellOf h9 ⟨h3.size, 0, none⟩ = some (.slice sA2 sL2 sC2) ∧
  New [.string s2] 9 h9 fun h14 =>
  ∃ new1 : List Value, List.length new1 = 1 * 1 ∧ SlCells h14 (some ⟨h9.size, 0, none⟩) new1 ∧ (∀ v ∈ new1, v.oneCell' = true) ∧
  AppendP ti9 9 sA2 sL2 sC2 1 new1 h14 fun sA3 sL3 sC3 h15 =>
  Put ⟨h3.size, 0, none⟩ (.slice sA3 sL3 sC3) h15 fun h16 =>
  LoopOn h16 (h7.size + 1) R1 .busy none ∧
  k1 (.bool true) (setLoop h16 (h7.size + 1) R1 .ready none))))) →
  YCalls Try.prog (h7.size + 1) [.string s2] h8 k1) →
  HCallsF Try.prog v1 [.func (.yield (h7.size + 1)) #[] #[]] (beginL h7 R1) fun _ h17 =>
  ∃ (st1 : LoopState) (pend1 : Option Code), LoopOn h17 (h7.size + 1) R1 st1 pend1 ∧ st1 ≠ .busy ∧
  pendX pend1 (
  SetL h17 (h7.size + 1) R1 .exhausted pend1 fun h18 =>
  ∃ (sA4 : Option Addr) (sL4 : Nat) (sC4 : Nat), cellOf h18 ⟨h3.size, 0, none⟩ = some (.slice sA4 sL4 sC4) ∧
  Put ⟨h1.size, 0, none⟩ (.slice sA4 sL4 sC4) h18 fun h19 =>
  Put ⟨h2.size, 0, none⟩ (.int .i64 0) h19 fun h20 =>
  EndD h7.size h20 fun h21 =>
  ∃ (resA2 : Option Addr) (resL2 : Nat) (resC2 : Nat), cellOf h21 ⟨h1.size, 0, none⟩ = some (.slice resA2 resL2 resC2) ∧
  ∃ (res2 : Int), cellOf h21 ⟨h2.size, 0, none⟩ = some (.int .i64 res2) ∧
  K (.tuple #[.slice resA2 resL2 resC2, .int .i64 res2]) h21) (
  SetL h17 (h7.size + 1) R1 .exhausted pend1 fun h22 =>
  EndD h7.size h22 fun h23 =>
  ∃ (resA3 : Option Addr) (resL3 : Nat) (resC3 : Nat), cellOf h23 ⟨h1.size, 0, none⟩ = some (.slice resA3 resL3 resC3) ∧
  ∃ (res3 : Int), cellOf h23 ⟨h2.size, 0, none⟩ = some (.int .i64 res3) ∧
  K (.tuple #[.slice resA3 resL3 resC3, .int .i64 res3]) h23) (fun _ => False))
def path_components.lo : Nat → List Nat × List (Nat × Ty) := fun n => match n with | 1000005 => ([], [(14, .str)]) | _ => ([], [])
def path_components.od : Nat → Od := fun n => match n with | _ => .nil
theorem path_components.eq (s1 : ByteArray) (most1 : Int) (K : Value → Heap → Prop) (h : Heap) : fnX (cx path_components.lo path_components.od) Try.f54 (Try.f54.body.getD .skip) [.string s1, .int .i64 most1] K h = path_components s1 most1 K h := by kernel_rfl
theorem path_components.chk : fnOk (cx path_components.lo path_components.od) Try.f54 (Try.f54.body.getD .skip) 2 = true := by kernel_rfl
theorem path_components.ok {s1 : ByteArray} {most1 : Int} {K : Value → Heap → Prop} {h : Heap} (hx : path_components s1 most1 K h) : C.path_components s1 most1 h K :=
  fn_to (cxOk _ _) Try.func54 (by kernel_rfl) path_components.chk (by rw [path_components.eq]; exact hx)

-- 55
def boleref13_zero (s1 : ByteArray) (K : Value → Heap → Prop) (h1 : Heap) : Prop :=
  ∃ (I1 : Int → Heap → Prop) (M1 : Int → Heap → Nat), I1 0 h1 ∧
  ∀ (i1 : Int), ∀ h2 : Heap, I1 i1 h2 →
  bif (decide (i1 < (s1.size : Int))) then (
  (0 ≤ i1 ∧ i1 < (s1.size : Int)) ∧
  ∃ b1 : UInt8, s1.toList[Int.toNat i1]? = some b1 ∧
  bif (((UInt8.toNat b1 : Nat) : Int) == 0) then (
  K (.bool true) h2) else (
  I1 (IntKind.wrap .i64 (i1 + 1)) h2 ∧ M1 (IntKind.wrap .i64 (i1 + 1)) h2 < M1 i1 h2)) else (
  K (.bool false) h2)
def boleref13_zero.lo : Nat → List Nat × List (Nat × Ty) := fun n => match n with | 2 => ([0], [(3, .int .i64)]) | _ => ([], [])
def boleref13_zero.od : Nat → Od := fun n => match n with | _ => .nil
theorem boleref13_zero.eq (s1 : ByteArray) (K : Value → Heap → Prop) (h : Heap) : fnX (cx boleref13_zero.lo boleref13_zero.od) Try.f55 (Try.f55.body.getD .skip) [.string s1] K h = boleref13_zero s1 K h := by kernel_rfl
theorem boleref13_zero.chk : fnOk (cx boleref13_zero.lo boleref13_zero.od) Try.f55 (Try.f55.body.getD .skip) 1 = true := by kernel_rfl
theorem boleref13_zero.ok {s1 : ByteArray} {K : Value → Heap → Prop} {h : Heap} (hx : boleref13_zero s1 K h) : C.boleref13_zero s1 h K :=
  fn_to (cxOk _ _) Try.func55 (by kernel_rfl) boleref13_zero.chk (by rw [boleref13_zero.eq]; exact hx)

-- 56
def boleref13_components (s1 : ByteArray) (K : Value → Heap → Prop) (h1 : Heap) : Prop :=
  C.boleref13_pieces s1 h1 fun r1 h2 =>
  ∃ (sA1 : Option Addr) (sL1 : Nat) (sC1 : Nat), r1 = .slice sA1 sL1 sC1 ∧
  ∃ (I1 : Option Addr → Nat → Nat → Int → Heap → Prop) (M1 : Option Addr → Nat → Nat → Int → Heap → Nat), I1 none 0 0 0 h2 ∧
  ∀ (lA1 : Option Addr) (lL1 : Nat) (lC1 : Nat) (n1 : Int), ∀ h3 : Heap, I1 lA1 lL1 lC1 n1 h3 →
  bif (decide (n1 < (sL1 : Int))) then (
  (0 ≤ n1 ∧ n1 < (sL1 : Int)) ∧
  onSome sA1 fun p1 =>
  ∃ (s2 : ByteArray), cellOf h3 (Addr.add p1 (Int.toNat n1)) = some (.string s2) ∧
  bif (s2.toList == (mkStr [46]).toList) then (
  I1 lA1 lL1 lC1 (IntKind.wrap .i64 (n1 + 1)) h3 ∧ M1 lA1 lL1 lC1 (IntKind.wrap .i64 (n1 + 1)) h3 < M1 lA1 lL1 lC1 n1 h3) else (
  bif (decide ((s2.size : Int) > 27)) then (
  K (.tuple #[.slice none 0 0, .bool false]) h3) else (
  New [.string s2] 9 h3 fun h4 =>
  ∃ new1 : List Value, List.length new1 = 1 * 1 ∧ SlCells h4 (some ⟨h3.size, 0, none⟩) new1 ∧ (∀ v ∈ new1, v.oneCell' = true) ∧
  AppendP ti9 9 lA1 lL1 lC1 1 new1 h4 fun sA2 sL2 sC2 h5 =>
  I1 sA2 sL2 sC2 (IntKind.wrap .i64 (n1 + 1)) h5 ∧ M1 sA2 sL2 sC2 (IntKind.wrap .i64 (n1 + 1)) h5 < M1 lA1 lL1 lC1 n1 h3))) else (
  K (.tuple #[.slice lA1 lL1 lC1, .bool (decide ((lL1 : Int) ≤ 32))]) h3)
def boleref13_components.lo : Nat → List Nat × List (Nat × Ty) := fun n => match n with | 3 => ([8, 9], [(4, .slice), (10, .int .i64)]) | _ => ([], [])
def boleref13_components.od : Nat → Od := fun n => match n with | _ => .nil
theorem boleref13_components.eq (s1 : ByteArray) (K : Value → Heap → Prop) (h : Heap) : fnX (cx boleref13_components.lo boleref13_components.od) Try.f56 (Try.f56.body.getD .skip) [.string s1] K h = boleref13_components s1 K h := by kernel_rfl
theorem boleref13_components.chk : fnOk (cx boleref13_components.lo boleref13_components.od) Try.f56 (Try.f56.body.getD .skip) 1 = true := by kernel_rfl
theorem boleref13_components.ok {s1 : ByteArray} {K : Value → Heap → Prop} {h : Heap} (hx : boleref13_components s1 K h) : C.boleref13_components s1 h K :=
  fn_to (cxOk _ _) Try.func56 (by kernel_rfl) boleref13_components.chk (by rw [boleref13_components.eq]; exact hx)

-- 57
def path_pieces (s1 : ByteArray) (K : Value → Heap → Prop) (h1 : Heap) : Prop :=
  New [.string s1] 9 h1 fun h2 =>
  K (.func (.func 71) #[] ⟨[.pointer (some ⟨h1.size, 0, none⟩)]⟩) h2
def path_pieces.lo : Nat → List Nat × List (Nat × Ty) := fun n => match n with | _ => ([], [])
def path_pieces.od : Nat → Od := fun n => match n with | _ => .nil
theorem path_pieces.eq (s1 : ByteArray) (K : Value → Heap → Prop) (h : Heap) : fnX (cx path_pieces.lo path_pieces.od) Try.f57 (Try.f57.body.getD .skip) [.string s1] K h = path_pieces s1 K h := by kernel_rfl
theorem path_pieces.chk : fnOk (cx path_pieces.lo path_pieces.od) Try.f57 (Try.f57.body.getD .skip) 1 = true := by kernel_rfl
theorem path_pieces.ok {s1 : ByteArray} {K : Value → Heap → Prop} {h : Heap} (hx : path_pieces s1 K h) : C.path_pieces s1 h K :=
  fn_to (cxOk _ _) Try.func57 (by kernel_rfl) path_pieces.chk (by rw [path_pieces.eq]; exact hx)

-- 58
def path_does (s1 : ByteArray) (K : Value → Heap → Prop) (h1 : Heap) : Prop :=
  NewM h1 fun h2 =>
  MapPut .str h1.size (.s (ByteArray.toList (mkStr [46]))) (.func (.func 72) #[] ⟨[]⟩) h2 fun h3 =>
  MapPut .str h1.size (.s (ByteArray.toList (mkStr [46, 46]))) (.func (.func 73) #[] ⟨[]⟩) h3 fun h4 =>
  MapIn .str (some h1.size) h4 fun mm1 =>
  ∃ (v1 : Value), Option.getD (mget mm1 (.s (ByteArray.toList s1))) (zeroV ti97) = v1 ∧
  K (.tuple #[v1, .bool (Option.isSome (mget mm1 (.s (ByteArray.toList s1))))]) h4
def path_does.lo : Nat → List Nat × List (Nat × Ty) := fun n => match n with | _ => ([], [])
def path_does.od : Nat → Od := fun n => match n with | _ => .nil
theorem path_does.eq (s1 : ByteArray) (K : Value → Heap → Prop) (h : Heap) : fnX (cx path_does.lo path_does.od) Try.f58 (Try.f58.body.getD .skip) [.string s1] K h = path_does s1 K h := by kernel_rfl
theorem path_does.chk : fnOk (cx path_does.lo path_does.od) Try.f58 (Try.f58.body.getD .skip) 1 = true := by kernel_rfl
theorem path_does.ok {s1 : ByteArray} {K : Value → Heap → Prop} {h : Heap} (hx : path_does s1 K h) : C.path_does s1 h K :=
  fn_to (cxOk _ _) Try.func58 (by kernel_rfl) path_does.chk (by rw [path_does.eq]; exact hx)

-- 59
def boleref13_pieces.k1 (s1 : ByteArray) (lA1 : Option Addr) (lL1 : Nat) (lC1 : Nat) (from1 : Int) (i1 : Int) (h2 : Heap) (I1 : Option Addr → Nat → Nat → Int → Int → Heap → Prop) (M1 : Option Addr → Nat → Nat → Int → Int → Heap → Nat) (K : Value → Heap → Prop) : Prop :=
  bif (decide (i1 > from1)) then (
  (0 ≤ from1 ∧ from1 ≤ i1 ∧ i1 ≤ (s1.size : Int)) ∧
  New [.string (ByteArray.extract s1 (Int.toNat from1) (Int.toNat i1))] 9 h2 fun h3 =>
  ∃ new1 : List Value, List.length new1 = 1 * 1 ∧ SlCells h3 (some ⟨h2.size, 0, none⟩) new1 ∧ (∀ v ∈ new1, v.oneCell' = true) ∧
  AppendP ti9 9 lA1 lL1 lC1 1 new1 h3 fun sA1 sL1 sC1 h4 =>
  I1 sA1 sL1 sC1 (IntKind.wrap .i64 (i1 + 1)) (IntKind.wrap .i64 (i1 + 1)) h4 ∧ M1 sA1 sL1 sC1 (IntKind.wrap .i64 (i1 + 1)) (IntKind.wrap .i64 (i1 + 1)) h4 < M1 lA1 lL1 lC1 from1 i1 h2) else (
  I1 lA1 lL1 lC1 (IntKind.wrap .i64 (i1 + 1)) (IntKind.wrap .i64 (i1 + 1)) h2 ∧ M1 lA1 lL1 lC1 (IntKind.wrap .i64 (i1 + 1)) (IntKind.wrap .i64 (i1 + 1)) h2 < M1 lA1 lL1 lC1 from1 i1 h2)
def boleref13_pieces (s1 : ByteArray) (K : Value → Heap → Prop) (h1 : Heap) : Prop :=
  ∃ (I1 : Option Addr → Nat → Nat → Int → Int → Heap → Prop) (M1 : Option Addr → Nat → Nat → Int → Int → Heap → Nat), I1 none 0 0 0 0 h1 ∧
  ∀ (lA1 : Option Addr) (lL1 : Nat) (lC1 : Nat) (from1 : Int) (i1 : Int), ∀ h2 : Heap, I1 lA1 lL1 lC1 from1 i1 h2 →
  bif (decide (i1 ≤ (s1.size : Int))) then (
  bif (decide (i1 < (s1.size : Int))) then (
  (0 ≤ i1 ∧ i1 < (s1.size : Int)) ∧
  ∃ b1 : UInt8, s1.toList[Int.toNat i1]? = some b1 ∧
  bif (((UInt8.toNat b1 : Nat) : Int) != 47) then (
  I1 lA1 lL1 lC1 from1 (IntKind.wrap .i64 (i1 + 1)) h2 ∧ M1 lA1 lL1 lC1 from1 (IntKind.wrap .i64 (i1 + 1)) h2 < M1 lA1 lL1 lC1 from1 i1 h2) else (
  boleref13_pieces.k1 s1 lA1 lL1 lC1 from1 i1 h2 I1 M1 K)) else (
  boleref13_pieces.k1 s1 lA1 lL1 lC1 from1 i1 h2 I1 M1 K)) else (
  K (.slice lA1 lL1 lC1) h2)
def boleref13_pieces.lo : Nat → List Nat × List (Nat × Ty) := fun n => match n with | 4 => ([0], [(3, .slice), (4, .int .i64), (5, .int .i64)]) | _ => ([], [])
def boleref13_pieces.od : Nat → Od := fun n => match n with | _ => .nil
theorem boleref13_pieces.eq (s1 : ByteArray) (K : Value → Heap → Prop) (h : Heap) : fnX (cx boleref13_pieces.lo boleref13_pieces.od) Try.f59 (Try.f59.body.getD .skip) [.string s1] K h = boleref13_pieces s1 K h := by kernel_rfl
theorem boleref13_pieces.chk : fnOk (cx boleref13_pieces.lo boleref13_pieces.od) Try.f59 (Try.f59.body.getD .skip) 1 = true := by kernel_rfl
theorem boleref13_pieces.ok {s1 : ByteArray} {K : Value → Heap → Prop} {h : Heap} (hx : boleref13_pieces s1 K h) : C.boleref13_pieces s1 h K :=
  fn_to (cxOk _ _) Try.func59 (by kernel_rfl) boleref13_pieces.chk (by rw [boleref13_pieces.eq]; exact hx)

-- 60
def strings_ContainsAny (s1 : ByteArray) (chars1 : ByteArray) (K : Value → Heap → Prop) (h1 : Heap) : Prop :=
  C.strings_IndexAny s1 chars1 h1 fun r1 h2 =>
  ∃ (n1 : Int), r1 = .int .i64 n1 ∧
  K (.bool (decide (n1 ≥ 0))) h2
def strings_ContainsAny.lo : Nat → List Nat × List (Nat × Ty) := fun n => match n with | _ => ([], [])
def strings_ContainsAny.od : Nat → Od := fun n => match n with | _ => .nil
theorem strings_ContainsAny.eq (s1 : ByteArray) (chars1 : ByteArray) (K : Value → Heap → Prop) (h : Heap) : fnX (cx strings_ContainsAny.lo strings_ContainsAny.od) Try.f60 (Try.f60.body.getD .skip) [.string s1, .string chars1] K h = strings_ContainsAny s1 chars1 K h := by kernel_rfl
theorem strings_ContainsAny.chk : fnOk (cx strings_ContainsAny.lo strings_ContainsAny.od) Try.f60 (Try.f60.body.getD .skip) 2 = true := by kernel_rfl
theorem strings_ContainsAny.ok {s1 : ByteArray} {chars1 : ByteArray} {K : Value → Heap → Prop} {h : Heap} (hx : strings_ContainsAny s1 chars1 K h) : C.strings_ContainsAny s1 chars1 h K :=
  fn_to (cxOk _ _) Try.func60 (by kernel_rfl) strings_ContainsAny.chk (by rw [strings_ContainsAny.eq]; exact hx)

-- 62
def adisk_New (n1 : Int) (K : Value → Heap → Prop) (h1 : Heap) : Prop :=
  bif (decide (n1 < 1)) then (
  K (.tuple #[.pointer none, .int .i64 32]) h1) else (
  bif (decide (n1 > 16384)) then (
  K (.tuple #[.pointer none, .int .i64 32]) h1) else (
  (0 ≤ n1 ∧ n1 ≤ n1 ∧ (512 : Int) * n1 ≤ 281474976710656 ∧ n1 ≤ 281474976710656) ∧
  New (repCells z109 (Int.toNat n1)) 109 h1 fun h2 =>
  New [.slice (some ⟨h1.size, 0, none⟩) (Int.toNat n1) (Int.toNat n1), .slice none 0 0, .int .i64 0, .slice none 0 0, .bool false, .int .i64 0, .int .i64 0, .slice none 0 0] 107 h2 fun h3 =>
  K (.tuple #[.pointer (some ⟨h2.size, 0, none⟩), .int .i64 0]) h3))
def adisk_New.lo : Nat → List Nat × List (Nat × Ty) := fun n => match n with | _ => ([], [])
def adisk_New.od : Nat → Od := fun n => match n with | _ => .nil
theorem adisk_New.eq (n1 : Int) (K : Value → Heap → Prop) (h : Heap) : fnX (cx adisk_New.lo adisk_New.od) Try.f62 (Try.f62.body.getD .skip) [.int .i64 n1] K h = adisk_New n1 K h := by kernel_rfl
theorem adisk_New.chk : fnOk (cx adisk_New.lo adisk_New.od) Try.f62 (Try.f62.body.getD .skip) 1 = true := by kernel_rfl
theorem adisk_New.ok {n1 : Int} {K : Value → Heap → Prop} {h : Heap} (hx : adisk_New n1 K h) : C.adisk_New n1 h K :=
  fn_to (cxOk _ _) Try.func62 (by kernel_rfl) adisk_New.chk (by rw [adisk_New.eq]; exact hx)

-- 63
def space_bit (t1 : Option Addr) (g1 : List Value) (i1 : Int) (K : Value → Heap → Prop) (h1 : Heap) : Prop :=
  New g1 30 h1 fun h2 =>
  ∃ cs1 : List Value, List.length cs1 = 5 ∧ Cells h2 ⟨h1.size, 0, none⟩ cs1 ∧
  C.geo_Bit cs1 i1 h2 fun r1 h3 =>
  ∃ (n1 : Int) (n2 : Int) (n3 : Int), r1 = .tuple #[.int .i64 n1, .int .i64 n2, .int .i64 n3] ∧
  bif (n3 != 0) then (
  K (.tuple #[.int .i64 0, .slice none 0 0, .int .i64 0, .int .i64 n3]) h3) else (
  C.txn_Txn_Read t1 n1 h3 fun r2 h4 =>
  ∃ (sA1 : Option Addr) (sL1 : Nat) (sC1 : Nat) (n4 : Int), r2 = .tuple #[.slice sA1 sL1 sC1, .int .i64 n4] ∧
  K (.tuple #[.int .i64 n1, .slice sA1 sL1 sC1, .int .i64 n2, .int .i64 n4]) h4)
def space_bit.lo : Nat → List Nat × List (Nat × Ty) := fun n => match n with | _ => ([], [])
def space_bit.od : Nat → Od := fun n => match n with | _ => .nil
theorem space_bit.eq (t1 : Option Addr) (g1 : List Value) (i1 : Int) (K : Value → Heap → Prop) (h : Heap) : fnX (cx space_bit.lo space_bit.od) Try.f63 (Try.f63.body.getD .skip) [.pointer t1, .agg ⟨g1⟩, .int .i64 i1] K h = space_bit t1 g1 i1 K h := by kernel_rfl
theorem space_bit.chk : fnOk (cx space_bit.lo space_bit.od) Try.f63 (Try.f63.body.getD .skip) 3 = true := by kernel_rfl
theorem space_bit.ok {t1 : Option Addr} {g1 : List Value} {i1 : Int} {K : Value → Heap → Prop} {h : Heap} (hx : space_bit t1 g1 i1 K h) : C.space_bit t1 g1 i1 h K :=
  fn_to (cxOk _ _) Try.func63 (by kernel_rfl) space_bit.chk (by rw [space_bit.eq]; exact hx)

-- 64
def bits_Get (bA1 : Option Addr) (bL1 : Nat) (bC1 : Nat) (i1 : Int) (K : Value → Heap → Prop) (h1 : Heap) : Prop :=
  C.bits_has bA1 bL1 bC1 i1 h1 fun r1 h2 =>
  ∃ (b1 : Bool), r1 = .bool b1 ∧
  bif (!b1) then (
  K (.tuple #[.bool false, .int .i64 80]) h2) else (
  C.bits_on bA1 bL1 bC1 i1 h2 fun r2 h3 =>
  ∃ (b2 : Bool), r2 = .bool b2 ∧
  K (.tuple #[.bool b2, .int .i64 0]) h3)
def bits_Get.lo : Nat → List Nat × List (Nat × Ty) := fun n => match n with | _ => ([], [])
def bits_Get.od : Nat → Od := fun n => match n with | _ => .nil
theorem bits_Get.eq (bA1 : Option Addr) (bL1 : Nat) (bC1 : Nat) (i1 : Int) (K : Value → Heap → Prop) (h : Heap) : fnX (cx bits_Get.lo bits_Get.od) Try.f64 (Try.f64.body.getD .skip) [.slice bA1 bL1 bC1, .int .i64 i1] K h = bits_Get bA1 bL1 bC1 i1 K h := by kernel_rfl
theorem bits_Get.chk : fnOk (cx bits_Get.lo bits_Get.od) Try.f64 (Try.f64.body.getD .skip) 2 = true := by kernel_rfl
theorem bits_Get.ok {bA1 : Option Addr} {bL1 : Nat} {bC1 : Nat} {i1 : Int} {K : Value → Heap → Prop} {h : Heap} (hx : bits_Get bA1 bL1 bC1 i1 K h) : C.bits_Get bA1 bL1 bC1 i1 h K :=
  fn_to (cxOk _ _) Try.func64 (by kernel_rfl) bits_Get.chk (by rw [bits_Get.eq]; exact hx)

-- 65
def bits_Put (bA1 : Option Addr) (bL1 : Nat) (bC1 : Nat) (i1 : Int) (is1 : Bool) (K : Value → Heap → Prop) (h1 : Heap) : Prop :=
  C.bits_has bA1 bL1 bC1 i1 h1 fun r1 h2 =>
  ∃ (b1 : Bool), r1 = .bool b1 ∧
  bif (!b1) then (
  K (.int .i64 80) h2) else (
  bif is1 then (
  (0 ≤ (IntKind.wrap .i64 (Int.tdiv i1 8)) ∧ (IntKind.wrap .i64 (Int.tdiv i1 8)) < (bL1 : Int)) ∧
  onSome bA1 fun p1 =>
  ∃ (n1 : Int), cellOf h2 (Addr.add p1 (Int.toNat (IntKind.wrap .i64 (Int.tdiv i1 8)))) = some (.int .u8 n1) ∧
  if (Int.tmod i1 8) < 0 then False else
  (0 ≤ (IntKind.wrap .i64 (Int.tdiv i1 8)) ∧ (IntKind.wrap .i64 (Int.tdiv i1 8)) < (bL1 : Int)) ∧
  onSome bA1 fun p2 =>
  Put (Addr.add p2 (Int.toNat (IntKind.wrap .i64 (Int.tdiv i1 8)))) (.int .u8 (bitsI .or .u8 n1 (IntKind.wrap .u8 ((1 * 2 ^ min (Int.toNat (Int.tmod i1 8)) 8))))) h2 fun h3 =>
  K (.int .i64 0) h3) else (
  (0 ≤ (IntKind.wrap .i64 (Int.tdiv i1 8)) ∧ (IntKind.wrap .i64 (Int.tdiv i1 8)) < (bL1 : Int)) ∧
  onSome bA1 fun p3 =>
  ∃ (n2 : Int), cellOf h2 (Addr.add p3 (Int.toNat (IntKind.wrap .i64 (Int.tdiv i1 8)))) = some (.int .u8 n2) ∧
  if (Int.tmod i1 8) < 0 then False else
  (0 ≤ (IntKind.wrap .i64 (Int.tdiv i1 8)) ∧ (IntKind.wrap .i64 (Int.tdiv i1 8)) < (bL1 : Int)) ∧
  onSome bA1 fun p4 =>
  Put (Addr.add p4 (Int.toNat (IntKind.wrap .i64 (Int.tdiv i1 8)))) (.int .u8 (bitsI .andNot .u8 n2 (IntKind.wrap .u8 ((1 * 2 ^ min (Int.toNat (Int.tmod i1 8)) 8))))) h2 fun h4 =>
  K (.int .i64 0) h4))
def bits_Put.lo : Nat → List Nat × List (Nat × Ty) := fun n => match n with | _ => ([], [])
def bits_Put.od : Nat → Od := fun n => match n with | 4 => (.op 0 [] (.op 1 [] (.op 2 [] (.op 3 [] (.op 4 [] (.op 5 [] (.op 6 [] (.op 7 [] (.op 8 [] (.op 9 [] (.op 10 [] .nil))))))))))) | 5 => (.op 0 [] (.op 1 [] (.op 2 [] (.op 3 [] (.op 4 [] (.op 5 [] (.op 6 [] (.op 7 [] (.op 8 [] (.op 9 [] (.op 10 [] .nil))))))))))) | _ => .nil
theorem bits_Put.eq (bA1 : Option Addr) (bL1 : Nat) (bC1 : Nat) (i1 : Int) (is1 : Bool) (K : Value → Heap → Prop) (h : Heap) : fnX (cx bits_Put.lo bits_Put.od) Try.f65 (Try.f65.body.getD .skip) [.slice bA1 bL1 bC1, .int .i64 i1, .bool is1] K h = bits_Put bA1 bL1 bC1 i1 is1 K h := by kernel_rfl
theorem bits_Put.chk : fnOk (cx bits_Put.lo bits_Put.od) Try.f65 (Try.f65.body.getD .skip) 3 = true := by kernel_rfl
theorem bits_Put.ok {bA1 : Option Addr} {bL1 : Nat} {bC1 : Nat} {i1 : Int} {is1 : Bool} {K : Value → Heap → Prop} {h : Heap} (hx : bits_Put bA1 bL1 bC1 i1 is1 K h) : C.bits_Put bA1 bL1 bC1 i1 is1 h K :=
  fn_to (cxOk _ _) Try.func65 (by kernel_rfl) bits_Put.chk (by rw [bits_Put.eq]; exact hx)

-- 66
def adisk_Disk_has (d1 : Option Addr) (i1 : Int) (K : Value → Heap → Prop) (h1 : Heap) : Prop :=
  bif (decide (i1 ≥ 0)) then (
  onSome d1 fun p1 =>
  ∃ (sA1 : Option Addr) (sL1 : Nat) (sC1 : Nat), cellOf h1 (Addr.add p1 0) = some (.slice sA1 sL1 sC1) ∧
  K (.bool (decide (i1 < (sL1 : Int)))) h1) else (
  K (.bool false) h1)
def adisk_Disk_has.lo : Nat → List Nat × List (Nat × Ty) := fun n => match n with | _ => ([], [])
def adisk_Disk_has.od : Nat → Od := fun n => match n with | _ => .nil
theorem adisk_Disk_has.eq (d1 : Option Addr) (i1 : Int) (K : Value → Heap → Prop) (h : Heap) : fnX (cx adisk_Disk_has.lo adisk_Disk_has.od) Try.f66 (Try.f66.body.getD .skip) [.pointer d1, .int .i64 i1] K h = adisk_Disk_has d1 i1 K h := by kernel_rfl
theorem adisk_Disk_has.chk : fnOk (cx adisk_Disk_has.lo adisk_Disk_has.od) Try.f66 (Try.f66.body.getD .skip) 2 = true := by kernel_rfl
theorem adisk_Disk_has.ok {d1 : Option Addr} {i1 : Int} {K : Value → Heap → Prop} {h : Heap} (hx : adisk_Disk_has d1 i1 K h) : C.adisk_Disk_has d1 i1 h K :=
  fn_to (cxOk _ _) Try.func66 (by kernel_rfl) adisk_Disk_has.chk (by rw [adisk_Disk_has.eq]; exact hx)

-- 67
def bits_Runs (bA1 : Option Addr) (bL1 : Nat) (bC1 : Nat) (K : Value → Heap → Prop) (h1 : Heap) : Prop :=
  New [] 5 h1 fun h2 =>
  ∃ new1 : List Value, List.length new1 = bL1 * 1 ∧ SlCells h2 bA1 new1 ∧ (∀ v ∈ new1, v.oneCell' = true) ∧
  AppendP ti5 5 (some ⟨h1.size, 0, none⟩) 0 0 bL1 new1 h2 fun sA1 sL1 sC1 h3 =>
  New z24 24 h3 fun h4 =>
  Put ⟨h3.size, 0, none⟩ (.slice sA1 sL1 sC1) h4 fun h5 =>
  K (.func (.func 81) #[] ⟨[.pointer (some ⟨h3.size, 0, none⟩)]⟩) h5
def bits_Runs.lo : Nat → List Nat × List (Nat × Ty) := fun n => match n with | _ => ([], [])
def bits_Runs.od : Nat → Od := fun n => match n with | _ => .nil
theorem bits_Runs.eq (bA1 : Option Addr) (bL1 : Nat) (bC1 : Nat) (K : Value → Heap → Prop) (h : Heap) : fnX (cx bits_Runs.lo bits_Runs.od) Try.f67 (Try.f67.body.getD .skip) [.slice bA1 bL1 bC1] K h = bits_Runs bA1 bL1 bC1 K h := by kernel_rfl
theorem bits_Runs.chk : fnOk (cx bits_Runs.lo bits_Runs.od) Try.f67 (Try.f67.body.getD .skip) 1 = true := by kernel_rfl
theorem bits_Runs.ok {bA1 : Option Addr} {bL1 : Nat} {bC1 : Nat} {K : Value → Heap → Prop} {h : Heap} (hx : bits_Runs bA1 bL1 bC1 K h) : C.bits_Runs bA1 bL1 bC1 h K :=
  fn_to (cxOk _ _) Try.func67 (by kernel_rfl) bits_Runs.chk (by rw [bits_Runs.eq]; exact hx)

-- 68
def txn_Txn_Back.k1 (t1 : Option Addr) (mark1 : Int) (h1 : Heap) (K : Value → Heap → Prop) : Prop :=
  onSome t1 fun p3 =>
  ∃ (sA2 : Option Addr) (sL2 : Nat) (sC2 : Nat), cellOf h1 (Addr.add p3 2) = some (.slice sA2 sL2 sC2) ∧
  ∃ (I1 : Int → Heap → Prop) (M1 : Int → Heap → Nat), I1 (IntKind.wrap .i64 ((sL2 : Int) - 1)) h1 ∧
  ∀ (k1 : Int), ∀ h2 : Heap, I1 k1 h2 →
  bif (decide (k1 ≥ mark1)) then (
  onSome t1 fun p4 =>
  ∃ (sA3 : Option Addr) (sL3 : Nat) (sC3 : Nat), cellOf h2 (Addr.add p4 2) = some (.slice sA3 sL3 sC3) ∧
  (0 ≤ k1 ∧ k1 < (sL3 : Int)) ∧
  onSome sA3 fun p5 =>
  ∃ (v1 : Value), cellOf h2 (Addr.add p5 (Int.toNat k1)) = some (v1) ∧
  HCallsV Try.prog v1 [] h2 fun r1 h3 =>
  r1 = .tuple #[] ∧
  I1 (IntKind.wrap .i64 (k1 - 1)) h3 ∧ M1 (IntKind.wrap .i64 (k1 - 1)) h3 < M1 k1 h2) else (
  onSome t1 fun p6 =>
  ∃ (sA4 : Option Addr) (sL4 : Nat) (sC4 : Nat), cellOf h2 (Addr.add p6 2) = some (.slice sA4 sL4 sC4) ∧
  (0 ≤ mark1 ∧ mark1 ≤ (sC4 : Int)) ∧
  onSome t1 fun p7 =>
  Put (Addr.add p7 2) (.slice sA4 (Int.toNat mark1) sC4) h2 fun h4 =>
  K (.int .i64 0) h4)
def txn_Txn_Back (t1 : Option Addr) (mark1 : Int) (K : Value → Heap → Prop) (h1 : Heap) : Prop :=
  onSome t1 fun p1 =>
  ∃ (b1 : Bool), cellOf h1 (Addr.add p1 3) = some (.bool b1) ∧
  bif b1 then (
  K (.int .i64 61) h1) else (
  bif (decide (mark1 < 0)) then (
  K (.int .i64 62) h1) else (
  onSome t1 fun p2 =>
  ∃ (sA1 : Option Addr) (sL1 : Nat) (sC1 : Nat), cellOf h1 (Addr.add p2 2) = some (.slice sA1 sL1 sC1) ∧
  bif (decide (mark1 > (sL1 : Int))) then (
  K (.int .i64 62) h1) else (
  txn_Txn_Back.k1 t1 mark1 h1 K)))
def txn_Txn_Back.lo : Nat → List Nat × List (Nat × Ty) := fun n => match n with | 6 => ([0, 1], [(5, .int .i64)]) | _ => ([], [])
def txn_Txn_Back.od : Nat → Od := fun n => match n with | _ => .nil
theorem txn_Txn_Back.eq (t1 : Option Addr) (mark1 : Int) (K : Value → Heap → Prop) (h : Heap) : fnX (cx txn_Txn_Back.lo txn_Txn_Back.od) Try.f68 (Try.f68.body.getD .skip) [.pointer t1, .int .i64 mark1] K h = txn_Txn_Back t1 mark1 K h := by kernel_rfl
theorem txn_Txn_Back.chk : fnOk (cx txn_Txn_Back.lo txn_Txn_Back.od) Try.f68 (Try.f68.body.getD .skip) 2 = true := by kernel_rfl
theorem txn_Txn_Back.ok {t1 : Option Addr} {mark1 : Int} {K : Value → Heap → Prop} {h : Heap} (hx : txn_Txn_Back t1 mark1 K h) : C.txn_Txn_Back t1 mark1 h K :=
  fn_to (cxOk _ _) Try.func68 (by kernel_rfl) txn_Txn_Back.chk (by rw [txn_Txn_Back.eq]; exact hx)

-- 69
def txn_Txn_Write_c1 (cap1 : Option Addr) (cap2 : Option Addr) (cap3 : Option Addr) (cap4 : Option Addr) (K : Value → Heap → Prop) (h1 : Heap) : Prop :=
  onSome cap1 fun p1 =>
  ∃ (b1 : Bool), cellOf h1 p1 = some (.bool b1) ∧
  bif b1 then (
  onSome cap3 fun p2 =>
  ∃ (q1 : Option Addr), cellOf h1 p2 = some (.pointer q1) ∧
  onSome q1 fun p3 =>
  ∃ (m1 : Option Nat), cellOf h1 (Addr.add p3 1) = some (.map m1) ∧
  onSome cap4 fun p4 =>
  ∃ (n1 : Int), cellOf h1 p4 = some (.int .i64 n1) ∧
  onSome cap2 fun p5 =>
  ∃ (sA1 : Option Addr) (sL1 : Nat) (sC1 : Nat), cellOf h1 p5 = some (.slice sA1 sL1 sC1) ∧
  onSome m1 fun r1 =>
  MapPut (.int .i64) r1 (.i n1) (.slice sA1 sL1 sC1) h1 fun h2 =>
  K (.tuple #[]) h2) else (
  onSome cap3 fun p6 =>
  ∃ (q2 : Option Addr), cellOf h1 p6 = some (.pointer q2) ∧
  onSome q2 fun p7 =>
  ∃ (m2 : Option Nat), cellOf h1 (Addr.add p7 1) = some (.map m2) ∧
  onSome cap4 fun p8 =>
  ∃ (n2 : Int), cellOf h1 p8 = some (.int .i64 n2) ∧
  MapDel (.int .i64) m2 (.i n2) h1 fun h3 =>
  K (.tuple #[]) h3)
def txn_Txn_Write_c1.lo : Nat → List Nat × List (Nat × Ty) := fun n => match n with | _ => ([], [])
def txn_Txn_Write_c1.od : Nat → Od := fun n => match n with | 1 => (.op 0 [] (.op 1 [] (.op 2 [] (.op 3 [] (.op 4 [] (.op 5 [] (.op 6 [] .nil))))))) | 2 => (.op 0 [] (.op 1 [] (.op 2 [] (.op 3 [] (.op 4 [] (.op 5 [] .nil)))))) | _ => .nil
theorem txn_Txn_Write_c1.eq (cap1 : Option Addr) (cap2 : Option Addr) (cap3 : Option Addr) (cap4 : Option Addr) (K : Value → Heap → Prop) (h : Heap) : fnX (cx txn_Txn_Write_c1.lo txn_Txn_Write_c1.od) Try.f69 (Try.f69.body.getD .skip) [.pointer cap1, .pointer cap2, .pointer cap3, .pointer cap4] K h = txn_Txn_Write_c1 cap1 cap2 cap3 cap4 K h := by kernel_rfl
theorem txn_Txn_Write_c1.chk : fnOk (cx txn_Txn_Write_c1.lo txn_Txn_Write_c1.od) Try.f69 (Try.f69.body.getD .skip) 4 = true := by kernel_rfl
theorem txn_Txn_Write_c1.ok {cap1 : Option Addr} {cap2 : Option Addr} {cap3 : Option Addr} {cap4 : Option Addr} {K : Value → Heap → Prop} {h : Heap} (hx : txn_Txn_Write_c1 cap1 cap2 cap3 cap4 K h) : C.txn_Txn_Write_c1 cap1 cap2 cap3 cap4 h K :=
  fn_to (cxOk _ _) Try.func69 (by kernel_rfl) txn_Txn_Write_c1.chk (by rw [txn_Txn_Write_c1.eq]; exact hx)

-- 70
def strings_IndexByte (s1 : ByteArray) (c1 : Int) (K : Value → Heap → Prop) (h1 : Heap) : Prop :=
  C.internal_stringslite_IndexByte s1 c1 h1 fun r1 h2 =>
  ∃ (n1 : Int), r1 = .int .i64 n1 ∧
  K (.int .i64 n1) h2
def strings_IndexByte.lo : Nat → List Nat × List (Nat × Ty) := fun n => match n with | _ => ([], [])
def strings_IndexByte.od : Nat → Od := fun n => match n with | _ => .nil
theorem strings_IndexByte.eq (s1 : ByteArray) (c1 : Int) (K : Value → Heap → Prop) (h : Heap) : fnX (cx strings_IndexByte.lo strings_IndexByte.od) Try.f70 (Try.f70.body.getD .skip) [.string s1, .int .u8 c1] K h = strings_IndexByte s1 c1 K h := by kernel_rfl
theorem strings_IndexByte.chk : fnOk (cx strings_IndexByte.lo strings_IndexByte.od) Try.f70 (Try.f70.body.getD .skip) 2 = true := by kernel_rfl
theorem strings_IndexByte.ok {s1 : ByteArray} {c1 : Int} {K : Value → Heap → Prop} {h : Heap} (hx : strings_IndexByte s1 c1 K h) : C.strings_IndexByte s1 c1 h K :=
  fn_to (cxOk _ _) Try.func70 (by kernel_rfl) strings_IndexByte.chk (by rw [strings_IndexByte.eq]; exact hx)

-- 71
def path_pieces_c1.k1 (yield1 : Value) (cap1 : Option Addr) (at1 : Int) (h2 : Heap) (I1 : Int → Heap → Prop) (M1 : Int → Heap → Nat) (end2 : Int) (h4 : Heap) (K : Value → Heap → Prop) : Prop :=
  onSome cap1 fun p5 =>
  ∃ (s5 : ByteArray), cellOf h4 p5 = some (.string s5) ∧
  (0 ≤ at1 ∧ at1 ≤ end2 ∧ end2 ≤ (s5.size : Int)) ∧
  HCallsV Try.prog yield1 [.string (ByteArray.extract s5 (Int.toNat at1) (Int.toNat end2))] h4 fun r1 h5 =>
  ∃ (b3 : Bool), r1 = .bool b3 ∧
  bif (!b3) then (
  K (.tuple #[]) h5) else (
  I1 end2 h5 ∧ M1 end2 h5 < M1 at1 h2)
def path_pieces_c1 (yield1 : Value) (cap1 : Option Addr) (K : Value → Heap → Prop) (h1 : Heap) : Prop :=
  ∃ (I1 : Int → Heap → Prop) (M1 : Int → Heap → Nat), I1 0 h1 ∧
  ∀ (at1 : Int), ∀ h2 : Heap, I1 at1 h2 →
  onSome cap1 fun p1 =>
  ∃ (s1 : ByteArray), cellOf h2 p1 = some (.string s1) ∧
  bif (decide (at1 < (s1.size : Int))) then (
  onSome cap1 fun p2 =>
  ∃ (s2 : ByteArray), cellOf h2 p2 = some (.string s2) ∧
  (0 ≤ at1 ∧ at1 < (s2.size : Int)) ∧
  ∃ b1 : UInt8, s2.toList[Int.toNat at1]? = some b1 ∧
  bif (((UInt8.toNat b1 : Nat) : Int) == 47) then (
  I1 (IntKind.wrap .i64 (at1 + 1)) h2 ∧ M1 (IntKind.wrap .i64 (at1 + 1)) h2 < M1 at1 h2) else (
  ∃ (I2 : Int → Heap → Prop) (M2 : Int → Heap → Nat), I2 at1 h2 ∧
  ∀ (end1 : Int), ∀ h3 : Heap, I2 end1 h3 →
  onSome cap1 fun p3 =>
  ∃ (s3 : ByteArray), cellOf h3 p3 = some (.string s3) ∧
  bif (decide (end1 < (s3.size : Int))) then (
  onSome cap1 fun p4 =>
  ∃ (s4 : ByteArray), cellOf h3 p4 = some (.string s4) ∧
  (0 ≤ end1 ∧ end1 < (s4.size : Int)) ∧
  ∃ b2 : UInt8, s4.toList[Int.toNat end1]? = some b2 ∧
  bif (((UInt8.toNat b2 : Nat) : Int) != 47) then (
  I2 (IntKind.wrap .i64 (end1 + 1)) h3 ∧ M2 (IntKind.wrap .i64 (end1 + 1)) h3 < M2 end1 h3) else (
  path_pieces_c1.k1 yield1 cap1 at1 h2 I1 M1 end1 h3 K)) else (
  path_pieces_c1.k1 yield1 cap1 at1 h2 I1 M1 end1 h3 K))) else (
  K (.tuple #[]) h2)
def path_pieces_c1.lo : Nat → List Nat × List (Nat × Ty) := fun n => match n with | 1 => ([0, 1], [(3, .int .i64)]) | 5 => ([0, 1, 3], [(4, .int .i64)]) | _ => ([], [])
def path_pieces_c1.od : Nat → Od := fun n => match n with | _ => .nil
theorem path_pieces_c1.eq (yield1 : Value) (cap1 : Option Addr) (K : Value → Heap → Prop) (h : Heap) : fnX (cx path_pieces_c1.lo path_pieces_c1.od) Try.f71 (Try.f71.body.getD .skip) [yield1, .pointer cap1] K h = path_pieces_c1 yield1 cap1 K h := by kernel_rfl
theorem path_pieces_c1.chk : fnOk (cx path_pieces_c1.lo path_pieces_c1.od) Try.f71 (Try.f71.body.getD .skip) 2 = true := by kernel_rfl
theorem path_pieces_c1.ok {yield1 : Value} {cap1 : Option Addr} {K : Value → Heap → Prop} {h : Heap} (hx : path_pieces_c1 yield1 cap1 K h) : C.path_pieces_c1 yield1 cap1 h K :=
  fn_to (cxOk _ _) Try.func71 (by kernel_rfl) path_pieces_c1.chk (by rw [path_pieces_c1.eq]; exact hx)

-- 72
def path_does_c1 (aheadA1 : Option Addr) (aheadL1 : Nat) (aheadC1 : Nat) (K : Value → Heap → Prop) (h1 : Heap) : Prop :=
  K (.slice aheadA1 aheadL1 aheadC1) h1
def path_does_c1.lo : Nat → List Nat × List (Nat × Ty) := fun n => match n with | _ => ([], [])
def path_does_c1.od : Nat → Od := fun n => match n with | _ => .nil
theorem path_does_c1.eq (aheadA1 : Option Addr) (aheadL1 : Nat) (aheadC1 : Nat) (K : Value → Heap → Prop) (h : Heap) : fnX (cx path_does_c1.lo path_does_c1.od) Try.f72 (Try.f72.body.getD .skip) [.slice aheadA1 aheadL1 aheadC1] K h = path_does_c1 aheadA1 aheadL1 aheadC1 K h := by kernel_rfl
theorem path_does_c1.chk : fnOk (cx path_does_c1.lo path_does_c1.od) Try.f72 (Try.f72.body.getD .skip) 1 = true := by kernel_rfl
theorem path_does_c1.ok {aheadA1 : Option Addr} {aheadL1 : Nat} {aheadC1 : Nat} {K : Value → Heap → Prop} {h : Heap} (hx : path_does_c1 aheadA1 aheadL1 aheadC1 K h) : C.path_does_c1 aheadA1 aheadL1 aheadC1 h K :=
  fn_to (cxOk _ _) Try.func72 (by kernel_rfl) path_does_c1.chk (by rw [path_does_c1.eq]; exact hx)
end Go.Proofs.Ytgpkcakanieodaa.W
