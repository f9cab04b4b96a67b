/-
  TEXTS FOR dirNames_card: FormsL FormsM FormsN FormsO FormsR ReA HdB InA InW Jof InB ReT SkA SlP AdM DkF TmC TmD RgA BtA SpcA SpcB SpcC SpG AvA.
-/
import Derived.Test.YtiapingedfnlnaaGreatDoorCards
import Derived.Test.YtiapingedfnlnaaGreatDoorTie
import Derived.Test.YtiapingedfnlnaaGreatDoorGp2
namespace Go.Proofs.YtiapingedfnlnaaGreatDoor.W
open Go Go.Proofs Wx
def adisk_Disk_Read (d1:Option Addr) (i1:Int) (K:Value→Heap→Prop) (h1:Heap):Prop :=
 onSome d1 fun p1 =>
 ∃ (b1:Bool),cellOf h1 (Addr.add p1 4)=some (.bool b1) ∧
 bif b1 then (
 K (.tuple #[.slice none 0 0,.int .i64 30]) h1) else (
 C.adisk_Disk_has d1 i1 h1 fun r1 h2 =>
 ∃ (b2:Bool),r1 = .bool b2 ∧
 bif (!b2) then (
 K (.tuple #[.slice none 0 0,.int .i64 31]) h2) else (
 onSome d1 fun p2 =>
 ∃ (sA1:Option Addr) (sL1:Nat) (sC1:Nat),cellOf h2 (Addr.add p2 0)=some (.slice sA1 sL1 sC1) ∧
 (0≤i1∧i1<(sL1:Int)) ∧
 onSome sA1 fun p3 =>
 ∃ cs1:List Value,List.length cs1=512∧Cells h2 (Addr.add p3 ((Int.toNat i1)*512)) cs1 ∧
 NewRow z237 237 cs1 512 h2 fun h4 =>
 onSome d1 fun p4 =>
 ∃ (sA2:Option Addr) (sL2:Nat) (sC2:Nat),cellOf h4 (Addr.add p4 1)=some (.slice sA2 sL2 sC2) ∧
 ∃ (I1:Int→Heap→Prop) (M1:Int→Heap→Nat),I1 0 h4 ∧
 ∀ (n1:Int),∀ h5:Heap,I1 n1 h5 →
 bif (decide (n1<(sL2:Int))) then (
 (0≤n1∧n1<(sL2:Int)) ∧
 onSome sA2 fun p5 =>
 ∃ cs2:List Value,List.length cs2=513∧Cells h5 (Addr.add p5 ((Int.toNat n1)*513)) cs2 ∧
 NewRow z358 358 cs2 513 h5 fun h7 =>
 ∃ (n2:Int),cellOf h7 (Addr.add ⟨h5.size,0,none⟩ 0)=some (.int .i64 n2) ∧
 bif (n2 == i1) then (
 ∃ cs3:List Value,List.length cs3=512∧Cells h7 (Addr.add ⟨h5.size,0,none⟩ 1) cs3 ∧
 PutRow ⟨h2.size,0,none⟩ cs3 512 h7 fun h8 =>
 I1 (IntKind.wrap .i64 (n1+1)) h8∧M1 (IntKind.wrap .i64 (n1+1)) h8<M1 n1 h5) else (
 I1 (IntKind.wrap .i64 (n1+1)) h7∧M1 (IntKind.wrap .i64 (n1+1)) h7<M1 n1 h5)) else (
 K (.tuple #[.slice (some ⟨h2.size,0,none⟩) 512 512,.int .i64 0]) h5)))
def adisk_Disk_Read.lo : Nat→List Nat×List (Nat×Ty):=fun n=>match n with|7=>([1,6,29,30],[(31,.int .i64)])|_=>([],[])
def adisk_Disk_Read.od : Nat→Od:=fun n=>match n with|_ => .nil
theorem adisk_Disk_Read.ok {d1:Option Addr} {i1:Int} {K:Value→Heap→Prop} {h:Heap} (hx:adisk_Disk_Read d1 i1 K h):C.adisk_Disk_Read d1 i1 h K :=
 fn_to (c:=Tryz.f199.body.getD .skip) (cxOk adisk_Disk_Read.lo adisk_Disk_Read.od) Tryz.func199 (by kernel_rfl) (by kernel_rfl) (Eq.mpr (by kernel_rfl) hx)
def strings_IndexAny.k1 (s1:ByteArray) (chars1:ByteArray) (h10:Heap) (K:Value→Heap→Prop):Prop :=
 NewI s1 h10 fun h11 =>
 ∃ (I2:Heap→Prop) (M2:Heap→Nat),I2  h11 ∧
 ∀ h12:Heap,I2  h12 →
 Addr.off ⟨h10.size,0,none⟩=0 ∧
 ∃ (s2:ByteArray) (pos1:Nat),h12[Addr.block ⟨h10.size,0,none⟩]?=some (.stringIter s2 pos1) ∧
 (pos1<ByteArray.size s2→∀ h13:Heap,IterTo h12 (Addr.block ⟨h10.size,0,none⟩) s2 (pos1+(Utf8.decode s2 pos1).2) h13 →
 C.strings_IndexRune chars1 (((Utf8.decode s2 pos1).1:Nat):Int) h13 fun r6 h14 =>
 ∃ (n3:Int),r6 = .int .i64 n3 ∧
 bif (decide (n3≥0)) then (
 K (.int .i64 (pos1:Int)) h14) else (
 I2  h14∧M2  h14<M2  h12)) ∧
 (¬ pos1<ByteArray.size s2 →
 K (.int .i64 (-1)) h12)
def strings_IndexAny (s1:ByteArray) (chars1:ByteArray) (K:Value→Heap→Prop) (h1:Heap):Prop :=
 bif (chars1.toList == (mkStr []).toList) then (
 K (.int .i64 (-1)) h1) else (
 bif ((chars1.size:Int) == 1) then (
 (0≤(0:Int)∧0<(chars1.size:Int)) ∧
 ∃ b1:UInt8,chars1.toList[Int.toNat 0]?=some b1 ∧
 bif (decide ((IntKind.wrap .i32 (((UInt8.toNat b1:Nat):Int)))≥128)) then (
 C.strings_IndexRune s1 65533 h1 fun r1 h2 =>
 ∃ (n1:Int),r1 = .int .i64 n1 ∧
 K (.int .i64 n1) h2) else (
 C.strings_IndexRune s1 (IntKind.wrap .i32 (((UInt8.toNat b1:Nat):Int))) h1 fun r2 h3 =>
 ∃ (n2:Int),r2 = .int .i64 n2 ∧
 K (.int .i64 n2) h3)) else (
 C.strings_shouldUseASCIISet (s1.size:Int) h1 fun r3 h4 =>
 ∃ (b2:Bool),r3 = .bool b2 ∧
 bif b2 then (
 C.strings_makeASCIISet chars1 h4 fun r4 h5 =>
 ∃ (cs1:List Value) (b3:Bool),r4 = .tuple #[.agg ⟨cs1⟩,.bool b3] ∧
 NewRow z361 361 cs1 256 h5 fun h7 =>
 bif b3 then (
 ∃ (I1:Int→Heap→Prop) (M1:Int→Heap→Nat),I1 0 h7 ∧
 ∀ (i1:Int),∀ h8:Heap,I1 i1 h8 →
 bif (decide (i1<(s1.size:Int))) then (
 (0≤i1∧i1<(s1.size:Int)) ∧
 ∃ b4:UInt8,s1.toList[Int.toNat i1]?=some b4 ∧
 C.strings_asciiSet_contains (some ⟨h5.size,0,none⟩) ((UInt8.toNat b4:Nat):Int) h8 fun r5 h9 =>
 ∃ (b5:Bool),r5 = .bool b5 ∧
 bif b5 then (
 K (.int .i64 i1) h9) else (
 I1 (IntKind.wrap .i64 (i1+1)) h9∧M1 (IntKind.wrap .i64 (i1+1)) h9<M1 i1 h8)) else (
 K (.int .i64 (-1)) h8)) else (
 strings_IndexAny.k1 s1 chars1 h7 K)) else (
 strings_IndexAny.k1 s1 chars1 h4 K)))
def strings_IndexAny.lo : Nat→List Nat×List (Nat×Ty):=fun n=>match n with|12=>([0,6],[(8,.int .i64)])|18=>([1,45],[])|_=>([],[])
def strings_IndexAny.od : Nat→Od:=fun n=>match n with|_ => .nil
set_option maxRecDepth 1000000 in
set_option maxRecDepth 1000000 in
theorem strings_IndexAny.ok {s1:ByteArray} {chars1:ByteArray} {K:Value→Heap→Prop} {h:Heap} (hx:strings_IndexAny s1 chars1 K h):C.strings_IndexAny s1 chars1 h K :=
 fn_to (c:=Tryz.f202.body.getD .skip) (cxOk strings_IndexAny.lo strings_IndexAny.od) Tryz.func202 (by kernel_rfl) (by kernel_rfl) (Eq.mpr (by kernel_rfl) hx)
def bmap_file_walk.k1 (f1:Option Addr) (at1:Int) (n1:Int) (h3:Heap) (I1:Int→Int→Heap→Prop) (M1:Int→Int→Heap→Nat) (num1:Int) (e1:Int) (h8:Heap) (K:Value→Heap→Prop):Prop :=
 bif (e1 != 0) then (
 K (.tuple #[.int .i64 0,.int .i64 e1]) h8) else (
 bif (num1 == 0) then (
 K (.tuple #[.int .i64 0,.int .i64 0]) h8) else (
 C.bmap_file_look f1 num1 h8 fun r4 h9 =>
 ∃ (n6:Int),r4 = .int .i64 n6 ∧
 bif (n6 != 0) then (
 K (.tuple #[.int .i64 0,.int .i64 n6]) h9) else (
 I1 num1 (IntKind.wrap .i64 (n1+1)) h9∧M1 num1 (IntKind.wrap .i64 (n1+1)) h9<M1 at1 n1 h3)))
def bmap_file_walk (f1:Option Addr) (k1:Int) (hole1:Value) (K:Value→Heap→Prop) (h1:Heap):Prop :=
 C.bmap_way k1 h1 fun r1 h2 =>
 ∃ (sA1:Option Addr) (sL1:Nat) (sC1:Nat),r1 = .slice sA1 sL1 sC1 ∧
 ∃ (I1:Int→Int→Heap→Prop) (M1:Int→Int→Heap→Nat),I1 0 0 h2 ∧
 ∀ (at1:Int) (n1:Int),∀ h3:Heap,I1 at1 n1 h3 →
 bif (decide (n1<(sL1:Int))) then (
 (0≤n1∧n1<(sL1:Int)) ∧
 onSome sA1 fun p1 =>
 ∃ cs1:List Value,List.length cs1=2∧Cells h3 (Addr.add p1 ((Int.toNat n1)*2)) cs1 ∧
 NewRow z307 307 cs1 2 h3 fun h5 =>
 ∃ cs2:List Value,List.length cs2=2∧Cells h5 ⟨h3.size,0,none⟩ cs2 ∧
 C.bmap_file_number f1 cs2 at1 h5 fun r2 h6 =>
 ∃ (n2:Int) (sA2:Option Addr) (sL2:Nat) (sC2:Nat) (n3:Int),r2 = .tuple #[.int .i64 n2,.slice sA2 sL2 sC2,.int .i64 n3] ∧
 bif (n3 == 0) then (
 bif (n2 == 0) then (
 ∃ cs3:List Value,List.length cs3=2∧Cells h6 ⟨h3.size,0,none⟩ cs3 ∧
 HCallsV Tryz.prog hole1 [.agg ⟨cs3⟩,.int .i64 at1,.slice sA2 sL2 sC2] h6 fun r3 h7 =>
 ∃ (n4:Int) (n5:Int),r3 = .tuple #[.int .i64 n4,.int .i64 n5] ∧
 bmap_file_walk.k1 f1 at1 n1 h3 I1 M1 n4 n5 h7 K) else (
 bmap_file_walk.k1 f1 at1 n1 h3 I1 M1 n2 n3 h6 K)) else (
 bmap_file_walk.k1 f1 at1 n1 h3 I1 M1 n2 n3 h6 K)) else (
 K (.tuple #[.int .i64 at1,.int .i64 0]) h3)
def bmap_file_walk.lo : Nat→List Nat×List (Nat×Ty):=fun n=>match n with|3=>([0,2,16,17],[(8,.int .i64),(18,.int .i64)])|_=>([],[])
def bmap_file_walk.od : Nat→Od:=fun n=>match n with|_ => .nil
theorem bmap_file_walk.ok {f1:Option Addr} {k1:Int} {hole1:Value} {K:Value→Heap→Prop} {h:Heap} (hx:bmap_file_walk f1 k1 hole1 K h):C.bmap_file_walk f1 k1 hole1 h K :=
 fn_to (c:=Tryz.f203.body.getD .skip) (cxOk bmap_file_walk.lo bmap_file_walk.od) Tryz.func203 (by kernel_rfl) (by kernel_rfl) (Eq.mpr (by kernel_rfl) hx)
def bmap_Find_c1 (x1:List Value) (x2:Int) (xA1:Option Addr) (xL1:Nat) (xC1:Nat) (K:Value→Heap→Prop) (h1:Heap):Prop :=
 New x1 307 h1 fun h2 =>
 K (.tuple #[.int .i64 0,.int .i64 0]) h2
def bmap_Find_c1.lo : Nat→List Nat×List (Nat×Ty):=fun n=>match n with|_=>([],[])
def bmap_Find_c1.od : Nat→Od:=fun n=>match n with|_ => .nil
theorem bmap_Find_c1.ok {x1:List Value} {x2:Int} {xA1:Option Addr} {xL1:Nat} {xC1:Nat} {K:Value→Heap→Prop} {h:Heap} (hx:bmap_Find_c1 x1 x2 xA1 xL1 xC1 K h):C.bmap_Find_c1 x1 x2 xA1 xL1 xC1 h K :=
 fn_to (c:=Tryz.f204.body.getD .skip) (cxOk bmap_Find_c1.lo bmap_Find_c1.od) Tryz.func204 (by kernel_rfl) (by kernel_rfl) (Eq.mpr (by kernel_rfl) hx)
def slots_read.k1 (cA1:Option Addr) (cL1:Nat) (cC1:Nat) (n1:Int) (h3:Heap) (n3:Int) (K:Value→Heap→Prop):Prop :=
 (0≤(5:Int)∧(5:Int)≤(IntKind.wrap .u64 (5+n3))∧(IntKind.wrap .u64 (5+n3))≤(IntKind.wrap .u64 (5+n3))∧(IntKind.wrap .u64 (5+n3))≤(cC1:Int)) ∧
 ∃ bs1:List UInt8,StrAt h3 (if (Int.toNat (IntKind.wrap .u64 (5+n3)))=(Int.toNat 5) then cA1 else Option.map (Addr.add · (Int.toNat 5)) cA1) ((Int.toNat (IntKind.wrap .u64 (5+n3))) - (Int.toNat 5)) bs1 ∧
 C.rec_Zero cA1 cL1 cC1 (IntKind.wrap .i64 (5+(IntKind.wrap .i64 (n3)))) (IntKind.wrap .i64 (27 - (IntKind.wrap .i64 (n3)))) h3 fun r4 h5 =>
 ∃ (b2:Bool) (n6:Int),r4 = .tuple #[.bool b2,.int .i64 n6] ∧
 bif b2 then (
 C.path_Name (mkStr bs1) h5 fun r5 h6 =>
 ∃ (b3:Bool),r5 = .bool b3 ∧
 K (.tuple #[.int .i64 (IntKind.wrap .i64 (n1)),.string (mkStr bs1),.bool b3]) h6) else (
 K (.tuple #[.int .i64 (IntKind.wrap .i64 (n1)),.string (mkStr bs1),.bool false]) h5)
def slots_read (cA1:Option Addr) (cL1:Nat) (cC1:Nat) (K:Value→Heap→Prop) (h1:Heap):Prop :=
 C.rec_Get cA1 cL1 cC1 0 4 h1 fun r1 h2 =>
 ∃ (n1:Int) (n2:Int),r1 = .tuple #[.int .u64 n1,.int .i64 n2] ∧
 C.rec_Get cA1 cL1 cC1 4 1 h2 fun r2 h3 =>
 ∃ (n3:Int) (n4:Int),r2 = .tuple #[.int .u64 n3,.int .i64 n4] ∧
 bif (n1 == 0) then (
 C.rec_Zero cA1 cL1 cC1 0 32 h3 fun r3 h4 =>
 ∃ (b1:Bool) (n5:Int),r3 = .tuple #[.bool b1,.int .i64 n5] ∧
 K (.tuple #[.int .i64 0,.string (mkStr []),.bool b1]) h4) else (
 bif (decide (n3<1)) then (
 K (.tuple #[.int .i64 0,.string (mkStr []),.bool false]) h3) else (
 bif (decide (n3>27)) then (
 K (.tuple #[.int .i64 0,.string (mkStr []),.bool false]) h3) else (
 slots_read.k1 cA1 cL1 cC1 n1 h3 n3 K)))
def slots_read.lo : Nat→List Nat×List (Nat×Ty):=fun n=>match n with|_=>([],[])
def slots_read.od : Nat→Od:=fun n=>match n with|_ => .nil
theorem slots_read.ok {cA1:Option Addr} {cL1:Nat} {cC1:Nat} {K:Value→Heap→Prop} {h:Heap} (hx:slots_read cA1 cL1 cC1 K h):C.slots_read cA1 cL1 cC1 h K :=
 fn_to (c:=Tryz.f205.body.getD .skip) (cxOk slots_read.lo slots_read.od) Tryz.func205 (by kernel_rfl) (by kernel_rfl) (Eq.mpr (by kernel_rfl) hx)
def bmap_guard (t1:Option Addr) (K:Value→Heap→Prop) (h1:Heap):Prop :=
 New [.pointer t1] 23 h1 fun h2 =>
 ∃ (q1:Option Addr),cellOf h2 ⟨h1.size,0,none⟩=some (.pointer q1) ∧
 C.txn_Txn_Mark q1 h2 fun r1 h3 =>
 ∃ (n1:Int) (n2:Int),r1 = .tuple #[.int .i64 n1,.int .i64 n2] ∧
 New z3 3 h3 fun h4 =>
 New z34 34 h4 fun h5 =>
 Put ⟨h3.size,0,none⟩ (.int .i64 n1) h5 fun h6 =>
 Put ⟨h4.size,0,none⟩ (.int .i64 n2) h6 fun h7 =>
 K (.func (.func 275) #[] ⟨[.pointer (some ⟨h4.size,0,none⟩),.pointer (some ⟨h1.size,0,none⟩),.pointer (some ⟨h3.size,0,none⟩)]⟩) h7
def bmap_guard.lo : Nat→List Nat×List (Nat×Ty):=fun n=>match n with|_=>([],[])
def bmap_guard.od : Nat→Od:=fun n=>match n with|_ => .nil
theorem bmap_guard.ok {t1:Option Addr} {K:Value→Heap→Prop} {h:Heap} (hx:bmap_guard t1 K h):C.bmap_guard t1 h K :=
 fn_to (c:=Tryz.f206.body.getD .skip) (cxOk bmap_guard.lo bmap_guard.od) Tryz.func206 (by kernel_rfl) (by kernel_rfl) (Eq.mpr (by kernel_rfl) hx)
def bmap_Add_c1 (cap1:Option Addr) (cap2:Option Addr) (cap3:Option Addr) (cap4:Option Addr) (K:Value→Heap→Prop) (h1:Heap):Prop :=
 onSome cap1 fun p1 =>
 ∃ (v1:Value),cellOf h1 p1=some (v1) ∧
 onSome cap2 fun p2 =>
 ∃ (n1:Int),cellOf h1 p2=some (.int .i64 n1) ∧
 HCallsV Tryz.prog v1 [.int .i64 n1] h1 fun r1 h2 =>
 r1 = .tuple #[] ∧
 onSome cap2 fun p3 =>
 ∃ (n2:Int),cellOf h2 p3=some (.int .i64 n2) ∧
 bif (n2 != 0) then (
 onSome cap3 fun p4 =>
 PutRow p4 [.int .i64 0,.int .i64 0,.int .i64 0,.int .i64 0,.int .i64 0,.int .i64 0,.int .i64 0,.int .i64 0,.int .i64 0,.int .i64 0,.int .i64 0,.int .i64 0,.int .i64 0,.int .i64 0,.int .i64 0] 15 h2 fun h3 =>
 onSome cap4 fun p5 =>
 Put p5 (.int .i64 0) h3 fun h4 =>
 K (.tuple #[]) h4) else (
 K (.tuple #[]) h2)
def bmap_Add_c1.lo : Nat→List Nat×List (Nat×Ty):=fun n=>match n with|_=>([],[])
def bmap_Add_c1.od : Nat→Od:=fun n=>match n with|_ => .nil
theorem bmap_Add_c1.eq (cap1:Option Addr) (cap2:Option Addr) (cap3:Option Addr) (cap4:Option Addr) (K:Value→Heap→Prop) (h:Heap):fnX (cx bmap_Add_c1.lo bmap_Add_c1.od) Tryz.f207 (Tryz.f207.body.getD .skip) [.pointer cap1,.pointer cap2,.pointer cap3,.pointer cap4] K h=bmap_Add_c1 cap1 cap2 cap3 cap4 K h:=by kernel_rfl
theorem bmap_Add_c1.chkD : fnOkD (cx bmap_Add_c1.lo bmap_Add_c1.od) Tryz.f207 (Tryz.f207.body.getD .skip) 4=true:=by kernel_rfl
theorem bmap_Add_c1.okD {cap1:Option Addr} {cap2:Option Addr} {cap3:Option Addr} {cap4:Option Addr} {K:Heap→Prop} {h:Heap} (hx:bmap_Add_c1 cap1 cap2 cap3 cap4 (fun _ h'=>K h') h):D.bmap_Add_c1 cap1 cap2 cap3 cap4 h K :=
 fnD_to (cxOk _ _) Tryz.func207 (by kernel_rfl) bmap_Add_c1.chkD (by rw [bmap_Add_c1.eq]; exact hx)
def bmap_Add_c2 (s1:List Value) (at1:Int) (bA1:Option Addr) (bL1:Nat) (bC1:Nat) (cap1:Option Addr) (cap2:Option Addr) (cap3:Option Addr) (K:Value→Heap→Prop) (h1:Heap):Prop :=
 New s1 307 h1 fun h2 =>
 onSome cap1 fun p1 =>
 ∃ (q1:Option Addr),cellOf h2 p1=some (.pointer q1) ∧
 onSome cap2 fun p2 =>
 ∃ cs1:List Value,List.length cs1=5∧Cells h2 p2 cs1 ∧
 C.space_Take q1 cs1 h2 fun r1 h3 =>
 ∃ (n1:Int) (n2:Int),r1 = .tuple #[.int .i64 n1,.int .i64 n2] ∧
 bif (n2 != 0) then (
 K (.tuple #[.int .i64 0,.int .i64 n2]) h3) else (
 onSome cap3 fun p3 =>
 ∃ (q2:Option Addr),cellOf h3 p3=some (.pointer q2) ∧
 ∃ cs2:List Value,List.length cs2=2∧Cells h3 ⟨h1.size,0,none⟩ cs2 ∧
 C.bmap_file_set q2 cs2 at1 bA1 bL1 bC1 n1 h3 fun r2 h4 =>
 ∃ (n3:Int),r2 = .int .i64 n3 ∧
 K (.tuple #[.int .i64 n1,.int .i64 n3]) h4)
def bmap_Add_c2.lo : Nat→List Nat×List (Nat×Ty):=fun n=>match n with|_=>([],[])
def bmap_Add_c2.od : Nat→Od:=fun n=>match n with|_ => .nil
theorem bmap_Add_c2.ok {s1:List Value} {at1:Int} {bA1:Option Addr} {bL1:Nat} {bC1:Nat} {cap1:Option Addr} {cap2:Option Addr} {cap3:Option Addr} {K:Value→Heap→Prop} {h:Heap} (hx:bmap_Add_c2 s1 at1 bA1 bL1 bC1 cap1 cap2 cap3 K h):C.bmap_Add_c2 s1 at1 bA1 bL1 bC1 cap1 cap2 cap3 h K :=
 fn_to (c:=Tryz.f208.body.getD .skip) (cxOk bmap_Add_c2.lo bmap_Add_c2.od) Tryz.func208 (by kernel_rfl) (by kernel_rfl) (Eq.mpr (by kernel_rfl) hx)
def bmap_file_set (f1:Option Addr) (s1:List Value) (at1:Int) (bA1:Option Addr) (bL1:Nat) (bC1:Nat) (num1:Int) (K:Value→Heap→Prop) (h1:Heap):Prop :=
 New s1 307 h1 fun h2 =>
 ∃ (n1:Int),cellOf h2 (Addr.add ⟨h1.size,0,none⟩ 0)=some (.int .i64 n1) ∧
 bif (n1 != 3) then (
 ∃ cs1:List Value,List.length cs1=2∧Cells h2 ⟨h1.size,0,none⟩ cs1 ∧
 C.bmap_file_own f1 cs1 h2 fun r1 h3 =>
 ∃ (q1:Option Addr),r1 = .pointer q1 ∧
 onSome q1 fun p1 =>
 Put p1 (.int .i64 num1) h3 fun h4 =>
 K (.int .i64 0) h4) else (
 ∃ (n2:Int),cellOf h2 (Addr.add ⟨h1.size,0,none⟩ 1)=some (.int .i64 n2) ∧
 C.rec_Put bA1 bL1 bC1 (IntKind.wrap .i64 (4*n2)) 4 (IntKind.wrap .u64 (num1)) h2 fun r2 h5 =>
 ∃ (n3:Int),r2 = .int .i64 n3 ∧
 onSome f1 fun p2 =>
 ∃ (q2:Option Addr),cellOf h5 (Addr.add p2 0)=some (.pointer q2) ∧
 C.txn_Txn_Write q2 at1 bA1 bL1 bC1 h5 fun r3 h6 =>
 ∃ (n4:Int),r3 = .int .i64 n4 ∧
 K (.int .i64 n4) h6)
def bmap_file_set.lo : Nat→List Nat×List (Nat×Ty):=fun n=>match n with|_=>([],[])
def bmap_file_set.od : Nat→Od:=fun n=>match n with|_ => .nil
theorem bmap_file_set.ok {f1:Option Addr} {s1:List Value} {at1:Int} {bA1:Option Addr} {bL1:Nat} {bC1:Nat} {num1:Int} {K:Value→Heap→Prop} {h:Heap} (hx:bmap_file_set f1 s1 at1 bA1 bL1 bC1 num1 K h):C.bmap_file_set f1 s1 at1 bA1 bL1 bC1 num1 h K :=
 fn_to (c:=Tryz.f209.body.getD .skip) (cxOk bmap_file_set.lo bmap_file_set.od) Tryz.func209 (by kernel_rfl) (by kernel_rfl) (Eq.mpr (by kernel_rfl) hx)
def inode_Encode (x1:List Value) (K:Value→Heap→Prop) (h1:Heap):Prop :=
 New x1 123 h1 fun h2 =>
 ∃ cs1:List Value,List.length cs1=15∧Cells h2 ⟨h1.size,0,none⟩ cs1 ∧
 C.inode_may cs1 h2 fun r1 h3 =>
 ∃ (b1:Bool),r1 = .bool b1 ∧
 bif (!b1) then (
 K (.tuple #[.slice none 0 0,.int .i64 111]) h3) else (
 (0≤(64:Int)∧(64:Int)≤64∧(1:Int)*64≤281474976710656∧(64:Int)≤281474976710656) ∧
 New (repCells z5 (Int.toNat 64)) 5 h3 fun h4 =>
 ∃ (n1:Int),cellOf h4 (Addr.add ⟨h1.size,0,none⟩ 0)=some (.int .i64 n1) ∧
 C.rec_Put (some ⟨h3.size,0,none⟩) (Int.toNat 64) (Int.toNat 64) 0 1 (IntKind.wrap .u64 (n1)) h4 fun r2 h5 =>
 ∃ (n2:Int),r2 = .int .i64 n2 ∧
 ∃ (n3:Int),cellOf h5 (Addr.add ⟨h1.size,0,none⟩ 1)=some (.int .i64 n3) ∧
 C.rec_Put (some ⟨h3.size,0,none⟩) (Int.toNat 64) (Int.toNat 64) 2 2 (IntKind.wrap .u64 (n3)) h5 fun r3 h6 =>
 ∃ (n4:Int),r3 = .int .i64 n4 ∧
 ∃ (n5:Int),cellOf h6 (Addr.add ⟨h1.size,0,none⟩ 2)=some (.int .i64 n5) ∧
 C.rec_Put (some ⟨h3.size,0,none⟩) (Int.toNat 64) (Int.toNat 64) 4 4 (IntKind.wrap .u64 (n5)) h6 fun r4 h7 =>
 ∃ (n6:Int),r4 = .int .i64 n6 ∧
 ∃ cs2:List Value,List.length cs2=15∧Cells h7 ⟨h1.size,0,none⟩ cs2 ∧
 C.inode_numbers cs2 h7 fun r5 h8 =>
 ∃ (cs3:List Value),r5 = .agg ⟨cs3⟩ ∧
 ∃ (I1:Int→Heap→Prop) (M1:Int→Heap→Nat),I1 0 h8 ∧
 ∀ (n7:Int),∀ h9:Heap,I1 n7 h9 →
 bif (decide (n7<12)) then (
 (0≤n7∧n7<(12:Int)) ∧
 ∃ (n8:Int),cs3[(Int.toNat n7)]?=some (.int .i64 n8) ∧
 C.rec_Put (some ⟨h3.size,0,none⟩) (Int.toNat 64) (Int.toNat 64) (IntKind.wrap .i64 (8+(IntKind.wrap .i64 (4*n7)))) 4 (IntKind.wrap .u64 (n8)) h9 fun r6 h10 =>
 ∃ (n9:Int),r6 = .int .i64 n9 ∧
 I1 (IntKind.wrap .i64 (n7+1)) h10∧M1 (IntKind.wrap .i64 (n7+1)) h10<M1 n7 h9) else (
 K (.tuple #[.slice (some ⟨h3.size,0,none⟩) (Int.toNat 64) (Int.toNat 64),.int .i64 0]) h9))
def inode_Encode.lo : Nat→List Nat×List (Nat×Ty):=fun n=>match n with|8=>([4,27],[(28,.int .i64)])|_=>([],[])
def inode_Encode.od : Nat→Od:=fun n=>match n with|_ => .nil
theorem inode_Encode.ok {x1:List Value} {K:Value→Heap→Prop} {h:Heap} (hx:inode_Encode x1 K h):C.inode_Encode x1 h K :=
 fn_to (c:=Tryz.f210.body.getD .skip) (cxOk inode_Encode.lo inode_Encode.od) Tryz.func210 (by kernel_rfl) (by kernel_rfl) (Eq.mpr (by kernel_rfl) hx)
def rec_isWidth (n1:Int) (K:Value→Heap→Prop) (h1:Heap):Prop :=
 bif (decide (n1≥0)) then (
 bif (decide (n1<9)) then (
 (0≤n1∧n1<(9:Int)) ∧
 ∃ (b1:Bool),cellOf h1 (Addr.add ⟨0,0,none⟩ (Int.toNat n1))=some (.bool b1) ∧
 K (.bool b1) h1) else (
 K (.bool false) h1)) else (
 K (.bool false) h1)
def rec_isWidth.lo : Nat→List Nat×List (Nat×Ty):=fun n=>match n with|_=>([],[])
def rec_isWidth.od : Nat→Od:=fun n=>match n with|_ => .nil
theorem rec_isWidth.ok {n1:Int} {K:Value→Heap→Prop} {h:Heap} (hx:rec_isWidth n1 K h):C.rec_isWidth n1 h K :=
 fn_to (c:=Tryz.f211.body.getD .skip) (cxOk rec_isWidth.lo rec_isWidth.od) Tryz.func211 (by kernel_rfl) (by kernel_rfl) (Eq.mpr (by kernel_rfl) hx)
def rec_lie (bA1:Option Addr) (bL1:Nat) (bC1:Nat) (at1:Int) (n1:Int) (K:Value→Heap→Prop) (h1:Heap):Prop :=
 bif (decide (at1≥0)) then (
 bif (decide (n1≥0)) then (
 bif (decide (at1≤(bL1:Int))) then (
 K (.bool (decide (n1≤(IntKind.wrap .i64 ((bL1:Int) - at1))))) h1) else (
 K (.bool false) h1)) else (
 K (.bool false) h1)) else (
 K (.bool false) h1)
def rec_lie.lo : Nat→List Nat×List (Nat×Ty):=fun n=>match n with|_=>([],[])
def rec_lie.od : Nat→Od:=fun n=>match n with|_ => .nil
theorem rec_lie.ok {bA1:Option Addr} {bL1:Nat} {bC1:Nat} {at1:Int} {n1:Int} {K:Value→Heap→Prop} {h:Heap} (hx:rec_lie bA1 bL1 bC1 at1 n1 K h):C.rec_lie bA1 bL1 bC1 at1 n1 h K :=
 fn_to (c:=Tryz.f212.body.getD .skip) (cxOk rec_lie.lo rec_lie.od) Tryz.func212 (by kernel_rfl) (by kernel_rfl) (Eq.mpr (by kernel_rfl) hx)
def rec_ahead (bA1:Option Addr) (bL1:Nat) (bC1:Nat) (K:Value→Heap→Prop) (h1:Heap):Prop :=
 ∃ (I1:Int→Heap→Prop) (M1:Int→Heap→Nat),I1 0 h1 ∧
 ∀ (n1:Int),∀ h2:Heap,I1 n1 h2 →
 bif (decide (n1<(bL1:Int))) then (
 (0≤n1∧n1<(bL1:Int)) ∧
 onSome bA1 fun p1 =>
 ∃ (n2:Int),cellOf h2 (Addr.add p1 (Int.toNat n1))=some (.int .u8 n2) ∧
 bif (n2 == 0) then (
 K (.int .i64 n1) h2) else (
 I1 (IntKind.wrap .i64 (n1+1)) h2∧M1 (IntKind.wrap .i64 (n1+1)) h2<M1 n1 h2)) else (
 K (.int .i64 (bL1:Int)) h2)
def rec_ahead.lo : Nat→List Nat×List (Nat×Ty):=fun n=>match n with|2=>([0,5,6],[(7,.int .i64)])|_=>([],[])
def rec_ahead.od : Nat→Od:=fun n=>match n with|_ => .nil
theorem rec_ahead.ok {bA1:Option Addr} {bL1:Nat} {bC1:Nat} {K:Value→Heap→Prop} {h:Heap} (hx:rec_ahead bA1 bL1 bC1 K h):C.rec_ahead bA1 bL1 bC1 h K :=
 fn_to (c:=Tryz.f213.body.getD .skip) (cxOk rec_ahead.lo rec_ahead.od) Tryz.func213 (by kernel_rfl) (by kernel_rfl) (Eq.mpr (by kernel_rfl) hx)
def rec_Get (bA1:Option Addr) (bL1:Nat) (bC1:Nat) (at1:Int) (n1:Int) (K:Value→Heap→Prop) (h1:Heap):Prop :=
 C.rec_isWidth n1 h1 fun r1 h2 =>
 ∃ (b1:Bool),r1 = .bool b1 ∧
 bif (!b1) then (
 K (.tuple #[.int .u64 0,.int .i64 1]) h2) else (
 C.rec_lie bA1 bL1 bC1 at1 n1 h2 fun r2 h3 =>
 ∃ (b2:Bool),r2 = .bool b2 ∧
 bif (!b2) then (
 K (.tuple #[.int .u64 0,.int .i64 20]) h3) else (
 ∃ (I1:Int→Int→Heap→Prop) (M1:Int→Int→Heap→Nat),I1 0 0 h3 ∧
 ∀ (v1:Int) (n2:Int),∀ h4:Heap,I1 v1 n2 h4 →
 bif (decide (n2<n1)) then (
 (0≤(IntKind.wrap .i64 (at1+n2))∧(IntKind.wrap .i64 (at1+n2))<(bL1:Int)) ∧
 onSome bA1 fun p1 =>
 ∃ (n3:Int),cellOf h4 (Addr.add p1 (Int.toNat (IntKind.wrap .i64 (at1+n2))))=some (.int .u8 n3) ∧
 if (IntKind.wrap .i64 (8*n2))<0 then False else
 I1 (bitsI .or .u64 v1 (IntKind.wrap .u64 (((IntKind.wrap .u64 (n3))*2 ^ min (Int.toNat (IntKind.wrap .i64 (8*n2))) 64)))) (IntKind.wrap .i64 (n2+1)) h4∧M1 (bitsI .or .u64 v1 (IntKind.wrap .u64 (((IntKind.wrap .u64 (n3))*2 ^ min (Int.toNat (IntKind.wrap .i64 (8*n2))) 64)))) (IntKind.wrap .i64 (n2+1)) h4<M1 v1 n2 h4) else (
 K (.tuple #[.int .u64 v1,.int .i64 0]) h4)))
def rec_Get.lo : Nat→List Nat×List (Nat×Ty):=fun n=>match n with|7=>([0,1,20],[(8,.int .u64),(21,.int .i64)])|_=>([],[])
def rec_Get.od : Nat→Od:=fun n=>match n with|_ => .nil
theorem rec_Get.ok {bA1:Option Addr} {bL1:Nat} {bC1:Nat} {at1:Int} {n1:Int} {K:Value→Heap→Prop} {h:Heap} (hx:rec_Get bA1 bL1 bC1 at1 n1 K h):C.rec_Get bA1 bL1 bC1 at1 n1 h K :=
 fn_to (c:=Tryz.f224.body.getD .skip) (cxOk rec_Get.lo rec_Get.od) Tryz.func224 (by kernel_rfl) (by kernel_rfl) (Eq.mpr (by kernel_rfl) hx)
def internal_stringslite_IndexByte (s1:ByteArray) (c1:Int) (K:Value→Heap→Prop) (h1:Heap):Prop :=
 (IntKind.u8=IntKind.u8) ∧
 K (.int .i64 (byteIn (ByteArray.toList s1) (UInt8.ofNat (Int.toNat c1)))) h1
def internal_stringslite_IndexByte.lo : Nat→List Nat×List (Nat×Ty):=fun n=>match n with|_=>([],[])
def internal_stringslite_IndexByte.od : Nat→Od:=fun n=>match n with|_ => .nil
theorem internal_stringslite_IndexByte.ok {s1:ByteArray} {c1:Int} {K:Value→Heap→Prop} {h:Heap} (hx:internal_stringslite_IndexByte s1 c1 K h):C.internal_stringslite_IndexByte s1 c1 h K :=
 fn_to (c:=Tryz.f228.body.getD .skip) (cxOk internal_stringslite_IndexByte.lo internal_stringslite_IndexByte.od) Tryz.func228 (by kernel_rfl) (by kernel_rfl) (Eq.mpr (by kernel_rfl) hx)
def inode_within (v1:Int) (low1:Int) (high1:Int) (K:Value→Heap→Prop) (h1:Heap):Prop :=
 bif (decide (v1≥low1)) then (
 K (.bool (decide (v1≤high1))) h1) else (
 K (.bool false) h1)
def inode_within.lo : Nat→List Nat×List (Nat×Ty):=fun n=>match n with|_=>([],[])
def inode_within.od : Nat→Od:=fun n=>match n with|_ => .nil
theorem inode_within.ok {v1:Int} {low1:Int} {high1:Int} {K:Value→Heap→Prop} {h:Heap} (hx:inode_within v1 low1 high1 K h):C.inode_within v1 low1 high1 h K :=
 fn_to (c:=Tryz.f229.body.getD .skip) (cxOk inode_within.lo inode_within.od) Tryz.func229 (by kernel_rfl) (by kernel_rfl) (Eq.mpr (by kernel_rfl) hx)
end Go.Proofs.YtiapingedfnlnaaGreatDoor.W
namespace Go.Proofs.YtiapingedfnlnaaGreatDoor.W
open Go Go.Proofs Wx
def geo_Record.k1 (n1:Int) (h1:Heap) (h2:Heap) (K:Value→Heap→Prop):Prop :=
 ∃ (n3:Int),cellOf h2 (Addr.add ⟨h1.size,0,none⟩ 2)=some (.int .i64 n3) ∧
 K (.tuple #[.int .i64 (IntKind.wrap .i64 (n3+(IntKind.wrap .i64 (Int.tdiv n1 8)))),.int .i64 (IntKind.wrap .i64 ((Int.tmod n1 8)*64)),.int .i64 0]) h2
def geo_Record (g1:List Value) (n1:Int) (K:Value→Heap→Prop) (h1:Heap):Prop :=
 New g1 25 h1 fun h2 =>
 bif (decide (n1<1)) then (
 K (.tuple #[.int .i64 0,.int .i64 0,.int .i64 110]) h2) else (
 ∃ (n2:Int),cellOf h2 (Addr.add ⟨h1.size,0,none⟩ 4)=some (.int .i64 n2) ∧
 bif (decide (n1≥n2)) then (
 K (.tuple #[.int .i64 0,.int .i64 0,.int .i64 110]) h2) else (
 geo_Record.k1 n1 h1 h2 K))
def geo_Record.lo : Nat→List Nat×List (Nat×Ty):=fun n=>match n with|_=>([],[])
def geo_Record.od : Nat→Od:=fun n=>match n with|_ => .nil
theorem geo_Record.ok {g1:List Value} {n1:Int} {K:Value→Heap→Prop} {h:Heap} (hx:geo_Record g1 n1 K h):C.geo_Record g1 n1 h K :=
 fn_to (c:=Tryz.f230.body.getD .skip) (cxOk geo_Record.lo geo_Record.od) Tryz.func230 (by kernel_rfl) (by kernel_rfl) (Eq.mpr (by kernel_rfl) hx)
def inode_Decode_c1 (at1:Int) (n1:Int) (cap1:Option Addr) (K:Value→Heap→Prop) (h1:Heap):Prop :=
 onSome cap1 fun p1 =>
 ∃ (sA1:Option Addr) (sL1:Nat) (sC1:Nat),cellOf h1 p1=some (.slice sA1 sL1 sC1) ∧
 C.rec_Get sA1 sL1 sC1 at1 n1 h1 fun r1 h2 =>
 ∃ (n2:Int) (n3:Int),r1 = .tuple #[.int .u64 n2,.int .i64 n3] ∧
 K (.int .i64 (IntKind.wrap .i64 (n2))) h2
def inode_Decode_c1.lo : Nat→List Nat×List (Nat×Ty):=fun n=>match n with|_=>([],[])
def inode_Decode_c1.od : Nat→Od:=fun n=>match n with|_ => .nil
theorem inode_Decode_c1.ok {at1:Int} {n1:Int} {cap1:Option Addr} {K:Value→Heap→Prop} {h:Heap} (hx:inode_Decode_c1 at1 n1 cap1 K h):C.inode_Decode_c1 at1 n1 cap1 h K :=
 fn_to (c:=Tryz.f231.body.getD .skip) (cxOk inode_Decode_c1.lo inode_Decode_c1.od) Tryz.func231 (by kernel_rfl) (by kernel_rfl) (Eq.mpr (by kernel_rfl) hx)
def rec_Zero (bA1:Option Addr) (bL1:Nat) (bC1:Nat) (at1:Int) (n1:Int) (K:Value→Heap→Prop) (h1:Heap):Prop :=
 bif (decide (n1<0)) then (
 K (.tuple #[.bool false,.int .i64 1]) h1) else (
 C.rec_lie bA1 bL1 bC1 at1 n1 h1 fun r1 h2 =>
 ∃ (b1:Bool),r1 = .bool b1 ∧
 bif (!b1) then (
 K (.tuple #[.bool false,.int .i64 20]) h2) else (
 (0≤at1∧at1≤(IntKind.wrap .i64 (at1+n1))∧(IntKind.wrap .i64 (at1+n1))≤(bC1:Int)) ∧
 C.rec_zeros (if bC1=(Int.toNat at1) then bA1 else Option.map (Addr.add · (Int.toNat at1)) bA1) ((Int.toNat (IntKind.wrap .i64 (at1+n1))) - (Int.toNat at1)) (bC1 - (Int.toNat at1)) h2 fun r2 h3 =>
 ∃ (b2:Bool),r2 = .bool b2 ∧
 K (.tuple #[.bool b2,.int .i64 0]) h3))
def rec_Zero.lo : Nat→List Nat×List (Nat×Ty):=fun n=>match n with|_=>([],[])
def rec_Zero.od : Nat→Od:=fun n=>match n with|_ => .nil
theorem rec_Zero.ok {bA1:Option Addr} {bL1:Nat} {bC1:Nat} {at1:Int} {n1:Int} {K:Value→Heap→Prop} {h:Heap} (hx:rec_Zero bA1 bL1 bC1 at1 n1 K h):C.rec_Zero bA1 bL1 bC1 at1 n1 h K :=
 fn_to (c:=Tryz.f232.body.getD .skip) (cxOk rec_Zero.lo rec_Zero.od) Tryz.func232 (by kernel_rfl) (by kernel_rfl) (Eq.mpr (by kernel_rfl) hx)
def inode_may (x1:List Value) (K:Value→Heap→Prop) (h1:Heap):Prop :=
 New x1 123 h1 fun h2 =>
 ∃ cs1:List Value,List.length cs1=15∧Cells h2 ⟨h1.size,0,none⟩ cs1 ∧
 C.inode_numbers cs1 h2 fun r1 h3 =>
 ∃ (cs2:List Value),r1 = .agg ⟨cs2⟩ ∧
 ∃ (I1:Int→Heap→Prop) (M1:Int→Heap→Nat),I1 0 h3 ∧
 ∀ (n1:Int),∀ h4:Heap,I1 n1 h4 →
 bif (decide (n1<12)) then (
 (0≤n1∧n1<(12:Int)) ∧
 ∃ (n2:Int),cs2[(Int.toNat n1)]?=some (.int .i64 n2) ∧
 C.inode_within n2 0 4294967295 h4 fun r2 h5 =>
 ∃ (b1:Bool),r2 = .bool b1 ∧
 bif (!b1) then (
 K (.bool false) h5) else (
 I1 (IntKind.wrap .i64 (n1+1)) h5∧M1 (IntKind.wrap .i64 (n1+1)) h5<M1 n1 h4)) else (
 ∃ (n3:Int),cellOf h4 (Addr.add ⟨h1.size,0,none⟩ 0)=some (.int .i64 n3) ∧
 bif (n3 == 0) then (
 ∃ cs3:List Value,List.length cs3=15∧Cells h4 ⟨h1.size,0,none⟩ cs3 ∧
 pairsOk [(.int .i64),(.int .i64),(.int .i64),(.int .i64),(.int .i64),(.int .i64),(.int .i64),(.int .i64),(.int .i64),(.int .i64),(.int .i64),(.int .i64),(.int .i64),(.int .i64),(.int .i64)] cs3 [.int .i64 0,.int .i64 0,.int .i64 0,.int .i64 0,.int .i64 0,.int .i64 0,.int .i64 0,.int .i64 0,.int .i64 0,.int .i64 0,.int .i64 0,.int .i64 0,.int .i64 0,.int .i64 0,.int .i64 0]=true ∧
 K (.bool (cellsEq cs3 [.int .i64 0,.int .i64 0,.int .i64 0,.int .i64 0,.int .i64 0,.int .i64 0,.int .i64 0,.int .i64 0,.int .i64 0,.int .i64 0,.int .i64 0,.int .i64 0,.int .i64 0,.int .i64 0,.int .i64 0])) h4) else (
 bif (n3 == 1) then (
 ∃ (n4:Int),cellOf h4 (Addr.add ⟨h1.size,0,none⟩ 1)=some (.int .i64 n4) ∧
 C.inode_within n4 0 1000 h4 fun r3 h6 =>
 ∃ (b2:Bool),r3 = .bool b2 ∧
 bif b2 then (
 ∃ (n5:Int),cellOf h6 (Addr.add ⟨h1.size,0,none⟩ 2)=some (.int .i64 n5) ∧
 C.inode_within n5 0 8459264 h6 fun r4 h7 =>
 ∃ (b3:Bool),r4 = .bool b3 ∧
 K (.bool b3) h7) else (
 K (.bool false) h6)) else (
 bif (n3 == 2) then (
 ∃ (n6:Int),cellOf h4 (Addr.add ⟨h1.size,0,none⟩ 1)=some (.int .i64 n6) ∧
 C.inode_within n6 2 65535 h4 fun r5 h8 =>
 ∃ (b4:Bool),r5 = .bool b4 ∧
 bif b4 then (
 ∃ (n7:Int),cellOf h8 (Addr.add ⟨h1.size,0,none⟩ 2)=some (.int .i64 n7) ∧
 C.inode_within n7 0 8459264 h8 fun r6 h9 =>
 ∃ (b5:Bool),r6 = .bool b5 ∧
 bif b5 then (
 ∃ (n8:Int),cellOf h9 (Addr.add ⟨h1.size,0,none⟩ 2)=some (.int .i64 n8) ∧
 K (.bool ((Int.tmod n8 512) == 0)) h9) else (
 K (.bool false) h9)) else (
 K (.bool false) h8)) else (
 bif (n3 == 3) then (
 ∃ (n9:Int),cellOf h4 (Addr.add ⟨h1.size,0,none⟩ 1)=some (.int .i64 n9) ∧
 C.inode_within n9 1 1000 h4 fun r7 h10 =>
 ∃ (b6:Bool),r7 = .bool b6 ∧
 bif b6 then (
 ∃ (n10:Int),cellOf h10 (Addr.add ⟨h1.size,0,none⟩ 2)=some (.int .i64 n10) ∧
 C.inode_within n10 1 1024 h10 fun r8 h11 =>
 ∃ (b7:Bool),r8 = .bool b7 ∧
 K (.bool b7) h11) else (
 K (.bool false) h10)) else (
 K (.bool false) h4)))))
def inode_may.lo : Nat→List Nat×List (Nat×Ty):=fun n=>match n with|2=>([1,6],[(7,.int .i64)])|_=>([],[])
def inode_may.od : Nat→Od:=fun n=>match n with|_ => .nil
set_option maxRecDepth 1000000 in
set_option maxRecDepth 1000000 in
theorem inode_may.ok {x1:List Value} {K:Value→Heap→Prop} {h:Heap} (hx:inode_may x1 K h):C.inode_may x1 h K :=
 fn_to (c:=Tryz.f233.body.getD .skip) (cxOk inode_may.lo inode_may.od) Tryz.func233 (by kernel_rfl) (by kernel_rfl) (Eq.mpr (by kernel_rfl) hx)
def bits_Runs_c1.k2 (yield1:Value) (i1:Int) (h2:Heap) (I1:Int→Heap→Prop) (M1:Int→Heap→Nat) (i3:Int) (i5:Int) (h10:Heap) (K:Value→Heap→Prop):Prop :=
 bif (i5 == i3) then (
 K (.tuple #[]) h10) else (
 HCallsV Tryz.prog yield1 [.int .i64 i3,.int .i64 (IntKind.wrap .i64 (i5 - i3))] h10 fun r5 h11 =>
 ∃ (b5:Bool),r5 = .bool b5 ∧
 bif (!b5) then (
 K (.tuple #[]) h11) else (
 I1 i5 h11∧M1 i5 h11<M1 i1 h2))
def bits_Runs_c1.k1 (yield1:Value) (cap1:Option Addr) (i1:Int) (h2:Heap) (I1:Int→Heap→Prop) (M1:Int→Heap→Nat) (i3:Int) (h6:Heap) (K:Value→Heap→Prop):Prop :=
 ∃ (I3:Int→Heap→Prop) (M3:Int→Heap→Nat),I3 i3 h6 ∧
 ∀ (i4:Int),∀ h7:Heap,I3 i4 h7 →
 onSome cap1 fun p3 =>
 ∃ (sA3:Option Addr) (sL3:Nat) (sC3:Nat),cellOf h7 p3=some (.slice sA3 sL3 sC3) ∧
 C.bits_has sA3 sL3 sC3 i4 h7 fun r3 h8 =>
 ∃ (b3:Bool),r3 = .bool b3 ∧
 bif b3 then (
 onSome cap1 fun p4 =>
 ∃ (sA4:Option Addr) (sL4:Nat) (sC4:Nat),cellOf h8 p4=some (.slice sA4 sL4 sC4) ∧
 C.bits_on sA4 sL4 sC4 i4 h8 fun r4 h9 =>
 ∃ (b4:Bool),r4 = .bool b4 ∧
 bif (!b4) then (
 I3 (IntKind.wrap .i64 (i4+1)) h9∧M3 (IntKind.wrap .i64 (i4+1)) h9<M3 i4 h7) else (
 bits_Runs_c1.k2 yield1 i1 h2 I1 M1 i3 i4 h9 K)) else (
 bits_Runs_c1.k2 yield1 i1 h2 I1 M1 i3 i4 h8 K)
def bits_Runs_c1 (yield1:Value) (cap1:Option Addr) (K:Value→Heap→Prop) (h1:Heap):Prop :=
 ∃ (I1:Int→Heap→Prop) (M1:Int→Heap→Nat),I1 0 h1 ∧
 ∀ (i1:Int),∀ h2:Heap,I1 i1 h2 →
 ∃ (I2:Int→Heap→Prop) (M2:Int→Heap→Nat),I2 i1 h2 ∧
 ∀ (i2:Int),∀ h3:Heap,I2 i2 h3 →
 onSome cap1 fun p1 =>
 ∃ (sA1:Option Addr) (sL1:Nat) (sC1:Nat),cellOf h3 p1=some (.slice sA1 sL1 sC1) ∧
 C.bits_has sA1 sL1 sC1 i2 h3 fun r1 h4 =>
 ∃ (b1:Bool),r1 = .bool b1 ∧
 bif b1 then (
 onSome cap1 fun p2 =>
 ∃ (sA2:Option Addr) (sL2:Nat) (sC2:Nat),cellOf h4 p2=some (.slice sA2 sL2 sC2) ∧
 C.bits_on sA2 sL2 sC2 i2 h4 fun r2 h5 =>
 ∃ (b2:Bool),r2 = .bool b2 ∧
 bif b2 then (
 I2 (IntKind.wrap .i64 (i2+1)) h5∧M2 (IntKind.wrap .i64 (i2+1)) h5<M2 i2 h3) else (
 bits_Runs_c1.k1 yield1 cap1 i1 h2 I1 M1 i2 h5 K)) else (
 bits_Runs_c1.k1 yield1 cap1 i1 h2 I1 M1 i2 h4 K)
def bits_Runs_c1.lo : Nat→List Nat×List (Nat×Ty):=fun n=>match n with|1=>([0,1],[(3,.int .i64)])|4=>([0,1,4],[(3,.int .i64)])|_=>([],[])
def bits_Runs_c1.od : Nat→Od:=fun n=>match n with|_ => .nil
theorem bits_Runs_c1.ok {yield1:Value} {cap1:Option Addr} {K:Value→Heap→Prop} {h:Heap} (hx:bits_Runs_c1 yield1 cap1 K h):C.bits_Runs_c1 yield1 cap1 h K :=
 fn_to (c:=Tryz.f248.body.getD .skip) (cxOk bits_Runs_c1.lo bits_Runs_c1.od) Tryz.func248 (by kernel_rfl) (by kernel_rfl) (Eq.mpr (by kernel_rfl) hx)
def bits_has (bA1:Option Addr) (bL1:Nat) (bC1:Nat) (i1:Int) (K:Value→Heap→Prop) (h1:Heap):Prop :=
 bif (decide (i1≥0)) then (
 K (.bool (decide (i1<(IntKind.wrap .i64 (8*(bL1:Int)))))) h1) else (
 K (.bool false) h1)
def bits_has.lo : Nat→List Nat×List (Nat×Ty):=fun n=>match n with|_=>([],[])
def bits_has.od : Nat→Od:=fun n=>match n with|_ => .nil
theorem bits_has.ok {bA1:Option Addr} {bL1:Nat} {bC1:Nat} {i1:Int} {K:Value→Heap→Prop} {h:Heap} (hx:bits_has bA1 bL1 bC1 i1 K h):C.bits_has bA1 bL1 bC1 i1 h K :=
 fn_to (c:=Tryz.f249.body.getD .skip) (cxOk bits_has.lo bits_has.od) Tryz.func249 (by kernel_rfl) (by kernel_rfl) (Eq.mpr (by kernel_rfl) hx)
def bits_on (bA1:Option Addr) (bL1:Nat) (bC1:Nat) (i1:Int) (K:Value→Heap→Prop) (h1:Heap):Prop :=
 (0≤(IntKind.wrap .i64 (Int.tdiv i1 8))∧(IntKind.wrap .i64 (Int.tdiv i1 8))<(bL1:Int)) ∧
 onSome bA1 fun p1 =>
 ∃ (n1:Int),cellOf h1 (Addr.add p1 (Int.toNat (IntKind.wrap .i64 (Int.tdiv i1 8))))=some (.int .u8 n1) ∧
 if (Int.tmod i1 8)<0 then False else
 K (.bool ((bitsI .and .u8 (Int.fdiv n1 (2 ^ min (Int.toNat (Int.tmod i1 8)) 8)) 1) == 1)) h1
def bits_on.lo : Nat→List Nat×List (Nat×Ty):=fun n=>match n with|_=>([],[])
def bits_on.od : Nat→Od:=fun n=>match n with|_ => .nil
theorem bits_on.ok {bA1:Option Addr} {bL1:Nat} {bC1:Nat} {i1:Int} {K:Value→Heap→Prop} {h:Heap} (hx:bits_on bA1 bL1 bC1 i1 K h):C.bits_on bA1 bL1 bC1 i1 h K :=
 fn_to (c:=Tryz.f250.body.getD .skip) (cxOk bits_on.lo bits_on.od) Tryz.func250 (by kernel_rfl) (by kernel_rfl) (Eq.mpr (by kernel_rfl) hx)
def geo_Bit.k1 (i1:Int) (h1:Heap) (h2:Heap) (K:Value→Heap→Prop):Prop :=
 ∃ (n2:Int),cellOf h2 (Addr.add ⟨h1.size,0,none⟩ 1)=some (.int .i64 n2) ∧
 K (.tuple #[.int .i64 (IntKind.wrap .i64 (n2+(IntKind.wrap .i64 (Int.tdiv i1 4096)))),.int .i64 (Int.tmod i1 4096),.int .i64 0]) h2
def geo_Bit (g1:List Value) (i1:Int) (K:Value→Heap→Prop) (h1:Heap):Prop :=
 New g1 25 h1 fun h2 =>
 bif (decide (i1<0)) then (
 K (.tuple #[.int .i64 0,.int .i64 0,.int .i64 31]) h2) else (
 ∃ (n1:Int),cellOf h2 (Addr.add ⟨h1.size,0,none⟩ 0)=some (.int .i64 n1) ∧
 bif (decide (i1≥n1)) then (
 K (.tuple #[.int .i64 0,.int .i64 0,.int .i64 31]) h2) else (
 geo_Bit.k1 i1 h1 h2 K))
def geo_Bit.lo : Nat→List Nat×List (Nat×Ty):=fun n=>match n with|_=>([],[])
def geo_Bit.od : Nat→Od:=fun n=>match n with|_ => .nil
theorem geo_Bit.ok {g1:List Value} {i1:Int} {K:Value→Heap→Prop} {h:Heap} (hx:geo_Bit g1 i1 K h):C.geo_Bit g1 i1 h K :=
 fn_to (c:=Tryz.f251.body.getD .skip) (cxOk geo_Bit.lo geo_Bit.od) Tryz.func251 (by kernel_rfl) (by kernel_rfl) (Eq.mpr (by kernel_rfl) hx)
def boleref11_within (n1:Int) (low1:Int) (high1:Int) (K:Value→Heap→Prop) (h1:Heap):Prop :=
 bif (decide (n1≥low1)) then (
 K (.bool (decide (n1≤high1))) h1) else (
 K (.bool false) h1)
def boleref11_within.lo : Nat→List Nat×List (Nat×Ty):=fun n=>match n with|_=>([],[])
def boleref11_within.od : Nat→Od:=fun n=>match n with|_ => .nil
theorem boleref11_within.ok {n1:Int} {low1:Int} {high1:Int} {K:Value→Heap→Prop} {h:Heap} (hx:boleref11_within n1 low1 high1 K h):C.boleref11_within n1 low1 high1 h K :=
 fn_to (c:=Tryz.f252.body.getD .skip) (cxOk boleref11_within.lo boleref11_within.od) Tryz.func252 (by kernel_rfl) (by kernel_rfl) (Eq.mpr (by kernel_rfl) hx)
def boleref11_low (n1:Int) (bytes1:Int) (K:Value→Heap→Prop) (h1:Heap):Prop :=
 ∃ (I1:Int→Option Addr→Nat→Nat→Int→Heap→Prop) (M1:Int→Option Addr→Nat→Nat→Int→Heap→Nat),I1 n1 none 0 0 0 h1 ∧
 ∀ (n2:Int) (bA1:Option Addr) (bL1:Nat) (bC1:Nat) (i1:Int),∀ h2:Heap,I1 n2 bA1 bL1 bC1 i1 h2 →
 bif (decide (i1<bytes1)) then (
 New [.int .u8 (IntKind.wrap .u8 ((Int.tmod n2 256)))] 5 h2 fun h3 =>
 ∃ new1:List Value,List.length new1=1*1∧SlCells h3 (some ⟨h2.size,0,none⟩) new1∧(∀ v ∈ new1,v.oneCell'=true) ∧
 AppendP ti5 5 bA1 bL1 bC1 1 new1 h3 fun sA1 sL1 sC1 h4 =>
 I1 (IntKind.wrap .i64 (Int.tdiv n2 256)) sA1 sL1 sC1 (IntKind.wrap .i64 (i1+1)) h4∧M1 (IntKind.wrap .i64 (Int.tdiv n2 256)) sA1 sL1 sC1 (IntKind.wrap .i64 (i1+1)) h4<M1 n2 bA1 bL1 bC1 i1 h2) else (
 K (.slice bA1 bL1 bC1) h2)
def boleref11_low.lo : Nat→List Nat×List (Nat×Ty):=fun n=>match n with|3=>([1],[(0,.int .i64),(5,.slice),(6,.int .i64)])|_=>([],[])
def boleref11_low.od : Nat→Od:=fun n=>match n with|_ => .nil
theorem boleref11_low.ok {n1:Int} {bytes1:Int} {K:Value→Heap→Prop} {h:Heap} (hx:boleref11_low n1 bytes1 K h):C.boleref11_low n1 bytes1 h K :=
 fn_to (c:=Tryz.f253.body.getD .skip) (cxOk boleref11_low.lo boleref11_low.od) Tryz.func253 (by kernel_rfl) (by kernel_rfl) (Eq.mpr (by kernel_rfl) hx)
end Go.Proofs.YtiapingedfnlnaaGreatDoor.W
namespace Go.Proofs.YtiapingedfnlnaaGreatDoor.W
open Go Go.Proofs Wx
def adisk_Disk_has (d1:Option Addr) (i1:Int) (K:Value→Heap→Prop) (h1:Heap):Prop :=
 bif (decide (i1≥0)) then (
 onSome d1 fun p1 =>
 ∃ (sA1:Option Addr) (sL1:Nat) (sC1:Nat),cellOf h1 (Addr.add p1 0)=some (.slice sA1 sL1 sC1) ∧
 K (.bool (decide (i1<(sL1:Int)))) h1) else (
 K (.bool false) h1)
def adisk_Disk_has.lo : Nat→List Nat×List (Nat×Ty):=fun n=>match n with|_=>([],[])
def adisk_Disk_has.od : Nat→Od:=fun n=>match n with|_ => .nil
theorem adisk_Disk_has.ok {d1:Option Addr} {i1:Int} {K:Value→Heap→Prop} {h:Heap} (hx:adisk_Disk_has d1 i1 K h):C.adisk_Disk_has d1 i1 h K :=
 fn_to (c:=Tryz.f268.body.getD .skip) (cxOk adisk_Disk_has.lo adisk_Disk_has.od) Tryz.func268 (by kernel_rfl) (by kernel_rfl) (Eq.mpr (by kernel_rfl) hx)
def strings_IndexRune.k1 (s1:ByteArray) (r1:Int) (i2:Int) (h9:Heap) (K:Value→Heap→Prop):Prop :=
 ∃ (I3:Int→Heap→Prop) (M3:Int→Heap→Nat),I3 1 h9 ∧
 ∀ (j1:Int),∀ h10:Heap,I3 j1 h10 →
 bif (decide (j1<((Utf8.encode r1).size:Int))) then (
 (0≤(IntKind.wrap .i64 (i2 - j1))∧(IntKind.wrap .i64 (i2 - j1))<(s1.size:Int)) ∧
 ∃ b5:UInt8,s1.toList[Int.toNat (IntKind.wrap .i64 (i2 - j1))]?=some b5 ∧
 (0≤(IntKind.wrap .i64 ((IntKind.wrap .i64 (((Utf8.encode r1).size:Int) - 1)) - j1))∧(IntKind.wrap .i64 ((IntKind.wrap .i64 (((Utf8.encode r1).size:Int) - 1)) - j1))<((Utf8.encode r1).size:Int)) ∧
 ∃ b6:UInt8,(Utf8.encode r1).toList[Int.toNat (IntKind.wrap .i64 ((IntKind.wrap .i64 (((Utf8.encode r1).size:Int) - 1)) - j1))]?=some b6 ∧
 bif (((UInt8.toNat b5:Nat):Int) != ((UInt8.toNat b6:Nat):Int)) then (
 False) else (
 I3 (IntKind.wrap .i64 (j1+1)) h10∧M3 (IntKind.wrap .i64 (j1+1)) h10<M3 j1 h10)) else (
 K (.int .i64 (IntKind.wrap .i64 (i2 - (IntKind.wrap .i64 (((Utf8.encode r1).size:Int) - 1))))) h10)
def strings_IndexRune.k2 (s1:ByteArray) (r1:Int) (i4:Int) (h17:Heap) (K:Value→Heap→Prop):Prop :=
 ∃ (I6:Int→Heap→Prop) (M6:Int→Heap→Nat),I6 1 h17 ∧
 ∀ (j2:Int),∀ h18:Heap,I6 j2 h18 →
 bif (decide (j2<((Utf8.encode r1).size:Int))) then (
 (0≤(IntKind.wrap .i64 (i4 - j2))∧(IntKind.wrap .i64 (i4 - j2))<(s1.size:Int)) ∧
 ∃ b11:UInt8,s1.toList[Int.toNat (IntKind.wrap .i64 (i4 - j2))]?=some b11 ∧
 (0≤(IntKind.wrap .i64 ((IntKind.wrap .i64 (((Utf8.encode r1).size:Int) - 1)) - j2))∧(IntKind.wrap .i64 ((IntKind.wrap .i64 (((Utf8.encode r1).size:Int) - 1)) - j2))<((Utf8.encode r1).size:Int)) ∧
 ∃ b12:UInt8,(Utf8.encode r1).toList[Int.toNat (IntKind.wrap .i64 ((IntKind.wrap .i64 (((Utf8.encode r1).size:Int) - 1)) - j2))]?=some b12 ∧
 bif (((UInt8.toNat b11:Nat):Int) != ((UInt8.toNat b12:Nat):Int)) then (
 False) else (
 I6 (IntKind.wrap .i64 (j2+1)) h18∧M6 (IntKind.wrap .i64 (j2+1)) h18<M6 j2 h18)) else (
 K (.int .i64 (IntKind.wrap .i64 (i4 - (IntKind.wrap .i64 (((Utf8.encode r1).size:Int) - 1))))) h18)
def strings_IndexRune (s1:ByteArray) (r1:Int) (K:Value→Heap→Prop) (h1:Heap):Prop :=
 bif (decide ((0:Int)≤r1)) then (
 bif (decide (r1<128)) then (
 C.strings_IndexByte s1 (IntKind.wrap .u8 (r1)) h1 fun r2 h2 =>
 ∃ (n1:Int),r2 = .int .i64 n1 ∧
 K (.int .i64 n1) h2) else (
 bif (r1 == 65533) then (
 NewI s1 h1 fun h3 =>
 ∃ (I1:Heap→Prop) (M1:Heap→Nat),I1  h3 ∧
 ∀ h4:Heap,I1  h4 →
 Addr.off ⟨h1.size,0,none⟩=0 ∧
 ∃ (s2:ByteArray) (pos1:Nat),h4[Addr.block ⟨h1.size,0,none⟩]?=some (.stringIter s2 pos1) ∧
 (pos1<ByteArray.size s2→∀ h5:Heap,IterTo h4 (Addr.block ⟨h1.size,0,none⟩) s2 (pos1+(Utf8.decode s2 pos1).2) h5 →
 bif ((((Utf8.decode s2 pos1).1:Nat):Int) == 65533) then (
 K (.int .i64 (pos1:Int)) h5) else (
 I1  h5∧M1  h5<M1  h4)) ∧
 (¬ pos1<ByteArray.size s2 →
 K (.int .i64 (-1)) h4)) else (
 C.unicode_utf8_ValidRune r1 h1 fun r3 h6 =>
 ∃ (b1:Bool),r3 = .bool b1 ∧
 bif (!b1) then (
 K (.int .i64 (-1)) h6) else (
 ∃ (I2:Int→Heap→Prop) (M2:Int→Heap→Nat),I2 (IntKind.wrap .i64 (((Utf8.encode r1).size:Int) - 1)) h6 ∧
 ∀ (i1:Int),∀ h7:Heap,I2 i1 h7 →
 bif (decide (i1<(s1.size:Int))) then (
 (0≤i1∧i1<(s1.size:Int)) ∧
 ∃ b2:UInt8,s1.toList[Int.toNat i1]?=some b2 ∧
 (0≤(IntKind.wrap .i64 (((Utf8.encode r1).size:Int) - 1))∧(IntKind.wrap .i64 (((Utf8.encode r1).size:Int) - 1))<((Utf8.encode r1).size:Int)) ∧
 ∃ b3:UInt8,(Utf8.encode r1).toList[Int.toNat (IntKind.wrap .i64 (((Utf8.encode r1).size:Int) - 1))]?=some b3 ∧
 bif (((UInt8.toNat b2:Nat):Int) != ((UInt8.toNat b3:Nat):Int)) then (
 (0≤(IntKind.wrap .i64 (i1+1))∧(IntKind.wrap .i64 (i1+1))≤(s1.size:Int)) ∧
 (0≤(IntKind.wrap .i64 (((Utf8.encode r1).size:Int) - 1))∧(IntKind.wrap .i64 (((Utf8.encode r1).size:Int) - 1))<((Utf8.encode r1).size:Int)) ∧
 ∃ b4:UInt8,(Utf8.encode r1).toList[Int.toNat (IntKind.wrap .i64 (((Utf8.encode r1).size:Int) - 1))]?=some b4 ∧
 C.strings_IndexByte (ByteArray.extract s1 (Int.toNat (IntKind.wrap .i64 (i1+1))) s1.size) ((UInt8.toNat b4:Nat):Int) h7 fun r4 h8 =>
 ∃ (n2:Int),r4 = .int .i64 n2 ∧
 bif (decide (n2<0)) then (
 K (.int .i64 (-1)) h8) else (
 strings_IndexRune.k1 s1 r1 (IntKind.wrap .i64 (i1+(IntKind.wrap .i64 (n2+1)))) h8 K)) else (
 strings_IndexRune.k1 s1 r1 i1 h7 K)) else (
 K (.int .i64 (-1)) h7))))) else (
 bif (r1 == 65533) then (
 NewI s1 h1 fun h11 =>
 ∃ (I4:Heap→Prop) (M4:Heap→Nat),I4  h11 ∧
 ∀ h12:Heap,I4  h12 →
 Addr.off ⟨h1.size,0,none⟩=0 ∧
 ∃ (s3:ByteArray) (pos2:Nat),h12[Addr.block ⟨h1.size,0,none⟩]?=some (.stringIter s3 pos2) ∧
 (pos2<ByteArray.size s3→∀ h13:Heap,IterTo h12 (Addr.block ⟨h1.size,0,none⟩) s3 (pos2+(Utf8.decode s3 pos2).2) h13 →
 bif ((((Utf8.decode s3 pos2).1:Nat):Int) == 65533) then (
 K (.int .i64 (pos2:Int)) h13) else (
 I4  h13∧M4  h13<M4  h12)) ∧
 (¬ pos2<ByteArray.size s3 →
 K (.int .i64 (-1)) h12)) else (
 C.unicode_utf8_ValidRune r1 h1 fun r5 h14 =>
 ∃ (b7:Bool),r5 = .bool b7 ∧
 bif (!b7) then (
 K (.int .i64 (-1)) h14) else (
 ∃ (I5:Int→Heap→Prop) (M5:Int→Heap→Nat),I5 (IntKind.wrap .i64 (((Utf8.encode r1).size:Int) - 1)) h14 ∧
 ∀ (i3:Int),∀ h15:Heap,I5 i3 h15 →
 bif (decide (i3<(s1.size:Int))) then (
 (0≤i3∧i3<(s1.size:Int)) ∧
 ∃ b8:UInt8,s1.toList[Int.toNat i3]?=some b8 ∧
 (0≤(IntKind.wrap .i64 (((Utf8.encode r1).size:Int) - 1))∧(IntKind.wrap .i64 (((Utf8.encode r1).size:Int) - 1))<((Utf8.encode r1).size:Int)) ∧
 ∃ b9:UInt8,(Utf8.encode r1).toList[Int.toNat (IntKind.wrap .i64 (((Utf8.encode r1).size:Int) - 1))]?=some b9 ∧
 bif (((UInt8.toNat b8:Nat):Int) != ((UInt8.toNat b9:Nat):Int)) then (
 (0≤(IntKind.wrap .i64 (i3+1))∧(IntKind.wrap .i64 (i3+1))≤(s1.size:Int)) ∧
 (0≤(IntKind.wrap .i64 (((Utf8.encode r1).size:Int) - 1))∧(IntKind.wrap .i64 (((Utf8.encode r1).size:Int) - 1))<((Utf8.encode r1).size:Int)) ∧
 ∃ b10:UInt8,(Utf8.encode r1).toList[Int.toNat (IntKind.wrap .i64 (((Utf8.encode r1).size:Int) - 1))]?=some b10 ∧
 C.strings_IndexByte (ByteArray.extract s1 (Int.toNat (IntKind.wrap .i64 (i3+1))) s1.size) ((UInt8.toNat b10:Nat):Int) h15 fun r6 h16 =>
 ∃ (n3:Int),r6 = .int .i64 n3 ∧
 bif (decide (n3<0)) then (
 K (.int .i64 (-1)) h16) else (
 strings_IndexRune.k2 s1 r1 (IntKind.wrap .i64 (i3+(IntKind.wrap .i64 (n3+1)))) h16 K)) else (
 strings_IndexRune.k2 s1 r1 i3 h15 K)) else (
 K (.int .i64 (-1)) h15))))
def strings_IndexRune.lo : Nat→List Nat×List (Nat×Ty):=fun n=>match n with|5=>([0,7,8],[(9,.int .i64)])|12=>([0,7,8,9],[(12,.int .i64)])|38=>([175],[])|_=>([],[])
def strings_IndexRune.od : Nat→Od:=fun n=>match n with|6=>(.op 0 [] (.op 1 [] (.op 2 [] (.op 3 [] (.op 4 [] (.op 5 [] (.op 6 [] .nil)))))))|7=>(.op 0 [] (.op 1 [] (.op 2 [] (.op 3 [] (.op 4 [] (.op 5 [] (.op 6 [] (.op 7 [] (.op 8 [] .nil)))))))))|14=>(.op 0 [] (.op 1 [] (.op 2 [] (.op 3 [] (.op 4 [] (.op 5 [] (.op 6 [] (.op 7 [] (.op 8 [] (.op 9 [] (.op 10 [] .nil)))))))))))|31=>(.op 0 [] (.op 1 [] (.op 2 [] (.op 3 [] (.op 4 [] (.op 5 [] (.op 6 [] (.op 7 [] (.op 8 [] (.op 9 [] (.op 10 [] .nil)))))))))))|_ => .nil
set_option maxRecDepth 1000000 in
set_option maxRecDepth 1000000 in
theorem strings_IndexRune.ok {s1:ByteArray} {r1:Int} {K:Value→Heap→Prop} {h:Heap} (hx:strings_IndexRune s1 r1 K h):C.strings_IndexRune s1 r1 h K :=
 fn_to (c:=Tryz.f269.body.getD .skip) (cxOk strings_IndexRune.lo strings_IndexRune.od) Tryz.func269 (by kernel_rfl) (by kernel_rfl) (Eq.mpr (by kernel_rfl) hx)
def strings_shouldUseASCIISet (bufLen1:Int) (K:Value→Heap→Prop) (h1:Heap):Prop :=
 K (.bool (decide (bufLen1>8))) h1
def strings_shouldUseASCIISet.lo : Nat→List Nat×List (Nat×Ty):=fun n=>match n with|_=>([],[])
def strings_shouldUseASCIISet.od : Nat→Od:=fun n=>match n with|_ => .nil
theorem strings_shouldUseASCIISet.ok {bufLen1:Int} {K:Value→Heap→Prop} {h:Heap} (hx:strings_shouldUseASCIISet bufLen1 K h):C.strings_shouldUseASCIISet bufLen1 h K :=
 fn_to (c:=Tryz.f270.body.getD .skip) (cxOk strings_shouldUseASCIISet.lo strings_shouldUseASCIISet.od) Tryz.func270 (by kernel_rfl) (by kernel_rfl) (Eq.mpr (by kernel_rfl) hx)
def strings_makeASCIISet (chars1:ByteArray) (K:Value→Heap→Prop) (h1:Heap):Prop :=
 New z361 361 h1 fun h2 =>
 ∃ (I1:Int→Heap→Prop) (M1:Int→Heap→Nat),I1 0 h2 ∧
 ∀ (i1:Int),∀ h3:Heap,I1 i1 h3 →
 bif (decide (i1<(chars1.size:Int))) then (
 (0≤i1∧i1<(chars1.size:Int)) ∧
 ∃ b1:UInt8,chars1.toList[Int.toNat i1]?=some b1 ∧
 bif (decide (((UInt8.toNat b1:Nat):Int)≥128)) then (
 ∃ cs1:List Value,List.length cs1=256∧Cells h3 ⟨h1.size,0,none⟩ cs1 ∧
 PutRow ⟨h1.size,0,none⟩ cs1 256 h3 fun h4 =>
 ∃ res1:List Value,List.length res1=256∧Cells h4 ⟨h1.size,0,none⟩ res1 ∧
 K (.tuple #[.agg ⟨res1⟩,.bool false]) h4) else (
 (0≤((UInt8.toNat b1:Nat):Int)∧((UInt8.toNat b1:Nat):Int)<(256:Int)) ∧
 Put (Addr.add ⟨h1.size,0,none⟩ (Int.toNat ((UInt8.toNat b1:Nat):Int))) (.bool true) h3 fun h5 =>
 I1 (IntKind.wrap .i64 (i1+1)) h5∧M1 (IntKind.wrap .i64 (i1+1)) h5<M1 i1 h3)) else (
 ∃ cs2:List Value,List.length cs2=256∧Cells h3 ⟨h1.size,0,none⟩ cs2 ∧
 PutRow ⟨h1.size,0,none⟩ cs2 256 h3 fun h6 =>
 ∃ res2:List Value,List.length res2=256∧Cells h6 ⟨h1.size,0,none⟩ res2 ∧
 K (.tuple #[.agg ⟨res2⟩,.bool true]) h6)
def strings_makeASCIISet.lo : Nat→List Nat×List (Nat×Ty):=fun n=>match n with|2=>([0,2],[(4,.int .i64)])|_=>([],[])
def strings_makeASCIISet.od : Nat→Od:=fun n=>match n with|_ => .nil
theorem strings_makeASCIISet.ok {chars1:ByteArray} {K:Value→Heap→Prop} {h:Heap} (hx:strings_makeASCIISet chars1 K h):C.strings_makeASCIISet chars1 h K :=
 fn_to (c:=Tryz.f271.body.getD .skip) (cxOk strings_makeASCIISet.lo strings_makeASCIISet.od) Tryz.func271 (by kernel_rfl) (by kernel_rfl) (Eq.mpr (by kernel_rfl) hx)
def strings_asciiSet_contains (as1:Option Addr) (c1:Int) (K:Value→Heap→Prop) (h1:Heap):Prop :=
 onSome as1 fun p1 =>
 (0≤c1∧c1<(256:Int)) ∧
 ∃ (b1:Bool),cellOf h1 (Addr.add p1 (Int.toNat c1))=some (.bool b1) ∧
 K (.bool b1) h1
def strings_asciiSet_contains.lo : Nat→List Nat×List (Nat×Ty):=fun n=>match n with|_=>([],[])
def strings_asciiSet_contains.od : Nat→Od:=fun n=>match n with|_ => .nil
theorem strings_asciiSet_contains.ok {as1:Option Addr} {c1:Int} {K:Value→Heap→Prop} {h:Heap} (hx:strings_asciiSet_contains as1 c1 K h):C.strings_asciiSet_contains as1 c1 h K :=
 fn_to (c:=Tryz.f272.body.getD .skip) (cxOk strings_asciiSet_contains.lo strings_asciiSet_contains.od) Tryz.func272 (by kernel_rfl) (by kernel_rfl) (Eq.mpr (by kernel_rfl) hx)
def bmap_way (k1:Int) (K:Value→Heap→Prop) (h1:Heap):Prop :=
 bif (decide (k1<10)) then (
 List.length ([.int .i64 0,.int .i64 k1]:List Value)=2 ∧
 New [.int .i64 0,.int .i64 k1] 307 h1 fun h2 =>
 K (.slice (some ⟨h1.size,0,none⟩) 1 1) h2) else (
 bif (decide (k1<138)) then (
 List.length ([.int .i64 1,.int .i64 0]:List Value)=2 ∧
 List.length ([.int .i64 3,.int .i64 (IntKind.wrap .i64 (k1 - 10))]:List Value)=2 ∧
 New [.int .i64 1,.int .i64 0,.int .i64 3,.int .i64 (IntKind.wrap .i64 (k1 - 10))] 307 h1 fun h3 =>
 K (.slice (some ⟨h1.size,0,none⟩) 2 2) h3) else (
 List.length ([.int .i64 2,.int .i64 0]:List Value)=2 ∧
 List.length ([.int .i64 3,.int .i64 (IntKind.wrap .i64 (Int.tdiv (IntKind.wrap .i64 (k1 - 138)) 128))]:List Value)=2 ∧
 List.length ([.int .i64 3,.int .i64 (Int.tmod (IntKind.wrap .i64 (k1 - 138)) 128)]:List Value)=2 ∧
 New [.int .i64 2,.int .i64 0,.int .i64 3,.int .i64 (IntKind.wrap .i64 (Int.tdiv (IntKind.wrap .i64 (k1 - 138)) 128)),.int .i64 3,.int .i64 (Int.tmod (IntKind.wrap .i64 (k1 - 138)) 128)] 307 h1 fun h4 =>
 K (.slice (some ⟨h1.size,0,none⟩) 3 3) h4))
def bmap_way.lo : Nat→List Nat×List (Nat×Ty):=fun n=>match n with|_=>([],[])
def bmap_way.od : Nat→Od:=fun n=>match n with|_ => .nil
theorem bmap_way.ok {k1:Int} {K:Value→Heap→Prop} {h:Heap} (hx:bmap_way k1 K h):C.bmap_way k1 h K :=
 fn_to (c:=Tryz.f273.body.getD .skip) (cxOk bmap_way.lo bmap_way.od) Tryz.func273 (by kernel_rfl) (by kernel_rfl) (Eq.mpr (by kernel_rfl) hx)
def bmap_file_number (f1:Option Addr) (s1:List Value) (at1:Int) (K:Value→Heap→Prop) (h1:Heap):Prop :=
 New s1 307 h1 fun h2 =>
 ∃ (n1:Int),cellOf h2 (Addr.add ⟨h1.size,0,none⟩ 0)=some (.int .i64 n1) ∧
 bif (n1 != 3) then (
 ∃ cs1:List Value,List.length cs1=2∧Cells h2 ⟨h1.size,0,none⟩ cs1 ∧
 C.bmap_file_own f1 cs1 h2 fun r1 h3 =>
 ∃ (q1:Option Addr),r1 = .pointer q1 ∧
 onSome q1 fun p1 =>
 ∃ (n2:Int),cellOf h3 p1=some (.int .i64 n2) ∧
 K (.tuple #[.int .i64 n2,.slice none 0 0,.int .i64 0]) h3) else (
 onSome f1 fun p2 =>
 ∃ (q2:Option Addr),cellOf h2 (Addr.add p2 0)=some (.pointer q2) ∧
 C.txn_Txn_Read q2 at1 h2 fun r2 h4 =>
 ∃ (sA1:Option Addr) (sL1:Nat) (sC1:Nat) (n3:Int),r2 = .tuple #[.slice sA1 sL1 sC1,.int .i64 n3] ∧
 bif (n3 != 0) then (
 K (.tuple #[.int .i64 0,.slice none 0 0,.int .i64 n3]) h4) else (
 ∃ (n4:Int),cellOf h4 (Addr.add ⟨h1.size,0,none⟩ 1)=some (.int .i64 n4) ∧
 C.rec_Get sA1 sL1 sC1 (IntKind.wrap .i64 (4*n4)) 4 h4 fun r3 h5 =>
 ∃ (n5:Int) (n6:Int),r3 = .tuple #[.int .u64 n5,.int .i64 n6] ∧
 K (.tuple #[.int .i64 (IntKind.wrap .i64 (n5)),.slice sA1 sL1 sC1,.int .i64 0]) h5))
def bmap_file_number.lo : Nat→List Nat×List (Nat×Ty):=fun n=>match n with|_=>([],[])
def bmap_file_number.od : Nat→Od:=fun n=>match n with|_ => .nil
theorem bmap_file_number.ok {f1:Option Addr} {s1:List Value} {at1:Int} {K:Value→Heap→Prop} {h:Heap} (hx:bmap_file_number f1 s1 at1 K h):C.bmap_file_number f1 s1 at1 h K :=
 fn_to (c:=Tryz.f274.body.getD .skip) (cxOk bmap_file_number.lo bmap_file_number.od) Tryz.func274 (by kernel_rfl) (by kernel_rfl) (Eq.mpr (by kernel_rfl) hx)
def bmap_guard_c1 (e1:Int) (cap1:Option Addr) (cap2:Option Addr) (cap3:Option Addr) (K:Value→Heap→Prop) (h1:Heap):Prop :=
 bif (e1 != 0) then (
 onSome cap1 fun p1 =>
 ∃ (n1:Int),cellOf h1 p1=some (.int .i64 n1) ∧
 bif (n1 == 0) then (
 onSome cap2 fun p2 =>
 ∃ (q1:Option Addr),cellOf h1 p2=some (.pointer q1) ∧
 onSome cap3 fun p3 =>
 ∃ (n2:Int),cellOf h1 p3=some (.int .i64 n2) ∧
 C.txn_Txn_Back q1 n2 h1 fun r1 h2 =>
 ∃ (n3:Int),r1 = .int .i64 n3 ∧
 K (.tuple #[]) h2) else (
 K (.tuple #[]) h1)) else (
 K (.tuple #[]) h1)
def bmap_guard_c1.lo : Nat→List Nat×List (Nat×Ty):=fun n=>match n with|_=>([],[])
def bmap_guard_c1.od : Nat→Od:=fun n=>match n with|_ => .nil
theorem bmap_guard_c1.ok {e1:Int} {cap1:Option Addr} {cap2:Option Addr} {cap3:Option Addr} {K:Value→Heap→Prop} {h:Heap} (hx:bmap_guard_c1 e1 cap1 cap2 cap3 K h):C.bmap_guard_c1 e1 cap1 cap2 cap3 h K :=
 fn_to (c:=Tryz.f275.body.getD .skip) (cxOk bmap_guard_c1.lo bmap_guard_c1.od) Tryz.func275 (by kernel_rfl) (by kernel_rfl) (Eq.mpr (by kernel_rfl) hx)
def bmap_file_own (f1:Option Addr) (s1:List Value) (K:Value→Heap→Prop) (h1:Heap):Prop :=
 New s1 307 h1 fun h2 =>
 ∃ (n1:Int),cellOf h2 (Addr.add ⟨h1.size,0,none⟩ 0)=some (.int .i64 n1) ∧
 bif (n1 == 0) then (
 ∃ (n2:Int),cellOf h2 (Addr.add ⟨h1.size,0,none⟩ 1)=some (.int .i64 n2) ∧
 onSome f1 fun p1 =>
 (0≤n2∧n2<(10:Int)) ∧
 K (.pointer (some (Addr.add (Addr.add (Addr.add p1 6) 3) (Int.toNat n2)))) h2) else (
 bif (n1 == 1) then (
 onSome f1 fun p2 =>
 K (.pointer (some (Addr.add (Addr.add p2 6) 13))) h2) else (
 onSome f1 fun p3 =>
 K (.pointer (some (Addr.add (Addr.add p3 6) 14))) h2))
def bmap_file_own.lo : Nat→List Nat×List (Nat×Ty):=fun n=>match n with|_=>([],[])
def bmap_file_own.od : Nat→Od:=fun n=>match n with|3=>(.op 0 [] (.op 1 [] (.op 2 [] (.op 3 [] (.op 4 [] (.op 5 [] (.op 6 [] (.op 7 [] .nil))))))))|_ => .nil
theorem bmap_file_own.ok {f1:Option Addr} {s1:List Value} {K:Value→Heap→Prop} {h:Heap} (hx:bmap_file_own f1 s1 K h):C.bmap_file_own f1 s1 h K :=
 fn_to (c:=Tryz.f276.body.getD .skip) (cxOk bmap_file_own.lo bmap_file_own.od) Tryz.func276 (by kernel_rfl) (by kernel_rfl) (Eq.mpr (by kernel_rfl) hx)
def inode_numbers (x1:List Value) (K:Value→Heap→Prop) (h1:Heap):Prop :=
 New x1 123 h1 fun h2 =>
 New z371 371 h2 fun h3 =>
 New z371 371 h3 fun h4 =>
 CopyP ti3 (some ⟨h3.size,0,none⟩) 12 (.slice (some (Addr.add ⟨h1.size,0,none⟩ 3)) 10 10) h4 fun n1 h5 =>
 ∃ (n2:Int),cellOf h5 (Addr.add ⟨h1.size,0,none⟩ 13)=some (.int .i64 n2) ∧
 ∃ (n3:Int),cellOf h5 (Addr.add ⟨h1.size,0,none⟩ 14)=some (.int .i64 n3) ∧
 (0≤(10:Int)∧10<(12:Int)) ∧
 Put (Addr.add ⟨h3.size,0,none⟩ (Int.toNat 10)) (.int .i64 n2) h5 fun h6 =>
 (0≤(11:Int)∧11<(12:Int)) ∧
 Put (Addr.add ⟨h3.size,0,none⟩ (Int.toNat 11)) (.int .i64 n3) h6 fun h7 =>
 ∃ cs1:List Value,List.length cs1=12∧Cells h7 ⟨h3.size,0,none⟩ cs1 ∧
 PutRow ⟨h2.size,0,none⟩ cs1 12 h7 fun h8 =>
 ∃ res1:List Value,List.length res1=12∧Cells h8 ⟨h2.size,0,none⟩ res1 ∧
 K (.agg ⟨res1⟩) h8
def inode_numbers.lo : Nat→List Nat×List (Nat×Ty):=fun n=>match n with|_=>([],[])
def inode_numbers.od : Nat→Od:=fun n=>match n with|2=>(.op 0 [] (.op 1 [] (.op 2 [] (.op 3 [] .nil))))|_ => .nil
theorem inode_numbers.ok {x1:List Value} {K:Value→Heap→Prop} {h:Heap} (hx:inode_numbers x1 K h):C.inode_numbers x1 h K :=
 fn_to (c:=Tryz.f277.body.getD .skip) (cxOk inode_numbers.lo inode_numbers.od) Tryz.func277 (by kernel_rfl) (by kernel_rfl) (Eq.mpr (by kernel_rfl) hx)
def rec_zeros (bA1:Option Addr) (bL1:Nat) (bC1:Nat) (K:Value→Heap→Prop) (h1:Heap):Prop :=
 ∃ (I1:Int→Heap→Prop) (M1:Int→Heap→Nat),I1 0 h1 ∧
 ∀ (n1:Int),∀ h2:Heap,I1 n1 h2 →
 bif (decide (n1<(bL1:Int))) then (
 (0≤n1∧n1<(bL1:Int)) ∧
 onSome bA1 fun p1 =>
 ∃ (n2:Int),cellOf h2 (Addr.add p1 (Int.toNat n1))=some (.int .u8 n2) ∧
 bif (n2 != 0) then (
 K (.bool false) h2) else (
 I1 (IntKind.wrap .i64 (n1+1)) h2∧M1 (IntKind.wrap .i64 (n1+1)) h2<M1 n1 h2)) else (
 K (.bool true) h2)
def rec_zeros.lo : Nat→List Nat×List (Nat×Ty):=fun n=>match n with|2=>([5,6],[(7,.int .i64)])|_=>([],[])
def rec_zeros.od : Nat→Od:=fun n=>match n with|_ => .nil
theorem rec_zeros.ok {bA1:Option Addr} {bL1:Nat} {bC1:Nat} {K:Value→Heap→Prop} {h:Heap} (hx:rec_zeros bA1 bL1 bC1 K h):C.rec_zeros bA1 bL1 bC1 h K :=
 fn_to (c:=Tryz.f289.body.getD .skip) (cxOk rec_zeros.lo rec_zeros.od) Tryz.func289 (by kernel_rfl) (by kernel_rfl) (Eq.mpr (by kernel_rfl) hx)
end Go.Proofs.YtiapingedfnlnaaGreatDoor.W
namespace Go.Proofs.YtiapingedfnlnaaGreatDoor.W
open Go Go.Proofs Wx
def unicode_utf8_ValidRune (r1:Int) (K:Value→Heap→Prop) (h1:Heap):Prop :=
 bif (decide ((0:Int)≤r1)) then (
 bif (decide (r1<55296)) then (
 K (.bool true) h1) else (
 bif (decide ((57343:Int)<r1)) then (
 bif (decide (r1≤1114111)) then (
 K (.bool true) h1) else (
 K (.bool false) h1)) else (
 K (.bool false) h1))) else (
 bif (decide ((57343:Int)<r1)) then (
 bif (decide (r1≤1114111)) then (
 K (.bool true) h1) else (
 K (.bool false) h1)) else (
 K (.bool false) h1))
def unicode_utf8_ValidRune.lo : Nat→List Nat×List (Nat×Ty):=fun n=>match n with|_=>([],[])
def unicode_utf8_ValidRune.od : Nat→Od:=fun n=>match n with|_ => .nil
set_option maxRecDepth 1000000 in
set_option maxRecDepth 1000000 in
theorem unicode_utf8_ValidRune.ok {r1:Int} {K:Value→Heap→Prop} {h:Heap} (hx:unicode_utf8_ValidRune r1 K h):C.unicode_utf8_ValidRune r1 h K :=
 fn_to (c:=Tryz.f311.body.getD .skip) (cxOk unicode_utf8_ValidRune.lo unicode_utf8_ValidRune.od) Tryz.func311 (by kernel_rfl) (by kernel_rfl) (Eq.mpr (by kernel_rfl) hx)
end Go.Proofs.YtiapingedfnlnaaGreatDoor.W
namespace Go.Proofs.YtiapingedfnlnaaGreatDoor.W
open Go Go.Proofs Wx
def maps_Keys_map_int_byte_int_byte (m1:Option Nat) (K:Value→Heap→Prop) (h1:Heap):Prop :=
 New [.map m1] 207 h1 fun h2 =>
 K (.func (.func 180) #[] ⟨[.pointer (some ⟨h1.size,0,none⟩)]⟩) h2
def maps_Keys_map_int_byte_int_byte.lo : Nat→List Nat×List (Nat×Ty):=fun n=>match n with|_=>([],[])
def maps_Keys_map_int_byte_int_byte.od : Nat→Od:=fun n=>match n with|_ => .nil
theorem maps_Keys_map_int_byte_int_byte.ok {m1:Option Nat} {K:Value→Heap→Prop} {h:Heap} (hx:maps_Keys_map_int_byte_int_byte m1 K h):C.maps_Keys_map_int_byte_int_byte m1 h K :=
 fn_to (c:=Tryz.f107.body.getD .skip) (cxOk maps_Keys_map_int_byte_int_byte.lo maps_Keys_map_int_byte_int_byte.od) Tryz.func107 (by kernel_rfl) (by kernel_rfl) (Eq.mpr (by kernel_rfl) hx)
end Go.Proofs.YtiapingedfnlnaaGreatDoor.W
namespace Go.Proofs.YtiapingedfnlnaaGreatDoor.Re
open Go Go.Proofs Wx Hp W Su
def widthsL : List Bool:=[false,true,true,false,true,false,false,false,true]
def Wide (h:Heap):Prop:=rd h 0=widthsL.map .bool
theorem Wide.lt {h:Heap} (g:Wide h):0<h.size:=rd_lt (show (rd h 0)[0]?=some (.bool false) by rw [g]; rfl)
theorem Wide.fr {h h':Heap} {F:Nat→Prop} (g:Wide h) (f:Fr F h h') (hF:¬ F 0):Wide h':=(f.rd g.lt hF).trans g
theorem lie_spec {a:Option Addr} {l c:Nat} {at_ n:Int} {h:Heap} {K:Value→Heap→Prop} (hl:l≤140737488355328) (h0:0≤at_) (h1:0≤n) (h2:at_+n≤l) (hK:K (.bool true) h):C.rec_lie a l c at_ n h K:=by
 refine rec_lie.ok (ct (decide_eq_true h0) (ct (decide_eq_true h1) (ct (decide_eq_true (by omega)) ?_)))
 rw [wrap_i64 (by omega) (by omega),decide_eq_true (by omega)]; exact hK
def leN : List UInt8→Nat
 | []=>0
 | b::r=>b.toNat+256*leN r
theorem leN_lt : ∀ bs:List UInt8,leN bs<256 ^ bs.length:=by
 intro bs
 induction bs with
 | nil=>exact Nat.one_pos
 | cons b r ih =>
  have hb:b.toNat<256:=b.toNat_lt
  rw [leN,List.length_cons,Nat.pow_succ]; omega
theorem leN_snoc (bs:List UInt8) (b:UInt8):leN (bs++[b])=leN bs+b.toNat*256 ^ bs.length:=by
 induction bs with
 | nil=>simp [leN]
 | cons x r ih=>rw [List.cons_append,leN,ih,leN,List.length_cons,Nat.pow_succ,Nat.mul_add]; simp only [Nat.mul_comm,Nat.mul_left_comm,Nat.mul_assoc,Nat.add_assoc]
theorem pow_256 (k:Nat):256 ^ k=2 ^ (8*k):=by rw [Nat.pow_mul]
theorem or_step {v:Nat} {b:UInt8} {k:Nat} (hk:k<8) (hv:v<256 ^ k) :
  bitsI .or .u64 (v:Int) (IntKind.wrap .u64 ((IntKind.wrap .u64 (b.toNat:Int))*2 ^ min (Int.toNat (IntKind.wrap .i64 (8*(k:Int)))) 64))=((v+b.toNat*256 ^ k:Nat):Int):=by
 have hb:b.toNat<256:=b.toNat_lt
 have wu:∀ n:Nat,n<18446744073709551616→IntKind.wrap .u64 (n:Int)=(n:Int):=fun n h=>by
  show (n:Int) % 18446744073709551616=n
  exact Int.emod_eq_of_lt (by omega) (by omega)
 rw [wrap_i64 (by omega) (by omega),wu _ (by omega)]
 have e1:min (Int.toNat (8*(k:Int))) 64=8*k:=by omega
 rw [e1]
 have hp:256 ^ k≤256 ^ 7:=Nat.pow_le_pow_right (by decide) (by omega)
 have hp1:256 ^ (k+1)≤256 ^ 8:=Nat.pow_le_pow_right (by decide) (by omega)
 have hsum:v+b.toNat*256 ^ k<256 ^ (k+1):=by
  rw [Nat.pow_succ]
  have:b.toNat*256 ^ k≤255*256 ^ k:=Nat.mul_le_mul_right _ (by omega)
  omega
 have e8:(256:Nat) ^ 8=18446744073709551616:=by decide
 have e2:((b.toNat:Int)*2 ^ (8*k))=((b.toNat*256 ^ k:Nat):Int):=by rw [pow_256]; simp
 rw [e2,wu _ (by omega)]
 show IntKind.wrap .u64 (((BitVec.ofInt 64 (v:Int) ||| BitVec.ofInt 64 ((b.toNat*256 ^ k:Nat):Int)).toNat:Nat):Int)=_
 rw [BitVec.toNat_or,BitVec.ofInt_natCast,BitVec.ofInt_natCast,BitVec.toNat_ofNat,BitVec.toNat_ofNat,Nat.mod_eq_of_lt (by omega),Nat.mod_eq_of_lt (by omega)]
 have e3:v ||| b.toNat*256 ^ k=v+b.toNat*256 ^ k:=by
  rw [Nat.or_comm,pow_256,Nat.mul_comm,← Nat.two_pow_add_eq_or_of_lt (by rw [← pow_256]; exact hv)]
  omega
 rw [e3,wu _ (by omega)]
def putU (xs:List UInt8) (o:Nat) (ys:List UInt8):List UInt8:=xs.take o++ys++xs.drop (o+ys.length)
theorem putU_length {xs ys:List UInt8} {o:Nat} (h:o+ys.length≤xs.length):(putU xs o ys).length=xs.length:=by
 simp only [putU,List.length_append,List.length_take,List.length_drop]; omega
theorem putU_put {xs ys:List UInt8} {o:Nat} (h:o+ys.length≤xs.length):put (xs.map bv) o (ys.map bv)=(putU xs o ys).map bv:=by
 rw [put_eq _ _ _ (by rw [List.length_map,List.length_map]; exact h)]
 simp only [putU,List.map_append,List.map_take,List.map_drop,List.length_map]
theorem putU_nil (xs:List UInt8) (o:Nat):putU xs o []=xs:=by simp [putU]
theorem putU_app (xs ys zs:List UInt8) (ys':List UInt8) (h:ys'.length=ys.length):putU (xs++ys++zs) xs.length ys'=xs++ys'++zs:=by
 have e1:(xs++ys++zs).take xs.length=xs:=by rw [List.append_assoc,List.take_left]
 have e2:(xs++ys++zs).drop (xs.length+ys.length)=zs:=by rw [← List.length_append,List.drop_left]
 rw [putU,h,e1,e2]
def leBs (n v:Nat):List UInt8:=(List.range n).map fun k=>UInt8.ofNat (v / 256 ^ k)
theorem leB_length (n v:Nat):(leBs n v).length=n:=by rw [leBs,List.length_map,List.length_range]
theorem byte_of (v k:Nat) (hk:k<8):(Value.int .u8 (IntKind.wrap .u8 (Int.fdiv (v:Int) (2 ^ min (Int.toNat (IntKind.wrap .i64 (8*(k:Int)))) 64))))=bv (UInt8.ofNat (v / 256 ^ k)):=by
 rw [wrap_i64 (by omega) (by omega),show min (Int.toNat (8*(k:Int))) 64=8*k by omega]
 have e:Int.fdiv (v:Int) (2 ^ (8*k))=((v / 256 ^ k:Nat):Int):=by
  rw [pow_256,Int.fdiv_eq_ediv_of_nonneg _ (by exact Int.le_of_lt (Int.pow_pos (by decide)))]
  simp
 rw [e]
 show Value.int .u8 (((v / 256 ^ k:Nat):Int) % 256)=Value.int .u8 ((UInt8.ofNat (v / 256 ^ k)).toNat:Int)
 rw [UInt8.toNat_ofNat']
 simp
def allZero (bs:List UInt8):Bool:=bs.all (· == 0)
theorem zeros_spec {a:Option Addr} {l c:Nat} {bs:List UInt8} {h:Heap} {K:Value→Heap→Prop} (B:StrAt h a l bs) (hl:l≤140737488355328) (hK:K (.bool (allZero bs)) h):C.rec_zeros a l c h K:=by
 have hb:=B.1
 refine rec_zeros.ok ⟨fun n hh=>0≤n∧n≤l∧h=hh∧allZero bs=allZero (bs.drop n.toNat),fun n _=>((l:Int) - n).toNat,⟨by omega,by omega,rfl,rfl⟩,?_⟩
 rintro n _ ⟨n0,n1,rfl,e⟩
 refine cd (fun hn=>?_) fun hn=>?_
 ·have hn':n.toNat<bs.length:=by omega
  obtain ⟨_,B2⟩:=B
  have ed:allZero (bs.drop n.toNat)=(bs[n.toNat] == 0 && allZero (bs.drop (n.toNat+1))):=by rw [List.drop_eq_getElem_cons hn']; rfl
  cases a with
  | none=>have B2:bs.map bv=[]:=B2; have:=List.map_eq_nil_iff.mp B2; rw [this] at hn'; exact absurd hn' (by simp)
  | some p =>
   refine ⟨⟨n0,hn⟩,os ⟨_,B2 n.toNat (bv bs[n.toNat]) (by rw [List.getElem?_map,List.getElem?_eq_getElem hn']; rfl),cn (fun x=>?_) fun x=>?_⟩⟩
   ·have:(bs[n.toNat] == 0)=false:=by
     rw [beq_eq_false_iff_ne]; intro e0; rw [e0] at x; exact x rfl
    rw [e,ed,this] at hK; exact hK
   ·have:(bs[n.toNat] == 0)=true:=by
     rw [beq_iff_eq]; exact UInt8.toNat_inj.mp (by have x:((bs[n.toNat].toNat:Nat):Int)=0:=x; show _=0; omega)
    rw [wrap_i64 (by omega) (by omega)]
    exact ⟨⟨by omega,by omega,rfl,by rw [e,ed,this,show (n+1).toNat=n.toNat+1 by omega]; rfl⟩,falls hn⟩
 ·rw [List.drop_of_length_le (by omega)] at e
  rw [e] at hK; exact hK
theorem StrAt.cut {h:Heap} {a:Option Addr} {l c i j:Nat} {bs:List UInt8} (B:StrAt h a l bs) (hlc:l≤c) (hij:i≤j) (hj:j≤l):StrAt h (if c=i then a else Option.map (Addr.add · i) a) (j - i) ((bs.drop i).take (j - i)):=by
 by_cases e:c=i
 ·rw [if_pos e]
  have:j - i=0:=by omega
  rw [this,List.take_zero]; exact StrAt.nil _ _
 ·rw [if_neg e]
  exact StrAt.take (StrAt.drop B i) (by omega)
theorem Zero_spec {a:Option Addr} {l c:Nat} {bs:List UInt8} {at_ n:Int} {h:Heap} {K:Value→Heap→Prop} (B:StrAt h a l bs) (hlc:l≤c) (hl:l≤140737488355328) (h0:0≤at_) (h1:0≤n) (h2:at_+n≤l)
  (hK:K (.tuple #[.bool (allZero ((bs.drop at_.toNat).take n.toNat)),.int .i64 0]) h):C.rec_Zero a l c at_ n h K:=by
 refine rec_Zero.ok (cf (decide_eq_false (by omega)) (lie_spec hl h0 h1 h2 ⟨_,rfl,cnot (ct rfl ?_)⟩))
 rw [wrap_i64 (by omega) (by omega)]
 have e:(at_+n).toNat - at_.toNat=n.toNat:=by omega
 refine ⟨⟨h0,by omega,by omega⟩,zeros_spec (bs:=(bs.drop at_.toNat).take n.toNat) ?_ (by omega) ⟨_,rfl,hK⟩⟩
 have:=StrAt.cut B hlc (i:=at_.toNat) (j:=(at_+n).toNat) (by omega) (by omega)
 rw [e] at this
 rw [e]; exact this
theorem ahead_spec {a:Option Addr} {l c:Nat} {bs:List UInt8} {h:Heap} {K:Value→Heap→Prop} (B:StrAt h a l bs) (hl:l≤140737488355328) (hz:∀ x ∈ bs,x≠0) (hK:K (.int .i64 l) h):C.rec_ahead a l c h K:=by
 have hb:=B.1
 refine rec_ahead.ok ⟨fun n hh=>0≤n∧n≤l∧h=hh,fun n _=>((l:Int) - n).toNat,⟨by omega,by omega,rfl⟩,?_⟩
 rintro n _ ⟨n0,n1,rfl⟩
 refine cd (fun hn=>?_) fun hn=>hK
 have hn':n.toNat<bs.length:=by omega
 obtain ⟨_,B2⟩:=B
 cases a with
 | none=>have B2:bs.map bv=[]:=B2; have:=List.map_eq_nil_iff.mp B2; rw [this] at hn'; exact absurd hn' (by simp)
 | some p =>
  refine ⟨⟨n0,hn⟩,os ⟨_,B2 n.toNat (bv bs[n.toNat]) (by rw [List.getElem?_map,List.getElem?_eq_getElem hn']; rfl),ce (fun x=>?_) fun x=>?_⟩⟩
  ·exact absurd (UInt8.toNat_inj.mp (by have x:((bs[n.toNat].toNat:Nat):Int)=0:=x; show _=0; omega)) (hz _ (List.getElem_mem hn'))
  ·rw [wrap_i64 (by omega) (by omega)]
   exact ⟨⟨by omega,by omega,rfl⟩,falls hn⟩
end Go.Proofs.YtiapingedfnlnaaGreatDoor.Re
namespace Go.Proofs.YtiapingedfnlnaaGreatDoor.Hd
open Go Go.Proofs Wx Hp W Su Re
def ints (ns:List Int):List Value:=ns.map fun n => .int .i64 n
def zeros (n:Nat):List UInt8:=List.replicate n 0
theorem zeros_add (m n:Nat):zeros (m+n)=zeros m++zeros n:=List.replicate_append_replicate.symm
theorem zeros_length (n:Nat):(zeros n).length=n:=List.length_replicate
def flat4 (ns:List Int):List UInt8:=ns.flatMap fun i=>leBs 4 i.toNat
theorem flat4_length (ns:List Int):(flat4 ns).length=4*ns.length:=by
 induction ns with
 | nil=>rfl
 | cons n r ih =>
  have e:flat4 (n::r)=leBs 4 n.toNat++flat4 r:=rfl
  rw [e,List.length_append,leB_length,ih,List.length_cons]; omega
theorem wrap_u64 {n:Int} (h0:0≤n) (h1:n<18446744073709551616):IntKind.wrap .u64 n=n:=by
 show n % 18446744073709551616=n
 exact Int.emod_eq_of_lt h0 h1
end Go.Proofs.YtiapingedfnlnaaGreatDoor.Hd
namespace Go.Proofs.YtiapingedfnlnaaGreatDoor.Hd
open Go Go.Proofs Wx Hp W Su Re
def getAt (hd:List UInt8) (o n:Nat):Nat:=leN ((hd.drop o).take n)
theorem getAt_lt (hd:List UInt8) (o n:Nat):getAt hd o n<256 ^ n:=by
 refine Nat.lt_of_lt_of_le (leN_lt _) (Nat.pow_le_pow_right (by decide) ?_)
 rw [List.length_take]; exact Nat.min_le_left _ _
theorem leB_succ (n v:Nat):leBs (n+1) v=UInt8.ofNat v::leBs n (v / 256):=by
 rw [leBs,List.range_succ_eq_map,List.map_cons,List.map_map]
 congr 1
 ·rw [Nat.pow_zero,Nat.div_one]
 ·rw [leBs]
  apply List.map_congr_left
  intro k _
  show UInt8.ofNat (v / 256 ^ (k+1))=UInt8.ofNat (v / 256 / 256 ^ k)
  rw [Nat.pow_succ,Nat.mul_comm,Nat.div_div_eq_div_mul]
theorem leN_leB : ∀ (n v:Nat),v<256 ^ n→leN (leBs n v)=v:=by
 intro n
 induction n with
 | zero =>
  intro v h
  have e:v=0:=by simpa using h
  rw [e]; rfl
 | succ n ih =>
  intro v h
  rw [leB_succ,leN,ih (v / 256) (by rw [Nat.pow_succ] at h; omega),UInt8.toNat_ofNat']
  omega
theorem drop_app {xs ys:List UInt8} {n:Nat} (h:xs.length=n):(xs++ys).drop n=ys:=by rw [← h,List.drop_left]
theorem take_app {xs ys:List UInt8} {n:Nat} (h:xs.length=n):(xs++ys).take n=xs:=by rw [← h,List.take_left]
theorem flat4_part : ∀ (ns:List Int) (i:Nat) (hi:i<ns.length) (zs:List UInt8),((flat4 ns++zs).drop (4*i)).take 4=leBs 4 ns[i].toNat:=by
 intro ns
 induction ns with
 | nil=>intro i hi; exact absurd hi (Nat.not_lt_zero _)
 | cons n r ih =>
  intro i hi zs
  have e:flat4 (n::r)=leBs 4 n.toNat++flat4 r:=rfl
  rw [e,List.append_assoc]
  cases i with
  | zero=>rw [Nat.mul_zero,List.drop_zero]; exact take_app (leB_length _ _)
  | succ i =>
   rw [show 4*(i+1)=4+4*i by omega,← List.drop_drop,drop_app (leB_length _ _)]
   exact ih i (by simpa using hi) zs
theorem bv_wrap (n:Int):(Value.int .u8 (IntKind.wrap .u8 n))=bv (UInt8.ofNat (n % 256).toNat):=by
 show Value.int .u8 (n % 256)=Value.int .u8 ((UInt8.ofNat (n % 256).toNat).toNat:Int)
 rw [UInt8.toNat_ofNat']
 congr 1
 have:=Int.emod_nonneg n (show (256:Int)≠0 by decide)
 have:=Int.emod_lt_of_pos n (show (0:Int)<256 by decide)
 omega
end Go.Proofs.YtiapingedfnlnaaGreatDoor.Hd
namespace Go.Proofs.YtiapingedfnlnaaGreatDoor.In
open Go Go.Proofs Re Hd
def z15 : List Int:=List.replicate 15 0
def kindOk (k l s:Int) (R:List Int):Bool :=
 if k=0 then decide (R=z15) else if k=1 then (decide (0≤l) && decide (l≤1000)) && (decide (0≤s) && decide (s≤8459264))
 else if k=2 then (decide (2≤l) && decide (l≤65535)) && ((decide (0≤s) && decide (s≤8459264)) && decide (s % 512=0))
 else if k=3 then (decide (1≤l) && decide (l≤1000)) && (decide (1≤s) && decide (s≤1024)) else false
def wordOk (n:Int):Bool:=decide (0≤n) && decide (n≤4294967295)
def mayR (R:List Int):Bool:=(R.drop 3).all wordOk && kindOk (R.getD 0 0) (R.getD 1 0) (R.getD 2 0) R
def encR (R:List Int):List UInt8:=leBs 1 (R.getD 0 0).toNat++([0]++(leBs 2 (R.getD 1 0).toNat++(leBs 4 (R.getD 2 0).toNat++(flat4 (R.drop 3)++zeros 8))))
def getR (bs:List UInt8):List Int:=[(getAt bs 0 1:Int),(getAt bs 2 2:Int),(getAt bs 4 4:Int)]++(List.range 12).map fun i=>(getAt bs (8+4*i) 4:Int)
theorem getR_length (bs:List UInt8):(getR bs).length=15:=by rw [getR,List.length_append,List.length_map,List.length_range]; rfl
def clean (bs:List UInt8):Bool:=allZero ((bs.drop 1).take 1) && allZero ((bs.drop 56).take 8)
def decOk (bs:List UInt8):Bool:=clean bs && mayR (getR bs)
def decA (bs:List UInt8):List Int×Int:=if bs.length≠64 then (z15,32) else if decOk bs then (getR bs,0) else (z15,111)
theorem list15 {R:List Int} (h:R.length=15):R=[R.getD 0 0,R.getD 1 0,R.getD 2 0]++R.drop 3:=by
 match R,h with
 | [a,b,c,d0,d1,d2,d3,d4,d5,d6,d7,d8,d9,x,y],_=>rfl
theorem mayR_bounds {R:List Int} (h:R.length=15) (m:mayR R=true):0≤R.getD 0 0∧R.getD 0 0≤3∧0≤R.getD 1 0∧R.getD 1 0≤65535∧0≤R.getD 2 0∧R.getD 2 0≤8459264∧∀ n ∈ R.drop 3,0≤n∧n≤4294967295:=by
 rw [mayR,Bool.and_eq_true] at m
 have hw:∀ n ∈ R.drop 3,0≤n∧n≤4294967295:=fun n hn=>by
  have:=List.all_eq_true.mp m.1 n hn
  rw [wordOk,Bool.and_eq_true,decide_eq_true_eq,decide_eq_true_eq] at this; exact this
 have k:=m.2
 unfold kindOk at k
 split at k
 ·rename_i h0
  have e:=of_decide_eq_true k
  subst e
  refine ⟨by decide,by decide,by decide,by decide,by decide,by decide,hw⟩
 ·split at k
  ·simp only [Bool.and_eq_true,decide_eq_true_eq] at k
   exact ⟨by omega,by omega,by omega,by omega,by omega,by omega,hw⟩
  ·split at k
   ·simp only [Bool.and_eq_true,decide_eq_true_eq] at k
    exact ⟨by omega,by omega,by omega,by omega,by omega,by omega,hw⟩
   ·split at k
    ·simp only [Bool.and_eq_true,decide_eq_true_eq] at k
     exact ⟨by omega,by omega,by omega,by omega,by omega,by omega,hw⟩
    ·cases k
theorem encR_length {R:List Int} (h:R.length=15):(encR R).length=64:=by
 simp only [encR,List.length_append,leB_length,flat4_length,zeros_length,List.length_drop,h,List.length_singleton]
theorem encR_drops {R:List Int} (h:R.length=15):(encR R).drop 1=[0]++(leBs 2 (R.getD 1 0).toNat++(leBs 4 (R.getD 2 0).toNat++(flat4 (R.drop 3)++zeros 8)))∧(encR R).drop 2=leBs 2 (R.getD 1 0).toNat++(leBs 4 (R.getD 2 0).toNat++(flat4 (R.drop 3)++zeros 8)) ∧
  (encR R).drop 4=leBs 4 (R.getD 2 0).toNat++(flat4 (R.drop 3)++zeros 8)∧(encR R).drop 8=flat4 (R.drop 3)++zeros 8∧(encR R).drop 56=zeros 8:=by
 have d1:(encR R).drop 1=[0]++(leBs 2 (R.getD 1 0).toNat++(leBs 4 (R.getD 2 0).toNat++(flat4 (R.drop 3)++zeros 8))):=drop_app (leB_length 1 _)
 have d2:(encR R).drop 2=leBs 2 (R.getD 1 0).toNat++(leBs 4 (R.getD 2 0).toNat++(flat4 (R.drop 3)++zeros 8)):=by rw [show 2=1+1 by rfl,← List.drop_drop,d1]; rfl
 have d4:(encR R).drop 4=leBs 4 (R.getD 2 0).toNat++(flat4 (R.drop 3)++zeros 8):=by rw [show 4=2+2 by rfl,← List.drop_drop,d2]; exact drop_app (leB_length 2 _)
 have d8:(encR R).drop 8=flat4 (R.drop 3)++zeros 8:=by rw [show 8=4+4 by rfl,← List.drop_drop,d4]; exact drop_app (leB_length 4 _)
 refine ⟨d1,d2,d4,d8,?_⟩
 rw [show 56=8+48 by rfl,← List.drop_drop,d8]
 exact drop_app (by rw [flat4_length,List.length_drop,h])
theorem getR_enc {R:List Int} (h:R.length=15) (m:mayR R=true):getR (encR R)=R∧clean (encR R)=true:=by
 obtain ⟨k0,k1,l0,l1,s0,s1,hw⟩:=mayR_bounds h m
 obtain ⟨d1,d2,d4,d8,d56⟩:=encR_drops h
 refine ⟨?_,?_⟩
 ·conv=>rhs; rw [list15 h]
  have g0:getAt (encR R) 0 1=(R.getD 0 0).toNat:=by
   rw [getAt,List.drop_zero,encR,take_app (leB_length 1 _),leN_leB 1 _ (by omega)]
  have g1:getAt (encR R) 2 2=(R.getD 1 0).toNat:=by
   rw [getAt,d2,take_app (leB_length 2 _),leN_leB 2 _ (by omega)]
  have g2:getAt (encR R) 4 4=(R.getD 2 0).toNat:=by
   rw [getAt,d4,take_app (leB_length 4 _),leN_leB 4 _ (by omega)]
  rw [getR,g0,g1,g2,Int.toNat_of_nonneg k0,Int.toNat_of_nonneg l0,Int.toNat_of_nonneg s0]
  congr 1
  apply List.ext_getElem
  ·rw [List.length_map,List.length_range,List.length_drop,h]
  ·intro i h1 h2
   rw [List.length_map,List.length_range] at h1
   rw [List.getElem_map,List.getElem_range,getAt,← List.drop_drop,d8,flat4_part _ i h2,leN_leB 4 _ (by have:=(hw _ (List.getElem_mem h2)).2; have:=(hw _ (List.getElem_mem h2)).1; omega),Int.toNat_of_nonneg (hw _ (List.getElem_mem h2)).1]
 ·rw [clean,d1,d56]; rfl
end Go.Proofs.YtiapingedfnlnaaGreatDoor.In
namespace Go.Proofs.YtiapingedfnlnaaGreatDoor.In
open Go Go.Proofs Wx Hp W Su Re Hd
structure Glo (h:Heap):Prop where
 wide:Wide h
theorem Glo.fr {h h':Heap} {F:Nat→Prop} (g:Glo h) (f:Fr F h h') (h1:∀ b,b<1→¬ F b):Glo h':=⟨g.wide.fr f (h1 _ (by decide))⟩
theorem Glo.no {h h':Heap} (g:Glo h) (f:Fr No h h'):Glo h':=g.fr f fun _ _ x=>x
theorem Glo.lt {h:Heap} (g:Glo h):1≤h.size:=by have:=g.wide.lt; omega
theorem isWidth_spec {n:Int} {h:Heap} {K:Value→Heap→Prop} (g:Glo h) (hn:n=1∨n=2∨n=4∨n=8) (hK:K (.bool true) h):C.rec_isWidth n h K:=by
 refine rec_isWidth.ok (ct (decide_eq_true (by omega)) (ct (decide_eq_true (by omega)) ⟨⟨by omega,by omega⟩,true,rda g.wide ?_,hK⟩))
 rcases hn with rfl|rfl|rfl|rfl <;> rfl
theorem Get_w {a:Option Addr} {l c:Nat} {bs:List UInt8} {at_ n:Int} {h:Heap} {K:Value→Heap→Prop} (g:Glo h) (B:StrAt h a l bs) (hl:l≤140737488355328) (hn:n=1∨n=2∨n=4∨n=8) (h0:0≤at_) (h2:at_+n≤l)
  (hK:K (.tuple #[.int .u64 (leN ((bs.drop at_.toNat).take n.toNat)),.int .i64 0]) h):C.rec_Get a l c at_ n h K:=by
 have hb:=B.1
 refine rec_Get.ok (isWidth_spec g hn ⟨_,rfl,cnot (ct rfl (lie_spec hl h0 (by omega) h2 ⟨_,rfl,cnot (ct rfl ?_)⟩))⟩)
 have hlen:∀ k:Nat,(k:Int)≤n→((bs.drop at_.toNat).take k).length=k:=fun k hk=>by rw [List.length_take,List.length_drop]; omega
 refine ⟨fun v k hh=>0≤k∧k≤n∧h=hh∧v=(leN ((bs.drop at_.toNat).take k.toNat):Nat),fun _ k _=>(n - k).toNat,⟨by omega,by omega,rfl,rfl⟩,?_⟩
 rintro v k _ ⟨k0,k1,rfl,rfl⟩
 refine cd (fun hk=>?_) fun hk=>?_
 ·rw [wrap_i64 (n:=at_+k) (by omega) (by omega)]
  obtain ⟨_,B2⟩:=B
  have hi:at_.toNat+k.toNat<bs.length:=by omega
  cases a with
  | none=>have B2:bs.map bv=[]:=B2; have:=List.map_eq_nil_iff.mp B2; rw [this] at hi; exact absurd hi (by simp)
  | some p =>
   refine ⟨⟨by omega,by omega⟩,os ⟨_,B2 (at_+k).toNat (bv bs[at_.toNat+k.toNat]) (by rw [show (at_+k).toNat=at_.toNat+k.toNat by omega,List.getElem?_map,List.getElem?_eq_getElem hi]; rfl),?_⟩⟩
   have w8:IntKind.wrap .i64 (8*k)=8*k:=wrap_i64 (by omega) (by omega)
   rw [if_neg (by rw [w8]; omega),wrap_i64 (n:=k+1) (by omega) (by omega)]
   have hlk:=hlen k.toNat (by omega)
   have hlt:=leN_lt ((bs.drop at_.toNat).take k.toNat)
   rw [hlk] at hlt
   have eo:=or_step (v:=leN ((bs.drop at_.toNat).take k.toNat)) (b:=bs[at_.toNat+k.toNat]) (k:=k.toNat) (by omega) hlt
   rw [show ((k.toNat:Nat):Int)=k by omega] at eo
   rw [eo]
   refine ⟨⟨by omega,by omega,rfl,?_⟩,by show (n - (k+1)).toNat<(n - k).toNat; omega⟩
   have hi2:k.toNat<(bs.drop at_.toNat).length:=by rw [List.length_drop]; omega
   rw [show (k+1).toNat=k.toNat+1 by omega,List.take_succ_eq_append_getElem hi2,leN_snoc,hlk,List.getElem_drop]
 ·have:k=n:=by omega
  subst this
  exact hK
theorem Put_w {b o l c:Nat} {bs:List UInt8} {at_ n:Int} {v:Nat} {F:Nat→Prop} {h:Heap} {K:Value→Heap→Prop} (g:Glo h) (s:Sl h 1 (some ⟨b,o,none⟩) l c (bs.map bv) F) (hl:l≤140737488355328) (hn:n=1∨n=2∨n=4) (h0:0≤at_) (h2:at_+n≤l)
  (hv:v<256 ^ n.toNat) (hK:∀ h',Fr (fun x=>x=b) h h'→Sl h' 1 (some ⟨b,o,none⟩) l c ((putU bs at_.toNat (leBs n.toNat v)).map bv) F→K (.int .i64 0) h'):C.rec_Put (some ⟨b,o,none⟩) l c at_ n (v:Int) h K:=by
 have hbl:=s.1
 rw [List.length_map,Nat.mul_one] at hbl
 refine rec_Put.ok (isWidth_spec g (by omega) ⟨_,rfl,cnot (ct rfl (ct (decide_eq_true (by omega)) ?_))⟩)
 have w8:IntKind.wrap .i64 (8*n)=8*n:=wrap_i64 (by omega) (by omega)
 rw [if_neg (by rw [w8]; omega)]
 have hz:Int.fdiv (v:Int) (2 ^ min (Int.toNat (IntKind.wrap .i64 (8*n))) 64)=0:=by
  rw [w8,show min (Int.toNat (8*n)) 64=8*n.toNat by omega]
  have e:Int.fdiv (v:Int) (2 ^ (8*n.toNat))=((v / 256 ^ n.toNat:Nat):Int):=by
   rw [pow_256,Int.fdiv_eq_ediv_of_nonneg _ (by exact Int.le_of_lt (Int.pow_pos (by decide)))]
   simp
  rw [e,Nat.div_eq_of_lt hv]; rfl
 refine cf (by rw [hz]; rfl) (lie_spec hl h0 (by omega) h2 ⟨_,rfl,cnot (ct rfl ?_)⟩)
 have hlB:=leB_length n.toNat v
 refine ⟨fun k hh=>0≤k∧k≤n∧Fr (fun x=>x=b) h hh∧Sl hh 1 (some ⟨b,o,none⟩) l c ((putU bs at_.toNat ((leBs n.toNat v).take k.toNat)).map bv) F,fun k _=>(n - k).toNat,⟨by omega,by omega,Fr.refl _ _,by rw [show (0:Int).toNat=0 from rfl,List.take_zero,putU_nil]; exact s⟩,?_⟩
 rintro k h4 ⟨k0,k1,f4,s4⟩
 refine cd (fun hk=>?_) fun hk=>?_
 ·rw [if_neg (by rw [wrap_i64 (by omega) (by omega)]; omega),wrap_i64 (n:=at_+k) (by omega) (by omega)]
  obtain ⟨w1,w2⟩:=s4.wr
  refine ⟨⟨by omega,by omega⟩,os (Put.add w1 (by omega) fun h5 d5=>?_)⟩
  have hkB:k.toNat<(leBs n.toNat v).length:=by omega
  have eb:=byte_of v k.toNat (by omega)
  rw [show ((k.toNat:Nat):Int)=k by omega] at eb
  rw [eb] at d5
  have s5:=s4.putAt (j:=(at_+k).toNat) (new:=[_]) (by rw [List.length_singleton]; omega) d5
  rw [wrap_i64 (n:=k+1) (by omega) (by omega)]
  refine ⟨⟨by omega,by omega,f4.did d5 (fun _=>rfl),?_⟩,by show (n - (k+1)).toNat<(n - k).toNat; omega⟩
  have hl1:((leBs n.toNat v).take k.toNat).length=k.toNat:=by rw [List.length_take]; omega
  have ee:(leBs n.toNat v)[k.toNat]=UInt8.ofNat (v / 256 ^ k.toNat):=by simp only [leBs,List.getElem_map,List.getElem_range]
  have ep:put ((putU bs at_.toNat ((leBs n.toNat v).take k.toNat)).map bv) (at_+k).toNat [bv (UInt8.ofNat (v / 256 ^ k.toNat))]=(putU bs at_.toNat ((leBs n.toNat v).take (k+1).toNat)).map bv:=by
   rw [← putU_put (by rw [hl1]; omega),← putU_put (by rw [List.length_take]; omega),show (k+1).toNat=k.toNat+1 by omega,List.take_succ_eq_append_getElem hkB,List.map_append,List.map_singleton,ee]
   have:∀ (ys:List Value) (X:List Value) (o:Nat) (y:Value),put X o (ys++[y])=(put X o ys).set (o+ys.length) y:=by
    intro ys
    induction ys with
    | nil=>intro X o y; rfl
    | cons v r ih =>
     intro X o y
     show put (X.set o v) (o+1) (r++[y])=_
     rw [ih,List.length_cons,show o+1+r.length=o+(r.length+1) by omega]; rfl
   rw [this,List.length_map,hl1,show (at_+k).toNat=at_.toNat+k.toNat by omega]; rfl
  rw [ep] at s5
  exact s5
 ·have:k=n:=by omega
  subst this
  rw [List.take_of_length_le (by omega)] at s4
  exact hK h4 f4 s4
end Go.Proofs.YtiapingedfnlnaaGreatDoor.In
namespace Go.Proofs.YtiapingedfnlnaaGreatDoor
open Go
theorem joinedFacts_of {P:Program} {f:FuncId} {fn:Func} {s:ChangeSpec} {c:OpenClaim}
  (h1:c.wf (OpenSpec.ofChange s)=true) (h2:laidOutB P=true) (h3:mapsRowed P=true)
  (h4:(fn.params.all (P.readableRec ·) && namedTie P c.named s.vars && (c.stops == []) && (P.stops == []) && (c.knobs == []) && (P.stopKnobs == []))=true)
  (h5:(c.inPlace == P.inPlace f)=true) (h6:P.unfollowed f=true) (h6':c.unfollowed=true) (h6'':c.recurses=true) (h7:(c.named == P.varsNamed f)=true)
  (h8:((c.maps == (fn.params.toList++s.plain.varTypes P).any (P.mapsRec ·)) && (c.ifaces == (fn.params.toList++s.plain.varTypes P).any (P.ifacesRec ·)) && (c.mapsOut == P.mapsAmong fn.resultTypes.toList) &&
 (c.loops == (fn.params.toList++s.plain.varTypes P).any (P.loopsFrom ·)) && (c.wideKeys == (fn.params.toList++s.plain.varTypes P++fn.resultTypes.toList).any (P.wideKeysFrom ·)) &&
 s.vars.all (P.varReadable ·) && fn.resultTypes.all (fun t=>P.readableRec t && decide (t<P.types.size)) && (c.ifacesOut == fn.resultTypes.toList.any (P.ifacesRec ·)) && (c.loopsOut == fn.resultTypes.toList.any (P.loopsFrom ·)))=true)
  (h9:(c.plainKeys == P.plainKeys)=true)
  (h10:(c.shortTexts.isNone && P.stopsHeard && P.mayEnter && (c.lifted == P.liftsFinal) && (P.make == some c.make) && (c.kinds == (if c.domain.isEmpty then [] else fn.params.toList.map fun t=>match P.underlying t with|some (.int k)=>some k|_=>none)) && (c.pinned == c.pinnedBy))=true)
  (h11:((c.veiled == (fn.params.toList++s.plain.varTypes P++fn.resultTypes.toList).any (P.veiledRec ·)) && c.veiledFits P fn.params.toList (fn.params.toList++s.plain.varTypes P++fn.resultTypes.toList))=true) :
  joinedFacts P f fn s c=true:=by
 have r:P.recurses f=true:=by unfold Program.recurses; rw [h6]; rfl
 simp only [Bool.and_eq_true] at h4 h8 h10 h11
 obtain ⟨⟨⟨⟨⟨a1,a2⟩,a3⟩,a4⟩,a5⟩,a6⟩:=h4
 obtain ⟨⟨⟨⟨⟨⟨⟨⟨b1,b2⟩,b3⟩,b4⟩,b5⟩,b6⟩,b7⟩,b8⟩,b9⟩:=h8
 obtain ⟨⟨⟨⟨⟨⟨c1,c2⟩,c3⟩,c4⟩,c5⟩,c6⟩,c7⟩:=h10
 obtain ⟨d1,d2⟩:=h11
 simp only [joinedFacts,Bool.and_eq_true]
 have e1:(c.unfollowed == P.unfollowed f)=true:=by rw [h6,h6']; rfl
 have e2:(c.recurses == P.recurses f)=true:=by rw [r,h6'']; rfl
 exact ⟨⟨⟨⟨⟨⟨⟨⟨⟨⟨⟨⟨⟨⟨⟨⟨⟨⟨⟨⟨⟨⟨⟨⟨⟨⟨⟨⟨⟨⟨⟨h1,h2⟩,h3⟩,a1⟩,a2⟩,a3⟩,a4⟩,a5⟩,a6⟩,h5⟩,e1⟩,e2⟩,h7⟩,b1⟩,b2⟩,b3⟩,b4⟩,b5⟩,b6⟩,b7⟩,b8⟩,b9⟩,h9⟩,c1⟩,c2⟩,c3⟩,c4⟩,c5⟩,c6⟩,c7⟩,d1⟩,d2⟩
end Go.Proofs.YtiapingedfnlnaaGreatDoor
namespace Go.Proofs.YtiapingedfnlnaaGreatDoor.In
open Go Go.Proofs Wx Hp W Su Re Hd
theorem ints_eq : ∀ xs ys:List Int,cellsEq (ints xs) (ints ys)=decide (xs=ys)
 | [],[]=>rfl
 | [],y::r=>rfl
 | x::r,[]=>rfl
 | x::r,y::s=>by
  show ((x == y) && cellsEq (ints r) (ints s))=_
  rw [ints_eq r s,Bool.eq_iff_iff,Bool.and_eq_true,beq_iff_eq,decide_eq_true_eq,decide_eq_true_eq,List.cons.injEq]
theorem ints_one (ns:List Int):∀ v ∈ ints ns,v.oneCell'=true:=by
 intro v hv; obtain ⟨n,_,rfl⟩:=List.mem_map.mp hv; rfl
theorem ints_length (ns:List Int):(ints ns).length=ns.length:=List.length_map ..
theorem within_spec {v lo hi:Int} {h:Heap} {K:Value→Heap→Prop} (hK:K (.bool (decide (lo≤v) && decide (v≤hi))) h):C.inode_within v lo hi h K:=by
 refine inode_within.ok (cd (fun x=>?_) fun x=>?_)
 ·rw [decide_eq_true (by omega)] at hK; exact hK
 ·rw [decide_eq_false (by omega)] at hK; exact hK
theorem numbers_spec {R:List Int} {h:Heap} {K:Value→Heap→Prop} (hR:R.length=15) (hK:∀ h',Fr No h h'→K (.agg ⟨ints (R.drop 3)⟩) h'):C.inode_numbers (ints R) h K:=by
 match R,hR with
 | [k,l,s,d0,d1,d2,d3,d4,d5,d6,d7,d8,d9,x,y],_ =>
  refine inode_numbers.ok (New.intro fun h2 n2=>New.intro fun h3 n3=>New.intro fun h4 n4=>?_)
  have s2:=n2.size
  have s3:=n3.size
  have s4:=n4.size
  have r4:rd h4 h.size=ints [k,l,s,d0,d1,d2,d3,d4,d5,d6,d7,d8,d9,x,y]:=(n4.at_ (by omega)).trans ((n3.at_ (by omega)).trans n2.rd)
  refine CopyP.intro (new:=ints [d0,d1,d2,d3,d4,d5,d6,d7,d8,d9]) rfl (show Cells h4 _ _ from cellsa r4 rfl) (ints_one _) n4.own (by rw [n4.rd]; show 10≤12; omega) fun h5 q5=>?_
  have r5:rd h5 h3.size=ints [d0,d1,d2,d3,d4,d5,d6,d7,d8,d9,0,0]:=q5.rd.trans (by rw [n4.rd]; rfl)
  have r5x:=(q5.at_ (c:=h.size) (by omega) (by omega)).trans r4
  refine ⟨x,rda r5x rfl,y,rda r5x rfl,⟨by omega,by omega⟩,Put.add q5.own (by rw [r5]; show 0+10<12; omega) fun h6 q6=>⟨⟨by omega,by omega⟩,Put.add q6.own (by rw [q6.rd,r5]; show 0+11<12; omega) fun h7 q7=>?_⟩⟩
  have r7:rd h7 h3.size=ints [d0,d1,d2,d3,d4,d5,d6,d7,d8,d9,x,y]:=q7.rd.trans (by rw [q6.rd,r5]; rfl)
  have w2:Own h7 h2.size:=q7.ow (q6.ow (q5.ow (n4.ow n3.own)))
  have e2:(rd h7 h2.size).length=12:=by
   rw [q7.at_ (by have:=q6.size; have:=q5.size; omega) (by omega),q6.at_ (by have:=q5.size; omega) (by omega),q5.at_ (by omega) (by omega),n4.at_ (by omega),n3.rd]; rfl
  refine ⟨_,rfl,cellsAll r7,PutRow.intro w2 rfl (ints_one _) (by rw [e2]; omega) fun h8 q8=>⟨ints [d0,d1,d2,d3,d4,d5,d6,d7,d8,d9,x,y],rfl,cellsAll ?_,hK h8 ?_⟩⟩
  ·rw [q8.rd,put_all _ _ (by rw [e2]; rfl)]
  ·exact (((((n2.fr.new n3).new n4).did q5 fun _=>by omega).did q6 fun _=>by omega).did q7 fun _=>by omega).did q8 fun _=>by omega
theorem pairs15 {R S:List Int} (hR:R.length=15) (hS:S.length=15):pairsOk [(.int .i64),(.int .i64),(.int .i64),(.int .i64),(.int .i64),(.int .i64),(.int .i64),(.int .i64),(.int .i64),(.int .i64),(.int .i64),(.int .i64),(.int .i64),(.int .i64),(.int .i64)] (ints R) (ints S)=true:=by
 match R,hR,S,hS with
 | [_,_,_,_,_,_,_,_,_,_,_,_,_,_,_],_,[_,_,_,_,_,_,_,_,_,_,_,_,_,_,_],_=>rfl
theorem cell15 {h:Heap} {b:Nat} {R:List Int} (r:rd h b=ints R) {i:Nat} (hi:i<R.length):cellOf h (Addr.add ⟨b,0,none⟩ i)=some (.int .i64 (R.getD i 0)):=by
 refine rda r ?_
 rw [Nat.zero_add,ints,List.getElem?_map,List.getD_eq_getElem?_getD,List.getElem?_eq_getElem hi]; rfl
theorem may_spec {R:List Int} {h:Heap} {K:Value→Heap→Prop} (hR:R.length=15) (hK:∀ h',Fr No h h'→K (.bool (mayR R)) h'):C.inode_may (ints R) h K:=by
 refine inode_may.ok (New.intro fun h2 n2=>⟨ints R,by rw [ints_length,hR],cellsAll n2.rd,numbers_spec hR fun h3 f3=>⟨_,rfl,?_⟩⟩)
 have s2:=n2.size
 have F3:=n2.fr.no f3
 have r3:rd h3 h.size=ints R:=(f3.rd n2.own.lt fun x=>x).trans n2.rd
 have ld:(R.drop 3).length=12:=by rw [List.length_drop,hR]
 have hK:=hK h3 F3
 refine ⟨fun n hh=>0≤n∧n≤12∧h3=hh∧((R.drop 3).take n.toNat).all wordOk=true,fun n _=>((12:Nat) - n).toNat,⟨by omega,by omega,rfl,rfl⟩,?_⟩
 rintro n _ ⟨n0,n1,rfl,q⟩
 refine cd (fun hn=>?_) fun hn=>?_
 ·have hn:n<12:=hn
  have hi:n.toNat<(R.drop 3).length:=by omega
  refine ⟨⟨n0,hn⟩,(R.drop 3)[n.toNat],by rw [ints,List.getElem?_map,List.getElem?_eq_getElem hi]; rfl,within_spec ⟨_,rfl,cnot ?_⟩⟩
  cases hw:wordOk (R.drop 3)[n.toNat] with
  | false =>
   have:mayR R=false:=by
    have e:(R.drop 3).all wordOk=false:=by
     cases e:(R.drop 3).all wordOk with
     | false=>rfl
     | true=>have:=List.all_eq_true.mp e _ (List.getElem_mem hi); rw [hw] at this; cases this
    rw [mayR,e]; rfl
   rw [this] at hK
   exact cf hw hK
  | true =>
   rw [wrap_i64 (by omega) (by omega)]
   refine ct hw ⟨⟨by omega,by omega,rfl,?_⟩,falls (m:=12) hn⟩
   rw [show (n+1).toNat=n.toNat+1 by omega,List.take_succ_eq_append_getElem hi,List.all_append,q,List.all_cons,hw]; rfl
 ·have hn:¬ n<12:=hn
  rw [List.take_of_length_le (by omega)] at q
  have em:mayR R=kindOk (R.getD 0 0) (R.getD 1 0) (R.getD 2 0) R:=by rw [mayR,q,Bool.true_and]
  rw [em] at hK
  unfold kindOk at hK
  refine ⟨_,cell15 r3 (by omega),ce (fun h0=>?_) fun h0=>?_⟩
  ·rw [if_pos h0] at hK
   refine ⟨ints R,by rw [ints_length,hR],cellsAll r3,pairs15 hR (S:=z15) List.length_replicate,?_⟩
   rw [show ([.int .i64 0,.int .i64 0,.int .i64 0,.int .i64 0,.int .i64 0,.int .i64 0,.int .i64 0,.int .i64 0,.int .i64 0,.int .i64 0,.int .i64 0,.int .i64 0,.int .i64 0,.int .i64 0,.int .i64 0]:List Value)=ints z15 from rfl,ints_eq]
   exact hK
  ·rw [if_neg h0] at hK
   refine ce (fun h1=>?_) fun h1=>?_
   ·rw [if_pos h1] at hK
    refine ⟨_,cell15 r3 (by omega),within_spec ⟨_,rfl,?_⟩⟩
    cases hb:(decide (0≤R.getD 1 0) && decide (R.getD 1 0≤1000)) with
    | false=>rw [hb] at hK; exact hK
    | true=>rw [hb] at hK; exact ⟨_,cell15 r3 (by omega),within_spec ⟨_,rfl,hK⟩⟩
   ·rw [if_neg h1] at hK
    refine ce (fun h2'=>?_) fun h2'=>?_
    ·rw [if_pos h2'] at hK
     refine ⟨_,cell15 r3 (by omega),within_spec ⟨_,rfl,?_⟩⟩
     cases hb:(decide (2≤R.getD 1 0) && decide (R.getD 1 0≤65535)) with
     | false=>rw [hb] at hK; exact hK
     | true =>
      rw [hb,Bool.true_and] at hK
      refine ⟨_,cell15 r3 (by omega),within_spec ⟨_,rfl,?_⟩⟩
      cases hc:(decide (0≤R.getD 2 0) && decide (R.getD 2 0≤8459264)) with
      | false=>rw [hc] at hK; exact hK
      | true =>
       rw [hc,Bool.true_and] at hK
       rw [Bool.and_eq_true,decide_eq_true_eq] at hc
       refine ⟨_,cell15 r3 (by omega),?_⟩
       have e:(Int.tmod (R.getD 2 0) 512 == 0)=decide (R.getD 2 0 % 512=0):=by rw [Int.tmod_eq_emod_of_nonneg hc.1]; rfl
       rw [e]; exact hK
    ·rw [if_neg h2'] at hK
     refine ce (fun h3'=>?_) fun h3'=>?_
     ·rw [if_pos h3'] at hK
      refine ⟨_,cell15 r3 (by omega),within_spec ⟨_,rfl,?_⟩⟩
      cases hb:(decide (1≤R.getD 1 0) && decide (R.getD 1 0≤1000)) with
      | false=>rw [hb] at hK; exact hK
      | true=>rw [hb] at hK; exact ⟨_,cell15 r3 (by omega),within_spec ⟨_,rfl,hK⟩⟩
     ·rw [if_neg h3'] at hK; exact hK
theorem leB_one (v:Nat):leBs 1 v=[UInt8.ofNat v]:=by rw [leB_succ]; rfl
theorem leB_two (v:Nat):leBs 2 v=[UInt8.ofNat v,UInt8.ofNat (v / 256)]:=by rw [leB_succ,leB_one]
theorem leB_four (v:Nat):leBs 4 v=[UInt8.ofNat v,UInt8.ofNat (v / 256),UInt8.ofNat (v / 256 / 256),UInt8.ofNat (v / 256 / 256 / 256)]:=by rw [leB_succ,leB_succ,leB_two]
theorem enc3 (k l s:Nat):putU (putU (putU (zeros 64) 0 (leBs 1 k)) 2 (leBs 2 l)) 4 (leBs 4 s)=(leBs 1 k++([0]++(leBs 2 l++leBs 4 s)))++zeros 56:=by
 rw [leB_one,leB_two,leB_four]; rfl
theorem Encode_spec {R:List Int} {h:Heap} {K:Value→Heap→Prop} (g:Glo h) (hR:R.length=15) (hN:mayR R=false→∀ h',Fr No h h'→K (.tuple #[.slice none 0 0,.int .i64 111]) h')
  (hK:mayR R=true→∀ b h',Fr No h h'→h.size≤b→Sl h' 1 (some ⟨b,0,none⟩) 64 64 ((encR R).map bv) (fun x=>x=b)→K (.tuple #[.slice (some ⟨b,0,none⟩) 64 64,.int .i64 0]) h'):C.inode_Encode (ints R) h K:=by
 have hg:=g.lt
 refine inode_Encode.ok (New.intro fun h2 n2=>⟨ints R,by rw [ints_length,hR],cellsAll n2.rd,may_spec hR fun h3 f3=>⟨_,rfl,cnot ?_⟩⟩)
 have s2:=n2.size
 have s3:=f3.size
 have F3:=n2.fr.no f3
 have r3:rd h3 h.size=ints R:=(f3.rd n2.own.lt fun x=>x).trans n2.rd
 cases hm:mayR R with
 | false=>exact hN hm h3 F3
 | true =>
  have hK:=hK hm
  obtain ⟨k0,k1,l0,l1,z0,z1,hw⟩:=mayR_bounds hR hm
  refine ct rfl ⟨⟨by omega,by omega,by omega,by omega⟩,New.intro fun h4 n4=>?_⟩
  have s4:=n4.size
  have r4:rd h4 h.size=ints R:=(n4.at_ (by omega)).trans r3
  have b4:Sl h4 1 (some ⟨h3.size,0,none⟩) 64 64 ((zeros 64).map bv) (fun x=>x=h3.size) :=
   Sl.made (zs:=[]) n4 (by rw [List.append_nil]; rfl) rfl (by rw [List.length_map,zeros_length]) (Nat.le_refl _) rfl
  have w:∀ n:Int,0≤n→n≤4294967295→IntKind.wrap .u64 n=((n.toNat:Nat):Int):=fun n a b=>by rw [wrap_u64 a (by omega),Int.toNat_of_nonneg a]
  have hne:h.size≠h3.size:=by omega
  refine ⟨_,cell15 r4 (by omega),?_⟩
  rw [w _ k0 (by omega)]
  refine Put_w (g.no (F3.new n4)) b4 (by omega) (by omega) (by omega) (by omega) (by show (R.getD 0 0).toNat<256 ^ 1; omega) fun h5 f5 b5=>⟨_,rfl,?_⟩
  have s5:=f5.size
  have g5:Glo h5:=(g.no (F3.new n4)).fr f5 fun b hb e=>by omega
  have r5:rd h5 h.size=ints R:=(f5.rd (by omega) hne).trans r4
  refine ⟨_,cell15 r5 (by omega),?_⟩
  rw [w _ l0 (by omega)]
  refine Put_w g5 b5 (by omega) (by omega) (by omega) (by omega) (by show (R.getD 1 0).toNat<256 ^ 2; omega) fun h6 f6 b6=>⟨_,rfl,?_⟩
  have s6:=f6.size
  have g6:Glo h6:=g5.fr f6 fun b hb e=>by omega
  have r6:rd h6 h.size=ints R:=(f6.rd (by omega) hne).trans r5
  refine ⟨_,cell15 r6 (by omega),?_⟩
  rw [w _ z0 (by omega)]
  refine Put_w g6 b6 (by omega) (by omega) (by omega) (by omega) (by show (R.getD 2 0).toNat<256 ^ 4; omega) fun h7 f7 b7=>⟨_,rfl,?_⟩
  have s7:=f7.size
  have g7:Glo h7:=g6.fr f7 fun b hb e=>by omega
  have r7:rd h7 h.size=ints R:=(f7.rd (by omega) hne).trans r6
  have b7:Sl h7 1 (some ⟨h3.size,0,none⟩) 64 64 (((leBs 1 (R.getD 0 0).toNat++([0]++(leBs 2 (R.getD 1 0).toNat++leBs 4 (R.getD 2 0).toNat)))++zeros 56).map bv) (fun x=>x=h3.size):=by rw [← enc3]; exact b7
  refine ⟨ints R,by rw [ints_length,hR],cellsAll r7,numbers_spec hR fun h8 f8=>⟨_,rfl,?_⟩⟩
  have s8:=f8.size
  have b8:=b7.fr f8 fun _ _ _ x=>x
  have F8:Fr No h h8:=((((F3.new n4).trans f5 fun b hb e=>by omega).trans f6 fun b hb e=>by omega).trans f7 fun b hb e=>by omega).no f8
  have ld:(R.drop 3).length=12:=by rw [List.length_drop,hR]
  generalize hH:leBs 1 (R.getD 0 0).toNat++([0]++(leBs 2 (R.getD 1 0).toNat++leBs 4 (R.getD 2 0).toNat))=H at b8
  have lH:H.length=8:=by rw [← hH]; simp only [List.length_append,leB_length,List.length_singleton]
  refine ⟨fun n hh=>0≤n∧n≤12∧Fr No h hh∧h3.size<hh.size∧Sl hh 1 (some ⟨h3.size,0,none⟩) 64 64 ((H++flat4 ((R.drop 3).take n.toNat)++zeros (56 - 4*n.toNat)).map bv) (fun x=>x=h3.size),fun n _=>((12:Nat) - n).toNat,
   ⟨by omega,by omega,F8,by omega,by rw [show (0:Int).toNat=0 from rfl,List.take_zero]; show Sl h8 1 _ 64 64 ((H++[]++zeros 56).map bv) _; rw [List.append_nil]; exact b8⟩,?_⟩
  rintro n h9 ⟨n0,n1,F9,s9,b9⟩
  refine cd (fun hn=>?_) fun hn=>?_
  ·have hn:n<12:=hn
   have hi:n.toNat<(R.drop 3).length:=by omega
   have hx:=hw _ (List.getElem_mem hi)
   refine ⟨⟨n0,hn⟩,(R.drop 3)[n.toNat],by rw [ints,List.getElem?_map,List.getElem?_eq_getElem hi]; rfl,?_⟩
   rw [w _ hx.1 hx.2,wrap_i64 (n:=4*n) (by omega) (by omega),wrap_i64 (n:=8+4*n) (by omega) (by omega),wrap_i64 (n:=n+1) (by omega) (by omega)]
   refine Put_w (g.no F9) b9 (by omega) (by omega) (by omega) (by omega) (by show ((R.drop 3)[n.toNat]).toNat<256 ^ 4; omega) fun h10 f10 b10=>⟨_,rfl,⟨by omega,by omega,F9.trans f10 (fun b hb e=>by omega),by have:=f10.size; omega,?_⟩,falls (m:=12) hn⟩
   have lf:(flat4 ((R.drop 3).take n.toNat)).length=4*n.toNat:=by rw [flat4_length,List.length_take]; omega
   have e1:H++flat4 ((R.drop 3).take n.toNat)++zeros (56 - 4*n.toNat)=(H++flat4 ((R.drop 3).take n.toNat))++zeros 4++zeros (56 - 4*(n+1).toNat):=by
    rw [List.append_assoc (H++_),← zeros_add]; congr 2; omega
   have e2:(8+4*n).toNat=(H++flat4 ((R.drop 3).take n.toNat)).length:=by rw [List.length_append,lH,lf]; omega
   rw [e1,e2,putU_app _ _ _ _ (by rw [leB_length,zeros_length]; rfl)] at b10
   have e3:flat4 ((R.drop 3).take (n+1).toNat)=flat4 ((R.drop 3).take n.toNat)++leBs 4 ((R.drop 3)[n.toNat]).toNat:=by
    rw [show (n+1).toNat=n.toNat+1 by omega,List.take_succ_eq_append_getElem hi,flat4,List.flatMap_append]
    show _++(leBs 4 _++[])=_
    rw [List.append_nil,flat4]
   rw [e3,← List.append_assoc]
   exact b10
  ·have hn:¬ n<12:=hn
   have en:n.toNat=12:=by omega
   rw [en,List.take_of_length_le (by omega)] at b9
   refine hK h3.size h9 F9 (by omega) ?_
   have ee:encR R=H++flat4 (R.drop 3)++zeros (56 - 4*12):=by
    rw [encR,← hH]; simp only [List.append_assoc]
   rw [ee]; exact b9
theorem get_spec {a:Option Addr} {l c cb:Nat} {bs:List UInt8} {at_ n:Int} {h:Heap} {K:Value→Heap→Prop} (g:Glo h) (B:StrAt h a l bs) (hl:l≤140737488355328) (r:rd h cb=[.slice a l c]) (hn:n=1∨n=2∨n=4) (h0:0≤at_) (h2:at_+n≤l)
  (hK:K (.int .i64 (getAt bs at_.toNat n.toNat:Nat)) h):C.inode_Decode_c1 at_ n (some ⟨cb,0,none⟩) h K:=by
 have lt:=getAt_lt bs at_.toNat n.toNat
 have lt:getAt bs at_.toNat n.toNat<4294967296:=by
  rcases hn with rfl|rfl|rfl
  ·exact Nat.lt_of_lt_of_le lt (by show 256 ^ 1≤_; decide)
  ·exact Nat.lt_of_lt_of_le lt (by show 256 ^ 2≤_; decide)
  ·exact lt
 refine inode_Decode_c1.ok ?_
 unfold inode_Decode_c1
 refine os ⟨_,_,_,rdc r rfl,Get_w g B hl (by omega) h0 h2 ⟨_,_,rfl,?_⟩⟩
 have e:leN ((bs.drop at_.toNat).take n.toNat)=getAt bs at_.toNat n.toNat:=rfl
 rw [e,wrap_i64 (by omega) (by omega)]
 exact hK
theorem z15_row {h3 h:Heap} {b:Nat} {n:Int} {K:Value→Heap→Prop} (f:Fr No h3 h) (hb:h3.size≤b) (w:Own h b) (hl:(rd h b).length=15) (hK:∀ h',Fr No h3 h'→K (.tuple #[.agg ⟨ints z15⟩,.int .i64 n]) h') :
  PutRow ⟨b,0,none⟩ [.int .i64 0,.int .i64 0,.int .i64 0,.int .i64 0,.int .i64 0,.int .i64 0,.int .i64 0,.int .i64 0,.int .i64 0,.int .i64 0,.int .i64 0,.int .i64 0,.int .i64 0,.int .i64 0,.int .i64 0] 15 h fun h4 =>
   ∃ res1:List Value,List.length res1=15∧Cells h4 ⟨b,0,none⟩ res1∧K (.tuple #[.agg ⟨res1⟩,.int .i64 n]) h4:=by
 refine PutRow.intro w rfl (ints_one z15) (by omega) fun h4 d4=>⟨ints z15,rfl,cellsAll ?_,hK h4 (f.did d4 fun hlt=>by omega)⟩
 rw [d4.rd]; exact put_all _ _ (by rw [hl]; rfl)
theorem R_row {h3 h:Heap} {b cb:Nat} {n:Int} {R:List Int} {K:Value→Heap→Prop} (hR:R.length=15) (f:Fr No h3 h) (hb:h3.size≤b) (w:Own h b) (hl:(rd h b).length=15) (r:rd h cb=ints R) (hK:∀ h',Fr No h3 h'→K (.tuple #[.agg ⟨ints R⟩,.int .i64 n]) h') :
  ∃ cs:List Value,List.length cs=15∧Cells h ⟨cb,0,none⟩ cs∧PutRow ⟨b,0,none⟩ cs 15 h fun h4=>∃ res1:List Value,List.length res1=15∧Cells h4 ⟨b,0,none⟩ res1∧K (.tuple #[.agg ⟨res1⟩,.int .i64 n]) h4:=by
 have li:(ints R).length=15:=by rw [ints_length,hR]
 refine ⟨ints R,li,cellsAll r,PutRow.intro w li (ints_one R) (by omega) fun h4 d4=>⟨ints R,li,cellsAll ?_,hK h4 (f.did d4 fun hlt=>by omega)⟩⟩
 rw [d4.rd]; exact put_all _ _ (by rw [hl,li])
theorem set_fill {α:Type} (xs:List α) (z:α) (ys:List α) (m n:Nat) (hm:m<xs.length) (hn:0<n):(xs.take m++(List.replicate n z++ys)).set m xs[m]=xs.take (m+1)++(List.replicate (n - 1) z++ys):=by
 have l:(xs.take m).length=m:=by rw [List.length_take]; omega
 rw [List.set_append_right _ _ (by omega),l,Nat.sub_self,show n=(n - 1)+1 by omega,List.replicate_succ,List.cons_append,List.set_cons_zero,List.take_succ_eq_append_getElem hm,List.append_assoc]
 rfl
theorem getR_get (bs:List UInt8) {i:Nat} (hi:i<12) (h:3+i<(getR bs).length):(getR bs)[3+i]=(getAt bs (8+4*i) 4:Nat):=by
 simp only [getR]
 rw [List.getElem_append_right (by show 3≤3+i; omega)]
 simp only [List.length_cons,List.length_nil,Nat.reduceAdd,Nat.add_sub_cancel_left,List.getElem_map,List.getElem_range]
theorem Decode_spec {a:Option Addr} {l c:Nat} {bs:List UInt8} {h:Heap} {K:Value→Heap→Prop} (g:Glo h) (B:StrAt h a l bs) (hlc:l≤c) (hK:∀ h',Fr No h h'→K (.tuple #[.agg ⟨ints (decA bs).1⟩,.int .i64 (decA bs).2]) h'):C.inode_Decode a l c h K:=by
 have hb:=B.1
 refine inode_Decode.ok (New.intro fun h2 n2=>New.intro fun h3 n3=>?_)
 have s2:=n2.size
 have s3:=n3.size
 have F3:=n2.fr.new n3
 have r3:rd h3 h.size=[.slice a l c]:=(n3.at_ (by omega)).trans n2.rd
 have w3:Own h3 h2.size:=n3.own
 have l3:(rd h3 h2.size).length=15:=by rw [n3.rd]; rfl
 have g3:=g.no F3
 have B3:=StrAt.fr F3 B fun _ _ x=>x
 refine ⟨_,_,_,rdc r3 rfl,cn (fun hl=>?_) fun hl=>?_⟩
 ·have e:decA bs=(z15,32):=by rw [decA,if_pos (by omega)]
  rw [e] at hK
  exact z15_row F3 (by omega) w3 l3 hK
 have hl:l=64:=by omega
 have hb64:bs.length=64:=by omega
 have gg:∀ {hq:Heap} {K:Value→Heap→Prop} (at_ n:Int),Fr No h3 hq→(n=1∨n=2∨n=4)→0≤at_→at_+n≤64→K (.int .i64 (getAt bs at_.toNat n.toNat:Nat)) hq→C.inode_Decode_c1 at_ n (some ⟨h.size,0,none⟩) hq K:=fun at_ n fq h1 h2 h4 hk =>
  get_spec (g3.no fq) (StrAt.fr fq B3 fun _ _ x=>x) (by omega) ((fq.rd (by omega) fun x=>x).trans r3) h1 h2 (by omega) hk
 refine gg 0 1 (Fr.refl _ _) (by omega) (by omega) (by omega) ⟨_,rfl,gg 2 2 (Fr.refl _ _) (by omega) (by omega) (by omega) ⟨_,rfl,gg 4 4 (Fr.refl _ _) (by omega) (by omega) (by omega) ⟨_,rfl,gg 48 4 (Fr.refl _ _) (by omega) (by omega) (by omega) ⟨_,rfl,gg 52 4 (Fr.refl _ _) (by omega) (by omega) (by omega) ⟨_,rfl,?_⟩⟩⟩⟩⟩
 have gl:=getR_length bs
 have e11:([.int .i64 (getAt bs (Int.toNat 0) (Int.toNat 1):Nat),.int .i64 (getAt bs (Int.toNat 2) (Int.toNat 2):Nat),.int .i64 (getAt bs (Int.toNat 4) (Int.toNat 4):Nat),.int .i64 0,.int .i64 0,.int .i64 0,.int .i64 0,.int .i64 0,.int .i64 0,.int .i64 0,.int .i64 0,.int .i64 0,.int .i64 0,.int .i64 (getAt bs (Int.toNat 48) (Int.toNat 4):Nat),.int .i64 (getAt bs (Int.toNat 52) (Int.toNat 4):Nat)]:List Value)
   = ints ((getR bs).take 3++(List.replicate 10 0++(getR bs).drop 13)):=rfl
 rw [e11]
 refine NewRow.intro (by rw [ints_length]; rfl) (ints_one _) rfl fun h11 n11=>?_
 have s11:=n11.size
 refine ⟨fun n hh=>0≤n∧n≤10∧Fr No h3 hh∧h3.size<hh.size∧Own hh h3.size∧rd hh h3.size=ints ((getR bs).take (3+n.toNat)++(List.replicate (10 - n.toNat) 0++(getR bs).drop 13)),fun n _=>((10:Nat) - n).toNat,
  ⟨by omega,by omega,n11.fr,by omega,n11.own,n11.rd⟩,?_⟩
 rintro n h12 ⟨n0,n1,f12,s12,w12,r12⟩
 have rl12:(rd h12 h3.size).length=15:=by
  rw [r12,ints_length,List.length_append,List.length_append,List.length_take,List.length_replicate,List.length_drop,gl]; omega
 refine cd (fun hn=>?_) fun hn=>?_
 ·have hn:n<10:=hn
  rw [wrap_i64 (n:=4*n) (by omega) (by omega),wrap_i64 (n:=8+4*n) (by omega) (by omega),wrap_i64 (n:=n+1) (by omega) (by omega)]
  refine gg (8+4*n) 4 f12 (by omega) (by omega) (by omega) ⟨_,rfl,⟨n0,hn⟩,?_⟩
  rw [add_mk]
  refine Put.add w12 (by omega) fun h14 d14=>⟨⟨by omega,by omega,f12.did d14 fun hlt=>by omega,by have:=d14.size; omega,d14.own,?_⟩,falls (m:=10) hn⟩
  have hi:3+n.toNat<(getR bs).length:=by omega
  have eg:(getR bs)[3+n.toNat]=(getAt bs (8+4*n).toNat (Int.toNat 4):Nat):=by
   rw [getR_get bs (by omega) hi,show (8+4*n).toNat=8+4*n.toNat by omega]; rfl
  have:=set_fill (getR bs) 0 ((getR bs).drop 13) (3+n.toNat) (10 - n.toNat) hi (by omega)
  rw [eg] at this
  rw [d14.rd,r12,show 0+3+n.toNat=3+n.toNat by omega,show 3+(n+1).toNat=3+n.toNat+1 by omega,show 10 - (n+1).toNat=10 - n.toNat - 1 by omega,← this,ints,ints,List.map_set]
 ·have hn:¬ n<10:=hn
  have en:n.toNat=10:=by omega
  rw [en] at r12
  have r12:rd h12 h3.size=ints (getR bs):=by
   rw [r12]
   show ints ((getR bs).take 13++([]++(getR bs).drop 13))=_
   rw [List.nil_append,List.take_append_drop]
  have rb12:rd h12 h.size=[.slice a l c]:=(f12.rd (by omega) fun x=>x).trans r3
  have B12:=StrAt.fr f12 B3 fun _ _ x=>x
  have w12x:Own h12 h2.size:=f12.own w3.lt (fun x=>x) w3
  have l12:(rd h12 h2.size).length=15:=by rw [f12.rd w3.lt fun x=>x]; exact l3
  have F12:=F3.no f12
  refine ⟨_,_,_,rdc rb12 rfl,Zero_spec B12 hlc (by omega) (by omega) (by omega) (by omega) ⟨_,_,rfl,_,_,_,rdc rb12 rfl,Zero_spec B12 hlc (by omega) (by omega) (by omega) (by omega) ⟨_,_,rfl,?_⟩⟩⟩
  have ec:clean bs=(allZero ((bs.drop (Int.toNat 1)).take (Int.toNat 1)) && allZero ((bs.drop (Int.toNat 56)).take (Int.toNat 8))):=rfl
  have bad:decOk bs=false→∀ h',Fr No h h'→K (.tuple #[.agg ⟨ints z15⟩,.int .i64 111]) h':=fun e h' f=>by
   have:=hK h' f
   rw [decA,if_neg (by omega),e] at this; exact this
  refine cnot ?_
  cases h1:allZero ((bs.drop (Int.toNat 1)).take (Int.toNat 1)) with
  | false=>exact z15_row F12 (by omega) w12x l12 (bad (by rw [decOk,ec,h1]; rfl))
  | true =>
   refine ct rfl (cnot ?_)
   cases h2':allZero ((bs.drop (Int.toNat 56)).take (Int.toNat 8)) with
   | false=>exact z15_row F12 (by omega) w12x l12 (bad (by rw [decOk,ec,h1,h2']; rfl))
   | true =>
    refine ct rfl ⟨ints (getR bs),by rw [ints_length,gl],cellsAll r12,may_spec gl fun h19 f19=>⟨_,rfl,cnot ?_⟩⟩
    have s19:=f19.size
    have w19:Own h19 h2.size:=f19.own w12x.lt (fun x=>x) w12x
    have l19:(rd h19 h2.size).length=15:=by rw [f19.rd w12x.lt fun x=>x]; exact l12
    have r19:rd h19 h3.size=ints (getR bs):=(f19.rd w12.lt fun x=>x).trans r12
    cases hm:mayR (getR bs) with
    | false=>exact z15_row (F12.no f19) (by omega) w19 l19 (bad (by rw [decOk,hm,Bool.and_false]))
    | true =>
     refine ct rfl (R_row gl (F12.no f19) (by omega) w19 l19 r19 fun h' f=>?_)
     have:=hK h' f
     rw [decA,if_neg (by omega),show decOk bs=true by rw [decOk,ec,h1,h2',hm]; rfl] at this
     exact this
end Go.Proofs.YtiapingedfnlnaaGreatDoor.In
namespace Go.Proofs.YtiapingedfnlnaaGreatDoor.Re
open Go Go.Proofs Wx Hp W
structure Wrote (b:Nat) (h h':Heap) (cs:List Value):Prop where
 fr:Fr (fun x=>x=b) h h'
 own:Own h' b
 rd:Hp.rd h' b=cs
theorem Sl.wrote {h h':Heap} {ec l c b o j:Nat} {xs new:List Value} {F:Nat→Prop} (s:Sl h ec (some ⟨b,o,none⟩) l c xs F) (hj:j+new.length≤l*ec)
  (d:Wrote b h h' (put (rd h b) (o+j) new)):Sl h' ec (some ⟨b,o,none⟩) l c (put xs j new) F:=by
 obtain ⟨h1,a1,a2,a3,a4,a5,a6⟩:=s
 have hm:l*ec≤c*ec:=Nat.mul_le_mul_right _ a4
 simp only at a2 a3 a5 a6
 refine ⟨by rw [put_length,h1],rfl,a2,d.own,a4,?_,?_⟩
 ·simp only [d.rd,put_length,h1]
  rw [drop_put _ _ _ _ _ hj (by omega),← h1,a5]
 ·simp only [d.rd,put_length]; exact a6
theorem put_snoc : ∀ (ys:List Value) (X:List Value) (o:Nat) (y:Value),put X o (ys++[y])=(put X o ys).set (o+ys.length) y:=by
 intro ys
 induction ys with
 | nil=>intro X o y; rfl
 | cons v r ih =>
  intro X o y
  show put (X.set o v) (o+1) (r++[y])=_
  rw [ih,List.length_cons,show o+1+r.length=o+(r.length+1) by omega]; rfl
theorem put_app : ∀ (ys zs:List Value) (X:List Value) (o:Nat),put X o (ys++zs)=put (put X o ys) (o+ys.length) zs:=by
 intro ys
 induction ys with
 | nil=>intro zs X o; rfl
 | cons v r ih =>
  intro zs X o
  show put (X.set o v) (o+1) (r++zs)=_
  rw [ih,List.length_cons,show o+1+r.length=o+(r.length+1) by omega]; rfl
theorem Put_did {b o l c:Nat} {at_ n:Int} {v:Nat} {h:Heap} {K:Value→Heap→Prop} (g:In.Glo h) (w:Own h b) (hw:o+l≤(rd h b).length) (hl:l≤140737488355328) (hn:n=1∨n=2∨n=4) (h0:0≤at_) (h2:at_+n≤l)
  (hv:v<256 ^ n.toNat) (hK:∀ h',Wrote b h h' (put (rd h b) (o+at_.toNat) ((leBs n.toNat v).map bv))→K (.int .i64 0) h'):C.rec_Put (some ⟨b,o,none⟩) l c at_ n (v:Int) h K:=by
 refine rec_Put.ok (In.isWidth_spec g (by omega) ⟨_,rfl,cnot (ct rfl (ct (decide_eq_true (by omega)) ?_))⟩)
 have w8:IntKind.wrap .i64 (8*n)=8*n:=wrap_i64 (by omega) (by omega)
 rw [if_neg (by rw [w8]; omega)]
 have hz:Int.fdiv (v:Int) (2 ^ min (Int.toNat (IntKind.wrap .i64 (8*n))) 64)=0:=by
  rw [w8,show min (Int.toNat (8*n)) 64=8*n.toNat by omega]
  have e:Int.fdiv (v:Int) (2 ^ (8*n.toNat))=((v / 256 ^ n.toNat:Nat):Int):=by
   rw [pow_256,Int.fdiv_eq_ediv_of_nonneg _ (by exact Int.le_of_lt (Int.pow_pos (by decide)))]
   simp
  rw [e,Nat.div_eq_of_lt hv]; rfl
 refine cf (by rw [hz]; rfl) (lie_spec hl h0 (by omega) h2 ⟨_,rfl,cnot (ct rfl ?_)⟩)
 have hlB:=leB_length n.toNat v
 refine ⟨fun k hh=>0≤k∧k≤n∧Wrote b h hh (put (rd h b) (o+at_.toNat) (((leBs n.toNat v).take k.toNat).map bv)),fun k _=>(n - k).toNat,⟨by omega,by omega,Fr.refl _ _,w,by rw [show (0:Int).toNat=0 from rfl,List.take_zero]; rfl⟩,?_⟩
 rintro k h4 ⟨k0,k1,d4⟩
 refine cd (fun hk=>?_) fun hk=>?_
 ·rw [if_neg (by rw [wrap_i64 (by omega) (by omega)]; omega),wrap_i64 (n:=at_+k) (by omega) (by omega)]
  refine ⟨⟨by omega,by omega⟩,os (Put.add d4.own (by rw [d4.rd,put_length]; omega) fun h5 d5=>?_)⟩
  have hkB:k.toNat<(leBs n.toNat v).length:=by omega
  have eb:=byte_of v k.toNat (by omega)
  rw [show ((k.toNat:Nat):Int)=k by omega] at eb
  rw [eb] at d5
  rw [wrap_i64 (n:=k+1) (by omega) (by omega)]
  refine ⟨⟨by omega,by omega,d4.fr.did d5 (fun _=>rfl),d5.own,?_⟩,by show (n - (k+1)).toNat<(n - k).toNat; omega⟩
  have hl1:((leBs n.toNat v).take k.toNat).length=k.toNat:=by rw [List.length_take]; omega
  have ee:(leBs n.toNat v)[k.toNat]=UInt8.ofNat (v / 256 ^ k.toNat):=by simp only [leBs,List.getElem_map,List.getElem_range]
  rw [d5.rd,d4.rd,show (k+1).toNat=k.toNat+1 by omega,List.take_succ_eq_append_getElem hkB,List.map_append,List.map_singleton,ee,put_snoc,List.length_map,hl1,show o+(at_+k).toNat=o+at_.toNat+k.toNat by omega]
 ·have:k=n:=by omega
  subst this
  rw [List.take_of_length_le (by omega)] at d4
  exact hK h4 d4
theorem PutText_did {b o l c:Nat} {ss:List UInt8} {at_ n:Int} {h:Heap} {K:Value→Heap→Prop} (w:Own h b) (hw:o+l≤(rd h b).length) (hlc:l≤c) (hl:l≤140737488355328) (hn:(ss.length:Int)≤n) (hpos:0<ss.length) (h0:0≤at_) (hle:at_+n≤l) (hz:∀ x ∈ ss,x≠0)
  (hK:∀ h',Wrote b h h' (put (rd h b) (o+at_.toNat) ((ss++List.replicate (n.toNat - ss.length) 0).map bv))→K (.int .i64 0) h'):C.rec_PutText (some ⟨b,o,none⟩) l c at_ n (mkStr ss) h K:=by
 have hsz:(mkStr ss).size=ss.length:=rfl
 refine rec_PutText.ok (cf (decide_eq_false (by omega)) (cf (decide_eq_false (by rw [hsz]; omega)) fun cap hcap=>?_))
 rw [toList_mkStr]
 generalize hh2:newS h (ss.map bv++List.replicate (cap - (mkStr ss).size) (bv 0)) 5=h2
 have f2:Fr No h h2:=by
  subst hh2
  exact ⟨by simp [newS],fun x hx _=>by simp [newS,Array.getElem?_push,show x≠h.size by omega]⟩
 have r2:rd h2 h.size=ss.map bv++List.replicate (cap - (mkStr ss).size) (bv 0):=by
  subst hh2
  simp [rd,newS]
 have B2:StrAt h2 (some ⟨h.size,0,none⟩) ss.length ss:=⟨rfl,cells_rd (by rw [r2,List.drop_zero,List.take_left])⟩
 have w2:=f2.own w.lt (fun x=>x) w
 have rb:rd h2 b=rd h b:=f2.rd w.lt fun x=>x
 rw [hsz]
 refine ahead_spec B2 (by omega) hz ⟨_,rfl,cf (decide_eq_false (by omega)) (lie_spec hl h0 (by omega) hle ⟨_,rfl,cnot (ct rfl ?_)⟩)⟩
 rw [wrap_i64 (n:=at_+n) (by omega) (by omega)]
 refine ⟨⟨h0,by omega,by omega⟩,?_⟩
 have hci:c≠at_.toNat:=by omega
 rw [if_neg hci,Option.map_some,add_mk]
 have e1:(at_+n).toNat - at_.toNat=n.toNat:=by omega
 rw [e1]
 have em:min (mkStr ss).size n.toNat=ss.length:=by rw [hsz]; omega
 refine ⟨trivial,?_,?_⟩
 ·show WrS h2 _ 0 (min (mkStr ss).size n.toNat)
  rw [em]
  simp only [WrS,Addr.add_zero]
  exact wrN_rd w2 (by rw [rb]; omega)
 rw [em,toList_mkStr,List.take_length]
 have d5:Did b h2 (setS h2 (some ⟨b,o+at_.toNat,none⟩) 0 (ss.map bv)) (put (rd h2 b) (o+at_.toNat) (ss.map bv)):=by
  simp only [setS,Addr.add_zero]
  exact ⟨Hp.size_setRow _ _ _ _,Fr.setRow (F:=fun x=>x=b) (Or.inl rfl) (Fr.refl _ h2),own_setRow w2,by rw [rd_setRow_at,Nat.add_zero]⟩
 generalize setS h2 (some ⟨b,o+at_.toNat,none⟩) 0 (ss.map bv)=h5 at d5
 rw [rb] at d5
 have f5:Fr (fun x=>x=b) h h5:=(f2.mono fun _ _ x=>x.elim).did d5 fun _=>rfl
 show (0≤IntKind.wrap .i64 (at_+((ss.length:Nat):Int))∧IntKind.wrap .i64 (at_+((ss.length:Nat):Int))≤at_+n∧at_+n≤(c:Int))∧_
 rw [wrap_i64 (n:=at_+((ss.length:Nat):Int)) (by omega) (by omega)]
 refine ⟨⟨by omega,by omega,by omega⟩,?_⟩
 have e2:(at_+n).toNat - (at_+(ss.length:Int)).toNat=n.toNat - ss.length:=by omega
 have e3:(at_+(ss.length:Int)).toNat=at_.toNat+ss.length:=by omega
 rw [e2,e3]
 by_cases hk:n.toNat - ss.length=0
 ·rw [hk]
  have wr0:∀ (a:Option Addr),WrS h5 a 0 0:=fun a=>by cases a with|none=>rfl|some p=>exact fun i hi=>absurd hi (Nat.not_lt_zero _)
  have st0:∀ (a:Option Addr),setS h5 a 0 []=h5:=fun a=>by cases a <;> rfl
  refine ⟨trivial,wr0 _,?_⟩
  show K _ (setS h5 _ 0 (repCells _ 0))
  have e3:∀ z,z=[Value.int .u8 0]→repCells z 0=[]:=fun z hz=>by subst hz; rfl
  rw [show repCells ti5.zero 0=[] from e3 _ rfl,st0]
  refine hK h5 ⟨f5,d5.own,?_⟩
  rw [d5.rd,hk,List.replicate_zero,List.append_nil]
 ·rw [if_neg (by omega),Option.map_some,add_mk]
  have l5:(rd h5 b).length=(rd h b).length:=by rw [d5.rd,put_length]
  have erep:∀ m,repCells [Value.int .u8 0] m=(List.replicate m (0:UInt8)).map bv:=fun m=>by
   induction m with
   | zero=>rfl
   | succ m ih=>rw [List.replicate_succ,List.map_cons,← ih]; rfl
  refine ⟨trivial,?_,?_⟩
  ·rw [show (ti5).cells=1 from rfl,Nat.mul_one]
   simp only [WrS,Addr.add_zero]
   exact wrN_rd d5.own (by rw [l5]; omega)
  show K _ (setS h5 _ 0 (repCells [Value.int .u8 0] (n.toNat - ss.length)))
  rw [erep]
  simp only [setS,Addr.add_zero]
  refine hK _ ⟨Fr.setRow (F:=fun x=>x=b) (Or.inl rfl) f5,own_setRow d5.own,?_⟩
  rw [rd_setRow_at,Nat.add_zero,d5.rd,List.map_append,put_app,List.length_map]
  congr 1
  omega
end Go.Proofs.YtiapingedfnlnaaGreatDoor.Re
namespace Go.Proofs.YtiapingedfnlnaaGreatDoor.Sk
open Go Go.Proofs Re
theorem leB_succ (n v:Nat):leBs (n+1) v=UInt8.ofNat v::leBs n (v / 256):=by
 rw [leBs,List.range_succ_eq_map,List.map_cons,List.map_map]
 congr 1
 ·rw [Nat.pow_zero,Nat.div_one]
 ·rw [leBs]
  apply List.map_congr_left
  intro k _
  show UInt8.ofNat (v / 256 ^ (k+1))=UInt8.ofNat (v / 256 / 256 ^ k)
  rw [Nat.pow_succ,Nat.mul_comm,Nat.div_div_eq_div_mul]
theorem leB_leN : ∀ (bs:List UInt8),leBs bs.length (leN bs)=bs:=by
 intro bs
 induction bs with
 | nil=>rfl
 | cons b r ih =>
  have hb:b.toNat<256:=b.toNat_lt
  rw [List.length_cons,leB_succ,leN,show (b.toNat+256*leN r) / 256=leN r by omega,ih]
  congr 1
  apply UInt8.toNat_inj.mp
  rw [UInt8.toNat_ofNat']; omega
theorem leN_leB : ∀ (n v:Nat),v<256 ^ n→leN (leBs n v)=v:=by
 intro n
 induction n with
 | zero =>
  intro v h
  have e:v=0:=by simpa using h
  rw [e]; rfl
 | succ n ih =>
  intro v h
  rw [leB_succ,leN,ih (v / 256) (by rw [Nat.pow_succ] at h; omega),UInt8.toNat_ofNat']
  omega
theorem allZero_rep {bs:List UInt8} (h:allZero bs=true):bs=List.replicate bs.length 0:=by
 induction bs with
 | nil=>rfl
 | cons b r ih =>
  rw [allZero,List.all_cons,Bool.and_eq_true] at h
  have hb:b=0:=by simpa using h.1
  have:=ih h.2
  rw [List.length_cons,List.replicate_succ,hb]
  exact congrArg _ this
theorem rep_allZero (n:Nat):allZero (List.replicate n 0)=true:=by
 rw [allZero,List.all_eq_true]; intro x hx; rw [List.eq_of_mem_replicate hx]; rfl
abbrev Txt := List UInt8
def nameOk (s:Txt):Bool:=decide (1≤s.length) && decide (s.length≤27) && (s != [46]) && (s != [46,46]) && s.all (fun b=>b != 47 && b != 0)
structure NameOk (s:Txt):Prop where
 pos:1≤s.length
 le:s.length≤27
 dot:s≠[46]
 dots:s≠[46,46]
 all:∀ b ∈ s,b≠47∧b≠0
theorem nameOk_iff {s:Txt}:nameOk s=true↔NameOk s:=by
 constructor
 ·intro h
  simp only [nameOk,Bool.and_eq_true,decide_eq_true_eq,bne_iff_ne,ne_eq,List.all_eq_true] at h
  obtain ⟨⟨⟨⟨h1,h2⟩,h3⟩,h4⟩,h5⟩:=h
  exact ⟨h1,h2,h3,h4,h5⟩
 ·rintro ⟨h1,h2,h3,h4,h5⟩
  simp only [nameOk,Bool.and_eq_true,decide_eq_true_eq,bne_iff_ne,ne_eq,List.all_eq_true]
  exact ⟨⟨⟨⟨h1,h2⟩,h3⟩,h4⟩,h5⟩
def form (i:Nat) (s:Txt):List UInt8:=if i=0 then List.replicate 32 0 else leBs 4 i++(UInt8.ofNat s.length::(s++List.replicate (27 - s.length) 0))
def Good (x:Nat×Txt):Prop:=(x.1=0∧x.2=[])∨(1≤x.1∧x.1<4294967296∧nameOk x.2=true)
def one (c:List UInt8):Option (Nat×Txt) :=
 if leN (c.take 4)=0 then (if allZero c then some (0,[]) else none)
 else if (c.getD 4 0).toNat<1∨27<(c.getD 4 0).toNat then none
 else if allZero (c.drop (5+(c.getD 4 0).toNat)) && nameOk ((c.drop 5).take (c.getD 4 0).toNat) then some (leN (c.take 4),(c.drop 5).take (c.getD 4 0).toNat) else none
theorem form_length {x:Nat×Txt} (g:Good x):(form x.1 x.2).length=32:=by
 unfold form
 rcases g with ⟨h1,_⟩|⟨h1,h2,h3⟩
 ·rw [if_pos h1,List.length_replicate]
 ·have:=(nameOk_iff.mp h3).le
  rw [if_neg (by omega),List.length_append,leB_length,List.length_cons,List.length_append,List.length_replicate]; omega
theorem zero_good : Good (0,[]):=Or.inl ⟨rfl,rfl⟩
theorem one_form {x:Nat×Txt} (g:Good x):one (form x.1 x.2)=some x:=by
 obtain ⟨i,s⟩:=x
 rcases g with ⟨h1,h2⟩|⟨h1,h2,h3⟩
 ·have h1:i=0:=h1
  have h2:s=[]:=h2
  subst h1; subst h2
  decide +kernel
 ·have h1:1≤i:=h1
  have h2:i<4294967296:=h2
  have h3:nameOk s=true:=h3
  have hn:=nameOk_iff.mp h3
  have hp:=hn.pos
  have hl:=hn.le
  have e0:form i s=leBs 4 i++(UInt8.ofNat s.length::(s++List.replicate (27 - s.length) 0)):=by rw [form,if_neg (by omega)]
  have l4:=leB_length 4 i
  have e1:(form i s).take 4=leBs 4 i:=by rw [e0,List.take_append_of_le_length (by omega),List.take_of_length_le (by omega)]
  have e2:(form i s).getD 4 0=UInt8.ofNat s.length:=by
   rw [e0,List.getD_eq_getElem?_getD,List.getElem?_append_right (by omega),l4]; rfl
  have e3:(UInt8.ofNat s.length).toNat=s.length:=by rw [UInt8.toNat_ofNat']; omega
  have e4:(form i s).drop 5=s++List.replicate (27 - s.length) 0:=by
   rw [e0,List.drop_append,l4]
   rw [List.drop_of_length_le (by omega)]; rfl
  have e5:(form i s).drop (5+s.length)=List.replicate (27 - s.length) 0:=by rw [← List.drop_drop,e4,List.drop_left]
  show one (form i s)=some (i,s)
  unfold one
  rw [e1,leN_leB 4 i (by omega),if_neg (by omega),e2,e3,if_neg (by omega),e5,rep_allZero,e4,List.take_left,h3]
  rfl
theorem form_one {c:List UInt8} {x:Nat×Txt} (hc:c.length=32) (h:one c=some x):Good x∧c=form x.1 x.2:=by
 unfold one at h
 have lt:leN (c.take 4)<256 ^ (c.take 4).length:=leN_lt _
 have l4:(c.take 4).length=4:=by rw [List.length_take]; omega
 rw [l4] at lt
 split at h
 ·split at h
  ·rename_i hz
   obtain rfl:=Option.some.inj h
   refine ⟨zero_good,?_⟩
   have:=allZero_rep hz
   rw [hc] at this
   exact this
  ·cases h
 ·rename_i h0
  split at h
  ·cases h
  ·rename_i h1
   split at h
   ·rename_i h2
    rw [Bool.and_eq_true] at h2
    obtain ⟨hz,hn⟩:=h2
    obtain rfl:=Option.some.inj h
    refine ⟨Or.inr ⟨by show 1≤leN _; omega,by show leN _<_; omega,hn⟩,?_⟩
    have h4:4<c.length:=by omega
    generalize hN:(c.getD 4 0).toNat=n at *
    have en:UInt8.ofNat n=c[4]:=by
     rw [← hN,List.getD_eq_getElem?_getD,List.getElem?_eq_getElem h4]
     apply UInt8.toNat_inj.mp
     have:=(c[4]).toNat_lt
     rw [UInt8.toNat_ofNat']
     show (c[4]).toNat % 256=_
     omega
    have ls:((c.drop 5).take n).length=n:=by rw [List.length_take,List.length_drop]; omega
    have hz:=allZero_rep hz
    rw [List.length_drop,hc,show 32 - (5+n)=27 - n by omega] at hz
    show c=form (leN (c.take 4)) ((c.drop 5).take n)
    rw [form,if_neg h0,ls,en,← hz]
    have e1:leBs 4 (leN (c.take 4))=c.take 4:=by
     have:=leB_leN (c.take 4)
     rw [l4] at this; exact this
    rw [e1,← List.drop_drop,List.take_append_drop,← List.drop_eq_getElem_cons h4,List.take_append_drop]
   ·cases h
def dec : Nat→List UInt8→Option (List (Nat×Txt))
 | 0,_=>some []
 | n+1,b=>match one (b.take 32) with
  | none=>none
  | some x=>(dec n (b.drop 32)).map (x :: ·)
def blk (hs:List (Nat×Txt)):List UInt8:=hs.flatMap fun x=>form x.1 x.2
theorem blk_cons (x:Nat×Txt) (r:List (Nat×Txt)):blk (x::r)=form x.1 x.2++blk r:=rfl
theorem blk_length {hs:List (Nat×Txt)} (g:∀ x ∈ hs,Good x):(blk hs).length=32*hs.length:=by
 induction hs with
 | nil=>rfl
 | cons x r ih =>
  rw [blk_cons,List.length_append,form_length (g x (List.mem_cons_self ..)),ih fun y hy=>g y (List.mem_cons_of_mem _ hy),List.length_cons]; omega
theorem dec_blk {hs:List (Nat×Txt)} (g:∀ x ∈ hs,Good x):dec hs.length (blk hs)=some hs:=by
 induction hs with
 | nil=>rfl
 | cons x r ih =>
  have gx:=g x (List.mem_cons_self ..)
  have l:=form_length gx
  rw [List.length_cons,dec,blk_cons,show List.take 32 (form x.1 x.2++blk r)=form x.1 x.2 by rw [← l,List.take_left],one_form gx]
  show (dec r.length (List.drop 32 (form x.1 x.2++blk r))).map _=_
  rw [show List.drop 32 (form x.1 x.2++blk r)=blk r by rw [← l,List.drop_left],ih fun y hy=>g y (List.mem_cons_of_mem _ hy)]
  rfl
theorem blk_dec : ∀ {n:Nat} {b:List UInt8} {hs:List (Nat×Txt)},b.length=32*n→dec n b=some hs→hs.length=n∧(∀ x ∈ hs,Good x)∧b=blk hs:=by
 intro n
 induction n with
 | zero =>
  intro b hs hl h
  obtain rfl:=Option.some.inj h
  refine ⟨rfl,fun x hx=>absurd hx (by simp),?_⟩
  exact List.length_eq_zero_iff.mp (by omega)
 | succ n ih =>
  intro b hs hl h
  rw [dec] at h
  have l1:(b.take 32).length=32:=by rw [List.length_take]; omega
  cases ho:one (b.take 32) with
  | none=>rw [ho] at h; cases h
  | some x =>
   rw [ho] at h
   obtain ⟨r,hr,rfl⟩:=Option.map_eq_some_iff.mp h
   obtain ⟨a1,a2,a3⟩:=ih (by rw [List.length_drop]; omega) hr
   obtain ⟨g,e⟩:=form_one l1 ho
   refine ⟨by rw [List.length_cons,a1],fun y hy=>?_,?_⟩
   ·rcases List.mem_cons.mp hy with rfl|hy
    ·exact g
    ·exact a2 y hy
   ·rw [blk_cons,← e,← a3,List.take_append_drop]
theorem dec_step {b:List UInt8} {k:Nat} (hk:k<16):dec (16 - k) (b.drop (32*k))=match one ((b.drop (32*k)).take 32) with
  | none=>none
  | some x=>(dec (16 - (k+1)) (b.drop (32*(k+1)))).map (x :: ·):=by
 rw [show 16 - k=(16 - (k+1))+1 by omega,dec,List.drop_drop,show 32*k+32=32*(k+1) by omega]
theorem blk_set : ∀ {hs:List (Nat×Txt)} {k:Nat} {y:Nat×Txt},(∀ x ∈ hs,Good x)→Good y→k<hs.length→putU (blk hs) (32*k) (form y.1 y.2)=blk (hs.set k y):=by
 intro hs
 induction hs with
 | nil=>intro k y _ _ hk; exact absurd hk (by simp)
 | cons x r ih =>
  intro k y g gy hk
  have gx:=g x (List.mem_cons_self ..)
  have l:=form_length gx
  have ly:=form_length gy
  cases k with
  | zero =>
   rw [Nat.mul_zero,List.set_cons_zero,blk_cons,blk_cons,putU,List.take_zero,List.nil_append,Nat.zero_add,ly,← l,List.drop_left]
  | succ k =>
   have:=ih (k:=k) (fun z hz=>g z (List.mem_cons_of_mem _ hz)) gy (by simpa using hk)
   rw [List.set_cons_succ,blk_cons,blk_cons,← this,putU,putU,ly]
   rw [List.take_append,List.drop_append,l,show 32*(k+1) - 32=32*k by omega,show 32*(k+1)+32 - 32=32*k+32 by omega,List.take_of_length_le (by omega),List.drop_of_length_le (by omega),List.nil_append]
   simp only [List.append_assoc]
theorem set_good {hs:List (Nat×Txt)} {k:Nat} {y:Nat×Txt} (g:∀ x ∈ hs,Good x) (gy:Good y):∀ x ∈ hs.set k y,Good x:=by
 intro x hx
 rcases List.mem_or_eq_of_mem_set hx with h|rfl
 ·exact g x h
 ·exact gy
structure E where
 place:Int
 name:Txt
 inode:Int
deriving DecidableEq
def ents : Nat→List (Nat×Txt)→List E
 | _,[]=>[]
 | k,x::r=>if x.1=0 then ents (k+1) r else ⟨k,x.2,x.1⟩::ents (k+1) r
theorem ents_append : ∀ (a b:List (Nat×Txt)) (k:Nat),ents k (a++b)=ents k a++ents (k+a.length) b:=by
 intro a
 induction a with
 | nil=>intro b k; rfl
 | cons x r ih =>
  intro b k
  rw [List.cons_append,ents,ents,ih,List.length_cons,show k+1+r.length=k+(r.length+1) by omega]
  split <;> rfl
theorem ents_range : ∀ (hs:List (Nat×Txt)) (k:Nat) (e:E),e ∈ ents k hs→(k:Int)≤e.place∧e.place<k+hs.length∧∃ x ∈ hs,x.1≠0∧e.name=x.2∧e.inode=x.1:=by
 intro hs
 induction hs with
 | nil=>intro k e h; exact absurd h (by simp [ents])
 | cons x r ih =>
  intro k e h
  rw [ents] at h
  split at h
  ·obtain ⟨h1,h2,y,h3,h4⟩:=ih _ _ h
   rw [List.length_cons]
   exact ⟨by omega,by omega,y,List.mem_cons_of_mem _ h3,h4⟩
  ·rename_i h0
   rw [List.length_cons]
   rcases List.mem_cons.mp h with rfl|h
   ·refine ⟨by show (k:Int)≤k; omega,by show (k:Int)<_; omega,x,List.mem_cons_self ..,h0,rfl,rfl⟩
   ·obtain ⟨h1,h2,y,h3,h4⟩:=ih _ _ h
    exact ⟨by omega,by omega,y,List.mem_cons_of_mem _ h3,h4⟩
def low : Nat→List (Nat×Txt)→Int
 | _,[] => -1
 | k,x::r=>if x.1=0 then k else low (k+1) r
end Go.Proofs.YtiapingedfnlnaaGreatDoor.Sk
namespace Go.Proofs.YtiapingedfnlnaaGreatDoor.Ss
open Go Go.Proofs Re Sk
theorem ents_len : ∀ (hs:List (Nat×Txt)) (k:Nat),(ents k hs).length≤hs.length:=by
 intro hs
 induction hs with
 | nil=>intro k; exact Nat.le_refl _
 | cons x r ih =>
  intro k
  rw [ents]
  split
  ·have:=ih (k+1); rw [List.length_cons]; omega
  ·have:=ih (k+1); rw [List.length_cons,List.length_cons]; omega
def ans (bs:List UInt8):List E×Int:=if bs.length≠512 then ([],32) else match dec 16 bs with
 | none=>([],140)
 | some hs=>(ents 0 hs,0)
def lowA (bs:List UInt8):Int×Int:=if bs.length≠512 then (0,32) else match dec 16 bs with
 | none=>(0,140)
 | some hs=>(low 0 hs,0)
def putOk (e:E):Bool:=decide (0≤e.place) && decide (e.place<16) && decide (1≤e.inode) && decide (e.inode≤4294967295) && nameOk e.name
def putA (bs:List UInt8) (e:E):Int×List UInt8:=if bs.length≠512 then (32,bs) else if putOk e then (0,putU bs (32*e.place.toNat) (form e.inode.toNat e.name)) else (140,bs)
def clrA (bs:List UInt8) (k:Int):Int×List UInt8:=if bs.length≠512 then (32,bs) else if 0≤k∧k<16 then (0,putU bs (32*k.toNat) (List.replicate 32 0)) else (140,bs)
theorem putOk_good {e:E} (h:putOk e=true):0≤e.place∧e.place<16∧1≤e.inode∧e.inode≤4294967295∧nameOk e.name=true∧Sk.Good (e.inode.toNat,e.name):=by
 simp only [putOk,Bool.and_eq_true,decide_eq_true_eq] at h
 obtain ⟨⟨⟨⟨h1,h2⟩,h3⟩,h4⟩,h5⟩:=h
 exact ⟨h1,h2,h3,h4,h5,Or.inr ⟨by show 1≤e.inode.toNat; omega,by show e.inode.toNat<4294967296; omega,h5⟩⟩
theorem putA_length (bs:List UInt8) (e:E):(putA bs e).2.length=bs.length:=by
 unfold putA
 split
 ·rfl
 ·split
  ·rename_i h1 h2
   obtain ⟨a1,a2,_,_,_,g⟩:=putOk_good h2
   have l:(form e.inode.toNat e.name).length=32:=form_length g
   exact putU_length (by rw [l]; omega)
  ·rfl
theorem clrA_length (bs:List UInt8) (k:Int):(clrA bs k).2.length=bs.length:=by
 unfold clrA
 split
 ·rfl
 ·split
  ·exact putU_length (by rw [List.length_replicate]; omega)
  ·rfl
end Go.Proofs.YtiapingedfnlnaaGreatDoor.Ss
namespace Go.Proofs.YtiapingedfnlnaaGreatDoor.Ad
open Go Go.Proofs Wx Hp W
structure RD where
 lasts:List (List UInt8)
 pend:List (Int×List UInt8)
 left:Int
 keep:List Bool
 down:Bool
 writes:Int
 flushes:Int
 tape:List (Int×Int×List UInt8)
def blk (b:List UInt8):List Value:=b.map bv
def pcell (p:Int×List UInt8):List Value := .int .i64 p.1::p.2.map bv
structure Ent where
 kind:Int
 at_:Int
 a:Option Addr
 l:Nat
 c:Nat
def Ent.cells (e:Ent):List Value:=[.int .i64 e.kind,.int .i64 e.at_,.slice e.a e.l e.c]
def Ents (h:Heap) (col:Nat→Nat) (k:Nat):List Ent→List (Int×Int×List UInt8)→Prop
 | [],[]=>True
 | e::r,t::s=>e.kind=t.1∧e.at_=t.2.1∧StrAt h e.a e.l t.2.2∧(∀ p,e.a=some p→p.block<h.size∧col p.block=k)∧Ents h col k r s
 | _,_=>False
theorem Ents.keep {h h':Heap} {col col':Nat→Nat} {k:Nat} {F:Nat→Prop} (f:Fr F h h') (g:Ag h.size col col') (hF:∀ b,col b=k→¬ F b) :
  ∀ {es:List Ent} {ts:List (Int×Int×List UInt8)},Ents h col k es ts→Ents h' col' k es ts:=by
 intro es
 induction es with
 | nil=>intro ts e; cases ts with
  | nil=>trivial
  | cons _ _=>exact e.elim
 | cons x r ih=>intro ts e; cases ts with
  | nil=>exact e.elim
  | cons t s =>
   obtain ⟨h1,h2,h3,h4,h5⟩:=e
   exact ⟨h1,h2,StrAt.fr f h3 (fun p hp=>hF _ (h4 p hp).2),fun p hp=>⟨Nat.lt_of_lt_of_le (h4 p hp).1 f.size,(g _ (h4 p hp).1).trans (h4 p hp).2⟩,ih h5⟩
structure Raw where
 la:Option Addr
 ln:Nat
 lc:Nat
 pa:Option Addr
 pn:Nat
 pc:Nat
 left:Int
 ka:Option Addr
 kn:Nat
 kc:Nat
 down:Bool
 writes:Int
 flushes:Int
 ta:Option Addr
 tn:Nat
 tc:Nat
def Raw.cells (r:Raw):List Value :=
 [.slice r.la r.ln r.lc,.slice r.pa r.pn r.pc,.int .i64 r.left,.slice r.ka r.kn r.kc,.bool r.down,.int .i64 r.writes,.int .i64 r.flushes,.slice r.ta r.tn r.tc]
structure Parts (h:Heap) (S:RD) (col:Nat→Nat) (m:Nat) (r:Raw) (es:List Ent):Prop where
 left:r.left=S.left
 leftb:0≤S.left∧S.left≤9223372036854775807
 down:r.down=S.down
 writes:r.writes=S.writes
 flushes:r.flushes=S.flushes
 l:Sl h 512 r.la r.ln r.lc (S.lasts.flatMap blk) (On col (m+1))
 lw:∀ x ∈ S.lasts,x.length=512
 ln:r.ln=S.lasts.length
 lmax:S.lasts.length≤16384
 p:Sl h 513 r.pa r.pn r.pc (S.pend.flatMap pcell) (On col (m+2))
 pw:∀ x ∈ S.pend,x.2.length=512
 pn:r.pn=S.pend.length
 pi:∀ x ∈ S.pend,0≤x.1∧x.1<S.lasts.length
 pmax:S.pend.length≤140737488355328
 k:Sl h 1 r.ka r.kn r.kc (S.keep.map .bool) (On col (m+3))
 kn:r.kn=S.keep.length
 t:Sl h 3 r.ta r.tn r.tc (es.flatMap Ent.cells) (On col (m+4))
 tn:r.tn=es.length
 tmax:es.length≤140737488355328
 ts:Ents h col (m+5) es S.tape
structure Disk (h:Heap) (b:Nat) (S:RD) (col:Nat→Nat) (m:Nat) (r:Raw) (es:List Ent):Prop extends Parts h S col m r es where
 sc:col b=m
 so:Own h b
 sr:rd h b=r.cells
def DiskAt (h:Heap) (d:Option Addr) (S:RD) (col:Nat→Nat) (m:Nat):Prop:=∃ b r es,d=some ⟨b,0,none⟩∧Disk h b S col m r es
theorem Parts.keep {h h':Heap} {S:RD} {col col':Nat→Nat} {m:Nat} {r:Raw} {es:List Ent} {F:Nat→Prop} (d:Parts h S col m r es) (f:Fr F h h') (g:Ag h.size col col')
  (hF:∀ b,m+1≤col b→col b≤m+5→¬ F b):Parts h' S col' m r es :=
 ⟨d.left,d.leftb,d.down,d.writes,d.flushes,d.l.keep f g (fun b e=>hF b (by omega) (by omega)),d.lw,d.ln,d.lmax,
  d.p.keep f g (fun b e=>hF b (by omega) (by omega)),d.pw,d.pn,d.pi,d.pmax,d.k.keep f g (fun b e=>hF b (by omega) (by omega)),d.kn,d.t.keep f g (fun b e=>hF b (by omega) (by omega)),d.tn,d.tmax,
  Ents.keep f g (fun b e=>hF b (by omega) (by omega)) d.ts⟩
theorem Disk.keep' {h h':Heap} {b:Nat} {S:RD} {col col':Nat→Nat} {m:Nat} {r:Raw} {es:List Ent} {F:Nat→Prop} (d:Disk h b S col m r es) (f:Fr F h h') (g:Ag h.size col col')
  (hF:∀ b,m≤col b→col b≤m+5→¬ F b):Disk h' b S col' m r es:=by
 have hb:=d.so.lt
 have hs:¬ F b:=hF b (by have:=d.sc; omega) (by have:=d.sc; omega)
 exact ⟨d.toParts.keep f g (fun b h1 h2=>hF b (by omega) h2),(g _ hb).trans d.sc,f.own hb hs d.so,(f.rd hb hs).trans d.sr⟩
theorem DiskAt.keep {h h':Heap} {d:Option Addr} {S:RD} {col col':Nat→Nat} {m:Nat} {F:Nat→Prop} (D:DiskAt h d S col m) (f:Fr F h h') (g:Ag h.size col col')
  (hF:∀ b,m≤col b→col b≤m+5→¬ F b):DiskAt h' d S col' m:=by
 obtain ⟨b,r,es,e,D⟩:=D; exact ⟨b,r,es,e,D.keep' f g hF⟩
def fresh (ls:List (List UInt8)):RD:=⟨ls,[],0,[],false,0,0,[]⟩
def zeroBlk : List UInt8:=List.replicate 512 0
theorem repCells_zero (z:List Value) (hz:z=List.replicate 512 (.int .u8 0)) (n:Nat):repCells z n=(List.replicate n zeroBlk).flatMap blk:=by
 rw [repCells_eq,List.flatMap_replicate]
 subst hz
 have:blk zeroBlk=List.replicate 512 (.int .u8 0):=by simp only [blk,zeroBlk,List.map_replicate]; rfl
 rw [this]
theorem New_spec {n:Int} {h:Heap} {K:Value→Heap→Prop} (col:Nat→Nat) (m:Nat)
  (h1:n<1∨16384<n→K (.tuple #[.pointer none,.int .i64 32]) h)
  (h2:1≤n→n≤16384→∀ q h' col',Fr No h h'→Ag h.size col col'→DiskAt h' (some q) (fresh (List.replicate n.toNat zeroBlk)) col' m→K (.tuple #[.pointer (some q),.int .i64 0]) h') :
  C.adisk_New n h K:=by
 refine adisk_New.ok ?_
 refine cd (fun a=>h1 (Or.inl a)) fun a=>cd (fun b=>h1 (Or.inr b)) fun b=>⟨by omega,?_⟩
 refine New.intro fun h2' n2=>New.intro fun h3 n3=>?_
 refine h2 (by omega) (by omega) _ _ (upd (upd col h.size (m+1)) (h.size+1) m) (n2.fr.new n3) ((ag_upd _ _ _).trans (ag_upd _ _ _) (by omega)) ?_
 refine ⟨_,⟨some ⟨h.size,0,none⟩,n.toNat,n.toNat,none,0,0,0,none,0,0,false,0,0,none,0,0⟩,[],rfl,?_⟩
 have hl:=flat_length blk 512 (List.replicate n.toNat zeroBlk) (by intro x hx; rw [List.eq_of_mem_replicate hx]; simp only [blk,zeroBlk,List.length_map,List.length_replicate])
 rw [List.length_replicate] at hl
 have e2:rd h2' h.size=(List.replicate n.toNat zeroBlk).flatMap blk:=n2.rd.trans (repCells_zero _ rfl _)
 refine ⟨⟨rfl,⟨by simp [fresh],by simp [fresh]⟩,rfl,rfl,rfl,?_,?_,?_,?_,Sl.nil _ _ _,?_,rfl,?_,by simp [fresh],Sl.nil _ _ _,rfl,Sl.nil _ _ _,rfl,by simp,trivial⟩,upd_ge (by rw [n2.size]; omega),n3.own,n3.rd⟩
 ·refine ⟨hl,rfl,?_,n3.ow n2.own,Nat.le_refl _,?_,?_⟩
  ·show upd (upd col h.size (m+1)) (h.size+1) m h.size=m+1
   rw [upd_lt (by omega),upd_ge (Nat.le_refl _)]
  ·show ((rd h3 h.size).drop 0).take _=_
   rw [n3.at_ n2.own.lt,e2,List.drop_zero]; exact List.take_length
  ·show 0+n.toNat*512≤(rd h3 h.size).length
   rw [n3.at_ n2.own.lt,e2,hl]; omega
 ·intro x hx; rw [List.eq_of_mem_replicate hx]; simp only [zeroBlk,List.length_replicate]
 ·simp [fresh]
 ·simp only [fresh,List.length_replicate]; omega
 ·intro x hx; simp [fresh] at hx
 ·intro x hx; simp [fresh] at hx
end Go.Proofs.YtiapingedfnlnaaGreatDoor.Ad
namespace Go.Proofs.YtiapingedfnlnaaGreatDoor.Ad
open Go Go.Proofs Wx Hp W
theorem Disk.field {h:Heap} {b:Nat} {S:RD} {col:Nat→Nat} {m:Nat} {r:Raw} {es:List Ent} (d:Disk h b S col m r es) (k:Nat):cellOf h (Addr.add ⟨b,0,none⟩ k)=r.cells[k]?:=by
 rw [add_mk,cellOf_rd,d.sr,Nat.zero_add]
theorem has_spec {d:Option Addr} {i:Int} {h:Heap} {K:Value→Heap→Prop} {S:RD} {col:Nat→Nat} {m:Nat} (D:DiskAt h d S col m)
  (hK:K (.bool (decide (0≤i∧i<S.lasts.length))) h):C.adisk_Disk_has d i h K:=by
 obtain ⟨b,r,es,rfl,D⟩:=D
 refine adisk_Disk_has.ok (cd (fun a=>⟨_,_,_,D.field 0,?_⟩) fun a=>?_)
 ·rw [D.ln]
  have e:(0≤i∧i<S.lasts.length)=(i<S.lasts.length):=by rw [eq_true (show 0≤i from a),true_and]
  simpa only [e] using hK
 ·have:¬ (0≤i∧i<S.lasts.length):=by omega
  simpa only [this,decide_false] using hK
theorem Blocks_spec {d:Option Addr} {h:Heap} {K:Value→Heap→Prop} {S:RD} {col:Nat→Nat} {m:Nat} (D:DiskAt h d S col m)
  (hK:K (.int .i64 S.lasts.length) h):C.adisk_Disk_Blocks d h K:=by
 obtain ⟨b,r,es,rfl,D⟩:=D
 refine adisk_Disk_Blocks.ok ⟨_,_,_,D.field 0,?_⟩
 rw [D.ln]; exact hK
def readFrom (b:List UInt8) (i:Int) (ps:List (Int×List UInt8)):List UInt8:=ps.foldl (fun b p=>if p.1=i then p.2 else b) b
def readAt (S:RD) (i:Nat):List UInt8:=readFrom (S.lasts.getD i []) i S.pend
theorem pcell_len {p:Int×List UInt8} (h:p.2.length=512):(pcell p).length=513:=by simp only [pcell,List.length_cons,List.length_map,h]
theorem blk_len {b:List UInt8} (h:b.length=512):(blk b).length=512:=by simp only [blk,List.length_map,h]
theorem pcell_data (p:Int×List UInt8):((pcell p).drop (0+1)).take (blk p.2).length=blk p.2:=by
 simp only [pcell,blk,Nat.zero_add,List.drop_succ_cons,List.drop_zero]; exact List.take_length
theorem pcell_one (p:Int×List UInt8):∀ v ∈ pcell p,v.oneCell'=true:=by
 intro v hv
 rcases List.mem_cons.mp hv with rfl|hv
 ·rfl
 ·exact bv_one _ v hv
theorem Disk.pendCells {h:Heap} {b:Nat} {S:RD} {col:Nat→Nat} {m:Nat} {r:Raw} {es:List Ent} (d:Disk h b S col m r es) {h':Heap} {col':Nat→Nat} {i:Nat} (hi:i<S.pend.length)
  (s:Sl h' 513 r.pa r.pn r.pc (S.pend.flatMap pcell) (On col' (m+2))):∃ p,r.pa=some p∧Cells h' (p.add (i*513)) (pcell S.pend[i]):=by
 obtain ⟨p,e,c⟩:=s.get (by rw [d.pn]; omega)
 refine ⟨p,e,?_⟩
 have:=Cells.part c (i*513) 513
 rw [flat_part pcell 513 S.pend (fun x hx=>pcell_len (d.pw x hx)) i hi] at this
 exact this
theorem Disk.lastCells {h:Heap} {b:Nat} {S:RD} {col:Nat→Nat} {m:Nat} {r:Raw} {es:List Ent} (d:Disk h b S col m r es) {h':Heap} {col':Nat→Nat} {i:Nat} (hi:i<S.lasts.length)
  (s:Sl h' 512 r.la r.ln r.lc (S.lasts.flatMap blk) (On col' (m+1))):∃ p,r.la=some p∧Cells h' (p.add (i*512)) (blk S.lasts[i]):=by
 obtain ⟨p,e,c⟩:=s.get (by rw [d.ln]; omega)
 refine ⟨p,e,?_⟩
 have:=Cells.part c (i*512) 512
 rw [flat_part blk 512 S.lasts (fun x hx=>blk_len (d.lw x hx)) i hi] at this
 exact this
theorem readFrom_take {b:List UInt8} {i:Int} {ps:List (Int×List UInt8)} {n:Nat} (hn:n<ps.length):readFrom b i (ps.take (n+1))=if ps[n].1=i then ps[n].2 else readFrom b i (ps.take n):=by
 rw [readFrom,List.take_add_one,List.foldl_append,List.getElem?_eq_getElem hn]; rfl
theorem Read_spec {d:Option Addr} {i:Int} {h:Heap} {K:Value→Heap→Prop} {S:RD} {col:Nat→Nat} {m:Nat} (D:DiskAt h d S col m)
  (h1:S.down=true→K (.tuple #[.slice none 0 0,.int .i64 30]) h)
  (h2:S.down=false→¬ (0≤i∧i<S.lasts.length)→K (.tuple #[.slice none 0 0,.int .i64 31]) h)
  (h3:S.down=false→0≤i→i<S.lasts.length→∀ b h',Fr No h h'→h.size≤b→Own h' b→rd h' b=(readAt S i.toNat).map bv→(readAt S i.toNat).length=512 →
   K (.tuple #[.slice (some ⟨b,0,none⟩) 512 512,.int .i64 0]) h') :
  C.adisk_Disk_Read d i h K:=by
 have D0:=D
 obtain ⟨b,r,es,rfl,D⟩:=D
 refine adisk_Disk_Read.ok ⟨_,D.field 4,?_⟩
 rw [D.down]
 refine cs h1 fun hd=>has_spec D0 ⟨_,rfl,cnot (cd (fun a=>?_) (h2 hd))⟩
 have hi:i.toNat<S.lasts.length:=by omega
 obtain ⟨p,e,c⟩:=D.lastCells hi D.l
 refine ⟨_,_,_,D.field 0,⟨a.1,by rw [D.ln]; exact a.2⟩,?_⟩
 rw [e]
 have hlen:=blk_len (D.lw _ (List.getElem_mem hi))
 refine ⟨_,hlen,c,NewRow.intro hlen (bv_one _) List.length_replicate fun h4 n4=>?_⟩
 have D4:=D.keep' n4.fr (Ag.refl _ _) (fun _ _ _ x=>x)
 refine ⟨_,_,_,D4.field 1,?_⟩
 refine ⟨fun n hh=>0≤n∧n≤S.pend.length∧Fr No h hh∧Own hh h.size∧rd hh h.size=(readFrom S.lasts[i.toNat] i (S.pend.take n.toNat)).map bv∧(readFrom S.lasts[i.toNat] i (S.pend.take n.toNat)).length=512,
  fun n _=>(S.pend.length - n).toNat,⟨by omega,by omega,n4.fr,n4.own,n4.rd,D.lw _ (List.getElem_mem hi)⟩,?_⟩
 rintro n h5 ⟨n0,n1,f5,o5,r5,l5⟩
 have D5:=D.keep' f5 (Ag.refl _ _) (fun _ _ _ x=>x)
 rw [D.pn]
 refine cd (fun hn=>?_) fun hn=>?_
 rotate_left
 ·have:readAt S i.toNat=readFrom S.lasts[i.toNat] i (S.pend.take n.toNat):=by
   rw [List.take_of_length_le (by omega),readAt,List.getD_eq_getElem?_getD,List.getElem?_eq_getElem hi,Option.getD_some,Int.toNat_of_nonneg a.1]
  exact h3 hd a.1 a.2 _ _ f5 (Nat.le_refl _) o5 (by rw [this]; exact r5) (by rw [this]; exact l5)
 have hn':n.toNat<S.pend.length:=by omega
 obtain ⟨q,e',c'⟩:=D5.pendCells hn' D5.p
 refine ⟨⟨n0,hn⟩,?_⟩
 rw [e']
 have hp2:=D.pw _ (List.getElem_mem hn')
 have hpl:=pcell_len hp2
 refine ⟨_,hpl,c',NewRow.intro hpl (pcell_one _) (List.length_cons.trans (congrArg (· + 1) List.length_replicate)) fun h7 n7=>?_⟩
 have f7:=f5.new n7
 have hs5:=f5.size
 have hw:IntKind.wrap .i64 (n+1)=n+1:=wrap_i64 (by omega) (by have:=D.pmax; omega)
 have ht:(n+1).toNat=n.toNat+1:=by omega
 refine ⟨_,rda n7.rd rfl,?_⟩
 rw [hw]
 refine ce (fun hq=>?_) fun hq=>?_
 ·have hb:=blk_len hp2
  have r7:=n7.at_ o5.lt
  refine ⟨_,hb,cellsa n7.rd (pcell_data _),PutRow.intro (n7.ow o5) hb (bv_one _) (by rw [r7,r5,List.length_map,l5]; omega) fun h8 n8=>⟨⟨by omega,by omega,f7.did n8 (fun x=>by omega),n8.own,?_,?_⟩,falls hn⟩⟩
  ·rw [n8.rd,r7,r5,put_all _ _ (by rw [hb,List.length_map,l5]),ht,readFrom_take hn',if_pos hq]; rfl
  ·rw [ht,readFrom_take hn',if_pos hq]; exact hp2
 ·refine ⟨⟨by omega,by omega,f7,n7.ow o5,?_,?_⟩,falls hn⟩
  ·rw [n7.at_ o5.lt,r5,ht,readFrom_take hn',if_neg hq]
  ·rw [ht,readFrom_take hn',if_neg hq]; exact l5
end Go.Proofs.YtiapingedfnlnaaGreatDoor.Ad
namespace Go.Proofs.YtiapingedfnlnaaGreatDoor.Ad
open Go Go.Proofs Wx Hp W
theorem Disk.putLast {h h':Heap} {b:Nat} {S:RD} {col:Nat→Nat} {m:Nat} {r:Raw} {es:List Ent} (d:Disk h b S col m r es) {lb lo i:Nat} {y:List UInt8} (hi:i<S.lasts.length) (hy:y.length=512)
  (e:r.la=some ⟨lb,lo,none⟩) (D:Did lb h h' (put (rd h lb) (lo+i*512) (blk y))):Disk h' b { S with lasts:=S.lasts.set i y } col m r es:=by
 have L:=d.l
 rw [e] at L
 have hc:col lb=m+1:=L.2.2.1
 have K:=d.keep' (F:=fun x=>x=lb∧False) (h':=h) ⟨Nat.le_refl _,fun _ _ _=>rfl⟩ (Ag.refl _ _) (fun _ _ _ x=>x.2)
 have hs:b≠lb:=by intro x; have:=d.sc; rw [x] at this; omega
 have g:Ag h.size col col:=Ag.refl _ _
 have hk:∀ k,k≠m+1→∀ x,col x=k→¬ (x=lb):=by intro k hk x hx e; rw [e] at hx; omega
 exact ⟨⟨d.left,d.leftb,d.down,d.writes,d.flushes,by rw [e]; exact L.putPart (fun x hx=>blk_len (d.lw x hx)) hi (blk_len hy) D,
  fun x hx=>by rcases List.mem_or_eq_of_mem_set hx with hx|rfl; exact d.lw x hx; exact hy,by simp only [List.length_set]; exact d.ln,by simp only [List.length_set]; exact d.lmax,
  d.p.keep D.fr g (hk _ (by omega)),d.pw,d.pn,by simp only [List.length_set]; exact d.pi,d.pmax,d.k.keep D.fr g (hk _ (by omega)),d.kn,d.t.keep D.fr g (hk _ (by omega)),d.tn,d.tmax,Ents.keep D.fr g (hk _ (by omega)) d.ts⟩,d.sc,D.ow d.so,(D.at_ d.so.lt hs).trans d.sr⟩
theorem take_snoc {α:Type} (xs:List α) (n:Nat) (h:n<xs.length):xs.take (n+1)=xs.take n++[xs[n]]:=by
 rw [List.take_add_one,List.getElem?_eq_getElem h]; rfl
def chunks (bs:List UInt8):List (List UInt8):=(List.range (bs.length / 512)).map fun i=>(bs.drop (i*512)).take 512
theorem chunks_length (bs:List UInt8):(chunks bs).length=bs.length / 512:=by simp only [chunks,List.length_map,List.length_range]
theorem chunks_get (bs:List UInt8) {i:Nat} (h:i<(chunks bs).length):(chunks bs)[i]=(bs.drop (i*512)).take 512:=by simp only [chunks,List.getElem_map,List.getElem_range]
theorem Open_spec {a:Option Addr} {l c:Nat} {bs:List UInt8} {h:Heap} {K:Value→Heap→Prop} (col:Nat→Nat) (m:Nat) (hf:Free h col m) (B:StrAt h a l bs) (hlc:l≤c) (hl:l≤140737488355328)
  (h1:l % 512≠0∨l=0∨16384<l / 512→K (.tuple #[.pointer none,.int .i64 32]) h)
  (h2:l % 512=0→0<l→l / 512≤16384→∀ q h' col',Fr No h h'→Ag h.size col col'→DiskAt h' (some q) (fresh (chunks bs)) col' m→K (.tuple #[.pointer (some q),.int .i64 0]) h') :
  C.adisk_Open a l c h K:=by
 have hbl:=B.1
 have hd:Int.tdiv (l:Int) 512=((l / 512:Nat):Int):=by rw [Int.tdiv_eq_ediv_of_nonneg (by omega)]; omega
 have hmd:Int.tmod (l:Int) 512=((l % 512:Nat):Int):=by rw [Int.tmod_eq_emod_of_nonneg (by omega)]; omega
 have hw:IntKind.wrap .i64 (Int.tdiv (l:Int) 512)=((l / 512:Nat):Int):=by rw [hd]; exact wrap_i64 (by omega) (by omega)
 refine adisk_Open.ok (cn (fun x=>h1 (Or.inl (by omega))) fun x=>?_)
 rw [hw]
 refine New_spec col m (fun y=>⟨_,_,rfl,cn (fun _=>h1 (by omega)) (fun z=>absurd z (by omega))⟩) fun y1 y2 q h' col' f1 g1 D1=>⟨_,_,rfl,cn (fun z=>absurd rfl z) fun _=>?_⟩
 obtain ⟨b,r,es,hq,D1⟩:=D1
 have hq:q=⟨b,0,none⟩:=by simpa using hq
 subst hq
 rw [Int.toNat_natCast] at D1
 have hN:=D1.ln
 simp only [fresh,List.length_replicate] at hN
 refine ⟨_,_,_,D1.field 0,?_⟩
 refine ⟨fun n hh=>0≤n∧n≤(l / 512:Nat)∧Fr No h hh∧Disk hh b (fresh ((chunks bs).take n.toNat++List.replicate (l / 512 - n.toNat) zeroBlk)) col' m r es,fun n _=>((l / 512:Nat) - n).toNat,
  ⟨by omega,by omega,f1,by rw [show (0:Int).toNat=0 from rfl,List.take_zero,List.nil_append,Nat.sub_zero]; exact D1⟩,?_⟩
 rintro n h3 ⟨n0,n1,f3,D3⟩
 rw [hN]
 have hcl:=chunks_length bs
 refine cd (fun hn=>?_) fun hn=>?_
 rotate_left
 ·have e:n.toNat=l / 512:=by omega
  rw [e,List.take_of_length_le (by rw [hcl,hbl]; omega),Nat.sub_self,List.replicate_zero,List.append_nil] at D3
  exact h2 (by omega) (by omega) (by omega) _ _ _ f3 g1 ⟨b,r,es,rfl,D3⟩
 have hn':n.toNat<l / 512:=by omega
 refine ⟨_,_,_,D3.field 0,⟨n0,by rw [hN]; exact hn⟩,?_⟩
 obtain ⟨p,e,_⟩:=D3.l.get (by rw [hN]; omega)
 rw [e]
 have L:=D3.l
 rw [e] at L
 obtain ⟨lb,lo,sp⟩:=p
 have hsp:sp=none:=L.2.1
 subst hsp
 have hw3:IntKind.wrap .i64 (n*512)=((n.toNat*512:Nat):Int):=by rw [wrap_i64 (by omega) (by omega)]; omega
 have hw2:IntKind.wrap .i64 (n+1)=n+1:=wrap_i64 (by omega) (by omega)
 simp only [hw3,hw2,Int.toNat_natCast]
 refine ⟨by omega,?_⟩
 rw [if_neg (by omega),add_mk]
 have B3:=StrAt.take (StrAt.drop (StrAt.fr f3 B (fun _ _ x=>x)) (n.toNat*512)) (n:=512) (by omega)
 obtain ⟨w1,w2⟩:=L.wr
 rw [hN] at w2
 have hy:((bs.drop (n.toNat*512)).take 512).length=512:=B3.1
 have hm:min (l - n.toNat*512) 512=512:=by omega
 refine CopyP.intro (new:=blk ((bs.drop (n.toNat*512)).take 512)) (by rw [blk_len hy,hm]; rfl) B3.2 (bv_one _) w1 (by rw [blk_len hy]; omega) fun h4 d4=>?_
 have hi:n.toNat<((chunks bs).take n.toNat++List.replicate (l / 512 - n.toNat) zeroBlk).length:=by rw [List.length_append,List.length_take,List.length_replicate,hcl,hbl]; omega
 have D4:=D3.putLast (i:=n.toNat) hi hy e d4
 refine ⟨⟨by omega,by omega,?_,?_⟩,falls hn⟩
 ·refine f3.did d4 fun x=>?_
  have hc:col' lb=m+1:=L.2.2.1
  have:=hf.new g1 (b:=lb) (by omega) (by omega)
  omega
 ·have ht:(n+1).toNat=n.toNat+1:=by omega
  have hx:n.toNat<(chunks bs).length:=by rw [hcl,hbl]; omega
  have e1:((chunks bs).take n.toNat++List.replicate (l / 512 - n.toNat) zeroBlk).set n.toNat ((bs.drop (n.toNat*512)).take 512)=(chunks bs).take (n+1).toNat++List.replicate (l / 512 - (n+1).toNat) zeroBlk:=by
   have h1:((chunks bs).take n.toNat).length=n.toNat:=by rw [List.length_take]; omega
   rw [List.set_append_right _ _ (by omega),h1,Nat.sub_self,show l / 512 - n.toNat=(l / 512 - (n+1).toNat)+1 by omega,List.replicate_succ,List.set_cons_zero,ht,take_snoc _ _ hx,chunks_get,List.append_assoc]; rfl
  rw [← e1]; exact D4
end Go.Proofs.YtiapingedfnlnaaGreatDoor.Ad
namespace Go.Proofs.YtiapingedfnlnaaGreatDoor.Ad
open Go Go.Proofs Wx Hp W
theorem Clone_spec {a:Option Addr} {l c:Nat} {bs:List UInt8} {h:Heap} {K:Value→Heap→Prop} (B:StrAt h a l bs) (hl:l≤140737488355328)
  (hK:∀ a' c' h',Fr No h h'→Sl h' 1 a' l c' (bs.map bv) (From h.size)→K (.slice a' l c') h'):C.slices_Clone_byte_byte a l c h K:=by
 have hbl:=B.1
 refine slices_Clone_byte_byte.ok (cs (fun e=>?_) fun _=>New.intro fun h2 n2=>?_)
 ·cases a with
  | none =>
   have e1:=B.2
   have e2:bs.map bv=[]:=e1
   have e2:bs=[]:=List.map_eq_nil_iff.mp e2
   subst e2
   have:l=0:=hbl.symm
   subst this
   exact hK none 0 h (Fr.refl _ _) (Sl.nil _ _ _)
  | some p=>simp at e
 ·obtain ⟨s1,s2,s3⟩:=StrAt.src (StrAt.fr n2.fr B (fun _ _ x=>x))
  refine ⟨_,s1,s2,s3,?_⟩
  refine append_own (xs:=[]) (F:=From h.size) (Sl.made n2 rfl (Nat.le_refl _) rfl (Nat.le_refl _) rfl) s1 rfl (by show (0+l)*1≤_; omega) (by omega) fun a' c' h' f s=>?_
  rw [Nat.zero_add,List.nil_append] at s
  rw [Nat.zero_add]
  have:=n2.size
  exact hK a' c' h' (n2.fr.trans f fun b hb e=>by have:h.size≤b:=e; omega) (s.mono fun b hb=>by rcases hb with hb|hb; exact hb; show h.size≤b; omega)
end Go.Proofs.YtiapingedfnlnaaGreatDoor.Ad
namespace Go.Proofs.YtiapingedfnlnaaGreatDoor.Ad
open Go Go.Proofs Wx Hp W
structure Gw (h:Heap) (D:Nat→Prop) (h':Heap) (D':Nat→Prop):Prop where
 old:∀ b,b<h.size→(D' b↔D b)
 lt:∀ b,D' b→b<h'.size
theorem Gw.refl {h h':Heap} {D:Nat→Prop} (hs:h.size≤h'.size) (hD:∀ b,D b→b<h.size):Gw h D h' D:=⟨fun _ _=>Iff.rfl,fun b hb=>Nat.lt_of_lt_of_le (hD b hb) hs⟩
theorem Gw.trans {h h' h'':Heap} {D D' D'':Nat→Prop} (g:Gw h D h' D') (g':Gw h' D' h'' D'') (hs:h.size≤h'.size):Gw h D h'' D'' :=
 ⟨fun b hb=>(g'.old b (by omega)).trans (g.old b hb),g'.lt⟩
theorem Gw.new {h h':Heap} {D D':Nat→Prop} (g:Gw h D h' D') {b:Nat} (hb:D' b):D b∨h.size≤b:=by
 rcases Nat.lt_or_ge b h.size with h1|h1
 ·exact .inl ((g.old b h1).mp hb)
 ·exact .inr h1
def trim (col:Nat→Nat) (n:Nat):Nat→Nat:=fun b=>if b<n then col b else 0
theorem trim_lt {col:Nat→Nat} {n b:Nat} (h:b<n):trim col n b=col b:=if_pos h
theorem trim_ge {col:Nat→Nat} {n b:Nat} (h:n≤b):trim col n b=0:=if_neg (by omega)
theorem ag_trim (col:Nat→Nat) (n:Nat):Ag n col (trim col n):=fun _ hb=>if_pos hb
def DiskF (h:Heap) (D:Nat→Prop) (d:Option Addr) (S:RD):Prop:=∃ col,DiskAt h d S col 1∧(∀ b,h.size≤b→col b=0)∧∀ b,D b↔1≤col b∧col b≤6
theorem DiskF.mk {h:Heap} {d:Option Addr} {S:RD} {col:Nat→Nat} (a:DiskAt h d S col 1):DiskF h (fun b=>b<h.size∧1≤col b∧col b≤6) d S:=by
 refine ⟨trim col h.size,a.keep (F:=No) (Fr.refl _ h) (ag_trim _ _) fun _ _ _ x=>x,fun b hb=>trim_ge hb,fun b=>⟨fun hb=>by rw [trim_lt hb.1]; exact hb.2,fun hb=>?_⟩⟩
 rcases Nat.lt_or_ge b h.size with h1|h1
 ·rw [trim_lt h1] at hb; exact ⟨h1,hb⟩
 ·rw [trim_ge h1] at hb; omega
theorem DiskF.lt {h:Heap} {D:Nat→Prop} {d:Option Addr} {S:RD} (a:DiskF h D d S) {b:Nat} (hb:D b):b<h.size:=by
 obtain ⟨col,_,hz,hD⟩:=a
 rcases Nat.lt_or_ge b h.size with h1|h1
 ·exact h1
 ·have:=(hD b).mp hb; rw [hz b h1] at this; omega
theorem DiskF.fr {h h':Heap} {D F:Nat→Prop} {d:Option Addr} {S:RD} (a:DiskF h D d S) (f:Fr F h h') (hF:∀ b,D b→¬ F b):DiskF h' D d S:=by
 obtain ⟨col,a,hz,hD⟩:=a
 have:=f.size
 exact ⟨col,a.keep f (Ag.refl _ _) fun b h1 h2=>hF b ((hD b).mpr ⟨h1,h2⟩),fun b hb=>hz b (by omega),hD⟩
theorem DiskF.no {h h':Heap} {D:Nat→Prop} {d:Option Addr} {S:RD} (a:DiskF h D d S) (f:Fr No h h'):DiskF h' D d S:=a.fr f fun _ _ x=>x
theorem DiskF.iff {h:Heap} {D D':Nat→Prop} {d:Option Addr} {S:RD} (a:DiskF h D d S) (e:∀ b,D' b↔D b):DiskF h D' d S:=by
 obtain ⟨col,a,hz,hD⟩:=a
 exact ⟨col,a,hz,fun b=>(e b).trans (hD b)⟩
theorem DiskF.blocks {h:Heap} {D:Nat→Prop} {d:Option Addr} {S:RD} {K:Value→Heap→Prop} (a:DiskF h D d S) (hK:K (.int .i64 S.lasts.length) h):C.adisk_Disk_Blocks d h K:=by
 obtain ⟨col,a,_⟩:=a
 exact Blocks_spec a hK
theorem DiskF.max {h:Heap} {D:Nat→Prop} {d:Option Addr} {S:RD} (a:DiskF h D d S):S.lasts.length≤16384∧∀ x ∈ S.lasts,x.length=512:=by
 obtain ⟨col,⟨b,r,es,_,D⟩,_⟩:=a
 exact ⟨D.lmax,D.lw⟩
theorem DiskF.read {h:Heap} {D:Nat→Prop} {d:Option Addr} {S:RD} {i:Int} {K:Value→Heap→Prop} (a:DiskF h D d S)
  (h1:S.down=true→K (.tuple #[.slice none 0 0,.int .i64 30]) h)
  (h2:S.down=false→¬ (0≤i∧i<S.lasts.length)→K (.tuple #[.slice none 0 0,.int .i64 31]) h)
  (h3:S.down=false→0≤i→i<S.lasts.length→∀ b h',Fr No h h'→Sl h' 1 (some ⟨b,0,none⟩) 512 512 ((readAt S i.toNat).map bv) (From h.size)→(readAt S i.toNat).length=512 →
   K (.tuple #[.slice (some ⟨b,0,none⟩) 512 512,.int .i64 0]) h') :
  C.adisk_Disk_Read d i h K:=by
 obtain ⟨col,a,_⟩:=a
 refine Read_spec a h1 h2 fun e i0 i1 b h' f hb o r l=>h3 e i0 i1 b h' f ⟨by rw [List.length_map,l],rfl,hb,o,Nat.le_refl _,?_,?_⟩ l
 ·show ((rd h' b).drop 0).take _=_
  rw [r,List.drop_zero,List.take_length]
 ·show 0+512*1≤(rd h' b).length
  rw [r,List.length_map,l]; exact Nat.le_refl _
theorem openF_spec {a:Option Addr} {l c:Nat} {bs:List UInt8} {h:Heap} {K:Value→Heap→Prop} (B:StrAt h a l bs) (hlc:l≤c) (hl:l≤140737488355328)
  (h1:l % 512≠0∨l=0∨16384<l / 512→K (.tuple #[.pointer none,.int .i64 32]) h)
  (h2:l % 512=0→0<l→l / 512≤16384→∀ q h' D,Fr No h h'→(∀ b,D b→h.size≤b)→DiskF h' D (some q) (fresh (chunks bs))→K (.tuple #[.pointer (some q),.int .i64 0]) h') :
  C.adisk_Open a l c h K:=by
 refine Open_spec (fun _=>0) 1 (fun _ _ h1 _=>absurd h1 (by show ¬ (1≤0); omega)) B hlc hl h1 fun y1 y2 y3 q h' col' f g a=>?_
 refine h2 y1 y2 y3 q h' _ f (fun b hb=>?_) (DiskF.mk a)
 rcases Nat.lt_or_ge b h.size with h1|h1
 ·have e:col' b=0:=g b h1
  omega
 ·exact h1
end Go.Proofs.YtiapingedfnlnaaGreatDoor.Ad
namespace Go.Proofs.YtiapingedfnlnaaGreatDoor.Tm
open Go Go.Proofs Wx Hp W Ad
abbrev Txt := List UInt8
def aget {α:Type}:List (Int×α)→Int→Option α
 | [],_=>none
 | (k,v)::r,x=>bif x == k then some v else aget r x
def aput {α:Type}:List (Int×α)→Int→α→List (Int×α)
 | [],x,v=>[(x,v)]
 | (k,u)::r,x,v=>bif x == k then (x,v)::r else (k,u)::aput r x v
def adel {α:Type}:List (Int×α)→Int→List (Int×α)
 | [],_=>[]
 | (k,u)::r,x=>bif x == k then r else (k,u)::adel r x
theorem aget_aput {α:Type} (v:α) (i j:Int):∀ m:List (Int×α),aget (aput m i v) j=if j=i then some v else aget m j
 | []=>by
  show (bif j == i then some v else none)=_
  by_cases h:j=i
  ·rw [if_pos h,h,beq_self_eq_true]; rfl
  ·rw [if_neg h,beq_eq_false_iff_ne.mpr h]; rfl
 | (k,u)::r=>by
  have ih:=aget_aput v i j r
  show aget (bif i == k then (i,v)::r else (k,u)::aput r i v) j=if j=i then some v else (bif j == k then some u else aget r j)
  by_cases h:i=k
  ·subst h
   rw [beq_self_eq_true]
   show (bif j == i then some v else aget r j)=_
   by_cases h2:j=i
   ·rw [if_pos h2,h2,beq_self_eq_true]; rfl
   ·rw [if_neg h2,beq_eq_false_iff_ne.mpr h2]; rfl
  ·rw [beq_eq_false_iff_ne.mpr h]
   show (bif j == k then some u else aget (aput r i v) j)=_
   rw [ih]
   by_cases h2:j=k
   ·have hn:¬ j=i:=fun e=>h (e.symm.trans h2)
    rw [if_neg hn,if_neg hn,h2,beq_self_eq_true]
   ·rw [beq_eq_false_iff_ne.mpr h2]; rfl
theorem aget_none {α:Type} {i:Int}:∀ {m:List (Int×α)},aget m i=none↔∀ p ∈ m,p.1≠i
 | []=>⟨fun _ p hp=>(by cases hp),fun _=>rfl⟩
 | (k,u)::r=>by
  show (bif i == k then some u else aget r i)=none↔_
  by_cases h:i=k
  ·rw [h,beq_self_eq_true]
   exact ⟨fun x=>(by cases x),fun x=>absurd rfl (x (k,u) (List.mem_cons_self ..))⟩
  ·rw [beq_eq_false_iff_ne.mpr h]
   show aget r i=none↔_
   rw [aget_none]
   refine ⟨fun x p hp=>?_,fun x p hp=>x p (List.mem_cons_of_mem _ hp)⟩
   rcases List.mem_cons.mp hp with rfl|hp
   ·exact fun e=>h e.symm
   ·exact x p hp
theorem aget_mem {α:Type} {i:Int} {v:α}:∀ {m:List (Int×α)},aget m i=some v→(i,v) ∈ m
 | [],h=>by cases h
 | (k,u)::r,h=>by
  have h:(bif i == k then some u else aget r i)=some v:=h
  by_cases e:i=k
  ·rw [e,beq_self_eq_true] at h
   cases h
   rw [e]; exact List.mem_cons_self ..
  ·rw [beq_eq_false_iff_ne.mpr e] at h
   exact List.mem_cons_of_mem _ (aget_mem h)
theorem aput_mem {α:Type} {i:Int} {v:α} {p:Int×α}:∀ {m:List (Int×α)},p ∈ aput m i v→p=(i,v)∨p ∈ m
 | [],h => .inl (List.mem_singleton.mp h)
 | (k,u)::r,h=>by
  have h:p ∈ (bif i == k then (i,v)::r else (k,u)::aput r i v):=h
  by_cases e:i=k
  ·rw [e,beq_self_eq_true] at h
   rcases List.mem_cons.mp h with h|h
   ·left; rw [h,e]
   ·exact .inr (List.mem_cons_of_mem _ h)
  ·rw [beq_eq_false_iff_ne.mpr e] at h
   rcases List.mem_cons.mp h with h|h
   ·exact .inr (h▸List.mem_cons_self ..)
   ·rcases aput_mem h with h|h
    ·exact .inl h
    ·exact .inr (List.mem_cons_of_mem _ h)
theorem adel_mem {α:Type} {i:Int} {p:Int×α}:∀ {m:List (Int×α)},p ∈ adel m i→p ∈ m
 | [],h=>h
 | (k,u)::r,h=>by
  have h:p ∈ (bif i == k then r else (k,u)::adel r i):=h
  by_cases e:i=k
  ·rw [e,beq_self_eq_true] at h; exact List.mem_cons_of_mem _ h
  ·rw [beq_eq_false_iff_ne.mpr e] at h
   rcases List.mem_cons.mp h with h|h
   ·exact h▸List.mem_cons_self ..
   ·exact List.mem_cons_of_mem _ (adel_mem h)
theorem adel_aput {α:Type} {i:Int} {v:α}:∀ {m:List (Int×α)},aget m i=none→adel (aput m i v) i=m
 | [],_=>by show (bif i == i then [] else _)=_; rw [beq_self_eq_true]; rfl
 | (k,u)::r,h=>by
  have h:(bif i == k then some u else aget r i)=none:=h
  by_cases e:i=k
  ·rw [e,beq_self_eq_true] at h; cases h
  ·rw [beq_eq_false_iff_ne.mpr e] at h
   show adel (bif i == k then (i,v)::r else (k,u)::aput r i v) i=_
   rw [beq_eq_false_iff_ne.mpr e]
   show (bif i == k then _ else (k,u)::adel (aput r i v) i)=_
   rw [beq_eq_false_iff_ne.mpr e,adel_aput h]; rfl
theorem aput_aput {α:Type} {i:Int} {v w:α}:∀ {m:List (Int×α)},aget m i=some w→aput (aput m i v) i w=m
 | [],h=>by cases h
 | (k,u)::r,h=>by
  have h:(bif i == k then some u else aget r i)=some w:=h
  show aput (bif i == k then (i,v)::r else (k,u)::aput r i v) i w=_
  by_cases e:i=k
  ·subst e
   rw [beq_self_eq_true] at h ⊢
   cases h
   show (bif i == i then (i,w)::r else _)=_
   rw [beq_self_eq_true]; rfl
  ·rw [beq_eq_false_iff_ne.mpr e] at h ⊢
   show (bif i == k then _ else (k,u)::aput (aput r i v) i w)=_
   rw [beq_eq_false_iff_ne.mpr e,aput_aput h]; rfl
theorem aget_map {α β:Type} (f:α→β) (i:Int):∀ m:List (Int×α),aget (m.map fun p=>(p.1,f p.2)) i=(aget m i).map f
 | []=>rfl
 | (k,u)::r=>by
  show (bif i == k then some (f u) else aget (r.map fun p=>(p.1,f p.2)) i)=(bif i == k then some u else aget r i).map f
  rw [aget_map f i r]
  cases i == k <;> rfl
theorem aput_map {α β:Type} (f:α→β) (i:Int) (v:α):∀ m:List (Int×α),aput (m.map fun p=>(p.1,f p.2)) i (f v)=(aput m i v).map fun p=>(p.1,f p.2)
 | []=>rfl
 | (k,u)::r=>by
  show (bif i == k then (i,f v)::r.map (fun p=>(p.1,f p.2)) else (k,f u)::aput (r.map fun p=>(p.1,f p.2)) i (f v))=(bif i == k then (i,v)::r else (k,u)::aput r i v).map fun p=>(p.1,f p.2)
  rw [aput_map f i v r]
  cases i == k <;> rfl
theorem adel_map {α β:Type} (f:α→β) (i:Int):∀ m:List (Int×α),adel (m.map fun p=>(p.1,f p.2)) i=(adel m i).map fun p=>(p.1,f p.2)
 | []=>rfl
 | (k,u)::r=>by
  show (bif i == k then r.map (fun p=>(p.1,f p.2)) else (k,f u)::adel (r.map fun p=>(p.1,f p.2)) i)=(bif i == k then r else (k,u)::adel r i).map fun p=>(p.1,f p.2)
  rw [adel_map f i r]
  cases i == k <;> rfl
def mm {α:Type} (f:α→Value) (m:List (Int×α)):MapC:=m.map fun p=>(.i p.1,f p.2)
theorem mget_mm {α:Type} (f:α→Value) (i:Int):∀ m:List (Int×α),mget (mm f m) (.i i)=(aget m i).map f
 | []=>rfl
 | (k,u)::r=>by
  show (bif i == k then some (f u) else mget (mm f r) (.i i))=(bif i == k then some u else aget r i).map f
  rw [mget_mm f i r]
  cases i == k <;> rfl
theorem mput_mm {α:Type} (f:α→Value) (i:Int) (v:α):∀ m:List (Int×α),mput (mm f m) (.i i) (f v)=mm f (aput m i v)
 | []=>rfl
 | (k,u)::r=>by
  show (bif i == k then (.i i,f v)::mm f r else (.i k,f u)::mput (mm f r) (.i i) (f v))=mm f (bif i == k then (i,v)::r else (k,u)::aput r i v)
  rw [mput_mm f i v r]
  cases i == k <;> rfl
theorem mdel_mm {α:Type} (f:α→Value) (i:Int):∀ m:List (Int×α),mdel (mm f m) (.i i)=mm f (adel m i)
 | []=>rfl
 | (k,u)::r=>by
  show (bif i == k then mm f r else (.i k,f u)::mdel (mm f r) (.i i))=mm f (bif i == k then r else (k,u)::adel r i)
  rw [mdel_mm f i r]
  cases i == k <;> rfl
theorem mm_length {α:Type} (f:α→Value) (m:List (Int×α)):(mm f m).length=m.length:=List.length_map ..
abbrev DI : D := .int .i64
theorem map_lt {d:D} {h:Heap} {r:Nat} {m:MapC} (a:MapAt d h r m):r<h.size:=by
 obtain ⟨es,ck,e,_⟩:=a
 exact (Array.getElem?_eq_some_iff.mp e).1
theorem map_fr {d:D} {h h':Heap} {r:Nat} {m:MapC} {F:Nat→Prop} (a:MapAt d h r m) (f:Fr F h h') (hF:¬ F r):MapAt d h' r m:=by
 have hl:=map_lt a
 obtain ⟨es,ck,e,q⟩:=a
 exact ⟨es,ck,(f.same r hl hF).trans e,q⟩
theorem mapTo_fr {d:D} {h h':Heap} {r:Nat} {m:MapC} (t:MapTo d h r m h'):Fr (fun b=>b=r) h h':=⟨by rw [t.size]; exact Nat.le_refl _,fun b _ hb=>t.same b hb⟩
theorem newM_size (h:Heap):(newM h).size=h.size+1:=by simp [newM]
theorem newM_fr (h:Heap):Fr No h (newM h):=⟨by rw [newM_size]; omega,fun b hb _=>by simp only [newM]; rw [Array.getElem?_push,if_neg (by omega)]⟩
theorem newM_at (h:Heap):MapAt DI (newM h) h.size []:=⟨#[],0,by simp [newM],rfl,(fun p hp=>by cases hp),MapKept.stamped_empty 0⟩
structure TM where
 disk:RD
 put:List (Int×Txt)
 undo:List (Int×Option Txt)
 over:Bool
def TM.N (T:TM):Nat:=T.disk.lasts.length
def TM.get (T:TM) (i:Int):Txt×Int:=match aget T.put i with
 | some b=>(b,0)
 | none=>if T.disk.down=true then ([],30) else (readAt T.disk i.toNat,0)
theorem TM.get_some {T:TM} {i:Int} {b:Txt} (e:aget T.put i=some b):T.get i=(b,0):=by unfold TM.get; rw [e]
theorem TM.get_none {T:TM} {i:Int} (e:aget T.put i=none):T.get i=if T.disk.down=true then ([],30) else (readAt T.disk i.toNat,0):=by unfold TM.get; rw [e]
def TM.read (T:TM) (i:Int):Txt×Int :=
 if T.over=true then ([],61) else if i<0∨i≥T.N then ([],31) else T.get i
def TM.write (T:TM) (i:Int) (bs:Txt):TM×Int :=
 if T.over=true then (T,61) else if i<98∨i≥T.N then (T,31) else if bs.length≠512 then (T,32) else if aget T.put i=none∧T.put.length≥96 then (T,60)
  else ({ T with put:=aput T.put i bs,undo:=T.undo++[(i,aget T.put i)] },0)
def TM.mark (T:TM):Int×Int:=if T.over=true then (0,61) else (T.undo.length,0)
def undo1 (m:List (Int×Txt)) (u:Int×Option Txt):List (Int×Txt):=match u.2 with
 | some b=>aput m u.1 b
 | none=>adel m u.1
def undoAll (m:List (Int×Txt)) (us:List (Int×Option Txt)):List (Int×Txt):=us.foldr (fun u m=>undo1 m u) m
def TM.back (T:TM) (mark:Int):TM×Int :=
 if T.over=true then (T,61) else if mark<0∨mark>T.undo.length then (T,62)
  else ({ T with put:=undoAll T.put (T.undo.drop mark.toNat),undo:=T.undo.take mark.toNat },0)
structure Sc where
 a:Option Addr
 l:Nat
 c:Nat
def Sc.v (s:Sc):Value := .slice s.a s.l s.c
structure Blk (h:Heap) (col:Nat→Nat) (k:Nat) (x:Sc×Txt):Prop where
 s:StrAt h x.1.a x.1.l x.2
 l:x.2.length=512
 at_:∀ p,x.1.a=some p→p.block<h.size∧col p.block=k
theorem Blk.keep {h h':Heap} {col col':Nat→Nat} {k:Nat} {x:Sc×Txt} {F:Nat→Prop} (b:Blk h col k x) (f:Fr F h h') (g:Ag h.size col col') (hF:∀ b,b<h.size→col b=k→¬ F b):Blk h' col' k x :=
 ⟨StrAt.fr f b.s fun p e=>hF _ (b.at_ p e).1 (b.at_ p e).2,b.l,fun p e=>⟨Nat.lt_of_lt_of_le (b.at_ p e).1 f.size,(g _ (b.at_ p e).1).trans (b.at_ p e).2⟩⟩
structure UR where
 i:Int
 was:Option (Sc×Txt)
 ok:Nat
 w:Nat
 tc:Nat
 ic:Nat
def UR.v (u:UR):Value := .func (.func 188) #[] ⟨[.pointer (some ⟨u.ok,0,none⟩),.pointer (some ⟨u.w,0,none⟩),.pointer (some ⟨u.tc,0,none⟩),.pointer (some ⟨u.ic,0,none⟩)]⟩
def wasV (w:Option (Sc×Txt)):Value:=match w with
 | some x=>x.1.v
 | none => .slice none 0 0
structure Und (h:Heap) (col:Nat→Nat) (tb:Nat) (u:UR):Prop where
 ok:rd h u.ok=[.bool u.was.isSome]
 w:rd h u.w=[wasV u.was]
 tc:rd h u.tc=[.pointer (some ⟨tb,0,none⟩)]
 ic:rd h u.ic=[.int .i64 u.i]
 at_:∀ b,b=u.ok∨b=u.w∨b=u.tc∨b=u.ic→b<h.size∧col b=4
 b:∀ x,u.was=some x→Blk h col 4 x
theorem Und.keep {h h':Heap} {col col':Nat→Nat} {tb:Nat} {u:UR} {F:Nat→Prop} (a:Und h col tb u) (f:Fr F h h') (g:Ag h.size col col') (hF:∀ b,b<h.size→col b=4→¬ F b):Und h' col' tb u:=by
 have k:∀ b,b=u.ok∨b=u.w∨b=u.tc∨b=u.ic→rd h' b=rd h b:=fun b hb=>f.rd (a.at_ b hb).1 (hF b (a.at_ b hb).1 (a.at_ b hb).2)
 exact ⟨(k _ (by simp)).trans a.ok,(k _ (by simp)).trans a.w,(k _ (by simp)).trans a.tc,(k _ (by simp)).trans a.ic,fun b hb=>⟨Nat.lt_of_lt_of_le (a.at_ b hb).1 f.size,(g _ (a.at_ b hb).1).trans (a.at_ b hb).2⟩,fun x e=>(a.b x e).keep f g hF⟩
structure TR where
 tb:Nat
 mb:Nat
 ua:Option Addr
 uc:Nat
 ps:List (Int×(Sc×Txt))
 us:List UR
structure TxC (h:Heap) (col:Nat→Nat) (d:Option Addr) (r:TR) (T:TM):Prop where
 nrm:∀ b,h.size≤b→col b=0
 sc:col r.tb=1
 own:Own h r.tb
 cell:rd h r.tb=[.pointer d,.map (some r.mb),.slice r.ua r.us.length r.uc,.bool false]
 mc:col r.mb=2
 map:MapAt DI h r.mb (mm (fun x=>x.1.v) r.ps)
 un:Sl h 1 r.ua r.us.length r.uc (r.us.map UR.v) (On col 3)
 pok:∀ p ∈ r.ps,Blk h col 4 p.2
 uok:∀ u ∈ r.us,Und h col r.tb u
 put:T.put=r.ps.map fun p=>(p.1,p.2.2)
 undo:T.undo=r.us.map fun u=>(u.i,u.was.map (·.2))
 live:T.over=false
 dk:DiskF h (fun b=>col b=5) d T.disk
 pk:∀ p ∈ T.put,98≤p.1∧p.1<T.N
 ui:∀ u ∈ r.us,98≤u.i∧u.i<T.N
structure TxO (h:Heap) (col:Nat→Nat) (d:Option Addr) (tb:Nat) (T:TM):Prop where
 nrm:∀ b,h.size≤b→col b=0
 sc:col tb=1
 own:Own h tb
 cell:rd h tb=[.pointer d,.map none,.slice none 0 0,.bool true]
 gone:T.put=[]∧T.undo=[]
 over:T.over=true
 dk:DiskF h (fun b=>col b=5) d T.disk
def Tx (h:Heap) (F:Nat→Prop) (t d:Option Addr) (T:TM):Prop :=
 (∃ col r,t=some ⟨r.tb,0,none⟩∧TxC h col d r T∧∀ b,F b↔1≤col b∧col b≤5)∨(∃ col tb,t=some ⟨tb,0,none⟩∧TxO h col d tb T∧∀ b,F b↔1≤col b∧col b≤5)
theorem TxC.keep {h h':Heap} {col col':Nat→Nat} {d:Option Addr} {r:TR} {T:TM} {F:Nat→Prop} (t:TxC h col d r T) (f:Fr F h h') (g:Ag h.size col col') (hz:∀ b,h'.size≤b→col' b=0) (hn:∀ b,h.size≤b→¬ (1≤col' b∧col' b≤5)) (hF:∀ b,b<h.size→1≤col b→col b≤5→¬ F b):TxC h' col' d r T:=by
 have hl:=t.own.lt
 have s1:=t.sc
 have s2:=t.mc
 have ml:=map_lt t.map
 have k4:∀ b,b<h.size→col b=4→¬ F b:=fun b hb e=>hF b hb (by omega) (by omega)
 refine ⟨hz,(g _ hl).trans s1,f.own hl (hF _ hl (by omega) (by omega)) t.own,(f.rd hl (hF _ hl (by omega) (by omega))).trans t.cell,(g _ ml).trans s2,map_fr t.map f (hF _ ml (by omega) (by omega)),?_,
  fun p hp=>(t.pok p hp).keep f g k4,fun u hu=>(t.uok u hu).keep f g k4,t.put,t.undo,t.live,?_,t.pk,t.ui⟩
 ·have s':=Hp.Sl.fr f t.un (fun b hb hk=>hF b hb (by have hk:col b=3:=hk; omega) (by have hk:col b=3:=hk; omega))
  obtain ⟨h1,h2⟩:=s'
  refine ⟨h1,?_⟩
  have ul:=t.un
  revert h2 ul
  cases r.ua with
  | none=>intro h2 _; exact h2
  | some p=>intro h2 ul; obtain ⟨a1,a2,a3,a4⟩:=h2; exact ⟨a1,(g _ ul.lt).trans a2,a3,a4⟩
 ·refine (t.dk.fr f fun b hb=>hF b (t.dk.lt hb) (by have hb:col b=5:=hb; omega) (by have hb:col b=5:=hb; omega)).iff fun b=>?_
  rcases Nat.lt_or_ge b h.size with h1|h1
  ·show col' b=5↔col b=5; rw [g b h1]
  ·have:=hn b h1
   have:=t.nrm b h1
   show col' b=5↔col b=5
   omega
theorem TxO.keep {h h':Heap} {col:Nat→Nat} {d:Option Addr} {tb:Nat} {T:TM} {F:Nat→Prop} (t:TxO h col d tb T) (f:Fr F h h') (hF:∀ b,b<h.size→1≤col b→col b≤5→¬ F b):TxO h' col d tb T:=by
 have hl:=t.own.lt
 have s1:=t.sc
 have hs:=f.size
 exact ⟨fun b hb=>t.nrm b (by omega),s1,f.own hl (hF _ hl (by omega) (by omega)) t.own,(f.rd hl (hF _ hl (by omega) (by omega))).trans t.cell,t.gone,t.over,
  t.dk.fr f fun b hb=>hF b (t.dk.lt hb) (by have hb:col b=5:=hb; omega) (by have hb:col b=5:=hb; omega)⟩
theorem Tx.lt {h:Heap} {F:Nat→Prop} {t d:Option Addr} {T:TM} (x:Tx h F t d T) {b:Nat} (hb:F b):b<h.size:=by
 rcases Nat.lt_or_ge b h.size with h1|h1
 ·exact h1
 ·exfalso
  rcases x with ⟨col,r,_,c,hF⟩|⟨col,tb,_,c,hF⟩
  ·have:=(hF b).mp hb; rw [c.nrm b h1] at this; omega
  ·have:=(hF b).mp hb; rw [c.nrm b h1] at this; omega
theorem Tx.fr {h h':Heap} {F G:Nat→Prop} {t d:Option Addr} {T:TM} (x:Tx h F t d T) (f:Fr G h h') (hG:∀ b,F b→¬ G b):Tx h' F t d T:=by
 have hs:=f.size
 rcases x with ⟨col,r,e,c,hF⟩|⟨col,tb,e,c,hF⟩
 ·exact .inl ⟨col,r,e,c.keep f (Ag.refl _ _) (fun b hb=>c.nrm b (by omega)) (fun b hb y=>by rw [c.nrm b hb] at y; omega) fun b _ h1 h2=>hG b ((hF b).mpr ⟨h1,h2⟩),hF⟩
 ·exact .inr ⟨col,tb,e,c.keep f fun b _ h1 h2=>hG b ((hF b).mpr ⟨h1,h2⟩),hF⟩
theorem Tx.no {h h':Heap} {F:Nat→Prop} {t d:Option Addr} {T:TM} (x:Tx h F t d T) (f:Fr No h h'):Tx h' F t d T:=x.fr f fun _ _ y=>y
theorem sl_take {h:Heap} {l c m:Nat} {a:Option Addr} {xs:List Value} {F:Nat→Prop} (s:Sl h 1 a l c xs F) (hm:m≤l):Sl h 1 a m c (xs.take m) F:=by
 cases a with
 | none =>
  obtain ⟨h1,h2,h3⟩:=s
  have:m=0:=by omega
  subst this
  exact ⟨rfl,rfl,h3⟩
 | some p =>
  obtain ⟨h1,a1,a2,a3,a4,a5,a6⟩:=s
  rw [Nat.mul_one] at h1
  refine ⟨by rw [List.length_take]; omega,a1,a2,a3,by omega,?_,by rw [Nat.mul_one] at a6 ⊢; omega⟩
  rw [List.length_take,h1,Nat.min_eq_left hm]
  conv=>rhs; rw [← a5]
  rw [List.take_take,h1,Nat.min_eq_left hm]
theorem Tx.dk {h:Heap} {F:Nat→Prop} {t d:Option Addr} {T:TM} (x:Tx h F t d T):∃ D,DiskF h D d T.disk∧∀ b,D b→F b:=by
 rcases x with ⟨col,r,e,c,hF⟩|⟨col,tb,e,c,hF⟩
 ·exact ⟨_,c.dk,fun b hb=>(hF b).mpr (by have hb:col b=5:=hb; omega)⟩
 ·exact ⟨_,c.dk,fun b hb=>(hF b).mpr (by have hb:col b=5:=hb; omega)⟩
end Go.Proofs.YtiapingedfnlnaaGreatDoor.Tm
namespace Go.Proofs.YtiapingedfnlnaaGreatDoor.Tm
open Go Go.Proofs Wx Hp W Ad
theorem oe {α:Type} {a:Option α} {p:α} {k:α→Prop} (e:a=some p) (h:k p):onSome a k:=by rw [e]; exact h
theorem pick_col (D:Nat→Prop) (x y:Nat):∃ c:Nat→Nat,(∀ b,D b→c b=x)∧∀ b,¬ D b→c b=y :=
 ⟨fun b=>@ite _ (D b) (Classical.propDecidable _) x y,fun b h=>if_pos h,fun b h=>if_neg h⟩
theorem Begin_spec {h:Heap} {D:Nat→Prop} {d:Option Addr} {S:RD} {K:Value→Heap→Prop} (a:DiskF h D d S)
  (hK:∀ tb h' F,Fr No h h'→Gw h D h' F→Tx h' F (some ⟨tb,0,none⟩) d ⟨S,[],[],false⟩→K (.pointer (some ⟨tb,0,none⟩)) h'):C.txn_Begin d h K:=by
 refine txn_Begin.ok ?_
 show New _ _ (newM h) _
 refine New.intro fun h3 n3=>?_
 have sm:=newM_size h
 have s3:=n3.size
 have F:=(newM_fr h).new n3
 have e:=n3.rd
 have o:=n3.own
 rw [sm] at e o ⊢
 obtain ⟨c,c1,c2⟩:=pick_col D 5 0
 have hlt:∀ b,D b→b<h.size:=fun b hb=>a.lt hb
 have cz:∀ b,h.size≤b→c b=0:=fun b hb=>c2 b fun x=>by have:=hlt b x; omega
 have cr:∀ b,1≤c b→D b:=fun b x=>by
  by_cases hd:D b
  ·exact hd
  ·rw [c2 b hd] at x; omega
 have cd:∀ b,c b=5↔D b:=fun b=>⟨fun x=>cr b (by omega),c1 b⟩
 obtain ⟨col,k1,k2,k3⟩:∃ col:Nat→Nat,(∀ b,b≠h.size→b≠h.size+1→col b=c b)∧col h.size=2∧col (h.size+1)=1 :=
  ⟨fun b=>if b=h.size then 2 else if b=h.size+1 then 1 else c b,fun b x y=>by show (if _ then _ else if _ then _ else _)=_; rw [if_neg x,if_neg y],if_pos rfl,by show (if _ then _ else if _ then _ else _)=_; rw [if_neg (by omega),if_pos rfl]⟩
 refine hK (h.size+1) h3 (fun b=>1≤col b∧col b≤5) F ⟨fun b hb=>?_,fun b hb=>?_⟩ (.inl ⟨col,⟨h.size+1,h.size,none,0,[],[]⟩,rfl,⟨fun b hb=>?_,k3,o,e,k2,map_fr (newM_at h) n3.fr fun x=>x,Sl.nil _ _ _,fun p hp=>(by cases hp),fun u hu=>(by cases hu),rfl,rfl,rfl,?_,fun p hp=>(by cases hp),fun u hu=>(by cases hu)⟩,fun b=>Iff.rfl⟩)
 ·show 1≤col b∧col b≤5↔D b
  rw [k1 b (by omega) (by omega)]
  exact ⟨fun x=>cr b x.1,fun x=>by rw [c1 b x]; omega⟩
 ·have hb:1≤col b∧col b≤5:=hb
  by_cases x:b=h.size
  ·omega
  ·by_cases y:b=h.size+1
   ·omega
   ·rw [k1 b x y] at hb
    have:=hlt b (cr b hb.1); omega
 ·rw [k1 b (by omega) (by omega)]; exact cz b (by omega)
 ·refine (a.no F).iff fun b=>?_
  show col b=5↔D b
  by_cases x:b=h.size
  ·subst x
   rw [k2]; exact ⟨fun x=>(by omega),fun x=>by have:=hlt _ x; omega⟩
  ·by_cases y:b=h.size+1
   ·subst y
    rw [k3]; exact ⟨fun x=>(by omega),fun x=>by have:=hlt _ x; omega⟩
   ·rw [k1 b x y]; exact cd b
theorem Clone_any {a:Option Addr} {l c:Nat} {bs:List UInt8} {h:Heap} {K:Value→Heap→Prop} (B:StrAt h a l bs) (hl:l≤140737488355328)
  (hK:∀ a' c' h',Fr No h h'→Sl h' 1 a' l c' (bs.map bv) (From h.size)→K (.slice a' l c') h'):C.slices_Clone_byte_byte a l c h K:=Clone_spec B hl hK
theorem Read_spec {h:Heap} {F:Nat→Prop} {t d:Option Addr} {T:TM} {i:Int} {K:Value→Heap→Prop} (x:Tx h F t d T)
  (hK:∀ a l c h',Fr No h h'→l=(T.read i).1.length→Sl h' 1 a l c ((T.read i).1.map bv) (From h.size)→K (.tuple #[.slice a l c,.int .i64 (T.read i).2]) h'):C.txn_Txn_Read t i h K:=by
 rcases x with ⟨col,r,rfl,c,hF⟩|⟨col,tb,rfl,c,hF⟩
 ·refine txn_Txn_Read.ok (os ⟨_,rda c.cell rfl,cf rfl ?_⟩)
  have e0:T.read i=if i<0∨i≥T.N then ([],31) else T.get i:=by
   unfold TM.read; rw [c.live,if_neg (by simp)]
  have bad:(i<0∨i≥T.N)→K (.tuple #[.slice none 0 0,.int .i64 31]) h:=fun hb=>by
   rw [e0,if_pos hb] at hK
   exact hK none 0 0 h (Fr.refl _ _) rfl (Sl.nil _ _ _)
  refine cd (fun hn=>bad (.inl hn)) fun h0=>os ⟨_,rda c.cell rfl,c.dk.blocks ⟨_,rfl,cd (fun hn=>bad (.inr hn)) fun h1=>?_⟩⟩
  have e1:¬ (i<0∨i≥T.N):=by
   rintro (x|x)
   ·exact h0 x
   ·exact h1 x
  rw [e0,if_neg e1] at hK
  unfold txn_Txn_Read.k1
  refine os ⟨_,rda c.cell rfl,_,c.map,?_⟩
  dsimp only
  rw [mget_mm]
  have eput:aget T.put i=(aget r.ps i).map (·.2):=by rw [c.put]; exact aget_map (fun x:Sc×Txt=>x.2) i r.ps
  cases e:aget r.ps i with
  | none =>
   rw [TM.get_none (by rw [eput,e]; rfl)] at hK
   refine ⟨none,0,0,rfl,cf rfl (os ⟨_,rda c.cell rfl,c.dk.read (fun hd=>?_) (fun _ hno=>absurd ⟨by omega,by have:¬ i≥(T.N:Int):=h1; have e:T.N=T.disk.lasts.length:=rfl; omega⟩ hno) fun hd _ _ b h' f s hl=>?_⟩)⟩
   ·rw [if_pos hd] at hK
    exact ⟨_,_,_,_,rfl,hK none 0 0 h (Fr.refl _ _) rfl (Sl.nil _ _ _)⟩
   ·rw [if_neg (by rw [hd]; simp)] at hK
    exact ⟨_,_,_,_,rfl,hK _ 512 512 h' f hl.symm s⟩
  | some x =>
   rw [TM.get_some (b:=x.2) (by rw [eput,e]; rfl)] at hK
   have B:=c.pok _ (aget_mem e)
   have B:Blk h col 4 x:=B
   have hl:x.1.l=512:=by rw [← B.s.1]; exact B.l
   refine ⟨x.1.a,x.1.l,x.1.c,rfl,ct rfl (Clone_any B.s (by omega) fun a' c' h' f s=>⟨_,_,_,rfl,?_⟩)⟩
   exact hK a' x.1.l c' h' f B.s.1.symm s
 ·refine txn_Txn_Read.ok (os ⟨_,rda c.cell rfl,ct rfl ?_⟩)
  have e0:T.read i=([],61):=by unfold TM.read; rw [c.over,if_pos rfl]
  rw [e0] at hK
  exact hK none 0 0 h (Fr.refl _ _) rfl (Sl.nil _ _ _)
theorem Mark_spec {h:Heap} {F:Nat→Prop} {t d:Option Addr} {T:TM} {K:Value→Heap→Prop} (x:Tx h F t d T) (hK:K (.tuple #[.int .i64 T.mark.1,.int .i64 T.mark.2]) h):C.txn_Txn_Mark t h K:=by
 rcases x with ⟨col,r,rfl,c,hF⟩|⟨col,tb,rfl,c,hF⟩
 ·refine txn_Txn_Mark.ok (os ⟨_,rda c.cell rfl,cf rfl (os ⟨_,_,_,rda c.cell rfl,?_⟩)⟩)
  have:T.mark=((r.us.length:Int),0):=by unfold TM.mark; rw [c.live,if_neg (by simp),c.undo,List.length_map]
  rw [this] at hK; exact hK
 ·refine txn_Txn_Mark.ok (os ⟨_,rda c.cell rfl,ct rfl ?_⟩)
  have:T.mark=(0,61):=by unfold TM.mark; rw [c.over,if_pos rfl]
  rw [this] at hK; exact hK
theorem Write_pre {h:Heap} {tb:Nat} {i:Int} {a:Option Addr} {l c:Nat} {m1:Option Nat} {W:MapC} {sA:Option Addr} {sL sC:Nat} {K:Value→Heap→Prop}
  (hc:∀ hq,Fr No h hq→cellOf hq (Addr.add ⟨tb,0,none⟩ 1)=some (.map m1)) (hM:∀ hq (K':MapC→Prop),Fr No h hq→K' W→MapIn DI m1 hq K') (hs:Option.getD (mget W (.i i)) (zeroV ti86) = .slice sA sL sC)
  (fin:∀ (h2:Heap) h7 wb ob,h2.size=h.size+1→Fr No h h7→h.size+2≤wb→h.size+2≤ob→wb<h7.size→ob<h7.size→wb≠ob→rd h7 h.size=[.pointer (some ⟨tb,0,none⟩)]→rd h7 (h.size+1)=[.int .i64 i] →
   rd h7 wb=[.slice sA sL sC]→rd h7 ob=[.bool (mget W (.i i)).isSome]→txn_Txn_Write.k1 a l c h h2 (some ⟨wb,0,none⟩) (some ⟨ob,0,none⟩) h7 K):C.txn_Txn_Write (some ⟨tb,0,none⟩) i a l c h K:=by
 refine txn_Txn_Write.ok (New.intro fun h2 n2=>New.intro fun h3 n3=>?_)
 have s2:=n2.size
 have s3:=n3.size
 have F3:=n2.fr.new n3
 have r1:rd h3 h.size=[.pointer (some ⟨tb,0,none⟩)]:=(n3.at_ (by omega)).trans n2.rd
 have r2:rd h3 h2.size=[.int .i64 i]:=n3.rd
 refine ⟨_,rdc r1 rfl,os ⟨_,hc h3 F3,_,rdc r2 rfl,?_⟩⟩
 have C1:∀ {hq:Heap},Fr No h3 hq→cellOf hq ⟨h.size,0,none⟩=some (.pointer (some ⟨tb,0,none⟩)):=fun fq=>rdc ((fq.rd (by omega) fun x=>x).trans r1) rfl
 have C2:∀ {hq:Heap},Fr No h3 hq→cellOf hq (Addr.add ⟨tb,0,none⟩ 1)=some (.map m1):=fun fq=>hc _ (F3.no fq)
 have C3:∀ {hq:Heap},Fr No h3 hq→cellOf hq ⟨h2.size,0,none⟩=some (.int .i64 i):=fun fq=>rdc ((fq.rd (by omega) fun x=>x).trans r2) rfl
 have M:∀ {hq:Heap} {K':MapC→Prop},Fr No h3 hq→K' W→MapIn DI m1 hq K':=fun fq k=>hM _ _ (F3.no fq) k
 -- two new blocks, written: then the rest
 have fin1:∀ {hq:Heap} {wb ob:Nat} {zw zo:Value},Fr No h3 hq→wb≠ob→h3.size≤wb→h3.size≤ob→Own hq wb→Own hq ob→rd hq wb=[zw]→rd hq ob=[zo] →
   Put ⟨wb,0,none⟩ (.slice sA sL sC) hq fun h6=>Put ⟨ob,0,none⟩ (.bool (Option.isSome (mget W (.i i)))) h6 fun h7=>txn_Txn_Write.k1 a l c h h2 (some ⟨wb,0,none⟩) (some ⟨ob,0,none⟩) h7 K:=by
  intro hq wb ob zw zo fq hne hw ho ow oo rw' ro'
  refine Put.intro ow (by rw [rw']; exact Nat.one_pos) fun h6 d6=>?_
  have ro6:rd h6 ob=[zo]:=(d6.at_ oo.lt (fun e=>hne e.symm)).trans ro'
  refine Put.intro (d6.ow oo) (by rw [ro6]; exact Nat.one_pos) fun h7 d7=>?_
  have F7:Fr No h h7:=((F3.no fq).did d6 fun hlt=>by omega).did d7 fun hlt=>by omega
  have F7':Fr No h3 h7:=(fq.did d6 fun hlt=>by omega).did d7 fun hlt=>by omega
  have z7:=F7'.size
  have z6:=d6.size
  have z7':=d7.size
  have lo:=oo.lt
  have lw:=ow.lt
  exact fin h2 h7 wb ob s2 F7 (by omega) (by omega) (by omega) (by omega) hne ((F7'.rd (by omega) fun x=>x).trans r1) (by rw [← s2]; exact (F7'.rd (by omega) fun x=>x).trans r2)
   ((d7.at_ (by omega) hne).trans (by rw [d6.rd,rw']; rfl)) (by rw [d7.rd,ro6]; rfl)
 have fin2:∀ {hq hr hs:Heap} {v1 v2:Value},Fr No h3 hq→Newly hq hr [v1]→Newly hr hs [v2] → 
   (Put ⟨hq.size,0,none⟩ (.slice sA sL sC) hs fun h6=>Put ⟨hr.size,0,none⟩ (.bool (Option.isSome (mget W (.i i)))) h6 fun h7=>txn_Txn_Write.k1 a l c h h2 (some ⟨hq.size,0,none⟩) (some ⟨hr.size,0,none⟩) h7 K) ∧
   (Put ⟨hr.size,0,none⟩ (.slice sA sL sC) hs fun h6=>Put ⟨hq.size,0,none⟩ (.bool (Option.isSome (mget W (.i i)))) h6 fun h7=>txn_Txn_Write.k1 a l c h h2 (some ⟨hr.size,0,none⟩) (some ⟨hq.size,0,none⟩) h7 K):=by
  intro hq hr hs v1 v2 fq n1 n2'
  have z1:=n1.size
  have z2:=n2'.size
  have zq:=fq.size
  have g:rd hs hq.size=[v1]:=(n2'.at_ (by omega)).trans n1.rd
  exact ⟨fin1 ((fq.new n1).new n2') (by omega) (by omega) (by omega) (n2'.ow n1.own) n2'.own g n2'.rd,fin1 ((fq.new n1).new n2') (by omega) (by omega) (by omega) n2'.own (n2'.ow n1.own) n2'.rd g⟩
 refine ⟨M (Fr.refl _ _) ⟨_,_,_,hs,New.intro fun h4 n4=>⟨C1 n4.fr,C2 n4.fr,C3 n4.fr,New.intro fun h5 n5=>⟨C1 (n4.fr.new n5),C2 (n4.fr.new n5),C3 (n4.fr.new n5),(fin2 (Fr.refl _ _) n4 n5).1⟩⟩,
  New.intro fun h4 n4=>⟨C1 n4.fr,C2 n4.fr,C3 n4.fr,New.intro fun h5 n5=>⟨C1 (n4.fr.new n5),C2 (n4.fr.new n5),C3 (n4.fr.new n5),(fin2 (Fr.refl _ _) n4 n5).2⟩⟩⟩,
  New.intro fun h4 n4=>⟨C1 n4.fr,C2 n4.fr,C3 n4.fr,M n4.fr ⟨_,_,_,hs,New.intro fun h5 n5=>⟨C1 (n4.fr.new n5),C2 (n4.fr.new n5),C3 (n4.fr.new n5),(fin2 (Fr.refl _ _) n4 n5).1⟩⟩,
   New.intro fun h5 n5=>⟨C1 (n4.fr.new n5),C2 (n4.fr.new n5),C3 (n4.fr.new n5),M (n4.fr.new n5) ⟨_,_,_,hs,(fin2 (Fr.refl _ _) n4 n5).1⟩⟩⟩,
  New.intro fun h4 n4=>⟨C1 n4.fr,C2 n4.fr,C3 n4.fr,M n4.fr ⟨_,_,_,hs,New.intro fun h5 n5=>⟨C1 (n4.fr.new n5),C2 (n4.fr.new n5),C3 (n4.fr.new n5),(fin2 (Fr.refl _ _) n4 n5).2⟩⟩,
   New.intro fun h5 n5=>⟨C1 (n4.fr.new n5),C2 (n4.fr.new n5),C3 (n4.fr.new n5),M (n4.fr.new n5) ⟨_,_,_,hs,(fin2 (Fr.refl _ _) n4 n5).2⟩⟩⟩⟩
theorem tl {c:Bool} {A B:Prop} (b:B) (a:c=true→B→A):bif c then A else B:=by
 cases c with
 | false=>exact b
 | true=>exact a rfl b
theorem Write_spec {h:Heap} {F:Nat→Prop} {t d:Option Addr} {T:TM} {i:Int} {a:Option Addr} {l c:Nat} {bs:Txt} {K:Value→Heap→Prop} (x:Tx h F t d T) (B:StrAt h a l bs) (hl:l≤140737488355328) (ha:∀ p,a=some p→¬ F p.block) (hu:T.undo.length<1000000000)
  (hK:∀ h' F',Fr F h h'→Gw h F h' F'→Tx h' F' t d (T.write i bs).1→K (.int .i64 (T.write i bs).2) h'):C.txn_Txn_Write t i a l c h K:=by
 have hbl:=B.1
 have hlt:=fun b hb=>x.lt (b:=b) hb
 rcases x with ⟨col,r,rfl,X,hF⟩|⟨col,tb,rfl,X,hF⟩
 rotate_left
 ·refine Write_pre (m1:=none) (W:=[]) (sA:=none) (sL:=0) (sC:=0) (fun hq f=>rda ((f.rd X.own.lt fun x=>x).trans X.cell) rfl) (fun hq K' _ k=>k) rfl fun h2 h7 wb ob _ f7 w1 o1 w2 o2 _ r1 _ _ _=>?_
  have e0:T.write i bs=(T,61):=by unfold TM.write; rw [X.over,if_pos rfl]
  rw [e0] at hK
  have X7:=X.keep f7 fun _ _ _ _ x=>x
  refine ⟨_,rdc r1 rfl,os ⟨_,rda X7.cell rfl,ct rfl ?_⟩⟩
  exact hK h7 F (f7.mono fun _ _ x=>x.elim) (Gw.refl f7.size hlt) (.inr ⟨col,tb,rfl,X7,hF⟩)
 ·have eput:aget T.put i=(aget r.ps i).map (·.2):=by rw [X.put]; exact aget_map (fun x:Sc×Txt=>x.2) i r.ps
  have elen:T.put.length=r.ps.length:=by rw [X.put,List.length_map]
  have eul:T.undo.length=r.us.length:=by rw [X.undo,List.length_map]
  obtain ⟨sA,sL,sC,esl⟩:∃ (sA:Option Addr) (sL:Nat) (sC:Nat),wasV (aget r.ps i) = .slice sA sL sC:=by
   cases aget r.ps i with
   | none=>exact ⟨_,_,_,rfl⟩
   | some x=>exact ⟨_,_,_,rfl⟩
  have esl2:Option.getD (mget (mm (fun x:Sc×Txt=>x.1.v) r.ps) (.i i)) (zeroV ti86) = .slice sA sL sC:=by
   rw [mget_mm,← esl]
   cases aget r.ps i <;> rfl
  refine Write_pre (m1:=some r.mb) (W:=mm (fun x=>x.1.v) r.ps) (fun hq f=>rda ((f.rd X.own.lt fun x=>x).trans X.cell) rfl) (fun hq K' f k=>⟨_,map_fr X.map f fun x=>x,k⟩) esl2 fun h2 h8 wb ob s2 f w1 o1 w2 o2 hne r1 r2 rw' ro=>?_
  have eis:(mget (mm (fun x:Sc×Txt=>x.1.v) r.ps) (.i i)).isSome=(aget r.ps i).isSome:=by rw [mget_mm]; cases aget r.ps i <;> rfl
  rw [eis] at ro
  have X8:TxC h8 col d r T:=X.keep f (Ag.refl _ _) (fun b hb=>X.nrm b (by have:=f.size; omega)) (fun b hb y=>by rw [X.nrm b hb] at y; omega) fun _ _ _ _ x=>x
  have refuse:∀ e h9,h9=h8→T.write i bs=(T,e)→K (.int .i64 e) h9:=fun e h9 e9 e0=>by
   subst e9
   rw [e0] at hK
   exact hK h9 F (f.mono fun _ _ x=>x.elim) (Gw.refl f.size hlt) (.inl ⟨col,r,rfl,X8,hF⟩)
  have live:=X.live
  have fs:=f.size
  have tbl:=X.own.lt
  have mbl:=map_lt X.map
  have ctb:=X.sc
  have cmb:=X.mc
  rw [← s2] at r2
  refine ⟨_,rdc r1 rfl,os ⟨_,rda X8.cell rfl,cf rfl ⟨_,rdc r2 rfl,cd (fun hn=>refuse 31 h8 rfl ?_) fun h98=>⟨_,rdc r2 rfl,_,rdc r1 rfl,os ⟨_,rda X8.cell rfl,X8.dk.blocks ⟨_,rfl,rdc r2 rfl,cd (fun hn=>refuse 31 h8 rfl ?_) fun hN=>cn (fun h5=>refuse 32 h8 rfl ?_) fun h5=>?_⟩⟩⟩⟩⟩⟩
  ·unfold TM.write; rw [live,if_neg (by simp),if_pos (.inl hn)]
  ·unfold TM.write; rw [live,if_neg (by simp),if_pos (.inr hn)]
  ·unfold TM.write; rw [live,if_neg (by simp),if_neg (by rintro (x|x); exact h98 x; exact hN x),if_pos (by omega)]
  have hnot:¬ (i<98∨i≥T.N):=by rintro (x|x); exact h98 x; exact hN x
  have h5':bs.length=512:=by omega
  refine os ⟨_,rdc ro rfl,?_⟩
  by_cases hbig:aget r.ps i=none∧r.ps.length≥96
  ·refine ct (by rw [hbig.1]; rfl) ⟨_,rdc r1 rfl,os ⟨_,rda X8.cell rfl,_,X8.map,?_⟩⟩
   dsimp only
   rw [mm_length]
   refine ct (decide_eq_true (by omega)) (refuse 60 h8 rfl ?_)
   unfold TM.write; rw [live,if_neg (by simp),if_neg hnot,if_neg (by omega),if_pos ⟨by rw [eput,hbig.1]; rfl,by omega⟩]
  have e0:T.write i bs=({ T with put:=aput T.put i bs,undo:=T.undo++[(i,aget T.put i)] },0):=by
   unfold TM.write; rw [live,if_neg (by simp),if_neg hnot,if_neg (by omega),if_neg]
   rw [eput,elen]
   rintro ⟨x1,x2⟩
   refine hbig ⟨?_,x2⟩
   cases e:aget r.ps i with
   | none=>rfl
   | some y=>rw [e] at x1; cases x1
  rw [e0] at hK
  refine tl ?_ fun ho go=>?_
  rotate_left
  ·have hnone:aget r.ps i=none:=by
    cases e:aget r.ps i with
    | none=>rfl
    | some x=>rw [e] at ho; cases ho
   refine ⟨_,rdc r1 rfl,os ⟨_,rda X8.cell rfl,_,X8.map,?_⟩⟩
   dsimp only
   rw [mm_length]
   exact cf (decide_eq_false fun hx=>hbig ⟨hnone,by omega⟩) go
  -- the put
  have k1:∀ {b:Nat},b<h.size→col b≠3→¬ On col 3 b:=fun _ hb x=>hb x
  refine ⟨_,rdc r1 rfl,_,rdc r1 rfl,os ⟨_,_,_,rda X8.cell rfl,New.intro fun h10 n10=>?_⟩⟩
  have s10:=n10.size
  have X10:TxC h10 col d r T:=X8.keep n10.fr (Ag.refl _ _) (fun b hb=>X.nrm b (by omega)) (fun b hb y=>by rw [X.nrm b (by omega)] at y; omega) fun _ _ _ _ x=>x
  have r1':=(n10.at_ (show h.size<h8.size by omega)).trans r1
  have r2':=(n10.at_ (show h2.size<h8.size by omega)).trans r2
  refine ⟨rdc r1' rfl,rdc r1' rfl,rda X10.cell rfl,_,rfl,cellsAll n10.rd,by intro v hv; rw [List.mem_singleton.mp hv]; rfl,?_⟩
  refine append_own X10.un rfl rfl (by show (r.us.length+1)*_≤_; have b16:ti1.bytes≤16:=(by decide); have:=Nat.mul_le_mul (show r.us.length+1≤1000000001 from (by omega)) b16; exact Nat.le_trans this (by decide)) (by omega) fun a' c' h11 f11 s11=>?_
  have z11:=f11.size
  have nz:∀ b,h.size≤b→¬ On col 3 b:=fun b hb x=>by have x:col b=3:=x; rw [X.nrm b hb] at x; omega
  have nt:¬ On col 3 r.tb:=fun x=>by have x:col r.tb=3:=x; omega
  have nm:¬ On col 3 r.mb:=fun x=>by have x:col r.mb=3:=x; omega
  have g1:rd h11 h.size=[.pointer (some ⟨r.tb,0,none⟩)]:=(f11.rd (by omega) (nz _ (Nat.le_refl _))).trans r1'
  have g2:rd h11 h2.size=[.int .i64 i]:=(f11.rd (by omega) (nz _ (by omega))).trans r2'
  have gt:=(f11.rd X10.own.lt nt).trans X10.cell
  have gw:rd h11 wb=[wasV (aget r.ps i)]:=by rw [esl]; exact (f11.rd (by omega) (nz _ (by omega))).trans ((n10.at_ w2).trans rw')
  have go':rd h11 ob=[.bool (aget r.ps i).isSome]:=(f11.rd (by omega) (nz _ (by omega))).trans ((n10.at_ o2).trans ro)
  refine ⟨rdc g1 rfl,os (Put.add (f11.own X10.own.lt nt X10.own) (by rw [gt]; show 0+2<4; omega) fun h12 d12=>?_)⟩
  have s12:=d12.size
  have g1:rd h12 h.size=[.pointer (some ⟨r.tb,0,none⟩)]:=(d12.at_ (by omega) (by omega)).trans g1
  have g2:rd h12 h2.size=[.int .i64 i]:=(d12.at_ (by omega) (by omega)).trans g2
  have gw:=(d12.at_ (show wb<h11.size by omega) (by omega)).trans gw
  have go':=(d12.at_ (show ob<h11.size by omega) (by omega)).trans go'
  have gt:rd h12 r.tb=[.pointer d,.map (some r.mb),.slice a' (r.us.length+1) c',.bool false]:=d12.rd.trans (by rw [gt]; rfl)
  have nF:∀ p,a=some p→¬ F p.block:=ha
  have B12:StrAt h12 a l bs:=StrAt.fr d12.fr (StrAt.fr f11 (StrAt.fr n10.fr (StrAt.fr f B fun _ _ x=>x) fun _ _ x=>x) fun q e y=>ha q e ((hF _).mpr (by have y:col q.block=3:=y; omega))) fun q e y=>ha q e ((hF _).mpr (by rw [y]; omega))
  refine ⟨_,rdc g1 rfl,os ⟨_,rda gt rfl,_,rdc g2 rfl,Clone_any B12 hl fun aq cq h13 f13 s13=>?_⟩⟩
  have z13:=f13.size
  have g1:rd h13 h.size=[.pointer (some ⟨r.tb,0,none⟩)]:=(f13.rd (by omega) fun x=>x).trans g1
  have g2:rd h13 h2.size=[.int .i64 i]:=(f13.rd (by omega) fun x=>x).trans g2
  have gw:=(f13.rd (show wb<h12.size by omega) fun x=>x).trans gw
  have go':=(f13.rd (show ob<h12.size by omega) fun x=>x).trans go'
  have gt:=(f13.rd (by omega) fun x=>x).trans gt
  have ot:=f13.own d12.own.lt (fun x=>x) d12.own
  have hmt:r.mb≠r.tb:=fun e=>by rw [e] at cmb; omega
  have m13:MapAt DI h13 r.mb (mm (fun x=>x.1.v) r.ps):=map_fr (map_fr (map_fr X10.map f11 nm) d12.fr hmt) f13 fun x=>x
  refine ⟨_,_,_,rfl,rdc g1 rfl,rda gt rfl,rdc g2 rfl,os ⟨_,m13,fun h14 t14=>?_⟩⟩
  have f14:=mapTo_fr t14
  have z14:=t14.size
  have m14:=t14.at_
  rw [show Value.slice aq l cq=(fun x:Sc×Txt=>x.1.v) (⟨aq,l,cq⟩,bs) from rfl,mput_mm] at m14
  have G:Fr (fun b=>col b=3∨b=r.tb∨b=r.mb) h h14 :=
   ((((((f.new n10).mono (G:=fun b=>col b=3∨b=r.tb∨b=r.mb) fun _ _ x=>x.elim).trans f11 fun b _ x=>Or.inl x).did d12 fun _=>Or.inr (Or.inl rfl)).no f13).trans f14 fun b _ x=>Or.inr (Or.inr x))
  -- the colours
  have ub:∀ p,a'=some p→(col p.block=3∨h10.size≤p.block)∧p.block<h11.size:=by
   rintro p rfl; exact ⟨s11.2.2.1,s11.lt⟩
  have qb:∀ p,aq=some p→h12.size≤p.block∧p.block<h13.size:=by
   rintro p rfl; exact ⟨s13.2.2.1,s13.lt⟩
  obtain ⟨col',ag,cz,c4,c3,cq4,c5⟩:∃ col':Nat→Nat,Ag h.size col col'∧(∀ b,h14.size≤b→col' b=0)∧(∀ b,b=h.size∨b=h2.size∨b=wb∨b=ob→col' b=4)∧(∀ p,a'=some p→col' p.block=3)∧(∀ p,aq=some p→col' p.block=4)∧(∀ b,h.size≤b→col' b=0∨col' b=3∨col' b=4):=by
   refine ⟨fun b=>if b<h.size then col b else if b=h.size∨b=h2.size∨b=wb∨b=ob then 4 else if a'.map (·.block)=some b then 3 else if aq.map (·.block)=some b then 4 else 0,fun b hb=>if_pos hb,fun b hb=>?_,fun b hb=>?_,fun p e=>?_,fun p e=>?_,fun b hb=>?_⟩
   ·show (if _ then _ else if _ then _ else if _ then _ else if _ then _ else _)=_
    rw [if_neg (by omega),if_neg (by omega),if_neg,if_neg]
    ·intro e
     cases haq:aq with
     | none=>rw [haq] at e; cases e
     | some p=>rw [haq] at e; have:=(qb p haq).2; have e:p.block=b:=Option.some.inj e; omega
    ·intro e
     cases haq:a' with
     | none=>rw [haq] at e; cases e
     | some p=>rw [haq] at e; have:=(ub p haq).2; have e:p.block=b:=Option.some.inj e; omega
   ·show (if _ then _ else if _ then _ else if _ then _ else if _ then _ else _)=_
    rw [if_neg (by omega),if_pos hb]
   ·show (if _ then _ else if _ then _ else if _ then _ else if _ then _ else _)=_
    have:=ub p e
    rcases Nat.lt_or_ge p.block h.size with h1|h1
    ·rw [if_pos h1]
     rcases this.1 with h3|h3
     ·exact h3
     ·omega
    ·have h3:h10.size≤p.block:=by
      rcases this.1 with h3|h3
      ·rw [X.nrm _ h1] at h3; omega
      ·exact h3
     rw [if_neg (by omega),if_neg (by omega),if_pos (by rw [e]; rfl)]
   ·show (if _ then _ else if _ then _ else if _ then _ else if _ then _ else _)=_
    have:=qb p e
    rw [if_neg (by omega),if_neg (by omega),if_neg,if_pos (by rw [e]; rfl)]
    intro e2
    cases ha':a' with
    | none=>rw [ha'] at e2; cases e2
    | some q=>rw [ha'] at e2; have:=(ub q ha').2; have e2:q.block=p.block:=Option.some.inj e2; omega
   ·show (if _ then _ else if _ then _ else if _ then _ else if _ then _ else _)=0∨(if _ then _ else if _ then _ else if _ then _ else if _ then _ else _)=3∨(if _ then _ else if _ then _ else if _ then _ else if _ then _ else _)=4
    rw [if_neg (by omega)]
    split
    ·exact .inr (.inr rfl)
    ·split
     ·exact .inr (.inl rfl)
     ·split
      ·exact .inr (.inr rfl)
      ·exact .inl rfl
  have k4:∀ b,b<h.size→col b=4→¬ (col b=3∨b=r.tb∨b=r.mb):=by
   rintro b _ e (x|x|x)
   ·omega
   ·rw [x] at e; omega
   ·rw [x] at e; omega
  have hF':Gw h F h14 (fun b=>1≤col' b∧col' b≤5):=⟨fun b hb=>by rw [hF b,ag b hb],fun b hb=>by
   rcases Nat.lt_or_ge b h14.size with h1|h1
   ·exact h1
   ·have hb:1≤col' b∧col' b≤5:=hb
    rw [cz b h1] at hb; omega⟩
  refine hK h14 (fun b=>1≤col' b∧col' b≤5) (G.mono fun b _ x=>(hF b).mpr ?_) hF' (.inl ⟨col',⟨r.tb,r.mb,a',c',aput r.ps i (⟨aq,l,cq⟩,bs),r.us++[⟨i,aget r.ps i,ob,wb,h.size,h2.size⟩]⟩,rfl,⟨cz,(ag _ tbl).trans ctb,?_,?_,(ag _ mbl).trans cmb,m14,?_,fun p hp=>?_,fun u hu=>?_,?_,?_,live,?_,fun p hp=>?_,fun u hu=>?_⟩,fun b=>Iff.rfl⟩)
  ·rcases x with x|rfl|rfl <;> omega
  ·exact f14.own ot.lt (fun x=>hmt x.symm) ot
  ·rw [List.length_append,List.length_singleton]
   exact (f14.rd ot.lt fun x=>hmt x.symm).trans gt
  ·rw [List.length_append,List.length_singleton,List.map_append]
   have u14:=((s11.fr d12.fr fun b hb x e=>?_).fr f13 fun _ _ _ x=>x).fr f14 fun b hb x e=>?_
   ·obtain ⟨y1,y2⟩:=u14
    refine ⟨y1,?_⟩
    revert y2 c3
    cases a' with
    | none=>intro _ y2; exact y2
    | some p=>intro c3 y2; obtain ⟨v1,v2,v3⟩:=y2; exact ⟨v1,c3 p rfl,v3⟩
   ·rw [e] at x
    rcases x with x|x
    ·have x:col r.tb=3:=x; omega
    ·omega
   ·have e:b=r.mb:=e
    rw [e] at x
    rcases x with x|x
    ·have x:col r.mb=3:=x; omega
    ·omega
  ·rcases aput_mem hp with rfl|hp
   ·refine ⟨StrAt.fr f14 ?_ ?_,h5',fun p e=>⟨by have:=(qb p e).2; omega,cq4 p e⟩⟩
    ·refine ⟨hbl,?_⟩
     exact s13.cells
    ·intro p e x
     have:=(qb p e).1
     have x:p.block=r.mb:=x
     omega
   ·exact (X.pok p hp).keep G ag k4
  ·rcases List.mem_append.mp hu with hu|hu
   ·exact (X.uok u hu).keep G ag k4
   ·rw [List.mem_singleton.mp hu]
    have fr:∀ b,h.size≤b→b<h13.size→rd h14 b=rd h13 b:=fun b hb hb2=>f14.rd hb2 fun e=>by have e:b=r.mb:=e; omega
    refine ⟨(fr ob (by omega) (by omega)).trans go',(fr wb (by omega) (by omega)).trans gw,(fr h.size (by omega) (by omega)).trans g1,(fr h2.size (by omega) (by omega)).trans g2,fun b hb=>⟨?_,c4 b ?_⟩,fun y ey=>?_⟩
    ·have hb:b=ob∨b=wb∨b=h.size∨b=h2.size:=hb
     omega
    ·rcases hb with rfl|rfl|rfl|rfl
     ·exact .inr (.inr (.inr rfl))
     ·exact .inr (.inr (.inl rfl))
     ·exact .inl rfl
     ·exact .inr (.inl rfl)
    ·exact (X.pok _ (aget_mem ey)).keep G ag k4
  ·show aput T.put i bs=_
   rw [X.put]
   exact aput_map (fun x:Sc×Txt=>x.2) i (⟨aq,l,cq⟩,bs) r.ps
  ·show T.undo++[(i,aget T.put i)]=_
   rw [X.undo,eput,List.map_append]; rfl
  ·refine (X.dk.fr G fun b hb=>?_).iff fun b=>?_
   ·have hb:col b=5:=hb
    rintro (x|x|x)
    ·omega
    ·rw [x] at hb; omega
    ·rw [x] at hb; omega
   ·show col' b=5↔col b=5
    rcases Nat.lt_or_ge b h.size with h1|h1
    ·rw [ag b h1]
    ·have:=c5 b h1
     have:=X.nrm b h1
     omega
  ·rcases aput_mem hp with rfl|hp
   ·exact ⟨by omega,by have:¬ i≥(T.N:Int):=fun y=>hnot (.inr y); show i<(T.N:Int); omega⟩
   ·exact X.pk p hp
  ·rcases List.mem_append.mp hu with hu|hu
   ·exact X.ui u hu
   ·rw [List.mem_singleton.mp hu]
    exact ⟨by show 98≤i; omega,by have:¬ i≥(T.N:Int):=fun y=>hnot (.inr y); show i<(T.N:Int); omega⟩
end Go.Proofs.YtiapingedfnlnaaGreatDoor.Tm
namespace Go.Proofs.YtiapingedfnlnaaGreatDoor.Tm
open Go Go.Proofs Wx Hp W Ad
def undoR (m:List (Int×(Sc×Txt))) (u:UR):List (Int×(Sc×Txt)):=match u.was with
 | some x=>aput m u.i x
 | none=>adel m u.i
theorem undoR_map (m:List (Int×(Sc×Txt))) (u:UR):((undoR m u).map fun p=>(p.1,p.2.2))=undo1 (m.map fun p=>(p.1,p.2.2)) (u.i,u.was.map (·.2)):=by
 unfold undoR undo1
 cases u.was with
 | none=>exact (adel_map (fun x:Sc×Txt=>x.2) u.i m).symm
 | some x=>exact (aput_map (fun x:Sc×Txt=>x.2) u.i x m).symm
theorem undoAll_drop (m:List (Int×Txt)) (us:List (Int×Option Txt)) {k:Nat} (hk:k<us.length):undoAll m (us.drop k)=undo1 (undoAll m (us.drop (k+1))) us[k]:=by
 rw [List.drop_eq_getElem_cons hk]; rfl
theorem TxC.remap {h h':Heap} {col:Nat→Nat} {d:Option Addr} {r:TR} {T:TM} (x:TxC h col d r T) {ps':List (Int×(Sc×Txt))} {put':List (Int×Txt)} (m:MapTo DI h r.mb (mm (fun x=>x.1.v) ps') h') (hp:∀ p ∈ ps',p ∈ r.ps∨Blk h col 4 p.2) (e:put'=ps'.map fun p=>(p.1,p.2.2)) (hk:∀ p ∈ put',98≤p.1∧p.1<T.N) :
  TxC h' col d { r with ps:=ps' } { T with put:=put' }:=by
 have f:=mapTo_fr m
 have s1:=x.sc
 have s2:=x.mc
 have hmt:r.tb≠r.mb:=fun e=>by rw [e] at s1; omega
 have k4:∀ b,b<h.size→col b=4→¬ b=r.mb:=fun b _ e e2=>by rw [e2] at e; omega
 have hs:=m.size
 refine ⟨fun b hb=>x.nrm b (by omega),s1,f.own x.own.lt hmt x.own,(f.rd x.own.lt hmt).trans x.cell,s2,m.at_,x.un.fr f fun b _ hb e=>?_,fun p hp'=>?_,fun u hu=>(x.uok u hu).keep f (Ag.refl _ _) k4,e,x.undo,x.live,x.dk.fr f fun b hb e=>?_,hk,x.ui⟩
 ·have hb:col b=3:=hb
  have e:b=r.mb:=e
  rw [e] at hb; omega
 ·rcases hp p hp' with h1|h1
  ·exact (x.pok p h1).keep f (Ag.refl _ _) k4
  ·exact h1.keep f (Ag.refl _ _) k4
 ·have hb:col b=5:=hb
  have e:b=r.mb:=e
  rw [e] at hb; omega
theorem undo_spec {h:Heap} {col:Nat→Nat} {d:Option Addr} {r:TR} {T:TM} {u:UR} {K:Value→Heap→Prop} (x:TxC h col d r T) (hu:u ∈ r.us)
  (hK:∀ h',Fr (fun b=>b=r.mb) h h'→TxC h' col d { r with ps:=undoR r.ps u } { T with put:=undo1 T.put (u.i,u.was.map (·.2)) }→K (.tuple #[]) h'):HCallsV Tryz.prog u.v [] h K:=by
 have U:=x.uok u hu
 show C.txn_Txn_Write_c1 (some ⟨u.ok,0,none⟩) (some ⟨u.w,0,none⟩) (some ⟨u.tc,0,none⟩) (some ⟨u.ic,0,none⟩) h K
 refine txn_Txn_Write_c1.ok (os ⟨_,rdc U.ok rfl,?_⟩)
 have hk:∀ p ∈ undo1 T.put (u.i,u.was.map (·.2)),98≤p.1∧p.1<T.N:=by
  intro p hp
  unfold undo1 at hp
  split at hp
  ·rcases aput_mem hp with rfl|hp
   ·exact x.ui u hu
   ·exact x.pk p hp
  ·exact x.pk p (adel_mem hp)
 have ew:undo1 T.put (u.i,u.was.map (·.2))=(undoR r.ps u).map fun p=>(p.1,p.2.2):=by rw [undoR_map,x.put]
 cases e:u.was with
 | none =>
  refine cf rfl (os ⟨_,rdc U.tc rfl,os ⟨_,rda x.cell rfl,os ⟨_,rdc U.ic rfl,_,x.map,fun h3 t3=>?_⟩⟩⟩)
  have t3:=t3.toMapTo
  rw [mdel_mm] at t3
  have er:undoR r.ps u=adel r.ps u.i:=by unfold undoR; rw [e]
  rw [er] at hK ew
  exact hK h3 (mapTo_fr t3) (x.remap t3 (fun p hp => .inl (adel_mem hp)) ew hk)
 | some y =>
  have hw:rd h u.w=[y.1.v]:=by rw [U.w,e]; rfl
  refine ct rfl (os ⟨_,rdc U.tc rfl,os ⟨_,rda x.cell rfl,os ⟨_,rdc U.ic rfl,os ⟨_,_,_,rdc hw rfl,os ⟨_,x.map,fun h2 t2=>?_⟩⟩⟩⟩⟩)
  rw [show Value.slice y.1.a y.1.l y.1.c=(fun x:Sc×Txt=>x.1.v) y from rfl,mput_mm] at t2
  have er:undoR r.ps u=aput r.ps u.i y:=by unfold undoR; rw [e]
  rw [er] at hK ew
  refine hK h2 (mapTo_fr t2) (x.remap t2 (fun p hp=>?_) ew hk)
  rcases aput_mem hp with rfl|hp
  ·exact .inr (U.b y e)
  ·exact .inl hp
theorem Back_spec {h:Heap} {F:Nat→Prop} {t d:Option Addr} {T:TM} {mark:Int} {K:Value→Heap→Prop} (x:Tx h F t d T) (hu:T.undo.length<1000000000)
  (hK:∀ h',Fr F h h'→Tx h' F t d (T.back mark).1→K (.int .i64 (T.back mark).2) h'):C.txn_Txn_Back t mark h K:=by
 rcases x with ⟨col,r,rfl,X,hF⟩|⟨col,tb,rfl,X,hF⟩
 rotate_left
 ·refine txn_Txn_Back.ok (os ⟨_,rda X.cell rfl,ct rfl ?_⟩)
  have e0:T.back mark=(T,61):=by unfold TM.back; rw [X.over,if_pos rfl]
  rw [e0] at hK
  exact hK h (Fr.refl _ _) (.inr ⟨col,tb,rfl,X,hF⟩)
 ·have eul:T.undo.length=r.us.length:=by rw [X.undo,List.length_map]
  have live:=X.live
  refine txn_Txn_Back.ok (os ⟨_,rda X.cell rfl,cf rfl (cd (fun hn=>?_) fun h0=>os ⟨_,_,_,rda X.cell rfl,cd (fun hn=>?_) fun h1=>?_⟩)⟩)
  ·have e0:T.back mark=(T,62):=by unfold TM.back; rw [live,if_neg (by simp),if_pos (.inl hn)]
   rw [e0] at hK
   exact hK h (Fr.refl _ _) (.inl ⟨col,r,rfl,X,hF⟩)
  ·have e0:T.back mark=(T,62):=by unfold TM.back; rw [live,if_neg (by simp),if_pos (.inr (by omega))]
   rw [e0] at hK
   exact hK h (Fr.refl _ _) (.inl ⟨col,r,rfl,X,hF⟩)
  have e0:T.back mark=({ T with put:=undoAll T.put (T.undo.drop mark.toNat),undo:=T.undo.take mark.toNat },0):=by unfold TM.back; rw [live,if_neg (by simp),if_neg (by omega)]
  rw [e0] at hK
  unfold txn_Txn_Back.k1
  refine os ⟨_,_,_,rda X.cell rfl,?_⟩
  rw [wrap_i64 (n:=(r.us.length:Int) - 1) (by omega) (by omega)]
  refine ⟨fun k hh=>mark - 1≤k∧k<r.us.length∧Fr (fun b=>b=r.mb) h hh∧∃ ps',TxC hh col d { r with ps:=ps' } { T with put:=undoAll T.put (T.undo.drop (k+1).toNat) },fun k _=>(k+1).toNat,
   ⟨by omega,by omega,Fr.refl _ _,r.ps,?_⟩,?_⟩
  ·rw [show ((r.us.length:Int) - 1+1).toNat=T.undo.length by omega,List.drop_length]
   exact X
  rintro k h2 ⟨k0,k1,f2,ps',X2⟩
  refine cd (fun hk=>?_) fun hk=>?_
  ·have hk':k.toNat<r.us.length:=by omega
   have X2c:rd h2 r.tb=[.pointer d,.map (some r.mb),.slice r.ua r.us.length r.uc,.bool false]:=X2.cell
   obtain ⟨p,ep,cc⟩:=X2.un.get (by show 0<r.us.length; omega)
   have ep:r.ua=some p:=ep
   have cc:Cells h2 p (r.us.map UR.v):=cc
   have cv:cellOf h2 (p.add k.toNat)=some (UR.v r.us[k.toNat]):=Cells.cell cc (by rw [List.getElem?_map,List.getElem?_eq_getElem hk']; rfl)
   refine os ⟨_,_,_,rda X2c rfl,⟨by omega,by omega⟩,oe ep ⟨_,cv,?_⟩⟩
   refine undo_spec X2 (List.getElem_mem hk') fun h3 f3 X3=>⟨rfl,?_,?_⟩
   ·rw [wrap_i64 (n:=k - 1) (by omega) (by omega)]
    refine ⟨by omega,by omega,f2.trans f3 fun b _ e=>e,undoR ps' r.us[k.toNat],?_⟩
    have hd:k.toNat<T.undo.length:=by omega
    have eu:T.undo[k.toNat]=(r.us[k.toNat].i,r.us[k.toNat].was.map (·.2)):=by simp only [X.undo,List.getElem_map]
    rw [show (k - 1+1).toNat=k.toNat by omega,undoAll_drop T.put T.undo hd,eu,show k.toNat+1=(k+1).toNat by omega]
    exact X3
   ·show (IntKind.wrap .i64 (k - 1)+1).toNat<(k+1).toNat
    rw [wrap_i64 (n:=k - 1) (by omega) (by omega)]; omega
  ·have X2c:rd h2 r.tb=[.pointer d,.map (some r.mb),.slice r.ua r.us.length r.uc,.bool false]:=X2.cell
   have cap:r.us.length≤r.uc:=X2.un.le
   have ek:(k+1).toNat=mark.toNat:=by omega
   rw [ek] at X2
   have s1:=X2.sc
   have s2:=X2.mc
   have s1:col r.tb=1:=s1
   have s2:col r.mb=2:=s2
   refine os ⟨_,_,_,rda X2c rfl,⟨by omega,by omega⟩,os (Put.add X2.own (by rw [show rd h2 _=_ from X2c]; show 0+2<4; omega) fun h4 d4=>?_)⟩
   have s4:=d4.size
   have k4:∀ b,b<h2.size→col b=4→¬ b=r.tb:=fun b _ e e2=>by rw [e2] at e; omega
   have hml:r.mb<h2.size:=map_lt X2.map
   have htk:(r.us.take mark.toNat).length=mark.toNat:=by rw [List.length_take]; omega
   refine hK h4 ((f2.mono fun b _ e=>(hF b).mpr (by have e:b=r.mb:=e; rw [e]; omega)).did d4 fun _=>(hF _).mpr (by show 1≤col r.tb∧col r.tb≤5; omega)) (.inl ⟨col,{ r with ps:=ps',us:=r.us.take mark.toNat },rfl,⟨fun b hb=>X2.nrm b (by omega),s1,d4.own,?_,s2,map_fr X2.map d4.fr fun e=>?_,?_,fun p hp=>(X2.pok p hp).keep d4.fr (Ag.refl _ _) k4,fun u hu=>(X2.uok u (List.mem_of_mem_take hu)).keep d4.fr (Ag.refl _ _) k4,X2.put,?_,live,X2.dk.fr d4.fr fun b hb e=>?_,X2.pk,fun u hu=>X2.ui u (List.mem_of_mem_take hu)⟩,hF⟩)
   ·rw [d4.rd,show rd h2 _=_ from X2c]
    show _=([.pointer d,.map (some r.mb),.slice r.ua (r.us.take mark.toNat).length r.uc,.bool false]:List Value)
    rw [htk]; rfl
   ·have e:r.mb=r.tb:=e
    rw [e] at s2; omega
   ·show Sl h4 1 r.ua (r.us.take mark.toNat).length r.uc ((r.us.take mark.toNat).map UR.v) (On col 3)
    rw [htk,List.map_take]
    exact sl_take (X2.un.fr d4.fr fun b _ hb e=>by have hb:col b=3:=hb; have e:b=r.tb:=e; rw [e] at hb; omega) (by show mark.toNat≤r.us.length; omega)
   ·show T.undo.take mark.toNat=(r.us.take mark.toNat).map _
    rw [X.undo,List.map_take]
   ·have hb:col b=5:=hb
    have e:b=r.tb:=e
    rw [e] at hb; omega
end Go.Proofs.YtiapingedfnlnaaGreatDoor.Tm
namespace Go.Proofs.YtiapingedfnlnaaGreatDoor.Spc
open Go Go.Proofs Wx Hp W Ad Tm
theorem readFrom_len {i:Int}:∀ (ps:List (Int×List UInt8)) (b:List UInt8),b.length=512→(∀ p ∈ ps,p.2.length=512)→(readFrom b i ps).length=512
 | [],b,h,_=>h
 | p::r,b,h,hp=>by
  show (readFrom (if p.1=i then p.2 else b) i r).length=512
  refine readFrom_len r _ ?_ fun q hq=>hp q (List.mem_cons_of_mem _ hq)
  split
  ·exact hp p (List.mem_cons_self ..)
  ·exact h
theorem DiskF.readLen {h:Heap} {D:Nat→Prop} {d:Option Addr} {S:RD} (a:DiskF h D d S) {i:Nat} (hi:i<S.lasts.length):(readAt S i).length=512:=by
 obtain ⟨col,⟨b,r,es,_,P⟩,_⟩:=a
 refine readFrom_len _ _ ?_ P.pw
 rw [List.getD_eq_getElem?_getD,List.getElem?_eq_getElem hi]
 exact P.lw _ (List.getElem_mem hi)
theorem Tx.putLen {h:Heap} {F:Nat→Prop} {t d:Option Addr} {T:TM} (x:Tx h F t d T):∀ p ∈ T.put,p.2.length=512:=by
 rcases x with ⟨col,r,_,c,_⟩|⟨col,tb,_,c,_⟩
 ·intro p hp
  rw [c.put] at hp
  obtain ⟨q,hq,rfl⟩:=List.mem_map.mp hp
  exact (c.pok q hq).l
 ·intro p hp
  rw [c.gone.1] at hp; cases hp
theorem Tx.readLen {h:Heap} {F:Nat→Prop} {t d:Option Addr} {T:TM} (x:Tx h F t d T) {i:Int} (e:(T.read i).2=0):(T.read i).1.length=512:=by
 obtain ⟨D,dk,_⟩:=x.dk
 unfold TM.read at e ⊢
 split at e
 ·cases e
 ·rename_i h1
  rw [if_neg h1]
  split at e
  ·cases e
  ·rename_i h2
   rw [if_neg h2]
   cases eg:aget T.put i with
   | some b=>rw [TM.get_some eg]; exact Tx.putLen x _ (aget_mem eg)
   | none =>
    rw [TM.get_none eg] at e ⊢
    split at e
    ·cases e
    ·rename_i h3
     rw [if_neg h3]
     exact DiskF.readLen dk (by have:T.N=T.disk.lasts.length:=rfl; omega)
theorem TM.write_ok {T:TM} {i:Int} {bs:Txt} (e:(T.write i bs).2=0):T.over=false∧98≤i∧i<T.N∧bs.length=512∧¬ (aget T.put i=none∧T.put.length≥96)∧(T.write i bs).1={ T with put:=aput T.put i bs,undo:=T.undo++[(i,aget T.put i)] }:=by
 unfold TM.write at e ⊢
 split at e
 ·cases e
 ·rename_i h1
  split at e
  ·cases e
  ·rename_i h2
   split at e
   ·cases e
   ·rename_i h3
    split at e
    ·cases e
    ·rename_i h4
     rw [if_neg h1,if_neg h2,if_neg h3,if_neg h4]
     exact ⟨by cases ho:T.over <;> simp_all,by omega,by omega,by omega,h4,rfl⟩
theorem TM.write_get {T:TM} {i:Int} {bs:Txt} (h1:T.over=false) (h2:98≤i) (h3:i<T.N) (h4:bs.length=512) (h5:¬ (aget T.put i=none∧T.put.length≥96)) :
  T.write i bs=({ T with put:=aput T.put i bs,undo:=T.undo++[(i,aget T.put i)] },0):=by
 unfold TM.write
 rw [if_neg (by rw [h1]; simp),if_neg (by omega),if_neg (by omega),if_neg h5]
theorem TM.write_bad {T:TM} {i:Int} {bs:Txt} (e:(T.write i bs).2≠0):(T.write i bs).1=T:=by
 unfold TM.write at e ⊢
 split
 ·rfl
 ·split
  ·rfl
  ·split
   ·rfl
   ·split
    ·rfl
    ·rename_i h1 h2 h3 h4
     rw [if_neg h1,if_neg h2,if_neg h3,if_neg h4] at e
     exact absurd rfl e
theorem TM.read_live {T:TM} (h:T.over=false) (i:Int):T.read i=if i<0∨i≥T.N then ([],31) else T.get i:=by
 unfold TM.read
 rw [if_neg (by rw [h]; simp)]
theorem TM.read_write {T:TM} {i:Int} {bs:Txt} (e:(T.write i bs).2=0) (j:Int):(T.write i bs).1.read j=if j=i then (bs,0) else T.read j:=by
 obtain ⟨h1,h2,h3,h4,h5,ew⟩:=TM.write_ok e
 rw [ew,TM.read_live (T:={ T with put:=aput T.put i bs,undo:=T.undo++[(i,aget T.put i)] }) h1,TM.read_live h1]
 have hN:TM.N { T with put:=aput T.put i bs,undo:=T.undo++[(i,aget T.put i)] }=T.N:=rfl
 rw [hN]
 have ea:aget (TM.put { T with put:=aput T.put i bs,undo:=T.undo++[(i,aget T.put i)] }) j=if j=i then some bs else aget T.put j:=aget_aput ..
 by_cases hj:j=i
 ·rw [if_pos hj] at ea ⊢
  rw [if_neg (by omega),TM.get_some ea]
 ·rw [if_neg hj] at ea ⊢
  split
  ·rfl
  ·cases e2:aget T.put j with
   | some b=>rw [e2] at ea; rw [TM.get_some ea,TM.get_some e2]
   | none=>rw [e2] at ea; rw [TM.get_none ea,TM.get_none e2]
theorem TM.read_ok_over {T:TM} {i:Int} (e:(T.read i).2=0):T.over=false:=by
 unfold TM.read at e
 split at e
 ·cases e
 ·rename_i h; cases ho:T.over <;> simp_all
theorem nodup_len : ∀ {l m:List Int},l.Nodup→(∀ x ∈ l,x ∈ m)→l.length≤m.length
 | [],m,_,_=>Nat.zero_le _
 | a::r,m,hn,hs=>by
  have ha:=hs a (List.mem_cons_self ..)
  have h1:=List.length_erase_of_mem ha
  have h2:=List.length_pos_of_mem ha
  rw [List.nodup_cons] at hn
  have ih:=nodup_len (l:=r) (m:=m.erase a) hn.2 fun x hx=>(List.mem_erase_of_ne (fun e=>hn.1 (by rw [← e]; exact hx))).mpr (hs x (List.mem_cons_of_mem _ hx))
  rw [List.length_cons]; omega
theorem aput_keys {α:Type} (i:Int) (v:α):∀ m:List (Int×α),(aput m i v).map (·.1)=if aget m i=none then m.map (·.1)++[i] else m.map (·.1)
 | []=>rfl
 | (k,u)::r=>by
  have ih:=aput_keys i v r
  show (bif i == k then (i,v)::r else (k,u)::aput r i v).map (·.1)=if (bif i == k then some u else aget r i)=none then _ else _
  by_cases e:i=k
  ·subst e; rw [beq_self_eq_true]; rfl
  ·rw [beq_eq_false_iff_ne.mpr e]
   show k::(aput r i v).map (·.1)=if aget r i=none then _ else _
   rw [ih]
   split <;> rfl
end Go.Proofs.YtiapingedfnlnaaGreatDoor.Spc
namespace Go.Proofs.YtiapingedfnlnaaGreatDoor.Rg
open Go Go.Proofs Wx Hp
theorem ycalls_mono {P:Program} {l:Nat} {args:List Value} {h:Heap} {k k':Value→Heap→Prop} (y:YCalls P l args h k) (hk:∀ v h',k v h'→k' v h'):YCalls P l args h k' :=
 fun w hw=>by
  obtain ⟨fn,tmps,a,b,h1,h2⟩:=y w hw
  exact ⟨fn,tmps,a,b,h1,h2.mono fun _ _ ⟨v,e,r,x⟩=>⟨v,e,r,hk v _ x⟩⟩
theorem loopOn_lt {h:Heap} {l:Nat} {R:Loop} {st:LoopState} {p:Option Code} (o:LoopOn h l R st p):l<h.size:=(Array.getElem?_eq_some_iff.mp o).1
theorem loopOn_fr {F:Nat→Prop} {h h':Heap} {l:Nat} {R:Loop} {st:LoopState} {p:Option Code} (o:LoopOn h l R st p) (f:Fr F h h') (hF:¬ F l):LoopOn h' l R st p:=(f.same l (loopOn_lt o) hF).trans o
theorem setLoop_size (h:Heap) (l:Nat) (R:Loop) (st:LoopState) (p:Option Code):(setLoop h l R st p).size=h.size:=by simp [setLoop]
theorem setLoop_fr (h:Heap) (l:Nat) (R:Loop) (st:LoopState) (p:Option Code):Fr (fun b=>b=l) h (setLoop h l R st p) :=
 ⟨by rw [setLoop_size]; exact Nat.le_refl _,fun b _ hb=>by simp only [setLoop]; rw [Array.getElem?_setIfInBounds_ne fun e=>hb e.symm]⟩
theorem setLoop_on {h:Heap} {l:Nat} (hl:l<h.size) (R:Loop) (st:LoopState) (p:Option Code):LoopOn (setLoop h l R st p) l R st p:=by
 simp [LoopOn,setLoop,hl]
structure Turned (l:Nat) (R:Loop) (st:LoopState) (p:Option Code) (h h':Heap):Prop where
 size:h'.size=h.size
 fr:Fr (fun b=>b=l) h h'
 on:LoopOn h' l R st p
theorem turned {h:Heap} {l:Nat} (hl:l<h.size) (R:Loop) (st:LoopState) (p:Option Code):Turned l R st p h (setLoop h l R st p):=⟨setLoop_size h l R st p,setLoop_fr h l R st p,setLoop_on hl R st p⟩
theorem setL_intro {h:Heap} {l:Nat} {R:Loop} {st:LoopState} {p:Option Code} {k:Heap→Prop} (hl:l<h.size) (H:∀ h',Turned l R st p h h'→k h'):SetL h l R st p k:=H _ (turned hl R st p)
theorem beginL_size (h:Heap) (R:Loop):(beginL h R).size=h.size+2:=by simp [beginL]
theorem beginL_fr (h:Heap) (R:Loop):Fr No h (beginL h R) :=
 ⟨by rw [beginL_size]; omega,fun b hb _=>by simp only [beginL]; rw [Array.getElem?_push,if_neg (by rw [Array.size_push]; omega),Array.getElem?_push,if_neg (by omega)]⟩
theorem beginL_on (h:Heap) (R:Loop):LoopOn (beginL h R) (h.size+1) R .ready none:=by
 simp only [LoopOn,beginL]
 rw [Array.getElem?_push,if_pos (by rw [Array.size_push])]
theorem beginL_d (h:Heap) (R:Loop):(beginL h R)[h.size]?=some (.deferred (some [])):=by
 simp only [beginL]
 rw [Array.getElem?_push,if_neg (by rw [Array.size_push]; omega),Array.getElem?_push,if_pos rfl]
theorem endD_size (h:Heap) (b:Nat):(endD h b).size=h.size:=by simp [endD]
theorem endD_fr (h:Heap) (b:Nat):Fr (fun x=>x=b) h (endD h b) :=
 ⟨by rw [endD_size]; exact Nat.le_refl _,fun c _ hc=>by simp only [endD]; rw [Array.getElem?_setIfInBounds_ne fun e=>hc e.symm]⟩
theorem endD_intro {h:Heap} {b:Nat} {k:Heap→Prop} (hd:h[b]?=some (.deferred (some []))) (H:∀ h',h'.size=h.size→Fr (fun x=>x=b) h h'→k h'):EndD b h k:=⟨hd,H _ (endD_size h b) (endD_fr h b)⟩
theorem pend_none {n r:Prop} {e:Nat→Prop} (h:n):pendX none n r e:=h
theorem pend_ret {n r:Prop} {e:Nat→Prop} (h:r):pendX (some .ret) n r e:=h
end Go.Proofs.YtiapingedfnlnaaGreatDoor.Rg
namespace Go.Proofs.YtiapingedfnlnaaGreatDoor.Bt
open Go Go.Proofs Wx Hp W Rg
def bitAt (bs:List UInt8) (i:Nat):Bool:=(bs.getD (i / 8) 0).toNat.testBit (i % 8)
def setB (n s:Nat) (on:Bool):Nat:=if on=true then n ||| 2 ^ s else n &&& (255 - 2 ^ s)
def putBit (bs:List UInt8) (i:Nat) (on:Bool):List UInt8:=bs.set (i / 8) (UInt8.ofNat (setB (bs.getD (i / 8) 0).toNat (i % 8) on))
theorem putBit_length (bs:List UInt8) (i:Nat) (on:Bool):(putBit bs i on).length=bs.length:=List.length_set
theorem bit_read : ∀ n:Fin 256,∀ s:Fin 8,((bitsI .and .u8 (Int.fdiv (n.val:Int) (2 ^ min (Int.toNat (s.val:Int)) 8)) 1) == 1)=n.val.testBit s.val:=by decide +kernel
theorem bit_or : ∀ n:Fin 256,∀ s:Fin 8,bitsI .or .u8 (n.val:Int) (IntKind.wrap .u8 (1*2 ^ min (Int.toNat (s.val:Int)) 8))=(setB n.val s.val true:Nat):=by decide +kernel
theorem bit_not : ∀ n:Fin 256,∀ s:Fin 8,bitsI .andNot .u8 (n.val:Int) (IntKind.wrap .u8 (1*2 ^ min (Int.toNat (s.val:Int)) 8))=(setB n.val s.val false:Nat):=by decide +kernel
theorem setB_lt : ∀ n:Fin 256,∀ s:Fin 8,setB n.val s.val true<256∧setB n.val s.val false<256:=by decide +kernel
theorem setB_get : ∀ n:Fin 256,∀ s t:Fin 8,(setB n.val s.val true).testBit t.val=(if t=s then true else n.val.testBit t.val)∧(setB n.val s.val false).testBit t.val=(if t=s then false else n.val.testBit t.val):=by decide +kernel
theorem setB_lt' {n s:Nat} (hn:n<256) (hs:s<8) (on:Bool):setB n s on<256:=by
 cases on
 ·exact (setB_lt ⟨n,hn⟩ ⟨s,hs⟩).2
 ·exact (setB_lt ⟨n,hn⟩ ⟨s,hs⟩).1
theorem setB_get' {n s t:Nat} (hn:n<256) (hs:s<8) (ht:t<8) (on:Bool):(setB n s on).testBit t=if t=s then on else n.testBit t:=by
 have e:((⟨t,ht⟩:Fin 8)=⟨s,hs⟩)=(t=s):=by rw [Fin.mk.injEq]
 have:=setB_get ⟨n,hn⟩ ⟨s,hs⟩ ⟨t,ht⟩
 simp only [Fin.mk.injEq] at this
 cases on
 ·exact this.2
 ·exact this.1
theorem bitAt_putBit (bs:List UInt8) (i j:Nat) (on:Bool) (hi:i<8*bs.length):bitAt (putBit bs i on) j=if j=i then on else bitAt bs j:=by
 have hn:(bs.getD (i / 8) 0).toNat<256:=UInt8.toNat_lt _
 have hl:i / 8<bs.length:=by omega
 unfold bitAt putBit
 by_cases h:j / 8=i / 8
 ·rw [h]
  have:(bs.set (i / 8) (UInt8.ofNat (setB (bs.getD (i / 8) 0).toNat (i % 8) on))).getD (i / 8) 0=UInt8.ofNat (setB (bs.getD (i / 8) 0).toNat (i % 8) on):=by
   rw [List.getD_eq_getElem?_getD,List.getElem?_set_self hl]; rfl
  rw [this,UInt8.toNat_ofNat_of_lt' (setB_lt' hn (by omega) on),setB_get' hn (by omega) (by omega)]
  by_cases e:j=i
  ·rw [if_pos e,if_pos (by omega)]
  ·rw [if_neg e,if_neg (by omega)]
 ·rw [if_neg (by rintro rfl; exact h rfl),List.getD_eq_getElem?_getD,List.getElem?_set_ne (by omega),← List.getD_eq_getElem?_getD]
theorem sl_rng {h:Heap} {ec l c:Nat} {a:Option Addr} {xs:List Value} {F:Nat→Prop} (s:Sl h ec a l c xs F):Sl h ec a l c xs (fun b=>F b∧b<h.size):=by
 cases a with
 | none=>exact ⟨s.1,s.2⟩
 | some p=>exact ⟨s.1,s.2.1,⟨s.2.2.1,s.lt⟩,s.2.2.2⟩
theorem tdiv8 (n:Nat):Int.tdiv (n:Int) 8=((n / 8:Nat):Int):=rfl
theorem tmod8 (n:Nat):Int.tmod (n:Int) 8=((n % 8:Nat):Int):=rfl
theorem has_spec {A:Option Addr} {l c:Nat} {i:Int} {h:Heap} {K:Value→Heap→Prop} (hl:l≤1099511627776) (hK:K (.bool (decide (0≤i∧i<8*l))) h):C.bits_has A l c i h K:=by
 refine bits_has.ok (cd (fun h0=>?_) fun h0=>?_)
 ·rw [wrap_i64 (by omega) (by omega)]
  have:decide (0≤i∧i<8*(l:Int))=decide (i<8*(l:Int)):=by
   apply decide_eq_decide.mpr; constructor
   ·exact fun x=>x.2
   ·exact fun x=>⟨h0,x⟩
  rw [this] at hK; exact hK
 ·have:decide (0≤i∧i<8*(l:Int))=false:=decide_eq_false fun x=>h0 x.1
  rw [this] at hK; exact hK
theorem cell_at {h:Heap} {A:Option Addr} {l:Nat} {bs:List UInt8} (B:StrAt h A l bs) {j:Nat} (hj:j<bs.length):∃ p,A=some p∧cellOf h (p.add j)=some (bv (bs.getD j 0)):=by
 obtain ⟨B1,B2⟩:=B
 cases A with
 | none =>
  have B2:bs.map bv=[]:=B2
  rw [List.map_eq_nil_iff.mp B2] at hj; exact absurd hj (Nat.not_lt_zero _)
 | some p =>
  refine ⟨p,rfl,Cells.cell B2 ?_⟩
  rw [List.getElem?_map,List.getD_eq_getElem?_getD,List.getElem?_eq_getElem hj]; rfl
theorem oe {α:Type} {a:Option α} {p:α} {k:α→Prop} (e:a=some p) (h:k p):onSome a k:=by rw [e]; exact h
theorem on_spec {A:Option Addr} {l c i:Nat} {bs:List UInt8} {h:Heap} {K:Value→Heap→Prop} (B:StrAt h A l bs) (hl:l≤1099511627776) (hi:i<8*l) (hK:K (.bool (bitAt bs i)) h):C.bits_on A l c i h K:=by
 have e:=B.1
 obtain ⟨p,ep,hc⟩:=cell_at B (j:=i / 8) (by omega)
 refine bits_on.ok ?_
 unfold bits_on
 rw [tdiv8,tmod8,wrap_i64 (by omega) (by omega)]
 refine ⟨⟨by omega,by omega⟩,oe ep ⟨_,hc,?_⟩⟩
 rw [if_neg (by omega)]
 have:=bit_read ⟨(bs.getD (i / 8) 0).toNat,UInt8.toNat_lt _⟩ ⟨i % 8,by omega⟩
 unfold bitAt at hK
 rw [← this] at hK
 exact hK
theorem map_set_bv (bs:List UInt8) (j:Nat) (x:UInt8):put (bs.map bv) j [bv x]=(bs.set j x).map bv:=by
 show (bs.map bv).set j (bv x)=_
 rw [List.map_set]
theorem Put_spec {b o l c:Nat} {i:Int} {on:Bool} {bs:List UInt8} {h:Heap} {F:Nat→Prop} {K:Value→Heap→Prop} (S:Sl h 1 (some ⟨b,o,none⟩) l c (bs.map bv) F) (hl:l≤1099511627776)
  (h1:¬ (0≤i∧i<8*l)→K (.int .i64 80) h) (h2:0≤i→i<8*l→∀ h',Fr (fun x=>x=b) h h'→h'.size=h.size→Sl h' 1 (some ⟨b,o,none⟩) l c ((putBit bs i.toNat on).map bv) F→K (.int .i64 0) h') :
  C.bits_Put (some ⟨b,o,none⟩) l c i on h K:=by
 refine bits_Put.ok (has_spec hl ⟨_,rfl,cnot (cd (fun hi=>?_) h1)⟩)
 obtain ⟨n,rfl⟩:=Int.eq_ofNat_of_zero_le hi.1
 have h2:=h2 hi.1 hi.2
 have B:=S.str
 have e:=B.1
 have hn:n / 8<bs.length:=by omega
 obtain ⟨p,ep,hc⟩:=cell_at B hn
 cases ep
 obtain ⟨w1,w2⟩:=S.wr
 have hx:(bs.getD (n / 8) 0).toNat<256:=UInt8.toNat_lt _
 rw [tdiv8,tmod8,wrap_i64 (by omega) (by omega)]
 have go:∀ v:Int,v=(setB (bs.getD (n / 8) 0).toNat (n % 8) on:Nat)→Put (Addr.add ⟨b,o,none⟩ (Int.toNat ((n / 8:Nat):Int))) (.int .u8 v) h fun h3=>K (.int .i64 0) h3:=by
  intro v ev
  subst ev
  have et:Int.toNat ((n / 8:Nat):Int)=n / 8:=rfl
  rw [et]
  refine Put.add w1 (by omega) fun h3 d3=>h2 h3 d3.fr d3.size ?_
  have ex:(.int .u8 ((setB (bs.getD (n / 8) 0).toNat (n % 8) on:Nat):Int):Value)=bv (UInt8.ofNat (setB (bs.getD (n / 8) 0).toNat (n % 8) on)):=by
   show _=Value.int .u8 _
   rw [UInt8.toNat_ofNat_of_lt' (setB_lt' hx (by omega) on)]
  rw [ex] at d3
  have:=S.putAt (j:=n / 8) (new:=[bv (UInt8.ofNat (setB (bs.getD (n / 8) 0).toNat (n % 8) on))]) (by show n / 8+1≤l*1; omega) d3
  rw [map_set_bv] at this
  exact this
 have ob:=bit_or ⟨(bs.getD (n / 8) 0).toNat,hx⟩ ⟨n % 8,by omega⟩
 have nb:=bit_not ⟨(bs.getD (n / 8) 0).toNat,hx⟩ ⟨n % 8,by omega⟩
 cases on
 ·refine cf rfl ⟨⟨by omega,by omega⟩,os ⟨_,hc,?_⟩⟩
  rw [if_neg (by omega)]
  exact ⟨⟨by omega,by omega⟩,os (go _ nb)⟩
 ·refine ct rfl ⟨⟨by omega,by omega⟩,os ⟨_,hc,?_⟩⟩
  rw [if_neg (by omega)]
  exact ⟨⟨by omega,by omega⟩,os (go _ ob)⟩
theorem hv_yield {P:Program} {l:Nat} {args:List Value} {h:Heap} {k:Value→Heap→Prop} (y:YCalls P l args h k):HCallsV P (.func (.yield l) #[] #[]) args h k:=y
theorem hv_mono {P:Program} {v:Value} {args:List Value} {h:Heap} {k k':Value→Heap→Prop} (H:HCallsV P v args h k) (hk:∀ v h',k v h'→k' v h'):HCallsV P v args h k':=by
 cases v with
 | func fn fs cs =>
  cases fn with
  | func g=>exact HCalls.mono H hk
  | yield l=>exact ycalls_mono H hk
  | _=>exact H.elim
 | _=>exact H.elim
theorem runs_iter {l cb:Nat} {A:Option Addr} {sl c:Nat} {bs:List UInt8} {h:Heap} {K:Value→Heap→Prop} (hl:sl≤1099511627776) (J:Nat→Heap→Prop) (hc:∀ i hh,J i hh→rd hh cb=[.slice A sl c]∧StrAt hh A sl bs)
  (hY:∀ i f n hh,J i hh→i≤f→0<n→f+n≤8*sl→(∀ t,i≤t→t<f→bitAt bs t=true)→(∀ t,f≤t→t<f+n→bitAt bs t=false) →
   YCalls Tryz.prog l [.int .i64 f,.int .i64 n] hh fun v h'=>(v = .bool true∧J (f+n) h')∨(v = .bool false∧K (.tuple #[]) h'))
  (h0:J 0 h) (hK:∀ i hh,J i hh→i≤8*sl→(∀ t,i≤t→t<8*sl→bitAt bs t=true)→K (.tuple #[]) hh):C.bits_Runs_c1 (.func (.yield l) #[] #[]) (some ⟨cb,0,none⟩) h K:=by
 refine bits_Runs_c1.ok ⟨fun i hh=>0≤i∧i≤8*sl∧J i.toNat hh,fun i _=>(8*sl - i).toNat,⟨by omega,by omega,h0⟩,?_⟩
 rintro i h2 ⟨i0,i1,hJ⟩
 obtain ⟨r,B⟩:=hc _ _ hJ
 have C2:cellOf h2 ⟨cb,0,none⟩=some (.slice A sl c):=rdc r rfl
 refine ⟨fun f hh=>h2=hh∧i≤f∧f≤8*sl∧∀ t,i.toNat≤t→t<f.toNat→bitAt bs t=true,fun f _=>(8*sl - f).toNat,⟨rfl,by omega,i1,fun t h1 h2=>by omega⟩,?_⟩
 rintro f _ ⟨rfl,f0,f1,hon⟩
 have third:(f=8*sl∨bitAt bs f.toNat=false)→bits_Runs_c1.k1 (.func (.yield l) #[] #[]) (some ⟨cb,0,none⟩) i h2 (fun i hh=>0≤i∧i≤8*sl∧J i.toNat hh) (fun i _=>(8*sl - i).toNat) f h2 K:=by
  intro hf
  refine ⟨fun e hh=>h2=hh∧f≤e∧e≤8*sl∧∀ t,f.toNat≤t→t<e.toNat→bitAt bs t=false,fun e _=>(8*sl - e).toNat,⟨rfl,by omega,f1,fun t h1 h2=>by omega⟩,?_⟩
  rintro e _ ⟨rfl,e0,e1,hoff⟩
  have last:(e=f→f=8*sl)→bits_Runs_c1.k2 (.func (.yield l) #[] #[]) i h2 (fun i hh=>0≤i∧i≤8*sl∧J i.toNat hh) (fun i _=>(8*sl - i).toNat) f e h2 K:=by
   intro hq
   refine ce (fun he=>?_) fun he=>?_
   ·have:=hq he
    exact hK i.toNat h2 hJ (by omega) fun t h1 h3=>hon t h1 (by omega)
   ·rw [wrap_i64 (n:=e - f) (by omega) (by omega)]
    have y:=hY i.toNat f.toNat (e - f).toNat h2 hJ (by omega) (by omega) (by omega) hon fun t h1 h3=>hoff t h1 (by omega)
    rw [show ((f.toNat:Nat):Int)=f by omega,show (((e - f).toNat:Nat):Int)=e - f by omega] at y
    refine hv_yield (ycalls_mono y fun v h5 hv=>?_)
    rcases hv with ⟨rfl,hJ5⟩|⟨rfl,hk⟩
    ·refine ⟨true,rfl,cnot (ct rfl ⟨⟨by omega,e1,?_⟩,by show ((8*sl:Int) - e).toNat<((8*sl:Int) - i).toNat; omega⟩)⟩
     rw [show f.toNat+(e - f).toNat=e.toNat by omega] at hJ5
     exact hJ5
    ·exact ⟨false,rfl,cnot (cf rfl hk)⟩
  refine os ⟨_,_,_,C2,has_spec hl ⟨_,rfl,cd (fun hi=>os ⟨_,_,_,C2,?_⟩) fun hi=>?_⟩⟩
  ·obtain ⟨n,rfl⟩:=Int.eq_ofNat_of_zero_le hi.1
   refine on_spec B hl (by omega) ⟨_,rfl,cnot (cs (fun hb=>?_) fun hb=>?_)⟩
   ·refine last fun he=>?_
    rcases hf with hf|hf
    ·exact hf
    ·rw [← he] at hf
     rw [show ((n:Int)).toNat=n from rfl,hb] at hf; cases hf
   ·rw [wrap_i64 (n:=(n:Int)+1) (by omega) (by omega)]
    refine ⟨⟨rfl,by omega,by omega,fun t h1 h3=>?_⟩,by show ((8*sl:Int) - ((n:Int)+1)).toNat<((8*sl:Int) - (n:Int)).toNat; omega⟩
    by_cases ht:t=n
    ·rw [ht]; exact hb
    ·exact hoff t h1 (by omega)
  ·exact last fun he=>by omega
 refine os ⟨_,_,_,C2,has_spec hl ⟨_,rfl,cd (fun hi=>os ⟨_,_,_,C2,?_⟩) fun hi=>third (.inl (by omega))⟩⟩
 obtain ⟨n,rfl⟩:=Int.eq_ofNat_of_zero_le hi.1
 refine on_spec B hl (by omega) ⟨_,rfl,cs (fun hb=>?_) fun hb=>third (.inr hb)⟩
 rw [wrap_i64 (n:=(n:Int)+1) (by omega) (by omega)]
 refine ⟨⟨rfl,by omega,by omega,fun t h1 h3=>?_⟩,by show ((8*sl:Int) - ((n:Int)+1)).toNat<((8*sl:Int) - (n:Int)).toNat; omega⟩
 by_cases ht:t=n
 ·rw [ht]; exact hb
 ·exact hon t h1 (by omega)
end Go.Proofs.YtiapingedfnlnaaGreatDoor.Bt
namespace Go.Proofs.YtiapingedfnlnaaGreatDoor.Spc
open Go Go.Proofs Wx Hp W Ad Tm Bt
structure G where
 blocks:Nat
 bitmap:Nat
 inodes:Nat
 data:Nat
 count:Nat
def G.v (g:G):List Value:=[.int .i64 g.blocks,.int .i64 g.bitmap,.int .i64 g.inodes,.int .i64 g.data,.int .i64 g.count]
structure G.ok (g:G):Prop where
 b:g.blocks≤1099511627776
 m:g.bitmap≤1099511627776
 i:g.inodes≤1099511627776
 d:g.data≤1099511627776
theorem geo_Bit_spec {g:G} {i:Int} {h:Heap} {K:Value→Heap→Prop} (ok:g.ok) (h1:¬ (0≤i∧i<g.blocks)→∀ h',Fr No h h'→K (.tuple #[.int .i64 0,.int .i64 0,.int .i64 31]) h')
  (h2:0≤i→i<g.blocks→∀ h',Fr No h h'→K (.tuple #[.int .i64 (g.bitmap+i.toNat / 4096:Nat),.int .i64 (i.toNat % 4096:Nat),.int .i64 0]) h'):C.geo_Bit g.v i h K:=by
 have b1:=ok.b
 have b2:=ok.m
 refine geo_Bit.ok (New.intro fun h3 n3=>?_)
 refine cd (fun hn=>h1 (by omega) h3 n3.fr) fun h0=>⟨_,rda n3.rd rfl,cd (fun hn=>h1 (by omega) h3 n3.fr) fun hb=>⟨_,rda n3.rd rfl,?_⟩⟩
 obtain ⟨n,rfl⟩:=Int.eq_ofNat_of_zero_le (show 0≤i by omega)
 have e1:Int.tdiv (n:Int) 4096=((n / 4096:Nat):Int):=rfl
 have e2:Int.tmod (n:Int) 4096=((n % 4096:Nat):Int):=rfl
 have h2:=h2 (by omega) (by omega) h3 n3.fr
 rw [e1,e2,wrap_i64 (n:=((n / 4096:Nat):Int)) (by omega) (by omega),wrap_i64 (by omega) (by omega)]
 rw [show ((n:Int)).toNat=n from rfl] at h2
 rw [show ((g.bitmap+n / 4096:Nat):Int)=(g.bitmap:Int)+((n / 4096:Nat):Int) by omega] at h2
 exact h2
def G.at_ (g:G) (i:Nat):Int:=(g.bitmap+i / 4096:Nat)
def setBit (T:TM) (g:G) (i:Nat) (on:Bool):TM×Int :=
 if (T.read (g.at_ i)).2≠0 then (T,(T.read (g.at_ i)).2) else T.write (g.at_ i) (putBit (T.read (g.at_ i)).1 (i % 4096) on)
theorem bit_spec {h:Heap} {F:Nat→Prop} {t d:Option Addr} {T:TM} {g:G} {i:Int} {K:Value→Heap→Prop} (x:Tx h F t d T) (ok:g.ok)
  (h1:¬ (0≤i∧i<g.blocks)→∀ h',Fr No h h'→K (.tuple #[.int .i64 0,.slice none 0 0,.int .i64 0,.int .i64 31]) h')
  (h2:0≤i→i<g.blocks→∀ a l c h',Fr No h h'→l=(T.read (g.at_ i.toNat)).1.length→Sl h' 1 a l c ((T.read (g.at_ i.toNat)).1.map bv) (From h.size) →
   K (.tuple #[.int .i64 (g.at_ i.toNat),.slice a l c,.int .i64 (i.toNat % 4096:Nat),.int .i64 (T.read (g.at_ i.toNat)).2]) h'):C.space_bit t g.v i h K:=by
 refine space_bit.ok (New.intro fun h3 n3=>⟨g.v,rfl,cellsAll n3.rd,?_⟩)
 refine geo_Bit_spec ok (fun hb h4 f4=>⟨_,_,_,rfl,ct rfl (h1 hb h4 (n3.fr.no f4))⟩) fun h0 hb h4 f4=>⟨_,_,_,rfl,cf rfl ?_⟩
 have f:=n3.fr.no f4
 refine Read_spec (x.no f) fun a l c h5 f5 hl s=>⟨_,_,_,_,rfl,?_⟩
 exact h2 h0 hb a l c h5 (f.no f5) hl (s.mono fun b hb=>Nat.le_trans f.size hb)
theorem set_spec {h:Heap} {F:Nat→Prop} {t d:Option Addr} {T:TM} {g:G} {i:Int} {on:Bool} {K:Value→Heap→Prop} (x:Tx h F t d T) (ok:g.ok) (h0:0≤i) (h1:i<g.blocks) (hu:T.undo.length<1000000000)
  (hK:∀ h' F',Fr F h h'→Gw h F h' F'→Tx h' F' t d (setBit T g i.toNat on).1→K (.int .i64 (setBit T g i.toNat on).2) h'):C.space_set t g.v i on h K:=by
 refine space_set.ok (New.intro fun h4 n4=>⟨g.v,rfl,cellsAll n4.rd,?_⟩)
 have x4:=x.no n4.fr
 refine bit_spec x4 ok (fun hb=>absurd ⟨h0,h1⟩ hb) fun _ _ a l c h5 f5 hl s=>⟨_,_,_,_,_,_,rfl,cn (fun he=>?_) fun he=>?_⟩
 ·have e:setBit T g i.toNat on=(T,(T.read (g.at_ i.toNat)).2):=by unfold setBit; rw [if_pos he]
  rw [e] at hK
  have f:=n4.fr.no f5
  exact hK h5 F (f.mono fun _ _ y=>y.elim) (Gw.refl f.size fun b hb=>x.lt hb) (x.no f)
 ·have hlen:=Tx.readLen x he
  have e:setBit T g i.toNat on=T.write (g.at_ i.toNat) (putBit (T.read (g.at_ i.toNat)).1 (i.toNat % 4096) on):=by unfold setBit; rw [if_neg (by rw [he]; simp)]
  rw [e] at hK
  obtain ⟨p,ep,_⟩:=s.get (by omega)
  subst ep
  obtain ⟨pb,po,sp⟩:=p
  have esp:sp=none:=s.2.1
  subst esp
  refine Put_spec s (by omega) (fun hn=>absurd ⟨by omega,by omega⟩ hn) fun _ _ h6 f6 z6 s6=>⟨_,rfl,cf rfl ?_⟩
  have f:=n4.fr.no f5
  have hfrom:h4.size≤pb:=s.2.2.1
  have f6':Fr No h h6:=f.trans f6 fun b hb e=>by have:=n4.size; omega
  have e2:((i.toNat % 4096:Nat):Int).toNat=i.toNat % 4096:=rfl
  rw [e2] at s6
  refine Tm.Write_spec (x.no f6') s6.str (by omega) (fun q eq y=>?_) hu fun h7 F7 f7 g7 x7=>⟨_,rfl,hK h7 F7 ?_ ?_ x7⟩
  ·cases eq
   have y:F pb:=y
   have:=x.lt y
   have:=n4.size
   omega
  ·exact (f6'.mono fun _ _ y=>y.elim).trans f7 fun _ _ y=>y
  ·exact (Gw.refl f6'.size fun b hb=>x.lt hb).trans g7 f6'.size
end Go.Proofs.YtiapingedfnlnaaGreatDoor.Spc
namespace Go.Proofs.YtiapingedfnlnaaGreatDoor.Spc
open Go Go.Proofs Wx Hp W Ad Tm Bt Rg
theorem Runs_spec {A:Option Addr} {l c:Nat} {bs:Txt} {h:Heap} {K:Value→Heap→Prop} (B:StrAt h A l bs) (h0:0<l) (hl:l≤140737488355328)
  (hK:∀ cb A' c' h',Fr No h h'→h.size≤cb→cb<h'.size→rd h' cb=[.slice A' l c']→Sl h' 1 A' l c' (bs.map bv) (fun b=>h.size≤b∧b<h'.size)→K (.func (.func 248) #[] ⟨[.pointer (some ⟨cb,0,none⟩)]⟩) h'):C.bits_Runs A l c h K:=by
 refine bits_Runs.ok (New.intro fun h2 n2=>?_)
 have z2:=n2.size
 obtain ⟨s1,s2,s3⟩:=StrAt.src (StrAt.fr n2.fr B (fun _ _ x=>x))
 have S0:Sl h2 1 (some ⟨h.size,0,none⟩) 0 0 [] (fun b=>b=h.size):=⟨rfl,rfl,rfl,n2.own,Nat.le_refl _,rfl,Nat.zero_le _⟩
 refine ⟨_,s1,s2,s3,append_own S0 s1 rfl (by show (0+l)*1≤_; omega) (by omega) fun a' c' h3 f3 s=>New.intro fun h4 n4=>?_⟩
 have z3:=f3.size
 have z4:=n4.size
 rw [Nat.zero_add] at s ⊢
 rw [List.nil_append] at s
 have s:=sl_rng s
 refine Put.intro n4.own (by rw [n4.rd]; exact Nat.one_pos) fun h5 d5=>?_
 have z5:=d5.size
 have f:Fr No h h5:=((n2.fr.trans f3 fun b hb e=>by have e:b=h.size:=e; omega).new n4).did d5 fun hh=>by omega
 refine hK h3.size a' c' h5 f (by omega) (by omega) (by rw [d5.rd,n4.rd]; rfl) (((s.fr n4.fr fun _ _ _ x=>x).fr d5.fr fun b hb hF e=>?_).mono fun b hb=>?_)
 ·have e:b=h3.size:=e
  have:=hF.2
  omega
 ·obtain ⟨hb,hb2⟩:=hb
  refine ⟨?_,by omega⟩
  rcases hb with hb|hb
  ·omega
  ·omega
structure Rw (n cb e:Nat) (g:G) (first:Nat) (do1:Value) (A:Option Addr) (l c:Nat) (bs:Txt) (hh:Heap):Prop where
 size:e+1<hh.size
 n1:n+3≤cb
 n2:cb<e
 r1:rd hh n=g.v
 r2:rd hh (n+1)=[.int .i64 first]
 r3:rd hh (n+2)=[do1]
 r4:rd hh cb=[.slice A l c]
 s:StrAt hh A l bs
 sb:∀ p,A=some p→n+3≤p.block∧p.block<e
 d:hh[e]?=some (.deferred (some []))
theorem Rw.step {n cb e first l c:Nat} {g:G} {do1:Value} {A:Option Addr} {bs:Txt} {hh hh':Heap} {F:Nat→Prop} (b:Rw n cb e g first do1 A l c bs hh) (f:Fr F hh hh') (hF:∀ x,F x→x<n∨x=e+1):Rw n cb e g first do1 A l c bs hh':=by
 have z:=f.size
 have s:=b.size
 have n1:=b.n1
 have n2:=b.n2
 have k:∀ x,n≤x→x≤e→¬ F x:=fun x h1 h2 y=>by have:=hF x y; omega
 exact ⟨by omega,n1,n2,(f.rd (by omega) (k _ (by omega) (by omega))).trans b.r1,(f.rd (by omega) (k _ (by omega) (by omega))).trans b.r2,(f.rd (by omega) (k _ (by omega) (by omega))).trans b.r3,(f.rd (by omega) (k _ (by omega) (by omega))).trans b.r4,
  StrAt.fr f b.s fun p ep=>k _ (by have:=b.sb p ep; omega) (by have:=b.sb p ep; omega),b.sb,(f.same _ (by omega) (k _ (by omega) (by omega))).trans b.d⟩
def isF (g:G) (first:Nat) (bs:Txt) (t:Nat):Prop:=bitAt bs t=false∧g.data≤first+t∧first+t<g.blocks
theorem rows_spec {g:G} {first:Nat} {A:Option Addr} {l c:Nat} {bs:Txt} {do1:Value} {h:Heap} {K:Value→Heap→Prop} (B:StrAt h A l bs) (hl0:0<l) (hl:l≤1099511627776) (ok:g.ok) (hf:first≤9007199254740992) (hdo:cellsL do1=[do1])
  (J:Nat→Heap→Prop) (E:Heap→Prop) (hJ:∀ i hh hh',J i hh→Fr (From h.size) hh hh'→J i hh') (hE:∀ hh hh',E hh→Fr (From h.size) hh hh'→E hh')
  (hskip:∀ i j hh,J i hh→i≤j→j≤8*l→(∀ t,i≤t→t<j→¬ isF g first bs t)→J j hh)
  (hD:∀ (i j a b:Nat) hh,J i hh→i≤j→j≤8*l→first+i≤a→a<b→b≤first+j→(∀ t,i≤t→t<j→(isF g first bs t↔a≤first+t∧first+t<b)) →
   HCallsV Tryz.prog do1 [.int .i64 a,.int .i64 b] hh fun v h'=>∃ r,v = .bool r∧Fr (fun x=>x<h.size) hh h'∧(r=true→J j h')∧(r=false→E h'))
  (h0:J 0 h) (hK:∀ hh,(J (8*l) hh∨E hh)→K (.tuple #[]) hh):C.space_rows g.v first A l c do1 h K:=by
 refine space_rows.ok (New.intro fun h2 n2=>New.intro fun h3 n3=>New.intro fun h4 n4=>?_)
 have z2:=n2.size
 have z3:=n3.size
 have z4:=n4.size
 have e2:h2.size=h.size+1:=z2
 have e3:h3.size=h.size+2:=by omega
 have F4:Fr No h h4:=(n2.fr.new n3).new n4
 have B4:=StrAt.fr F4 B fun _ _ x=>x
 refine Runs_spec B4 hl0 (by omega) fun cb A' c' h5 f5 cb1 cb2 r5 s5=>⟨_,rfl,fun R rounds=>?_⟩
 have z5:=f5.size
 have F5:Fr No h h5:=F4.no f5
 rw [e2,e3] at rounds
 have Fb:=beginL_fr h5 R
 have on0:=beginL_on h5 R
 have d0:=beginL_d h5 R
 have zb:=beginL_size h5 R
 have fb:∀ b,b<h5.size→rd (beginL h5 R) b=rd h5 b:=fun b hb=>Fb.rd hb fun x=>x
 have g1:rd h5 h.size=g.v:=(f5.rd (by omega) fun x=>x).trans ((n4.at_ (by omega)).trans ((n3.at_ (by omega)).trans n2.rd))
 have g2:rd h5 (h.size+1)=[.int .i64 first]:=by have:=n3.rd; rw [e2] at this; exact (f5.rd (by omega) fun x=>x).trans ((n4.at_ (by omega)).trans this)
 have g3:rd h5 (h.size+2)=[do1]:=by have:=n4.rd; rw [e3,hdo] at this; exact (f5.rd (by omega) fun x=>x).trans this
 have W0:Rw h.size cb h5.size g first do1 A' l c' bs (beginL h5 R):=by
  refine ⟨by omega,by omega,cb2,(fb _ (by omega)).trans g1,(fb _ (by omega)).trans g2,(fb _ (by omega)).trans g3,(fb _ (by omega)).trans r5,StrAt.fr Fb s5.str fun _ _ x=>x,fun p ep=>?_,d0⟩
  subst ep
  have:=s5.2.2.1
  have h1:h4.size≤p.block:=this.1
  have h2:p.block<h5.size:=this.2
  exact ⟨by omega,h2⟩
 have J0:J 0 (beginL h5 R):=hJ _ _ _ h0 ((F5.no Fb).mono fun _ _ x=>x.elim)
 show C.bits_Runs_c1 (.func (.yield (h5.size+1)) #[] #[]) (some ⟨cb,0,none⟩) (beginL h5 R) _
 have fin:∀ (st:LoopState) (pend:Option Code) (h9:Heap),(st = .ready∧pend=none∨st = .done∧pend=some .ret)→LoopOn h9 (h5.size+1) R st pend→Rw h.size cb h5.size g first do1 A' l c' bs h9→(J (8*l) h9∨E h9) →
   ∃ (st1:LoopState) (pend1:Option Code),LoopOn h9 (h5.size+1) R st1 pend1∧st1 ≠ .busy∧pendX pend1 (SetL h9 (h5.size+1) R .exhausted pend1 fun h10=>EndD h5.size h10 fun h11=>K (.tuple #[]) h11) (SetL h9 (h5.size+1) R .exhausted pend1 fun h12=>EndD h5.size h12 fun h13=>K (.tuple #[]) h13) (fun _=>False):=by
  intro st pend h9 hs on9 W9 je
  have size9:=W9.size
  have out:SetL h9 (h5.size+1) R .exhausted pend fun h10=>EndD h5.size h10 fun h11=>K (.tuple #[]) h11:=by
   refine setL_intro size9 fun h10 t10=>?_
   have W10:=W9.step t10.fr fun b e => .inr e
   refine endD_intro W10.d fun h11 z11 f11=>hK h11 ?_
   have f:Fr (From h.size) h9 h11:=(t10.fr.mono fun b _ e=>by show h.size≤b; omega).trans f11 fun b _ e=>by show h.size≤b; omega
   rcases je with j|j
   ·exact .inl (hJ _ _ _ j f)
   ·exact .inr (hE _ _ j f)
  rcases hs with ⟨rfl,rfl⟩|⟨rfl,rfl⟩
  ·exact ⟨.ready,none,on9,(by intro x; cases x),pend_none out⟩
  ·exact ⟨.done,some .ret,on9,(by intro x; cases x),pend_ret out⟩
 refine runs_iter (l:=h5.size+1) (A:=A') (sl:=l) (c:=c') (bs:=bs) hl (fun i hh=>J i hh∧Rw h.size cb h5.size g first do1 A' l c' bs hh∧LoopOn hh (h5.size+1) R .ready none) (fun i hh q=>⟨q.2.1.r4,q.2.1.s⟩) (fun i f n hh q hif hn hfl hon hoff=>?_) ⟨J0,W0,on0⟩ fun i hh q hi hon=>?_
 ·obtain ⟨j,W,o⟩:=q
  have b1:=ok.b
  have b2:=ok.d
  refine rounds (f:Int) (n:Int) hh _ o ⟨o,setL_intro W.size fun h7 t7=>?_⟩
  have W7:=W.step t7.fr fun b e => .inr e
  have j7:J i h7:=hJ _ _ _ j (t7.fr.mono fun b _ e=>by show h.size≤b; omega)
  have s7:=W7.size
  refine ⟨_,rdc W7.r2 rfl,_,rda W7.r1 rfl,_,rdc W7.r2 rfl,_,rda W7.r1 rfl,?_⟩
  rw [wrap_i64 (n:=(first:Int)+f) (by omega) (by omega),wrap_i64 (n:=(first:Int)+f+n) (by omega) (by omega)]
  obtain ⟨a,ea,la,la2,la3⟩:∃ a:Nat,(if (g.data:Int)>(first:Int)+f then (g.data:Int) else (first:Int)+f)=(a:Int)∧g.data≤a∧first+f≤a∧(a=g.data∨a=first+f):=by
   split
   ·exact ⟨g.data,rfl,Nat.le_refl _,by omega,.inl rfl⟩
   ·exact ⟨first+f,by omega,by omega,Nat.le_refl _,.inr rfl⟩
  obtain ⟨b,eb,lb,lb2,lb3⟩:∃ b:Nat,(if (g.blocks:Int)<(first:Int)+f+n then (g.blocks:Int) else (first:Int)+f+n)=(b:Int)∧b≤g.blocks∧b≤first+f+n∧(b=g.blocks∨b=first+f+n):=by
   split
   ·exact ⟨g.blocks,rfl,Nat.le_refl _,by omega,.inl rfl⟩
   ·exact ⟨first+f+n,by omega,by omega,Nat.le_refl _,.inr rfl⟩
  rw [ea,eb]
  have iff:∀ t,i≤t→t<f+n→(isF g first bs t↔a≤first+t∧first+t<b):=by
   intro t h1 h2
   unfold isF
   rcases Nat.lt_or_ge t f with h3|h3
   ·rw [hon t h1 h3]
    exact ⟨fun x=>absurd x.1 (by simp),fun x=>by omega⟩
   ·rw [hoff t h3 h2]
    exact ⟨fun x=>by omega,fun x=>⟨rfl,by omega,by omega⟩⟩
  refine cd (fun hab=>?_) fun hab=>?_
  ·refine ⟨_,rdc W7.r3 rfl,?_⟩
   refine hv_mono (hD i (f+n) a b h7 j7 (by omega) (by omega) (by omega) (by omega) (by omega) iff) fun v h8 q=>?_
   obtain ⟨r,rfl,f8,q1,q2⟩:=q
   have W8:=W7.step f8 fun b e => .inl e
   have s8:=W8.size
   have on8:LoopOn h8 (h5.size+1) R .busy none:=loopOn_fr t7.on f8 (by omega)
   have t9:∀ st p,Turned (h5.size+1) R st p h8 (setLoop h8 (h5.size+1) R st p):=fun st p=>turned s8 R st p
   refine ⟨r,rfl,cnot ?_⟩
   cases r with
   | true =>
    have t9:=t9 .ready none
    refine ct rfl ⟨on8,.inl ⟨rfl,hJ _ _ _ (q1 rfl) (t9.fr.mono fun b _ e=>by show h.size≤b; omega),W8.step t9.fr fun b e => .inr e,t9.on⟩⟩
   | false =>
    have t9:=t9 .done (some .ret)
    exact cf rfl ⟨on8,.inr ⟨rfl,fin .done (some .ret) _ (.inr ⟨rfl,rfl⟩) t9.on (W8.step t9.fr fun b e => .inr e) (.inr (hE _ _ (q2 rfl) (t9.fr.mono fun b _ e=>by show h.size≤b; omega)))⟩⟩
  ·have t9:=turned s7 R .ready none
   have j':J (f+n) h7:=hskip i (f+n) h7 j7 (by omega) (by omega) fun t h1 h2 y=>by have:=(iff t h1 h2).mp y; omega
   exact ⟨t7.on,.inl ⟨rfl,hJ _ _ _ j' (t9.fr.mono fun b _ e=>by show h.size≤b; omega),W7.step t9.fr fun b e => .inr e,t9.on⟩⟩
 ·obtain ⟨j,W,o⟩:=q
  exact fin .ready none hh (.inl ⟨rfl,rfl⟩) o W (.inl (hskip i (8*l) hh j hi (Nat.le_refl _) fun t h1 h2 y=>by have:=y.1; rw [hon t h1 h2] at this; cases this))
theorem each_spec {do1:Value} {g:G} {h:Heap} {F:Nat→Prop} {t d:Option Addr} {T:TM} {K:Value→Heap→Prop} (ok:g.ok) (hbi:g.bitmap≤g.inodes)
  (J:Nat→Heap→Prop) (E:Heap→Prop) (hx:∀ k hh,J k hh→Tx hh F t d T) (hJ:∀ k hh hh',J k hh→Fr (From h.size) hh hh'→J k hh')
  (hD:∀ k hh A l c,J k hh→g.bitmap≤k→k<g.inodes→(T.read k).2=0→StrAt hh A l (T.read k).1 →
   HCallsV Tryz.prog do1 [.int .i64 (4096*(k - g.bitmap):Nat),.slice A l c] hh fun v h'=>∃ r,v = .bool r∧Fr (fun x=>x<h.size) hh h'∧(r=true→J (k+1) h')∧(r=false→E h'))
  (h0:J g.bitmap h) (hend:∀ hh,J g.inodes hh→K (.int .i64 0) hh) (hE:∀ hh,E hh→K (.int .i64 0) hh)
  (hbad:∀ k hh,J k hh→g.bitmap≤k→k<g.inodes→(T.read k).2≠0→K (.int .i64 (T.read k).2) hh):C.space_each t g.v do1 h K:=by
 have b2:=ok.m
 have b3:=ok.i
 refine space_each.ok (New.intro fun h2 n2=>⟨_,rda n2.rd rfl,?_⟩)
 have z2:=n2.size
 refine ⟨fun k hh=>∃ n:Nat,k=n∧g.bitmap≤n∧n≤g.inodes∧J n hh∧rd hh h.size=g.v∧h.size<hh.size,fun k _=>(g.inodes - k).toNat,
  ⟨g.bitmap,rfl,Nat.le_refl _,hbi,hJ _ _ _ h0 (n2.fr.mono fun _ _ x=>x.elim),n2.rd,by omega⟩,?_⟩
 rintro _ h3 ⟨k,rfl,k0,k1,j,r,s3⟩
 refine ⟨_,rda r rfl,cd (fun hk=>?_) fun hk=>?_⟩
 ·refine Read_spec (hx _ _ j) fun a l c h4 f4 hl s=>⟨_,_,_,_,rfl,?_⟩
  have j4:J k h4:=hJ _ _ _ j (f4.mono fun _ _ x=>x.elim)
  have z4:=f4.size
  have r4:rd h4 h.size=g.v:=(f4.rd s3 fun x=>x).trans r
  refine cn (fun he=>hbad k h4 j4 k0 (by omega) he) fun he=>⟨_,rda r4 rfl,?_⟩
  rw [wrap_i64 (n:=(k:Int) - g.bitmap) (by omega) (by omega),wrap_i64 (n:=4096*((k:Int) - g.bitmap)) (by omega) (by omega)]
  rw [show 4096*((k:Int) - g.bitmap)=((4096*(k - g.bitmap):Nat):Int) by omega]
  refine hv_mono (hD k h4 a l c j4 k0 (by omega) he s.str) fun v h5 q=>?_
  obtain ⟨b,rfl,f5,q1,q2⟩:=q
  refine ⟨b,rfl,cnot ?_⟩
  cases b with
  | true =>
   refine ct rfl ?_
   rw [wrap_i64 (n:=(k:Int)+1) (by omega) (by omega)]
   have z5:=f5.size
   refine ⟨⟨k+1,rfl,by omega,by omega,q1 rfl,(f5.rd (by omega) (by omega)).trans r4,by omega⟩,by show ((g.inodes:Int) - ((k:Int)+1)).toNat<((g.inodes:Int) - (k:Int)).toNat; omega⟩
  | false=>exact cf rfl (hE h5 (q2 rfl))
 ·have:k=g.inodes:=by omega
  subst this
  exact hend h3 j
end Go.Proofs.YtiapingedfnlnaaGreatDoor.Spc
namespace Go.Proofs.YtiapingedfnlnaaGreatDoor.Spc
open Go Go.Proofs Wx Hp W Ad Tm Bt Rg
def FreeAt (T:TM) (g:G) (m:Nat):Prop:=bitAt (T.read (g.at_ m)).1 (m % 4096)=false∧g.data≤m∧m<g.blocks
instance (T : TM) (g:G) (m:Nat):Decidable (FreeAt T g m):=by unfold FreeAt; exact inferInstance
theorem isF_iff {T:TM} {g:G} {k t:Nat} (hk:g.bitmap≤k) (ht:t<4096):isF g (4096*(k - g.bitmap)) (T.read k).1 t↔FreeAt T g (4096*(k - g.bitmap)+t):=by
 unfold isF FreeAt
 have e1:g.at_ (4096*(k - g.bitmap)+t)=(k:Int):=by
  unfold G.at_
  have:(4096*(k - g.bitmap)+t) / 4096=k - g.bitmap:=by omega
  rw [this]; omega
 have e2:(4096*(k - g.bitmap)+t) % 4096=t:=by omega
 rw [e1,e2]
theorem tm_eta {T:TM} {p:List (Int×Txt)} {u:List (Int×Option Txt)} (h1:p=T.put) (h2:u=T.undo):{ T with put:=p,undo:=u }=T:=by subst h1; subst h2; rfl
theorem back_id (T:TM):(T.back T.undo.length).1=T:=by
 unfold TM.back
 split
 ·rfl
 ·split
  ·rfl
  ·refine tm_eta ?_ ?_
   ·rw [show ((T.undo.length:Nat):Int).toNat=T.undo.length from rfl,List.drop_length]; rfl
   ·rw [show ((T.undo.length:Nat):Int).toNat=T.undo.length from rfl,List.take_length]
theorem back_write {T:TM} {i:Int} {bs:Txt} (e:(T.write i bs).2=0):((T.write i bs).1.back T.undo.length).1=T:=by
 obtain ⟨h1,h2,h3,h4,h5,ew⟩:=TM.write_ok e
 rw [ew]
 unfold TM.back
 show (if T.over=true then _ else if ((T.undo.length:Nat):Int)<0∨((T.undo.length:Nat):Int)>((T.undo++[(i,aget T.put i)]).length:Nat) then _ else _:TM×Int).1=T
 rw [if_neg (by rw [h1]; simp),if_neg (by rw [List.length_append]; simp only [List.length_singleton]; omega)]
 refine tm_eta (T:=T) ?_ ?_
 ·show undoAll (aput T.put i bs) ((T.undo++[(i,aget T.put i)]).drop T.undo.length)=T.put
  rw [List.drop_left]
  show undo1 (aput T.put i bs) (i,aget T.put i)=_
  unfold undo1
  cases ea:aget T.put i with
  | none=>exact adel_aput ea
  | some b=>exact aput_aput ea
 ·show (T.undo++[(i,aget T.put i)]).take T.undo.length=T.undo
  exact List.take_left
theorem rep_one (v:Value):∀ n,repCells [v] n=List.replicate n v
 | 0=>rfl
 | n+1=>by
  show [v]++repCells [v] n=_
  rw [rep_one v n]; rfl
theorem setBit_bad {T:TM} {g:G} {m:Nat} {on:Bool} (e:(setBit T g m on).2≠0):(setBit T g m on).1=T:=by
 unfold setBit at e ⊢
 split
 ·rfl
 ·rename_i h; rw [if_neg h] at e; exact TM.write_bad e
theorem setBit_good {T:TM} {g:G} {m:Nat} {on:Bool} (e:(setBit T g m on).2=0):(T.read (g.at_ m)).2=0∧setBit T g m on=T.write (g.at_ m) (putBit (T.read (g.at_ m)).1 (m % 4096) on):=by
 unfold setBit at e ⊢
 by_cases h:(T.read (g.at_ m)).2≠0
 ·rw [if_pos h] at e; exact absurd e h
 ·rw [if_neg h]; exact ⟨by omega,rfl⟩
theorem setBit_back {T:TM} {g:G} {m:Nat} {on:Bool} (e:(setBit T g m on).2=0):((setBit T g m on).1.back T.undo.length).1=T:=by
 obtain ⟨h1,h2⟩:=setBit_good e
 rw [h2] at e ⊢
 exact back_write e
theorem setBit_undo (T:TM) (g:G) (m:Nat) (on:Bool):(setBit T g m on).1.undo.length≤T.undo.length+1:=by
 by_cases e:(setBit T g m on).2=0
 ·obtain ⟨h1,h2⟩:=setBit_good e
  rw [h2] at e ⊢
  obtain ⟨_,_,_,_,_,ew⟩:=TM.write_ok e
  rw [ew]
  show (T.undo++[_]).length≤_
  rw [List.length_append]; exact Nat.le_refl _
 ·rw [setBit_bad e]; omega
theorem rep_zeros : repCells [.int .u8 0] (Int.toNat 512)=(List.replicate 512 (0:UInt8)).map bv:=by
 rw [List.map_replicate]
 show repCells [.int .u8 0] 512=List.replicate 512 (.int .u8 0)
 exact rep_one _ 512
def zeros512 : Txt:=List.replicate 512 0
def takeAt (T:TM) (g:G) (m:Nat):TM×Int×Int :=
 if (setBit T g m true).2≠0 then (T,0,(setBit T g m true).2) else
 if ((setBit T g m true).1.write m zeros512).2≠0 then (T,0,((setBit T g m true).1.write m zeros512).2) else
  (((setBit T g m true).1.write m zeros512).1,m,0)
structure Tk (n:Nat) (h:Heap) (t:Option Addr) (g:G) (x:Int) (hh:Heap):Prop where
 f:Fr No h hh
 e:n=h.size
 size:n+4≤hh.size
 r1:rd hh n=[.pointer t]
 r2:rd hh (n+1)=g.v
 o3:Own hh (n+2)
 r3:rd hh (n+2)=[.int .i64 0]
 o4:Own hh (n+3)
 r4:rd hh (n+3)=[.int .i64 x]
theorem Tk.step {n:Nat} {h hh hh':Heap} {t:Option Addr} {g:G} {x:Int} {F:Nat→Prop} (a:Tk n h t g x hh) (f:Fr F hh hh') (hF:∀ b,F b→n+4≤b):Tk n h t g x hh':=by
 have z:=f.size
 have s:=a.size
 have e:=a.e
 have k:∀ b,b<n+4→¬ F b:=fun b hb y=>by have:=hF b y; omega
 exact ⟨a.f.trans f fun b hb y=>(k b (by omega) y).elim,e,by omega,(f.rd (by omega) (k _ (by omega))).trans a.r1,(f.rd (by omega) (k _ (by omega))).trans a.r2,
  f.own a.o3.lt (k _ (by omega)) a.o3,(f.rd (by omega) (k _ (by omega))).trans a.r3,f.own a.o4.lt (k _ (by omega)) a.o4,(f.rd (by omega) (k _ (by omega))).trans a.r4⟩
theorem Tk.put {n:Nat} {h hh hh':Heap} {t:Option Addr} {g:G} {x y:Int} (a:Tk n h t g x hh) (d:Did (n+3) hh hh' ((rd hh (n+3)).set 0 (.int .i64 y))):Tk n h t g y hh':=by
 have s:=a.size
 have e:=a.e
 exact ⟨a.f.did d fun hb=>by omega,e,by rw [d.size]; exact s,(d.at_ (by omega) (by omega)).trans a.r1,(d.at_ (by omega) (by omega)).trans a.r2,d.ow a.o3,(d.at_ (by omega) (by omega)).trans a.r3,d.own,by rw [d.rd,a.r4]; rfl⟩
structure Tq (n q:Nat) (t:Option Addr) (g:G) (x mk:Int) (hh:Heap):Prop where
 lt:n+4≤q∧q<hh.size
 r1:rd hh n=[.pointer t]
 r2:rd hh (n+1)=g.v
 o3:Own hh (n+2)
 l3:(rd hh (n+2)).length=1
 r4:rd hh (n+3)=[.int .i64 x]
 r5:rd hh q=[.int .i64 mk]
theorem Tq.step {n q:Nat} {hh hh':Heap} {t:Option Addr} {g:G} {x mk:Int} {F:Nat→Prop} (a:Tq n q t g x mk hh) (f:Fr F hh hh') (hF:∀ b,F b→n≤b→b≤q→False):Tq n q t g x mk hh':=by
 have z:=f.size
 have s:=a.lt
 have k:∀ b,n≤b→b≤q→¬ F b:=fun b h1 h2 y=>hF b y h1 h2
 exact ⟨by omega,(f.rd (by omega) (k _ (by omega) (by omega))).trans a.r1,(f.rd (by omega) (k _ (by omega) (by omega))).trans a.r2,f.own a.o3.lt (k _ (by omega) (by omega)) a.o3,by rw [f.rd (by omega) (k _ (by omega) (by omega))]; exact a.l3,
  (f.rd (by omega) (k _ (by omega) (by omega))).trans a.r4,(f.rd (by omega) (k _ (by omega) (by omega))).trans a.r5⟩
theorem Tq.put {n q:Nat} {hh hh':Heap} {t:Option Addr} {g:G} {x mk:Int} {v:Value} (a:Tq n q t g x mk hh) (d:Did (n+2) hh hh' ((rd hh (n+2)).set 0 v)):Tq n q t g x mk hh'∧rd hh' (n+2)=[v]:=by
 have s:=a.lt
 have l3:=a.l3
 have e:rd hh' (n+2)=[v]:=by
  rw [d.rd]
  match rd hh (n+2),l3 with
  | [_],_=>rfl
 exact ⟨⟨by rw [d.size]; exact s,(d.at_ (by omega) (by omega)).trans a.r1,(d.at_ (by omega) (by omega)).trans a.r2,d.own,by rw [e]; rfl,(d.at_ (by omega) (by omega)).trans a.r4,(d.at_ (by omega) (by omega)).trans a.r5⟩,e⟩
theorem Take_spec {h:Heap} {F:Nat→Prop} {t d:Option Addr} {T:TM} {g:G} {K:Value→Heap→Prop} (x:Tx h F t d T) (ok:g.ok) (hbi:g.bitmap≤g.inodes) (hd0:0<g.data) (hu:T.undo.length<900000000)
  (hbad:∀ k:Nat,g.bitmap≤k→k<g.inodes→(∀ m,m<4096*(k - g.bitmap)→¬ FreeAt T g m)→(T.read k).2≠0→∀ h',Fr No h h'→K (.tuple #[.int .i64 0,.int .i64 (T.read k).2]) h')
  (hfull:(∀ m,m<4096*(g.inodes - g.bitmap)→¬ FreeAt T g m)→∀ h',Fr No h h'→K (.tuple #[.int .i64 0,.int .i64 90]) h')
  (hgot:∀ m,m<4096*(g.inodes - g.bitmap)→FreeAt T g m→(∀ m',m'<m→¬ FreeAt T g m')→(T.read (g.at_ m)).2=0→∀ h' F',Fr F h h'→Gw h F h' F'→Tx h' F' t d (takeAt T g m).1 →
   K (.tuple #[.int .i64 (takeAt T g m).2.1,.int .i64 (takeAt T g m).2.2]) h'):C.space_Take t g.v h K:=by
 refine space_Take.ok (New.intro fun h2 n2=>New.intro fun h3 n3=>New.intro fun h4 n4=>New.intro fun h5 n5=>?_)
 have z2:=n2.size
 have z3:=n3.size
 have z4:=n4.size
 have z5:=n5.size
 have e2:h2.size=h.size+1:=z2
 have e3:h3.size=h.size+2:=by omega
 have e4:h4.size=h.size+3:=by omega
 have b2:=ok.m
 have b3:=ok.i
 refine Put.intro n5.own (by rw [n5.rd]; exact Nat.one_pos) fun h6 d6=>?_
 have z6:=d6.size
 have k6:Tk h.size h t g 0 h6:=by
  have r4:=d6.rd
  have o4:=d6.own
  rw [n5.rd] at r4
  rw [e4] at r4 o4
  have r3:=n4.rd
  have o3:=n4.own
  rw [e3] at r3 o3
  have r2:=n3.rd
  rw [e2] at r2
  refine ⟨(((n2.fr.new n3).new n4).new n5).did d6 fun hb=>by omega,rfl,by omega,?_,?_,d6.ow (n5.ow o3),?_,o4,r4⟩
  ·exact (d6.at_ (by omega) (by omega)).trans ((n5.at_ (by omega)).trans ((n4.at_ (by omega)).trans ((n3.at_ (by omega)).trans n2.rd)))
  ·exact (d6.at_ (by omega) (by omega)).trans ((n5.at_ (by omega)).trans ((n4.at_ (by omega)).trans r2))
  ·exact (d6.at_ (by omega) (by omega)).trans ((n5.at_ (by omega)).trans r3)
 rw [e2,e3,e4]
 refine ⟨_,rdc k6.r1 rfl,g.v,rfl,cellsAll k6.r2,?_⟩
 -- e is put
 have pe:∀ {hh:Heap} {y v:Int} {k:Heap→Prop},Tk h.size h t g y hh→(∀ h8,h8.size=hh.size→Fr No h h8→rd h8 (h.size+2)=[.int .i64 v]→Own h8 (h.size+2)→rd h8 h.size=[.pointer t]→rd h8 (h.size+1)=g.v→rd h8 (h.size+3)=[.int .i64 y]→k h8)→Put ⟨h.size+2,0,none⟩ (.int .i64 v) hh k:=by
  intro hh y v k a H
  have s:=a.size
  refine Put.intro a.o3 (by rw [a.r3]; exact Nat.one_pos) fun h8 d8=>?_
  exact H h8 d8.size (a.f.did d8 fun hb=>by omega) (by rw [d8.rd,a.r3]; rfl) d8.own ((d8.at_ (by omega) (by omega)).trans a.r1) ((d8.at_ (by omega) (by omega)).trans a.r2) ((d8.at_ (by omega) (by omega)).trans a.r4)
 refine each_spec (T:=T) (F:=F) (d:=d) ok hbi (fun k hh=>Tk h.size h t g 0 hh∧∀ m,m<4096*(k - g.bitmap)→¬ FreeAt T g m)
  (fun hh=>∃ m:Nat,Tk h.size h t g m hh∧m<4096*(g.inodes - g.bitmap)∧FreeAt T g m∧(∀ m',m'<m→¬ FreeAt T g m')∧(T.read (g.at_ m)).2=0)
  (fun k hh j=>x.no j.1.f) (fun k hh hh' j f=>⟨j.1.step f fun b hb=>by have hb:h6.size≤b:=hb; omega,j.2⟩) (fun k hh A l c j hk0 hk1 he B=>?_) ⟨k6,fun m hm=>by omega⟩ (fun hh j=>?_) (fun hh j=>?_) fun k hh j hk0 hk1 he=>?_
 ·have hlen:=Tx.readLen x he
  have hl:l=512:=by rw [← B.1]; exact hlen
  subst hl
  obtain ⟨j,jn⟩:=j
  have sz:=j.size
  show C.space_Take_c1 _ A 512 c (some ⟨h.size+1,0,none⟩) (some ⟨h.size+3,0,none⟩) hh _
  refine space_Take_c1.ok (os ⟨g.v,rfl,cellsAll j.r2,?_⟩)
  refine rows_spec B (by omega) (by omega) ok (by omega) rfl (fun i hx=>Tk h.size h t g 0 hx∧Fr (fun b=>b=h.size+3) hh hx∧∀ m,m<4096*(k - g.bitmap)+i→¬ FreeAt T g m)
   (fun hx=>∃ m:Nat,Tk h.size h t g m hx∧Fr (fun b=>b=h.size+3) hh hx∧m<4096*(k - g.bitmap)+4096∧4096*(k - g.bitmap)≤m∧FreeAt T g m∧∀ m',m'<m→¬ FreeAt T g m')
   (fun i hx hx' q f=>⟨q.1.step f fun b hb=>by have hb:hh.size≤b:=hb; omega,q.2.1.trans f fun b hb y=>by have y:hh.size≤b:=y; omega,q.2.2⟩)
   (fun hx hx' q f=>?_) (fun i j' hx q h1 h2 h3=>⟨q.1,q.2.1,fun m hm z=>?_⟩) (fun i j' a b hx q h1 h2 h3 h4 h5 h7=>?_) ⟨j,Fr.refl _ _,fun m hm=>jn m (by omega)⟩ fun hx q=>⟨rfl,os ?_⟩
  ·obtain ⟨m,q1,q2,q3⟩:=q
   exact ⟨m,q1.step f fun b hb=>by have hb:hh.size≤b:=hb; omega,q2.trans f fun b hb y=>by have y:hh.size≤b:=y; omega,q3⟩
  ·rcases Nat.lt_or_ge m (4096*(k - g.bitmap)+i) with hm2|hm2
   ·exact q.2.2 m hm2 z
   ·refine h3 (m - 4096*(k - g.bitmap)) (by omega) (by omega) ((isF_iff hk0 (by omega)).mpr ?_)
    rw [show 4096*(k - g.bitmap)+(m - 4096*(k - g.bitmap))=m by omega]; exact z
  ·show C.space_Take_c1_c1 _ _ (some ⟨h.size+3,0,none⟩) hx _
   have fr:∀ m,4096*(k - g.bitmap)+i≤m→m<4096*(k - g.bitmap)+j'→(FreeAt T g m↔a≤m∧m<b):=fun m x y=>by
    have:=h7 (m - 4096*(k - g.bitmap)) (by omega) (by omega)
    rw [isF_iff hk0 (by omega),show 4096*(k - g.bitmap)+(m - 4096*(k - g.bitmap))=m by omega] at this
    exact this
   refine space_Take_c1_c1.ok (os (Put.intro q.1.o4 (by rw [q.1.r4]; exact Nat.one_pos) fun h8 d8=>⟨false,rfl,d8.fr.mono fun b _ e=>by show b<hh.size; omega,fun e=>(by cases e),fun _=>⟨a,q.1.put d8,q.2.1.trans d8.fr fun _ _ e=>e,by omega,by omega,(fr a (by omega) (by omega)).mpr ⟨Nat.le_refl _,by omega⟩,fun m' hm' z=>?_⟩⟩))
   rcases Nat.lt_or_ge m' (4096*(k - g.bitmap)+i) with hm2|hm2
   ·exact q.2.2 m' hm2 z
   ·have:=(fr m' hm2 (by omega)).mp z; omega
  ·rcases q with q|⟨m,q1,q2,q3,q4,q5,q6⟩
   ·refine ⟨_,rdc q.1.r4 rfl,true,rfl,q.2.1.mono fun b _ e=>by show b<h6.size; omega,fun _=>⟨q.1,fun m hm=>q.2.2 m (by omega)⟩,fun e=>by cases e⟩
   ·have hm0:0<m:=by have:=q5.2.1; omega
    refine ⟨_,rdc q1.r4 rfl,false,?_,q2.mono fun b _ e=>by show b<h6.size; omega,fun e=>(by cases e),fun _=>⟨m,q1,by omega,q5,q6,?_⟩⟩
    ·have:((m:Int) == 0)=false:=beq_eq_false_iff_ne.mpr (by omega)
     rw [this]
    ·have e:g.at_ m=(k:Int):=by
      unfold G.at_
      have:m / 4096=k - g.bitmap:=by omega
      rw [this]; omega
     rw [e]; exact he
 ·-- all are taken
  obtain ⟨j,jn⟩:=j
  refine ⟨_,rfl,pe j fun h8 z8 f8 r3 o3 r1 r2 r4=>⟨_,rdc r3 rfl,cf rfl ⟨_,rdc r4 rfl,ct rfl ?_⟩⟩⟩
  refine Put.intro o3 (by rw [r3]; exact Nat.one_pos) fun h9 d9=>⟨90,rdc (xs:=[.int .i64 90]) (by rw [d9.rd,r3]; rfl) rfl,hfull jn h9 (f8.did d9 fun hb=>by omega)⟩
 ·-- m is the lowest
  obtain ⟨m,j,jm,jf,jl,jr⟩:=j
  have hm0:0<m:=by have:=jf.2.1; omega
  have sz:=j.size
  have live:=TM.read_ok_over jr
  have emark:T.mark=((T.undo.length:Int),0):=by unfold TM.mark; rw [live,if_neg (by simp)]
  refine ⟨_,rfl,pe j fun h8 z8 f8 r3 o3 r1 r2 r4=>⟨_,rdc r3 rfl,cf rfl ⟨_,rdc r4 rfl,cf (beq_eq_false_iff_ne.mpr (by omega)) ⟨_,rdc r1 rfl,Mark_spec (x.no f8) ⟨_,_,rfl,?_⟩⟩⟩⟩⟩
  rw [emark]
  refine New.intro fun h12 n12=>?_
  have z12:=n12.size
  refine Put.intro n12.own (by rw [n12.rd]; exact Nat.one_pos) fun h13 d13=>?_
  have z13:=d13.size
  have q13:Tq h.size h8.size t g m T.undo.length h13:=by
   refine ⟨by omega,(d13.at_ (by omega) (by omega)).trans ((n12.at_ (by omega)).trans r1),(d13.at_ (by omega) (by omega)).trans ((n12.at_ (by omega)).trans r2),d13.ow (n12.ow o3),?_,(d13.at_ (by omega) (by omega)).trans ((n12.at_ (by omega)).trans r4),by rw [d13.rd,n12.rd]; rfl⟩
   rw [d13.at_ (by omega) (by omega),n12.at_ (by omega),r3]; rfl
  have f13:Fr No h h13:=(f8.new n12).did d13 fun hb=>by omega
  refine Put.intro q13.o3 (by rw [q13.l3]; exact Nat.one_pos) fun h14 d14=>?_
  obtain ⟨q14,r14⟩:=q13.put d14
  have z14:=d14.size
  have f14:Fr No h h14:=f13.did d14 fun hb=>by omega
  refine ⟨0,rdc r14 rfl,cf rfl ⟨_,rdc q14.r1 rfl,g.v,rfl,cellsAll q14.r2,_,rdc q14.r4 rfl,?_⟩⟩
  have mb:=jf.2.2
  -- refused: it goes back
  have refuse:∀ (hs:Heap) (Fs:Nat→Prop) (Ts:TM) (e:Int) (k':Heap→Prop),e≠0→Fr F h hs→Gw h F hs Fs→Tx hs Fs t d Ts→Ts.undo.length<1000000000→(Ts.back T.undo.length).1=T→(∀ b,h.size≤b→b≤h8.size→¬ Fs b)→Tq h.size h8.size t g m T.undo.length hs→rd hs (h.size+2)=[.int .i64 e] →
    (∀ h19 F',Fr F h h19→Gw h F h19 F'→Tx h19 F' t d T→rd h19 (h.size+2)=[.int .i64 e]→k' h19)→D.space_Take_c2 (some ⟨h.size,0,none⟩) (some ⟨h8.size,0,none⟩) (some ⟨h.size+2,0,none⟩) hs k':=by
   intro hs Fs Ts e k' he fs gs xs us eb nq qs rs H
   refine space_Take_c2.okD (os ⟨_,rdc qs.r1 rfl,os ⟨_,rdc qs.r5 rfl,space_back.ok (os ⟨_,rdc rs rfl,cn (fun _=>?_) fun e0=>absurd e0 he⟩)⟩⟩)
   refine Back_spec xs us fun h19 f19 x19=>⟨_,rfl,rfl,?_⟩
   rw [eb] at x19
   have lq:=qs.lt
   have nF:¬ Fs (h.size+2):=nq _ (by omega) (by omega)
   exact H h19 Fs (fs.trans f19 fun b hb y=>(gs.old b hb).mp y) ⟨gs.old,fun b hb=>Nat.lt_of_lt_of_le (gs.lt b hb) f19.size⟩ x19 ((f19.rd (by omega) nF).trans rs)
  refine set_spec (x.no f14) ok (by omega) (by omega) (by omega) fun h16 F6 f6 g6 x6=>⟨_,rfl,?_⟩
  have x6:Tx h16 F6 t d (setBit T g m true).1:=x6
  have em:((m:Nat):Int).toNat=m:=rfl
  rw [em]
  have z16:=f6.size
  have nq6:∀ b,h.size≤b→b≤h8.size→¬ F6 b:=fun b h1 h2 y=>by
   have:=x.lt ((g6.old b (by omega)).mp y)
   omega
  have nF6:∀ b,F b→h.size≤b→b≤h8.size→False:=fun b y h1 h2=>by have:=x.lt y; omega
  have q16:Tq h.size h8.size t g m T.undo.length h16:=q14.step f6 nF6
  have g16:Gw h F h16 F6:=(Gw.refl f14.size fun b hb=>x.lt hb).trans g6 f14.size
  have f16:Fr F h h16:=(f14.mono fun _ _ y=>y.elim).trans f6 fun _ _ y=>y
  refine Put.intro q16.o3 (by rw [q16.l3]; exact Nat.one_pos) fun h17 d17=>?_
  obtain ⟨q17,r17⟩:=q16.put d17
  have z17:=d17.size
  have x17:Tx h17 F6 t d (setBit T g m true).1:=x6.fr d17.fr fun b hb e=>nq6 b (by omega) (by omega) hb
  have f17:Fr F h h17:=f16.did d17 fun hb=>by omega
  have g17:Gw h F h17 F6:=⟨g16.old,fun b hb=>by rw [z17]; exact g16.lt b hb⟩
  have u17:(setBit T g m true).1.undo.length≤T.undo.length+1:=setBit_undo T g m true
  refine ⟨_,rdc r17 rfl,cn (fun he=>?_) fun he=>?_⟩
  ·refine ⟨_,rdc r17 rfl,Put.intro q17.o3 (by rw [q17.l3]; exact Nat.one_pos) fun h18 d18=>?_⟩
   obtain ⟨q18,r18⟩:=q17.put d18
   have z18:=d18.size
   have et:takeAt T g m=(T,0,(setBit T g m true).2):=by unfold takeAt; rw [if_pos he]
   have hgot:=hgot m jm jf jl jr
   rw [et] at hgot
   refine refuse h18 F6 (setBit T g m true).1 _ _ he (f17.did d18 fun hb=>by omega) ⟨g17.old,fun b hb=>by rw [z18]; exact g17.lt b hb⟩ (x17.fr d18.fr fun b hb e=>nq6 b (by omega) (by omega) hb) (by omega) (by rw [setBit_bad he]; exact back_id T) nq6 q18 r18 fun h19 F' f19 g19 x19 r19=>⟨_,rdc r19 rfl,hgot h19 F' f19 g19 x19⟩
  ·refine ⟨_,rdc q17.r1 rfl,_,rdc q17.r4 rfl,by decide,New.intro fun h20 n20=>⟨rdc ((n20.at_ (by omega)).trans q17.r1) rfl,rdc ((n20.at_ (by omega)).trans q17.r4) rfl,?_⟩⟩
   have z20:=n20.size
   have B20:StrAt h20 (some ⟨h17.size,0,none⟩) 512 zeros512:=strAll (by rw [n20.rd]; exact rep_zeros) List.length_replicate
   have ua:(setBit T g m true).1.undo.length<1000000000:=by omega
   refine Tm.Write_spec (x17.no n20.fr) B20 (by decide) (fun p ep y=>?_) ua fun h21 F7 f21 g21 x21=>⟨_,rfl,?_⟩
   ·cases ep
    have:=x17.lt y
    have y:F6 h17.size:=y
    have:=g17.lt _ y
    omega
   have z21:=f21.size
   have q20:Tq h.size h8.size t g m T.undo.length h20:=q17.step n20.fr fun _ y=>y.elim
   have q21:Tq h.size h8.size t g m T.undo.length h21:=q20.step f21 fun b y h1 h2=>nq6 b h1 h2 y
   have f20:Fr F h h20:=f17.new n20
   have f21':Fr F h h21:=f20.trans f21 fun b hb y=>(g17.old b hb).mp y
   have g20:Gw h F h20 F6:=⟨g17.old,fun b hb=>by have:=g17.lt b hb; omega⟩
   have g21':Gw h F h21 F7:=g20.trans g21 f20.size
   have nq7:∀ b,h.size≤b→b≤h8.size→¬ F7 b:=fun b h1 h2 y=>nq6 b h1 h2 ((g21.old b (by omega)).mp y)
   refine Put.intro q21.o3 (by rw [q21.l3]; exact Nat.one_pos) fun h22 d22=>?_
   obtain ⟨q22,r22⟩:=q21.put d22
   have z22:=d22.size
   have x22:Tx h22 F7 t d ((setBit T g m true).1.write m zeros512).1:=x21.fr d22.fr fun b hb e=>nq7 b (by omega) (by omega) hb
   have f22:Fr F h h22:=f21'.did d22 fun hb=>by omega
   have g22:Gw h F h22 F7:=⟨g21'.old,fun b hb=>by rw [z22]; exact g21'.lt b hb⟩
   have hgot:=hgot m jm jf jl jr
   refine ⟨_,rdc r22 rfl,cn (fun hw=>?_) fun hw=>?_⟩
   ·refine ⟨_,rdc r22 rfl,Put.intro q22.o3 (by rw [q22.l3]; exact Nat.one_pos) fun h23 d23=>?_⟩
    obtain ⟨q23,r23⟩:=q22.put d23
    have z23:=d23.size
    have et:takeAt T g m=(T,0,((setBit T g m true).1.write m zeros512).2):=by unfold takeAt; rw [if_neg (by rw [he]; simp),if_pos hw]
    rw [et] at hgot
    have x23:=x22.fr d23.fr fun b hb e=>nq7 b (by omega) (by omega) hb
    rw [TM.write_bad hw] at x23
    refine refuse h23 F7 (setBit T g m true).1 _ _ hw (f22.did d23 fun hb=>by omega) ⟨g22.old,fun b hb=>by rw [z23]; exact g22.lt b hb⟩ x23 ua (setBit_back he) nq7 q23 r23 fun h24 F' f24 g24 x24 r24=>⟨_,rdc r24 rfl,hgot h24 F' f24 g24 x24⟩
   ·have et:takeAt T g m=(((setBit T g m true).1.write m zeros512).1,(m:Int),0):=by unfold takeAt; rw [if_neg (by rw [he]; simp),if_neg (by rw [hw]; simp)]
    rw [et] at hgot
    refine ⟨_,rdc q22.r4 rfl,Put.intro q22.o3 (by rw [q22.l3]; exact Nat.one_pos) fun h25 d25=>?_⟩
    obtain ⟨q25,r25⟩:=q22.put d25
    have z25:=d25.size
    have x25:=x22.fr d25.fr fun b hb e=>nq7 b (by omega) (by omega) hb
    refine space_Take_c2.okD (os ⟨_,rdc q25.r1 rfl,os ⟨_,rdc q25.r5 rfl,space_back.ok (os ⟨_,rdc r25 rfl,cf rfl ⟨rfl,0,rdc r25 rfl,?_⟩⟩)⟩⟩)
    exact hgot h25 F7 (f22.did d25 fun hb=>by omega) ⟨g22.old,fun b hb=>by rw [z25]; exact g22.lt b hb⟩ x25
 ·obtain ⟨j,jn⟩:=j
  refine ⟨_,rfl,pe j fun h8 z8 f8 r3 o3 r1 r2 r4=>⟨_,rdc r3 rfl,cn (fun _=>⟨_,rdc r3 rfl,?_⟩) fun e=>absurd e he⟩⟩
  refine Put.intro o3 (by rw [r3]; exact Nat.one_pos) fun h9 d9=>⟨_,rdc (xs:=[.int .i64 (T.read k).2]) (by rw [d9.rd,r3]; rfl) rfl,hbad k hk0 hk1 jn he h9 (f8.did d9 fun hb=>by omega)⟩
end Go.Proofs.YtiapingedfnlnaaGreatDoor.Spc
namespace Go.Proofs.YtiapingedfnlnaaGreatDoor.Spc
open Go Go.Proofs Wx Hp W Ad Tm Bt Rg
def geoN (n:Nat):G:=⟨n,98,98+(n+4095) / 4096,98+(n+4095) / 4096+n / 64,8*(n / 64)⟩
theorem geoN_ok {n:Nat} (h:n≤16384):(geoN n).ok:=by
 refine ⟨?_,?_,?_,?_⟩
 ·show n≤_; omega
 ·show 98≤_; omega
 ·show 98+(n+4095) / 4096≤_; omega
 ·show 98+(n+4095) / 4096+n / 64≤_; omega
theorem G.one (g:G):∀ v ∈ g.v,v.oneCell'=true:=by
 intro v hv
 simp only [G.v,List.mem_cons,List.not_mem_nil,or_false] at hv
 rcases hv with rfl|rfl|rfl|rfl|rfl <;> rfl
theorem Geo_spec {n:Nat} {h:Heap} {K:Value→Heap→Prop} (hn:n≤1099511627776) (hK:∀ h',Fr No h h'→K (.agg ⟨(geoN n).v⟩) h'):C.boleref09_Geo n h K:=by
 refine boleref09_Geo.ok ?_
 unfold boleref09_Geo
 have e1:Int.tdiv ((n:Int)+4096 - 1) 4096=(((n+4095) / 4096:Nat):Int):=by
  rw [show (n:Int)+4096 - 1=((n+4095:Nat):Int) by omega]; rfl
 have e2:Int.tdiv (n:Int) 64=((n / 64:Nat):Int):=rfl
 rw [wrap_i64 (n:=(n:Int)+4096) (by omega) (by omega),wrap_i64 (n:=(n:Int)+4096 - 1) (by omega) (by omega),e1,e2,wrap_i64 (n:=(((n+4095) / 4096:Nat):Int)) (by omega) (by omega),
  wrap_i64 (n:=98+(((n+4095) / 4096:Nat):Int)) (by omega) (by omega),wrap_i64 (n:=((n / 64:Nat):Int)) (by omega) (by omega),wrap_i64 (n:=98+(((n+4095) / 4096:Nat):Int)+((n / 64:Nat):Int)) (by omega) (by omega),wrap_i64 (n:=8*((n / 64:Nat):Int)) (by omega) (by omega)]
 rw [show (98:Int)+(((n+4095) / 4096:Nat):Int)=((98+(n+4095) / 4096:Nat):Int) by omega,show ((98+(n+4095) / 4096:Nat):Int)+((n / 64:Nat):Int)=((98+(n+4095) / 4096+n / 64:Nat):Int) by omega,show 8*((n / 64:Nat):Int)=((8*(n / 64):Nat):Int) by omega]
 exact NewRow.intro (cs:=(geoN n).v) rfl (G.one _) rfl fun h3 n3=>⟨(geoN n).v,rfl,cellsAll n3.rd,hK h3 n3.fr⟩
structure Ext (T T':TM):Prop where
 disk:T'.disk=T.disk
 over:T'.over=T.over
 undo:∃ us,T'.undo=T.undo++us∧undoAll T'.put us=T.put
theorem Ext.refl (T:TM):Ext T T:=⟨rfl,rfl,[],(List.append_nil _).symm,rfl⟩
theorem Ext.write {T T':TM} (e:Ext T T') (i:Int) (bs:Txt):Ext T (T'.write i bs).1:=by
 by_cases h:(T'.write i bs).2=0
 ·obtain ⟨h1,h2,h3,h4,h5,ew⟩:=TM.write_ok h
  obtain ⟨us,e1,e2⟩:=e.undo
  rw [ew]
  refine ⟨e.disk,e.over,us++[(i,aget T'.put i)],?_,?_⟩
  ·show T'.undo++[_]=_
   rw [e1,List.append_assoc]
  ·show undoAll (aput T'.put i bs) (us++[(i,aget T'.put i)])=T.put
   unfold undoAll
   rw [List.foldr_append]
   have:List.foldr (fun u m=>undo1 m u) (aput T'.put i bs) [(i,aget T'.put i)]=T'.put:=by
    show undo1 (aput T'.put i bs) (i,aget T'.put i)=_
    unfold undo1
    cases ea:aget T'.put i with
    | none=>exact adel_aput ea
    | some b=>exact aput_aput ea
   rw [this]; exact e2
 ·rw [TM.write_bad h]; exact e
theorem Ext.back {T T':TM} (e:Ext T T') (h:T.over=false):T'.back T.undo.length=(T,0):=by
 obtain ⟨us,e1,e2⟩:=e.undo
 have ho:T'.over=false:=e.over.trans h
 unfold TM.back
 rw [if_neg (by rw [ho]; simp),if_neg (by rw [e1,List.length_append]; omega)]
 have et:((T.undo.length:Nat):Int).toNat=T.undo.length:=rfl
 rw [et,e1,List.drop_left,List.take_left,e2]
 have hd:=e.disk
 have hv:=e.over
 cases T; cases T'; simp_all
theorem setBit_ext {T T':TM} (e:Ext T T') (g:G) (i:Nat) (on:Bool):Ext T (setBit T' g i on).1:=by
 unfold setBit
 split
 ·exact e
 ·exact e.write _ _
theorem takeAt_ext {T T':TM} (e:Ext T T') (g:G) (m:Nat):Ext T (takeAt T' g m).1:=by
 unfold takeAt
 split
 ·exact e
 ·split
  ·exact e
  ·exact (setBit_ext e g m true).write _ _
end Go.Proofs.YtiapingedfnlnaaGreatDoor.Spc
namespace Go.Proofs.YtiapingedfnlnaaGreatDoor.Av
open Go Go.Proofs Wx Hp W Ad Tm Bt Spc
def up {α:Type} (Z:Nat→α) (i:Nat) (b:α):Nat→α:=fun j=>if j=i then b else Z j
theorem up_at {α:Type} (Z:Nat→α) (i:Nat) (b:α):up Z i b i=b:=if_pos rfl
theorem up_ne {α:Type} (Z:Nat→α) {i j:Nat} (b:α) (h:j≠i):up Z i b j=Z j:=if_neg h
def ks (T:TM):List Int:=T.put.map (·.1)
structure Av (n:Nat) (Z:Nat→Txt) (T:TM):Prop where
 live:T.over=false
 N:T.N=n
 z:∀ k:Nat,k<n→T.read k=(Z k,0)
 len:∀ k:Nat,k<n→(Z k).length=512
 keys:(ks T).Nodup
 rng:∀ x ∈ ks T,98≤x∧x<n
theorem Av.write_full {n:Nat} {Z:Nat→Txt} {T:TM} (a:Av n Z T) {i:Nat} {bs:Txt} (h1:98≤i) (h2:i<n) (h3:bs.length=512):(T.write i bs).2=0∨(T.write i bs=(T,60)∧96≤(ks T).length∧(i:Int) ∉ ks T):=by
 by_cases h:aget T.put i=none∧T.put.length≥96
 ·right
  refine ⟨?_,by unfold ks; rw [List.length_map]; exact h.2,fun hm=>?_⟩
  ·unfold TM.write
   rw [if_neg (by rw [a.live]; simp),if_neg (by rw [a.N]; omega),if_neg (fun y=>y h3),if_pos h]
  ·obtain ⟨p,hp,e⟩:=List.mem_map.mp hm
   exact aget_none.mp h.1 p hp e
 ·left
  rw [TM.write_get a.live (by omega) (by rw [a.N]; omega) h3 h]
theorem write_keys {T:TM} {i:Int} {bs:Txt} (e:(T.write i bs).2=0) (x:Int):x ∈ ks (T.write i bs).1↔x ∈ ks T∨x=i:=by
 obtain ⟨_,_,_,_,_,ew⟩:=TM.write_ok e
 have ek:ks (T.write i bs).1=if aget T.put i=none then ks T++[i] else ks T:=by rw [ew]; exact aput_keys ..
 rw [ek]
 split
 ·rw [List.mem_append,List.mem_singleton]
 ·rename_i hno
  refine ⟨.inl,fun h=>?_⟩
  rcases h with h|rfl
  ·exact h
  ·cases eg:aget T.put x with
   | none=>exact absurd eg hno
   | some b=>exact List.mem_map.mpr ⟨_,aget_mem eg,rfl⟩
theorem write_len {T:TM} {i:Int} {bs:Txt} (e:(T.write i bs).2=0):(ks (T.write i bs).1).length≤(ks T).length+1∧((ks (T.write i bs).1).length≤96∨(ks (T.write i bs).1).length≤(ks T).length):=by
 obtain ⟨_,_,_,_,h5,ew⟩:=TM.write_ok e
 have ek:ks (T.write i bs).1=if aget T.put i=none then ks T++[i] else ks T:=by rw [ew]; exact aput_keys ..
 rw [ek]
 have el:(ks T).length=T.put.length:=List.length_map ..
 split
 ·rename_i hno
  rw [List.length_append,List.length_singleton]
  refine ⟨Nat.le_refl _,.inl ?_⟩
  rw [el]
  rcases Nat.lt_or_ge T.put.length 96 with h|h
  ·omega
  ·exact absurd ⟨hno,h⟩ h5
 ·exact ⟨Nat.le_add_right _ _,.inr (Nat.le_refl _)⟩
theorem write_nodup {T:TM} {i:Int} {bs:Txt} (e:(T.write i bs).2=0) (h:(ks T).Nodup):(ks (T.write i bs).1).Nodup:=by
 obtain ⟨_,_,_,_,_,ew⟩:=TM.write_ok e
 have ek:ks (T.write i bs).1=if aget T.put i=none then ks T++[i] else ks T:=by rw [ew]; exact aput_keys ..
 rw [ek]
 split
 ·rename_i hno
  rw [List.nodup_append]
  refine ⟨h,by simp,fun x hx y hy e=>?_⟩
  rw [List.mem_singleton.mp hy] at e
  subst e
  obtain ⟨p,hp,e⟩:=List.mem_map.mp hx
  exact aget_none.mp hno p hp e
 ·exact h
theorem Av.write {n:Nat} {Z:Nat→Txt} {T:TM} (a:Av n Z T) {i:Nat} {bs:Txt} (h1:98≤i) (h2:i<n) (h3:bs.length=512) (e:(T.write i bs).2=0):Av n (up Z i bs) (T.write i bs).1:=by
 have hr:=TM.read_write e
 have hk:=write_keys e
 have hd:=write_nodup e a.keys
 obtain ⟨_,_,_,_,_,ew⟩:=TM.write_ok e
 refine ⟨by rw [ew]; exact a.live,by rw [ew]; exact a.N,fun k hkn=>?_,fun k hkn=>?_,hd,fun x hx=>?_⟩
 ·rw [hr]
  by_cases hki:k=i
  ·rw [if_pos (by omega),hki,up_at]
  ·rw [if_neg (by omega),up_ne _ _ hki]; exact a.z k hkn
 ·by_cases hki:k=i
  ·rw [hki,up_at]; exact h3
  ·rw [up_ne _ _ hki]; exact a.len k hkn
 ·rcases (hk x).mp hx with hx|rfl
  ·exact a.rng x hx
  ·omega
structure Dim (n:Nat):Prop where
 lo:128≤n
 hi:n≤16384
theorem Dim.data {n:Nat} (d:Dim n):(geoN n).data=98+(n+4095) / 4096+n / 64∧(geoN n).data<n∧(geoN n).data<4096∧101≤(geoN n).data:=by
 have:=d.lo
 have:=d.hi
 have e:(geoN n).data=98+(n+4095) / 4096+n / 64:=rfl
 omega
theorem Dim.map {n:Nat} (d:Dim n) {i:Nat} (hi:i<n):98≤98+i / 4096∧98+i / 4096<(geoN n).inodes∧(geoN n).inodes≤(geoN n).data∧98+i / 4096<n:=by
 have:=d.lo
 have:=d.hi
 have e:(geoN n).data=98+(n+4095) / 4096+n / 64:=rfl
 have e:(geoN n).inodes=98+(n+4095) / 4096:=rfl
 omega
theorem at_eq (n i:Nat):(geoN n).at_ i=((98+i / 4096:Nat):Int):=rfl
def bit (Z:Nat→Txt) (j:Nat):Bool:=bitAt (Z (98+j / 4096)) (j % 4096)
def setZ (Z:Nat→Txt) (i:Nat) (on:Bool):Nat→Txt:=up Z (98+i / 4096) (putBit (Z (98+i / 4096)) (i % 4096) on)
theorem bit_setZ {Z:Nat→Txt} {i:Nat} (h:(Z (98+i / 4096)).length=512) (on:Bool) (j:Nat):bit (setZ Z i on) j=if j=i then on else bit Z j:=by
 unfold bit setZ
 by_cases hb:j / 4096=i / 4096
 ·rw [hb,up_at,bitAt_putBit _ _ _ _ (by rw [h]; omega)]
  by_cases hji:j=i
  ·rw [if_pos hji,if_pos (by rw [hji])]
  ·rw [if_neg hji,if_neg (by omega)]
 ·rw [up_ne _ _ (by omega),if_neg (by rintro rfl; exact hb rfl)]
theorem bit_up {Z:Nat→Txt} {i:Nat} {b:Txt} {j:Nat} (h:i≠98+j / 4096):bit (up Z i b) j=bit Z j:=by
 unfold bit; rw [up_ne _ _ (fun e=>h e.symm)]
theorem setZ_ne {Z:Nat→Txt} {i k:Nat} {on:Bool} (h:k≠98+i / 4096):setZ Z i on k=Z k:=up_ne _ _ h
theorem Av.setBit {n:Nat} {Z:Nat→Txt} {T:TM} (a:Av n Z T) (d:Dim n) {i:Nat} (hi:i<n) (on:Bool) :
  ((Spc.setBit T (geoN n) i on).2=0∧Av n (setZ Z i on) (Spc.setBit T (geoN n) i on).1∧Spc.setBit T (geoN n) i on=T.write ((98+i / 4096:Nat):Int) (putBit (Z (98+i / 4096)) (i % 4096) on))∨(Spc.setBit T (geoN n) i on=(T,60)∧96≤(ks T).length∧((98+i / 4096:Nat):Int) ∉ ks T):=by
 obtain ⟨m1,m2,m3,m4⟩:=d.map hi
 have hr:=a.z _ m4
 have es:Spc.setBit T (geoN n) i on=T.write ((98+i / 4096:Nat):Int) (putBit (Z (98+i / 4096)) (i % 4096) on):=by
  unfold Spc.setBit
  rw [at_eq,hr,if_neg (fun y=>y rfl)]
 have hl:(putBit (Z (98+i / 4096)) (i % 4096) on).length=512:=(putBit_length ..).trans (a.len _ m4)
 rw [es]
 rcases a.write_full m1 m4 hl with h|h
 ·exact .inl ⟨h,a.write m1 m4 hl h,rfl⟩
 ·exact .inr h
def isFree (n:Nat) (Z:Nat→Txt) (m:Nat):Bool:=decide ((geoN n).data≤m) && (decide (m<n) && !bit Z m)
theorem isFree_iff {n:Nat} {Z:Nat→Txt} {m:Nat}:isFree n Z m=true↔(geoN n).data≤m∧m<n∧bit Z m=false:=by
 unfold isFree
 rw [Bool.and_eq_true,Bool.and_eq_true,decide_eq_true_eq,decide_eq_true_eq,Bool.not_eq_true']
theorem Av.free {n:Nat} {Z:Nat→Txt} {T:TM} (a:Av n Z T) (d:Dim n) (m:Nat):FreeAt T (geoN n) m↔isFree n Z m=true:=by
 rw [isFree_iff]
 unfold FreeAt
 have e:(geoN n).blocks=n:=rfl
 rw [e]
 constructor
 ·rintro ⟨h1,h2,h3⟩
  rw [at_eq,a.z _ (d.map h3).2.2.2] at h1
  exact ⟨h2,h3,h1⟩
 ·rintro ⟨h2,h3,h1⟩
  refine ⟨?_,h2,h3⟩
  rw [at_eq,a.z _ (d.map h3).2.2.2]
  exact h1
def zeros : Txt:=List.replicate 512 0
def takeZ (Z:Nat→Txt) (m:Nat):Nat→Txt:=up (setZ Z m true) m zeros
theorem Av.take {n:Nat} {Z:Nat→Txt} {T:TM} (a:Av n Z T) (d:Dim n) {m:Nat} (h1:(geoN n).data≤m) (h2:m<n) :
  (takeAt T (geoN n) m).2=((m:Int),0)∧Av n (takeZ Z m) (takeAt T (geoN n) m).1∧(∀ x,x ∈ ks (takeAt T (geoN n) m).1↔x ∈ ks T∨x=((98+m / 4096:Nat):Int)∨x=m)∨(takeAt T (geoN n) m=(T,0,60)∧95≤(ks T).length):=by
 have hd:=d.data
 unfold takeAt
 rcases a.setBit d h2 true with ⟨e,a',es⟩|⟨e,h3,_⟩
 ·rw [if_neg (fun y=>y e)]
  rcases a'.write_full (i:=m) (bs:=zeros) (by omega) h2 List.length_replicate with h|⟨h,h3,_⟩
  ·have h':((Spc.setBit T (geoN n) m true).1.write m zeros512).2=0:=h
   rw [if_neg (fun y=>y h')]
   refine .inl ⟨rfl,a'.write (by omega) h2 List.length_replicate h,fun x=>?_⟩
   rw [es] at h' ⊢ e
   rw [write_keys h',write_keys e,or_assoc]
  ·have h':(Spc.setBit T (geoN n) m true).1.write m zeros512=((Spc.setBit T (geoN n) m true).1,60):=h
   rw [h',if_pos (show (60:Int)≠0 by decide)]
   refine .inr ⟨rfl,?_⟩
   rw [es] at e h3
   have:=(write_len e).1
   omega
 ·rw [e,if_pos (show (60:Int)≠0 by decide)]
  exact .inr ⟨rfl,by omega⟩
theorem bitAt_nil (i:Nat):bitAt [] i=false:=by
 unfold bitAt
 rw [List.getD_nil]
 exact Nat.zero_testBit _
def takeM (T:TM) (g:G):TM×Int×Int :=
 match (List.range g.blocks).find? (fun m=>decide (FreeAt T g m)) with
 | some m=>takeAt T g m
 | none=>(T,0,90)
theorem find_low {p:Nat→Bool} {n m:Nat} (h:m<n) (hp:p m=true) (hl:∀ k,k<m→p k=false):(List.range n).find? p=some m:=by
 rw [List.find?_eq_some_iff_getElem]
 refine ⟨hp,m,by rw [List.length_range]; exact h,List.getElem_range _,fun j hj=>?_⟩
 rw [List.getElem_range,hl j hj]; rfl
theorem find_none {p:Nat→Bool} {n:Nat} (h:∀ k,k<n→p k=false):(List.range n).find? p=none:=by
 rw [List.find?_eq_none]
 intro x hx
 rw [h x (List.mem_range.mp hx)]; simp
theorem takeM_low {T:TM} {g:G} {m:Nat} (h:FreeAt T g m) (hl:∀ k,k<m→¬ FreeAt T g k):takeM T g=takeAt T g m:=by
 unfold takeM
 rw [find_low h.2.2 (decide_eq_true h) fun k hk=>decide_eq_false (hl k hk)]
theorem takeM_none {T:TM} {g:G} (h:∀ k,¬ FreeAt T g k):takeM T g=(T,0,90):=by
 unfold takeM
 rw [find_none fun k _=>decide_eq_false (h k)]
theorem read_fail {T:TM} {i:Int} (h:(T.read i).2≠0):(T.read i).1=[]:=by
 unfold TM.read at h ⊢
 split
 ·rfl
 ·rename_i h1
  rw [if_neg h1] at h
  split
  ·rfl
  ·rename_i h2
   rw [if_neg h2] at h
   unfold TM.get at h ⊢
   split
   ·rename_i e
    rw [e] at h; exact absurd rfl h
   ·rename_i e
    rw [e] at h
    simp only at h
    split
    ·rfl
    ·rename_i h3
     rw [if_neg h3] at h; exact absurd rfl h
theorem Take_any {h:Heap} {F:Nat→Prop} {t d:Option Addr} {T:TM} {n:Nat} {K:Value→Heap→Prop} (x:Tx h F t d T) (dm:Dim n) (hu:T.undo.length<900000000)
  (hK:∀ h' F',Fr F h h'→Gw h F h' F'→Tx h' F' t d (takeM T (geoN n)).1→K (.tuple #[.int .i64 (takeM T (geoN n)).2.1,.int .i64 (takeM T (geoN n)).2.2]) h'):C.space_Take t (geoN n).v h K:=by
 have hd:=dm.data
 have hlo:=dm.lo
 have hhi:=dm.hi
 have hino:(geoN n).inodes=98+(n+4095) / 4096:=rfl
 have hbm:(geoN n).bitmap=98:=rfl
 have hbl:(geoN n).blocks=n:=rfl
 have same:∀ e h',Fr No h h'→takeM T (geoN n)=(T,0,e)→K (.tuple #[.int .i64 0,.int .i64 e]) h':=fun e h' f e0=>by
  rw [e0] at hK
  exact hK h' F (f.mono fun _ _ y=>y.elim) (Gw.refl f.size fun b hb=>x.lt hb) (x.no f)
 refine Take_spec x (geoN_ok hhi) (by omega) (by omega) hu (fun k h1 h2 hno he h' f=>same _ h' f ?_) (fun hno h' f=>same _ h' f (takeM_none fun k hk=>?_)) (fun m hm hfree hlow hr h' F' f g x'=>?_)
 ·rw [hbm] at h1 hno
  -- the first data block of this bitmap block reads as free
  have ex:∃ m,FreeAt T (geoN n) m∧m / 4096=k - 98:=by
   refine ⟨max (4096*(k - 98)) (geoN n).data,⟨?_,Nat.le_max_right _ _,by omega⟩,by omega⟩
   have:(geoN n).at_ (max (4096*(k - 98)) (geoN n).data)=(k:Int):=by rw [at_eq]; omega
   rw [this,read_fail he]
   exact bitAt_nil _
  obtain ⟨m0,hm0,hk0⟩:=ex
  obtain ⟨m,hm,hl⟩:∃ m,FreeAt T (geoN n) m∧∀ k,k<m→¬ FreeAt T (geoN n) k:=by
   clear hk0
   induction m0 using Nat.strongRecOn with
   | ind m0 ih =>
    by_cases h:∃ k,k<m0∧FreeAt T (geoN n) k
    ·obtain ⟨k,h1,h2⟩:=h
     exact ih k h1 h2
    ·exact ⟨m0,hm0,fun k h1 h2=>h ⟨k,h1,h2⟩⟩
  have hle:m≤m0:=by
   rcases Nat.lt_or_ge m0 m with h|h
   ·exact absurd hm0 (hl _ h)
   ·exact h
  have hge:4096*(k - 98)≤m:=by
   rcases Nat.lt_or_ge m (4096*(k - 98)) with h|h
   ·exact absurd hm (hno m h)
   ·exact h
  have ea:(geoN n).at_ m=(k:Int):=by rw [at_eq]; omega
  rw [takeM_low hm hl]
  unfold takeAt Spc.setBit
  rw [ea,if_pos he,if_pos he]
 ·have h3:=hk.2.2
  exact hno k (by omega) hk
 ·rw [takeM_low hfree hlow] at hK
  exact hK h' F' f g x'
theorem Av.taken {n:Nat} {Z:Nat→Txt} {T:TM} (a:Av n Z T) (d:Dim n) :
  (∃ m,isFree n Z m=true∧(∀ k,k<m→isFree n Z k=false)∧takeM T (geoN n)=takeAt T (geoN n) m)∨((∀ k,isFree n Z k=false)∧takeM T (geoN n)=(T,0,90)):=by
 by_cases h:∃ m,isFree n Z m=true
 ·left
  obtain ⟨m0,hm0⟩:=h
  obtain ⟨m,hm,hl⟩:∃ m,isFree n Z m=true∧∀ k,k<m→isFree n Z k=false:=by
   induction m0 using Nat.strongRecOn with
   | ind m0 ih =>
    by_cases h:∃ k,k<m0∧isFree n Z k=true
    ·obtain ⟨k,h1,h2⟩:=h
     exact ih k h1 h2
    ·exact ⟨m0,hm0,fun k h1=>by
      cases e:isFree n Z k with
      | false=>rfl
      | true=>exact absurd ⟨k,h1,e⟩ h⟩
  exact ⟨m,hm,hl,takeM_low ((a.free d m).mpr hm) fun k hk y=>absurd ((hl k hk).symm.trans ((a.free d k).mp y)) (by simp)⟩
 ·right
  have hn:∀ k,isFree n Z k=false:=fun k=>by
   cases e:isFree n Z k with
   | false=>rfl
   | true=>exact absurd ⟨k,e⟩ h
  exact ⟨hn,takeM_none fun k y=>absurd ((hn k).symm.trans ((a.free d k).mp y)) (by simp)⟩
def cnt (p:Nat→Bool):Nat→Nat
 | 0=>0
 | m+1=>cnt p m+if p m=true then 1 else 0
theorem cnt_upd {p q:Nat→Bool} {i:Nat} (h:∀ j,j≠i→p j=q j) (hp:p i=false) (hq:q i=true):∀ m,cnt q m=cnt p m+if i<m then 1 else 0
 | 0=>by rw [if_neg (by omega)]; rfl
 | m+1=>by
  show cnt q m+(if q m=true then 1 else 0)=cnt p m+(if p m=true then 1 else 0)+_
  rw [cnt_upd h hp hq m]
  by_cases e:m=i
  ·subst e
   rw [if_pos hq,if_neg (show ¬ p m=true by rw [hp]; simp),if_neg (show ¬ m<m by omega),if_pos (show m<m+1 by omega)]
  ·rw [h m e]
   by_cases e2:i<m
   ·rw [if_pos e2,if_pos (show i<m+1 by omega)]; omega
   ·rw [if_neg e2,if_neg (show ¬ i<m+1 by omega)]; omega
theorem cnt_congr {p q:Nat→Bool}:∀ {m:Nat},(∀ j,j<m→p j=q j)→cnt p m=cnt q m
 | 0,_=>rfl
 | m+1,h=>by
  show cnt p m+(if p m=true then 1 else 0)=cnt q m+(if q m=true then 1 else 0)
  rw [h m (by omega),cnt_congr fun j hj=>h j (by omega)]
theorem cnt_zero {p:Nat→Bool}:∀ {m:Nat},(∀ j,j<m→p j=false)→cnt p m=0
 | 0,_=>rfl
 | m+1,h=>by
  show cnt p m+(if p m=true then 1 else 0)=0
  rw [h m (by omega),cnt_zero fun j hj=>h j (by omega),if_neg (by simp)]
def frees (n:Nat) (Z:Nat→Txt):Nat:=cnt (isFree n Z) n
end Go.Proofs.YtiapingedfnlnaaGreatDoor.Av
