/-
  TEXTS FOR walkTree_card: FormsH FormsI FormsJ FormsK FormsL FormsM FormsN FormsO FormsP ReA HdB InA InW InB SkA SlP AdM DkF TmC TmD RgA BtA SpcA SpG AvA BmA BmY InT FiA BmR FiC BwL FiB FiD FiE DiM BmZ FiP.
-/
import Derived.Shelf.Spec.BuilderWrite
import Derived.Ground.NamesProg
import Derived.Test.YtiapingedfnlnaaGreatDoorGp2
namespace Go.Proofs.YtiapingedfnlnaaGreatDoor.W
open Go Go.Proofs Wx
def path_components (s1:ByteArray) (most1:Int) (K:Value→Heap→Prop) (h1:Heap):Prop :=
 New z60 60 h1 fun h2 =>
 New z34 34 h2 fun h3 =>
 bif (decide ((s1.size:Int)>most1)) then (
 Put ⟨h1.size,0,none⟩ (.slice none 0 0) h3 fun h4 =>
 Put ⟨h2.size,0,none⟩ (.int .i64 130) h4 fun h5 =>
 ∃ (resA1:Option Addr) (resL1:Nat) (resC1:Nat),cellOf h5 ⟨h1.size,0,none⟩=some (.slice resA1 resL1 resC1) ∧
 ∃ (res1:Int),cellOf h5 ⟨h2.size,0,none⟩=some (.int .i64 res1) ∧
 K (.tuple #[.slice resA1 resL1 resC1,.int .i64 res1]) h5) else (
 New z60 60 h3 fun h6 =>
 C.path_pieces s1 h6 fun r1 h7 =>
 ∃ (v1:Value),r1=v1 ∧
 ∀ (R1:Loop),
 (∀ (s2:ByteArray),∀ (h8:Heap) (k1:Value→Heap→Prop),LoopOn h8 (h7.size+1) R1 .ready none →
 (
 LoopOn h8 (h7.size+1) R1 .ready none ∧
 SetL h8 (h7.size+1) R1 .busy none fun h9 =>
 bif (s2.toList == (mkStr [46]).toList) then (
 LoopOn h9 (h7.size+1) R1 .busy none ∧
 k1 (.bool true) (setLoop h9 (h7.size+1) R1 .ready none)) else (
 bif (decide ((s2.size:Int)>27)) then (
 Put ⟨h1.size,0,none⟩ (.slice none 0 0) h9 fun h10 =>
 Put ⟨h2.size,0,none⟩ (.int .i64 130) h10 fun h11 =>
 LoopOn h11 (h7.size+1) R1 .busy none ∧
 k1 (.bool false) (setLoop h11 (h7.size+1) R1 .done (some .ret))) else (
 ∃ (sA1:Option Addr) (sL1:Nat) (sC1:Nat),cellOf h9 ⟨h3.size,0,none⟩=some (.slice sA1 sL1 sC1) ∧
 bif ((sL1:Int) == 32) then (
 Put ⟨h1.size,0,none⟩ (.slice none 0 0) h9 fun h12 =>
 Put ⟨h2.size,0,none⟩ (.int .i64 130) h12 fun h13 =>
 LoopOn h13 (h7.size+1) R1 .busy none ∧
 k1 (.bool false) (setLoop h13 (h7.size+1) R1 .done (some .ret))) else (
 ∃ (sA2:Option Addr) (sL2:Nat) (sC2:Nat),cellOf h9 ⟨h3.size,0,none⟩=some (.slice sA2 sL2 sC2) ∧
 New [.string s2] 9 h9 fun h14 =>
 ∃ new1:List Value,List.length new1=1*1∧SlCells h14 (some ⟨h9.size,0,none⟩) new1∧(∀ v ∈ new1,v.oneCell'=true) ∧
 AppendP ti9 9 sA2 sL2 sC2 1 new1 h14 fun sA3 sL3 sC3 h15 =>
 Put ⟨h3.size,0,none⟩ (.slice sA3 sL3 sC3) h15 fun h16 =>
 LoopOn h16 (h7.size+1) R1 .busy none ∧
 k1 (.bool true) (setLoop h16 (h7.size+1) R1 .ready none))))) →
 YCalls Tryz.prog (h7.size+1) [.string s2] h8 k1) →
 HCallsF Tryz.prog v1 [.func (.yield (h7.size+1)) #[] #[]] (beginL h7 R1) fun _ h17 =>
 ∃ (st1:LoopState) (pend1:Option Code),LoopOn h17 (h7.size+1) R1 st1 pend1∧st1 ≠ .busy ∧
 pendX pend1 (
 SetL h17 (h7.size+1) R1 .exhausted pend1 fun h18 =>
 ∃ (sA4:Option Addr) (sL4:Nat) (sC4:Nat),cellOf h18 ⟨h3.size,0,none⟩=some (.slice sA4 sL4 sC4) ∧
 Put ⟨h1.size,0,none⟩ (.slice sA4 sL4 sC4) h18 fun h19 =>
 Put ⟨h2.size,0,none⟩ (.int .i64 0) h19 fun h20 =>
 EndD h7.size h20 fun h21 =>
 ∃ (resA2:Option Addr) (resL2:Nat) (resC2:Nat),cellOf h21 ⟨h1.size,0,none⟩=some (.slice resA2 resL2 resC2) ∧
 ∃ (res2:Int),cellOf h21 ⟨h2.size,0,none⟩=some (.int .i64 res2) ∧
 K (.tuple #[.slice resA2 resL2 resC2,.int .i64 res2]) h21) (
 SetL h17 (h7.size+1) R1 .exhausted pend1 fun h22 =>
 EndD h7.size h22 fun h23 =>
 ∃ (resA3:Option Addr) (resL3:Nat) (resC3:Nat),cellOf h23 ⟨h1.size,0,none⟩=some (.slice resA3 resL3 resC3) ∧
 ∃ (res3:Int),cellOf h23 ⟨h2.size,0,none⟩=some (.int .i64 res3) ∧
 K (.tuple #[.slice resA3 resL3 resC3,.int .i64 res3]) h23) (fun _=>False))
def path_components.lo : Nat→List Nat×List (Nat×Ty):=fun n=>match n with|1000005=>([],[(14,.str)])|_=>([],[])
def path_components.od : Nat→Od:=fun n=>match n with|_ => .nil
theorem path_components.ok {s1:ByteArray} {most1:Int} {K:Value→Heap→Prop} {h:Heap} (hx:path_components s1 most1 K h):C.path_components s1 most1 h K :=
 fn_to (c:=Tryz.f91.body.getD .skip) (cxOk path_components.lo path_components.od) Tryz.func91 (by kernel_rfl) (by kernel_rfl) (Eq.mpr (by kernel_rfl) hx)
def inode_Get (t1:Option Addr) (g1:List Value) (n1:Int) (K:Value→Heap→Prop) (h1:Heap):Prop :=
 New g1 25 h1 fun h2 =>
 New z123 123 h2 fun h3 =>
 ∃ cs1:List Value,List.length cs1=5∧Cells h3 ⟨h1.size,0,none⟩ cs1 ∧
 C.inode_isInode cs1 n1 h3 fun r1 h4 =>
 ∃ (b1:Bool),r1 = .bool b1 ∧
 bif (!b1) then (
 PutRow ⟨h2.size,0,none⟩ [.int .i64 0,.int .i64 0,.int .i64 0,.int .i64 0,.int .i64 0,.int .i64 0,.int .i64 0,.int .i64 0,.int .i64 0,.int .i64 0,.int .i64 0,.int .i64 0,.int .i64 0,.int .i64 0,.int .i64 0] 15 h4 fun h5 =>
 ∃ res1:List Value,List.length res1=15∧Cells h5 ⟨h2.size,0,none⟩ res1 ∧
 K (.tuple #[.agg ⟨res1⟩,.int .i64 110]) h5) else (
 ∃ cs2:List Value,List.length cs2=5∧Cells h4 ⟨h1.size,0,none⟩ cs2 ∧
 C.inode_place t1 cs2 n1 h4 fun r2 h6 =>
 ∃ (n2:Int) (sA1:Option Addr) (sL1:Nat) (sC1:Nat) (n3:Int) (n4:Int),r2 = .tuple #[.int .i64 n2,.slice sA1 sL1 sC1,.int .i64 n3,.int .i64 n4] ∧
 bif (n4 != 0) then (
 PutRow ⟨h2.size,0,none⟩ [.int .i64 0,.int .i64 0,.int .i64 0,.int .i64 0,.int .i64 0,.int .i64 0,.int .i64 0,.int .i64 0,.int .i64 0,.int .i64 0,.int .i64 0,.int .i64 0,.int .i64 0,.int .i64 0,.int .i64 0] 15 h6 fun h7 =>
 ∃ res2:List Value,List.length res2=15∧Cells h7 ⟨h2.size,0,none⟩ res2 ∧
 K (.tuple #[.agg ⟨res2⟩,.int .i64 n4]) h7) else (
 (0≤n3∧n3≤(IntKind.wrap .i64 (n3+64))∧(IntKind.wrap .i64 (n3+64))≤(sC1:Int)) ∧
 C.inode_Decode (if sC1=(Int.toNat n3) then sA1 else Option.map (Addr.add · (Int.toNat n3)) sA1) ((Int.toNat (IntKind.wrap .i64 (n3+64))) - (Int.toNat n3)) (sC1 - (Int.toNat n3)) h6 fun r3 h8 =>
 ∃ (cs3:List Value) (n5:Int),r3 = .tuple #[.agg ⟨cs3⟩,.int .i64 n5] ∧
 PutRow ⟨h2.size,0,none⟩ cs3 15 h8 fun h9 =>
 ∃ res3:List Value,List.length res3=15∧Cells h9 ⟨h2.size,0,none⟩ res3 ∧
 K (.tuple #[.agg ⟨res3⟩,.int .i64 n5]) h9))
def inode_Get.lo : Nat→List Nat×List (Nat×Ty):=fun n=>match n with|_=>([],[])
def inode_Get.od : Nat→Od:=fun n=>match n with|_ => .nil
theorem inode_Get.ok {t1:Option Addr} {g1:List Value} {n1:Int} {K:Value→Heap→Prop} {h:Heap} (hx:inode_Get t1 g1 n1 K h):C.inode_Get t1 g1 n1 h K :=
 fn_to (c:=Tryz.f92.body.getD .skip) (cxOk inode_Get.lo inode_Get.od) Tryz.func92 (by kernel_rfl) (by kernel_rfl) (Eq.mpr (by kernel_rfl) hx)
def slices_Compact_int_int (sA1:Option Addr) (sL1:Nat) (sC1:Nat) (K:Value→Heap→Prop) (h1:Heap):Prop :=
 bif (decide ((sL1:Int)<2)) then (
 K (.slice sA1 sL1 sC1) h1) else (
 ∃ (I1:Int→Heap→Prop) (M1:Int→Heap→Nat),I1 1 h1 ∧
 ∀ (k1:Int),∀ h2:Heap,I1 k1 h2 →
 bif (decide (k1<(sL1:Int))) then (
 (0≤k1∧k1<(sL1:Int)) ∧
 onSome sA1 fun p1 =>
 ∃ (n1:Int),cellOf h2 (Addr.add p1 (Int.toNat k1))=some (.int .i64 n1) ∧
 (0≤(IntKind.wrap .i64 (k1 - 1))∧(IntKind.wrap .i64 (k1 - 1))<(sL1:Int)) ∧
 onSome sA1 fun p2 =>
 ∃ (n2:Int),cellOf h2 (Addr.add p2 (Int.toNat (IntKind.wrap .i64 (k1 - 1))))=some (.int .i64 n2) ∧
 bif (n1 == n2) then (
 (0≤k1∧k1≤(sL1:Int)) ∧
 ∃ (I2:Int→Int→Heap→Prop) (M2:Int→Int→Heap→Nat),I2 k1 1 h2 ∧
 ∀ (k2:Int) (k3:Int),∀ h3:Heap,I2 k2 k3 h3 →
 bif (decide (k3<(((sL1 - (Int.toNat k1)):Nat):Int))) then (
 (0≤k3∧k3<(((sL1 - (Int.toNat k1)):Nat):Int)) ∧
 onSome (if sC1=(Int.toNat k1) then sA1 else Option.map (Addr.add · (Int.toNat k1)) sA1) fun p3 =>
 ∃ (n3:Int),cellOf h3 (Addr.add p3 (Int.toNat k3))=some (.int .i64 n3) ∧
 (0≤(IntKind.wrap .i64 (k3 - 1))∧(IntKind.wrap .i64 (k3 - 1))<(((sL1 - (Int.toNat k1)):Nat):Int)) ∧
 onSome (if sC1=(Int.toNat k1) then sA1 else Option.map (Addr.add · (Int.toNat k1)) sA1) fun p4 =>
 ∃ (n4:Int),cellOf h3 (Addr.add p4 (Int.toNat (IntKind.wrap .i64 (k3 - 1))))=some (.int .i64 n4) ∧
 bif (n3 != n4) then (
 (0≤k3∧k3<(((sL1 - (Int.toNat k1)):Nat):Int)) ∧
 onSome (if sC1=(Int.toNat k1) then sA1 else Option.map (Addr.add · (Int.toNat k1)) sA1) fun p5 =>
 ∃ (n5:Int),cellOf h3 (Addr.add p5 (Int.toNat k3))=some (.int .i64 n5) ∧
 (0≤k2∧k2<(sL1:Int)) ∧
 onSome sA1 fun p6 =>
 Put (Addr.add p6 (Int.toNat k2)) (.int .i64 n5) h3 fun h4 =>
 I2 (IntKind.wrap .i64 (k2+1)) (IntKind.wrap .i64 (k3+1)) h4∧M2 (IntKind.wrap .i64 (k2+1)) (IntKind.wrap .i64 (k3+1)) h4<M2 k2 k3 h3) else (
 I2 k2 (IntKind.wrap .i64 (k3+1)) h3∧M2 k2 (IntKind.wrap .i64 (k3+1)) h3<M2 k2 k3 h3)) else (
 (0≤k2∧k2≤(sL1:Int)) ∧
 ClearP ti3 (if sC1=(Int.toNat k2) then sA1 else Option.map (Addr.add · (Int.toNat k2)) sA1) (sL1 - (Int.toNat k2)) h3 fun h5 =>
 (0≤k2∧k2≤(sC1:Int)) ∧
 K (.slice sA1 (Int.toNat k2) sC1) h5)) else (
 I1 (IntKind.wrap .i64 (k1+1)) h2∧M1 (IntKind.wrap .i64 (k1+1)) h2<M1 k1 h2)) else (
 K (.slice sA1 sL1 sC1) h2))
def slices_Compact_int_int.lo : Nat→List Nat×List (Nat×Ty):=fun n=>match n with|4=>([0],[(3,.int .i64)])|9=>([0,4],[(3,.int .i64),(5,.int .i64)])|_=>([],[])
def slices_Compact_int_int.od : Nat→Od:=fun n=>match n with|6=>(.op 0 [] (.op 1 [] (.op 2 [] (.op 3 [] (.op 4 [] (.op 5 [] (.op 6 [] (.op 7 [] (.op 8 [] (.op 9 [] .nil))))))))))|11=>(.op 0 [] (.op 1 [] (.op 2 [] (.op 3 [] (.op 4 [] (.op 5 [] (.op 6 [] (.op 7 [] (.op 8 [] (.op 9 [] .nil))))))))))|_ => .nil
theorem slices_Compact_int_int.ok {sA1:Option Addr} {sL1:Nat} {sC1:Nat} {K:Value→Heap→Prop} {h:Heap} (hx:slices_Compact_int_int sA1 sL1 sC1 K h):C.slices_Compact_int_int sA1 sL1 sC1 h K :=
 fn_to (c:=Tryz.f94.body.getD .skip) (cxOk slices_Compact_int_int.lo slices_Compact_int_int.od) Tryz.func94 (by kernel_rfl) (by kernel_rfl) (Eq.mpr (by kernel_rfl) hx)
def bolelaw16_Setup_blocks (s1:List Value) (K:Value→Heap→Prop) (h1:Heap):Prop :=
 New s1 54 h1 fun h2 =>
 ∃ (n1:Int),cellOf h2 (Addr.add ⟨h1.size,0,none⟩ 0)=some (.int .i64 n1) ∧
 K (.int .i64 (IntKind.wrap .i64 (128+(IntKind.wrap .i64 ((Int.tmod (IntKind.wrap .u64 (n1)) 1000)))))) h2
def bolelaw16_Setup_blocks.lo : Nat→List Nat×List (Nat×Ty):=fun n=>match n with|_=>([],[])
def bolelaw16_Setup_blocks.od : Nat→Od:=fun n=>match n with|_ => .nil
theorem bolelaw16_Setup_blocks.ok {s1:List Value} {K:Value→Heap→Prop} {h:Heap} (hx:bolelaw16_Setup_blocks s1 K h):C.bolelaw16_Setup_blocks s1 h K :=
 fn_to (c:=Tryz.f95.body.getD .skip) (cxOk bolelaw16_Setup_blocks.lo bolelaw16_Setup_blocks.od) Tryz.func95 (by kernel_rfl) (by kernel_rfl) (Eq.mpr (by kernel_rfl) hx)
def bolelaw16_low (bA1:Option Addr) (bL1:Nat) (bC1:Nat) (n1:Int) (K:Value→Heap→Prop) (h1:Heap):Prop :=
 ∃ (I1:Int→Int→Heap→Prop) (M1:Int→Int→Heap→Nat),I1 n1 0 h1 ∧
 ∀ (n2:Int) (n3:Int),∀ h2:Heap,I1 n2 n3 h2 →
 bif (decide (n3<(bL1:Int))) then (
 (0≤n3∧n3<(bL1:Int)) ∧
 onSome bA1 fun p1 =>
 Put (Addr.add p1 (Int.toNat n3)) (.int .u8 (IntKind.wrap .u8 (n2))) h2 fun h3 =>
 I1 (IntKind.wrap .i64 (Int.tdiv n2 256)) (IntKind.wrap .i64 (n3+1)) h3∧M1 (IntKind.wrap .i64 (Int.tdiv n2 256)) (IntKind.wrap .i64 (n3+1)) h3<M1 n2 n3 h2) else (
 K (.tuple #[]) h2)
def bolelaw16_low.lo : Nat→List Nat×List (Nat×Ty):=fun n=>match n with|1=>([0,6],[(1,.int .i64),(7,.int .i64)])|_=>([],[])
def bolelaw16_low.od : Nat→Od:=fun n=>match n with|_ => .nil
theorem bolelaw16_low.ok {bA1:Option Addr} {bL1:Nat} {bC1:Nat} {n1:Int} {K:Value→Heap→Prop} {h:Heap} (hx:bolelaw16_low bA1 bL1 bC1 n1 K h):C.bolelaw16_low bA1 bL1 bC1 n1 h K :=
 fn_to (c:=Tryz.f96.body.getD .skip) (cxOk bolelaw16_low.lo bolelaw16_low.od) Tryz.func96 (by kernel_rfl) (by kernel_rfl) (Eq.mpr (by kernel_rfl) hx)
def maps_Keys_map_int_byte_int_byte (m1:Option Nat) (K:Value→Heap→Prop) (h1:Heap):Prop :=
 New [.map m1] 207 h1 fun h2 =>
 K (.func (.func 180) #[] ⟨[.pointer (some ⟨h1.size,0,none⟩)]⟩) h2
def maps_Keys_map_int_byte_int_byte.lo : Nat→List Nat×List (Nat×Ty):=fun n=>match n with|_=>([],[])
def maps_Keys_map_int_byte_int_byte.od : Nat→Od:=fun n=>match n with|_ => .nil
theorem maps_Keys_map_int_byte_int_byte.ok {m1:Option Nat} {K:Value→Heap→Prop} {h:Heap} (hx:maps_Keys_map_int_byte_int_byte m1 K h):C.maps_Keys_map_int_byte_int_byte m1 h K :=
 fn_to (c:=Tryz.f107.body.getD .skip) (cxOk maps_Keys_map_int_byte_int_byte.lo maps_Keys_map_int_byte_int_byte.od) Tryz.func107 (by kernel_rfl) (by kernel_rfl) (Eq.mpr (by kernel_rfl) hx)
def bolelaw16_pieces.k1 (s1:ByteArray) (lA1:Option Addr) (lL1:Nat) (lC1:Nat) (from1:Int) (i1:Int) (h2:Heap) (I1:Option Addr→Nat→Nat→Int→Int→Heap→Prop) (M1:Option Addr→Nat→Nat→Int→Int→Heap→Nat) (K:Value→Heap→Prop):Prop :=
 bif (decide (i1>from1)) then (
 (0≤from1∧from1≤i1∧i1≤(s1.size:Int)) ∧
 bif (!((ByteArray.extract s1 (Int.toNat from1) (Int.toNat i1)).toList == (mkStr [46]).toList)) then (
 (0≤from1∧from1≤i1∧i1≤(s1.size:Int)) ∧
 New [.string (ByteArray.extract s1 (Int.toNat from1) (Int.toNat i1))] 9 h2 fun h3 =>
 ∃ new1:List Value,List.length new1=1*1∧SlCells h3 (some ⟨h2.size,0,none⟩) new1∧(∀ v ∈ new1,v.oneCell'=true) ∧
 AppendP ti9 9 lA1 lL1 lC1 1 new1 h3 fun sA1 sL1 sC1 h4 =>
 I1 sA1 sL1 sC1 (IntKind.wrap .i64 (i1+1)) (IntKind.wrap .i64 (i1+1)) h4∧M1 sA1 sL1 sC1 (IntKind.wrap .i64 (i1+1)) (IntKind.wrap .i64 (i1+1)) h4<M1 lA1 lL1 lC1 from1 i1 h2) else (
 I1 lA1 lL1 lC1 (IntKind.wrap .i64 (i1+1)) (IntKind.wrap .i64 (i1+1)) h2∧M1 lA1 lL1 lC1 (IntKind.wrap .i64 (i1+1)) (IntKind.wrap .i64 (i1+1)) h2<M1 lA1 lL1 lC1 from1 i1 h2)) else (
 I1 lA1 lL1 lC1 (IntKind.wrap .i64 (i1+1)) (IntKind.wrap .i64 (i1+1)) h2∧M1 lA1 lL1 lC1 (IntKind.wrap .i64 (i1+1)) (IntKind.wrap .i64 (i1+1)) h2<M1 lA1 lL1 lC1 from1 i1 h2)
def bolelaw16_pieces (s1:ByteArray) (K:Value→Heap→Prop) (h1:Heap):Prop :=
 ∃ (I1:Option Addr→Nat→Nat→Int→Int→Heap→Prop) (M1:Option Addr→Nat→Nat→Int→Int→Heap→Nat),I1 none 0 0 0 0 h1 ∧
 ∀ (lA1:Option Addr) (lL1:Nat) (lC1:Nat) (from1:Int) (i1:Int),∀ h2:Heap,I1 lA1 lL1 lC1 from1 i1 h2 →
 bif (decide (i1≤(s1.size:Int))) then (
 bif (decide (i1<(s1.size:Int))) then (
 (0≤i1∧i1<(s1.size:Int)) ∧
 ∃ b1:UInt8,s1.toList[Int.toNat i1]?=some b1 ∧
 bif (((UInt8.toNat b1:Nat):Int) != 47) then (
 I1 lA1 lL1 lC1 from1 (IntKind.wrap .i64 (i1+1)) h2∧M1 lA1 lL1 lC1 from1 (IntKind.wrap .i64 (i1+1)) h2<M1 lA1 lL1 lC1 from1 i1 h2) else (
 bolelaw16_pieces.k1 s1 lA1 lL1 lC1 from1 i1 h2 I1 M1 K)) else (
 bolelaw16_pieces.k1 s1 lA1 lL1 lC1 from1 i1 h2 I1 M1 K)) else (
 K (.slice lA1 lL1 lC1) h2)
def bolelaw16_pieces.lo : Nat→List Nat×List (Nat×Ty):=fun n=>match n with|4=>([0],[(3,.slice),(4,.int .i64),(5,.int .i64)])|_=>([],[])
def bolelaw16_pieces.od : Nat→Od:=fun n=>match n with|_ => .nil
theorem bolelaw16_pieces.ok {s1:ByteArray} {K:Value→Heap→Prop} {h:Heap} (hx:bolelaw16_pieces s1 K h):C.bolelaw16_pieces s1 h K :=
 fn_to (c:=Tryz.f108.body.getD .skip) (cxOk bolelaw16_pieces.lo bolelaw16_pieces.od) Tryz.func108 (by kernel_rfl) (by kernel_rfl) (Eq.mpr (by kernel_rfl) hx)
def path_pieces (s1:ByteArray) (K:Value→Heap→Prop) (h1:Heap):Prop :=
 New [.string s1] 9 h1 fun h2 =>
 K (.func (.func 181) #[] ⟨[.pointer (some ⟨h1.size,0,none⟩)]⟩) h2
def path_pieces.lo : Nat→List Nat×List (Nat×Ty):=fun n=>match n with|_=>([],[])
def path_pieces.od : Nat→Od:=fun n=>match n with|_ => .nil
theorem path_pieces.ok {s1:ByteArray} {K:Value→Heap→Prop} {h:Heap} (hx:path_pieces s1 K h):C.path_pieces s1 h K :=
 fn_to (c:=Tryz.f109.body.getD .skip) (cxOk path_pieces.lo path_pieces.od) Tryz.func109 (by kernel_rfl) (by kernel_rfl) (Eq.mpr (by kernel_rfl) hx)
def path_does (s1:ByteArray) (K:Value→Heap→Prop) (h1:Heap):Prop :=
 NewM h1 fun h2 =>
 MapPut .str h1.size (.s (ByteArray.toList (mkStr [46]))) (.func (.func 182) #[] ⟨[]⟩) h2 fun h3 =>
 MapPut .str h1.size (.s (ByteArray.toList (mkStr [46,46]))) (.func (.func 183) #[] ⟨[]⟩) h3 fun h4 =>
 MapIn .str (some h1.size) h4 fun mm1 =>
 ∃ (v1:Value),Option.getD (mget mm1 (.s (ByteArray.toList s1))) (zeroV ti219)=v1 ∧
 K (.tuple #[v1,.bool (Option.isSome (mget mm1 (.s (ByteArray.toList s1))))]) h4
def path_does.lo : Nat→List Nat×List (Nat×Ty):=fun n=>match n with|_=>([],[])
def path_does.od : Nat→Od:=fun n=>match n with|_ => .nil
theorem path_does.ok {s1:ByteArray} {K:Value→Heap→Prop} {h:Heap} (hx:path_does s1 K h):C.path_does s1 h K :=
 fn_to (c:=Tryz.f110.body.getD .skip) (cxOk path_does.lo path_does.od) Tryz.func110 (by kernel_rfl) (by kernel_rfl) (Eq.mpr (by kernel_rfl) hx)
end Go.Proofs.YtiapingedfnlnaaGreatDoor.W
namespace Go.Proofs.YtiapingedfnlnaaGreatDoor.W
open Go Go.Proofs Wx
def adisk_New (n1:Int) (K:Value→Heap→Prop) (h1:Heap):Prop :=
 bif (decide (n1<1)) then (
 K (.tuple #[.pointer none,.int .i64 32]) h1) else (
 bif (decide (n1>16384)) then (
 K (.tuple #[.pointer none,.int .i64 32]) h1) else (
 (0≤n1∧n1≤n1∧(512:Int)*n1≤281474976710656∧n1≤281474976710656) ∧
 New (repCells z237 (Int.toNat n1)) 237 h1 fun h2 =>
 New [.slice (some ⟨h1.size,0,none⟩) (Int.toNat n1) (Int.toNat n1),.slice none 0 0,.int .i64 0,.slice none 0 0,.bool false,.int .i64 0,.int .i64 0,.slice none 0 0] 235 h2 fun h3 =>
 K (.tuple #[.pointer (some ⟨h2.size,0,none⟩),.int .i64 0]) h3))
def adisk_New.lo : Nat→List Nat×List (Nat×Ty):=fun n=>match n with|_=>([],[])
def adisk_New.od : Nat→Od:=fun n=>match n with|_ => .nil
set_option maxRecDepth 1000000 in
set_option maxRecDepth 1000000 in
theorem adisk_New.ok {n1:Int} {K:Value→Heap→Prop} {h:Heap} (hx:adisk_New n1 K h):C.adisk_New n1 h K :=
 fn_to (c:=Tryz.f120.body.getD .skip) (cxOk adisk_New.lo adisk_New.od) Tryz.func120 (by kernel_rfl) (by kernel_rfl) (Eq.mpr (by kernel_rfl) hx)
def txn_Txn_Read.k1 (t1:Option Addr) (i1:Int) (h3:Heap) (K:Value→Heap→Prop):Prop :=
 onSome t1 fun p3 =>
 ∃ (m1:Option Nat),cellOf h3 (Addr.add p3 1)=some (.map m1) ∧
 MapIn (.int .i64) m1 h3 fun mm1 =>
 ∃ (sA1:Option Addr) (sL1:Nat) (sC1:Nat),Option.getD (mget mm1 (.i i1)) (zeroV ti86) = .slice sA1 sL1 sC1 ∧
 bif (Option.isSome (mget mm1 (.i i1))) then (
 C.slices_Clone_byte_byte sA1 sL1 sC1 h3 fun r2 h4 =>
 ∃ (sA2:Option Addr) (sL2:Nat) (sC2:Nat),r2 = .slice sA2 sL2 sC2 ∧
 K (.tuple #[.slice sA2 sL2 sC2,.int .i64 0]) h4) else (
 onSome t1 fun p4 =>
 ∃ (q2:Option Addr),cellOf h3 (Addr.add p4 0)=some (.pointer q2) ∧
 C.adisk_Disk_Read q2 i1 h3 fun r3 h5 =>
 ∃ (sA3:Option Addr) (sL3:Nat) (sC3:Nat) (n2:Int),r3 = .tuple #[.slice sA3 sL3 sC3,.int .i64 n2] ∧
 K (.tuple #[.slice sA3 sL3 sC3,.int .i64 n2]) h5)
def txn_Txn_Read (t1:Option Addr) (i1:Int) (K:Value→Heap→Prop) (h1:Heap):Prop :=
 onSome t1 fun p1 =>
 ∃ (b1:Bool),cellOf h1 (Addr.add p1 3)=some (.bool b1) ∧
 bif b1 then (
 K (.tuple #[.slice none 0 0,.int .i64 61]) h1) else (
 bif (decide (i1<0)) then (
 K (.tuple #[.slice none 0 0,.int .i64 31]) h1) else (
 onSome t1 fun p2 =>
 ∃ (q1:Option Addr),cellOf h1 (Addr.add p2 0)=some (.pointer q1) ∧
 C.adisk_Disk_Blocks q1 h1 fun r1 h2 =>
 ∃ (n1:Int),r1 = .int .i64 n1 ∧
 bif (decide (i1≥n1)) then (
 K (.tuple #[.slice none 0 0,.int .i64 31]) h2) else (
 txn_Txn_Read.k1 t1 i1 h2 K)))
def txn_Txn_Read.lo : Nat→List Nat×List (Nat×Ty):=fun n=>match n with|_=>([],[])
def txn_Txn_Read.od : Nat→Od:=fun n=>match n with|_ => .nil
theorem txn_Txn_Read.ok {t1:Option Addr} {i1:Int} {K:Value→Heap→Prop} {h:Heap} (hx:txn_Txn_Read t1 i1 K h):C.txn_Txn_Read t1 i1 h K :=
 fn_to (c:=Tryz.f130.body.getD .skip) (cxOk txn_Txn_Read.lo txn_Txn_Read.od) Tryz.func130 (by kernel_rfl) (by kernel_rfl) (Eq.mpr (by kernel_rfl) hx)
def strings_ContainsAny (s1:ByteArray) (chars1:ByteArray) (K:Value→Heap→Prop) (h1:Heap):Prop :=
 C.strings_IndexAny s1 chars1 h1 fun r1 h2 =>
 ∃ (n1:Int),r1 = .int .i64 n1 ∧
 K (.bool (decide (n1≥0))) h2
def strings_ContainsAny.lo : Nat→List Nat×List (Nat×Ty):=fun n=>match n with|_=>([],[])
def strings_ContainsAny.od : Nat→Od:=fun n=>match n with|_ => .nil
theorem strings_ContainsAny.ok {s1:ByteArray} {chars1:ByteArray} {K:Value→Heap→Prop} {h:Heap} (hx:strings_ContainsAny s1 chars1 K h):C.strings_ContainsAny s1 chars1 h K :=
 fn_to (c:=Tryz.f134.body.getD .skip) (cxOk strings_ContainsAny.lo strings_ContainsAny.od) Tryz.func134 (by kernel_rfl) (by kernel_rfl) (Eq.mpr (by kernel_rfl) hx)
end Go.Proofs.YtiapingedfnlnaaGreatDoor.W
namespace Go.Proofs.YtiapingedfnlnaaGreatDoor.W
open Go Go.Proofs Wx
def dir_reader_leaves_c1.k2 (yield1:Value) (cap1:Option Addr) (k1:Int) (h2:Heap) (I1:Int→Heap→Prop) (M1:Int→Heap→Nat) (h3:Heap) (h12:Heap) (K:Value→Heap→Prop):Prop :=
 ∃ (sA2:Option Addr) (sL2:Nat) (sC2:Nat),cellOf h12 (Addr.add ⟨h3.size,0,none⟩ 2)=some (.slice sA2 sL2 sC2) ∧
 C.slots_Read sA2 sL2 sC2 h12 fun r5 h13 =>
 ∃ (sA3:Option Addr) (sL3:Nat) (sC3:Nat) (n8:Int),r5 = .tuple #[.slice sA3 sL3 sC3,.int .i64 n8] ∧
 Put (Addr.add ⟨h3.size,0,none⟩ 3) (.slice sA3 sL3 sC3) h13 fun h14 =>
 onSome cap1 fun p15 =>
 ∃ (q11:Option Addr),cellOf h14 p15=some (.pointer q11) ∧
 C.dir_reader_failed q11 n8 h14 fun r6 h15 =>
 ∃ (b3:Bool),r6 = .bool b3 ∧
 bif b3 then (
 K (.tuple #[]) h15) else (
 ∃ cs3:List Value,List.length cs3=4∧Cells h15 ⟨h3.size,0,none⟩ cs3 ∧
 HCallsV Tryz.prog yield1 [.agg ⟨cs3⟩] h15 fun r7 h16 =>
 ∃ (b4:Bool),r7 = .bool b4 ∧
 bif (!b4) then (
 K (.tuple #[]) h16) else (
 I1 (IntKind.wrap .i64 (k1+1)) h16∧M1 (IntKind.wrap .i64 (k1+1)) h16<M1 k1 h2))
def dir_reader_leaves_c1.k1 (yield1:Value) (cap1:Option Addr) (k1:Int) (h2:Heap) (I1:Int→Heap→Prop) (M1:Int→Heap→Nat) (K:Value→Heap→Prop):Prop :=
 (0≤(512:Int)∧(512:Int)≤512∧(1:Int)*512≤281474976710656∧(512:Int)≤281474976710656) ∧
 New (repCells z5 (Int.toNat 512)) 5 h2 fun h3 =>
 NewRow z150 150 [.int .i64 k1,.int .i64 0,.slice (some ⟨h2.size,0,none⟩) (Int.toNat 512) (Int.toNat 512),.slice none 0 0] 4 h3 fun h5 =>
 onSome cap1 fun p5 =>
 ∃ (q3:Option Addr),cellOf h5 p5=some (.pointer q3) ∧
 onSome q3 fun p6 =>
 ∃ (q4:Option Addr),cellOf h5 (Addr.add p6 0)=some (.pointer q4) ∧
 onSome cap1 fun p7 =>
 ∃ (q5:Option Addr),cellOf h5 p7=some (.pointer q5) ∧
 onSome q5 fun p8 =>
 ∃ cs1:List Value,List.length cs1=5∧Cells h5 (Addr.add p8 1) cs1 ∧
 onSome cap1 fun p9 =>
 ∃ (q6:Option Addr),cellOf h5 p9=some (.pointer q6) ∧
 onSome q6 fun p10 =>
 ∃ cs2:List Value,List.length cs2=15∧Cells h5 (Addr.add p10 7) cs2 ∧
 C.bmap_Find q4 cs1 cs2 k1 h5 fun r1 h6 =>
 ∃ (n3:Int) (n4:Int),r1 = .tuple #[.int .i64 n3,.int .i64 n4] ∧
 Put (Addr.add ⟨h3.size,0,none⟩ 1) (.int .i64 n3) h6 fun h7 =>
 onSome cap1 fun p11 =>
 ∃ (q7:Option Addr),cellOf h7 p11=some (.pointer q7) ∧
 C.dir_reader_failed q7 n4 h7 fun r2 h8 =>
 ∃ (b1:Bool),r2 = .bool b1 ∧
 bif b1 then (
 K (.tuple #[]) h8) else (
 ∃ (n5:Int),cellOf h8 (Addr.add ⟨h3.size,0,none⟩ 1)=some (.int .i64 n5) ∧
 bif (n5 != 0) then (
 onSome cap1 fun p12 =>
 ∃ (q8:Option Addr),cellOf h8 p12=some (.pointer q8) ∧
 onSome q8 fun p13 =>
 ∃ (q9:Option Addr),cellOf h8 (Addr.add p13 0)=some (.pointer q9) ∧
 ∃ (n6:Int),cellOf h8 (Addr.add ⟨h3.size,0,none⟩ 1)=some (.int .i64 n6) ∧
 C.txn_Txn_Read q9 n6 h8 fun r3 h9 =>
 ∃ (sA1:Option Addr) (sL1:Nat) (sC1:Nat) (n7:Int),r3 = .tuple #[.slice sA1 sL1 sC1,.int .i64 n7] ∧
 Put (Addr.add ⟨h3.size,0,none⟩ 2) (.slice sA1 sL1 sC1) h9 fun h10 =>
 onSome cap1 fun p14 =>
 ∃ (q10:Option Addr),cellOf h10 p14=some (.pointer q10) ∧
 C.dir_reader_failed q10 n7 h10 fun r4 h11 =>
 ∃ (b2:Bool),r4 = .bool b2 ∧
 bif b2 then (
 K (.tuple #[]) h11) else (
 dir_reader_leaves_c1.k2 yield1 cap1 k1 h2 I1 M1 h3 h11 K)) else (
 dir_reader_leaves_c1.k2 yield1 cap1 k1 h2 I1 M1 h3 h8 K))
def dir_reader_leaves_c1 (yield1:Value) (cap1:Option Addr) (K:Value→Heap→Prop) (h1:Heap):Prop :=
 ∃ (I1:Int→Heap→Prop) (M1:Int→Heap→Nat),I1 0 h1 ∧
 ∀ (k1:Int),∀ h2:Heap,I1 k1 h2 →
 onSome cap1 fun p1 =>
 ∃ (q1:Option Addr),cellOf h2 p1=some (.pointer q1) ∧
 onSome q1 fun p2 =>
 ∃ (n1:Int),cellOf h2 (Addr.add p2 22)=some (.int .i64 n1) ∧
 bif (n1 == 0) then (
 onSome cap1 fun p3 =>
 ∃ (q2:Option Addr),cellOf h2 p3=some (.pointer q2) ∧
 onSome q2 fun p4 =>
 ∃ (n2:Int),cellOf h2 (Addr.add (Addr.add p4 7) 2)=some (.int .i64 n2) ∧
 bif (decide (k1<(IntKind.wrap .i64 (Int.tdiv n2 512)))) then (
 dir_reader_leaves_c1.k1 yield1 cap1 k1 h2 I1 M1 K) else (
 K (.tuple #[]) h2)) else (
 K (.tuple #[]) h2)
def dir_reader_leaves_c1.lo : Nat→List Nat×List (Nat×Ty):=fun n=>match n with|1=>([0,1],[(3,.int .i64)])|_=>([],[])
def dir_reader_leaves_c1.od : Nat→Od:=fun n=>match n with|5=>(.op 0 [] (.op 1 [] (.op 2 [] (.op 3 [] (.op 4 [] (.op 5 [] (.op 6 [] (.op 7 [] (.op 8 [] (.op 9 [] (.op 10 [] (.op 11 [] (.op 12 [] (.op 13 [] (.op 14 [] (.op 15 [] (.op 16 [] (.op 17 [] (.op 18 [] (.op 19 [] .nil))))))))))))))))))))|8=>(.op 0 [] (.op 1 [] (.op 2 [] (.op 3 [] (.op 4 [] (.op 5 [] (.op 6 [] (.op 7 [] (.op 8 [] (.op 9 [] (.op 10 [] (.op 11 [] (.op 12 [] .nil)))))))))))))|_ => .nil
theorem dir_reader_leaves_c1.ok {yield1:Value} {cap1:Option Addr} {K:Value→Heap→Prop} {h:Heap} (hx:dir_reader_leaves_c1 yield1 cap1 K h):C.dir_reader_leaves_c1 yield1 cap1 h K :=
 fn_to (c:=Tryz.f135.body.getD .skip) (cxOk dir_reader_leaves_c1.lo dir_reader_leaves_c1.od) Tryz.func135 (by kernel_rfl) (by kernel_rfl) (Eq.mpr (by kernel_rfl) hx)
def bmap_Find.k1 (t1:Option Addr) (k1:Int) (h1:Heap) (h2:Heap) (h3:Heap) (K:Value→Heap→Prop):Prop :=
 ∃ cs1:List Value,List.length cs1=5∧Cells h3 ⟨h1.size,0,none⟩ cs1 ∧
 ∃ cs2:List Value,List.length cs2=15∧Cells h3 ⟨h2.size,0,none⟩ cs2 ∧
 List.length (cs1:List Value)=5 ∧
 List.length (cs2:List Value)=15 ∧
 New ([.pointer t1]++(cs1++cs2)) 263 h3 fun h4 =>
 C.bmap_file_walk (some ⟨h3.size,0,none⟩) k1 (Value.func (.func 204) #[] ⟨[]⟩) h4 fun r1 h5 =>
 ∃ (n1:Int) (n2:Int),r1 = .tuple #[.int .i64 n1,.int .i64 n2] ∧
 K (.tuple #[.int .i64 n1,.int .i64 n2]) h5
def bmap_Find (t1:Option Addr) (g1:List Value) (x1:List Value) (k1:Int) (K:Value→Heap→Prop) (h1:Heap):Prop :=
 New g1 25 h1 fun h2 =>
 New x1 123 h2 fun h3 =>
 bif (decide (k1<0)) then (
 K (.tuple #[.int .i64 0,.int .i64 101]) h3) else (
 bif (decide (k1≥16522)) then (
 K (.tuple #[.int .i64 0,.int .i64 101]) h3) else (
 bmap_Find.k1 t1 k1 h1 h2 h3 K))
def bmap_Find.lo : Nat→List Nat×List (Nat×Ty):=fun n=>match n with|_=>([],[])
def bmap_Find.od : Nat→Od:=fun n=>match n with|_ => .nil
set_option maxRecDepth 1000000 in
set_option maxRecDepth 1000000 in
theorem bmap_Find.ok {t1:Option Addr} {g1:List Value} {x1:List Value} {k1:Int} {K:Value→Heap→Prop} {h:Heap} (hx:bmap_Find t1 g1 x1 k1 K h):C.bmap_Find t1 g1 x1 k1 h K :=
 fn_to (c:=Tryz.f136.body.getD .skip) (cxOk bmap_Find.lo bmap_Find.od) Tryz.func136 (by kernel_rfl) (by kernel_rfl) (Eq.mpr (by kernel_rfl) hx)
def dir_reader_failed (r1:Option Addr) (e1:Int) (K:Value→Heap→Prop) (h1:Heap):Prop :=
 onSome r1 fun p1 =>
 Put (Addr.add p1 22) (.int .i64 e1) h1 fun h2 =>
 K (.bool (e1 != 0)) h2
def dir_reader_failed.lo : Nat→List Nat×List (Nat×Ty):=fun n=>match n with|_=>([],[])
def dir_reader_failed.od : Nat→Od:=fun n=>match n with|_ => .nil
theorem dir_reader_failed.ok {r1:Option Addr} {e1:Int} {K:Value→Heap→Prop} {h:Heap} (hx:dir_reader_failed r1 e1 K h):C.dir_reader_failed r1 e1 h K :=
 fn_to (c:=Tryz.f137.body.getD .skip) (cxOk dir_reader_failed.lo dir_reader_failed.od) Tryz.func137 (by kernel_rfl) (by kernel_rfl) (Eq.mpr (by kernel_rfl) hx)
def slots_Read (bA1:Option Addr) (bL1:Nat) (bC1:Nat) (K:Value→Heap→Prop) (h1:Heap):Prop :=
 bif ((bL1:Int) != 512) then (
 K (.tuple #[.slice none 0 0,.int .i64 32]) h1) else (
 ∃ (I1:Option Addr→Nat→Nat→Int→Heap→Prop) (M1:Option Addr→Nat→Nat→Int→Heap→Nat),I1 none 0 0 0 h1 ∧
 ∀ (lA1:Option Addr) (lL1:Nat) (lC1:Nat) (n1:Int),∀ h2:Heap,I1 lA1 lL1 lC1 n1 h2 →
 bif (decide (n1<16)) then (
 C.slots_cell bA1 bL1 bC1 n1 h2 fun r1 h3 =>
 ∃ (sA1:Option Addr) (sL1:Nat) (sC1:Nat),r1 = .slice sA1 sL1 sC1 ∧
 C.slots_read sA1 sL1 sC1 h3 fun r2 h4 =>
 ∃ (n2:Int) (s1:ByteArray) (b1:Bool),r2 = .tuple #[.int .i64 n2,.string s1,.bool b1] ∧
 bif (!b1) then (
 K (.tuple #[.slice none 0 0,.int .i64 140]) h4) else (
 bif (n2 != 0) then (
 List.length ([.int .i64 n1,.string s1,.int .i64 n2]:List Value)=3 ∧
 New [.int .i64 n1,.string s1,.int .i64 n2] 113 h4 fun h5 =>
 ∃ new1:List Value,List.length new1=1*3∧SlCells h5 (some ⟨h4.size,0,none⟩) new1∧(∀ v ∈ new1,v.oneCell'=true) ∧
 AppendP ti113 113 lA1 lL1 lC1 1 new1 h5 fun sA2 sL2 sC2 h6 =>
 I1 sA2 sL2 sC2 (IntKind.wrap .i64 (n1+1)) h6∧M1 sA2 sL2 sC2 (IntKind.wrap .i64 (n1+1)) h6<M1 lA1 lL1 lC1 n1 h2) else (
 I1 lA1 lL1 lC1 (IntKind.wrap .i64 (n1+1)) h4∧M1 lA1 lL1 lC1 (IntKind.wrap .i64 (n1+1)) h4<M1 lA1 lL1 lC1 n1 h2))) else (
 K (.tuple #[.slice lA1 lL1 lC1,.int .i64 0]) h2))
def slots_Read.lo : Nat→List Nat×List (Nat×Ty):=fun n=>match n with|5=>([0],[(4,.slice),(12,.int .i64)])|_=>([],[])
def slots_Read.od : Nat→Od:=fun n=>match n with|_ => .nil
theorem slots_Read.ok {bA1:Option Addr} {bL1:Nat} {bC1:Nat} {K:Value→Heap→Prop} {h:Heap} (hx:slots_Read bA1 bL1 bC1 K h):C.slots_Read bA1 bL1 bC1 h K :=
 fn_to (c:=Tryz.f138.body.getD .skip) (cxOk slots_Read.lo slots_Read.od) Tryz.func138 (by kernel_rfl) (by kernel_rfl) (Eq.mpr (by kernel_rfl) hx)
def slots_cell (bA1:Option Addr) (bL1:Nat) (bC1:Nat) (k1:Int) (K:Value→Heap→Prop) (h1:Heap):Prop :=
 (0≤(IntKind.wrap .i64 (32*k1))∧(IntKind.wrap .i64 (32*k1))≤(IntKind.wrap .i64 ((IntKind.wrap .i64 (32*k1))+32))∧(IntKind.wrap .i64 ((IntKind.wrap .i64 (32*k1))+32))≤(IntKind.wrap .i64 ((IntKind.wrap .i64 (32*k1))+32))∧(IntKind.wrap .i64 ((IntKind.wrap .i64 (32*k1))+32))≤(bC1:Int)) ∧
 K (.slice (if (Int.toNat (IntKind.wrap .i64 ((IntKind.wrap .i64 (32*k1))+32)))=(Int.toNat (IntKind.wrap .i64 (32*k1))) then bA1 else Option.map (Addr.add · (Int.toNat (IntKind.wrap .i64 (32*k1)))) bA1) ((Int.toNat (IntKind.wrap .i64 ((IntKind.wrap .i64 (32*k1))+32))) - (Int.toNat (IntKind.wrap .i64 (32*k1)))) ((Int.toNat (IntKind.wrap .i64 ((IntKind.wrap .i64 (32*k1))+32))) - (Int.toNat (IntKind.wrap .i64 (32*k1))))) h1
def slots_cell.lo : Nat→List Nat×List (Nat×Ty):=fun n=>match n with|_=>([],[])
def slots_cell.od : Nat→Od:=fun n=>match n with|_ => .nil
theorem slots_cell.ok {bA1:Option Addr} {bL1:Nat} {bC1:Nat} {k1:Int} {K:Value→Heap→Prop} {h:Heap} (hx:slots_cell bA1 bL1 bC1 k1 K h):C.slots_cell bA1 bL1 bC1 k1 h K :=
 fn_to (c:=Tryz.f143.body.getD .skip) (cxOk slots_cell.lo slots_cell.od) Tryz.func143 (by kernel_rfl) (by kernel_rfl) (Eq.mpr (by kernel_rfl) hx)
def bmap_file_look (f1:Option Addr) (num1:Int) (K:Value→Heap→Prop) (h1:Heap):Prop :=
 onSome f1 fun p1 =>
 ∃ (n1:Int),cellOf h1 (Addr.add (Addr.add p1 1) 3)=some (.int .i64 n1) ∧
 bif (decide (num1<n1)) then (
 K (.int .i64 100) h1) else (
 onSome f1 fun p2 =>
 ∃ (n2:Int),cellOf h1 (Addr.add (Addr.add p2 1) 0)=some (.int .i64 n2) ∧
 bif (decide (num1≥n2)) then (
 K (.int .i64 100) h1) else (
 K (.int .i64 0) h1))
def bmap_file_look.lo : Nat→List Nat×List (Nat×Ty):=fun n=>match n with|_=>([],[])
def bmap_file_look.od : Nat→Od:=fun n=>match n with|_ => .nil
theorem bmap_file_look.ok {f1:Option Addr} {num1:Int} {K:Value→Heap→Prop} {h:Heap} (hx:bmap_file_look f1 num1 K h):C.bmap_file_look f1 num1 h K :=
 fn_to (c:=Tryz.f151.body.getD .skip) (cxOk bmap_file_look.lo bmap_file_look.od) Tryz.func151 (by kernel_rfl) (by kernel_rfl) (Eq.mpr (by kernel_rfl) hx)
def bolelaw16_may (s1:ByteArray) (K:Value→Heap→Prop) (h1:Heap):Prop :=
 ∃ (I1:Int→Heap→Prop) (M1:Int→Heap→Nat),I1 0 h1 ∧
 ∀ (i1:Int),∀ h2:Heap,I1 i1 h2 →
 bif (decide (i1<(s1.size:Int))) then (
 (0≤i1∧i1<(s1.size:Int)) ∧
 ∃ b1:UInt8,s1.toList[Int.toNat i1]?=some b1 ∧
 bif (((UInt8.toNat b1:Nat):Int) == 47) then (
 K (.bool false) h2) else (
 (0≤i1∧i1<(s1.size:Int)) ∧
 ∃ b2:UInt8,s1.toList[Int.toNat i1]?=some b2 ∧
 bif (((UInt8.toNat b2:Nat):Int) == 0) then (
 K (.bool false) h2) else (
 I1 (IntKind.wrap .i64 (i1+1)) h2∧M1 (IntKind.wrap .i64 (i1+1)) h2<M1 i1 h2))) else (
 bif (decide ((s1.size:Int)≥1)) then (
 bif (decide ((s1.size:Int)≤27)) then (
 bif (!(s1.toList == (mkStr [46]).toList)) then (
 K (.bool (!(s1.toList == (mkStr [46,46]).toList))) h2) else (
 K (.bool false) h2)) else (
 K (.bool false) h2)) else (
 K (.bool false) h2))
def bolelaw16_may.lo : Nat→List Nat×List (Nat×Ty):=fun n=>match n with|2=>([0],[(3,.int .i64)])|_=>([],[])
def bolelaw16_may.od : Nat→Od:=fun n=>match n with|_ => .nil
theorem bolelaw16_may.ok {s1:ByteArray} {K:Value→Heap→Prop} {h:Heap} (hx:bolelaw16_may s1 K h):C.bolelaw16_may s1 h K :=
 fn_to (c:=Tryz.f157.body.getD .skip) (cxOk bolelaw16_may.lo bolelaw16_may.od) Tryz.func157 (by kernel_rfl) (by kernel_rfl) (Eq.mpr (by kernel_rfl) hx)
def bolelaw16_letters (i1:Int) (K:Value→Heap→Prop) (h1:Heap):Prop :=
 New [.int .u8 (IntKind.wrap .u8 ((IntKind.wrap .i64 (97+(Int.tmod (IntKind.wrap .i64 (Int.tdiv i1 26)) 26))))),.int .u8 (IntKind.wrap .u8 ((IntKind.wrap .i64 (97+(Int.tmod i1 26)))))] 5 h1 fun h2 =>
 ∃ bs1:List UInt8,StrAt h2 (some ⟨h1.size,0,none⟩) 2 bs1 ∧
 (((mkStr [110]).size+(mkStr bs1).size:Nat):Int)≤9223372036854775807 ∧
 K (.string ((mkStr [110])++(mkStr bs1))) h2
def bolelaw16_letters.lo : Nat→List Nat×List (Nat×Ty):=fun n=>match n with|_=>([],[])
def bolelaw16_letters.od : Nat→Od:=fun n=>match n with|_ => .nil
theorem bolelaw16_letters.ok {i1:Int} {K:Value→Heap→Prop} {h:Heap} (hx:bolelaw16_letters i1 K h):C.bolelaw16_letters i1 h K :=
 fn_to (c:=Tryz.f158.body.getD .skip) (cxOk bolelaw16_letters.lo bolelaw16_letters.od) Tryz.func158 (by kernel_rfl) (by kernel_rfl) (Eq.mpr (by kernel_rfl) hx)
def bolelaw16_text (s1:ByteArray) (K:Value→Heap→Prop) (h1:Heap):Prop :=
 C.bolelaw16_pieces s1 h1 fun r1 h2 =>
 ∃ (sA1:Option Addr) (sL1:Nat) (sC1:Nat),r1 = .slice sA1 sL1 sC1 ∧
 ∃ (I1:Int→Heap→Prop) (M1:Int→Heap→Nat),I1 0 h2 ∧
 ∀ (i1:Int),∀ h3:Heap,I1 i1 h3 →
 bif (decide (i1<(s1.size:Int))) then (
 (0≤i1∧i1<(s1.size:Int)) ∧
 ∃ b1:UInt8,s1.toList[Int.toNat i1]?=some b1 ∧
 bif (((UInt8.toNat b1:Nat):Int) == 0) then (
 K (.bool false) h3) else (
 I1 (IntKind.wrap .i64 (i1+1)) h3∧M1 (IntKind.wrap .i64 (i1+1)) h3<M1 i1 h3)) else (
 ∃ (I2:Int→Heap→Prop) (M2:Int→Heap→Nat),I2 0 h3 ∧
 ∀ (n1:Int),∀ h4:Heap,I2 n1 h4 →
 bif (decide (n1<(sL1:Int))) then (
 (0≤n1∧n1<(sL1:Int)) ∧
 onSome sA1 fun p1 =>
 ∃ (s2:ByteArray),cellOf h4 (Addr.add p1 (Int.toNat n1))=some (.string s2) ∧
 bif (decide ((s2.size:Int)>27)) then (
 K (.bool false) h4) else (
 I2 (IntKind.wrap .i64 (n1+1)) h4∧M2 (IntKind.wrap .i64 (n1+1)) h4<M2 n1 h4)) else (
 bif (decide ((s1.size:Int)≥1)) then (
 bif (decide ((s1.size:Int)≤1024)) then (
 K (.bool (decide ((sL1:Int)≤32))) h4) else (
 K (.bool false) h4)) else (
 K (.bool false) h4)))
def bolelaw16_text.lo : Nat→List Nat×List (Nat×Ty):=fun n=>match n with|3=>([0,3],[(4,.int .i64)])|8=>([0,3,19,20],[(21,.int .i64)])|_=>([],[])
def bolelaw16_text.od : Nat→Od:=fun n=>match n with|_ => .nil
theorem bolelaw16_text.ok {s1:ByteArray} {K:Value→Heap→Prop} {h:Heap} (hx:bolelaw16_text s1 K h):C.bolelaw16_text s1 h K :=
 fn_to (c:=Tryz.f159.body.getD .skip) (cxOk bolelaw16_text.lo bolelaw16_text.od) Tryz.func159 (by kernel_rfl) (by kernel_rfl) (Eq.mpr (by kernel_rfl) hx)
def walk_row_top (r1:Option Addr) (K:Value→Heap→Prop) (h1:Heap):Prop :=
 New [.int .i64 1] 3 h1 fun h2 =>
 onSome r1 fun p1 =>
 Put (Addr.add p1 0) (.slice (some ⟨h1.size,0,none⟩) 1 1) h2 fun h3 =>
 K (.tuple #[]) h3
def walk_row_top.lo : Nat→List Nat×List (Nat×Ty):=fun n=>match n with|_=>([],[])
def walk_row_top.od : Nat→Od:=fun n=>match n with|_ => .nil
theorem walk_row_top.ok {r1:Option Addr} {K:Value→Heap→Prop} {h:Heap} (hx:walk_row_top r1 K h):C.walk_row_top r1 h K :=
 fn_to (c:=Tryz.f160.body.getD .skip) (cxOk walk_row_top.lo walk_row_top.od) Tryz.func160 (by kernel_rfl) (by kernel_rfl) (Eq.mpr (by kernel_rfl) hx)
def walk_row_up (r1:Option Addr) (K:Value→Heap→Prop) (h1:Heap):Prop :=
 onSome r1 fun p1 =>
 ∃ (sA1:Option Addr) (sL1:Nat) (sC1:Nat),cellOf h1 (Addr.add p1 0)=some (.slice sA1 sL1 sC1) ∧
 bif (decide ((sL1:Int)>1)) then (
 onSome r1 fun p2 =>
 ∃ (sA2:Option Addr) (sL2:Nat) (sC2:Nat),cellOf h1 (Addr.add p2 0)=some (.slice sA2 sL2 sC2) ∧
 onSome r1 fun p3 =>
 ∃ (sA3:Option Addr) (sL3:Nat) (sC3:Nat),cellOf h1 (Addr.add p3 0)=some (.slice sA3 sL3 sC3) ∧
 (0≤(IntKind.wrap .i64 ((sL3:Int) - 1))∧(IntKind.wrap .i64 ((sL3:Int) - 1))≤(sC2:Int)) ∧
 onSome r1 fun p4 =>
 Put (Addr.add p4 0) (.slice sA2 (Int.toNat (IntKind.wrap .i64 ((sL3:Int) - 1))) sC2) h1 fun h2 =>
 K (.tuple #[]) h2) else (
 K (.tuple #[]) h1)
def walk_row_up.lo : Nat→List Nat×List (Nat×Ty):=fun n=>match n with|_=>([],[])
def walk_row_up.od : Nat→Od:=fun n=>match n with|1=>(.op 0 [] (.op 1 [] (.op 2 [] (.op 3 [] (.op 4 [] (.op 5 [] (.op 6 [] (.op 7 [] (.op 8 [] (.op 9 [] (.op 10 [] (.op 11 [] (.op 12 [] (.op 13 [] (.op 14 [] .nil)))))))))))))))|_ => .nil
theorem walk_row_up.ok {r1:Option Addr} {K:Value→Heap→Prop} {h:Heap} (hx:walk_row_up r1 K h):C.walk_row_up r1 h K :=
 fn_to (c:=Tryz.f161.body.getD .skip) (cxOk walk_row_up.lo walk_row_up.od) Tryz.func161 (by kernel_rfl) (by kernel_rfl) (Eq.mpr (by kernel_rfl) hx)
def walk_walk_met (w1:Option Addr) (kind1:Int) (n1:Int) (K:Value→Heap→Prop) (h1:Heap):Prop :=
 NewRow z331 331 [.func (.func 225) #[] ⟨[]⟩,.func (.func 225) #[] ⟨[]⟩,.func (.func 226) #[] ⟨[]⟩,.func (.func 227) #[] ⟨[]⟩] 4 h1 fun h3 =>
 (0≤kind1∧kind1<(4:Int)) ∧
 ∃ (v1:Value),cellOf h3 (Addr.add ⟨h1.size,0,none⟩ (Int.toNat kind1))=some (v1) ∧
 HCallsV Tryz.prog v1 [.pointer w1,.int .i64 n1] h3 fun r1 h4 =>
 ∃ (b1:Bool) (n2:Int),r1 = .tuple #[.bool b1,.int .i64 n2] ∧
 K (.tuple #[.bool b1,.int .i64 n2]) h4
def walk_walk_met.lo : Nat→List Nat×List (Nat×Ty):=fun n=>match n with|_=>([],[])
def walk_walk_met.od : Nat→Od:=fun n=>match n with|_ => .nil
theorem walk_walk_met.ok {w1:Option Addr} {kind1:Int} {n1:Int} {K:Value→Heap→Prop} {h:Heap} (hx:walk_walk_met w1 kind1 n1 K h):C.walk_walk_met w1 kind1 n1 h K :=
 fn_to (c:=Tryz.f162.body.getD .skip) (cxOk walk_walk_met.lo walk_walk_met.od) Tryz.func162 (by kernel_rfl) (by kernel_rfl) (Eq.mpr (by kernel_rfl) hx)
def slices_Clone_int_int (sA1:Option Addr) (sL1:Nat) (sC1:Nat) (K:Value→Heap→Prop) (h1:Heap):Prop :=
 bif (Option.isNone sA1) then (
 K (.slice none 0 0) h1) else (
 New [] 3 h1 fun h2 =>
 ∃ new1:List Value,List.length new1=sL1*1∧SlCells h2 sA1 new1∧(∀ v ∈ new1,v.oneCell'=true) ∧
 AppendP ti3 3 (some ⟨h1.size,0,none⟩) 0 0 sL1 new1 h2 fun sA2 sL2 sC2 h3 =>
 K (.slice sA2 sL2 sC2) h3)
def slices_Clone_int_int.lo : Nat→List Nat×List (Nat×Ty):=fun n=>match n with|_=>([],[])
def slices_Clone_int_int.od : Nat→Od:=fun n=>match n with|_ => .nil
theorem slices_Clone_int_int.ok {sA1:Option Addr} {sL1:Nat} {sC1:Nat} {K:Value→Heap→Prop} {h:Heap} (hx:slices_Clone_int_int sA1 sL1 sC1 K h):C.slices_Clone_int_int sA1 sL1 sC1 h K :=
 fn_to (c:=Tryz.f163.body.getD .skip) (cxOk slices_Clone_int_int.lo slices_Clone_int_int.od) Tryz.func163 (by kernel_rfl) (by kernel_rfl) (Eq.mpr (by kernel_rfl) hx)
def strings_IndexByte (s1:ByteArray) (c1:Int) (K:Value→Heap→Prop) (h1:Heap):Prop :=
 C.internal_stringslite_IndexByte s1 c1 h1 fun r1 h2 =>
 ∃ (n1:Int),r1 = .int .i64 n1 ∧
 K (.int .i64 n1) h2
def strings_IndexByte.lo : Nat→List Nat×List (Nat×Ty):=fun n=>match n with|_=>([],[])
def strings_IndexByte.od : Nat→Od:=fun n=>match n with|_ => .nil
theorem strings_IndexByte.ok {s1:ByteArray} {c1:Int} {K:Value→Heap→Prop} {h:Heap} (hx:strings_IndexByte s1 c1 K h):C.strings_IndexByte s1 c1 h K :=
 fn_to (c:=Tryz.f164.body.getD .skip) (cxOk strings_IndexByte.lo strings_IndexByte.od) Tryz.func164 (by kernel_rfl) (by kernel_rfl) (Eq.mpr (by kernel_rfl) hx)
def inode_isInode (g1:List Value) (n1:Int) (K:Value→Heap→Prop) (h1:Heap):Prop :=
 New g1 25 h1 fun h2 =>
 ∃ (n2:Int),cellOf h2 (Addr.add ⟨h1.size,0,none⟩ 4)=some (.int .i64 n2) ∧
 C.inode_within n1 1 (IntKind.wrap .i64 (n2 - 1)) h2 fun r1 h3 =>
 ∃ (b1:Bool),r1 = .bool b1 ∧
 K (.bool b1) h3
def inode_isInode.lo : Nat→List Nat×List (Nat×Ty):=fun n=>match n with|_=>([],[])
def inode_isInode.od : Nat→Od:=fun n=>match n with|_ => .nil
theorem inode_isInode.ok {g1:List Value} {n1:Int} {K:Value→Heap→Prop} {h:Heap} (hx:inode_isInode g1 n1 K h):C.inode_isInode g1 n1 h K :=
 fn_to (c:=Tryz.f165.body.getD .skip) (cxOk inode_isInode.lo inode_isInode.od) Tryz.func165 (by kernel_rfl) (by kernel_rfl) (Eq.mpr (by kernel_rfl) hx)
def inode_place (t1:Option Addr) (g1:List Value) (n1:Int) (K:Value→Heap→Prop) (h1:Heap):Prop :=
 New g1 25 h1 fun h2 =>
 ∃ cs1:List Value,List.length cs1=5∧Cells h2 ⟨h1.size,0,none⟩ cs1 ∧
 C.geo_Record cs1 n1 h2 fun r1 h3 =>
 ∃ (n2:Int) (n3:Int) (n4:Int),r1 = .tuple #[.int .i64 n2,.int .i64 n3,.int .i64 n4] ∧
 bif (n4 != 0) then (
 K (.tuple #[.int .i64 0,.slice none 0 0,.int .i64 0,.int .i64 n4]) h3) else (
 C.txn_Txn_Read t1 n2 h3 fun r2 h4 =>
 ∃ (sA1:Option Addr) (sL1:Nat) (sC1:Nat) (n5:Int),r2 = .tuple #[.slice sA1 sL1 sC1,.int .i64 n5] ∧
 K (.tuple #[.int .i64 n2,.slice sA1 sL1 sC1,.int .i64 n3,.int .i64 n5]) h4)
def inode_place.lo : Nat→List Nat×List (Nat×Ty):=fun n=>match n with|_=>([],[])
def inode_place.od : Nat→Od:=fun n=>match n with|_ => .nil
theorem inode_place.ok {t1:Option Addr} {g1:List Value} {n1:Int} {K:Value→Heap→Prop} {h:Heap} (hx:inode_place t1 g1 n1 K h):C.inode_place t1 g1 n1 h K :=
 fn_to (c:=Tryz.f166.body.getD .skip) (cxOk inode_place.lo inode_place.od) Tryz.func166 (by kernel_rfl) (by kernel_rfl) (Eq.mpr (by kernel_rfl) hx)
end Go.Proofs.YtiapingedfnlnaaGreatDoor.W
namespace Go.Proofs.YtiapingedfnlnaaGreatDoor.W
open Go Go.Proofs Wx
def inode_Decode (bA1:Option Addr) (bL1:Nat) (bC1:Nat) (K:Value→Heap→Prop) (h1:Heap):Prop :=
 New [.slice bA1 bL1 bC1] 86 h1 fun h2 =>
 New z123 123 h2 fun h3 =>
 ∃ (sA1:Option Addr) (sL1:Nat) (sC1:Nat),cellOf h3 ⟨h1.size,0,none⟩=some (.slice sA1 sL1 sC1) ∧
 bif ((sL1:Int) != 64) then (
 PutRow ⟨h2.size,0,none⟩ [.int .i64 0,.int .i64 0,.int .i64 0,.int .i64 0,.int .i64 0,.int .i64 0,.int .i64 0,.int .i64 0,.int .i64 0,.int .i64 0,.int .i64 0,.int .i64 0,.int .i64 0,.int .i64 0,.int .i64 0] 15 h3 fun h4 =>
 ∃ res1:List Value,List.length res1=15∧Cells h4 ⟨h2.size,0,none⟩ res1 ∧
 K (.tuple #[.agg ⟨res1⟩,.int .i64 32]) h4) else (
 C.inode_Decode_c1 0 1 (some ⟨h1.size,0,none⟩) h3 fun r1 h5 =>
 ∃ (n1:Int),r1 = .int .i64 n1 ∧
 C.inode_Decode_c1 2 2 (some ⟨h1.size,0,none⟩) h5 fun r2 h6 =>
 ∃ (n2:Int),r2 = .int .i64 n2 ∧
 C.inode_Decode_c1 4 4 (some ⟨h1.size,0,none⟩) h6 fun r3 h7 =>
 ∃ (n3:Int),r3 = .int .i64 n3 ∧
 C.inode_Decode_c1 48 4 (some ⟨h1.size,0,none⟩) h7 fun r4 h8 =>
 ∃ (n4:Int),r4 = .int .i64 n4 ∧
 C.inode_Decode_c1 52 4 (some ⟨h1.size,0,none⟩) h8 fun r5 h9 =>
 ∃ (n5:Int),r5 = .int .i64 n5 ∧
 NewRow z123 123 [.int .i64 n1,.int .i64 n2,.int .i64 n3,.int .i64 0,.int .i64 0,.int .i64 0,.int .i64 0,.int .i64 0,.int .i64 0,.int .i64 0,.int .i64 0,.int .i64 0,.int .i64 0,.int .i64 n4,.int .i64 n5] 15 h9 fun h11 =>
 ∃ (I1:Int→Heap→Prop) (M1:Int→Heap→Nat),I1 0 h11 ∧
 ∀ (n6:Int),∀ h12:Heap,I1 n6 h12 →
 bif (decide (n6<10)) then (
 C.inode_Decode_c1 (IntKind.wrap .i64 (8+(IntKind.wrap .i64 (4*n6)))) 4 (some ⟨h1.size,0,none⟩) h12 fun r6 h13 =>
 ∃ (n7:Int),r6 = .int .i64 n7 ∧
 (0≤n6∧n6<(10:Int)) ∧
 Put (Addr.add (Addr.add ⟨h9.size,0,none⟩ 3) (Int.toNat n6)) (.int .i64 n7) h13 fun h14 =>
 I1 (IntKind.wrap .i64 (n6+1)) h14∧M1 (IntKind.wrap .i64 (n6+1)) h14<M1 n6 h12) else (
 ∃ (sA2:Option Addr) (sL2:Nat) (sC2:Nat),cellOf h12 ⟨h1.size,0,none⟩=some (.slice sA2 sL2 sC2) ∧
 C.rec_Zero sA2 sL2 sC2 1 1 h12 fun r7 h15 =>
 ∃ (b1:Bool) (n8:Int),r7 = .tuple #[.bool b1,.int .i64 n8] ∧
 ∃ (sA3:Option Addr) (sL3:Nat) (sC3:Nat),cellOf h15 ⟨h1.size,0,none⟩=some (.slice sA3 sL3 sC3) ∧
 C.rec_Zero sA3 sL3 sC3 56 8 h15 fun r8 h16 =>
 ∃ (b2:Bool) (n9:Int),r8 = .tuple #[.bool b2,.int .i64 n9] ∧
 bif (!b1) then (
 PutRow ⟨h2.size,0,none⟩ [.int .i64 0,.int .i64 0,.int .i64 0,.int .i64 0,.int .i64 0,.int .i64 0,.int .i64 0,.int .i64 0,.int .i64 0,.int .i64 0,.int .i64 0,.int .i64 0,.int .i64 0,.int .i64 0,.int .i64 0] 15 h16 fun h17 =>
 ∃ res2:List Value,List.length res2=15∧Cells h17 ⟨h2.size,0,none⟩ res2 ∧
 K (.tuple #[.agg ⟨res2⟩,.int .i64 111]) h17) else (
 bif (!b2) then (
 PutRow ⟨h2.size,0,none⟩ [.int .i64 0,.int .i64 0,.int .i64 0,.int .i64 0,.int .i64 0,.int .i64 0,.int .i64 0,.int .i64 0,.int .i64 0,.int .i64 0,.int .i64 0,.int .i64 0,.int .i64 0,.int .i64 0,.int .i64 0] 15 h16 fun h18 =>
 ∃ res3:List Value,List.length res3=15∧Cells h18 ⟨h2.size,0,none⟩ res3 ∧
 K (.tuple #[.agg ⟨res3⟩,.int .i64 111]) h18) else (
 ∃ cs1:List Value,List.length cs1=15∧Cells h16 ⟨h9.size,0,none⟩ cs1 ∧
 C.inode_may cs1 h16 fun r9 h19 =>
 ∃ (b3:Bool),r9 = .bool b3 ∧
 bif (!b3) then (
 PutRow ⟨h2.size,0,none⟩ [.int .i64 0,.int .i64 0,.int .i64 0,.int .i64 0,.int .i64 0,.int .i64 0,.int .i64 0,.int .i64 0,.int .i64 0,.int .i64 0,.int .i64 0,.int .i64 0,.int .i64 0,.int .i64 0,.int .i64 0] 15 h19 fun h20 =>
 ∃ res4:List Value,List.length res4=15∧Cells h20 ⟨h2.size,0,none⟩ res4 ∧
 K (.tuple #[.agg ⟨res4⟩,.int .i64 111]) h20) else (
 ∃ cs2:List Value,List.length cs2=15∧Cells h19 ⟨h9.size,0,none⟩ cs2 ∧
 PutRow ⟨h2.size,0,none⟩ cs2 15 h19 fun h21 =>
 ∃ res5:List Value,List.length res5=15∧Cells h21 ⟨h2.size,0,none⟩ res5 ∧
 K (.tuple #[.agg ⟨res5⟩,.int .i64 0]) h21)))))
def inode_Decode.lo : Nat→List Nat×List (Nat×Ty):=fun n=>match n with|6=>([1,2,4,5],[(27,.int .i64)])|_=>([],[])
def inode_Decode.od : Nat→Od:=fun n=>match n with|_ => .nil
theorem inode_Decode.ok {bA1:Option Addr} {bL1:Nat} {bC1:Nat} {K:Value→Heap→Prop} {h:Heap} (hx:inode_Decode bA1 bL1 bC1 K h):C.inode_Decode bA1 bL1 bC1 h K :=
 fn_to (c:=Tryz.f167.body.getD .skip) (cxOk inode_Decode.lo inode_Decode.od) Tryz.func167 (by kernel_rfl) (by kernel_rfl) (Eq.mpr (by kernel_rfl) hx)
def path_pieces_c1.k1 (yield1:Value) (cap1:Option Addr) (at1:Int) (h2:Heap) (I1:Int→Heap→Prop) (M1:Int→Heap→Nat) (end2:Int) (h4:Heap) (K:Value→Heap→Prop):Prop :=
 onSome cap1 fun p5 =>
 ∃ (s5:ByteArray),cellOf h4 p5=some (.string s5) ∧
 (0≤at1∧at1≤end2∧end2≤(s5.size:Int)) ∧
 HCallsV Tryz.prog yield1 [.string (ByteArray.extract s5 (Int.toNat at1) (Int.toNat end2))] h4 fun r1 h5 =>
 ∃ (b3:Bool),r1 = .bool b3 ∧
 bif (!b3) then (
 K (.tuple #[]) h5) else (
 I1 end2 h5∧M1 end2 h5<M1 at1 h2)
def path_pieces_c1 (yield1:Value) (cap1:Option Addr) (K:Value→Heap→Prop) (h1:Heap):Prop :=
 ∃ (I1:Int→Heap→Prop) (M1:Int→Heap→Nat),I1 0 h1 ∧
 ∀ (at1:Int),∀ h2:Heap,I1 at1 h2 →
 onSome cap1 fun p1 =>
 ∃ (s1:ByteArray),cellOf h2 p1=some (.string s1) ∧
 bif (decide (at1<(s1.size:Int))) then (
 onSome cap1 fun p2 =>
 ∃ (s2:ByteArray),cellOf h2 p2=some (.string s2) ∧
 (0≤at1∧at1<(s2.size:Int)) ∧
 ∃ b1:UInt8,s2.toList[Int.toNat at1]?=some b1 ∧
 bif (((UInt8.toNat b1:Nat):Int) == 47) then (
 I1 (IntKind.wrap .i64 (at1+1)) h2∧M1 (IntKind.wrap .i64 (at1+1)) h2<M1 at1 h2) else (
 ∃ (I2:Int→Heap→Prop) (M2:Int→Heap→Nat),I2 at1 h2 ∧
 ∀ (end1:Int),∀ h3:Heap,I2 end1 h3 →
 onSome cap1 fun p3 =>
 ∃ (s3:ByteArray),cellOf h3 p3=some (.string s3) ∧
 bif (decide (end1<(s3.size:Int))) then (
 onSome cap1 fun p4 =>
 ∃ (s4:ByteArray),cellOf h3 p4=some (.string s4) ∧
 (0≤end1∧end1<(s4.size:Int)) ∧
 ∃ b2:UInt8,s4.toList[Int.toNat end1]?=some b2 ∧
 bif (((UInt8.toNat b2:Nat):Int) != 47) then (
 I2 (IntKind.wrap .i64 (end1+1)) h3∧M2 (IntKind.wrap .i64 (end1+1)) h3<M2 end1 h3) else (
 path_pieces_c1.k1 yield1 cap1 at1 h2 I1 M1 end1 h3 K)) else (
 path_pieces_c1.k1 yield1 cap1 at1 h2 I1 M1 end1 h3 K))) else (
 K (.tuple #[]) h2)
def path_pieces_c1.lo : Nat→List Nat×List (Nat×Ty):=fun n=>match n with|1=>([0,1],[(3,.int .i64)])|5=>([0,1,3],[(4,.int .i64)])|_=>([],[])
def path_pieces_c1.od : Nat→Od:=fun n=>match n with|_ => .nil
theorem path_pieces_c1.ok {yield1:Value} {cap1:Option Addr} {K:Value→Heap→Prop} {h:Heap} (hx:path_pieces_c1 yield1 cap1 K h):C.path_pieces_c1 yield1 cap1 h K :=
 fn_to (c:=Tryz.f181.body.getD .skip) (cxOk path_pieces_c1.lo path_pieces_c1.od) Tryz.func181 (by kernel_rfl) (by kernel_rfl) (Eq.mpr (by kernel_rfl) hx)
def adisk_Disk_Blocks (d1:Option Addr) (K:Value→Heap→Prop) (h1:Heap):Prop :=
 onSome d1 fun p1 =>
 ∃ (sA1:Option Addr) (sL1:Nat) (sC1:Nat),cellOf h1 (Addr.add p1 0)=some (.slice sA1 sL1 sC1) ∧
 K (.int .i64 (sL1:Int)) h1
def adisk_Disk_Blocks.lo : Nat→List Nat×List (Nat×Ty):=fun n=>match n with|_=>([],[])
def adisk_Disk_Blocks.od : Nat→Od:=fun n=>match n with|_ => .nil
theorem adisk_Disk_Blocks.ok {d1:Option Addr} {K:Value→Heap→Prop} {h:Heap} (hx:adisk_Disk_Blocks d1 K h):C.adisk_Disk_Blocks d1 h K :=
 fn_to (c:=Tryz.f187.body.getD .skip) (cxOk adisk_Disk_Blocks.lo adisk_Disk_Blocks.od) Tryz.func187 (by kernel_rfl) (by kernel_rfl) (Eq.mpr (by kernel_rfl) hx)
def slices_Clone_byte_byte (sA1:Option Addr) (sL1:Nat) (sC1:Nat) (K:Value→Heap→Prop) (h1:Heap):Prop :=
 bif (Option.isNone sA1) then (
 K (.slice none 0 0) h1) else (
 New [] 5 h1 fun h2 =>
 ∃ new1:List Value,List.length new1=sL1*1∧SlCells h2 sA1 new1∧(∀ v ∈ new1,v.oneCell'=true) ∧
 AppendP ti5 5 (some ⟨h1.size,0,none⟩) 0 0 sL1 new1 h2 fun sA2 sL2 sC2 h3 =>
 K (.slice sA2 sL2 sC2) h3)
def slices_Clone_byte_byte.lo : Nat→List Nat×List (Nat×Ty):=fun n=>match n with|_=>([],[])
def slices_Clone_byte_byte.od : Nat→Od:=fun n=>match n with|_ => .nil
theorem slices_Clone_byte_byte.ok {sA1:Option Addr} {sL1:Nat} {sC1:Nat} {K:Value→Heap→Prop} {h:Heap} (hx:slices_Clone_byte_byte sA1 sL1 sC1 K h):C.slices_Clone_byte_byte sA1 sL1 sC1 h K :=
 fn_to (c:=Tryz.f189.body.getD .skip) (cxOk slices_Clone_byte_byte.lo slices_Clone_byte_byte.od) Tryz.func189 (by kernel_rfl) (by kernel_rfl) (Eq.mpr (by kernel_rfl) hx)
end Go.Proofs.YtiapingedfnlnaaGreatDoor.W
namespace Go.Proofs.YtiapingedfnlnaaGreatDoor.W
open Go Go.Proofs Wx
def adisk_Disk_Read (d1:Option Addr) (i1:Int) (K:Value→Heap→Prop) (h1:Heap):Prop :=
 onSome d1 fun p1 =>
 ∃ (b1:Bool),cellOf h1 (Addr.add p1 4)=some (.bool b1) ∧
 bif b1 then (
 K (.tuple #[.slice none 0 0,.int .i64 30]) h1) else (
 C.adisk_Disk_has d1 i1 h1 fun r1 h2 =>
 ∃ (b2:Bool),r1 = .bool b2 ∧
 bif (!b2) then (
 K (.tuple #[.slice none 0 0,.int .i64 31]) h2) else (
 onSome d1 fun p2 =>
 ∃ (sA1:Option Addr) (sL1:Nat) (sC1:Nat),cellOf h2 (Addr.add p2 0)=some (.slice sA1 sL1 sC1) ∧
 (0≤i1∧i1<(sL1:Int)) ∧
 onSome sA1 fun p3 =>
 ∃ cs1:List Value,List.length cs1=512∧Cells h2 (Addr.add p3 ((Int.toNat i1)*512)) cs1 ∧
 NewRow z237 237 cs1 512 h2 fun h4 =>
 onSome d1 fun p4 =>
 ∃ (sA2:Option Addr) (sL2:Nat) (sC2:Nat),cellOf h4 (Addr.add p4 1)=some (.slice sA2 sL2 sC2) ∧
 ∃ (I1:Int→Heap→Prop) (M1:Int→Heap→Nat),I1 0 h4 ∧
 ∀ (n1:Int),∀ h5:Heap,I1 n1 h5 →
 bif (decide (n1<(sL2:Int))) then (
 (0≤n1∧n1<(sL2:Int)) ∧
 onSome sA2 fun p5 =>
 ∃ cs2:List Value,List.length cs2=513∧Cells h5 (Addr.add p5 ((Int.toNat n1)*513)) cs2 ∧
 NewRow z358 358 cs2 513 h5 fun h7 =>
 ∃ (n2:Int),cellOf h7 (Addr.add ⟨h5.size,0,none⟩ 0)=some (.int .i64 n2) ∧
 bif (n2 == i1) then (
 ∃ cs3:List Value,List.length cs3=512∧Cells h7 (Addr.add ⟨h5.size,0,none⟩ 1) cs3 ∧
 PutRow ⟨h2.size,0,none⟩ cs3 512 h7 fun h8 =>
 I1 (IntKind.wrap .i64 (n1+1)) h8∧M1 (IntKind.wrap .i64 (n1+1)) h8<M1 n1 h5) else (
 I1 (IntKind.wrap .i64 (n1+1)) h7∧M1 (IntKind.wrap .i64 (n1+1)) h7<M1 n1 h5)) else (
 K (.tuple #[.slice (some ⟨h2.size,0,none⟩) 512 512,.int .i64 0]) h5)))
def adisk_Disk_Read.lo : Nat→List Nat×List (Nat×Ty):=fun n=>match n with|7=>([1,6,29,30],[(31,.int .i64)])|_=>([],[])
def adisk_Disk_Read.od : Nat→Od:=fun n=>match n with|_ => .nil
theorem adisk_Disk_Read.ok {d1:Option Addr} {i1:Int} {K:Value→Heap→Prop} {h:Heap} (hx:adisk_Disk_Read d1 i1 K h):C.adisk_Disk_Read d1 i1 h K :=
 fn_to (c:=Tryz.f199.body.getD .skip) (cxOk adisk_Disk_Read.lo adisk_Disk_Read.od) Tryz.func199 (by kernel_rfl) (by kernel_rfl) (Eq.mpr (by kernel_rfl) hx)
def strings_IndexAny.k1 (s1:ByteArray) (chars1:ByteArray) (h10:Heap) (K:Value→Heap→Prop):Prop :=
 NewI s1 h10 fun h11 =>
 ∃ (I2:Heap→Prop) (M2:Heap→Nat),I2  h11 ∧
 ∀ h12:Heap,I2  h12 →
 Addr.off ⟨h10.size,0,none⟩=0 ∧
 ∃ (s2:ByteArray) (pos1:Nat),h12[Addr.block ⟨h10.size,0,none⟩]?=some (.stringIter s2 pos1) ∧
 (pos1<ByteArray.size s2→∀ h13:Heap,IterTo h12 (Addr.block ⟨h10.size,0,none⟩) s2 (pos1+(Utf8.decode s2 pos1).2) h13 →
 C.strings_IndexRune chars1 (((Utf8.decode s2 pos1).1:Nat):Int) h13 fun r6 h14 =>
 ∃ (n3:Int),r6 = .int .i64 n3 ∧
 bif (decide (n3≥0)) then (
 K (.int .i64 (pos1:Int)) h14) else (
 I2  h14∧M2  h14<M2  h12)) ∧
 (¬ pos1<ByteArray.size s2 →
 K (.int .i64 (-1)) h12)
def strings_IndexAny (s1:ByteArray) (chars1:ByteArray) (K:Value→Heap→Prop) (h1:Heap):Prop :=
 bif (chars1.toList == (mkStr []).toList) then (
 K (.int .i64 (-1)) h1) else (
 bif ((chars1.size:Int) == 1) then (
 (0≤(0:Int)∧0<(chars1.size:Int)) ∧
 ∃ b1:UInt8,chars1.toList[Int.toNat 0]?=some b1 ∧
 bif (decide ((IntKind.wrap .i32 (((UInt8.toNat b1:Nat):Int)))≥128)) then (
 C.strings_IndexRune s1 65533 h1 fun r1 h2 =>
 ∃ (n1:Int),r1 = .int .i64 n1 ∧
 K (.int .i64 n1) h2) else (
 C.strings_IndexRune s1 (IntKind.wrap .i32 (((UInt8.toNat b1:Nat):Int))) h1 fun r2 h3 =>
 ∃ (n2:Int),r2 = .int .i64 n2 ∧
 K (.int .i64 n2) h3)) else (
 C.strings_shouldUseASCIISet (s1.size:Int) h1 fun r3 h4 =>
 ∃ (b2:Bool),r3 = .bool b2 ∧
 bif b2 then (
 C.strings_makeASCIISet chars1 h4 fun r4 h5 =>
 ∃ (cs1:List Value) (b3:Bool),r4 = .tuple #[.agg ⟨cs1⟩,.bool b3] ∧
 NewRow z361 361 cs1 256 h5 fun h7 =>
 bif b3 then (
 ∃ (I1:Int→Heap→Prop) (M1:Int→Heap→Nat),I1 0 h7 ∧
 ∀ (i1:Int),∀ h8:Heap,I1 i1 h8 →
 bif (decide (i1<(s1.size:Int))) then (
 (0≤i1∧i1<(s1.size:Int)) ∧
 ∃ b4:UInt8,s1.toList[Int.toNat i1]?=some b4 ∧
 C.strings_asciiSet_contains (some ⟨h5.size,0,none⟩) ((UInt8.toNat b4:Nat):Int) h8 fun r5 h9 =>
 ∃ (b5:Bool),r5 = .bool b5 ∧
 bif b5 then (
 K (.int .i64 i1) h9) else (
 I1 (IntKind.wrap .i64 (i1+1)) h9∧M1 (IntKind.wrap .i64 (i1+1)) h9<M1 i1 h8)) else (
 K (.int .i64 (-1)) h8)) else (
 strings_IndexAny.k1 s1 chars1 h7 K)) else (
 strings_IndexAny.k1 s1 chars1 h4 K)))
def strings_IndexAny.lo : Nat→List Nat×List (Nat×Ty):=fun n=>match n with|12=>([0,6],[(8,.int .i64)])|18=>([1,45],[])|_=>([],[])
def strings_IndexAny.od : Nat→Od:=fun n=>match n with|_ => .nil
set_option maxRecDepth 1000000 in
set_option maxRecDepth 1000000 in
theorem strings_IndexAny.ok {s1:ByteArray} {chars1:ByteArray} {K:Value→Heap→Prop} {h:Heap} (hx:strings_IndexAny s1 chars1 K h):C.strings_IndexAny s1 chars1 h K :=
 fn_to (c:=Tryz.f202.body.getD .skip) (cxOk strings_IndexAny.lo strings_IndexAny.od) Tryz.func202 (by kernel_rfl) (by kernel_rfl) (Eq.mpr (by kernel_rfl) hx)
def bmap_file_walk.k1 (f1:Option Addr) (at1:Int) (n1:Int) (h3:Heap) (I1:Int→Int→Heap→Prop) (M1:Int→Int→Heap→Nat) (num1:Int) (e1:Int) (h8:Heap) (K:Value→Heap→Prop):Prop :=
 bif (e1 != 0) then (
 K (.tuple #[.int .i64 0,.int .i64 e1]) h8) else (
 bif (num1 == 0) then (
 K (.tuple #[.int .i64 0,.int .i64 0]) h8) else (
 C.bmap_file_look f1 num1 h8 fun r4 h9 =>
 ∃ (n6:Int),r4 = .int .i64 n6 ∧
 bif (n6 != 0) then (
 K (.tuple #[.int .i64 0,.int .i64 n6]) h9) else (
 I1 num1 (IntKind.wrap .i64 (n1+1)) h9∧M1 num1 (IntKind.wrap .i64 (n1+1)) h9<M1 at1 n1 h3)))
def bmap_file_walk (f1:Option Addr) (k1:Int) (hole1:Value) (K:Value→Heap→Prop) (h1:Heap):Prop :=
 C.bmap_way k1 h1 fun r1 h2 =>
 ∃ (sA1:Option Addr) (sL1:Nat) (sC1:Nat),r1 = .slice sA1 sL1 sC1 ∧
 ∃ (I1:Int→Int→Heap→Prop) (M1:Int→Int→Heap→Nat),I1 0 0 h2 ∧
 ∀ (at1:Int) (n1:Int),∀ h3:Heap,I1 at1 n1 h3 →
 bif (decide (n1<(sL1:Int))) then (
 (0≤n1∧n1<(sL1:Int)) ∧
 onSome sA1 fun p1 =>
 ∃ cs1:List Value,List.length cs1=2∧Cells h3 (Addr.add p1 ((Int.toNat n1)*2)) cs1 ∧
 NewRow z307 307 cs1 2 h3 fun h5 =>
 ∃ cs2:List Value,List.length cs2=2∧Cells h5 ⟨h3.size,0,none⟩ cs2 ∧
 C.bmap_file_number f1 cs2 at1 h5 fun r2 h6 =>
 ∃ (n2:Int) (sA2:Option Addr) (sL2:Nat) (sC2:Nat) (n3:Int),r2 = .tuple #[.int .i64 n2,.slice sA2 sL2 sC2,.int .i64 n3] ∧
 bif (n3 == 0) then (
 bif (n2 == 0) then (
 ∃ cs3:List Value,List.length cs3=2∧Cells h6 ⟨h3.size,0,none⟩ cs3 ∧
 HCallsV Tryz.prog hole1 [.agg ⟨cs3⟩,.int .i64 at1,.slice sA2 sL2 sC2] h6 fun r3 h7 =>
 ∃ (n4:Int) (n5:Int),r3 = .tuple #[.int .i64 n4,.int .i64 n5] ∧
 bmap_file_walk.k1 f1 at1 n1 h3 I1 M1 n4 n5 h7 K) else (
 bmap_file_walk.k1 f1 at1 n1 h3 I1 M1 n2 n3 h6 K)) else (
 bmap_file_walk.k1 f1 at1 n1 h3 I1 M1 n2 n3 h6 K)) else (
 K (.tuple #[.int .i64 at1,.int .i64 0]) h3)
def bmap_file_walk.lo : Nat→List Nat×List (Nat×Ty):=fun n=>match n with|3=>([0,2,16,17],[(8,.int .i64),(18,.int .i64)])|_=>([],[])
def bmap_file_walk.od : Nat→Od:=fun n=>match n with|_ => .nil
theorem bmap_file_walk.ok {f1:Option Addr} {k1:Int} {hole1:Value} {K:Value→Heap→Prop} {h:Heap} (hx:bmap_file_walk f1 k1 hole1 K h):C.bmap_file_walk f1 k1 hole1 h K :=
 fn_to (c:=Tryz.f203.body.getD .skip) (cxOk bmap_file_walk.lo bmap_file_walk.od) Tryz.func203 (by kernel_rfl) (by kernel_rfl) (Eq.mpr (by kernel_rfl) hx)
def bmap_Find_c1 (x1:List Value) (x2:Int) (xA1:Option Addr) (xL1:Nat) (xC1:Nat) (K:Value→Heap→Prop) (h1:Heap):Prop :=
 New x1 307 h1 fun h2 =>
 K (.tuple #[.int .i64 0,.int .i64 0]) h2
def bmap_Find_c1.lo : Nat→List Nat×List (Nat×Ty):=fun n=>match n with|_=>([],[])
def bmap_Find_c1.od : Nat→Od:=fun n=>match n with|_ => .nil
theorem bmap_Find_c1.ok {x1:List Value} {x2:Int} {xA1:Option Addr} {xL1:Nat} {xC1:Nat} {K:Value→Heap→Prop} {h:Heap} (hx:bmap_Find_c1 x1 x2 xA1 xL1 xC1 K h):C.bmap_Find_c1 x1 x2 xA1 xL1 xC1 h K :=
 fn_to (c:=Tryz.f204.body.getD .skip) (cxOk bmap_Find_c1.lo bmap_Find_c1.od) Tryz.func204 (by kernel_rfl) (by kernel_rfl) (Eq.mpr (by kernel_rfl) hx)
def slots_read.k1 (cA1:Option Addr) (cL1:Nat) (cC1:Nat) (n1:Int) (h3:Heap) (n3:Int) (K:Value→Heap→Prop):Prop :=
 (0≤(5:Int)∧(5:Int)≤(IntKind.wrap .u64 (5+n3))∧(IntKind.wrap .u64 (5+n3))≤(IntKind.wrap .u64 (5+n3))∧(IntKind.wrap .u64 (5+n3))≤(cC1:Int)) ∧
 ∃ bs1:List UInt8,StrAt h3 (if (Int.toNat (IntKind.wrap .u64 (5+n3)))=(Int.toNat 5) then cA1 else Option.map (Addr.add · (Int.toNat 5)) cA1) ((Int.toNat (IntKind.wrap .u64 (5+n3))) - (Int.toNat 5)) bs1 ∧
 C.rec_Zero cA1 cL1 cC1 (IntKind.wrap .i64 (5+(IntKind.wrap .i64 (n3)))) (IntKind.wrap .i64 (27 - (IntKind.wrap .i64 (n3)))) h3 fun r4 h5 =>
 ∃ (b2:Bool) (n6:Int),r4 = .tuple #[.bool b2,.int .i64 n6] ∧
 bif b2 then (
 C.path_Name (mkStr bs1) h5 fun r5 h6 =>
 ∃ (b3:Bool),r5 = .bool b3 ∧
 K (.tuple #[.int .i64 (IntKind.wrap .i64 (n1)),.string (mkStr bs1),.bool b3]) h6) else (
 K (.tuple #[.int .i64 (IntKind.wrap .i64 (n1)),.string (mkStr bs1),.bool false]) h5)
def slots_read (cA1:Option Addr) (cL1:Nat) (cC1:Nat) (K:Value→Heap→Prop) (h1:Heap):Prop :=
 C.rec_Get cA1 cL1 cC1 0 4 h1 fun r1 h2 =>
 ∃ (n1:Int) (n2:Int),r1 = .tuple #[.int .u64 n1,.int .i64 n2] ∧
 C.rec_Get cA1 cL1 cC1 4 1 h2 fun r2 h3 =>
 ∃ (n3:Int) (n4:Int),r2 = .tuple #[.int .u64 n3,.int .i64 n4] ∧
 bif (n1 == 0) then (
 C.rec_Zero cA1 cL1 cC1 0 32 h3 fun r3 h4 =>
 ∃ (b1:Bool) (n5:Int),r3 = .tuple #[.bool b1,.int .i64 n5] ∧
 K (.tuple #[.int .i64 0,.string (mkStr []),.bool b1]) h4) else (
 bif (decide (n3<1)) then (
 K (.tuple #[.int .i64 0,.string (mkStr []),.bool false]) h3) else (
 bif (decide (n3>27)) then (
 K (.tuple #[.int .i64 0,.string (mkStr []),.bool false]) h3) else (
 slots_read.k1 cA1 cL1 cC1 n1 h3 n3 K)))
def slots_read.lo : Nat→List Nat×List (Nat×Ty):=fun n=>match n with|_=>([],[])
def slots_read.od : Nat→Od:=fun n=>match n with|_ => .nil
theorem slots_read.ok {cA1:Option Addr} {cL1:Nat} {cC1:Nat} {K:Value→Heap→Prop} {h:Heap} (hx:slots_read cA1 cL1 cC1 K h):C.slots_read cA1 cL1 cC1 h K :=
 fn_to (c:=Tryz.f205.body.getD .skip) (cxOk slots_read.lo slots_read.od) Tryz.func205 (by kernel_rfl) (by kernel_rfl) (Eq.mpr (by kernel_rfl) hx)
def rec_isWidth (n1:Int) (K:Value→Heap→Prop) (h1:Heap):Prop :=
 bif (decide (n1≥0)) then (
 bif (decide (n1<9)) then (
 (0≤n1∧n1<(9:Int)) ∧
 ∃ (b1:Bool),cellOf h1 (Addr.add ⟨0,0,none⟩ (Int.toNat n1))=some (.bool b1) ∧
 K (.bool b1) h1) else (
 K (.bool false) h1)) else (
 K (.bool false) h1)
def rec_isWidth.lo : Nat→List Nat×List (Nat×Ty):=fun n=>match n with|_=>([],[])
def rec_isWidth.od : Nat→Od:=fun n=>match n with|_ => .nil
theorem rec_isWidth.ok {n1:Int} {K:Value→Heap→Prop} {h:Heap} (hx:rec_isWidth n1 K h):C.rec_isWidth n1 h K :=
 fn_to (c:=Tryz.f211.body.getD .skip) (cxOk rec_isWidth.lo rec_isWidth.od) Tryz.func211 (by kernel_rfl) (by kernel_rfl) (Eq.mpr (by kernel_rfl) hx)
def rec_lie (bA1:Option Addr) (bL1:Nat) (bC1:Nat) (at1:Int) (n1:Int) (K:Value→Heap→Prop) (h1:Heap):Prop :=
 bif (decide (at1≥0)) then (
 bif (decide (n1≥0)) then (
 bif (decide (at1≤(bL1:Int))) then (
 K (.bool (decide (n1≤(IntKind.wrap .i64 ((bL1:Int) - at1))))) h1) else (
 K (.bool false) h1)) else (
 K (.bool false) h1)) else (
 K (.bool false) h1)
def rec_lie.lo : Nat→List Nat×List (Nat×Ty):=fun n=>match n with|_=>([],[])
def rec_lie.od : Nat→Od:=fun n=>match n with|_ => .nil
theorem rec_lie.ok {bA1:Option Addr} {bL1:Nat} {bC1:Nat} {at1:Int} {n1:Int} {K:Value→Heap→Prop} {h:Heap} (hx:rec_lie bA1 bL1 bC1 at1 n1 K h):C.rec_lie bA1 bL1 bC1 at1 n1 h K :=
 fn_to (c:=Tryz.f212.body.getD .skip) (cxOk rec_lie.lo rec_lie.od) Tryz.func212 (by kernel_rfl) (by kernel_rfl) (Eq.mpr (by kernel_rfl) hx)
end Go.Proofs.YtiapingedfnlnaaGreatDoor.W
namespace Go.Proofs.YtiapingedfnlnaaGreatDoor.W
open Go Go.Proofs Wx
def rec_Get (bA1:Option Addr) (bL1:Nat) (bC1:Nat) (at1:Int) (n1:Int) (K:Value→Heap→Prop) (h1:Heap):Prop :=
 C.rec_isWidth n1 h1 fun r1 h2 =>
 ∃ (b1:Bool),r1 = .bool b1 ∧
 bif (!b1) then (
 K (.tuple #[.int .u64 0,.int .i64 1]) h2) else (
 C.rec_lie bA1 bL1 bC1 at1 n1 h2 fun r2 h3 =>
 ∃ (b2:Bool),r2 = .bool b2 ∧
 bif (!b2) then (
 K (.tuple #[.int .u64 0,.int .i64 20]) h3) else (
 ∃ (I1:Int→Int→Heap→Prop) (M1:Int→Int→Heap→Nat),I1 0 0 h3 ∧
 ∀ (v1:Int) (n2:Int),∀ h4:Heap,I1 v1 n2 h4 →
 bif (decide (n2<n1)) then (
 (0≤(IntKind.wrap .i64 (at1+n2))∧(IntKind.wrap .i64 (at1+n2))<(bL1:Int)) ∧
 onSome bA1 fun p1 =>
 ∃ (n3:Int),cellOf h4 (Addr.add p1 (Int.toNat (IntKind.wrap .i64 (at1+n2))))=some (.int .u8 n3) ∧
 if (IntKind.wrap .i64 (8*n2))<0 then False else
 I1 (bitsI .or .u64 v1 (IntKind.wrap .u64 (((IntKind.wrap .u64 (n3))*2 ^ min (Int.toNat (IntKind.wrap .i64 (8*n2))) 64)))) (IntKind.wrap .i64 (n2+1)) h4∧M1 (bitsI .or .u64 v1 (IntKind.wrap .u64 (((IntKind.wrap .u64 (n3))*2 ^ min (Int.toNat (IntKind.wrap .i64 (8*n2))) 64)))) (IntKind.wrap .i64 (n2+1)) h4<M1 v1 n2 h4) else (
 K (.tuple #[.int .u64 v1,.int .i64 0]) h4)))
def rec_Get.lo : Nat→List Nat×List (Nat×Ty):=fun n=>match n with|7=>([0,1,20],[(8,.int .u64),(21,.int .i64)])|_=>([],[])
def rec_Get.od : Nat→Od:=fun n=>match n with|_ => .nil
theorem rec_Get.ok {bA1:Option Addr} {bL1:Nat} {bC1:Nat} {at1:Int} {n1:Int} {K:Value→Heap→Prop} {h:Heap} (hx:rec_Get bA1 bL1 bC1 at1 n1 K h):C.rec_Get bA1 bL1 bC1 at1 n1 h K :=
 fn_to (c:=Tryz.f224.body.getD .skip) (cxOk rec_Get.lo rec_Get.od) Tryz.func224 (by kernel_rfl) (by kernel_rfl) (Eq.mpr (by kernel_rfl) hx)
def walk_walk_thing (w1:Option Addr) (x1:Int) (K:Value→Heap→Prop) (h1:Heap):Prop :=
 C.walk_walk_more w1 h1 fun r1 h2 =>
 ∃ (b1:Bool),r1 = .bool b1 ∧
 bif b1 then (
 K (.tuple #[.bool false,.int .i64 161]) h2) else (
 K (.tuple #[.bool true,.int .i64 0]) h2)
def walk_walk_thing.lo : Nat→List Nat×List (Nat×Ty):=fun n=>match n with|_=>([],[])
def walk_walk_thing.od : Nat→Od:=fun n=>match n with|_ => .nil
theorem walk_walk_thing.ok {w1:Option Addr} {x1:Int} {K:Value→Heap→Prop} {h:Heap} (hx:walk_walk_thing w1 x1 K h):C.walk_walk_thing w1 x1 h K :=
 fn_to (c:=Tryz.f225.body.getD .skip) (cxOk walk_walk_thing.lo walk_walk_thing.od) Tryz.func225 (by kernel_rfl) (by kernel_rfl) (Eq.mpr (by kernel_rfl) hx)
def walk_walk_directory (w1:Option Addr) (n1:Int) (K:Value→Heap→Prop) (h1:Heap):Prop :=
 C.walk_walk_more w1 h1 fun r1 h2 =>
 ∃ (b1:Bool),r1 = .bool b1 ∧
 bif (!b1) then (
 K (.tuple #[.bool true,.int .i64 0]) h2) else (
 onSome w1 fun p1 =>
 C.walk_row_down (some (Addr.add p1 0)) n1 h2 fun r2 h3 =>
 r2 = .tuple #[] ∧
 K (.tuple #[.bool false,.int .i64 0]) h3)
def walk_walk_directory.lo : Nat→List Nat×List (Nat×Ty):=fun n=>match n with|_=>([],[])
def walk_walk_directory.od : Nat→Od:=fun n=>match n with|_ => .nil
theorem walk_walk_directory.ok {w1:Option Addr} {n1:Int} {K:Value→Heap→Prop} {h:Heap} (hx:walk_walk_directory w1 n1 K h):C.walk_walk_directory w1 n1 h K :=
 fn_to (c:=Tryz.f226.body.getD .skip) (cxOk walk_walk_directory.lo walk_walk_directory.od) Tryz.func226 (by kernel_rfl) (by kernel_rfl) (Eq.mpr (by kernel_rfl) hx)
def walk_walk_link.k1 (w1:Option Addr) (n1:Int) (h3:Heap) (K:Value→Heap→Prop):Prop :=
 onSome w1 fun p2 =>
 ∃ (n2:Int),cellOf h3 (Addr.add p2 8)=some (.int .i64 n2) ∧
 bif (n2 == 8) then (
 K (.tuple #[.bool false,.int .i64 162]) h3) else (
 onSome w1 fun p3 =>
 ∃ (q1:Option Addr),cellOf h3 (Addr.add p3 1)=some (.pointer q1) ∧
 onSome w1 fun p4 =>
 ∃ cs1:List Value,List.length cs1=5∧Cells h3 (Addr.add p4 2) cs1 ∧
 C.file_Read q1 cs1 n1 0 1024 h3 fun r2 h4 =>
 ∃ (s1:ByteArray) (n3:Int),r2 = .tuple #[.string s1,.int .i64 n3] ∧
 bif (n3 != 0) then (
 K (.tuple #[.bool false,.int .i64 n3]) h4) else (
 C.path_Text s1 h4 fun r3 h5 =>
 ∃ (sA1:Option Addr) (sL1:Nat) (sC1:Nat) (b3:Bool) (n4:Int),r3 = .tuple #[.slice sA1 sL1 sC1,.bool b3,.int .i64 n4] ∧
 bif (n4 != 0) then (
 K (.tuple #[.bool false,.int .i64 n4]) h5) else (
 onSome w1 fun p5 =>
 ∃ (n5:Int),cellOf h5 (Addr.add p5 8)=some (.int .i64 n5) ∧
 onSome w1 fun p6 =>
 Put (Addr.add p6 8) (.int .i64 (IntKind.wrap .i64 (n5+1))) h5 fun h6 =>
 onSome w1 fun p7 =>
 ∃ (sA2:Option Addr) (sL2:Nat) (sC2:Nat),cellOf h6 (Addr.add p7 7)=some (.slice sA2 sL2 sC2) ∧
 C.slices_Clone_string_string sA1 sL1 sC1 h6 fun r4 h7 =>
 ∃ (sA3:Option Addr) (sL3:Nat) (sC3:Nat),r4 = .slice sA3 sL3 sC3 ∧
 (cellOf h7 (Addr.add p7 7)=some (.slice sA2 sL2 sC2)) ∧
 ∃ new1:List Value,List.length new1=sL2*1∧SlCells h7 sA2 new1∧(∀ v ∈ new1,v.oneCell'=true) ∧
 AppendP ti9 9 sA3 sL3 sC3 sL2 new1 h7 fun sA4 sL4 sC4 h8 =>
 onSome w1 fun p8 =>
 Put (Addr.add p8 7) (.slice sA4 sL4 sC4) h8 fun h9 =>
 bif b3 then (
 onSome w1 fun p9 =>
 C.walk_row_top (some (Addr.add p9 0)) h9 fun r5 h10 =>
 r5 = .tuple #[] ∧
 K (.tuple #[.bool false,.int .i64 0]) h10) else (
 K (.tuple #[.bool false,.int .i64 0]) h9))))
def walk_walk_link (w1:Option Addr) (n1:Int) (K:Value→Heap→Prop) (h1:Heap):Prop :=
 C.walk_walk_more w1 h1 fun r1 h2 =>
 ∃ (b1:Bool),r1 = .bool b1 ∧
 bif (!b1) then (
 onSome w1 fun p1 =>
 ∃ (b2:Bool),cellOf h2 (Addr.add p1 9)=some (.bool b2) ∧
 bif (!b2) then (
 K (.tuple #[.bool true,.int .i64 0]) h2) else (
 walk_walk_link.k1 w1 n1 h2 K)) else (
 walk_walk_link.k1 w1 n1 h2 K)
def walk_walk_link.lo : Nat→List Nat×List (Nat×Ty):=fun n=>match n with|_=>([],[])
def walk_walk_link.od : Nat→Od:=fun n=>match n with|5=>(.op 0 [] (.op 1 [] (.op 2 [] (.op 3 [] (.op 4 [] (.op 5 [] (.op 6 [] (.op 7 [] (.op 8 [] (.op 9 [] (.op 10 [] (.op 11 [] (.op 12 [] (.op 13 [] (.op 14 [] .nil)))))))))))))))|12=>(.op 0 [] (.op 1 [] (.op 3 [] (.op 4 [] (.op 5 [] (.op 6 [] (.op 2 [6] (.op 7 [] (.op 8 [] (.op 9 [] (.op 10 [] .nil)))))))))))|_ => .nil
theorem walk_walk_link.ok {w1:Option Addr} {n1:Int} {K:Value→Heap→Prop} {h:Heap} (hx:walk_walk_link w1 n1 K h):C.walk_walk_link w1 n1 h K :=
 fn_to (c:=Tryz.f227.body.getD .skip) (cxOk walk_walk_link.lo walk_walk_link.od) Tryz.func227 (by kernel_rfl) (by kernel_rfl) (Eq.mpr (by kernel_rfl) hx)
def internal_stringslite_IndexByte (s1:ByteArray) (c1:Int) (K:Value→Heap→Prop) (h1:Heap):Prop :=
 (IntKind.u8=IntKind.u8) ∧
 K (.int .i64 (byteIn (ByteArray.toList s1) (UInt8.ofNat (Int.toNat c1)))) h1
def internal_stringslite_IndexByte.lo : Nat→List Nat×List (Nat×Ty):=fun n=>match n with|_=>([],[])
def internal_stringslite_IndexByte.od : Nat→Od:=fun n=>match n with|_ => .nil
theorem internal_stringslite_IndexByte.ok {s1:ByteArray} {c1:Int} {K:Value→Heap→Prop} {h:Heap} (hx:internal_stringslite_IndexByte s1 c1 K h):C.internal_stringslite_IndexByte s1 c1 h K :=
 fn_to (c:=Tryz.f228.body.getD .skip) (cxOk internal_stringslite_IndexByte.lo internal_stringslite_IndexByte.od) Tryz.func228 (by kernel_rfl) (by kernel_rfl) (Eq.mpr (by kernel_rfl) hx)
def inode_within (v1:Int) (low1:Int) (high1:Int) (K:Value→Heap→Prop) (h1:Heap):Prop :=
 bif (decide (v1≥low1)) then (
 K (.bool (decide (v1≤high1))) h1) else (
 K (.bool false) h1)
def inode_within.lo : Nat→List Nat×List (Nat×Ty):=fun n=>match n with|_=>([],[])
def inode_within.od : Nat→Od:=fun n=>match n with|_ => .nil
theorem inode_within.ok {v1:Int} {low1:Int} {high1:Int} {K:Value→Heap→Prop} {h:Heap} (hx:inode_within v1 low1 high1 K h):C.inode_within v1 low1 high1 h K :=
 fn_to (c:=Tryz.f229.body.getD .skip) (cxOk inode_within.lo inode_within.od) Tryz.func229 (by kernel_rfl) (by kernel_rfl) (Eq.mpr (by kernel_rfl) hx)
def geo_Record.k1 (n1:Int) (h1:Heap) (h2:Heap) (K:Value→Heap→Prop):Prop :=
 ∃ (n3:Int),cellOf h2 (Addr.add ⟨h1.size,0,none⟩ 2)=some (.int .i64 n3) ∧
 K (.tuple #[.int .i64 (IntKind.wrap .i64 (n3+(IntKind.wrap .i64 (Int.tdiv n1 8)))),.int .i64 (IntKind.wrap .i64 ((Int.tmod n1 8)*64)),.int .i64 0]) h2
def geo_Record (g1:List Value) (n1:Int) (K:Value→Heap→Prop) (h1:Heap):Prop :=
 New g1 25 h1 fun h2 =>
 bif (decide (n1<1)) then (
 K (.tuple #[.int .i64 0,.int .i64 0,.int .i64 110]) h2) else (
 ∃ (n2:Int),cellOf h2 (Addr.add ⟨h1.size,0,none⟩ 4)=some (.int .i64 n2) ∧
 bif (decide (n1≥n2)) then (
 K (.tuple #[.int .i64 0,.int .i64 0,.int .i64 110]) h2) else (
 geo_Record.k1 n1 h1 h2 K))
def geo_Record.lo : Nat→List Nat×List (Nat×Ty):=fun n=>match n with|_=>([],[])
def geo_Record.od : Nat→Od:=fun n=>match n with|_ => .nil
theorem geo_Record.ok {g1:List Value} {n1:Int} {K:Value→Heap→Prop} {h:Heap} (hx:geo_Record g1 n1 K h):C.geo_Record g1 n1 h K :=
 fn_to (c:=Tryz.f230.body.getD .skip) (cxOk geo_Record.lo geo_Record.od) Tryz.func230 (by kernel_rfl) (by kernel_rfl) (Eq.mpr (by kernel_rfl) hx)
def inode_Decode_c1 (at1:Int) (n1:Int) (cap1:Option Addr) (K:Value→Heap→Prop) (h1:Heap):Prop :=
 onSome cap1 fun p1 =>
 ∃ (sA1:Option Addr) (sL1:Nat) (sC1:Nat),cellOf h1 p1=some (.slice sA1 sL1 sC1) ∧
 C.rec_Get sA1 sL1 sC1 at1 n1 h1 fun r1 h2 =>
 ∃ (n2:Int) (n3:Int),r1 = .tuple #[.int .u64 n2,.int .i64 n3] ∧
 K (.int .i64 (IntKind.wrap .i64 (n2))) h2
def inode_Decode_c1.lo : Nat→List Nat×List (Nat×Ty):=fun n=>match n with|_=>([],[])
def inode_Decode_c1.od : Nat→Od:=fun n=>match n with|_ => .nil
theorem inode_Decode_c1.ok {at1:Int} {n1:Int} {cap1:Option Addr} {K:Value→Heap→Prop} {h:Heap} (hx:inode_Decode_c1 at1 n1 cap1 K h):C.inode_Decode_c1 at1 n1 cap1 h K :=
 fn_to (c:=Tryz.f231.body.getD .skip) (cxOk inode_Decode_c1.lo inode_Decode_c1.od) Tryz.func231 (by kernel_rfl) (by kernel_rfl) (Eq.mpr (by kernel_rfl) hx)
def rec_Zero (bA1:Option Addr) (bL1:Nat) (bC1:Nat) (at1:Int) (n1:Int) (K:Value→Heap→Prop) (h1:Heap):Prop :=
 bif (decide (n1<0)) then (
 K (.tuple #[.bool false,.int .i64 1]) h1) else (
 C.rec_lie bA1 bL1 bC1 at1 n1 h1 fun r1 h2 =>
 ∃ (b1:Bool),r1 = .bool b1 ∧
 bif (!b1) then (
 K (.tuple #[.bool false,.int .i64 20]) h2) else (
 (0≤at1∧at1≤(IntKind.wrap .i64 (at1+n1))∧(IntKind.wrap .i64 (at1+n1))≤(bC1:Int)) ∧
 C.rec_zeros (if bC1=(Int.toNat at1) then bA1 else Option.map (Addr.add · (Int.toNat at1)) bA1) ((Int.toNat (IntKind.wrap .i64 (at1+n1))) - (Int.toNat at1)) (bC1 - (Int.toNat at1)) h2 fun r2 h3 =>
 ∃ (b2:Bool),r2 = .bool b2 ∧
 K (.tuple #[.bool b2,.int .i64 0]) h3))
def rec_Zero.lo : Nat→List Nat×List (Nat×Ty):=fun n=>match n with|_=>([],[])
def rec_Zero.od : Nat→Od:=fun n=>match n with|_ => .nil
theorem rec_Zero.ok {bA1:Option Addr} {bL1:Nat} {bC1:Nat} {at1:Int} {n1:Int} {K:Value→Heap→Prop} {h:Heap} (hx:rec_Zero bA1 bL1 bC1 at1 n1 K h):C.rec_Zero bA1 bL1 bC1 at1 n1 h K :=
 fn_to (c:=Tryz.f232.body.getD .skip) (cxOk rec_Zero.lo rec_Zero.od) Tryz.func232 (by kernel_rfl) (by kernel_rfl) (Eq.mpr (by kernel_rfl) hx)
def inode_may (x1:List Value) (K:Value→Heap→Prop) (h1:Heap):Prop :=
 New x1 123 h1 fun h2 =>
 ∃ cs1:List Value,List.length cs1=15∧Cells h2 ⟨h1.size,0,none⟩ cs1 ∧
 C.inode_numbers cs1 h2 fun r1 h3 =>
 ∃ (cs2:List Value),r1 = .agg ⟨cs2⟩ ∧
 ∃ (I1:Int→Heap→Prop) (M1:Int→Heap→Nat),I1 0 h3 ∧
 ∀ (n1:Int),∀ h4:Heap,I1 n1 h4 →
 bif (decide (n1<12)) then (
 (0≤n1∧n1<(12:Int)) ∧
 ∃ (n2:Int),cs2[(Int.toNat n1)]?=some (.int .i64 n2) ∧
 C.inode_within n2 0 4294967295 h4 fun r2 h5 =>
 ∃ (b1:Bool),r2 = .bool b1 ∧
 bif (!b1) then (
 K (.bool false) h5) else (
 I1 (IntKind.wrap .i64 (n1+1)) h5∧M1 (IntKind.wrap .i64 (n1+1)) h5<M1 n1 h4)) else (
 ∃ (n3:Int),cellOf h4 (Addr.add ⟨h1.size,0,none⟩ 0)=some (.int .i64 n3) ∧
 bif (n3 == 0) then (
 ∃ cs3:List Value,List.length cs3=15∧Cells h4 ⟨h1.size,0,none⟩ cs3 ∧
 pairsOk [(.int .i64),(.int .i64),(.int .i64),(.int .i64),(.int .i64),(.int .i64),(.int .i64),(.int .i64),(.int .i64),(.int .i64),(.int .i64),(.int .i64),(.int .i64),(.int .i64),(.int .i64)] cs3 [.int .i64 0,.int .i64 0,.int .i64 0,.int .i64 0,.int .i64 0,.int .i64 0,.int .i64 0,.int .i64 0,.int .i64 0,.int .i64 0,.int .i64 0,.int .i64 0,.int .i64 0,.int .i64 0,.int .i64 0]=true ∧
 K (.bool (cellsEq cs3 [.int .i64 0,.int .i64 0,.int .i64 0,.int .i64 0,.int .i64 0,.int .i64 0,.int .i64 0,.int .i64 0,.int .i64 0,.int .i64 0,.int .i64 0,.int .i64 0,.int .i64 0,.int .i64 0,.int .i64 0])) h4) else (
 bif (n3 == 1) then (
 ∃ (n4:Int),cellOf h4 (Addr.add ⟨h1.size,0,none⟩ 1)=some (.int .i64 n4) ∧
 C.inode_within n4 0 1000 h4 fun r3 h6 =>
 ∃ (b2:Bool),r3 = .bool b2 ∧
 bif b2 then (
 ∃ (n5:Int),cellOf h6 (Addr.add ⟨h1.size,0,none⟩ 2)=some (.int .i64 n5) ∧
 C.inode_within n5 0 8459264 h6 fun r4 h7 =>
 ∃ (b3:Bool),r4 = .bool b3 ∧
 K (.bool b3) h7) else (
 K (.bool false) h6)) else (
 bif (n3 == 2) then (
 ∃ (n6:Int),cellOf h4 (Addr.add ⟨h1.size,0,none⟩ 1)=some (.int .i64 n6) ∧
 C.inode_within n6 2 65535 h4 fun r5 h8 =>
 ∃ (b4:Bool),r5 = .bool b4 ∧
 bif b4 then (
 ∃ (n7:Int),cellOf h8 (Addr.add ⟨h1.size,0,none⟩ 2)=some (.int .i64 n7) ∧
 C.inode_within n7 0 8459264 h8 fun r6 h9 =>
 ∃ (b5:Bool),r6 = .bool b5 ∧
 bif b5 then (
 ∃ (n8:Int),cellOf h9 (Addr.add ⟨h1.size,0,none⟩ 2)=some (.int .i64 n8) ∧
 K (.bool ((Int.tmod n8 512) == 0)) h9) else (
 K (.bool false) h9)) else (
 K (.bool false) h8)) else (
 bif (n3 == 3) then (
 ∃ (n9:Int),cellOf h4 (Addr.add ⟨h1.size,0,none⟩ 1)=some (.int .i64 n9) ∧
 C.inode_within n9 1 1000 h4 fun r7 h10 =>
 ∃ (b6:Bool),r7 = .bool b6 ∧
 bif b6 then (
 ∃ (n10:Int),cellOf h10 (Addr.add ⟨h1.size,0,none⟩ 2)=some (.int .i64 n10) ∧
 C.inode_within n10 1 1024 h10 fun r8 h11 =>
 ∃ (b7:Bool),r8 = .bool b7 ∧
 K (.bool b7) h11) else (
 K (.bool false) h10)) else (
 K (.bool false) h4)))))
def inode_may.lo : Nat→List Nat×List (Nat×Ty):=fun n=>match n with|2=>([1,6],[(7,.int .i64)])|_=>([],[])
def inode_may.od : Nat→Od:=fun n=>match n with|_ => .nil
set_option maxRecDepth 1000000 in
set_option maxRecDepth 1000000 in
theorem inode_may.ok {x1:List Value} {K:Value→Heap→Prop} {h:Heap} (hx:inode_may x1 K h):C.inode_may x1 h K :=
 fn_to (c:=Tryz.f233.body.getD .skip) (cxOk inode_may.lo inode_may.od) Tryz.func233 (by kernel_rfl) (by kernel_rfl) (Eq.mpr (by kernel_rfl) hx)
end Go.Proofs.YtiapingedfnlnaaGreatDoor.W
namespace Go.Proofs.YtiapingedfnlnaaGreatDoor.W
open Go Go.Proofs Wx
def adisk_Disk_has (d1:Option Addr) (i1:Int) (K:Value→Heap→Prop) (h1:Heap):Prop :=
 bif (decide (i1≥0)) then (
 onSome d1 fun p1 =>
 ∃ (sA1:Option Addr) (sL1:Nat) (sC1:Nat),cellOf h1 (Addr.add p1 0)=some (.slice sA1 sL1 sC1) ∧
 K (.bool (decide (i1<(sL1:Int)))) h1) else (
 K (.bool false) h1)
def adisk_Disk_has.lo : Nat→List Nat×List (Nat×Ty):=fun n=>match n with|_=>([],[])
def adisk_Disk_has.od : Nat→Od:=fun n=>match n with|_ => .nil
theorem adisk_Disk_has.ok {d1:Option Addr} {i1:Int} {K:Value→Heap→Prop} {h:Heap} (hx:adisk_Disk_has d1 i1 K h):C.adisk_Disk_has d1 i1 h K :=
 fn_to (c:=Tryz.f268.body.getD .skip) (cxOk adisk_Disk_has.lo adisk_Disk_has.od) Tryz.func268 (by kernel_rfl) (by kernel_rfl) (Eq.mpr (by kernel_rfl) hx)
def strings_IndexRune.k1 (s1:ByteArray) (r1:Int) (i2:Int) (h9:Heap) (K:Value→Heap→Prop):Prop :=
 ∃ (I3:Int→Heap→Prop) (M3:Int→Heap→Nat),I3 1 h9 ∧
 ∀ (j1:Int),∀ h10:Heap,I3 j1 h10 →
 bif (decide (j1<((Utf8.encode r1).size:Int))) then (
 (0≤(IntKind.wrap .i64 (i2 - j1))∧(IntKind.wrap .i64 (i2 - j1))<(s1.size:Int)) ∧
 ∃ b5:UInt8,s1.toList[Int.toNat (IntKind.wrap .i64 (i2 - j1))]?=some b5 ∧
 (0≤(IntKind.wrap .i64 ((IntKind.wrap .i64 (((Utf8.encode r1).size:Int) - 1)) - j1))∧(IntKind.wrap .i64 ((IntKind.wrap .i64 (((Utf8.encode r1).size:Int) - 1)) - j1))<((Utf8.encode r1).size:Int)) ∧
 ∃ b6:UInt8,(Utf8.encode r1).toList[Int.toNat (IntKind.wrap .i64 ((IntKind.wrap .i64 (((Utf8.encode r1).size:Int) - 1)) - j1))]?=some b6 ∧
 bif (((UInt8.toNat b5:Nat):Int) != ((UInt8.toNat b6:Nat):Int)) then (
 False) else (
 I3 (IntKind.wrap .i64 (j1+1)) h10∧M3 (IntKind.wrap .i64 (j1+1)) h10<M3 j1 h10)) else (
 K (.int .i64 (IntKind.wrap .i64 (i2 - (IntKind.wrap .i64 (((Utf8.encode r1).size:Int) - 1))))) h10)
def strings_IndexRune.k2 (s1:ByteArray) (r1:Int) (i4:Int) (h17:Heap) (K:Value→Heap→Prop):Prop :=
 ∃ (I6:Int→Heap→Prop) (M6:Int→Heap→Nat),I6 1 h17 ∧
 ∀ (j2:Int),∀ h18:Heap,I6 j2 h18 →
 bif (decide (j2<((Utf8.encode r1).size:Int))) then (
 (0≤(IntKind.wrap .i64 (i4 - j2))∧(IntKind.wrap .i64 (i4 - j2))<(s1.size:Int)) ∧
 ∃ b11:UInt8,s1.toList[Int.toNat (IntKind.wrap .i64 (i4 - j2))]?=some b11 ∧
 (0≤(IntKind.wrap .i64 ((IntKind.wrap .i64 (((Utf8.encode r1).size:Int) - 1)) - j2))∧(IntKind.wrap .i64 ((IntKind.wrap .i64 (((Utf8.encode r1).size:Int) - 1)) - j2))<((Utf8.encode r1).size:Int)) ∧
 ∃ b12:UInt8,(Utf8.encode r1).toList[Int.toNat (IntKind.wrap .i64 ((IntKind.wrap .i64 (((Utf8.encode r1).size:Int) - 1)) - j2))]?=some b12 ∧
 bif (((UInt8.toNat b11:Nat):Int) != ((UInt8.toNat b12:Nat):Int)) then (
 False) else (
 I6 (IntKind.wrap .i64 (j2+1)) h18∧M6 (IntKind.wrap .i64 (j2+1)) h18<M6 j2 h18)) else (
 K (.int .i64 (IntKind.wrap .i64 (i4 - (IntKind.wrap .i64 (((Utf8.encode r1).size:Int) - 1))))) h18)
def strings_IndexRune (s1:ByteArray) (r1:Int) (K:Value→Heap→Prop) (h1:Heap):Prop :=
 bif (decide ((0:Int)≤r1)) then (
 bif (decide (r1<128)) then (
 C.strings_IndexByte s1 (IntKind.wrap .u8 (r1)) h1 fun r2 h2 =>
 ∃ (n1:Int),r2 = .int .i64 n1 ∧
 K (.int .i64 n1) h2) else (
 bif (r1 == 65533) then (
 NewI s1 h1 fun h3 =>
 ∃ (I1:Heap→Prop) (M1:Heap→Nat),I1  h3 ∧
 ∀ h4:Heap,I1  h4 →
 Addr.off ⟨h1.size,0,none⟩=0 ∧
 ∃ (s2:ByteArray) (pos1:Nat),h4[Addr.block ⟨h1.size,0,none⟩]?=some (.stringIter s2 pos1) ∧
 (pos1<ByteArray.size s2→∀ h5:Heap,IterTo h4 (Addr.block ⟨h1.size,0,none⟩) s2 (pos1+(Utf8.decode s2 pos1).2) h5 →
 bif ((((Utf8.decode s2 pos1).1:Nat):Int) == 65533) then (
 K (.int .i64 (pos1:Int)) h5) else (
 I1  h5∧M1  h5<M1  h4)) ∧
 (¬ pos1<ByteArray.size s2 →
 K (.int .i64 (-1)) h4)) else (
 C.unicode_utf8_ValidRune r1 h1 fun r3 h6 =>
 ∃ (b1:Bool),r3 = .bool b1 ∧
 bif (!b1) then (
 K (.int .i64 (-1)) h6) else (
 ∃ (I2:Int→Heap→Prop) (M2:Int→Heap→Nat),I2 (IntKind.wrap .i64 (((Utf8.encode r1).size:Int) - 1)) h6 ∧
 ∀ (i1:Int),∀ h7:Heap,I2 i1 h7 →
 bif (decide (i1<(s1.size:Int))) then (
 (0≤i1∧i1<(s1.size:Int)) ∧
 ∃ b2:UInt8,s1.toList[Int.toNat i1]?=some b2 ∧
 (0≤(IntKind.wrap .i64 (((Utf8.encode r1).size:Int) - 1))∧(IntKind.wrap .i64 (((Utf8.encode r1).size:Int) - 1))<((Utf8.encode r1).size:Int)) ∧
 ∃ b3:UInt8,(Utf8.encode r1).toList[Int.toNat (IntKind.wrap .i64 (((Utf8.encode r1).size:Int) - 1))]?=some b3 ∧
 bif (((UInt8.toNat b2:Nat):Int) != ((UInt8.toNat b3:Nat):Int)) then (
 (0≤(IntKind.wrap .i64 (i1+1))∧(IntKind.wrap .i64 (i1+1))≤(s1.size:Int)) ∧
 (0≤(IntKind.wrap .i64 (((Utf8.encode r1).size:Int) - 1))∧(IntKind.wrap .i64 (((Utf8.encode r1).size:Int) - 1))<((Utf8.encode r1).size:Int)) ∧
 ∃ b4:UInt8,(Utf8.encode r1).toList[Int.toNat (IntKind.wrap .i64 (((Utf8.encode r1).size:Int) - 1))]?=some b4 ∧
 C.strings_IndexByte (ByteArray.extract s1 (Int.toNat (IntKind.wrap .i64 (i1+1))) s1.size) ((UInt8.toNat b4:Nat):Int) h7 fun r4 h8 =>
 ∃ (n2:Int),r4 = .int .i64 n2 ∧
 bif (decide (n2<0)) then (
 K (.int .i64 (-1)) h8) else (
 strings_IndexRune.k1 s1 r1 (IntKind.wrap .i64 (i1+(IntKind.wrap .i64 (n2+1)))) h8 K)) else (
 strings_IndexRune.k1 s1 r1 i1 h7 K)) else (
 K (.int .i64 (-1)) h7))))) else (
 bif (r1 == 65533) then (
 NewI s1 h1 fun h11 =>
 ∃ (I4:Heap→Prop) (M4:Heap→Nat),I4  h11 ∧
 ∀ h12:Heap,I4  h12 →
 Addr.off ⟨h1.size,0,none⟩=0 ∧
 ∃ (s3:ByteArray) (pos2:Nat),h12[Addr.block ⟨h1.size,0,none⟩]?=some (.stringIter s3 pos2) ∧
 (pos2<ByteArray.size s3→∀ h13:Heap,IterTo h12 (Addr.block ⟨h1.size,0,none⟩) s3 (pos2+(Utf8.decode s3 pos2).2) h13 →
 bif ((((Utf8.decode s3 pos2).1:Nat):Int) == 65533) then (
 K (.int .i64 (pos2:Int)) h13) else (
 I4  h13∧M4  h13<M4  h12)) ∧
 (¬ pos2<ByteArray.size s3 →
 K (.int .i64 (-1)) h12)) else (
 C.unicode_utf8_ValidRune r1 h1 fun r5 h14 =>
 ∃ (b7:Bool),r5 = .bool b7 ∧
 bif (!b7) then (
 K (.int .i64 (-1)) h14) else (
 ∃ (I5:Int→Heap→Prop) (M5:Int→Heap→Nat),I5 (IntKind.wrap .i64 (((Utf8.encode r1).size:Int) - 1)) h14 ∧
 ∀ (i3:Int),∀ h15:Heap,I5 i3 h15 →
 bif (decide (i3<(s1.size:Int))) then (
 (0≤i3∧i3<(s1.size:Int)) ∧
 ∃ b8:UInt8,s1.toList[Int.toNat i3]?=some b8 ∧
 (0≤(IntKind.wrap .i64 (((Utf8.encode r1).size:Int) - 1))∧(IntKind.wrap .i64 (((Utf8.encode r1).size:Int) - 1))<((Utf8.encode r1).size:Int)) ∧
 ∃ b9:UInt8,(Utf8.encode r1).toList[Int.toNat (IntKind.wrap .i64 (((Utf8.encode r1).size:Int) - 1))]?=some b9 ∧
 bif (((UInt8.toNat b8:Nat):Int) != ((UInt8.toNat b9:Nat):Int)) then (
 (0≤(IntKind.wrap .i64 (i3+1))∧(IntKind.wrap .i64 (i3+1))≤(s1.size:Int)) ∧
 (0≤(IntKind.wrap .i64 (((Utf8.encode r1).size:Int) - 1))∧(IntKind.wrap .i64 (((Utf8.encode r1).size:Int) - 1))<((Utf8.encode r1).size:Int)) ∧
 ∃ b10:UInt8,(Utf8.encode r1).toList[Int.toNat (IntKind.wrap .i64 (((Utf8.encode r1).size:Int) - 1))]?=some b10 ∧
 C.strings_IndexByte (ByteArray.extract s1 (Int.toNat (IntKind.wrap .i64 (i3+1))) s1.size) ((UInt8.toNat b10:Nat):Int) h15 fun r6 h16 =>
 ∃ (n3:Int),r6 = .int .i64 n3 ∧
 bif (decide (n3<0)) then (
 K (.int .i64 (-1)) h16) else (
 strings_IndexRune.k2 s1 r1 (IntKind.wrap .i64 (i3+(IntKind.wrap .i64 (n3+1)))) h16 K)) else (
 strings_IndexRune.k2 s1 r1 i3 h15 K)) else (
 K (.int .i64 (-1)) h15))))
def strings_IndexRune.lo : Nat→List Nat×List (Nat×Ty):=fun n=>match n with|5=>([0,7,8],[(9,.int .i64)])|12=>([0,7,8,9],[(12,.int .i64)])|38=>([175],[])|_=>([],[])
def strings_IndexRune.od : Nat→Od:=fun n=>match n with|6=>(.op 0 [] (.op 1 [] (.op 2 [] (.op 3 [] (.op 4 [] (.op 5 [] (.op 6 [] .nil)))))))|7=>(.op 0 [] (.op 1 [] (.op 2 [] (.op 3 [] (.op 4 [] (.op 5 [] (.op 6 [] (.op 7 [] (.op 8 [] .nil)))))))))|14=>(.op 0 [] (.op 1 [] (.op 2 [] (.op 3 [] (.op 4 [] (.op 5 [] (.op 6 [] (.op 7 [] (.op 8 [] (.op 9 [] (.op 10 [] .nil)))))))))))|31=>(.op 0 [] (.op 1 [] (.op 2 [] (.op 3 [] (.op 4 [] (.op 5 [] (.op 6 [] (.op 7 [] (.op 8 [] (.op 9 [] (.op 10 [] .nil)))))))))))|_ => .nil
set_option maxRecDepth 1000000 in
set_option maxRecDepth 1000000 in
theorem strings_IndexRune.ok {s1:ByteArray} {r1:Int} {K:Value→Heap→Prop} {h:Heap} (hx:strings_IndexRune s1 r1 K h):C.strings_IndexRune s1 r1 h K :=
 fn_to (c:=Tryz.f269.body.getD .skip) (cxOk strings_IndexRune.lo strings_IndexRune.od) Tryz.func269 (by kernel_rfl) (by kernel_rfl) (Eq.mpr (by kernel_rfl) hx)
def strings_shouldUseASCIISet (bufLen1:Int) (K:Value→Heap→Prop) (h1:Heap):Prop :=
 K (.bool (decide (bufLen1>8))) h1
def strings_shouldUseASCIISet.lo : Nat→List Nat×List (Nat×Ty):=fun n=>match n with|_=>([],[])
def strings_shouldUseASCIISet.od : Nat→Od:=fun n=>match n with|_ => .nil
theorem strings_shouldUseASCIISet.ok {bufLen1:Int} {K:Value→Heap→Prop} {h:Heap} (hx:strings_shouldUseASCIISet bufLen1 K h):C.strings_shouldUseASCIISet bufLen1 h K :=
 fn_to (c:=Tryz.f270.body.getD .skip) (cxOk strings_shouldUseASCIISet.lo strings_shouldUseASCIISet.od) Tryz.func270 (by kernel_rfl) (by kernel_rfl) (Eq.mpr (by kernel_rfl) hx)
def strings_makeASCIISet (chars1:ByteArray) (K:Value→Heap→Prop) (h1:Heap):Prop :=
 New z361 361 h1 fun h2 =>
 ∃ (I1:Int→Heap→Prop) (M1:Int→Heap→Nat),I1 0 h2 ∧
 ∀ (i1:Int),∀ h3:Heap,I1 i1 h3 →
 bif (decide (i1<(chars1.size:Int))) then (
 (0≤i1∧i1<(chars1.size:Int)) ∧
 ∃ b1:UInt8,chars1.toList[Int.toNat i1]?=some b1 ∧
 bif (decide (((UInt8.toNat b1:Nat):Int)≥128)) then (
 ∃ cs1:List Value,List.length cs1=256∧Cells h3 ⟨h1.size,0,none⟩ cs1 ∧
 PutRow ⟨h1.size,0,none⟩ cs1 256 h3 fun h4 =>
 ∃ res1:List Value,List.length res1=256∧Cells h4 ⟨h1.size,0,none⟩ res1 ∧
 K (.tuple #[.agg ⟨res1⟩,.bool false]) h4) else (
 (0≤((UInt8.toNat b1:Nat):Int)∧((UInt8.toNat b1:Nat):Int)<(256:Int)) ∧
 Put (Addr.add ⟨h1.size,0,none⟩ (Int.toNat ((UInt8.toNat b1:Nat):Int))) (.bool true) h3 fun h5 =>
 I1 (IntKind.wrap .i64 (i1+1)) h5∧M1 (IntKind.wrap .i64 (i1+1)) h5<M1 i1 h3)) else (
 ∃ cs2:List Value,List.length cs2=256∧Cells h3 ⟨h1.size,0,none⟩ cs2 ∧
 PutRow ⟨h1.size,0,none⟩ cs2 256 h3 fun h6 =>
 ∃ res2:List Value,List.length res2=256∧Cells h6 ⟨h1.size,0,none⟩ res2 ∧
 K (.tuple #[.agg ⟨res2⟩,.bool true]) h6)
def strings_makeASCIISet.lo : Nat→List Nat×List (Nat×Ty):=fun n=>match n with|2=>([0,2],[(4,.int .i64)])|_=>([],[])
def strings_makeASCIISet.od : Nat→Od:=fun n=>match n with|_ => .nil
theorem strings_makeASCIISet.ok {chars1:ByteArray} {K:Value→Heap→Prop} {h:Heap} (hx:strings_makeASCIISet chars1 K h):C.strings_makeASCIISet chars1 h K :=
 fn_to (c:=Tryz.f271.body.getD .skip) (cxOk strings_makeASCIISet.lo strings_makeASCIISet.od) Tryz.func271 (by kernel_rfl) (by kernel_rfl) (Eq.mpr (by kernel_rfl) hx)
def strings_asciiSet_contains (as1:Option Addr) (c1:Int) (K:Value→Heap→Prop) (h1:Heap):Prop :=
 onSome as1 fun p1 =>
 (0≤c1∧c1<(256:Int)) ∧
 ∃ (b1:Bool),cellOf h1 (Addr.add p1 (Int.toNat c1))=some (.bool b1) ∧
 K (.bool b1) h1
def strings_asciiSet_contains.lo : Nat→List Nat×List (Nat×Ty):=fun n=>match n with|_=>([],[])
def strings_asciiSet_contains.od : Nat→Od:=fun n=>match n with|_ => .nil
theorem strings_asciiSet_contains.ok {as1:Option Addr} {c1:Int} {K:Value→Heap→Prop} {h:Heap} (hx:strings_asciiSet_contains as1 c1 K h):C.strings_asciiSet_contains as1 c1 h K :=
 fn_to (c:=Tryz.f272.body.getD .skip) (cxOk strings_asciiSet_contains.lo strings_asciiSet_contains.od) Tryz.func272 (by kernel_rfl) (by kernel_rfl) (Eq.mpr (by kernel_rfl) hx)
def bmap_way (k1:Int) (K:Value→Heap→Prop) (h1:Heap):Prop :=
 bif (decide (k1<10)) then (
 List.length ([.int .i64 0,.int .i64 k1]:List Value)=2 ∧
 New [.int .i64 0,.int .i64 k1] 307 h1 fun h2 =>
 K (.slice (some ⟨h1.size,0,none⟩) 1 1) h2) else (
 bif (decide (k1<138)) then (
 List.length ([.int .i64 1,.int .i64 0]:List Value)=2 ∧
 List.length ([.int .i64 3,.int .i64 (IntKind.wrap .i64 (k1 - 10))]:List Value)=2 ∧
 New [.int .i64 1,.int .i64 0,.int .i64 3,.int .i64 (IntKind.wrap .i64 (k1 - 10))] 307 h1 fun h3 =>
 K (.slice (some ⟨h1.size,0,none⟩) 2 2) h3) else (
 List.length ([.int .i64 2,.int .i64 0]:List Value)=2 ∧
 List.length ([.int .i64 3,.int .i64 (IntKind.wrap .i64 (Int.tdiv (IntKind.wrap .i64 (k1 - 138)) 128))]:List Value)=2 ∧
 List.length ([.int .i64 3,.int .i64 (Int.tmod (IntKind.wrap .i64 (k1 - 138)) 128)]:List Value)=2 ∧
 New [.int .i64 2,.int .i64 0,.int .i64 3,.int .i64 (IntKind.wrap .i64 (Int.tdiv (IntKind.wrap .i64 (k1 - 138)) 128)),.int .i64 3,.int .i64 (Int.tmod (IntKind.wrap .i64 (k1 - 138)) 128)] 307 h1 fun h4 =>
 K (.slice (some ⟨h1.size,0,none⟩) 3 3) h4))
def bmap_way.lo : Nat→List Nat×List (Nat×Ty):=fun n=>match n with|_=>([],[])
def bmap_way.od : Nat→Od:=fun n=>match n with|_ => .nil
theorem bmap_way.ok {k1:Int} {K:Value→Heap→Prop} {h:Heap} (hx:bmap_way k1 K h):C.bmap_way k1 h K :=
 fn_to (c:=Tryz.f273.body.getD .skip) (cxOk bmap_way.lo bmap_way.od) Tryz.func273 (by kernel_rfl) (by kernel_rfl) (Eq.mpr (by kernel_rfl) hx)
def bmap_file_number (f1:Option Addr) (s1:List Value) (at1:Int) (K:Value→Heap→Prop) (h1:Heap):Prop :=
 New s1 307 h1 fun h2 =>
 ∃ (n1:Int),cellOf h2 (Addr.add ⟨h1.size,0,none⟩ 0)=some (.int .i64 n1) ∧
 bif (n1 != 3) then (
 ∃ cs1:List Value,List.length cs1=2∧Cells h2 ⟨h1.size,0,none⟩ cs1 ∧
 C.bmap_file_own f1 cs1 h2 fun r1 h3 =>
 ∃ (q1:Option Addr),r1 = .pointer q1 ∧
 onSome q1 fun p1 =>
 ∃ (n2:Int),cellOf h3 p1=some (.int .i64 n2) ∧
 K (.tuple #[.int .i64 n2,.slice none 0 0,.int .i64 0]) h3) else (
 onSome f1 fun p2 =>
 ∃ (q2:Option Addr),cellOf h2 (Addr.add p2 0)=some (.pointer q2) ∧
 C.txn_Txn_Read q2 at1 h2 fun r2 h4 =>
 ∃ (sA1:Option Addr) (sL1:Nat) (sC1:Nat) (n3:Int),r2 = .tuple #[.slice sA1 sL1 sC1,.int .i64 n3] ∧
 bif (n3 != 0) then (
 K (.tuple #[.int .i64 0,.slice none 0 0,.int .i64 n3]) h4) else (
 ∃ (n4:Int),cellOf h4 (Addr.add ⟨h1.size,0,none⟩ 1)=some (.int .i64 n4) ∧
 C.rec_Get sA1 sL1 sC1 (IntKind.wrap .i64 (4*n4)) 4 h4 fun r3 h5 =>
 ∃ (n5:Int) (n6:Int),r3 = .tuple #[.int .u64 n5,.int .i64 n6] ∧
 K (.tuple #[.int .i64 (IntKind.wrap .i64 (n5)),.slice sA1 sL1 sC1,.int .i64 0]) h5))
def bmap_file_number.lo : Nat→List Nat×List (Nat×Ty):=fun n=>match n with|_=>([],[])
def bmap_file_number.od : Nat→Od:=fun n=>match n with|_ => .nil
theorem bmap_file_number.ok {f1:Option Addr} {s1:List Value} {at1:Int} {K:Value→Heap→Prop} {h:Heap} (hx:bmap_file_number f1 s1 at1 K h):C.bmap_file_number f1 s1 at1 h K :=
 fn_to (c:=Tryz.f274.body.getD .skip) (cxOk bmap_file_number.lo bmap_file_number.od) Tryz.func274 (by kernel_rfl) (by kernel_rfl) (Eq.mpr (by kernel_rfl) hx)
def bmap_file_own (f1:Option Addr) (s1:List Value) (K:Value→Heap→Prop) (h1:Heap):Prop :=
 New s1 307 h1 fun h2 =>
 ∃ (n1:Int),cellOf h2 (Addr.add ⟨h1.size,0,none⟩ 0)=some (.int .i64 n1) ∧
 bif (n1 == 0) then (
 ∃ (n2:Int),cellOf h2 (Addr.add ⟨h1.size,0,none⟩ 1)=some (.int .i64 n2) ∧
 onSome f1 fun p1 =>
 (0≤n2∧n2<(10:Int)) ∧
 K (.pointer (some (Addr.add (Addr.add (Addr.add p1 6) 3) (Int.toNat n2)))) h2) else (
 bif (n1 == 1) then (
 onSome f1 fun p2 =>
 K (.pointer (some (Addr.add (Addr.add p2 6) 13))) h2) else (
 onSome f1 fun p3 =>
 K (.pointer (some (Addr.add (Addr.add p3 6) 14))) h2))
def bmap_file_own.lo : Nat→List Nat×List (Nat×Ty):=fun n=>match n with|_=>([],[])
def bmap_file_own.od : Nat→Od:=fun n=>match n with|3=>(.op 0 [] (.op 1 [] (.op 2 [] (.op 3 [] (.op 4 [] (.op 5 [] (.op 6 [] (.op 7 [] .nil))))))))|_ => .nil
theorem bmap_file_own.ok {f1:Option Addr} {s1:List Value} {K:Value→Heap→Prop} {h:Heap} (hx:bmap_file_own f1 s1 K h):C.bmap_file_own f1 s1 h K :=
 fn_to (c:=Tryz.f276.body.getD .skip) (cxOk bmap_file_own.lo bmap_file_own.od) Tryz.func276 (by kernel_rfl) (by kernel_rfl) (Eq.mpr (by kernel_rfl) hx)
def inode_numbers (x1:List Value) (K:Value→Heap→Prop) (h1:Heap):Prop :=
 New x1 123 h1 fun h2 =>
 New z371 371 h2 fun h3 =>
 New z371 371 h3 fun h4 =>
 CopyP ti3 (some ⟨h3.size,0,none⟩) 12 (.slice (some (Addr.add ⟨h1.size,0,none⟩ 3)) 10 10) h4 fun n1 h5 =>
 ∃ (n2:Int),cellOf h5 (Addr.add ⟨h1.size,0,none⟩ 13)=some (.int .i64 n2) ∧
 ∃ (n3:Int),cellOf h5 (Addr.add ⟨h1.size,0,none⟩ 14)=some (.int .i64 n3) ∧
 (0≤(10:Int)∧10<(12:Int)) ∧
 Put (Addr.add ⟨h3.size,0,none⟩ (Int.toNat 10)) (.int .i64 n2) h5 fun h6 =>
 (0≤(11:Int)∧11<(12:Int)) ∧
 Put (Addr.add ⟨h3.size,0,none⟩ (Int.toNat 11)) (.int .i64 n3) h6 fun h7 =>
 ∃ cs1:List Value,List.length cs1=12∧Cells h7 ⟨h3.size,0,none⟩ cs1 ∧
 PutRow ⟨h2.size,0,none⟩ cs1 12 h7 fun h8 =>
 ∃ res1:List Value,List.length res1=12∧Cells h8 ⟨h2.size,0,none⟩ res1 ∧
 K (.agg ⟨res1⟩) h8
def inode_numbers.lo : Nat→List Nat×List (Nat×Ty):=fun n=>match n with|_=>([],[])
def inode_numbers.od : Nat→Od:=fun n=>match n with|2=>(.op 0 [] (.op 1 [] (.op 2 [] (.op 3 [] .nil))))|_ => .nil
theorem inode_numbers.ok {x1:List Value} {K:Value→Heap→Prop} {h:Heap} (hx:inode_numbers x1 K h):C.inode_numbers x1 h K :=
 fn_to (c:=Tryz.f277.body.getD .skip) (cxOk inode_numbers.lo inode_numbers.od) Tryz.func277 (by kernel_rfl) (by kernel_rfl) (Eq.mpr (by kernel_rfl) hx)
def walk_walk_more (w1:Option Addr) (K:Value→Heap→Prop) (h1:Heap):Prop :=
 onSome w1 fun p1 =>
 ∃ (b1:Bool),cellOf h1 (Addr.add p1 10)=some (.bool b1) ∧
 bif b1 then (
 K (.bool true) h1) else (
 onSome w1 fun p2 =>
 ∃ (sA1:Option Addr) (sL1:Nat) (sC1:Nat),cellOf h1 (Addr.add p2 7)=some (.slice sA1 sL1 sC1) ∧
 K (.bool (decide ((sL1:Int)>0))) h1)
def walk_walk_more.lo : Nat→List Nat×List (Nat×Ty):=fun n=>match n with|_=>([],[])
def walk_walk_more.od : Nat→Od:=fun n=>match n with|_ => .nil
theorem walk_walk_more.ok {w1:Option Addr} {K:Value→Heap→Prop} {h:Heap} (hx:walk_walk_more w1 K h):C.walk_walk_more w1 h K :=
 fn_to (c:=Tryz.f283.body.getD .skip) (cxOk walk_walk_more.lo walk_walk_more.od) Tryz.func283 (by kernel_rfl) (by kernel_rfl) (Eq.mpr (by kernel_rfl) hx)
def walk_row_down (r1:Option Addr) (n1:Int) (K:Value→Heap→Prop) (h1:Heap):Prop :=
 onSome r1 fun p1 =>
 ∃ (sA1:Option Addr) (sL1:Nat) (sC1:Nat),cellOf h1 (Addr.add p1 0)=some (.slice sA1 sL1 sC1) ∧
 New [.int .i64 n1] 3 h1 fun h2 =>
 ∃ new1:List Value,List.length new1=1*1∧SlCells h2 (some ⟨h1.size,0,none⟩) new1∧(∀ v ∈ new1,v.oneCell'=true) ∧
 AppendP ti3 3 sA1 sL1 sC1 1 new1 h2 fun sA2 sL2 sC2 h3 =>
 onSome r1 fun p2 =>
 Put (Addr.add p2 0) (.slice sA2 sL2 sC2) h3 fun h4 =>
 K (.tuple #[]) h4
def walk_row_down.lo : Nat→List Nat×List (Nat×Ty):=fun n=>match n with|_=>([],[])
def walk_row_down.od : Nat→Od:=fun n=>match n with|_ => .nil
theorem walk_row_down.ok {r1:Option Addr} {n1:Int} {K:Value→Heap→Prop} {h:Heap} (hx:walk_row_down r1 n1 K h):C.walk_row_down r1 n1 h K :=
 fn_to (c:=Tryz.f284.body.getD .skip) (cxOk walk_row_down.lo walk_row_down.od) Tryz.func284 (by kernel_rfl) (by kernel_rfl) (Eq.mpr (by kernel_rfl) hx)
def file_Read.k1 (n1:Int) (off1:Int) (size1:Int) (h1:Heap) (h2:Heap) (h3:Heap) (h4:Heap) (h10:Heap) (K:Value→Heap→Prop):Prop :=
 ∃ (q1:Option Addr),cellOf h10 ⟨h1.size,0,none⟩=some (.pointer q1) ∧
 ∃ cs1:List Value,List.length cs1=5∧Cells h10 ⟨h2.size,0,none⟩ cs1 ∧
 C.file_get q1 cs1 n1 h10 fun r1 h11 =>
 ∃ (cs2:List Value) (n2:Int),r1 = .tuple #[.agg ⟨cs2⟩,.int .i64 n2] ∧
 NewRow z123 123 cs2 15 h11 fun h13 =>
 bif (n2 != 0) then (
 Put ⟨h3.size,0,none⟩ (.string (mkStr [])) h13 fun h14 =>
 Put ⟨h4.size,0,none⟩ (.int .i64 n2) h14 fun h15 =>
 ∃ (res5:ByteArray),cellOf h15 ⟨h3.size,0,none⟩=some (.string res5) ∧
 ∃ (res6:Int),cellOf h15 ⟨h4.size,0,none⟩=some (.int .i64 res6) ∧
 K (.tuple #[.string res5,.int .i64 res6]) h15) else (
 ∃ (n3:Int),cellOf h13 (Addr.add ⟨h11.size,0,none⟩ 2)=some (.int .i64 n3) ∧
 bif (decide (off1≥n3)) then (
 Put ⟨h3.size,0,none⟩ (.string (mkStr [])) h13 fun h16 =>
 Put ⟨h4.size,0,none⟩ (.int .i64 0) h16 fun h17 =>
 ∃ (res7:ByteArray),cellOf h17 ⟨h3.size,0,none⟩=some (.string res7) ∧
 ∃ (res8:Int),cellOf h17 ⟨h4.size,0,none⟩=some (.int .i64 res8) ∧
 K (.tuple #[.string res7,.int .i64 res8]) h17) else (
 New z403 403 h13 fun h18 =>
 ∃ (n4:Int),cellOf h18 (Addr.add ⟨h11.size,0,none⟩ 2)=some (.int .i64 n4) ∧
 C.file_parts off1 (if (IntKind.wrap .i64 (n4 - off1))<size1 then (IntKind.wrap .i64 (n4 - off1)) else size1) h18 fun r2 h19 =>
 ∃ (v1:Value),r2=v1 ∧
 ∀ (R1:Loop),
 (∀ (cs3:List Value),∀ (h20:Heap) (k1:Value→Heap→Prop),LoopOn h20 (h19.size+1) R1 .ready none →
 (
 NewRow z408 408 cs3 4 h20 fun h22 =>
 LoopOn h22 (h19.size+1) R1 .ready none ∧
 SetL h22 (h19.size+1) R1 .busy none fun h23 =>
 ∃ (q2:Option Addr),cellOf h23 ⟨h1.size,0,none⟩=some (.pointer q2) ∧
 ∃ cs4:List Value,List.length cs4=5∧Cells h23 ⟨h2.size,0,none⟩ cs4 ∧
 ∃ cs5:List Value,List.length cs5=15∧Cells h23 ⟨h11.size,0,none⟩ cs5 ∧
 ∃ (n5:Int),cellOf h23 (Addr.add ⟨h20.size,0,none⟩ 0)=some (.int .i64 n5) ∧
 C.file_block q2 cs4 cs5 n5 h23 fun r3 h24 =>
 ∃ (sA1:Option Addr) (sL1:Nat) (sC1:Nat) (n6:Int),r3 = .tuple #[.slice sA1 sL1 sC1,.int .i64 n6] ∧
 bif (n6 != 0) then (
 Put ⟨h3.size,0,none⟩ (.string (mkStr [])) h24 fun h25 =>
 Put ⟨h4.size,0,none⟩ (.int .i64 n6) h25 fun h26 =>
 LoopOn h26 (h19.size+1) R1 .busy none ∧
 k1 (.bool false) (setLoop h26 (h19.size+1) R1 .done (some .ret))) else (
 ∃ (n7:Int),cellOf h24 (Addr.add ⟨h20.size,0,none⟩ 1)=some (.int .i64 n7) ∧
 ∃ (n8:Int),cellOf h24 (Addr.add ⟨h20.size,0,none⟩ 2)=some (.int .i64 n8) ∧
 (0≤n7∧n7≤n8∧n8≤(sC1:Int)) ∧
 C.strings_Builder_Write (some ⟨h13.size,0,none⟩) (if sC1=(Int.toNat n7) then sA1 else Option.map (Addr.add · (Int.toNat n7)) sA1) ((Int.toNat n8) - (Int.toNat n7)) (sC1 - (Int.toNat n7)) h24 fun r4 h27 =>
 ∃ (n9:Int) (v2:Value),r4 = .tuple #[.int .i64 n9,v2] ∧
 LoopOn h27 (h19.size+1) R1 .busy none ∧
 k1 (.bool true) (setLoop h27 (h19.size+1) R1 .ready none))) →
 YCalls Tryz.prog (h19.size+1) [.agg ⟨cs3⟩] h20 k1) →
 HCallsF Tryz.prog v1 [.func (.yield (h19.size+1)) #[] #[]] (beginL h19 R1) fun _ h28 =>
 ∃ (st1:LoopState) (pend1:Option Code),LoopOn h28 (h19.size+1) R1 st1 pend1∧st1 ≠ .busy ∧
 pendX pend1 (
 SetL h28 (h19.size+1) R1 .exhausted pend1 fun h29 =>
 C.strings_Builder_String (some ⟨h13.size,0,none⟩) h29 fun r5 h30 =>
 ∃ (s1:ByteArray),r5 = .string s1 ∧
 Put ⟨h3.size,0,none⟩ (.string s1) h30 fun h31 =>
 Put ⟨h4.size,0,none⟩ (.int .i64 0) h31 fun h32 =>
 EndD h19.size h32 fun h33 =>
 ∃ (res9:ByteArray),cellOf h33 ⟨h3.size,0,none⟩=some (.string res9) ∧
 ∃ (res10:Int),cellOf h33 ⟨h4.size,0,none⟩=some (.int .i64 res10) ∧
 K (.tuple #[.string res9,.int .i64 res10]) h33) (
 SetL h28 (h19.size+1) R1 .exhausted pend1 fun h34 =>
 EndD h19.size h34 fun h35 =>
 ∃ (res11:ByteArray),cellOf h35 ⟨h3.size,0,none⟩=some (.string res11) ∧
 ∃ (res12:Int),cellOf h35 ⟨h4.size,0,none⟩=some (.int .i64 res12) ∧
 K (.tuple #[.string res11,.int .i64 res12]) h35) (fun _=>False)))
def file_Read (t1:Option Addr) (g1:List Value) (n1:Int) (off1:Int) (size1:Int) (K:Value→Heap→Prop) (h1:Heap):Prop :=
 New [.pointer t1] 23 h1 fun h2 =>
 New g1 25 h2 fun h3 =>
 New z9 9 h3 fun h4 =>
 New z34 34 h4 fun h5 =>
 bif (decide (off1<0)) then (
 Put ⟨h3.size,0,none⟩ (.string (mkStr [])) h5 fun h6 =>
 Put ⟨h4.size,0,none⟩ (.int .i64 1) h6 fun h7 =>
 ∃ (res1:ByteArray),cellOf h7 ⟨h3.size,0,none⟩=some (.string res1) ∧
 ∃ (res2:Int),cellOf h7 ⟨h4.size,0,none⟩=some (.int .i64 res2) ∧
 K (.tuple #[.string res1,.int .i64 res2]) h7) else (
 bif (decide (size1<0)) then (
 Put ⟨h3.size,0,none⟩ (.string (mkStr [])) h5 fun h8 =>
 Put ⟨h4.size,0,none⟩ (.int .i64 1) h8 fun h9 =>
 ∃ (res3:ByteArray),cellOf h9 ⟨h3.size,0,none⟩=some (.string res3) ∧
 ∃ (res4:Int),cellOf h9 ⟨h4.size,0,none⟩=some (.int .i64 res4) ∧
 K (.tuple #[.string res3,.int .i64 res4]) h9) else (
 file_Read.k1 n1 off1 size1 h1 h2 h3 h4 h5 K))
def file_Read.lo : Nat→List Nat×List (Nat×Ty):=fun n=>match n with|1000010=>([],[(46,.agg)])|_=>([],[])
def file_Read.od : Nat→Od:=fun n=>match n with|_ => .nil
theorem file_Read.ok {t1:Option Addr} {g1:List Value} {n1:Int} {off1:Int} {size1:Int} {K:Value→Heap→Prop} {h:Heap} (hx:file_Read t1 g1 n1 off1 size1 K h):C.file_Read t1 g1 n1 off1 size1 h K :=
 fn_to (c:=Tryz.f285.body.getD .skip) (cxOk file_Read.lo file_Read.od) Tryz.func285 (by kernel_rfl) (by kernel_rfl) (Eq.mpr (by kernel_rfl) hx)
def path_Text (s1:ByteArray) (K:Value→Heap→Prop) (h1:Heap):Prop :=
 C.path_wrong s1 false h1 fun r1 h2 =>
 ∃ (b1:Bool),r1 = .bool b1 ∧
 bif b1 then (
 K (.tuple #[.slice none 0 0,.bool false,.int .i64 1]) h2) else (
 C.path_components s1 1024 h2 fun r2 h3 =>
 ∃ (sA1:Option Addr) (sL1:Nat) (sC1:Nat) (n1:Int),r2 = .tuple #[.slice sA1 sL1 sC1,.int .i64 n1] ∧
 bif (n1 != 0) then (
 K (.tuple #[.slice none 0 0,.bool false,.int .i64 n1]) h3) else (
 (0≤(0:Int)∧0<(s1.size:Int)) ∧
 ∃ b2:UInt8,s1.toList[Int.toNat 0]?=some b2 ∧
 K (.tuple #[.slice sA1 sL1 sC1,.bool (((UInt8.toNat b2:Nat):Int) == 47),.int .i64 0]) h3))
def path_Text.lo : Nat→List Nat×List (Nat×Ty):=fun n=>match n with|_=>([],[])
def path_Text.od : Nat→Od:=fun n=>match n with|6=>(.op 0 [] (.op 1 [] (.op 2 [] (.op 3 [] (.op 4 [] (.op 5 [] (.op 6 [] .nil)))))))|_ => .nil
theorem path_Text.ok {s1:ByteArray} {K:Value→Heap→Prop} {h:Heap} (hx:path_Text s1 K h):C.path_Text s1 h K :=
 fn_to (c:=Tryz.f286.body.getD .skip) (cxOk path_Text.lo path_Text.od) Tryz.func286 (by kernel_rfl) (by kernel_rfl) (Eq.mpr (by kernel_rfl) hx)
def slices_Clone_string_string (sA1:Option Addr) (sL1:Nat) (sC1:Nat) (K:Value→Heap→Prop) (h1:Heap):Prop :=
 bif (Option.isNone sA1) then (
 K (.slice none 0 0) h1) else (
 New [] 9 h1 fun h2 =>
 ∃ new1:List Value,List.length new1=sL1*1∧SlCells h2 sA1 new1∧(∀ v ∈ new1,v.oneCell'=true) ∧
 AppendP ti9 9 (some ⟨h1.size,0,none⟩) 0 0 sL1 new1 h2 fun sA2 sL2 sC2 h3 =>
 K (.slice sA2 sL2 sC2) h3)
def slices_Clone_string_string.lo : Nat→List Nat×List (Nat×Ty):=fun n=>match n with|_=>([],[])
def slices_Clone_string_string.od : Nat→Od:=fun n=>match n with|_ => .nil
theorem slices_Clone_string_string.ok {sA1:Option Addr} {sL1:Nat} {sC1:Nat} {K:Value→Heap→Prop} {h:Heap} (hx:slices_Clone_string_string sA1 sL1 sC1 K h):C.slices_Clone_string_string sA1 sL1 sC1 h K :=
 fn_to (c:=Tryz.f287.body.getD .skip) (cxOk slices_Clone_string_string.lo slices_Clone_string_string.od) Tryz.func287 (by kernel_rfl) (by kernel_rfl) (Eq.mpr (by kernel_rfl) hx)
def rec_zeros (bA1:Option Addr) (bL1:Nat) (bC1:Nat) (K:Value→Heap→Prop) (h1:Heap):Prop :=
 ∃ (I1:Int→Heap→Prop) (M1:Int→Heap→Nat),I1 0 h1 ∧
 ∀ (n1:Int),∀ h2:Heap,I1 n1 h2 →
 bif (decide (n1<(bL1:Int))) then (
 (0≤n1∧n1<(bL1:Int)) ∧
 onSome bA1 fun p1 =>
 ∃ (n2:Int),cellOf h2 (Addr.add p1 (Int.toNat n1))=some (.int .u8 n2) ∧
 bif (n2 != 0) then (
 K (.bool false) h2) else (
 I1 (IntKind.wrap .i64 (n1+1)) h2∧M1 (IntKind.wrap .i64 (n1+1)) h2<M1 n1 h2)) else (
 K (.bool true) h2)
def rec_zeros.lo : Nat→List Nat×List (Nat×Ty):=fun n=>match n with|2=>([5,6],[(7,.int .i64)])|_=>([],[])
def rec_zeros.od : Nat→Od:=fun n=>match n with|_ => .nil
theorem rec_zeros.ok {bA1:Option Addr} {bL1:Nat} {bC1:Nat} {K:Value→Heap→Prop} {h:Heap} (hx:rec_zeros bA1 bL1 bC1 K h):C.rec_zeros bA1 bL1 bC1 h K :=
 fn_to (c:=Tryz.f289.body.getD .skip) (cxOk rec_zeros.lo rec_zeros.od) Tryz.func289 (by kernel_rfl) (by kernel_rfl) (Eq.mpr (by kernel_rfl) hx)
end Go.Proofs.YtiapingedfnlnaaGreatDoor.W
namespace Go.Proofs.YtiapingedfnlnaaGreatDoor.W
open Go Go.Proofs Wx
def unicode_utf8_ValidRune (r1:Int) (K:Value→Heap→Prop) (h1:Heap):Prop :=
 bif (decide ((0:Int)≤r1)) then (
 bif (decide (r1<55296)) then (
 K (.bool true) h1) else (
 bif (decide ((57343:Int)<r1)) then (
 bif (decide (r1≤1114111)) then (
 K (.bool true) h1) else (
 K (.bool false) h1)) else (
 K (.bool false) h1))) else (
 bif (decide ((57343:Int)<r1)) then (
 bif (decide (r1≤1114111)) then (
 K (.bool true) h1) else (
 K (.bool false) h1)) else (
 K (.bool false) h1))
def unicode_utf8_ValidRune.lo : Nat→List Nat×List (Nat×Ty):=fun n=>match n with|_=>([],[])
def unicode_utf8_ValidRune.od : Nat→Od:=fun n=>match n with|_ => .nil
set_option maxRecDepth 1000000 in
set_option maxRecDepth 1000000 in
theorem unicode_utf8_ValidRune.ok {r1:Int} {K:Value→Heap→Prop} {h:Heap} (hx:unicode_utf8_ValidRune r1 K h):C.unicode_utf8_ValidRune r1 h K :=
 fn_to (c:=Tryz.f311.body.getD .skip) (cxOk unicode_utf8_ValidRune.lo unicode_utf8_ValidRune.od) Tryz.func311 (by kernel_rfl) (by kernel_rfl) (Eq.mpr (by kernel_rfl) hx)
def file_parts (off1:Int) (n1:Int) (K:Value→Heap→Prop) (h1:Heap):Prop :=
 New [.int .i64 off1] 3 h1 fun h2 =>
 New [.int .i64 n1] 3 h2 fun h3 =>
 K (.func (.func 334) #[] ⟨[.pointer (some ⟨h2.size,0,none⟩),.pointer (some ⟨h1.size,0,none⟩)]⟩) h3
def file_parts.lo : Nat→List Nat×List (Nat×Ty):=fun n=>match n with|_=>([],[])
def file_parts.od : Nat→Od:=fun n=>match n with|_ => .nil
theorem file_parts.ok {off1:Int} {n1:Int} {K:Value→Heap→Prop} {h:Heap} (hx:file_parts off1 n1 K h):C.file_parts off1 n1 h K :=
 fn_to (c:=Tryz.f315.body.getD .skip) (cxOk file_parts.lo file_parts.od) Tryz.func315 (by kernel_rfl) (by kernel_rfl) (Eq.mpr (by kernel_rfl) hx)
def file_block (t1:Option Addr) (g1:List Value) (x1:List Value) (k1:Int) (K:Value→Heap→Prop) (h1:Heap):Prop :=
 New g1 25 h1 fun h2 =>
 New x1 123 h2 fun h3 =>
 ∃ cs1:List Value,List.length cs1=5∧Cells h3 ⟨h1.size,0,none⟩ cs1 ∧
 ∃ cs2:List Value,List.length cs2=15∧Cells h3 ⟨h2.size,0,none⟩ cs2 ∧
 C.bmap_Find t1 cs1 cs2 k1 h3 fun r1 h4 =>
 ∃ (n1:Int) (n2:Int),r1 = .tuple #[.int .i64 n1,.int .i64 n2] ∧
 bif (n2 != 0) then (
 K (.tuple #[.slice none 0 0,.int .i64 n2]) h4) else (
 bif (n1 == 0) then (
 (0≤(512:Int)∧(512:Int)≤512∧(1:Int)*512≤281474976710656∧(512:Int)≤281474976710656) ∧
 New (repCells z5 (Int.toNat 512)) 5 h4 fun h5 =>
 K (.tuple #[.slice (some ⟨h4.size,0,none⟩) (Int.toNat 512) (Int.toNat 512),.int .i64 0]) h5) else (
 C.txn_Txn_Read t1 n1 h4 fun r2 h6 =>
 ∃ (sA1:Option Addr) (sL1:Nat) (sC1:Nat) (n3:Int),r2 = .tuple #[.slice sA1 sL1 sC1,.int .i64 n3] ∧
 K (.tuple #[.slice sA1 sL1 sC1,.int .i64 n3]) h6))
def file_block.lo : Nat→List Nat×List (Nat×Ty):=fun n=>match n with|_=>([],[])
def file_block.od : Nat→Od:=fun n=>match n with|_ => .nil
theorem file_block.ok {t1:Option Addr} {g1:List Value} {x1:List Value} {k1:Int} {K:Value→Heap→Prop} {h:Heap} (hx:file_block t1 g1 x1 k1 K h):C.file_block t1 g1 x1 k1 h K :=
 fn_to (c:=Tryz.f316.body.getD .skip) (cxOk file_block.lo file_block.od) Tryz.func316 (by kernel_rfl) (by kernel_rfl) (Eq.mpr (by kernel_rfl) hx)
def strings_Builder_Write (b1:Option Addr) (pA1:Option Addr) (pL1:Nat) (pC1:Nat) (K:Value→Heap→Prop) (h1:Heap):Prop :=
 C.strings_Builder_copyCheck b1 h1 fun r1 h2 =>
 r1 = .tuple #[] ∧
 onSome b1 fun p1 =>
 ∃ (sA1:Option Addr) (sL1:Nat) (sC1:Nat),cellOf h2 (Addr.add p1 1)=some (.slice sA1 sL1 sC1) ∧
 ∃ new1:List Value,List.length new1=pL1*1∧SlCells h2 pA1 new1∧(∀ v ∈ new1,v.oneCell'=true) ∧
 AppendP ti5 5 sA1 sL1 sC1 pL1 new1 h2 fun sA2 sL2 sC2 h3 =>
 onSome b1 fun p2 =>
 Put (Addr.add p2 1) (.slice sA2 sL2 sC2) h3 fun h4 =>
 K (.tuple #[.int .i64 (pL1:Int),.nilIface]) h4
def strings_Builder_Write.lo : Nat→List Nat×List (Nat×Ty):=fun n=>match n with|_=>([],[])
def strings_Builder_Write.od : Nat→Od:=fun n=>match n with|_ => .nil
theorem strings_Builder_Write.ok {b1:Option Addr} {pA1:Option Addr} {pL1:Nat} {pC1:Nat} {K:Value→Heap→Prop} {h:Heap} (hx:strings_Builder_Write b1 pA1 pL1 pC1 K h):C.strings_Builder_Write b1 pA1 pL1 pC1 h K :=
 fn_to (c:=Tryz.f317.body.getD .skip) (cxOk strings_Builder_Write.lo strings_Builder_Write.od) Tryz.func317 (by kernel_rfl) (by kernel_rfl) (Eq.mpr (by kernel_rfl) hx)
end Go.Proofs.YtiapingedfnlnaaGreatDoor.W
namespace Go.Proofs.YtiapingedfnlnaaGreatDoor.W
open Go Go.Proofs Wx
def file_parts_c1 (yield1:Value) (cap1:Option Addr) (cap2:Option Addr) (K:Value→Heap→Prop) (h1:Heap):Prop :=
 ∃ (I1:Int→Heap→Prop) (M1:Int→Heap→Nat),I1 0 h1 ∧
 ∀ (at1:Int),∀ h2:Heap,I1 at1 h2 →
 onSome cap1 fun p1 =>
 ∃ (n1:Int),cellOf h2 p1=some (.int .i64 n1) ∧
 bif (decide (at1<n1)) then (
 onSome cap2 fun p2 =>
 ∃ (n2:Int),cellOf h2 p2=some (.int .i64 n2) ∧
 onSome cap2 fun p3 =>
 ∃ (n3:Int),cellOf h2 p3=some (.int .i64 n3) ∧
 NewRow z408 408 [.int .i64 (IntKind.wrap .i64 (Int.tdiv (IntKind.wrap .i64 (n2+at1)) 512)),.int .i64 (Int.tmod (IntKind.wrap .i64 (n3+at1)) 512),.int .i64 0,.int .i64 at1] 4 h2 fun h4 =>
 ∃ (n4:Int),cellOf h4 (Addr.add ⟨h2.size,0,none⟩ 1)=some (.int .i64 n4) ∧
 onSome cap1 fun p4 =>
 ∃ (n5:Int),cellOf h4 p4=some (.int .i64 n5) ∧
 Put (Addr.add ⟨h2.size,0,none⟩ 2) (.int .i64 (if (IntKind.wrap .i64 ((IntKind.wrap .i64 (n4+n5)) - at1))<512 then (IntKind.wrap .i64 ((IntKind.wrap .i64 (n4+n5)) - at1)) else 512)) h4 fun h5 =>
 ∃ cs1:List Value,List.length cs1=4∧Cells h5 ⟨h2.size,0,none⟩ cs1 ∧
 HCallsV Tryz.prog yield1 [.agg ⟨cs1⟩] h5 fun r1 h6 =>
 ∃ (b1:Bool),r1 = .bool b1 ∧
 bif (!b1) then (
 K (.tuple #[]) h6) else (
 ∃ (n6:Int),cellOf h6 (Addr.add ⟨h2.size,0,none⟩ 2)=some (.int .i64 n6) ∧
 ∃ (n7:Int),cellOf h6 (Addr.add ⟨h2.size,0,none⟩ 1)=some (.int .i64 n7) ∧
 I1 (IntKind.wrap .i64 (at1+(IntKind.wrap .i64 (n6 - n7)))) h6∧M1 (IntKind.wrap .i64 (at1+(IntKind.wrap .i64 (n6 - n7)))) h6<M1 at1 h2)) else (
 K (.tuple #[]) h2)
def file_parts_c1.lo : Nat→List Nat×List (Nat×Ty):=fun n=>match n with|1=>([0,1,2],[(4,.int .i64)])|_=>([],[])
def file_parts_c1.od : Nat→Od:=fun n=>match n with|_ => .nil
theorem file_parts_c1.ok {yield1:Value} {cap1:Option Addr} {cap2:Option Addr} {K:Value→Heap→Prop} {h:Heap} (hx:file_parts_c1 yield1 cap1 cap2 K h):C.file_parts_c1 yield1 cap1 cap2 h K :=
 fn_to (c:=Tryz.f334.body.getD .skip) (cxOk file_parts_c1.lo file_parts_c1.od) Tryz.func334 (by kernel_rfl) (by kernel_rfl) (Eq.mpr (by kernel_rfl) hx)
end Go.Proofs.YtiapingedfnlnaaGreatDoor.W
namespace Go.Proofs.YtiapingedfnlnaaGreatDoor.Re
open Go Go.Proofs Wx Hp W Su
def widthsL : List Bool:=[false,true,true,false,true,false,false,false,true]
def Wide (h:Heap):Prop:=rd h 0=widthsL.map .bool
theorem Wide.lt {h:Heap} (g:Wide h):0<h.size:=rd_lt (show (rd h 0)[0]?=some (.bool false) by rw [g]; rfl)
theorem Wide.fr {h h':Heap} {F:Nat→Prop} (g:Wide h) (f:Fr F h h') (hF:¬ F 0):Wide h':=(f.rd g.lt hF).trans g
theorem lie_spec {a:Option Addr} {l c:Nat} {at_ n:Int} {h:Heap} {K:Value→Heap→Prop} (hl:l≤140737488355328) (h0:0≤at_) (h1:0≤n) (h2:at_+n≤l) (hK:K (.bool true) h):C.rec_lie a l c at_ n h K:=by
 refine rec_lie.ok (ct (decide_eq_true h0) (ct (decide_eq_true h1) (ct (decide_eq_true (by omega)) ?_)))
 rw [wrap_i64 (by omega) (by omega),decide_eq_true (by omega)]; exact hK
def leN : List UInt8→Nat
 | []=>0
 | b::r=>b.toNat+256*leN r
theorem leN_lt : ∀ bs:List UInt8,leN bs<256 ^ bs.length:=by
 intro bs
 induction bs with
 | nil=>exact Nat.one_pos
 | cons b r ih =>
  have hb:b.toNat<256:=b.toNat_lt
  rw [leN,List.length_cons,Nat.pow_succ]; omega
theorem leN_snoc (bs:List UInt8) (b:UInt8):leN (bs++[b])=leN bs+b.toNat*256 ^ bs.length:=by
 induction bs with
 | nil=>simp [leN]
 | cons x r ih=>rw [List.cons_append,leN,ih,leN,List.length_cons,Nat.pow_succ,Nat.mul_add]; simp only [Nat.mul_comm,Nat.mul_left_comm,Nat.mul_assoc,Nat.add_assoc]
theorem pow_256 (k:Nat):256 ^ k=2 ^ (8*k):=by rw [Nat.pow_mul]
theorem or_step {v:Nat} {b:UInt8} {k:Nat} (hk:k<8) (hv:v<256 ^ k) :
  bitsI .or .u64 (v:Int) (IntKind.wrap .u64 ((IntKind.wrap .u64 (b.toNat:Int))*2 ^ min (Int.toNat (IntKind.wrap .i64 (8*(k:Int)))) 64))=((v+b.toNat*256 ^ k:Nat):Int):=by
 have hb:b.toNat<256:=b.toNat_lt
 have wu:∀ n:Nat,n<18446744073709551616→IntKind.wrap .u64 (n:Int)=(n:Int):=fun n h=>by
  show (n:Int) % 18446744073709551616=n
  exact Int.emod_eq_of_lt (by omega) (by omega)
 rw [wrap_i64 (by omega) (by omega),wu _ (by omega)]
 have e1:min (Int.toNat (8*(k:Int))) 64=8*k:=by omega
 rw [e1]
 have hp:256 ^ k≤256 ^ 7:=Nat.pow_le_pow_right (by decide) (by omega)
 have hp1:256 ^ (k+1)≤256 ^ 8:=Nat.pow_le_pow_right (by decide) (by omega)
 have hsum:v+b.toNat*256 ^ k<256 ^ (k+1):=by
  rw [Nat.pow_succ]
  have:b.toNat*256 ^ k≤255*256 ^ k:=Nat.mul_le_mul_right _ (by omega)
  omega
 have e8:(256:Nat) ^ 8=18446744073709551616:=by decide
 have e2:((b.toNat:Int)*2 ^ (8*k))=((b.toNat*256 ^ k:Nat):Int):=by rw [pow_256]; simp
 rw [e2,wu _ (by omega)]
 show IntKind.wrap .u64 (((BitVec.ofInt 64 (v:Int) ||| BitVec.ofInt 64 ((b.toNat*256 ^ k:Nat):Int)).toNat:Nat):Int)=_
 rw [BitVec.toNat_or,BitVec.ofInt_natCast,BitVec.ofInt_natCast,BitVec.toNat_ofNat,BitVec.toNat_ofNat,Nat.mod_eq_of_lt (by omega),Nat.mod_eq_of_lt (by omega)]
 have e3:v ||| b.toNat*256 ^ k=v+b.toNat*256 ^ k:=by
  rw [Nat.or_comm,pow_256,Nat.mul_comm,← Nat.two_pow_add_eq_or_of_lt (by rw [← pow_256]; exact hv)]
  omega
 rw [e3,wu _ (by omega)]
def putU (xs:List UInt8) (o:Nat) (ys:List UInt8):List UInt8:=xs.take o++ys++xs.drop (o+ys.length)
theorem putU_length {xs ys:List UInt8} {o:Nat} (h:o+ys.length≤xs.length):(putU xs o ys).length=xs.length:=by
 simp only [putU,List.length_append,List.length_take,List.length_drop]; omega
theorem putU_put {xs ys:List UInt8} {o:Nat} (h:o+ys.length≤xs.length):put (xs.map bv) o (ys.map bv)=(putU xs o ys).map bv:=by
 rw [put_eq _ _ _ (by rw [List.length_map,List.length_map]; exact h)]
 simp only [putU,List.map_append,List.map_take,List.map_drop,List.length_map]
def leBs (n v:Nat):List UInt8:=(List.range n).map fun k=>UInt8.ofNat (v / 256 ^ k)
theorem leB_length (n v:Nat):(leBs n v).length=n:=by rw [leBs,List.length_map,List.length_range]
def allZero (bs:List UInt8):Bool:=bs.all (· == 0)
theorem zeros_spec {a:Option Addr} {l c:Nat} {bs:List UInt8} {h:Heap} {K:Value→Heap→Prop} (B:StrAt h a l bs) (hl:l≤140737488355328) (hK:K (.bool (allZero bs)) h):C.rec_zeros a l c h K:=by
 have hb:=B.1
 refine rec_zeros.ok ⟨fun n hh=>0≤n∧n≤l∧h=hh∧allZero bs=allZero (bs.drop n.toNat),fun n _=>((l:Int) - n).toNat,⟨by omega,by omega,rfl,rfl⟩,?_⟩
 rintro n _ ⟨n0,n1,rfl,e⟩
 refine cd (fun hn=>?_) fun hn=>?_
 ·have hn':n.toNat<bs.length:=by omega
  obtain ⟨_,B2⟩:=B
  have ed:allZero (bs.drop n.toNat)=(bs[n.toNat] == 0 && allZero (bs.drop (n.toNat+1))):=by rw [List.drop_eq_getElem_cons hn']; rfl
  cases a with
  | none=>have B2:bs.map bv=[]:=B2; have:=List.map_eq_nil_iff.mp B2; rw [this] at hn'; exact absurd hn' (by simp)
  | some p =>
   refine ⟨⟨n0,hn⟩,os ⟨_,B2 n.toNat (bv bs[n.toNat]) (by rw [List.getElem?_map,List.getElem?_eq_getElem hn']; rfl),cn (fun x=>?_) fun x=>?_⟩⟩
   ·have:(bs[n.toNat] == 0)=false:=by
     rw [beq_eq_false_iff_ne]; intro e0; rw [e0] at x; exact x rfl
    rw [e,ed,this] at hK; exact hK
   ·have:(bs[n.toNat] == 0)=true:=by
     rw [beq_iff_eq]; exact UInt8.toNat_inj.mp (by have x:((bs[n.toNat].toNat:Nat):Int)=0:=x; show _=0; omega)
    rw [wrap_i64 (by omega) (by omega)]
    exact ⟨⟨by omega,by omega,rfl,by rw [e,ed,this,show (n+1).toNat=n.toNat+1 by omega]; rfl⟩,falls hn⟩
 ·rw [List.drop_of_length_le (by omega)] at e
  rw [e] at hK; exact hK
theorem StrAt.cut {h:Heap} {a:Option Addr} {l c i j:Nat} {bs:List UInt8} (B:StrAt h a l bs) (hlc:l≤c) (hij:i≤j) (hj:j≤l):StrAt h (if c=i then a else Option.map (Addr.add · i) a) (j - i) ((bs.drop i).take (j - i)):=by
 by_cases e:c=i
 ·rw [if_pos e]
  have:j - i=0:=by omega
  rw [this,List.take_zero]; exact StrAt.nil _ _
 ·rw [if_neg e]
  exact StrAt.take (StrAt.drop B i) (by omega)
theorem Zero_spec {a:Option Addr} {l c:Nat} {bs:List UInt8} {at_ n:Int} {h:Heap} {K:Value→Heap→Prop} (B:StrAt h a l bs) (hlc:l≤c) (hl:l≤140737488355328) (h0:0≤at_) (h1:0≤n) (h2:at_+n≤l)
  (hK:K (.tuple #[.bool (allZero ((bs.drop at_.toNat).take n.toNat)),.int .i64 0]) h):C.rec_Zero a l c at_ n h K:=by
 refine rec_Zero.ok (cf (decide_eq_false (by omega)) (lie_spec hl h0 h1 h2 ⟨_,rfl,cnot (ct rfl ?_)⟩))
 rw [wrap_i64 (by omega) (by omega)]
 have e:(at_+n).toNat - at_.toNat=n.toNat:=by omega
 refine ⟨⟨h0,by omega,by omega⟩,zeros_spec (bs:=(bs.drop at_.toNat).take n.toNat) ?_ (by omega) ⟨_,rfl,hK⟩⟩
 have:=StrAt.cut B hlc (i:=at_.toNat) (j:=(at_+n).toNat) (by omega) (by omega)
 rw [e] at this
 rw [e]; exact this
end Go.Proofs.YtiapingedfnlnaaGreatDoor.Re
namespace Go.Proofs.YtiapingedfnlnaaGreatDoor.Hd
open Go Go.Proofs Wx Hp W Su Re
def ints (ns:List Int):List Value:=ns.map fun n => .int .i64 n
def zeros (n:Nat):List UInt8:=List.replicate n 0
theorem zeros_length (n:Nat):(zeros n).length=n:=List.length_replicate
def flat4 (ns:List Int):List UInt8:=ns.flatMap fun i=>leBs 4 i.toNat
theorem flat4_length (ns:List Int):(flat4 ns).length=4*ns.length:=by
 induction ns with
 | nil=>rfl
 | cons n r ih =>
  have e:flat4 (n::r)=leBs 4 n.toNat++flat4 r:=rfl
  rw [e,List.length_append,leB_length,ih,List.length_cons]; omega
end Go.Proofs.YtiapingedfnlnaaGreatDoor.Hd
namespace Go.Proofs.YtiapingedfnlnaaGreatDoor.Hd
open Go Go.Proofs Wx Hp W Su Re
def getAt (hd:List UInt8) (o n:Nat):Nat:=leN ((hd.drop o).take n)
theorem getAt_lt (hd:List UInt8) (o n:Nat):getAt hd o n<256 ^ n:=by
 refine Nat.lt_of_lt_of_le (leN_lt _) (Nat.pow_le_pow_right (by decide) ?_)
 rw [List.length_take]; exact Nat.min_le_left _ _
theorem leB_succ (n v:Nat):leBs (n+1) v=UInt8.ofNat v::leBs n (v / 256):=by
 rw [leBs,List.range_succ_eq_map,List.map_cons,List.map_map]
 congr 1
 ·rw [Nat.pow_zero,Nat.div_one]
 ·rw [leBs]
  apply List.map_congr_left
  intro k _
  show UInt8.ofNat (v / 256 ^ (k+1))=UInt8.ofNat (v / 256 / 256 ^ k)
  rw [Nat.pow_succ,Nat.mul_comm,Nat.div_div_eq_div_mul]
theorem leN_leB : ∀ (n v:Nat),v<256 ^ n→leN (leBs n v)=v:=by
 intro n
 induction n with
 | zero =>
  intro v h
  have e:v=0:=by simpa using h
  rw [e]; rfl
 | succ n ih =>
  intro v h
  rw [leB_succ,leN,ih (v / 256) (by rw [Nat.pow_succ] at h; omega),UInt8.toNat_ofNat']
  omega
theorem drop_app {xs ys:List UInt8} {n:Nat} (h:xs.length=n):(xs++ys).drop n=ys:=by rw [← h,List.drop_left]
theorem take_app {xs ys:List UInt8} {n:Nat} (h:xs.length=n):(xs++ys).take n=xs:=by rw [← h,List.take_left]
theorem flat4_part : ∀ (ns:List Int) (i:Nat) (hi:i<ns.length) (zs:List UInt8),((flat4 ns++zs).drop (4*i)).take 4=leBs 4 ns[i].toNat:=by
 intro ns
 induction ns with
 | nil=>intro i hi; exact absurd hi (Nat.not_lt_zero _)
 | cons n r ih =>
  intro i hi zs
  have e:flat4 (n::r)=leBs 4 n.toNat++flat4 r:=rfl
  rw [e,List.append_assoc]
  cases i with
  | zero=>rw [Nat.mul_zero,List.drop_zero]; exact take_app (leB_length _ _)
  | succ i =>
   rw [show 4*(i+1)=4+4*i by omega,← List.drop_drop,drop_app (leB_length _ _)]
   exact ih i (by simpa using hi) zs
theorem bv_wrap (n:Int):(Value.int .u8 (IntKind.wrap .u8 n))=bv (UInt8.ofNat (n % 256).toNat):=by
 show Value.int .u8 (n % 256)=Value.int .u8 ((UInt8.ofNat (n % 256).toNat).toNat:Int)
 rw [UInt8.toNat_ofNat']
 congr 1
 have:=Int.emod_nonneg n (show (256:Int)≠0 by decide)
 have:=Int.emod_lt_of_pos n (show (0:Int)<256 by decide)
 omega
end Go.Proofs.YtiapingedfnlnaaGreatDoor.Hd
namespace Go.Proofs.YtiapingedfnlnaaGreatDoor.In
open Go Go.Proofs Re Hd
def z15 : List Int:=List.replicate 15 0
def kindOk (k l s:Int) (R:List Int):Bool :=
 if k=0 then decide (R=z15) else if k=1 then (decide (0≤l) && decide (l≤1000)) && (decide (0≤s) && decide (s≤8459264))
 else if k=2 then (decide (2≤l) && decide (l≤65535)) && ((decide (0≤s) && decide (s≤8459264)) && decide (s % 512=0))
 else if k=3 then (decide (1≤l) && decide (l≤1000)) && (decide (1≤s) && decide (s≤1024)) else false
def wordOk (n:Int):Bool:=decide (0≤n) && decide (n≤4294967295)
def mayR (R:List Int):Bool:=(R.drop 3).all wordOk && kindOk (R.getD 0 0) (R.getD 1 0) (R.getD 2 0) R
def encR (R:List Int):List UInt8:=leBs 1 (R.getD 0 0).toNat++([0]++(leBs 2 (R.getD 1 0).toNat++(leBs 4 (R.getD 2 0).toNat++(flat4 (R.drop 3)++zeros 8))))
def getR (bs:List UInt8):List Int:=[(getAt bs 0 1:Int),(getAt bs 2 2:Int),(getAt bs 4 4:Int)]++(List.range 12).map fun i=>(getAt bs (8+4*i) 4:Int)
theorem getR_length (bs:List UInt8):(getR bs).length=15:=by rw [getR,List.length_append,List.length_map,List.length_range]; rfl
def clean (bs:List UInt8):Bool:=allZero ((bs.drop 1).take 1) && allZero ((bs.drop 56).take 8)
def decOk (bs:List UInt8):Bool:=clean bs && mayR (getR bs)
def decA (bs:List UInt8):List Int×Int:=if bs.length≠64 then (z15,32) else if decOk bs then (getR bs,0) else (z15,111)
theorem list15 {R:List Int} (h:R.length=15):R=[R.getD 0 0,R.getD 1 0,R.getD 2 0]++R.drop 3:=by
 match R,h with
 | [a,b,c,d0,d1,d2,d3,d4,d5,d6,d7,d8,d9,x,y],_=>rfl
theorem mayR_bounds {R:List Int} (h:R.length=15) (m:mayR R=true):0≤R.getD 0 0∧R.getD 0 0≤3∧0≤R.getD 1 0∧R.getD 1 0≤65535∧0≤R.getD 2 0∧R.getD 2 0≤8459264∧∀ n ∈ R.drop 3,0≤n∧n≤4294967295:=by
 rw [mayR,Bool.and_eq_true] at m
 have hw:∀ n ∈ R.drop 3,0≤n∧n≤4294967295:=fun n hn=>by
  have:=List.all_eq_true.mp m.1 n hn
  rw [wordOk,Bool.and_eq_true,decide_eq_true_eq,decide_eq_true_eq] at this; exact this
 have k:=m.2
 unfold kindOk at k
 split at k
 ·rename_i h0
  have e:=of_decide_eq_true k
  subst e
  refine ⟨by decide,by decide,by decide,by decide,by decide,by decide,hw⟩
 ·split at k
  ·simp only [Bool.and_eq_true,decide_eq_true_eq] at k
   exact ⟨by omega,by omega,by omega,by omega,by omega,by omega,hw⟩
  ·split at k
   ·simp only [Bool.and_eq_true,decide_eq_true_eq] at k
    exact ⟨by omega,by omega,by omega,by omega,by omega,by omega,hw⟩
   ·split at k
    ·simp only [Bool.and_eq_true,decide_eq_true_eq] at k
     exact ⟨by omega,by omega,by omega,by omega,by omega,by omega,hw⟩
    ·cases k
theorem encR_length {R:List Int} (h:R.length=15):(encR R).length=64:=by
 simp only [encR,List.length_append,leB_length,flat4_length,zeros_length,List.length_drop,h,List.length_singleton]
theorem encR_drops {R:List Int} (h:R.length=15):(encR R).drop 1=[0]++(leBs 2 (R.getD 1 0).toNat++(leBs 4 (R.getD 2 0).toNat++(flat4 (R.drop 3)++zeros 8)))∧(encR R).drop 2=leBs 2 (R.getD 1 0).toNat++(leBs 4 (R.getD 2 0).toNat++(flat4 (R.drop 3)++zeros 8)) ∧
  (encR R).drop 4=leBs 4 (R.getD 2 0).toNat++(flat4 (R.drop 3)++zeros 8)∧(encR R).drop 8=flat4 (R.drop 3)++zeros 8∧(encR R).drop 56=zeros 8:=by
 have d1:(encR R).drop 1=[0]++(leBs 2 (R.getD 1 0).toNat++(leBs 4 (R.getD 2 0).toNat++(flat4 (R.drop 3)++zeros 8))):=drop_app (leB_length 1 _)
 have d2:(encR R).drop 2=leBs 2 (R.getD 1 0).toNat++(leBs 4 (R.getD 2 0).toNat++(flat4 (R.drop 3)++zeros 8)):=by rw [show 2=1+1 by rfl,← List.drop_drop,d1]; rfl
 have d4:(encR R).drop 4=leBs 4 (R.getD 2 0).toNat++(flat4 (R.drop 3)++zeros 8):=by rw [show 4=2+2 by rfl,← List.drop_drop,d2]; exact drop_app (leB_length 2 _)
 have d8:(encR R).drop 8=flat4 (R.drop 3)++zeros 8:=by rw [show 8=4+4 by rfl,← List.drop_drop,d4]; exact drop_app (leB_length 4 _)
 refine ⟨d1,d2,d4,d8,?_⟩
 rw [show 56=8+48 by rfl,← List.drop_drop,d8]
 exact drop_app (by rw [flat4_length,List.length_drop,h])
theorem getR_enc {R:List Int} (h:R.length=15) (m:mayR R=true):getR (encR R)=R∧clean (encR R)=true:=by
 obtain ⟨k0,k1,l0,l1,s0,s1,hw⟩:=mayR_bounds h m
 obtain ⟨d1,d2,d4,d8,d56⟩:=encR_drops h
 refine ⟨?_,?_⟩
 ·conv=>rhs; rw [list15 h]
  have g0:getAt (encR R) 0 1=(R.getD 0 0).toNat:=by
   rw [getAt,List.drop_zero,encR,take_app (leB_length 1 _),leN_leB 1 _ (by omega)]
  have g1:getAt (encR R) 2 2=(R.getD 1 0).toNat:=by
   rw [getAt,d2,take_app (leB_length 2 _),leN_leB 2 _ (by omega)]
  have g2:getAt (encR R) 4 4=(R.getD 2 0).toNat:=by
   rw [getAt,d4,take_app (leB_length 4 _),leN_leB 4 _ (by omega)]
  rw [getR,g0,g1,g2,Int.toNat_of_nonneg k0,Int.toNat_of_nonneg l0,Int.toNat_of_nonneg s0]
  congr 1
  apply List.ext_getElem
  ·rw [List.length_map,List.length_range,List.length_drop,h]
  ·intro i h1 h2
   rw [List.length_map,List.length_range] at h1
   rw [List.getElem_map,List.getElem_range,getAt,← List.drop_drop,d8,flat4_part _ i h2,leN_leB 4 _ (by have:=(hw _ (List.getElem_mem h2)).2; have:=(hw _ (List.getElem_mem h2)).1; omega),Int.toNat_of_nonneg (hw _ (List.getElem_mem h2)).1]
 ·rw [clean,d1,d56]; rfl
end Go.Proofs.YtiapingedfnlnaaGreatDoor.In
namespace Go.Proofs.YtiapingedfnlnaaGreatDoor.In
open Go Go.Proofs Wx Hp W Su Re Hd
structure Glo (h:Heap):Prop where
 wide:Wide h
theorem Glo.fr {h h':Heap} {F:Nat→Prop} (g:Glo h) (f:Fr F h h') (h1:∀ b,b<1→¬ F b):Glo h':=⟨g.wide.fr f (h1 _ (by decide))⟩
theorem Glo.no {h h':Heap} (g:Glo h) (f:Fr No h h'):Glo h':=g.fr f fun _ _ x=>x
theorem Glo.lt {h:Heap} (g:Glo h):1≤h.size:=by have:=g.wide.lt; omega
theorem isWidth_spec {n:Int} {h:Heap} {K:Value→Heap→Prop} (g:Glo h) (hn:n=1∨n=2∨n=4∨n=8) (hK:K (.bool true) h):C.rec_isWidth n h K:=by
 refine rec_isWidth.ok (ct (decide_eq_true (by omega)) (ct (decide_eq_true (by omega)) ⟨⟨by omega,by omega⟩,true,rda g.wide ?_,hK⟩))
 rcases hn with rfl|rfl|rfl|rfl <;> rfl
theorem Get_w {a:Option Addr} {l c:Nat} {bs:List UInt8} {at_ n:Int} {h:Heap} {K:Value→Heap→Prop} (g:Glo h) (B:StrAt h a l bs) (hl:l≤140737488355328) (hn:n=1∨n=2∨n=4∨n=8) (h0:0≤at_) (h2:at_+n≤l)
  (hK:K (.tuple #[.int .u64 (leN ((bs.drop at_.toNat).take n.toNat)),.int .i64 0]) h):C.rec_Get a l c at_ n h K:=by
 have hb:=B.1
 refine rec_Get.ok (isWidth_spec g hn ⟨_,rfl,cnot (ct rfl (lie_spec hl h0 (by omega) h2 ⟨_,rfl,cnot (ct rfl ?_)⟩))⟩)
 have hlen:∀ k:Nat,(k:Int)≤n→((bs.drop at_.toNat).take k).length=k:=fun k hk=>by rw [List.length_take,List.length_drop]; omega
 refine ⟨fun v k hh=>0≤k∧k≤n∧h=hh∧v=(leN ((bs.drop at_.toNat).take k.toNat):Nat),fun _ k _=>(n - k).toNat,⟨by omega,by omega,rfl,rfl⟩,?_⟩
 rintro v k _ ⟨k0,k1,rfl,rfl⟩
 refine cd (fun hk=>?_) fun hk=>?_
 ·rw [wrap_i64 (n:=at_+k) (by omega) (by omega)]
  obtain ⟨_,B2⟩:=B
  have hi:at_.toNat+k.toNat<bs.length:=by omega
  cases a with
  | none=>have B2:bs.map bv=[]:=B2; have:=List.map_eq_nil_iff.mp B2; rw [this] at hi; exact absurd hi (by simp)
  | some p =>
   refine ⟨⟨by omega,by omega⟩,os ⟨_,B2 (at_+k).toNat (bv bs[at_.toNat+k.toNat]) (by rw [show (at_+k).toNat=at_.toNat+k.toNat by omega,List.getElem?_map,List.getElem?_eq_getElem hi]; rfl),?_⟩⟩
   have w8:IntKind.wrap .i64 (8*k)=8*k:=wrap_i64 (by omega) (by omega)
   rw [if_neg (by rw [w8]; omega),wrap_i64 (n:=k+1) (by omega) (by omega)]
   have hlk:=hlen k.toNat (by omega)
   have hlt:=leN_lt ((bs.drop at_.toNat).take k.toNat)
   rw [hlk] at hlt
   have eo:=or_step (v:=leN ((bs.drop at_.toNat).take k.toNat)) (b:=bs[at_.toNat+k.toNat]) (k:=k.toNat) (by omega) hlt
   rw [show ((k.toNat:Nat):Int)=k by omega] at eo
   rw [eo]
   refine ⟨⟨by omega,by omega,rfl,?_⟩,by show (n - (k+1)).toNat<(n - k).toNat; omega⟩
   have hi2:k.toNat<(bs.drop at_.toNat).length:=by rw [List.length_drop]; omega
   rw [show (k+1).toNat=k.toNat+1 by omega,List.take_succ_eq_append_getElem hi2,leN_snoc,hlk,List.getElem_drop]
 ·have:k=n:=by omega
  subst this
  exact hK
end Go.Proofs.YtiapingedfnlnaaGreatDoor.In
namespace Go.Proofs.YtiapingedfnlnaaGreatDoor.In
open Go Go.Proofs Wx Hp W Su Re Hd
theorem ints_eq : ∀ xs ys:List Int,cellsEq (ints xs) (ints ys)=decide (xs=ys)
 | [],[]=>rfl
 | [],y::r=>rfl
 | x::r,[]=>rfl
 | x::r,y::s=>by
  show ((x == y) && cellsEq (ints r) (ints s))=_
  rw [ints_eq r s,Bool.eq_iff_iff,Bool.and_eq_true,beq_iff_eq,decide_eq_true_eq,decide_eq_true_eq,List.cons.injEq]
theorem ints_one (ns:List Int):∀ v ∈ ints ns,v.oneCell'=true:=by
 intro v hv; obtain ⟨n,_,rfl⟩:=List.mem_map.mp hv; rfl
theorem ints_length (ns:List Int):(ints ns).length=ns.length:=List.length_map ..
theorem within_spec {v lo hi:Int} {h:Heap} {K:Value→Heap→Prop} (hK:K (.bool (decide (lo≤v) && decide (v≤hi))) h):C.inode_within v lo hi h K:=by
 refine inode_within.ok (cd (fun x=>?_) fun x=>?_)
 ·rw [decide_eq_true (by omega)] at hK; exact hK
 ·rw [decide_eq_false (by omega)] at hK; exact hK
theorem numbers_spec {R:List Int} {h:Heap} {K:Value→Heap→Prop} (hR:R.length=15) (hK:∀ h',Fr No h h'→K (.agg ⟨ints (R.drop 3)⟩) h'):C.inode_numbers (ints R) h K:=by
 match R,hR with
 | [k,l,s,d0,d1,d2,d3,d4,d5,d6,d7,d8,d9,x,y],_ =>
  refine inode_numbers.ok (New.intro fun h2 n2=>New.intro fun h3 n3=>New.intro fun h4 n4=>?_)
  have s2:=n2.size
  have s3:=n3.size
  have s4:=n4.size
  have r4:rd h4 h.size=ints [k,l,s,d0,d1,d2,d3,d4,d5,d6,d7,d8,d9,x,y]:=(n4.at_ (by omega)).trans ((n3.at_ (by omega)).trans n2.rd)
  refine CopyP.intro (new:=ints [d0,d1,d2,d3,d4,d5,d6,d7,d8,d9]) rfl (show Cells h4 _ _ from cellsa r4 rfl) (ints_one _) n4.own (by rw [n4.rd]; show 10≤12; omega) fun h5 q5=>?_
  have r5:rd h5 h3.size=ints [d0,d1,d2,d3,d4,d5,d6,d7,d8,d9,0,0]:=q5.rd.trans (by rw [n4.rd]; rfl)
  have r5x:=(q5.at_ (c:=h.size) (by omega) (by omega)).trans r4
  refine ⟨x,rda r5x rfl,y,rda r5x rfl,⟨by omega,by omega⟩,Put.add q5.own (by rw [r5]; show 0+10<12; omega) fun h6 q6=>⟨⟨by omega,by omega⟩,Put.add q6.own (by rw [q6.rd,r5]; show 0+11<12; omega) fun h7 q7=>?_⟩⟩
  have r7:rd h7 h3.size=ints [d0,d1,d2,d3,d4,d5,d6,d7,d8,d9,x,y]:=q7.rd.trans (by rw [q6.rd,r5]; rfl)
  have w2:Own h7 h2.size:=q7.ow (q6.ow (q5.ow (n4.ow n3.own)))
  have e2:(rd h7 h2.size).length=12:=by
   rw [q7.at_ (by have:=q6.size; have:=q5.size; omega) (by omega),q6.at_ (by have:=q5.size; omega) (by omega),q5.at_ (by omega) (by omega),n4.at_ (by omega),n3.rd]; rfl
  refine ⟨_,rfl,cellsAll r7,PutRow.intro w2 rfl (ints_one _) (by rw [e2]; omega) fun h8 q8=>⟨ints [d0,d1,d2,d3,d4,d5,d6,d7,d8,d9,x,y],rfl,cellsAll ?_,hK h8 ?_⟩⟩
  ·rw [q8.rd,put_all _ _ (by rw [e2]; rfl)]
  ·exact (((((n2.fr.new n3).new n4).did q5 fun _=>by omega).did q6 fun _=>by omega).did q7 fun _=>by omega).did q8 fun _=>by omega
theorem pairs15 {R S:List Int} (hR:R.length=15) (hS:S.length=15):pairsOk [(.int .i64),(.int .i64),(.int .i64),(.int .i64),(.int .i64),(.int .i64),(.int .i64),(.int .i64),(.int .i64),(.int .i64),(.int .i64),(.int .i64),(.int .i64),(.int .i64),(.int .i64)] (ints R) (ints S)=true:=by
 match R,hR,S,hS with
 | [_,_,_,_,_,_,_,_,_,_,_,_,_,_,_],_,[_,_,_,_,_,_,_,_,_,_,_,_,_,_,_],_=>rfl
theorem cell15 {h:Heap} {b:Nat} {R:List Int} (r:rd h b=ints R) {i:Nat} (hi:i<R.length):cellOf h (Addr.add ⟨b,0,none⟩ i)=some (.int .i64 (R.getD i 0)):=by
 refine rda r ?_
 rw [Nat.zero_add,ints,List.getElem?_map,List.getD_eq_getElem?_getD,List.getElem?_eq_getElem hi]; rfl
theorem may_spec {R:List Int} {h:Heap} {K:Value→Heap→Prop} (hR:R.length=15) (hK:∀ h',Fr No h h'→K (.bool (mayR R)) h'):C.inode_may (ints R) h K:=by
 refine inode_may.ok (New.intro fun h2 n2=>⟨ints R,by rw [ints_length,hR],cellsAll n2.rd,numbers_spec hR fun h3 f3=>⟨_,rfl,?_⟩⟩)
 have s2:=n2.size
 have F3:=n2.fr.no f3
 have r3:rd h3 h.size=ints R:=(f3.rd n2.own.lt fun x=>x).trans n2.rd
 have ld:(R.drop 3).length=12:=by rw [List.length_drop,hR]
 have hK:=hK h3 F3
 refine ⟨fun n hh=>0≤n∧n≤12∧h3=hh∧((R.drop 3).take n.toNat).all wordOk=true,fun n _=>((12:Nat) - n).toNat,⟨by omega,by omega,rfl,rfl⟩,?_⟩
 rintro n _ ⟨n0,n1,rfl,q⟩
 refine cd (fun hn=>?_) fun hn=>?_
 ·have hn:n<12:=hn
  have hi:n.toNat<(R.drop 3).length:=by omega
  refine ⟨⟨n0,hn⟩,(R.drop 3)[n.toNat],by rw [ints,List.getElem?_map,List.getElem?_eq_getElem hi]; rfl,within_spec ⟨_,rfl,cnot ?_⟩⟩
  cases hw:wordOk (R.drop 3)[n.toNat] with
  | false =>
   have:mayR R=false:=by
    have e:(R.drop 3).all wordOk=false:=by
     cases e:(R.drop 3).all wordOk with
     | false=>rfl
     | true=>have:=List.all_eq_true.mp e _ (List.getElem_mem hi); rw [hw] at this; cases this
    rw [mayR,e]; rfl
   rw [this] at hK
   exact cf hw hK
  | true =>
   rw [wrap_i64 (by omega) (by omega)]
   refine ct hw ⟨⟨by omega,by omega,rfl,?_⟩,falls (m:=12) hn⟩
   rw [show (n+1).toNat=n.toNat+1 by omega,List.take_succ_eq_append_getElem hi,List.all_append,q,List.all_cons,hw]; rfl
 ·have hn:¬ n<12:=hn
  rw [List.take_of_length_le (by omega)] at q
  have em:mayR R=kindOk (R.getD 0 0) (R.getD 1 0) (R.getD 2 0) R:=by rw [mayR,q,Bool.true_and]
  rw [em] at hK
  unfold kindOk at hK
  refine ⟨_,cell15 r3 (by omega),ce (fun h0=>?_) fun h0=>?_⟩
  ·rw [if_pos h0] at hK
   refine ⟨ints R,by rw [ints_length,hR],cellsAll r3,pairs15 hR (S:=z15) List.length_replicate,?_⟩
   rw [show ([.int .i64 0,.int .i64 0,.int .i64 0,.int .i64 0,.int .i64 0,.int .i64 0,.int .i64 0,.int .i64 0,.int .i64 0,.int .i64 0,.int .i64 0,.int .i64 0,.int .i64 0,.int .i64 0,.int .i64 0]:List Value)=ints z15 from rfl,ints_eq]
   exact hK
  ·rw [if_neg h0] at hK
   refine ce (fun h1=>?_) fun h1=>?_
   ·rw [if_pos h1] at hK
    refine ⟨_,cell15 r3 (by omega),within_spec ⟨_,rfl,?_⟩⟩
    cases hb:(decide (0≤R.getD 1 0) && decide (R.getD 1 0≤1000)) with
    | false=>rw [hb] at hK; exact hK
    | true=>rw [hb] at hK; exact ⟨_,cell15 r3 (by omega),within_spec ⟨_,rfl,hK⟩⟩
   ·rw [if_neg h1] at hK
    refine ce (fun h2'=>?_) fun h2'=>?_
    ·rw [if_pos h2'] at hK
     refine ⟨_,cell15 r3 (by omega),within_spec ⟨_,rfl,?_⟩⟩
     cases hb:(decide (2≤R.getD 1 0) && decide (R.getD 1 0≤65535)) with
     | false=>rw [hb] at hK; exact hK
     | true =>
      rw [hb,Bool.true_and] at hK
      refine ⟨_,cell15 r3 (by omega),within_spec ⟨_,rfl,?_⟩⟩
      cases hc:(decide (0≤R.getD 2 0) && decide (R.getD 2 0≤8459264)) with
      | false=>rw [hc] at hK; exact hK
      | true =>
       rw [hc,Bool.true_and] at hK
       rw [Bool.and_eq_true,decide_eq_true_eq] at hc
       refine ⟨_,cell15 r3 (by omega),?_⟩
       have e:(Int.tmod (R.getD 2 0) 512 == 0)=decide (R.getD 2 0 % 512=0):=by rw [Int.tmod_eq_emod_of_nonneg hc.1]; rfl
       rw [e]; exact hK
    ·rw [if_neg h2'] at hK
     refine ce (fun h3'=>?_) fun h3'=>?_
     ·rw [if_pos h3'] at hK
      refine ⟨_,cell15 r3 (by omega),within_spec ⟨_,rfl,?_⟩⟩
      cases hb:(decide (1≤R.getD 1 0) && decide (R.getD 1 0≤1000)) with
      | false=>rw [hb] at hK; exact hK
      | true=>rw [hb] at hK; exact ⟨_,cell15 r3 (by omega),within_spec ⟨_,rfl,hK⟩⟩
     ·rw [if_neg h3'] at hK; exact hK
theorem leB_one (v:Nat):leBs 1 v=[UInt8.ofNat v]:=by rw [leB_succ]; rfl
theorem leB_two (v:Nat):leBs 2 v=[UInt8.ofNat v,UInt8.ofNat (v / 256)]:=by rw [leB_succ,leB_one]
theorem leB_four (v:Nat):leBs 4 v=[UInt8.ofNat v,UInt8.ofNat (v / 256),UInt8.ofNat (v / 256 / 256),UInt8.ofNat (v / 256 / 256 / 256)]:=by rw [leB_succ,leB_succ,leB_two]
theorem enc3 (k l s:Nat):putU (putU (putU (zeros 64) 0 (leBs 1 k)) 2 (leBs 2 l)) 4 (leBs 4 s)=(leBs 1 k++([0]++(leBs 2 l++leBs 4 s)))++zeros 56:=by
 rw [leB_one,leB_two,leB_four]; rfl
theorem get_spec {a:Option Addr} {l c cb:Nat} {bs:List UInt8} {at_ n:Int} {h:Heap} {K:Value→Heap→Prop} (g:Glo h) (B:StrAt h a l bs) (hl:l≤140737488355328) (r:rd h cb=[.slice a l c]) (hn:n=1∨n=2∨n=4) (h0:0≤at_) (h2:at_+n≤l)
  (hK:K (.int .i64 (getAt bs at_.toNat n.toNat:Nat)) h):C.inode_Decode_c1 at_ n (some ⟨cb,0,none⟩) h K:=by
 have lt:=getAt_lt bs at_.toNat n.toNat
 have lt:getAt bs at_.toNat n.toNat<4294967296:=by
  rcases hn with rfl|rfl|rfl
  ·exact Nat.lt_of_lt_of_le lt (by show 256 ^ 1≤_; decide)
  ·exact Nat.lt_of_lt_of_le lt (by show 256 ^ 2≤_; decide)
  ·exact lt
 refine inode_Decode_c1.ok ?_
 unfold inode_Decode_c1
 refine os ⟨_,_,_,rdc r rfl,Get_w g B hl (by omega) h0 h2 ⟨_,_,rfl,?_⟩⟩
 have e:leN ((bs.drop at_.toNat).take n.toNat)=getAt bs at_.toNat n.toNat:=rfl
 rw [e,wrap_i64 (by omega) (by omega)]
 exact hK
theorem z15_row {h3 h:Heap} {b:Nat} {n:Int} {K:Value→Heap→Prop} (f:Fr No h3 h) (hb:h3.size≤b) (w:Own h b) (hl:(rd h b).length=15) (hK:∀ h',Fr No h3 h'→K (.tuple #[.agg ⟨ints z15⟩,.int .i64 n]) h') :
  PutRow ⟨b,0,none⟩ [.int .i64 0,.int .i64 0,.int .i64 0,.int .i64 0,.int .i64 0,.int .i64 0,.int .i64 0,.int .i64 0,.int .i64 0,.int .i64 0,.int .i64 0,.int .i64 0,.int .i64 0,.int .i64 0,.int .i64 0] 15 h fun h4 =>
   ∃ res1:List Value,List.length res1=15∧Cells h4 ⟨b,0,none⟩ res1∧K (.tuple #[.agg ⟨res1⟩,.int .i64 n]) h4:=by
 refine PutRow.intro w rfl (ints_one z15) (by omega) fun h4 d4=>⟨ints z15,rfl,cellsAll ?_,hK h4 (f.did d4 fun hlt=>by omega)⟩
 rw [d4.rd]; exact put_all _ _ (by rw [hl]; rfl)
theorem R_row {h3 h:Heap} {b cb:Nat} {n:Int} {R:List Int} {K:Value→Heap→Prop} (hR:R.length=15) (f:Fr No h3 h) (hb:h3.size≤b) (w:Own h b) (hl:(rd h b).length=15) (r:rd h cb=ints R) (hK:∀ h',Fr No h3 h'→K (.tuple #[.agg ⟨ints R⟩,.int .i64 n]) h') :
  ∃ cs:List Value,List.length cs=15∧Cells h ⟨cb,0,none⟩ cs∧PutRow ⟨b,0,none⟩ cs 15 h fun h4=>∃ res1:List Value,List.length res1=15∧Cells h4 ⟨b,0,none⟩ res1∧K (.tuple #[.agg ⟨res1⟩,.int .i64 n]) h4:=by
 have li:(ints R).length=15:=by rw [ints_length,hR]
 refine ⟨ints R,li,cellsAll r,PutRow.intro w li (ints_one R) (by omega) fun h4 d4=>⟨ints R,li,cellsAll ?_,hK h4 (f.did d4 fun hlt=>by omega)⟩⟩
 rw [d4.rd]; exact put_all _ _ (by rw [hl,li])
theorem set_fill {α:Type} (xs:List α) (z:α) (ys:List α) (m n:Nat) (hm:m<xs.length) (hn:0<n):(xs.take m++(List.replicate n z++ys)).set m xs[m]=xs.take (m+1)++(List.replicate (n - 1) z++ys):=by
 have l:(xs.take m).length=m:=by rw [List.length_take]; omega
 rw [List.set_append_right _ _ (by omega),l,Nat.sub_self,show n=(n - 1)+1 by omega,List.replicate_succ,List.cons_append,List.set_cons_zero,List.take_succ_eq_append_getElem hm,List.append_assoc]
 rfl
theorem getR_get (bs:List UInt8) {i:Nat} (hi:i<12) (h:3+i<(getR bs).length):(getR bs)[3+i]=(getAt bs (8+4*i) 4:Nat):=by
 simp only [getR]
 rw [List.getElem_append_right (by show 3≤3+i; omega)]
 simp only [List.length_cons,List.length_nil,Nat.reduceAdd,Nat.add_sub_cancel_left,List.getElem_map,List.getElem_range]
theorem Decode_spec {a:Option Addr} {l c:Nat} {bs:List UInt8} {h:Heap} {K:Value→Heap→Prop} (g:Glo h) (B:StrAt h a l bs) (hlc:l≤c) (hK:∀ h',Fr No h h'→K (.tuple #[.agg ⟨ints (decA bs).1⟩,.int .i64 (decA bs).2]) h'):C.inode_Decode a l c h K:=by
 have hb:=B.1
 refine inode_Decode.ok (New.intro fun h2 n2=>New.intro fun h3 n3=>?_)
 have s2:=n2.size
 have s3:=n3.size
 have F3:=n2.fr.new n3
 have r3:rd h3 h.size=[.slice a l c]:=(n3.at_ (by omega)).trans n2.rd
 have w3:Own h3 h2.size:=n3.own
 have l3:(rd h3 h2.size).length=15:=by rw [n3.rd]; rfl
 have g3:=g.no F3
 have B3:=StrAt.fr F3 B fun _ _ x=>x
 refine ⟨_,_,_,rdc r3 rfl,cn (fun hl=>?_) fun hl=>?_⟩
 ·have e:decA bs=(z15,32):=by rw [decA,if_pos (by omega)]
  rw [e] at hK
  exact z15_row F3 (by omega) w3 l3 hK
 have hl:l=64:=by omega
 have hb64:bs.length=64:=by omega
 have gg:∀ {hq:Heap} {K:Value→Heap→Prop} (at_ n:Int),Fr No h3 hq→(n=1∨n=2∨n=4)→0≤at_→at_+n≤64→K (.int .i64 (getAt bs at_.toNat n.toNat:Nat)) hq→C.inode_Decode_c1 at_ n (some ⟨h.size,0,none⟩) hq K:=fun at_ n fq h1 h2 h4 hk =>
  get_spec (g3.no fq) (StrAt.fr fq B3 fun _ _ x=>x) (by omega) ((fq.rd (by omega) fun x=>x).trans r3) h1 h2 (by omega) hk
 refine gg 0 1 (Fr.refl _ _) (by omega) (by omega) (by omega) ⟨_,rfl,gg 2 2 (Fr.refl _ _) (by omega) (by omega) (by omega) ⟨_,rfl,gg 4 4 (Fr.refl _ _) (by omega) (by omega) (by omega) ⟨_,rfl,gg 48 4 (Fr.refl _ _) (by omega) (by omega) (by omega) ⟨_,rfl,gg 52 4 (Fr.refl _ _) (by omega) (by omega) (by omega) ⟨_,rfl,?_⟩⟩⟩⟩⟩
 have gl:=getR_length bs
 have e11:([.int .i64 (getAt bs (Int.toNat 0) (Int.toNat 1):Nat),.int .i64 (getAt bs (Int.toNat 2) (Int.toNat 2):Nat),.int .i64 (getAt bs (Int.toNat 4) (Int.toNat 4):Nat),.int .i64 0,.int .i64 0,.int .i64 0,.int .i64 0,.int .i64 0,.int .i64 0,.int .i64 0,.int .i64 0,.int .i64 0,.int .i64 0,.int .i64 (getAt bs (Int.toNat 48) (Int.toNat 4):Nat),.int .i64 (getAt bs (Int.toNat 52) (Int.toNat 4):Nat)]:List Value)
   = ints ((getR bs).take 3++(List.replicate 10 0++(getR bs).drop 13)):=rfl
 rw [e11]
 refine NewRow.intro (by rw [ints_length]; rfl) (ints_one _) rfl fun h11 n11=>?_
 have s11:=n11.size
 refine ⟨fun n hh=>0≤n∧n≤10∧Fr No h3 hh∧h3.size<hh.size∧Own hh h3.size∧rd hh h3.size=ints ((getR bs).take (3+n.toNat)++(List.replicate (10 - n.toNat) 0++(getR bs).drop 13)),fun n _=>((10:Nat) - n).toNat,
  ⟨by omega,by omega,n11.fr,by omega,n11.own,n11.rd⟩,?_⟩
 rintro n h12 ⟨n0,n1,f12,s12,w12,r12⟩
 have rl12:(rd h12 h3.size).length=15:=by
  rw [r12,ints_length,List.length_append,List.length_append,List.length_take,List.length_replicate,List.length_drop,gl]; omega
 refine cd (fun hn=>?_) fun hn=>?_
 ·have hn:n<10:=hn
  rw [wrap_i64 (n:=4*n) (by omega) (by omega),wrap_i64 (n:=8+4*n) (by omega) (by omega),wrap_i64 (n:=n+1) (by omega) (by omega)]
  refine gg (8+4*n) 4 f12 (by omega) (by omega) (by omega) ⟨_,rfl,⟨n0,hn⟩,?_⟩
  rw [add_mk]
  refine Put.add w12 (by omega) fun h14 d14=>⟨⟨by omega,by omega,f12.did d14 fun hlt=>by omega,by have:=d14.size; omega,d14.own,?_⟩,falls (m:=10) hn⟩
  have hi:3+n.toNat<(getR bs).length:=by omega
  have eg:(getR bs)[3+n.toNat]=(getAt bs (8+4*n).toNat (Int.toNat 4):Nat):=by
   rw [getR_get bs (by omega) hi,show (8+4*n).toNat=8+4*n.toNat by omega]; rfl
  have:=set_fill (getR bs) 0 ((getR bs).drop 13) (3+n.toNat) (10 - n.toNat) hi (by omega)
  rw [eg] at this
  rw [d14.rd,r12,show 0+3+n.toNat=3+n.toNat by omega,show 3+(n+1).toNat=3+n.toNat+1 by omega,show 10 - (n+1).toNat=10 - n.toNat - 1 by omega,← this,ints,ints,List.map_set]
 ·have hn:¬ n<10:=hn
  have en:n.toNat=10:=by omega
  rw [en] at r12
  have r12:rd h12 h3.size=ints (getR bs):=by
   rw [r12]
   show ints ((getR bs).take 13++([]++(getR bs).drop 13))=_
   rw [List.nil_append,List.take_append_drop]
  have rb12:rd h12 h.size=[.slice a l c]:=(f12.rd (by omega) fun x=>x).trans r3
  have B12:=StrAt.fr f12 B3 fun _ _ x=>x
  have w12x:Own h12 h2.size:=f12.own w3.lt (fun x=>x) w3
  have l12:(rd h12 h2.size).length=15:=by rw [f12.rd w3.lt fun x=>x]; exact l3
  have F12:=F3.no f12
  refine ⟨_,_,_,rdc rb12 rfl,Zero_spec B12 hlc (by omega) (by omega) (by omega) (by omega) ⟨_,_,rfl,_,_,_,rdc rb12 rfl,Zero_spec B12 hlc (by omega) (by omega) (by omega) (by omega) ⟨_,_,rfl,?_⟩⟩⟩
  have ec:clean bs=(allZero ((bs.drop (Int.toNat 1)).take (Int.toNat 1)) && allZero ((bs.drop (Int.toNat 56)).take (Int.toNat 8))):=rfl
  have bad:decOk bs=false→∀ h',Fr No h h'→K (.tuple #[.agg ⟨ints z15⟩,.int .i64 111]) h':=fun e h' f=>by
   have:=hK h' f
   rw [decA,if_neg (by omega),e] at this; exact this
  refine cnot ?_
  cases h1:allZero ((bs.drop (Int.toNat 1)).take (Int.toNat 1)) with
  | false=>exact z15_row F12 (by omega) w12x l12 (bad (by rw [decOk,ec,h1]; rfl))
  | true =>
   refine ct rfl (cnot ?_)
   cases h2':allZero ((bs.drop (Int.toNat 56)).take (Int.toNat 8)) with
   | false=>exact z15_row F12 (by omega) w12x l12 (bad (by rw [decOk,ec,h1,h2']; rfl))
   | true =>
    refine ct rfl ⟨ints (getR bs),by rw [ints_length,gl],cellsAll r12,may_spec gl fun h19 f19=>⟨_,rfl,cnot ?_⟩⟩
    have s19:=f19.size
    have w19:Own h19 h2.size:=f19.own w12x.lt (fun x=>x) w12x
    have l19:(rd h19 h2.size).length=15:=by rw [f19.rd w12x.lt fun x=>x]; exact l12
    have r19:rd h19 h3.size=ints (getR bs):=(f19.rd w12.lt fun x=>x).trans r12
    cases hm:mayR (getR bs) with
    | false=>exact z15_row (F12.no f19) (by omega) w19 l19 (bad (by rw [decOk,hm,Bool.and_false]))
    | true =>
     refine ct rfl (R_row gl (F12.no f19) (by omega) w19 l19 r19 fun h' f=>?_)
     have:=hK h' f
     rw [decA,if_neg (by omega),show decOk bs=true by rw [decOk,ec,h1,h2',hm]; rfl] at this
     exact this
end Go.Proofs.YtiapingedfnlnaaGreatDoor.In
namespace Go.Proofs.YtiapingedfnlnaaGreatDoor.Sk
open Go Go.Proofs Re
theorem leB_succ (n v:Nat):leBs (n+1) v=UInt8.ofNat v::leBs n (v / 256):=by
 rw [leBs,List.range_succ_eq_map,List.map_cons,List.map_map]
 congr 1
 ·rw [Nat.pow_zero,Nat.div_one]
 ·rw [leBs]
  apply List.map_congr_left
  intro k _
  show UInt8.ofNat (v / 256 ^ (k+1))=UInt8.ofNat (v / 256 / 256 ^ k)
  rw [Nat.pow_succ,Nat.mul_comm,Nat.div_div_eq_div_mul]
theorem leB_leN : ∀ (bs:List UInt8),leBs bs.length (leN bs)=bs:=by
 intro bs
 induction bs with
 | nil=>rfl
 | cons b r ih =>
  have hb:b.toNat<256:=b.toNat_lt
  rw [List.length_cons,leB_succ,leN,show (b.toNat+256*leN r) / 256=leN r by omega,ih]
  congr 1
  apply UInt8.toNat_inj.mp
  rw [UInt8.toNat_ofNat']; omega
theorem leN_leB : ∀ (n v:Nat),v<256 ^ n→leN (leBs n v)=v:=by
 intro n
 induction n with
 | zero =>
  intro v h
  have e:v=0:=by simpa using h
  rw [e]; rfl
 | succ n ih =>
  intro v h
  rw [leB_succ,leN,ih (v / 256) (by rw [Nat.pow_succ] at h; omega),UInt8.toNat_ofNat']
  omega
theorem allZero_rep {bs:List UInt8} (h:allZero bs=true):bs=List.replicate bs.length 0:=by
 induction bs with
 | nil=>rfl
 | cons b r ih =>
  rw [allZero,List.all_cons,Bool.and_eq_true] at h
  have hb:b=0:=by simpa using h.1
  have:=ih h.2
  rw [List.length_cons,List.replicate_succ,hb]
  exact congrArg _ this
theorem rep_allZero (n:Nat):allZero (List.replicate n 0)=true:=by
 rw [allZero,List.all_eq_true]; intro x hx; rw [List.eq_of_mem_replicate hx]; rfl
abbrev Txt := List UInt8
def nameOk (s:Txt):Bool:=decide (1≤s.length) && decide (s.length≤27) && (s != [46]) && (s != [46,46]) && s.all (fun b=>b != 47 && b != 0)
structure NameOk (s:Txt):Prop where
 pos:1≤s.length
 le:s.length≤27
 dot:s≠[46]
 dots:s≠[46,46]
 all:∀ b ∈ s,b≠47∧b≠0
theorem nameOk_iff {s:Txt}:nameOk s=true↔NameOk s:=by
 constructor
 ·intro h
  simp only [nameOk,Bool.and_eq_true,decide_eq_true_eq,bne_iff_ne,ne_eq,List.all_eq_true] at h
  obtain ⟨⟨⟨⟨h1,h2⟩,h3⟩,h4⟩,h5⟩:=h
  exact ⟨h1,h2,h3,h4,h5⟩
 ·rintro ⟨h1,h2,h3,h4,h5⟩
  simp only [nameOk,Bool.and_eq_true,decide_eq_true_eq,bne_iff_ne,ne_eq,List.all_eq_true]
  exact ⟨⟨⟨⟨h1,h2⟩,h3⟩,h4⟩,h5⟩
def form (i:Nat) (s:Txt):List UInt8:=if i=0 then List.replicate 32 0 else leBs 4 i++(UInt8.ofNat s.length::(s++List.replicate (27 - s.length) 0))
def Good (x:Nat×Txt):Prop:=(x.1=0∧x.2=[])∨(1≤x.1∧x.1<4294967296∧nameOk x.2=true)
def one (c:List UInt8):Option (Nat×Txt) :=
 if leN (c.take 4)=0 then (if allZero c then some (0,[]) else none)
 else if (c.getD 4 0).toNat<1∨27<(c.getD 4 0).toNat then none
 else if allZero (c.drop (5+(c.getD 4 0).toNat)) && nameOk ((c.drop 5).take (c.getD 4 0).toNat) then some (leN (c.take 4),(c.drop 5).take (c.getD 4 0).toNat) else none
theorem form_length {x:Nat×Txt} (g:Good x):(form x.1 x.2).length=32:=by
 unfold form
 rcases g with ⟨h1,_⟩|⟨h1,h2,h3⟩
 ·rw [if_pos h1,List.length_replicate]
 ·have:=(nameOk_iff.mp h3).le
  rw [if_neg (by omega),List.length_append,leB_length,List.length_cons,List.length_append,List.length_replicate]; omega
theorem zero_good : Good (0,[]):=Or.inl ⟨rfl,rfl⟩
theorem one_form {x:Nat×Txt} (g:Good x):one (form x.1 x.2)=some x:=by
 obtain ⟨i,s⟩:=x
 rcases g with ⟨h1,h2⟩|⟨h1,h2,h3⟩
 ·have h1:i=0:=h1
  have h2:s=[]:=h2
  subst h1; subst h2
  decide +kernel
 ·have h1:1≤i:=h1
  have h2:i<4294967296:=h2
  have h3:nameOk s=true:=h3
  have hn:=nameOk_iff.mp h3
  have hp:=hn.pos
  have hl:=hn.le
  have e0:form i s=leBs 4 i++(UInt8.ofNat s.length::(s++List.replicate (27 - s.length) 0)):=by rw [form,if_neg (by omega)]
  have l4:=leB_length 4 i
  have e1:(form i s).take 4=leBs 4 i:=by rw [e0,List.take_append_of_le_length (by omega),List.take_of_length_le (by omega)]
  have e2:(form i s).getD 4 0=UInt8.ofNat s.length:=by
   rw [e0,List.getD_eq_getElem?_getD,List.getElem?_append_right (by omega),l4]; rfl
  have e3:(UInt8.ofNat s.length).toNat=s.length:=by rw [UInt8.toNat_ofNat']; omega
  have e4:(form i s).drop 5=s++List.replicate (27 - s.length) 0:=by
   rw [e0,List.drop_append,l4]
   rw [List.drop_of_length_le (by omega)]; rfl
  have e5:(form i s).drop (5+s.length)=List.replicate (27 - s.length) 0:=by rw [← List.drop_drop,e4,List.drop_left]
  show one (form i s)=some (i,s)
  unfold one
  rw [e1,leN_leB 4 i (by omega),if_neg (by omega),e2,e3,if_neg (by omega),e5,rep_allZero,e4,List.take_left,h3]
  rfl
theorem form_one {c:List UInt8} {x:Nat×Txt} (hc:c.length=32) (h:one c=some x):Good x∧c=form x.1 x.2:=by
 unfold one at h
 have lt:leN (c.take 4)<256 ^ (c.take 4).length:=leN_lt _
 have l4:(c.take 4).length=4:=by rw [List.length_take]; omega
 rw [l4] at lt
 split at h
 ·split at h
  ·rename_i hz
   obtain rfl:=Option.some.inj h
   refine ⟨zero_good,?_⟩
   have:=allZero_rep hz
   rw [hc] at this
   exact this
  ·cases h
 ·rename_i h0
  split at h
  ·cases h
  ·rename_i h1
   split at h
   ·rename_i h2
    rw [Bool.and_eq_true] at h2
    obtain ⟨hz,hn⟩:=h2
    obtain rfl:=Option.some.inj h
    refine ⟨Or.inr ⟨by show 1≤leN _; omega,by show leN _<_; omega,hn⟩,?_⟩
    have h4:4<c.length:=by omega
    generalize hN:(c.getD 4 0).toNat=n at *
    have en:UInt8.ofNat n=c[4]:=by
     rw [← hN,List.getD_eq_getElem?_getD,List.getElem?_eq_getElem h4]
     apply UInt8.toNat_inj.mp
     have:=(c[4]).toNat_lt
     rw [UInt8.toNat_ofNat']
     show (c[4]).toNat % 256=_
     omega
    have ls:((c.drop 5).take n).length=n:=by rw [List.length_take,List.length_drop]; omega
    have hz:=allZero_rep hz
    rw [List.length_drop,hc,show 32 - (5+n)=27 - n by omega] at hz
    show c=form (leN (c.take 4)) ((c.drop 5).take n)
    rw [form,if_neg h0,ls,en,← hz]
    have e1:leBs 4 (leN (c.take 4))=c.take 4:=by
     have:=leB_leN (c.take 4)
     rw [l4] at this; exact this
    rw [e1,← List.drop_drop,List.take_append_drop,← List.drop_eq_getElem_cons h4,List.take_append_drop]
   ·cases h
def dec : Nat→List UInt8→Option (List (Nat×Txt))
 | 0,_=>some []
 | n+1,b=>match one (b.take 32) with
  | none=>none
  | some x=>(dec n (b.drop 32)).map (x :: ·)
def blk (hs:List (Nat×Txt)):List UInt8:=hs.flatMap fun x=>form x.1 x.2
theorem blk_cons (x:Nat×Txt) (r:List (Nat×Txt)):blk (x::r)=form x.1 x.2++blk r:=rfl
theorem blk_length {hs:List (Nat×Txt)} (g:∀ x ∈ hs,Good x):(blk hs).length=32*hs.length:=by
 induction hs with
 | nil=>rfl
 | cons x r ih =>
  rw [blk_cons,List.length_append,form_length (g x (List.mem_cons_self ..)),ih fun y hy=>g y (List.mem_cons_of_mem _ hy),List.length_cons]; omega
theorem dec_blk {hs:List (Nat×Txt)} (g:∀ x ∈ hs,Good x):dec hs.length (blk hs)=some hs:=by
 induction hs with
 | nil=>rfl
 | cons x r ih =>
  have gx:=g x (List.mem_cons_self ..)
  have l:=form_length gx
  rw [List.length_cons,dec,blk_cons,show List.take 32 (form x.1 x.2++blk r)=form x.1 x.2 by rw [← l,List.take_left],one_form gx]
  show (dec r.length (List.drop 32 (form x.1 x.2++blk r))).map _=_
  rw [show List.drop 32 (form x.1 x.2++blk r)=blk r by rw [← l,List.drop_left],ih fun y hy=>g y (List.mem_cons_of_mem _ hy)]
  rfl
theorem blk_dec : ∀ {n:Nat} {b:List UInt8} {hs:List (Nat×Txt)},b.length=32*n→dec n b=some hs→hs.length=n∧(∀ x ∈ hs,Good x)∧b=blk hs:=by
 intro n
 induction n with
 | zero =>
  intro b hs hl h
  obtain rfl:=Option.some.inj h
  refine ⟨rfl,fun x hx=>absurd hx (by simp),?_⟩
  exact List.length_eq_zero_iff.mp (by omega)
 | succ n ih =>
  intro b hs hl h
  rw [dec] at h
  have l1:(b.take 32).length=32:=by rw [List.length_take]; omega
  cases ho:one (b.take 32) with
  | none=>rw [ho] at h; cases h
  | some x =>
   rw [ho] at h
   obtain ⟨r,hr,rfl⟩:=Option.map_eq_some_iff.mp h
   obtain ⟨a1,a2,a3⟩:=ih (by rw [List.length_drop]; omega) hr
   obtain ⟨g,e⟩:=form_one l1 ho
   refine ⟨by rw [List.length_cons,a1],fun y hy=>?_,?_⟩
   ·rcases List.mem_cons.mp hy with rfl|hy
    ·exact g
    ·exact a2 y hy
   ·rw [blk_cons,← e,← a3,List.take_append_drop]
theorem dec_step {b:List UInt8} {k:Nat} (hk:k<16):dec (16 - k) (b.drop (32*k))=match one ((b.drop (32*k)).take 32) with
  | none=>none
  | some x=>(dec (16 - (k+1)) (b.drop (32*(k+1)))).map (x :: ·):=by
 rw [show 16 - k=(16 - (k+1))+1 by omega,dec,List.drop_drop,show 32*k+32=32*(k+1) by omega]
structure E where
 place:Int
 name:Txt
 inode:Int
deriving DecidableEq
def ents : Nat→List (Nat×Txt)→List E
 | _,[]=>[]
 | k,x::r=>if x.1=0 then ents (k+1) r else ⟨k,x.2,x.1⟩::ents (k+1) r
theorem ents_append : ∀ (a b:List (Nat×Txt)) (k:Nat),ents k (a++b)=ents k a++ents (k+a.length) b:=by
 intro a
 induction a with
 | nil=>intro b k; rfl
 | cons x r ih =>
  intro b k
  rw [List.cons_append,ents,ents,ih,List.length_cons,show k+1+r.length=k+(r.length+1) by omega]
  split <;> rfl
theorem ents_range : ∀ (hs:List (Nat×Txt)) (k:Nat) (e:E),e ∈ ents k hs→(k:Int)≤e.place∧e.place<k+hs.length∧∃ x ∈ hs,x.1≠0∧e.name=x.2∧e.inode=x.1:=by
 intro hs
 induction hs with
 | nil=>intro k e h; exact absurd h (by simp [ents])
 | cons x r ih =>
  intro k e h
  rw [ents] at h
  split at h
  ·obtain ⟨h1,h2,y,h3,h4⟩:=ih _ _ h
   rw [List.length_cons]
   exact ⟨by omega,by omega,y,List.mem_cons_of_mem _ h3,h4⟩
  ·rename_i h0
   rw [List.length_cons]
   rcases List.mem_cons.mp h with rfl|h
   ·refine ⟨by show (k:Int)≤k; omega,by show (k:Int)<_; omega,x,List.mem_cons_self ..,h0,rfl,rfl⟩
   ·obtain ⟨h1,h2,y,h3,h4⟩:=ih _ _ h
    exact ⟨by omega,by omega,y,List.mem_cons_of_mem _ h3,h4⟩
end Go.Proofs.YtiapingedfnlnaaGreatDoor.Sk
namespace Go.Proofs.YtiapingedfnlnaaGreatDoor.Ss
open Go Go.Proofs Re Sk
theorem ents_len : ∀ (hs:List (Nat×Txt)) (k:Nat),(ents k hs).length≤hs.length:=by
 intro hs
 induction hs with
 | nil=>intro k; exact Nat.le_refl _
 | cons x r ih =>
  intro k
  rw [ents]
  split
  ·have:=ih (k+1); rw [List.length_cons]; omega
  ·have:=ih (k+1); rw [List.length_cons,List.length_cons]; omega
def ans (bs:List UInt8):List E×Int:=if bs.length≠512 then ([],32) else match dec 16 bs with
 | none=>([],140)
 | some hs=>(ents 0 hs,0)
end Go.Proofs.YtiapingedfnlnaaGreatDoor.Ss
namespace Go.Proofs.YtiapingedfnlnaaGreatDoor.Ad
open Go Go.Proofs Wx Hp W
structure RD where
 lasts:List (List UInt8)
 pend:List (Int×List UInt8)
 left:Int
 keep:List Bool
 down:Bool
 writes:Int
 flushes:Int
 tape:List (Int×Int×List UInt8)
def blk (b:List UInt8):List Value:=b.map bv
def pcell (p:Int×List UInt8):List Value := .int .i64 p.1::p.2.map bv
structure Ent where
 kind:Int
 at_:Int
 a:Option Addr
 l:Nat
 c:Nat
def Ent.cells (e:Ent):List Value:=[.int .i64 e.kind,.int .i64 e.at_,.slice e.a e.l e.c]
def Ents (h:Heap) (col:Nat→Nat) (k:Nat):List Ent→List (Int×Int×List UInt8)→Prop
 | [],[]=>True
 | e::r,t::s=>e.kind=t.1∧e.at_=t.2.1∧StrAt h e.a e.l t.2.2∧(∀ p,e.a=some p→p.block<h.size∧col p.block=k)∧Ents h col k r s
 | _,_=>False
theorem Ents.keep {h h':Heap} {col col':Nat→Nat} {k:Nat} {F:Nat→Prop} (f:Fr F h h') (g:Ag h.size col col') (hF:∀ b,col b=k→¬ F b) :
  ∀ {es:List Ent} {ts:List (Int×Int×List UInt8)},Ents h col k es ts→Ents h' col' k es ts:=by
 intro es
 induction es with
 | nil=>intro ts e; cases ts with
  | nil=>trivial
  | cons _ _=>exact e.elim
 | cons x r ih=>intro ts e; cases ts with
  | nil=>exact e.elim
  | cons t s =>
   obtain ⟨h1,h2,h3,h4,h5⟩:=e
   exact ⟨h1,h2,StrAt.fr f h3 (fun p hp=>hF _ (h4 p hp).2),fun p hp=>⟨Nat.lt_of_lt_of_le (h4 p hp).1 f.size,(g _ (h4 p hp).1).trans (h4 p hp).2⟩,ih h5⟩
structure Raw where
 la:Option Addr
 ln:Nat
 lc:Nat
 pa:Option Addr
 pn:Nat
 pc:Nat
 left:Int
 ka:Option Addr
 kn:Nat
 kc:Nat
 down:Bool
 writes:Int
 flushes:Int
 ta:Option Addr
 tn:Nat
 tc:Nat
def Raw.cells (r:Raw):List Value :=
 [.slice r.la r.ln r.lc,.slice r.pa r.pn r.pc,.int .i64 r.left,.slice r.ka r.kn r.kc,.bool r.down,.int .i64 r.writes,.int .i64 r.flushes,.slice r.ta r.tn r.tc]
structure Parts (h:Heap) (S:RD) (col:Nat→Nat) (m:Nat) (r:Raw) (es:List Ent):Prop where
 left:r.left=S.left
 leftb:0≤S.left∧S.left≤9223372036854775807
 down:r.down=S.down
 writes:r.writes=S.writes
 flushes:r.flushes=S.flushes
 l:Sl h 512 r.la r.ln r.lc (S.lasts.flatMap blk) (On col (m+1))
 lw:∀ x ∈ S.lasts,x.length=512
 ln:r.ln=S.lasts.length
 lmax:S.lasts.length≤16384
 p:Sl h 513 r.pa r.pn r.pc (S.pend.flatMap pcell) (On col (m+2))
 pw:∀ x ∈ S.pend,x.2.length=512
 pn:r.pn=S.pend.length
 pi:∀ x ∈ S.pend,0≤x.1∧x.1<S.lasts.length
 pmax:S.pend.length≤140737488355328
 k:Sl h 1 r.ka r.kn r.kc (S.keep.map .bool) (On col (m+3))
 kn:r.kn=S.keep.length
 t:Sl h 3 r.ta r.tn r.tc (es.flatMap Ent.cells) (On col (m+4))
 tn:r.tn=es.length
 tmax:es.length≤140737488355328
 ts:Ents h col (m+5) es S.tape
structure Disk (h:Heap) (b:Nat) (S:RD) (col:Nat→Nat) (m:Nat) (r:Raw) (es:List Ent):Prop extends Parts h S col m r es where
 sc:col b=m
 so:Own h b
 sr:rd h b=r.cells
def DiskAt (h:Heap) (d:Option Addr) (S:RD) (col:Nat→Nat) (m:Nat):Prop:=∃ b r es,d=some ⟨b,0,none⟩∧Disk h b S col m r es
theorem Parts.keep {h h':Heap} {S:RD} {col col':Nat→Nat} {m:Nat} {r:Raw} {es:List Ent} {F:Nat→Prop} (d:Parts h S col m r es) (f:Fr F h h') (g:Ag h.size col col')
  (hF:∀ b,m+1≤col b→col b≤m+5→¬ F b):Parts h' S col' m r es :=
 ⟨d.left,d.leftb,d.down,d.writes,d.flushes,d.l.keep f g (fun b e=>hF b (by omega) (by omega)),d.lw,d.ln,d.lmax,
  d.p.keep f g (fun b e=>hF b (by omega) (by omega)),d.pw,d.pn,d.pi,d.pmax,d.k.keep f g (fun b e=>hF b (by omega) (by omega)),d.kn,d.t.keep f g (fun b e=>hF b (by omega) (by omega)),d.tn,d.tmax,
  Ents.keep f g (fun b e=>hF b (by omega) (by omega)) d.ts⟩
theorem Disk.keep' {h h':Heap} {b:Nat} {S:RD} {col col':Nat→Nat} {m:Nat} {r:Raw} {es:List Ent} {F:Nat→Prop} (d:Disk h b S col m r es) (f:Fr F h h') (g:Ag h.size col col')
  (hF:∀ b,m≤col b→col b≤m+5→¬ F b):Disk h' b S col' m r es:=by
 have hb:=d.so.lt
 have hs:¬ F b:=hF b (by have:=d.sc; omega) (by have:=d.sc; omega)
 exact ⟨d.toParts.keep f g (fun b h1 h2=>hF b (by omega) h2),(g _ hb).trans d.sc,f.own hb hs d.so,(f.rd hb hs).trans d.sr⟩
theorem DiskAt.keep {h h':Heap} {d:Option Addr} {S:RD} {col col':Nat→Nat} {m:Nat} {F:Nat→Prop} (D:DiskAt h d S col m) (f:Fr F h h') (g:Ag h.size col col')
  (hF:∀ b,m≤col b→col b≤m+5→¬ F b):DiskAt h' d S col' m:=by
 obtain ⟨b,r,es,e,D⟩:=D; exact ⟨b,r,es,e,D.keep' f g hF⟩
def fresh (ls:List (List UInt8)):RD:=⟨ls,[],0,[],false,0,0,[]⟩
def zeroBlk : List UInt8:=List.replicate 512 0
theorem repCells_zero (z:List Value) (hz:z=List.replicate 512 (.int .u8 0)) (n:Nat):repCells z n=(List.replicate n zeroBlk).flatMap blk:=by
 rw [repCells_eq,List.flatMap_replicate]
 subst hz
 have:blk zeroBlk=List.replicate 512 (.int .u8 0):=by simp only [blk,zeroBlk,List.map_replicate]; rfl
 rw [this]
theorem New_spec {n:Int} {h:Heap} {K:Value→Heap→Prop} (col:Nat→Nat) (m:Nat)
  (h1:n<1∨16384<n→K (.tuple #[.pointer none,.int .i64 32]) h)
  (h2:1≤n→n≤16384→∀ q h' col',Fr No h h'→Ag h.size col col'→DiskAt h' (some q) (fresh (List.replicate n.toNat zeroBlk)) col' m→K (.tuple #[.pointer (some q),.int .i64 0]) h') :
  C.adisk_New n h K:=by
 refine adisk_New.ok ?_
 refine cd (fun a=>h1 (Or.inl a)) fun a=>cd (fun b=>h1 (Or.inr b)) fun b=>⟨by omega,?_⟩
 refine New.intro fun h2' n2=>New.intro fun h3 n3=>?_
 refine h2 (by omega) (by omega) _ _ (upd (upd col h.size (m+1)) (h.size+1) m) (n2.fr.new n3) ((ag_upd _ _ _).trans (ag_upd _ _ _) (by omega)) ?_
 refine ⟨_,⟨some ⟨h.size,0,none⟩,n.toNat,n.toNat,none,0,0,0,none,0,0,false,0,0,none,0,0⟩,[],rfl,?_⟩
 have hl:=flat_length blk 512 (List.replicate n.toNat zeroBlk) (by intro x hx; rw [List.eq_of_mem_replicate hx]; simp only [blk,zeroBlk,List.length_map,List.length_replicate])
 rw [List.length_replicate] at hl
 have e2:rd h2' h.size=(List.replicate n.toNat zeroBlk).flatMap blk:=n2.rd.trans (repCells_zero _ rfl _)
 refine ⟨⟨rfl,⟨by simp [fresh],by simp [fresh]⟩,rfl,rfl,rfl,?_,?_,?_,?_,Sl.nil _ _ _,?_,rfl,?_,by simp [fresh],Sl.nil _ _ _,rfl,Sl.nil _ _ _,rfl,by simp,trivial⟩,upd_ge (by rw [n2.size]; omega),n3.own,n3.rd⟩
 ·refine ⟨hl,rfl,?_,n3.ow n2.own,Nat.le_refl _,?_,?_⟩
  ·show upd (upd col h.size (m+1)) (h.size+1) m h.size=m+1
   rw [upd_lt (by omega),upd_ge (Nat.le_refl _)]
  ·show ((rd h3 h.size).drop 0).take _=_
   rw [n3.at_ n2.own.lt,e2,List.drop_zero]; exact List.take_length
  ·show 0+n.toNat*512≤(rd h3 h.size).length
   rw [n3.at_ n2.own.lt,e2,hl]; omega
 ·intro x hx; rw [List.eq_of_mem_replicate hx]; simp only [zeroBlk,List.length_replicate]
 ·simp [fresh]
 ·simp only [fresh,List.length_replicate]; omega
 ·intro x hx; simp [fresh] at hx
 ·intro x hx; simp [fresh] at hx
end Go.Proofs.YtiapingedfnlnaaGreatDoor.Ad
namespace Go.Proofs.YtiapingedfnlnaaGreatDoor.Ad
open Go Go.Proofs Wx Hp W
theorem Disk.field {h:Heap} {b:Nat} {S:RD} {col:Nat→Nat} {m:Nat} {r:Raw} {es:List Ent} (d:Disk h b S col m r es) (k:Nat):cellOf h (Addr.add ⟨b,0,none⟩ k)=r.cells[k]?:=by
 rw [add_mk,cellOf_rd,d.sr,Nat.zero_add]
theorem has_spec {d:Option Addr} {i:Int} {h:Heap} {K:Value→Heap→Prop} {S:RD} {col:Nat→Nat} {m:Nat} (D:DiskAt h d S col m)
  (hK:K (.bool (decide (0≤i∧i<S.lasts.length))) h):C.adisk_Disk_has d i h K:=by
 obtain ⟨b,r,es,rfl,D⟩:=D
 refine adisk_Disk_has.ok (cd (fun a=>⟨_,_,_,D.field 0,?_⟩) fun a=>?_)
 ·rw [D.ln]
  have e:(0≤i∧i<S.lasts.length)=(i<S.lasts.length):=by rw [eq_true (show 0≤i from a),true_and]
  simpa only [e] using hK
 ·have:¬ (0≤i∧i<S.lasts.length):=by omega
  simpa only [this,decide_false] using hK
theorem Blocks_spec {d:Option Addr} {h:Heap} {K:Value→Heap→Prop} {S:RD} {col:Nat→Nat} {m:Nat} (D:DiskAt h d S col m)
  (hK:K (.int .i64 S.lasts.length) h):C.adisk_Disk_Blocks d h K:=by
 obtain ⟨b,r,es,rfl,D⟩:=D
 refine adisk_Disk_Blocks.ok ⟨_,_,_,D.field 0,?_⟩
 rw [D.ln]; exact hK
def readFrom (b:List UInt8) (i:Int) (ps:List (Int×List UInt8)):List UInt8:=ps.foldl (fun b p=>if p.1=i then p.2 else b) b
def readAt (S:RD) (i:Nat):List UInt8:=readFrom (S.lasts.getD i []) i S.pend
theorem pcell_len {p:Int×List UInt8} (h:p.2.length=512):(pcell p).length=513:=by simp only [pcell,List.length_cons,List.length_map,h]
theorem blk_len {b:List UInt8} (h:b.length=512):(blk b).length=512:=by simp only [blk,List.length_map,h]
theorem pcell_data (p:Int×List UInt8):((pcell p).drop (0+1)).take (blk p.2).length=blk p.2:=by
 simp only [pcell,blk,Nat.zero_add,List.drop_succ_cons,List.drop_zero]; exact List.take_length
theorem pcell_one (p:Int×List UInt8):∀ v ∈ pcell p,v.oneCell'=true:=by
 intro v hv
 rcases List.mem_cons.mp hv with rfl|hv
 ·rfl
 ·exact bv_one _ v hv
theorem Disk.pendCells {h:Heap} {b:Nat} {S:RD} {col:Nat→Nat} {m:Nat} {r:Raw} {es:List Ent} (d:Disk h b S col m r es) {h':Heap} {col':Nat→Nat} {i:Nat} (hi:i<S.pend.length)
  (s:Sl h' 513 r.pa r.pn r.pc (S.pend.flatMap pcell) (On col' (m+2))):∃ p,r.pa=some p∧Cells h' (p.add (i*513)) (pcell S.pend[i]):=by
 obtain ⟨p,e,c⟩:=s.get (by rw [d.pn]; omega)
 refine ⟨p,e,?_⟩
 have:=Cells.part c (i*513) 513
 rw [flat_part pcell 513 S.pend (fun x hx=>pcell_len (d.pw x hx)) i hi] at this
 exact this
theorem Disk.lastCells {h:Heap} {b:Nat} {S:RD} {col:Nat→Nat} {m:Nat} {r:Raw} {es:List Ent} (d:Disk h b S col m r es) {h':Heap} {col':Nat→Nat} {i:Nat} (hi:i<S.lasts.length)
  (s:Sl h' 512 r.la r.ln r.lc (S.lasts.flatMap blk) (On col' (m+1))):∃ p,r.la=some p∧Cells h' (p.add (i*512)) (blk S.lasts[i]):=by
 obtain ⟨p,e,c⟩:=s.get (by rw [d.ln]; omega)
 refine ⟨p,e,?_⟩
 have:=Cells.part c (i*512) 512
 rw [flat_part blk 512 S.lasts (fun x hx=>blk_len (d.lw x hx)) i hi] at this
 exact this
theorem readFrom_take {b:List UInt8} {i:Int} {ps:List (Int×List UInt8)} {n:Nat} (hn:n<ps.length):readFrom b i (ps.take (n+1))=if ps[n].1=i then ps[n].2 else readFrom b i (ps.take n):=by
 rw [readFrom,List.take_add_one,List.foldl_append,List.getElem?_eq_getElem hn]; rfl
theorem Read_spec {d:Option Addr} {i:Int} {h:Heap} {K:Value→Heap→Prop} {S:RD} {col:Nat→Nat} {m:Nat} (D:DiskAt h d S col m)
  (h1:S.down=true→K (.tuple #[.slice none 0 0,.int .i64 30]) h)
  (h2:S.down=false→¬ (0≤i∧i<S.lasts.length)→K (.tuple #[.slice none 0 0,.int .i64 31]) h)
  (h3:S.down=false→0≤i→i<S.lasts.length→∀ b h',Fr No h h'→h.size≤b→Own h' b→rd h' b=(readAt S i.toNat).map bv→(readAt S i.toNat).length=512 →
   K (.tuple #[.slice (some ⟨b,0,none⟩) 512 512,.int .i64 0]) h') :
  C.adisk_Disk_Read d i h K:=by
 have D0:=D
 obtain ⟨b,r,es,rfl,D⟩:=D
 refine adisk_Disk_Read.ok ⟨_,D.field 4,?_⟩
 rw [D.down]
 refine cs h1 fun hd=>has_spec D0 ⟨_,rfl,cnot (cd (fun a=>?_) (h2 hd))⟩
 have hi:i.toNat<S.lasts.length:=by omega
 obtain ⟨p,e,c⟩:=D.lastCells hi D.l
 refine ⟨_,_,_,D.field 0,⟨a.1,by rw [D.ln]; exact a.2⟩,?_⟩
 rw [e]
 have hlen:=blk_len (D.lw _ (List.getElem_mem hi))
 refine ⟨_,hlen,c,NewRow.intro hlen (bv_one _) List.length_replicate fun h4 n4=>?_⟩
 have D4:=D.keep' n4.fr (Ag.refl _ _) (fun _ _ _ x=>x)
 refine ⟨_,_,_,D4.field 1,?_⟩
 refine ⟨fun n hh=>0≤n∧n≤S.pend.length∧Fr No h hh∧Own hh h.size∧rd hh h.size=(readFrom S.lasts[i.toNat] i (S.pend.take n.toNat)).map bv∧(readFrom S.lasts[i.toNat] i (S.pend.take n.toNat)).length=512,
  fun n _=>(S.pend.length - n).toNat,⟨by omega,by omega,n4.fr,n4.own,n4.rd,D.lw _ (List.getElem_mem hi)⟩,?_⟩
 rintro n h5 ⟨n0,n1,f5,o5,r5,l5⟩
 have D5:=D.keep' f5 (Ag.refl _ _) (fun _ _ _ x=>x)
 rw [D.pn]
 refine cd (fun hn=>?_) fun hn=>?_
 rotate_left
 ·have:readAt S i.toNat=readFrom S.lasts[i.toNat] i (S.pend.take n.toNat):=by
   rw [List.take_of_length_le (by omega),readAt,List.getD_eq_getElem?_getD,List.getElem?_eq_getElem hi,Option.getD_some,Int.toNat_of_nonneg a.1]
  exact h3 hd a.1 a.2 _ _ f5 (Nat.le_refl _) o5 (by rw [this]; exact r5) (by rw [this]; exact l5)
 have hn':n.toNat<S.pend.length:=by omega
 obtain ⟨q,e',c'⟩:=D5.pendCells hn' D5.p
 refine ⟨⟨n0,hn⟩,?_⟩
 rw [e']
 have hp2:=D.pw _ (List.getElem_mem hn')
 have hpl:=pcell_len hp2
 refine ⟨_,hpl,c',NewRow.intro hpl (pcell_one _) (List.length_cons.trans (congrArg (· + 1) List.length_replicate)) fun h7 n7=>?_⟩
 have f7:=f5.new n7
 have hs5:=f5.size
 have hw:IntKind.wrap .i64 (n+1)=n+1:=wrap_i64 (by omega) (by have:=D.pmax; omega)
 have ht:(n+1).toNat=n.toNat+1:=by omega
 refine ⟨_,rda n7.rd rfl,?_⟩
 rw [hw]
 refine ce (fun hq=>?_) fun hq=>?_
 ·have hb:=blk_len hp2
  have r7:=n7.at_ o5.lt
  refine ⟨_,hb,cellsa n7.rd (pcell_data _),PutRow.intro (n7.ow o5) hb (bv_one _) (by rw [r7,r5,List.length_map,l5]; omega) fun h8 n8=>⟨⟨by omega,by omega,f7.did n8 (fun x=>by omega),n8.own,?_,?_⟩,falls hn⟩⟩
  ·rw [n8.rd,r7,r5,put_all _ _ (by rw [hb,List.length_map,l5]),ht,readFrom_take hn',if_pos hq]; rfl
  ·rw [ht,readFrom_take hn',if_pos hq]; exact hp2
 ·refine ⟨⟨by omega,by omega,f7,n7.ow o5,?_,?_⟩,falls hn⟩
  ·rw [n7.at_ o5.lt,r5,ht,readFrom_take hn',if_neg hq]
  ·rw [ht,readFrom_take hn',if_neg hq]; exact l5
end Go.Proofs.YtiapingedfnlnaaGreatDoor.Ad
namespace Go.Proofs.YtiapingedfnlnaaGreatDoor.Ad
open Go Go.Proofs Wx Hp W
theorem Disk.putLast {h h':Heap} {b:Nat} {S:RD} {col:Nat→Nat} {m:Nat} {r:Raw} {es:List Ent} (d:Disk h b S col m r es) {lb lo i:Nat} {y:List UInt8} (hi:i<S.lasts.length) (hy:y.length=512)
  (e:r.la=some ⟨lb,lo,none⟩) (D:Did lb h h' (put (rd h lb) (lo+i*512) (blk y))):Disk h' b { S with lasts:=S.lasts.set i y } col m r es:=by
 have L:=d.l
 rw [e] at L
 have hc:col lb=m+1:=L.2.2.1
 have K:=d.keep' (F:=fun x=>x=lb∧False) (h':=h) ⟨Nat.le_refl _,fun _ _ _=>rfl⟩ (Ag.refl _ _) (fun _ _ _ x=>x.2)
 have hs:b≠lb:=by intro x; have:=d.sc; rw [x] at this; omega
 have g:Ag h.size col col:=Ag.refl _ _
 have hk:∀ k,k≠m+1→∀ x,col x=k→¬ (x=lb):=by intro k hk x hx e; rw [e] at hx; omega
 exact ⟨⟨d.left,d.leftb,d.down,d.writes,d.flushes,by rw [e]; exact L.putPart (fun x hx=>blk_len (d.lw x hx)) hi (blk_len hy) D,
  fun x hx=>by rcases List.mem_or_eq_of_mem_set hx with hx|rfl; exact d.lw x hx; exact hy,by simp only [List.length_set]; exact d.ln,by simp only [List.length_set]; exact d.lmax,
  d.p.keep D.fr g (hk _ (by omega)),d.pw,d.pn,by simp only [List.length_set]; exact d.pi,d.pmax,d.k.keep D.fr g (hk _ (by omega)),d.kn,d.t.keep D.fr g (hk _ (by omega)),d.tn,d.tmax,Ents.keep D.fr g (hk _ (by omega)) d.ts⟩,d.sc,D.ow d.so,(D.at_ d.so.lt hs).trans d.sr⟩
theorem take_snoc {α:Type} (xs:List α) (n:Nat) (h:n<xs.length):xs.take (n+1)=xs.take n++[xs[n]]:=by
 rw [List.take_add_one,List.getElem?_eq_getElem h]; rfl
def chunks (bs:List UInt8):List (List UInt8):=(List.range (bs.length / 512)).map fun i=>(bs.drop (i*512)).take 512
theorem chunks_length (bs:List UInt8):(chunks bs).length=bs.length / 512:=by simp only [chunks,List.length_map,List.length_range]
theorem chunks_get (bs:List UInt8) {i:Nat} (h:i<(chunks bs).length):(chunks bs)[i]=(bs.drop (i*512)).take 512:=by simp only [chunks,List.getElem_map,List.getElem_range]
theorem Open_spec {a:Option Addr} {l c:Nat} {bs:List UInt8} {h:Heap} {K:Value→Heap→Prop} (col:Nat→Nat) (m:Nat) (hf:Free h col m) (B:StrAt h a l bs) (hlc:l≤c) (hl:l≤140737488355328)
  (h1:l % 512≠0∨l=0∨16384<l / 512→K (.tuple #[.pointer none,.int .i64 32]) h)
  (h2:l % 512=0→0<l→l / 512≤16384→∀ q h' col',Fr No h h'→Ag h.size col col'→DiskAt h' (some q) (fresh (chunks bs)) col' m→K (.tuple #[.pointer (some q),.int .i64 0]) h') :
  C.adisk_Open a l c h K:=by
 have hbl:=B.1
 have hd:Int.tdiv (l:Int) 512=((l / 512:Nat):Int):=by rw [Int.tdiv_eq_ediv_of_nonneg (by omega)]; omega
 have hmd:Int.tmod (l:Int) 512=((l % 512:Nat):Int):=by rw [Int.tmod_eq_emod_of_nonneg (by omega)]; omega
 have hw:IntKind.wrap .i64 (Int.tdiv (l:Int) 512)=((l / 512:Nat):Int):=by rw [hd]; exact wrap_i64 (by omega) (by omega)
 refine adisk_Open.ok (cn (fun x=>h1 (Or.inl (by omega))) fun x=>?_)
 rw [hw]
 refine New_spec col m (fun y=>⟨_,_,rfl,cn (fun _=>h1 (by omega)) (fun z=>absurd z (by omega))⟩) fun y1 y2 q h' col' f1 g1 D1=>⟨_,_,rfl,cn (fun z=>absurd rfl z) fun _=>?_⟩
 obtain ⟨b,r,es,hq,D1⟩:=D1
 have hq:q=⟨b,0,none⟩:=by simpa using hq
 subst hq
 rw [Int.toNat_natCast] at D1
 have hN:=D1.ln
 simp only [fresh,List.length_replicate] at hN
 refine ⟨_,_,_,D1.field 0,?_⟩
 refine ⟨fun n hh=>0≤n∧n≤(l / 512:Nat)∧Fr No h hh∧Disk hh b (fresh ((chunks bs).take n.toNat++List.replicate (l / 512 - n.toNat) zeroBlk)) col' m r es,fun n _=>((l / 512:Nat) - n).toNat,
  ⟨by omega,by omega,f1,by rw [show (0:Int).toNat=0 from rfl,List.take_zero,List.nil_append,Nat.sub_zero]; exact D1⟩,?_⟩
 rintro n h3 ⟨n0,n1,f3,D3⟩
 rw [hN]
 have hcl:=chunks_length bs
 refine cd (fun hn=>?_) fun hn=>?_
 rotate_left
 ·have e:n.toNat=l / 512:=by omega
  rw [e,List.take_of_length_le (by rw [hcl,hbl]; omega),Nat.sub_self,List.replicate_zero,List.append_nil] at D3
  exact h2 (by omega) (by omega) (by omega) _ _ _ f3 g1 ⟨b,r,es,rfl,D3⟩
 have hn':n.toNat<l / 512:=by omega
 refine ⟨_,_,_,D3.field 0,⟨n0,by rw [hN]; exact hn⟩,?_⟩
 obtain ⟨p,e,_⟩:=D3.l.get (by rw [hN]; omega)
 rw [e]
 have L:=D3.l
 rw [e] at L
 obtain ⟨lb,lo,sp⟩:=p
 have hsp:sp=none:=L.2.1
 subst hsp
 have hw3:IntKind.wrap .i64 (n*512)=((n.toNat*512:Nat):Int):=by rw [wrap_i64 (by omega) (by omega)]; omega
 have hw2:IntKind.wrap .i64 (n+1)=n+1:=wrap_i64 (by omega) (by omega)
 simp only [hw3,hw2,Int.toNat_natCast]
 refine ⟨by omega,?_⟩
 rw [if_neg (by omega),add_mk]
 have B3:=StrAt.take (StrAt.drop (StrAt.fr f3 B (fun _ _ x=>x)) (n.toNat*512)) (n:=512) (by omega)
 obtain ⟨w1,w2⟩:=L.wr
 rw [hN] at w2
 have hy:((bs.drop (n.toNat*512)).take 512).length=512:=B3.1
 have hm:min (l - n.toNat*512) 512=512:=by omega
 refine CopyP.intro (new:=blk ((bs.drop (n.toNat*512)).take 512)) (by rw [blk_len hy,hm]; rfl) B3.2 (bv_one _) w1 (by rw [blk_len hy]; omega) fun h4 d4=>?_
 have hi:n.toNat<((chunks bs).take n.toNat++List.replicate (l / 512 - n.toNat) zeroBlk).length:=by rw [List.length_append,List.length_take,List.length_replicate,hcl,hbl]; omega
 have D4:=D3.putLast (i:=n.toNat) hi hy e d4
 refine ⟨⟨by omega,by omega,?_,?_⟩,falls hn⟩
 ·refine f3.did d4 fun x=>?_
  have hc:col' lb=m+1:=L.2.2.1
  have:=hf.new g1 (b:=lb) (by omega) (by omega)
  omega
 ·have ht:(n+1).toNat=n.toNat+1:=by omega
  have hx:n.toNat<(chunks bs).length:=by rw [hcl,hbl]; omega
  have e1:((chunks bs).take n.toNat++List.replicate (l / 512 - n.toNat) zeroBlk).set n.toNat ((bs.drop (n.toNat*512)).take 512)=(chunks bs).take (n+1).toNat++List.replicate (l / 512 - (n+1).toNat) zeroBlk:=by
   have h1:((chunks bs).take n.toNat).length=n.toNat:=by rw [List.length_take]; omega
   rw [List.set_append_right _ _ (by omega),h1,Nat.sub_self,show l / 512 - n.toNat=(l / 512 - (n+1).toNat)+1 by omega,List.replicate_succ,List.set_cons_zero,ht,take_snoc _ _ hx,chunks_get,List.append_assoc]; rfl
  rw [← e1]; exact D4
end Go.Proofs.YtiapingedfnlnaaGreatDoor.Ad
namespace Go.Proofs.YtiapingedfnlnaaGreatDoor.Ad
open Go Go.Proofs Wx Hp W
theorem Clone_spec {a:Option Addr} {l c:Nat} {bs:List UInt8} {h:Heap} {K:Value→Heap→Prop} (B:StrAt h a l bs) (hl:l≤140737488355328)
  (hK:∀ a' c' h',Fr No h h'→Sl h' 1 a' l c' (bs.map bv) (From h.size)→K (.slice a' l c') h'):C.slices_Clone_byte_byte a l c h K:=by
 have hbl:=B.1
 refine slices_Clone_byte_byte.ok (cs (fun e=>?_) fun _=>New.intro fun h2 n2=>?_)
 ·cases a with
  | none =>
   have e1:=B.2
   have e2:bs.map bv=[]:=e1
   have e2:bs=[]:=List.map_eq_nil_iff.mp e2
   subst e2
   have:l=0:=hbl.symm
   subst this
   exact hK none 0 h (Fr.refl _ _) (Sl.nil _ _ _)
  | some p=>simp at e
 ·obtain ⟨s1,s2,s3⟩:=StrAt.src (StrAt.fr n2.fr B (fun _ _ x=>x))
  refine ⟨_,s1,s2,s3,?_⟩
  refine append_own (xs:=[]) (F:=From h.size) (Sl.made n2 rfl (Nat.le_refl _) rfl (Nat.le_refl _) rfl) s1 rfl (by show (0+l)*1≤_; omega) (by omega) fun a' c' h' f s=>?_
  rw [Nat.zero_add,List.nil_append] at s
  rw [Nat.zero_add]
  have:=n2.size
  exact hK a' c' h' (n2.fr.trans f fun b hb e=>by have:h.size≤b:=e; omega) (s.mono fun b hb=>by rcases hb with hb|hb; exact hb; show h.size≤b; omega)
end Go.Proofs.YtiapingedfnlnaaGreatDoor.Ad
namespace Go.Proofs.YtiapingedfnlnaaGreatDoor.Ad
open Go Go.Proofs Wx Hp W
structure Gw (h:Heap) (D:Nat→Prop) (h':Heap) (D':Nat→Prop):Prop where
 old:∀ b,b<h.size→(D' b↔D b)
 lt:∀ b,D' b→b<h'.size
theorem Gw.new {h h':Heap} {D D':Nat→Prop} (g:Gw h D h' D') {b:Nat} (hb:D' b):D b∨h.size≤b:=by
 rcases Nat.lt_or_ge b h.size with h1|h1
 ·exact .inl ((g.old b h1).mp hb)
 ·exact .inr h1
def trim (col:Nat→Nat) (n:Nat):Nat→Nat:=fun b=>if b<n then col b else 0
theorem trim_lt {col:Nat→Nat} {n b:Nat} (h:b<n):trim col n b=col b:=if_pos h
theorem trim_ge {col:Nat→Nat} {n b:Nat} (h:n≤b):trim col n b=0:=if_neg (by omega)
theorem ag_trim (col:Nat→Nat) (n:Nat):Ag n col (trim col n):=fun _ hb=>if_pos hb
def DiskF (h:Heap) (D:Nat→Prop) (d:Option Addr) (S:RD):Prop:=∃ col,DiskAt h d S col 1∧(∀ b,h.size≤b→col b=0)∧∀ b,D b↔1≤col b∧col b≤6
theorem DiskF.mk {h:Heap} {d:Option Addr} {S:RD} {col:Nat→Nat} (a:DiskAt h d S col 1):DiskF h (fun b=>b<h.size∧1≤col b∧col b≤6) d S:=by
 refine ⟨trim col h.size,a.keep (F:=No) (Fr.refl _ h) (ag_trim _ _) fun _ _ _ x=>x,fun b hb=>trim_ge hb,fun b=>⟨fun hb=>by rw [trim_lt hb.1]; exact hb.2,fun hb=>?_⟩⟩
 rcases Nat.lt_or_ge b h.size with h1|h1
 ·rw [trim_lt h1] at hb; exact ⟨h1,hb⟩
 ·rw [trim_ge h1] at hb; omega
theorem DiskF.lt {h:Heap} {D:Nat→Prop} {d:Option Addr} {S:RD} (a:DiskF h D d S) {b:Nat} (hb:D b):b<h.size:=by
 obtain ⟨col,_,hz,hD⟩:=a
 rcases Nat.lt_or_ge b h.size with h1|h1
 ·exact h1
 ·have:=(hD b).mp hb; rw [hz b h1] at this; omega
theorem DiskF.fr {h h':Heap} {D F:Nat→Prop} {d:Option Addr} {S:RD} (a:DiskF h D d S) (f:Fr F h h') (hF:∀ b,D b→¬ F b):DiskF h' D d S:=by
 obtain ⟨col,a,hz,hD⟩:=a
 have:=f.size
 exact ⟨col,a.keep f (Ag.refl _ _) fun b h1 h2=>hF b ((hD b).mpr ⟨h1,h2⟩),fun b hb=>hz b (by omega),hD⟩
theorem DiskF.no {h h':Heap} {D:Nat→Prop} {d:Option Addr} {S:RD} (a:DiskF h D d S) (f:Fr No h h'):DiskF h' D d S:=a.fr f fun _ _ x=>x
theorem DiskF.iff {h:Heap} {D D':Nat→Prop} {d:Option Addr} {S:RD} (a:DiskF h D d S) (e:∀ b,D' b↔D b):DiskF h D' d S:=by
 obtain ⟨col,a,hz,hD⟩:=a
 exact ⟨col,a,hz,fun b=>(e b).trans (hD b)⟩
theorem DiskF.blocks {h:Heap} {D:Nat→Prop} {d:Option Addr} {S:RD} {K:Value→Heap→Prop} (a:DiskF h D d S) (hK:K (.int .i64 S.lasts.length) h):C.adisk_Disk_Blocks d h K:=by
 obtain ⟨col,a,_⟩:=a
 exact Blocks_spec a hK
theorem DiskF.max {h:Heap} {D:Nat→Prop} {d:Option Addr} {S:RD} (a:DiskF h D d S):S.lasts.length≤16384∧∀ x ∈ S.lasts,x.length=512:=by
 obtain ⟨col,⟨b,r,es,_,D⟩,_⟩:=a
 exact ⟨D.lmax,D.lw⟩
theorem DiskF.read {h:Heap} {D:Nat→Prop} {d:Option Addr} {S:RD} {i:Int} {K:Value→Heap→Prop} (a:DiskF h D d S)
  (h1:S.down=true→K (.tuple #[.slice none 0 0,.int .i64 30]) h)
  (h2:S.down=false→¬ (0≤i∧i<S.lasts.length)→K (.tuple #[.slice none 0 0,.int .i64 31]) h)
  (h3:S.down=false→0≤i→i<S.lasts.length→∀ b h',Fr No h h'→Sl h' 1 (some ⟨b,0,none⟩) 512 512 ((readAt S i.toNat).map bv) (From h.size)→(readAt S i.toNat).length=512 →
   K (.tuple #[.slice (some ⟨b,0,none⟩) 512 512,.int .i64 0]) h') :
  C.adisk_Disk_Read d i h K:=by
 obtain ⟨col,a,_⟩:=a
 refine Read_spec a h1 h2 fun e i0 i1 b h' f hb o r l=>h3 e i0 i1 b h' f ⟨by rw [List.length_map,l],rfl,hb,o,Nat.le_refl _,?_,?_⟩ l
 ·show ((rd h' b).drop 0).take _=_
  rw [r,List.drop_zero,List.take_length]
 ·show 0+512*1≤(rd h' b).length
  rw [r,List.length_map,l]; exact Nat.le_refl _
theorem openF_spec {a:Option Addr} {l c:Nat} {bs:List UInt8} {h:Heap} {K:Value→Heap→Prop} (B:StrAt h a l bs) (hlc:l≤c) (hl:l≤140737488355328)
  (h1:l % 512≠0∨l=0∨16384<l / 512→K (.tuple #[.pointer none,.int .i64 32]) h)
  (h2:l % 512=0→0<l→l / 512≤16384→∀ q h' D,Fr No h h'→(∀ b,D b→h.size≤b)→DiskF h' D (some q) (fresh (chunks bs))→K (.tuple #[.pointer (some q),.int .i64 0]) h') :
  C.adisk_Open a l c h K:=by
 refine Open_spec (fun _=>0) 1 (fun _ _ h1 _=>absurd h1 (by show ¬ (1≤0); omega)) B hlc hl h1 fun y1 y2 y3 q h' col' f g a=>?_
 refine h2 y1 y2 y3 q h' _ f (fun b hb=>?_) (DiskF.mk a)
 rcases Nat.lt_or_ge b h.size with h1|h1
 ·have e:col' b=0:=g b h1
  omega
 ·exact h1
end Go.Proofs.YtiapingedfnlnaaGreatDoor.Ad
namespace Go.Proofs.YtiapingedfnlnaaGreatDoor.Tm
open Go Go.Proofs Wx Hp W Ad
abbrev Txt := List UInt8
def aget {α:Type}:List (Int×α)→Int→Option α
 | [],_=>none
 | (k,v)::r,x=>bif x == k then some v else aget r x
theorem aget_mem {α:Type} {i:Int} {v:α}:∀ {m:List (Int×α)},aget m i=some v→(i,v) ∈ m
 | [],h=>by cases h
 | (k,u)::r,h=>by
  have h:(bif i == k then some u else aget r i)=some v:=h
  by_cases e:i=k
  ·rw [e,beq_self_eq_true] at h
   cases h
   rw [e]; exact List.mem_cons_self ..
  ·rw [beq_eq_false_iff_ne.mpr e] at h
   exact List.mem_cons_of_mem _ (aget_mem h)
theorem aget_map {α β:Type} (f:α→β) (i:Int):∀ m:List (Int×α),aget (m.map fun p=>(p.1,f p.2)) i=(aget m i).map f
 | []=>rfl
 | (k,u)::r=>by
  show (bif i == k then some (f u) else aget (r.map fun p=>(p.1,f p.2)) i)=(bif i == k then some u else aget r i).map f
  rw [aget_map f i r]
  cases i == k <;> rfl
def mm {α:Type} (f:α→Value) (m:List (Int×α)):MapC:=m.map fun p=>(.i p.1,f p.2)
theorem mget_mm {α:Type} (f:α→Value) (i:Int):∀ m:List (Int×α),mget (mm f m) (.i i)=(aget m i).map f
 | []=>rfl
 | (k,u)::r=>by
  show (bif i == k then some (f u) else mget (mm f r) (.i i))=(bif i == k then some u else aget r i).map f
  rw [mget_mm f i r]
  cases i == k <;> rfl
theorem mm_length {α:Type} (f:α→Value) (m:List (Int×α)):(mm f m).length=m.length:=List.length_map ..
abbrev DI : D := .int .i64
theorem map_lt {d:D} {h:Heap} {r:Nat} {m:MapC} (a:MapAt d h r m):r<h.size:=by
 obtain ⟨es,ck,e,_⟩:=a
 exact (Array.getElem?_eq_some_iff.mp e).1
theorem map_fr {d:D} {h h':Heap} {r:Nat} {m:MapC} {F:Nat→Prop} (a:MapAt d h r m) (f:Fr F h h') (hF:¬ F r):MapAt d h' r m:=by
 have hl:=map_lt a
 obtain ⟨es,ck,e,q⟩:=a
 exact ⟨es,ck,(f.same r hl hF).trans e,q⟩
theorem newM_size (h:Heap):(newM h).size=h.size+1:=by simp [newM]
theorem newM_fr (h:Heap):Fr No h (newM h):=⟨by rw [newM_size]; omega,fun b hb _=>by simp only [newM]; rw [Array.getElem?_push,if_neg (by omega)]⟩
theorem newM_at (h:Heap):MapAt DI (newM h) h.size []:=⟨#[],0,by simp [newM],rfl,(fun p hp=>by cases hp),MapKept.stamped_empty 0⟩
structure TM where
 disk:RD
 put:List (Int×Txt)
 undo:List (Int×Option Txt)
 over:Bool
def TM.N (T:TM):Nat:=T.disk.lasts.length
def TM.get (T:TM) (i:Int):Txt×Int:=match aget T.put i with
 | some b=>(b,0)
 | none=>if T.disk.down=true then ([],30) else (readAt T.disk i.toNat,0)
theorem TM.get_some {T:TM} {i:Int} {b:Txt} (e:aget T.put i=some b):T.get i=(b,0):=by unfold TM.get; rw [e]
theorem TM.get_none {T:TM} {i:Int} (e:aget T.put i=none):T.get i=if T.disk.down=true then ([],30) else (readAt T.disk i.toNat,0):=by unfold TM.get; rw [e]
def TM.read (T:TM) (i:Int):Txt×Int :=
 if T.over=true then ([],61) else if i<0∨i≥T.N then ([],31) else T.get i
structure Sc where
 a:Option Addr
 l:Nat
 c:Nat
def Sc.v (s:Sc):Value := .slice s.a s.l s.c
structure Blk (h:Heap) (col:Nat→Nat) (k:Nat) (x:Sc×Txt):Prop where
 s:StrAt h x.1.a x.1.l x.2
 l:x.2.length=512
 at_:∀ p,x.1.a=some p→p.block<h.size∧col p.block=k
theorem Blk.keep {h h':Heap} {col col':Nat→Nat} {k:Nat} {x:Sc×Txt} {F:Nat→Prop} (b:Blk h col k x) (f:Fr F h h') (g:Ag h.size col col') (hF:∀ b,b<h.size→col b=k→¬ F b):Blk h' col' k x :=
 ⟨StrAt.fr f b.s fun p e=>hF _ (b.at_ p e).1 (b.at_ p e).2,b.l,fun p e=>⟨Nat.lt_of_lt_of_le (b.at_ p e).1 f.size,(g _ (b.at_ p e).1).trans (b.at_ p e).2⟩⟩
structure UR where
 i:Int
 was:Option (Sc×Txt)
 ok:Nat
 w:Nat
 tc:Nat
 ic:Nat
def UR.v (u:UR):Value := .func (.func 188) #[] ⟨[.pointer (some ⟨u.ok,0,none⟩),.pointer (some ⟨u.w,0,none⟩),.pointer (some ⟨u.tc,0,none⟩),.pointer (some ⟨u.ic,0,none⟩)]⟩
def wasV (w:Option (Sc×Txt)):Value:=match w with
 | some x=>x.1.v
 | none => .slice none 0 0
structure Und (h:Heap) (col:Nat→Nat) (tb:Nat) (u:UR):Prop where
 ok:rd h u.ok=[.bool u.was.isSome]
 w:rd h u.w=[wasV u.was]
 tc:rd h u.tc=[.pointer (some ⟨tb,0,none⟩)]
 ic:rd h u.ic=[.int .i64 u.i]
 at_:∀ b,b=u.ok∨b=u.w∨b=u.tc∨b=u.ic→b<h.size∧col b=4
 b:∀ x,u.was=some x→Blk h col 4 x
theorem Und.keep {h h':Heap} {col col':Nat→Nat} {tb:Nat} {u:UR} {F:Nat→Prop} (a:Und h col tb u) (f:Fr F h h') (g:Ag h.size col col') (hF:∀ b,b<h.size→col b=4→¬ F b):Und h' col' tb u:=by
 have k:∀ b,b=u.ok∨b=u.w∨b=u.tc∨b=u.ic→rd h' b=rd h b:=fun b hb=>f.rd (a.at_ b hb).1 (hF b (a.at_ b hb).1 (a.at_ b hb).2)
 exact ⟨(k _ (by simp)).trans a.ok,(k _ (by simp)).trans a.w,(k _ (by simp)).trans a.tc,(k _ (by simp)).trans a.ic,fun b hb=>⟨Nat.lt_of_lt_of_le (a.at_ b hb).1 f.size,(g _ (a.at_ b hb).1).trans (a.at_ b hb).2⟩,fun x e=>(a.b x e).keep f g hF⟩
structure TR where
 tb:Nat
 mb:Nat
 ua:Option Addr
 uc:Nat
 ps:List (Int×(Sc×Txt))
 us:List UR
structure TxC (h:Heap) (col:Nat→Nat) (d:Option Addr) (r:TR) (T:TM):Prop where
 nrm:∀ b,h.size≤b→col b=0
 sc:col r.tb=1
 own:Own h r.tb
 cell:rd h r.tb=[.pointer d,.map (some r.mb),.slice r.ua r.us.length r.uc,.bool false]
 mc:col r.mb=2
 map:MapAt DI h r.mb (mm (fun x=>x.1.v) r.ps)
 un:Sl h 1 r.ua r.us.length r.uc (r.us.map UR.v) (On col 3)
 pok:∀ p ∈ r.ps,Blk h col 4 p.2
 uok:∀ u ∈ r.us,Und h col r.tb u
 put:T.put=r.ps.map fun p=>(p.1,p.2.2)
 undo:T.undo=r.us.map fun u=>(u.i,u.was.map (·.2))
 live:T.over=false
 dk:DiskF h (fun b=>col b=5) d T.disk
 pk:∀ p ∈ T.put,98≤p.1∧p.1<T.N
 ui:∀ u ∈ r.us,98≤u.i∧u.i<T.N
structure TxO (h:Heap) (col:Nat→Nat) (d:Option Addr) (tb:Nat) (T:TM):Prop where
 nrm:∀ b,h.size≤b→col b=0
 sc:col tb=1
 own:Own h tb
 cell:rd h tb=[.pointer d,.map none,.slice none 0 0,.bool true]
 gone:T.put=[]∧T.undo=[]
 over:T.over=true
 dk:DiskF h (fun b=>col b=5) d T.disk
def Tx (h:Heap) (F:Nat→Prop) (t d:Option Addr) (T:TM):Prop :=
 (∃ col r,t=some ⟨r.tb,0,none⟩∧TxC h col d r T∧∀ b,F b↔1≤col b∧col b≤5)∨(∃ col tb,t=some ⟨tb,0,none⟩∧TxO h col d tb T∧∀ b,F b↔1≤col b∧col b≤5)
theorem TxC.keep {h h':Heap} {col col':Nat→Nat} {d:Option Addr} {r:TR} {T:TM} {F:Nat→Prop} (t:TxC h col d r T) (f:Fr F h h') (g:Ag h.size col col') (hz:∀ b,h'.size≤b→col' b=0) (hn:∀ b,h.size≤b→¬ (1≤col' b∧col' b≤5)) (hF:∀ b,b<h.size→1≤col b→col b≤5→¬ F b):TxC h' col' d r T:=by
 have hl:=t.own.lt
 have s1:=t.sc
 have s2:=t.mc
 have ml:=map_lt t.map
 have k4:∀ b,b<h.size→col b=4→¬ F b:=fun b hb e=>hF b hb (by omega) (by omega)
 refine ⟨hz,(g _ hl).trans s1,f.own hl (hF _ hl (by omega) (by omega)) t.own,(f.rd hl (hF _ hl (by omega) (by omega))).trans t.cell,(g _ ml).trans s2,map_fr t.map f (hF _ ml (by omega) (by omega)),?_,
  fun p hp=>(t.pok p hp).keep f g k4,fun u hu=>(t.uok u hu).keep f g k4,t.put,t.undo,t.live,?_,t.pk,t.ui⟩
 ·have s':=Hp.Sl.fr f t.un (fun b hb hk=>hF b hb (by have hk:col b=3:=hk; omega) (by have hk:col b=3:=hk; omega))
  obtain ⟨h1,h2⟩:=s'
  refine ⟨h1,?_⟩
  have ul:=t.un
  revert h2 ul
  cases r.ua with
  | none=>intro h2 _; exact h2
  | some p=>intro h2 ul; obtain ⟨a1,a2,a3,a4⟩:=h2; exact ⟨a1,(g _ ul.lt).trans a2,a3,a4⟩
 ·refine (t.dk.fr f fun b hb=>hF b (t.dk.lt hb) (by have hb:col b=5:=hb; omega) (by have hb:col b=5:=hb; omega)).iff fun b=>?_
  rcases Nat.lt_or_ge b h.size with h1|h1
  ·show col' b=5↔col b=5; rw [g b h1]
  ·have:=hn b h1
   have:=t.nrm b h1
   show col' b=5↔col b=5
   omega
theorem TxO.keep {h h':Heap} {col:Nat→Nat} {d:Option Addr} {tb:Nat} {T:TM} {F:Nat→Prop} (t:TxO h col d tb T) (f:Fr F h h') (hF:∀ b,b<h.size→1≤col b→col b≤5→¬ F b):TxO h' col d tb T:=by
 have hl:=t.own.lt
 have s1:=t.sc
 have hs:=f.size
 exact ⟨fun b hb=>t.nrm b (by omega),s1,f.own hl (hF _ hl (by omega) (by omega)) t.own,(f.rd hl (hF _ hl (by omega) (by omega))).trans t.cell,t.gone,t.over,
  t.dk.fr f fun b hb=>hF b (t.dk.lt hb) (by have hb:col b=5:=hb; omega) (by have hb:col b=5:=hb; omega)⟩
theorem Tx.lt {h:Heap} {F:Nat→Prop} {t d:Option Addr} {T:TM} (x:Tx h F t d T) {b:Nat} (hb:F b):b<h.size:=by
 rcases Nat.lt_or_ge b h.size with h1|h1
 ·exact h1
 ·exfalso
  rcases x with ⟨col,r,_,c,hF⟩|⟨col,tb,_,c,hF⟩
  ·have:=(hF b).mp hb; rw [c.nrm b h1] at this; omega
  ·have:=(hF b).mp hb; rw [c.nrm b h1] at this; omega
theorem Tx.fr {h h':Heap} {F G:Nat→Prop} {t d:Option Addr} {T:TM} (x:Tx h F t d T) (f:Fr G h h') (hG:∀ b,F b→¬ G b):Tx h' F t d T:=by
 have hs:=f.size
 rcases x with ⟨col,r,e,c,hF⟩|⟨col,tb,e,c,hF⟩
 ·exact .inl ⟨col,r,e,c.keep f (Ag.refl _ _) (fun b hb=>c.nrm b (by omega)) (fun b hb y=>by rw [c.nrm b hb] at y; omega) fun b _ h1 h2=>hG b ((hF b).mpr ⟨h1,h2⟩),hF⟩
 ·exact .inr ⟨col,tb,e,c.keep f fun b _ h1 h2=>hG b ((hF b).mpr ⟨h1,h2⟩),hF⟩
theorem Tx.no {h h':Heap} {F:Nat→Prop} {t d:Option Addr} {T:TM} (x:Tx h F t d T) (f:Fr No h h'):Tx h' F t d T:=x.fr f fun _ _ y=>y
theorem Tx.dk {h:Heap} {F:Nat→Prop} {t d:Option Addr} {T:TM} (x:Tx h F t d T):∃ D,DiskF h D d T.disk∧∀ b,D b→F b:=by
 rcases x with ⟨col,r,e,c,hF⟩|⟨col,tb,e,c,hF⟩
 ·exact ⟨_,c.dk,fun b hb=>(hF b).mpr (by have hb:col b=5:=hb; omega)⟩
 ·exact ⟨_,c.dk,fun b hb=>(hF b).mpr (by have hb:col b=5:=hb; omega)⟩
end Go.Proofs.YtiapingedfnlnaaGreatDoor.Tm
namespace Go.Proofs.YtiapingedfnlnaaGreatDoor.Tm
open Go Go.Proofs Wx Hp W Ad
theorem pick_col (D:Nat→Prop) (x y:Nat):∃ c:Nat→Nat,(∀ b,D b→c b=x)∧∀ b,¬ D b→c b=y :=
 ⟨fun b=>@ite _ (D b) (Classical.propDecidable _) x y,fun b h=>if_pos h,fun b h=>if_neg h⟩
theorem Begin_spec {h:Heap} {D:Nat→Prop} {d:Option Addr} {S:RD} {K:Value→Heap→Prop} (a:DiskF h D d S)
  (hK:∀ tb h' F,Fr No h h'→Gw h D h' F→Tx h' F (some ⟨tb,0,none⟩) d ⟨S,[],[],false⟩→K (.pointer (some ⟨tb,0,none⟩)) h'):C.txn_Begin d h K:=by
 refine txn_Begin.ok ?_
 show New _ _ (newM h) _
 refine New.intro fun h3 n3=>?_
 have sm:=newM_size h
 have s3:=n3.size
 have F:=(newM_fr h).new n3
 have e:=n3.rd
 have o:=n3.own
 rw [sm] at e o ⊢
 obtain ⟨c,c1,c2⟩:=pick_col D 5 0
 have hlt:∀ b,D b→b<h.size:=fun b hb=>a.lt hb
 have cz:∀ b,h.size≤b→c b=0:=fun b hb=>c2 b fun x=>by have:=hlt b x; omega
 have cr:∀ b,1≤c b→D b:=fun b x=>by
  by_cases hd:D b
  ·exact hd
  ·rw [c2 b hd] at x; omega
 have cd:∀ b,c b=5↔D b:=fun b=>⟨fun x=>cr b (by omega),c1 b⟩
 obtain ⟨col,k1,k2,k3⟩:∃ col:Nat→Nat,(∀ b,b≠h.size→b≠h.size+1→col b=c b)∧col h.size=2∧col (h.size+1)=1 :=
  ⟨fun b=>if b=h.size then 2 else if b=h.size+1 then 1 else c b,fun b x y=>by show (if _ then _ else if _ then _ else _)=_; rw [if_neg x,if_neg y],if_pos rfl,by show (if _ then _ else if _ then _ else _)=_; rw [if_neg (by omega),if_pos rfl]⟩
 refine hK (h.size+1) h3 (fun b=>1≤col b∧col b≤5) F ⟨fun b hb=>?_,fun b hb=>?_⟩ (.inl ⟨col,⟨h.size+1,h.size,none,0,[],[]⟩,rfl,⟨fun b hb=>?_,k3,o,e,k2,map_fr (newM_at h) n3.fr fun x=>x,Sl.nil _ _ _,fun p hp=>(by cases hp),fun u hu=>(by cases hu),rfl,rfl,rfl,?_,fun p hp=>(by cases hp),fun u hu=>(by cases hu)⟩,fun b=>Iff.rfl⟩)
 ·show 1≤col b∧col b≤5↔D b
  rw [k1 b (by omega) (by omega)]
  exact ⟨fun x=>cr b x.1,fun x=>by rw [c1 b x]; omega⟩
 ·have hb:1≤col b∧col b≤5:=hb
  by_cases x:b=h.size
  ·omega
  ·by_cases y:b=h.size+1
   ·omega
   ·rw [k1 b x y] at hb
    have:=hlt b (cr b hb.1); omega
 ·rw [k1 b (by omega) (by omega)]; exact cz b (by omega)
 ·refine (a.no F).iff fun b=>?_
  show col b=5↔D b
  by_cases x:b=h.size
  ·subst x
   rw [k2]; exact ⟨fun x=>(by omega),fun x=>by have:=hlt _ x; omega⟩
  ·by_cases y:b=h.size+1
   ·subst y
    rw [k3]; exact ⟨fun x=>(by omega),fun x=>by have:=hlt _ x; omega⟩
   ·rw [k1 b x y]; exact cd b
theorem Clone_any {a:Option Addr} {l c:Nat} {bs:List UInt8} {h:Heap} {K:Value→Heap→Prop} (B:StrAt h a l bs) (hl:l≤140737488355328)
  (hK:∀ a' c' h',Fr No h h'→Sl h' 1 a' l c' (bs.map bv) (From h.size)→K (.slice a' l c') h'):C.slices_Clone_byte_byte a l c h K:=Clone_spec B hl hK
theorem Read_spec {h:Heap} {F:Nat→Prop} {t d:Option Addr} {T:TM} {i:Int} {K:Value→Heap→Prop} (x:Tx h F t d T)
  (hK:∀ a l c h',Fr No h h'→l=(T.read i).1.length→Sl h' 1 a l c ((T.read i).1.map bv) (From h.size)→K (.tuple #[.slice a l c,.int .i64 (T.read i).2]) h'):C.txn_Txn_Read t i h K:=by
 rcases x with ⟨col,r,rfl,c,hF⟩|⟨col,tb,rfl,c,hF⟩
 ·refine txn_Txn_Read.ok (os ⟨_,rda c.cell rfl,cf rfl ?_⟩)
  have e0:T.read i=if i<0∨i≥T.N then ([],31) else T.get i:=by
   unfold TM.read; rw [c.live,if_neg (by simp)]
  have bad:(i<0∨i≥T.N)→K (.tuple #[.slice none 0 0,.int .i64 31]) h:=fun hb=>by
   rw [e0,if_pos hb] at hK
   exact hK none 0 0 h (Fr.refl _ _) rfl (Sl.nil _ _ _)
  refine cd (fun hn=>bad (.inl hn)) fun h0=>os ⟨_,rda c.cell rfl,c.dk.blocks ⟨_,rfl,cd (fun hn=>bad (.inr hn)) fun h1=>?_⟩⟩
  have e1:¬ (i<0∨i≥T.N):=by
   rintro (x|x)
   ·exact h0 x
   ·exact h1 x
  rw [e0,if_neg e1] at hK
  unfold txn_Txn_Read.k1
  refine os ⟨_,rda c.cell rfl,_,c.map,?_⟩
  dsimp only
  rw [mget_mm]
  have eput:aget T.put i=(aget r.ps i).map (·.2):=by rw [c.put]; exact aget_map (fun x:Sc×Txt=>x.2) i r.ps
  cases e:aget r.ps i with
  | none =>
   rw [TM.get_none (by rw [eput,e]; rfl)] at hK
   refine ⟨none,0,0,rfl,cf rfl (os ⟨_,rda c.cell rfl,c.dk.read (fun hd=>?_) (fun _ hno=>absurd ⟨by omega,by have:¬ i≥(T.N:Int):=h1; have e:T.N=T.disk.lasts.length:=rfl; omega⟩ hno) fun hd _ _ b h' f s hl=>?_⟩)⟩
   ·rw [if_pos hd] at hK
    exact ⟨_,_,_,_,rfl,hK none 0 0 h (Fr.refl _ _) rfl (Sl.nil _ _ _)⟩
   ·rw [if_neg (by rw [hd]; simp)] at hK
    exact ⟨_,_,_,_,rfl,hK _ 512 512 h' f hl.symm s⟩
  | some x =>
   rw [TM.get_some (b:=x.2) (by rw [eput,e]; rfl)] at hK
   have B:=c.pok _ (aget_mem e)
   have B:Blk h col 4 x:=B
   have hl:x.1.l=512:=by rw [← B.s.1]; exact B.l
   refine ⟨x.1.a,x.1.l,x.1.c,rfl,ct rfl (Clone_any B.s (by omega) fun a' c' h' f s=>⟨_,_,_,rfl,?_⟩)⟩
   exact hK a' x.1.l c' h' f B.s.1.symm s
 ·refine txn_Txn_Read.ok (os ⟨_,rda c.cell rfl,ct rfl ?_⟩)
  have e0:T.read i=([],61):=by unfold TM.read; rw [c.over,if_pos rfl]
  rw [e0] at hK
  exact hK none 0 0 h (Fr.refl _ _) rfl (Sl.nil _ _ _)
end Go.Proofs.YtiapingedfnlnaaGreatDoor.Tm
namespace Go.Proofs.YtiapingedfnlnaaGreatDoor.Spc
open Go Go.Proofs Wx Hp W Ad Tm
theorem readFrom_len {i:Int}:∀ (ps:List (Int×List UInt8)) (b:List UInt8),b.length=512→(∀ p ∈ ps,p.2.length=512)→(readFrom b i ps).length=512
 | [],b,h,_=>h
 | p::r,b,h,hp=>by
  show (readFrom (if p.1=i then p.2 else b) i r).length=512
  refine readFrom_len r _ ?_ fun q hq=>hp q (List.mem_cons_of_mem _ hq)
  split
  ·exact hp p (List.mem_cons_self ..)
  ·exact h
theorem DiskF.readLen {h:Heap} {D:Nat→Prop} {d:Option Addr} {S:RD} (a:DiskF h D d S) {i:Nat} (hi:i<S.lasts.length):(readAt S i).length=512:=by
 obtain ⟨col,⟨b,r,es,_,P⟩,_⟩:=a
 refine readFrom_len _ _ ?_ P.pw
 rw [List.getD_eq_getElem?_getD,List.getElem?_eq_getElem hi]
 exact P.lw _ (List.getElem_mem hi)
theorem Tx.putLen {h:Heap} {F:Nat→Prop} {t d:Option Addr} {T:TM} (x:Tx h F t d T):∀ p ∈ T.put,p.2.length=512:=by
 rcases x with ⟨col,r,_,c,_⟩|⟨col,tb,_,c,_⟩
 ·intro p hp
  rw [c.put] at hp
  obtain ⟨q,hq,rfl⟩:=List.mem_map.mp hp
  exact (c.pok q hq).l
 ·intro p hp
  rw [c.gone.1] at hp; cases hp
theorem Tx.readLen {h:Heap} {F:Nat→Prop} {t d:Option Addr} {T:TM} (x:Tx h F t d T) {i:Int} (e:(T.read i).2=0):(T.read i).1.length=512:=by
 obtain ⟨D,dk,_⟩:=x.dk
 unfold TM.read at e ⊢
 split at e
 ·cases e
 ·rename_i h1
  rw [if_neg h1]
  split at e
  ·cases e
  ·rename_i h2
   rw [if_neg h2]
   cases eg:aget T.put i with
   | some b=>rw [TM.get_some eg]; exact Tx.putLen x _ (aget_mem eg)
   | none =>
    rw [TM.get_none eg] at e ⊢
    split at e
    ·cases e
    ·rename_i h3
     rw [if_neg h3]
     exact DiskF.readLen dk (by have:T.N=T.disk.lasts.length:=rfl; omega)
theorem TM.read_live {T:TM} (h:T.over=false) (i:Int):T.read i=if i<0∨i≥T.N then ([],31) else T.get i:=by
 unfold TM.read
 rw [if_neg (by rw [h]; simp)]
end Go.Proofs.YtiapingedfnlnaaGreatDoor.Spc
namespace Go.Proofs.YtiapingedfnlnaaGreatDoor.Rg
open Go Go.Proofs Wx Hp
theorem ycalls_mono {P:Program} {l:Nat} {args:List Value} {h:Heap} {k k':Value→Heap→Prop} (y:YCalls P l args h k) (hk:∀ v h',k v h'→k' v h'):YCalls P l args h k' :=
 fun w hw=>by
  obtain ⟨fn,tmps,a,b,h1,h2⟩:=y w hw
  exact ⟨fn,tmps,a,b,h1,h2.mono fun _ _ ⟨v,e,r,x⟩=>⟨v,e,r,hk v _ x⟩⟩
theorem loopOn_lt {h:Heap} {l:Nat} {R:Loop} {st:LoopState} {p:Option Code} (o:LoopOn h l R st p):l<h.size:=(Array.getElem?_eq_some_iff.mp o).1
theorem loopOn_fr {F:Nat→Prop} {h h':Heap} {l:Nat} {R:Loop} {st:LoopState} {p:Option Code} (o:LoopOn h l R st p) (f:Fr F h h') (hF:¬ F l):LoopOn h' l R st p:=(f.same l (loopOn_lt o) hF).trans o
theorem setLoop_size (h:Heap) (l:Nat) (R:Loop) (st:LoopState) (p:Option Code):(setLoop h l R st p).size=h.size:=by simp [setLoop]
theorem setLoop_fr (h:Heap) (l:Nat) (R:Loop) (st:LoopState) (p:Option Code):Fr (fun b=>b=l) h (setLoop h l R st p) :=
 ⟨by rw [setLoop_size]; exact Nat.le_refl _,fun b _ hb=>by simp only [setLoop]; rw [Array.getElem?_setIfInBounds_ne fun e=>hb e.symm]⟩
theorem setLoop_on {h:Heap} {l:Nat} (hl:l<h.size) (R:Loop) (st:LoopState) (p:Option Code):LoopOn (setLoop h l R st p) l R st p:=by
 simp [LoopOn,setLoop,hl]
structure Turned (l:Nat) (R:Loop) (st:LoopState) (p:Option Code) (h h':Heap):Prop where
 size:h'.size=h.size
 fr:Fr (fun b=>b=l) h h'
 on:LoopOn h' l R st p
theorem turned {h:Heap} {l:Nat} (hl:l<h.size) (R:Loop) (st:LoopState) (p:Option Code):Turned l R st p h (setLoop h l R st p):=⟨setLoop_size h l R st p,setLoop_fr h l R st p,setLoop_on hl R st p⟩
theorem setL_intro {h:Heap} {l:Nat} {R:Loop} {st:LoopState} {p:Option Code} {k:Heap→Prop} (hl:l<h.size) (H:∀ h',Turned l R st p h h'→k h'):SetL h l R st p k:=H _ (turned hl R st p)
theorem beginL_size (h:Heap) (R:Loop):(beginL h R).size=h.size+2:=by simp [beginL]
theorem beginL_fr (h:Heap) (R:Loop):Fr No h (beginL h R) :=
 ⟨by rw [beginL_size]; omega,fun b hb _=>by simp only [beginL]; rw [Array.getElem?_push,if_neg (by rw [Array.size_push]; omega),Array.getElem?_push,if_neg (by omega)]⟩
theorem beginL_on (h:Heap) (R:Loop):LoopOn (beginL h R) (h.size+1) R .ready none:=by
 simp only [LoopOn,beginL]
 rw [Array.getElem?_push,if_pos (by rw [Array.size_push])]
theorem beginL_d (h:Heap) (R:Loop):(beginL h R)[h.size]?=some (.deferred (some [])):=by
 simp only [beginL]
 rw [Array.getElem?_push,if_neg (by rw [Array.size_push]; omega),Array.getElem?_push,if_pos rfl]
theorem endD_size (h:Heap) (b:Nat):(endD h b).size=h.size:=by simp [endD]
theorem endD_fr (h:Heap) (b:Nat):Fr (fun x=>x=b) h (endD h b) :=
 ⟨by rw [endD_size]; exact Nat.le_refl _,fun c _ hc=>by simp only [endD]; rw [Array.getElem?_setIfInBounds_ne fun e=>hc e.symm]⟩
theorem endD_intro {h:Heap} {b:Nat} {k:Heap→Prop} (hd:h[b]?=some (.deferred (some []))) (H:∀ h',h'.size=h.size→Fr (fun x=>x=b) h h'→k h'):EndD b h k:=⟨hd,H _ (endD_size h b) (endD_fr h b)⟩
theorem pend_none {n r:Prop} {e:Nat→Prop} (h:n):pendX none n r e:=h
theorem pend_ret {n r:Prop} {e:Nat→Prop} (h:r):pendX (some .ret) n r e:=h
end Go.Proofs.YtiapingedfnlnaaGreatDoor.Rg
namespace Go.Proofs.YtiapingedfnlnaaGreatDoor.Bt
open Go Go.Proofs Wx Hp W Rg
def bitAt (bs:List UInt8) (i:Nat):Bool:=(bs.getD (i / 8) 0).toNat.testBit (i % 8)
def setB (n s:Nat) (on:Bool):Nat:=if on=true then n ||| 2 ^ s else n &&& (255 - 2 ^ s)
def putBit (bs:List UInt8) (i:Nat) (on:Bool):List UInt8:=bs.set (i / 8) (UInt8.ofNat (setB (bs.getD (i / 8) 0).toNat (i % 8) on))
theorem putBit_length (bs:List UInt8) (i:Nat) (on:Bool):(putBit bs i on).length=bs.length:=List.length_set
theorem bit_or : ∀ n:Fin 256,∀ s:Fin 8,bitsI .or .u8 (n.val:Int) (IntKind.wrap .u8 (1*2 ^ min (Int.toNat (s.val:Int)) 8))=(setB n.val s.val true:Nat):=by decide +kernel
theorem setB_lt : ∀ n:Fin 256,∀ s:Fin 8,setB n.val s.val true<256∧setB n.val s.val false<256:=by decide +kernel
theorem setB_get : ∀ n:Fin 256,∀ s t:Fin 8,(setB n.val s.val true).testBit t.val=(if t=s then true else n.val.testBit t.val)∧(setB n.val s.val false).testBit t.val=(if t=s then false else n.val.testBit t.val):=by decide +kernel
theorem setB_lt' {n s:Nat} (hn:n<256) (hs:s<8) (on:Bool):setB n s on<256:=by
 cases on
 ·exact (setB_lt ⟨n,hn⟩ ⟨s,hs⟩).2
 ·exact (setB_lt ⟨n,hn⟩ ⟨s,hs⟩).1
theorem setB_get' {n s t:Nat} (hn:n<256) (hs:s<8) (ht:t<8) (on:Bool):(setB n s on).testBit t=if t=s then on else n.testBit t:=by
 have e:((⟨t,ht⟩:Fin 8)=⟨s,hs⟩)=(t=s):=by rw [Fin.mk.injEq]
 have:=setB_get ⟨n,hn⟩ ⟨s,hs⟩ ⟨t,ht⟩
 simp only [Fin.mk.injEq] at this
 cases on
 ·exact this.2
 ·exact this.1
theorem bitAt_putBit (bs:List UInt8) (i j:Nat) (on:Bool) (hi:i<8*bs.length):bitAt (putBit bs i on) j=if j=i then on else bitAt bs j:=by
 have hn:(bs.getD (i / 8) 0).toNat<256:=UInt8.toNat_lt _
 have hl:i / 8<bs.length:=by omega
 unfold bitAt putBit
 by_cases h:j / 8=i / 8
 ·rw [h]
  have:(bs.set (i / 8) (UInt8.ofNat (setB (bs.getD (i / 8) 0).toNat (i % 8) on))).getD (i / 8) 0=UInt8.ofNat (setB (bs.getD (i / 8) 0).toNat (i % 8) on):=by
   rw [List.getD_eq_getElem?_getD,List.getElem?_set_self hl]; rfl
  rw [this,UInt8.toNat_ofNat_of_lt' (setB_lt' hn (by omega) on),setB_get' hn (by omega) (by omega)]
  by_cases e:j=i
  ·rw [if_pos e,if_pos (by omega)]
  ·rw [if_neg e,if_neg (by omega)]
 ·rw [if_neg (by rintro rfl; exact h rfl),List.getD_eq_getElem?_getD,List.getElem?_set_ne (by omega),← List.getD_eq_getElem?_getD]
theorem tdiv8 (n:Nat):Int.tdiv (n:Int) 8=((n / 8:Nat):Int):=rfl
theorem tmod8 (n:Nat):Int.tmod (n:Int) 8=((n % 8:Nat):Int):=rfl
end Go.Proofs.YtiapingedfnlnaaGreatDoor.Bt
namespace Go.Proofs.YtiapingedfnlnaaGreatDoor.Spc
open Go Go.Proofs Wx Hp W Ad Tm Bt
structure G where
 blocks:Nat
 bitmap:Nat
 inodes:Nat
 data:Nat
 count:Nat
def G.v (g:G):List Value:=[.int .i64 g.blocks,.int .i64 g.bitmap,.int .i64 g.inodes,.int .i64 g.data,.int .i64 g.count]
structure G.ok (g:G):Prop where
 b:g.blocks≤1099511627776
 m:g.bitmap≤1099511627776
 i:g.inodes≤1099511627776
 d:g.data≤1099511627776
end Go.Proofs.YtiapingedfnlnaaGreatDoor.Spc
namespace Go.Proofs.YtiapingedfnlnaaGreatDoor.Spc
open Go Go.Proofs Wx Hp W Ad Tm Bt Rg
def geoN (n:Nat):G:=⟨n,98,98+(n+4095) / 4096,98+(n+4095) / 4096+n / 64,8*(n / 64)⟩
theorem geoN_ok {n:Nat} (h:n≤16384):(geoN n).ok:=by
 refine ⟨?_,?_,?_,?_⟩
 ·show n≤_; omega
 ·show 98≤_; omega
 ·show 98+(n+4095) / 4096≤_; omega
 ·show 98+(n+4095) / 4096+n / 64≤_; omega
theorem G.one (g:G):∀ v ∈ g.v,v.oneCell'=true:=by
 intro v hv
 simp only [G.v,List.mem_cons,List.not_mem_nil,or_false] at hv
 rcases hv with rfl|rfl|rfl|rfl|rfl <;> rfl
theorem Geo_spec {n:Nat} {h:Heap} {K:Value→Heap→Prop} (hn:n≤1099511627776) (hK:∀ h',Fr No h h'→K (.agg ⟨(geoN n).v⟩) h'):C.boleref09_Geo n h K:=by
 refine boleref09_Geo.ok ?_
 unfold boleref09_Geo
 have e1:Int.tdiv ((n:Int)+4096 - 1) 4096=(((n+4095) / 4096:Nat):Int):=by
  rw [show (n:Int)+4096 - 1=((n+4095:Nat):Int) by omega]; rfl
 have e2:Int.tdiv (n:Int) 64=((n / 64:Nat):Int):=rfl
 rw [wrap_i64 (n:=(n:Int)+4096) (by omega) (by omega),wrap_i64 (n:=(n:Int)+4096 - 1) (by omega) (by omega),e1,e2,wrap_i64 (n:=(((n+4095) / 4096:Nat):Int)) (by omega) (by omega),
  wrap_i64 (n:=98+(((n+4095) / 4096:Nat):Int)) (by omega) (by omega),wrap_i64 (n:=((n / 64:Nat):Int)) (by omega) (by omega),wrap_i64 (n:=98+(((n+4095) / 4096:Nat):Int)+((n / 64:Nat):Int)) (by omega) (by omega),wrap_i64 (n:=8*((n / 64:Nat):Int)) (by omega) (by omega)]
 rw [show (98:Int)+(((n+4095) / 4096:Nat):Int)=((98+(n+4095) / 4096:Nat):Int) by omega,show ((98+(n+4095) / 4096:Nat):Int)+((n / 64:Nat):Int)=((98+(n+4095) / 4096+n / 64:Nat):Int) by omega,show 8*((n / 64:Nat):Int)=((8*(n / 64):Nat):Int) by omega]
 exact NewRow.intro (cs:=(geoN n).v) rfl (G.one _) rfl fun h3 n3=>⟨(geoN n).v,rfl,cellsAll n3.rd,hK h3 n3.fr⟩
end Go.Proofs.YtiapingedfnlnaaGreatDoor.Spc
namespace Go.Proofs.YtiapingedfnlnaaGreatDoor.Av
open Go Go.Proofs Wx Hp W Ad Tm Bt Spc
def ks (T:TM):List Int:=T.put.map (·.1)
structure Av (n:Nat) (Z:Nat→Txt) (T:TM):Prop where
 live:T.over=false
 N:T.N=n
 z:∀ k:Nat,k<n→T.read k=(Z k,0)
 len:∀ k:Nat,k<n→(Z k).length=512
 keys:(ks T).Nodup
 rng:∀ x ∈ ks T,98≤x∧x<n
structure Dim (n:Nat):Prop where
 lo:128≤n
 hi:n≤16384
theorem Dim.data {n:Nat} (d:Dim n):(geoN n).data=98+(n+4095) / 4096+n / 64∧(geoN n).data<n∧(geoN n).data<4096∧101≤(geoN n).data:=by
 have:=d.lo
 have:=d.hi
 have e:(geoN n).data=98+(n+4095) / 4096+n / 64:=rfl
 omega
def bit (Z:Nat→Txt) (j:Nat):Bool:=bitAt (Z (98+j / 4096)) (j % 4096)
def zeros : Txt:=List.replicate 512 0
end Go.Proofs.YtiapingedfnlnaaGreatDoor.Av
namespace Go.Proofs.YtiapingedfnlnaaGreatDoor.Bm
open Go Go.Proofs Wx Hp W Ad Tm Bt Spc Re Av
def num4 (b:Txt) (p:Nat):Nat:=leN ((b.drop (4*p)).take 4)
theorem num4_lt (b:Txt) (p:Nat):num4 b p<4294967296:=by
 have h:=leN_lt ((b.drop (4*p)).take 4)
 have hl:((b.drop (4*p)).take 4).length≤4:=by rw [List.length_take]; omega
 exact Nat.lt_of_lt_of_le h (Nat.le_trans (Nat.pow_le_pow_right (by decide) hl) (by decide))
def nS : Nat:=16652
def par (s:Nat):Option (Nat×Nat) :=
 if s<10 then none else if s<138 then some (16522,s - 10) else if s<16522 then some (16524+(s - 138) / 128,(s - 138) % 128) else if s<16524 then none else some (16523,s - 16524)
def root (R:List Int) (s:Nat):Int:=if s<10 then R.getD (3+s) 0 else if s=16522 then R.getD 13 0 else R.getD 14 0
def sub (Z:Nat→Txt) (b p:Nat):Nat:=if b=0 then 0 else num4 (Z b) p
def num0 (R:List Int) (s:Nat):Nat:=(root R s).toNat
def num1 (Z:Nat→Txt) (R:List Int) (s:Nat):Nat:=match par s with
 | none=>num0 R s
 | some (q,p)=>sub Z (num0 R q) p
def num (Z:Nat→Txt) (R:List Int) (s:Nat):Nat:=match par s with
 | none=>num0 R s
 | some (q,p)=>sub Z (num1 Z R q) p
theorem par_up {s q p:Nat} (h:par s=some (q,p)) (hs:s<nS):p<128∧((q=16522∧s=10+p)∨(q=16523∧s=16524+p)∨(16524≤q∧q<nS∧s=138+(q - 16524)*128+p)):=by
 unfold par at h
 unfold nS at *
 split at h
 ·cases h
 ·split at h
  ·cases h; omega
  ·split at h
   ·cases h; omega
   ·split at h
    ·cases h
    ·cases h; omega
theorem par_none {s:Nat} (h:par s=none):s<10∨s=16522∨s=16523:=by
 unfold par at h
 split at h
 ·omega
 ·split at h
  ·cases h
  ·split at h
   ·cases h
   ·split at h
    ·omega
    ·cases h
theorem par_table {p:Nat} (_:p<128):par (16524+p)=some (16523,p):=by
 unfold par
 rw [if_neg (by omega),if_neg (by omega),if_neg (by omega),if_neg (by omega),Nat.add_sub_cancel_left]
theorem par_ne {s q p:Nat} (h:par s=some (q,p)) (hs:s<nS):q≠s∧q<nS∧16522≤q:=by
 have a:=par_up h hs
 unfold nS at *
 omega
theorem num_none {Z:Nat→Txt} {R:List Int} {s:Nat} (h:par s=none):num Z R s=(root R s).toNat:=by unfold num; rw [h]; rfl
theorem num1_num {Z:Nat→Txt} {R:List Int} {q:Nat} (hq:16522≤q) (hn:q<nS):num1 Z R q=num Z R q:=by
 unfold num1 num
 rcases Nat.lt_or_ge q 16524 with h|h
 ·have:par q=none:=by unfold par; rw [if_neg (by omega),if_neg (by omega),if_neg (by omega),if_pos h]
  rw [this]
 ·have e:par q=some (16523,q - 16524):=by
   have:=par_table (p:=q - 16524) (by unfold nS at hn; omega)
   rw [show 16524+(q - 16524)=q by omega] at this
   exact this
  rw [e]
  show sub Z (num0 R 16523) _=sub Z (num1 Z R 16523) _
  rfl
theorem num_some {Z:Nat→Txt} {R:List Int} {s q p:Nat} (h:par s=some (q,p)) (hs:s<nS):num Z R s=sub Z (num Z R q) p:=by
 have a:=par_ne h hs
 unfold num
 rw [h]
 show sub Z (num1 Z R q) p=sub Z (num Z R q) p
 rw [num1_num a.2.2 a.2.1]
theorem slots {P:Nat→Prop} (h0:∀ s,s<nS→par s=none→P s) (h1:∀ s q p,s<nS→par s=some (q,p)→P q→P s):∀ s,s<nS→P s:=by
 have two:P 16523:=h0 _ (by decide) (by decide)
 have tab:∀ q,16522≤q→q<nS→P q:=fun q hq hn=>by
  cases e:par q with
  | none=>exact h0 q hn e
  | some x =>
   obtain ⟨q',p⟩:=x
   have:=par_up e hn
   have:q'=16523:=by unfold nS at *; omega
   subst this
   exact h1 q _ p hn e two
 intro s hs
 cases e:par s with
 | none=>exact h0 s hs e
 | some x =>
  obtain ⟨q,p⟩:=x
  have:=par_ne e hs
  exact h1 s q p hs e (tab q this.2.2 this.2.1)
structure Wf (n:Nat) (Z:Nat→Txt) (R:List Int):Prop where
 rl:R.length=15
 rr:∀ i,3≤i→i<15→0≤R.getD i 0
 rng:∀ s,s<nS→num Z R s≠0→(geoN n).data≤num Z R s∧num Z R s<n∧bit Z (num Z R s)=true
 inj:∀ s s',s<nS→s'<nS→num Z R s≠0→num Z R s=num Z R s'→s=s'
end Go.Proofs.YtiapingedfnlnaaGreatDoor.Bm
namespace Go.Proofs.YtiapingedfnlnaaGreatDoor.Bm
open Go Go.Proofs Wx Hp W Ad Tm Bt Spc Re Av
def numM (T:TM) (R:List Int) (s:Nat×Nat) (at_:Int):Int×Txt×Int :=
 if s.1=0 then (R.getD (3+s.2) 0,[],0) else if s.1=1 then (R.getD 13 0,[],0) else if s.1=2 then (R.getD 14 0,[],0) else
  if (T.read at_).2≠0 then (0,[],(T.read at_).2) else ((num4 (T.read at_).1 s.2:Nat),(T.read at_).1,0)
def lookM (g:G) (v:Int):Int:=if v<g.data∨v≥g.blocks then 100 else 0
def walkF (T:TM) (g:G) (R:List Int):List (Nat×Nat)→Int→Int×Int
 | [],a=>(a,0)
 | s::r,a=>if (numM T R s a).2.2≠0 then (0,(numM T R s a).2.2) else if (numM T R s a).1=0 then (0,0) else
   if lookM g (numM T R s a).1≠0 then (0,lookM g (numM T R s a).1) else walkF T g R r (numM T R s a).1
def wayM (k:Nat):List (Nat×Nat):=if k<10 then [(0,k)] else if k<138 then [(1,0),(3,k - 10)] else [(2,0),(3,(k - 138) / 128),(3,(k - 138) % 128)]
def findM (T:TM) (g:G) (R:List Int) (k:Int):Int×Int:=if k<0∨k≥16522 then (0,101) else walkF T g R (wayM k.toNat) 0
def stepOf (s:Nat):Nat×Nat:=if s<10 then (0,s) else if s=16522 then (1,0) else if s=16523 then (2,0) else (3,((par s).getD (0,0)).2)
def path (k:Nat):List Nat:=if k<10 then [k] else if k<138 then [16522,k] else [16523,16524+(k - 138) / 128,k]
def Chain : Option Nat→List Nat→Prop
 | _,[]=>True
 | o,s::r=>s<nS∧(match o with|none=>par s=none|some q=>∃ p,par s=some (q,p))∧s ∉ r∧Chain (some s) r
theorem path_chain {k:Nat} (hk:k<16522):Chain none (path k)∧(path k).map stepOf=wayM k:=by
 unfold path wayM
 by_cases h1:k<10
 ·rw [if_pos h1,if_pos h1]
  refine ⟨⟨by unfold nS; omega,by unfold par; exact if_pos h1,by simp,trivial⟩,?_⟩
  simp only [List.map_cons,List.map_nil,stepOf,if_pos h1]
 ·rw [if_neg h1,if_neg h1]
  by_cases h2:k<138
  ·rw [if_pos h2,if_pos h2]
   have e:par k=some (16522,k - 10):=by unfold par; rw [if_neg h1,if_pos h2]
   refine ⟨⟨by decide,by decide,by simp; omega,by unfold nS; omega,⟨_,e⟩,by simp,trivial⟩,?_⟩
   simp only [List.map_cons,List.map_nil,stepOf,if_neg h1,e]
   rw [if_neg (show ¬ 16522<10 by decide),if_pos trivial,if_neg (by omega),if_neg (by omega)]; rfl
  ·rw [if_neg h2,if_neg h2]
   have e:par k=some (16524+(k - 138) / 128,(k - 138) % 128):=by unfold par; rw [if_neg h1,if_neg h2,if_pos hk]
   have e2:par (16524+(k - 138) / 128)=some (16523,(k - 138) / 128):=par_table (by omega)
   refine ⟨⟨by decide,by decide,by simp; omega,by unfold nS; omega,⟨_,e2⟩,by simp; omega,by unfold nS; omega,⟨_,e⟩,by simp,trivial⟩,?_⟩
   simp only [List.map_cons,List.map_nil,stepOf,if_neg h1,e,e2]
   rw [if_neg (show ¬ 16523<10 by decide),if_neg (show ¬ 16523=16522 by decide),if_pos trivial,if_neg (by omega),if_neg (by omega),if_neg (by omega),if_neg (by omega),if_neg (by omega)]; rfl
theorem root_num {n:Nat} {Z:Nat→Txt} {R:List Int} {s:Nat} (w:Wf n Z R) (hs:s<nS) (h:par s=none):root R s=(num Z R s:Nat):=by
 rw [num_none h]
 have a:=par_none h
 have:0≤root R s:=by
  unfold root
  split
  ·exact w.rr _ (by omega) (by omega)
  ·split
   ·exact w.rr _ (by omega) (by omega)
   ·exact w.rr _ (by omega) (by omega)
 omega
def at_ (Z:Nat→Txt) (R:List Int):Option Nat→Int
 | none=>0
 | some q=>(num Z R q:Nat)
def tabO (Z:Nat→Txt) (R:List Int):Option Nat→Txt
 | none=>[]
 | some q=>Z (num Z R q)
theorem numM_tab (T:TM) (R:List Int) (p:Nat) (a:Int):numM T R (3,p) a=if (T.read a).2≠0 then ((0:Int),([]:Txt),(T.read a).2) else (((num4 (T.read a).1 p:Nat):Int),(T.read a).1,(0:Int)):=rfl
theorem stepOf_table {s q p:Nat} (h:par s=some (q,p)) (hs:s<nS):stepOf s=(3,p):=by
 have b:=par_up h hs
 unfold stepOf
 rw [h,if_neg (by omega),if_neg (by unfold nS at *; omega),if_neg (by unfold nS at *; omega)]; rfl
theorem step_num {n:Nat} {Z:Nat→Txt} {R:List Int} {T:TM} {o:Option Nat} {s:Nat} {r:List Nat} (a:Av n Z T) (w:Wf n Z R) (c:Chain o (s::r)) (ho:∀ q,o=some q→q<nS∧num Z R q≠0) :
  numM T R (stepOf s) (at_ Z R o)=(((num Z R s:Nat):Int),tabO Z R o,0):=by
 obtain ⟨hs,hp,_,_⟩:=c
 cases o with
 | none =>
  have hp:par s=none:=hp
  have e:=root_num w hs hp
  have b:=par_none hp
  rcases b with h1|rfl|rfl
  ·have es:stepOf s=(0,s):=by unfold stepOf; rw [if_pos h1]
   rw [es,← e]
   unfold root
   rw [if_pos h1]; rfl
  ·rw [← e]; rfl
  ·rw [← e]; rfl
 | some q =>
  obtain ⟨p,hp⟩:=hp
  obtain ⟨hq,h0⟩:=ho q rfl
  have ru:=w.rng q hq h0
  rw [stepOf_table hp hs,numM_tab]
  have ez:at_ Z R (some q)=((num Z R q:Nat):Int):=rfl
  rw [ez,a.z _ ru.2.1,if_neg (fun y=>y rfl),num_some hp hs]
  unfold sub
  rw [if_neg h0]; rfl
theorem look_ok {n:Nat} {v:Nat} (h1:(geoN n).data≤v) (h2:v<n):lookM (geoN n) (v:Int)=0:=by
 unfold lookM
 have:(geoN n).blocks=n:=rfl
 rw [if_neg (by omega)]
theorem walkF_ok {n:Nat} {Z:Nat→Txt} {R:List Int} {T:TM} (a:Av n Z T) (w:Wf n Z R):∀ (r:List Nat) (o:Option Nat),Chain o r→(∀ q,o=some q→q<nS∧num Z R q≠0) →
  walkF T (geoN n) R (r.map stepOf) (at_ Z R o)=(((match r.getLast? with|none=>at_ Z R o|some s=>(num Z R s:Nat)):Int),0)
 | [],o,_,_=>rfl
 | s::r,o,c,ho=>by
  have e:=step_num a w c ho
  show walkF T (geoN n) R (stepOf s::r.map stepOf) (at_ Z R o)=_
  unfold walkF
  rw [e]
  simp only
  rw [if_neg (fun y=>y rfl)]
  obtain ⟨hs,_,_,c'⟩:=c
  have below:num Z R s=0→∀ (l:List Nat) (x:Nat),Chain (some x) l→num Z R x=0→∀ y ∈ l,num Z R y=0:=fun _ l=>by
   induction l with
   | nil=>intro x _ _ y hy; cases hy
   | cons y l ih =>
    intro x c h0 z hz
    obtain ⟨h1,⟨p,h2⟩,_,h4⟩:=c
    have hy:num Z R y=0:=by rw [num_some h2 h1,h0]; exact if_pos rfl
    rcases List.mem_cons.mp hz with rfl|hz
    ·exact hy
    ·exact ih y h4 hy z hz
  by_cases h0:num Z R s=0
  ·rw [if_pos (by omega)]
   have hl:(match (s::r).getLast? with|none=>at_ Z R o|some s=>((num Z R s:Nat):Int))=0:=by
    cases hg:(s::r).getLast? with
    | none=>rw [List.getLast?_eq_none_iff] at hg; cases hg
    | some x =>
     have hx:=List.mem_of_getLast? hg
     show ((num Z R x:Nat):Int)=0
     rcases List.mem_cons.mp hx with rfl|hx
     ·omega
     ·rw [below h0 r s c' h0 x hx]; rfl
   rw [hl]
  ·have ru:=w.rng s hs h0
   rw [if_neg (by omega),look_ok ru.1 ru.2.1,if_neg (fun y=>y rfl)]
   have:=walkF_ok a w r (some s) c' fun q e=>by cases e; exact ⟨hs,h0⟩
   have ea:at_ Z R (some s)=((num Z R s:Nat):Int):=rfl
   rw [ea] at this
   rw [this]
   cases r with
   | nil=>rfl
   | cons y r =>
    rw [List.getLast?_cons_cons]
    cases hg:(y::r).getLast? with
    | none=>rw [List.getLast?_eq_none_iff] at hg; cases hg
    | some x=>rfl
theorem path_last (k:Nat):(path k).getLast?=some k:=by
 unfold path
 split
 ·rfl
 ·split <;> rfl
theorem find_ok {n:Nat} {Z:Nat→Txt} {R:List Int} {T:TM} (a:Av n Z T) (w:Wf n Z R) {k:Nat} (hk:k<16522):findM T (geoN n) R k=(((num Z R k:Nat):Int),0):=by
 obtain ⟨c,e⟩:=path_chain hk
 unfold findM
 rw [if_neg (by omega)]
 have:=walkF_ok a w (path k) none c fun q y=>by cases y
 rw [e,path_last] at this
 exact this
end Go.Proofs.YtiapingedfnlnaaGreatDoor.Bm
namespace Go.Proofs.YtiapingedfnlnaaGreatDoor.Bm
open Go Go.Proofs Wx Hp W Ad Tm Spc Re Av
open Hd (ints)
open In (Glo ints_length ints_one)
def stV (s:Nat×Nat):List Value:=[.int .i64 s.1,.int .i64 s.2]
def fileV (t:Option Addr) (g:G) (R:List Int):List Value := .pointer t::(g.v++ints R)
theorem fileV_get {t:Option Addr} {g:G} {R:List Int} {i:Nat} (hi:i<R.length):(fileV t g R)[6+i]?=some (.int .i64 (R.getD i 0)):=by
 rw [Nat.add_comm 6 i]
 show (ints R)[i]?=_
 rw [ints,List.getElem?_map,List.getD_eq_getElem?_getD,List.getElem?_eq_getElem hi]; rfl
theorem cell2 {h:Heap} {b i j:Nat} {xs:List Value} {v:Value} (e:rd h b=xs) (hv:xs[i+j]?=some v):cellOf h (Addr.add (Addr.add ⟨b,0,none⟩ i) j)=some v:=by
 rw [add_mk,add_mk,cellOf_rd,e,Nat.zero_add]; exact hv
theorem look_spec {h:Heap} {fb:Nat} {t:Option Addr} {g:G} {R:List Int} {v:Int} {K:Value→Heap→Prop} (e:rd h fb=fileV t g R) (hK:K (.int .i64 (lookM g v)) h):C.bmap_file_look (some ⟨fb,0,none⟩) v h K:=by
 refine bmap_file_look.ok (os ⟨g.data,cell2 e rfl,cd (fun y=>?_) fun y=>os ⟨g.blocks,cell2 e rfl,cd (fun y2=>?_) fun y2=>?_⟩⟩)
 ·have:lookM g v=100:=by unfold lookM; rw [if_pos (.inl y)]
  rw [this] at hK; exact hK
 ·have:lookM g v=100:=by unfold lookM; rw [if_pos (.inr y2)]
  rw [this] at hK; exact hK
 ·have:lookM g v=0:=by unfold lookM; rw [if_neg (by omega)]
  rw [this] at hK; exact hK
theorem way_spec {k:Int} {h:Heap} {K:Value→Heap→Prop} (h0:0≤k) (h1:k<16522)
  (hK:∀ h',Fr No h h'→h.size<h'.size→rd h' h.size=(wayM k.toNat).flatMap stV→K (.slice (some ⟨h.size,0,none⟩) (wayM k.toNat).length (wayM k.toNat).length) h'):C.bmap_way k h K:=by
 have cast:((k.toNat:Nat):Int)=k:=by omega
 refine bmap_way.ok (cd (fun y=>⟨rfl,New.intro fun h2 n2=>?_⟩) fun y=>cd (fun y2=>⟨rfl,rfl,New.intro fun h2 n2=>?_⟩) fun y2=>⟨rfl,rfl,rfl,New.intro fun h2 n2=>?_⟩)
 ·have e:wayM k.toNat=[(0,k.toNat)]:=by unfold wayM; rw [if_pos (by omega)]
  rw [e] at hK
  refine hK h2 n2.fr n2.own.lt (n2.rd.trans ?_)
  show _=[Value.int .i64 ((0:Nat):Int),.int .i64 ((k.toNat:Nat):Int)]
  rw [cast]; rfl
 ·have e:wayM k.toNat=[(1,0),(3,k.toNat - 10)]:=by unfold wayM; rw [if_neg (by omega),if_pos (by omega)]
  rw [e] at hK
  refine hK h2 n2.fr n2.own.lt (n2.rd.trans ?_)
  show _=[Value.int .i64 ((1:Nat):Int),.int .i64 ((0:Nat):Int),.int .i64 ((3:Nat):Int),.int .i64 ((k.toNat - 10:Nat):Int)]
  rw [wrap_i64 (by omega) (by omega),show ((k.toNat - 10:Nat):Int)=k - 10 by omega]; rfl
 ·have e:wayM k.toNat=[(2,0),(3,(k.toNat - 138) / 128),(3,(k.toNat - 138) % 128)]:=by unfold wayM; rw [if_neg (by omega),if_neg (by omega)]
  rw [e] at hK
  refine hK h2 n2.fr n2.own.lt (n2.rd.trans ?_)
  show _=[Value.int .i64 ((2:Nat):Int),.int .i64 ((0:Nat):Int),.int .i64 ((3:Nat):Int),.int .i64 (((k.toNat - 138) / 128:Nat):Int),.int .i64 ((3:Nat):Int),.int .i64 (((k.toNat - 138) % 128:Nat):Int)]
  have e1:Int.tdiv (k - 138) 128=(((k.toNat - 138) / 128:Nat):Int):=by rw [Int.tdiv_eq_ediv_of_nonneg (by omega)]; omega
  have e2:Int.tmod (k - 138) 128=(((k.toNat - 138) % 128:Nat):Int):=by rw [Int.tmod_eq_emod_of_nonneg (by omega)]; omega
  rw [wrap_i64 (n:=k - 138) (by omega) (by omega),e1,e2,wrap_i64 (by omega) (by omega)]; rfl
def StOk (s:Nat×Nat):Prop:=s.1=0∧s.2<10∨s.1=1∨s.1=2∨s.1=3∧s.2<128
theorem wayM_ok {k:Nat} (h:k<16522):∀ s ∈ wayM k,StOk s:=by
 unfold wayM StOk
 intro s hs
 split at hs
 ·simp at hs; subst hs; exact .inl ⟨rfl,by assumption⟩
 ·split at hs
  ·simp at hs; rcases hs with rfl|rfl
   ·exact .inr (.inl rfl)
   ·exact .inr (.inr (.inr ⟨rfl,by simp only; omega⟩))
  ·simp at hs; rcases hs with rfl|rfl|rfl
   ·exact .inr (.inr (.inl rfl))
   ·exact .inr (.inr (.inr ⟨rfl,by simp only; omega⟩))
   ·exact .inr (.inr (.inr ⟨rfl,by simp only; omega⟩))
def ownI (s:Nat×Nat):Nat:=if s.1=0 then 3+s.2 else if s.1=1 then 13 else 14
theorem ownI_lt {s:Nat×Nat} (hs:StOk s):ownI s<15:=by
 unfold ownI
 rcases hs with ⟨h1,h2⟩|h1|h1|⟨h1,_⟩
 ·rw [if_pos h1]; omega
 ·rw [if_neg (by omega),if_pos h1]; decide
 ·rw [if_neg (by omega),if_neg (by omega)]; decide
 ·rw [if_neg (by omega),if_neg (by omega)]; decide
theorem own_spec {h:Heap} {fb:Nat} {s:Nat×Nat} {K:Value→Heap→Prop} (hs:StOk s) (hK:∀ h',Fr No h h'→K (.pointer (some ⟨fb,6+ownI s,none⟩)) h'):C.bmap_file_own (some ⟨fb,0,none⟩) (stV s) h K:=by
 refine bmap_file_own.ok (New.intro fun h2 n2=>⟨_,rda n2.rd rfl,ce (fun y=>⟨_,rda n2.rd rfl,os ⟨⟨by omega,?_⟩,?_⟩⟩) fun y=>ce (fun y2=>os ?_) fun y2=>os ?_⟩)
 ·rcases hs with ⟨_,h2⟩|h1|h1|⟨h1,_⟩ <;> omega
 ·have e:ownI s=3+s.2:=by unfold ownI; rw [if_pos (by omega)]
  have hK:=hK h2 n2.fr
  rw [add_mk,add_mk,add_mk,Int.toNat_natCast]
  rw [e] at hK
  rw [show 0+6+3+s.2=6+(3+s.2) by omega]; exact hK
 ·have e:ownI s=13:=by unfold ownI; rw [if_neg (by omega),if_pos (by omega)]
  have hK:=hK h2 n2.fr
  rw [e] at hK
  rw [add_mk,add_mk]; exact hK
 ·have e:ownI s=14:=by unfold ownI; rw [if_neg (by omega),if_neg (by omega)]
  have hK:=hK h2 n2.fr
  rw [e] at hK
  rw [add_mk,add_mk]; exact hK
theorem numM_own {T:TM} {R:List Int} {s:Nat×Nat} {a:Int} (hs:StOk s) (h:s.1≠3):numM T R s a=(R.getD (ownI s) 0,[],0):=by
 unfold numM ownI
 rcases hs with ⟨h1,_⟩|h1|h1|⟨h1,_⟩
 ·rw [if_pos h1,if_pos h1]
 ·rw [if_neg (by omega),if_pos h1,if_neg (by omega),if_pos h1]
 ·rw [if_neg (by omega),if_neg (by omega),if_pos h1,if_neg (by omega),if_neg (by omega)]
 ·exact absurd h1 h
theorem numM_t {T:TM} {R:List Int} {s:Nat×Nat} {a:Int} (h:s.1=3):numM T R s a=if (T.read a).2≠0 then ((0:Int),([]:Txt),(T.read a).2) else (((num4 (T.read a).1 s.2:Nat):Int),(T.read a).1,(0:Int)):=by
 unfold numM
 rw [if_neg (by omega),if_neg (by omega),if_neg (by omega)]
theorem number_spec {h:Heap} {F:Nat→Prop} {t d:Option Addr} {T:TM} {g:G} {R:List Int} {fb:Nat} {s:Nat×Nat} {a:Int} {K:Value→Heap→Prop} (gl:In.Glo h) (x:Tx h F t d T) (e:rd h fb=fileV t g R) (hR:R.length=15) (hs:StOk s)
  (hK:∀ sa sl sc h',Fr No h h'→sl=(numM T R s a).2.1.length→Sl h' 1 sa sl sc ((numM T R s a).2.1.map bv) (From h.size)→K (.tuple #[.int .i64 (numM T R s a).1,.slice sa sl sc,.int .i64 (numM T R s a).2.2]) h'):C.bmap_file_number (some ⟨fb,0,none⟩) (stV s) a h K:=by
 have fl:fb<h.size:=rd_lt (o:=0) (by rw [e]; rfl)
 refine bmap_file_number.ok (New.intro fun h2 n2=>⟨_,rda n2.rd rfl,cn (fun y=>⟨stV s,rfl,cellsAll n2.rd,own_spec hs fun h3 f3=>⟨_,rfl,os ?_⟩⟩) fun y=>os ?_⟩)
 ·rw [numM_own hs (by omega)] at hK
  have F3:=n2.fr.no f3
  refine ⟨_,rdc ((F3.rd fl fun y=>y).trans e) (fileV_get (by rw [hR]; exact ownI_lt hs)),hK none 0 0 h3 F3 rfl (Sl.nil _ _ _)⟩
 ·have hs3:s.1=3:=by omega
  have hs2:s.2<128:=by rcases hs with ⟨h1,_⟩|h1|h1|⟨_,h2⟩ <;> omega
  rw [numM_t hs3] at hK
  refine ⟨t,rda ((n2.at_ fl).trans e) rfl,Tm.Read_spec (x.no n2.fr) fun sa sl sc h4 f4 el s4=>⟨_,_,_,_,rfl,cn (fun he=>?_) fun he=>?_⟩⟩
  ·rw [if_pos he] at hK
   exact hK none 0 0 h4 (n2.fr.no f4) rfl (Sl.nil _ _ _)
  ·rw [if_neg (fun y=>y he)] at hK
   have hlen:(T.read a).1.length=512:=Tx.readLen x he
   have F4:=n2.fr.no f4
   have z2:=n2.size
   refine ⟨_,rda ((f4.rd n2.own.lt fun y=>y).trans n2.rd) rfl,?_⟩
   rw [wrap_i64 (n:=4*(s.2:Int)) (by omega) (by omega)]
   refine In.Get_w (gl.no F4) s4.str (by omega) (.inr (.inr (.inl rfl))) (by omega) (by omega) ⟨_,_,rfl,?_⟩
   have en:leN (((T.read a).1.drop (4*(s.2:Int)).toNat).take (Int.toNat 4))=num4 (T.read a).1 s.2:=by
    unfold num4
    rw [show (4*(s.2:Int)).toNat=4*s.2 by omega]; rfl
   rw [en]
   have lt:=num4_lt (T.read a).1 s.2
   rw [wrap_i64 (by omega) (by omega)]
   exact hK sa sl sc h4 F4 el (s4.mono fun b hb=>by have:h2.size≤b:=hb; show h.size≤b; omega)
theorem Find_c1_spec {s:List Value} {a:Int} {sa:Option Addr} {sl sc:Nat} {h:Heap} {K:Value→Heap→Prop} (hK:∀ h',Fr No h h'→K (.tuple #[.int .i64 0,.int .i64 0]) h'):C.bmap_Find_c1 s a sa sl sc h K :=
 bmap_Find_c1.ok (New.intro fun h2 n2=>hK h2 n2.fr)
theorem st_cells {h:Heap} {b:Nat} {l:List (Nat×Nat)} (e:rd h b=l.flatMap stV) {j:Nat} (hj:j<l.length):Cells h (Addr.add ⟨b,0,none⟩ (j*2)) (stV l[j]):=by
 have c:Cells h ⟨b,0,none⟩ (l.flatMap stV):=cellsAll e
 have:=Cells.take (Cells.drop c (j*2)) 2
 rw [flat_part stV 2 l (fun _ _=>rfl) j hj] at this
 exact this
theorem drop_cons {α:Type} {l:List α} {j:Nat} (h:j<l.length):l.drop j=l[j]::l.drop (j+1):=List.drop_eq_getElem_cons h
theorem walkF_cons (T:TM) (g:G) (R:List Int) (s:Nat×Nat) (r:List (Nat×Nat)) (a:Int):walkF T g R (s::r) a=if (numM T R s a).2.2≠0 then (0,(numM T R s a).2.2) else if (numM T R s a).1=0 then (0,0) else
   if lookM g (numM T R s a).1≠0 then (0,lookM g (numM T R s a).1) else walkF T g R r (numM T R s a).1:=rfl
theorem one_st (s:Nat×Nat):∀ v ∈ stV s,v.oneCell'=true:=one2 rfl rfl
theorem walkF_spec {h:Heap} {F:Nat→Prop} {t d:Option Addr} {T:TM} {g:G} {R:List Int} {fb:Nat} {k:Int} {K:Value→Heap→Prop} (gl:In.Glo h) (x:Tx h F t d T) (e:rd h fb=fileV t g R) (hR:R.length=15) (h0:0≤k) (h1:k<16522)
  (hK:∀ h',Fr No h h'→K (.tuple #[.int .i64 (walkF T g R (wayM k.toNat) 0).1,.int .i64 (walkF T g R (wayM k.toNat) 0).2]) h'):C.bmap_file_walk (some ⟨fb,0,none⟩) k (Value.func (.func 204) #[] ⟨[]⟩) h K:=by
 have fl:fb<h.size:=rd_lt (o:=0) (by rw [e]; rfl)
 refine bmap_file_walk.ok (way_spec h0 h1 fun h2 f2 l2 rw2=>⟨_,_,_,rfl,?_⟩)
 have hok:=wayM_ok (k:=k.toNat) (by omega)
 have hwl:(wayM k.toNat).length≤3:=by
  unfold wayM
  split
  ·simp
  ·split <;> simp
 generalize wayM k.toNat=w at hK rw2 hok hwl
 refine ⟨fun a i hh=>∃ j:Nat,i=j∧j≤w.length∧Fr No h2 hh∧walkF T g R (w.drop j) a=walkF T g R w 0,fun _ i _=>((w.length:Int) - i).toNat,⟨0,rfl,Nat.zero_le _,Fr.refl _ _,by rw [List.drop_zero]⟩,?_⟩
 rintro a i h3 ⟨j,rfl,hj,f3,ew⟩
 refine cd (fun hl=>?_) fun hl=>?_
 ·have hj':j<w.length:=by omega
  rw [drop_cons hj',walkF_cons] at ew
  have F3:=f2.no f3
  have hs:=hok _ (List.getElem_mem hj')
  have z3:=f3.size
  rw [Int.toNat_natCast]
  refine ⟨⟨by omega,hl⟩,os ⟨stV w[j],rfl,st_cells ((f3.rd l2 fun y=>y).trans rw2) hj',NewRow.intro rfl (one_st _) rfl fun h5 n5=>⟨stV w[j],rfl,cellsAll n5.rd,?_⟩⟩⟩
  have F5:=F3.new n5
  refine number_spec (gl.no F5) (x.no F5) ((F5.rd fl fun y=>y).trans e) hR hs fun sa sl sc h6 f6 el s6=>⟨_,_,_,_,_,rfl,?_⟩
  have F6:=F5.no f6
  have z5:=n5.size
  have z6:=f6.size
  have wr:IntKind.wrap .i64 ((j:Int)+1)=((j+1:Nat):Int):=by rw [wrap_i64 (by omega) (by omega)]; omega
  have go:∀ h8,Fr No h3 h8→∀ (nu er:Int),(if er≠0 then ((0:Int),er) else if nu=0 then (0,0) else if lookM g nu≠0 then (0,lookM g nu) else walkF T g R (w.drop (j+1)) nu)=walkF T g R w 0 →
    bmap_file_walk.k1 (some ⟨fb,0,none⟩) a (j:Int) h3 (fun a i hh=>∃ j:Nat,i=j∧j≤w.length∧Fr No h2 hh∧walkF T g R (w.drop j) a=walkF T g R w 0) (fun _ i _=>((w.length:Int) - i).toNat) nu er h8 K:=fun h8 f8 nu er e8=>by
   have F8:=F3.no f8
   unfold bmap_file_walk.k1
   refine cn (fun y=>?_) fun y=>ce (fun y2=>?_) fun y2=>?_
   ·rw [if_pos y] at e8; rw [← e8] at hK; exact hK h8 F8
   ·rw [if_neg (fun z=>z y),if_pos y2] at e8; rw [← e8] at hK; exact hK h8 F8
   ·rw [if_neg (fun z=>z y),if_neg y2] at e8
    refine look_spec ((F8.rd fl fun y=>y).trans e) ⟨_,rfl,cn (fun y3=>?_) fun y3=>?_⟩
    ·rw [if_pos y3] at e8; rw [← e8] at hK; exact hK h8 F8
    ·rw [if_neg (fun z=>z y3)] at e8
     rw [wr]
     exact ⟨⟨j+1,rfl,hj',f3.no f8,e8⟩,by show ((w.length:Int) - ((j+1:Nat):Int)).toNat<((w.length:Int) - (j:Int)).toNat; omega⟩
  have F36:Fr No h3 h6:=n5.fr.no f6
  refine ce (fun y=>ce (fun y2=>?_) fun y2=>go h6 F36 _ _ ew) fun y=>go h6 F36 _ _ ew
  rw [if_neg (fun z=>z y),if_pos y2] at ew
  refine ⟨stV w[j],rfl,cellsAll ((f6.rd n5.own.lt fun y=>y).trans n5.rd),Find_c1_spec fun h7 f7=>⟨_,_,rfl,go h7 (F36.no f7) 0 0 ?_⟩⟩
  rw [if_neg (fun z=>z rfl),if_pos rfl]; exact ew
 ·have ej:j=w.length:=by omega
  subst ej
  rw [List.drop_length] at ew
  have ew:(a,(0:Int))=walkF T g R w 0:=ew
  rw [← ew] at hK
  exact hK h3 (f2.no f3)
theorem Find_spec {h:Heap} {F:Nat→Prop} {t d:Option Addr} {T:TM} {g:G} {R:List Int} {k:Int} {K:Value→Heap→Prop} (gl:In.Glo h) (x:Tx h F t d T) (hR:R.length=15)
  (hK:∀ h',Fr No h h'→K (.tuple #[.int .i64 (findM T g R k).1,.int .i64 (findM T g R k).2]) h'):C.bmap_Find t g.v (ints R) k h K:=by
 refine bmap_Find.ok (New.intro fun h2 n2=>New.intro fun h3 n3=>cd (fun y=>?_) fun y=>cd (fun y2=>?_) fun y2=>?_)
 ·have e:findM T g R k=(0,101):=by unfold findM; rw [if_pos (.inl y)]
  rw [e] at hK; exact hK h3 (n2.fr.new n3)
 ·have e:findM T g R k=(0,101):=by unfold findM; rw [if_pos (.inr y2)]
  rw [e] at hK; exact hK h3 (n2.fr.new n3)
 ·have e:findM T g R k=walkF T g R (wayM k.toNat) 0:=by unfold findM; rw [if_neg (by omega)]
  rw [e] at hK
  unfold bmap_Find.k1
  refine ⟨g.v,rfl,cellsAll ((n3.at_ n2.own.lt).trans n2.rd),ints R,by rw [ints_length,hR],cellsAll n3.rd,rfl,by rw [ints_length,hR],New.intro fun h4 n4=>?_⟩
  have F4:=(n2.fr.new n3).new n4
  exact walkF_spec (gl.no F4) (x.no F4) n4.rd hR (by omega) (by omega) fun h5 f5=>⟨_,_,rfl,hK h5 (F4.no f5)⟩
end Go.Proofs.YtiapingedfnlnaaGreatDoor.Bm
namespace Go.Proofs.YtiapingedfnlnaaGreatDoor.Ino
open Go Go.Proofs Wx Hp W Ad Tm Bt Spc Re
open Hd (ints)
open In (z15 mayR encR decA ints_one ints_length ints_eq pairs15 cell15 Glo getR_length encR_length z15_row)
def rblk (g:G) (n:Int):Int:=(g.inodes+n.toNat / 8:Nat)
def rat (n:Int):Nat:=64*(n.toNat % 8)
theorem rat_le (n:Int):rat n+64≤512:=by unfold rat; omega
theorem decA_length (bs:Txt):(decA bs).1.length=15:=by
 unfold decA; split
 ·exact List.length_replicate
 ·split
  ·exact getR_length bs
  ·exact List.length_replicate
def getM (T:TM) (g:G) (n:Int):List Int×Int :=
 if ¬ (1≤n∧n<g.count) then (z15,110) else if (T.read (rblk g n)).2≠0 then (z15,(T.read (rblk g n)).2) else decA (((T.read (rblk g n)).1.drop (rat n)).take 64)
theorem getM_length (T:TM) (g:G) (n:Int):(getM T g n).1.length=15:=by
 unfold getM
 split
 ·exact List.length_replicate
 ·split
  ·exact List.length_replicate
  ·exact decA_length _
structure Cok (g:G):Prop where
 ok:g.ok
 c:g.count≤1099511627776
theorem isInode_spec {g:G} {n:Int} {h:Heap} {K:Value→Heap→Prop} (ok:Cok g) (hK:∀ h',Fr No h h'→K (.bool (decide (1≤n∧n<g.count))) h'):C.inode_isInode g.v n h K:=by
 have:=ok.c
 refine inode_isInode.ok (New.intro fun h2 n2=>⟨_,rda n2.rd rfl,In.within_spec ⟨_,rfl,?_⟩⟩)
 rw [wrap_i64 (by omega) (by omega)]
 have e:(decide (1≤n) && decide (n≤(g.count:Int) - 1))=decide (1≤n∧n<g.count):=by
  rw [Bool.eq_iff_iff,Bool.and_eq_true,decide_eq_true_iff,decide_eq_true_iff,decide_eq_true_iff]
  omega
 rw [e]
 exact hK h2 n2.fr
theorem Record_spec {g:G} {n:Int} {h:Heap} {K:Value→Heap→Prop} (ok:Cok g) (h1:1≤n) (h2:n<g.count) (hK:∀ h',Fr No h h'→K (.tuple #[.int .i64 (rblk g n),.int .i64 (rat n),.int .i64 0]) h'):C.geo_Record g.v n h K:=by
 have c1:=ok.c
 have c2:=ok.ok.i
 refine geo_Record.ok (New.intro fun h2 n2=>cf (decide_eq_false (by omega)) ⟨_,rda n2.rd rfl,cf (decide_eq_false (by omega)) ⟨_,rda n2.rd rfl,?_⟩⟩)
 have hK:=hK h2 n2.fr
 have e1:Int.tdiv n 8=n / 8:=Int.tdiv_eq_ediv_of_nonneg (by omega)
 have e2:Int.tmod n 8=n % 8:=Int.tmod_eq_emod_of_nonneg (by omega)
 rw [e1,e2,wrap_i64 (n:=n / 8) (by omega) (by omega),wrap_i64 (n:=(g.inodes:Int)+n / 8) (by omega) (by omega),wrap_i64 (n:=n % 8*64) (by omega) (by omega)]
 have e3:n % 8*64=((rat n:Nat):Int):=by unfold rat; omega
 have e4:(g.inodes:Int)+n / 8=rblk g n:=by unfold rblk; omega
 rw [e3,e4]; exact hK
theorem place_spec {h:Heap} {F:Nat→Prop} {t d:Option Addr} {T:TM} {g:G} {n:Int} {K:Value→Heap→Prop} (x:Tx h F t d T) (ok:Cok g) (h1:1≤n) (h2:n<g.count)
  (hK:∀ a l c h',Fr No h h'→l=(T.read (rblk g n)).1.length→Sl h' 1 a l c ((T.read (rblk g n)).1.map bv) (From h.size)→K (.tuple #[.int .i64 (rblk g n),.slice a l c,.int .i64 (rat n),.int .i64 (T.read (rblk g n)).2]) h'):C.inode_place t g.v n h K:=by
 refine inode_place.ok (New.intro fun h2' n2=>⟨g.v,rfl,cellsAll n2.rd,Record_spec ok h1 h2 fun h3 f3=>⟨_,_,_,rfl,cn (fun y=>absurd rfl y) fun _=>?_⟩⟩)
 have F3:=n2.fr.no f3
 refine Tm.Read_spec (x.no F3) fun a l c h4 f4 hl s=>⟨_,_,_,_,rfl,?_⟩
 exact hK a l c h4 (F3.no f4) hl (s.mono fun b hb=>Nat.le_trans F3.size hb)
theorem Get_spec {h:Heap} {F:Nat→Prop} {t d:Option Addr} {T:TM} {g:G} {n:Int} {K:Value→Heap→Prop} (gl:In.Glo h) (x:Tx h F t d T) (ok:Cok g)
  (hK:∀ h',Fr No h h'→K (.tuple #[.agg ⟨ints (getM T g n).1⟩,.int .i64 (getM T g n).2]) h'):C.inode_Get t g.v n h K:=by
 have ha:=rat_le n
 refine inode_Get.ok (New.intro fun h2' n2=>New.intro fun h3 n3=>⟨g.v,rfl,cellsAll ((n3.at_ n2.own.lt).trans n2.rd),isInode_spec ok fun h4 f4=>⟨_,rfl,cnot ?_⟩⟩)
 have s2:=n2.size
 have s3:=n3.size
 have f3:Fr No h h3:=n2.fr.new n3
 have F4:=f3.no f4
 have z4:=f4.size
 have row:∀ {h':Heap},Fr No h4 h'→Own h' h2'.size∧(rd h' h2'.size).length=15:=fun f'=>by
  have f34:Fr No h3 _:=f4.no f'
  exact ⟨f34.own n3.own.lt (fun y=>y) n3.own,by rw [f34.rd n3.own.lt fun y=>y,n3.rd]; rfl⟩
 by_cases hn:1≤n∧n<g.count
 ·have e0:getM T g n=if (T.read (rblk g n)).2≠0 then (z15,(T.read (rblk g n)).2) else decA (((T.read (rblk g n)).1.drop (rat n)).take 64):=by unfold getM; rw [if_neg (fun y=>y hn)]
  rw [e0] at hK
  refine ct (decide_eq_true hn) ⟨g.v,rfl,cellsAll ((f4.rd (by omega) fun y=>y).trans ((n3.at_ n2.own.lt).trans n2.rd)),place_spec (x.no F4) ok hn.1 hn.2 fun a l c h6 f6 hl s6=>⟨_,_,_,_,_,_,rfl,cn (fun he=>?_) fun he=>?_⟩⟩
  ·rw [if_pos he] at hK
   obtain ⟨w,l15⟩:=row f6
   exact z15_row (h3:=h) (F4.no f6) (by omega) w l15 hK
  ·rw [if_neg (fun y=>y he)] at hK
   have hlen:(T.read (rblk g n)).1.length=512:=Tx.readLen x he
   have hc:=s6.le
   rw [wrap_i64 (by omega) (by omega)]
   refine ⟨⟨by omega,by omega,by omega⟩,?_⟩
   have B6:=StrAt.cut s6.str hc (i:=(rat n:Int).toNat) (j:=((rat n:Int)+64).toNat) (by omega) (by omega)
   rw [show ((rat n:Int)+64).toNat - (rat n:Int).toNat=64 by omega] at B6 ⊢
   refine In.Decode_spec (gl.no (F4.no f6)) B6 (by omega) fun h8 f8=>⟨_,_,rfl,?_⟩
   rw [show (rat n:Int).toNat=rat n by omega]
   obtain ⟨w,l15⟩:=row (f6.no f8)
   refine PutRow.intro w (by rw [ints_length,decA_length]) (ints_one _) (by omega) fun h9 d9=>⟨_,by rw [ints_length]; exact decA_length _,cellsAll ?_,hK h9 (((F4.no f6).no f8).did d9 fun hl=>by omega)⟩
   rw [d9.rd]; exact put_all _ _ (by rw [ints_length,decA_length,l15])
 ·have e0:getM T g n=(z15,110):=by unfold getM; rw [if_pos hn]
  rw [e0] at hK
  obtain ⟨w,l15⟩:=row (Fr.refl _ _)
  exact cf (decide_eq_false hn) (z15_row (h3:=h) F4 (by omega) w l15 hK)
end Go.Proofs.YtiapingedfnlnaaGreatDoor.Ino
namespace Go.Proofs.YtiapingedfnlnaaGreatDoor.Fi
open Go Go.Proofs Wx Hp W Ad Tm Spc Re Av
open Hd (ints)
open In (Glo ints_length ints_one)
open Ino (getM Cok getM_length)
open Bm (findM)
theorem ints_at {R:List Int} {i:Nat} (hi:i<R.length):(ints R)[i]?=some (.int .i64 (R.getD i 0)):=by
 unfold ints
 rw [List.getElem?_map,List.getD_eq_getElem?_getD,List.getElem?_eq_getElem hi]; rfl
def getF (T:TM) (g:G) (n:Int):List Int×Int:=if (getM T g n).2=0∧(getM T g n).1.getD 0 0=0 then ((getM T g n).1,110) else getM T g n
theorem getF_length (T:TM) (g:G) (n:Int):(getF T g n).1.length=15:=by
 unfold getF
 split <;> exact getM_length T g n
theorem get_spec {h:Heap} {F:Nat→Prop} {t d:Option Addr} {T:TM} {g:G} {n:Int} {K:Value→Heap→Prop} (gl:In.Glo h) (x:Tx h F t d T) (ok:Cok g)
  (hK:∀ h',Fr No h h'→K (.tuple #[.agg ⟨ints (getF T g n).1⟩,.int .i64 (getF T g n).2]) h'):C.file_get t g.v n h K:=by
 have lR:=getM_length T g n
 refine file_get.ok (New.intro fun h2 n2=>New.intro fun h3 n3=>⟨g.v,rfl,cellsAll ((n3.at_ n2.own.lt).trans n2.rd),Ino.Get_spec (gl.no (n2.fr.new n3)) (x.no (n2.fr.new n3)) ok fun h4 f4=>⟨_,_,rfl,NewRow.intro (by rw [ints_length,lR]) (ints_one _) rfl fun h6 n6=>?_⟩⟩)
 have z2:=n2.size
 have z3:=n3.size
 have z4:=f4.size
 have z6:=n6.size
 have F6:Fr No h h6:=((n2.fr.new n3).no f4).new n6
 have w6:Own h6 h2.size:=n6.ow (f4.own (by omega) (fun y=>y) n3.own)
 have l6:(rd h6 h2.size).length=15:=by rw [n6.at_ (by omega),f4.rd (by omega) fun y=>y,n3.rd]; rfl
 have fin:∀ {e:Int} {k:Heap→Prop},getF T g n=((getM T g n).1,e)→(∀ h',K (.tuple #[.agg ⟨ints (getF T g n).1⟩,.int .i64 (getF T g n).2]) h'→K (.tuple #[.agg ⟨ints (getM T g n).1⟩,.int .i64 e]) h'):=fun e h' hk=>by rw [e] at hk; exact hk
 have out:∀ e,getF T g n=((getM T g n).1,e)→∃ cs3:List Value,List.length cs3=15∧Cells h6 ⟨h4.size,0,none⟩ cs3 ∧
   PutRow ⟨h2.size,0,none⟩ cs3 15 h6 fun h7=>∃ res1:List Value,List.length res1=15∧Cells h7 ⟨h2.size,0,none⟩ res1∧K (.tuple #[.agg ⟨res1⟩,.int .i64 e]) h7:=fun e he=>by
  rw [he] at hK
  refine ⟨_,by rw [ints_length,lR],cellsAll n6.rd,PutRow.intro w6 (by rw [ints_length,lR]) (ints_one _) (by omega) fun h7 d7=>⟨_,by rw [ints_length,lR],cellsAll ?_,hK h7 (F6.did d7 fun hl=>by omega)⟩⟩
  rw [d7.rd]; exact put_all _ _ (by rw [ints_length,lR,l6])
 refine ce (fun he=>⟨_,rda n6.rd (ints_at (by rw [lR]; decide)),ce (fun h0=>?_) fun h0=>?_⟩) fun he=>?_
 ·exact out 110 (by unfold getF; rw [if_pos ⟨he,h0⟩])
 ·exact out _ (by unfold getF; rw [if_neg fun y=>h0 y.2])
 ·exact out _ (by unfold getF; rw [if_neg fun y=>he y.1])
def blockM (T:TM) (g:G) (R:List Int) (k:Int):Txt×Int:=if (findM T g R k).2≠0 then ([],(findM T g R k).2) else if (findM T g R k).1=0 then (zeros,0) else T.read (findM T g R k).1
theorem block_spec {h:Heap} {F:Nat→Prop} {t d:Option Addr} {T:TM} {g:G} {R:List Int} {k:Int} {K:Value→Heap→Prop} (gl:In.Glo h) (x:Tx h F t d T) (hR:R.length=15)
  (hK:∀ a l c h',Fr No h h'→l=(blockM T g R k).1.length→Sl h' 1 a l c ((blockM T g R k).1.map bv) (From h.size)→K (.tuple #[.slice a l c,.int .i64 (blockM T g R k).2]) h'):C.file_block t g.v (ints R) k h K:=by
 refine file_block.ok (New.intro fun h2 n2=>New.intro fun h3 n3=>⟨g.v,rfl,cellsAll ((n3.at_ n2.own.lt).trans n2.rd),_,by rw [ints_length,hR],cellsAll n3.rd,?_⟩)
 have z2:=n2.size
 have z3:=n3.size
 have F3:=n2.fr.new n3
 refine Bm.Find_spec (gl.no F3) (x.no F3) hR fun h4 f4=>⟨_,_,rfl,cn (fun he=>?_) fun he=>ce (fun h0=>⟨by decide,New.intro fun h5 n5=>?_⟩) fun h0=>?_⟩
 ·have e0:blockM T g R k=([],(findM T g R k).2):=by unfold blockM; rw [if_pos he]
  rw [e0] at hK
  exact hK none 0 0 h4 (F3.no f4) rfl (Sl.nil _ _ _)
 ·have e0:blockM T g R k=(zeros,0):=by unfold blockM; rw [if_neg (fun y=>y he),if_pos h0]
  rw [e0] at hK
  have z4:=f4.size
  have er:rd h5 h4.size=zeros.map bv:=by rw [n5.rd,zeros,List.map_replicate]; rfl
  have el:(zeros.map bv).length=512:=by rw [List.length_map]; exact List.length_replicate
  refine hK (some ⟨h4.size,0,none⟩) 512 512 h5 ((F3.no f4).new n5) (by exact List.length_replicate.symm) ⟨by rw [el],rfl,?_,n5.own,Nat.le_refl _,?_,?_⟩
  ·show h.size≤h4.size; omega
  ·show ((rd h5 h4.size).drop 0).take _=_
   rw [er,List.drop_zero,List.take_length]
  ·show 0+512*1≤(rd h5 h4.size).length
   rw [er,el]; decide
 ·have e0:blockM T g R k=T.read (findM T g R k).1:=by unfold blockM; rw [if_neg (fun y=>y he),if_neg h0]
  rw [e0] at hK
  have z4:=f4.size
  refine Tm.Read_spec (x.no (F3.no f4)) fun a l c h6 f6 hl s=>⟨_,_,_,_,rfl,hK a l c h6 ((F3.no f4).no f6) hl (s.mono fun b hb=>?_)⟩
  have hb:h4.size≤b:=hb
  show h.size≤b; omega
end Go.Proofs.YtiapingedfnlnaaGreatDoor.Fi
namespace Go.Proofs.YtiapingedfnlnaaGreatDoor.Bm
open Go Go.Proofs Wx Hp W Ad Tm Bt Spc Re Av
def Z0 (L:Txt):Nat→Txt:=fun k=>(L.drop (k*512)).take 512
theorem fresh_av {n:Nat} {L:Txt} (hL:L.length=512*n):Av n (Z0 L) ⟨fresh (chunks L),[],[],false⟩:=by
 have hn:(chunks L).length=n:=by rw [chunks_length,hL]; omega
 refine ⟨rfl,hn,fun k hk=>?_,fun k hk=>by unfold Z0; rw [List.length_take,List.length_drop,hL]; omega,List.nodup_nil,fun x hx=>(by cases hx)⟩
 have hN:TM.N ⟨fresh (chunks L),[],[],false⟩=n:=hn
 rw [TM.read_live rfl,hN,if_neg (by omega),TM.get_none rfl,if_neg (by intro y; cases y)]
 have:readAt (fresh (chunks L)) ((k:Nat):Int).toNat=Z0 L k:=by
  show (chunks L).getD k []=_
  rw [List.getD_eq_getElem?_getD,List.getElem?_eq_getElem (by omega),Option.getD_some,chunks_get]; rfl
 rw [this]
theorem bitAt_chunk (L:Txt) (k t:Nat) (ht:t<4096):bitAt (Z0 L k) t=bitAt L (4096*k+t):=by
 unfold bitAt Z0
 rw [List.getD_eq_getElem?_getD,List.getElem?_take,if_pos (by omega),List.getElem?_drop,← List.getD_eq_getElem?_getD,show k*512+t / 8=(4096*k+t) / 8 by omega,show t % 8=(4096*k+t) % 8 by omega]
end Go.Proofs.YtiapingedfnlnaaGreatDoor.Bm
namespace Go.Proofs.YtiapingedfnlnaaGreatDoor.Fi
open Go Go.Proofs Wx Hp W Ad Tm Spc Re Av Rg
open Hd (ints)
open In (Glo ints_length ints_one)
open Ino (getM Cok getM_length)
open Bm (findM)
def toP (off n a:Nat):Nat:=min 512 ((off+a) % 512+n - a)
def partV (off n a:Nat):List Value:=[.int .i64 ((off+a) / 512:Nat),.int .i64 ((off+a) % 512:Nat),.int .i64 (toP off n a:Nat),.int .i64 (a:Nat)]
def nextA (off n a:Nat):Nat:=a+(toP off n a - (off+a) % 512)
theorem toP_gt {off n a:Nat} (h:a<n):(off+a) % 512<toP off n a∧toP off n a≤512:=by
 unfold toP; omega
theorem nextA_gt {off n a:Nat} (h:a<n):a<nextA off n a∧nextA off n a≤n:=by
 unfold nextA toP; omega
theorem hv_yield {P:Program} {l:Nat} {args:List Value} {h:Heap} {k:Value→Heap→Prop} (y:YCalls P l args h k):HCallsV P (.func (.yield l) #[] #[]) args h k:=y
theorem iter_spec {l cn co:Nat} {off n:Nat} {h:Heap} {K:Value→Heap→Prop} (ho:off+n≤1000000000) (J:Nat→Heap→Prop)
  (hc:∀ a hh,J a hh→rd hh cn=[.int .i64 (n:Nat)]∧rd hh co=[.int .i64 (off:Nat)]∧cn<hh.size∧co<hh.size)
  (hY:∀ a hh h',J a hh→a<n→Fr No hh h'→rd h' hh.size=partV off n a→hh.size<h'.size →
   YCalls Tryz.prog l [.agg ⟨partV off n a⟩] h' fun v h''=>(v = .bool true∧J (nextA off n a) h''∧rd h'' hh.size=rd h' hh.size)∨(v = .bool false∧K (.tuple #[]) h''))
  (h0:J 0 h) (hK:∀ hh,J n hh→K (.tuple #[]) hh):C.file_parts_c1 (.func (.yield l) #[] #[]) (some ⟨cn,0,none⟩) (some ⟨co,0,none⟩) h K:=by
 refine file_parts_c1.ok ⟨fun i hh=>∃ a:Nat,i=a∧a≤n∧J a hh,fun i _=>(n - i).toNat,⟨0,rfl,Nat.zero_le _,h0⟩,?_⟩
 rintro i h2 ⟨a,ei,ha,hJ⟩
 obtain ⟨rn,ro,ln,lo⟩:=hc a h2 hJ
 refine os ⟨_,rdc rn rfl,cd (fun hlt=>?_) fun hlt=>?_⟩
 ·have hlt':a<n:=by omega
  obtain ⟨t1,t2⟩:=toP_gt (off:=off) hlt'
  obtain ⟨x1,x2⟩:=nextA_gt (off:=off) hlt'
  refine os ⟨_,rdc ro rfl,os ⟨_,rdc ro rfl,NewRow.intro rfl (by intro v hv; simp only [List.mem_cons,List.not_mem_nil,or_false] at hv; rcases hv with rfl|rfl|rfl|rfl <;> rfl) rfl fun h4 n4=>?_⟩⟩
  have z4:=n4.size
  have e1:Int.tdiv ((off:Int)+i) 512=((off+a) / 512:Nat):=by rw [Int.tdiv_eq_ediv_of_nonneg (by omega)]; omega
  have e2:Int.tmod ((off:Int)+i) 512=((off+a) % 512:Nat):=by rw [Int.tmod_eq_emod_of_nonneg (by omega)]; omega
  have r4:=n4.rd
  rw [wrap_i64 (n:=(off:Int)+i) (by omega) (by omega),e1,e2,wrap_i64 (by omega) (by omega),ei] at r4
  refine ⟨_,rda r4 rfl,os ⟨_,rdc ((n4.at_ ln).trans rn) rfl,Put.add n4.own (by rw [r4]; show 2<4; decide) fun h5 d5=>?_⟩⟩
  have r5:rd h5 h2.size=partV off n a:=by
   rw [d5.rd,r4]
   have e3:(if (IntKind.wrap .i64 ((IntKind.wrap .i64 ((((off+a) % 512:Nat):Int)+(n:Nat))) - i))<512 then (IntKind.wrap .i64 ((IntKind.wrap .i64 ((((off+a) % 512:Nat):Int)+(n:Nat))) - i)) else 512)=((toP off n a:Nat):Int):=by
    rw [wrap_i64 (n:=(((off+a) % 512:Nat):Int)+(n:Nat)) (by omega) (by omega),wrap_i64 (by omega) (by omega)]
    unfold toP
    split <;> omega
   rw [e3]; rfl
  have f5:Fr No h2 h5:=n4.fr.did d5 fun hl=>by omega
  have z5:=d5.size
  refine ⟨_,rfl,cellsAll r5,hv_yield (ycalls_mono (hY a h2 h5 hJ hlt' f5 r5 (by omega)) fun v h6 hv=>?_)⟩
  rcases hv with ⟨rfl,hJ6,r6⟩|⟨rfl,hk⟩
  ·have r6:=r6.trans r5
   refine ⟨true,rfl,cnot (ct rfl ⟨_,rda r6 rfl,_,rda r6 rfl,?_⟩)⟩
   have e6:IntKind.wrap .i64 (i+(IntKind.wrap .i64 (((toP off n a:Nat):Int) - (((off+a) % 512:Nat):Int))))=((nextA off n a:Nat):Int):=by
    rw [wrap_i64 (n:=((toP off n a:Nat):Int) - _) (by omega) (by omega)]
    unfold nextA at x1 x2 ⊢
    rw [wrap_i64 (by omega) (by omega)]
    omega
   rw [e6]
   exact ⟨⟨_,rfl,x2,hJ6⟩,by show ((n:Int) - ((nextA off n a:Nat):Int)).toNat<((n:Int) - i).toNat; omega⟩
  ·exact ⟨false,rfl,cnot (cf rfl hk)⟩
 ·have:a=n:=by omega
  subst this
  exact hK h2 hJ
theorem cok {n:Nat} (d:Dim n):Cok (geoN n):=⟨geoN_ok d.hi,by have:=d.hi; show 8*(n / 64)≤_; omega⟩
theorem put_e {h:Heap} {eb:Nat} {e0 e:Int} {k:Heap→Prop} (w:Own h eb) (r:rd h eb=[.int .i64 e0]) (H:∀ h',Did eb h h' [.int .i64 e]→k h'):Put ⟨eb,0,none⟩ (.int .i64 e) h k :=
 Put.intro w (by rw [r]; exact Nat.zero_lt_one) fun h' d=>by rw [r] at d; exact H h' d
end Go.Proofs.YtiapingedfnlnaaGreatDoor.Fi
namespace Go.Proofs
open Go Go.Shelf
def Tryz.lays240_ren : Go.Shelf.Ren:=⟨fun|240=>335|276=>346|n=>n,fun|0=>0|4=>4|9=>9|20=>20|70=>401|72=>403|164=>438|5=>5|37=>86|n=>n,fun n=>n⟩
theorem Tryz.lays240 : Lays.n240 Tryz.prog Tryz.lays240_ren where
 mixed:=by kernel_rfl
 f240:=Tryz.func335.trans (congrArg some (by kernel_rfl))
 f276:=Tryz.func346.trans (congrArg some (by kernel_rfl))
 t0:=Tryz.underlying0
 a0:=Tryz.isAgg0
 z0:=Tryz.sizeOf0
 v0:=Tryz.zeroValue0
 t4:=Tryz.underlying4
 a4:=Tryz.isAgg4
 z4:=Tryz.sizeOf4
 v4:=Tryz.zeroValue4
 t9:=Tryz.underlying9
 a9:=Tryz.isAgg9
 z9:=Tryz.sizeOf9
 v9:=Tryz.zeroValue9
 t20:=Tryz.underlying20
 a20:=Tryz.isAgg20
 z20:=Tryz.sizeOf20
 v20:=Tryz.zeroValue20
 t70:=Tryz.underlying401
 a70:=Tryz.isAgg401
 z70:=Tryz.sizeOf401
 v70:=Tryz.zeroValue401
 t72:=Tryz.underlying403
 a72:=Tryz.isAgg403
 z72:=Tryz.sizeOf403
 v72:=Tryz.zeroValue403
 t164:=Tryz.underlying438
 a164:=Tryz.isAgg438
 z164:=Tryz.sizeOf438
 v164:=Tryz.zeroValue438
def Tryz.lays169_ren : Go.Shelf.Ren:=⟨fun|169=>318|n=>n,fun|0=>0|3=>3|9=>9|37=>86|70=>401|72=>403|127=>428|5=>5|n=>n,fun n=>n⟩
theorem Tryz.lays169 : Lays.n169 Tryz.prog Tryz.lays169_ren where
 mixed:=by kernel_rfl
 f169:=Tryz.func318.trans (congrArg some (by kernel_rfl))
 t0:=Tryz.underlying0
 a0:=Tryz.isAgg0
 z0:=Tryz.sizeOf0
 v0:=Tryz.zeroValue0
 t3:=Tryz.underlying3
 a3:=Tryz.isAgg3
 z3:=Tryz.sizeOf3
 v3:=Tryz.zeroValue3
 t9:=Tryz.underlying9
 a9:=Tryz.isAgg9
 z9:=Tryz.sizeOf9
 v9:=Tryz.zeroValue9
 t37:=Tryz.underlying86
 a37:=Tryz.isAgg86
 z37:=Tryz.sizeOf86
 v37:=Tryz.zeroValue86
 t70:=Tryz.underlying401
 a70:=Tryz.isAgg401
 z70:=Tryz.sizeOf401
 v70:=Tryz.zeroValue401
 t72:=Tryz.underlying403
 a72:=Tryz.isAgg403
 z72:=Tryz.sizeOf403
 v72:=Tryz.zeroValue403
 t127:=Tryz.underlying428
 a127:=Tryz.isAgg428
 z127:=Tryz.sizeOf428
 v127:=Tryz.zeroValue428
theorem Tryz.extra240 : Builder.Extra Tryz.prog Tryz.lays240_ren where
 sizeBuilder:=by kernel_rfl
 liesBuilder:=by kernel_rfl
 t5:=Tryz.underlying5
 a5:=Tryz.isAgg5
 z5:=Tryz.sizeOf5
 v5:=Tryz.zeroValue5
 infoByte:=by kernel_rfl
 cellsByte:=by kernel_rfl
 sizeByte:=by kernel_rfl
 neB5:=by decide
theorem Tryz.extra169 : Builder.Extra Tryz.prog Tryz.lays169_ren where
 sizeBuilder:=by kernel_rfl
 liesBuilder:=by kernel_rfl
 t5:=Tryz.underlying5
 a5:=Tryz.isAgg5
 z5:=Tryz.sizeOf5
 v5:=Tryz.zeroValue5
 infoByte:=by kernel_rfl
 cellsByte:=by kernel_rfl
 sizeByte:=by kernel_rfl
 neB5:=by decide
end Go.Proofs
namespace Go.Proofs.YtiapingedfnlnaaGreatDoor.Fi
open Go Go.Proofs Go.Shelf Go.RowKit Wx Hp W Tm
def Bld (h:Heap) (b:Nat) (Q:Nat→Prop) (bs:Txt):Prop :=
 ∃ p v,h[b]?=some (.cells #[p,v] 403 (0,0))∧(p = .pointer none∨p = .pointer (some ⟨b,0,none⟩)) ∧
  ((v = .slice none 0 0∧bs=[])∨∃ g cap cur,v = .slice (some ⟨g,0,none⟩) bs.length cap∧bs≠[]∧Q g∧g≠b∧h[g]?=some (.cells cur 5 (0,0))∧bs.length≤cap∧cur.size=cap∧cur.toList.take bs.length=bs.map bv)
theorem get_lt {h:Heap} {b:Nat} {x:Obj} (e:h[b]?=some x):b<h.size:=by
 rcases Nat.lt_or_ge b h.size with y|y
 ·exact y
 ·rw [Array.getElem?_eq_none y] at e; cases e
theorem Bld.lt {h:Heap} {b:Nat} {Q:Nat→Prop} {bs:Txt} (B:Bld h b Q bs):b<h.size:=by
 obtain ⟨p,v,e,_⟩:=B
 exact get_lt e
theorem Bld.mono {h:Heap} {b:Nat} {Q Q':Nat→Prop} {bs:Txt} (B:Bld h b Q bs) (hq:∀ g,Q g→g<h.size→Q' g):Bld h b Q' bs:=by
 obtain ⟨p,v,e,hp,hv⟩:=B
 refine ⟨p,v,e,hp,?_⟩
 rcases hv with hv|⟨g,cap,cur,h1,h2,h3,h4,h5,h6⟩
 ·exact .inl hv
 ·exact .inr ⟨g,cap,cur,h1,h2,hq g h3 (get_lt h5),h4,h5,h6⟩
theorem Bld.fr {h h':Heap} {b:Nat} {Q:Nat→Prop} {bs:Txt} {G:Nat→Prop} (B:Bld h b Q bs) (f:Fr G h h') (hb:¬ G b) (hg:∀ g,Q g→g<h.size→¬ G g):Bld h' b Q bs:=by
 obtain ⟨p,v,e,hp,hv⟩:=B
 refine ⟨p,v,(f.same b (get_lt e) hb).trans e,hp,?_⟩
 rcases hv with hv|⟨g,cap,cur,h1,h2,h3,h4,h5,h6⟩
 ·exact .inl hv
 ·exact .inr ⟨g,cap,cur,h1,h2,h3,h4,(f.same g (get_lt h5) (hg g h3 (get_lt h5))).trans h5,h6⟩
theorem Bld.new (h:Heap) (Q:Nat→Prop):Bld (newO h [.pointer none,.slice none 0 0] 403) h.size Q [] :=
 ⟨_,_,by rw [get_newO,if_pos rfl],.inl rfl,.inl ⟨rfl,rfl⟩⟩
theorem copyCheck_spec {h:Heap} {b:Nat} {Q:Nat→Prop} {bs:Txt} {K:Value→Heap→Prop} (B:Bld h b Q bs) (hK:∀ h',h'.size=h.size→Fr (fun x=>x=b) h h'→Bld h' b Q bs→K (.tuple #[]) h'):C.strings_Builder_copyCheck (some ⟨b,0,none⟩) h K:=by
 refine ⟨⟨_,Tryz.func335,by kernel_rfl,by kernel_rfl⟩,fun w hw=>?_⟩
 subst hw
 have B0:=B
 obtain ⟨p,v,e,hp,hv⟩:=B
 rcases hp with rfl|rfl
 ·refine (Any.Builder_copyCheck_fresh Tryz.lays240 Tryz.extra240.toX72 b w (by rw [Lib.cell_of_heap e]; rfl) (by simp [World.shape?,e]; rfl) (Lib.frozen_of_heap e 0)).mono ?_
  rintro ex w' ⟨rfl,rfl⟩
  refine ⟨_,rfl,⟨rfl,rfl,rfl⟩,?_⟩
  show K _ (setOf w.heap ⟨b,0,none⟩ (.pointer (some ⟨b,0,none⟩)))
  have f:Fr (fun x=>x=b) w.heap (setOf w.heap ⟨b,0,none⟩ (.pointer (some ⟨b,0,none⟩))):=(Fr.refl _ _).setOf (.inl rfl)
  refine hK _ (size_setOf _ _ _) f ⟨.pointer (some ⟨b,0,none⟩),v,by rw [get_setOf,if_pos rfl,e]; rfl,.inr rfl,?_⟩
  rcases hv with hv|⟨g,cap,cur,h1,h2,h3,h4,h5,h6⟩
  ·exact .inl hv
  ·exact .inr ⟨g,cap,cur,h1,h2,h3,h4,(f.same g (get_lt h5) h4).trans h5,h6⟩
 ·refine (Any.Builder_copyCheck_used Tryz.lays240 Tryz.extra240.toX72 b w (by rw [Lib.cell_of_heap e]; rfl)).mono ?_
  rintro ex w' ⟨rfl,rfl⟩
  exact ⟨_,rfl,.refl _,hK _ rfl (Fr.refl _ _) B0⟩
theorem setRow_get {g:Nat}:∀ (cs:List Value) (h:Heap) (o i:Nat) {c:Array Value} {T:TypeId} {f:Nat×Nat},h[g]?=some (.cells c T f) →
  ∃ c',(setRow h ⟨g,o,none⟩ cs i)[g]?=some (.cells c' T f)∧c'.size=c.size
 | [],_,_,_,c,_,_,e=>⟨c,e,rfl⟩
 | v::r,h,o,i,c,T,f,e=>by
  rw [setRow,add_mk]
  obtain ⟨c',e',s'⟩:=setRow_get r (setOf h ⟨g,o+i,none⟩ v) o (i+1) (c:=c.setIfInBounds (o+i) v) (T:=T) (f:=f) (by rw [get_setOf,if_pos rfl,e]; rfl)
  exact ⟨c',e',by rw [s',Array.size_setIfInBounds]⟩
theorem rd_get {h:Heap} {g:Nat} {c:Array Value} {T:TypeId} {f:Nat×Nat} (e:h[g]?=some (.cells c T f)):rd h g=c.toList:=by unfold Hp.rd; rw [e]
theorem BWrite_spec {h:Heap} {b l c:Nat} {Q:Nat→Prop} {a:Option Addr} {bs new:Txt} {K:Value→Heap→Prop} (B:Bld h b Q bs) (S:StrAt h a l new) (hl:new≠[]) (hs:∀ p,a=some p→p.block≠b) (hm:bs.length+l≤1000000000)
  (hK:∀ v h',Fr (fun x=>x=b∨Q x) h h'→Bld h' b (fun x=>Q x∨h.size≤x) (bs++new)→K (.tuple #[.int .i64 l,v]) h'):C.strings_Builder_Write (some ⟨b,0,none⟩) a l c h K:=by
 refine strings_Builder_Write.ok (copyCheck_spec B fun h2 z2 f2 B2=>⟨rfl,os ?_⟩)
 have S1:=S.1
 have sc:SlCells h2 a (new.map bv):=by
  cases a with
  | none=>exact S.2
  | some p =>
   intro i v hv
   have hc:=S.2 i v hv
   have hb:(p.add i).block=p.block:=by unfold Addr.add; split <;> rfl
   unfold cellOf at hc ⊢
   rw [hb] at hc ⊢
   rw [f2.same p.block ?_ (hs p rfl)]
   ·exact hc
   ·cases e:h[p.block]? with
    | none=>rw [e] at hc; cases hc
    | some x=>exact get_lt e
 obtain ⟨p,v,eb,hp,hv⟩:=B2
 have hbl:=get_lt eb
 have fin:∀ h3 a3 c3 (v3:Value),v3 = .slice a3 (bs.length+l) c3→Fr (fun x=>x≠b∧Q x) h2 h3→(∃ g cap cur,v3 = .slice (some ⟨g,0,none⟩) (bs++new).length cap∧(Q g∨h.size≤g)∧g≠b∧h3[g]?=some (.cells cur 5 (0,0))∧(bs++new).length≤cap∧cur.size=cap∧cur.toList.take (bs++new).length=(bs++new).map bv) →
   onSome (some (⟨b,0,none⟩:Addr)) fun p2=>Wx.Put (Addr.add p2 1) (.slice a3 (bs.length+l) c3) h3 fun h4=>K (.tuple #[.int .i64 (l:Int),.nilIface]) h4:=fun h3 a3 c3 v3 ev f3 hg=>by
  have e3:h3[b]?=some (.cells #[p,v] 403 (0,0)):=(f3.same b hbl fun y=>y.1 rfl).trans eb
  show Wx.Put (Addr.add ⟨b,0,none⟩ 1) _ _ _
  rw [add_mk,← ev]
  obtain ⟨g,cap,cur,h1,h2',h3',h4,h5⟩:=hg
  have f4:Fr (fun x=>x=b∨Q x) h (setOf h3 ⟨b,0+1,none⟩ v3):=((f2.mono fun _ _ y => .inl y).trans f3 fun _ _ y => .inr y.2).setOf (.inl (.inl rfl))
  refine ⟨wr_rd ⟨_,_,_,e3,.inl rfl⟩ (by rw [rd_get e3]; exact Nat.lt_succ_self 1),hK _ _ f4 ⟨p,v3,by rw [get_setOf,if_pos rfl,e3]; rfl,hp,.inr ⟨g,cap,cur,h1,fun y=>hl (List.append_eq_nil_iff.mp y).2,h2',h3',?_,h5⟩⟩⟩
  rw [get_setOf,if_neg h3']; exact h4
 have grow:∀ cap,bs.length+l≤cap→∃ g cap' cur,Value.slice (some ⟨h2.size,0,none⟩) (bs.length+l) cap = .slice (some ⟨g,0,none⟩) (bs++new).length cap'∧(Q g∨h.size≤g)∧g≠b∧(newO h2 (bs.map bv++new.map bv++repCells ti5.zero (cap - (bs.length+l))) 5)[g]?=some (.cells cur 5 (0,0))∧(bs++new).length≤cap'∧cur.size=cap'∧cur.toList.take (bs++new).length=(bs++new).map bv:=fun cap hcap=>by
  have el:(bs++new).length=bs.length+l:=by rw [List.length_append,S1]
  refine ⟨h2.size,cap,_,by rw [el],.inr (by omega),by omega,by rw [get_newO,if_pos rfl],by omega,?_,?_⟩
  ·show (bs.map bv++new.map bv++repCells ti5.zero (cap - (bs.length+l))).length=cap
   rw [List.length_append,List.length_append,List.length_map,List.length_map,length_repCells,S1]
   show bs.length+l+(cap - (bs.length+l))*1=cap
   omega
  ·show (bs.map bv++new.map bv++repCells ti5.zero (cap - (bs.length+l))).take (bs++new).length=_
   rw [← List.map_append,List.take_left' (by rw [List.length_map])]
 have frN:∀ xs,Fr (fun x=>x≠b∧Q x) h2 (newO h2 xs 5):=fun xs=>fr_newO _ _
 have hl':0<l:=by
  rw [← S1]
  exact List.length_pos_iff.mpr hl
 rcases hv with ⟨rfl,rfl⟩|⟨g,cap,cur,rfl,hne,hlo',hgb,eg,hle,hcs,htk⟩
 ·refine ⟨none,0,0,rda (rd_get eb) rfl,new.map bv,by rw [List.length_map,S1,Nat.mul_one],sc,bv_one _,[],rfl,rfl,?_,by omega,fun hc=>by omega,fun hc cap hcap=>?_⟩
  ·show (0+l)*1≤_; omega
  ·have e:([]:Txt).length+l=0+l:=rfl
   exact fin _ _ _ _ (by rw [e]) (frN _) (grow cap hcap)
 ·refine ⟨some ⟨g,0,none⟩,bs.length,cap,rda (rd_get eb) rfl,new.map bv,by rw [List.length_map,S1,Nat.mul_one],sc,bv_one _,bs.map bv,by rw [List.length_map]; exact (Nat.mul_one _).symm,cells_rd (by rw [rd_get eg,List.drop_zero,List.length_map,htk]),?_,by omega,fun hc=>?_,fun hc cap' hcap=>?_⟩
  ·show (bs.length+l)*1≤_; omega
  ·have lc:cur.toList.length=cap:=hcs
   refine ⟨?_,?_⟩
   ·simp only [WrS,add_mk]
    refine wrN_rd ⟨_,_,_,eg,.inl rfl⟩ ?_
    rw [rd_get eg,lc]
    show 0+bs.length*1+l*1≤cap
    omega
   ·simp only [setS,add_mk]
    obtain ⟨c',e',s'⟩:=setRow_get (new.map bv) h2 (0+bs.length*ti5.cells) 0 eg
    have hr:=rd_setRow_at g (0+bs.length*ti5.cells) (new.map bv) h2 0
    rw [rd_get e',rd_get eg,put_eq _ _ _ (by rw [List.length_map,lc,S1]; show 0+bs.length*1+0+l≤cap; omega)] at hr
    have e0:0+bs.length*ti5.cells+0=bs.length:=by show 0+bs.length*1+0=_; omega
    rw [e0,htk] at hr
    refine fin _ _ _ _ rfl ((Fr.refl _ h2).setRow (.inl ⟨hgb,hlo'⟩)) ⟨g,cap,c',by rw [List.length_append,S1],.inl hlo',hgb,e',by rw [List.length_append,S1]; exact hc,s'.trans hcs,?_⟩
    rw [hr,← List.map_append,List.take_left' (by rw [List.length_map])]
  ·exact fin _ _ _ _ rfl (frN _) (grow cap' hcap)
theorem str_row {P:Program} {ρ:Ren} (L:Lays.n169 P ρ) (X:Builder.Extra P ρ) (b g cap:Nat) (p:Value) (cur:Array Value) (l:Txt) (w:World) (hb:w.heap[b]?=some (.cells #[p,.slice (some ⟨g,0,none⟩) l.length cap] (ρ.t 72) (0,0)))
  (hg:w.heap[g]?=some (.cells cur (ρ.t 5) (0,0))) (h0:l≠[]) (hc:l.length≤cap) (hs:cur.size=cap) (hm:l.length≤2000000000) (ht:cur.toList.take l.length=l.map bv) :
  Calls P (ρ.f 169) #[.pointer (some ⟨b,0,none⟩)] w fun e w'=>e = .returned (.string ⟨l.toArray⟩)∧Below g w w':=by
 have hl0:l.length≠0:=by simpa using h0
 have c1:w.drew.cell? ⟨b,1,none⟩=some (.slice (some ⟨g,0,none⟩) l.length cap):=by
  have:w.drew.heap[b]?=some (.cells #[p,.slice (some ⟨g,0,none⟩) l.length cap] (ρ.t 72) (0,0)):=hb
  rw [Lib.cell_of_heap this]; rfl
 have hg':w.drew.heap[g]?=some (.cells cur (ρ.t 5) (0,0)):=hg
 have hSD:(Builtin.unsafeSliceData_ #[(ρ.t 37)] (ρ.t 127) #[.slice (some ⟨g,0,none⟩) l.length cap]).run P w.drew = .ok (.pointer (some ⟨g,0,none⟩)) w.drew :=
  Lib.run_unsafeSliceData_row _ _ _ _ _ _ (by omega)
 have hUS:(Builtin.unsafeString_ #[(ρ.t 127),(ρ.t 3)] (ρ.t 9) #[.pointer (some ⟨g,0,none⟩),.int .i64 l.length]).run P w.drew = .ok (.string ⟨l.toArray⟩) (w.drew.freeze ⟨g,0,none⟩ l.length):=by
  refine Lib.run_unsafeString_row w.drew (ρ.t 127) (ρ.t 3) (ρ.t 9) (ρ.t 5) L.t127 X.cellsByte g cur.size (by simp [World.shape?,hg']) l h0 (by omega) (by omega) fun j x hx=>?_
  rw [add_mk,Nat.zero_add,Lib.cell_of_heap hg']
  have e:=congrArg (·[j]?) ht
  simp only [List.getElem?_map,hx,Option.map_some] at e
  have hj:j<l.length:=(List.getElem?_eq_some_iff.mp hx).1
  rw [List.getElem?_take_of_lt hj,Array.getElem?_toList] at e
  exact e
 have mixed:=L.mixed
 have t72:=L.t72; have a72:=L.a72; have z72:=L.z72; have v72:=L.v72; have u72:=run_underlying L.t72
 have t70:=L.t70; have a70:=L.a70; have z70:=L.z70; have v70:=L.v70; have u70:=run_underlying L.t70
 have t37:=L.t37; have a37:=L.a37; have z37:=L.z37; have v37:=L.v37; have u37:=run_underlying L.t37
 have t127:=L.t127; have a127:=L.a127; have z127:=L.z127; have v127:=L.v127; have u127:=run_underlying L.t127
 have t3:=L.t3; have a3:=L.a3; have z3:=L.z3; have v3:=L.v3; have u3:=run_underlying L.t3
 have t9:=L.t9; have a9:=L.a9; have z9:=L.z9; have v9:=L.v9; have u9:=run_underlying L.t9
 have t5:=X.t5; have a5:=X.a5; have z5:=X.z5; have v5:=X.v5; have u5:=run_underlying X.t5
 go_enter L.f169,Body.n169_ntmps ρ
 go_wp2
 go_region_o
 all_goals (go_wp2; go_ret; exact ⟨rfl,Lib.below_freeze (Below.drew (Below.refl g w)) (p:=⟨g,0,none⟩) (Nat.le_refl _) _⟩)
theorem BString_spec {h:Heap} {b lo:Nat} {bs:Txt} {K:Value→Heap→Prop} (B:Bld h b (fun x=>lo≤x) bs) (hm:bs.length≤2000000000)
  (hK:∀ h',Fr (fun x=>lo≤x) h h'→K (.string (mkStr bs)) h'):C.strings_Builder_String (some ⟨b,0,none⟩) h K:=by
 refine ⟨⟨_,Tryz.func318,by kernel_rfl,by kernel_rfl⟩,fun w hw=>?_⟩
 subst hw
 obtain ⟨p,v,eb,hp,hv⟩:=B
 rcases hv with ⟨rfl,rfl⟩|⟨g,cap,cur,rfl,hne,hlo',hgb,eg,hle,hcs,htk⟩
 ·exact (Any.Builder_String_nil Tryz.lays169 Tryz.extra169 w.heap.size b p w eb).mono fun e w' ⟨h1,k⟩=>⟨_,h1,⟨k.os,k.tape,k.output⟩,hK w'.heap ⟨k.size,fun x hx _=>k.block x hx⟩⟩
 ·exact (str_row Tryz.lays169 Tryz.extra169 b g cap p cur bs w eb eg hne hle hcs hm htk).mono fun e w' ⟨h1,k⟩=>⟨_,h1,⟨k.os,k.tape,k.output⟩,hK w'.heap ⟨k.size,fun x hx hF=>k.block x (by have hF:¬ lo≤x:=hF; omega)⟩⟩
end Go.Proofs.YtiapingedfnlnaaGreatDoor.Fi
namespace Go.Proofs.YtiapingedfnlnaaGreatDoor.Fi
open Go Go.Proofs Wx Hp W Ad Tm Spc Re Av Rg
open Hd (ints)
open In (Glo ints_length ints_one mayR decA)
open Ino (getM Cok getM_length)
open Bm (findM)
theorem getM_may {T:TM} {g:G} {n:Int} (h:(getM T g n).2=0):mayR (getM T g n).1=true:=by
 unfold getM at h ⊢
 split
 ·rename_i y; rw [if_pos y] at h; exact absurd h (by decide)
 ·rename_i y
  rw [if_neg y] at h
  split
  ·rename_i z; rw [if_pos z] at h; exact absurd h z
  ·rename_i z
   rw [if_neg z] at h
   unfold decA at h ⊢
   split
   ·rename_i w; rw [if_pos w] at h; exact absurd h (by decide)
   ·rename_i w
    rw [if_neg w] at h
    split
    ·rename_i v
     unfold In.decOk at v
     rw [Bool.and_eq_true] at v; exact v.2
    ·rename_i v
     rw [if_neg v] at h; exact absurd h (by decide)
theorem getF_may {T:TM} {g:G} {n:Int} (h:(getF T g n).2=0):getF T g n=getM T g n∧(getM T g n).2=0∧mayR (getM T g n).1=true∧(getM T g n).1.getD 0 0≠0:=by
 unfold getF at h ⊢
 split
 ·rename_i y; rw [if_pos y] at h; exact absurd (show (110:Int)=0 from h) (by decide)
 ·rename_i y
  rw [if_neg y] at h
  exact ⟨rfl,h,getM_may h,fun z=>y ⟨h,z⟩⟩
theorem getF_size {T:TM} {g:G} {n:Int} (h:(getF T g n).2=0):0≤(getF T g n).1.getD 2 0∧(getF T g n).1.getD 2 0≤8459264:=by
 obtain ⟨e,_,m,_⟩:=getF_may h
 rw [e]
 obtain ⟨_,_,_,_,a,b,_⟩:=In.mayR_bounds (getM_length T g n) m
 exact ⟨a,b⟩
theorem blockM_len {h:Heap} {F:Nat→Prop} {t d:Option Addr} {T:TM} {g:G} {R:List Int} {k:Int} (x:Tx h F t d T) (e:(blockM T g R k).2=0):(blockM T g R k).1.length=512:=by
 unfold blockM at e ⊢
 split
 ·rename_i y; rw [if_pos y] at e; exact absurd e y
 ·rename_i y
  rw [if_neg y] at e
  split
  ·exact List.length_replicate
  ·rename_i z
   rw [if_neg z] at e
   exact Tx.readLen x e
def readGo (T:TM) (g:G) (R:List Int) (off n:Nat):Nat→Nat→Txt→Txt×Int
 | 0,_,s=>(s,0)
 | k+1,a,s=>if n≤a then (s,0) else if (blockM T g R ((off+a) / 512:Nat)).2≠0 then ([],(blockM T g R ((off+a) / 512:Nat)).2) else
   readGo T g R off n k (nextA off n a) (s++((blockM T g R ((off+a) / 512:Nat)).1.drop ((off+a) % 512)).take (toP off n a - (off+a) % 512))
theorem readGo_end {T:TM} {g:G} {R:List Int} {off n a:Nat} {s:Txt} (h:n≤a):∀ k,readGo T g R off n k a s=(s,0)
 | 0=>rfl
 | k+1=>by unfold readGo; rw [if_pos h]
def readM (T:TM) (g:G) (i off size:Int):Txt×Int:=if off<0∨size<0 then ([],1) else if (getF T g i).2≠0 then ([],(getF T g i).2) else if off≥(getF T g i).1.getD 2 0 then ([],0) else
 readGo T g (getF T g i).1 off.toNat (min size ((getF T g i).1.getD 2 0 - off)).toNat (min size ((getF T g i).1.getD 2 0 - off)).toNat 0 []
theorem New_bld {h:Heap} {Q:Nat→Prop} {k:Heap→Prop} (H:∀ h',Newly h h' [.pointer none,.slice none 0 0]→Bld h' h.size Q []→k h'):New [.pointer none,.slice none 0 0] 403 h k :=
 H _ ⟨size_newO _ _ _,fr_newO _ _,own_newO_at _ _ _,rd_newO_at _ _ _⟩ (Bld.new h Q)
theorem loop_lt {h:Heap} {l:Nat} {R:Loop} {st:LoopState} {p:Option Code} (o:LoopOn h l R st p):l<h.size:=loopOn_lt o
theorem put_s {h:Heap} {b:Nat} {s:ByteArray} {v:Value} {k:Heap→Prop} (w:Own h b) (r:rd h b=[v]) (H:∀ h',Did b h h' [.string s]→k h'):Put ⟨b,0,none⟩ (.string s) h k :=
 Put.intro w (by rw [r]; exact Nat.zero_lt_one) fun h' d=>by rw [r] at d; exact H h' d
theorem Read_spec {h:Heap} {F:Nat→Prop} {t d:Option Addr} {T:TM} {n:Nat} {i off size:Int} {K:Value→Heap→Prop} (gl:In.Glo h) (dm:Dim n) (x:Tx h F t d T)
  (hK:∀ h',Fr No h h'→K (.tuple #[.string (mkStr (readM T (geoN n) i off size).1),.int .i64 (readM T (geoN n) i off size).2]) h'):C.file_Read t (geoN n).v i off size h K:=by
 refine file_Read.ok (New.intro fun h2 n2=>New.intro fun h3 n3=>New.intro fun h4 n4=>New.intro fun h5 n5=>?_)
 have z2:=n2.size
 have z3:=n3.size
 have z4:=n4.size
 have z5:=n5.size
 have F5:Fr No h h5:=((n2.fr.new n3).new n4).new n5
 have os5:Own h5 h3.size:=n5.ow n4.own
 have rs5:rd h5 h3.size=[.string (mkStr [])]:=(n5.at_ (by omega)).trans n4.rd
 -- what ends the call ahead of the loop
 have ret:∀ e hh,Fr No h hh→Own hh h3.size→rd hh h3.size=[.string (mkStr [])]→Own hh h4.size→rd hh h4.size=[.int .i64 0]→readM T (geoN n) i off size=([],e) →
   Put ⟨h3.size,0,none⟩ (.string (mkStr [])) hh fun h6=>Put ⟨h4.size,0,none⟩ (.int .i64 e) h6 fun h7=>∃ (res1:ByteArray),cellOf h7 ⟨h3.size,0,none⟩=some (.string res1) ∧
    ∃ (res2:Int),cellOf h7 ⟨h4.size,0,none⟩=some (.int .i64 res2)∧K (.tuple #[.string res1,.int .i64 res2]) h7:=fun e hh f o1 r1 o2 r2 he=>by
  rw [he] at hK
  refine put_s o1 r1 fun h6 d6=>put_e (d6.ow o2) ((d6.at_ o2.lt (by omega)).trans r2) fun h7 d7=>⟨_,rdc ((d7.at_ d6.own.lt (by omega)).trans d6.rd) rfl,_,rdc d7.rd rfl,hK h7 ((f.did d6 fun hl=>by omega).did d7 fun hl=>by omega)⟩
 refine cd (fun hneg=>ret 1 h5 F5 os5 rs5 n5.own n5.rd (by unfold readM; rw [if_pos (.inl hneg)])) fun ho=>cd (fun hneg=>ret 1 h5 F5 os5 rs5 n5.own n5.rd (by unfold readM; rw [if_pos (.inr hneg)])) fun hz=>?_
 unfold file_Read.k1
 have rt5:rd h5 h.size=[.pointer t]:=(n5.at_ (by omega)).trans ((n4.at_ (by omega)).trans ((n3.at_ (by omega)).trans n2.rd))
 have rg5:rd h5 h2.size=(geoN n).v:=(n5.at_ (by omega)).trans ((n4.at_ (by omega)).trans n3.rd)
 have lR:=getF_length T (geoN n) i
 refine ⟨t,rdc rt5 rfl,(geoN n).v,rfl,cellsAll rg5,get_spec (gl.no F5) (x.no F5) (cok dm) fun h11 f11=>⟨_,_,rfl,NewRow.intro (by rw [ints_length,lR]) (ints_one _) rfl fun h13 n13=>?_⟩⟩
 have z11:=f11.size
 have z13:=n13.size
 have F13:Fr No h h13:=(F5.no f11).new n13
 have f513:Fr No h5 h13:=f11.new n13
 have q13:∀ b,b<h5.size→rd h13 b=rd h5 b:=fun b hb=>f513.rd hb fun y=>y
 have w13:∀ b,Own h5 b→Own h13 b:=fun b o=>f513.own o.lt (fun y=>y) o
 refine cn (fun he=>ret _ h13 F13 (w13 _ os5) ((q13 _ (by omega)).trans rs5) (w13 _ n5.own) ((q13 _ (by omega)).trans n5.rd) (by unfold readM; rw [if_neg (by omega),if_pos he])) fun he=>?_
 obtain ⟨R0,R1⟩:=getF_size he
 refine ⟨_,rda n13.rd (ints_at (by rw [lR]; decide)),cd (fun hge=>ret _ h13 F13 (w13 _ os5) ((q13 _ (by omega)).trans rs5) (w13 _ n5.own) ((q13 _ (by omega)).trans n5.rd) (by unfold readM; rw [if_neg (by omega),if_neg (fun y=>y he),if_pos hge])) fun hlt=>?_⟩
 have hlt:¬ off≥(getF T (geoN n) i).1.getD 2 0:=hlt
 have er:readM T (geoN n) i off size=readGo T (geoN n) (getF T (geoN n) i).1 off.toNat (min size ((getF T (geoN n) i).1.getD 2 0 - off)).toNat (min size ((getF T (geoN n) i).1.getD 2 0 - off)).toNat 0 []:=by
  unfold readM; rw [if_neg (by omega),if_neg (fun y=>y he),if_neg hlt]
 rw [er] at hK
 clear ret er he
 obtain ⟨ofs,eo⟩:∃ k:Nat,off=k:=⟨off.toNat,by omega⟩
 obtain ⟨m,em⟩:∃ k:Nat,min size ((getF T (geoN n) i).1.getD 2 0 - off)=k:=⟨(min size ((getF T (geoN n) i).1.getD 2 0 - off)).toNat,by omega⟩
 rw [em,Int.toNat_natCast,eo,Int.toNat_natCast] at hK
 have hb:ofs+m≤8459264:=by omega
 generalize hR:(getF T (geoN n) i).1=R at hK lR n13 R0 R1 hlt em hb ⊢
 refine New_bld (Q:=fun x=>h13.size+5≤x) fun h18 n18 B18=>⟨_,rda ((n18.at_ (by omega)).trans n13.rd) (ints_at (by rw [lR]; decide)),?_⟩
 have z18:=n18.size
 have emn:(if (IntKind.wrap .i64 (R.getD (0+2) 0 - off))<size then (IntKind.wrap .i64 (R.getD (0+2) 0 - off)) else size)=(m:Int):=by
  have e2:R.getD (0+2) 0=R.getD 2 0:=rfl
  rw [e2,wrap_i64 (by omega) (by omega)]
  split <;> omega
 rw [emn,eo]
 refine file_parts.ok (New.intro fun h19a n19a=>New.intro fun h19 n19=>⟨_,rfl,fun L rounds=>?_⟩)
 have z19a:=n19a.size
 have z19:=n19.size
 have eb:h19.size=h13.size+3:=by omega
 have hc1:h18.size=h13.size+1:=by omega
 have hc2:h19a.size=h13.size+2:=by omega
 have F19:Fr No h h19:=((F13.new n18).new n19a).new n19
 have Fb:=beginL_fr h19 L
 have on0:=beginL_on h19 L
 have d0:=beginL_d h19 L
 have zb:(beginL h19 L).size=h13.size+5:=by rw [beginL_size]; omega
 have F0:Fr No h (beginL h19 L):=F19.no Fb
 have f13b:Fr No h13 (beginL h19 L):=((n18.fr.new n19a).new n19).no Fb
 have qb:∀ b,b<h13.size→rd (beginL h19 L) b=rd h13 b:=fun b hb=>f13b.rd hb fun y=>y
 have wb:∀ b,Own h13 b→Own (beginL h19 L) b:=fun b o=>f13b.own o.lt (fun y=>y) o
 have rt:rd (beginL h19 L) h.size=[.pointer t]:=(qb _ (by omega)).trans ((q13 _ (by omega)).trans rt5)
 have rg:rd (beginL h19 L) h2.size=(geoN n).v:=(qb _ (by omega)).trans ((q13 _ (by omega)).trans rg5)
 have rs:rd (beginL h19 L) h3.size=[.string (mkStr [])]:=(qb _ (by omega)).trans ((q13 _ (by omega)).trans rs5)
 have re:rd (beginL h19 L) h4.size=[.int .i64 0]:=(qb _ (by omega)).trans ((q13 _ (by omega)).trans n5.rd)
 have os:Own (beginL h19 L) h3.size:=wb _ (w13 _ os5)
 have oe:Own (beginL h19 L) h4.size:=wb _ (w13 _ n5.own)
 have rx:rd (beginL h19 L) h11.size=ints R:=(qb _ (by omega)).trans n13.rd
 have rco:rd (beginL h19 L) h18.size=[.int .i64 (ofs:Int)]:=(Fb.rd (by omega) fun y=>y).trans ((n19.at_ (by omega)).trans n19a.rd)
 have rcn:rd (beginL h19 L) h19a.size=[.int .i64 (m:Int)]:=(Fb.rd (by omega) fun y=>y).trans n19.rd
 have Bb:Bld (beginL h19 L) h13.size (fun x=>h13.size+5≤x) []:=B18.fr (((Fr.refl No h18).new n19a).new n19 |>.no Fb) (fun y=>y) fun _ _ _ y=>y
 have glb:=gl.no F0
 generalize hbe:beginL h19 L=hb0 at *
 have el:h19.size+1=h13.size+4:=by omega
 rw [el] at rounds on0 ⊢
 rw [eb] at d0 ⊢
 rw [hc1] at rco
 rw [hc2] at rcn
 rw [hc2,hc1]
 have xb:=x.no F0
 show C.file_parts_c1 (.func (.yield (h13.size+4)) #[] #[]) (some ⟨h13.size+2,0,none⟩) (some ⟨h13.size+1,0,none⟩) hb0 _
 -- leaving the loop
 have leave:∀ (v:Txt) (e:Int) (h26:Heap) (st:Option Code),Fr (fun b=>b=h13.size∨b=h13.size+4∨b=h3.size∨b=h4.size) hb0 h26→rd h26 h3.size=[.string (mkStr v)]→rd h26 h4.size=[.int .i64 e] →
   (∀ h',Fr No h h'→K (.tuple #[.string (mkStr v),.int .i64 e]) h') →
   EndD (h13.size+3) h26 fun h33=>∃ (res9:ByteArray),cellOf h33 ⟨h3.size,0,none⟩=some (.string res9)∧∃ (res10:Int),cellOf h33 ⟨h4.size,0,none⟩=some (.int .i64 res10)∧K (.tuple #[.string res9,.int .i64 res10]) h33:=fun v e h26 st f26 r1 r2 hk=>by
  have z26:=f26.size
  refine endD_intro ((f26.same _ (by omega) (by omega)).trans d0) fun h33 z33 f33=>?_
  refine ⟨_,rdc ((f33.rd (by omega) (by omega)).trans r1) rfl,_,rdc ((f33.rd (by omega) (by omega)).trans r2) rfl,hk h33 ?_⟩
  exact ((F0.trans f26 fun b hb y=>by omega).trans f33 fun b hb y=>by omega)
 refine iter_spec (off:=ofs) (n:=m) (by omega) (fun a hh=>Fr (fun b=>b=h13.size∨b=h13.size+4) hb0 hh∧LoopOn hh (h13.size+4) L .ready none∧∃ s k,Bld hh h13.size (fun x=>h13.size+5≤x) s∧s.length=a∧m≤a+k∧readGo T (geoN n) R ofs m m 0 []=readGo T (geoN n) R ofs m k a s) (fun a hh J=>?_) (fun a hh h' J ha f' r' l'=>?_) ⟨Fr.refl _ _,on0,[],m,Bb,rfl,by omega,rfl⟩ fun hh J=>?_
 ·obtain ⟨f,_⟩:=J
  have:=f.size
  exact ⟨(f.rd (by omega) (by omega)).trans rcn,(f.rd (by omega) (by omega)).trans rco,by omega,by omega⟩
 · -- a round
  obtain ⟨f,on,s,k,B,ls,hk,eq⟩:=J
  have zf:=f.size
  have zf':=f'.size
  obtain ⟨k,rfl⟩:∃ k',k=k'+1:=⟨k - 1,by omega⟩
  refine rounds (partV ofs m a) h' _ (loopOn_fr on f' fun y=>y) (NewRow.intro rfl (by intro v hv; simp only [partV,List.mem_cons,List.not_mem_nil,or_false] at hv; rcases hv with rfl|rfl|rfl|rfl <;> rfl) rfl fun h22 n22=>⟨loopOn_fr (loopOn_fr on f' fun y=>y) n22.fr fun y=>y,setL_intro (by have:=n22.size; omega) fun h23 t23=>?_⟩)
  have z22:=n22.size
  have z23:=t23.size
  have f23:Fr (fun b=>b=h13.size∨b=h13.size+4) hb0 h23:=((f.no f').new n22).trans t23.fr fun b hb y => .inr y
  have q23:∀ b,b<hb0.size→b≠h13.size→b≠h13.size+4→rd h23 b=rd hb0 b:=fun b hb h1 h2=>f23.rd hb fun y=>y.elim h1 h2
  have r23:rd h23 h'.size=partV ofs m a:=(t23.fr.rd (by omega) (by omega)).trans n22.rd
  have fh23:Fr No h h23:=F0.trans f23 fun b hb y=>by omega
  have B23:Bld h23 h13.size (fun x=>h13.size+5≤x) s:=((B.fr f' (fun y=>y) fun _ _ _ y=>y).fr n22.fr (fun y=>y) fun _ _ _ y=>y).fr t23.fr (by omega) fun g h1 _ y=>by omega
  refine ⟨t,rdc ((q23 _ (by omega) (by omega) (by omega)).trans rt) rfl,(geoN n).v,rfl,cellsAll ((q23 _ (by omega) (by omega) (by omega)).trans rg),_,by rw [ints_length,lR],cellsAll ((q23 _ (by omega) (by omega) (by omega)).trans rx),_,rda r23 rfl,?_⟩
  refine block_spec (gl.no fh23) (x.no fh23) lR fun a1 l1 c1 h24 f24 hl s24=>⟨_,_,_,_,rfl,cn (fun hb=>?_) fun hb=>?_⟩
  · -- it does not read
   have ee:readGo T (geoN n) R ofs m m 0 []=([],(blockM T (geoN n) R ((ofs+a) / 512:Nat)).2):=by
    rw [eq]; unfold readGo; rw [if_neg (by omega),if_pos hb]
   rw [ee] at hK
   have f24':Fr (fun b=>b=h13.size∨b=h13.size+4) hb0 h24:=f23.no f24
   have z24:=f24.size
   have q24:∀ b,b<hb0.size→b≠h13.size→b≠h13.size+4→rd h24 b=rd hb0 b:=fun b hb h1 h2=>f24'.rd hb fun y=>y.elim h1 h2
   have w24:∀ b,Own hb0 b→b≠h13.size→b≠h13.size+4→Own h24 b:=fun b o h1 h2=>f24'.own o.lt (fun y=>y.elim h1 h2) o
   refine put_s (w24 _ os (by omega) (by omega)) ((q24 _ (by omega) (by omega) (by omega)).trans rs) fun h25 d25=>put_e (d25.ow (w24 _ oe (by omega) (by omega))) ((d25.at_ (by omega) (by omega)).trans ((q24 _ (by omega) (by omega) (by omega)).trans re)) fun h26 d26=>?_
   have z25:=d25.size
   have z26:=d26.size
   have on26:LoopOn h26 (h13.size+4) L .busy none:=loopOn_fr (loopOn_fr (loopOn_fr t23.on f24 fun y=>y) d25.fr (by omega)) d26.fr (by omega)
   refine ⟨on26,.inr ⟨rfl,.done,some .ret,setLoop_on (loop_lt on26) L _ _,by decide,?_⟩⟩
   have t27:=turned (loop_lt on26) L .done (some .ret)
   have z27:=t27.size
   refine setL_intro (by omega) fun h34 t34=>leave [] _ h34 none ?_ ?_ ?_ hK
   ·exact ((((f24'.mono fun b _ y=>by omega).trans d25.fr fun b hb y=>by omega).trans d26.fr fun b hb y=>by omega).trans t27.fr fun b hb y=>by omega).trans t34.fr fun b hb y=>by omega
   ·exact (t34.fr.rd (by omega) (by omega)).trans ((t27.fr.rd (by omega) (by omega)).trans ((d26.at_ (by omega) (by omega)).trans d25.rd))
   ·exact (t34.fr.rd (by omega) (by omega)).trans ((t27.fr.rd (by omega) (by omega)).trans d26.rd)
  · -- its bytes are taken
   obtain ⟨t1,t2⟩:=toP_gt (off:=ofs) ha
   have lb:=blockM_len x hb
   have hc:=s24.le
   have z24:=f24.size
   have r24:rd h24 h'.size=partV ofs m a:=(f24.rd (by omega) fun y=>y).trans r23
   refine ⟨_,rda r24 rfl,_,rda r24 rfl,⟨by omega,by omega,by omega⟩,?_⟩
   rw [Int.toNat_natCast,Int.toNat_natCast]
   have S:=StrAt.cut s24.str hc (i:=(ofs+a) % 512) (j:=toP ofs m a) (by omega) (by omega)
   have lnew:(((blockM T (geoN n) R ((ofs+a) / 512:Nat)).1.drop ((ofs+a) % 512)).take (toP ofs m a - (ofs+a) % 512)).length=toP ofs m a - (ofs+a) % 512:=by
    rw [List.length_take,List.length_drop,lb]; omega
   have lhh:=B.lt
   have B24':Bld h24 h13.size (fun x=>h13.size+5≤x∧x<hh.size) s:=((((B.mono (Q':=fun x=>h13.size+5≤x∧x<hh.size) fun g h1 h2=>⟨h1,h2⟩).fr f' (fun y=>y) fun _ _ _ y=>y).fr n22.fr (fun y=>y) fun _ _ _ y=>y).fr t23.fr (by omega) fun g h1 _ y=>by omega).fr f24 (fun y=>y) fun _ _ _ y=>y
   refine BWrite_spec B24' S (fun y=>by rw [y,List.length_nil] at lnew; omega) (fun p hp=>?_) (by omega) fun v h27 f27 B27=>⟨_,_,rfl,?_⟩
   ·obtain ⟨p0,ep,_⟩:=s24.get (by omega)
    subst ep
    obtain ⟨pb,po,sp⟩:=p0
    have esp:sp=none:=s24.2.1
    subst esp
    have hfrom:h23.size≤pb:=s24.2.2.1
    split at hp
    ·cases hp; show pb≠_; omega
    ·cases hp
     show (Addr.add ⟨pb,po,none⟩ _).block≠_
     rw [add_mk]; show pb≠_; omega
   have z27:=f27.size
   have on27:LoopOn h27 (h13.size+4) L .busy none:=loopOn_fr (loopOn_fr t23.on f24 fun y=>y) f27 (by omega)
   have t28:=turned (loop_lt on27) L .ready none
   refine ⟨on27,.inl ⟨rfl,⟨?_,t28.on,_,k,(B27.mono (Q':=fun x=>h13.size+5≤x) fun g h1 _=>by omega).fr t28.fr (by omega) fun g h1 _ y=>by omega,?_,?_,?_⟩,?_⟩⟩
   ·exact ((f23.no f24).trans f27 fun b hb y=>by omega).trans t28.fr fun b hb y => .inr y
   ·rw [List.length_append,lnew,ls]; rfl
   ·have:=(nextA_gt (off:=ofs) ha).1; omega
   ·rw [eq]
    conv=>lhs; unfold readGo
    rw [if_neg (by omega),if_neg (fun y=>y hb)]
   ·have e1:rd (setLoop h27 (h13.size+4) L .ready none) hh.size=rd h27 hh.size:=t28.fr.rd (by omega) (by omega)
    exact e1.trans ((f27.rd (by omega) (by omega)).trans ((f24.rd (by omega) fun y=>y).trans ((t23.fr.rd (by omega) (by omega)).trans (n22.at_ (by omega)))))
 · -- all have come
  obtain ⟨f,on,s,k,B,ls,hk,eq⟩:=J
  rw [readGo_end (Nat.le_refl m)] at eq
  rw [eq] at hK
  have zf:=f.size
  refine ⟨.ready,none,on,by decide,pend_none (setL_intro (by omega) fun h29 t29=>?_)⟩
  have z29:=t29.size
  have f29:Fr (fun b=>b=h13.size∨b=h13.size+4) hb0 h29:=f.trans t29.fr fun b hb y => .inr y
  refine BString_spec (B.fr t29.fr (by omega) fun g h1 _ y=>by omega) (by omega) fun h30 f30=>⟨_,rfl,?_⟩
  have z30:=f30.size
  have f30':Fr (fun b=>b=h13.size∨b=h13.size+4) hb0 h30:=f29.trans f30 fun b hb y=>by omega
  have q30:∀ b,b<hb0.size→b≠h13.size→b≠h13.size+4→rd h30 b=rd hb0 b:=fun b hb h1 h2=>f30'.rd hb fun y=>y.elim h1 h2
  have w30:∀ b,Own hb0 b→b≠h13.size→b≠h13.size+4→Own h30 b:=fun b o h1 h2=>f30'.own o.lt (fun y=>y.elim h1 h2) o
  refine put_s (w30 _ os (by omega) (by omega)) ((q30 _ (by omega) (by omega) (by omega)).trans rs) fun h31 d31=>put_e (d31.ow (w30 _ oe (by omega) (by omega))) ((d31.at_ (by omega) (by omega)).trans ((q30 _ (by omega) (by omega) (by omega)).trans re)) fun h32 d32=>?_
  have z31:=d31.size
  refine leave s 0 h32 none ?_ ((d32.at_ (by omega) (by omega)).trans d31.rd) d32.rd hK
  exact ((f30'.mono fun b _ y=>by omega).trans d31.fr fun b hb y=>by omega).trans d32.fr fun b hb y=>by omega
end Go.Proofs.YtiapingedfnlnaaGreatDoor.Fi
namespace Go.Proofs.YtiapingedfnlnaaGreatDoor.Fi
open Go Go.Proofs Wx Hp W Ad Tm Spc Re Av Rg
open Hd (ints)
open In (Glo ints_length ints_one mayR decA)
open Ino (getM Cok getM_length)
open Bm (findM)
theorem copy_str {elem:TI} (he:elem.cells=1) {b o n m:Nat} {s:ByteArray} {new:Txt} {h:Heap} {k:Nat→Heap→Prop} (hm:min s.size n=m) (hn:s.toList.take m=new) (hl':new.length=m) (w:Own h b) (hl:o+m≤(rd h b).length)
  (H:∀ h',Did b h h' (put (rd h b) o (new.map bv))→k m h'):CopyP elem (some ⟨b,o,none⟩) n (.string s) h k:=by
 subst hm
 subst hn
 refine ⟨by rw [he]; trivial,?_,?_⟩
 ·simp only [WrS,add_mk]; exact wrN_rd w (by omega)
 ·simp only [setS,add_mk]
  exact H _ ⟨Hp.size_setRow _ _ _ _,Fr.setRow (F:=fun x=>x=b) (Or.inl rfl) (Fr.refl _ h),own_setRow w,by rw [rd_setRow_at]; rfl⟩
end Go.Proofs.YtiapingedfnlnaaGreatDoor.Fi
namespace Go.Proofs.YtiapingedfnlnaaGreatDoor.Di
open Go Go.Proofs Ad Tm Bt Spc Av Fi Bm Ino Sk Ss
def openM (T:TM) (g:G) (n:Int):List Int×Int :=
 if (getM T g n).2≠0 then getM T g n else if (getM T g n).1.getD 0 0=0 then ((getM T g n).1,110) else if (getM T g n).1.getD 0 0≠2 then ((getM T g n).1,161) else getM T g n
theorem openM_ok {T:TM} {g:G} {n:Int} (h:(openM T g n).2=0):openM T g n=getM T g n∧(getM T g n).2=0∧(getM T g n).1.getD 0 0=2:=by
 unfold openM at h ⊢
 split
 ·rename_i y; rw [if_pos y] at h; exact absurd h y
 ·rename_i y
  rw [if_neg y] at h
  split
  ·rename_i z; rw [if_pos z] at h; exact absurd (show (110:Int)=0 from h) (by decide)
  ·rename_i z
   rw [if_neg z] at h
   split
   ·rename_i w; rw [if_pos w] at h; exact absurd (show (161:Int)=0 from h) (by decide)
   ·rename_i w; exact ⟨rfl,Classical.byContradiction y,Classical.byContradiction w⟩
theorem openM_length (T:TM) (g:G) (n:Int):(openM T g n).1.length=15:=by
 have l:=getM_length T g n
 unfold openM
 split
 ·exact l
 ·split
  ·exact l
  ·split <;> exact l
structure Leaf where
 index:Nat
 block:Int
 bytes:Tm.Txt
 cells:List E
def leafM (T:TM) (g:G) (R:List Int) (k:Nat):Leaf×Int:=(⟨k,(findM T g R k).1,(blockM T g R k).1,(ans (blockM T g R k).1).1⟩,if (blockM T g R k).2≠0 then (blockM T g R k).2 else (ans (blockM T g R k).1).2)
def leavesGo (T:TM) (g:G) (R:List Int):Nat→Nat→List Leaf×Int
 | 0,_=>([],0)
 | m+1,k=>if (leafM T g R k).2≠0 then ([],(leafM T g R k).2) else ((leafM T g R k).1::(leavesGo T g R m (k+1)).1,(leavesGo T g R m (k+1)).2)
def leavesM (T:TM) (g:G) (R:List Int):List Leaf×Int:=leavesGo T g R (R.getD 2 0 / 512).toNat 0
def cellOfName (l:Leaf) (s:Tm.Txt):Option E:=l.cells.find? fun c=>c.name == s
def seekGo (T:TM) (g:G) (R:List Int) (s:Tm.Txt):Nat→Nat→Option (Leaf×E)×Int
 | 0,_=>(none,160)
 | m+1,k=>if (leafM T g R k).2≠0 then (none,(leafM T g R k).2) else match cellOfName (leafM T g R k).1 s with
  | some c=>(some ((leafM T g R k).1,c),0)
  | none=>seekGo T g R s m (k+1)
def seekM (T:TM) (g:G) (n:Int) (s:Tm.Txt):Option (Leaf×E)×Int :=
 if nameOk s=false then (none,1) else if (openM T g n).2≠0 then (none,(openM T g n).2) else seekGo T g (openM T g n).1 s ((openM T g n).1.getD 2 0 / 512).toNat 0
def findD (T:TM) (g:G) (n:Int) (s:Tm.Txt):Int×Int:=((match (seekM T g n s).1 with
 | some x=>x.2.inode
 | none=>0),(seekM T g n s).2)
def allE (l:List Leaf):List E:=l.flatMap fun x=>x.cells.map fun c=>⟨c.place+16*x.index,c.name,c.inode⟩
end Go.Proofs.YtiapingedfnlnaaGreatDoor.Di
namespace Go.Proofs.YtiapingedfnlnaaGreatDoor.Bm
open Go Go.Proofs Wx Hp W Ad Tm Bt Spc Re Av
open Hd (ints)
open In (Glo ints_length ints_one)
structure Im (n:Nat) (U:Nat→Bool) (L:Txt):Prop where
 len:L.length=512*n
 bits:∀ j,j<4096*((geoN n).inodes - 98)→bitAt L (98*4096+j)=U j
def updU (U:Nat→Bool) (i:Nat):Nat→Bool:=fun j=>if j=i then true else U j
theorem Im.put {n i:Nat} {U:Nat→Bool} {L:Txt} (a:Im n U L) (hn:128≤n∧n<4428) (hi:i<4096*((geoN n).inodes - 98)):Im n (updU U i) (putBit L (98*4096+i) true):=by
 have hle:(geoN n).inodes*512≤n*512:=by show (98+(n+4095) / 4096)*512≤_; omega
 have h98:98≤(geoN n).inodes:=by show 98≤98+_; omega
 refine ⟨(putBit_length ..).trans a.len,fun j hj=>?_⟩
 rw [bitAt_putBit _ _ _ _ (by rw [a.len]; omega)]
 unfold updU
 by_cases h:j=i
 ·rw [if_pos (by omega),if_pos h]
 ·rw [if_neg (by omega),if_neg h,a.bits j hj]
theorem Im.congr {n:Nat} {U U':Nat→Bool} {L:Txt} (a:Im n U L) (h:∀ j,U j=U' j):Im n U' L:=⟨a.len,fun j hj=>(a.bits j hj).trans (h j)⟩
theorem Im.copy {n o:Nat} {U:Nat→Bool} {L ys:Txt} (a:Im n U L) (h1:512*(geoN n).inodes≤o) (h2:o+ys.length≤512*n):Im n U (putU L o ys):=by
 have hl:=a.len
 refine ⟨(putU_length (by omega)).trans hl,fun j hj=>?_⟩
 have h98:98≤(geoN n).inodes:=by show 98≤98+_; omega
 rw [← a.bits j hj]
 unfold bitAt putU
 have hi:(98*4096+j) / 8<o:=by omega
 rw [List.getD_eq_getElem?_getD,List.getD_eq_getElem?_getD,List.append_assoc,List.getElem?_append_left (by rw [List.length_take]; omega),List.getElem?_take,if_pos hi]
theorem Im.bit {n:Nat} {U:Nat→Bool} {L:Txt} (a:Im n U L) (hn:128≤n∧n<4428) {j:Nat} (hj:j<n):Av.bit (Z0 L) j=U j:=by
 have hino:(geoN n).inodes=98+(n+4095) / 4096:=rfl
 rw [← a.bits j (by omega)]
 unfold Av.bit
 rw [bitAt_chunk _ _ _ (Nat.mod_lt _ (by decide))]
 congr 1; omega
end Go.Proofs.YtiapingedfnlnaaGreatDoor.Bm
namespace Go.Proofs.YtiapingedfnlnaaGreatDoor.Fi
open Go Go.Proofs Wx Hp W Ad Tm Bt Spc Re Av
open Hd (ints)
open In (Glo ints_length ints_one mayR decA encR encR_length decOk getR_enc z15)
open Ino (getM Cok getM_length rblk rat)
open Bm (findM num num4 nS Wf path find_ok path_chain par)
def blkZ (n k:Nat):Nat:=(geoN n).inodes+k / 8
def recZ (n:Nat) (Z:Nat→Txt) (k:Nat):List Int×Int:=decA (((Z (blkZ n k)).drop (64*(k % 8))).take 64)
theorem blkZ_rng {n k:Nat} (d:Dim n) (h:k<(geoN n).count):(geoN n).inodes≤blkZ n k∧blkZ n k<(geoN n).data∧blkZ n k<n∧98≤blkZ n k:=by
 have hd:=d.data
 have e:(geoN n).count=8*(n / 64):=rfl
 have e2:(geoN n).data=98+(n+4095) / 4096+n / 64:=rfl
 have e3:(geoN n).inodes=98+(n+4095) / 4096:=rfl
 unfold blkZ
 omega
theorem decA_enc {P:List Int} (hP:P.length=15) (hm:mayR P=true):decA (encR P)=(P,0):=by
 obtain ⟨e1,e2⟩:=getR_enc hP hm
 have:decOk (encR P)=true:=by rw [decOk,e1,e2,hm]; rfl
 rw [decA,if_neg (by rw [encR_length hP]; decide),if_pos this,e1]
theorem getM_at {n k:Nat} {Z:Nat→Txt} {T:TM} (a:Av n Z T) (d:Dim n) (h1:1≤k) (h2:k<(geoN n).count):getM T (geoN n) k=recZ n Z k:=by
 have r:=blkZ_rng d h2
 have e:rblk (geoN n) (k:Int)=((blkZ n k:Nat):Int):=rfl
 unfold getM
 rw [if_neg (fun y=>y ⟨by omega,by omega⟩),e,a.z _ r.2.2.1,if_neg (fun y=>y rfl)]
 rfl
def pc (Z:Nat→Txt) (R:List Int) (k:Nat):Txt:=if num Z R k=0 then zeros else Z (num Z R k)
def byteAt (Z:Nat→Txt) (R:List Int) (q:Nat):UInt8:=(pc Z R (q / 512)).getD (q % 512) 0
theorem pc_len {n k:Nat} {Z:Nat→Txt} {R:List Int} {T:TM} (a:Av n Z T) (w:Wf n Z R) (hk:k<nS):(pc Z R k).length=512:=by
 unfold pc
 split
 ·exact List.length_replicate
 ·rename_i h; exact a.len _ (w.rng k hk h).2.1
theorem blockM_ok {n k:Nat} {Z:Nat→Txt} {R:List Int} {T:TM} (a:Av n Z T) (w:Wf n Z R) (hk:k<16522):blockM T (geoN n) R k=(pc Z R k,0):=by
 unfold blockM pc
 rw [find_ok a w hk,if_neg (fun y=>y rfl)]
 by_cases h:num Z R k=0
 ·rw [if_pos (by show ((num Z R k:Nat):Int)=0; omega),if_pos h]
 ·rw [if_neg (by show ¬ ((num Z R k:Nat):Int)=0; omega),if_neg h]
  exact a.z _ (w.rng k (by unfold nS; omega) h).2.1
theorem readGo_ok {n off m:Nat} {Z:Nat→Txt} {R:List Int} {T:TM} (a:Av n Z T) (w:Wf n Z R) (ho:off+m≤8459264):∀ (k b:Nat) (s:Txt),m≤b+k→b≤m→s=(List.range b).map (fun i=>byteAt Z R (off+i))→readGo T (geoN n) R off m k b s=((List.range m).map (fun i=>byteAt Z R (off+i)),0)
 | 0,b,s,h1,h2,h3=>by
  have:b=m:=by omega
  subst this
  rw [h3]; rfl
 | k+1,b,s,h1,h2,h3=>by
  unfold readGo
  by_cases hb:m≤b
  ·have:b=m:=by omega
   subst this
   rw [if_pos hb,h3]
  ·have hk:(off+b) / 512<16522:=by omega
   rw [if_neg hb,blockM_ok a w hk,if_neg (fun y=>y rfl)]
   obtain ⟨n1,n2⟩:=nextA_gt (off:=off) (show b<m by omega)
   obtain ⟨t1,t2⟩:=toP_gt (off:=off) (show b<m by omega)
   refine readGo_ok a w ho k _ _ (by omega) n2 ?_
   have lp:=pc_len a w (k:=(off+b) / 512) (by unfold nS; omega)
   refine List.ext_getElem ?_ fun i i1 i2=>?_
   ·rw [List.length_append,h3,List.length_map,List.length_range,List.length_take,List.length_drop,lp,List.length_map,List.length_range]
    unfold nextA; omega
   ·rw [List.getElem_map,List.getElem_range]
    rw [List.length_map,List.length_range] at i2
    have ls:s.length=b:=by rw [h3,List.length_map,List.length_range]
    by_cases hi:i<b
    ·rw [List.getElem_append_left (by omega)]
     simp only [h3,List.getElem_map,List.getElem_range]
    ·rw [List.getElem_append_right (by omega),List.getElem_take,List.getElem_drop]
     unfold nextA at i2
     unfold byteAt
     have e1:(off+i) / 512=(off+b) / 512:=by omega
     have e2:(off+i) % 512=(off+b) % 512+(i - b):=by omega
     rw [e1,e2,List.getD_eq_getElem?_getD,List.getElem?_eq_getElem (by omega)]
     simp only [ls]; rfl
end Go.Proofs.YtiapingedfnlnaaGreatDoor.Fi
