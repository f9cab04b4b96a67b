/-
  TEXTS FOR walkTree_card: StA StB StC DwD TrF TrG TrH TrI TrJ TrK TrL TrM TrU TrN TrO TrP TrR TrS TrV TrW TrX TrY TvB TvC TrZ WtA WlS WlF TvA TvD TvJ WlG WlH.
-/
import Derived.WalkKit
import Derived.LoopTactic
import Derived.StillTailTactics
import Derived.Deep.QuietTactic
import Derived.BigQuiet
import Derived.Sort.Grow
import Derived.Lib.Bytealg
import Derived.Shelf.SlSortCmp.WholeK
import Derived.Shelf.SlSortCmp.NoneTotal
import Derived.Shelf.SlIterI.Sorted
import Derived.Shelf.SortM.Plain
import Derived.Shelf.SortM.SortNone
import Derived.Test.YtiapingedfnlnaaGreatDoorGp4
namespace Go.Proofs
open Go Go.RowKit Go.Sort
theorem Tryz.nanS (a:ByteArray) (w:World):Calls Tryz.prog 148 #[.string a] w fun e w'=>e = .returned (.bool false)∧w'=w:=by
 go_enter Tryz.func148,Tryz.ntmps148
 go_wp2
 go_ret
 exact ⟨rfl,rfl⟩
theorem Tryz.nanI (a:Int) (w:World):Calls Tryz.prog 149 #[.int .i64 a] w fun e w'=>e = .returned (.bool false)∧w'=w:=by
 go_enter Tryz.func149,Tryz.ntmps149
 go_wp2
 go_ret
 exact ⟨rfl,rfl⟩
def cmpZ (a b:Int):Int:=if a<b then -1 else if a>b then 1 else 0
theorem Tryz.cmpI (a b:Int) (w:World):Calls Tryz.prog 82 #[.int .i64 a,.int .i64 b] w fun e w'=>e = .returned (.int .i64 (cmpZ a b))∧w'=w:=by
 have h1:a<b→cmpZ a b = -1:=fun h=>by unfold cmpZ; rw [if_pos h]
 have h2:b<a→cmpZ a b=1:=fun h=>by unfold cmpZ; rw [if_neg (by omega),if_pos h]
 have h3:a≤b→b≤a→cmpZ a b=0:=fun h k=>by unfold cmpZ; rw [if_neg (by omega),if_neg (by omega)]
 generalize cmpZ a b=r at h1 h2 h3 ⊢
 go_enter Tryz.func82,Tryz.ntmps82
 go_wp2_with (go_at_call 149; refine (Tryz.nanI _ _).mono ?_; rintro e w' ⟨rfl,rfl⟩)
 ·go_ret
  rw [h1 (by assumption)]; exact ⟨rfl,rfl⟩
 ·go_ret
  rw [h2 (by assumption)]; exact ⟨rfl,rfl⟩
 ·go_ret
  rw [h3 (by assumption) (by assumption)]; exact ⟨rfl,rfl⟩
def cmpT (a b:ByteArray):Int:=if Op.bytesLess a.toList b.toList=true then -1 else if (!(Op.bytesLess a.toList b.toList || a.toList == b.toList))=true then 1 else 0
theorem Tryz.gtrS (a b:ByteArray) (w:World):(binOp .gtr 9 (.string a) (.string b)).run Tryz.prog w = .ok (.bool (!(Op.bytesLess a.toList b.toList || a.toList == b.toList))) w:=by
 simp [go_sem,binOp,Op.stringOp]
theorem Tryz.cmpS (a b:ByteArray) (w:World):Calls Tryz.prog 81 #[.string a,.string b] w fun e w'=>e = .returned (.int .i64 (cmpT a b))∧w'=w:=by
 have hg:=Tryz.gtrS a b
 have h1:Op.bytesLess a.toList b.toList=true→cmpT a b = -1:=fun h=>by unfold cmpT; rw [if_pos h]
 have h2:Op.bytesLess a.toList b.toList=false→(!(Op.bytesLess a.toList b.toList || a.toList == b.toList))=true→cmpT a b=1:=fun h k=>by unfold cmpT; rw [if_neg (by rw [h]; decide),if_pos k]
 have h3:Op.bytesLess a.toList b.toList=false→(!(Op.bytesLess a.toList b.toList || a.toList == b.toList))=false→cmpT a b=0:=fun h k=>by unfold cmpT; rw [if_neg (by rw [h]; decide),if_neg (by rw [k]; decide)]
 generalize cmpT a b=r at h1 h2 h3 ⊢
 generalize (!(Op.bytesLess a.toList b.toList || a.toList == b.toList))=g at hg h2 h3
 go_enter Tryz.func81,Tryz.ntmps81
 go_wp2_with (go_at_call 148; refine (Tryz.nanS _ _).mono ?_; rintro e w' ⟨rfl,rfl⟩)
 ·go_ret
  rw [h1 (by assumption)]; exact ⟨rfl,rfl⟩
 ·go_ret
  rw [h2 (by assumption) (by assumption)]; exact ⟨rfl,rfl⟩
 ·go_ret
  rw [h3 (by assumption) (by assumption)]; exact ⟨rfl,rfl⟩
theorem Tryz.orI (a b:Int) (blk:Nat) (w:World) (ha:w.cell? ⟨blk,0,none⟩=some (.int .i64 a)) (hb:w.cell? ⟨blk,1,none⟩=some (.int .i64 b)):Calls Tryz.prog 80 #[.slice (some ⟨blk,0,none⟩) 2 2] w fun e w'=>e = .returned (.int .i64 (if a=0 then b else a))∧w'=w:=by
 have g1:(a != 0)=true→(if a=0 then b else a)=a:=fun h=>if_neg (by simpa using h)
 have g2:a=0→(if a=0 then b else a)=b:=fun h=>if_pos h
 generalize (if a=0 then b else a)=r at g1 g2 ⊢
 go_enter Tryz.func80,Tryz.ntmps80
 go_wp2
 go_loop [8] (fun i=>i = .int .i64 0∨(i = .int .i64 1∧(a != 0)=false)∨(i = .int .i64 2∧(a != 0)=false∧(b != 0)=false)) (fun i=>2 - (intOf i).toNat)
 case atStart=>exact .inl rfl
 case round =>
  rcases hrel with rfl|⟨rfl,h0⟩|⟨rfl,h0,h1⟩
  ·go_wp2
   ·go_ret
    first|exact ⟨rfl,rfl⟩|(rw [g1 (by assumption)]; exact ⟨rfl,rfl⟩)
   ·go_round
    case rel=>exact .inr (.inl ⟨rfl,by assumption⟩)
    case measure=>simp [intOf]
  ·go_wp2
   ·go_ret
    first|exact ⟨rfl,rfl⟩|(rw [g2 (by simpa using h0)]; exact ⟨rfl,rfl⟩)
   ·go_round
    case rel=>exact .inr (.inr ⟨rfl,h0,by assumption⟩)
    case measure=>simp [intOf]
  ·go_wp2
   go_ret
   have e:b=0:=by simpa using h1
   first|exact ⟨rfl,rfl⟩|(rw [g2 (by simpa using h0),e]; exact ⟨rfl,rfl⟩)
theorem new_cell0 (w:World) (a b:Int) (t:Nat):(w.alloc (Obj.cells #[.int .i64 a,.int .i64 b] t)).cell? ⟨w.heap.size,0,none⟩=some (.int .i64 a):=by
 show (match (w.heap.push (Obj.cells #[.int .i64 a,.int .i64 b] t))[w.heap.size]? with
  | some (.cells c _ _)=>if (none:Option Nat).isSome then none else c[0]?
  | _=>none)=_
 rw [Array.getElem?_push,if_pos rfl]; rfl
theorem new_cell1 (w:World) (a b:Int) (t:Nat):(w.alloc (Obj.cells #[.int .i64 a,.int .i64 b] t)).cell? ⟨w.heap.size,1,none⟩=some (.int .i64 b):=by
 show (match (w.heap.push (Obj.cells #[.int .i64 a,.int .i64 b] t))[w.heap.size]? with
  | some (.cells c _ _)=>if (none:Option Nat).isSome then none else c[1]?
  | _=>none)=_
 rw [Array.getElem?_push,if_pos rfl]; rfl
set_option maxRecDepth 100000 in
set_option maxHeartbeats 1600000 in
theorem Tryz.clo (p1 i1 p2 i2:Int) (s1 s2:ByteArray) (W:World):Calls Tryz.prog 79 #[.agg #[.int .i64 p1,.string s1,.int .i64 i1],.agg #[.int .i64 p2,.string s2,.int .i64 i2]] W fun e w'=>e = .returned (.int .i64 (if cmpT s1 s2=0 then cmpZ p1 p2 else cmpT s1 s2))∧∃ q os',w'=grow (W.drewN q) os':=by
 have hS:=fun W'=>Tryz.cmpS s1 s2 W'
 have hI:=fun W'=>Tryz.cmpI p1 p2 W'
 generalize cmpT s1 s2=r1 at hS ⊢
 generalize cmpZ p1 p2=r2 at hI ⊢
 have hO:=fun W' h1 h2=>Tryz.orI r1 r2 (World.heap W').size (W'.alloc (Obj.cells #[.int .i64 r1,.int .i64 r2] 3)) h1 h2
 generalize (if r1=0 then r2 else r1)=r at hO ⊢
 go_enter Tryz.func79,Tryz.ntmps79
 go_wp2
 generalize hw1:(W.alloc (Obj.cells #[Value.int IntKind.i64 p1,Value.string s1,Value.int IntKind.i64 i1] 113)).alloc (Obj.cells #[Value.int IntKind.i64 p2,Value.string s2,Value.int IntKind.i64 i2] 113)=w1
 have e1:w1=grow W #[Obj.cells #[Value.int IntKind.i64 p1,Value.string s1,Value.int IntKind.i64 i1] 113,Obj.cells #[Value.int IntKind.i64 p2,Value.string s2,Value.int IntKind.i64 i2] 113]:=by
  rw [← hw1,alloc_eq_grow,alloc_eq_grow,grow_grow]; rfl
 have c10:w1.drew.cell? ⟨W.heap.size,0,none⟩=some (.int .i64 p1):=by rw [e1]; simp [World.cell?,World.drew,grow]
 have c11:w1.drew.cell? ⟨W.heap.size,1,none⟩=some (.string s1):=by rw [e1]; simp [World.cell?,World.drew,grow]
 have c20:w1.drew.cell? ⟨W.heap.size+1,0,none⟩=some (.int .i64 p2):=by rw [e1]; simp [World.cell?,World.drew,grow]
 have c21:w1.drew.cell? ⟨W.heap.size+1,1,none⟩=some (.string s2):=by rw [e1]; simp [World.cell?,World.drew,grow]
 clear hw1
 refine wp_region_still_tail 10 (by kernel_rfl) (by kernel_rfl) ?_
 simp only [List.take_succ_cons,List.take_zero,List.drop_succ_cons,List.drop_zero,World.drew_eq]
 generalize hw2:w1.drew=w2 at c10 c11 c20 c21 ⊢
 generalize W.heap.size=n1 at c10 c11 c20 c21 ⊢
 still_step
 still_step
 still_step
 still_step
 still_call (hS _)
 still_step
 still_step
 still_step
 still_step
 still_call (hI _)
 refine wpStill_nil ?_
 go_wp2_with (go_at_call 80; refine (hO w2 (new_cell0 _ _ _ _) (new_cell1 _ _ _ _)).mono ?_; rintro e w' ⟨rfl,rfl⟩)
 ·go_ret
  refine ⟨rfl,1,#[Obj.cells #[Value.int IntKind.i64 p1,Value.string s1,Value.int IntKind.i64 i1] 113,Obj.cells #[Value.int IntKind.i64 p2,Value.string s2,Value.int IntKind.i64 i2] 113] ++ #[Obj.cells #[Value.int IntKind.i64 r1,Value.int IntKind.i64 r2] 3],?_⟩
  rw [alloc_eq_grow,← hw2,e1,← grow_grow]
  rfl
end Go.Proofs
namespace Go.Proofs
open Go Go.Shelf
def Tryz.sortE_ren : Go.Shelf.Ren:=⟨fun|6=>78|15=>147|14=>146|28=>222|29=>223|20=>214|21=>215|22=>216|23=>217|24=>218|25=>219|26=>220|27=>221|46=>278|47=>279|48=>280|49=>281|50=>282|57=>314|n=>n,fun|22=>41|24=>113|25=>167|3=>3|39=>78|0=>0|53=>325|55=>257|4=>4|46=>318|45=>317|50=>322|5=>5|9=>9|66=>374|70=>369|76=>398|77=>399|n=>n,fun n=>n⟩
theorem Tryz.sortE : SlLaysF0.n6 Tryz.prog Tryz.sortE_ren where
 mixed:=by kernel_rfl
 f6 := ⟨ "slices.SortFunc[[]bole/api.Entry,bole/api.Entry]", by decide, Tryz.func78.trans (congrArg some (by kernel_rfl))⟩
 f14 := ⟨ "slices.pdqsortCmpFunc[bole/api.Entry]", by decide, Tryz.func146.trans (congrArg some (by kernel_rfl))⟩
 f15:=Tryz.func147.trans (congrArg some (by kernel_rfl))
 f20 := ⟨ "slices.insertionSortCmpFunc[bole/api.Entry]", by decide, Tryz.func214.trans (congrArg some (by kernel_rfl))⟩
 f21 := ⟨ "slices.heapSortCmpFunc[bole/api.Entry]", by decide, Tryz.func215.trans (congrArg some (by kernel_rfl))⟩
 f22 := ⟨ "slices.breakPatternsCmpFunc[bole/api.Entry]", by decide, Tryz.func216.trans (congrArg some (by kernel_rfl))⟩
 f23 := ⟨ "slices.choosePivotCmpFunc[bole/api.Entry]", by decide, Tryz.func217.trans (congrArg some (by kernel_rfl))⟩
 f24 := ⟨ "slices.reverseRangeCmpFunc[bole/api.Entry]", by decide, Tryz.func218.trans (congrArg some (by kernel_rfl))⟩
 f25 := ⟨ "slices.partialInsertionSortCmpFunc[bole/api.Entry]", by decide, Tryz.func219.trans (congrArg some (by kernel_rfl))⟩
 f26 := ⟨ "slices.partitionEqualCmpFunc[bole/api.Entry]", by decide, Tryz.func220.trans (congrArg some (by kernel_rfl))⟩
 f27 := ⟨ "slices.partitionCmpFunc[bole/api.Entry]", by decide, Tryz.func221.trans (congrArg some (by kernel_rfl))⟩
 f28:=Tryz.func222.trans (congrArg some (by kernel_rfl))
 f29:=Tryz.func223.trans (congrArg some (by kernel_rfl))
 f46 := ⟨ "slices.siftDownCmpFunc[bole/api.Entry]", by decide, Tryz.func278.trans (congrArg some (by kernel_rfl))⟩
 f47:=Tryz.func279.trans (congrArg some (by kernel_rfl))
 f48:=Tryz.func280.trans (congrArg some (by kernel_rfl))
 f49 := ⟨ "slices.medianAdjacentCmpFunc[bole/api.Entry]", by decide, Tryz.func281.trans (congrArg some (by kernel_rfl))⟩
 f50 := ⟨ "slices.medianCmpFunc[bole/api.Entry]", by decide, Tryz.func282.trans (congrArg some (by kernel_rfl))⟩
 f57 := ⟨ "slices.order2CmpFunc[bole/api.Entry]", by decide, Tryz.func314.trans (congrArg some (by kernel_rfl))⟩
 t0:=Tryz.underlying0
 a0:=Tryz.isAgg0
 z0:=Tryz.sizeOf0
 v0:=Tryz.zeroValue0
 t3:=Tryz.underlying3
 a3:=Tryz.isAgg3
 z3:=Tryz.sizeOf3
 v3:=Tryz.zeroValue3
 t4:=Tryz.underlying4
 a4:=Tryz.isAgg4
 z4:=Tryz.sizeOf4
 v4:=Tryz.zeroValue4
 t5:=Tryz.underlying5
 a5:=Tryz.isAgg5
 z5:=Tryz.sizeOf5
 v5:=Tryz.zeroValue5
 t9:=Tryz.underlying9
 a9:=Tryz.isAgg9
 z9:=Tryz.sizeOf9
 v9:=Tryz.zeroValue9
 t22:=Tryz.underlying41
 a22:=Tryz.isAgg41
 z22:=Tryz.sizeOf41
 v22:=Tryz.zeroValue41
 t25:=Tryz.underlying167
 a25:=Tryz.isAgg167
 z25:=Tryz.sizeOf167
 v25:=Tryz.zeroValue167
 t39:=Tryz.underlying78
 a39:=Tryz.isAgg78
 z39:=Tryz.sizeOf78
 v39:=Tryz.zeroValue78
 t45:=Tryz.underlying317
 a45:=Tryz.isAgg317
 z45:=Tryz.sizeOf317
 v45:=Tryz.zeroValue317
 t46:=Tryz.underlying318
 a46:=Tryz.isAgg318
 z46:=Tryz.sizeOf318
 v46:=Tryz.zeroValue318
 t50:=Tryz.underlying322
 a50:=Tryz.isAgg322
 z50:=Tryz.sizeOf322
 v50:=Tryz.zeroValue322
 t53:=Tryz.underlying325
 a53:=Tryz.isAgg325
 z53:=Tryz.sizeOf325
 v53:=Tryz.zeroValue325
 t55:=Tryz.underlying257
 a55:=Tryz.isAgg257
 z55:=Tryz.sizeOf257
 v55:=Tryz.zeroValue257
 t66:=Tryz.underlying374
 a66:=Tryz.isAgg374
 z66:=Tryz.sizeOf374
 v66:=Tryz.zeroValue374
 t70:=Tryz.underlying369
 a70:=Tryz.isAgg369
 z70:=Tryz.sizeOf369
 v70:=Tryz.zeroValue369
 t76:=Tryz.underlying398
 a76:=Tryz.isAgg398
 z76:=Tryz.sizeOf398
 v76:=Tryz.zeroValue398
 t77:=Tryz.underlying399
 a77:=Tryz.isAgg399
 z77:=Tryz.sizeOf399
 v77:=Tryz.zeroValue399
end Go.Proofs
namespace Go.Proofs.YtiapingedfnlnaaGreatDoor.Di
open Go Go.Proofs Wx Hp W Re Ss
open Sk (E)
open Go.Op (bytesLess)
instance : Inhabited E:=⟨⟨0,[],0⟩⟩
def cfE (x y:E):Int:=if cmpT (mkStr x.name) (mkStr y.name)=0 then cmpZ x.place y.place else cmpT (mkStr x.name) (mkStr y.name)
theorem cfE_lt (x y:E):ltOf cfE x y=ltE x y:=by
 unfold ltOf cfE cmpT cmpZ ltE
 rw [toList_mkStr,toList_mkStr]
 cases hb:bytesLess x.name y.name with
 | true=>rfl
 | false =>
  by_cases e:x.name=y.name
  ·have e':(x.name == y.name)=true:=by rw [beq_iff_eq]; exact e
   rw [e']
   by_cases p:x.place<y.place
   ·rw [if_pos p,decide_eq_true p]; rfl
   ·rw [if_neg p,decide_eq_false p]
    by_cases q:x.place>y.place
    ·rw [if_pos q]; rfl
    ·rw [if_neg q]; rfl
  ·have e':(x.name == y.name)=false:=by rw [beq_eq_false_iff_ne]; exact e
   rw [e']; rfl
theorem swoE : Go.Sort.SWO (ltOf cfE) where
 irrefl x:=by rw [cfE_lt,ltE_irr]
 trans x y z h1 h2:=by rw [cfE_lt] at *; exact ltE_trans h1 h2
 ntrans x y z h1 h2:=by
  rw [cfE_lt] at *
  cases q:ltE x z with
  | false=>rfl
  | true =>
   exfalso
   cases r:ltE y x with
   | true=>rw [ltE_trans r q] at h2; cases h2
   | false =>
    obtain ⟨e1,e2⟩:=ltE_tri h1 r
    unfold ltE at q h2
    rw [e1,e2] at q
    rw [q] at h2; cases h2
theorem flat_at {es:List E} {j:Nat} (hj:j<es.length*3):(es.flatMap E.v)[j]?=(E.v (es[j / 3]'(by omega)))[j % 3]?:=by
 have p:=flat_part E.v 3 es (fun x _=>E.len x) (j / 3) (by omega)
 rw [← p,List.getElem?_take,if_pos (by omega),List.getElem?_drop]
 congr 1; omega
theorem flat_K {d:Array E} {j:Nat} (hj:j<d.size*3):(d.toList.flatMap E.v)[j]?=some ((Go.Sort.flatK E.v 3 d)[j]!):=by
 have h3:j / 3<d.size:=by omega
 rw [flat_at (by rw [Array.length_toList]; exact hj),Go.Sort.get_flatK _ _ _ _ hj,getElem!_pos d (j / 3) h3]
 rw [Array.getElem_toList]
 generalize d[j / 3]=e
 rcases (by omega:j % 3=0∨j % 3=1∨j % 3=2) with h|h|h <;> rw [h] <;> rfl
theorem rd_row {h:Heap} {b o:Nat} {xs:List Value} (H:∀ j v,xs[j]?=some v→cellOf h ⟨b,o+j,none⟩=some v):((rd h b).drop o).take xs.length=xs:=by
 refine List.ext_getElem? fun i=>?_
 rw [List.getElem?_take]
 by_cases hi:i<xs.length
 ·rw [if_pos hi,List.getElem?_drop]
  have:=H i xs[i] (List.getElem?_eq_getElem hi)
  rw [cellOf_rd] at this
  rw [List.getElem?_eq_getElem hi]; exact this
 ·rw [if_neg hi,List.getElem?_eq_none (by omega)]
theorem SortE_spec {h:Heap} {a:Option Addr} {l c:Nat} {es:List E} {F:Nat→Prop} {K:Value→Heap→Prop} (s:Sl h 3 a l c (es.flatMap E.v) F) (hl:l<4611686018427387904)
  (hK:∀ h' (es':List E),es'.Perm es→es'.Pairwise leE→Fr (fun b=>∃ p,a=some p∧b=p.block) h h'→Sl h' 3 a l c (es'.flatMap E.v) F→K (.tuple #[]) h') :
  C.slices_SortFunc_api_Entry_api_Entry a l c (.func (.func 79) #[] ⟨[]⟩) h K:=by
 refine ⟨⟨_,Tryz.func78,by kernel_rfl,by kernel_rfl⟩,fun w hw=>?_⟩
 subst hw
 have le:es.length=l:=by
  have:=s.1
  rw [flat_length E.v 3 _ (fun x _=>E.len x)] at this
  omega
 cases a with
 | none =>
  have l0:l=0:=s.2.1
  have c0:c=0:=s.2.2
  subst l0 c0
  refine (AnyF.slices_SortFunc_none Tryz.sortE none 0 (.func (.func 79) #[] ⟨[]⟩) w).mono fun e w' ⟨he,hw'⟩=>⟨_,he,?_⟩
  subst hw'
  exact ⟨⟨rfl,rfl,rfl⟩,hK _ es (.refl _) (by rw [List.length_eq_zero_iff.mp le]; exact .nil) (Fr.refl _ _) s⟩
 | some p =>
  obtain ⟨b,o,sp⟩:=p
  have ep:sp=none:=s.2.1
  subst ep
  have hcells:=s.cells
  obtain ⟨_,_,hF,⟨cs,T,fz,hb,hfz⟩,hlc,hrow,hroom⟩:=s
  have erd:rd w.heap b=cs.toList:=by unfold rd; rw [hb]
  have hb':w.heap[b]?=some (.cells cs T fz):=hb
  simp only at hroom
  rw [erd,Array.length_toList] at hroom
  have cell:∀ j v,(es.flatMap E.v)[j]?=some v→w.cell? ⟨b,o+j,none⟩=some v:=fun j v hv=>by
   have:=hcells j v hv
   rw [add_mk] at this
   exact this
  have hsz:es.toArray.size=l:=le
  have hH:Go.Sort.HoldsK E.v 3 w b o es.toArray:=fun j hj=>by
   rw [Go.Sort.size_flatK] at hj
   refine ⟨cell j _ (flat_K (d:=es.toArray) hj),?_⟩
   show (match w.heap[b]? with
    | some (.cells _ _ (lo,hi))=>decide (lo≤o+j) && decide (o+j<hi)
    | _=>false)=false
   rw [hb']
   show (decide (fz.1≤o+j) && decide (o+j<fz.2))=false
   rcases hfz with e|e
   ·rw [e,decide_eq_false (show ¬ o+j<0 by omega),Bool.and_false]
   ·rw [decide_eq_false (by rw [hsz] at hj; omega),Bool.false_and]
  have eg:∀ args w,(callFunc 79 args).run Tryz.prog w = .ok (.enter 79 args) w:=enters_of Tryz.func79 (by kernel_rfl) rfl
  have hcmp:CmpLays Tryz.prog 79 #[] E.v 3 cfE b o es.toArray.size w:=fun m os dk _ x y=>Tryz.clo x.place x.inode y.place y.inode (mkStr x.name) (mkStr y.name) _
  have cS:=AnyQ.slices_SortFunc Tryz.sortE 3 Tryz.isAgg113 Tryz.sizeOf113 E.v (fun _=>rfl) E.one cfE swoE 79 #[] b o c es.toArray w eg hcmp hH (Array.getElem?_eq_some_iff.mp hb').1 (by rw [hsz]; exact hl)
  rw [hsz] at cS
  refine cS.mono fun e w' ⟨he,d',n,ws,hp,hs,hw'⟩=>⟨_,he,?_⟩
  obtain ⟨p1,_,p3⟩:=hp
  rw [hsz] at p1
  have pe:d'.toList.Perm es:=by
   have e1:d'.extract 0 l=d':=by rw [← p1,Array.extract_size]
   have e2:es.toArray.extract 0 l=es.toArray:=by rw [← hsz,Array.extract_size]
   rw [e1,e2] at p3; exact p3
  have hH':=holdsK_sortWorldK_c E.v 3 w b o es.toArray d' n ws hH (Array.getElem?_eq_some_iff.mp hb').1 (by rw [p1,hsz])
  rw [← hw'] at hH'
  have eh:w'.heap=(w.heap.modify b (Go.Sort.onCells (Go.Sort.putCells id o (Go.Sort.flatK E.v 3 d'))))++ws:=by rw [hw']; rfl
  have ls:d'.toList.length=l:=by rw [Array.length_toList,p1]
  have rest:SameRest w w':=by rw [hw']; exact ⟨rfl,rfl,rfl⟩
  refine ⟨rest,hK _ d'.toList pe ?_ ⟨by rw [eh,Array.size_append,Array.size_modify]; omega,fun b' hb1 hb2=>?_⟩ ?_⟩
  ·rw [List.pairwise_iff_getElem]
   intro i j hi hj hij
   have:=hs i j (Nat.zero_le _) hij (by omega)
   rw [cfE_lt,getElem!_pos d' j (by omega),getElem!_pos d' i (by omega)] at this
   rw [Array.getElem_toList,Array.getElem_toList]
   exact this
  ·rw [eh,Array.getElem?_append_left (by rw [Array.size_modify]; exact hb1),Array.getElem?_modify,if_neg fun y=>hb2 ⟨_,rfl,y.symm⟩]
  ·have hbl:=(Array.getElem?_eq_some_iff.mp hb').1
   have eb:w'.heap[b]?=some (.cells (Go.Sort.putCells id o (Go.Sort.flatK E.v 3 d') cs) T fz):=by
    rw [eh,Array.getElem?_append_left (by rw [Array.size_modify]; exact hbl),Array.getElem?_modify,if_pos rfl,hb']; rfl
   have esz:(Go.Sort.putCells id o (Go.Sort.flatK E.v 3 d') cs).size=cs.size:=by unfold Go.Sort.putCells; rw [Array.size_mapIdx]
   have lf:(d'.toList.flatMap E.v).length=l*3:=by rw [flat_length E.v 3 _ (fun x _=>E.len x),ls]
   refine ⟨lf,rfl,hF,⟨_,T,fz,eb,by rw [esz]; exact hfz⟩,hlc,rd_row fun j v hv=>?_,?_⟩
   ·have hj:j<d'.size*3:=by
     have:=(List.getElem?_eq_some_iff.mp hv).1
     rw [lf] at this; omega
    rw [flat_K hj] at hv
    have:=(hH' j (by rw [Go.Sort.size_flatK]; exact hj)).1
    rw [← Option.some.inj hv]; exact this
   ·show o+c*3≤(rd w'.heap b).length
    have:rd w'.heap b=(Go.Sort.putCells id o (Go.Sort.flatK E.v 3 d') cs).toList:=by unfold rd; rw [eb]
    rw [this,Array.length_toList,esz]; exact hroom
end Go.Proofs.YtiapingedfnlnaaGreatDoor.Di
namespace Go.Proofs.YtiapingedfnlnaaGreatDoor.Di
open Go Go.Proofs Wx Hp W Ad Tm Spc Re Av Rg Ss
open Hd (ints)
open In (Glo ints_length ints_one)
open Ino (getM Cok getM_length)
open Bm (findM)
open Fi (blockM hv_yield getM_may cok)
open Sk (E nameOk)
theorem sl_lt {h:Heap} {ec:Nat} {a:Option Addr} {l c:Nat} {xs:List Value} {F:Nat→Prop} (s:Sl h ec a l c xs F):Sl h ec a l c xs (fun b=>F b∧b<h.size):=by
 obtain ⟨h1,h2⟩:=s
 refine ⟨h1,?_⟩
 cases a with
 | none=>exact h2
 | some p =>
  obtain ⟨a1,a2,a3,a4⟩:=h2
  exact ⟨a1,⟨a2,a3.lt⟩,a3,a4⟩
def upE (k:Nat) (c:E):E:=⟨c.place+16*(k:Int),c.name,c.inode⟩
theorem allE_cons (T:TM) (g:G) (R:List Int) (k:Nat) (r:List Leaf):allE ((leafM T g R k).1::r)=(leafM T g R k).1.cells.map (upE k)++allE r:=rfl
theorem List_spec {h:Heap} {F:Nat→Prop} {t d:Option Addr} {T:TM} {n:Nat} {i:Int} {K:Value→Heap→Prop} (gl:In.Glo h) (dm:Dim n) (x:Tx h F t d T)
  (hK:∀ h' a l c,Fr No h h'→l=(listD T (geoN n) i).1.length→Sl h' 3 a l c ((listD T (geoN n) i).1.flatMap E.v) (From h.size)→K (.tuple #[.slice a l c,.int .i64 (listD T (geoN n) i).2]) h'):C.dir_List t (geoN n).v i h K:=by
 refine dir_List.ok (New.intro fun h2 n2=>⟨(geoN n).v,rfl,cellsAll n2.rd,open_spec (gl.no n2.fr) (x.no n2.fr) (cok dm) fun h3 f3=>⟨_,rfl,NewRow.intro (rdV_len (openM_length T (geoN n) i)) rdV_one rfl fun h5 n5=>New.intro fun h6 n6=>leaves_spec fun h7 n7=>⟨_,rfl,fun L rounds=>?_⟩⟩⟩)
 have lR:=openM_length T (geoN n) i
 have z2:=n2.size
 have z3:=f3.size
 have z5:=n5.size
 have z6:=n6.size
 have z7:=n7.size
 have xl:∀ b,F b→b<h.size:=fun b hb=>x.lt hb
 have gl1:=gl.lt
 have F6:Fr No h h6:=((n2.fr.no f3).new n5).new n6
 have F7:Fr No h h7:=F6.new n7
 have Fb:=beginL_fr h7 L
 have on0:=beginL_on h7 L
 have d0:=beginL_d h7 L
 have zb:=beginL_size h7 L
 have F0:Fr No h (beginL h7 L):=F7.no Fb
 have cb0:rd (beginL h7 L) h6.size=[.pointer (some ⟨h3.size,0,none⟩)]:=(Fb.rd (by omega) fun y=>y).trans n7.rd
 have rb0:rd (beginL h7 L) h3.size=rdV t (geoN n) i (openM T (geoN n) i).1 (openM T (geoN n) i).2++[]:=by
  rw [List.append_nil]
  exact (Fb.rd (by omega) fun y=>y).trans ((n7.at_ (by omega)).trans ((n6.at_ (by omega)).trans n5.rd))
 have ob0:Own (beginL h7 L) h3.size:=Fb.own (by omega) (fun y=>y) (n7.ow (n6.ow n5.own))
 have ab0:rd (beginL h7 L) h5.size=[.slice none 0 0]:=(Fb.rd (by omega) fun y=>y).trans ((n7.at_ (by omega)).trans n6.rd)
 have pb0:Own (beginL h7 L) h5.size:=Fb.own (by omega) (fun y=>y) (n7.ow n6.own)
 have I0:It (beginL h7 L) F t d T (geoN n) i (openM T (geoN n) i).1 (openM T (geoN n) i).2 [] h6.size h3.size:=⟨gl.no F0,x.no F0,cb0,ob0,rb0,fun y=>by have:=xl _ y; omega,by omega,by omega⟩
 generalize hbe:beginL h7 L=hb at *
 show C.dir_reader_leaves_c1 (.func (.yield (h7.size+1)) #[] #[]) (some ⟨h6.size,0,none⟩) hb _
 -- what is behind the loop
 have fin:∀ (hh:Heap) (e:Int),Fr (fun b=>b=h3.size∨b=h5.size∨b=h7.size+1) hb hh→LoopOn hh (h7.size+1) L .ready none→rd hh h3.size=rdV t (geoN n) i (openM T (geoN n) i).1 e++[]→(e≠0→listD T (geoN n) i=([],e)) →
   (e=0→∃ (a:Option Addr) (l c:Nat) (acc:List E),rd hh h5.size=[.slice a l c]∧Sl hh 3 a l c (acc.flatMap E.v) (From hb.size)∧Rise acc∧acc.length≤300000∧listD T (geoN n) i=(sortE acc,0)) →
   ∃ (st1:LoopState) (pend1:Option Code),LoopOn hh (h7.size+1) L st1 pend1∧st1 ≠ .busy∧pendX pend1 (
    SetL hh (h7.size+1) L .exhausted pend1 fun h20=>∃ (n5:Int),cellOf h20 (Addr.add ⟨h3.size,0,none⟩ 22)=some (.int .i64 n5) ∧
    bif (n5 != 0) then (∃ (n6:Int),cellOf h20 (Addr.add ⟨h3.size,0,none⟩ 22)=some (.int .i64 n6)∧EndD h7.size h20 fun h21=>K (.tuple #[.slice none 0 0,.int .i64 n6]) h21) else (
     ∃ (sA4:Option Addr) (sL4:Nat) (sC4:Nat),cellOf h20 ⟨h5.size,0,none⟩=some (.slice sA4 sL4 sC4)∧C.slices_SortFunc_api_Entry_api_Entry sA4 sL4 sC4 (Value.func (.func 79) #[] ⟨[]⟩) h20 fun r3 h22 =>
     r3 = .tuple #[]∧∃ (sA5:Option Addr) (sL5:Nat) (sC5:Nat),cellOf h22 ⟨h5.size,0,none⟩=some (.slice sA5 sL5 sC5)∧EndD h7.size h22 fun h23=>K (.tuple #[.slice sA5 sL5 sC5,.int .i64 0]) h23)) (False) (fun _=>False):=by
  intro hh e f on r es0 es1
  have zf:=f.size
  refine ⟨.ready,none,on,by decide,pend_none (setL_intro (by omega) fun h20 t20=>?_)⟩
  have z20:=t20.size
  have f20:Fr (fun b=>b=h3.size∨b=h5.size∨b=h7.size+1) hb h20:=f.trans t20.fr fun b _ y => .inr (.inr y)
  have r20:=(t20.fr.rd (b:=h3.size) (by omega) (by omega)).trans r
  refine ⟨_,rda r20 (rdV_e lR),cn (fun he=>⟨_,rda r20 (rdV_e lR),endD_intro ((f20.same _ (by omega) (by omega)).trans d0) fun h21 z21 f21=>?_⟩) fun he=>?_⟩
  ·rw [es0 he] at hK
   exact hK h21 none 0 0 ((F0.trans f20 fun b hb y=>by omega).trans f21 fun b hb y=>by omega) rfl (Sl.nil _ _ _)
  obtain ⟨a,l,c,acc,ra,s,u,hacc,es⟩:=es1 he
  rw [es] at hK
  have a20:=(t20.fr.rd (b:=h5.size) (by omega) (by omega)).trans ra
  have s20:Sl h20 3 a l c (acc.flatMap E.v) (From hb.size):=s.fr t20.fr fun b _ hb' y=>by have hb':hb.size≤b:=hb'; omega
  have la:acc.length=l:=by
   have:=s20.1
   rw [flat_length E.v 3 _ (fun x _=>E.len x)] at this
   omega
  have hb5:∀ b,(∃ p,a=some p∧b=p.block)→hb.size≤b:=fun b ⟨p,ep,eb⟩=>by subst ep; rw [eb]; exact s20.2.2.1
  refine ⟨_,_,_,rdc a20 rfl,SortE_spec s20 (by omega) fun h22 es' pe so f22 s22=>⟨rfl,_,_,_,rdc (show rd h22 h5.size=[.slice a l c] from (f22.rd (by omega) fun y=>by have:=hb5 _ y; omega).trans a20) rfl,endD_intro ((f22.same _ (by omega) fun y=>by have:=hb5 _ y; omega).trans ((f20.same _ (by omega) (by omega)).trans d0)) fun h23 z23 f23=>?_⟩⟩
  have eq:es'=sortE acc:=sorted_eq u pe so
  subst eq
  have z22:=f22.size
  refine hK h23 a l c (((F0.trans f20 fun b hb y=>by omega).trans f22 fun b hb y=>by have:=hb5 _ y; omega).trans f23 fun b hb y=>by omega) ?_ ((s22.fr f23 fun b _ hb' y=>?_).mono fun b hb'=>?_)
  ·show l=(sortE acc).length
   rw [(sortE_perm acc).length_eq,la]
  ·have hb':hb.size≤b:=hb'; omega
  ·have hb':hb.size≤b:=hb'
   have:=F0.size
   show h.size≤b; omega
 by_cases he0:(openM T (geoN n) i).2=0
 rotate_left
 ·exact leaves_none lR I0 he0 (fin hb _ (Fr.refl _ _) on0 I0.r (fun _=>by unfold listD; rw [if_pos he0]) fun y=>absurd y he0)
 obtain ⟨R0,R1⟩:=open_size he0
 have es0:listD T (geoN n) i=if (leavesM T (geoN n) (openM T (geoN n) i).1).2≠0 then ([],(leavesM T (geoN n) (openM T (geoN n) i).1).2) else (sortE (allE (leavesM T (geoN n) (openM T (geoN n) i).1).1),0):=by
  unfold listD; rw [if_neg (fun y=>y he0)]
 have rise:=(leavesGo_rise T (geoN n) (openM T (geoN n) i).1 ((openM T (geoN n) i).1.getD 2 0 / 512).toNat 0).1
 unfold leavesM at es0
 rw [he0] at I0
 generalize hR:(openM T (geoN n) i).1=R at *
 generalize hm:(R.getD 2 0 / 512).toNat=m at *
 have hm2:m≤16522:=by omega
 refine leaves_iter lR R0 R1 (fun k hh=>It hh F t d T (geoN n) i R 0 [] h6.size h3.size∧Fr (fun b=>b=h3.size∨b=h5.size∨b=h7.size+1) hb hh∧LoopOn hh (h7.size+1) L .ready none∧∃ q a l c acc,m=k+q∧rd hh h5.size=[.slice a l c]∧Own hh h5.size∧Sl hh 3 a l c (acc.flatMap E.v) (From hb.size)∧acc.length≤16*k ∧
   allE (leavesGo T (geoN n) R m 0).1=acc++allE (leavesGo T (geoN n) R q k).1∧(leavesGo T (geoN n) R m 0).2=(leavesGo T (geoN n) R q k).2)
  (fun k hh J=>J.1) (fun k hh h' ba bl bc ca cl cc J hk he f' r' o' lf=>?_) ⟨I0,Fr.refl _ _,on0,m,none,0,0,[],by omega,ab0,pb0,Sl.nil _ _ _,Nat.zero_le _,rfl,rfl⟩ (fun hh J=>?_) fun k hh h' J hk he f' r' o'=>?_
 · -- an index
  obtain ⟨I,f,on,q,a,l,c,acc,eq,ra,oa,sa,la,e1,e2⟩:=J
  rw [hm] at hk
  obtain ⟨q,rfl⟩:∃ q',q=q'+1:=⟨q - 1,by omega⟩
  have zf:=f.size
  have zf':=f'.size
  have on':LoopOn h' (h7.size+1) L .ready none:=loopOn_fr on f' (by omega)
  refine rounds (leafV k (leafM T (geoN n) R k).1.block ba bl bc ca cl cc) h' _ on' (NewRow.intro rfl leafV_one rfl fun h10 n10=>⟨loopOn_fr on' n10.fr fun y=>y,setL_intro (by have:=n10.size; omega) fun h11 t11=>?_⟩)
  have z10:=n10.size
  have z11:=t11.size
  have f11:Fr (fun b=>b=h3.size∨b=h5.size∨b=h7.size+1) hb h11:=((f.trans f' fun b _ y => .inl y).new n10).trans t11.fr fun b _ y => .inr (.inr y)
  have v11:rd h11 h'.size=leafV k (leafM T (geoN n) R k).1.block ba bl bc ca cl cc:=(t11.fr.rd (by omega) (by omega)).trans n10.rd
  have lf11:Lf hh h11 (leafM T (geoN n) R k).1 ba bl bc ca cl cc:=(lf.fr n10.fr fun _ _ _ y=>y).fr t11.fr fun b _ hb y=>by omega
  have lc:(leafM T (geoN n) R k).1.cells.length=cl:=by
   have:=lf11.c.1
   rw [flat_length E.v 3 _ (fun x _=>E.len x)] at this
   omega
  have l16:=leaf_len T (geoN n) R k
  have I11:It h11 F t d T (geoN n) i R 0 [] h6.size h3.size:=by
   have A:It h' F t d T (geoN n) i R 0 [] h6.size h3.size:=⟨I.gl.fr f' fun b hb y=>by omega,I.x.fr f' fun b hb y=>by have:=xl b hb; omega,(f'.rd I.clt (by omega)).trans I.cap,o',r',I.nf,I.b1,I.ne⟩
   exact (A.no n10.fr).fr t11.fr (by omega) (by omega) (fun b hb y=>by have:=xl b hb; omega) fun b hb y=>by omega
  have ra11:rd h11 h5.size=[.slice a l c]:=(t11.fr.rd (by omega) (by omega)).trans ((n10.at_ (by omega)).trans ((f'.rd (by omega) (by omega)).trans ra))
  have oa11:Own h11 h5.size:=t11.fr.own (by omega) (by omega) (n10.ow (f'.own (by omega) (by omega) oa))
  have sa11:Sl h11 3 a l c (acc.flatMap E.v) (fun b=>hb.size≤b∧b<hh.size):=(((sl_lt sa).mono (G:=fun b=>hb.size≤b∧b<hh.size) fun b hb=>hb).fr f' fun b _ hb y=>by omega).fr n10.fr (fun _ _ _ y=>y) |>.fr t11.fr fun b _ hb y=>by omega
  refine ⟨_,_,_,rda v11 rfl,fun j hx=>∃ p:Nat,j=p∧p≤cl∧Fr (fun b=>b=h5.size∨(hb.size≤b∧b<hh.size)) h11 hx∧∃ a l c,rd hx h5.size=[.slice a l c]∧Own hx h5.size∧Sl hx 3 a l c ((acc++((leafM T (geoN n) R k).1.cells.take p).map (upE k)).flatMap E.v) (fun b=>(hb.size≤b∧b<hh.size)∨(h11.size≤b∧b<hx.size)),fun j _=>((cl:Int) - j).toNat,
   ⟨0,rfl,Nat.zero_le _,Fr.refl _ _,a,l,c,ra11,oa11,by rw [List.take_zero,List.map_nil,List.append_nil]; exact sa11.mono fun b hb => .inl hb⟩,?_⟩
  rintro j h12 ⟨p,rfl,hp,f12,a2,l2,c2,ra12,oa12,s12⟩
  have z12:=f12.size
  have v12:rd h12 h'.size=leafV k (leafM T (geoN n) R k).1.block ba bl bc ca cl cc:=(f12.rd (by omega) (by omega)).trans v11
  have lf12:Lf hh h12 (leafM T (geoN n) R k).1 ba bl bc ca cl cc:=lf11.fr f12 fun b _ hb y=>by omega
  have on12:LoopOn h12 (h7.size+1) L .busy none:=loopOn_fr t11.on f12 (by omega)
  refine cd (fun hlt=>?_) fun hlt=>?_
  ·have hlt':p<(leafM T (geoN n) R k).1.cells.length:=by omega
   obtain ⟨a0,ea,ca0⟩:=ent_at lf12.c.cells hlt'
   subst ea
   have pr:=(leafM_ok T (geoN n) R k).rng _ (List.getElem_mem hlt')
   generalize hcell:(leafM T (geoN n) R k).1.cells[p]=cell at ca0 pr
   have ll2:l2=acc.length+p:=by
    have:=s12.1
    rw [flat_length E.v 3 _ (fun x _=>E.len x),List.length_append,List.length_map,List.length_take] at this
    omega
   refine ⟨⟨by omega,hlt⟩,os ⟨_,rfl,ca0,NewRow.intro rfl (E.one _) rfl fun h14 n14=>⟨_,rda n14.rd rfl,_,rda ((n14.at_ (by omega)).trans v12) rfl,?_⟩⟩⟩
   have z14:=n14.size
   refine Put.add n14.own (by rw [n14.rd]; show 0<3; decide) fun h15 d15=>?_
   have z15:=d15.size
   have r15:rd h15 h12.size=E.v (upE k cell):=by
    rw [d15.rd,n14.rd,wrap_i64 (n:=16*(k:Int)) (by omega) (by omega),wrap_i64 (by omega) (by omega)]; rfl
   have ra15:=(d15.at_ (c:=h5.size) (by omega) (by omega)).trans ((n14.at_ (by omega)).trans ra12)
   refine ⟨a2,l2,c2,rdc ra15 rfl,_,rfl,cellsAll r15,rfl,New.intro fun h16 n16=>⟨_,rfl,cellsAll n16.rd,E.one _,?_⟩⟩
   have z16:=n16.size
   have s16:Sl h16 3 a2 l2 c2 ((acc++((leafM T (geoN n) R k).1.cells.take p).map (upE k)).flatMap E.v) (fun b=>(hb.size≤b∧b<hh.size)∨(h11.size≤b∧b<h12.size)):=((s12.fr n14.fr fun _ _ _ y=>y).fr d15.fr fun b _ hb y=>by omega).fr n16.fr fun _ _ _ y=>y
   refine append_own (elem:=ti113) s16 rfl rfl (by show (l2+1)*32≤_; omega) (by omega) fun a' c' h17 f17 s17=>?_
   have z17:=f17.size
   have f16:Fr (fun b=>b=h5.size∨(hb.size≤b∧b<hh.size)) h11 h16:=((f12.new n14).did d15 fun hl=>by omega).new n16
   have w16:Own h16 h5.size:=n16.ow (d15.ow (n14.ow oa12))
   have r16:rd h16 h5.size=[.slice a2 l2 c2]:=(n16.at_ (by omega)).trans ra15
   have w17:Own h17 h5.size:=f17.own (by omega) (by omega) w16
   refine Put.intro w17 (by rw [f17.rd (by omega) (by omega),r16]; exact Nat.zero_lt_one) fun h18 d18=>?_
   have z18:=d18.size
   rw [wrap_i64 (by omega) (by omega)]
   refine ⟨⟨p+1,by omega,by omega,(f16.trans f17 fun b hb y=>?_).did d18 fun hl => .inl rfl,a',l2+1,c',?_,d18.own,?_⟩,falls hlt⟩
   ·omega
   ·rw [d18.rd,f17.rd (by omega) (by omega),r16]; rfl
   ·rw [List.take_succ_eq_append_getElem hlt',List.map_append,← List.append_assoc,List.flatMap_append,hcell]
    have s18:=(sl_lt s17).fr d18.fr fun b _ hb y=>by omega
    rw [show [cell].map (upE k)=[upE k cell] from rfl,List.flatMap_cons,List.flatMap_nil,List.append_nil]
    exact s18.mono fun b hb=>by omega
  ·have:p=cl:=by omega
   subst this
   refine ⟨on12,.inl ⟨rfl,?_⟩⟩
   have t24:=turned (loopOn_lt on12) L .ready none
   generalize setLoop h12 (h7.size+1) L .ready none=h24 at t24
   have z24:=t24.size
   refine ⟨(I11.fr f12 (by omega) (by omega) (fun b hb y=>by have:=xl b hb; omega) fun b hb y=>by omega).fr t24.fr (by omega) (by omega) (fun b hb y=>by have:=xl b hb; omega) fun b hb y=>by omega,(f11.trans f12 fun b _ y=>by omega).trans t24.fr fun b _ y => .inr (.inr y),t24.on,q,a2,l2,c2,acc++(leafM T (geoN n) R k).1.cells.map (upE k),by omega,(t24.fr.rd (by omega) (by omega)).trans ra12,t24.fr.own (by omega) (by omega) oa12,?_,?_,?_,?_⟩
   ·rw [List.take_of_length_le (by omega)] at s12
    exact (s12.fr t24.fr fun b _ hb y=>by omega).mono fun b hx=>by show hb.size≤b; omega
   ·rw [List.length_append,List.length_map]; omega
   ·rw [e1]
    conv=>lhs; unfold leavesGo
    rw [if_neg (fun y=>y he)]
    show acc++allE ((leafM T (geoN n) R k).1::(leavesGo T (geoN n) R q (k+1)).1)=_
    rw [allE_cons,List.append_assoc]
   ·rw [e2]
    conv=>lhs; unfold leavesGo
    rw [if_neg (fun y=>y he)]
 · -- all have come
  obtain ⟨I,f,on,q,a,l,c,acc,eq,ra,oa,sa,la,e1,e2⟩:=J
  rw [hm] at eq e1 e2 la
  have:q=0:=by omega
  subst this
  have ea:allE (leavesGo T (geoN n) R m 0).1=acc:=by rw [e1]; exact List.append_nil _
  have e0:(leavesGo T (geoN n) R m 0).2=0:=by rw [e2]; rfl
  exact fin hh 0 f on I.r (fun y=>absurd rfl y) fun _=>⟨a,l,c,acc,ra,sa,by rw [← ea]; exact rise,by omega,by rw [es0,if_neg (fun y=>y e0),ea]⟩
 · -- an index that does not read
  obtain ⟨I,f,on,q,a,l,c,acc,eq,ra,oa,sa,la,e1,e2⟩:=J
  rw [hm] at hk
  obtain ⟨q,rfl⟩:∃ q',q=q'+1:=⟨q - 1,by omega⟩
  have zf:=f.size
  have ee:(leavesGo T (geoN n) R m 0).2=(leafM T (geoN n) R k).2:=by
   rw [e2]; unfold leavesGo; rw [if_pos he]
  exact fin h' _ (f.trans f' fun b _ y => .inl y) (loopOn_fr on f' (by omega)) r' (fun _=>by rw [es0,ee,if_pos he]) fun y=>absurd y he
end Go.Proofs.YtiapingedfnlnaaGreatDoor.Di
namespace Go.Proofs.YtiapingedfnlnaaGreatDoor.Tr
open Go Go.Proofs Wx Hp W Ad Tm Re Ss
open Hd (ints)
open In (ints_length ints_one)
open Di (sl_lt)
def ext (col:Nat→Nat) (n m c:Nat):Nat→Nat:=fun b=>if b<n then col b else if b<m then c else 0
theorem ext_old {col:Nat→Nat} {n m c b:Nat} (h:b<n):ext col n m c b=col b:=if_pos h
theorem ext_new {col:Nat→Nat} {n m c b:Nat} (h:n≤b) (h':b<m):ext col n m c b=c:=by
 unfold ext; rw [if_neg (by omega),if_pos h']
section
variable {hx h' : Heap} {col : Nat → Nat} {G : Nat → Prop} {c0 : Nat}
theorem keepS {ec l c k:Nat} {a:Option Addr} {xs:List Value} (S:Sl hx ec a l c xs (On col k)) (f:Fr G hx h') (hG:∀ b,b<hx.size→G b→col b=c0) (hk:k≠c0):Sl h' ec a l c xs (On (ext col hx.size h'.size c0) k) :=
 (Sl.fr f (sl_lt S) fun b hb y g=>hk (y.1.symm.trans (hG b hb g))).mono fun b y=>(ext_old y.2).trans y.1
theorem keepN {b k:Nat} {v:List Value} (N:rd hx b=v∧Own hx b∧col b=k) (f:Fr G hx h') (hG:∀ b,b<hx.size→G b→col b=c0) (hk:k≠c0):rd h' b=v∧Own h' b∧ext col hx.size h'.size c0 b=k:=by
 have lt:=N.2.1.lt
 have ng:¬ G b:=fun g=>hk (N.2.2.symm.trans (hG b lt g))
 exact ⟨(f.rd lt ng).trans N.1,f.own lt ng N.2.1,(ext_old lt).trans N.2.2⟩
theorem grewS {ec l c:Nat} {a:Option Addr} {xs:List Value} (S:Sl h' ec a l c xs (fun b=>On col c0 b∨hx.size≤b)) (hs:∀ b,On col c0 b→b<hx.size∨True) (hsz:∀ b,hx.size≤b→col b=0∨c0=0∨True):Sl h' ec a l c xs (On (ext col hx.size h'.size c0) c0) :=
 (sl_lt S).mono fun b y=>by
  show ext col hx.size h'.size c0 b=c0
  by_cases hb:b<hx.size
  ·rw [ext_old hb]
   rcases y.1 with z|z
   ·exact z
   ·omega
  ·exact ext_new (by omega) y.2
end
structure Dt where
 P:Nat→Nat
 z:Nat→NdS
 pa:Option Addr
 pc:Nat
 da:Option Addr
 dc:Nat
 oa:Option Addr
 oc:Nat
def ptrV (P:Nat→Nat) (k:Nat):Value:=if k=0 then .pointer none else .pointer (some ⟨P k,0,none⟩)
def ptrs (n:Nat) (P:Nat→Nat):List Value:=(List.range n).map (ptrV P)
def nts (l:List Nat):List Value:=ints (l.map fun k:Nat=>(k:Int))
structure TreeX (E:Nat→Prop) (h0 hx:Heap) (col:Nat→Nat) (s:Ts) (D:Dt):Prop where
 fr:Fr No h0 hx
 lo:∀ b,col b≠0→h0.size≤b
 node:∀ k,1≤k→k<s.n→¬ E (4*k+4)→rd hx (D.P k)=ndV (D.z k) (s.nd k)∧Own hx (D.P k)∧col (D.P k)=4*k+4
 names:∀ k,1≤k→k<s.n→¬ E (4*k+5)→Sl hx 1 (D.z k).na (s.nd k).names.length (D.z k).nc (Ch.strs (s.nd k).names) (On col (4*k+5))
 nums:∀ k,1≤k→k<s.n→¬ E (4*k+6)→Sl hx 1 (D.z k).ma (s.nd k).nums.length (D.z k).mc (ints (s.nd k).nums) (On col (4*k+6))
 ptr:¬ E 1→Sl hx 1 D.pa s.n D.pc (ptrs s.n D.P) (On col 1)
 dirs:¬ E 2→Sl hx 1 D.da s.dirs.length D.dc (nts s.dirs) (On col 2)
 oth:¬ E 3→Sl hx 1 D.oa s.oth.length D.oc (nts s.oth) (On col 3)
section
variable {h0 hx h' : Heap} {E : Nat → Prop} {col : Nat → Nat} {s : Ts} {D : Dt} {G : Nat → Prop} {c0 : Nat}
theorem TreeX.step (t:TreeX E h0 hx col s D) (f:Fr G hx h') (hG:∀ b,b<hx.size→G b→col b=c0) (h00:c0=0→∀ b,b<hx.size→¬ G b):TreeX (fun c=>E c∨c=c0) h0 h' (ext col hx.size h'.size c0) s D:=by
 have z0:=t.fr.size
 have ne:∀ {c:Nat},¬ (E c∨c=c0)→¬ E c∧c≠c0:=fun h=>⟨fun y=>h (.inl y),fun y=>h (.inr y)⟩
 refine ⟨t.fr.trans f fun b hb g=>?_,fun b hb=>?_,fun k k1 k2 e=>keepN (t.node k k1 k2 (ne e).1) f hG (ne e).2,fun k k1 k2 e=>keepS (t.names k k1 k2 (ne e).1) f hG (ne e).2,fun k k1 k2 e=>keepS (t.nums k k1 k2 (ne e).1) f hG (ne e).2,
  fun e=>keepS (t.ptr (ne e).1) f hG (ne e).2,fun e=>keepS (t.dirs (ne e).1) f hG (ne e).2,fun e=>keepS (t.oth (ne e).1) f hG (ne e).2⟩
 ·have hb':b<hx.size:=by omega
  have hc:=hG b hb' g
  by_cases c00:c0=0
  ·exact absurd g (h00 c00 b hb')
  ·have:=t.lo b (by rw [hc]; exact c00)
   omega
 ·by_cases h1:b<hx.size
  ·rw [ext_old h1] at hb; exact t.lo b hb
  ·omega
theorem TreeX.no (t:TreeX E h0 hx col s D) (f:Fr No hx h'):TreeX E h0 h' (ext col hx.size h'.size 0) s D:=by
 have:=t.step (c0:=0) f (fun b _ y=>y.elim) fun _ b _ y=>y
 exact ⟨this.fr,this.lo,fun k k1 k2 e=>this.node k k1 k2 fun y=>y.elim e fun y=>by omega,fun k k1 k2 e=>this.names k k1 k2 fun y=>y.elim e fun y=>by omega,fun k k1 k2 e=>this.nums k k1 k2 fun y=>y.elim e fun y=>by omega,
  fun e=>this.ptr fun y=>y.elim e fun y=>by omega,fun e=>this.dirs fun y=>y.elim e fun y=>by omega,fun e=>this.oth fun y=>y.elim e fun y=>by omega⟩
theorem ptrs_at {n k:Nat} {P:Nat→Nat} (hk:k<n) (k1:1≤k):(ptrs n P)[k]?=some (.pointer (some ⟨P k,0,none⟩)):=by
 unfold ptrs
 rw [List.getElem?_map,List.getElem?_range hk]
 show some (ptrV P k)=_
 unfold ptrV
 rw [if_neg (by omega)]
theorem TreeX.at_ (t:TreeX E h0 hx col s D) (e:¬ E 1) {k:Nat} (k1:1≤k) (k2:k<s.n):∃ p,D.pa=some p∧cellOf hx (Addr.add p k)=some (.pointer (some ⟨D.P k,0,none⟩)):=by
 have c:=(t.ptr e).cells
 cases hp:D.pa with
 | none =>
  rw [hp] at c
  have c:ptrs s.n D.P=[]:=c
  have:=congrArg List.length c
  rw [ptrs,List.length_map,List.length_range,List.length_nil] at this
  omega
 | some p =>
  rw [hp] at c
  exact ⟨p,rfl,c k _ (ptrs_at k2 k1)⟩
theorem TreeX.nd (t:TreeX E h0 hx col s D) {k:Nat} (k1:1≤k) (k2:k<s.n) (e:¬ E (4*k+4)∧¬ E (4*k+5)∧¬ E (4*k+6)) (hl:(s.nd k).names.length=(s.nd k).nums.length):NdAt hx (D.P k) (D.z k) (s.nd k) :=
 ⟨(t.node k k1 k2 e.1).1,(t.names k k1 k2 e.2.1).cells,(t.nums k k1 k2 e.2.2).cells,hl⟩
end
end Go.Proofs.YtiapingedfnlnaaGreatDoor.Tr
namespace Go.Proofs.YtiapingedfnlnaaGreatDoor.Tr
open Go Go.Proofs Wx Hp W Ad Tm Re Ss
open Hd (ints)
open In (ints_length ints_one)
section
variable {h0 hx h' : Heap} {E : Nat → Prop} {col : Nat → Nat} {s : Ts} {D : Dt} {d : Nat} {nm : Tm.Txt} {m : Int}
theorem grew {hx h':Heap} {col:Nat→Nat} {c0 ec l c:Nat} {a:Option Addr} {xs:List Value} (S:Sl h' ec a l c xs (fun b=>On col c0 b∨hx.size≤b)):Sl h' ec a l c xs (On (ext col hx.size h'.size c0) c0) :=
 grewS S (fun _ _ => .inr trivial) (fun _ _ => .inr (.inr trivial))
theorem apN (t:TreeX E h0 hx col s D) (d1:1≤d) (d2:d<s.n) (e5:¬ E (4*d+5)) (hl:(s.nd d).names.length≤1000) {k:Option Addr→Nat→Nat→Heap→Prop}
  (hk:∀ a' c' h',Fr (On col (4*d+5)) hx h'→TreeX (fun c=>E c∨c=4*d+5) h0 h' (ext col hx.size h'.size (4*d+5)) s D→Sl h' 1 a' ((s.nd d).names.length+1) c' (Ch.strs ((s.nd d).names++[nm])) (On (ext col hx.size h'.size (4*d+5)) (4*d+5))→k a' ((s.nd d).names.length+1) c' h') :
  AppendP ti9 9 (D.z d).na (s.nd d).names.length (D.z d).nc 1 [.string (mkStr nm)] hx k:=by
 refine append_own (elem:=ti9) (t.names d d1 d2 e5) rfl rfl (by show ((s.nd d).names.length+1)*16≤_; omega) (by omega) fun a' c' h' f S=>?_
 refine hk a' c' h' f (t.step f (fun b _ y=>y) fun y=>by omega) ?_
 rw [show Ch.strs ((s.nd d).names++[nm])=Ch.strs (s.nd d).names++[.string (mkStr nm)] from List.map_append]
 exact grew S
theorem apM (t:TreeX E h0 hx col s D) (d1:1≤d) (d2:d<s.n) (e6:¬ E (4*d+6)) (hl:(s.nd d).nums.length≤1000) {k:Option Addr→Nat→Nat→Heap→Prop}
  (hk:∀ a' c' h',Fr (On col (4*d+6)) hx h'→TreeX (fun c=>E c∨c=4*d+6) h0 h' (ext col hx.size h'.size (4*d+6)) s D→Sl h' 1 a' ((s.nd d).nums.length+1) c' (ints ((s.nd d).nums++[m])) (On (ext col hx.size h'.size (4*d+6)) (4*d+6))→k a' ((s.nd d).nums.length+1) c' h') :
  AppendP ti3 3 (D.z d).ma (s.nd d).nums.length (D.z d).mc 1 [.int .i64 m] hx k:=by
 refine append_own (elem:=ti3) (t.nums d d1 d2 e6) rfl rfl (by show ((s.nd d).nums.length+1)*8≤_; omega) (by omega) fun a' c' h' f S=>?_
 refine hk a' c' h' f (t.step f (fun b _ y=>y) fun y=>by omega) ?_
 rw [show ints ((s.nd d).nums++[m])=ints (s.nd d).nums++[.int .i64 m] from List.map_append]
 exact grew S
theorem ap2 {na ma:Option Addr} {nc mc:Nat} {m':Nat} (t:TreeX (fun c=>E c∨c=4*d+5∨c=4*d+6) h0 hx col s D) (d1:1≤d) (d2:d<s.n) (e:¬ E (4*d+4))
  (S5:Sl hx 1 na ((s.nd d).names.length+1) nc (Ch.strs ((s.nd d).names++[nm])) (On col (4*d+5))) (S6:Sl hx 1 ma ((s.nd d).nums.length+1) mc (ints ((s.nd d).nums++[(m':Int)])) (On col (4*d+6))) {Q:Heap→Prop}
  (hQ:∀ h' col',TreeX E h0 h' col' { s with nd:=upF s.nd d (addN (s.nd d) nm m') } { D with z:=upF D.z d ⟨na,nc,ma,mc⟩ }→Fr (fun b=>b=D.P d) hx h'→Q h') :
  Put (Addr.add ⟨D.P d,0,none⟩ 4) (.slice na ((s.nd d).names.length+1) nc) hx fun h49=>onSome (some ⟨D.P d,0,none⟩) fun p=>Put (Addr.add p 5) (.slice ma ((s.nd d).nums.length+1) mc) h49 Q:=by
 obtain ⟨r,o,cP⟩:=t.node d d1 d2 (by rintro (y|y|y); exact e y; omega; omega)
 have lt:=o.lt
 refine Put.add o (by rw [r]; exact (by decide:0+4<7)) fun h1 g1=>os ?_
 rw [r] at g1
 refine Put.add g1.own (by rw [g1.rd]; exact (by decide:0+5<7)) fun h2 g2=>?_
 rw [g1.rd] at g2
 have z1:=g1.size
 have z2:=g2.size
 have f:Fr (fun b=>b=D.P d) hx h2:=g1.fr.trans g2.fr fun _ _ y=>y
 have hG:∀ b,b<hx.size→b=D.P d→col b=4*d+4:=fun b _ y=>by rw [y]; exact cP
 have T:=t.step (c0:=4*d+4) f hG fun y=>by omega
 have K5:=keepS S5 f hG (by omega)
 have K6:=keepS S6 f hG (by omega)
 generalize hcol:ext col hx.size h2.size (4*d+4)=col2 at T K5 K6
 have cP2:col2 (D.P d)=4*d+4:=by rw [← hcol,ext_old lt]; exact cP
 refine hQ h2 col2 ⟨T.fr,T.lo,fun k k1 k2 ek=>?_,fun k k1 k2 ek=>?_,fun k k1 k2 ek=>?_,fun e1=>T.ptr ?_,fun e1=>T.dirs ?_,fun e1=>T.oth ?_⟩ f
 ·by_cases hk:k=d
  ·subst hk
   show rd h2 (D.P k)=ndV (upF D.z k _ k) (upF s.nd k _ k)∧_
   rw [upF_at,upF_at]
   refine ⟨g2.rd.trans ?_,g2.own,cP2⟩
   show _=ndV ⟨na,nc,ma,mc⟩ (addN (s.nd k) nm m')
   unfold ndV addN
   dsimp only
   rw [List.length_append,List.length_append]; rfl
  ·show rd h2 (D.P k)=ndV (upF D.z d _ k) (upF s.nd d _ k)∧_
   rw [upF_ne _ _ hk,upF_ne _ _ hk]
   exact T.node k k1 k2 (by rintro ((y|y|y)|y); exact ek y; omega; omega; omega)
 ·by_cases hk:k=d
  ·subst hk
   show Sl h2 1 (upF D.z k _ k).na (upF s.nd k _ k).names.length (upF D.z k _ k).nc (Ch.strs (upF s.nd k _ k).names) _
   rw [upF_at,upF_at]
   show Sl h2 1 na ((s.nd k).names++[nm]).length nc (Ch.strs ((s.nd k).names++[nm])) _
   rw [List.length_append]
   exact K5
  ·show Sl h2 1 (upF D.z d _ k).na (upF s.nd d _ k).names.length (upF D.z d _ k).nc (Ch.strs (upF s.nd d _ k).names) _
   rw [upF_ne _ _ hk,upF_ne _ _ hk]
   exact T.names k k1 k2 (by rintro ((y|y|y)|y); exact ek y; omega; omega; omega)
 ·by_cases hk:k=d
  ·subst hk
   show Sl h2 1 (upF D.z k _ k).ma (upF s.nd k _ k).nums.length (upF D.z k _ k).mc (ints (upF s.nd k _ k).nums) _
   rw [upF_at,upF_at]
   show Sl h2 1 ma ((s.nd k).nums++[(m':Int)]).length mc (ints ((s.nd k).nums++[(m':Int)])) _
   rw [List.length_append]
   exact K6
  ·show Sl h2 1 (upF D.z d _ k).ma (upF s.nd d _ k).nums.length (upF D.z d _ k).mc (ints (upF s.nd d _ k).nums) _
   rw [upF_ne _ _ hk,upF_ne _ _ hk]
   exact T.nums k k1 k2 (by rintro ((y|y|y)|y); exact ek y; omega; omega; omega)
 ·rintro ((y|y|y)|y)
  ·exact e1 y
  all_goals omega
 ·rintro ((y|y|y)|y)
  ·exact e1 y
  all_goals omega
 ·rintro ((y|y|y)|y)
  ·exact e1 y
  all_goals omega
end
end Go.Proofs.YtiapingedfnlnaaGreatDoor.Tr
namespace Go.Proofs.YtiapingedfnlnaaGreatDoor.Tr
open Go Go.Proofs Wx Hp W Ad Tm Re Ss
open Hd (ints)
open In (ints_length ints_one)
def AppN (pa:Option Addr) (nl:Nat) (in1:Int) (name1:ByteArray) (n11:Int) (h18:Heap) (Q:Heap→Prop):Prop :=
 (0≤in1∧in1<(nl:Int)) ∧
 onSome pa fun p12 =>
 ∃ (q5:Option Addr),cellOf h18 (Addr.add p12 (Int.toNat in1))=some (.pointer q5) ∧
 (0≤in1∧in1<(nl:Int)) ∧
 onSome pa fun p13 =>
 ∃ (q6:Option Addr),cellOf h18 (Addr.add p13 (Int.toNat in1))=some (.pointer q6) ∧
 (0≤in1∧in1<(nl:Int)) ∧
 onSome pa fun p14 =>
 ∃ (q7:Option Addr),cellOf h18 (Addr.add p14 (Int.toNat in1))=some (.pointer q7) ∧
 onSome q7 fun p15 =>
 ∃ (sA3:Option Addr) (sL3:Nat) (sC3:Nat),cellOf h18 (Addr.add p15 4)=some (.slice sA3 sL3 sC3) ∧
 (0≤in1∧in1<(nl:Int)) ∧
 onSome pa fun p16 =>
 ∃ (q8:Option Addr),cellOf h18 (Addr.add p16 (Int.toNat in1))=some (.pointer q8) ∧
 onSome q8 fun p17 =>
 ∃ (sA4:Option Addr) (sL4:Nat) (sC4:Nat),cellOf h18 (Addr.add p17 5)=some (.slice sA4 sL4 sC4) ∧
 (
 New [.string name1] 9 h18 fun h19 =>
 (cellOf h19 (Addr.add p12 (Int.toNat in1))=some (.pointer q5)) ∧
 (cellOf h19 (Addr.add p13 (Int.toNat in1))=some (.pointer q6)) ∧
 (cellOf h19 (Addr.add p14 (Int.toNat in1))=some (.pointer q7)) ∧
 (cellOf h19 (Addr.add p15 4)=some (.slice sA3 sL3 sC3)) ∧
 (cellOf h19 (Addr.add p16 (Int.toNat in1))=some (.pointer q8)) ∧
 (cellOf h19 (Addr.add p17 5)=some (.slice sA4 sL4 sC4)) ∧
 (
 ∃ new1:List Value,List.length new1=1*1∧SlCells h19 (some ⟨h18.size,0,none⟩) new1∧(∀ v ∈ new1,v.oneCell'=true) ∧
 AppendP ti9 9 sA3 sL3 sC3 1 new1 h19 fun sA5 sL5 sC5 h20 =>
 (cellOf h20 (Addr.add p12 (Int.toNat in1))=some (.pointer q5)) ∧
 (cellOf h20 (Addr.add p13 (Int.toNat in1))=some (.pointer q6)) ∧
 (cellOf h20 (Addr.add p16 (Int.toNat in1))=some (.pointer q8)) ∧
 (cellOf h20 (Addr.add p17 5)=some (.slice sA4 sL4 sC4)) ∧
 New [.int .i64 n11] 3 h20 fun h21 =>
 (cellOf h21 (Addr.add p12 (Int.toNat in1))=some (.pointer q5)) ∧
 (cellOf h21 (Addr.add p13 (Int.toNat in1))=some (.pointer q6)) ∧
 (cellOf h21 (Addr.add p14 (Int.toNat in1))=some (.pointer q7)) ∧
 (cellOf h21 (Addr.add p15 4)=some (.slice sA3 sL3 sC3)) ∧
 (cellOf h21 (Addr.add p16 (Int.toNat in1))=some (.pointer q8)) ∧
 (cellOf h21 (Addr.add p17 5)=some (.slice sA4 sL4 sC4)) ∧
 ∃ new2:List Value,List.length new2=1*1∧SlCells h21 (some ⟨h20.size,0,none⟩) new2∧(∀ v ∈ new2,v.oneCell'=true) ∧
 AppendP ti3 3 sA4 sL4 sC4 1 new2 h21 fun sA6 sL6 sC6 h22 =>
 (cellOf h22 (Addr.add p12 (Int.toNat in1))=some (.pointer q5)) ∧
 (cellOf h22 (Addr.add p13 (Int.toNat in1))=some (.pointer q6)) ∧
 onSome q5 fun p18 =>
 Put (Addr.add p18 4) (.slice sA5 sL5 sC5) h22 fun h23 =>
 onSome q6 fun p19 =>
 Put (Addr.add p19 5) (.slice sA6 sL6 sC6) h23 fun h24 =>
 Q h24) ∧
 New [.int .i64 n11] 3 h19 fun h25 =>
 (cellOf h25 (Addr.add p12 (Int.toNat in1))=some (.pointer q5)) ∧
 (cellOf h25 (Addr.add p13 (Int.toNat in1))=some (.pointer q6)) ∧
 (cellOf h25 (Addr.add p14 (Int.toNat in1))=some (.pointer q7)) ∧
 (cellOf h25 (Addr.add p15 4)=some (.slice sA3 sL3 sC3)) ∧
 (cellOf h25 (Addr.add p16 (Int.toNat in1))=some (.pointer q8)) ∧
 (cellOf h25 (Addr.add p17 5)=some (.slice sA4 sL4 sC4)) ∧
 ∃ new3:List Value,List.length new3=1*1∧SlCells h25 (some ⟨h18.size,0,none⟩) new3∧(∀ v ∈ new3,v.oneCell'=true) ∧
 AppendP ti9 9 sA3 sL3 sC3 1 new3 h25 fun sA7 sL7 sC7 h26 =>
 (cellOf h26 (Addr.add p12 (Int.toNat in1))=some (.pointer q5)) ∧
 (cellOf h26 (Addr.add p13 (Int.toNat in1))=some (.pointer q6)) ∧
 (cellOf h26 (Addr.add p16 (Int.toNat in1))=some (.pointer q8)) ∧
 (cellOf h26 (Addr.add p17 5)=some (.slice sA4 sL4 sC4)) ∧
 ∃ new4:List Value,List.length new4=1*1∧SlCells h26 (some ⟨h19.size,0,none⟩) new4∧(∀ v ∈ new4,v.oneCell'=true) ∧
 AppendP ti3 3 sA4 sL4 sC4 1 new4 h26 fun sA8 sL8 sC8 h27 =>
 (cellOf h27 (Addr.add p12 (Int.toNat in1))=some (.pointer q5)) ∧
 (cellOf h27 (Addr.add p13 (Int.toNat in1))=some (.pointer q6)) ∧
 onSome q5 fun p20 =>
 Put (Addr.add p20 4) (.slice sA7 sL7 sC7) h27 fun h28 =>
 onSome q6 fun p21 =>
 Put (Addr.add p21 5) (.slice sA8 sL8 sC8) h28 fun h29 =>
 Q h29) ∧
 New [.int .i64 n11] 3 h18 fun h30 =>
 (cellOf h30 (Addr.add p12 (Int.toNat in1))=some (.pointer q5)) ∧
 (cellOf h30 (Addr.add p13 (Int.toNat in1))=some (.pointer q6)) ∧
 (cellOf h30 (Addr.add p14 (Int.toNat in1))=some (.pointer q7)) ∧
 (cellOf h30 (Addr.add p15 4)=some (.slice sA3 sL3 sC3)) ∧
 (cellOf h30 (Addr.add p16 (Int.toNat in1))=some (.pointer q8)) ∧
 (cellOf h30 (Addr.add p17 5)=some (.slice sA4 sL4 sC4)) ∧
 New [.string name1] 9 h30 fun h31 =>
 (cellOf h31 (Addr.add p12 (Int.toNat in1))=some (.pointer q5)) ∧
 (cellOf h31 (Addr.add p13 (Int.toNat in1))=some (.pointer q6)) ∧
 (cellOf h31 (Addr.add p14 (Int.toNat in1))=some (.pointer q7)) ∧
 (cellOf h31 (Addr.add p15 4)=some (.slice sA3 sL3 sC3)) ∧
 (cellOf h31 (Addr.add p16 (Int.toNat in1))=some (.pointer q8)) ∧
 (cellOf h31 (Addr.add p17 5)=some (.slice sA4 sL4 sC4)) ∧
 ∃ new5:List Value,List.length new5=1*1∧SlCells h31 (some ⟨h30.size,0,none⟩) new5∧(∀ v ∈ new5,v.oneCell'=true) ∧
 AppendP ti9 9 sA3 sL3 sC3 1 new5 h31 fun sA9 sL9 sC9 h32 =>
 (cellOf h32 (Addr.add p12 (Int.toNat in1))=some (.pointer q5)) ∧
 (cellOf h32 (Addr.add p13 (Int.toNat in1))=some (.pointer q6)) ∧
 (cellOf h32 (Addr.add p16 (Int.toNat in1))=some (.pointer q8)) ∧
 (cellOf h32 (Addr.add p17 5)=some (.slice sA4 sL4 sC4)) ∧
 ∃ new6:List Value,List.length new6=1*1∧SlCells h32 (some ⟨h18.size,0,none⟩) new6∧(∀ v ∈ new6,v.oneCell'=true) ∧
 AppendP ti3 3 sA4 sL4 sC4 1 new6 h32 fun sA10 sL10 sC10 h33 =>
 (cellOf h33 (Addr.add p12 (Int.toNat in1))=some (.pointer q5)) ∧
 (cellOf h33 (Addr.add p13 (Int.toNat in1))=some (.pointer q6)) ∧
 onSome q5 fun p22 =>
 Put (Addr.add p22 4) (.slice sA9 sL9 sC9) h33 fun h34 =>
 onSome q6 fun p23 =>
 Put (Addr.add p23 5) (.slice sA10 sL10 sC10) h34 fun h35 =>
 Q h35
section
variable {h0 hx h' : Heap} {E E' : Nat → Prop} {col : Nat → Nat} {s : Ts} {D : Dt} {d : Nat} {nm : Tm.Txt} {m : Nat}
theorem TreeX.mono (t:TreeX E h0 hx col s D) (h:∀ c,E c→E' c):TreeX E' h0 hx col s D :=
 ⟨t.fr,t.lo,fun k k1 k2 e=>t.node k k1 k2 fun y=>e (h _ y),fun k k1 k2 e=>t.names k k1 k2 fun y=>e (h _ y),fun k k1 k2 e=>t.nums k k1 k2 fun y=>e (h _ y),fun e=>t.ptr fun y=>e (h _ y),fun e=>t.dirs fun y=>e (h _ y),fun e=>t.oth fun y=>e (h _ y)⟩
theorem TreeX.c1 (t:TreeX E h0 hx col s D) (e:¬ E 1) {p:Addr} (ep:D.pa=some p) (d1:1≤d) (d2:d<s.n):cellOf hx (Addr.add p d)=some (.pointer (some ⟨D.P d,0,none⟩)):=by
 obtain ⟨q,eq,c⟩:=t.at_ e d1 d2
 rw [ep] at eq
 rw [Option.some.inj eq]; exact c
theorem TreeX.c4 (t:TreeX E h0 hx col s D) (e:¬ E (4*d+4)) (d1:1≤d) (d2:d<s.n):cellOf hx (Addr.add ⟨D.P d,0,none⟩ 4)=some (.slice (D.z d).na (s.nd d).names.length (D.z d).nc)∧cellOf hx (Addr.add ⟨D.P d,0,none⟩ 5)=some (.slice (D.z d).ma (s.nd d).nums.length (D.z d).mc) :=
 ⟨rda (t.node d d1 d2 e).1 rfl,rda (t.node d d1 d2 e).1 rfl⟩
theorem one_new {h h':Heap} {v:Value} (n:Newly h h' [v]) (hv:v.oneCell'=true):List.length [v]=1*1∧SlCells h' (some ⟨h.size,0,none⟩) [v]∧∀ x ∈ [v],x.oneCell'=true :=
 ⟨rfl,cellsAll n.rd,fun x hx=>by rw [List.mem_singleton.mp hx]; exact hv⟩
theorem app_spec (t:TreeX E h0 hx col s D) (e1:¬ E 1) (e4:¬ E (4*d+4)) (e5:¬ E (4*d+5)) (e6:¬ E (4*d+6)) (d1:1≤d) (d2:d<s.n) (hl:(s.nd d).names.length≤1000) (hlm:(s.nd d).names.length=(s.nd d).nums.length) {Q:Heap→Prop}
  (hQ:∀ h' col' z',TreeX E h0 h' col' { s with nd:=upF s.nd d (addN (s.nd d) nm m) } { D with z:=upF D.z d z' }→hx.size≤h'.size→Q h'):AppN D.pa s.n (d:Int) (mkStr nm) (m:Int) hx Q:=by
 obtain ⟨pA,ep,_⟩:=t.at_ e1 d1 d2
 unfold AppN
 rw [ep,Int.toNat_natCast]
 have c4:=t.c4 e4 d1 d2
 have c1:=t.c1 e1 ep d1 d2
 have rng:(0:Int)≤(d:Int)∧(d:Int)<(s.n:Int):=⟨by omega,by omega⟩
 -- the two appends and what follows
 have two:∀ {h1:Heap} {col1:Nat→Nat},TreeX E h0 h1 col1 s D→(1:Nat)=1:=fun _=>rfl
 have fin:∀ {h3:Heap} {col3:Nat→Nat} {a a':Option Addr} {c c':Nat},TreeX (fun c=>(E c∨c=4*d+5)∨c=4*d+6) h0 h3 col3 s D→hx.size≤h3.size→Sl h3 1 a ((s.nd d).names.length+1) c (Ch.strs ((s.nd d).names++[nm])) (On col3 (4*d+5))→Sl h3 1 a' ((s.nd d).nums.length+1) c' (ints ((s.nd d).nums++[(m:Int)])) (On col3 (4*d+6)) →
   (cellOf h3 (Addr.add pA d)=some (.pointer (some ⟨D.P d,0,none⟩)))∧(cellOf h3 (Addr.add pA d)=some (.pointer (some ⟨D.P d,0,none⟩))) ∧
    onSome (some ⟨D.P d,0,none⟩) fun p18=>Put (Addr.add p18 4) (.slice a ((s.nd d).names.length+1) c) h3 fun h23=>onSome (some ⟨D.P d,0,none⟩) fun p19=>Put (Addr.add p19 5) (.slice a' ((s.nd d).nums.length+1) c') h23 fun h24=>Q h24:=fun {h3 col3 a a' c c'} t3 z S5 S6=>by
  have q1:=t3.c1 (d:=d) (by rintro ((y|y)|y); exact e1 y; omega; omega) ep d1 d2
  refine ⟨q1,q1,os ?_⟩
  exact ap2 (E:=E) (t3.mono fun c y=>by rcases y with (y|y)|y; exact .inl y; exact .inr (.inl y); exact .inr (.inr y)) d1 d2 e4 S5 S6 fun h' col' T f=>hQ h' col' _ T (by have:=f.size; omega)
 have six:∀ {h1:Heap} {col1:Nat→Nat},TreeX E h0 h1 col1 s D→(cellOf h1 (Addr.add pA d)=some (.pointer (some ⟨D.P d,0,none⟩)))∧cellOf h1 (Addr.add ⟨D.P d,0,none⟩ 4)=some (.slice (D.z d).na (s.nd d).names.length (D.z d).nc)∧cellOf h1 (Addr.add ⟨D.P d,0,none⟩ 5)=some (.slice (D.z d).ma (s.nd d).nums.length (D.z d).mc) :=
  fun t1=>⟨t1.c1 e1 ep d1 d2,t1.c4 e4 d1 d2⟩
 have six':∀ {h1:Heap} {col1:Nat→Nat},TreeX (fun c=>E c∨c=4*d+5) h0 h1 col1 s D→(cellOf h1 (Addr.add pA d)=some (.pointer (some ⟨D.P d,0,none⟩)))∧cellOf h1 (Addr.add ⟨D.P d,0,none⟩ 4)=some (.slice (D.z d).na (s.nd d).names.length (D.z d).nc)∧cellOf h1 (Addr.add ⟨D.P d,0,none⟩ 5)=some (.slice (D.z d).ma (s.nd d).nums.length (D.z d).mc) :=
  fun t1=>⟨t1.c1 (by rintro (y|y); exact e1 y; omega) ep d1 d2,t1.c4 (by rintro (y|y); exact e4 y; omega) d1 d2⟩
 have n6:¬ (E (4*d+6)∨4*d+6=4*d+5):=by rintro (y|y); exact e6 y; omega
 refine ⟨rng,os ⟨_,c1,rng,os ⟨_,c1,rng,os ⟨_,c1,os ⟨_,_,_,c4.1,rng,os ⟨_,c1,os ⟨_,_,_,c4.2,?_,?_⟩⟩⟩⟩⟩⟩⟩
 ·refine New.intro fun h19 n19=>?_
  have t19:=t.no n19.fr
  have z19:=n19.size
  obtain ⟨a1,a2,a3⟩:=six t19
  refine ⟨a1,a1,a1,a2,a1,a3,?_,?_⟩
  ·obtain ⟨o1,o2,o3⟩:=one_new n19 rfl
   refine ⟨_,o1,o2,o3,apN t19 d1 d2 e5 hl fun a c h20 f20 t20 S20=>?_⟩
   have z20:=f20.size
   obtain ⟨b1,b2,b3⟩:=six' t20
   refine ⟨b1,b1,b1,b3,New.intro fun h21 n21=>?_⟩
   have t21:=t20.no n21.fr
   have z21:=n21.size
   have S21:=keepS (c0:=0) S20 n21.fr (fun _ _ y=>y.elim) (by omega)
   obtain ⟨g1,g2,g3⟩:=six' t21
   obtain ⟨o1,o2,o3⟩:=one_new n21 rfl
   refine ⟨g1,g1,g1,g2,g1,g3,_,o1,o2,o3,apM t21 d1 d2 n6 (by omega) fun a' c' h22 f22 t22 S22=>?_⟩
   have z22:=f22.size
   exact fin t22 (by omega) (keepS S21 f22 (fun _ _ y=>y) (by omega)) S22
  ·refine New.intro fun h25 n25=>?_
   have t25:=t19.no n25.fr
   have z25:=n25.size
   obtain ⟨b1,b2,b3⟩:=six t25
   have o2:SlCells h25 (some ⟨hx.size,0,none⟩) [.string (mkStr nm)]:=cellsAll ((n25.at_ (by omega)).trans n19.rd)
   refine ⟨b1,b1,b1,b2,b1,b3,_,rfl,o2,fun v hv=>by rw [List.mem_singleton.mp hv]; rfl,apN t25 d1 d2 e5 hl fun a c h26 f26 t26 S26=>?_⟩
   have z26:=f26.size
   obtain ⟨g1,g2,g3⟩:=six' t26
   have nc:¬ On (ext (ext col hx.size h19.size 0) h19.size h25.size 0) (4*d+5) h19.size:=fun y=>by
    have y:ext (ext col hx.size h19.size 0) h19.size h25.size 0 h19.size=4*d+5:=y
    rw [ext_new (Nat.le_refl _) (by omega)] at y
    omega
   have q2:SlCells h26 (some ⟨h19.size,0,none⟩) [.int .i64 (m:Int)]:=cellsAll ((f26.rd (by omega) nc).trans n25.rd)
   refine ⟨g1,g1,g1,g3,_,rfl,q2,fun v hv=>by rw [List.mem_singleton.mp hv]; rfl,apM t26 d1 d2 n6 (by omega) fun a' c' h27 f27 t27 S27=>?_⟩
   have z27:=f27.size
   exact fin t27 (by omega) (keepS S26 f27 (fun _ _ y=>y) (by omega)) S27
 ·refine New.intro fun h30 n30=>?_
  have t30:=t.no n30.fr
  have z30:=n30.size
  obtain ⟨a1,a2,a3⟩:=six t30
  refine ⟨a1,a1,a1,a2,a1,a3,New.intro fun h31 n31=>?_⟩
  have t31:=t30.no n31.fr
  have z31:=n31.size
  obtain ⟨b1,b2,b3⟩:=six t31
  obtain ⟨o1,o2,o3⟩:=one_new n31 rfl
  refine ⟨b1,b1,b1,b2,b1,b3,_,o1,o2,o3,apN t31 d1 d2 e5 hl fun a c h32 f32 t32 S32=>?_⟩
  have z32:=f32.size
  obtain ⟨g1,g2,g3⟩:=six' t32
  have nc:¬ On (ext (ext col hx.size h30.size 0) h30.size h31.size 0) (4*d+5) hx.size:=fun y=>by
   have y:ext (ext col hx.size h30.size 0) h30.size h31.size 0 hx.size=4*d+5:=y
   rw [ext_old (by omega),ext_new (Nat.le_refl _) (by omega)] at y
   omega
  have q2:SlCells h32 (some ⟨hx.size,0,none⟩) [.int .i64 (m:Int)]:=cellsAll ((f32.rd (by omega) nc).trans ((n31.at_ (by omega)).trans n30.rd))
  refine ⟨g1,g1,g1,g3,_,rfl,q2,fun v hv=>by rw [List.mem_singleton.mp hv]; rfl,apM t32 d1 d2 n6 (by omega) fun a' c' h33 f33 t33 S33=>?_⟩
  have z33:=f33.size
  exact fin t33 (by omega) (keepS S32 f33 (fun _ _ y=>y) (by omega)) S33
end
end Go.Proofs.YtiapingedfnlnaaGreatDoor.Tr
namespace Go.Proofs.YtiapingedfnlnaaGreatDoor.Tr
open Go Go.Proofs Wx Hp W Ad Tm Re Ss
open Hd (ints)
open In (ints_length ints_one)
section
variable {h0 hx h' : Heap} {E E' : Nat → Prop} {col : Nat → Nat} {s : Ts} {D : Dt} {d : Nat} {nm : Tm.Txt} {m : Nat}
theorem putNode (t:TreeX E h0 hx col s D) (d1:1≤d) (d2:d<s.n) (e:¬ E (4*d+4)) {i:Nat} {v:Value} (hi:i<7) {x:Nd} (hv:(ndV (D.z d) (s.nd d)).set i v=ndV (D.z d) x) (hn:x.names=(s.nd d).names) (hm:x.nums=(s.nd d).nums) {Q:Heap→Prop}
  (hQ:∀ h' col',TreeX E h0 h' col' { s with nd:=upF s.nd d x } D→Fr (fun b=>b=D.P d) hx h'→(∀ b,b<hx.size→col' b=col b)→h'.size=hx.size→Q h'):Put (Addr.add ⟨D.P d,0,none⟩ i) v hx Q:=by
 obtain ⟨r,o,cP⟩:=t.node d d1 d2 e
 have lt:=o.lt
 refine Put.add o (by rw [r]; show 0+i<7; omega) fun h2 g=>?_
 rw [r,Nat.zero_add,hv] at g
 have hG:∀ b,b<hx.size→b=D.P d→col b=4*d+4:=fun b _ y=>by rw [y]; exact cP
 have T:=t.step (c0:=4*d+4) g.fr hG fun y=>by omega
 have old:∀ b,b<hx.size→ext col hx.size h2.size (4*d+4) b=col b:=fun b hb=>ext_old hb
 generalize ext col hx.size h2.size (4*d+4)=col2 at T old
 refine hQ h2 col2 ⟨T.fr,T.lo,fun k k1 k2 ek=>?_,fun k k1 k2 ek=>?_,fun k k1 k2 ek=>?_,fun e1=>T.ptr ?_,fun e1=>T.dirs ?_,fun e1=>T.oth ?_⟩ g.fr old g.size
 ·by_cases hk:k=d
  ·subst hk
   show rd h2 (D.P k)=ndV (D.z k) (upF s.nd k _ k)∧_
   rw [upF_at]
   exact ⟨g.rd,g.own,(old _ lt).trans cP⟩
  ·show rd h2 (D.P k)=ndV (D.z k) (upF s.nd d _ k)∧_
   rw [upF_ne _ _ hk]
   exact T.node k k1 k2 (by rintro (y|y); exact ek y; omega)
 ·have S:=T.names k k1 k2 (by rintro (y|y); exact ek y; omega)
  show Sl h2 1 (D.z k).na (upF s.nd d _ k).names.length (D.z k).nc (Ch.strs (upF s.nd d _ k).names) _
  by_cases hk:k=d
  ·subst hk; rw [upF_at,hn]; exact S
  ·rw [upF_ne _ _ hk]; exact S
 ·have S:=T.nums k k1 k2 (by rintro (y|y); exact ek y; omega)
  show Sl h2 1 (D.z k).ma (upF s.nd d _ k).nums.length (D.z k).mc (ints (upF s.nd d _ k).nums) _
  by_cases hk:k=d
  ·subst hk; rw [upF_at,hm]; exact S
  ·rw [upF_ne _ _ hk]; exact S
 all_goals
  rintro (y|y)
  ·exact e1 y
  ·omega
theorem ptrs_succ (n:Nat) (P:Nat→Nat) {b:Nat} (h:1≤n):ptrs (n+1) (upF P n b)=ptrs n P++[.pointer (some ⟨b,0,none⟩)]:=by
 unfold ptrs
 rw [List.range_succ,List.map_append]
 congr 1
 ·refine List.map_congr_left fun k hk=>?_
  have:=List.mem_range.mp hk
  unfold ptrV
  rw [upF_ne _ _ (by omega)]
 ·show [ptrV _ n]=_
  unfold ptrV
  rw [if_neg (by omega),upF_at]
theorem nts_succ (l:List Nat) (k:Nat):nts (l++[k])=nts l++[.int .i64 (k:Int)]:=by
 unfold nts
 rw [List.map_append]
 exact List.map_append
structure NewAt (h:Heap) (col:Nat→Nat) (s:Ts) (nb:Nat) (x:Nd):Prop where
 r:rd h nb=ndV ⟨none,0,none,0⟩ x
 o:Own h nb
 c:col nb=4*s.n+4
theorem newNode (t:TreeX E h0 hx col s D) {v:List Value} {x:Nd} (hv:v=ndV ⟨none,0,none,0⟩ x) {h':Heap} (n:Newly hx h' v):TreeX (fun c=>E c∨c=4*s.n+4) h0 h' (ext col hx.size h'.size (4*s.n+4)) s D∧NewAt h' (ext col hx.size h'.size (4*s.n+4)) s hx.size x :=
 ⟨t.step n.fr (fun _ _ y=>y.elim) fun _ _ _ y=>y,n.rd.trans hv,n.own,ext_new (Nat.le_refl _) (by have:=n.size; omega)⟩
theorem NewAt.step {nb:Nat} {x:Nd} {G:Nat→Prop} {c0:Nat} (N:NewAt hx col s nb x) (f:Fr G hx h') (hG:∀ b,b<hx.size→G b→col b=c0) (hc:4*s.n+4≠c0):NewAt h' (ext col hx.size h'.size c0) s nb x:=by
 obtain ⟨a,b,c⟩:=keepN ⟨N.r,N.o,N.c⟩ f hG hc
 exact ⟨a,b,c⟩
theorem putNew {nb:Nat} {x y:Nd} (t:TreeX (fun c=>E c∨c=4*s.n+4) h0 hx col s D) (N:NewAt hx col s nb x) {i:Nat} {v:Value} (hi:i<7) (hv:(ndV ⟨none,0,none,0⟩ x).set i v=ndV ⟨none,0,none,0⟩ y) {Q:Heap→Prop}
  (hQ:∀ h' col',TreeX (fun c=>E c∨c=4*s.n+4) h0 h' col' s D→NewAt h' col' s nb y→h'.size=hx.size→Q h'):Put (Addr.add ⟨nb,0,none⟩ i) v hx Q:=by
 refine Put.add N.o (by rw [N.r]; show 0+i<7; omega) fun h2 g=>?_
 rw [N.r,Nat.zero_add,hv] at g
 have hG:∀ b,b<hx.size→b=nb→col b=4*s.n+4:=fun b _ z=>by rw [z]; exact N.c
 have T:=t.step (c0:=4*s.n+4) g.fr hG fun z=>by omega
 exact hQ h2 _ (T.mono fun c z=>by rcases z with (z|z)|z; exact .inl z; exact .inr z; exact .inr z) ⟨g.rd,g.own,(ext_old N.o.lt).trans N.c⟩ g.size
theorem listed {nb:Nat} {x:Nd} {s':Ts} {D':Dt} (t:TreeX (fun c=>(c=4*s.n+4∨c=1∨c=2)∨c=3) h0 hx col s D) (N:NewAt hx col s nb x) (n1:1≤s.n) (en:s'.n=s.n+1) (end_:s'.nd=upF s.nd s.n x) (eP:D'.P=upF D.P s.n nb) (ez:D'.z=upF D.z s.n ⟨none,0,none,0⟩) (h5:x.names=[]∧x.nums=[])
  (S1:Sl hx 1 D'.pa (s.n+1) D'.pc (ptrs s.n D.P++[.pointer (some ⟨nb,0,none⟩)]) (On col 1)) (S2:Sl hx 1 D'.da s'.dirs.length D'.dc (nts s'.dirs) (On col 2)) (S3:Sl hx 1 D'.oa s'.oth.length D'.oc (nts s'.oth) (On col 3)):TreeX (fun _=>False) h0 hx col s' D':=by
 refine ⟨t.fr,t.lo,fun k k1 k2 _=>?_,fun k k1 k2 _=>?_,fun k k1 k2 _=>?_,fun _=>?_,fun _=>S2,fun _=>S3⟩
 ·rw [eP,ez,end_]
  by_cases hk:k=s.n
  ·subst hk
   rw [upF_at,upF_at,upF_at]
   exact ⟨N.r,N.o,N.c⟩
  ·rw [upF_ne _ _ hk,upF_ne _ _ hk,upF_ne _ _ hk]
   exact t.node k k1 (by omega) (by rintro ((y|y|y)|y) <;> omega)
 ·rw [ez,end_]
  by_cases hk:k=s.n
  ·subst hk
   rw [upF_at,upF_at,h5.1]
   exact Sl.nil _ _ _
  ·rw [upF_ne _ _ hk,upF_ne _ _ hk]
   exact t.names k k1 (by omega) (by rintro ((y|y|y)|y) <;> omega)
 ·rw [ez,end_]
  by_cases hk:k=s.n
  ·subst hk
   rw [upF_at,upF_at,h5.2]
   exact Sl.nil _ _ _
  ·rw [upF_ne _ _ hk,upF_ne _ _ hk]
   exact t.nums k k1 (by omega) (by rintro ((y|y|y)|y) <;> omega)
 ·rw [en,eP,ptrs_succ _ _ n1]
  exact S1
end
end Go.Proofs.YtiapingedfnlnaaGreatDoor.Tr
namespace Go.Proofs.YtiapingedfnlnaaGreatDoor.Tr
open Go Go.Proofs Wx Hp W Ad Tm Re Ss
open Hd (ints)
open In (ints_length ints_one)
def TailT (a0:Option Addr) (l0 c0:Nat) (pa:Option Addr) (nl pc nb:Nat) (in1:Int) (name1:ByteArray) (h40:Heap) (Q:Option Addr→Nat→Nat→Option Addr→Nat→Nat→Heap→Prop):Prop :=
 New [.int .i64 (nl:Int)] 3 h40 fun h41 =>
 ∃ new7:List Value,List.length new7=1*1∧SlCells h41 (some ⟨h40.size,0,none⟩) new7∧(∀ v ∈ new7,v.oneCell'=true) ∧
 AppendP ti3 3 a0 l0 c0 1 new7 h41 fun sA11 sL11 sC11 h42 =>
 New [.pointer (some ⟨nb,0,none⟩)] 59 h42 fun h43 =>
 ∃ new8:List Value,List.length new8=1*1∧SlCells h43 (some ⟨h42.size,0,none⟩) new8∧(∀ v ∈ new8,v.oneCell'=true) ∧
 AppendP ti59 59 pa nl pc 1 new8 h43 fun sA12 sL12 sC12 h44 =>
 AppN sA12 sL12 in1 name1 (nl:Int) h44 fun h=>Q sA11 sL11 sC11 sA12 sL12 sC12 h
section
variable {h0 hx : Heap} {col : Nat → Nat} {s : Ts} {D : Dt} {d nb : Nat} {nm : Tm.Txt} {x : Nd}
theorem tailD (t:TreeX (fun c=>False∨c=4*s.n+4) h0 hx col s D) (N:NewAt hx col s nb x) (d1:1≤d) (d2:d<s.n) (hl:(s.nd d).names.length≤1000) (hlm:(s.nd d).names.length=(s.nd d).nums.length) (h5:x.names=[]∧x.nums=[]) (hr:s.dirs.length≤1000) (hn:s.n≤1000)
  {Q:Option Addr→Nat→Nat→Option Addr→Nat→Nat→Heap→Prop} (hQ:∀ h' col' D',TreeX (fun _=>False) h0 h' col' ⟨s.n+1,upF (upF s.nd s.n x) d (addN (s.nd d) nm s.n),s.dirs++[s.n],s.oth,s.left⟩ D'→D'.oa=D.oa→D'.oc=D.oc→Q D'.da (s.dirs.length+1) D'.dc D'.pa (s.n+1) D'.pc h') :
  TailT D.da s.dirs.length D.dc D.pa s.n D.pc nb (d:Int) (mkStr nm) hx Q:=by
 refine New.intro fun h41 n41=>?_
 have t41:=t.no n41.fr
 have N41:=N.step n41.fr (c0:=0) (fun _ _ y=>y.elim) (by omega)
 obtain ⟨o1,o2,o3⟩:=one_new n41 rfl
 refine ⟨_,o1,o2,o3,append_own (elem:=ti3) (t41.dirs (by rintro (y|y); exact y; omega)) rfl rfl (by show (s.dirs.length+1)*8≤_; omega) (by omega) fun a c h42 f42 S42=>?_⟩
 have t42:=t41.step (c0:=2) f42 (fun _ _ y=>y) (fun y=>absurd y (by decide))
 have N42:=N41.step f42 (c0:=2) (fun _ _ y=>y) (by omega)
 have R42:=grew S42
 rw [← nts_succ] at R42
 refine New.intro fun h43 n43=>?_
 have t43:=t42.no n43.fr
 have N43:=N42.step n43.fr (c0:=0) (fun _ _ y=>y.elim) (by omega)
 have R43:=keepS R42 n43.fr (c0:=0) (fun _ _ y=>y.elim) (by decide)
 obtain ⟨q1,q2,q3⟩:=one_new n43 rfl
 refine ⟨_,q1,q2,q3,append_own (elem:=ti59) (t43.ptr (by rintro ((y|y)|y); exact y; omega; omega)) rfl rfl (by show (s.n+1)*8≤_; omega) (by omega) fun a' c' h44 f44 S44=>?_⟩
 have t44:=t43.step (c0:=1) f44 (fun _ _ y=>y) (fun y=>absurd y (by decide))
 have N44:=N43.step f44 (c0:=1) (fun _ _ y=>y) (by omega)
 have R44:=keepS R43 f44 (c0:=1) (fun _ _ y=>y) (by decide)
 have P44:=grew S44
 generalize ext _ h43.size h44.size 1=col4 at t44 N44 R44 P44
 have T:=listed (s':=⟨s.n+1,upF s.nd s.n x,s.dirs++[s.n],s.oth,s.left⟩) (D':=⟨upF D.P s.n nb,upF D.z s.n ⟨none,0,none,0⟩,a',c',a,c,D.oa,D.oc⟩) (t44.mono fun c y=>by rcases y with ((y|y)|y)|y; exact y.elim; omega; omega; omega) N44 (by omega) rfl rfl rfl rfl h5 P44 (by show Sl h44 1 a (s.dirs++[s.n]).length c _ _; rw [List.length_append]; exact R44) (t44.oth (by rintro (((y|y)|y)|y); exact y; omega; omega; omega))
 have e:(upF s.nd s.n x) d=s.nd d:=upF_ne _ _ (by omega)
 refine app_spec (s:=⟨s.n+1,upF s.nd s.n x,s.dirs++[s.n],s.oth,s.left⟩) (D:=⟨upF D.P s.n nb,upF D.z s.n ⟨none,0,none,0⟩,a',c',a,c,D.oa,D.oc⟩) T (fun y=>y) (fun y=>y) (fun y=>y) (fun y=>y) d1 (by show d<s.n+1; omega) (by show ((upF s.nd s.n x) d).names.length≤1000; rw [e]; exact hl) (by show ((upF s.nd s.n x) d).names.length=((upF s.nd s.n x) d).nums.length; rw [e]; exact hlm) fun h' col' z' T' _=>?_
 have T':TreeX (fun _=>False) h0 h' col' ⟨s.n+1,upF (upF s.nd s.n x) d (addN ((upF s.nd s.n x) d) nm s.n),s.dirs++[s.n],s.oth,s.left⟩ _:=T'
 rw [e] at T'
 exact hQ h' col' _ T' rfl rfl
theorem tailO (t:TreeX (fun c=>False∨c=4*s.n+4) h0 hx col s D) (N:NewAt hx col s nb x) (d1:1≤d) (d2:d<s.n) (hl:(s.nd d).names.length≤1000) (hlm:(s.nd d).names.length=(s.nd d).nums.length) (h5:x.names=[]∧x.nums=[]) (hr:s.oth.length≤1000) (hn:s.n≤1000)
  {Q:Option Addr→Nat→Nat→Option Addr→Nat→Nat→Heap→Prop} (hQ:∀ h' col' D',TreeX (fun _=>False) h0 h' col' ⟨s.n+1,upF (upF s.nd s.n x) d (addN (s.nd d) nm s.n),s.dirs,s.oth++[s.n],s.left⟩ D'→D'.da=D.da→D'.dc=D.dc→Q D'.oa (s.oth.length+1) D'.oc D'.pa (s.n+1) D'.pc h') :
  TailT D.oa s.oth.length D.oc D.pa s.n D.pc nb (d:Int) (mkStr nm) hx Q:=by
 refine New.intro fun h41 n41=>?_
 have t41:=t.no n41.fr
 have N41:=N.step n41.fr (c0:=0) (fun _ _ y=>y.elim) (by omega)
 obtain ⟨o1,o2,o3⟩:=one_new n41 rfl
 refine ⟨_,o1,o2,o3,append_own (elem:=ti3) (t41.oth (by rintro (y|y); exact y; omega)) rfl rfl (by show (s.oth.length+1)*8≤_; omega) (by omega) fun a c h42 f42 S42=>?_⟩
 have t42:=t41.step (c0:=3) f42 (fun _ _ y=>y) (fun y=>absurd y (by decide))
 have N42:=N41.step f42 (c0:=3) (fun _ _ y=>y) (by omega)
 have R42:=grew S42
 rw [← nts_succ] at R42
 refine New.intro fun h43 n43=>?_
 have t43:=t42.no n43.fr
 have N43:=N42.step n43.fr (c0:=0) (fun _ _ y=>y.elim) (by omega)
 have R43:=keepS R42 n43.fr (c0:=0) (fun _ _ y=>y.elim) (by decide)
 obtain ⟨q1,q2,q3⟩:=one_new n43 rfl
 refine ⟨_,q1,q2,q3,append_own (elem:=ti59) (t43.ptr (by rintro ((y|y)|y); exact y; omega; omega)) rfl rfl (by show (s.n+1)*8≤_; omega) (by omega) fun a' c' h44 f44 S44=>?_⟩
 have t44:=t43.step (c0:=1) f44 (fun _ _ y=>y) (fun y=>absurd y (by decide))
 have N44:=N43.step f44 (c0:=1) (fun _ _ y=>y) (by omega)
 have R44:=keepS R43 f44 (c0:=1) (fun _ _ y=>y) (by decide)
 have P44:=grew S44
 generalize ext _ h43.size h44.size 1=col4 at t44 N44 R44 P44
 have T:=listed (s':=⟨s.n+1,upF s.nd s.n x,s.dirs,s.oth++[s.n],s.left⟩) (D':=⟨upF D.P s.n nb,upF D.z s.n ⟨none,0,none,0⟩,a',c',D.da,D.dc,a,c⟩) (t44.mono fun c y=>by rcases y with ((y|y)|y)|y; exact y.elim; omega; omega; omega) N44 (by omega) rfl rfl rfl rfl h5 P44 (t44.dirs (by rintro (((y|y)|y)|y); exact y; omega; omega; omega)) (by show Sl h44 1 a (s.oth++[s.n]).length c _ _; rw [List.length_append]; exact R44)
 have e:(upF s.nd s.n x) d=s.nd d:=upF_ne _ _ (by omega)
 refine app_spec (s:=⟨s.n+1,upF s.nd s.n x,s.dirs,s.oth++[s.n],s.left⟩) (D:=⟨upF D.P s.n nb,upF D.z s.n ⟨none,0,none,0⟩,a',c',D.da,D.dc,a,c⟩) T (fun y=>y) (fun y=>y) (fun y=>y) (fun y=>y) d1 (by show d<s.n+1; omega) (by show ((upF s.nd s.n x) d).names.length≤1000; rw [e]; exact hl) (by show ((upF s.nd s.n x) d).names.length=((upF s.nd s.n x) d).nums.length; rw [e]; exact hlm) fun h' col' z' T' _=>?_
 have T':TreeX (fun _=>False) h0 h' col' ⟨s.n+1,upF (upF s.nd s.n x) d (addN ((upF s.nd s.n x) d) nm s.n),s.dirs,s.oth++[s.n],s.left⟩ _:=T'
 rw [e] at T'
 exact hQ h' col' _ T' rfl rfl
end
end Go.Proofs.YtiapingedfnlnaaGreatDoor.Tr
namespace Go.Proofs.YtiapingedfnlnaaGreatDoor.Tr
open Go Go.Proofs Wx Hp W Ad Tm Re Ss
open Hd (ints)
open In (ints_length ints_one)
theorem wrap_uu (x:Int):IntKind.wrap .u64 x=x % 18446744073709551616:=by
 unfold IntKind.wrap
 exact if_neg fun y=>absurd y (by rw [show IntKind.u64.signed=false from rfl,Bool.false_and]; decide)
theorem wrap_ui (x:Int):IntKind.wrap .u64 (IntKind.wrap .i64 x)=x % 18446744073709551616:=by
 rw [wrap_uu]
 unfold IntKind.wrap
 show (if _ then x % 18446744073709551616 - 18446744073709551616 else x % 18446744073709551616) % 18446744073709551616=_
 have e:(x % 18446744073709551616 - 18446744073709551616) % 18446744073709551616=x % 18446744073709551616:=by
  rw [Int.sub_emod,Int.emod_self,Int.sub_zero,Int.emod_emod,Int.emod_emod]
 split
 ·exact e
 ·exact Int.emod_emod ..
theorem modU_eq {x:Int} {m:Nat} (h0:0<m) (h1:m≤1000000):IntKind.wrap .i64 (Int.tmod (x % 18446744073709551616) (m:Int))=(modU x m:Int):=by
 have p:=Int.emod_nonneg x (show (18446744073709551616:Int)≠0 by decide)
 rw [Int.tmod_eq_emod_of_nonneg p]
 have a:=Int.emod_nonneg (x % 18446744073709551616) (show (m:Int)≠0 by omega)
 have b:=Int.emod_lt_of_pos (x % 18446744073709551616) (show (0:Int)<m by omega)
 rw [wrap_i64 (by omega) (by omega)]
 unfold modU
 omega
theorem kindT_eq (t:Th):IntKind.wrap .i64 (1+IntKind.wrap .i64 (Int.tmod (IntKind.wrap .u64 (IntKind.wrap .i64 (t.kind - 1))) 4))=(kindT t:Int):=by
 have:=modU_lt (x:=t.kind - 1) (m:=4) (by decide)
 have e:=modU_eq (x:=t.kind - 1) (m:=4) (by decide) (by decide)
 rw [wrap_ui]
 have e:IntKind.wrap .i64 (Int.tmod ((t.kind - 1) % 18446744073709551616) 4)=(modU (t.kind - 1) 4:Int):=e
 rw [e,wrap_i64 (by omega) (by omega)]
 unfold kindT
 omega
section
variable {h0 h4 h10 h36 : Heap} {col : Nat → Nat} {s S : Ts} {D D0 : Dt} {s0 : Ts} {d i cnt need : Nat} {nm : Tm.Txt} {t : Th} {left1 n4 : Int} {K : Value → Heap → Prop}
theorem TreeX.le {E:Nat→Prop} {hx:Heap} (t:TreeX E h0 hx col s D) {l:Nat}:TreeX E h0 hx col ⟨s.n,s.nd,s.dirs,s.oth,l⟩ D:=⟨t.fr,t.lo,t.node,t.names,t.nums,t.ptr,t.dirs,t.oth⟩
theorem k6_spec {I1:Int→Option Addr→Nat→Nat→Option Addr→Nat→Nat→Option Addr→Nat→Nat→Int→Heap→Prop} {M1:Int→Option Addr→Nat→Nat→Option Addr→Nat→Nat→Option Addr→Nat→Nat→Int→Heap→Nat}
  (T:TreeX (fun _=>False) h0 h36 col s D) (o:TsOk i s) (hi:i≤40) (d1:1≤d) (d2:d<s.n) (hc:cellOf h36 (Addr.add ⟨h4.size,0,none⟩ 4)=some (.int .i64 (cnt:Int))) (hneed:need≤s.left) (hleft:s.left≤100000) (hn4:0≤n4∧n4≤1000)
  (hS1:cnt≤s.n→S=s)
  (hS2:¬ cnt≤s.n→S={ n:=s.n+1,nd:=upF (upF s.nd d (addN (if kindT t=2 then linkN (s.nd d) else s.nd d) nm s.n)) s.n (newN t d (s.nd d)),dirs:=if kindT t=2 then s.dirs++[s.n] else s.dirs,oth:=if kindT t=2 then s.oth else s.oth++[s.n],left:=s.left - need })
  (H:∀ h' col' D',TreeX (fun _=>False) h0 h' col' S D'→I1 (S.left:Int) D'.pa S.n D'.pc D'.da S.dirs.length D'.dc D'.oa S.oth.length D'.oc (n4+1) h'∧M1 (S.left:Int) D'.pa S.n D'.pc D'.da S.dirs.length D'.dc D'.oa S.oth.length D'.oc (n4+1) h'<M1 left1 D0.pa s0.n D0.pc D0.da s0.dirs.length D0.dc D0.oa s0.oth.length D0.oc n4 h10)
  (e0:D0.pa=D.pa∧D0.pc=D.pc∧D0.da=D.da∧D0.dc=D.dc∧D0.oa=D.oa∧D0.oc=D.oc∧s0.n=s.n∧s0.dirs.length=s.dirs.length∧s0.oth.length=s.oth.length) :
  bolelaw16_Setup_tree.k6 h4 left1 D.pa s.n D.pc D.da s.dirs.length D.dc D.oa s.oth.length D.oc n4 h10 I1 M1 (d:Int) (mkStr nm) t.kind (mkStr (saidT t)) (need:Int) (s.left:Int) h36 K:=by
 obtain ⟨q1,q2,q3,q4,q5,q6,q7,q8,q9⟩:=e0
 rw [q1,q2,q3,q4,q5,q6,q7,q8,q9] at H
 clear q1 q2 q3 q4 q5 q6 q7 q8 q9
 have nn:=o.nn
 have dl:=o.dl
 have ol:=o.ol
 have ln:=o.len d
 have dep:=o.dep d
 have lk:=o.lnk d
 refine ⟨_,hc,?_⟩
 rw [wrap_i64 (show -9223372036854775808≤n4+1 by omega) (by omega)]
 refine cd (fun hge=>?_) fun hge=>?_
 ·have e:=hS1 (by omega)
  subst e
  exact H h36 col D T
 have e:=hS2 (by omega)
 rw [kindT_eq,wrap_i64 (show -9223372036854775808≤(s.left:Int) - (need:Int) by omega) (by omega),show (s.left:Int) - (need:Int)=((s.left - need:Nat):Int) by omega]
 obtain ⟨pA,ep,cp⟩:=T.at_ (fun y=>y) d1 d2
 have nr:=T.node d d1 d2 fun y=>y
 have H':∀ h' col' D' nd',nd'=upF (upF s.nd d (addN (if kindT t=2 then linkN (s.nd d) else s.nd d) nm s.n)) s.n (newN t d (s.nd d))→TreeX (fun _=>False) h0 h' col' ⟨s.n+1,nd',if kindT t=2 then s.dirs++[s.n] else s.dirs,if kindT t=2 then s.oth else s.oth++[s.n],s.left⟩ D'→TreeX (fun _=>False) h0 h' col' S D':=fun h' col' D' nd' en T'=>by
  subst en
  rw [e]
  exact T'.le
 rw [ep]
 refine ⟨⟨by omega,by omega⟩,os ⟨_,by rw [Int.toNat_natCast]; exact cp,os ⟨_,rda nr.1 rfl,?_⟩⟩⟩
 rw [wrap_i64 (show -9223372036854775808≤(s.nd d).depth+1 by omega) (by omega)]
 refine New.intro fun h37 n37=>?_
 obtain ⟨T37,N37⟩:=newNode T (x:=⟨(kindT t:Int),(s.nd d).depth+1,1,[],[],[],0⟩) rfl n37
 have z37:=n37.size
 generalize ext col h36.size h37.size (4*s.n+4)=col37 at T37 N37
 have dn:d≠s.n:=by omega
 refine ce (fun k2=>?_) fun k2=>?_
 ·have k2:kindT t=2:=by omega
  refine putNew T37 N37 (i:=2) (y:=⟨(kindT t:Int),(s.nd d).depth+1,2,[],[],[],0⟩) (by decide) rfl fun h38 col38 T38 N38 z38=>?_
  refine putNew T38 N38 (i:=6) (y:=⟨(kindT t:Int),(s.nd d).depth+1,2,[],[],[],(d:Int)⟩) (by decide) rfl fun h39 col39 T39 N39 z39=>?_
  have c39:=T39.c1 (d:=d) (by rintro (y|y); exact y; omega) ep d1 d2
  have nr39:=T39.node d d1 d2 (by rintro (y|y); exact y; omega)
  refine ⟨⟨by omega,by omega⟩,os ⟨_,by rw [Int.toNat_natCast]; exact c39,os ⟨_,rda nr39.1 rfl,os ?_⟩⟩⟩
  rw [wrap_i64 (show -9223372036854775808≤(s.nd d).links+1 by omega) (by omega)]
  refine putNode T39 d1 d2 (by rintro (y|y); exact y; omega) (i:=2) (x:=linkN (s.nd d)) (by decide) rfl rfl rfl fun h40 col40 T40 f40 old40 z40=>?_
  have nb:h36.size≠D.P d:=fun y=>by
   have a:=N39.c
   rw [y,nr39.2.2] at a
   omega
  have N40:NewAt h40 col40 { s with nd:=upF s.nd d (linkN (s.nd d)) } h36.size ⟨(kindT t:Int),(s.nd d).depth+1,2,[],[],[],(d:Int)⟩:=⟨(f40.rd N39.o.lt nb).trans N39.r,f40.own N39.o.lt nb N39.o,(old40 _ N39.o.lt).trans N39.c⟩
  have ed:(upF s.nd d (linkN (s.nd d))) d=linkN (s.nd d):=upF_at _ _ _
  rw [← ep]
  refine tailD (s:={ s with nd:=upF s.nd d (linkN (s.nd d)) }) (d:=d) (nm:=nm) T40 N40 d1 d2 (by show ((upF s.nd d (linkN (s.nd d))) d).names.length≤1000; rw [ed]; show (s.nd d).names.length≤1000; omega) (by show ((upF s.nd d (linkN (s.nd d))) d).names.length=((upF s.nd d (linkN (s.nd d))) d).nums.length; rw [ed]; exact ln.1) ⟨rfl,rfl⟩ (by show s.dirs.length≤1000; omega) (by show s.n≤1000; omega) fun h' col' D' T' eo eoc=>?_
  have TS:TreeX (fun _=>False) h0 h' col' S D':=H' h' col' D' (upF (upF (upF s.nd d (linkN (s.nd d))) s.n ⟨(kindT t:Int),(s.nd d).depth+1,2,[],[],[],(d:Int)⟩) d (addN ((upF s.nd d (linkN (s.nd d))) d) nm s.n)) (by
   funext k
   rw [k2,if_pos rfl]
   show upF (upF (upF s.nd d (linkN (s.nd d))) s.n _) d (addN ((upF s.nd d (linkN (s.nd d))) d) nm s.n) k=upF (upF s.nd d _) s.n _ k
   by_cases hk:k=d
   ·subst hk; rw [upF_at,upF_ne _ _ dn,upF_at,upF_at]
   ·rw [upF_ne _ _ hk]
    by_cases hn:k=s.n
    ·subst hn; rw [upF_at,upF_at]; unfold newN; rw [if_pos k2]; rfl
    ·rw [upF_ne _ _ hn,upF_ne _ _ hk,upF_ne _ _ hn,upF_ne _ _ hk]) (by rw [if_pos k2,if_pos k2]; exact T')
  have:=H h' col' D' TS
  rw [e] at this
  simp only [k2,if_true,List.length_append,List.length_cons,List.length_nil] at this
  rw [eo,eoc] at this
  exact this
 ·have k2:kindT t≠2:=by omega
  rw [← ep]
  have last:∀ {h38:Heap} {col38:Nat→Nat} {x:Nd},TreeX (fun c=>False∨c=4*s.n+4) h0 h38 col38 s D→NewAt h38 col38 s h36.size x→x=newN t d (s.nd d) →
    TailT D.oa s.oth.length D.oc D.pa s.n D.pc h36.size (d:Int) (mkStr nm) h38 fun a l c pa n pc h=>I1 ((s.left - need:Nat):Int) pa n pc D.da s.dirs.length D.dc a l c (n4+1) h∧M1 ((s.left - need:Nat):Int) pa n pc D.da s.dirs.length D.dc a l c (n4+1) h<M1 left1 D.pa s.n D.pc D.da s.dirs.length D.dc D.oa s.oth.length D.oc n4 h10:=fun {h38 col38 x} T38 N38 ex=>by
   have hx:x.names=[]∧x.nums=[]:=by
    rw [ex]; unfold newN; split
    ·exact ⟨rfl,rfl⟩
    ·split <;> exact ⟨rfl,rfl⟩
   refine tailO (s:=s) (d:=d) (nm:=nm) T38 N38 d1 d2 (by omega) ln.1 hx (by omega) (by omega) fun h' col' D' T' eo eoc=>?_
   have TS:TreeX (fun _=>False) h0 h' col' S D':=H' h' col' D' (upF (upF s.nd s.n x) d (addN (s.nd d) nm s.n)) (by
    funext k
    rw [if_neg k2]
    by_cases hk:k=d
    ·subst hk; rw [upF_at,upF_ne _ _ dn,upF_at]
    ·rw [upF_ne _ _ hk]
     by_cases hn:k=s.n
     ·subst hn; rw [upF_at,upF_at,ex]
     ·rw [upF_ne _ _ hn,upF_ne _ _ hn,upF_ne _ _ hk]) (by rw [if_neg k2,if_neg k2]; exact T')
   have:=H h' col' D' TS
   rw [e] at this
   simp only [if_neg k2,List.length_append,List.length_cons,List.length_nil] at this
   rw [eo,eoc] at this
   exact this
  refine ce (fun k3=>?_) fun k3=>?_
  ·have k3:kindT t=3:=by omega
   refine putNew T37 N37 (i:=3) (y:=⟨(kindT t:Int),(s.nd d).depth+1,1,saidT t,[],[],0⟩) (by decide) rfl fun h38 col38 T38 N38 z38=>?_
   exact last T38 N38 (by unfold newN; rw [if_neg k2,if_pos k3,k3]; rfl)
  ·have k3:kindT t≠3:=by omega
   refine putNew T37 N37 (i:=0) (y:=⟨1,(s.nd d).depth+1,1,[],[],[],0⟩) (by decide) rfl fun h38 col38 T38 N38 z38=>?_
   exact last T38 N38 (by unfold newN; rw [if_neg k2,if_neg k3])
end
end Go.Proofs.YtiapingedfnlnaaGreatDoor.Tr
namespace Go.Proofs.YtiapingedfnlnaaGreatDoor.Tr
open Go Go.Proofs Wx Hp W Ad Tm Re Ss
open Hd (ints)
open In (ints_length ints_one)
section
variable {h0 h4 h10 h17 : Heap} {col : Nat → Nat} {s S : Ts} {D : Dt} {d i cnt need : Nat} {nm : Tm.Txt} {t : Th} {n4 : Int} {K : Value → Heap → Prop}
theorem nts_at {h:Heap} {a:Option Addr} {l:List Nat} (c:SlCells h a (nts l)) {j:Nat} (hj:j<l.length):∃ p,a=some p∧cellOf h (Addr.add p j)=some (.int .i64 ((l.getD j 0:Nat):Int)):=by
 have hj':j<(l.map fun k:Nat=>(k:Int)).length:=by rw [List.length_map]; exact hj
 obtain ⟨p,ep,cp⟩:=cells_int (xs:=l.map fun k:Nat=>(k:Int)) c hj'
 refine ⟨p,ep,?_⟩
 rw [cp,List.getElem_map,List.getD_eq_getElem?_getD,List.getElem?_eq_getElem hj]; rfl
theorem k5_spec {I1:Int→Option Addr→Nat→Nat→Option Addr→Nat→Nat→Option Addr→Nat→Nat→Int→Heap→Prop} {M1:Int→Option Addr→Nat→Nat→Option Addr→Nat→Nat→Option Addr→Nat→Nat→Int→Heap→Nat}
  (T:TreeX (fun _=>False) h0 h17 col s D) (o:TsOk i s) (hi:i≤40) (d1:1≤d) (d2:d<s.n) (dk:(s.nd d).kind=2) (hc:cellOf h17 (Addr.add ⟨h4.size,0,none⟩ 4)=some (.int .i64 (cnt:Int))) (rt:rd h17 h10.size=thV t) (hneed:need≤1000) (hleft:s.left≤100000) (hn4:0≤n4∧n4≤1000)
  (hS:S=if s.left<need then s else if kindT t=4∧s.oth≠[] then
   { s with nd:=upF (upF s.nd (s.oth.getD (modU t.same s.oth.length) 0) (linkN (s.nd (s.oth.getD (modU t.same s.oth.length) 0)))) d (addN (s.nd d) nm (s.oth.getD (modU t.same s.oth.length) 0)),left:=s.left - need }
   else if cnt≤s.n then s else { n:=s.n+1,nd:=upF (upF s.nd d (addN (if kindT t=2 then linkN (s.nd d) else s.nd d) nm s.n)) s.n (newN t d (s.nd d)),dirs:=if kindT t=2 then s.dirs++[s.n] else s.dirs,oth:=if kindT t=2 then s.oth else s.oth++[s.n],left:=s.left - need })
  (H:∀ h' col' D',TreeX (fun _=>False) h0 h' col' S D'→I1 (S.left:Int) D'.pa S.n D'.pc D'.da S.dirs.length D'.dc D'.oa S.oth.length D'.oc (n4+1) h'∧M1 (S.left:Int) D'.pa S.n D'.pc D'.da S.dirs.length D'.dc D'.oa S.oth.length D'.oc (n4+1) h'<M1 (s.left:Int) D.pa s.n D.pc D.da s.dirs.length D.dc D.oa s.oth.length D.oc n4 h10) :
  bolelaw16_Setup_tree.k5 h4 (s.left:Int) D.pa s.n D.pc D.da s.dirs.length D.dc D.oa s.oth.length D.oc n4 h10 I1 M1 (d:Int) (mkStr nm) t.kind h17 (mkStr (saidT t)) (need:Int) K:=by
 have nn:=o.nn
 have ol:=o.ol
 refine cd (fun hgt=>?_) fun hgt=>?_
 ·rw [if_pos (by omega)] at hS
  subst hS
  rw [wrap_i64 (show -9223372036854775808≤n4+1 by omega) (by omega)]
  exact H h17 col D T
 rw [if_neg (by omega)] at hS
 have six:¬ (kindT t=4∧s.oth≠[])→bolelaw16_Setup_tree.k6 h4 (s.left:Int) D.pa s.n D.pc D.da s.dirs.length D.dc D.oa s.oth.length D.oc n4 h10 I1 M1 (d:Int) (mkStr nm) t.kind (mkStr (saidT t)) (need:Int) (s.left:Int) h17 K:=fun hn=>by
  rw [if_neg hn] at hS
  exact k6_spec (D0:=D) (s0:=s) T o hi d1 d2 hc (by omega) hleft hn4 (fun h=>hS.trans (if_pos h)) (fun h=>hS.trans (if_neg h)) H ⟨rfl,rfl,rfl,rfl,rfl,rfl,rfl,rfl,rfl⟩
 have ke:=kindT_eq t
 refine cs (fun k4=>cd (fun hp=>?_) fun hp=>six fun y=>?_) fun k4=>six fun y=>?_
 ·have k4:kindT t=4:=by
   rw [ke] at k4
   have:=eq_of_beq k4
   omega
  have ho:s.oth≠[]:=fun y=>by rw [y] at hp; exact absurd hp (by decide)
  rw [if_pos ⟨k4,ho⟩] at hS
  have hq:=oth_rng o t.same ho
  have hm:=modU_lt (x:=t.same) (List.length_pos_iff.mpr ho)
  obtain ⟨p,epo,cpo⟩:=nts_at (T.oth fun y=>y).cells hm
  generalize s.oth.getD (modU t.same s.oth.length) 0=q at hq cpo hS
  obtain ⟨pA,ep,cq⟩:=T.at_ (fun y=>y) hq.1 hq.2.1
  have nq:=T.node q hq.1 hq.2.1 fun y=>y
  have dq:d≠q:=fun y=>hq.2.2 (y▸dk)
  have lk:=o.lnk q
  have ln:=o.len d
  refine ⟨_,rda rt rfl,?_⟩
  have u1:IntKind.wrap .u64 (s.oth.length:Int)=(s.oth.length:Int):=by rw [wrap_uu]; omega
  rw [u1,if_neg (by omega),wrap_uu,modU_eq (List.length_pos_iff.mpr ho) (by omega),epo,ep,Int.toNat_natCast]
  refine ⟨⟨by omega,by omega⟩,os ⟨_,cpo,⟨by omega,by omega⟩,os ⟨_,by rw [Int.toNat_natCast]; exact cq,os ⟨_,rda nq.1 rfl,os ?_⟩⟩⟩⟩
  rw [wrap_i64 (show -9223372036854775808≤(s.nd q).links+1 by omega) (by omega)]
  refine putNode T hq.1 hq.2.1 (fun y=>y) (i:=2) (x:=linkN (s.nd q)) (by decide) rfl rfl rfl fun h18 col18 T18 f18 old18 z18=>?_
  have e:(upF s.nd q (linkN (s.nd q))) d=s.nd d:=upF_ne _ _ dq
  rw [← ep,← epo,wrap_i64 (show -9223372036854775808≤(s.left:Int) - (need:Int) by omega) (by omega),wrap_i64 (show -9223372036854775808≤n4+1 by omega) (by omega)]
  refine app_spec (s:={ s with nd:=upF s.nd q (linkN (s.nd q)) }) (d:=d) (nm:=nm) (m:=q) T18 (fun y=>y) (fun y=>y) (fun y=>y) (fun y=>y) d1 d2 (by show ((upF s.nd q (linkN (s.nd q))) d).names.length≤1000; rw [e]; omega) (by show ((upF s.nd q (linkN (s.nd q))) d).names.length=((upF s.nd q (linkN (s.nd q))) d).nums.length; rw [e]; exact ln.1) fun h' col' z' T' _=>?_
  have T':TreeX (fun _=>False) h0 h' col' ⟨s.n,upF (upF s.nd q (linkN (s.nd q))) d (addN ((upF s.nd q (linkN (s.nd q))) d) nm q),s.dirs,s.oth,s.left⟩ _:=T'
  rw [e] at T'
  have T2:=T'.le (l:=s.left - need)
  have:=H h' col' _ (hS▸T2)
  rw [hS] at this
  rw [show (s.left:Int) - (need:Int)=((s.left - need:Nat):Int) by omega]
  exact this
 ·have:=y.2
  exact this (List.length_eq_zero_iff.mp (by omega))
 ·rw [ke,y.1] at k4
  exact absurd k4 (by decide)
end
end Go.Proofs.YtiapingedfnlnaaGreatDoor.Tr
namespace Go.Proofs.YtiapingedfnlnaaGreatDoor.Tr
open Go Go.Proofs Wx Hp W Ad Tm Re Ss
open Hd (ints)
open In (ints_length ints_one)
open Sk (nameOk)
theorem said_len (t:Th):1≤(saidT t).length∧(saidT t).length≤1024:=by
 unfold saidT
 split
 ·rename_i h
  unfold textB at h
  simp only [Bool.and_eq_true,decide_eq_true_eq] at h
  exact ⟨h.1.1.2,h.1.2⟩
 ·exact ⟨by decide,by decide⟩
section
variable {h0 h4 h10 h17 : Heap} {col : Nat → Nat} {s S : Ts} {D : Dt} {d i cnt : Nat} {nm : Tm.Txt} {t : Th} {n4 : Int} {K : Value → Heap → Prop}
def Goal (S:Ts) (s:Ts) (D:Dt) (h0 h10:Heap) (n4:Int) (I1:Int→Option Addr→Nat→Nat→Option Addr→Nat→Nat→Option Addr→Nat→Nat→Int→Heap→Prop) (M1:Int→Option Addr→Nat→Nat→Option Addr→Nat→Nat→Option Addr→Nat→Nat→Int→Heap→Nat):Prop :=
 ∀ h' col' D',TreeX (fun _=>False) h0 h' col' S D'→I1 (S.left:Int) D'.pa S.n D'.pc D'.da S.dirs.length D'.dc D'.oa S.oth.length D'.oc (n4+1) h'∧M1 (S.left:Int) D'.pa S.n D'.pc D'.da S.dirs.length D'.dc D'.oa S.oth.length D'.oc (n4+1) h'<M1 (s.left:Int) D.pa s.n D.pc D.da s.dirs.length D.dc D.oa s.oth.length D.oc n4 h10
theorem k3_spec {I1:Int→Option Addr→Nat→Nat→Option Addr→Nat→Nat→Option Addr→Nat→Nat→Int→Heap→Prop} {M1:Int→Option Addr→Nat→Nat→Option Addr→Nat→Nat→Option Addr→Nat→Nat→Int→Heap→Nat}
  (T:TreeX (fun _=>False) h0 h17 col s D) (o:TsOk i s) (hi:i≤40) (d1:1≤d) (d2:d<s.n) (dk:(s.nd d).kind=2) (hc:cellOf h17 (Addr.add ⟨h4.size,0,none⟩ 4)=some (.int .i64 (cnt:Int))) (rt:rd h17 h10.size=thV t) (hleft:s.left≤100000) (hn4:0≤n4∧n4≤1000)
  (hS:S=if s.left<needT t (s.nd d) then s else if kindT t=4∧s.oth≠[] then
   { s with nd:=upF (upF s.nd (s.oth.getD (modU t.same s.oth.length) 0) (linkN (s.nd (s.oth.getD (modU t.same s.oth.length) 0)))) d (addN (s.nd d) nm (s.oth.getD (modU t.same s.oth.length) 0)),left:=s.left - needT t (s.nd d) }
   else if cnt≤s.n then s else { n:=s.n+1,nd:=upF (upF s.nd d (addN (if kindT t=2 then linkN (s.nd d) else s.nd d) nm s.n)) s.n (newN t d (s.nd d)),dirs:=if kindT t=2 then s.dirs++[s.n] else s.dirs,oth:=if kindT t=2 then s.oth else s.oth++[s.n],left:=s.left - needT t (s.nd d) })
  (H:Goal S s D h0 h10 n4 I1 M1) :
  bolelaw16_Setup_tree.k3 h4 (s.left:Int) D.pa s.n D.pc D.da s.dirs.length D.dc D.oa s.oth.length D.oc n4 h10 I1 M1 (d:Int) (mkStr nm) t.kind h17 (mkStr (saidT t)) K:=by
 have ln:=o.len d
 have sl:=said_len t
 have hsz:(mkStr (saidT t)).size=(saidT t).length:=rfl
 obtain ⟨pA,ep,cp⟩:=T.at_ (fun y=>y) d1 d2
 have nd_:=T.node d d1 d2 fun y=>y
 have four:∀ a:Nat,a≤1→needT t (s.nd d)=a+(if kindT t=3 then ((saidT t).length+511) / 512 else 0)→bolelaw16_Setup_tree.k4 h4 (s.left:Int) D.pa s.n D.pc D.da s.dirs.length D.dc D.oa s.oth.length D.oc n4 h10 I1 M1 (d:Int) (mkStr nm) t.kind h17 (mkStr (saidT t)) (a:Int) K:=fun a ha en=>by
  unfold bolelaw16_Setup_tree.k4
  rw [kindT_eq,hsz]
  refine ce (fun k3=>?_) fun k3=>?_
  ·rw [if_pos (by omega)] at en
   have e1:Int.tdiv ((saidT t).length+511:Int) 512=((((saidT t).length+511) / 512:Nat):Int):=rfl
   rw [wrap_i64 (show -9223372036854775808≤((saidT t).length:Int)+511 by omega) (by omega),e1,wrap_i64 (show -9223372036854775808≤((((saidT t).length+511) / 512:Nat):Int) by omega) (by omega),wrap_i64 (show -9223372036854775808≤(a:Int)+((((saidT t).length+511) / 512:Nat):Int) by omega) (by omega),
    show (a:Int)+((((saidT t).length+511) / 512:Nat):Int)=((needT t (s.nd d):Nat):Int) by omega]
   exact k5_spec T o hi d1 d2 dk hc rt (by omega) hleft hn4 hS H
  ·rw [if_neg (by omega)] at en
   rw [show (a:Int)=((needT t (s.nd d):Nat):Int) by omega]
   exact k5_spec T o hi d1 d2 dk hc rt (by omega) hleft hn4 hS H
 refine ⟨⟨by omega,by omega⟩,?_⟩
 have e16:Int.tmod ((s.nd d).names.length:Int) 16=(((s.nd d).names.length % 16:Nat):Int):=rfl
 have go:bif Int.tmod ((s.nd d).names.length:Int) 16 == 0 then bolelaw16_Setup_tree.k4 h4 (s.left:Int) D.pa s.n D.pc D.da s.dirs.length D.dc D.oa s.oth.length D.oc n4 h10 I1 M1 (d:Int) (mkStr nm) t.kind h17 (mkStr (saidT t)) (IntKind.wrap .i64 (0+1)) K else
   bolelaw16_Setup_tree.k4 h4 (s.left:Int) D.pa s.n D.pc D.da s.dirs.length D.dc D.oa s.oth.length D.oc n4 h10 I1 M1 (d:Int) (mkStr nm) t.kind h17 (mkStr (saidT t)) 0 K:=by
  rw [e16]
  refine ce (fun z=>?_) fun z=>?_
  ·exact four 1 (by decide) (by unfold needT; rw [if_pos (by omega)])
  ·exact four 0 (by decide) (by unfold needT; rw [if_neg (by omega)])
 have c4:cellOf h17 (Addr.add ⟨D.P d,0,none⟩ 4)=some (.slice (D.z d).na (s.nd d).names.length (D.z d).nc):=rda nd_.1 rfl
 have fin:onSome (some pA) fun p6=>∃ (q3:Option Addr),cellOf h17 (Addr.add p6 (Int.toNat (d:Int)))=some (.pointer q3)∧onSome q3 fun p7=>∃ (sA2:Option Addr) (sL2:Nat) (sC2:Nat),cellOf h17 (Addr.add p7 4)=some (.slice sA2 sL2 sC2) ∧
   bif Int.tmod (sL2:Int) 16 == 0 then bolelaw16_Setup_tree.k4 h4 (s.left:Int) D.pa s.n D.pc D.da s.dirs.length D.dc D.oa s.oth.length D.oc n4 h10 I1 M1 (d:Int) (mkStr nm) t.kind h17 (mkStr (saidT t)) (IntKind.wrap .i64 (0+1)) K else
   bolelaw16_Setup_tree.k4 h4 (s.left:Int) D.pa s.n D.pc D.da s.dirs.length D.dc D.oa s.oth.length D.oc n4 h10 I1 M1 (d:Int) (mkStr nm) t.kind h17 (mkStr (saidT t)) 0 K :=
  os ⟨_,by rw [Int.toNat_natCast]; exact cp,os ⟨_,_,_,c4,go⟩⟩
 rw [← ep] at fin
 exact fin
end
end Go.Proofs.YtiapingedfnlnaaGreatDoor.Tr
namespace Go.Proofs.YtiapingedfnlnaaGreatDoor.Tr
open Go Go.Proofs Wx Hp Ad Tm
def KtOk (x:Nd):Prop:=0≤x.kind∧x.kind≤3∧(x.kind=3→1≤x.text.length∧x.text.length≤1024)
theorem new_kt (t:Th) (d:Nat) (x:Nd):KtOk (newN t d x):=by
 unfold newN
 split
 ·exact ⟨by show (0:Int)≤2; decide,by show (2:Int)≤3; decide,fun y=>absurd (show (2:Int)=3 from y) (by decide)⟩
 ·split
  ·exact ⟨by show (0:Int)≤3; decide,by show (3:Int)≤3; decide,fun _=>said_len t⟩
  ·exact ⟨by show (0:Int)≤1; decide,by show (1:Int)≤3; decide,fun y=>absurd (show (1:Int)=3 from y) (by decide)⟩
theorem step_kt {cnt i:Nat} {t:Th} {s:Ts} (h:∀ k,KtOk (s.nd k)):∀ k,KtOk ((stepT cnt i t s).nd k):=by
 have ad:∀ {y:Nd} {nm:Tm.Txt} {m:Nat},KtOk y→KtOk (addN y nm m):=fun h=>h
 have lk:∀ {y:Nd},KtOk y→KtOk (linkN y):=fun h=>h
 have up:∀ {f:Nat→Nd} {d:Nat} {y:Nd},(∀ k,KtOk (f k))→KtOk y→∀ k,KtOk (upF f d y k):=fun {f d y} hf hy k=>by
  by_cases e:k=d
  ·subst e; rw [upF_at]; exact hy
  ·rw [upF_ne _ _ e]; exact hf k
 unfold stepT
 split
 ·exact h
 ·split
  ·exact h
  ·split
   ·exact up (up h (lk (h _))) (ad (h _))
   ·split
    ·exact h
    ·refine up (up h (ad ?_)) (new_kt _ _ _)
     split
     ·exact lk (h _)
     ·exact h _
theorem treeGo_kt {cnt:Nat}:∀ (l:List Th) (i:Nat) (s:Ts),(∀ k,KtOk (s.nd k))→∀ k,KtOk ((treeGo cnt i l s).nd k)
 | [],_,_,h=>h
 | t::r,i,s,h=>by
  show ∀ k,KtOk ((if 40≤i then s else treeGo cnt (i+1) r (stepT cnt i t s)).nd k)
  split
  ·exact h
  ·exact treeGo_kt r (i+1) _ (step_kt h)
theorem tree_kt (n:Nat) (l:List Th):∀ k,KtOk ((treeP n l).nd k):=treeGo_kt l 0 _ fun k=>by
 show KtOk (upF (fun _=>nd0) 1 rootN k)
 by_cases e:k=1
 ·subst e; rw [upF_at]; exact ⟨by decide,by decide,fun y=>absurd y (by decide)⟩
 ·rw [upF_ne _ _ e]; exact ⟨by decide,by decide,fun y=>absurd y (by decide)⟩
end Go.Proofs.YtiapingedfnlnaaGreatDoor.Tr
namespace Go.Proofs.YtiapingedfnlnaaGreatDoor.Tr
open Go Go.Proofs Wx Hp W Ad Tm Re Ss
open Hd (ints)
open In (ints_length ints_one)
open Sk (nameOk)
section
variable {h0 h4 h10 h12 h15 : Heap} {col : Nat → Nat} {s S : Ts} {D : Dt} {d i N : Nat} {t : Th} {K : Value → Heap → Prop}
theorem k2_spec {I1:Int→Option Addr→Nat→Nat→Option Addr→Nat→Nat→Option Addr→Nat→Nat→Int→Heap→Prop} {M1:Int→Option Addr→Nat→Nat→Option Addr→Nat→Nat→Option Addr→Nat→Nat→Int→Heap→Nat}
  (T:TreeX (fun _=>False) h0 h15 col s D) (o:TsOk i s) (hi:i≤40) (hd:d=inT t s) (rg:rd h0 h4.size=(Spc.geoN N).v) (lg:h4.size<h0.size) (rt:rd h15 h10.size=thV t) (lt10:h10.size<h15.size) (hleft:s.left≤100000) (htx:t.text.length≤1000000000)
  (hS:S=stepT (Spc.geoN N).count i t s) (H:Goal S s D h0 h10 i I1 M1) :
  bolelaw16_Setup_tree.k2 h4 (s.left:Int) D.pa s.n D.pc D.da s.dirs.length D.dc D.oa s.oth.length D.oc (i:Int) h10 I1 M1 (d:Int) (mkStr (nameT i t (s.nd d))) h15 K:=by
 obtain ⟨d1,d2,dk⟩:=in_rng o t
 unfold stepT at hS
 rw [← hd] at d1 d2 dk hS
 have ln:=o.len d
 obtain ⟨pA,ep,cp⟩:=T.at_ (fun y=>y) d1 d2
 have nd_:=T.nd d1 d2 ⟨fun y=>y,fun y=>y,fun y=>y⟩ ln.1
 have z0:=T.fr.size
 refine ⟨⟨by omega,by omega⟩,?_⟩
 have fin:C.bolelaw16_Node_has (some ⟨D.P d,0,none⟩) (mkStr (nameT i t (s.nd d))) h15 fun r5 h16=>∃ (n8:Int),r5 = .int .i64 n8∧bif (n8 != 0) then (I1 (s.left:Int) D.pa s.n D.pc D.da s.dirs.length D.dc D.oa s.oth.length D.oc (IntKind.wrap .i64 ((i:Int)+1)) h16∧M1 (s.left:Int) D.pa s.n D.pc D.da s.dirs.length D.dc D.oa s.oth.length D.oc (IntKind.wrap .i64 ((i:Int)+1)) h16<M1 (s.left:Int) D.pa s.n D.pc D.da s.dirs.length D.dc D.oa s.oth.length D.oc (i:Int) h10) else (
   ∃ (n9:Int),cellOf h16 (Addr.add ⟨h10.size,0,none⟩ 1)=some (.int .i64 n9)∧∃ (s4:ByteArray),cellOf h16 (Addr.add ⟨h10.size,0,none⟩ 4)=some (.string s4)∧C.bolelaw16_text s4 h16 fun r6 h17=>∃ (b2:Bool),r6 = .bool b2 ∧
    bif (!b2) then (bolelaw16_Setup_tree.k3 h4 (s.left:Int) D.pa s.n D.pc D.da s.dirs.length D.dc D.oa s.oth.length D.oc (i:Int) h10 I1 M1 (d:Int) (mkStr (nameT i t (s.nd d))) n9 h17 (mkStr [120]) K) else (
    bolelaw16_Setup_tree.k3 h4 (s.left:Int) D.pa s.n D.pc D.da s.dirs.length D.dc D.oa s.oth.length D.oc (i:Int) h10 I1 M1 (d:Int) (mkStr (nameT i t (s.nd d))) n9 h17 s4 K)):=by
  refine has_spec nd_ (by omega) ⟨_,rfl,cn (fun hne=>?_) fun he=>?_⟩
  ·rw [if_pos hne] at hS
   subst hS
   rw [wrap_i64 (show -9223372036854775808≤(i:Int)+1 by omega) (by omega)]
   exact H h15 col D T
  rw [if_neg (fun y=>y he)] at hS
  refine ⟨_,rda rt rfl,_,rda rt rfl,text_spec htx fun h17 f17=>⟨_,rfl,?_⟩⟩
  have T17:=T.no f17
  have z17:=f17.size
  have rt17:=(f17.rd lt10 fun y=>y).trans rt
  have hc17:cellOf h17 (Addr.add ⟨h4.size,0,none⟩ 4)=some (.int .i64 ((Spc.geoN N).count:Int)):=rda ((T17.fr.rd lg fun y=>y).trans rg) rfl
  refine cnot (cs (fun hb=>?_) fun hb=>?_)
  ·have e:saidT t=t.text:=by unfold saidT; rw [if_pos hb]
   rw [← e]
   exact k3_spec T17 o hi d1 d2 dk hc17 rt17 hleft ⟨by omega,by omega⟩ hS H
  ·have e:saidT t=[120]:=by unfold saidT; rw [if_neg (by rw [hb]; simp)]
   rw [← e]
   exact k3_spec T17 o hi d1 d2 dk hc17 rt17 hleft ⟨by omega,by omega⟩ hS H
 rw [ep,Int.toNat_natCast] at *
 exact os ⟨_,cp,fin⟩
end
end Go.Proofs.YtiapingedfnlnaaGreatDoor.Tr
namespace Go.Proofs.YtiapingedfnlnaaGreatDoor.Tr
open Go Go.Proofs Wx Hp W Ad Tm Re Ss
open Hd (ints)
open In (ints_length ints_one)
open Sk (nameOk)
section
variable {h0 h4 h10 h12 h15 : Heap} {col : Nat → Nat} {s S : Ts} {D : Dt} {d i N : Nat} {t : Th} {K : Value → Heap → Prop}
theorem k1_spec {I1:Int→Option Addr→Nat→Nat→Option Addr→Nat→Nat→Option Addr→Nat→Nat→Int→Heap→Prop} {M1:Int→Option Addr→Nat→Nat→Option Addr→Nat→Nat→Option Addr→Nat→Nat→Int→Heap→Nat}
  (T:TreeX (fun _=>False) h0 h12 col s D) (o:TsOk i s) (hi:i≤40) (hd:d=inT t s) (rg:rd h0 h4.size=(Spc.geoN N).v) (lg:h4.size<h0.size) (rt:rd h12 h10.size=thV t) (lt10:h10.size<h12.size) (hleft:s.left≤100000) (htx:t.text.length≤1000000000) (hnm:t.name.length≤1000000000)
  (hS:S=stepT (Spc.geoN N).count i t s) (H:Goal S s D h0 h10 i I1 M1) :
  bolelaw16_Setup_tree.k1 h4 (s.left:Int) D.pa s.n D.pc D.da s.dirs.length D.dc D.oa s.oth.length D.oc (i:Int) h10 I1 M1 h12 (d:Int) K:=by
 obtain ⟨d1,d2,dk⟩:=in_rng o t
 rw [← hd] at d1 d2 dk
 have ln:=o.len d
 obtain ⟨pA,ep,cp⟩:=T.at_ (fun y=>y) d1 d2
 have nd_:=T.nd d1 d2 ⟨fun y=>y,fun y=>y,fun y=>y⟩ ln.1
 have lett:¬ (nameOk t.name=true∧hasN (s.nd d).names (s.nd d).nums t.name=0)→C.bolelaw16_letters (i:Int) h12 fun r4 h14=>∃ (s3:ByteArray),r4 = .string s3∧bolelaw16_Setup_tree.k2 h4 (s.left:Int) D.pa s.n D.pc D.da s.dirs.length D.dc D.oa s.oth.length D.oc (i:Int) h10 I1 M1 (d:Int) s3 h14 K:=fun hn=>by
  refine letters_spec (by omega) fun h14 f14=>⟨_,rfl,?_⟩
  have e:ltr i=nameT i t (s.nd d):=by unfold nameT; rw [if_neg hn]
  rw [e]
  have z14:=f14.size
  exact k2_spec (T.no f14) o hi hd rg lg ((f14.rd lt10 fun y=>y).trans rt) (by omega) hleft htx hS H
 refine ⟨_,rda rt rfl,may_spec (by omega) ⟨_,rfl,cnot (cs (fun hb=>?_) fun hb=>lett fun y=>by rw [hb] at y; cases y.1)⟩⟩
 refine ⟨⟨by omega,by omega⟩,?_⟩
 have fin:C.bolelaw16_Node_has (some ⟨D.P d,0,none⟩) (mkStr t.name) h12 fun r7 h106=>∃ (n16:Int),r7 = .int .i64 n16∧bif (n16 != 0) then (
   C.bolelaw16_letters (i:Int) h106 fun r8 h107=>∃ (s5:ByteArray),r8 = .string s5∧bolelaw16_Setup_tree.k2 h4 (s.left:Int) D.pa s.n D.pc D.da s.dirs.length D.dc D.oa s.oth.length D.oc (i:Int) h10 I1 M1 (d:Int) s5 h107 K) else (
   bolelaw16_Setup_tree.k2 h4 (s.left:Int) D.pa s.n D.pc D.da s.dirs.length D.dc D.oa s.oth.length D.oc (i:Int) h10 I1 M1 (d:Int) (mkStr t.name) h106 K):=by
  refine has_spec nd_ (by omega) ⟨_,rfl,cn (fun hne=>lett fun y=>hne y.2) fun he=>?_⟩
  have e:t.name=nameT i t (s.nd d):=by unfold nameT; rw [if_pos ⟨hb,he⟩]
  rw [e]
  exact k2_spec T o hi hd rg lg rt lt10 hleft htx hS H
 rw [ep,Int.toNat_natCast] at *
 exact os ⟨_,cp,fin⟩
theorem step_left (cnt i:Nat) (t:Th) (s:Ts):(stepT cnt i t s).left≤s.left:=by
 unfold stepT
 split
 ·exact Nat.le_refl _
 ·split
  ·exact Nat.le_refl _
  ·split
   ·exact Nat.sub_le _ _
   ·split
    ·exact Nat.le_refl _
    ·exact Nat.sub_le _ _
theorem th_one (t:Th):∀ v ∈ thV t,v.oneCell'=true:=fun v hv=>by
 simp only [thV,List.mem_cons,List.not_mem_nil,or_false] at hv
 rcases hv with rfl|rfl|rfl|rfl|rfl <;> rfl
theorem th_at {h:Heap} {a:Option Addr} {ts:List Th} (Z:SlCells h a (ts.flatMap thV)) {j:Nat} (hj:j<ts.length):∃ p,a=some p∧Cells h (p.add (j*5)) (thV ts[j]):=by
 cases a with
 | none =>
  have Z:ts.flatMap thV=[]:=Z
  have:=flat_length thV 5 ts (fun _ _=>rfl)
  rw [Z,List.length_nil] at this
  omega
 | some p =>
  refine ⟨p,rfl,?_⟩
  have e:=flat_part thV 5 ts (fun _ _=>rfl) j hj
  have c:=(SlCells.take (SlCells.drop (a:=some p) Z (j*5)) 5)
  rw [e] at c
  exact c
theorem root_ok : TsOk 0 ⟨2,upF (fun _=>nd0) 1 rootN,[1],[],0⟩:=by
 have e:∀ k,upF (fun _=>nd0) 1 rootN k=if k=1 then rootN else nd0:=fun k=>rfl
 refine ⟨Nat.le_refl _,Nat.le_refl _,by simp,fun d hd=>?_,fun d hd=>(by cases hd),Nat.le_refl _,Nat.le_refl _,rfl,fun k=>?_,fun k=>?_,fun k=>?_,fun k _ x hx=>?_,fun k _ x hx=>?_⟩
 ·rw [List.mem_singleton.mp hd]; exact ⟨Nat.le_refl _,by show 1<2; decide,rfl⟩
 ·show (upF (fun _=>nd0) 1 rootN k).names.length=_∧_
  dsimp only
  rw [e]
  split <;> exact ⟨rfl,Nat.le_refl _⟩
 ·dsimp only
  rw [e]
  split <;> exact ⟨Int.le_refl _,Int.le_refl _⟩
 ·dsimp only
  rw [e]
  split
  ·exact ⟨by show (0:Int)≤2; decide,by show (2:Int)≤_; decide⟩
  ·exact ⟨Int.le_refl _,by show (0:Int)≤_; decide⟩
 ·dsimp only at hx
  rw [e] at hx
  split at hx <;> cases hx
 ·dsimp only at hx
  rw [e] at hx
  split at hx <;> cases hx
end
end Go.Proofs.YtiapingedfnlnaaGreatDoor.Tr
namespace Go.Proofs.YtiapingedfnlnaaGreatDoor.Tr
open Go Go.Proofs Wx Hp W Ad Tm Re Ss
open Hd (ints)
open In (ints_length ints_one)
def setV (more:Int) (ta:Option Addr) (tl tc:Nat) (pa:Option Addr) (pl pc:Nat):List Value:=[.int .i64 more,.slice ta tl tc,.slice pa pl pc]
theorem setV_one {more:Int} {ta:Option Addr} {tl tc:Nat} {pa:Option Addr} {pl pc:Nat}:∀ v ∈ setV more ta tl tc pa pl pc,v.oneCell'=true:=fun v hv=>by
 simp only [setV,List.mem_cons,List.not_mem_nil,or_false] at hv
 rcases hv with rfl|rfl|rfl <;> rfl
theorem tree_spec {h:Heap} {more:Int} {ta pa:Option Addr} {tl tc pl pc:Nat} {ts:List Th} {K:Value→Heap→Prop} (Z:SlCells h ta (ts.flatMap thV)) (hl:ts.length=tl) (htl:tl≤1000000000) (ht:∀ t ∈ ts,t.name.length≤1000000000∧t.text.length≤1000000000)
  (hK:∀ h0 h' col D i,h.size≤h0.size→Fr No h h'→TreeX (fun _=>False) h0 h' col (treeP (blocksN more) ts) D→i≤40→TsOk i (treeP (blocksN more) ts)→K (.slice D.pa (treeP (blocksN more) ts).n D.pc) h'):C.bolelaw16_Setup_tree (setV more ta tl tc pa pl pc) h K:=by
 have bn:=blocksN_rng more
 have hdt:(Spc.geoN (blocksN more)).data=98+(blocksN more+4095) / 4096+blocksN more / 64:=rfl
 have hbl:(Spc.geoN (blocksN more)).blocks=blocksN more:=rfl
 refine bolelaw16_Setup_tree.ok (New.intro fun h2 n2=>⟨_,rfl,cellsAll n2.rd,blocks_spec rfl fun h3 f3=>⟨_,rfl,Spc.Geo_spec (by omega) fun h4 f4=>⟨_,rfl,NewRow.intro rfl (Spc.G.one _) rfl fun h6 n6=>⟨_,rda n6.rd rfl,_,rda n6.rd rfl,New.intro fun h7 n7=>New.intro fun h8 n8=>New.intro fun h9 n9=>?_⟩⟩⟩⟩)
 have z2:=n2.size
 have z3:=f3.size
 have z4:=f4.size
 have z6:=n6.size
 have z7:=n7.size
 have z8:=n8.size
 have z9:=n9.size
 have F6:Fr No h h6:=((n2.fr.no f3).no f4).new n6
 have f69:Fr No h6 h9:=(n7.fr.new n8).new n9
 have rs:rd h9 h.size=setV more ta tl tc pa pl pc:=(f69.rd (by omega) fun y=>y).trans ((n6.at_ (by omega)).trans ((f4.rd (by omega) fun y=>y).trans ((f3.rd (by omega) fun y=>y).trans n2.rd)))
 refine ⟨_,_,_,rda rs rfl,?_⟩
 rw [wrap_i64 (show -9223372036854775808≤((Spc.geoN (blocksN more)).blocks:Int) - ((Spc.geoN (blocksN more)).data:Int) by omega) (by omega)]
 let col9:Nat→Nat:=fun b=>if b=h6.size then 8 else if b=h7.size then 1 else if b=h8.size then 2 else 0
 let D9:Dt:=⟨fun _=>h6.size,fun _=>⟨none,0,none,0⟩,some ⟨h7.size,0,none⟩,2,some ⟨h8.size,0,none⟩,1,none,0⟩
 let s0:Ts:=⟨2,upF (fun _=>nd0) 1 rootN,[1],[],blocksN more - (Spc.geoN (blocksN more)).data⟩
 have T9:TreeX (fun _=>False) h6 h9 col9 s0 D9:=by
  refine ⟨f69,fun b hb=>?_,fun k k1 k2 _=>?_,fun k k1 k2 _=>?_,fun k k1 k2 _=>?_,fun _=>?_,fun _=>?_,fun _=>Sl.nil _ _ _⟩
  ·have hb:(if b=h6.size then 8 else if b=h7.size then 1 else if b=h8.size then 2 else 0)≠0:=hb
   by_cases e1:b=h6.size
   ·omega
   ·by_cases e2:b=h7.size
    ·omega
    ·by_cases e3:b=h8.size
     ·omega
     ·rw [if_neg e1,if_neg e2,if_neg e3] at hb; exact absurd rfl hb
  ·have:k=1:=by have k2:k<2:=k2; omega
   subst this
   refine ⟨(n9.at_ (by show h6.size<_; omega)).trans ((n8.at_ (by show h6.size<_; omega)).trans n7.rd),n9.ow (n8.ow n7.own),?_⟩
   show (if h6.size=h6.size then 8 else _)=8
   rw [if_pos rfl]
  ·have:k=1:=by have k2:k<2:=k2; omega
   subst this
   exact Sl.nil _ _ _
  ·have:k=1:=by have k2:k<2:=k2; omega
   subst this
   exact Sl.nil _ _ _
  ·refine ⟨rfl,rfl,?_,n9.ow n8.own,Nat.le_refl _,?_,?_⟩
   ·show (if h7.size=h6.size then 8 else if h7.size=h7.size then 1 else _)=1
    rw [if_neg (by omega),if_pos rfl]
   ·show ((rd h9 h7.size).drop 0).take _=_
    rw [n9.at_ (by omega),n8.rd]; rfl
   ·show 0+2*1≤(rd h9 h7.size).length
    rw [n9.at_ (by omega),n8.rd]; exact Nat.le_refl _
  ·refine ⟨rfl,rfl,?_,n9.own,Nat.le_refl _,?_,?_⟩
   ·show (if h8.size=h6.size then 8 else if h8.size=h7.size then 1 else if h8.size=h8.size then 2 else _)=2
    rw [if_neg (by omega),if_neg (by omega),if_pos rfl]
   ·show ((rd h9 h8.size).drop 0).take _=_
    rw [n9.rd]; rfl
   ·show 0+1*1≤(rd h9 h8.size).length
    rw [n9.rd]; exact Nat.le_refl _
 have o9:TsOk 0 s0:=⟨root_ok.n2,root_ok.nn,root_ok.dn,root_ok.dr,root_ok.or_,root_ok.dl,root_ok.ol,root_ok.root,root_ok.len,root_ok.dep,root_ok.lnk,root_ok.nm,root_ok.nu⟩
 refine ⟨fun left pa_ nl pc_ da dl dc oa ol oc n4 hx=>∃ (i:Nat) (s:Ts) (col:Nat→Nat) (D:Dt),n4=i∧i≤ts.length∧i≤40∧left=(s.left:Int)∧(pa_=D.pa∧nl=s.n∧pc_=D.pc∧da=D.da∧dl=s.dirs.length∧dc=D.dc∧oa=D.oa∧ol=s.oth.length∧oc=D.oc)∧TreeX (fun _=>False) h6 hx col s D∧TsOk i s∧treeGo (Spc.geoN (blocksN more)).count i (ts.drop i) s=treeP (blocksN more) ts∧s.left≤100000,
  fun _ _ _ _ _ _ _ _ _ _ n4 _=>((ts.length:Int) - n4).toNat,⟨0,s0,col9,D9,rfl,Nat.zero_le _,Nat.zero_le _,by show ((Spc.geoN (blocksN more)).blocks:Int) - ((Spc.geoN (blocksN more)).data:Int)=((blocksN more - (Spc.geoN (blocksN more)).data:Nat):Int); omega,⟨rfl,rfl,rfl,rfl,rfl,rfl,rfl,rfl,rfl⟩,T9,o9,rfl,by show blocksN more - (Spc.geoN (blocksN more)).data≤100000; omega⟩,?_⟩
 rintro left pa_ nl pc_ da dl dc oa ol oc n4 h10 ⟨i,s,col,D,rfl,hi,hi40,rfl,⟨rfl,rfl,rfl,rfl,rfl,rfl,rfl,rfl,rfl⟩,T,o,eT,sl⟩
 have z10:=T.fr.size
 have F10:Fr No h h10:=F6.trans T.fr fun _ _ y=>y.elim
 refine cd (fun hlt=>?_) fun hge=>?_
 ·have hi':i<ts.length:=by omega
  have Z10:SlCells h10 ta (ts.flatMap thV):=SlCells.fr F10 Z fun _ _ y=>y
  obtain ⟨p,ep,cp⟩:=th_at Z10 hi'
  rw [ep,Int.toNat_natCast]
  have tt:=ht ts[i] (List.getElem_mem hi')
  refine ⟨⟨by omega,by omega⟩,os ⟨_,rfl,cp,NewRow.intro rfl (th_one _) rfl fun h12 n12=>?_⟩⟩
  have T12:=T.no n12.fr
  have z12:=n12.size
  rw [List.drop_eq_getElem_cons hi'] at eT
  refine cd (fun h40=>?_) fun h40=>?_
  ·have e:treeGo (Spc.geoN (blocksN more)).count i (ts[i]::ts.drop (i+1)) s=s:=if_pos (by omega)
   rw [e] at eT
   subst eT
   exact hK h6 h12 _ D i (by omega) (F10.new n12) T12 hi40 o
  have e:treeGo (Spc.geoN (blocksN more)).count i (ts[i]::ts.drop (i+1)) s=treeGo (Spc.geoN (blocksN more)).count (i+1) (ts.drop (i+1)) (stepT (Spc.geoN (blocksN more)).count i ts[i] s):=if_neg (by omega)
  rw [e] at eT
  have nn:=o.nn
  have dl:=o.dl
  have hp:0<s.dirs.length:=List.length_pos_iff.mpr o.dn
  have hm:=modU_lt (x:=ts[i].inn) hp
  have gd:s.dirs.getD (modU ts[i].inn s.dirs.length) 0=s.dirs[modU ts[i].inn s.dirs.length]:=by
   rw [List.getD_eq_getElem?_getD,List.getElem?_eq_getElem hm]; rfl
  have dr:=o.dr _ (List.getElem_mem hm)
  rw [← gd] at dr
  obtain ⟨pd,epd,cpd⟩:=nts_at (T12.dirs fun y=>y).cells hm
  have eIn:inT ts[i] s=if 32≤(s.nd (s.dirs.getD (modU ts[i].inn s.dirs.length) 0)).depth then 1 else s.dirs.getD (modU ts[i].inn s.dirs.length) 0:=rfl
  generalize s.dirs.getD (modU ts[i].inn s.dirs.length) 0=q at dr cpd eIn
  obtain ⟨pA,epA,cpA⟩:=T12.at_ (fun y=>y) dr.1 dr.2.1
  have nq:=T12.node q dr.1 dr.2.1 fun y=>y
  refine ⟨_,rda n12.rd rfl,?_⟩
  have u1:IntKind.wrap .u64 (s.dirs.length:Int)=(s.dirs.length:Int):=by rw [wrap_uu]; omega
  have H:Goal (stepT (Spc.geoN (blocksN more)).count i ts[i] s) s D h6 h10 i (fun left pa_ nl pc_ da dl dc oa ol oc n4 hx=>∃ (i:Nat) (s:Ts) (col:Nat→Nat) (D:Dt),n4=i∧i≤ts.length∧i≤40∧left=(s.left:Int)∧(pa_=D.pa∧nl=s.n∧pc_=D.pc∧da=D.da∧dl=s.dirs.length∧dc=D.dc∧oa=D.oa∧ol=s.oth.length∧oc=D.oc)∧TreeX (fun _=>False) h6 hx col s D∧TsOk i s∧treeGo (Spc.geoN (blocksN more)).count i (ts.drop i) s=treeP (blocksN more) ts∧s.left≤100000)
    (fun _ _ _ _ _ _ _ _ _ _ n4 _=>((ts.length:Int) - n4).toNat):=fun h' col' D' T'=>by
   have:=step_left (Spc.geoN (blocksN more)).count i ts[i] s
   exact ⟨⟨i+1,_,col',D',by omega,by omega,by omega,rfl,⟨rfl,rfl,rfl,rfl,rfl,rfl,rfl,rfl,rfl⟩,T',step_ok o (by omega),eT,by omega⟩,by show ((ts.length:Int) - ((i:Int)+1)).toNat<((ts.length:Int) - (i:Int)).toNat; omega⟩
  have k1:∀ d,d=inT ts[i] s→bolelaw16_Setup_tree.k1 h4 (s.left:Int) D.pa s.n D.pc D.da s.dirs.length D.dc D.oa s.oth.length D.oc (i:Int) h10 _ _ h12 (d:Int) K:=fun d hd =>
   k1_spec (N:=blocksN more) T12 o (by omega) hd n6.rd (by omega) n12.rd (by omega) sl tt.2 tt.1 rfl H
  have go:onSome (some pA) fun p3=>∃ (q1:Option Addr),cellOf h12 (Addr.add p3 (Int.toNat (q:Int)))=some (.pointer q1)∧onSome q1 fun p4=>∃ (n7:Int),cellOf h12 (Addr.add p4 1)=some (.int .i64 n7)∧bif (decide (n7≥32)) then bolelaw16_Setup_tree.k1 h4 (s.left:Int) D.pa s.n D.pc D.da s.dirs.length D.dc D.oa s.oth.length D.oc (i:Int) h10 _ _ h12 1 K else bolelaw16_Setup_tree.k1 h4 (s.left:Int) D.pa s.n D.pc D.da s.dirs.length D.dc D.oa s.oth.length D.oc (i:Int) h10 _ _ h12 (q:Int) K :=
   os ⟨_,by rw [Int.toNat_natCast]; exact cpA,os ⟨_,rda nq.1 rfl,cd (fun h32=>k1 1 (by rw [eIn,if_pos h32])) fun h32=>k1 q (by rw [eIn,if_neg h32])⟩⟩
  rw [← epA] at go
  rw [u1,if_neg (by omega),wrap_uu,modU_eq hp (by omega)]
  refine ⟨⟨by omega,by omega⟩,?_⟩
  have go2:onSome (some pd) fun p2=>∃ (n6:Int),cellOf h12 (Addr.add p2 (Int.toNat ((modU ts[i].inn s.dirs.length:Nat):Int)))=some (.int .i64 n6)∧(0≤n6∧n6<(s.n:Int))∧onSome D.pa fun p3=>∃ (q1:Option Addr),cellOf h12 (Addr.add p3 (Int.toNat n6))=some (.pointer q1)∧onSome q1 fun p4=>∃ (n7:Int),cellOf h12 (Addr.add p4 1)=some (.int .i64 n7)∧bif (decide (n7≥32)) then bolelaw16_Setup_tree.k1 h4 (s.left:Int) D.pa s.n D.pc D.da s.dirs.length D.dc D.oa s.oth.length D.oc (i:Int) h10 _ _ h12 1 K else bolelaw16_Setup_tree.k1 h4 (s.left:Int) D.pa s.n D.pc D.da s.dirs.length D.dc D.oa s.oth.length D.oc (i:Int) h10 _ _ h12 n6 K :=
   os ⟨_,by rw [Int.toNat_natCast]; exact cpd,⟨by omega,by omega⟩,go⟩
  rw [← epd] at go2
  exact go2
 ·rw [List.drop_of_length_le (by omega)] at eT
  have eT:s=treeP (blocksN more) ts:=eT
  subst eT
  exact hK h6 h10 col D i (by omega) F10 T hi40 o
end Go.Proofs.YtiapingedfnlnaaGreatDoor.Tr
namespace Go.Proofs.YtiapingedfnlnaaGreatDoor.Tr
open Go Go.Proofs Wx Hp W Ad Tm Re Ss
open Sk (form)
theorem form_puts {v:Nat} {s:Tm.Txt} (hv:v≠0) (hs:s.length≤27):put ((put ((List.replicate 32 (0:UInt8)).map bv) 0 ((leBs 4 v).map bv)).set 4 (bv (UInt8.ofNat s.length))) 5 (s.map bv)=(form v s).map bv:=by
 have l4:=leB_length 4 v
 have e:form v s=leBs 4 v++(UInt8.ofNat s.length::(s++List.replicate (27 - s.length) 0)):=by
  unfold form; rw [if_neg hv]
 rw [e]
 have lz:((List.replicate 32 (0:UInt8)).map bv).length=32:=by rw [List.length_map,List.length_replicate]
 have l4':((leBs 4 v).map bv).length=4:=by rw [List.length_map]; exact l4
 have ls:(s.map bv).length=s.length:=List.length_map ..
 refine List.ext_getElem? fun i=>?_
 rw [put_get _ _ _ _ (by rw [List.length_set,put_length,lz,ls]; omega),ls,List.map_append,List.getElem?_append,l4']
 by_cases h4:i<4
 ·rw [if_neg (by omega),if_pos h4,List.getElem?_set_ne (by omega),put_get _ _ _ _ (by rw [lz,l4']; omega),if_pos (by omega)]
  rfl
 ·rw [if_neg h4]
  by_cases h5:i=4
  ·subst h5
   rw [if_neg (by omega),List.getElem?_set_self (by rw [put_length,lz]; omega)]; rfl
  ·rw [show i - 4=(i - 5)+1 by omega,List.map_cons,List.getElem?_cons_succ,List.map_append,List.getElem?_append,ls]
   by_cases hi:i<5+s.length
   ·rw [if_pos (by omega),if_pos (by omega)]
   ·rw [if_neg (by omega),if_neg (by omega),List.getElem?_set_ne (by omega),put_get _ _ _ _ (by rw [lz,l4']; omega),if_neg (by rw [l4']; omega),List.getElem?_map,List.getElem?_map,List.getElem?_replicate,List.getElem?_replicate]
    by_cases h32:i<32
    ·rw [if_pos h32,if_pos (by omega)]
    ·rw [if_neg h32,if_neg (by omega)]
end Go.Proofs.YtiapingedfnlnaaGreatDoor.Tr
namespace Go.Proofs.YtiapingedfnlnaaGreatDoor.Tr
open Go Go.Proofs Wx Hp W Ad Tm Re Ss
open Hd (ints)
open In (ints_length ints_one)
open Sk (form)
def DataL (q1:Option Addr) (sA2:Option Addr) (sL2:Nat) (h10:Heap) (Q:Option Addr→Nat→Nat→Heap→Prop):Prop :=
 ∃ (I2:Option Addr→Nat→Nat→Int→Heap→Prop) (M2:Option Addr→Nat→Nat→Int→Heap→Nat),I2 none 0 0 0 h10 ∧
 ∀ (dataA1:Option Addr) (dataL1:Nat) (dataC1:Nat) (n4:Int),∀ h11:Heap,I2 dataA1 dataL1 dataC1 n4 h11 →
 bif (decide (n4<(sL2:Int))) then (
 (0≤n4∧n4<(sL2:Int)) ∧
 onSome sA2 fun p3 =>
 ∃ (s2:ByteArray),cellOf h11 (Addr.add p3 (Int.toNat n4))=some (.string s2) ∧
 (0≤(32:Int)∧(32:Int)≤32∧(1:Int)*32≤281474976710656∧(32:Int)≤281474976710656) ∧
 New (repCells z5 (Int.toNat 32)) 5 h11 fun h12 =>
 (0≤(4:Int)∧(4:Int)≤((Int.toNat 32):Int)) ∧
 onSome q1 fun p4 =>
 ∃ (sA3:Option Addr) (sL3:Nat) (sC3:Nat),cellOf h12 (Addr.add p4 5)=some (.slice sA3 sL3 sC3) ∧
 (0≤n4∧n4<(sL3:Int)) ∧
 onSome sA3 fun p5 =>
 ∃ (n5:Int),cellOf h12 (Addr.add p5 (Int.toNat n4))=some (.int .i64 n5) ∧
 C.bolelaw16_low (some ⟨h11.size,0,none⟩) (Int.toNat 4) (Int.toNat 32) n5 h12 fun r4 h13 =>
 r4 = .tuple #[] ∧
 (0≤(4:Int)∧4<((Int.toNat 32):Int)) ∧
 Put (Addr.add ⟨h11.size,0,none⟩ (Int.toNat 4)) (.int .u8 (IntKind.wrap .u8 ((s2.size:Int)))) h13 fun h14 =>
 (0≤(5:Int)∧5≤((Int.toNat 32):Int)) ∧
 CopyP ti5 (if (Int.toNat 32)=(Int.toNat 5) then (some ⟨h11.size,0,none⟩) else Option.map (Addr.add · (Int.toNat 5)) (some ⟨h11.size,0,none⟩)) ((Int.toNat 32) - (Int.toNat 5)) (.string s2) h14 fun n6 h15 =>
 ∃ new1:List Value,List.length new1=(Int.toNat 32)*1∧SlCells h15 (some ⟨h11.size,0,none⟩) new1∧(∀ v ∈ new1,v.oneCell'=true) ∧
 AppendP ti5 5 dataA1 dataL1 dataC1 (Int.toNat 32) new1 h15 fun sA4 sL4 sC4 h16 =>
 I2 sA4 sL4 sC4 (IntKind.wrap .i64 (n4+1)) h16∧M2 sA4 sL4 sC4 (IntKind.wrap .i64 (n4+1)) h16<M2 dataA1 dataL1 dataC1 n4 h11) else (
 Q dataA1 dataL1 dataC1 h11)
def cellsB (x:Nd) (k:Nat):Tm.Txt:=(List.range k).flatMap fun j=>form (x.nums.getD j 0).toNat (x.names.getD j [])
theorem cellsB_succ (x:Nd) (k:Nat):cellsB x (k+1)=cellsB x k++form (x.nums.getD k 0).toNat (x.names.getD k []):=by
 unfold cellsB
 rw [List.range_succ,List.flatMap_append,List.flatMap_cons,List.flatMap_nil,List.append_nil]
theorem form_len {v:Nat} {s:Tm.Txt} (hv:v≠0) (hs:s.length≤27):(form v s).length=32:=by
 unfold form
 rw [if_neg hv,List.length_append,leB_length,List.length_cons,List.length_append,List.length_replicate]
 omega
section
variable {h : Heap} {z : NdS} {x : Nd} {nb : Nat}
theorem data_spec {Q:Option Addr→Nat→Nat→Heap→Prop} (N:NdAt h nb z x) (hl:x.names.length≤1000) (hn:∀ s ∈ x.names,s.length≤27) (hm:∀ m ∈ x.nums,1≤m∧m<4294967296)
  (hQ:∀ a l c h',Fr No h h'→l=32*x.names.length→Sl h' 1 a l c ((cellsB x x.names.length).map bv) (From h.size)→Q a l c h'):DataL (some ⟨nb,0,none⟩) z.na x.names.length h Q:=by
 have len:=N.len
 refine ⟨fun a l c n4 hx=>∃ k:Nat,n4=k∧k≤x.names.length∧l=32*k∧Fr No h hx∧Sl hx 1 a l c ((cellsB x k).map bv) (From h.size),fun _ _ _ n4 _=>((x.names.length:Int) - n4).toNat,⟨0,rfl,Nat.zero_le _,rfl,Fr.refl _ _,Sl.nil _ _ _⟩,?_⟩
 rintro a l c n4 h11 ⟨k,rfl,hk,rfl,F,S⟩
 have z11:=F.size
 refine cd (fun hlt=>?_) fun hge=>?_
 ·have hk':k<x.names.length:=by omega
  obtain ⟨p,ep,cp⟩:=cells_str (SlCells.fr F N.na fun _ _ y=>y) hk'
  rw [ep,Int.toNat_natCast]
  refine ⟨⟨by omega,by omega⟩,os ⟨_,cp,⟨by decide,by decide,by decide,by decide⟩,New.intro fun h12 n12=>⟨⟨by decide,by decide⟩,?_⟩⟩⟩
  have z12:=n12.size
  have F12:Fr No h h12:=F.new n12
  have lt:nb<h.size:=rd_lt (o:=0) (v := .int .i64 x.kind) (by rw [N.r]; rfl)
  have r12:rd h12 nb=ndV z x:=(F12.rd lt fun y=>y).trans N.r
  obtain ⟨p5,ep5,cp5⟩:=cells_int (SlCells.fr F12 N.ma fun _ _ y=>y) (j:=k) (by omega)
  refine os ⟨_,_,_,rda r12 rfl,⟨by omega,by omega⟩,?_⟩
  rw [ep5]
  have nmk:=hn _ (List.getElem_mem hk')
  have nuk:=hm _ (List.getElem_mem (l:=x.nums) (n:=k) (by omega))
  have en:x.nums.getD k 0=x.nums[k]'(by omega):=by rw [List.getD_eq_getElem?_getD,List.getElem?_eq_getElem]; rfl
  have es:x.names.getD k []=x.names[k]:=by rw [List.getD_eq_getElem?_getD,List.getElem?_eq_getElem]; rfl
  have ce:=cellsB_succ x k
  rw [en,es] at ce
  generalize x.names[k]=s at nmk ce
  generalize x.nums[k]'(by omega)=m at cp5 nuk ce
  obtain ⟨v,ev⟩:∃ v:Nat,m=v:=⟨m.toNat,by omega⟩
  subst ev
  rw [Int.toNat_natCast] at ce
  have hsz:(mkStr s).size=s.length:=rfl
  have r0:rd h12 h11.size=(List.replicate 32 (0:UInt8)).map bv:=n12.rd
  refine os ⟨_,cp5,low_spec n12.own (by rw [r0,List.length_map,List.length_replicate]; decide) (by decide) (by omega) fun h13 d13=>⟨rfl,⟨by decide,by decide⟩,?_⟩⟩
  have r1:=d13.rd
  rw [r0] at r1
  rw [hsz,In.bv_nat]
  refine Put.add d13.own (by rw [r1,put_length,List.length_map,List.length_replicate]; decide) fun h14 d14=>⟨⟨by decide,by decide⟩,?_⟩
  have r2:=d14.rd
  rw [r1] at r2
  have l2:(rd h14 h11.size).length=32:=by rw [r2,List.length_set,put_length,List.length_map,List.length_replicate]
  rw [if_neg (by decide),Option.map_some,add_mk]
  refine Fi.copy_str (m:=s.length) (new:=s) rfl (by rw [hsz]; show min s.length 27=s.length; omega) (by rw [toList_mkStr,List.take_length]) rfl d14.own (by rw [l2]; show 0+5+s.length≤32; omega) fun h15 d15=>?_
  have r3:=d15.rd
  rw [r2] at r3
  have r4:rd h15 h11.size=(form v s).map bv:=r3.trans (form_puts (by omega) nmk)
  have fl:=form_len (v:=v) (s:=s) (by omega) nmk
  have z13:=d13.size
  have z14:=d14.size
  have z15:=d15.size
  have f15:Fr (fun b=>b=h11.size) h12 h15:=(d13.fr.trans d14.fr fun _ _ y=>y).trans d15.fr fun _ _ y=>y
  have S15:Sl h15 1 a (32*k) c ((cellsB x k).map bv) (From h.size):=Sl.fr (n12.fr.trans f15 fun b hb y=>by have y:b=h11.size:=y; omega) S fun _ _ _ y=>y
  have F15:Fr No h h15:=F12.trans f15 fun b hb y=>by have y:b=h11.size:=y; omega
  refine ⟨(form v s).map bv,by rw [List.length_map,fl]; rfl,cellsAll r4,fun w hw=>by obtain ⟨u,_,rfl⟩:=List.mem_map.mp hw; rfl,?_⟩
  refine append_own (elem:=ti5) S15 (by rw [List.length_map,fl]; rfl) rfl (by show (32*k+32)*1≤_; omega) (by show 32*k+32≤_; omega) fun a' c' h16 f16 S16=>?_
  rw [wrap_i64 (show -9223372036854775808≤(k:Int)+1 by omega) (by omega)]
  refine ⟨⟨k+1,by omega,by omega,by show 32*k+32=32*(k+1); omega,F15.trans f16 fun b hb y=>by have y:h.size≤b:=y; omega,?_⟩,by show ((x.names.length:Int) - ((k:Int)+1)).toNat<((x.names.length:Int) - (k:Int)).toNat; omega⟩
  rw [ce,List.map_append]
  exact S16.mono fun b y=>by
   rcases y with y|y
   ·exact y
   ·show h.size≤b; omega
 ·have:k=x.names.length:=by omega
  subst this
  exact hQ a _ c h11 F rfl S
end
end Go.Proofs.YtiapingedfnlnaaGreatDoor.Tr
namespace Go.Proofs.YtiapingedfnlnaaGreatDoor.Tr
open Go Go.Proofs Wx Hp Ad Tm Bt Spc Re
open Hd (flat4 flat4_length)
open In (encR enc3)
open Bm (Im)
def dataP (x:Nd):Tm.Txt:=if x.kind=3 then x.text else cellsB x x.names.length
def sizeP (x:Nd):Nat:=if x.kind=3 then x.text.length else (32*x.names.length+511) / 512*512
def blkP (off:Nat) (data:Tm.Txt) (free:Nat):Nat→Tm.Txt→Tm.Txt
 | 0,L=>L
 | k+1,L=>putU (putU (blkP off data free k L) (off+8+4*k) (leBs 4 (free+k))) (512*(free+k)) ((data.drop (512*k)).take 512)
def headP (off:Nat) (x:Nd) (L:Tm.Txt):Tm.Txt:=putU (putU (putU L off (leBs 1 x.kind.toNat)) (off+2) (leBs 2 x.links.toNat)) (off+4) (leBs 4 (sizeP x))
def nodeP (off:Nat) (x:Nd) (free:Nat) (L:Tm.Txt):Tm.Txt:=blkP off (dataP x) free (blkN x) (headP off x L)
def nodesP (ino data:Nat) (f:Nat→Nd):Nat→Tm.Txt→Tm.Txt
 | 0,L=>L
 | m+1,L=>nodeP (512*ino+64*(m+1)) (f (m+1)) (data+sumB f (m+1)) (nodesP ino data f m L)
def slc (L:Tm.Txt) (o w:Nat):Tm.Txt:=(L.drop o).take w
theorem slc_len {L:Tm.Txt} {o w:Nat} (h:o+w≤L.length):(slc L o w).length=w:=by
 unfold slc; rw [List.length_take,List.length_drop]; omega
theorem slc_get {L:Tm.Txt} {o w i:Nat} (hi:i<w):(slc L o w)[i]?=L[o+i]?:=by
 unfold slc; rw [List.getElem?_take,if_pos hi,List.getElem?_drop]
theorem putU_at {xs ys:Tm.Txt} {o:Nat} (h:o+ys.length≤xs.length) (i:Nat):(putU xs o ys)[i]?=if o≤i∧i<o+ys.length then ys[i - o]? else xs[i]?:=by
 unfold putU
 rw [List.append_assoc,List.getElem?_append,List.length_take,show min o xs.length=o by omega]
 by_cases h1:i<o
 ·rw [if_pos h1,if_neg (by omega),List.getElem?_take,if_pos h1]
 ·rw [if_neg h1,List.getElem?_append]
  by_cases h2:i<o+ys.length
  ·rw [if_pos (by omega),if_pos (by omega)]
  ·rw [if_neg (by omega),if_neg (by omega),List.getElem?_drop,show o+ys.length+(i - o - ys.length)=i by omega]
theorem slc_out {L ys:Tm.Txt} {o q w:Nat} (h:o+ys.length≤q∨q+w≤o) (h3:o+ys.length≤L.length):slc (putU L o ys) q w=slc L q w:=by
 refine List.ext_getElem? fun i=>?_
 by_cases hi:i<w
 ·rw [slc_get hi,slc_get hi,putU_at h3,if_neg (by omega)]
 ·unfold slc
  rw [List.getElem?_take,List.getElem?_take,if_neg hi,if_neg hi]
theorem slc_in {L ys:Tm.Txt} {o q w:Nat} (h1:q≤o) (h2:o+ys.length≤q+w) (h3:q+w≤L.length):slc (putU L o ys) q w=putU (slc L q w) (o - q) ys:=by
 refine List.ext_getElem? fun i=>?_
 have hl:=slc_len (L:=L) h3
 rw [putU_at (by rw [hl]; omega)]
 by_cases hi:i<w
 ·rw [slc_get hi,slc_get hi,putU_at (by omega)]
  by_cases c:o≤q+i∧q+i<o+ys.length
  ·rw [if_pos c,if_pos (by omega),show q+i - o=i - (o - q) by omega]
  ·rw [if_neg c,if_neg (by omega)]
 ·rw [if_neg (by omega)]
  unfold slc
  rw [List.getElem?_take,List.getElem?_take,if_neg hi,if_neg hi]
theorem putU_mid {A zs B ys:Tm.Txt} (h:zs.length=ys.length):putU (A++(zs++B)) A.length ys=A++(ys++B):=by
 unfold putU
 rw [List.take_left,List.append_assoc,← h,← List.length_append,← List.append_assoc A zs B,List.drop_left]
theorem flat4_app (a b:List Int):flat4 (a++b)=flat4 a++flat4 b:=by unfold flat4; rw [List.flatMap_append]
section
variable {off free : Nat} {data : Tm.Txt}
theorem chunk_le (data:Tm.Txt) (k:Nat):((data.drop (512*k)).take 512).length≤512:=by rw [List.length_take]; omega
theorem blkP_length : ∀ (m:Nat) (L:Tm.Txt),m≤12→off+64≤L.length→(∀ k,k<m→512*(free+k)+512≤L.length)→(blkP off data free m L).length=L.length
 | 0,_,_,_,_=>rfl
 | k+1,L,hm,ho,h=>by
  have ih:=blkP_length k L (by omega) ho fun j hj=>h j (by omega)
  have hk:=h k (Nat.lt_succ_self _)
  have l4:=leB_length 4 (free+k)
  have lt:=chunk_le data k
  show (putU (putU (blkP off data free k L) _ _) _ _).length=_
  have l1:(putU (blkP off data free k L) (off+8+4*k) (leBs 4 (free+k))).length=L.length:=by rw [putU_length (by rw [ih,l4]; omega),ih]
  rw [putU_length (by rw [l1]; omega),l1]
theorem blkP_rec {H:Tm.Txt} (hH:H.length=8):∀ (m:Nat) (L:Tm.Txt),m≤12→off+64≤L.length→(∀ k,k<m→512*(free+k)+512≤L.length)→off+64≤512*free→slc L off 64=H++List.replicate 56 0 →
  slc (blkP off data free m L) off 64=H++(flat4 ((List.range m).map fun j=>((free+j:Nat):Int))++List.replicate (56 - 4*m) 0)
 | 0,L,_,_,_,_,h=>by show slc L off 64=_; rw [h]; rfl
 | k+1,L,hm,ho,hb,hf,h=>by
  have ih:=blkP_rec hH k L (by omega) ho (fun j hj=>hb j (by omega)) hf h
  have ln:=blkP_length (off:=off) (free:=free) (data:=data) k L (by omega) ho fun j hj=>hb j (by omega)
  have hk:=hb k (Nat.lt_succ_self _)
  have l4:=leB_length 4 (free+k)
  have lt:=chunk_le data k
  have l1:(putU (blkP off data free k L) (off+8+4*k) (leBs 4 (free+k))).length=L.length:=by rw [putU_length (by rw [ln,l4]; omega),ln]
  show slc (putU (putU (blkP off data free k L) _ _) _ _) off 64=_
  rw [slc_out (.inr (by omega)) (by rw [l1]; omega),slc_in (by omega) (by rw [l4]; omega) (by rw [ln]; omega),ih]
  generalize hl:(List.range k).map (fun j=>((free+j:Nat):Int))=l
  have ll:l.length=k:=by rw [← hl,List.length_map,List.length_range]
  have e1:H++(flat4 l++List.replicate (56 - 4*k) (0:UInt8))=(H++flat4 l)++(List.replicate 4 0++List.replicate (56 - 4*(k+1)) 0):=by
   rw [List.replicate_append_replicate,List.append_assoc,show 4+(56 - 4*(k+1))=56 - 4*k by omega]
  have e2:off+8+4*k - off=(H++flat4 l).length:=by rw [List.length_append,hH,flat4_length,ll]; omega
  rw [e1,e2,putU_mid (by rw [l4,List.length_replicate]),List.range_succ,List.map_append,flat4_app,hl,List.append_assoc,List.append_assoc]
  show _=H++(flat4 l++((leBs 4 ((free+k:Nat):Int).toNat++[])++List.replicate (56 - 4*(k+1)) 0))
  rw [Int.toNat_natCast,List.append_nil]
theorem blkP_out {q w:Nat}:∀ (m:Nat) (L:Tm.Txt),m≤12→off+64≤L.length→(∀ k,k<m→512*(free+k)+512≤L.length)→(off+64≤q∨q+w≤off)→(∀ k,k<m→512*(free+k)+512≤q∨q+w≤512*(free+k))→slc (blkP off data free m L) q w=slc L q w
 | 0,_,_,_,_,_,_=>rfl
 | k+1,L,hm,ho,hb,h1,h2=>by
  have ih:=blkP_out k L (by omega) ho (fun j hj=>hb j (by omega)) h1 fun j hj=>h2 j (by omega)
  have ln:=blkP_length (off:=off) (free:=free) (data:=data) k L (by omega) ho fun j hj=>hb j (by omega)
  have hk:=hb k (Nat.lt_succ_self _)
  have hk2:=h2 k (Nat.lt_succ_self _)
  have l4:=leB_length 4 (free+k)
  have lt:=chunk_le data k
  have l1:(putU (blkP off data free k L) (off+8+4*k) (leBs 4 (free+k))).length=L.length:=by rw [putU_length (by rw [ln,l4]; omega),ln]
  show slc (putU (putU (blkP off data free k L) _ _) _ _) q w=_
  rw [slc_out (by omega) (by rw [l1]; omega),slc_out (by rw [l4]; omega) (by rw [ln,l4]; omega),ih]
theorem blkP_blk : ∀ (m:Nat) (L:Tm.Txt),m≤12→off+64≤L.length→(∀ k,k<m→512*(free+k)+512≤L.length)→off+64≤512*free→∀ j,j<m →
  slc (blkP off data free m L) (512*(free+j)) 512=putU (slc L (512*(free+j)) 512) 0 ((data.drop (512*j)).take 512)
 | 0,_,_,_,_,_,j,hj=>absurd hj (Nat.not_lt_zero _)
 | k+1,L,hm,ho,hb,hf,j,hj=>by
  have ln:=blkP_length (off:=off) (free:=free) (data:=data) k L (by omega) ho fun j hj=>hb j (by omega)
  have hk:=hb k (Nat.lt_succ_self _)
  have l4:=leB_length 4 (free+k)
  have lt:=chunk_le data k
  have l1:(putU (blkP off data free k L) (off+8+4*k) (leBs 4 (free+k))).length=L.length:=by rw [putU_length (by rw [ln,l4]; omega),ln]
  show slc (putU (putU (blkP off data free k L) _ _) _ _) (512*(free+j)) 512=_
  by_cases e:j=k
  ·subst e
   rw [slc_in (Nat.le_refl _) (by omega) (by rw [l1]; omega),slc_out (by rw [l4]; omega) (by rw [ln,l4]; omega),blkP_out j L (by omega) ho (fun j hj=>hb j (by omega)) (.inl (by omega)) fun i hi => .inl (by omega),Nat.sub_self]
  ·rw [slc_out (by omega) (by rw [l1]; omega),slc_out (by rw [l4]; omega) (by rw [ln,l4]; omega)]
   exact blkP_blk k L (by omega) ho (fun j hj=>hb j (by omega)) hf j (by omega)
theorem blkP_im {n:Nat} {U:Nat→Bool}:∀ (m:Nat) (L:Tm.Txt),m≤12→off+64≤512*n→512*(geoN n).inodes≤off→off≤512*free→(∀ k,k<m→512*(free+k)+512≤512*n)→Im n U L→Im n U (blkP off data free m L)
 | 0,_,_,_,_,_,_,a=>a
 | k+1,L,hm,ho,hi,hf,hb,a=>by
  have ih:=blkP_im k L (by omega) ho hi hf (fun j hj=>hb j (by omega)) a
  have hk:=hb k (Nat.lt_succ_self _)
  have l4:=leB_length 4 (free+k)
  have lt:=chunk_le data k
  exact (ih.copy (by omega) (by rw [l4]; omega)).copy (by omega) (by omega)
end
def recN (x:Nd) (free:Nat):List Int:=[x.kind,x.links,(sizeP x:Int)]++(List.range 12).map fun j=>if j<blkN x then ((free+j:Nat):Int) else 0
theorem recN_length (x:Nd) (free:Nat):(recN x free).length=15:=by rw [recN,List.length_append,List.length_map,List.length_range]; rfl
theorem flat4_zero : ∀ k,flat4 (List.replicate k (0:Int))=List.replicate (4*k) 0
 | 0=>rfl
 | k+1=>by
  rw [show List.replicate (k+1) (0:Int)=[0]++List.replicate k 0 from rfl,flat4_app,flat4_zero k,show 4*(k+1)=4+4*k by omega,← List.replicate_append_replicate]; rfl
theorem nums12 {m free:Nat} (hm:m≤12):flat4 ((List.range 12).map fun j=>if j<m then ((free+j:Nat):Int) else 0)=flat4 ((List.range m).map fun j=>((free+j:Nat):Int))++List.replicate (48 - 4*m) 0:=by
 have e:List.range 12=List.range m++(List.range (12 - m)).map (m + ·):=by rw [← List.range_add,show m+(12 - m)=12 by omega]
 rw [e,List.map_append,flat4_app,List.map_map]
 have e1:(List.range m).map (fun j=>if j<m then ((free+j:Nat):Int) else 0)=(List.range m).map fun j=>((free+j:Nat):Int):=List.map_congr_left fun j hj=>if_pos (List.mem_range.mp hj)
 have e2:(List.range (12 - m)).map ((fun j=>if j<m then ((free+j:Nat):Int) else 0) ∘ (m + ·))=List.replicate (12 - m) 0:=by
  refine List.ext_getElem (by rw [List.length_map,List.length_range,List.length_replicate]) fun i h1 h2=>?_
  rw [List.getElem_map,List.getElem_range,List.getElem_replicate]
  show (if m+i<m then ((free+(m+i):Nat):Int) else 0)=0
  exact if_neg (by omega)
 rw [e1,e2,flat4_zero,show 4*(12 - m)=48 - 4*m by omega]
section
variable {off free : Nat} {x : Nd} {L : Tm.Txt}
theorem headP_length (ho:off+64≤L.length):(headP off x L).length=L.length:=by
 have l1:=leB_length 1 x.kind.toNat
 have l2:=leB_length 2 x.links.toNat
 have l4:=leB_length 4 (sizeP x)
 have a:(putU L off (leBs 1 x.kind.toNat)).length=L.length:=putU_length (by omega)
 have b:(putU (putU L off (leBs 1 x.kind.toNat)) (off+2) (leBs 2 x.links.toNat)).length=L.length:=(putU_length (by omega)).trans a
 exact (putU_length (by omega)).trans b
theorem headP_rec (ho:off+64≤L.length) (z:slc L off 64=List.replicate 64 0):slc (headP off x L) off 64=(leBs 1 x.kind.toNat++([0]++(leBs 2 x.links.toNat++leBs 4 (sizeP x))))++List.replicate 56 0:=by
 have l1:=leB_length 1 x.kind.toNat
 have l2:=leB_length 2 x.links.toNat
 have l4:=leB_length 4 (sizeP x)
 have a:(putU L off (leBs 1 x.kind.toNat)).length=L.length:=putU_length (by omega)
 have b:(putU (putU L off (leBs 1 x.kind.toNat)) (off+2) (leBs 2 x.links.toNat)).length=L.length:=(putU_length (by omega)).trans a
 unfold headP
 rw [slc_in (by omega) (by omega) (by omega),slc_in (by omega) (by omega) (by omega),slc_in (by omega) (by omega) ho,z,Nat.sub_self,show off+2 - off=2 by omega,show off+4 - off=4 by omega]
 exact enc3 _ _ _
theorem headP_out {q w:Nat} (ho:off+64≤L.length) (h:off+64≤q∨q+w≤off):slc (headP off x L) q w=slc L q w:=by
 have l1:=leB_length 1 x.kind.toNat
 have l2:=leB_length 2 x.links.toNat
 have l4:=leB_length 4 (sizeP x)
 have a:(putU L off (leBs 1 x.kind.toNat)).length=L.length:=putU_length (by omega)
 have b:(putU (putU L off (leBs 1 x.kind.toNat)) (off+2) (leBs 2 x.links.toNat)).length=L.length:=(putU_length (by omega)).trans a
 unfold headP
 rw [slc_out (by omega) (by omega),slc_out (by omega) (by omega),slc_out (by omega) (by omega)]
theorem headP_im {n:Nat} {U:Nat→Bool} (ho:off+64≤512*n) (hi:512*(geoN n).inodes≤off) (a:Im n U L):Im n U (headP off x L):=by
 have l1:=leB_length 1 x.kind.toNat
 have l2:=leB_length 2 x.links.toNat
 have l4:=leB_length 4 (sizeP x)
 exact ((a.copy (by omega) (by omega)).copy (by omega) (by omega)).copy (by omega) (by omega)
theorem nodeP_rec (hm:blkN x≤12) (ho:off+64≤L.length) (hb:∀ k,k<blkN x→512*(free+k)+512≤L.length) (hf:off+64≤512*free) (z:slc L off 64=List.replicate 64 0):slc (nodeP off x free L) off 64=encR (recN x free):=by
 have lh:=headP_length (x:=x) ho
 unfold nodeP
 rw [blkP_rec (H:=leBs 1 x.kind.toNat++([0]++(leBs 2 x.links.toNat++leBs 4 (sizeP x)))) (by simp only [List.length_append,leB_length,List.length_singleton]) (blkN x) _ hm (by rw [lh]; exact ho) (fun k hk=>by rw [lh]; exact hb k hk) hf (headP_rec ho z)]
 have e:encR (recN x free)=leBs 1 x.kind.toNat++([0]++(leBs 2 x.links.toNat++(leBs 4 ((sizeP x:Nat):Int).toNat++(flat4 ((List.range 12).map fun j=>if j<blkN x then ((free+j:Nat):Int) else 0)++List.replicate 8 0)))):=rfl
 rw [e,nums12 hm,Int.toNat_natCast]
 simp only [List.append_assoc]
 rw [List.replicate_append_replicate,show 48 - 4*blkN x+8=56 - 4*blkN x by omega]
theorem nodeP_out {q w:Nat} (hm:blkN x≤12) (ho:off+64≤L.length) (hb:∀ k,k<blkN x→512*(free+k)+512≤L.length) (h:off+64≤q∨q+w≤off) (h2:∀ k,k<blkN x→512*(free+k)+512≤q∨q+w≤512*(free+k)):slc (nodeP off x free L) q w=slc L q w:=by
 have lh:=headP_length (x:=x) ho
 exact (blkP_out _ _ hm (by rw [lh]; exact ho) (fun k hk=>by rw [lh]; exact hb k hk) h h2).trans (headP_out ho h)
theorem nodeP_blk (hm:blkN x≤12) (ho:off+64≤L.length) (hb:∀ k,k<blkN x→512*(free+k)+512≤L.length) (hf:off+64≤512*free) {j:Nat} (hj:j<blkN x):slc (nodeP off x free L) (512*(free+j)) 512=putU (slc L (512*(free+j)) 512) 0 (((dataP x).drop (512*j)).take 512):=by
 have lh:=headP_length (x:=x) ho
 unfold nodeP
 rw [blkP_blk _ _ hm (by rw [lh]; exact ho) (fun k hk=>by rw [lh]; exact hb k hk) hf j hj,headP_out ho (.inl (by omega))]
theorem nodeP_im {n:Nat} {U:Nat→Bool} (hm:blkN x≤12) (ho:off+64≤512*n) (hi:512*(geoN n).inodes≤off) (hf:off≤512*free) (hb:∀ k,k<blkN x→512*(free+k)+512≤512*n) (a:Im n U L):Im n U (nodeP off x free L) :=
 blkP_im _ _ hm ho hi hf hb (headP_im ho hi a)
end
theorem sumB_mono (f:Nat→Nd) {a b:Nat} (h:a≤b):sumB f a≤sumB f b:=by
 induction b with
 | zero=>rw [Nat.le_zero.mp h]; exact Nat.le_refl _
 | succ b ih =>
  by_cases e:a=b+1
  ·rw [e]; exact Nat.le_refl _
  ·have:=ih (by omega)
   show _≤sumB f b+blkN (f b)
   omega
structure Fit (n:Nat) (f:Nat→Nd) (s:Nat):Prop where
 n1:128≤n
 n2:n<4428
 cnt:s≤(geoN n).count
 room:(geoN n).data+sumB f s≤n
 most:∀ k,k<s→blkN (f k)≤12
structure NP (n:Nat) (f:Nat→Nd) (m:Nat) (L:Tm.Txt):Prop where
 im:Im n (fun _=>false) L
 rec_:∀ k,1≤k→k≤m→slc L (512*(geoN n).inodes+64*k) 64=encR (recN (f k) ((geoN n).data+sumB f k))
 recz:∀ k,k<(geoN n).count→(k=0∨m<k)→slc L (512*(geoN n).inodes+64*k) 64=List.replicate 64 0
 blk:∀ k,1≤k→k≤m→∀ j,j<blkN (f k)→slc L (512*((geoN n).data+sumB f k+j)) 512=putU (List.replicate 512 0) 0 (((dataP (f k)).drop (512*j)).take 512)
 blkz:∀ b,(geoN n).data+sumB f (m+1)≤b→b<n→slc L (512*b) 512=List.replicate 512 0
theorem slc_zero {N o w:Nat} (h:o+w≤N):slc (List.replicate N 0) o w=List.replicate w 0:=by
 unfold slc
 rw [List.drop_replicate,List.take_replicate,show min w (N - o)=w by omega]
theorem np_zero {n:Nat} {f:Nat→Nd} {s:Nat} (F:Fit n f s):NP n f 0 (List.replicate (512*n) 0):=by
 have hd:(geoN n).data=98+(n+4095) / 4096+n / 64:=rfl
 have hi:(geoN n).inodes=98+(n+4095) / 4096:=rfl
 have hc:(geoN n).count=8*(n / 64):=rfl
 have:=F.n1
 refine ⟨⟨List.length_replicate,fun j hj=>?_⟩,fun k h1 h2=>by omega,fun k hk _=>slc_zero (by omega),fun k h1 h2=>by omega,fun b h1 h2=>slc_zero (by omega)⟩
 unfold bitAt
 rw [List.getD_eq_getElem?_getD,List.getElem?_replicate]
 split <;> exact Nat.zero_testBit _
theorem np_succ {n:Nat} {f:Nat→Nd} {s m:Nat} {L:Tm.Txt} (F:Fit n f s) (h:m+1<s) (a:NP n f m L):NP n f (m+1) (nodeP (512*(geoN n).inodes+64*(m+1)) (f (m+1)) ((geoN n).data+sumB f (m+1)) L):=by
 have hd:(geoN n).data=98+(n+4095) / 4096+n / 64:=rfl
 have hi:(geoN n).inodes=98+(n+4095) / 4096:=rfl
 have hc:(geoN n).count=8*(n / 64):=rfl
 have:=F.n1
 have hcnt:=F.cnt
 have hroom:=F.room
 have hm:=F.most (m+1) h
 have mono:=sumB_mono f (show m+1+1≤s by omega)
 have es:sumB f (m+1+1)=sumB f (m+1)+blkN (f (m+1)):=rfl
 have hL:=a.im.len
 have ho:512*(geoN n).inodes+64*(m+1)+64≤512*n:=by omega
 have hb:∀ k,k<blkN (f (m+1))→512*((geoN n).data+sumB f (m+1)+k)+512≤512*n:=fun k hk=>by omega
 have hf:512*(geoN n).inodes+64*(m+1)+64≤512*((geoN n).data+sumB f (m+1)):=by omega
 have ho':512*(geoN n).inodes+64*(m+1)+64≤L.length:=by omega
 have hb':∀ k,k<blkN (f (m+1))→512*((geoN n).data+sumB f (m+1)+k)+512≤L.length:=fun k hk=>by rw [hL]; exact hb k hk
 refine ⟨nodeP_im hm ho (by omega) (by omega) hb a.im,fun k h1 h2=>?_,fun k hk h2=>?_,fun k h1 h2 j hj=>?_,fun b h1 h2=>?_⟩
 ·by_cases e:k=m+1
  ·subst e
   exact nodeP_rec hm ho' hb' hf (a.recz _ (by omega) (.inr (Nat.lt_succ_self _)))
  ·rw [nodeP_out hm ho' hb' (by omega) fun i hi => .inr (by omega)]
   exact a.rec_ k h1 (by omega)
 ·rw [nodeP_out hm ho' hb' (by omega) fun i hi => .inr (by omega)]
  exact a.recz k hk (by omega)
 ·by_cases e:k=m+1
  ·subst e
   rw [nodeP_blk hm ho' hb' hf hj,a.blkz _ (by omega) (by omega)]
  ·have hk:k≤m:=by omega
   have mk:=sumB_mono f (show k+1≤m+1 by omega)
   have ek:sumB f (k+1)=sumB f k+blkN (f k):=rfl
   rw [nodeP_out hm ho' hb' (.inl (by omega)) fun i hi => .inr (by omega)]
   exact a.blk k h1 hk j hj
 ·rw [nodeP_out hm ho' hb' (.inl (by omega)) fun i hi => .inl (by omega)]
  exact a.blkz b (by omega) h2
theorem np_all {n:Nat} {f:Nat→Nd} {s:Nat} (F:Fit n f s):∀ m,m<s→NP n f m (nodesP (geoN n).inodes (geoN n).data f m (List.replicate (512*n) 0))
 | 0,_=>np_zero F
 | m+1,h=>np_succ F h (np_all F m (by omega))
end Go.Proofs.YtiapingedfnlnaaGreatDoor.Tr
namespace Go.Proofs.YtiapingedfnlnaaGreatDoor.Tr
open Go Go.Proofs Wx Hp Ad Tm
open Sk (nameOk)
structure TrOk (cnt N:Nat) (f:Nat→Nd):Prop where
 cnt:N≤cnt
 n2:2≤N
 nodup:∀ k,k<N→(f k).names.Nodup
 leaf:∀ k,k<N→(f k).kind≠2→(f k).names=[]∧(f k).nums=[]
 kd:∀ k,1≤k→k<N→1≤(f k).kind∧(f k).kind≤3
 par:∀ k,2≤k→k<N→(f k).kind=2→∃ u:Nat,(f k).up=u∧1≤u∧u<k∧(f u).kind=2∧(k:Int) ∈ (f u).nums∧(f k).depth=(f u).depth+1
 root:(f 1).kind=2∧(f 1).depth=0∧(f 1).up=1
 own:∀ k,1≤k→k<N→∀ m:Nat,(m:Int) ∈ (f k).nums→m<N∧((f m).kind=2→(f m).up=k∧2≤m)
 d32:∀ k,k<N→(f k).depth≤32
 d31:∀ k,k<N→(f k).names≠[]→(f k).depth≤31
theorem grow_ok {cnt N N' q d:Nat} {f f':Nat→Nd} {nm:Tm.Txt} (r:TrOk cnt N f) (hd:1≤d∧d<N) (hk:(f d).kind=2) (hdep:(f d).depth≤31) (hnm:nm ∉ (f d).names) (hN':N≤N'∧N'≤cnt)
  (same:∀ k,k<N→(f' k).kind=(f k).kind∧(f' k).depth=(f k).depth∧(f' k).up=(f k).up)
  (oth:∀ k,k<N→k≠d→(f' k).names=(f k).names∧(f' k).nums=(f k).nums)
  (at_:(f' d).names=(f d).names++[nm]∧(f' d).nums=(f d).nums++[(q:Int)])
  (hq:(q<N∧(f q).kind≠2∧N'=N)∨(q=N∧N'=N+1∧(f' N).names=[]∧(f' N).nums=[]∧(1≤(f' N).kind∧(f' N).kind≤3)∧(f' N).depth=(f d).depth+1∧((f' N).kind=2→(f' N).up=d))):TrOk cnt N' f':=by
 have n2:=r.n2
 have cs:∀ k,k<N'→k<N∨(k=N∧N'=N+1∧q=N∧(f' N).names=[]∧(f' N).nums=[]∧(1≤(f' N).kind∧(f' N).kind≤3)∧(f' N).depth=(f d).depth+1∧((f' N).kind=2→(f' N).up=d)):=fun k hk=>by
  by_cases h:k<N
  ·exact .inl h
  ·rcases hq with h'|h'
   ·omega
   ·exact .inr ⟨by omega,h'.2.1,h'.1,h'.2.2⟩
 have sub:∀ k,k<N→∀ x,x ∈ (f k).nums→x ∈ (f' k).nums:=fun k hk x hx=>by
  by_cases e:k=d
  ·subst e; rw [at_.2]; exact List.mem_append_left _ hx
  ·rw [(oth k hk e).2]; exact hx
 refine ⟨hN'.2,by omega,fun k hk=>?_,fun k hk hne=>?_,fun k h1 hk=>?_,fun k h2 hk h=>?_,?_,fun k h1 hk m hm=>?_,fun k hk=>?_,fun k hk hne=>?_⟩
 ·rcases cs k hk with h|⟨rfl,h⟩
  ·by_cases e:k=d
   ·subst e
    rw [at_.1]
    refine List.nodup_append.mpr ⟨r.nodup k h,by simp,fun a ha b hb=>?_⟩
    rw [List.mem_singleton.mp hb]
    exact fun y=>hnm (y▸ha)
   ·rw [(oth k h e).1]; exact r.nodup k h
  ·rw [h.2.2.1]; exact List.nodup_nil
 ·rcases cs k hk with h|⟨rfl,h⟩
  ·by_cases e:k=d
   ·subst e
    exact absurd ((same k h).1.trans hk) hne
   ·rw [(oth k h e).1,(oth k h e).2]
    exact r.leaf k h fun y=>hne ((same k h).1.trans y)
  ·exact ⟨h.2.2.1,h.2.2.2.1⟩
 ·rcases cs k hk with h|⟨rfl,h⟩
  ·rw [(same k h).1]; exact r.kd k h1 h
  ·exact h.2.2.2.2.1
 ·rcases cs k hk with h'|⟨rfl,h'⟩
  ·rw [(same k h').1] at h
   obtain ⟨u,a,b,c,d',e,g⟩:=r.par k h2 h' h
   exact ⟨u,by rw [(same k h').2.2]; exact a,b,c,by rw [(same u (by omega)).1]; exact d',sub u (by omega) _ e,by rw [(same k h').2.1,(same u (by omega)).2.1]; exact g⟩
  ·refine ⟨d,h'.2.2.2.2.2.2 h,hd.1,hd.2,by rw [(same d hd.2).1]; assumption,?_,by rw [(same d hd.2).2.1]; exact h'.2.2.2.2.2.1⟩
   rw [at_.2,h'.2.1]
   exact List.mem_append_right _ (List.mem_singleton.mpr rfl)
 ·have s1:=same 1 (by omega)
  rw [s1.1,s1.2.1,s1.2.2]; exact r.root
 ·rcases cs k hk with h|⟨rfl,h⟩
  ·have old:(m:Int) ∈ (f k).nums→m<N'∧((f' m).kind=2→(f' m).up=k∧2≤m):=fun hm=>by
    have:=r.own k h1 h m hm
    exact ⟨by omega,fun y=>by rw [(same m this.1).2.2]; exact this.2 ((same m this.1).1.symm.trans y)⟩
   by_cases e:k=d
   ·subst e
    rw [at_.2] at hm
    rcases List.mem_append.mp hm with hm|hm
    ·exact old hm
    ·have e:m=q:=by have:=List.mem_singleton.mp hm; omega
     subst e
     rcases hq with h'|h'
     ·exact ⟨by omega,fun y=>absurd ((same m h'.1).1.symm.trans y) h'.2.1⟩
     ·have e:=h'.1
      subst e
      exact ⟨by omega,fun y=>⟨h'.2.2.2.2.2.2 y,n2⟩⟩
   ·rw [(oth k h e).2] at hm
    exact old hm
  ·rw [h.2.2.2.1] at hm; cases hm
 ·rcases cs k hk with h|⟨rfl,h⟩
  ·rw [(same k h).2.1]; exact r.d32 k h
  ·rw [h.2.2.2.2.2.1]; omega
 ·rcases cs k hk with h|⟨rfl,h⟩
  ·rw [(same k h).2.1]
   by_cases e:k=d
   ·subst e; exact hdep
   ·rw [(oth k h e).1] at hne
    exact r.d31 k h hne
  ·exact absurd h.2.2.1 hne
theorem hasN_zero : ∀ {l:List Tm.Txt} {m:List Int} {s:Tm.Txt},l.length=m.length→(∀ x ∈ m,1≤x)→hasN l m s=0→s ∉ l
 | [],_,_,_,_,_=>by simp
 | x::r,[],_,h,_,_=>by cases h
 | x::r,n::m,s,hl,h1,e=>by
  have e:(if x=s then n else hasN r m s)=0:=e
  by_cases c:x=s
  ·rw [if_pos c] at e
   have:=h1 n List.mem_cons_self
   omega
  ·rw [if_neg c] at e
   have ih:=hasN_zero (Nat.succ.inj hl) (fun y hy=>h1 y (List.mem_cons_of_mem _ hy)) e
   intro y
   rcases List.mem_cons.mp y with y|y
   ·exact c y.symm
   ·exact ih y
theorem in_depth {cnt i:Nat} {s:Ts} (o:TsOk i s) (r:TrOk cnt s.n s.nd) (t:Th):(s.nd (inT t s)).depth≤31:=by
 have:=r.root.2.1
 unfold inT
 split
 ·omega
 ·omega
theorem step_tr {cnt i:Nat} {t:Th} {s:Ts} (o:TsOk i s) (r:TrOk cnt s.n s.nd):TrOk cnt (stepT cnt i t s).n (stepT cnt i t s).nd:=by
 have hin:=in_rng o t
 have hdep:=in_depth o r t
 unfold stepT
 generalize nameT i t (s.nd (inT t s))=nm
 generalize needT t (s.nd (inT t s))=need
 split
 ·exact r
 ·rename_i hh
  have hh:hasN (s.nd (inT t s)).names (s.nd (inT t s)).nums nm=0:=Classical.byContradiction hh
  have hnm:=hasN_zero (o.len (inT t s)).1 (fun x hx=>(o.nu _ hin.2.1 x hx).1) hh
  split
  ·exact r
  ·split
   ·rename_i h
    have ho:=oth_rng o t.same h.2
    generalize s.oth.getD (modU t.same s.oth.length) 0=q at ho
    generalize inT t s=d at hin hdep hnm
    have dq:d≠q:=fun y=>by subst y; exact ho.2.2 hin.2.2
    have e:∀ k,upF (upF s.nd q (linkN (s.nd q))) d (addN (s.nd d) nm q) k=if k=d then addN (s.nd d) nm q else if k=q then linkN (s.nd q) else s.nd k:=fun k=>rfl
    refine grow_ok (d:=d) (q:=q) (nm:=nm) r ⟨hin.1,hin.2.1⟩ hin.2.2 hdep hnm ⟨Nat.le_refl _,r.cnt⟩ (fun k hk=>?_) (fun k hk hne=>?_) ?_ (.inl ⟨ho.2.1,ho.2.2,rfl⟩)
    ·show (upF (upF s.nd q (linkN (s.nd q))) d (addN (s.nd d) nm q) k).kind=_∧(upF (upF s.nd q (linkN (s.nd q))) d (addN (s.nd d) nm q) k).depth=_∧(upF (upF s.nd q (linkN (s.nd q))) d (addN (s.nd d) nm q) k).up=_
     rw [e]
     split
     ·rename_i y; rw [y]; exact ⟨rfl,rfl,rfl⟩
     ·split
      ·rename_i y; rw [y]; exact ⟨rfl,rfl,rfl⟩
      ·exact ⟨rfl,rfl,rfl⟩
    ·show (upF (upF s.nd q (linkN (s.nd q))) d (addN (s.nd d) nm q) k).names=_∧(upF (upF s.nd q (linkN (s.nd q))) d (addN (s.nd d) nm q) k).nums=_
     rw [e,if_neg hne]
     split
     ·rename_i y; rw [y]; exact ⟨rfl,rfl⟩
     ·exact ⟨rfl,rfl⟩
    ·show (upF (upF s.nd q (linkN (s.nd q))) d (addN (s.nd d) nm q) d).names=_∧(upF (upF s.nd q (linkN (s.nd q))) d (addN (s.nd d) nm q) d).nums=_
     rw [e,if_pos rfl]; exact ⟨rfl,rfl⟩
   ·split
    ·exact r
    ·rename_i hc
     generalize hd:inT t s=d at hin hdep hnm
     have dn:d≠s.n:=by omega
     have e:∀ k,upF (upF s.nd d (addN (if kindT t=2 then linkN (s.nd d) else s.nd d) nm s.n)) s.n (newN t d (s.nd d)) k=if k=s.n then newN t d (s.nd d) else if k=d then addN (if kindT t=2 then linkN (s.nd d) else s.nd d) nm s.n else s.nd k:=fun k=>rfl
     have nw:(newN t d (s.nd d)).names=[]∧(newN t d (s.nd d)).nums=[]∧(1≤(newN t d (s.nd d)).kind∧(newN t d (s.nd d)).kind≤3)∧(newN t d (s.nd d)).depth=(s.nd d).depth+1∧((newN t d (s.nd d)).kind=2→(newN t d (s.nd d)).up=d):=by
      unfold newN
      split
      ·exact ⟨rfl,rfl,⟨by show (1:Int)≤2; decide,by show (2:Int)≤3; decide⟩,rfl,fun _=>rfl⟩
      ·split
       ·exact ⟨rfl,rfl,⟨by show (1:Int)≤3; decide,by show (3:Int)≤3; decide⟩,rfl,fun y=>absurd (show (3:Int)=2 from y) (by decide)⟩
       ·exact ⟨rfl,rfl,⟨by show (1:Int)≤1; decide,by show (1:Int)≤3; decide⟩,rfl,fun y=>absurd (show (1:Int)=2 from y) (by decide)⟩
     have ad:(addN (if kindT t=2 then linkN (s.nd d) else s.nd d) nm s.n).names=(s.nd d).names++[nm]∧(addN (if kindT t=2 then linkN (s.nd d) else s.nd d) nm s.n).nums=(s.nd d).nums++[(s.n:Int)]∧(addN (if kindT t=2 then linkN (s.nd d) else s.nd d) nm s.n).depth=(s.nd d).depth ∧
       (addN (if kindT t=2 then linkN (s.nd d) else s.nd d) nm s.n).kind=(s.nd d).kind∧(addN (if kindT t=2 then linkN (s.nd d) else s.nd d) nm s.n).up=(s.nd d).up:=by
      split <;> exact ⟨rfl,rfl,rfl,rfl,rfl⟩
     generalize newN t d (s.nd d)=nw_ at e nw
     generalize addN (if kindT t=2 then linkN (s.nd d) else s.nd d) nm s.n=ad_ at e ad
     have eN:upF (upF s.nd d ad_) s.n nw_ s.n=nw_:=by rw [e,if_pos rfl]
     refine grow_ok (d:=d) (q:=s.n) (nm:=nm) r ⟨hin.1,hin.2.1⟩ hin.2.2 hdep hnm ⟨Nat.le_succ _,by show s.n+1≤cnt; omega⟩ (fun k hk=>?_) (fun k hk hne=>?_) ?_ (.inr ⟨rfl,rfl,?_⟩)
     ·show (upF (upF s.nd d ad_) s.n nw_ k).kind=_∧(upF (upF s.nd d ad_) s.n nw_ k).depth=_∧(upF (upF s.nd d ad_) s.n nw_ k).up=_
      rw [e,if_neg (by omega)]
      split
      ·rename_i y; rw [y]; exact ⟨ad.2.2.2.1,ad.2.2.1,ad.2.2.2.2⟩
      ·exact ⟨rfl,rfl,rfl⟩
     ·show (upF (upF s.nd d ad_) s.n nw_ k).names=_∧(upF (upF s.nd d ad_) s.n nw_ k).nums=_
      rw [e,if_neg (by omega),if_neg hne]
      exact ⟨rfl,rfl⟩
     ·show (upF (upF s.nd d ad_) s.n nw_ d).names=_∧(upF (upF s.nd d ad_) s.n nw_ d).nums=_
      rw [e,if_neg dn,if_pos rfl]
      exact ⟨ad.1,ad.2.1⟩
     ·show (upF (upF s.nd d ad_) s.n nw_ s.n).names=_∧(upF (upF s.nd d ad_) s.n nw_ s.n).nums=_∧(1≤(upF (upF s.nd d ad_) s.n nw_ s.n).kind∧(upF (upF s.nd d ad_) s.n nw_ s.n).kind≤3)∧(upF (upF s.nd d ad_) s.n nw_ s.n).depth=_∧((upF (upF s.nd d ad_) s.n nw_ s.n).kind=2→(upF (upF s.nd d ad_) s.n nw_ s.n).up=_)
      rw [eN]; exact nw
theorem treeGo_tr {cnt:Nat}:∀ (l:List Th) (i:Nat) (s:Ts),i≤40→TsOk i s→TrOk cnt s.n s.nd→TrOk cnt (treeGo cnt i l s).n (treeGo cnt i l s).nd
 | [],_,_,_,_,h=>h
 | t::r,i,s,hi,o,h=>by
  show TrOk cnt (if 40≤i then s else treeGo cnt (i+1) r (stepT cnt i t s)).n (if 40≤i then s else treeGo cnt (i+1) r (stepT cnt i t s)).nd
  by_cases h40:40≤i
  ·rw [if_pos h40]; exact h
  ·rw [if_neg h40]
   exact treeGo_tr r (i+1) _ (by omega) (step_ok o (by omega)) (step_tr o h)
theorem root_tr {n:Nat} (h:128≤n):TrOk (Spc.geoN n).count 2 (upF (fun _=>nd0) 1 rootN):=by
 have hc:(Spc.geoN n).count=8*(n / 64):=rfl
 have e:∀ k,k<2→k=0∨k=1:=fun k hk=>by omega
 refine ⟨by omega,Nat.le_refl _,fun k hk=>?_,fun k hk hne=>?_,fun k h1 hk=>?_,fun k h2 hk=>by omega,⟨rfl,rfl,rfl⟩,fun k h1 hk m hm=>?_,fun k hk=>?_,fun k hk hne=>?_⟩
 ·rcases e k hk with rfl|rfl <;> exact List.nodup_nil
 ·rcases e k hk with rfl|rfl
  ·exact ⟨rfl,rfl⟩
  ·exact absurd rfl hne
 ·have:k=1:=by omega
  subst this
  exact ⟨by show (1:Int)≤2; decide,by show (2:Int)≤3; decide⟩
 ·have:k=1:=by omega
  subst this
  cases hm
 ·rcases e k hk with rfl|rfl
  ·show (0:Int)≤32; decide
  ·show (0:Int)≤32; decide
 ·rcases e k hk with rfl|rfl <;> exact absurd rfl hne
theorem tree_tr {n:Nat} (h:128≤n) (l:List Th):TrOk (Spc.geoN n).count (treeP n l).n (treeP n l).nd :=
 treeGo_tr l 0 ⟨2,upF (fun _=>nd0) 1 rootN,[1],[],n - (Spc.geoN n).data⟩ (by decide) ⟨root_ok.n2,root_ok.nn,root_ok.dn,root_ok.dr,root_ok.or_,root_ok.dl,root_ok.ol,root_ok.root,root_ok.len,root_ok.dep,root_ok.lnk,root_ok.nm,root_ok.nu⟩ (root_tr h)
theorem tree_sum {n:Nat} (h:128≤n) (l:List Th):∃ j,j≤40∧TsOk j (treeP n l)∧(Spc.geoN n).data+sumB (treeP n l).nd (treeP n l).n≤n:=by
 have hd:(Spc.geoN n).data=98+(n+4095) / 4096+n / 64:=rfl
 obtain ⟨j,hj,o,e⟩:=treeGo_ok (cnt:=(Spc.geoN n).count) l 0 ⟨2,upF (fun _=>nd0) 1 rootN,[1],[],n - (Spc.geoN n).data⟩ ⟨root_ok.n2,root_ok.nn,root_ok.dn,root_ok.dr,root_ok.or_,root_ok.dl,root_ok.ol,root_ok.root,root_ok.len,root_ok.dep,root_ok.lnk,root_ok.nm,root_ok.nu⟩ (Nat.zero_le _)
 refine ⟨j,hj,o,?_⟩
 have b0:sumB (upF (fun _=>nd0) 1 rootN) 2=0:=by decide
 have e:sumB (treeP n l).nd (treeP n l).n+(treeP n l).left=sumB (upF (fun _=>nd0) 1 rootN) 2+(n - (Spc.geoN n).data):=e
 omega
end Go.Proofs.YtiapingedfnlnaaGreatDoor.Tr
namespace Go.Proofs.YtiapingedfnlnaaGreatDoor.Tr
open Go Go.Proofs Wx Hp Ad Tm Bt Spc Re Av
open In (encR decA mayR wordOk)
open Bm (Im updU Z0 num nS Wf par par_none par_up par_ne num_none num_some sub root slots fresh_av)
open Fi (recZ blkZ blkZ_rng pc decA_enc getM_at)
open Ino (getM)
open Sk (nameOk)
def bitsP (n free:Nat):Nat→Tm.Txt→Tm.Txt
 | 0,L=>L
 | i+1,L=>if i<free∨n≤i then putBit (bitsP n free i L) (98*4096+i) true else bitsP n free i L
def fullU (n free m:Nat):Nat→Bool:=fun j=>decide (j<m) && (decide (j<free) || decide (n≤j))
theorem fullU_hit {n free m:Nat} (h:m<free∨n≤m) (j:Nat):updU (fullU n free m) m j=fullU n free (m+1) j:=by
 unfold updU fullU
 by_cases e:j=m
 ·subst e
  rw [if_pos rfl,decide_eq_true (show j<j+1 by omega),Bool.true_and]
  rcases h with h|h
  ·rw [decide_eq_true h]; rfl
  ·rw [decide_eq_true h,Bool.or_true]
 ·have:decide (j<m+1)=decide (j<m):=decide_eq_decide.mpr (by omega)
  rw [if_neg e,this]
theorem fullU_miss {n free m:Nat} (h:¬ (m<free∨n≤m)) (j:Nat):fullU n free m j=fullU n free (m+1) j:=by
 unfold fullU
 by_cases e:j=m
 ·subst e
  rw [decide_eq_false (show ¬ j<free by omega),decide_eq_false (show ¬ n≤j by omega),Bool.or_false,Bool.and_false,Bool.and_false]
 ·have:decide (j<m+1)=decide (j<m):=decide_eq_decide.mpr (by omega)
  rw [this]
theorem slc_set {L:Tm.Txt} {p q w:Nat} {v:UInt8} (h:p<q∨q+w≤p):slc (L.set p v) q w=slc L q w:=by
 refine List.ext_getElem? fun i=>?_
 by_cases hi:i<w
 ·rw [slc_get hi,slc_get hi,List.getElem?_set_ne (by omega)]
 ·unfold slc
  rw [List.getElem?_take,List.getElem?_take,if_neg hi,if_neg hi]
theorem bitsP_im {n free:Nat} {L:Tm.Txt} (hn:128≤n∧n<4428) (a:Im n (fun _=>false) L):∀ m,m≤4096*((geoN n).inodes - 98)→Im n (fullU n free m) (bitsP n free m L)
 | 0,_=>a.congr fun j=>by unfold fullU; rw [decide_eq_false (Nat.not_lt_zero _)]; rfl
 | m+1,hm=>by
  have ih:=bitsP_im (free:=free) hn a m (by omega)
  show Im n _ (if m<free∨n≤m then putBit (bitsP n free m L) (98*4096+m) true else bitsP n free m L)
  split
  ·rename_i h
   exact (ih.put hn (by omega)).congr (fullU_hit h)
  ·rename_i h
   exact ih.congr (fullU_miss h)
theorem bitsP_slc {n free:Nat} {L:Tm.Txt} {q w:Nat} (hq:512*(geoN n).inodes≤q):∀ m,m≤4096*((geoN n).inodes - 98)→slc (bitsP n free m L) q w=slc L q w
 | 0,_=>rfl
 | m+1,hm=>by
  have ih:=bitsP_slc (n:=n) (free:=free) (L:=L) (w:=w) hq m (by omega)
  have h98:98≤(geoN n).inodes:=by show 98≤98+_; omega
  show slc (if m<free∨n≤m then putBit (bitsP n free m L) (98*4096+m) true else bitsP n free m L) q w=_
  split
  ·unfold putBit
   rw [slc_set (.inl (by omega)),ih]
  ·exact ih
def imgP (n:Nat) (s:Ts):Tm.Txt:=bitsP n ((geoN n).data+sumB s.nd s.n) (4096*((geoN n).inodes - 98)) (nodesP (geoN n).inodes (geoN n).data s.nd (s.n - 1) (List.replicate (512*n) 0))
structure Disk (n:Nat) (s:Ts) (L:Tm.Txt):Prop where
 len:L.length=512*n
 bit:∀ j,j<n→Av.bit (Z0 L) j=decide (j<(geoN n).data+sumB s.nd s.n)
 rec_:∀ k,1≤k→k<s.n→slc L (512*(geoN n).inodes+64*k) 64=encR (recN (s.nd k) ((geoN n).data+sumB s.nd k))
 recz:∀ k,s.n≤k→k<(geoN n).count→slc L (512*(geoN n).inodes+64*k) 64=List.replicate 64 0
 blk:∀ k,1≤k→k<s.n→∀ j,j<blkN (s.nd k)→slc L (512*((geoN n).data+sumB s.nd k+j)) 512=putU (List.replicate 512 0) 0 (((dataP (s.nd k)).drop (512*j)).take 512)
theorem img_disk {n:Nat} {s:Ts} (F:Fit n s.nd s.n) (h2:2≤s.n):Disk n s (imgP n s):=by
 have a:=np_all F (s.n - 1) (by omega)
 have h1:=F.n1
 have h3:=F.n2
 have hi:(geoN n).inodes=98+(n+4095) / 4096:=rfl
 have hd:(geoN n).data=98+(n+4095) / 4096+n / 64:=rfl
 have b:=bitsP_im (free:=(geoN n).data+sumB s.nd s.n) ⟨h1,h3⟩ a.im (4096*((geoN n).inodes - 98)) (Nat.le_refl _)
 have sl:∀ q w,512*(geoN n).inodes≤q→slc (imgP n s) q w=slc (nodesP (geoN n).inodes (geoN n).data s.nd (s.n - 1) (List.replicate (512*n) 0)) q w:=fun q w hq=>bitsP_slc hq _ (Nat.le_refl _)
 refine ⟨b.len,fun j hj=>?_,fun k k1 k2=>?_,fun k k1 k2=>?_,fun k k1 k2 j hj=>?_⟩
 ·refine (Im.bit b ⟨h1,h3⟩ hj).trans ?_
  unfold fullU
  rw [decide_eq_true (show j<4096*((geoN n).inodes - 98) by omega),decide_eq_false (show ¬ n≤j by omega),Bool.or_false,Bool.true_and]
 ·rw [sl _ _ (by omega)]; exact a.rec_ k k1 (by omega)
 ·rw [sl _ _ (by omega)]; exact a.recz k k2 (by omega)
 ·rw [sl _ _ (by omega)]; exact a.blk k k1 (by omega) j hj
theorem recN_get {x:Nd} {free i:Nat} (hi:i<12):(recN x free).getD (3+i) 0=if i<blkN x then ((free+i:Nat):Int) else 0:=by
 unfold recN
 rw [List.getD_eq_getElem?_getD,List.getElem?_append_right (by show 3≤3+i; omega)]
 show (((List.range 12).map fun j=>if j<blkN x then ((free+j:Nat):Int) else 0)[3+i - 3]?).getD 0=_
 rw [show 3+i - 3=i by omega,List.getElem?_map,List.getElem?_range hi]; rfl
def LkOk (x:Nd):Prop:=(x.kind=2→2≤x.links)∧(x.kind=3→1≤x.links)
theorem new_lk (t:Th) (d:Nat) (x:Nd):LkOk (newN t d x):=by
 unfold newN
 split
 ·exact ⟨fun _=>by show (2:Int)≤2; decide,fun y=>absurd (show (2:Int)=3 from y) (by decide)⟩
 ·split
  ·exact ⟨fun y=>absurd (show (3:Int)=2 from y) (by decide),fun _=>by show (1:Int)≤1; decide⟩
  ·exact ⟨fun y=>absurd (show (1:Int)=2 from y) (by decide),fun y=>absurd (show (1:Int)=3 from y) (by decide)⟩
theorem step_lk {cnt i:Nat} {t:Th} {s:Ts} (h:∀ k,LkOk (s.nd k)):∀ k,LkOk ((stepT cnt i t s).nd k):=by
 have ad:∀ {y:Nd} {nm:Tm.Txt} {m:Nat},LkOk y→LkOk (addN y nm m):=fun h=>h
 have lk:∀ {y:Nd},LkOk y→LkOk (linkN y):=fun {y} h=>⟨fun k=>by have:=h.1 k; show 2≤y.links+1; omega,fun k=>by have:=h.2 k; show 1≤y.links+1; omega⟩
 have up:∀ {f:Nat→Nd} {d:Nat} {y:Nd},(∀ k,LkOk (f k))→LkOk y→∀ k,LkOk (upF f d y k):=fun {f d y} hf hy k=>by
  by_cases e:k=d
  ·subst e; rw [upF_at]; exact hy
  ·rw [upF_ne _ _ e]; exact hf k
 unfold stepT
 split
 ·exact h
 ·split
  ·exact h
  ·split
   ·exact up (up h (lk (h _))) (ad (h _))
   ·split
    ·exact h
    ·refine up (up h (ad ?_)) (new_lk _ _ _)
     split
     ·exact lk (h _)
     ·exact h _
theorem treeGo_lk {cnt:Nat}:∀ (l:List Th) (i:Nat) (s:Ts),(∀ k,LkOk (s.nd k))→∀ k,LkOk ((treeGo cnt i l s).nd k)
 | [],_,_,h=>h
 | t::r,i,s,h=>by
  show ∀ k,LkOk ((if 40≤i then s else treeGo cnt (i+1) r (stepT cnt i t s)).nd k)
  split
  ·exact h
  ·exact treeGo_lk r (i+1) _ (step_lk h)
theorem tree_lk (n:Nat) (l:List Th):∀ k,LkOk ((treeP n l).nd k):=treeGo_lk l 0 _ fun k=>by
 show LkOk (upF (fun _=>nd0) 1 rootN k)
 by_cases e:k=1
 ·subst e; rw [upF_at]; exact ⟨fun _=>by decide,fun y=>absurd y (by decide)⟩
 ·rw [upF_ne _ _ e]; exact ⟨fun y=>absurd y (by decide),fun y=>absurd y (by decide)⟩
structure Good (n:Nat) (s:Ts):Prop where
 n1:128≤n
 n2:n<1128
 tr:TrOk (geoN n).count s.n s.nd
 ok:∃ j,j≤40∧TsOk j s
 sum:(geoN n).data+sumB s.nd s.n≤n
 kt:∀ k,KtOk (s.nd k)
 lk:∀ k,LkOk (s.nd k)
theorem tree_good {n:Nat} (h:128≤n∧n<1128) (l:List Th):Good n (treeP n l):=by
 obtain ⟨j,hj,o,e⟩:=tree_sum h.1 l
 exact ⟨h.1,h.2,tree_tr h.1 l,⟨j,hj,o⟩,e,tree_kt n l,tree_lk n l⟩
section
variable {n : Nat} {s : Ts}
theorem Good.len (g:Good n s) (k:Nat):(s.nd k).names.length=(s.nd k).nums.length∧(s.nd k).names.length≤40:=by
 obtain ⟨j,hj,o⟩:=g.ok
 have:=o.len k
 exact ⟨this.1,by omega⟩
theorem Good.nm (g:Good n s) {k:Nat} (hk:k<s.n):∀ x ∈ (s.nd k).names,nameOk x=true:=by
 obtain ⟨j,hj,o⟩:=g.ok
 exact o.nm k hk
theorem Good.nu (g:Good n s) {k:Nat} (hk:k<s.n):∀ x ∈ (s.nd k).nums,1≤x∧x<(s.n:Int):=by
 obtain ⟨j,hj,o⟩:=g.ok
 exact o.nu k hk
theorem Good.lnk (g:Good n s) (k:Nat):0≤(s.nd k).links∧(s.nd k).links≤42:=by
 obtain ⟨j,hj,o⟩:=g.ok
 have:=o.lnk k
 omega
theorem Good.blk3 (g:Good n s) (k:Nat):blkN (s.nd k)≤3:=by
 have:=(g.len k).2
 have:=g.kt k
 unfold blkN
 split
 ·rename_i h
  have:=(g.kt k).2.2 h
  omega
 ·omega
theorem Good.fit (g:Good n s):Fit n s.nd s.n:=⟨g.n1,by have:=g.n2; omega,g.tr.cnt,g.sum,fun k _=>by have:=g.blk3 k; omega⟩
theorem Good.dim (g:Good n s):Dim n:=⟨g.n1,by have:=g.n2; omega⟩
theorem Good.free (g:Good n s) {k:Nat} (hk:k<s.n):(geoN n).data+sumB s.nd k+blkN (s.nd k)≤(geoN n).data+sumB s.nd s.n:=by
 have:=sumB_mono s.nd (show k+1≤s.n by omega)
 have e:sumB s.nd (k+1)=sumB s.nd k+blkN (s.nd k):=rfl
 omega
theorem Good.size (g:Good n s) {k:Nat} (hk:k<s.n):((s.nd k).kind=1→sizeP (s.nd k)=0)∧((s.nd k).kind=2→sizeP (s.nd k)=512*blkN (s.nd k))∧((s.nd k).kind=3→sizeP (s.nd k)=(s.nd k).text.length):=by
 refine ⟨fun h=>?_,fun h=>?_,fun h=>?_⟩
 ·unfold sizeP
  rw [if_neg (by omega),(g.tr.leaf k hk (by omega)).1]; rfl
 ·unfold sizeP blkN
  rw [if_neg (by omega),if_neg (by omega)]; omega
 ·unfold sizeP; rw [if_pos h]
theorem Good.may (g:Good n s) {k:Nat} (k1:1≤k) (hk:k<s.n):mayR (recN (s.nd k) ((geoN n).data+sumB s.nd k))=true:=by
 have h1:=g.n2
 have h2:=g.sum
 have h3:=g.free hk
 have h4:=g.blk3 k
 have kd:=g.tr.kd k k1 hk
 have sz:=g.size hk
 have ln:=g.lnk k
 have lk:=g.lk k
 have kt:=(g.kt k).2.2
 unfold mayR
 rw [Bool.and_eq_true]
 constructor
 ·rw [List.all_eq_true]
  intro x hx
  have hx:x ∈ (List.range 12).map fun j=>if j<blkN (s.nd k) then (((geoN n).data+sumB s.nd k+j:Nat):Int) else 0:=hx
  obtain ⟨j,hj,rfl⟩:=List.mem_map.mp hx
  unfold wordOk
  rw [Bool.and_eq_true,decide_eq_true_eq,decide_eq_true_eq]
  split <;> omega
 ·show In.kindOk (s.nd k).kind (s.nd k).links ((sizeP (s.nd k):Nat):Int) _=true
  unfold In.kindOk
  rw [if_neg (by omega)]
  rcases (by omega:(s.nd k).kind=1∨(s.nd k).kind=2∨(s.nd k).kind=3) with h|h|h
  ·rw [if_pos h,sz.1 h]
   simp only [Bool.and_eq_true,decide_eq_true_eq]
   omega
  ·rw [if_neg (by omega),if_pos h,sz.2.1 h]
   have:=lk.1 h
   simp only [Bool.and_eq_true,decide_eq_true_eq]
   omega
  ·rw [if_neg (by omega),if_neg (by omega),if_pos h,sz.2.2 h]
   have:=lk.2 h
   have:=kt h
   simp only [Bool.and_eq_true,decide_eq_true_eq]
   omega
end
theorem slc_slc {L:Tm.Txt} {a w b v:Nat} (h:b+v≤w):slc (slc L a w) b v=slc L (a+b) v:=by
 unfold slc
 rw [List.drop_take,List.take_take,List.drop_drop,Nat.min_eq_left (by omega)]
theorem Z0_slc (L:Tm.Txt) (k:Nat):Z0 L k=slc L (512*k) 512:=by unfold Z0 slc; rw [Nat.mul_comm]
section
variable {n : Nat} {s : Ts} {L : Tm.Txt}
theorem rec_at {k:Nat} (d:Dim n) (hk:k<(geoN n).count):((Z0 L (blkZ n k)).drop (64*(k % 8))).take 64=slc L (512*(geoN n).inodes+64*k) 64:=by
 rw [Z0_slc]
 show slc (slc L (512*blkZ n k) 512) (64*(k % 8)) 64=_
 rw [slc_slc (by omega)]
 congr 1
 unfold blkZ; omega
theorem Good.recZ_ (g:Good n s) (D:Disk n s L) {k:Nat} (k1:1≤k) (hk:k<s.n):recZ n (Z0 L) k=(recN (s.nd k) ((geoN n).data+sumB s.nd k),0):=by
 have:=g.tr.cnt
 unfold recZ
 rw [rec_at g.dim (by omega),D.rec_ k k1 hk]
 exact decA_enc (recN_length _ _) (g.may k1 hk)
theorem Good.recZ_no (g:Good n s) (D:Disk n s L) {k:Nat} (k1:s.n≤k) (hk:k<(geoN n).count):recZ n (Z0 L) k=(List.replicate 15 0,0):=by
 unfold recZ
 rw [rec_at g.dim hk,D.recz k k1 hk]
 decide +kernel
theorem Good.num_ (g:Good n s) {Z:Nat→Tm.Txt} {k:Nat}:∀ q,q<nS→num Z (recN (s.nd k) ((geoN n).data+sumB s.nd k)) q=if q<blkN (s.nd k) then (geoN n).data+sumB s.nd k+q else 0:=by
 have h4:=g.blk3 k
 refine slots (fun q hq e=>?_) fun q t p hq e ih=>?_
 ·rw [num_none e]
  unfold root
  rcases par_none e with h|rfl|rfl
  ·rw [if_pos h,recN_get (by omega)]
   split
   ·rw [Int.toNat_natCast]
   ·rfl
  ·rw [if_neg (by decide),if_pos rfl,show 13=3+10 from rfl,recN_get (by decide),if_neg (by omega),if_neg (by omega)]; rfl
  ·rw [if_neg (by decide),if_neg (by decide),show 14=3+11 from rfl,recN_get (by decide),if_neg (by omega),if_neg (by omega)]; rfl
 ·have a:=par_ne e hq
  have b:=par_up e hq
  rw [num_some e hq,ih,if_neg (show ¬ t<blkN (s.nd k) by omega),if_neg (show ¬ q<blkN (s.nd k) by omega)]
  unfold sub; rw [if_pos rfl]
theorem Good.wf (g:Good n s) (D:Disk n s L) {k:Nat} (hk:k<s.n):Wf n (Z0 L) (recN (s.nd k) ((geoN n).data+sumB s.nd k)):=by
 have h2:=g.sum
 have h3:=g.free hk
 have hd:=g.dim.data
 refine ⟨recN_length _ _,fun i h1 h2=>?_,fun q hq h0=>?_,fun q q' hq hq' h0 e=>?_⟩
 ·rw [show i=3+(i - 3) by omega,recN_get (by omega)]
  split <;> omega
 ·rw [g.num_ q hq] at h0 ⊢
  by_cases h:q<blkN (s.nd k)
  ·rw [if_pos h] at h0 ⊢
   exact ⟨by omega,by omega,by rw [D.bit _ (by omega)]; exact decide_eq_true (by omega)⟩
  ·rw [if_neg h] at h0; exact absurd rfl h0
 ·rw [g.num_ q hq] at h0 e
  rw [g.num_ q' hq'] at e
  by_cases h:q<blkN (s.nd k)
  ·rw [if_pos h] at e
   split at e <;> omega
  ·rw [if_neg h] at h0; exact absurd rfl h0
theorem Good.pc_ (g:Good n s) (D:Disk n s L) {k q:Nat} (k1:1≤k) (hk:k<s.n) (hq:q<blkN (s.nd k)):pc (Z0 L) (recN (s.nd k) ((geoN n).data+sumB s.nd k)) q=putU (List.replicate 512 0) 0 (((dataP (s.nd k)).drop (512*q)).take 512):=by
 have hd:=g.dim.data
 have h4:=g.blk3 k
 unfold pc
 rw [g.num_ q (by unfold nS; omega),if_pos hq,if_neg (by omega),Z0_slc]
 exact D.blk k k1 hk q hq
theorem Good.get (g:Good n s) (D:Disk n s L) {T:TM} (a:Av n (Z0 L) T) {k:Nat} (k1:1≤k) (hk:k<s.n):getM T (geoN n) k=(recN (s.nd k) ((geoN n).data+sumB s.nd k),0):=by
 have:=g.tr.cnt
 rw [getM_at a g.dim k1 (by omega),g.recZ_ D k1 hk]
theorem Good.get_no (g:Good n s) (D:Disk n s L) {T:TM} (a:Av n (Z0 L) T) {k:Nat} (k1:s.n≤k) (hk:k<(geoN n).count):getM T (geoN n) k=(List.replicate 15 0,0):=by
 have:=g.tr.n2
 rw [getM_at a g.dim (by omega) hk,g.recZ_no D k1 hk]
end
end Go.Proofs.YtiapingedfnlnaaGreatDoor.Tr
namespace Go.Proofs.YtiapingedfnlnaaGreatDoor.Tr
open Go Go.Proofs Wx Hp Ad Tm Bt Spc Re Av
open Bm (Z0 num nS Wf)
open Fi (recZ pc getM_at readM getF byteAt readGo_ok)
open Ino (getM)
open Sk (nameOk form form_length blk_cons blk_length ents E)
open Di (Cl Dir seg seg_mem pos findD find_dir listD openM leavesM sortE sortE_perm allE open_ok leaves_ok all_ok)
def prs : List Tm.Txt→List Int→List Cl
 | s::r,v::m=>(v.toNat,s)::prs r m
 | _,_=>[]
theorem prs_length : ∀ {l:List Tm.Txt} {m:List Int},l.length=m.length→(prs l m).length=l.length
 | [],[],_=>rfl
 | s::r,v::m,h=>by
  show (prs r m).length+1=r.length+1
  rw [prs_length (Nat.succ.inj h)]
theorem cells_prs : ∀ {l:List Tm.Txt} {m:List Int},l.length=m.length→((List.range l.length).flatMap fun j=>form (m.getD j 0).toNat (l.getD j []))=Sk.blk (prs l m)
 | [],[],_=>rfl
 | s::r,v::m,h=>by
  rw [List.length_cons,List.range_succ_eq_map,List.flatMap_cons,List.flatMap_map]
  have ih:=cells_prs (l:=r) (m:=m) (Nat.succ.inj h)
  show form v.toNat s++((List.range r.length).flatMap fun j=>form (m.getD j 0).toNat (r.getD j []))=form v.toNat s++Sk.blk (prs r m)
  rw [ih]
theorem prs_good : ∀ {l:List Tm.Txt} {m:List Int},(∀ s ∈ l,nameOk s=true)→(∀ v ∈ m,1≤v∧v<4294967296)→∀ x ∈ prs l m,Sk.Good x
 | [],_,_,_,x,hx=>by cases hx
 | s::r,[],_,_,x,hx=>by cases hx
 | s::r,v::m,h1,h2,x,hx=>by
  have hx:x ∈ (v.toNat,s)::prs r m:=hx
  rcases List.mem_cons.mp hx with rfl|hx
  ·have:=h2 v List.mem_cons_self
   exact .inr ⟨by show 1≤v.toNat; omega,by show v.toNat<4294967296; omega,h1 s List.mem_cons_self⟩
  ·exact prs_good (fun y hy=>h1 y (List.mem_cons_of_mem _ hy)) (fun y hy=>h2 y (List.mem_cons_of_mem _ hy)) x hx
def zeroC (k:Nat):List Cl:=List.replicate k (0,[])
theorem zeroC_good (k:Nat):∀ x ∈ zeroC k,Sk.Good x:=fun x hx=>by rw [List.eq_of_mem_replicate hx]; exact .inl ⟨rfl,rfl⟩
def cellsH (x:Nd):List Cl:=prs x.names x.nums++zeroC (16*blkN x - x.names.length)
theorem blk_app (a b:List Cl):Sk.blk (a++b)=Sk.blk a++Sk.blk b:=by unfold Sk.blk; rw [List.flatMap_append]
theorem blk_zeroC : ∀ k,Sk.blk (zeroC k)=List.replicate (32*k) 0
 | 0=>rfl
 | k+1=>by
  show List.replicate 32 0++Sk.blk (zeroC k)=_
  rw [blk_zeroC k,List.replicate_append_replicate,show 32+32*k=32*(k+1) by omega]
theorem blk_drop : ∀ (H:List Cl) (a:Nat),(∀ x ∈ H,Sk.Good x)→Sk.blk (H.drop a)=(Sk.blk H).drop (32*a)
 | H,0,_=>by rw [Nat.mul_zero,List.drop_zero,List.drop_zero]
 | [],a+1,_=>by rw [List.drop_nil]; show []=List.drop _ []; rw [List.drop_nil]
 | x::r,a+1,g=>by
  have f:=form_length (g x List.mem_cons_self)
  rw [List.drop_succ_cons,blk_drop r a fun y hy=>g y (List.mem_cons_of_mem _ hy),blk_cons,show 32*(a+1)=32+32*a by omega,← List.drop_drop,← f,List.drop_left]
theorem blk_take : ∀ (H:List Cl) (a:Nat),(∀ x ∈ H,Sk.Good x)→Sk.blk (H.take a)=(Sk.blk H).take (32*a)
 | H,0,_=>by rw [Nat.mul_zero,List.take_zero,List.take_zero]; rfl
 | [],a+1,_=>by rw [List.take_nil]; show []=List.take _ []; rw [List.take_nil]
 | x::r,a+1,g=>by
  have f:=form_length (g x List.mem_cons_self)
  rw [List.take_succ_cons,blk_cons,blk_take r a fun y hy=>g y (List.mem_cons_of_mem _ hy),blk_cons,List.take_append,f,List.take_of_length_le (show (form x.1 x.2).length≤32*(a+1) by omega),show 32*(a+1) - 32=32*a by omega]
theorem blk_seg {H:List Cl} (q:Nat) (g:∀ x ∈ H,Sk.Good x):Sk.blk (seg H q)=slc (Sk.blk H) (512*q) 512:=by
 unfold seg slc
 rw [blk_take _ _ fun x hx=>g x (List.mem_of_mem_drop hx),blk_drop _ _ g,show 32*(16*q)=512*q by omega]
theorem pad_slc {D:Tm.Txt} {c q:Nat} (h:512*q+512≤D.length+c):slc (D++List.replicate c 0) (512*q) 512=putU (List.replicate 512 0) 0 ((D.drop (512*q)).take 512):=by
 have lc:((D.drop (512*q)).take 512).length=min 512 (D.length - 512*q):=by rw [List.length_take,List.length_drop]
 refine List.ext_getElem? fun i=>?_
 rw [putU_at (by rw [lc,List.length_replicate]; omega),lc]
 by_cases hi:i<512
 ·rw [slc_get hi,List.getElem?_append]
  by_cases h1:512*q+i<D.length
  ·rw [if_pos h1,if_pos (by omega),Nat.sub_zero,List.getElem?_take,if_pos hi,List.getElem?_drop]
  ·rw [if_neg h1,if_neg (by omega),List.getElem?_replicate,List.getElem?_replicate,if_pos (by omega),if_pos hi]
 ·rw [if_neg (by omega),List.getElem?_replicate,if_neg hi]
  unfold slc
  rw [List.getElem?_take,if_neg hi]
theorem pos_zeroC (c:Tm.Txt):∀ k,pos c (zeroC k)=none
 | 0=>rfl
 | k+1=>by
  show (if (0:Nat)≠0∧([]:Tm.Txt)=c then some 0 else (pos c (zeroC k)).map (· + 1))=none
  rw [if_neg (fun y=>y.1 rfl),pos_zeroC c k]; rfl
def hitA (H:List Cl):Option Nat→Int×Int
 | some p=>((((H.getD p (0,[])).1:Nat):Int),0)
 | none=>(0,160)
theorem pos_prs (c:Tm.Txt) (k:Nat):∀ {l:List Tm.Txt} {m:List Int},l.length=m.length→(∀ v ∈ m,1≤v)→hitA (prs l m++zeroC k) (pos c (prs l m++zeroC k))=(hasN l m c,if hasN l m c=0 then 160 else 0)
 | [],[],_,_=>by
  show hitA (zeroC k) (pos c (zeroC k))=_
  rw [pos_zeroC]; rfl
 | s::r,v::m,h,h1=>by
  have ih:=pos_prs c k (l:=r) (m:=m) (Nat.succ.inj h) fun y hy=>h1 y (List.mem_cons_of_mem _ hy)
  have hv:=h1 v List.mem_cons_self
  show hitA ((v.toNat,s)::(prs r m++zeroC k)) (if v.toNat≠0∧s=c then some 0 else (pos c (prs r m++zeroC k)).map (· + 1))=((if s=c then v else hasN r m c),if (if s=c then v else hasN r m c)=0 then 160 else 0)
  by_cases e:s=c
  ·rw [if_pos ⟨by omega,e⟩,if_pos e,if_neg (by omega)]
   show (((v.toNat:Nat):Int),(0:Int))=_
   rw [Int.toNat_of_nonneg (by omega)]
  ·rw [if_neg (fun y=>e y.2),if_neg e,← ih]
   cases pos c (prs r m++zeroC k) <;> rfl
theorem ents_zeroC : ∀ k i,ents i (zeroC k)=[]
 | 0,_=>rfl
 | k+1,i=>by
  show (if (0:Nat)=0 then ents (i+1) (zeroC k) else _)=[]
  rw [if_pos rfl,ents_zeroC k]
theorem ents_prs (k:Nat):∀ {l:List Tm.Txt} {m:List Int} (i:Nat),l.length=m.length→(∀ v ∈ m,1≤v)→(ents i (prs l m++zeroC k)).map (fun c=>c.inode)=m
 | [],[],i,_,_=>by show (ents i (zeroC k)).map _=[]; rw [ents_zeroC]; rfl
 | s::r,v::m,i,h,h1=>by
  have ih:=ents_prs k (l:=r) (m:=m) (i+1) (Nat.succ.inj h) fun y hy=>h1 y (List.mem_cons_of_mem _ hy)
  have hv:=h1 v List.mem_cons_self
  show (if v.toNat=0 then ents (i+1) (prs r m++zeroC k) else (⟨i,s,v.toNat⟩:E)::ents (i+1) (prs r m++zeroC k)).map _=v::m
  rw [if_neg (by omega),List.map_cons,ih]
  congr 1
  exact Int.toNat_of_nonneg (by omega)
section
variable {n : Nat} {s : Ts} {L : Tm.Txt} {T : TM}
theorem Good.cells_good (g:Good n s) {k:Nat} (hk:k<s.n):∀ x ∈ cellsH (s.nd k),Sk.Good x:=fun x hx=>by
 have:=g.n2
 have hc:=g.tr.cnt
 have hcnt:(geoN n).count=8*(n / 64):=rfl
 rcases List.mem_append.mp hx with hx|hx
 ·exact prs_good (g.nm hk) (fun v hv=>by have:=g.nu hk v hv; omega) x hx
 ·exact zeroC_good _ x hx
theorem Good.cells_len (g:Good n s) {k:Nat} (h2:(s.nd k).kind=2):(cellsH (s.nd k)).length=16*blkN (s.nd k):=by
 have hl:=g.len k
 have hb:blkN (s.nd k)=((s.nd k).names.length+15) / 16:=by unfold blkN; rw [if_neg (by omega)]
 unfold cellsH zeroC
 rw [List.length_append,prs_length hl.1,List.length_replicate]
 omega
theorem Good.dir (g:Good n s) (D:Disk n s L) {k:Nat} (k1:1≤k) (hk:k<s.n) (h2:(s.nd k).kind=2):Dir (Z0 L) (recN (s.nd k) ((geoN n).data+sumB s.nd k)) (cellsH (s.nd k)):=by
 have hl:=g.len k
 have ln:=g.lnk k
 have lk:=(g.lk k).1 h2
 have h4:=g.blk3 k
 have cl:=g.cells_len h2
 have sz:=(g.size hk).2.1 h2
 have hd:=g.dim.data
 have hb:blkN (s.nd k)=((s.nd k).names.length+15) / 16:=by unfold blkN; rw [if_neg (by omega)]
 refine ⟨h2,⟨lk,by show (s.nd k).links≤_; omega⟩,?_,by omega,by omega,g.cells_good hk,fun q hq=>?_,fun q hq=>?_⟩
 ·show ((sizeP (s.nd k):Nat):Int)=_
  rw [sz,cl]; omega
 ·rw [g.num_ q hq]
  split <;> omega
 ·rw [g.pc_ D k1 hk (by omega),blk_seg q (g.cells_good hk)]
  have e:Sk.blk (cellsH (s.nd k))=dataP (s.nd k)++List.replicate (32*(16*blkN (s.nd k) - (s.nd k).names.length)) 0:=by
   unfold cellsH dataP cellsB
   rw [blk_app,blk_zeroC,if_neg (by omega),cells_prs hl.1]
  rw [e,pad_slc]
  have:(dataP (s.nd k)).length+32*(16*blkN (s.nd k) - (s.nd k).names.length)=(Sk.blk (cellsH (s.nd k))).length:=by rw [e,List.length_append,List.length_replicate]
  rw [this,blk_length (g.cells_good hk),cl]
  omega
theorem Good.find (g:Good n s) (D:Disk n s L) (a:Av n (Z0 L) T) {k:Nat} (k1:1≤k) (hk:k<s.n) (h2:(s.nd k).kind=2) {c:Tm.Txt} (hc:nameOk c=true) :
  findD T (geoN n) k c=(hasN (s.nd k).names (s.nd k).nums c,if hasN (s.nd k).names (s.nd k).nums c=0 then 160 else 0):=by
 have:=g.tr.cnt
 rw [find_dir a g.dim (g.wf D hk) k1 (by omega) (g.recZ_ D k1 hk) (g.dir D k1 hk h2) hc]
 exact pos_prs c _ (g.len k).1 fun v hv=>(g.nu hk v hv).1
theorem Good.list (g:Good n s) (D:Disk n s L) (a:Av n (Z0 L) T) {k:Nat} (k1:1≤k) (hk:k<s.n) (h2:(s.nd k).kind=2) :
  (listD T (geoN n) k).2=0∧((listD T (geoN n) k).1.map fun c=>c.inode).Perm (s.nd k).nums:=by
 have hc:=g.tr.cnt
 have dr:=g.dir D k1 hk h2
 have h6:=dr.sixt
 unfold listD
 rw [open_ok a g.dim k1 (by omega) (g.recZ_ D k1 hk) dr,if_neg (fun y=>y rfl),leaves_ok a (g.wf D hk) dr,if_neg (fun y=>y rfl)]
 refine ⟨rfl,((sortE_perm _).map _).trans ?_⟩
 rw [all_ok dr ((cellsH (s.nd k)).length / 16) 0 (by omega),Nat.mul_zero,List.drop_zero]
 rw [show (ents 0 (cellsH (s.nd k))).map (fun c=>c.inode)=(s.nd k).nums from ents_prs _ 0 (g.len k).1 fun v hv=>(g.nu hk v hv).1]
theorem Good.read (g:Good n s) (D:Disk n s L) (a:Av n (Z0 L) T) {k:Nat} (k1:1≤k) (hk:k<s.n) (h3:(s.nd k).kind=3):readM T (geoN n) k 0 1024=((s.nd k).text,0):=by
 have kt:=(g.kt k).2.2 h3
 have sz:=(g.size hk).2.2 h3
 have ge:=g.get D a k1 hk
 have gf:getF T (geoN n) k=(recN (s.nd k) ((geoN n).data+sumB s.nd k),0):=by
  unfold getF
  rw [ge,if_neg (fun y=>by have:(s.nd k).kind=0:=y.2; omega)]
 have hb:blkN (s.nd k)=((s.nd k).text.length+511) / 512:=by unfold blkN; rw [if_pos h3]
 have hdp:dataP (s.nd k)=(s.nd k).text:=by unfold dataP; rw [if_pos h3]
 have e2:(recN (s.nd k) ((geoN n).data+sumB s.nd k)).getD 2 0=(((s.nd k).text.length:Nat):Int):=by
  show ((sizeP (s.nd k):Nat):Int)=_
  rw [sz]
 unfold readM
 rw [if_neg (by decide),gf,if_neg (fun y=>y rfl),e2,if_neg (by omega),show (min (1024:Int) ((((s.nd k).text.length:Nat):Int) - 0)).toNat=(s.nd k).text.length by omega]
 show Fi.readGo T (geoN n) _ 0 _ _ 0 []=_
 rw [readGo_ok (off:=0) a (g.wf D hk) (by omega) _ 0 [] (by omega) (Nat.zero_le _) rfl]
 congr 1
 refine List.ext_getElem (by rw [List.length_map,List.length_range]) fun i h1 h2=>?_
 rw [List.getElem_map,List.getElem_range,Nat.zero_add]
 unfold byteAt
 rw [g.pc_ D k1 hk (by omega),hdp,List.getD_eq_getElem?_getD,putU_at (by rw [List.length_take,List.length_drop,List.length_replicate]; omega),if_pos (by rw [List.length_take,List.length_drop]; omega),Nat.sub_zero,List.getElem?_take,if_pos (by omega),List.getElem?_drop,show 512*(i / 512)+i % 512=i by omega,List.getElem?_eq_getElem h2]
 rfl
structure Shows (T:TM) (g:G) (s:Ts):Prop where
 get:∀ k:Nat,1≤k→k<s.n→(getM T g k).2=0∧(getM T g k).1.getD 0 0=(s.nd k).kind
 getz:∀ k:Nat,s.n≤k→k<g.count→(getM T g k).2=0∧(getM T g k).1.getD 0 0=0
 find:∀ k:Nat,1≤k→k<s.n→(s.nd k).kind=2→∀ c,nameOk c=true→findD T g k c=(hasN (s.nd k).names (s.nd k).nums c,if hasN (s.nd k).names (s.nd k).nums c=0 then 160 else 0)
 read:∀ k:Nat,1≤k→k<s.n→(s.nd k).kind=3→readM T g k 0 1024=((s.nd k).text,0)
 list:∀ k:Nat,1≤k→k<s.n→(s.nd k).kind=2→(listD T g k).2=0∧((listD T g k).1.map fun c=>c.inode).Perm (s.nd k).nums
theorem Good.shows (g:Good n s) (D:Disk n s L) (a:Av n (Z0 L) T):Shows T (geoN n) s :=
 ⟨fun k k1 hk=>by rw [g.get D a k1 hk]; exact ⟨rfl,rfl⟩,fun k k1 hk=>by rw [g.get_no D a k1 hk]; exact ⟨rfl,rfl⟩,fun k k1 hk h2 c hc=>g.find D a k1 hk h2 hc,fun k k1 hk h3=>g.read D a k1 hk h3,fun k k1 hk h2=>g.list D a k1 hk h2⟩
end
end Go.Proofs.YtiapingedfnlnaaGreatDoor.Tr
namespace Go.Proofs.YtiapingedfnlnaaGreatDoor.Tr
open Go Go.Proofs Wx Hp W Ad Tm Bt Spc Re Ss
open Hd (ints)
open In (ints_length ints_one)
open Bm (Im)
structure Tree (hx:Heap) (s:Ts) (D:Dt):Prop where
 nd:∀ k,1≤k→k<s.n→NdAt hx (D.P k) (D.z k) (s.nd k)
 ptr:∀ k,1≤k→k<s.n→∃ p,D.pa=some p∧cellOf hx (Addr.add p k)=some (.pointer (some ⟨D.P k,0,none⟩))
 nul:∃ p,D.pa=some p∧cellOf hx (Addr.add p 0)=some (.pointer none)
theorem TreeX.far {h0 h9 hx:Heap} {col:Nat→Nat} {s:Ts} {D:Dt} {G:Nat→Prop} (t:TreeX (fun _=>False) h0 h9 col s D) (f:Fr G h9 hx) (hG:∀ b,G b→b<h0.size) (n2:0<s.n) (len:∀ k,(s.nd k).names.length=(s.nd k).nums.length):Tree hx s D:=by
 have ng:∀ c b,col b=c→c≠0→¬ G b:=fun c b e hc g=>by
  have:=t.lo b (by rw [e]; exact hc)
  have:=hG b g
  omega
 have P:=Sl.fr f (t.ptr fun y=>y) fun b _ y=>ng 1 b y (by decide)
 have hp:∃ p,D.pa=some p:=by
  cases hp:D.pa with
  | none =>
   rw [hp] at P
   have c:ptrs s.n D.P=[]:=P.cells
   have:=congrArg List.length c
   rw [ptrs,List.length_map,List.length_range,List.length_nil] at this
   omega
  | some p=>exact ⟨p,rfl⟩
 obtain ⟨p,hp⟩:=hp
 have c:=P.cells
 rw [hp] at c
 refine ⟨fun k k1 k2=>⟨?_,(Sl.fr f (t.names k k1 k2 fun y=>y) fun b _ y=>ng _ b y (by omega)).cells,(Sl.fr f (t.nums k k1 k2 fun y=>y) fun b _ y=>ng _ b y (by omega)).cells,len k⟩,fun k k1 k2=>⟨p,hp,c k _ (ptrs_at k2 k1)⟩,p,hp,c 0 _ ?_⟩
 ·obtain ⟨a,b,e⟩:=t.node k k1 k2 fun y=>y
  exact (f.rd b.lt (ng _ _ e (by omega))).trans a
 ·unfold ptrs
  rw [List.getElem?_map,List.getElem?_range n2]; rfl
theorem leB_1 (v:Nat):leBs 1 v=[UInt8.ofNat v]:=by
 show [UInt8.ofNat (v / 256 ^ 0)]=_
 rw [Nat.pow_zero,Nat.div_one]
section
variable {n : Nat} {s : Ts}
theorem Good.data_len (g:Good n s) {k:Nat} (hk:k<s.n):(dataP (s.nd k)).length=if (s.nd k).kind=3 then (s.nd k).text.length else 32*(s.nd k).names.length:=by
 have hl:=g.len k
 have hc:=g.tr.cnt
 have n2:=g.n2
 have hcnt:(geoN n).count=8*(n / 64):=rfl
 unfold dataP
 split
 ·rfl
 ·have:=cells_prs hl.1
  unfold cellsB
  rw [this,Sk.blk_length (prs_good (g.nm hk) fun v hv=>by have:=g.nu hk v hv; omega),prs_length hl.1]
theorem Good.data_blk (g:Good n s) {k:Nat} (hk:k<s.n) (j:Nat):512*j<(dataP (s.nd k)).length↔j<blkN (s.nd k):=by
 rw [g.data_len hk]
 unfold blkN
 split <;> omega
variable {h5 h7 h9 h10 h18 : Heap} {D : Dt} {i dl dc : Nat} {L : Tm.Txt} {da : Option Addr} {I1 : Int → Int → Heap → Prop} {M1 : Int → Int → Heap → Nat} {K : Value → Heap → Prop}
theorem img_k1 (g:Good n s) (T:∀ hx,Fr (fun b=>b=h7.size) h9 hx→NdAt hx (D.P i) (D.z i) (s.nd i)) (rg:rd h9 h5.size=(geoN n).v) (lt:h5.size<h7.size∧h7.size<h9.size)
  (f:Fr (fun b=>b=h7.size) h9 h18) (o:Own h18 h7.size) (r:rd h18 h7.size=L.map bv) (hL:L.length=512*n)
  (S:SlCells h18 da ((dataP (s.nd i)).map bv)) (hdl:dl=(dataP (s.nd i)).length) (hc:dl≤dc) (hne:∀ p,da=some p→p.block≠h7.size) (i1:1≤i) (i2:i<s.n)
  (H:∀ hx,Fr (fun b=>b=h7.size) h9 hx→Own hx h7.size→rd hx h7.size=(nodeP (512*(geoN n).inodes+64*i) (s.nd i) ((geoN n).data+sumB s.nd i) L).map bv →
   I1 (((geoN n).data+sumB s.nd i+blkN (s.nd i):Nat):Int) (IntKind.wrap .i64 ((i:Int)+1)) hx∧M1 (((geoN n).data+sumB s.nd i+blkN (s.nd i):Nat):Int) (IntKind.wrap .i64 ((i:Int)+1)) hx<M1 (((geoN n).data+sumB s.nd i:Nat):Int) i h10) :
  bolelaw16_Setup_image.k1 (n:Int) h5 h7 (((geoN n).data+sumB s.nd i:Nat):Int) (i:Int) h10 I1 M1 (some ⟨D.P i,0,none⟩) da dl dc ((sizeP (s.nd i):Nat):Int) h18 K:=by
 have n1:=g.n1
 have n2:=g.n2
 have hi:(geoN n).inodes=98+(n+4095) / 4096:=rfl
 have hd:(geoN n).data=98+(n+4095) / 4096+n / 64:=rfl
 have hcn:(geoN n).count=8*(n / 64):=rfl
 have hcnt:=g.tr.cnt
 have hsum:=g.sum
 have hfree:=g.free i2
 have h3:=g.blk3 i
 have kd:=g.tr.kd i i1 i2
 have ln:=g.lnk i
 have db:=g.data_blk i2
 have sz:sizeP (s.nd i)≤1000000:=by
  have a:=g.size i2
  have kt:=(g.kt i).2.2
  rcases (by omega:(s.nd i).kind=1∨(s.nd i).kind=2∨(s.nd i).kind=3) with y|y|y
  ·rw [a.1 y]; omega
  ·rw [a.2.1 y]; omega
  ·rw [a.2.2 y]; have:=kt y; omega
 obtain ⟨off,eoff⟩:∃ off,off=512*(geoN n).inodes+64*i:=⟨_,rfl⟩
 have hoff:off+64≤512*(geoN n).data:=by omega
 have e1:IntKind.wrap .i64 ((IntKind.wrap .i64 (512*((geoN n).inodes:Int)))+(IntKind.wrap .i64 (64*(i:Int))))=(off:Int):=by
  rw [wrap_i64 (n:=512*((geoN n).inodes:Int)) (by omega) (by omega),wrap_i64 (n:=64*(i:Int)) (by omega) (by omega),wrap_i64 (by omega) (by omega)]; omega
 have e2:IntKind.wrap .i64 ((off:Int)+64)=((off+64:Nat):Int):=by rw [wrap_i64 (by omega) (by omega)]; omega
 have e3:IntKind.wrap .i64 (512*(n:Int))=((512*n:Nat):Int):=by rw [wrap_i64 (by omega) (by omega)]; omega
 have c1:¬ (512*n=off):=by omega
 have c2:¬ (512*n - off=2):=by omega
 have c4:¬ (512*n - off=4):=by omega
 have rg18:rd h18 h5.size=(geoN n).v:=(f.rd (by omega) (by omega)).trans rg
 have ek:(s.nd i).kind=(((s.nd i).kind.toNat:Nat):Int):=by omega
 have el:(s.nd i).links=(((s.nd i).links.toNat:Nat):Int):=by omega
 rw [← eoff] at H
 unfold bolelaw16_Setup_image.k1
 refine ⟨((geoN n).inodes:Int),rda rg18 rfl,((geoN n).inodes:Int),rda rg18 rfl,?_⟩
 simp only [e1,e2,e3,Int.toNat_natCast,Int.reduceToNat,Nat.reduceSub,if_neg c1,if_neg c2,if_neg c4,Option.map_some,add_mk,Nat.zero_add]
 have l1:=leB_length 1 (s.nd i).kind.toNat
 have l2:=leB_length 2 (s.nd i).links.toNat
 have l4:=leB_length 4 (sizeP (s.nd i))
 refine ⟨⟨by omega,by omega,by omega⟩,os ⟨_,rda (T h18 f).r rfl,⟨by decide,by omega⟩,os ?_⟩⟩
 rw [ek,In.bv_nat]
 refine Put.add o (by rw [r,List.length_map,hL]; omega) fun h19 d19=>⟨⟨by decide,by decide,by omega⟩,os ?_⟩
 have f19:Fr (fun b=>b=h7.size) h9 h19:=f.trans d19.fr fun _ _ y=>y
 have r19:rd h19 h7.size=(putU L off (leBs 1 (s.nd i).kind.toNat)).map bv:=by
  rw [d19.rd,r,leB_1,← putU_put (by show off+1≤_; omega)]; rfl
 have q1:(putU L off (leBs 1 (s.nd i).kind.toNat)).length=L.length:=putU_length (by omega)
 refine ⟨_,rda (T h19 f19).r rfl,?_⟩
 rw [el]
 refine low_spec d19.own (by rw [r19,List.length_map,q1]; omega) (by decide) (by omega) fun h20 d20=>⟨rfl,⟨by decide,by decide,by omega⟩,?_⟩
 have f20:Fr (fun b=>b=h7.size) h9 h20:=f19.trans d20.fr fun _ _ y=>y
 have r20:rd h20 h7.size=(putU (putU L off (leBs 1 (s.nd i).kind.toNat)) (off+2) (leBs 2 (s.nd i).links.toNat)).map bv:=by
  rw [d20.rd,r19,putU_put (by omega)]
 have q2:(putU (putU L off (leBs 1 (s.nd i).kind.toNat)) (off+2) (leBs 2 (s.nd i).links.toNat)).length=L.length:=(putU_length (by omega)).trans q1
 refine low_spec d20.own (by rw [r20,List.length_map,q2]; omega) (by decide) (by omega) fun h21 d21=>⟨rfl,?_⟩
 have f21:Fr (fun b=>b=h7.size) h9 h21:=f20.trans d21.fr fun _ _ y=>y
 have r21:rd h21 h7.size=(headP off (s.nd i) L).map bv:=by
  rw [d21.rd,r20,putU_put (by omega)]; rfl
 have lh:(headP off (s.nd i) L).length=L.length:=headP_length (by omega)
 have lB:∀ k,k≤blkN (s.nd i)→(blkP off (dataP (s.nd i)) ((geoN n).data+sumB s.nd i) k (headP off (s.nd i) L)).length=L.length:=fun k hk=>(blkP_length k _ (by omega) (by rw [lh]; omega) fun j hj=>by rw [lh,hL]; omega).trans lh
 have f18:Fr (fun b=>b=h7.size) h18 h21:=(d19.fr.trans d20.fr fun _ _ y=>y).trans d21.fr fun _ _ y=>y
 refine ⟨fun fr kk hh=>∃ k:Nat,kk=k∧fr=(((geoN n).data+sumB s.nd i+k:Nat):Int)∧k≤blkN (s.nd i)∧Fr (fun b=>b=h7.size) h18 hh∧Own hh h7.size∧rd hh h7.size=(blkP off (dataP (s.nd i)) ((geoN n).data+sumB s.nd i) k (headP off (s.nd i) L)).map bv,
  fun _ kk _=>((blkN (s.nd i):Int) - kk).toNat,⟨0,rfl,by rw [Nat.add_zero],Nat.zero_le _,f18,d21.own,r21⟩,?_⟩
 rintro fr kk h22 ⟨k,rfl,rfl,hk,f22,o22,r22⟩
 have w1:IntKind.wrap .i64 (512*(k:Int))=((512*k:Nat):Int):=by rw [wrap_i64 (by omega) (by omega)]; omega
 have f22':Fr (fun b=>b=h7.size) h9 h22:=f.trans f22 fun _ _ y=>y
 refine cd (fun hlt=>?_) fun hge=>?_
 ·rw [w1] at hlt
  have hk':k<blkN (s.nd i):=(db k).mp (by omega)
  generalize hF:(geoN n).data+sumB s.nd i+k=F at *
  have w2:IntKind.wrap .i64 (8+IntKind.wrap .i64 (4*(k:Int)))=((8+4*k:Nat):Int):=by rw [wrap_i64 (n:=4*(k:Int)) (by omega) (by omega),wrap_i64 (by omega) (by omega)]; omega
  have w3:IntKind.wrap .i64 (12+IntKind.wrap .i64 (4*(k:Int)))=((12+4*k:Nat):Int):=by rw [wrap_i64 (n:=4*(k:Int)) (by omega) (by omega),wrap_i64 (by omega) (by omega)]; omega
  have w4:IntKind.wrap .i64 (512*(F:Int))=((512*F:Nat):Int):=by rw [wrap_i64 (by omega) (by omega)]; omega
  have w5:IntKind.wrap .i64 (((512*F:Nat):Int)+512)=((512*F+512:Nat):Int):=by rw [wrap_i64 (by omega) (by omega)]; omega
  have c8:¬ (512*n - off=8+4*k):=by omega
  have cF:¬ (512*n=512*F):=by omega
  have cD:¬ (dc=512*k):=by omega
  simp only [w1,w2,w3,w4,w5,Int.toNat_natCast,if_neg c8,if_neg cF,if_neg cD,Option.map_some,add_mk,Nat.zero_add]
  have lk:=lB k hk
  have l4':=leB_length 4 F
  have ch:=chunk_le (dataP (s.nd i)) k
  refine ⟨⟨by omega,by omega,by omega⟩,?_⟩
  rw [show 12+4*k - (8+4*k)=4 by omega]
  refine low_spec o22 (by rw [r22,List.length_map,lk]; omega) (by decide) (by omega) fun h23 d23=>⟨rfl,⟨by omega,by omega,by omega⟩,⟨by omega,by omega⟩,?_⟩
  have r23:rd h23 h7.size=(putU (blkP off (dataP (s.nd i)) ((geoN n).data+sumB s.nd i) k (headP off (s.nd i) L)) (off+8+4*k) (leBs 4 F)).map bv:=by
   rw [d23.rd,r22,putU_put (by omega),show off+(8+4*k)=off+8+4*k by omega]
  have q3:(putU (blkP off (dataP (s.nd i)) ((geoN n).data+sumB s.nd i) k (headP off (s.nd i) L)) (off+8+4*k) (leBs 4 F)).length=L.length:=(putU_length (by omega)).trans lk
  have f23:Fr (fun b=>b=h7.size) h18 h23:=f22.trans d23.fr fun _ _ y=>y
  have S23:=SlCells.take (SlCells.drop (SlCells.fr f23 S fun p hp y=>hne p hp y) (512*k)) 512
  rw [← List.map_drop,← List.map_take] at S23
  rw [show 512*F+512 - 512*F=512 by omega]
  refine CopyP.intro (new:=(((dataP (s.nd i)).drop (512*k)).take 512).map bv) (by rw [List.length_map,List.length_take,List.length_drop,← hdl,Nat.min_comm]; exact (Nat.mul_one _).symm) S23 (bv_one _) d23.own (by rw [r23,List.length_map,List.length_map,q3]; omega) fun h24 d24=>?_
  have eF:IntKind.wrap .i64 ((F:Int)+1)=((F+1:Nat):Int):=by rw [wrap_i64 (by omega) (by omega)]; omega
  rw [eF,wrap_i64 (show -9223372036854775808≤(k:Int)+1 by omega) (by omega)]
  refine ⟨⟨k+1,by omega,by rw [← hF]; rfl,by omega,f23.trans d24.fr fun _ _ y=>y,d24.own,?_⟩,by show ((blkN (s.nd i):Int) - ((k:Int)+1)).toNat<((blkN (s.nd i):Int) - (k:Int)).toNat; omega⟩
  rw [d24.rd,r23,putU_put (by rw [q3]; omega)]
  subst hF
  rfl
 ·rw [w1] at hge
  have:¬ k<blkN (s.nd i):=fun y=>by have:=(db k).mpr y; omega
  have:k=blkN (s.nd i):=by omega
  subst this
  exact H h22 f22' o22 r22
end
end Go.Proofs.YtiapingedfnlnaaGreatDoor.Tr
namespace Go.Proofs.YtiapingedfnlnaaGreatDoor.Tr
open Go Go.Proofs Wx Hp W Ad Tm Bt Spc Re Ss
open Hd (ints)
open In (ints_length ints_one)
open Bm (Im)
theorem step_zero {cnt i:Nat} {t:Th} {s:Ts} (o:TsOk i s) (h:s.nd 0=nd0):(stepT cnt i t s).nd 0=nd0:=by
 have hin:=in_rng o t
 have n2:=o.n2
 unfold stepT
 split
 ·exact h
 ·split
  ·exact h
  ·split
   ·rename_i c
    have ho:=oth_rng o t.same c.2
    show upF (upF s.nd _ _) _ _ 0=_
    rw [upF_ne _ _ (by omega),upF_ne _ _ (by omega)]; exact h
   ·split
    ·exact h
    ·show upF (upF s.nd _ _) _ _ 0=_
     rw [upF_ne _ _ (by omega),upF_ne _ _ (by omega)]; exact h
theorem treeGo_zero {cnt:Nat}:∀ (l:List Th) (i:Nat) (s:Ts),i≤40→TsOk i s→s.nd 0=nd0→(treeGo cnt i l s).nd 0=nd0
 | [],_,_,_,_,h=>h
 | t::r,i,s,hi,o,h=>by
  show (if 40≤i then s else treeGo cnt (i+1) r (stepT cnt i t s)).nd 0=nd0
  by_cases h40:40≤i
  ·rw [if_pos h40]; exact h
  ·rw [if_neg h40]
   exact treeGo_zero r (i+1) _ (by omega) (step_ok o (by omega)) (step_zero o h)
theorem tree_zero (n:Nat) (l:List Th):(treeP n l).nd 0=nd0 :=
 treeGo_zero l 0 ⟨2,upF (fun _=>nd0) 1 rootN,[1],[],n - (geoN n).data⟩ (by decide) ⟨root_ok.n2,root_ok.nn,root_ok.dn,root_ok.dr,root_ok.or_,root_ok.dl,root_ok.ol,root_ok.root,root_ok.len,root_ok.dep,root_ok.lnk,root_ok.nm,root_ok.nu⟩ rfl
theorem newB_intro {bs:Tm.Txt} {t:Nat} {h:Heap} {k:Nat→Heap→Prop} (H:∀ cap h',Fr No h h'→bs.length≤cap→SlCells h' (some ⟨h.size,0,none⟩) (bs.map bv)→k cap h'):NewS (mkStr bs) t h k:=by
 intro cap hcap
 have hcap:bs.length≤cap:=hcap
 show k cap (newS h ((mkStr bs).toList.map bv++List.replicate (cap - bs.length) (bv 0)) t)
 rw [toList_mkStr]
 generalize hcs:bs.map bv++List.replicate (cap - bs.length) (bv 0)=cs
 have hg:(newS h cs t)[h.size]?=some (.cells ⟨cs⟩ t (cs.length,cs.length+1)):=by simp [newS]
 have hr:rd (newS h cs t) h.size=cs:=by simp only [rd,hg]
 refine H cap _ ⟨by simp [newS],fun x hx _=>by simp [newS,Array.getElem?_push,show x≠h.size by omega]⟩ hcap (cells_rd ?_)
 rw [hr,← hcs,List.drop_zero,List.take_left]
section
variable {h5 h7 hh : Heap} {n i : Nat} {L : Tm.Txt} {X : Heap → Prop}
theorem set_bit (hn:128≤n∧n<1128) (hi:i<4096*((geoN n).inodes - 98)) (hL:L.length=512*n) (rg:rd hh h5.size=(geoN n).v) (r:rd hh h7.size=L.map bv) (o:Own hh h7.size)
  (hX:∀ h',Did h7.size hh h' ((putBit L (98*4096+i) true).map bv)→X h') :
  ∃ (n15:Int),cellOf hh (Addr.add ⟨h5.size,0,none⟩ 1)=some (.int .i64 n15) ∧
  ∃ (n16:Int),cellOf hh (Addr.add ⟨h5.size,0,none⟩ 1)=some (.int .i64 n16) ∧
  (0≤(IntKind.wrap .i64 ((IntKind.wrap .i64 (512*n16))+(IntKind.wrap .i64 (Int.tdiv (i:Int) 8))))∧(IntKind.wrap .i64 ((IntKind.wrap .i64 (512*n16))+(IntKind.wrap .i64 (Int.tdiv (i:Int) 8))))<((512*n:Nat):Int)) ∧
  ∃ (n17:Int),cellOf hh (Addr.add ⟨h7.size,0,none⟩ (Int.toNat (IntKind.wrap .i64 ((IntKind.wrap .i64 (512*n16))+(IntKind.wrap .i64 (Int.tdiv (i:Int) 8))))))=some (.int .u8 n17) ∧
  if (Int.tmod (i:Int) 8)<0 then False else
  (0≤(IntKind.wrap .i64 ((IntKind.wrap .i64 (512*n15))+(IntKind.wrap .i64 (Int.tdiv (i:Int) 8))))∧(IntKind.wrap .i64 ((IntKind.wrap .i64 (512*n15))+(IntKind.wrap .i64 (Int.tdiv (i:Int) 8))))<((512*n:Nat):Int)) ∧
  Put (Addr.add ⟨h7.size,0,none⟩ (Int.toNat (IntKind.wrap .i64 ((IntKind.wrap .i64 (512*n15))+(IntKind.wrap .i64 (Int.tdiv (i:Int) 8)))))) (.int .u8 (bitsI .or .u8 n17 (IntKind.wrap .u8 ((1*2 ^ min (Int.toNat (Int.tmod (i:Int) 8)) 8))))) hh X:=by
 have hino:(geoN n).inodes=98+(n+4095) / 4096:=rfl
 refine ⟨((98:Nat):Int),rda rg rfl,((98:Nat):Int),rda rg rfl,?_⟩
 have e1:IntKind.wrap .i64 ((IntKind.wrap .i64 (512*((98:Nat):Int)))+(IntKind.wrap .i64 (Int.tdiv (i:Int) 8)))=((512*98+i / 8:Nat):Int):=by
  rw [tdiv8,wrap_i64 (n:=512*((98:Nat):Int)) (by omega) (by omega),wrap_i64 (n:=((i / 8:Nat):Int)) (by omega) (by omega),wrap_i64 (by omega) (by omega)]; omega
 rw [e1,Int.toNat_natCast,tmod8]
 have hi2:512*98+i / 8<L.length:=by omega
 refine ⟨⟨by omega,by omega⟩,((L.getD (512*98+i / 8) 0).toNat:Int),rda (xs:=L.map bv) r ?_,?_⟩
 ·rw [Nat.zero_add,List.getElem?_map,List.getD_eq_getElem?_getD,List.getElem?_eq_getElem hi2]; rfl
 rw [if_neg (by omega)]
 refine ⟨⟨by omega,by omega⟩,?_⟩
 have hx:(L.getD (512*98+i / 8) 0).toNat<256:=UInt8.toNat_lt _
 have ob:=bit_or ⟨(L.getD (512*98+i / 8) 0).toNat,hx⟩ ⟨i % 8,by omega⟩
 have ob:bitsI .or .u8 ((L.getD (512*98+i / 8) 0).toNat:Int) (IntKind.wrap .u8 (1*2 ^ min (Int.toNat ((i % 8:Nat):Int)) 8))=(setB (L.getD (512*98+i / 8) 0).toNat (i % 8) true:Nat):=ob
 rw [ob]
 refine Put.add o (by rw [r,List.length_map]; omega) fun h' d'=>hX h' ?_
 have ex:(.int .u8 ((setB (L.getD (512*98+i / 8) 0).toNat (i % 8) true:Nat):Int):Value)=bv (UInt8.ofNat (setB (L.getD (512*98+i / 8) 0).toNat (i % 8) true)):=by
  show _=Value.int .u8 _
  rw [UInt8.toNat_ofNat_of_lt' (setB_lt' hx (by omega) true)]
 have:=d'
 rw [r,ex,← List.map_set,Nat.zero_add] at this
 unfold putBit
 rw [show (98*4096+i) / 8=512*98+i / 8 by omega,show (98*4096+i) % 8=i % 8 by omega]
 exact this
end
def pkV (p:Int×UInt8):List Value:=[.int .i64 p.1,bv p.2]
def pokeP (n:Nat) (L:Tm.Txt) (p:Int×UInt8):Tm.Txt:=L.set (512*98+modU p.1 (512*(n - 98))) p.2
def pokesP (n:Nat) (ps:List (Int×UInt8)) (L:Tm.Txt):Tm.Txt:=ps.foldl (pokeP n) L
theorem pokes_length (n:Nat):∀ (ps:List (Int×UInt8)) (L:Tm.Txt),(pokesP n ps L).length=L.length
 | [],_=>rfl
 | p::r,L=>(pokes_length n r _).trans List.length_set
theorem bits_length {n free:Nat} {L:Tm.Txt}:∀ m,(bitsP n free m L).length=L.length
 | 0=>rfl
 | m+1=>by
  show (if m<free∨n≤m then putBit (bitsP n free m L) (98*4096+m) true else bitsP n free m L).length=_
  split
  ·rw [putBit_length,bits_length m]
  ·exact bits_length m
theorem rep8 (m:Nat):repCells [Value.int .u8 0] m=(List.replicate m (0:UInt8)).map bv:=by
 rw [List.map_replicate]; rfl
section
variable {h : Heap} {more : Int} {ta pa : Option Addr} {tl tc pl pc : Nat} {ts : List Th} {ps : List (Int × UInt8)} {K : Value → Heap → Prop}
theorem image_spec (Z:SlCells h ta (ts.flatMap thV)) (hl:ts.length=tl) (htl:tl≤1000000000) (ht:∀ t ∈ ts,t.name.length≤1000000000∧t.text.length≤1000000000) (Y:SlCells h pa (ps.flatMap pkV)) (hpl:ps.length=pl) (hpb:pl≤140737488355328)
  (hK:∀ B h',Fr No h h'→h.size≤B→Own h' B→rd h' B=(pokesP (blocksN more) ps (imgP (blocksN more) (treeP (blocksN more) ts))).map bv →
   K (.tuple #[.slice (some ⟨B,0,none⟩) (512*blocksN more) (512*blocksN more),.agg ⟨(geoN (blocksN more)).v⟩]) h'):C.bolelaw16_Setup_image (setV more ta tl tc pa pl pc) h K:=by
 have bn:=blocksN_rng more
 generalize hn:blocksN more=n at *
 have hi:(geoN n).inodes=98+(n+4095) / 4096:=rfl
 have hd:(geoN n).data=98+(n+4095) / 4096+n / 64:=rfl
 have e3:IntKind.wrap .i64 (512*(n:Int))=((512*n:Nat):Int):=by rw [wrap_i64 (by omega) (by omega)]; omega
 refine bolelaw16_Setup_image.ok (New.intro fun h2 n2=>New.intro fun h3 n3=>⟨_,rfl,cellsAll ((n3.at_ n2.own.lt).trans n2.rd),blocks_spec rfl fun h4 f4=>⟨_,rfl,?_⟩⟩)
 rw [hn]
 refine Spc.Geo_spec (by omega) fun h5 f5=>⟨_,rfl,NewRow.intro rfl (Spc.G.one _) rfl fun h7 n7=>?_⟩
 rw [e3]
 refine ⟨⟨by omega,by omega,by omega,by omega⟩,?_⟩
 rw [Int.toNat_natCast]
 refine New.intro fun h8 n8=>?_
 have z2:=n2.size
 have z3:=n3.size
 have z4:=f4.size
 have z5:=f5.size
 have z7:=n7.size
 have z8:=n8.size
 have F3:Fr No h h3:=n2.fr.new n3
 have F8:Fr No h h8:=((F3.no (f4.no f5)).new n7).new n8
 have f38:Fr No h3 h8:=((f4.no f5).new n7).new n8
 have rs8:rd h8 h.size=setV more ta tl tc pa pl pc:=(f38.rd (by omega) fun y=>y).trans ((n3.at_ (by omega)).trans n2.rd)
 have rg8:rd h8 h5.size=(geoN n).v:=(n8.at_ (by omega)).trans n7.rd
 have rb8:rd h8 h7.size=(List.replicate (512*n) (0:UInt8)).map bv:=n8.rd.trans (rep8 _)
 have or8:Own h8 h2.size:=f38.own (by omega) (fun y=>y) n3.own
 have rr8:(rd h8 h2.size).length=5:=by rw [f38.rd (by omega) fun y=>y,n3.rd]; rfl
 refine ⟨_,rda rg8 rfl,_,rfl,cellsAll rs8,?_⟩
 have G:Good n (treeP n ts):=tree_good bn ts
 refine tree_spec (SlCells.fr F8 Z fun _ _ y=>y) hl htl ht fun h0 h9 col D i0 hz f9 T hi0 o=>⟨_,_,_,rfl,?_⟩
 rw [hn] at T o ⊢
 have b0:blkN ((treeP n ts).nd 0)=0:=by rw [tree_zero]; rfl
 generalize treeP n ts=s at *
 have z9:=f9.size
 have s2:=G.tr.n2
 have F9:Fr No h h9:=F8.no f9
 have rs9:rd h9 h.size=setV more ta tl tc pa pl pc:=(f9.rd (by omega) fun y=>y).trans rs8
 have rg9:rd h9 h5.size=(geoN n).v:=(f9.rd (by omega) fun y=>y).trans rg8
 have rb9:rd h9 h7.size=(List.replicate (512*n) (0:UInt8)).map bv:=(f9.rd (by omega) fun y=>y).trans rb8
 have ob9:Own h9 h7.size:=f9.own (by omega) (fun y=>y) n8.own
 have or9:Own h9 h2.size:=f9.own (by omega) (fun y=>y) or8
 have rr9:(rd h9 h2.size).length=5:=by rw [f9.rd (by omega) fun y=>y]; exact rr8
 have Far:∀ hx,Fr (fun b=>b=h7.size) h9 hx→Tree hx s D:=fun hx f=>T.far f (fun b e=>by have e:b=h7.size:=e; omega) (by omega) fun k=>(G.len k).1
 have lP:∀ m,m<s.n→(nodesP (geoN n).inodes (geoN n).data s.nd m (List.replicate (512*n) 0)).length=512*n:=fun m hm=>(np_all G.fit m hm).im.len
 refine ⟨fun fr n3 hx=>∃ i:Nat,n3=i∧i≤s.n∧fr=(((geoN n).data+sumB s.nd i:Nat):Int)∧Fr (fun b=>b=h7.size) h9 hx∧Own hx h7.size∧rd hx h7.size=(nodesP (geoN n).inodes (geoN n).data s.nd (i - 1) (List.replicate (512*n) 0)).map bv,
  fun _ n3 _=>((s.n:Int) - n3).toNat,⟨0,rfl,Nat.zero_le _,rfl,Fr.refl _ _,ob9,rb9⟩,?_⟩
 rintro fr n3 h10 ⟨i,rfl,hi',rfl,f10,o10,r10⟩
 have z10:=f10.size
 have w1:i<1000→IntKind.wrap .i64 ((i:Int)+1)=((i+1:Nat):Int):=fun _=>by rw [wrap_i64 (by omega) (by omega)]; omega
 have sn:s.n<1000:=by
  obtain ⟨j,hj,o'⟩:=G.ok
  have:=o'.nn
  omega
 refine cd (fun hlt=>?_) fun hge=>?_
 ·have hlt:i<s.n:=by omega
  refine ⟨⟨by omega,by omega⟩,?_⟩
  by_cases i0:i=0
  ·subst i0
   obtain ⟨p,ep,cp⟩:=(Far h10 f10).nul
   rw [ep]
   refine os ⟨none,cp,ct rfl ?_⟩
   rw [w1 (by omega)]
   exact ⟨⟨1,rfl,by omega,by show _=(((geoN n).data+(sumB s.nd 0+blkN (s.nd 0)):Nat):Int); rw [b0,Nat.add_zero],f10,o10,r10⟩,by show ((s.n:Int) - ((0+1:Nat):Int)).toNat<((s.n:Int) - ((0:Nat):Int)).toNat; omega⟩
  ·obtain ⟨p,ep,cp⟩:=(Far h10 f10).ptr i (by omega) hlt
   have N10:=(Far h10 f10).nd i (by omega) hlt
   rw [ep,Int.toNat_natCast]
   refine os ⟨_,cp,cf rfl (os ⟨_,_,_,rda N10.r rfl,?_⟩)⟩
   have lenS:=G.len i
   have hcnt:=G.tr.cnt
   have hcn:(geoN n).count=8*(n / 64):=rfl
   have next:∀ hx,Fr (fun b=>b=h7.size) h9 hx→Own hx h7.size→rd hx h7.size=(nodeP (512*(geoN n).inodes+64*i) (s.nd i) ((geoN n).data+sumB s.nd i) (nodesP (geoN n).inodes (geoN n).data s.nd (i - 1) (List.replicate (512*n) 0))).map bv →
     (∃ k:Nat,IntKind.wrap .i64 ((i:Int)+1)=k∧k≤s.n∧(((geoN n).data+sumB s.nd i+blkN (s.nd i):Nat):Int)=(((geoN n).data+sumB s.nd k:Nat):Int)∧Fr (fun b=>b=h7.size) h9 hx∧Own hx h7.size∧rd hx h7.size=(nodesP (geoN n).inodes (geoN n).data s.nd (k - 1) (List.replicate (512*n) 0)).map bv) ∧
     ((s.n:Int) - IntKind.wrap .i64 ((i:Int)+1)).toNat<((s.n:Int) - (i:Int)).toNat:=fun hx f o r=>by
    rw [w1 (by omega)]
    refine ⟨⟨i+1,rfl,by omega,?_,f,o,?_⟩,by omega⟩
    ·show _=(((geoN n).data+(sumB s.nd i+blkN (s.nd i)):Nat):Int)
     rw [Nat.add_assoc]
    ·rw [r,show i+1 - 1=(i - 1)+1 by omega]
     show _=(nodeP (512*(geoN n).inodes+64*(i - 1+1)) (s.nd (i - 1+1)) ((geoN n).data+sumB s.nd (i - 1+1)) _).map bv
     rw [show i - 1+1=i by omega]
   refine data_spec (x:=s.nd i) N10 (by omega) (fun x hx=>?_) (fun m hm=>?_) fun a l c h11 F11 el S=>?_
   ·have:=Sk.nameOk_iff.mp (G.nm hlt x hx)
    exact this.le
   ·have:=G.nu hlt m hm
    omega
   ·have f11:Fr (fun b=>b=h7.size) h9 h11:=f10.no F11
    have N11:=(Far h11 f11).nd i (by omega) hlt
    have z11:=F11.size
    have r11:rd h11 h7.size=_:=(F11.rd (by omega) fun y=>y).trans r10
    have o11:=F11.own (by omega) (fun y=>y) o10
    refine os ⟨_,rda N11.r rfl,ce (fun k3=>os ⟨_,rda N11.r rfl,os ⟨_,rda N11.r rfl,newB_intro fun cap h17 f17 hcap S17=>⟨?_,?_⟩⟩⟩) fun k3=>?_⟩
    ·have f17':=f11.no f17
     exact rda ((Far h17 f17').nd i (by omega) hlt).r rfl
    ·have f17':=f11.no f17
     have ed:dataP (s.nd i)=(s.nd i).text:=if_pos k3
     have es:sizeP (s.nd i)=(s.nd i).text.length:=if_pos k3
     have es':(((mkStr (s.nd i).text).size:Nat):Int)=((sizeP (s.nd i):Nat):Int):=by rw [es]; rfl
     rw [es']
     exact img_k1 (h5:=h5) (h7:=h7) (h9:=h9) (h10:=h10) (h18:=h17) (D:=D) (i:=i) (dl:=(s.nd i).text.length) (dc:=cap) (da:=some ⟨h11.size,0,none⟩) (K:=K) G (fun hx f=>(Far hx f).nd i (by omega) hlt) rg9 ⟨by omega,by omega⟩ f17' (f17.own (by omega) (fun y=>y) o11) ((f17.rd (by omega) fun y=>y).trans r11) (lP _ (by omega)) (by rw [ed]; exact S17) (by rw [ed]) hcap (fun p hp=>by cases hp; show h11.size≠h7.size; omega) (by omega) hlt next
    ·have ed:dataP (s.nd i)=cellsB (s.nd i) (s.nd i).names.length:=if_neg k3
     have dl:=G.data_len hlt
     rw [if_neg k3] at dl
     have es:sizeP (s.nd i)=(32*(s.nd i).names.length+511) / 512*512:=if_neg k3
     have e1:Int.tdiv (((32*(s.nd i).names.length:Nat):Int)+511) 512=(((32*(s.nd i).names.length+511) / 512:Nat):Int):=rfl
     have ew:IntKind.wrap .i64 (IntKind.wrap .i64 (Int.tdiv (IntKind.wrap .i64 ((l:Int)+511)) 512)*512)=((sizeP (s.nd i):Nat):Int):=by
      rw [el,es,wrap_i64 (n:=((32*(s.nd i).names.length:Nat):Int)+511) (by omega) (by omega),e1,wrap_i64 (n:=(((32*(s.nd i).names.length+511) / 512:Nat):Int)) (by omega) (by omega),wrap_i64 (by omega) (by omega)]; omega
     rw [ew]
     exact img_k1 (h5:=h5) (h7:=h7) (h9:=h9) (h10:=h10) (h18:=h11) (D:=D) (i:=i) (K:=K) G (fun hx f=>(Far hx f).nd i (by omega) hlt) rg9 ⟨by omega,by omega⟩ f11 o11 r11 (lP _ (by omega)) (by rw [ed]; exact S.cells) (by rw [dl,el]) S.le (fun p hp y=>by
      subst hp
      have:h10.size≤p.block:=S.2.2.1
      omega) (by omega) hlt next
 ·have:i=s.n:=by omega
  subst this
  have lI:(nodesP (geoN n).inodes (geoN n).data s.nd (s.n - 1) (List.replicate (512*n) 0)).length=512*n:=lP _ (by omega)
  have esum:=G.sum
  refine ⟨fun i1 hx=>∃ k:Nat,i1=k∧k≤4096*((geoN n).inodes - 98)∧Fr (fun b=>b=h7.size) h9 hx∧Own hx h7.size∧rd hx h7.size=(bitsP n ((geoN n).data+sumB s.nd s.n) k (nodesP (geoN n).inodes (geoN n).data s.nd (s.n - 1) (List.replicate (512*n) 0))).map bv,
   fun i1 _=>(((4096*((geoN n).inodes - 98):Nat):Int) - i1).toNat,⟨0,rfl,Nat.zero_le _,f10,o10,r10⟩,?_⟩
  rintro i1 h25 ⟨k,rfl,hk,f25,o25,r25⟩
  have z25:=f25.size
  have rg25:rd h25 h5.size=(geoN n).v:=(f25.rd (by omega) (by omega)).trans rg9
  have w4:IntKind.wrap .i64 (4096*IntKind.wrap .i64 (((geoN n).inodes:Int) - ((98:Nat):Int)))=((4096*((geoN n).inodes - 98):Nat):Int):=by
   rw [wrap_i64 (n:=((geoN n).inodes:Int) - ((98:Nat):Int)) (by omega) (by omega),wrap_i64 (by omega) (by omega)]; omega
  refine ⟨((geoN n).inodes:Int),rda rg25 rfl,((98:Nat):Int),rda rg25 rfl,?_⟩
  rw [w4]
  refine cd (fun hlt=>?_) fun hge=>?_
  ·have hk':k<4096*((geoN n).inodes - 98):=by omega
   have lb:=bits_length (n:=n) (free:=(geoN n).data+sumB s.nd s.n) (L:=nodesP (geoN n).inodes (geoN n).data s.nd (s.n - 1) (List.replicate (512*n) 0)) k
   have step:∀ hx,Did h7.size h25 hx ((putBit (bitsP n ((geoN n).data+sumB s.nd s.n) k (nodesP (geoN n).inodes (geoN n).data s.nd (s.n - 1) (List.replicate (512*n) 0))) (98*4096+k) true).map bv)→(k<(geoN n).data+sumB s.nd s.n∨n≤k) →
     (∃ j:Nat,IntKind.wrap .i64 ((k:Int)+1)=j∧j≤4096*((geoN n).inodes - 98)∧Fr (fun b=>b=h7.size) h9 hx∧Own hx h7.size∧rd hx h7.size=(bitsP n ((geoN n).data+sumB s.nd s.n) j (nodesP (geoN n).inodes (geoN n).data s.nd (s.n - 1) (List.replicate (512*n) 0))).map bv) ∧
     (((4096*((geoN n).inodes - 98):Nat):Int) - IntKind.wrap .i64 ((k:Int)+1)).toNat<(((4096*((geoN n).inodes - 98):Nat):Int) - (k:Int)).toNat:=fun hx d c=>by
    rw [wrap_i64 (show -9223372036854775808≤(k:Int)+1 by omega) (by omega)]
    refine ⟨⟨k+1,by omega,by omega,f25.trans d.fr fun _ _ y=>y,d.own,?_⟩,by omega⟩
    rw [d.rd]
    show _=(if k<(geoN n).data+sumB s.nd s.n∨n≤k then _ else _:Tm.Txt).map bv
    rw [if_pos c]
   refine cd (fun c1=>?_) fun c1=>cd (fun c2=>?_) fun c2=>?_
   ·exact set_bit (by omega) hk' (lb.trans lI) rg25 r25 o25 fun hx d=>step hx d (.inl (by omega))
   ·exact set_bit (by omega) hk' (lb.trans lI) rg25 r25 o25 fun hx d=>step hx d (.inr (by omega))
   ·rw [wrap_i64 (show -9223372036854775808≤(k:Int)+1 by omega) (by omega)]
    refine ⟨⟨k+1,by omega,by omega,f25,o25,?_⟩,by show (((4096*((geoN n).inodes - 98):Nat):Int) - ((k:Int)+1)).toNat<(((4096*((geoN n).inodes - 98):Nat):Int) - (k:Int)).toNat; omega⟩
    rw [r25]
    show _=(if k<(geoN n).data+sumB s.nd s.n∨n≤k then _ else _:Tm.Txt).map bv
    rw [if_neg (by omega)]
  ·have:k=4096*((geoN n).inodes - 98):=by omega
   subst this
   have r25:rd h25 h7.size=(imgP n s).map bv:=r25
   have lI:(imgP n s).length=512*n:=(bits_length _).trans lI
   generalize imgP n s=L at *
   have rs25:rd h25 h.size=setV more ta tl tc pa pl pc:=(f25.rd (by omega) (by omega)).trans rs9
   have f25':Fr No h h25:=F9.trans f25 fun b hb y=>by have y:b=h7.size:=y; omega
   refine ⟨_,_,_,rda rs25 rfl,?_⟩
   refine ⟨fun i1 hx=>∃ k:Nat,i1=k∧k≤ps.length∧Fr (fun b=>b=h7.size) h25 hx∧Own hx h7.size∧rd hx h7.size=(pokesP n (ps.take k) L).map bv,
    fun i1 _=>((ps.length:Int) - i1).toNat,⟨0,rfl,Nat.zero_le _,Fr.refl _ _,o25,r25⟩,?_⟩
   rintro i1 h28 ⟨k,rfl,hk,f28,o28,r28⟩
   have z28:=f28.size
   refine cd (fun hlt=>?_) fun hge=>?_
   ·have hk':k<ps.length:=by omega
    have Y28:SlCells h28 pa (ps.flatMap pkV):=SlCells.fr (f25'.trans f28 fun b hb y=>by have y:b=h7.size:=y; omega:Fr No h h28) Y fun _ _ y=>y
    obtain ⟨p,ep,cp⟩:∃ p,pa=some p∧Cells h28 (p.add (k*2)) (pkV ps[k]):=by
     cases pa with
     | none =>
      have c:ps.flatMap pkV=[]:=Y28
      have:=flat_length pkV 2 ps fun _ _=>rfl
      rw [c] at this
      exact absurd this (by simp; omega)
     | some p =>
      refine ⟨p,rfl,?_⟩
      have:=Cells.take (Cells.drop Y28 (k*2)) 2
      rw [flat_part pkV 2 ps (fun _ _=>rfl) k hk'] at this
      exact this
    rw [ep,Int.toNat_natCast]
    have tk:=List.take_succ_eq_append_getElem hk'
    generalize ps[k]=q at cp tk
    refine ⟨⟨by omega,by omega⟩,os ⟨_,rfl,cp,NewRow.intro rfl (one2 rfl rfl) rfl fun h30 n30=>⟨_,rda n30.rd rfl,?_⟩⟩⟩
    have z30:=n30.size
    have w5:IntKind.wrap .i64 (512*IntKind.wrap .i64 ((n:Int) - 98))=((512*(n - 98):Nat):Int):=by
     rw [wrap_i64 (n:=(n:Int) - 98) (by omega) (by omega),wrap_i64 (by omega) (by omega)]; omega
    have u1:IntKind.wrap .u64 ((512*(n - 98):Nat):Int)=((512*(n - 98):Nat):Int):=by rw [wrap_uu]; omega
    have hm:=modU_lt (x:=q.1) (m:=512*(n - 98)) (by omega)
    have w6:IntKind.wrap .i64 (50176+IntKind.wrap .i64 ((modU q.1 (512*(n - 98)):Nat):Int))=((512*98+modU q.1 (512*(n - 98)):Nat):Int):=by
     rw [wrap_i64 (n:=((modU q.1 (512*(n - 98)):Nat):Int)) (by omega) (by omega),wrap_i64 (by omega) (by omega)]; omega
    have em:Int.tmod (IntKind.wrap .u64 q.1) ((512*(n - 98):Nat):Int)=((modU q.1 (512*(n - 98)):Nat):Int):=by
     have a:=Int.emod_nonneg q.1 (show (18446744073709551616:Int)≠0 by decide)
     rw [wrap_uu,Int.tmod_eq_emod_of_nonneg a]
     unfold modU
     have b:=Int.emod_nonneg (q.1 % 18446744073709551616) (show ((512*(n - 98):Nat):Int)≠0 by omega)
     omega
    rw [w5,u1,if_neg (by omega),em,w6,Int.toNat_natCast]
    have r30:rd h30 h7.size=(pokesP n (ps.take k) L).map bv:=(n30.at_ (by omega)).trans r28
    have lp:=pokes_length n (ps.take k) L
    refine ⟨_,rda n30.rd rfl,⟨by omega,by omega⟩,Put.add (n30.ow o28) (by rw [r30,List.length_map,lp,lI]; omega) fun h31 d31=>?_⟩
    rw [wrap_i64 (show -9223372036854775808≤(k:Int)+1 by omega) (by omega)]
    refine ⟨⟨k+1,by omega,by omega,(f28.new n30).trans d31.fr fun _ _ y=>y,d31.own,?_⟩,by show ((ps.length:Int) - ((k:Int)+1)).toNat<((ps.length:Int) - (k:Int)).toNat; omega⟩
    rw [d31.rd,r30,Nat.zero_add,tk]
    unfold pokesP
    rw [List.foldl_append]
    show _=(List.set _ _ _).map bv
    rw [List.map_set]; rfl
   ·have:k=ps.length:=by omega
    subst this
    rw [List.take_length] at r28
    have rg28:rd h28 h5.size=(geoN n).v:=(f28.rd (by omega) (by omega)).trans ((f25.rd (by omega) (by omega)).trans rg9)
    have rl28:(rd h28 h2.size).length=5:=by rw [f28.rd (by omega) (by omega),f25.rd (by omega) (by omega)]; exact rr9
    have or28:Own h28 h2.size:=f28.own (by omega) (by omega) (f25.own (by omega) (by omega) or9)
    refine ⟨_,rfl,cellsAll rg28,PutRow.intro or28 rfl (Spc.G.one _) (by rw [rl28]; exact Nat.le_refl _) fun h32 d32=>?_⟩
    have z32:=d32.size
    have r32:rd h32 h2.size=(geoN n).v:=by rw [d32.rd,put_all _ _ (by rw [rl28]; rfl)]
    refine ⟨_,rfl,cellsAll r32,?_⟩
    refine hK h7.size h32 ((f25'.trans f28 fun b hb y=>by have y:b=h7.size:=y; omega).trans d32.fr fun b hb y=>by have y:b=h2.size:=y; omega) (by omega) (d32.fr.own (by omega) (fun y=>by have y:h7.size=h2.size:=y; omega) o28) ((d32.fr.rd (by omega) (fun y=>by have y:h7.size=h2.size:=y; omega)).trans r28)
end
end Go.Proofs.YtiapingedfnlnaaGreatDoor.Tr
namespace Go.Proofs.YtiapingedfnlnaaGreatDoor.Tr
open Go Go.Proofs Wx Hp Ad Tm Spc Re
open Ino (getM)
open Fi (readM)
open Di (findD listD)
open Sk (nameOk nameOk_iff)
open Pa (parseA makeA comps Taken wrong_mk okPart okPart_iff fits taken_of)
open Wl (St Pl noPl here upC more mu endGo endM metM linkM toM makeW Ok met_ok end_step end_nil)
def TxOk (x:Nd):Prop:=x.kind=3→textB x.text=true
theorem said_text (t:Th):textB (saidT t)=true:=by
 unfold saidT
 split
 ·assumption
 ·decide +kernel
theorem new_tx (t:Th) (d:Nat) (x:Nd):TxOk (newN t d x):=by
 unfold newN
 split
 ·exact fun y=>absurd (show (2:Int)=3 from y) (by decide)
 ·split
  ·exact fun _=>said_text t
  ·exact fun y=>absurd (show (1:Int)=3 from y) (by decide)
theorem step_tx {cnt i:Nat} {t:Th} {s:Ts} (h:∀ k,TxOk (s.nd k)):∀ k,TxOk ((stepT cnt i t s).nd k):=by
 have ad:∀ {y:Nd} {nm:Tm.Txt} {m:Nat},TxOk y→TxOk (addN y nm m):=fun h=>h
 have lk:∀ {y:Nd},TxOk y→TxOk (linkN y):=fun h=>h
 have up:∀ {f:Nat→Nd} {d:Nat} {y:Nd},(∀ k,TxOk (f k))→TxOk y→∀ k,TxOk (upF f d y k):=fun {f d y} hf hy k=>by
  by_cases e:k=d
  ·subst e; rw [upF_at]; exact hy
  ·rw [upF_ne _ _ e]; exact hf k
 unfold stepT
 split
 ·exact h
 ·split
  ·exact h
  ·split
   ·exact up (up h (lk (h _))) (ad (h _))
   ·split
    ·exact h
    ·refine up (up h (ad ?_)) (new_tx _ _ _)
     split
     ·exact lk (h _)
     ·exact h _
theorem treeGo_tx {cnt:Nat}:∀ (l:List Th) (i:Nat) (s:Ts),(∀ k,TxOk (s.nd k))→∀ k,TxOk ((treeGo cnt i l s).nd k)
 | [],_,_,h=>h
 | t::r,i,s,h=>by
  show ∀ k,TxOk ((if 40≤i then s else treeGo cnt (i+1) r (stepT cnt i t s)).nd k)
  split
  ·exact h
  ·exact treeGo_tx r (i+1) _ (step_tx h)
theorem tree_tx (n:Nat) (l:List Th):∀ k,TxOk ((treeP n l).nd k):=treeGo_tx l 0 _ fun k=>by
 show TxOk (upF (fun _=>nd0) 1 rootN k)
 by_cases e:k=1
 ·subst e; rw [upF_at]; exact fun y=>absurd y (by decide)
 ·rw [upF_ne _ _ e]; exact fun y=>absurd y (by decide)
theorem text_taken {s:Tm.Txt} (h:textB s=true):Taken s false (comps s):=by
 unfold textB at h
 simp only [Bool.and_eq_true,decide_eq_true_eq,List.all_eq_true,bne_iff_ne] at h
 obtain ⟨⟨⟨⟨h1,h2⟩,h3⟩,h4⟩,h5⟩:=h
 refine Taken.mk' (wrong_mk (fun e=>by rw [e] at h3; exact absurd h3 (by decide)) h1 fun y=>by cases y) h4 rfl ?_
 rw [fits,Bool.and_eq_true,decide_eq_true_eq,List.all_eq_true]
 exact ⟨fun p hp=>decide_eq_true (h2 p hp),h5⟩
def CompOk (c:Tm.Txt):Prop:=c=[46,46]∨nameOk c=true
theorem taken_comp {s:Tm.Txt} {b:Bool} {cs:List Tm.Txt} (t:Taken s b cs):∀ c ∈ cs,CompOk c:=fun c hc=>by
 obtain ⟨h1,h2⟩:=t.part hc
 obtain ⟨a,b',d⟩:=okPart_iff.mp h1
 by_cases e:c=[46,46]
 ·exact .inl e
 ·exact .inr (nameOk_iff.mpr ⟨List.length_pos_iff.mpr a,h2,b',e,d⟩)
def goesGo (f:Nat→Nd) (fl beh:Bool):Nat→St→Pl×Int
 | 0,_=>(noPl,0)
 | m+1,s=>match s.left with
  | []=>(⟨s.chain,[],here s.chain⟩,0)
  | c::r=>if c=[46,46] then goesGo f fl beh m ⟨upC s.chain,r,s.fol⟩ else
   if hasN (f (here s.chain).toNat).names (f (here s.chain).toNat).nums c=0 then (noPl,160) else
   if (f (hasN (f (here s.chain).toNat).names (f (here s.chain).toNat).nums c).toNat).kind=2∧more beh r=true then goesGo f fl beh m ⟨s.chain++[hasN (f (here s.chain).toNat).names (f (here s.chain).toNat).nums c],r,s.fol⟩ else
   if (f (hasN (f (here s.chain).toNat).names (f (here s.chain).toNat).nums c).toNat).kind=3∧(more beh r=true∨fl=true) then
    (if s.fol=8 then (noPl,162) else goesGo f fl beh m ⟨if (f (hasN (f (here s.chain).toNat).names (f (here s.chain).toNat).nums c).toNat).text.head?=some 47 then [1] else s.chain,comps (f (hasN (f (here s.chain).toNat).names (f (here s.chain).toNat).nums c).toNat).text++r,s.fol+1⟩) else
   if more beh r=true then (noPl,161) else (⟨s.chain,c,hasN (f (here s.chain).toNat).names (f (here s.chain).toNat).nums c⟩,0)
def goesM (f:Nat→Nd) (fl beh:Bool) (s:St):Pl×Int:=goesGo f fl beh (mu s+1) s
def IsDir (s:Ts) (x:Int):Prop:=∃ k:Nat,x=k∧1≤k∧k<s.n∧(s.nd k).kind=2
structure On (s:Ts) (st:St):Prop where
 ne:st.chain≠[]
 fol:st.fol≤8
 dir:∀ x ∈ st.chain,IsDir s x
 left:∀ c ∈ st.left,CompOk c
section
variable {n : Nat} {s : Ts} {T : TM} {fl beh : Bool}
theorem here_mem {l:List Int} (h:l≠[]):here l ∈ l:=by
 unfold here
 rw [List.getLastD_eq_getLast?,List.getLast?_eq_some_getLast h]
 exact List.getLast_mem h
theorem On.here_ {st:St} (o:On s st):IsDir s (here st.chain):=o.dir _ (here_mem o.ne)
theorem hasN_mem : ∀ {l:List Tm.Txt} {m:List Int} {c:Tm.Txt},hasN l m c≠0→hasN l m c ∈ m
 | [],m,_,h=>by cases m <;> exact absurd rfl h
 | _::_,[],_,h=>absurd rfl h
 | x::r,v::m,c,h=>by
  have h:(if x=c then v else hasN r m c)≠0:=h
  show (if x=c then v else hasN r m c) ∈ v::m
  by_cases e:x=c
  ·rw [if_pos e]; exact List.mem_cons_self
  ·rw [if_neg e] at h ⊢
   exact List.mem_cons_of_mem _ (hasN_mem h)
theorem Good.has_rng (g:Good n s) {k:Nat} (hk:k<s.n) {c:Tm.Txt} (h:hasN (s.nd k).names (s.nd k).nums c≠0):∃ q:Nat,hasN (s.nd k).names (s.nd k).nums c=q∧1≤q∧q<s.n:=by
 have:=g.nu hk _ (hasN_mem h)
 exact ⟨(hasN (s.nd k).names (s.nd k).nums c).toNat,by omega,by omega,by omega⟩
theorem on_up {st:St} {r:List Tm.Txt} (o:On s st) (hr:∀ c ∈ r,CompOk c):On s ⟨upC st.chain,r,st.fol⟩:=by
 refine ⟨?_,o.fol,fun x hx=>?_,hr⟩
 ·show upC st.chain≠[]
  unfold upC
  split
  ·intro y
   have:=congrArg List.length y
   rw [List.length_dropLast,List.length_nil] at this
   omega
  ·exact o.ne
 ·have hx:x ∈ upC st.chain:=hx
  unfold upC at hx
  split at hx
  ·exact o.dir x (List.dropLast_subset _ hx)
  ·exact o.dir x hx
theorem end_goes (g:Good n s) (tx:∀ k,TxOk (s.nd k)) (S:Shows T (geoN n) s):∀ (m:Nat) (st:St),On s st→endGo T (geoN n) fl beh m st=goesGo s.nd fl beh m st
 | 0,_,_=>rfl
 | m+1,st,o=>by
  unfold endGo goesGo
  cases hl:st.left with
  | nil=>rfl
  | cons c r =>
   have hc:=o.left c (by rw [hl]; exact List.mem_cons_self)
   have hr:∀ x ∈ r,CompOk x:=fun x hx=>o.left x (by rw [hl]; exact List.mem_cons_of_mem _ hx)
   dsimp only
   by_cases c1:c=[46,46]
   ·rw [if_pos c1,if_pos c1]
    exact end_goes g tx S m _ (on_up o hr)
   ·rw [if_neg c1,if_neg c1]
    obtain ⟨k,ek,k1,k2,k3⟩:=o.here_
    have nk:nameOk c=true:=hc.resolve_left c1
    rw [ek,Int.toNat_natCast,S.find k k1 k2 k3 c nk]
    by_cases c2:hasN (s.nd k).names (s.nd k).nums c=0
    ·rw [if_pos c2,if_pos c2]; rfl
    ·rw [if_neg c2,if_neg (fun y=>y rfl),if_neg c2]
     obtain ⟨q,eq,q1,q2⟩:=g.has_rng k2 c2
     rw [eq,Int.toNat_natCast]
     have gq:=S.get q q1 q2
     show (if (getM T (geoN n) (q:Int)).2≠0 then _ else _)=_
     rw [if_neg (by rw [gq.1]; exact fun y=>y rfl)]
     have kd:=g.tr.kd q q1 q2
     rw [gq.2]
     by_cases k2':(s.nd q).kind=2
     ·by_cases mo:more beh r=true
      ·have em:metM T (geoN n) fl beh ⟨st.chain,r,st.fol⟩ (s.nd q).kind (q:Int)=(false,0,⟨st.chain++[(q:Int)],r,st.fol⟩):=by
        unfold metM
        rw [if_pos k2',if_neg (by rw [mo]; decide)]
       rw [em]
       dsimp only
       rw [if_neg (fun y=>y rfl),if_neg (by decide),if_pos (show (s.nd q).kind=2∧more beh r=true from ⟨k2',mo⟩)]
       refine end_goes g tx S m _ ⟨by simp,o.fol,fun x hx=>?_,hr⟩
       rcases List.mem_append.mp hx with hx|hx
       ·exact o.dir x hx
       ·rw [List.mem_singleton.mp hx]; exact ⟨q,rfl,q1,q2,k2'⟩
      ·have mo':more beh r=false:=by simpa using mo
       have em:metM T (geoN n) fl beh ⟨st.chain,r,st.fol⟩ (s.nd q).kind (q:Int)=(true,0,⟨st.chain,r,st.fol⟩):=by
        unfold metM
        rw [if_pos k2',if_pos mo']
       rw [em]
       dsimp only
       rw [if_neg (fun y=>y rfl),if_pos rfl,if_neg (show ¬ ((s.nd q).kind=2∧more beh r=true) from fun y=>mo y.2),if_neg (show ¬ ((s.nd q).kind=3∧(more beh r=true∨fl=true)) from fun y=>by have:=y.1; omega),if_neg mo]
     ·rw [if_neg (show ¬ ((s.nd q).kind=2∧more beh r=true) from fun y=>k2' y.1)]
      by_cases k3':(s.nd q).kind=3
      ·by_cases mo:more beh r=false∧fl=false
       ·have e2:¬ (more beh r=true∨fl=true):=by rw [mo.1,mo.2]; decide
        have em:metM T (geoN n) fl beh ⟨st.chain,r,st.fol⟩ (s.nd q).kind (q:Int)=(true,0,⟨st.chain,r,st.fol⟩):=by
         unfold metM linkM
         rw [if_neg k2',if_pos k3',if_pos mo]
        rw [em]
        dsimp only
        rw [if_neg (fun y=>y rfl),if_pos rfl,if_neg (show ¬ ((s.nd q).kind=3∧(more beh r=true∨fl=true)) from fun y=>e2 y.2),if_neg (show ¬ more beh r=true from fun y=>e2 (.inl y))]
       ·have e2:more beh r=true∨fl=true:=by
         cases h1:more beh r with
         | true=>exact .inl rfl
         | false =>
          cases h2:fl with
          | true=>exact .inr rfl
          | false=>exact absurd ⟨h1,h2⟩ mo
        rw [if_pos (show (s.nd q).kind=3∧(more beh r=true∨fl=true) from ⟨k3',e2⟩)]
        by_cases f8:st.fol=8
        ·have em:metM T (geoN n) fl beh ⟨st.chain,r,st.fol⟩ (s.nd q).kind (q:Int)=(false,162,⟨st.chain,r,st.fol⟩):=by
          unfold metM linkM
          rw [if_neg k2',if_pos k3',if_neg mo,if_pos f8]
         rw [em]
         dsimp only
         rw [if_pos (by decide),if_pos f8]
        ·have tt:=text_taken (tx q k3')
         have em:metM T (geoN n) fl beh ⟨st.chain,r,st.fol⟩ (s.nd q).kind (q:Int)=(false,0,⟨if (s.nd q).text.head?=some 47 then [1] else st.chain,comps (s.nd q).text++r,st.fol+1⟩):=by
          unfold metM linkM
          rw [if_neg k2',if_pos k3',if_neg mo,if_neg f8,S.read q q1 q2 k3',if_neg (fun y=>y rfl),tt.eq,if_neg (fun y=>y rfl)]
         rw [em]
         dsimp only
         rw [if_neg (fun y=>y rfl),if_neg (by decide),if_neg f8]
         have f9:=o.fol
         refine end_goes g tx S m _ ⟨?_,by show st.fol+1≤8; omega,fun x hx=>?_,fun x hx=>?_⟩
         ·show (if (s.nd q).text.head?=some 47 then [1] else st.chain)≠[]
          split
          ·simp
          ·exact o.ne
         ·have hx:x ∈ (if (s.nd q).text.head?=some 47 then [1] else st.chain):=hx
          split at hx
          ·rw [List.mem_singleton.mp hx]
           exact ⟨1,rfl,Nat.le_refl _,g.tr.n2,g.tr.root.1⟩
          ·exact o.dir x hx
         ·rcases List.mem_append.mp hx with hx|hx
          ·exact taken_comp tt x hx
          ·exact hr x hx
      ·rw [if_neg (show ¬ ((s.nd q).kind=3∧(more beh r=true∨fl=true)) from fun y=>k3' y.1)]
       by_cases mo:more beh r=true
       ·have em:metM T (geoN n) fl beh ⟨st.chain,r,st.fol⟩ (s.nd q).kind (q:Int)=(false,161,⟨st.chain,r,st.fol⟩):=by
         unfold metM
         rw [if_neg k2',if_neg k3',if_pos mo]
        rw [em]
        dsimp only
        rw [if_pos (by decide),if_pos mo]
       ·have em:metM T (geoN n) fl beh ⟨st.chain,r,st.fol⟩ (s.nd q).kind (q:Int)=(true,0,⟨st.chain,r,st.fol⟩):=by
         unfold metM
         rw [if_neg k2',if_neg k3',if_neg mo]
        rw [em]
        dsimp only
        rw [if_neg (fun y=>y rfl),if_pos rfl,if_neg mo]
theorem endM_goes (g:Good n s) (tx:∀ k,TxOk (s.nd k)) (S:Shows T (geoN n) s) {st:St} (o:On s st):endM T (geoN n) fl beh st=goesM s.nd fl beh st:=end_goes g tx S _ st o
theorem on_root (g:Good n s) {l:List Tm.Txt} {k:Nat} (hk:k≤8) (h:∀ c ∈ l,CompOk c):On s ⟨[1],l,k⟩ :=
 ⟨by simp,hk,fun x hx=>by rw [List.mem_singleton.mp hx]; exact ⟨1,rfl,Nat.le_refl _,g.tr.n2,g.tr.root.1⟩,h⟩
def toT (f:Nat→Nd) (p:Tm.Txt) (fl:Bool):Pl×Int:=if (parseA p true).2≠0 then (noPl,(parseA p true).2) else goesM f fl false ⟨[1],(parseA p true).1,0⟩
theorem to_tree (g:Good n s) (tx:∀ k,TxOk (s.nd k)) (S:Shows T (geoN n) s) (p:Tm.Txt):toM T (geoN n) p fl=toT s.nd p fl:=by
 unfold toM toT
 by_cases h:(parseA p true).2≠0
 ·rw [if_pos h,if_pos h]
 ·rw [if_neg h,if_neg h]
  exact endM_goes g tx S (on_root g (Nat.zero_le _) (taken_comp (taken_of (Classical.byContradiction h))))
end
end Go.Proofs.YtiapingedfnlnaaGreatDoor.Tr
namespace Go.Proofs
open Go Go.Shelf
def Tryz.keysA_ren : Go.Shelf.Ren:=⟨fun|7=>107|10=>180|n=>n,fun|23=>207|26=>3|3=>86|28=>213|0=>0|27=>212|33=>254|4=>4|n=>n,fun n=>n⟩
theorem Tryz.keysA : SlLaysZI.n7 Tryz.prog Tryz.keysA_ren where
 mixed:=by kernel_rfl
 f7 := ⟨ "maps.Keys[map[int][]byte,int,[]byte]", by decide, Tryz.func107.trans (congrArg some (by kernel_rfl))⟩
 f10 := ⟨ "maps.Keys[map[int][]byte,int,[]byte]$1", by decide, Tryz.func180.trans (congrArg some (by kernel_rfl))⟩
 t0:=Tryz.underlying0
 a0:=Tryz.isAgg0
 z0:=Tryz.sizeOf0
 v0:=Tryz.zeroValue0
 t4:=Tryz.underlying4
 a4:=Tryz.isAgg4
 z4:=Tryz.sizeOf4
 v4:=Tryz.zeroValue4
 t23:=Tryz.underlying207
 a23:=Tryz.isAgg207
 z23:=Tryz.sizeOf207
 v23:=Tryz.zeroValue207
 t26:=Tryz.underlying3
 a26:=Tryz.isAgg3
 z26:=Tryz.sizeOf3
 v26:=Tryz.zeroValue3
 t27:=Tryz.underlying212
 a27:=Tryz.isAgg212
 z27:=Tryz.sizeOf212
 v27:=Tryz.zeroValue212
 t28:=Tryz.underlying213
 a28:=Tryz.isAgg213
 z28:=Tryz.sizeOf213
 v28:=Tryz.zeroValue213
 t33:=Tryz.underlying254
 a33:=Tryz.isAgg254
 z33:=Tryz.sizeOf254
 v33:=Tryz.zeroValue254
def Tryz.sortedA_ren : Go.Shelf.Ren:=⟨fun|6=>106|8=>179|9=>93|11=>247|13=>147|12=>168|23=>222|24=>223|14=>234|15=>235|16=>236|17=>237|18=>238|19=>239|20=>240|21=>241|22=>242|25=>290|26=>279|27=>280|28=>291|29=>292|30=>149|31=>319|n=>n,fun|26=>3|28=>213|24=>61|0=>0|3=>3|37=>78|48=>325|50=>257|4=>4|40=>318|39=>317|45=>322|5=>5|9=>9|51=>374|55=>369|57=>398|58=>399|33=>254|n=>n,fun n=>n⟩
theorem Tryz.sortedA : SlLaysZI.n6 Tryz.prog Tryz.sortedA_ren where
 mixed:=by kernel_rfl
 f6 := ⟨ "slices.Sorted[int]", by decide, Tryz.func106.trans (congrArg some (by kernel_rfl))⟩
 f8 := ⟨ "slices.Collect[int]", by decide, Tryz.func179.trans (congrArg some (by kernel_rfl))⟩
 f11 := ⟨ "slices.AppendSeq[[]int,int]", by decide, Tryz.func247.trans (congrArg some (by kernel_rfl))⟩
 t0:=Tryz.underlying0
 a0:=Tryz.isAgg0
 z0:=Tryz.sizeOf0
 v0:=Tryz.zeroValue0
 t24:=Tryz.underlying61
 a24:=Tryz.isAgg61
 z24:=Tryz.sizeOf61
 v24:=Tryz.zeroValue61
 t26:=Tryz.underlying3
 a26:=Tryz.isAgg3
 z26:=Tryz.sizeOf3
 v26:=Tryz.zeroValue3
 t28:=Tryz.underlying213
 a28:=Tryz.isAgg213
 z28:=Tryz.sizeOf213
 v28:=Tryz.zeroValue213
 i26:=by kernel_rfl
def Tryz.sortA_ren : Go.Shelf.Ren:=⟨fun|5=>93|8=>147|7=>168|19=>222|20=>223|10=>234|11=>235|12=>236|13=>237|14=>238|15=>239|16=>240|17=>241|18=>242|30=>290|31=>279|32=>280|33=>291|34=>292|35=>149|40=>319|n=>n,fun|23=>61|25=>3|3=>3|32=>78|22=>61|0=>0|44=>325|46=>257|4=>4|36=>318|35=>317|41=>322|5=>5|9=>9|53=>374|57=>369|63=>398|64=>399|n=>n,fun n=>n⟩
theorem Tryz.sortA : SlLaysM.n5 Tryz.prog Tryz.sortA_ren where
 mixed:=by kernel_rfl
 f5 := ⟨ "slices.Sort[[]int,int]", by decide, Tryz.func93.trans (congrArg some (by kernel_rfl))⟩
 f7 := ⟨ "slices.pdqsortOrdered[int]", by decide, Tryz.func168.trans (congrArg some (by kernel_rfl))⟩
 f8:=Tryz.func147.trans (congrArg some (by kernel_rfl))
 f10 := ⟨ "slices.insertionSortOrdered[int]", by decide, Tryz.func234.trans (congrArg some (by kernel_rfl))⟩
 f11 := ⟨ "slices.heapSortOrdered[int]", by decide, Tryz.func235.trans (congrArg some (by kernel_rfl))⟩
 f12 := ⟨ "slices.breakPatternsOrdered[int]", by decide, Tryz.func236.trans (congrArg some (by kernel_rfl))⟩
 f13 := ⟨ "slices.choosePivotOrdered[int]", by decide, Tryz.func237.trans (congrArg some (by kernel_rfl))⟩
 f14 := ⟨ "slices.reverseRangeOrdered[int]", by decide, Tryz.func238.trans (congrArg some (by kernel_rfl))⟩
 f15 := ⟨ "slices.partialInsertionSortOrdered[int]", by decide, Tryz.func239.trans (congrArg some (by kernel_rfl))⟩
 f16 := ⟨ "cmp.Less[int]", by decide, Tryz.func240.trans (congrArg some (by kernel_rfl))⟩
 f17 := ⟨ "slices.partitionEqualOrdered[int]", by decide, Tryz.func241.trans (congrArg some (by kernel_rfl))⟩
 f18 := ⟨ "slices.partitionOrdered[int]", by decide, Tryz.func242.trans (congrArg some (by kernel_rfl))⟩
 f19:=Tryz.func222.trans (congrArg some (by kernel_rfl))
 f20:=Tryz.func223.trans (congrArg some (by kernel_rfl))
 f30 := ⟨ "slices.siftDownOrdered[int]", by decide, Tryz.func290.trans (congrArg some (by kernel_rfl))⟩
 f31:=Tryz.func279.trans (congrArg some (by kernel_rfl))
 f32:=Tryz.func280.trans (congrArg some (by kernel_rfl))
 f33 := ⟨ "slices.medianAdjacentOrdered[int]", by decide, Tryz.func291.trans (congrArg some (by kernel_rfl))⟩
 f34 := ⟨ "slices.medianOrdered[int]", by decide, Tryz.func292.trans (congrArg some (by kernel_rfl))⟩
 f35 := ⟨ "cmp.isNaN[int]", by decide, Tryz.func149.trans (congrArg some (by kernel_rfl))⟩
 f40 := ⟨ "slices.order2Ordered[int]", by decide, Tryz.func319.trans (congrArg some (by kernel_rfl))⟩
 t0:=Tryz.underlying0
 a0:=Tryz.isAgg0
 z0:=Tryz.sizeOf0
 v0:=Tryz.zeroValue0
 t3:=Tryz.underlying3
 a3:=Tryz.isAgg3
 z3:=Tryz.sizeOf3
 v3:=Tryz.zeroValue3
 t4:=Tryz.underlying4
 a4:=Tryz.isAgg4
 z4:=Tryz.sizeOf4
 v4:=Tryz.zeroValue4
 t5:=Tryz.underlying5
 a5:=Tryz.isAgg5
 z5:=Tryz.sizeOf5
 v5:=Tryz.zeroValue5
 t9:=Tryz.underlying9
 a9:=Tryz.isAgg9
 z9:=Tryz.sizeOf9
 v9:=Tryz.zeroValue9
 t22:=Tryz.underlying61
 a22:=Tryz.isAgg61
 z22:=Tryz.sizeOf61
 v22:=Tryz.zeroValue61
 t23:=Tryz.underlying61
 a23:=Tryz.isAgg61
 z23:=Tryz.sizeOf61
 v23:=Tryz.zeroValue61
 t25:=Tryz.underlying3
 a25:=Tryz.isAgg3
 z25:=Tryz.sizeOf3
 v25:=Tryz.zeroValue3
 t32:=Tryz.underlying78
 a32:=Tryz.isAgg78
 z32:=Tryz.sizeOf78
 v32:=Tryz.zeroValue78
 t35:=Tryz.underlying317
 a35:=Tryz.isAgg317
 z35:=Tryz.sizeOf317
 v35:=Tryz.zeroValue317
 t36:=Tryz.underlying318
 a36:=Tryz.isAgg318
 z36:=Tryz.sizeOf318
 v36:=Tryz.zeroValue318
 t41:=Tryz.underlying322
 a41:=Tryz.isAgg322
 z41:=Tryz.sizeOf322
 v41:=Tryz.zeroValue322
 t44:=Tryz.underlying325
 a44:=Tryz.isAgg325
 z44:=Tryz.sizeOf325
 v44:=Tryz.zeroValue325
 t46:=Tryz.underlying257
 a46:=Tryz.isAgg257
 z46:=Tryz.sizeOf257
 v46:=Tryz.zeroValue257
 t53:=Tryz.underlying374
 a53:=Tryz.isAgg374
 z53:=Tryz.sizeOf374
 v53:=Tryz.zeroValue374
 t57:=Tryz.underlying369
 a57:=Tryz.isAgg369
 z57:=Tryz.sizeOf369
 v57:=Tryz.zeroValue369
 t63:=Tryz.underlying398
 a63:=Tryz.isAgg398
 z63:=Tryz.sizeOf398
 v63:=Tryz.zeroValue398
 t64:=Tryz.underlying399
 a64:=Tryz.isAgg399
 z64:=Tryz.sizeOf399
 v64:=Tryz.zeroValue399
end Go.Proofs
namespace Go.Proofs.YtiapingedfnlnaaGreatDoor.Tm
open Go Go.Proofs Wx Hp W Ad
theorem insert_perm {H:Type} (x:Lit×DataW H):∀ l:List (Lit×DataW H),(DataW.insert x l).Perm (x::l)
 | []=>List.Perm.refl _
 | y::r=>by
  show (if x.1.before y.1 then x::y::r else y::DataW.insert x r).Perm _
  split
  ·exact List.Perm.refl _
  ·exact ((insert_perm x r).cons y).trans (List.Perm.swap x y r)
theorem foldr_perm {H:Type}:∀ l:List (Lit×DataW H),(l.foldr DataW.insert []).Perm l
 | []=>List.Perm.refl _
 | x::r=>(insert_perm x _).trans ((foldr_perm r).cons x)
def anyR : Value→Option (DataW Unit×List MemPlace):=fun _=>some (.nil,[])
def valI : Value→Int
 | .int _ n=>n
 | _=>0
def sortZ (l:List Int):List Int:=l.mergeSort fun x y=>decide (x≤y)
theorem Sorted_spec {α:Type} {f:α→Value} {h:Heap} {bx mb:Nat} {m:List (Int×α)} {K:Value→Heap→Prop} (hbx:rd h bx=[.map (some mb)]) (M:MapAt DI h mb (mm f m)) (hm:m.length≤1000000) (hr:∀ p ∈ m,-9223372036854775808≤p.1∧p.1≤9223372036854775807)
  (hK:∀ a c h',Fr No h h'→Sl h' 1 a m.length c ((sortZ (m.map (·.1))).map (.int .i64)) (From h.size)→K (.slice a m.length c) h') :
  C.slices_Sorted_int (.func (.func 180) #[] ⟨[.pointer (some ⟨bx,0,none⟩)]⟩) h K:=by
 refine ⟨⟨_,Tryz.func106,by kernel_rfl,by kernel_rfl⟩,fun w hw=>?_⟩
 subst hw
 obtain ⟨es,clock,hb,he,_,hst⟩:=M
 have hlen:es.size=m.length:=by
  have:=congrArg List.length he
  rw [List.length_map,List.length_map,mm_length] at this
  simpa using this
 have hkey:∀ x ∈ es.toList,∃ p ∈ m,x.key = .int .i64 p.1:=by
  intro x hx
  have:(x.key,x.val) ∈ es.toList.map (fun e=>(e.key,e.val)):=List.mem_map.mpr ⟨x,hx,rfl⟩
  rw [he] at this
  obtain ⟨q,hq,e⟩:=List.mem_map.mp this
  obtain ⟨p,hp,rfl⟩:=List.mem_map.mp hq
  exact ⟨p,hp,(congrArg Prod.fst e).symm⟩
 have hwf:∀ n:Int,-9223372036854775808≤n∧n≤9223372036854775807→(Lit.int .i64 n).wf=true:=fun n hn=>by
  have h1:IntKind.i64.min = -9223372036854775808:=rfl
  have h2:IntKind.i64.max=9223372036854775807:=rfl
  simp only [Lit.wf,Bool.and_eq_true,decide_eq_true_eq]
  omega
 have hread:∀ n:Int,-9223372036854775808≤n∧n≤9223372036854775807→∀ x:MapEntry,x.key = .int .i64 n→WideElems.rd Tryz.prog 3 anyR x=some (.int .i64 n,.nil):=fun n hn x hx=>by
  have h1:keyOf Tryz.prog 3 x.key=some (.int .i64 n):=by
   rw [hx]
   simp [keyOf,mapKey,Tryz.underlying3,hwf n hn]
  simp [WideElems.rd,h1,anyR]
 have fit:WideElems.Fit Tryz.prog 3 anyR es clock:=⟨by rw [hlen]; exact Nat.le_trans hm (by decide),hst,fun x hx=>by
  obtain ⟨p,hp,e⟩:=hkey x hx
  exact ⟨_,hread p.1 (hr p hp) x e⟩⟩
 have hown:w.ownsMap Tryz.prog 3 anyR mb m.length (.map ((es.toList.map (WideElems.rg Tryz.prog 3 anyR)).foldr DataW.insert [])):=⟨es,clock,hb,fit,by omega,rfl⟩
 have hperm:(intKeys (H:=Unit) (.map ((es.toList.map (WideElems.rg Tryz.prog 3 anyR)).foldr DataW.insert []))).Perm (m.map (·.1)):=by
  refine List.Perm.trans (l₂:=(es.toList.map (WideElems.rg Tryz.prog 3 anyR)).map fun p:Lit×DataW Unit=>Go.intOf p.1) ((foldr_perm _).map _) ?_
  rw [List.map_map]
  have e1:es.toList.map ((fun p:Lit×DataW Unit=>Go.intOf p.1) ∘ WideElems.rg Tryz.prog 3 anyR)=m.map (·.1):=by
   have e2:es.toList.map (fun x=>x.key)=m.map fun p=>(.int .i64 p.1:Value):=by
    have:=congrArg (List.map Prod.fst) he
    rw [List.map_map,List.map_map] at this
    rw [show (es.toList.map fun x=>x.key)=es.toList.map (Prod.fst ∘ fun e=>(e.key,e.val)) from rfl,this]
    rw [mm,List.map_map]; rfl
   have e3:es.toList.map ((fun p:Lit×DataW Unit=>Go.intOf p.1) ∘ WideElems.rg Tryz.prog 3 anyR)=(es.toList.map (fun x=>x.key)).map valI:=by
    rw [List.map_map]
    refine List.map_congr_left fun x hx=>?_
    obtain ⟨p,hp,e⟩:=hkey x hx
    have h1:=WideElems.rg_of (hread p.1 (hr p hp) x e)
    rw [Function.comp_apply,Function.comp_apply,h1,e]
    rfl
   rw [e3,e2,List.map_map]; rfl
  rw [e1]
 have hbl:bx<w.heap.size:=rd_lt (o:=0) (v := .map (some mb)) (by rw [hbx]; rfl)
 have hsz:Maps.size (.map ((es.toList.map (WideElems.rg Tryz.prog 3 anyR)).foldr DataW.insert []):DataW Unit)=m.length:=by
  have:=hperm.length_eq
  rw [List.length_map] at this
  rw [← this]
  show _=(List.map _ _).length
  rw [List.length_map]; rfl
 have hc:w.cell? ⟨bx,0,none⟩=some (.map (some mb)):=rdc hbx rfl
 have hseq:SeqGives Fence.wide 2 Tryz.prog 180 #[.pointer (some ⟨bx,0,none⟩)] encZ (fun ss=>ss.Perm (intKeys (H:=Unit) (.map ((es.toList.map (WideElems.rg Tryz.prog 3 anyR)).foldr DataW.insert [])))) (Maps.size (.map ((es.toList.map (WideElems.rg Tryz.prog 3 anyR)).foldr DataW.insert []):DataW Unit)) w :=
  AnyZI.keys_gives (ρ:=Tryz.keysA_ren) { Tryz.keysA with } Fence.wide _ trivial rfl (by omega) bx mb m.length _ _ hbl hc hown
 have sorts:∀ k,AnyZI.SortsIn Tryz.prog Tryz.sortedA_ren Fence.wide k:=fun k =>
  ⟨fun blk off cap ss W hH hblk hsz=>callsIn_wide.2 (AnyM.slices_Sort_int Tryz.sortA blk off cap ss W hH hblk hsz),
   fun p cap W=>callsIn_wide.2 (AnyM.slices_Sort_int_none Tryz.sortA p cap W)⟩
 have cS:=AnyZI.sorted_in Tryz.sortedA Fence.wide 5 trivial trivial trivial trivial rfl (by omega) (sorts _) (enters_of Tryz.func93 (by kernel_rfl) rfl) 180 #[.pointer (some ⟨bx,0,none⟩)] trivial (enters_of Tryz.func180 (by kernel_rfl) rfl) _ _ (by rw [hsz]; exact Nat.le_trans hm (by decide)) (by rw [hsz]; omega) _ hseq
 refine ((callsIn_wide (n:=5)).1 cS).mono fun e w' ⟨v,ss,he',hS,hrow,_,hbel⟩=>?_
 have hS':ss.Perm (m.map (·.1)):=hS.trans hperm
 have el:ss.length=m.length:=by have:=hS'.length_eq; rw [List.length_map] at this; exact this
 have es':ss.mergeSort (fun x y=>decide (x≤y))=sortZ (m.map (·.1)):=mergeSort_of_perm_i hS'
 rw [es',el] at hrow
 have fr:Fr No w.heap w'.heap:=⟨hbel.size,fun k hk _=>hbel.block k hk⟩
 refine ⟨v,he',⟨hbel.os,hbel.tape,hbel.output⟩,?_⟩
 obtain ⟨hl,hrow⟩:=hrow
 rcases hrow with ⟨rfl,hz⟩|⟨gb,cap,cur,rfl,hbase,hgb,r1,r2,r3,r4⟩
 ·rw [hz] at hK
  refine hK none 0 w'.heap fr ⟨?_,rfl,rfl⟩
  rw [hz] at hl; exact hl
 ·refine hK _ cap w'.heap fr ⟨hl,rfl,hbase,⟨_,_,_,hgb,.inl rfl⟩,r1,?_,?_⟩
  ·have e:rd w'.heap gb=cur.toList:=by unfold rd; rw [hgb]
   show ((rd w'.heap gb).drop 0).take _=_
   rw [e,List.drop_zero,hl]; exact r4
  ·have e:rd w'.heap gb=cur.toList:=by unfold rd; rw [hgb]
   show 0+cap*1≤(rd w'.heap gb).length
   rw [e,Array.length_toList,r3]; omega
def TM.written (T:TM):List Int:=sortZ (T.put.map (·.1))
theorem Written_spec {h:Heap} {F:Nat→Prop} {t d:Option Addr} {T:TM} {K:Value→Heap→Prop} (x:Tx h F t d T) (hp:T.put.length≤1000000)
  (hK:∀ a l c h',Fr No h h'→l=T.put.length→Sl h' 1 a l c (T.written.map (.int .i64)) (From h.size)→K (.slice a l c) h'):C.txn_Txn_Written t h K:=by
 rcases x with ⟨col,r,rfl,X,hF⟩|⟨col,tb,rfl,X,hF⟩
 ·have elen:T.put.length=r.ps.length:=by rw [X.put,List.length_map]
  refine txn_Txn_Written.ok (os ⟨_,rda X.cell rfl,cf rfl (os ⟨_,rda X.cell rfl,?_⟩)⟩)
  refine maps_Keys_map_int_byte_int_byte.ok (New.intro fun h2 n2=>⟨_,rfl,?_⟩)
  obtain ⟨D,dk,_⟩:=Tx.dk (.inl ⟨col,r,rfl,X,hF⟩:Tx h F (some ⟨r.tb,0,none⟩) d T)
  have hmax:T.N≤16384:=dk.max.1
  refine Sorted_spec (f:=fun x:Sc×Txt=>x.1.v) (m:=r.ps) n2.rd (map_fr X.map n2.fr fun x=>x) (by omega) (fun p hp=>?_) fun a c h3 f3 s=>⟨_,_,_,rfl,?_⟩
  ·have:=X.pk (p.1,p.2.2) (by rw [X.put]; exact List.mem_map.mpr ⟨p,hp,rfl⟩)
   simp only at this
   omega
  ·have e:T.written=sortZ (r.ps.map (·.1)):=by
    unfold TM.written
    rw [X.put,List.map_map]; rfl
   rw [← e] at s
   exact hK a _ c h3 (n2.fr.no f3) elen.symm (s.mono fun b hb=>Nat.le_trans n2.fr.size hb)
 ·refine txn_Txn_Written.ok (os ⟨_,rda X.cell rfl,ct rfl ?_⟩)
  have e1:=X.gone.1
  have e:T.written=[]:=by unfold TM.written; rw [e1]; exact List.mergeSort_nil
  have hK:=hK none 0 0 h (Fr.refl _ _) (by rw [e1]; rfl)
  rw [e] at hK
  exact hK (Sl.nil _ _ _)
end Go.Proofs.YtiapingedfnlnaaGreatDoor.Tm
namespace Go.Proofs.YtiapingedfnlnaaGreatDoor.Wl
open Go Go.Proofs Wx Hp W Re
open Hd (ints)
open In (ints_length)
open Tm (sortZ)
theorem sortZ_perm (l:List Int):(sortZ l).Perm l:=List.mergeSort_perm ..
theorem SortI_spec {h:Heap} {a:Option Addr} {l c:Nat} {zs:List Int} {F:Nat→Prop} {K:Value→Heap→Prop} (s:Sl h 1 a l c (ints zs) F) (hl:l<4611686018427387904)
  (hK:∀ h',Fr (fun b=>∃ p,a=some p∧b=p.block) h h'→Sl h' 1 a l c (ints (sortZ zs)) F→K (.tuple #[]) h'):C.slices_Sort_int_int a l c h K:=by
 refine ⟨⟨_,Tryz.func93,by kernel_rfl,by kernel_rfl⟩,fun w hw=>?_⟩
 subst hw
 have le:zs.length=l:=by
  have:=s.1
  rw [ints_length,Nat.mul_one] at this
  exact this
 cases a with
 | none =>
  have l0:l=0:=s.2.1
  have c0:c=0:=s.2.2
  subst l0 c0
  refine (AnyM.slices_Sort_int_none Tryz.sortA none 0 w).mono fun e w' ⟨he,hw'⟩=>⟨_,he,?_⟩
  subst hw'
  have e0:zs=[]:=List.length_eq_zero_iff.mp le
  subst e0
  have e1:sortZ []=[]:=List.mergeSort_nil
  rw [e1] at hK
  exact ⟨⟨rfl,rfl,rfl⟩,hK _ (Fr.refl _ _) s⟩
 | some p =>
  obtain ⟨b,o,sp⟩:=p
  have ep:sp=none:=s.2.1
  subst ep
  have hcells:=s.cells
  obtain ⟨_,_,hF,⟨cs,T,fz,hb,hfz⟩,hlc,hrow,hroom⟩:=s
  have erd:rd w.heap b=cs.toList:=by unfold rd; rw [hb]
  have hb':w.heap[b]?=some (.cells cs T fz):=hb
  simp only at hroom
  rw [erd,Array.length_toList,Nat.mul_one] at hroom
  have hH:Go.Sort.Holds (Value.int .i64) w b o zs.toArray:=fun j hj=>by
   have hj:j<zs.length:=hj
   refine ⟨?_,?_⟩
   ·have:=hcells j (.int .i64 zs[j]) (by unfold ints; rw [List.getElem?_map,List.getElem?_eq_getElem hj]; rfl)
    rw [add_mk] at this
    have e:zs.toArray[j]! = zs[j]:=by rw [getElem!_pos zs.toArray j hj]; rfl
    rw [e]; exact this
   ·show (match w.heap[b]? with
     | some (.cells _ _ (lo,hi))=>decide (lo≤o+j) && decide (o+j<hi)
     | _=>false)=false
    rw [hb']
    show (decide (fz.1≤o+j) && decide (o+j<fz.2))=false
    rcases hfz with e|e
    ·rw [e,decide_eq_false (show ¬ o+j<0 by omega),Bool.and_false]
    ·rw [decide_eq_false (by omega),Bool.false_and]
  have cS:=AnyM.slices_Sort_int Tryz.sortA b o c zs w hH (Array.getElem?_eq_some_iff.mp hb').1 (by rw [le]; exact hl)
  rw [le] at cS
  refine cS.mono fun e w' ⟨he,n,ws,hw'⟩=>⟨_,he,?_⟩
  have ls:(sortZ zs).length=l:=((sortZ_perm zs).length_eq).trans le
  have hH':=Go.Sort.holds_grow (Value.int .i64) _ ws b o _ (by
   show b<(w.heap.modify b _).size
   rw [Array.size_modify]; exact (Array.getElem?_eq_some_iff.mp hb').1) (Go.Sort.holds_putRow (Value.int .i64) (Sort.ahead w n) b o zs.toArray (sortZ zs).toArray (Go.Sort.holds_ahead _ _ _ _ _ _ hH) (by show (sortZ zs).length=zs.length; omega))
  have hw'':w'=Go.Sort.grow (Go.Sort.putRow (Value.int .i64) (Sort.ahead w n) b o (sortZ zs).toArray) ws:=hw'
  rw [← hw''] at hH'
  have eh:w'.heap=(w.heap.modify b (Go.Sort.onCells (Go.Sort.putCells (Value.int .i64) o (sortZ zs).toArray)))++ws:=by rw [hw'']; rfl
  have rest:SameRest w w':=by rw [hw'']; exact ⟨rfl,rfl,rfl⟩
  have hbl:=(Array.getElem?_eq_some_iff.mp hb').1
  have eb:w'.heap[b]?=some (.cells (Go.Sort.putCells (Value.int .i64) o (sortZ zs).toArray cs) T fz):=by
   rw [eh,Array.getElem?_append_left (by rw [Array.size_modify]; exact hbl),Array.getElem?_modify,if_pos rfl,hb']; rfl
  have esz:(Go.Sort.putCells (Value.int .i64) o (sortZ zs).toArray cs).size=cs.size:=by unfold Go.Sort.putCells; rw [Array.size_mapIdx]
  refine ⟨rest,hK _ ⟨by rw [eh,Array.size_append,Array.size_modify]; omega,fun b' hb1 hb2=>?_⟩ ⟨by rw [ints_length,ls,Nat.mul_one],rfl,hF,⟨_,T,fz,eb,by rw [esz]; exact hfz⟩,hlc,Di.rd_row fun j v hv=>?_,?_⟩⟩
  ·rw [eh,Array.getElem?_append_left (by rw [Array.size_modify]; exact hb1),Array.getElem?_modify,if_neg fun y=>hb2 ⟨_,rfl,y.symm⟩]
  ·have hj:j<(sortZ zs).length:=by
    have:=(List.getElem?_eq_some_iff.mp hv).1
    rw [ints_length] at this; exact this
   unfold ints at hv
   rw [List.getElem?_map,List.getElem?_eq_getElem hj] at hv
   have:=(hH' j hj).1
   have e:(sortZ zs).toArray[j]! = (sortZ zs)[j]:=by rw [getElem!_pos (sortZ zs).toArray j hj]; rfl
   rw [e] at this
   rw [← Option.some.inj hv]; exact this
  ·show o+c*1≤(rd w'.heap b).length
   have:rd w'.heap b=(Go.Sort.putCells (Value.int .i64) o (sortZ zs).toArray cs).toList:=by unfold rd; rw [eb]
   rw [this,Array.length_toList,esz,Nat.mul_one]; exact hroom
end Go.Proofs.YtiapingedfnlnaaGreatDoor.Wl
namespace Go.Proofs.YtiapingedfnlnaaGreatDoor.Wl
open Go Go.Proofs Wx Hp Ad Tm Spc Re
open Ino (getM)
open Di (listD sortE sortE_perm allE leavesGo leavesM leafM openM leaf_len open_size)
open Sk (E)
section
variable (T : TM) (g : G)
def kidsGo : List E→List Int×Int
 | []=>([],0)
 | c::r=>if (getM T g c.inode).2≠0 then ([],(getM T g c.inode).2) else ((if (getM T g c.inode).1.getD 0 0=2 then [c.inode] else [])++(kidsGo r).1,(kidsGo r).2)
def htOf (h ht:Int) (es:List E):Int:=if 0<es.length then h else ht
def lvlGo (h:Int):List Int→Int→List Int→Option (Int×Int)×Int×List Int
 | [],ht,nx=>(none,ht,nx)
 | d::r,ht,nx=>if (listD T g d).2≠0 then (some (0,(listD T g d).2),ht,nx) else if 32<htOf h ht (listD T g d).1 then (some (htOf h ht (listD T g d).1,0),ht,nx) else
  if (kidsGo T g (listD T g d).1).2≠0 then (some (0,(kidsGo T g (listD T g d).1).2),ht,nx) else lvlGo h r (htOf h ht (listD T g d).1) (nx++(kidsGo T g (listD T g d).1).1)
def heightGo : Nat→Int→Int→List Int→Int×Int
 | 0,_,ht,_=>(ht,0)
 | m+1,h,ht,l=>if l=[] then (ht,0) else match (lvlGo T g h l ht []).1 with
  | some r=>r
  | none=>heightGo m (h+1) (lvlGo T g h l ht []).2.1 (compZ (sortZ (lvlGo T g h l ht []).2.2))
def heightM (n:Int):Int×Int:=if (getM T g n).2≠0 then (0,(getM T g n).2) else if (getM T g n).1.getD 0 0≠2 then (0,161) else heightGo T g 40 1 0 [n]
end
section
variable {T : TM} {g : G}
theorem kids_len : ∀ l:List E,(kidsGo T g l).1.length≤l.length
 | []=>Nat.le_refl _
 | c::r=>by
  have:=kids_len r
  unfold kidsGo
  split
  ·exact Nat.zero_le _
  ·rw [List.length_append,List.length_cons]
   have:∀ b:Prop,[Decidable b]→(if b then [c.inode] else []).length≤1:=fun b _=>by split <;> simp
   have:=this ((getM T g c.inode).1.getD 0 0=2)
   omega
theorem get_rng {n:Int} (h:(getM T g n).2=0):1≤n∧n<g.count:=by
 unfold getM at h
 by_cases y:1≤n∧n<g.count
 ·exact y
 ·rw [if_pos y] at h; exact absurd h (by decide)
theorem kids_rng : ∀ l:List E,∀ x ∈ (kidsGo T g l).1,1≤x∧x<g.count
 | [],x,h=>by cases h
 | c::r,x,h=>by
  unfold kidsGo at h
  split at h
  ·cases h
  ·rename_i y
   rcases List.mem_append.mp h with h|h
   ·split at h
    ·rw [List.mem_singleton.mp h]
     exact get_rng (Classical.byContradiction y)
    ·cases h
   ·exact kids_rng r x h
theorem lvl_ht {h:Int}:∀ (l:List Int) (ht:Int) (nx:List Int),(lvlGo T g h l ht nx).1=none→((lvlGo T g h l ht nx).2.1=h∨((lvlGo T g h l ht nx).2.1=ht∧(lvlGo T g h l ht nx).2.2=nx))∧(ht≤32→(lvlGo T g h l ht nx).2.1≤32)
 | [],ht,nx,_=>⟨.inr ⟨rfl,rfl⟩,fun y=>y⟩
 | d::r,ht,nx,e=>by
  unfold lvlGo at e ⊢
  split at e
  ·cases e
  ·rename_i h1
   rw [if_neg h1]
   split at e
   ·cases e
   ·rename_i h2
    rw [if_neg h2]
    split at e
    ·cases e
    ·rename_i h3
     rw [if_neg h3]
     have ih:=lvl_ht r _ _ e
     refine ⟨?_,fun _=>ih.2 (by omega)⟩
     rcases ih.1 with y|⟨y1,y2⟩
     ·exact .inl y
     ·unfold htOf at y1 y2 h2 ⊢
      by_cases hp:0<(listD T g d).1.length
      ·rw [if_pos hp] at y1 ⊢; exact .inl y1
      ·rw [if_neg hp] at y1 y2 ⊢
       refine .inr ⟨y1,?_⟩
       have e0:(listD T g d).1=[]:=List.length_eq_zero_iff.mp (by omega)
       rw [y2,e0]
       exact List.append_nil _
theorem comp_strict : ∀ (l acc:List Int),acc.Pairwise (· < ·)→l.Pairwise (· ≤ ·)→(∀ a ∈ acc,∀ x ∈ l,a≤x)→(l.foldl cstep acc).Pairwise (· < ·)
 | [],acc,h,_,_=>h
 | y::r,acc,h,hl,hx=>by
  have hy:=List.pairwise_cons.mp hl
  refine comp_strict r (cstep acc y) ?_ hy.2 fun a ha x hxr=>?_
  ·unfold cstep
   split
   ·exact h
   ·rename_i hne
    refine List.pairwise_append.mpr ⟨h,List.pairwise_singleton _ _,fun a ha b hb=>?_⟩
    rw [List.mem_singleton.mp hb]
    have le:=hx a ha y List.mem_cons_self
    rcases Int.lt_or_eq_of_le le with lt|rfl
    ·exact lt
    ·exfalso
     have ne:acc≠[]:=fun e=>by rw [e] at ha; cases ha
     have e:=List.dropLast_concat_getLast ne
     rw [List.getLast?_eq_some_getLast ne] at hne
     have ha':a ∈ acc.dropLast++[acc.getLast ne]:=by rw [e]; exact ha
     rcases List.mem_append.mp ha' with ha'|ha'
     ·have hp:(acc.dropLast++[acc.getLast ne]).Pairwise (· < ·):=by rw [e]; exact h
      have:=(List.pairwise_append.mp hp).2.2 a ha' _ (List.mem_singleton.mpr rfl)
      have:=hx _ (List.getLast_mem ne) a List.mem_cons_self
      omega
     ·exact hne (by rw [List.mem_singleton.mp ha'])
  ·unfold cstep at ha
   split at ha
   ·exact hx a ha x (List.mem_cons_of_mem _ hxr)
   ·rcases List.mem_append.mp ha with ha|ha
    ·exact hx a ha x (List.mem_cons_of_mem _ hxr)
    ·rw [List.mem_singleton.mp ha]; exact hy.1 x hxr
theorem sortZ_sorted (l:List Int):(sortZ l).Pairwise (· ≤ ·):=by
 have:=List.pairwise_mergeSort (le:=fun x y:Int=>decide (x≤y)) (fun a b c h1 h2=>by rw [decide_eq_true_eq] at *; omega) (fun a b=>by rw [Bool.or_eq_true,decide_eq_true_eq,decide_eq_true_eq]; omega) l
 exact this.imp fun h=>by simpa using h
theorem level_len {nx:List Int} {m:Nat} (h:∀ x ∈ nx,1≤x∧x<(m:Int)):(compZ (sortZ nx)).length≤m∧∀ x ∈ compZ (sortZ nx),1≤x∧x<(m:Int):=by
 have mem:∀ x ∈ compZ (sortZ nx),1≤x∧x<(m:Int):=fun x hx=>by
  rcases comp_mem hx with y|y
  ·cases y
  ·exact h x ((sortZ_perm nx).mem_iff.mp y)
 refine ⟨?_,mem⟩
 have nd:(compZ (sortZ nx)).Nodup:=(comp_strict (sortZ nx) [] .nil (sortZ_sorted nx) (fun a ha=>by cases ha)).imp fun h=>by omega
 have:=nd.length_le_of_subset (l₂:=(List.range m).map fun k:Nat=>(k:Int)) fun x hx=>by
  have:=mem x hx
  exact List.mem_map.mpr ⟨x.toNat,List.mem_range.mpr (by omega),by omega⟩
 rw [List.length_map,List.length_range] at this
 exact this
theorem leaves_len (T:TM) (g:G) (R:List Int):∀ m k,(allE (leavesGo T g R m k).1).length≤16*m
 | 0,_=>Nat.le_refl _
 | m+1,k=>by
  have ih:=leaves_len T g R m (k+1)
  unfold leavesGo
  split
  ·exact Nat.zero_le _
  ·have:=leaf_len T g R k
   unfold allE at ih ⊢
   rw [List.flatMap_cons,List.length_append,List.length_map]
   omega
theorem list_len (T:TM) (g:G) (n:Int):(listD T g n).1.length≤264352:=by
 unfold listD
 split
 ·exact Nat.zero_le _
 ·rename_i h1
  split
  ·exact Nat.zero_le _
  ·have:=leaves_len T g (openM T g n).1 ((openM T g n).1.getD 2 0 / 512).toNat 0
   have b:=(open_size (Classical.byContradiction h1)).2
   rw [(sortE_perm _).length_eq]
   unfold leavesM
   omega
end
end Go.Proofs.YtiapingedfnlnaaGreatDoor.Wl
namespace Go.Proofs.YtiapingedfnlnaaGreatDoor.Tr
open Go Go.Proofs Wx Hp Ad Tm Spc Re
open Ino (getM)
open Di (listD)
open Sk (E)
open Wl (kidsGo htOf lvlGo heightGo heightM compZ sortZ_perm cstep cstep_last comp_mem)
def hgtL (f:Nat→Nd) (hg:Nat→Nat):List Int→Nat→Nat
 | [],h=>h
 | m::r,h=>hgtL f hg r (if (f m.toNat).kind=2 then max (max h 1) (1+hg m.toNat) else max h 1)
def hgtF (f:Nat→Nd):Nat→Nat→Nat
 | 0,_=>0
 | m+1,d=>hgtL f (hgtF f m) (f d).nums 0
section
variable {f : Nat → Nd} {hg : Nat → Nat}
theorem hgtL_le : ∀ (l:List Int) (h:Nat),h≤hgtL f hg l h
 | [],h=>Nat.le_refl _
 | m::r,h=>by
  refine Nat.le_trans ?_ (hgtL_le r _)
  split <;> omega
theorem hgtL_one : ∀ {l:List Int} {h:Nat},l≠[]→1≤hgtL f hg l h
 | [],_,y=>absurd rfl y
 | m::r,h,_=>by
  refine Nat.le_trans ?_ (hgtL_le r _)
  split <;> omega
theorem hgtL_kid : ∀ {l:List Int} {h:Nat} {x:Int},x ∈ l→(f x.toNat).kind=2→1+hg x.toNat≤hgtL f hg l h
 | [],_,_,y,_=>by cases y
 | m::r,h,x,hx,k=>by
  rcases List.mem_cons.mp hx with rfl|hx
  ·refine Nat.le_trans ?_ (hgtL_le r _)
   rw [if_pos k]; omega
  ·exact hgtL_kid (l:=r) hx k
theorem hgtL_lub {B:Nat}:∀ {l:List Int} {h:Nat},h≤B→(l≠[]→1≤B)→(∀ x ∈ l,(f x.toNat).kind=2→1+hg x.toNat≤B)→hgtL f hg l h≤B
 | [],_,a,_,_=>a
 | m::r,h,a,b,c=>by
  have b:=b (by simp)
  refine hgtL_lub (l:=r) ?_ (fun _=>b) fun x hx=>c x (List.mem_cons_of_mem _ hx)
  split
  ·rename_i k
   have:=c m List.mem_cons_self k
   omega
  ·omega
def top (hg:Nat→Nat) (l:List Int):Nat:=l.foldr (fun d v=>max (hg d.toNat) v) 0
theorem top_le : ∀ {l:List Int} {d:Int},d ∈ l→hg d.toNat≤top hg l
 | [],_,h=>by cases h
 | x::r,d,h=>by
  show _≤max (hg x.toNat) (top hg r)
  rcases List.mem_cons.mp h with rfl|h
  ·omega
  ·have:=top_le h; omega
theorem top_lub {B:Nat}:∀ {l:List Int},(∀ d ∈ l,hg d.toNat≤B)→top hg l≤B
 | [],_=>Nat.zero_le _
 | x::r,h=>by
  show max (hg x.toNat) (top hg r)≤B
  have:=h x List.mem_cons_self
  have:=top_lub (l:=r) fun d hd=>h d (List.mem_cons_of_mem _ hd)
  omega
end
theorem comp_mem' : ∀ {l acc:List Int} {x:Int},(x ∈ acc∨x ∈ l)→x ∈ l.foldl cstep acc
 | [],acc,x,h=>by
  rcases h with h|h
  ·exact h
  ·cases h
 | y::r,acc,x,h=>by
  refine comp_mem' (l:=r) (acc:=cstep acc y) ?_
  rcases h with h|h
  ·left
   unfold cstep
   split
   ·exact h
   ·exact List.mem_append_left _ h
  ·rcases List.mem_cons.mp h with rfl|h
   ·exact .inl (List.mem_of_getLast? (cstep_last acc x))
   ·exact .inr h
theorem next_mem {l:List Int} {x:Int}:x ∈ compZ (sortZ l)↔x ∈ l:=by
 constructor
 ·intro h
  rcases comp_mem h with y|y
  ·cases y
  ·exact (sortZ_perm l).mem_iff.mp y
 ·intro h
  exact comp_mem' (.inr ((sortZ_perm l).mem_iff.mpr h))
section
variable {n : Nat} {s : Ts} {T : TM}
theorem kids_spec (S:Shows T (geoN n) s):∀ {es:List E},(∀ c ∈ es,∃ q:Nat,c.inode=q∧1≤q∧q<s.n)→(kidsGo T (geoN n) es).2=0∧∀ x,x ∈ (kidsGo T (geoN n) es).1↔∃ c ∈ es,c.inode=x∧(s.nd x.toNat).kind=2
 | [],_=>⟨rfl,fun x=>⟨fun h=>(by cases h),fun ⟨c,h,_⟩=>(by cases h)⟩⟩
 | c::r,h=>by
  have ih:=kids_spec S (es:=r) fun x hx=>h x (List.mem_cons_of_mem _ hx)
  obtain ⟨q,e,q1,q2⟩:=h c List.mem_cons_self
  have gq:=S.get q q1 q2
  unfold kidsGo
  rw [e,if_neg (by rw [gq.1]; exact fun y=>y rfl),gq.2]
  refine ⟨ih.1,fun x=>?_⟩
  show x ∈ (if (s.nd q).kind=2 then [(q:Int)] else [])++(kidsGo T (geoN n) r).1↔_
  rw [List.mem_append,ih.2 x]
  constructor
  ·rintro (y|⟨d,hd,y⟩)
   ·split at y
    ·rename_i k2
     have:=List.mem_singleton.mp y
     subst this
     exact ⟨c,List.mem_cons_self,e,by rw [Int.toNat_natCast]; exact k2⟩
    ·cases y
   ·exact ⟨d,List.mem_cons_of_mem _ hd,y⟩
  ·rintro ⟨d,hd,y1,y2⟩
   rcases List.mem_cons.mp hd with rfl|hd
   ·left
    have:x=(q:Int):=y1.symm.trans e
    subst this
    rw [Int.toNat_natCast] at y2
    rw [if_pos y2]
    exact List.mem_singleton.mpr rfl
   ·exact .inr ⟨d,hd,y1,y2⟩
def AtLev (s:Ts) (h:Nat) (x:Int):Prop:=∃ k:Nat,x=k∧1≤k∧k<s.n∧(s.nd k).kind=2∧(h:Int)≤(s.nd k).depth+1
theorem lvl_spec (g:Good n s) (S:Shows T (geoN n) s) {h:Nat}:∀ {l:List Int} {ht:Int} {nx:List Int},(∀ d ∈ l,AtLev s h d)→ht≤32→∃ nx' ht',lvlGo T (geoN n) (h:Int) l ht nx=(none,ht',nx')∧ht'≤32 ∧
  (∀ x,x ∈ nx'↔x ∈ nx∨∃ d ∈ l,x ∈ (s.nd d.toNat).nums∧(s.nd x.toNat).kind=2)∧((∃ d ∈ l,(s.nd d.toNat).nums≠[])→ht'=h)∧((∀ d ∈ l,(s.nd d.toNat).nums=[])→ht'=ht)
 | [],ht,nx,_,h2=>⟨nx,ht,rfl,h2,fun x=>⟨fun y => .inl y,fun y=>y.elim id fun ⟨d,hd,_⟩=>(by cases hd)⟩,fun ⟨d,hd,_⟩=>(by cases hd),fun _=>rfl⟩
 | d::r,ht,nx,hd,h2=>by
  obtain ⟨k,e,k1,k2,k3,k4⟩:=hd d List.mem_cons_self
  subst e
  have L:=S.list k k1 k2 k3
  have hl:(listD T (geoN n) (k:Int)).1.length=(s.nd k).nums.length:=by
   have:=L.2.length_eq
   rw [List.length_map] at this; exact this
  have mem:∀ x,(∃ c ∈ (listD T (geoN n) (k:Int)).1,c.inode=x)↔x ∈ (s.nd k).nums:=fun x=>by
   rw [← L.2.mem_iff,List.mem_map]
  have K:=kids_spec S (es:=(listD T (geoN n) (k:Int)).1) fun c hc=>by
   have:=(mem c.inode).mp ⟨c,hc,rfl⟩
   have:=g.nu k2 _ this
   exact ⟨c.inode.toNat,by omega,by omega,by omega⟩
  have h32:(s.nd k).nums≠[]→h≤32:=fun y=>by
   have:=g.tr.d31 k k2 fun z=>y (by
    have:=(g.len k).1
    rw [z] at this
    exact List.length_eq_zero_iff.mp this.symm)
   omega
  have eht:htOf (h:Int) ht (listD T (geoN n) (k:Int)).1=if (s.nd k).nums=[] then ht else (h:Int):=by
   unfold htOf
   rw [hl]
   by_cases y:(s.nd k).nums=[]
   ·rw [y,if_neg (by simp),if_pos rfl]
   ·rw [if_pos (List.length_pos_iff.mpr y),if_neg y]
  have hbig:htOf (h:Int) ht (listD T (geoN n) (k:Int)).1≤32:=by
   rw [eht]
   split
   ·exact h2
   ·rename_i y
    have:=h32 y
    omega
  obtain ⟨nx',ht',e1,e0,e2,e3,e4⟩:=lvl_spec g S (l:=r) (ht:=htOf (h:Int) ht (listD T (geoN n) (k:Int)).1) (nx:=nx++(kidsGo T (geoN n) (listD T (geoN n) (k:Int)).1).1) (fun x hx=>hd x (List.mem_cons_of_mem _ hx)) hbig
  refine ⟨nx',ht',?_,e0,fun x=>?_,fun ⟨d,hd',hne⟩=>?_,fun hall=>?_⟩
  ·unfold lvlGo
   rw [if_neg (by rw [L.1]; exact fun y=>y rfl),if_neg (by omega),if_neg (by rw [K.1]; exact fun y=>y rfl)]
   exact e1
  ·rw [e2 x,List.mem_append,K.2 x]
   constructor
   ·rintro ((y|⟨c,hc,y1,y2⟩)|⟨d,hd',y⟩)
    ·exact .inl y
    ·exact .inr ⟨_,List.mem_cons_self,by rw [Int.toNat_natCast]; exact (mem x).mp ⟨c,hc,y1⟩,y2⟩
    ·exact .inr ⟨d,List.mem_cons_of_mem _ hd',y⟩
   ·rintro (y|⟨d,hd',y1,y2⟩)
    ·exact .inl (.inl y)
    ·rcases List.mem_cons.mp hd' with rfl|hd'
     ·rw [Int.toNat_natCast] at y1
      obtain ⟨c,hc,y⟩:=(mem x).mpr y1
      exact .inl (.inr ⟨c,hc,y,y2⟩)
     ·exact .inr ⟨d,hd',y1,y2⟩
  ·by_cases h':∃ d ∈ r,(s.nd d.toNat).nums≠[]
   ·exact e3 h'
   ·have all:∀ d ∈ r,(s.nd d.toNat).nums=[]:=fun d hd=>Classical.byContradiction fun y=>h' ⟨d,hd,y⟩
    rcases List.mem_cons.mp hd' with rfl|hd'
    ·rw [Int.toNat_natCast] at hne
     rw [e4 all,eht,if_neg hne]
    ·exact absurd (all d hd') hne
  ·have h0:=hall _ List.mem_cons_self
   rw [Int.toNat_natCast] at h0
   rw [e4 fun d hd=>hall d (List.mem_cons_of_mem _ hd),eht,if_pos h0]
theorem height_go (g:Good n s) (S:Shows T (geoN n) s):∀ (m h:Nat) (ht:Int) (l:List Int),(∀ d ∈ l,AtLev s h d)→ht≤32→heightGo T (geoN n) m (h:Int) ht l=(if top (hgtF s.nd m) l=0 then ht else ((h+top (hgtF s.nd m) l - 1:Nat):Int),0)
 | 0,h,ht,l,_,_=>by
  have:top (hgtF s.nd 0) l=0:=Nat.le_zero.mp (top_lub fun d _=>Nat.le_refl 0)
  rw [if_pos this]; rfl
 | m+1,h,ht,l,hl,h2=>by
  unfold heightGo
  by_cases e:l=[]
  ·subst e
   rw [if_pos rfl]
   show _=(if (0:Nat)=0 then ht else _,(0:Int))
   rw [if_pos rfl]
  ·rw [if_neg e]
   obtain ⟨nx',ht',e1,e0,e2,e3,e4⟩:=lvl_spec g S (h:=h) (nx:=[]) hl h2
   rw [e1]
   show heightGo T (geoN n) m ((h:Int)+1) ht' (compZ (sortZ nx'))=_
   have e2:∀ x,x ∈ nx'↔∃ d ∈ l,x ∈ (s.nd d.toNat).nums∧(s.nd x.toNat).kind=2:=fun x=>by
    rw [e2 x]
    exact ⟨fun y=>y.elim (fun y=>by cases y) id,.inr⟩
   have nxt:∀ d ∈ compZ (sortZ nx'),AtLev s (h+1) d:=fun x hx=>by
    obtain ⟨d,hd,y1,y2⟩:=(e2 x).mp (next_mem.mp hx)
    obtain ⟨k,e,k1,k2,k3,k4⟩:=hl d hd
    subst e
    rw [Int.toNat_natCast] at y1
    have nu:=g.nu k2 _ y1
    obtain ⟨q,rfl⟩:∃ q:Nat,x=q:=⟨x.toNat,by omega⟩
    rw [Int.toNat_natCast] at y2
    have ow:=(g.tr.own k k1 k2 q y1).2 y2
    obtain ⟨u,u1,u2,u3,u4,u5,u6⟩:=g.tr.par q ow.2 (by omega) y2
    have:u=k:=by have:=ow.1; omega
    subst this
    exact ⟨q,rfl,by omega,by omega,y2,by rw [u6]; omega⟩
   have ih:=height_go g S m (h+1) ht' (compZ (sortZ nx')) nxt e0
   rw [show ((h:Int)+1)=((h+1:Nat):Int) by omega,ih]
   by_cases hn:∃ d ∈ l,(s.nd d.toNat).nums≠[]
   ·have eq:top (hgtF s.nd (m+1)) l=1+top (hgtF s.nd m) (compZ (sortZ nx')):=by
     refine Nat.le_antisymm (top_lub fun d hd=>?_) ?_
     ·refine hgtL_lub (Nat.zero_le _) (fun _=>by omega) fun x hx k2=>?_
      have:=top_le (hg:=hgtF s.nd m) (next_mem.mpr ((e2 x).mpr ⟨d,hd,hx,k2⟩))
      omega
     ·obtain ⟨d,hd,hne⟩:=hn
      have a:=top_le (hg:=hgtF s.nd (m+1)) hd
      have b:1≤hgtF s.nd (m+1) d.toNat:=hgtL_one hne
      have c:top (hgtF s.nd m) (compZ (sortZ nx'))≤top (hgtF s.nd (m+1)) l - 1:=top_lub fun x hx=>by
       obtain ⟨d',hd',y1,y2⟩:=(e2 x).mp (next_mem.mp hx)
       have a':=top_le (hg:=hgtF s.nd (m+1)) hd'
       have b':1+hgtF s.nd m x.toNat≤hgtF s.nd (m+1) d'.toNat:=hgtL_kid y1 y2
       omega
      omega
    rw [e3 hn,eq,if_neg (show ¬ 1+top (hgtF s.nd m) (compZ (sortZ nx'))=0 by omega)]
    by_cases z:top (hgtF s.nd m) (compZ (sortZ nx'))=0
    ·rw [if_pos z,z,show h+(1+0) - 1=h by omega]
    ·rw [if_neg z,show h+1+top (hgtF s.nd m) (compZ (sortZ nx')) - 1=h+(1+top (hgtF s.nd m) (compZ (sortZ nx'))) - 1 by omega]
   ·have all:∀ d ∈ l,(s.nd d.toNat).nums=[]:=fun d hd=>Classical.byContradiction fun y=>hn ⟨d,hd,y⟩
    have z1:top (hgtF s.nd (m+1)) l=0:=Nat.le_zero.mp (top_lub fun d hd=>by
     show hgtL s.nd (hgtF s.nd m) (s.nd d.toNat).nums 0≤0
     rw [all d hd]; exact Nat.le_refl _)
    have z2:top (hgtF s.nd m) (compZ (sortZ nx'))=0:=Nat.le_zero.mp (top_lub fun x hx=>by
     obtain ⟨d,hd,y1,_⟩:=(e2 x).mp (next_mem.mp hx)
     rw [all d hd] at y1; cases y1)
    rw [if_pos z1,if_pos z2,e4 all]
theorem height_dir (g:Good n s) (S:Shows T (geoN n) s) {k:Nat} (k1:1≤k) (k2:k<s.n) (k3:(s.nd k).kind=2):heightM T (geoN n) k=(((hgtF s.nd 40 k:Nat):Int),0):=by
 have gk:=S.get k k1 k2
 have h0:0≤(s.nd k).depth:=by
  obtain ⟨j,hj,o⟩:=g.ok
  exact (o.dep k).1
 unfold heightM
 rw [if_neg (by rw [gk.1]; exact fun y=>y rfl),gk.2,if_neg (fun y=>y k3)]
 have:=height_go g S 40 1 0 [(k:Int)] (fun d hd=>by rw [List.mem_singleton.mp hd]; exact ⟨k,rfl,k1,k2,k3,by omega⟩) (by decide)
 refine (show heightGo T (geoN n) 40 1 0 [(k:Int)]=heightGo T (geoN n) 40 ((1:Nat):Int) 0 [(k:Int)] from rfl).trans (this.trans ?_)
 have et:top (hgtF s.nd 40) [(k:Int)]=hgtF s.nd 40 k:=by
  show max (hgtF s.nd 40 (k:Int).toNat) 0=_
  rw [Int.toNat_natCast]; omega
 rw [et]
 by_cases z:hgtF s.nd 40 k=0
 ·rw [if_pos z,z]; rfl
 ·rw [if_neg z,show 1+hgtF s.nd 40 k - 1=hgtF s.nd 40 k by omega]
end
end Go.Proofs.YtiapingedfnlnaaGreatDoor.Tr
namespace Go.Proofs.YtiapingedfnlnaaGreatDoor.Tr
open Go Go.Proofs Wx Hp Ad Tm Spc Re
open Ino (getM)
open Di (findD)
open Sk (nameOk nameOk_iff)
open Pa (parseA makeA comps compA wrongB lastP isDots pieces noDot noDot_append Taken make_taken okPart okPart_iff taken_of)
open Wl (St Pl noPl here upC more mu toM makeW)
section
variable {n : Nat} {s : Ts} {T : TM} {fl beh : Bool}
theorem goes_on (g:Good n s) (tx:∀ k,TxOk (s.nd k)):∀ (m:Nat) (st:St),On s st→mu st<m→(goesGo s.nd fl beh m st).2=0→(goesGo s.nd fl beh m st).1.chain≠[]∧(∀ x ∈ (goesGo s.nd fl beh m st).1.chain,IsDir s x)∧1≤(goesGo s.nd fl beh m st).1.ino∧(goesGo s.nd fl beh m st).1.ino<(s.n:Int)
 | 0,_,_,h,_=>absurd h (Nat.not_lt_zero _)
 | m+1,st,o,h,e=>by
  unfold goesGo at e ⊢
  cases hl:st.left with
  | nil =>
   obtain ⟨k,ek,k1,k2,_⟩:=o.here_
   rw [hl] at e
   exact ⟨o.ne,o.dir,by show 1≤here st.chain; omega,by show here st.chain<(s.n:Int); omega⟩
  | cons c r =>
   rw [hl] at e
   have hc:=o.left c (by rw [hl]; exact List.mem_cons_self)
   have hr:∀ x ∈ r,CompOk x:=fun x hx=>o.left x (by rw [hl]; exact List.mem_cons_of_mem _ hx)
   have em:∀ x:List Int,mu ⟨x,r,st.fol⟩+1=mu st:=fun x=>by
    unfold mu; rw [hl,List.length_cons]; show 33*(8 - st.fol)+r.length+1=_; omega
   dsimp only at e ⊢
   by_cases c1:c=[46,46]
   ·rw [if_pos c1] at e ⊢
    have:=em (upC st.chain)
    exact goes_on g tx m _ (on_up o hr) (by omega) e
   ·rw [if_neg c1] at e ⊢
    obtain ⟨k,ek,k1,k2,k3⟩:=o.here_
    rw [ek,Int.toNat_natCast] at e ⊢
    by_cases c2:hasN (s.nd k).names (s.nd k).nums c=0
    ·rw [if_pos c2] at e; exact absurd (show (160:Int)=0 from e) (by decide)
    ·rw [if_neg c2] at e ⊢
     obtain ⟨q,eq,q1,q2⟩:=g.has_rng k2 c2
     rw [eq,Int.toNat_natCast] at e ⊢
     by_cases c3:(s.nd q).kind=2∧more beh r=true
     ·rw [if_pos c3] at e ⊢
      have:=em (st.chain++[(q:Int)])
      refine goes_on g tx m _ ⟨by simp,o.fol,fun x hx=>?_,hr⟩ (by omega) e
      rcases List.mem_append.mp hx with hx|hx
      ·exact o.dir x hx
      ·rw [List.mem_singleton.mp hx]; exact ⟨q,rfl,q1,q2,c3.1⟩
     ·rw [if_neg c3] at e ⊢
      by_cases c4:(s.nd q).kind=3∧(more beh r=true∨fl=true)
      ·rw [if_pos c4] at e ⊢
       by_cases f8:st.fol=8
       ·rw [if_pos f8] at e; exact absurd (show (162:Int)=0 from e) (by decide)
       ·rw [if_neg f8] at e ⊢
        have f9:=o.fol
        have tt:=text_taken (tx q c4.1)
        have tl:=tt.is.2.2
        have tl:(comps (s.nd q).text).length≤32:=by
         have:=tx q c4.1
         unfold textB at this
         simp only [Bool.and_eq_true,decide_eq_true_eq] at this
         exact this.2
        have hm:=em st.chain
        refine goes_on g tx m _ ⟨?_,by show st.fol+1≤8; omega,fun x hx=>?_,fun x hx=>?_⟩ ?_ e
        ·show (if (s.nd q).text.head?=some 47 then [1] else st.chain)≠[]
         split
         ·simp
         ·exact o.ne
        ·have hx:x ∈ (if (s.nd q).text.head?=some 47 then [1] else st.chain):=hx
         split at hx
         ·rw [List.mem_singleton.mp hx]
          exact ⟨1,rfl,Nat.le_refl _,g.tr.n2,g.tr.root.1⟩
         ·exact o.dir x hx
        ·rcases List.mem_append.mp hx with hx|hx
         ·exact taken_comp tt x hx
         ·exact hr x hx
        ·have hm:33*(8 - st.fol)+r.length+1=mu st:=hm
         show 33*(8 - (st.fol+1))+(comps (s.nd q).text++r).length<m
         rw [List.length_append]
         omega
      ·rw [if_neg c4] at e ⊢
       by_cases mo:more beh r=true
       ·rw [if_pos mo] at e; exact absurd (show (161:Int)=0 from e) (by decide)
       ·rw [if_neg mo] at e ⊢
        exact ⟨o.ne,o.dir,by show 1≤(q:Int); omega,by show (q:Int)<(s.n:Int); omega⟩
theorem goesM_on (g:Good n s) (tx:∀ k,TxOk (s.nd k)) {st:St} (o:On s st) (e:(goesM s.nd fl beh st).2=0):(goesM s.nd fl beh st).1.chain≠[]∧(∀ x ∈ (goesM s.nd fl beh st).1.chain,IsDir s x)∧1≤(goesM s.nd fl beh st).1.ino∧(goesM s.nd fl beh st).1.ino<(s.n:Int) :=
 goes_on g tx _ st o (Nat.lt_succ_self _) e
end
theorem make_parts {p:Tm.Txt} (h:(makeA p).2.2=0):(∀ c ∈ (makeA p).1,CompOk c)∧((makeA p).2.1=[]∨nameOk (makeA p).2.1=true):=by
 have hw:wrongB p true=false:=by
  cases hw:wrongB p true with
  | false=>rfl
  | true=>unfold makeA at h; rw [hw,if_pos rfl] at h; cases h
 have hd:¬ isDots (lastP p)=true:=fun y=>by
  unfold makeA at h; rw [hw,if_neg (by decide),if_pos y] at h; cases h
 obtain ⟨cs,hc⟩:∃ cs,compA p=some cs:=by
  cases hc:compA p with
  | none=>unfold makeA at h; rw [hw,if_neg (by decide),if_neg hd,hc] at h; cases h
  | some cs=>exact ⟨cs,rfl⟩
 have t:Taken p true cs:=⟨hw,hc⟩
 have co:=taken_comp t
 rw [make_taken t,if_neg hd]
 by_cases e:cs=[]
 ·rw [if_pos e]; exact ⟨fun c hc=>(by cases hc),.inl rfl⟩
 ·rw [if_neg e]
  refine ⟨fun c hc=>co c (List.dropLast_subset _ hc),.inr ?_⟩
  show nameOk (cs.getLastD [])=true
  have hm:cs.getLastD [] ∈ cs:=by
   rw [List.getLastD_eq_getLast?,List.getLast?_eq_some_getLast e]; exact List.getLast_mem e
  refine (co _ hm).resolve_left fun y=>?_
  have ec:=t.is.2.1
  have ec:cs=noDot (pieces p):=ec
  have pne:pieces p≠[]:=fun z=>e (by rw [ec,z]; rfl)
  have hsp:=List.dropLast_concat_getLast pne
  have hl:lastP p=(pieces p).getLast pne:=by
   unfold lastP
   rw [List.getLastD_eq_getLast?,List.getLast?_eq_some_getLast pne]; rfl
  have h46:¬ (pieces p).getLast pne=[46]:=fun z=>hd (by rw [hl,z]; rfl)
  rw [ec,← hsp,noDot_append,if_neg h46] at y
  have y:(pieces p).getLast pne=[46,46]:=by simpa using y
  exact hd (by rw [hl,y]; rfl)
def makeT (f:Nat→Nd) (p:Tm.Txt):Pl×Int:=if (makeA p).2.2≠0 then (noPl,(makeA p).2.2) else if (makeA p).2.1=[] then (⟨[1],[],1⟩,0) else
 if (goesM f false true ⟨[1],(makeA p).1,0⟩).2≠0 then (noPl,(goesM f false true ⟨[1],(makeA p).1,0⟩).2) else
 (⟨(goesM f false true ⟨[1],(makeA p).1,0⟩).1.chain,(makeA p).2.1,hasN (f (here (goesM f false true ⟨[1],(makeA p).1,0⟩).1.chain).toNat).names (f (here (goesM f false true ⟨[1],(makeA p).1,0⟩).1.chain).toNat).nums (makeA p).2.1⟩,0)
theorem make_tree {n:Nat} {s:Ts} {T:TM} (g:Good n s) (tx:∀ k,TxOk (s.nd k)) (S:Shows T (geoN n) s) (p:Tm.Txt):makeW T (geoN n) p=makeT s.nd p:=by
 unfold makeW makeT
 by_cases h:(makeA p).2.2≠0
 ·rw [if_pos h,if_pos h]
 ·rw [if_neg h,if_neg h]
  have mp:=make_parts (Classical.byContradiction h)
  by_cases e:(makeA p).2.1=[]
  ·rw [if_pos e,if_pos e]
  ·rw [if_neg e,if_neg e]
   have o:=on_root g (s:=s) (l:=(makeA p).1) (Nat.zero_le 8) mp.1
   rw [endM_goes g tx S o]
   by_cases w:(goesM s.nd false true ⟨[1],(makeA p).1,0⟩).2≠0
   ·rw [if_pos w,if_pos w]
   ·rw [if_neg w,if_neg w]
    obtain ⟨a,b,_⟩:=goesM_on g tx o (Classical.byContradiction w)
    obtain ⟨k,ek,k1,k2,k3⟩:=b _ (here_mem a)
    rw [ek,Int.toNat_natCast,S.find k k1 k2 k3 _ (mp.2.resolve_left e)]
    rw [if_neg]
    rintro ⟨y1,y2⟩
    by_cases z:hasN (s.nd k).names (s.nd k).nums (makeA p).2.1=0
    ·exact y2 (if_pos z)
    ·exact y1 (if_neg z)
def ts0 : List Th:=[⟨0,2,0,[97],[]⟩,⟨1,2,0,[98],[]⟩,⟨2,1,0,[102],[]⟩,⟨0,3,0,[108],[97,47,98]⟩,⟨1,3,0,[117,112],[46,46]⟩]
theorem pl_eq {x:Pl×Int} {c:List Int} {nm:Tm.Txt} {i e:Int} (h:x.1.chain=c∧x.1.name=nm∧x.1.ino=i∧x.2=e):x=(⟨c,nm,i⟩,e):=by
 obtain ⟨⟨a,b,d⟩,f⟩:=x
 obtain ⟨h1,h2,h3,h4⟩:=h
 subst h1 h2 h3 h4
 rfl
theorem ex_to1 : toT (treeP 128 ts0).nd [47,108,47,102] false=(⟨[1,2,3],[102],4⟩,0):=pl_eq (by decide +kernel)
theorem ex_make : makeT (treeP 128 ts0).nd [47,108,47,120]=(⟨[1,2,3],[120],0⟩,0):=pl_eq (by decide +kernel)
theorem ex_to2 : toT (treeP 128 ts0).nd [47,97,47,117,112] true=(⟨[1],[],1⟩,0):=pl_eq (by decide +kernel)
theorem ex_height : hgtF (treeP 128 ts0).nd 40 1=3:=by decide +kernel
end Go.Proofs.YtiapingedfnlnaaGreatDoor.Tr
namespace Go.Proofs.YtiapingedfnlnaaGreatDoor.Tr
open Go Go.Proofs Wx Hp Ad Tm Spc Re
open Sk (nameOk nameOk_iff)
open Pa (comps)
open Wl (St Pl noPl here upC more mu)
def nxt (f:Nat→Nd) (fl beh:Bool) (s:St):(Pl×Int) ⊕ St:=match s.left with
 | [] => .inl (⟨s.chain,[],here s.chain⟩,0)
 | c::r=>if c=[46,46] then .inr ⟨upC s.chain,r,s.fol⟩ else
  if hasN (f (here s.chain).toNat).names (f (here s.chain).toNat).nums c=0 then .inl (noPl,160) else
  if (f (hasN (f (here s.chain).toNat).names (f (here s.chain).toNat).nums c).toNat).kind=2∧more beh r=true then .inr ⟨s.chain++[hasN (f (here s.chain).toNat).names (f (here s.chain).toNat).nums c],r,s.fol⟩ else
  if (f (hasN (f (here s.chain).toNat).names (f (here s.chain).toNat).nums c).toNat).kind=3∧(more beh r=true∨fl=true) then
   (if s.fol=8 then .inl (noPl,162) else .inr ⟨if (f (hasN (f (here s.chain).toNat).names (f (here s.chain).toNat).nums c).toNat).text.head?=some 47 then [1] else s.chain,comps (f (hasN (f (here s.chain).toNat).names (f (here s.chain).toNat).nums c).toNat).text++r,s.fol+1⟩) else
  if more beh r=true then .inl (noPl,161) else .inl (⟨s.chain,c,hasN (f (here s.chain).toNat).names (f (here s.chain).toNat).nums c⟩,0)
def goOn {α:Type} (k:St→α) (r:Pl×Int→α):(Pl×Int) ⊕ St→α
 | .inl x=>r x
 | .inr s=>k s
theorem go_nxt (f:Nat→Nd) (fl beh:Bool) (m:Nat) (s:St):goesGo f fl beh (m+1) s=goOn (goesGo f fl beh m) id (nxt f fl beh s):=by
 unfold nxt
 conv=>lhs; unfold goesGo
 cases s.left with
 | nil=>rfl
 | cons c r =>
  dsimp only
  split
  ·rfl
  ·split
   ·rfl
   ·split
    ·rfl
    ·split
     ·split <;> rfl
     ·split <;> rfl
section
variable {n : Nat} {s : Ts} {fl beh : Bool}
theorem nxt_ok (g:Good n s) (tx:∀ k,TxOk (s.nd k)) {st st':St} (o:On s st) (e:nxt s.nd fl beh st = .inr st'):On s st'∧mu st'<mu st:=by
 unfold nxt at e
 cases hl:st.left with
 | nil=>rw [hl] at e; cases e
 | cons c r =>
  rw [hl] at e
  have hc:=o.left c (by rw [hl]; exact List.mem_cons_self)
  have hr:∀ x ∈ r,CompOk x:=fun x hx=>o.left x (by rw [hl]; exact List.mem_cons_of_mem _ hx)
  have em:∀ x:List Int,mu ⟨x,r,st.fol⟩+1=mu st:=fun x=>by
   unfold mu; rw [hl,List.length_cons]; show 33*(8 - st.fol)+r.length+1=_; omega
  dsimp only at e
  by_cases c1:c=[46,46]
  ·rw [if_pos c1] at e
   cases e
   have:=em (upC st.chain)
   exact ⟨on_up o hr,by omega⟩
  ·rw [if_neg c1] at e
   obtain ⟨k,ek,k1,k2,k3⟩:=o.here_
   rw [ek,Int.toNat_natCast] at e
   by_cases c2:hasN (s.nd k).names (s.nd k).nums c=0
   ·rw [if_pos c2] at e; cases e
   ·rw [if_neg c2] at e
    obtain ⟨q,eq,q1,q2⟩:=g.has_rng k2 c2
    rw [eq,Int.toNat_natCast] at e
    by_cases c3:(s.nd q).kind=2∧more beh r=true
    ·rw [if_pos c3] at e
     cases e
     have:=em (st.chain++[(q:Int)])
     refine ⟨⟨by simp,o.fol,fun x hx=>?_,hr⟩,by omega⟩
     rcases List.mem_append.mp hx with hx|hx
     ·exact o.dir x hx
     ·rw [List.mem_singleton.mp hx]; exact ⟨q,rfl,q1,q2,c3.1⟩
    ·rw [if_neg c3] at e
     by_cases c4:(s.nd q).kind=3∧(more beh r=true∨fl=true)
     ·rw [if_pos c4] at e
      by_cases f8:st.fol=8
      ·rw [if_pos f8] at e; cases e
      ·rw [if_neg f8] at e
       cases e
       have f9:=o.fol
       have tt:=text_taken (tx q c4.1)
       have tl:(comps (s.nd q).text).length≤32:=by
        have:=tx q c4.1
        unfold textB at this
        simp only [Bool.and_eq_true,decide_eq_true_eq] at this
        exact this.2
       have hm:33*(8 - st.fol)+r.length+1=mu st:=em st.chain
       refine ⟨⟨?_,by show st.fol+1≤8; omega,fun x hx=>?_,fun x hx=>?_⟩,?_⟩
       ·show (if (s.nd q).text.head?=some 47 then [1] else st.chain)≠[]
        split
        ·simp
        ·exact o.ne
       ·have hx:x ∈ (if (s.nd q).text.head?=some 47 then [1] else st.chain):=hx
        split at hx
        ·rw [List.mem_singleton.mp hx]
         exact ⟨1,rfl,Nat.le_refl _,g.tr.n2,g.tr.root.1⟩
        ·exact o.dir x hx
       ·rcases List.mem_append.mp hx with hx|hx
        ·exact taken_comp tt x hx
        ·exact hr x hx
       ·show 33*(8 - (st.fol+1))+(comps (s.nd q).text++r).length<mu st
        rw [List.length_append]
        omega
     ·rw [if_neg c4] at e
      split at e <;> cases e
theorem goes_fuel (g:Good n s) (tx:∀ k,TxOk (s.nd k)):∀ (m m':Nat) (st:St),On s st→mu st<m→mu st<m'→goesGo s.nd fl beh m st=goesGo s.nd fl beh m' st
 | 0,_,_,_,h,_=>absurd h (Nat.not_lt_zero _)
 | _,0,_,_,_,h=>absurd h (Nat.not_lt_zero _)
 | m+1,m'+1,st,o,h1,h2=>by
  rw [go_nxt,go_nxt]
  cases e:nxt s.nd fl beh st with
  | inl x=>rfl
  | inr st' =>
   obtain ⟨a,b⟩:=nxt_ok g tx o e
   exact goes_fuel g tx m m' st' a (by omega) (by omega)
theorem goes_nxt (g:Good n s) (tx:∀ k,TxOk (s.nd k)) {st:St} (o:On s st):goesM s.nd fl beh st=goOn (goesM s.nd fl beh) id (nxt s.nd fl beh st):=by
 unfold goesM
 rw [go_nxt]
 cases e:nxt s.nd fl beh st with
 | inl x=>rfl
 | inr st' =>
  obtain ⟨a,b⟩:=nxt_ok g tx o e
  exact goes_fuel g tx _ _ st' a (by omega) (Nat.lt_succ_self _)
theorem nxt_beh (f:Nat→Nd) (fl fl':Bool) (st:St):nxt f fl true st=nxt f fl' true st:=by
 unfold nxt
 have e:∀ (r:List Tm.Txt) (b:Bool) (P:Prop),(P∧(more true r=true∨b=true))=(P∧True):=fun r b P=>by
  have:more true r=true:=rfl
  simp [this]
 simp only [e]
theorem go_beh (f:Nat→Nd) (fl fl':Bool):∀ (m:Nat) (st:St),goesGo f fl true m st=goesGo f fl' true m st
 | 0,_=>rfl
 | m+1,st=>by
  rw [go_nxt,go_nxt,nxt_beh f fl fl']
  cases nxt f fl' true st with
  | inl x=>rfl
  | inr st'=>exact go_beh f fl fl' m st'
theorem go_dir (f:Nat→Nd) (fl:Bool):∀ (m:Nat) (st:St),(goesGo f fl true m st).2=0→(goesGo f fl true m st).1=noPl∨((goesGo f fl true m st).1.name=[]∧(goesGo f fl true m st).1.ino=here (goesGo f fl true m st).1.chain)
 | 0,_,_ => .inl rfl
 | m+1,st,e=>by
  rw [go_nxt] at e ⊢
  cases en:nxt f fl true st with
  | inr st' =>
   rw [en] at e
   exact go_dir f fl m st' e
  | inl x =>
   rw [en] at e
   have e:x.2=0:=e
   show x.1=noPl∨x.1.name=[]∧x.1.ino=here x.1.chain
   unfold nxt at en
   cases hl:st.left with
   | nil=>rw [hl] at en; cases en; exact .inr ⟨rfl,rfl⟩
   | cons c r =>
    rw [hl] at en
    dsimp only at en
    split at en
    ·cases en
    ·split at en
     ·cases en; exact .inl rfl
     ·split at en
      ·cases en
      ·split at en
       ·split at en
        ·cases en; exact .inl rfl
        ·cases en
       ·split at en
        ·cases en; exact .inl rfl
        ·rename_i h
         exact absurd rfl h
theorem go_err (f:Nat→Nd) (fl beh:Bool):∀ (m:Nat) (st:St),(goesGo f fl beh m st).2≠0→(goesGo f fl beh m st).1=noPl
 | 0,_,e=>absurd rfl e
 | m+1,st,e=>by
  rw [go_nxt] at e ⊢
  cases en:nxt f fl beh st with
  | inr st' =>
   rw [en] at e
   exact go_err f fl beh m st' e
  | inl x =>
   rw [en] at e
   have e:x.2≠0:=e
   show x.1=noPl
   unfold nxt at en
   cases hl:st.left with
   | nil=>rw [hl] at en; cases en; exact absurd rfl e
   | cons c r =>
    rw [hl] at en
    dsimp only at en
    split at en
    ·cases en
    ·split at en
     ·cases en; rfl
     ·split at en
      ·cases en
      ·split at en
       ·split at en
        ·cases en; rfl
        ·cases en
       ·split at en
        ·cases en; rfl
        ·cases en; exact absurd rfl e
theorem goesM_beh (f:Nat→Nd) (fl fl':Bool) (st:St):goesM f fl true st=goesM f fl' true st:=go_beh f fl fl' _ st
end
end Go.Proofs.YtiapingedfnlnaaGreatDoor.Tr
namespace Go.Proofs.YtiapingedfnlnaaGreatDoor.Wl
open Go Go.Proofs Wx Hp W Ad Tm Spc Re Av Ss
open Hd (ints)
open In (ints_length ints_one)
open Ino (getM Cok getM_length)
open Fi (cok)
open Di (listD ent_at sl_lt)
open Sk (E)
section
variable {h h2 h8 h9 h10 : Heap} {N : Nat} {t d : Option Addr} {K : Value → Heap → Prop} {F : Nat → Prop} {T : TM} {n : Int}
theorem kids_cons {g:G} {c:E} {r:List E}:kidsGo T g (c::r)=if (getM T g c.inode).2≠0 then ([],(getM T g c.inode).2) else ((if (getM T g c.inode).1.getD 0 0=2 then [c.inode] else [])++(kidsGo T g r).1,(kidsGo T g r).2):=rfl
theorem Height_k1 {j:Nat} {height2 ht3 n4:Int} {na:Option Addr} {nl nc:Nat} {nx:List Int} {es:List E} {ea:Option Addr} {el:Nat} {R:Int×Int} (gl:In.Glo h) (dm:Dim N) (X:Tx h F t d T)
  {I2:Int→Option Addr→Nat→Nat→Int→Heap→Prop} {M2:Int→Option Addr→Nat→Nat→Int→Heap→Nat}
  (F10:Fr No h h10) (rg:rd h10 h.size=(geoN N).v) (z9:h.size<h8.size) (z89:h8.size≤h9.size) (z910:h9.size≤h10.size)
  (S:Sl h10 1 na nl nc (ints nx) (fun b=>h8.size≤b∧b<h9.size)) (B:Sl h10 3 ea el el (es.flatMap E.v) (From h9.size)∨SlCells h10 ea (es.flatMap E.v)∧∀ p,ea=some p→h9.size≤p.block∧p.block<h10.size) (hel:es.length=el)
  (hes:el≤264352) (hnx:nx.length≤600000000) (hn4:n4=j) (hj:j≤100000000)
  (hbig:32<ht3→R=(ht3,0)) (herr:¬ 32<ht3→(kidsGo T (geoN N) es).2≠0→R=(0,(kidsGo T (geoN N) es).2))
  (hnext:¬ 32<ht3→(kidsGo T (geoN N) es).2=0→∀ hx na' nl' nc',Fr (fun b=>(h8.size≤b∧b<h9.size)∨h10.size≤b) h10 hx→Sl hx 1 na' nl' nc' (ints (nx++(kidsGo T (geoN N) es).1)) (From h8.size)→I2 ht3 na' nl' nc' ((j:Int)+1) hx∧M2 ht3 na' nl' nc' ((j:Int)+1) hx<M2 height2 na nl nc n4 h9)
  (hK:∀ h',Fr No h h'→K (.tuple #[.int .i64 R.1,.int .i64 R.2]) h'):walk_Height.k1 t h height2 na nl nc n4 h9 I2 M2 h10 ea el ht3 K:=by
 subst hn4
 have B':SlCells h10 ea (es.flatMap E.v)∧∀ p,ea=some p→h9.size≤p.block∧p.block<h10.size:=by
  rcases B with B|B
  ·refine ⟨B.cells,fun p hp=>?_⟩
   subst hp
   exact ⟨B.2.2.1,B.lt⟩
  ·exact B
 have z10:=F10.size
 refine cd (fun hb=>?_) fun hb=>?_
 ·have e:=hbig hb
  rw [e] at hK
  exact hK h10 F10
 have herr:=herr hb
 have hnext:=hnext hb
 let Q:Nat→Prop:=fun b=>(h8.size≤b∧b<h9.size)∨h10.size≤b
 have nQ:∀ b,b<h8.size→¬ Q b:=fun b hb y=>by rcases y with y|y <;> omega
 refine ⟨fun na' nl' nc' i hx=>∃ (q:Nat) (nx3:List Int),i=q∧q≤es.length∧Fr Q h10 hx∧Sl hx 1 na' nl' nc' (ints nx3) Q∧nx3.length≤nx.length+q∧nx3++(kidsGo T (geoN N) (es.drop q)).1=nx++(kidsGo T (geoN N) es).1∧(kidsGo T (geoN N) (es.drop q)).2=(kidsGo T (geoN N) es).2,
  fun _ _ _ i _=>((el:Int) - i).toNat,⟨0,nx,rfl,Nat.zero_le _,Fr.refl _ _,S.mono fun b y => .inl y,Nat.le_refl _,rfl,rfl⟩,?_⟩
 rintro na' nl' nc' i hx ⟨q,nx3,rfl,hq,f,S3,l3,ek,ee⟩
 have zx:=f.size
 have nl3:nx3.length=nl':=by
  have:=S3.1
  rw [ints_length,Nat.mul_one] at this
  exact this
 have Fx:Fr No h hx:=F10.trans f fun b hb y=>absurd y (nQ b (by omega))
 have rgx:rd hx h.size=(geoN N).v:=(f.rd (by omega) (nQ _ z9)).trans rg
 refine cd (fun hlt=>?_) fun hge=>?_
 ·have hq':q<es.length:=by omega
  have Bx:SlCells hx ea (es.flatMap E.v):=SlCells.fr f B'.1 fun p hp y=>by
   have:=B'.2 p hp
   rcases y with y|y <;> omega
  obtain ⟨p,ep,cp⟩:=ent_at Bx hq'
  subst ep
  rw [List.drop_eq_getElem_cons hq'] at ek ee
  rw [kids_cons] at ek ee
  refine ⟨⟨by omega,by omega⟩,os ⟨_,rfl,cp,NewRow.intro rfl (E.one _) rfl fun h13 n13=>?_⟩⟩
  have z13:=n13.size
  have rg13:rd h13 h.size=(geoN N).v:=(n13.at_ (by omega)).trans rgx
  have F13:Fr No h h13:=Fx.new n13
  refine ⟨(geoN N).v,rfl,cellsAll rg13,_,rda n13.rd rfl,Ino.Get_spec (gl.no F13) (X.no F13) (cok dm) fun h14 f14=>⟨_,_,rfl,?_⟩⟩
  have z14:=f14.size
  have Rl:(ints (getM T (geoN N) es[q].inode).1).length=15:=(ints_length _).trans (getM_length ..)
  refine NewRow.intro Rl (ints_one _) rfl fun h16 n16=>?_
  have z16:=n16.size
  have f16:Fr No hx h16:=(n13.fr.no f14).new n16
  have F16:Fr No h h16:=Fx.no f16
  have S16:=Sl.fr f16 S3 fun _ _ _ y=>y
  have stp:Fr Q h10 h16:=f.no f16
  refine cn (fun hg=>?_) fun hg=>?_
  ·rw [if_pos hg] at ee
   have e:=herr (by rw [← ee]; exact hg)
   rw [← ee] at e
   rw [e] at hK
   exact hK h16 F16
  rw [if_neg (fun y=>y hg)] at ek ee
  have r16:rd h16 hx.size=E.v es[q]:=(n16.at_ (by omega)).trans ((f14.rd (by omega) fun y=>y).trans n13.rd)
  refine ⟨_,In.cell15 n16.rd (i:=0) (by rw [getM_length]; decide),ce (fun hk=>⟨_,rda r16 rfl,New.intro fun h17 n17=>?_⟩) fun hk=>?_⟩
  ·rw [if_pos hk] at ek
   have z17:=n17.size
   have S17:=Sl.fr n17.fr S16 fun _ _ _ y=>y
   refine ⟨[.int .i64 es[q].inode],rfl,cellsAll n17.rd,fun v hv=>by rw [List.mem_singleton.mp hv]; rfl,append_own (elem:=ti3) S17 rfl rfl (by show (nl'+1)*8≤_; omega) (by omega) fun a' c' h18 f18 s18=>?_⟩
   rw [wrap_i64 (show -9223372036854775808≤(q:Int)+1 by omega) (by omega)]
   refine ⟨⟨q+1,nx3++[es[q].inode],by omega,by omega,(stp.new n17).trans f18 fun b _ y=>y,?_,?_,?_,ee⟩,by show ((el:Int) - ((q:Int)+1)).toNat<((el:Int) - (q:Int)).toNat; omega⟩
   ·rw [show ints (nx3++[es[q].inode])=ints nx3++[.int .i64 es[q].inode] from List.map_append]
    exact s18.mono fun b y=>by
     rcases y with y|y
     ·exact y
     ·exact .inr (by omega)
   ·rw [List.length_append]
    show nx3.length+1≤nx.length+(q+1)
    omega
   ·rw [← ek,List.append_assoc]
  ·rw [if_neg hk,List.nil_append] at ek
   rw [wrap_i64 (show -9223372036854775808≤(q:Int)+1 by omega) (by omega)]
   exact ⟨⟨q+1,nx3,by omega,by omega,stp,S16,by omega,ek,ee⟩,by show ((el:Int) - ((q:Int)+1)).toNat<((el:Int) - (q:Int)).toNat; omega⟩
 ·have hq':q=es.length:=by omega
  rw [hq',List.drop_length] at ek ee
  have ek:nx3++[]=nx++(kidsGo T (geoN N) es).1:=ek
  rw [List.append_nil] at ek
  rw [wrap_i64 (show -9223372036854775808≤(j:Int)+1 by omega) (by omega)]
  rw [ek] at S3
  exact hnext ee.symm hx na' nl' nc' f (S3.mono fun b y=>by
   show h8.size≤b
   rcases y with y|y <;> omega)
end
end Go.Proofs.YtiapingedfnlnaaGreatDoor.Wl
namespace Go.Proofs.YtiapingedfnlnaaGreatDoor.Wl
open Go Go.Proofs Wx Hp W Ad Tm Spc Re Av Ss
open Hd (ints)
open In (ints_length ints_one)
open Ino (getM Cok getM_length)
open Fi (cok)
open Di (listD ent_at sl_lt)
open Sk (E)
section
variable {h : Heap} {N : Nat} {t d : Option Addr} {K : Value → Heap → Prop} {F : Nat → Prop} {T : TM} {n : Int}
theorem lvl_cons {g:G} {k d:Int} {r:List Int} {ht:Int} {nx:List Int}:lvlGo T g k (d::r) ht nx=if (listD T g d).2≠0 then (some (0,(listD T g d).2),ht,nx) else if 32<htOf k ht (listD T g d).1 then (some (htOf k ht (listD T g d).1,0),ht,nx) else
  if (kidsGo T g (listD T g d).1).2≠0 then (some (0,(kidsGo T g (listD T g d).1).2),ht,nx) else lvlGo T g k r (htOf k ht (listD T g d).1) (nx++(kidsGo T g (listD T g d).1).1):=rfl
theorem height_some {g:G} {m:Nat} {k ht:Int} {l:List Int} {r:Int×Int} (hl:l≠[]) (e:(lvlGo T g k l ht []).1=some r):heightGo T g (m+1) k ht l=r:=by
 unfold heightGo; rw [if_neg hl,e]
theorem height_none {g:G} {m:Nat} {k ht:Int} {l:List Int} (hl:l≠[]) (e:(lvlGo T g k l ht []).1=none):heightGo T g (m+1) k ht l=heightGo T g m (k+1) (lvlGo T g k l ht []).2.1 (compZ (sortZ (lvlGo T g k l ht []).2.2)):=by
 conv=>lhs; unfold heightGo
 rw [if_neg hl,e]
theorem Height_spec (gl:In.Glo h) (dm:Dim N) (X:Tx h F t d T) (hK:∀ h',Fr No h h'→K (.tuple #[.int .i64 (heightM T (geoN N) n).1,.int .i64 (heightM T (geoN N) n).2]) h'):C.walk_Height t (geoN N).v n h K:=by
 refine walk_Height.ok (New.intro fun h2 n2=>⟨(geoN N).v,rfl,cellsAll n2.rd,Ino.Get_spec (gl.no n2.fr) (X.no n2.fr) (cok dm) fun h3 f3=>⟨_,_,rfl,?_⟩⟩)
 have z2:=n2.size
 have z3:=f3.size
 have Rl:(ints (getM T (geoN N) n).1).length=15:=(ints_length _).trans (getM_length ..)
 refine NewRow.intro Rl (ints_one _) rfl fun h5 n5=>?_
 have z5:=n5.size
 have F5:Fr No h h5:=(n2.fr.no f3).new n5
 have cnt:(geoN N).count≤2048:=by
  have:=dm.hi
  have e:(geoN N).count=8*(N / 64):=rfl
  omega
 refine cn (fun hg=>?_) fun hg=>⟨_,In.cell15 n5.rd (i:=0) (by rw [getM_length]; decide),cn (fun hk=>?_) fun hk=>New.intro fun h6 n6=>?_⟩
 ·have e:heightM T (geoN N) n=(0,(getM T (geoN N) n).2):=if_pos hg
  rw [e] at hK
  exact hK h5 F5
 ·have e:heightM T (geoN N) n=(0,161):=by unfold heightM; rw [if_neg (fun y=>y hg),if_pos hk]
  rw [e] at hK
  exact hK h5 F5
 have e0:heightGo T (geoN N) 40 1 0 [n]=heightM T (geoN N) n:=by unfold heightM; rw [if_neg (fun y=>y hg),if_neg (fun y=>y hk)]
 have nr:=get_rng hg
 have z6:=n6.size
 have f26:Fr No h2 h6:=(f3.new n5).new n6
 generalize hR:heightM T (geoN N) n=R at hK e0
 refine ⟨fun la ll lc ht hN hx=>∃ (k:Nat) (level:List Int),hN=k∧1≤k∧k≤34∧Fr No h2 hx∧Sl hx 1 la ll lc (ints level) (From h2.size)∧level.length≤2048∧heightGo T (geoN N) (41 - k) k ht level=R∧(level=[]∨k=1∨ht=(k:Int) - 1)∧ht≤32,
  fun _ _ _ _ hN _=>(40 - hN).toNat,⟨1,[n],rfl,Nat.le_refl _,by decide,f26,⟨rfl,rfl,by show h2.size≤h5.size; omega,n6.own,Nat.le_refl _,by rw [n6.rd]; rfl,by rw [n6.rd]; exact Nat.le_refl _⟩,by show 1≤2048; decide,e0,.inr (.inl rfl),by decide⟩,?_⟩
 rintro la ll lc ht hN h8 ⟨k,level,rfl,k1,k34,f8,S8,lv,eR,hc,ht32⟩
 have z8:=f8.size
 have ell:level.length=ll:=by
  have:=S8.1
  rw [ints_length,Nat.mul_one] at this
  exact this
 have F8:Fr No h h8:=n2.fr.no f8
 refine cd (fun hpos=>?_) fun hpos=>?_
 ·have hne:level≠[]:=fun y=>by rw [y] at ell; have:(0:Nat)=ll:=ell; omega
  have k33:k≤33:=by
   rcases hc with y|y|y
   ·exact absurd y hne
   ·omega
   ·omega
  obtain ⟨p,ep⟩:∃ p,la=some p:=by
   cases la with
   | none=>have:=S8.2.1; omega
   | some p=>exact ⟨p,rfl⟩
  subst ep
  have plt:p.block<h8.size:=S8.lt
  obtain ⟨m,em⟩:∃ m,41 - k=m+1:=⟨40 - k,by omega⟩
  rw [em] at eR
  generalize hq:lvlGo T (geoN N) k level ht []=q
  have hsome:∀ r,q.1=some r→R=r:=fun r e=>by
   rw [← eR]
   exact height_some hne (by rw [hq]; exact e)
  refine ⟨fun ht2 na nl nc i hx=>∃ (j:Nat) (nx:List Int),i=j∧j≤level.length∧Fr No h8 hx∧Sl hx 1 na nl nc (ints nx) (From h8.size)∧lvlGo T (geoN N) k (level.drop j) ht2 nx=q∧nx.length≤264352*j∧(∀ x ∈ nx,1≤x∧x<(geoN N).count)∧ht2≤32,
   fun _ _ _ _ i _=>((level.length:Int) - i).toNat,⟨0,[],rfl,Nat.zero_le _,Fr.refl _ _,Sl.nil _ _ _,hq,Nat.le_refl _,(fun x hx=>by cases hx),ht32⟩,?_⟩
  rintro ht2 na nl nc i h9 ⟨j,nx,rfl,hj,f9,S9,e9,l9,r9,h92⟩
  have z9:=f9.size
  have F9:Fr No h h9:=F8.no f9
  have rg9:rd h9 h.size=(geoN N).v:=((f8.no f9).rd (by omega) fun y=>y).trans n2.rd
  refine cd (fun hlt=>?_) fun hge=>?_
  ·have hj':j<level.length:=by omega
   have C9:Cells h9 p (ints level):=SlCells.fr f9 S8.cells fun _ _ y=>y
   rw [List.drop_eq_getElem_cons hj',lvl_cons] at e9
   refine ⟨⟨by omega,by omega⟩,os ⟨level[j],int_at C9 (by rw [Int.toNat_natCast]; exact List.getElem?_eq_getElem hj'),(geoN N).v,rfl,cellsAll rg9,Di.List_spec (gl.no F9) dm (X.no F9) fun h10 a l c f10 hl Z=>⟨_,_,_,_,rfl,?_⟩⟩⟩
   have z10:=f10.size
   have F10:Fr No h h10:=F9.no f10
   refine cn (fun he=>?_) fun he=>?_
   ·rw [if_pos he] at e9
    have e:=hsome _ (by rw [← e9])
    rw [e] at hK
    exact hK h10 F10
   rw [if_neg (fun y=>y he)] at e9
   have kk:∀ ht3,htOf (k:Int) ht2 (listD T (geoN N) level[j]).1=ht3→walk_Height.k1 t h ht2 na nl nc j h9 (fun ht2 na nl nc i hx=>∃ (j:Nat) (nx:List Int),i=j∧j≤level.length∧Fr No h8 hx∧Sl hx 1 na nl nc (ints nx) (From h8.size)∧lvlGo T (geoN N) k (level.drop j) ht2 nx=q∧nx.length≤264352*j∧(∀ x ∈ nx,1≤x∧x<(geoN N).count)∧ht2≤32)
     (fun _ _ _ _ i _=>((level.length:Int) - i).toNat) h10 a l ht3 K:=fun ht3 e3=>by
    rw [e3] at e9
    refine Height_k1 (R:=R) (nx:=nx) (es:=(listD T (geoN N) level[j]).1) (h8:=h8) gl dm X F10 ((f10.rd (by omega) fun y=>y).trans rg9) (by omega) (by omega) (by omega) ((Sl.fr f10 (sl_lt S9) fun _ _ _ y=>y)) (.inr ⟨Z.cells,fun p hp=>?_⟩) hl.symm (by have:=list_len T (geoN N) level[j]; omega) (by omega) rfl (by omega) (fun hb=>?_) (fun hb hk=>?_) (fun hb hk hx na' nl' nc' f S=>?_) hK
    ·subst hp
     exact ⟨Z.2.2.1,Z.lt⟩
    ·rw [if_pos hb] at e9
     exact hsome _ (by rw [← e9])
    ·rw [if_neg hb,if_pos hk] at e9
     exact hsome _ (by rw [← e9])
    ·rw [if_neg hb,if_neg (fun y=>y hk)] at e9
     have kl:=kids_len (T:=T) (g:=geoN N) (listD T (geoN N) level[j]).1
     have ll:=list_len T (geoN N) level[j]
     refine ⟨⟨j+1,nx++(kidsGo T (geoN N) (listD T (geoN N) level[j]).1).1,by omega,by omega,(f9.no f10).trans f fun b hb y=>by rcases y with y|y <;> omega,S,e9,by rw [List.length_append]; omega,fun x hx=>?_,by omega⟩,by show ((level.length:Int) - ((j:Int)+1)).toNat<((level.length:Int) - (j:Int)).toNat; omega⟩
     rcases List.mem_append.mp hx with y|y
     ·exact r9 x y
     ·exact kids_rng _ x y
   refine cd (fun hp=>kk _ (if_pos (by omega))) fun hp=>kk _ (if_neg (by omega))
  ·have hj':j=level.length:=by omega
   rw [hj',List.drop_length] at e9
   have e9:q=(none,ht2,nx):=e9.symm
   have lnx:nx.length≤600000000:=by omega
   have enl:nx.length=nl:=by
    have:=S9.1
    rw [ints_length,Nat.mul_one] at this
    exact this
   have blk:∀ b,(∃ p,na=some p∧b=p.block)→h8.size≤b:=fun b ⟨p,hp,e⟩=>by
    subst hp
    rw [e]; exact S9.2.2.1
   refine SortI_spec S9 (by omega) fun h19 f19 S19=>⟨rfl,Compact_spec S19 (by omega) fun h20 m' em' f20 S20=>⟨_,_,_,rfl,?_⟩⟩
   have f220:Fr No h2 h20:=((f8.no f9).trans f19 fun b hb y=>by have:=blk b y; omega).trans f20 fun b hb y=>by have:=blk b y; omega
   have lv':=level_len (m:=(geoN N).count) r9
   have step:=height_none (m:=m) hne (by rw [hq,e9])
   rw [hq,e9] at step
   rw [wrap_i64 (show -9223372036854775808≤(k:Int)+1 by omega) (by omega)]
   have lh:=lvl_ht (T:=T) (g:=geoN N) (h:=k) level ht [] (by rw [hq,e9])
   rw [hq,e9] at lh
   refine ⟨⟨k+1,compZ (sortZ nx),by omega,by omega,by omega,f220,S20.mono fun b y=>by have y:h8.size≤b:=y; show h2.size≤b; omega,by omega,?_,?_,h92⟩,by show (40 - ((k:Int)+1)).toNat<(40 - (k:Int)).toNat; omega⟩
   ·rw [show 41 - (k+1)=m by omega,show ((k+1:Nat):Int)=(k:Int)+1 by omega,← step]
    exact eR
   ·rcases lh.1 with y|⟨_,y⟩
    ·have y:ht2=k:=y
     exact .inr (.inr (by omega))
    ·have y:nx=[]:=y
     rw [y]
     exact .inl (by rw [show sortZ []=[] from List.mergeSort_nil]; rfl)
 ·have hl:level=[]:=List.length_eq_zero_iff.mp (by omega)
  rw [hl] at eR
  obtain ⟨m,em⟩:∃ m,41 - k=m+1:=⟨40 - k,by omega⟩
  rw [em] at eR
  have e:(ht,(0:Int))=R:=eR
  rw [← e] at hK
  exact hK h8 F8
end
end Go.Proofs.YtiapingedfnlnaaGreatDoor.Wl
