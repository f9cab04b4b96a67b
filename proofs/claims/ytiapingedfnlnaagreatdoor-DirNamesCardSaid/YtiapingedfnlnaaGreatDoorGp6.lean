/-
  TEXTS FOR dirNames_card: StA StB StC DwD DwG WtA DwK.
-/
import Derived.WalkKit
import Derived.LoopTactic
import Derived.StillTailTactics
import Derived.Deep.QuietTactic
import Derived.BigQuiet
import Derived.Sort.Grow
import Derived.Lib.Bytealg
import Derived.Shelf.SlSortCmp.WholeK
import Derived.Shelf.SlSortCmp.NoneTotal
import Derived.Shelf.SlIterI.Sorted
import Derived.Shelf.SortM.Plain
import Derived.Shelf.SortM.SortNone
import Derived.Test.YtiapingedfnlnaaGreatDoorGp5
namespace Go.Proofs
open Go Go.RowKit Go.Sort
theorem Tryz.nanS (a:ByteArray) (w:World):Calls Tryz.prog 148 #[.string a] w fun e w'=>e = .returned (.bool false)∧w'=w:=by
 go_enter Tryz.func148,Tryz.ntmps148
 go_wp2
 go_ret
 exact ⟨rfl,rfl⟩
theorem Tryz.nanI (a:Int) (w:World):Calls Tryz.prog 149 #[.int .i64 a] w fun e w'=>e = .returned (.bool false)∧w'=w:=by
 go_enter Tryz.func149,Tryz.ntmps149
 go_wp2
 go_ret
 exact ⟨rfl,rfl⟩
def cmpZ (a b:Int):Int:=if a<b then -1 else if a>b then 1 else 0
theorem Tryz.cmpI (a b:Int) (w:World):Calls Tryz.prog 82 #[.int .i64 a,.int .i64 b] w fun e w'=>e = .returned (.int .i64 (cmpZ a b))∧w'=w:=by
 have h1:a<b→cmpZ a b = -1:=fun h=>by unfold cmpZ; rw [if_pos h]
 have h2:b<a→cmpZ a b=1:=fun h=>by unfold cmpZ; rw [if_neg (by omega),if_pos h]
 have h3:a≤b→b≤a→cmpZ a b=0:=fun h k=>by unfold cmpZ; rw [if_neg (by omega),if_neg (by omega)]
 generalize cmpZ a b=r at h1 h2 h3 ⊢
 go_enter Tryz.func82,Tryz.ntmps82
 go_wp2_with (go_at_call 149; refine (Tryz.nanI _ _).mono ?_; rintro e w' ⟨rfl,rfl⟩)
 ·go_ret
  rw [h1 (by assumption)]; exact ⟨rfl,rfl⟩
 ·go_ret
  rw [h2 (by assumption)]; exact ⟨rfl,rfl⟩
 ·go_ret
  rw [h3 (by assumption) (by assumption)]; exact ⟨rfl,rfl⟩
def cmpT (a b:ByteArray):Int:=if Op.bytesLess a.toList b.toList=true then -1 else if (!(Op.bytesLess a.toList b.toList || a.toList == b.toList))=true then 1 else 0
theorem Tryz.gtrS (a b:ByteArray) (w:World):(binOp .gtr 9 (.string a) (.string b)).run Tryz.prog w = .ok (.bool (!(Op.bytesLess a.toList b.toList || a.toList == b.toList))) w:=by
 simp [go_sem,binOp,Op.stringOp]
theorem Tryz.cmpS (a b:ByteArray) (w:World):Calls Tryz.prog 81 #[.string a,.string b] w fun e w'=>e = .returned (.int .i64 (cmpT a b))∧w'=w:=by
 have hg:=Tryz.gtrS a b
 have h1:Op.bytesLess a.toList b.toList=true→cmpT a b = -1:=fun h=>by unfold cmpT; rw [if_pos h]
 have h2:Op.bytesLess a.toList b.toList=false→(!(Op.bytesLess a.toList b.toList || a.toList == b.toList))=true→cmpT a b=1:=fun h k=>by unfold cmpT; rw [if_neg (by rw [h]; decide),if_pos k]
 have h3:Op.bytesLess a.toList b.toList=false→(!(Op.bytesLess a.toList b.toList || a.toList == b.toList))=false→cmpT a b=0:=fun h k=>by unfold cmpT; rw [if_neg (by rw [h]; decide),if_neg (by rw [k]; decide)]
 generalize cmpT a b=r at h1 h2 h3 ⊢
 generalize (!(Op.bytesLess a.toList b.toList || a.toList == b.toList))=g at hg h2 h3
 go_enter Tryz.func81,Tryz.ntmps81
 go_wp2_with (go_at_call 148; refine (Tryz.nanS _ _).mono ?_; rintro e w' ⟨rfl,rfl⟩)
 ·go_ret
  rw [h1 (by assumption)]; exact ⟨rfl,rfl⟩
 ·go_ret
  rw [h2 (by assumption) (by assumption)]; exact ⟨rfl,rfl⟩
 ·go_ret
  rw [h3 (by assumption) (by assumption)]; exact ⟨rfl,rfl⟩
theorem Tryz.orI (a b:Int) (blk:Nat) (w:World) (ha:w.cell? ⟨blk,0,none⟩=some (.int .i64 a)) (hb:w.cell? ⟨blk,1,none⟩=some (.int .i64 b)):Calls Tryz.prog 80 #[.slice (some ⟨blk,0,none⟩) 2 2] w fun e w'=>e = .returned (.int .i64 (if a=0 then b else a))∧w'=w:=by
 have g1:(a != 0)=true→(if a=0 then b else a)=a:=fun h=>if_neg (by simpa using h)
 have g2:a=0→(if a=0 then b else a)=b:=fun h=>if_pos h
 generalize (if a=0 then b else a)=r at g1 g2 ⊢
 go_enter Tryz.func80,Tryz.ntmps80
 go_wp2
 go_loop [8] (fun i=>i = .int .i64 0∨(i = .int .i64 1∧(a != 0)=false)∨(i = .int .i64 2∧(a != 0)=false∧(b != 0)=false)) (fun i=>2 - (intOf i).toNat)
 case atStart=>exact .inl rfl
 case round =>
  rcases hrel with rfl|⟨rfl,h0⟩|⟨rfl,h0,h1⟩
  ·go_wp2
   ·go_ret
    first|exact ⟨rfl,rfl⟩|(rw [g1 (by assumption)]; exact ⟨rfl,rfl⟩)
   ·go_round
    case rel=>exact .inr (.inl ⟨rfl,by assumption⟩)
    case measure=>simp [intOf]
  ·go_wp2
   ·go_ret
    first|exact ⟨rfl,rfl⟩|(rw [g2 (by simpa using h0)]; exact ⟨rfl,rfl⟩)
   ·go_round
    case rel=>exact .inr (.inr ⟨rfl,h0,by assumption⟩)
    case measure=>simp [intOf]
  ·go_wp2
   go_ret
   have e:b=0:=by simpa using h1
   first|exact ⟨rfl,rfl⟩|(rw [g2 (by simpa using h0),e]; exact ⟨rfl,rfl⟩)
theorem new_cell0 (w:World) (a b:Int) (t:Nat):(w.alloc (Obj.cells #[.int .i64 a,.int .i64 b] t)).cell? ⟨w.heap.size,0,none⟩=some (.int .i64 a):=by
 show (match (w.heap.push (Obj.cells #[.int .i64 a,.int .i64 b] t))[w.heap.size]? with
  | some (.cells c _ _)=>if (none:Option Nat).isSome then none else c[0]?
  | _=>none)=_
 rw [Array.getElem?_push,if_pos rfl]; rfl
theorem new_cell1 (w:World) (a b:Int) (t:Nat):(w.alloc (Obj.cells #[.int .i64 a,.int .i64 b] t)).cell? ⟨w.heap.size,1,none⟩=some (.int .i64 b):=by
 show (match (w.heap.push (Obj.cells #[.int .i64 a,.int .i64 b] t))[w.heap.size]? with
  | some (.cells c _ _)=>if (none:Option Nat).isSome then none else c[1]?
  | _=>none)=_
 rw [Array.getElem?_push,if_pos rfl]; rfl
set_option maxRecDepth 100000 in
set_option maxHeartbeats 1600000 in
theorem Tryz.clo (p1 i1 p2 i2:Int) (s1 s2:ByteArray) (W:World):Calls Tryz.prog 79 #[.agg #[.int .i64 p1,.string s1,.int .i64 i1],.agg #[.int .i64 p2,.string s2,.int .i64 i2]] W fun e w'=>e = .returned (.int .i64 (if cmpT s1 s2=0 then cmpZ p1 p2 else cmpT s1 s2))∧∃ q os',w'=grow (W.drewN q) os':=by
 have hS:=fun W'=>Tryz.cmpS s1 s2 W'
 have hI:=fun W'=>Tryz.cmpI p1 p2 W'
 generalize cmpT s1 s2=r1 at hS ⊢
 generalize cmpZ p1 p2=r2 at hI ⊢
 have hO:=fun W' h1 h2=>Tryz.orI r1 r2 (World.heap W').size (W'.alloc (Obj.cells #[.int .i64 r1,.int .i64 r2] 3)) h1 h2
 generalize (if r1=0 then r2 else r1)=r at hO ⊢
 go_enter Tryz.func79,Tryz.ntmps79
 go_wp2
 generalize hw1:(W.alloc (Obj.cells #[Value.int IntKind.i64 p1,Value.string s1,Value.int IntKind.i64 i1] 113)).alloc (Obj.cells #[Value.int IntKind.i64 p2,Value.string s2,Value.int IntKind.i64 i2] 113)=w1
 have e1:w1=grow W #[Obj.cells #[Value.int IntKind.i64 p1,Value.string s1,Value.int IntKind.i64 i1] 113,Obj.cells #[Value.int IntKind.i64 p2,Value.string s2,Value.int IntKind.i64 i2] 113]:=by
  rw [← hw1,alloc_eq_grow,alloc_eq_grow,grow_grow]; rfl
 have c10:w1.drew.cell? ⟨W.heap.size,0,none⟩=some (.int .i64 p1):=by rw [e1]; simp [World.cell?,World.drew,grow]
 have c11:w1.drew.cell? ⟨W.heap.size,1,none⟩=some (.string s1):=by rw [e1]; simp [World.cell?,World.drew,grow]
 have c20:w1.drew.cell? ⟨W.heap.size+1,0,none⟩=some (.int .i64 p2):=by rw [e1]; simp [World.cell?,World.drew,grow]
 have c21:w1.drew.cell? ⟨W.heap.size+1,1,none⟩=some (.string s2):=by rw [e1]; simp [World.cell?,World.drew,grow]
 clear hw1
 refine wp_region_still_tail 10 (by kernel_rfl) (by kernel_rfl) ?_
 simp only [List.take_succ_cons,List.take_zero,List.drop_succ_cons,List.drop_zero,World.drew_eq]
 generalize hw2:w1.drew=w2 at c10 c11 c20 c21 ⊢
 generalize W.heap.size=n1 at c10 c11 c20 c21 ⊢
 still_step
 still_step
 still_step
 still_step
 still_call (hS _)
 still_step
 still_step
 still_step
 still_step
 still_call (hI _)
 refine wpStill_nil ?_
 go_wp2_with (go_at_call 80; refine (hO w2 (new_cell0 _ _ _ _) (new_cell1 _ _ _ _)).mono ?_; rintro e w' ⟨rfl,rfl⟩)
 ·go_ret
  refine ⟨rfl,1,#[Obj.cells #[Value.int IntKind.i64 p1,Value.string s1,Value.int IntKind.i64 i1] 113,Obj.cells #[Value.int IntKind.i64 p2,Value.string s2,Value.int IntKind.i64 i2] 113] ++ #[Obj.cells #[Value.int IntKind.i64 r1,Value.int IntKind.i64 r2] 3],?_⟩
  rw [alloc_eq_grow,← hw2,e1,← grow_grow]
  rfl
end Go.Proofs
namespace Go.Proofs
open Go Go.Shelf
def Tryz.sortE_ren : Go.Shelf.Ren:=⟨fun|6=>78|15=>147|14=>146|28=>222|29=>223|20=>214|21=>215|22=>216|23=>217|24=>218|25=>219|26=>220|27=>221|46=>278|47=>279|48=>280|49=>281|50=>282|57=>314|n=>n,fun|22=>41|24=>113|25=>167|3=>3|39=>78|0=>0|53=>325|55=>257|4=>4|46=>318|45=>317|50=>322|5=>5|9=>9|66=>374|70=>369|76=>398|77=>399|n=>n,fun n=>n⟩
theorem Tryz.sortE : SlLaysF0.n6 Tryz.prog Tryz.sortE_ren where
 mixed:=by kernel_rfl
 f6 := ⟨ "slices.SortFunc[[]bole/api.Entry,bole/api.Entry]", by decide, Tryz.func78.trans (congrArg some (by kernel_rfl))⟩
 f14 := ⟨ "slices.pdqsortCmpFunc[bole/api.Entry]", by decide, Tryz.func146.trans (congrArg some (by kernel_rfl))⟩
 f15:=Tryz.func147.trans (congrArg some (by kernel_rfl))
 f20 := ⟨ "slices.insertionSortCmpFunc[bole/api.Entry]", by decide, Tryz.func214.trans (congrArg some (by kernel_rfl))⟩
 f21 := ⟨ "slices.heapSortCmpFunc[bole/api.Entry]", by decide, Tryz.func215.trans (congrArg some (by kernel_rfl))⟩
 f22 := ⟨ "slices.breakPatternsCmpFunc[bole/api.Entry]", by decide, Tryz.func216.trans (congrArg some (by kernel_rfl))⟩
 f23 := ⟨ "slices.choosePivotCmpFunc[bole/api.Entry]", by decide, Tryz.func217.trans (congrArg some (by kernel_rfl))⟩
 f24 := ⟨ "slices.reverseRangeCmpFunc[bole/api.Entry]", by decide, Tryz.func218.trans (congrArg some (by kernel_rfl))⟩
 f25 := ⟨ "slices.partialInsertionSortCmpFunc[bole/api.Entry]", by decide, Tryz.func219.trans (congrArg some (by kernel_rfl))⟩
 f26 := ⟨ "slices.partitionEqualCmpFunc[bole/api.Entry]", by decide, Tryz.func220.trans (congrArg some (by kernel_rfl))⟩
 f27 := ⟨ "slices.partitionCmpFunc[bole/api.Entry]", by decide, Tryz.func221.trans (congrArg some (by kernel_rfl))⟩
 f28:=Tryz.func222.trans (congrArg some (by kernel_rfl))
 f29:=Tryz.func223.trans (congrArg some (by kernel_rfl))
 f46 := ⟨ "slices.siftDownCmpFunc[bole/api.Entry]", by decide, Tryz.func278.trans (congrArg some (by kernel_rfl))⟩
 f47:=Tryz.func279.trans (congrArg some (by kernel_rfl))
 f48:=Tryz.func280.trans (congrArg some (by kernel_rfl))
 f49 := ⟨ "slices.medianAdjacentCmpFunc[bole/api.Entry]", by decide, Tryz.func281.trans (congrArg some (by kernel_rfl))⟩
 f50 := ⟨ "slices.medianCmpFunc[bole/api.Entry]", by decide, Tryz.func282.trans (congrArg some (by kernel_rfl))⟩
 f57 := ⟨ "slices.order2CmpFunc[bole/api.Entry]", by decide, Tryz.func314.trans (congrArg some (by kernel_rfl))⟩
 t0:=Tryz.underlying0
 a0:=Tryz.isAgg0
 z0:=Tryz.sizeOf0
 v0:=Tryz.zeroValue0
 t3:=Tryz.underlying3
 a3:=Tryz.isAgg3
 z3:=Tryz.sizeOf3
 v3:=Tryz.zeroValue3
 t4:=Tryz.underlying4
 a4:=Tryz.isAgg4
 z4:=Tryz.sizeOf4
 v4:=Tryz.zeroValue4
 t5:=Tryz.underlying5
 a5:=Tryz.isAgg5
 z5:=Tryz.sizeOf5
 v5:=Tryz.zeroValue5
 t9:=Tryz.underlying9
 a9:=Tryz.isAgg9
 z9:=Tryz.sizeOf9
 v9:=Tryz.zeroValue9
 t22:=Tryz.underlying41
 a22:=Tryz.isAgg41
 z22:=Tryz.sizeOf41
 v22:=Tryz.zeroValue41
 t25:=Tryz.underlying167
 a25:=Tryz.isAgg167
 z25:=Tryz.sizeOf167
 v25:=Tryz.zeroValue167
 t39:=Tryz.underlying78
 a39:=Tryz.isAgg78
 z39:=Tryz.sizeOf78
 v39:=Tryz.zeroValue78
 t45:=Tryz.underlying317
 a45:=Tryz.isAgg317
 z45:=Tryz.sizeOf317
 v45:=Tryz.zeroValue317
 t46:=Tryz.underlying318
 a46:=Tryz.isAgg318
 z46:=Tryz.sizeOf318
 v46:=Tryz.zeroValue318
 t50:=Tryz.underlying322
 a50:=Tryz.isAgg322
 z50:=Tryz.sizeOf322
 v50:=Tryz.zeroValue322
 t53:=Tryz.underlying325
 a53:=Tryz.isAgg325
 z53:=Tryz.sizeOf325
 v53:=Tryz.zeroValue325
 t55:=Tryz.underlying257
 a55:=Tryz.isAgg257
 z55:=Tryz.sizeOf257
 v55:=Tryz.zeroValue257
 t66:=Tryz.underlying374
 a66:=Tryz.isAgg374
 z66:=Tryz.sizeOf374
 v66:=Tryz.zeroValue374
 t70:=Tryz.underlying369
 a70:=Tryz.isAgg369
 z70:=Tryz.sizeOf369
 v70:=Tryz.zeroValue369
 t76:=Tryz.underlying398
 a76:=Tryz.isAgg398
 z76:=Tryz.sizeOf398
 v76:=Tryz.zeroValue398
 t77:=Tryz.underlying399
 a77:=Tryz.isAgg399
 z77:=Tryz.sizeOf399
 v77:=Tryz.zeroValue399
end Go.Proofs
namespace Go.Proofs.YtiapingedfnlnaaGreatDoor.Di
open Go Go.Proofs Wx Hp W Re Ss
open Sk (E)
open Go.Op (bytesLess)
instance : Inhabited E:=⟨⟨0,[],0⟩⟩
def cfE (x y:E):Int:=if cmpT (mkStr x.name) (mkStr y.name)=0 then cmpZ x.place y.place else cmpT (mkStr x.name) (mkStr y.name)
theorem cfE_lt (x y:E):ltOf cfE x y=ltE x y:=by
 unfold ltOf cfE cmpT cmpZ ltE
 rw [toList_mkStr,toList_mkStr]
 cases hb:bytesLess x.name y.name with
 | true=>rfl
 | false =>
  by_cases e:x.name=y.name
  ·have e':(x.name == y.name)=true:=by rw [beq_iff_eq]; exact e
   rw [e']
   by_cases p:x.place<y.place
   ·rw [if_pos p,decide_eq_true p]; rfl
   ·rw [if_neg p,decide_eq_false p]
    by_cases q:x.place>y.place
    ·rw [if_pos q]; rfl
    ·rw [if_neg q]; rfl
  ·have e':(x.name == y.name)=false:=by rw [beq_eq_false_iff_ne]; exact e
   rw [e']; rfl
theorem swoE : Go.Sort.SWO (ltOf cfE) where
 irrefl x:=by rw [cfE_lt,ltE_irr]
 trans x y z h1 h2:=by rw [cfE_lt] at *; exact ltE_trans h1 h2
 ntrans x y z h1 h2:=by
  rw [cfE_lt] at *
  cases q:ltE x z with
  | false=>rfl
  | true =>
   exfalso
   cases r:ltE y x with
   | true=>rw [ltE_trans r q] at h2; cases h2
   | false =>
    obtain ⟨e1,e2⟩:=ltE_tri h1 r
    unfold ltE at q h2
    rw [e1,e2] at q
    rw [q] at h2; cases h2
theorem flat_at {es:List E} {j:Nat} (hj:j<es.length*3):(es.flatMap E.v)[j]?=(E.v (es[j / 3]'(by omega)))[j % 3]?:=by
 have p:=flat_part E.v 3 es (fun x _=>E.len x) (j / 3) (by omega)
 rw [← p,List.getElem?_take,if_pos (by omega),List.getElem?_drop]
 congr 1; omega
theorem flat_K {d:Array E} {j:Nat} (hj:j<d.size*3):(d.toList.flatMap E.v)[j]?=some ((Go.Sort.flatK E.v 3 d)[j]!):=by
 have h3:j / 3<d.size:=by omega
 rw [flat_at (by rw [Array.length_toList]; exact hj),Go.Sort.get_flatK _ _ _ _ hj,getElem!_pos d (j / 3) h3]
 rw [Array.getElem_toList]
 generalize d[j / 3]=e
 rcases (by omega:j % 3=0∨j % 3=1∨j % 3=2) with h|h|h <;> rw [h] <;> rfl
theorem rd_row {h:Heap} {b o:Nat} {xs:List Value} (H:∀ j v,xs[j]?=some v→cellOf h ⟨b,o+j,none⟩=some v):((rd h b).drop o).take xs.length=xs:=by
 refine List.ext_getElem? fun i=>?_
 rw [List.getElem?_take]
 by_cases hi:i<xs.length
 ·rw [if_pos hi,List.getElem?_drop]
  have:=H i xs[i] (List.getElem?_eq_getElem hi)
  rw [cellOf_rd] at this
  rw [List.getElem?_eq_getElem hi]; exact this
 ·rw [if_neg hi,List.getElem?_eq_none (by omega)]
theorem SortE_spec {h:Heap} {a:Option Addr} {l c:Nat} {es:List E} {F:Nat→Prop} {K:Value→Heap→Prop} (s:Sl h 3 a l c (es.flatMap E.v) F) (hl:l<4611686018427387904)
  (hK:∀ h' (es':List E),es'.Perm es→es'.Pairwise leE→Fr (fun b=>∃ p,a=some p∧b=p.block) h h'→Sl h' 3 a l c (es'.flatMap E.v) F→K (.tuple #[]) h') :
  C.slices_SortFunc_api_Entry_api_Entry a l c (.func (.func 79) #[] ⟨[]⟩) h K:=by
 refine ⟨⟨_,Tryz.func78,by kernel_rfl,by kernel_rfl⟩,fun w hw=>?_⟩
 subst hw
 have le:es.length=l:=by
  have:=s.1
  rw [flat_length E.v 3 _ (fun x _=>E.len x)] at this
  omega
 cases a with
 | none =>
  have l0:l=0:=s.2.1
  have c0:c=0:=s.2.2
  subst l0 c0
  refine (AnyF.slices_SortFunc_none Tryz.sortE none 0 (.func (.func 79) #[] ⟨[]⟩) w).mono fun e w' ⟨he,hw'⟩=>⟨_,he,?_⟩
  subst hw'
  exact ⟨⟨rfl,rfl,rfl⟩,hK _ es (.refl _) (by rw [List.length_eq_zero_iff.mp le]; exact .nil) (Fr.refl _ _) s⟩
 | some p =>
  obtain ⟨b,o,sp⟩:=p
  have ep:sp=none:=s.2.1
  subst ep
  have hcells:=s.cells
  obtain ⟨_,_,hF,⟨cs,T,fz,hb,hfz⟩,hlc,hrow,hroom⟩:=s
  have erd:rd w.heap b=cs.toList:=by unfold rd; rw [hb]
  have hb':w.heap[b]?=some (.cells cs T fz):=hb
  simp only at hroom
  rw [erd,Array.length_toList] at hroom
  have cell:∀ j v,(es.flatMap E.v)[j]?=some v→w.cell? ⟨b,o+j,none⟩=some v:=fun j v hv=>by
   have:=hcells j v hv
   rw [add_mk] at this
   exact this
  have hsz:es.toArray.size=l:=le
  have hH:Go.Sort.HoldsK E.v 3 w b o es.toArray:=fun j hj=>by
   rw [Go.Sort.size_flatK] at hj
   refine ⟨cell j _ (flat_K (d:=es.toArray) hj),?_⟩
   show (match w.heap[b]? with
    | some (.cells _ _ (lo,hi))=>decide (lo≤o+j) && decide (o+j<hi)
    | _=>false)=false
   rw [hb']
   show (decide (fz.1≤o+j) && decide (o+j<fz.2))=false
   rcases hfz with e|e
   ·rw [e,decide_eq_false (show ¬ o+j<0 by omega),Bool.and_false]
   ·rw [decide_eq_false (by rw [hsz] at hj; omega),Bool.false_and]
  have eg:∀ args w,(callFunc 79 args).run Tryz.prog w = .ok (.enter 79 args) w:=enters_of Tryz.func79 (by kernel_rfl) rfl
  have hcmp:CmpLays Tryz.prog 79 #[] E.v 3 cfE b o es.toArray.size w:=fun m os dk _ x y=>Tryz.clo x.place x.inode y.place y.inode (mkStr x.name) (mkStr y.name) _
  have cS:=AnyQ.slices_SortFunc Tryz.sortE 3 Tryz.isAgg113 Tryz.sizeOf113 E.v (fun _=>rfl) E.one cfE swoE 79 #[] b o c es.toArray w eg hcmp hH (Array.getElem?_eq_some_iff.mp hb').1 (by rw [hsz]; exact hl)
  rw [hsz] at cS
  refine cS.mono fun e w' ⟨he,d',n,ws,hp,hs,hw'⟩=>⟨_,he,?_⟩
  obtain ⟨p1,_,p3⟩:=hp
  rw [hsz] at p1
  have pe:d'.toList.Perm es:=by
   have e1:d'.extract 0 l=d':=by rw [← p1,Array.extract_size]
   have e2:es.toArray.extract 0 l=es.toArray:=by rw [← hsz,Array.extract_size]
   rw [e1,e2] at p3; exact p3
  have hH':=holdsK_sortWorldK_c E.v 3 w b o es.toArray d' n ws hH (Array.getElem?_eq_some_iff.mp hb').1 (by rw [p1,hsz])
  rw [← hw'] at hH'
  have eh:w'.heap=(w.heap.modify b (Go.Sort.onCells (Go.Sort.putCells id o (Go.Sort.flatK E.v 3 d'))))++ws:=by rw [hw']; rfl
  have ls:d'.toList.length=l:=by rw [Array.length_toList,p1]
  have rest:SameRest w w':=by rw [hw']; exact ⟨rfl,rfl,rfl⟩
  refine ⟨rest,hK _ d'.toList pe ?_ ⟨by rw [eh,Array.size_append,Array.size_modify]; omega,fun b' hb1 hb2=>?_⟩ ?_⟩
  ·rw [List.pairwise_iff_getElem]
   intro i j hi hj hij
   have:=hs i j (Nat.zero_le _) hij (by omega)
   rw [cfE_lt,getElem!_pos d' j (by omega),getElem!_pos d' i (by omega)] at this
   rw [Array.getElem_toList,Array.getElem_toList]
   exact this
  ·rw [eh,Array.getElem?_append_left (by rw [Array.size_modify]; exact hb1),Array.getElem?_modify,if_neg fun y=>hb2 ⟨_,rfl,y.symm⟩]
  ·have hbl:=(Array.getElem?_eq_some_iff.mp hb').1
   have eb:w'.heap[b]?=some (.cells (Go.Sort.putCells id o (Go.Sort.flatK E.v 3 d') cs) T fz):=by
    rw [eh,Array.getElem?_append_left (by rw [Array.size_modify]; exact hbl),Array.getElem?_modify,if_pos rfl,hb']; rfl
   have esz:(Go.Sort.putCells id o (Go.Sort.flatK E.v 3 d') cs).size=cs.size:=by unfold Go.Sort.putCells; rw [Array.size_mapIdx]
   have lf:(d'.toList.flatMap E.v).length=l*3:=by rw [flat_length E.v 3 _ (fun x _=>E.len x),ls]
   refine ⟨lf,rfl,hF,⟨_,T,fz,eb,by rw [esz]; exact hfz⟩,hlc,rd_row fun j v hv=>?_,?_⟩
   ·have hj:j<d'.size*3:=by
     have:=(List.getElem?_eq_some_iff.mp hv).1
     rw [lf] at this; omega
    rw [flat_K hj] at hv
    have:=(hH' j (by rw [Go.Sort.size_flatK]; exact hj)).1
    rw [← Option.some.inj hv]; exact this
   ·show o+c*3≤(rd w'.heap b).length
    have:rd w'.heap b=(Go.Sort.putCells id o (Go.Sort.flatK E.v 3 d') cs).toList:=by unfold rd; rw [eb]
    rw [this,Array.length_toList,esz]; exact hroom
end Go.Proofs.YtiapingedfnlnaaGreatDoor.Di
namespace Go.Proofs.YtiapingedfnlnaaGreatDoor.Di
open Go Go.Proofs Wx Hp W Ad Tm Spc Re Av Rg Ss
open Hd (ints)
open In (Glo ints_length ints_one)
open Ino (getM Cok getM_length)
open Bm (findM)
open Fi (blockM hv_yield getM_may cok)
open Sk (E nameOk)
theorem sl_lt {h:Heap} {ec:Nat} {a:Option Addr} {l c:Nat} {xs:List Value} {F:Nat→Prop} (s:Sl h ec a l c xs F):Sl h ec a l c xs (fun b=>F b∧b<h.size):=by
 obtain ⟨h1,h2⟩:=s
 refine ⟨h1,?_⟩
 cases a with
 | none=>exact h2
 | some p =>
  obtain ⟨a1,a2,a3,a4⟩:=h2
  exact ⟨a1,⟨a2,a3.lt⟩,a3,a4⟩
def upE (k:Nat) (c:E):E:=⟨c.place+16*(k:Int),c.name,c.inode⟩
theorem allE_cons (T:TM) (g:G) (R:List Int) (k:Nat) (r:List Leaf):allE ((leafM T g R k).1::r)=(leafM T g R k).1.cells.map (upE k)++allE r:=rfl
theorem List_spec {h:Heap} {F:Nat→Prop} {t d:Option Addr} {T:TM} {n:Nat} {i:Int} {K:Value→Heap→Prop} (gl:In.Glo h) (dm:Dim n) (x:Tx h F t d T)
  (hK:∀ h' a l c,Fr No h h'→l=(listD T (geoN n) i).1.length→Sl h' 3 a l c ((listD T (geoN n) i).1.flatMap E.v) (From h.size)→K (.tuple #[.slice a l c,.int .i64 (listD T (geoN n) i).2]) h'):C.dir_List t (geoN n).v i h K:=by
 refine dir_List.ok (New.intro fun h2 n2=>⟨(geoN n).v,rfl,cellsAll n2.rd,open_spec (gl.no n2.fr) (x.no n2.fr) (cok dm) fun h3 f3=>⟨_,rfl,NewRow.intro (rdV_len (openM_length T (geoN n) i)) rdV_one rfl fun h5 n5=>New.intro fun h6 n6=>leaves_spec fun h7 n7=>⟨_,rfl,fun L rounds=>?_⟩⟩⟩)
 have lR:=openM_length T (geoN n) i
 have z2:=n2.size
 have z3:=f3.size
 have z5:=n5.size
 have z6:=n6.size
 have z7:=n7.size
 have xl:∀ b,F b→b<h.size:=fun b hb=>x.lt hb
 have gl1:=gl.lt
 have F6:Fr No h h6:=((n2.fr.no f3).new n5).new n6
 have F7:Fr No h h7:=F6.new n7
 have Fb:=beginL_fr h7 L
 have on0:=beginL_on h7 L
 have d0:=beginL_d h7 L
 have zb:=beginL_size h7 L
 have F0:Fr No h (beginL h7 L):=F7.no Fb
 have cb0:rd (beginL h7 L) h6.size=[.pointer (some ⟨h3.size,0,none⟩)]:=(Fb.rd (by omega) fun y=>y).trans n7.rd
 have rb0:rd (beginL h7 L) h3.size=rdV t (geoN n) i (openM T (geoN n) i).1 (openM T (geoN n) i).2++[]:=by
  rw [List.append_nil]
  exact (Fb.rd (by omega) fun y=>y).trans ((n7.at_ (by omega)).trans ((n6.at_ (by omega)).trans n5.rd))
 have ob0:Own (beginL h7 L) h3.size:=Fb.own (by omega) (fun y=>y) (n7.ow (n6.ow n5.own))
 have ab0:rd (beginL h7 L) h5.size=[.slice none 0 0]:=(Fb.rd (by omega) fun y=>y).trans ((n7.at_ (by omega)).trans n6.rd)
 have pb0:Own (beginL h7 L) h5.size:=Fb.own (by omega) (fun y=>y) (n7.ow n6.own)
 have I0:It (beginL h7 L) F t d T (geoN n) i (openM T (geoN n) i).1 (openM T (geoN n) i).2 [] h6.size h3.size:=⟨gl.no F0,x.no F0,cb0,ob0,rb0,fun y=>by have:=xl _ y; omega,by omega,by omega⟩
 generalize hbe:beginL h7 L=hb at *
 show C.dir_reader_leaves_c1 (.func (.yield (h7.size+1)) #[] #[]) (some ⟨h6.size,0,none⟩) hb _
 -- what is behind the loop
 have fin:∀ (hh:Heap) (e:Int),Fr (fun b=>b=h3.size∨b=h5.size∨b=h7.size+1) hb hh→LoopOn hh (h7.size+1) L .ready none→rd hh h3.size=rdV t (geoN n) i (openM T (geoN n) i).1 e++[]→(e≠0→listD T (geoN n) i=([],e)) →
   (e=0→∃ (a:Option Addr) (l c:Nat) (acc:List E),rd hh h5.size=[.slice a l c]∧Sl hh 3 a l c (acc.flatMap E.v) (From hb.size)∧Rise acc∧acc.length≤300000∧listD T (geoN n) i=(sortE acc,0)) →
   ∃ (st1:LoopState) (pend1:Option Code),LoopOn hh (h7.size+1) L st1 pend1∧st1 ≠ .busy∧pendX pend1 (
    SetL hh (h7.size+1) L .exhausted pend1 fun h20=>∃ (n5:Int),cellOf h20 (Addr.add ⟨h3.size,0,none⟩ 22)=some (.int .i64 n5) ∧
    bif (n5 != 0) then (∃ (n6:Int),cellOf h20 (Addr.add ⟨h3.size,0,none⟩ 22)=some (.int .i64 n6)∧EndD h7.size h20 fun h21=>K (.tuple #[.slice none 0 0,.int .i64 n6]) h21) else (
     ∃ (sA4:Option Addr) (sL4:Nat) (sC4:Nat),cellOf h20 ⟨h5.size,0,none⟩=some (.slice sA4 sL4 sC4)∧C.slices_SortFunc_api_Entry_api_Entry sA4 sL4 sC4 (Value.func (.func 79) #[] ⟨[]⟩) h20 fun r3 h22 =>
     r3 = .tuple #[]∧∃ (sA5:Option Addr) (sL5:Nat) (sC5:Nat),cellOf h22 ⟨h5.size,0,none⟩=some (.slice sA5 sL5 sC5)∧EndD h7.size h22 fun h23=>K (.tuple #[.slice sA5 sL5 sC5,.int .i64 0]) h23)) (False) (fun _=>False):=by
  intro hh e f on r es0 es1
  have zf:=f.size
  refine ⟨.ready,none,on,by decide,pend_none (setL_intro (by omega) fun h20 t20=>?_)⟩
  have z20:=t20.size
  have f20:Fr (fun b=>b=h3.size∨b=h5.size∨b=h7.size+1) hb h20:=f.trans t20.fr fun b _ y => .inr (.inr y)
  have r20:=(t20.fr.rd (b:=h3.size) (by omega) (by omega)).trans r
  refine ⟨_,rda r20 (rdV_e lR),cn (fun he=>⟨_,rda r20 (rdV_e lR),endD_intro ((f20.same _ (by omega) (by omega)).trans d0) fun h21 z21 f21=>?_⟩) fun he=>?_⟩
  ·rw [es0 he] at hK
   exact hK h21 none 0 0 ((F0.trans f20 fun b hb y=>by omega).trans f21 fun b hb y=>by omega) rfl (Sl.nil _ _ _)
  obtain ⟨a,l,c,acc,ra,s,u,hacc,es⟩:=es1 he
  rw [es] at hK
  have a20:=(t20.fr.rd (b:=h5.size) (by omega) (by omega)).trans ra
  have s20:Sl h20 3 a l c (acc.flatMap E.v) (From hb.size):=s.fr t20.fr fun b _ hb' y=>by have hb':hb.size≤b:=hb'; omega
  have la:acc.length=l:=by
   have:=s20.1
   rw [flat_length E.v 3 _ (fun x _=>E.len x)] at this
   omega
  have hb5:∀ b,(∃ p,a=some p∧b=p.block)→hb.size≤b:=fun b ⟨p,ep,eb⟩=>by subst ep; rw [eb]; exact s20.2.2.1
  refine ⟨_,_,_,rdc a20 rfl,SortE_spec s20 (by omega) fun h22 es' pe so f22 s22=>⟨rfl,_,_,_,rdc (show rd h22 h5.size=[.slice a l c] from (f22.rd (by omega) fun y=>by have:=hb5 _ y; omega).trans a20) rfl,endD_intro ((f22.same _ (by omega) fun y=>by have:=hb5 _ y; omega).trans ((f20.same _ (by omega) (by omega)).trans d0)) fun h23 z23 f23=>?_⟩⟩
  have eq:es'=sortE acc:=sorted_eq u pe so
  subst eq
  have z22:=f22.size
  refine hK h23 a l c (((F0.trans f20 fun b hb y=>by omega).trans f22 fun b hb y=>by have:=hb5 _ y; omega).trans f23 fun b hb y=>by omega) ?_ ((s22.fr f23 fun b _ hb' y=>?_).mono fun b hb'=>?_)
  ·show l=(sortE acc).length
   rw [(sortE_perm acc).length_eq,la]
  ·have hb':hb.size≤b:=hb'; omega
  ·have hb':hb.size≤b:=hb'
   have:=F0.size
   show h.size≤b; omega
 by_cases he0:(openM T (geoN n) i).2=0
 rotate_left
 ·exact leaves_none lR I0 he0 (fin hb _ (Fr.refl _ _) on0 I0.r (fun _=>by unfold listD; rw [if_pos he0]) fun y=>absurd y he0)
 obtain ⟨R0,R1⟩:=open_size he0
 have es0:listD T (geoN n) i=if (leavesM T (geoN n) (openM T (geoN n) i).1).2≠0 then ([],(leavesM T (geoN n) (openM T (geoN n) i).1).2) else (sortE (allE (leavesM T (geoN n) (openM T (geoN n) i).1).1),0):=by
  unfold listD; rw [if_neg (fun y=>y he0)]
 have rise:=(leavesGo_rise T (geoN n) (openM T (geoN n) i).1 ((openM T (geoN n) i).1.getD 2 0 / 512).toNat 0).1
 unfold leavesM at es0
 rw [he0] at I0
 generalize hR:(openM T (geoN n) i).1=R at *
 generalize hm:(R.getD 2 0 / 512).toNat=m at *
 have hm2:m≤16522:=by omega
 refine leaves_iter lR R0 R1 (fun k hh=>It hh F t d T (geoN n) i R 0 [] h6.size h3.size∧Fr (fun b=>b=h3.size∨b=h5.size∨b=h7.size+1) hb hh∧LoopOn hh (h7.size+1) L .ready none∧∃ q a l c acc,m=k+q∧rd hh h5.size=[.slice a l c]∧Own hh h5.size∧Sl hh 3 a l c (acc.flatMap E.v) (From hb.size)∧acc.length≤16*k ∧
   allE (leavesGo T (geoN n) R m 0).1=acc++allE (leavesGo T (geoN n) R q k).1∧(leavesGo T (geoN n) R m 0).2=(leavesGo T (geoN n) R q k).2)
  (fun k hh J=>J.1) (fun k hh h' ba bl bc ca cl cc J hk he f' r' o' lf=>?_) ⟨I0,Fr.refl _ _,on0,m,none,0,0,[],by omega,ab0,pb0,Sl.nil _ _ _,Nat.zero_le _,rfl,rfl⟩ (fun hh J=>?_) fun k hh h' J hk he f' r' o'=>?_
 ·-- an index
  obtain ⟨I,f,on,q,a,l,c,acc,eq,ra,oa,sa,la,e1,e2⟩:=J
  rw [hm] at hk
  obtain ⟨q,rfl⟩:∃ q',q=q'+1:=⟨q - 1,by omega⟩
  have zf:=f.size
  have zf':=f'.size
  have on':LoopOn h' (h7.size+1) L .ready none:=loopOn_fr on f' (by omega)
  refine rounds (leafV k (leafM T (geoN n) R k).1.block ba bl bc ca cl cc) h' _ on' (NewRow.intro rfl leafV_one rfl fun h10 n10=>⟨loopOn_fr on' n10.fr fun y=>y,setL_intro (by have:=n10.size; omega) fun h11 t11=>?_⟩)
  have z10:=n10.size
  have z11:=t11.size
  have f11:Fr (fun b=>b=h3.size∨b=h5.size∨b=h7.size+1) hb h11:=((f.trans f' fun b _ y => .inl y).new n10).trans t11.fr fun b _ y => .inr (.inr y)
  have v11:rd h11 h'.size=leafV k (leafM T (geoN n) R k).1.block ba bl bc ca cl cc:=(t11.fr.rd (by omega) (by omega)).trans n10.rd
  have lf11:Lf hh h11 (leafM T (geoN n) R k).1 ba bl bc ca cl cc:=(lf.fr n10.fr fun _ _ _ y=>y).fr t11.fr fun b _ hb y=>by omega
  have lc:(leafM T (geoN n) R k).1.cells.length=cl:=by
   have:=lf11.c.1
   rw [flat_length E.v 3 _ (fun x _=>E.len x)] at this
   omega
  have l16:=leaf_len T (geoN n) R k
  have I11:It h11 F t d T (geoN n) i R 0 [] h6.size h3.size:=by
   have A:It h' F t d T (geoN n) i R 0 [] h6.size h3.size:=⟨I.gl.fr f' fun b hb y=>by omega,I.x.fr f' fun b hb y=>by have:=xl b hb; omega,(f'.rd I.clt (by omega)).trans I.cap,o',r',I.nf,I.b1,I.ne⟩
   exact (A.no n10.fr).fr t11.fr (by omega) (by omega) (fun b hb y=>by have:=xl b hb; omega) fun b hb y=>by omega
  have ra11:rd h11 h5.size=[.slice a l c]:=(t11.fr.rd (by omega) (by omega)).trans ((n10.at_ (by omega)).trans ((f'.rd (by omega) (by omega)).trans ra))
  have oa11:Own h11 h5.size:=t11.fr.own (by omega) (by omega) (n10.ow (f'.own (by omega) (by omega) oa))
  have sa11:Sl h11 3 a l c (acc.flatMap E.v) (fun b=>hb.size≤b∧b<hh.size):=(((sl_lt sa).mono (G:=fun b=>hb.size≤b∧b<hh.size) fun b hb=>hb).fr f' fun b _ hb y=>by omega).fr n10.fr (fun _ _ _ y=>y) |>.fr t11.fr fun b _ hb y=>by omega
  refine ⟨_,_,_,rda v11 rfl,fun j hx=>∃ p:Nat,j=p∧p≤cl∧Fr (fun b=>b=h5.size∨(hb.size≤b∧b<hh.size)) h11 hx∧∃ a l c,rd hx h5.size=[.slice a l c]∧Own hx h5.size∧Sl hx 3 a l c ((acc++((leafM T (geoN n) R k).1.cells.take p).map (upE k)).flatMap E.v) (fun b=>(hb.size≤b∧b<hh.size)∨(h11.size≤b∧b<hx.size)),fun j _=>((cl:Int) - j).toNat,
   ⟨0,rfl,Nat.zero_le _,Fr.refl _ _,a,l,c,ra11,oa11,by rw [List.take_zero,List.map_nil,List.append_nil]; exact sa11.mono fun b hb => .inl hb⟩,?_⟩
  rintro j h12 ⟨p,rfl,hp,f12,a2,l2,c2,ra12,oa12,s12⟩
  have z12:=f12.size
  have v12:rd h12 h'.size=leafV k (leafM T (geoN n) R k).1.block ba bl bc ca cl cc:=(f12.rd (by omega) (by omega)).trans v11
  have lf12:Lf hh h12 (leafM T (geoN n) R k).1 ba bl bc ca cl cc:=lf11.fr f12 fun b _ hb y=>by omega
  have on12:LoopOn h12 (h7.size+1) L .busy none:=loopOn_fr t11.on f12 (by omega)
  refine cd (fun hlt=>?_) fun hlt=>?_
  ·have hlt':p<(leafM T (geoN n) R k).1.cells.length:=by omega
   obtain ⟨a0,ea,ca0⟩:=ent_at lf12.c.cells hlt'
   subst ea
   have pr:=(leafM_ok T (geoN n) R k).rng _ (List.getElem_mem hlt')
   generalize hcell:(leafM T (geoN n) R k).1.cells[p]=cell at ca0 pr
   have ll2:l2=acc.length+p:=by
    have:=s12.1
    rw [flat_length E.v 3 _ (fun x _=>E.len x),List.length_append,List.length_map,List.length_take] at this
    omega
   refine ⟨⟨by omega,hlt⟩,os ⟨_,rfl,ca0,NewRow.intro rfl (E.one _) rfl fun h14 n14=>⟨_,rda n14.rd rfl,_,rda ((n14.at_ (by omega)).trans v12) rfl,?_⟩⟩⟩
   have z14:=n14.size
   refine Put.add n14.own (by rw [n14.rd]; show 0<3; decide) fun h15 d15=>?_
   have z15:=d15.size
   have r15:rd h15 h12.size=E.v (upE k cell):=by
    rw [d15.rd,n14.rd,wrap_i64 (n:=16*(k:Int)) (by omega) (by omega),wrap_i64 (by omega) (by omega)]; rfl
   have ra15:=(d15.at_ (c:=h5.size) (by omega) (by omega)).trans ((n14.at_ (by omega)).trans ra12)
   refine ⟨a2,l2,c2,rdc ra15 rfl,_,rfl,cellsAll r15,rfl,New.intro fun h16 n16=>⟨_,rfl,cellsAll n16.rd,E.one _,?_⟩⟩
   have z16:=n16.size
   have s16:Sl h16 3 a2 l2 c2 ((acc++((leafM T (geoN n) R k).1.cells.take p).map (upE k)).flatMap E.v) (fun b=>(hb.size≤b∧b<hh.size)∨(h11.size≤b∧b<h12.size)):=((s12.fr n14.fr fun _ _ _ y=>y).fr d15.fr fun b _ hb y=>by omega).fr n16.fr fun _ _ _ y=>y
   refine append_own (elem:=ti113) s16 rfl rfl (by show (l2+1)*32≤_; omega) (by omega) fun a' c' h17 f17 s17=>?_
   have z17:=f17.size
   have f16:Fr (fun b=>b=h5.size∨(hb.size≤b∧b<hh.size)) h11 h16:=((f12.new n14).did d15 fun hl=>by omega).new n16
   have w16:Own h16 h5.size:=n16.ow (d15.ow (n14.ow oa12))
   have r16:rd h16 h5.size=[.slice a2 l2 c2]:=(n16.at_ (by omega)).trans ra15
   have w17:Own h17 h5.size:=f17.own (by omega) (by omega) w16
   refine Put.intro w17 (by rw [f17.rd (by omega) (by omega),r16]; exact Nat.zero_lt_one) fun h18 d18=>?_
   have z18:=d18.size
   rw [wrap_i64 (by omega) (by omega)]
   refine ⟨⟨p+1,by omega,by omega,(f16.trans f17 fun b hb y=>?_).did d18 fun hl => .inl rfl,a',l2+1,c',?_,d18.own,?_⟩,falls hlt⟩
   ·omega
   ·rw [d18.rd,f17.rd (by omega) (by omega),r16]; rfl
   ·rw [List.take_succ_eq_append_getElem hlt',List.map_append,← List.append_assoc,List.flatMap_append,hcell]
    have s18:=(sl_lt s17).fr d18.fr fun b _ hb y=>by omega
    rw [show [cell].map (upE k)=[upE k cell] from rfl,List.flatMap_cons,List.flatMap_nil,List.append_nil]
    exact s18.mono fun b hb=>by omega
  ·have:p=cl:=by omega
   subst this
   refine ⟨on12,.inl ⟨rfl,?_⟩⟩
   have t24:=turned (loopOn_lt on12) L .ready none
   generalize setLoop h12 (h7.size+1) L .ready none=h24 at t24
   have z24:=t24.size
   refine ⟨(I11.fr f12 (by omega) (by omega) (fun b hb y=>by have:=xl b hb; omega) fun b hb y=>by omega).fr t24.fr (by omega) (by omega) (fun b hb y=>by have:=xl b hb; omega) fun b hb y=>by omega,(f11.trans f12 fun b _ y=>by omega).trans t24.fr fun b _ y => .inr (.inr y),t24.on,q,a2,l2,c2,acc++(leafM T (geoN n) R k).1.cells.map (upE k),by omega,(t24.fr.rd (by omega) (by omega)).trans ra12,t24.fr.own (by omega) (by omega) oa12,?_,?_,?_,?_⟩
   ·rw [List.take_of_length_le (by omega)] at s12
    exact (s12.fr t24.fr fun b _ hb y=>by omega).mono fun b hx=>by show hb.size≤b; omega
   ·rw [List.length_append,List.length_map]; omega
   ·rw [e1]
    conv=>lhs; unfold leavesGo
    rw [if_neg (fun y=>y he)]
    show acc++allE ((leafM T (geoN n) R k).1::(leavesGo T (geoN n) R q (k+1)).1)=_
    rw [allE_cons,List.append_assoc]
   ·rw [e2]
    conv=>lhs; unfold leavesGo
    rw [if_neg (fun y=>y he)]
 ·-- all have come
  obtain ⟨I,f,on,q,a,l,c,acc,eq,ra,oa,sa,la,e1,e2⟩:=J
  rw [hm] at eq e1 e2 la
  have:q=0:=by omega
  subst this
  have ea:allE (leavesGo T (geoN n) R m 0).1=acc:=by rw [e1]; exact List.append_nil _
  have e0:(leavesGo T (geoN n) R m 0).2=0:=by rw [e2]; rfl
  exact fin hh 0 f on I.r (fun y=>absurd rfl y) fun _=>⟨a,l,c,acc,ra,sa,by rw [← ea]; exact rise,by omega,by rw [es0,if_neg (fun y=>y e0),ea]⟩
 ·-- an index that does not read
  obtain ⟨I,f,on,q,a,l,c,acc,eq,ra,oa,sa,la,e1,e2⟩:=J
  rw [hm] at hk
  obtain ⟨q,rfl⟩:∃ q',q=q'+1:=⟨q - 1,by omega⟩
  have zf:=f.size
  have ee:(leavesGo T (geoN n) R m 0).2=(leafM T (geoN n) R k).2:=by
   rw [e2]; unfold leavesGo; rw [if_pos he]
  exact fin h' _ (f.trans f' fun b _ y => .inl y) (loopOn_fr on f' (by omega)) r' (fun _=>by rw [es0,ee,if_pos he]) fun y=>absurd y he
theorem Size_spec {h:Heap} {F:Nat→Prop} {t d:Option Addr} {T:TM} {n:Nat} {i:Int} {K:Value→Heap→Prop} (gl:In.Glo h) (dm:Dim n) (x:Tx h F t d T)
  (hK:∀ h',Fr No h h'→K (.tuple #[.int .i64 ((listD T (geoN n) i).1.length:Nat),.int .i64 (listD T (geoN n) i).2]) h'):C.dir_Size t (geoN n).v i h K:=by
 refine dir_Size.ok (New.intro fun h2 n2=>⟨(geoN n).v,rfl,cellsAll n2.rd,List_spec (gl.no n2.fr) dm (x.no n2.fr) fun h3 a l c f3 hl s3=>⟨_,_,_,_,rfl,?_⟩⟩)
 rw [hl]
 exact hK h3 (n2.fr.no f3)
end Go.Proofs.YtiapingedfnlnaaGreatDoor.Di
namespace Go.Proofs.YtiapingedfnlnaaGreatDoor.Di
open Go Go.Proofs Wx Hp W Ad Tm Bt Spc Av Ss
open Hd (ints)
open In (ints_length ints_one mayR encR encR_length)
open Fi (Ly Ib)
open Sk (E nameOk)
theorem fresh_spec {n:Nat} {h:Heap} {K:Value→Heap→Prop} (gl:In.Glo h) (d:Dim n) (hn:n<1000)
  (hK:∀ tb dd F L h',Fr No h h'→Tx h' F (some ⟨tb,0,none⟩) dd ⟨fresh (chunks L),[],[],false⟩→Ib n (recsD.flatMap encR) (4096*((geoN n).inodes - 98)) L→(∀ b,F b→h.size≤b)→K (.tuple #[.pointer (some ⟨tb,0,none⟩),.agg ⟨(geoN n).v⟩]) h'):C.bolelaw15_fresh n h K:=by
 have gl1:=gl.lt
 refine bolelaw15_fresh.ok (New.intro fun h2 n2=>Spc.Geo_spec (by omega) fun h3 f3=>⟨_,rfl,NewRow.intro rfl (G.one _) rfl fun h5 n5=>⟨(geoN n).v,rfl,cellsAll n5.rd,rfl,rfl,rfl,New.intro fun h6 n6=>?_⟩⟩)
 have z2:=n2.size
 have z3:=f3.size
 have z5:=n5.size
 have z6:=n6.size
 have F6:Fr No h h6:=((n2.fr.no f3).new n5).new n6
 have hd0:∀ R ∈ recsD,∀ i,i<10→R.getD (3+i) 0=0:=fun R hR i hi=>by
  have:∀ R ∈ recsD,∀ i:Fin 10,R.getD (3+i.val) 0=0:=by decide
  exact this R hR ⟨i,hi⟩
 have Y6:SlCells h6 (some ⟨h5.size,0,none⟩) (recsD.flatMap ints):=cellsAll n6.rd
 refine Fi.image_spec (recs:=recsD) (rc:=3) ⟨d.lo,by omega⟩ Y6 (by decide) (by decide) hd0 (by decide) fun ib L h7 f7 I o7 hib r7=>⟨_,_,_,rfl,?_⟩
 have z7:=f7.size
 have hL:=I.im.len
 have hlo:=d.lo
 have B7:StrAt h7 (some ⟨ib,0,none⟩) (512*n) L:=strAll r7 hL
 refine openF_spec B7 (Nat.le_refl _) (by omega) (fun y=>by exfalso; omega) fun _ _ _ q h8 D f8 hD A=>⟨_,_,rfl,cn (fun y=>absurd rfl y) fun _=>cf rfl ?_⟩
 have z8:=f8.size
 have F8:Fr No h h8:=(F6.no f7).no f8
 unfold bolelaw15_fresh.k1
 refine Tm.Begin_spec A fun tb h12 F f12 g12 x12=>⟨_,rfl,cf rfl ?_⟩
 have z12:=f12.size
 obtain ⟨T',ea,e1,e2,ed,eu⟩:=first_dir d hn I
 have F12:Fr No h h12:=F8.no f12
 have lowF:∀ b,F b→h7.size≤b:=fun b hb=>by
  rcases g12.new hb with y|y
  ·exact hD b y
  ·omega
 have rg12:rd h12 h3.size=(geoN n).v:=(f12.rd (by omega) fun y=>y).trans ((f8.rd (by omega) fun y=>y).trans ((f7.rd (by omega) fun y=>y).trans ((n6.at_ (by omega)).trans n5.rd)))
 have nm:∀ {h':Heap} {G:Nat→Prop},Fr G h12 h'→(∀ b,G b→h7.size≤b)→rd h' h3.size=(geoN n).v∧rd h' h.size=z25∧Own h' h.size:=fun f hG=>by
  have r0:rd h12 h.size=z25:=(f12.rd (by omega) fun y=>y).trans ((f8.rd (by omega) fun y=>y).trans ((f7.rd (by omega) fun y=>y).trans ((n6.at_ (by omega)).trans ((n5.at_ (by omega)).trans ((f3.rd (by omega) fun y=>y).trans n2.rd)))))
  have o0:Own h12 h.size:=f12.own (by omega) (fun y=>y) (f8.own (by omega) (fun y=>y) (f7.own (by omega) (fun y=>y) (n6.ow (n5.ow (f3.own (by omega) (fun y=>y) n2.own)))))
  exact ⟨(f.rd (by omega) fun y=>by have:=hG _ y; omega).trans rg12,(f.rd (by omega) fun y=>by have:=hG _ y; omega).trans r0,f.own (by omega) (fun y=>by have:=hG _ y; omega) o0⟩
 refine ⟨(geoN n).v,rfl,cellsAll rg12,Add_spec (s:=nmA) (gl.no F12) d x12 (fun b hb y=>by have:=lowF b y; omega) (by show 0<600000000; decide) fun h14 F' f14 g14 x14=>⟨_,rfl,?_⟩⟩
 rw [ea] at x14 ⊢
 refine cn (fun y=>absurd rfl y) fun _=>?_
 unfold bolelaw15_fresh.k2
 have z14:=f14.size
 have lowF':∀ b,F' b→h7.size≤b:=fun b hb=>by
  rcases g14.new hb with y|y
  ·exact lowF b y
  ·omega
 have F14:Fr No h h14:=F12.trans f14 fun b hb y=>by have:=lowF b y; omega
 refine ⟨(geoN n).v,rfl,cellsAll (nm f14 lowF).1,Find_spec (s:=nmA) (gl.no F14) d x14 fun h17 f17=>⟨_,_,rfl,?_⟩⟩
 have z17:=f17.size
 rw [e1]
 refine ⟨(geoN n).v,rfl,cellsAll (nm (f14.no f17) lowF).1,Find_spec (s:=nmA) (gl.no (F14.no f17)) d (x14.no f17) fun h18 f18=>⟨_,_,rfl,cn (fun y=>absurd rfl y) fun _=>?_⟩⟩
 rw [e2]
 have z18:=f18.size
 refine cn (fun y=>absurd rfl y) fun _=>cn (fun y=>absurd rfl y) fun _=>?_
 unfold bolelaw15_fresh.k3
 have x18:=(x14.no f17).no f18
 refine Tm.Abort_spec x18 fun h24 F2 f24 g24 x24=>⟨rfl,?_⟩
 have z24:=f24.size
 have lowF2:∀ b,F2 b→h7.size≤b:=fun b hb=>by
  rcases g24.new hb with y|y
  ·exact lowF' b y
  ·omega
 have f1224:Fr (fun b=>h7.size≤b) h12 h24:=(((f14.mono fun b _ y=>lowF b y).no f17).no f18).trans f24 fun b _ y=>lowF' b y
 obtain ⟨D2,A2,hD2⟩:=x24.dk
 have edk:(TM.ended T'.disk).disk=fresh (chunks L):=ed
 rw [edk] at A2
 refine ⟨(geoN n).v,rfl,cellsAll (nm f1224 fun _ y=>y).1,Tm.Begin_spec A2 fun tb2 h25 F3 f25 g25 x25=>⟨_,rfl,⟨rfl,cellsAll (nm (f1224.no f25) fun _ y=>y).1⟩,?_⟩⟩
 have z25:=f25.size
 obtain ⟨_,r0,o0⟩:=nm (f1224.no f25) fun _ y=>y
 refine PutRow.intro o0 rfl (G.one _) (by rw [r0]; exact Nat.le_refl _) fun h26 d26=>⟨(geoN n).v,rfl,cellsAll (by rw [d26.rd,r0]; exact put_all _ _ rfl),?_⟩
 have lowF3:∀ b,F3 b→h7.size≤b:=fun b hb=>by
  rcases g25.new hb with y|y
  ·exact lowF2 b (hD2 b y)
  ·omega
 exact hK tb2 _ F3 L h26 (((F12.trans f1224 fun b hb y=>by have y:h7.size≤b:=y; omega).no f25).did d26 fun hl=>by omega) (x25.fr d26.fr fun b hb y=>by have:=lowF3 b hb; omega) I fun b hb=>by have:=lowF3 b hb; omega
end Go.Proofs.YtiapingedfnlnaaGreatDoor.Di
namespace Go.Proofs
open Go Go.Shelf
def Tryz.keysA_ren : Go.Shelf.Ren:=⟨fun|7=>107|10=>180|n=>n,fun|23=>207|26=>3|3=>86|28=>213|0=>0|27=>212|33=>254|4=>4|n=>n,fun n=>n⟩
theorem Tryz.keysA : SlLaysZI.n7 Tryz.prog Tryz.keysA_ren where
 mixed:=by kernel_rfl
 f7 := ⟨ "maps.Keys[map[int][]byte,int,[]byte]", by decide, Tryz.func107.trans (congrArg some (by kernel_rfl))⟩
 f10 := ⟨ "maps.Keys[map[int][]byte,int,[]byte]$1", by decide, Tryz.func180.trans (congrArg some (by kernel_rfl))⟩
 t0:=Tryz.underlying0
 a0:=Tryz.isAgg0
 z0:=Tryz.sizeOf0
 v0:=Tryz.zeroValue0
 t4:=Tryz.underlying4
 a4:=Tryz.isAgg4
 z4:=Tryz.sizeOf4
 v4:=Tryz.zeroValue4
 t23:=Tryz.underlying207
 a23:=Tryz.isAgg207
 z23:=Tryz.sizeOf207
 v23:=Tryz.zeroValue207
 t26:=Tryz.underlying3
 a26:=Tryz.isAgg3
 z26:=Tryz.sizeOf3
 v26:=Tryz.zeroValue3
 t27:=Tryz.underlying212
 a27:=Tryz.isAgg212
 z27:=Tryz.sizeOf212
 v27:=Tryz.zeroValue212
 t28:=Tryz.underlying213
 a28:=Tryz.isAgg213
 z28:=Tryz.sizeOf213
 v28:=Tryz.zeroValue213
 t33:=Tryz.underlying254
 a33:=Tryz.isAgg254
 z33:=Tryz.sizeOf254
 v33:=Tryz.zeroValue254
def Tryz.sortedA_ren : Go.Shelf.Ren:=⟨fun|6=>106|8=>179|9=>93|11=>247|13=>147|12=>168|23=>222|24=>223|14=>234|15=>235|16=>236|17=>237|18=>238|19=>239|20=>240|21=>241|22=>242|25=>290|26=>279|27=>280|28=>291|29=>292|30=>149|31=>319|n=>n,fun|26=>3|28=>213|24=>61|0=>0|3=>3|37=>78|48=>325|50=>257|4=>4|40=>318|39=>317|45=>322|5=>5|9=>9|51=>374|55=>369|57=>398|58=>399|33=>254|n=>n,fun n=>n⟩
theorem Tryz.sortedA : SlLaysZI.n6 Tryz.prog Tryz.sortedA_ren where
 mixed:=by kernel_rfl
 f6 := ⟨ "slices.Sorted[int]", by decide, Tryz.func106.trans (congrArg some (by kernel_rfl))⟩
 f8 := ⟨ "slices.Collect[int]", by decide, Tryz.func179.trans (congrArg some (by kernel_rfl))⟩
 f11 := ⟨ "slices.AppendSeq[[]int,int]", by decide, Tryz.func247.trans (congrArg some (by kernel_rfl))⟩
 t0:=Tryz.underlying0
 a0:=Tryz.isAgg0
 z0:=Tryz.sizeOf0
 v0:=Tryz.zeroValue0
 t24:=Tryz.underlying61
 a24:=Tryz.isAgg61
 z24:=Tryz.sizeOf61
 v24:=Tryz.zeroValue61
 t26:=Tryz.underlying3
 a26:=Tryz.isAgg3
 z26:=Tryz.sizeOf3
 v26:=Tryz.zeroValue3
 t28:=Tryz.underlying213
 a28:=Tryz.isAgg213
 z28:=Tryz.sizeOf213
 v28:=Tryz.zeroValue213
 i26:=by kernel_rfl
def Tryz.sortA_ren : Go.Shelf.Ren:=⟨fun|5=>93|8=>147|7=>168|19=>222|20=>223|10=>234|11=>235|12=>236|13=>237|14=>238|15=>239|16=>240|17=>241|18=>242|30=>290|31=>279|32=>280|33=>291|34=>292|35=>149|40=>319|n=>n,fun|23=>61|25=>3|3=>3|32=>78|22=>61|0=>0|44=>325|46=>257|4=>4|36=>318|35=>317|41=>322|5=>5|9=>9|53=>374|57=>369|63=>398|64=>399|n=>n,fun n=>n⟩
theorem Tryz.sortA : SlLaysM.n5 Tryz.prog Tryz.sortA_ren where
 mixed:=by kernel_rfl
 f5 := ⟨ "slices.Sort[[]int,int]", by decide, Tryz.func93.trans (congrArg some (by kernel_rfl))⟩
 f7 := ⟨ "slices.pdqsortOrdered[int]", by decide, Tryz.func168.trans (congrArg some (by kernel_rfl))⟩
 f8:=Tryz.func147.trans (congrArg some (by kernel_rfl))
 f10 := ⟨ "slices.insertionSortOrdered[int]", by decide, Tryz.func234.trans (congrArg some (by kernel_rfl))⟩
 f11 := ⟨ "slices.heapSortOrdered[int]", by decide, Tryz.func235.trans (congrArg some (by kernel_rfl))⟩
 f12 := ⟨ "slices.breakPatternsOrdered[int]", by decide, Tryz.func236.trans (congrArg some (by kernel_rfl))⟩
 f13 := ⟨ "slices.choosePivotOrdered[int]", by decide, Tryz.func237.trans (congrArg some (by kernel_rfl))⟩
 f14 := ⟨ "slices.reverseRangeOrdered[int]", by decide, Tryz.func238.trans (congrArg some (by kernel_rfl))⟩
 f15 := ⟨ "slices.partialInsertionSortOrdered[int]", by decide, Tryz.func239.trans (congrArg some (by kernel_rfl))⟩
 f16 := ⟨ "cmp.Less[int]", by decide, Tryz.func240.trans (congrArg some (by kernel_rfl))⟩
 f17 := ⟨ "slices.partitionEqualOrdered[int]", by decide, Tryz.func241.trans (congrArg some (by kernel_rfl))⟩
 f18 := ⟨ "slices.partitionOrdered[int]", by decide, Tryz.func242.trans (congrArg some (by kernel_rfl))⟩
 f19:=Tryz.func222.trans (congrArg some (by kernel_rfl))
 f20:=Tryz.func223.trans (congrArg some (by kernel_rfl))
 f30 := ⟨ "slices.siftDownOrdered[int]", by decide, Tryz.func290.trans (congrArg some (by kernel_rfl))⟩
 f31:=Tryz.func279.trans (congrArg some (by kernel_rfl))
 f32:=Tryz.func280.trans (congrArg some (by kernel_rfl))
 f33 := ⟨ "slices.medianAdjacentOrdered[int]", by decide, Tryz.func291.trans (congrArg some (by kernel_rfl))⟩
 f34 := ⟨ "slices.medianOrdered[int]", by decide, Tryz.func292.trans (congrArg some (by kernel_rfl))⟩
 f35 := ⟨ "cmp.isNaN[int]", by decide, Tryz.func149.trans (congrArg some (by kernel_rfl))⟩
 f40 := ⟨ "slices.order2Ordered[int]", by decide, Tryz.func319.trans (congrArg some (by kernel_rfl))⟩
 t0:=Tryz.underlying0
 a0:=Tryz.isAgg0
 z0:=Tryz.sizeOf0
 v0:=Tryz.zeroValue0
 t3:=Tryz.underlying3
 a3:=Tryz.isAgg3
 z3:=Tryz.sizeOf3
 v3:=Tryz.zeroValue3
 t4:=Tryz.underlying4
 a4:=Tryz.isAgg4
 z4:=Tryz.sizeOf4
 v4:=Tryz.zeroValue4
 t5:=Tryz.underlying5
 a5:=Tryz.isAgg5
 z5:=Tryz.sizeOf5
 v5:=Tryz.zeroValue5
 t9:=Tryz.underlying9
 a9:=Tryz.isAgg9
 z9:=Tryz.sizeOf9
 v9:=Tryz.zeroValue9
 t22:=Tryz.underlying61
 a22:=Tryz.isAgg61
 z22:=Tryz.sizeOf61
 v22:=Tryz.zeroValue61
 t23:=Tryz.underlying61
 a23:=Tryz.isAgg61
 z23:=Tryz.sizeOf61
 v23:=Tryz.zeroValue61
 t25:=Tryz.underlying3
 a25:=Tryz.isAgg3
 z25:=Tryz.sizeOf3
 v25:=Tryz.zeroValue3
 t32:=Tryz.underlying78
 a32:=Tryz.isAgg78
 z32:=Tryz.sizeOf78
 v32:=Tryz.zeroValue78
 t35:=Tryz.underlying317
 a35:=Tryz.isAgg317
 z35:=Tryz.sizeOf317
 v35:=Tryz.zeroValue317
 t36:=Tryz.underlying318
 a36:=Tryz.isAgg318
 z36:=Tryz.sizeOf318
 v36:=Tryz.zeroValue318
 t41:=Tryz.underlying322
 a41:=Tryz.isAgg322
 z41:=Tryz.sizeOf322
 v41:=Tryz.zeroValue322
 t44:=Tryz.underlying325
 a44:=Tryz.isAgg325
 z44:=Tryz.sizeOf325
 v44:=Tryz.zeroValue325
 t46:=Tryz.underlying257
 a46:=Tryz.isAgg257
 z46:=Tryz.sizeOf257
 v46:=Tryz.zeroValue257
 t53:=Tryz.underlying374
 a53:=Tryz.isAgg374
 z53:=Tryz.sizeOf374
 v53:=Tryz.zeroValue374
 t57:=Tryz.underlying369
 a57:=Tryz.isAgg369
 z57:=Tryz.sizeOf369
 v57:=Tryz.zeroValue369
 t63:=Tryz.underlying398
 a63:=Tryz.isAgg398
 z63:=Tryz.sizeOf398
 v63:=Tryz.zeroValue398
 t64:=Tryz.underlying399
 a64:=Tryz.isAgg399
 z64:=Tryz.sizeOf399
 v64:=Tryz.zeroValue399
end Go.Proofs
namespace Go.Proofs.YtiapingedfnlnaaGreatDoor.Tm
open Go Go.Proofs Wx Hp W Ad
theorem insert_perm {H:Type} (x:Lit×DataW H):∀ l:List (Lit×DataW H),(DataW.insert x l).Perm (x::l)
 | []=>List.Perm.refl _
 | y::r=>by
  show (if x.1.before y.1 then x::y::r else y::DataW.insert x r).Perm _
  split
  ·exact List.Perm.refl _
  ·exact ((insert_perm x r).cons y).trans (List.Perm.swap x y r)
theorem foldr_perm {H:Type}:∀ l:List (Lit×DataW H),(l.foldr DataW.insert []).Perm l
 | []=>List.Perm.refl _
 | x::r=>(insert_perm x _).trans ((foldr_perm r).cons x)
def anyR : Value→Option (DataW Unit×List MemPlace):=fun _=>some (.nil,[])
def valI : Value→Int
 | .int _ n=>n
 | _=>0
def sortZ (l:List Int):List Int:=l.mergeSort fun x y=>decide (x≤y)
theorem Sorted_spec {α:Type} {f:α→Value} {h:Heap} {bx mb:Nat} {m:List (Int×α)} {K:Value→Heap→Prop} (hbx:rd h bx=[.map (some mb)]) (M:MapAt DI h mb (mm f m)) (hm:m.length≤1000000) (hr:∀ p ∈ m,-9223372036854775808≤p.1∧p.1≤9223372036854775807)
  (hK:∀ a c h',Fr No h h'→Sl h' 1 a m.length c ((sortZ (m.map (·.1))).map (.int .i64)) (From h.size)→K (.slice a m.length c) h') :
  C.slices_Sorted_int (.func (.func 180) #[] ⟨[.pointer (some ⟨bx,0,none⟩)]⟩) h K:=by
 refine ⟨⟨_,Tryz.func106,by kernel_rfl,by kernel_rfl⟩,fun w hw=>?_⟩
 subst hw
 obtain ⟨es,clock,hb,he,_,hst⟩:=M
 have hlen:es.size=m.length:=by
  have:=congrArg List.length he
  rw [List.length_map,List.length_map,mm_length] at this
  simpa using this
 have hkey:∀ x ∈ es.toList,∃ p ∈ m,x.key = .int .i64 p.1:=by
  intro x hx
  have:(x.key,x.val) ∈ es.toList.map (fun e=>(e.key,e.val)):=List.mem_map.mpr ⟨x,hx,rfl⟩
  rw [he] at this
  obtain ⟨q,hq,e⟩:=List.mem_map.mp this
  obtain ⟨p,hp,rfl⟩:=List.mem_map.mp hq
  exact ⟨p,hp,(congrArg Prod.fst e).symm⟩
 have hwf:∀ n:Int,-9223372036854775808≤n∧n≤9223372036854775807→(Lit.int .i64 n).wf=true:=fun n hn=>by
  have h1:IntKind.i64.min = -9223372036854775808:=rfl
  have h2:IntKind.i64.max=9223372036854775807:=rfl
  simp only [Lit.wf,Bool.and_eq_true,decide_eq_true_eq]
  omega
 have hread:∀ n:Int,-9223372036854775808≤n∧n≤9223372036854775807→∀ x:MapEntry,x.key = .int .i64 n→WideElems.rd Tryz.prog 3 anyR x=some (.int .i64 n,.nil):=fun n hn x hx=>by
  have h1:keyOf Tryz.prog 3 x.key=some (.int .i64 n):=by
   rw [hx]
   simp [keyOf,mapKey,Tryz.underlying3,hwf n hn]
  simp [WideElems.rd,h1,anyR]
 have fit:WideElems.Fit Tryz.prog 3 anyR es clock:=⟨by rw [hlen]; exact Nat.le_trans hm (by decide),hst,fun x hx=>by
  obtain ⟨p,hp,e⟩:=hkey x hx
  exact ⟨_,hread p.1 (hr p hp) x e⟩⟩
 have hown:w.ownsMap Tryz.prog 3 anyR mb m.length (.map ((es.toList.map (WideElems.rg Tryz.prog 3 anyR)).foldr DataW.insert [])):=⟨es,clock,hb,fit,by omega,rfl⟩
 have hperm:(intKeys (H:=Unit) (.map ((es.toList.map (WideElems.rg Tryz.prog 3 anyR)).foldr DataW.insert []))).Perm (m.map (·.1)):=by
  refine List.Perm.trans (l₂:=(es.toList.map (WideElems.rg Tryz.prog 3 anyR)).map fun p:Lit×DataW Unit=>Go.intOf p.1) ((foldr_perm _).map _) ?_
  rw [List.map_map]
  have e1:es.toList.map ((fun p:Lit×DataW Unit=>Go.intOf p.1) ∘ WideElems.rg Tryz.prog 3 anyR)=m.map (·.1):=by
   have e2:es.toList.map (fun x=>x.key)=m.map fun p=>(.int .i64 p.1:Value):=by
    have:=congrArg (List.map Prod.fst) he
    rw [List.map_map,List.map_map] at this
    rw [show (es.toList.map fun x=>x.key)=es.toList.map (Prod.fst ∘ fun e=>(e.key,e.val)) from rfl,this]
    rw [mm,List.map_map]; rfl
   have e3:es.toList.map ((fun p:Lit×DataW Unit=>Go.intOf p.1) ∘ WideElems.rg Tryz.prog 3 anyR)=(es.toList.map (fun x=>x.key)).map valI:=by
    rw [List.map_map]
    refine List.map_congr_left fun x hx=>?_
    obtain ⟨p,hp,e⟩:=hkey x hx
    have h1:=WideElems.rg_of (hread p.1 (hr p hp) x e)
    rw [Function.comp_apply,Function.comp_apply,h1,e]
    rfl
   rw [e3,e2,List.map_map]; rfl
  rw [e1]
 have hbl:bx<w.heap.size:=rd_lt (o:=0) (v := .map (some mb)) (by rw [hbx]; rfl)
 have hsz:Maps.size (.map ((es.toList.map (WideElems.rg Tryz.prog 3 anyR)).foldr DataW.insert []):DataW Unit)=m.length:=by
  have:=hperm.length_eq
  rw [List.length_map] at this
  rw [← this]
  show _=(List.map _ _).length
  rw [List.length_map]; rfl
 have hc:w.cell? ⟨bx,0,none⟩=some (.map (some mb)):=rdc hbx rfl
 have hseq:SeqGives Fence.wide 2 Tryz.prog 180 #[.pointer (some ⟨bx,0,none⟩)] encZ (fun ss=>ss.Perm (intKeys (H:=Unit) (.map ((es.toList.map (WideElems.rg Tryz.prog 3 anyR)).foldr DataW.insert [])))) (Maps.size (.map ((es.toList.map (WideElems.rg Tryz.prog 3 anyR)).foldr DataW.insert []):DataW Unit)) w :=
  AnyZI.keys_gives (ρ:=Tryz.keysA_ren) { Tryz.keysA with } Fence.wide _ trivial rfl (by omega) bx mb m.length _ _ hbl hc hown
 have sorts:∀ k,AnyZI.SortsIn Tryz.prog Tryz.sortedA_ren Fence.wide k:=fun k =>
  ⟨fun blk off cap ss W hH hblk hsz=>callsIn_wide.2 (AnyM.slices_Sort_int Tryz.sortA blk off cap ss W hH hblk hsz),
   fun p cap W=>callsIn_wide.2 (AnyM.slices_Sort_int_none Tryz.sortA p cap W)⟩
 have cS:=AnyZI.sorted_in Tryz.sortedA Fence.wide 5 trivial trivial trivial trivial rfl (by omega) (sorts _) (enters_of Tryz.func93 (by kernel_rfl) rfl) 180 #[.pointer (some ⟨bx,0,none⟩)] trivial (enters_of Tryz.func180 (by kernel_rfl) rfl) _ _ (by rw [hsz]; exact Nat.le_trans hm (by decide)) (by rw [hsz]; omega) _ hseq
 refine ((callsIn_wide (n:=5)).1 cS).mono fun e w' ⟨v,ss,he',hS,hrow,_,hbel⟩=>?_
 have hS':ss.Perm (m.map (·.1)):=hS.trans hperm
 have el:ss.length=m.length:=by have:=hS'.length_eq; rw [List.length_map] at this; exact this
 have es':ss.mergeSort (fun x y=>decide (x≤y))=sortZ (m.map (·.1)):=mergeSort_of_perm_i hS'
 rw [es',el] at hrow
 have fr:Fr No w.heap w'.heap:=⟨hbel.size,fun k hk _=>hbel.block k hk⟩
 refine ⟨v,he',⟨hbel.os,hbel.tape,hbel.output⟩,?_⟩
 obtain ⟨hl,hrow⟩:=hrow
 rcases hrow with ⟨rfl,hz⟩|⟨gb,cap,cur,rfl,hbase,hgb,r1,r2,r3,r4⟩
 ·rw [hz] at hK
  refine hK none 0 w'.heap fr ⟨?_,rfl,rfl⟩
  rw [hz] at hl; exact hl
 ·refine hK _ cap w'.heap fr ⟨hl,rfl,hbase,⟨_,_,_,hgb,.inl rfl⟩,r1,?_,?_⟩
  ·have e:rd w'.heap gb=cur.toList:=by unfold rd; rw [hgb]
   show ((rd w'.heap gb).drop 0).take _=_
   rw [e,List.drop_zero,hl]; exact r4
  ·have e:rd w'.heap gb=cur.toList:=by unfold rd; rw [hgb]
   show 0+cap*1≤(rd w'.heap gb).length
   rw [e,Array.length_toList,r3]; omega
def TM.written (T:TM):List Int:=sortZ (T.put.map (·.1))
theorem Written_spec {h:Heap} {F:Nat→Prop} {t d:Option Addr} {T:TM} {K:Value→Heap→Prop} (x:Tx h F t d T) (hp:T.put.length≤1000000)
  (hK:∀ a l c h',Fr No h h'→l=T.put.length→Sl h' 1 a l c (T.written.map (.int .i64)) (From h.size)→K (.slice a l c) h'):C.txn_Txn_Written t h K:=by
 rcases x with ⟨col,r,rfl,X,hF⟩|⟨col,tb,rfl,X,hF⟩
 ·have elen:T.put.length=r.ps.length:=by rw [X.put,List.length_map]
  refine txn_Txn_Written.ok (os ⟨_,rda X.cell rfl,cf rfl (os ⟨_,rda X.cell rfl,?_⟩)⟩)
  refine maps_Keys_map_int_byte_int_byte.ok (New.intro fun h2 n2=>⟨_,rfl,?_⟩)
  obtain ⟨D,dk,_⟩:=Tx.dk (.inl ⟨col,r,rfl,X,hF⟩:Tx h F (some ⟨r.tb,0,none⟩) d T)
  have hmax:T.N≤16384:=dk.max.1
  refine Sorted_spec (f:=fun x:Sc×Txt=>x.1.v) (m:=r.ps) n2.rd (map_fr X.map n2.fr fun x=>x) (by omega) (fun p hp=>?_) fun a c h3 f3 s=>⟨_,_,_,rfl,?_⟩
  ·have:=X.pk (p.1,p.2.2) (by rw [X.put]; exact List.mem_map.mpr ⟨p,hp,rfl⟩)
   simp only at this
   omega
  ·have e:T.written=sortZ (r.ps.map (·.1)):=by
    unfold TM.written
    rw [X.put,List.map_map]; rfl
   rw [← e] at s
   exact hK a _ c h3 (n2.fr.no f3) elen.symm (s.mono fun b hb=>Nat.le_trans n2.fr.size hb)
 ·refine txn_Txn_Written.ok (os ⟨_,rda X.cell rfl,ct rfl ?_⟩)
  have e1:=X.gone.1
  have e:T.written=[]:=by unfold TM.written; rw [e1]; exact List.mergeSort_nil
  have hK:=hK none 0 0 h (Fr.refl _ _) (by rw [e1]; rfl)
  rw [e] at hK
  exact hK (Sl.nil _ _ _)
end Go.Proofs.YtiapingedfnlnaaGreatDoor.Tm
namespace Go.Proofs.YtiapingedfnlnaaGreatDoor.Di
open Go Go.Proofs Wx Hp W Ad Tm Bt Spc Av Ss
open Hd (ints)
open Fi (Ly Ib dirR)
open Bm (Z0 fresh_av)
open Sk (E nameOk)
theorem Dim150 : Dim 150:=⟨by decide,by decide⟩
theorem C150 : (geoN 150).count=16:=by decide
def T0 (L:Tm.Txt):TM:=⟨fresh (chunks L),[],[],false⟩
section
variable {h hh : Heap} {gb : Nat} {F : Nat → Prop} {L s : Tm.Txt} {t d : Option Addr} {n inode : Int} {K : Value → Heap → Prop}
theorem Names_none {T:TM} (s:Ly 150 h gb t d hh F T) (ep:T.put=[]) (hK:∀ h',Fr No h h'→K (.bool true) h'):C.txn_Txn_Written t hh fun r h'=>∃ (a:Option Addr) (l c:Nat),r = .slice a l c∧K (.bool ((l:Int) == 0)) h':=by
 refine Written_spec s.x (by rw [ep]; exact Nat.zero_le _) fun a l c h' f el _=>⟨_,_,_,rfl,?_⟩
 rw [ep] at el
 subst el
 exact hK h' (s.fr.no f)
theorem DirNames_k6 {h2:Heap} {T1 T2:TM} (y:Ly 150 h h2.size t d hh F T1) (u1:T1.undo.length≤1000) (e1:findD T1 (geoN 150) n s=(5,0)) (e2:removeD T1 (geoN 150) n s=(T2,5,0)) (e3:findD T2 (geoN 150) n s=(0,160)) (hK:∀ h',Fr No h h'→K (.bool true) h') :
  bolelaw15_DirNames.k6 (mkStr s) n h2 t hh K:=by
 refine ⟨(geoN 150).v,rfl,cellsAll y.rg,Find_spec (n:=150) y.glo Dim150 y.x fun h25 f25=>⟨_,_,rfl,?_⟩⟩
 have y25:=y.no f25
 rw [e1]
 refine ⟨(geoN 150).v,rfl,cellsAll y25.rg,Remove_spec (n:=150) y25.glo Dim150 y25.x (by omega) fun h26 F26 f26 g26 x26=>⟨_,_,rfl,?_⟩⟩
 rw [e2] at x26 ⊢
 have y26:=y25.call f26 g26 x26
 refine ⟨(geoN 150).v,rfl,cellsAll y26.rg,Find_spec (n:=150) y26.glo Dim150 y26.x fun h27 f27=>⟨_,_,rfl,?_⟩⟩
 have e3':findD (T2,(5:Int),(0:Int)).1 (geoN 150) n s=(0,160):=e3
 rw [e3']
 exact ct rfl (ct rfl (ct rfl (ct rfl (hK h27 (y26.fr.no f27)))))
theorem DirNames_k5 {h2:Heap} {T T1 T2:TM} (y:Ly 150 h h2.size t d hh F T) (u:T.undo.length≤100) (u1:T1.undo.length≤1000) (ea:addD T (geoN 150) n s 5=(T1,0)) (eb:addD T1 (geoN 150) n s 6=(T1,150)) (e1:findD T1 (geoN 150) n s=(5,0)) (e2:removeD T1 (geoN 150) n s=(T2,5,0)) (e3:findD T2 (geoN 150) n s=(0,160)) (hK:∀ h',Fr No h h'→K (.bool true) h') :
  bolelaw15_DirNames.k5 (mkStr s) n h2 t hh K:=by
 refine ⟨(geoN 150).v,rfl,cellsAll y.rg,Add_spec (n:=150) y.glo Dim150 y.x y.g0 (by omega) fun h22 F22 f22 g22 x22=>⟨_,rfl,?_⟩⟩
 rw [ea] at x22 ⊢
 have y22:=y.call f22 g22 x22
 refine cn (fun y=>absurd rfl y) fun _=>⟨(geoN 150).v,rfl,cellsAll y22.rg,Add_spec (n:=150) y22.glo Dim150 y22.x y22.g0 (by show T1.undo.length<_; omega) fun h23 F23 f23 g23 x23=>⟨_,rfl,?_⟩⟩
 have eb':addD (T1,(0:Int)).1 (geoN 150) n s 6=(T1,150):=eb
 rw [eb'] at x23 ⊢
 exact cn (fun y=>absurd rfl y) fun _=>DirNames_k6 (y22.call f23 g23 x23) u1 e1 e2 e3 hK
theorem DirNames_k4 {h2:Heap} (I:Ib 150 (recsD.flatMap In.encR) (4096*((geoN 150).inodes - 98)) L) (y:Ly 150 h h2.size t d hh F (T0 L)) (ok:nameOk s=true) (hK:∀ h',Fr No h h'→K (.bool true) h') :
  bolelaw15_DirNames.k4 (mkStr s) n h2 t hh (if n=3 then 161 else 110) K:=by
 have hc:=C150
 obtain ⟨f0,fr0⟩:=dd0 Dim150 (by decide) I
 have hd:(geoN 150).data=101:=by decide
 refine cn (fun n1=>cn (fun n2=>?_) fun n2=>?_) fun n1=>?_
 ·have eo:=open_want Dim150 (by decide) I n1 n2
  have wn:(if n=3 then (161:Int) else 110)≠0:=by split <;> decide
  generalize (if n=3 then (161:Int) else 110)=w at eo wn ⊢
  have eo:(openM (T0 L) (geoN 150) n).2=w:=eo
  obtain ⟨e1,e2,e3,e4,e5⟩:=bad_dir (i:=1) (s:=s) ok eo wn (by rw [hasI_iff,hc]; exact ⟨by decide,by decide⟩)
  have u0:(T0 L).undo.length=0:=rfl
  refine ⟨(geoN 150).v,rfl,cellsAll y.rg,Find_spec (n:=150) y.glo Dim150 y.x fun h14 f14=>⟨_,_,rfl,?_⟩⟩
  have y14:=y.no f14
  rw [e1]
  refine ⟨(geoN 150).v,rfl,cellsAll y14.rg,Remove_spec (n:=150) y14.glo Dim150 y14.x (by omega) fun h15 F15 f15 g15 x15=>⟨_,_,rfl,?_⟩⟩
  rw [e2] at x15 ⊢
  have y15:Ly 150 h h2.size t d h15 F15 (T0 L):=y14.call f15 g15 x15
  refine ⟨(geoN 150).v,rfl,cellsAll y15.rg,Replace_spec (n:=150) y15.glo Dim150 y15.x (by omega) fun h16 F16 f16 g16 x16=>⟨_,_,rfl,?_⟩⟩
  rw [e3] at x16 ⊢
  have y16:Ly 150 h h2.size t d h16 F16 (T0 L):=y15.call f16 g16 x16
  refine ⟨(geoN 150).v,rfl,cellsAll y16.rg,List_spec (n:=150) y16.glo Dim150 y16.x fun h17 a l c f17 hl Z=>⟨_,_,_,_,rfl,?_⟩⟩
  have y17:=y16.no f17
  rw [e4]
  refine ⟨(geoN 150).v,rfl,cellsAll y17.rg,Size_spec (n:=150) y17.glo Dim150 y17.x fun h18 f18=>⟨_,_,rfl,?_⟩⟩
  have y18:=y17.no f18
  rw [e4]
  refine ce (fun _=>ce (fun _=>ce (fun _=>ce (fun _=>ce (fun _=>?_) fun y=>absurd rfl y) fun y=>absurd rfl y) fun y=>absurd rfl y) fun y=>absurd rfl y) fun y=>absurd rfl y
  refine ⟨(geoN 150).v,rfl,cellsAll y18.rg,Add_spec (n:=150) y18.glo Dim150 y18.x y18.g0 (by omega) fun h19 F19 f19 g19 x19=>⟨_,rfl,?_⟩⟩
  rw [e5] at x19 ⊢
  have y19:Ly 150 h h2.size t d h19 F19 (T0 L):=y18.call f19 g19 x19
  exact ce (fun _=>Names_none y19 rfl hK) fun y=>absurd rfl y
 ·subst n2
  obtain ⟨T1,T2,e1,e2,e3,e4,e5,u1⟩:=name_once Dim150 f0.sym (by show 0+_<60; omega) (by omega) (by omega) ok
  have u1:T1.undo.length≤0+20:=u1
  exact DirNames_k5 y (Nat.zero_le _) (by omega) e1 e2 e3 e4 e5 hK
 ·subst n1
  obtain ⟨T1,T2,e1,e2,e3,e4,e5,u1⟩:=name_once Dim150 f0 (by show 0+_<60; omega) (by omega) (by omega) ok
  have u1:T1.undo.length≤0+20:=u1
  exact DirNames_k5 y (Nat.zero_le _) (by omega) e1 e2 e3 e4 e5 hK
theorem DirNames_k2 {h2:Heap} {bad:Int} (I:Ib 150 (recsD.flatMap In.encR) (4096*((geoN 150).inodes - 98)) L) (y:Ly 150 h h2.size t d hh F (T0 L)) (ok:nameOk s=true) (hb:hasI (geoN 150) bad=false) (hK:∀ h',Fr No h h'→K (.bool true) h') :
  bolelaw15_DirNames.k2 (mkStr s) n h2 t hh bad K:=by
 obtain ⟨e1,e2⟩:=bad_inode (T:=T0 L) (n:=n) ok hb
 have u0:(T0 L).undo.length=0:=rfl
 refine ⟨(geoN 150).v,rfl,cellsAll y.rg,Replace_spec (n:=150) y.glo Dim150 y.x (by omega) fun h11 F11 f11 g11 x11=>⟨_,_,rfl,?_⟩⟩
 rw [e1] at x11 ⊢
 have y11:Ly 150 h h2.size t d h11 F11 (T0 L):=y.call f11 g11 x11
 refine cn (fun y=>absurd rfl y) fun _=>⟨(geoN 150).v,rfl,cellsAll y11.rg,Add_spec (n:=150) y11.glo Dim150 y11.x y11.g0 (by omega) fun h12 F12 f12 g12 x12=>⟨_,rfl,?_⟩⟩
 rw [e2] at x12 ⊢
 have y12:Ly 150 h h2.size t d h12 F12 (T0 L):=y11.call f12 g12 x12
 refine cn (fun y=>absurd rfl y) fun _=>ce (fun e3=>?_) fun e3=>?_
 ·have:=DirNames_k4 (n:=n) I y12 ok hK
  rw [if_pos e3] at this; exact this
 ·have:=DirNames_k4 (n:=n) I y12 ok hK
  rw [if_neg e3] at this; exact this
theorem has_not {i:Int} (h:¬ (1≤i∧i<16)):hasI (geoN 150) i=false:=by
 cases e:hasI (geoN 150) i with
 | false=>rfl
 | true=>rw [hasI_iff,C150] at e; exact absurd e h
theorem DirNames_k1 {h2:Heap} (I:Ib 150 (recsD.flatMap In.encR) (4096*((geoN 150).inodes - 98)) L) (y:Ly 150 h h2.size t d hh F (T0 L)) (hs:s.length≤1000000000000000000) {good:Bool} (hg:nameOk s=(good && s.all fun b=>b != 47 && b != 0)) (hK:∀ h',Fr No h h'→K (.bool true) h') :
  bolelaw15_DirNames.k1 (mkStr s) n inode h2 t hh good K:=by
 have hsz:(mkStr s).size=s.length:=rfl
 unfold bolelaw15_DirNames.k1
 rw [hsz,toList_mkStr]
 refine ⟨fun g i hx=>∃ q:Nat,i=q∧q≤s.length∧hx=hh∧nameOk s=(g && (s.drop q).all fun b=>b != 47 && b != 0),fun _ i _=>((s.length:Int) - i).toNat,⟨0,rfl,Nat.zero_le _,rfl,by rw [List.drop_zero]; exact hg⟩,?_⟩
 rintro g i h5 ⟨q,rfl,hq,rfl,e⟩
 refine cd (fun hlt=>?_) fun hge=>?_
 ·have hlt:q<s.length:=by omega
  rw [List.drop_eq_getElem_cons hlt,List.all_cons] at e
  have next:∀ g':Bool,nameOk s=(g' && (s.drop (q+1)).all fun b=>b != 47 && b != 0)→(∃ p:Nat,IntKind.wrap .i64 ((q:Int)+1)=p∧p≤s.length∧h5=h5∧nameOk s=(g' && (s.drop p).all fun b=>b != 47 && b != 0))∧((s.length:Int) - IntKind.wrap .i64 ((q:Int)+1)).toNat<((s.length:Int) - (q:Int)).toNat:=fun g' e'=>by
   rw [wrap_i64 (by omega) (by omega)]
   exact ⟨⟨q+1,by omega,by omega,rfl,e'⟩,by omega⟩
  have gq:s[(q:Int).toNat]?=some s[q]:=by rw [Int.toNat_natCast]; exact List.getElem?_eq_getElem hlt
  have ne:∀ m:Nat,m<256→(((s[q].toNat:Nat):Int) != (m:Int))=(s[q] != UInt8.ofNat m):=fun m hm=>by
   have:s[q].toNat=m↔s[q]=UInt8.ofNat m:=⟨fun y=>by rw [← y]; exact (UInt8.ofNat_toNat).symm,fun y=>by rw [y,UInt8.toNat_ofNat']; omega⟩
   by_cases y:s[q]=UInt8.ofNat m
   ·rw [show ((s[q].toNat:Nat):Int)=(m:Int) from congrArg _ (this.mpr y),y]; simp
   ·have:¬ ((s[q].toNat:Nat):Int)=(m:Int):=fun z=>y (this.mp (by omega))
    rw [bne_iff_ne.mpr y,bne_iff_ne.mpr this]
  refine cs (fun hg=>?_) fun hg=>?_
  ·subst hg
   rw [Bool.true_and] at e
   refine ⟨⟨by omega,by omega⟩,_,gq,?_⟩
   rw [show (47:Int)=((47:Nat):Int) from rfl,ne 47 (by decide)]
   refine cs (fun h47=>⟨⟨by omega,by omega⟩,_,gq,?_⟩) fun h47=>next false ?_
   ·have h47:(s[q] != 47)=true:=h47
    rw [h47,Bool.true_and] at e
    rw [show (0:Int)=((0:Nat):Int) from rfl,ne 0 (by decide)]
    exact next _ e
   ·have h47:(s[q] != 47)=false:=h47
    rw [h47,Bool.false_and,Bool.false_and] at e
    exact e
  ·subst hg
   rw [Bool.false_and] at e
   exact next false (by rw [Bool.false_and]; exact e)
 ·rw [List.drop_of_length_le (by omega),List.all_nil,Bool.and_true] at e
  have u0:(T0 L).undo.length=0:=rfl
  refine cnot (cs (fun hg=>?_) fun hg=>?_)
  ·subst hg
   have c4:cellOf h5 (Addr.add ⟨h2.size,0,none⟩ 4)=some (.int .i64 (geoN 150).count):=rda y.rg rfl
   have hc:=C150
   refine cd (fun h1=>⟨_,c4,cd (fun h2=>?_) fun h2=>?_⟩) fun h1=>?_
   ·rw [wrap_i64 (show -9223372036854775808≤0 - inode by omega) (by omega)]
    exact DirNames_k2 I y e (has_not (by omega)) hK
   ·exact DirNames_k2 I y e (has_not (by omega)) hK
   ·exact DirNames_k2 I y e (has_not (by omega)) hK
  ·subst hg
   obtain ⟨e1,e2,e3,e4⟩:=bad_name (T:=T0 L) (g:=geoN 150) (n:=n) (i:=inode) e
   refine ⟨(geoN 150).v,rfl,cellsAll y.rg,Find_spec (n:=150) y.glo Dim150 y.x fun h6 f6=>⟨_,_,rfl,?_⟩⟩
   have y6:=y.no f6
   rw [e1]
   refine ⟨(geoN 150).v,rfl,cellsAll y6.rg,Remove_spec (n:=150) y6.glo Dim150 y6.x (by omega) fun h7 F7 f7 g7 x7=>⟨_,_,rfl,?_⟩⟩
   rw [e2] at x7 ⊢
   have y7:Ly 150 h h2.size t d h7 F7 (T0 L):=y6.call f7 g7 x7
   refine ⟨(geoN 150).v,rfl,cellsAll y7.rg,Replace_spec (n:=150) y7.glo Dim150 y7.x (by omega) fun h8 F8 f8 g8 x8=>⟨_,_,rfl,?_⟩⟩
   rw [e3] at x8 ⊢
   have y8:Ly 150 h h2.size t d h8 F8 (T0 L):=y7.call f8 g8 x8
   refine ct rfl (ct rfl (ct rfl ⟨(geoN 150).v,rfl,cellsAll y8.rg,Add_spec (n:=150) y8.glo Dim150 y8.x y8.g0 (by omega) fun h9 F9 f9 g9 x9=>⟨_,rfl,?_⟩⟩))
   rw [e4] at x9 ⊢
   have y9:Ly 150 h h2.size t d h9 F9 (T0 L):=y8.call f9 g9 x9
   exact ct rfl (Names_none y9 rfl hK)
theorem DirNames_spec (gl:In.Glo h) (hs:s.length≤1000000000000000000) (hK:∀ h',Fr No h h'→K (.bool true) h'):C.bolelaw15_DirNames (mkStr s) n inode h K:=by
 have hsz:(mkStr s).size=s.length:=rfl
 refine bolelaw15_DirNames.ok ?_
 show C.bolelaw15_fresh ((150:Nat):Int) h _
 refine fresh_spec gl Dim150 (by decide) fun tb dd F L h2 f2 x2 I lowF=>⟨_,_,rfl,NewRow.intro rfl (G.one _) rfl fun h4 n4=>cf rfl ?_⟩
 have z2:=f2.size
 have z4:=n4.size
 have y4:Ly 150 h h2.size (some ⟨tb,0,none⟩) dd h4 F (T0 L):=⟨f2.new n4,gl,z2,n4.rd,x2.no n4.fr,fun y=>by have:=x2.lt y; omega,lowF⟩
 simp only [toList_mkStr,hsz]
 have go:∀ g:Bool,nameOk s=(g && s.all fun b=>b != 47 && b != 0)→bolelaw15_DirNames.k1 (mkStr s) n inode h2 (some ⟨tb,0,none⟩) h4 g K:=fun g e=>DirNames_k1 I y4 hs e hK
 refine cd (fun h1=>cd (fun h27=>cs (fun hd=>go _ ?_) fun hd=>go _ ?_) fun h27=>go _ ?_) fun h1=>go _ ?_
 ·unfold nameOk
  rw [decide_eq_true (by omega),decide_eq_true (by omega)]
  have:(s != [46])=true:=hd
  rw [this,Bool.true_and,Bool.true_and,Bool.true_and]; rfl
 ·unfold nameOk
  have:(s != [46])=false:=hd
  rw [this]; simp only [Bool.and_false,Bool.false_and]
 ·unfold nameOk
  rw [decide_eq_false (p:=s.length≤27) (by omega)]; simp only [Bool.and_false,Bool.false_and]
 ·unfold nameOk
  rw [decide_eq_false (p:=1≤s.length) (by omega)]; simp only [Bool.and_false,Bool.false_and]
end
end Go.Proofs.YtiapingedfnlnaaGreatDoor.Di
