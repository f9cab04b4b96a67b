/-
  TEXTS FOR dirPlain_card: StA StB StC DwD DwG DwH DwI.
-/
import Derived.WalkKit
import Derived.LoopTactic
import Derived.StillTailTactics
import Derived.Deep.QuietTactic
import Derived.BigQuiet
import Derived.Sort.Grow
import Derived.Lib.Bytealg
import Derived.Shelf.SlSortCmp.WholeK
import Derived.Shelf.SlSortCmp.NoneTotal
import Derived.Test.YtiapingedfnlnaaGreatDoorGp5
namespace Go.Proofs
open Go Go.RowKit Go.Sort
theorem Tryz.nanS (a:ByteArray) (w:World):Calls Tryz.prog 148 #[.string a] w fun e w'=>e = .returned (.bool false)∧w'=w:=by
 go_enter Tryz.func148,Tryz.ntmps148
 go_wp2
 go_ret
 exact ⟨rfl,rfl⟩
theorem Tryz.nanI (a:Int) (w:World):Calls Tryz.prog 149 #[.int .i64 a] w fun e w'=>e = .returned (.bool false)∧w'=w:=by
 go_enter Tryz.func149,Tryz.ntmps149
 go_wp2
 go_ret
 exact ⟨rfl,rfl⟩
def cmpZ (a b:Int):Int:=if a<b then -1 else if a>b then 1 else 0
theorem Tryz.cmpI (a b:Int) (w:World):Calls Tryz.prog 82 #[.int .i64 a,.int .i64 b] w fun e w'=>e = .returned (.int .i64 (cmpZ a b))∧w'=w:=by
 have h1:a<b→cmpZ a b = -1:=fun h=>by unfold cmpZ; rw [if_pos h]
 have h2:b<a→cmpZ a b=1:=fun h=>by unfold cmpZ; rw [if_neg (by omega),if_pos h]
 have h3:a≤b→b≤a→cmpZ a b=0:=fun h k=>by unfold cmpZ; rw [if_neg (by omega),if_neg (by omega)]
 generalize cmpZ a b=r at h1 h2 h3 ⊢
 go_enter Tryz.func82,Tryz.ntmps82
 go_wp2_with (go_at_call 149; refine (Tryz.nanI _ _).mono ?_; rintro e w' ⟨rfl,rfl⟩)
 ·go_ret
  rw [h1 (by assumption)]; exact ⟨rfl,rfl⟩
 ·go_ret
  rw [h2 (by assumption)]; exact ⟨rfl,rfl⟩
 ·go_ret
  rw [h3 (by assumption) (by assumption)]; exact ⟨rfl,rfl⟩
def cmpT (a b:ByteArray):Int:=if Op.bytesLess a.toList b.toList=true then -1 else if (!(Op.bytesLess a.toList b.toList || a.toList == b.toList))=true then 1 else 0
theorem Tryz.gtrS (a b:ByteArray) (w:World):(binOp .gtr 9 (.string a) (.string b)).run Tryz.prog w = .ok (.bool (!(Op.bytesLess a.toList b.toList || a.toList == b.toList))) w:=by
 simp [go_sem,binOp,Op.stringOp]
theorem Tryz.cmpS (a b:ByteArray) (w:World):Calls Tryz.prog 81 #[.string a,.string b] w fun e w'=>e = .returned (.int .i64 (cmpT a b))∧w'=w:=by
 have hg:=Tryz.gtrS a b
 have h1:Op.bytesLess a.toList b.toList=true→cmpT a b = -1:=fun h=>by unfold cmpT; rw [if_pos h]
 have h2:Op.bytesLess a.toList b.toList=false→(!(Op.bytesLess a.toList b.toList || a.toList == b.toList))=true→cmpT a b=1:=fun h k=>by unfold cmpT; rw [if_neg (by rw [h]; decide),if_pos k]
 have h3:Op.bytesLess a.toList b.toList=false→(!(Op.bytesLess a.toList b.toList || a.toList == b.toList))=false→cmpT a b=0:=fun h k=>by unfold cmpT; rw [if_neg (by rw [h]; decide),if_neg (by rw [k]; decide)]
 generalize cmpT a b=r at h1 h2 h3 ⊢
 generalize (!(Op.bytesLess a.toList b.toList || a.toList == b.toList))=g at hg h2 h3
 go_enter Tryz.func81,Tryz.ntmps81
 go_wp2_with (go_at_call 148; refine (Tryz.nanS _ _).mono ?_; rintro e w' ⟨rfl,rfl⟩)
 ·go_ret
  rw [h1 (by assumption)]; exact ⟨rfl,rfl⟩
 ·go_ret
  rw [h2 (by assumption) (by assumption)]; exact ⟨rfl,rfl⟩
 ·go_ret
  rw [h3 (by assumption) (by assumption)]; exact ⟨rfl,rfl⟩
theorem Tryz.orI (a b:Int) (blk:Nat) (w:World) (ha:w.cell? ⟨blk,0,none⟩=some (.int .i64 a)) (hb:w.cell? ⟨blk,1,none⟩=some (.int .i64 b)):Calls Tryz.prog 80 #[.slice (some ⟨blk,0,none⟩) 2 2] w fun e w'=>e = .returned (.int .i64 (if a=0 then b else a))∧w'=w:=by
 have g1:(a != 0)=true→(if a=0 then b else a)=a:=fun h=>if_neg (by simpa using h)
 have g2:a=0→(if a=0 then b else a)=b:=fun h=>if_pos h
 generalize (if a=0 then b else a)=r at g1 g2 ⊢
 go_enter Tryz.func80,Tryz.ntmps80
 go_wp2
 go_loop [8] (fun i=>i = .int .i64 0∨(i = .int .i64 1∧(a != 0)=false)∨(i = .int .i64 2∧(a != 0)=false∧(b != 0)=false)) (fun i=>2 - (intOf i).toNat)
 case atStart=>exact .inl rfl
 case round =>
  rcases hrel with rfl|⟨rfl,h0⟩|⟨rfl,h0,h1⟩
  ·go_wp2
   ·go_ret
    first|exact ⟨rfl,rfl⟩|(rw [g1 (by assumption)]; exact ⟨rfl,rfl⟩)
   ·go_round
    case rel=>exact .inr (.inl ⟨rfl,by assumption⟩)
    case measure=>simp [intOf]
  ·go_wp2
   ·go_ret
    first|exact ⟨rfl,rfl⟩|(rw [g2 (by simpa using h0)]; exact ⟨rfl,rfl⟩)
   ·go_round
    case rel=>exact .inr (.inr ⟨rfl,h0,by assumption⟩)
    case measure=>simp [intOf]
  ·go_wp2
   go_ret
   have e:b=0:=by simpa using h1
   first|exact ⟨rfl,rfl⟩|(rw [g2 (by simpa using h0),e]; exact ⟨rfl,rfl⟩)
theorem new_cell0 (w:World) (a b:Int) (t:Nat):(w.alloc (Obj.cells #[.int .i64 a,.int .i64 b] t)).cell? ⟨w.heap.size,0,none⟩=some (.int .i64 a):=by
 show (match (w.heap.push (Obj.cells #[.int .i64 a,.int .i64 b] t))[w.heap.size]? with
  | some (.cells c _ _)=>if (none:Option Nat).isSome then none else c[0]?
  | _=>none)=_
 rw [Array.getElem?_push,if_pos rfl]; rfl
theorem new_cell1 (w:World) (a b:Int) (t:Nat):(w.alloc (Obj.cells #[.int .i64 a,.int .i64 b] t)).cell? ⟨w.heap.size,1,none⟩=some (.int .i64 b):=by
 show (match (w.heap.push (Obj.cells #[.int .i64 a,.int .i64 b] t))[w.heap.size]? with
  | some (.cells c _ _)=>if (none:Option Nat).isSome then none else c[1]?
  | _=>none)=_
 rw [Array.getElem?_push,if_pos rfl]; rfl
set_option maxRecDepth 100000 in
set_option maxHeartbeats 1600000 in
theorem Tryz.clo (p1 i1 p2 i2:Int) (s1 s2:ByteArray) (W:World):Calls Tryz.prog 79 #[.agg #[.int .i64 p1,.string s1,.int .i64 i1],.agg #[.int .i64 p2,.string s2,.int .i64 i2]] W fun e w'=>e = .returned (.int .i64 (if cmpT s1 s2=0 then cmpZ p1 p2 else cmpT s1 s2))∧∃ q os',w'=grow (W.drewN q) os':=by
 have hS:=fun W'=>Tryz.cmpS s1 s2 W'
 have hI:=fun W'=>Tryz.cmpI p1 p2 W'
 generalize cmpT s1 s2=r1 at hS ⊢
 generalize cmpZ p1 p2=r2 at hI ⊢
 have hO:=fun W' h1 h2=>Tryz.orI r1 r2 (World.heap W').size (W'.alloc (Obj.cells #[.int .i64 r1,.int .i64 r2] 3)) h1 h2
 generalize (if r1=0 then r2 else r1)=r at hO ⊢
 go_enter Tryz.func79,Tryz.ntmps79
 go_wp2
 generalize hw1:(W.alloc (Obj.cells #[Value.int IntKind.i64 p1,Value.string s1,Value.int IntKind.i64 i1] 113)).alloc (Obj.cells #[Value.int IntKind.i64 p2,Value.string s2,Value.int IntKind.i64 i2] 113)=w1
 have e1:w1=grow W #[Obj.cells #[Value.int IntKind.i64 p1,Value.string s1,Value.int IntKind.i64 i1] 113,Obj.cells #[Value.int IntKind.i64 p2,Value.string s2,Value.int IntKind.i64 i2] 113]:=by
  rw [← hw1,alloc_eq_grow,alloc_eq_grow,grow_grow]; rfl
 have c10:w1.drew.cell? ⟨W.heap.size,0,none⟩=some (.int .i64 p1):=by rw [e1]; simp [World.cell?,World.drew,grow]
 have c11:w1.drew.cell? ⟨W.heap.size,1,none⟩=some (.string s1):=by rw [e1]; simp [World.cell?,World.drew,grow]
 have c20:w1.drew.cell? ⟨W.heap.size+1,0,none⟩=some (.int .i64 p2):=by rw [e1]; simp [World.cell?,World.drew,grow]
 have c21:w1.drew.cell? ⟨W.heap.size+1,1,none⟩=some (.string s2):=by rw [e1]; simp [World.cell?,World.drew,grow]
 clear hw1
 refine wp_region_still_tail 10 (by kernel_rfl) (by kernel_rfl) ?_
 simp only [List.take_succ_cons,List.take_zero,List.drop_succ_cons,List.drop_zero,World.drew_eq]
 generalize hw2:w1.drew=w2 at c10 c11 c20 c21 ⊢
 generalize W.heap.size=n1 at c10 c11 c20 c21 ⊢
 still_step
 still_step
 still_step
 still_step
 still_call (hS _)
 still_step
 still_step
 still_step
 still_step
 still_call (hI _)
 refine wpStill_nil ?_
 go_wp2_with (go_at_call 80; refine (hO w2 (new_cell0 _ _ _ _) (new_cell1 _ _ _ _)).mono ?_; rintro e w' ⟨rfl,rfl⟩)
 ·go_ret
  refine ⟨rfl,1,#[Obj.cells #[Value.int IntKind.i64 p1,Value.string s1,Value.int IntKind.i64 i1] 113,Obj.cells #[Value.int IntKind.i64 p2,Value.string s2,Value.int IntKind.i64 i2] 113] ++ #[Obj.cells #[Value.int IntKind.i64 r1,Value.int IntKind.i64 r2] 3],?_⟩
  rw [alloc_eq_grow,← hw2,e1,← grow_grow]
  rfl
end Go.Proofs
namespace Go.Proofs
open Go Go.Shelf
def Tryz.sortE_ren : Go.Shelf.Ren:=⟨fun|6=>78|15=>147|14=>146|28=>222|29=>223|20=>214|21=>215|22=>216|23=>217|24=>218|25=>219|26=>220|27=>221|46=>278|47=>279|48=>280|49=>281|50=>282|57=>314|n=>n,fun|22=>41|24=>113|25=>167|3=>3|39=>78|0=>0|53=>325|55=>257|4=>4|46=>318|45=>317|50=>322|5=>5|9=>9|66=>374|70=>369|76=>398|77=>399|n=>n,fun n=>n⟩
theorem Tryz.sortE : SlLaysF0.n6 Tryz.prog Tryz.sortE_ren where
 mixed:=by kernel_rfl
 f6 := ⟨ "slices.SortFunc[[]bole/api.Entry,bole/api.Entry]", by decide, Tryz.func78.trans (congrArg some (by kernel_rfl))⟩
 f14 := ⟨ "slices.pdqsortCmpFunc[bole/api.Entry]", by decide, Tryz.func146.trans (congrArg some (by kernel_rfl))⟩
 f15:=Tryz.func147.trans (congrArg some (by kernel_rfl))
 f20 := ⟨ "slices.insertionSortCmpFunc[bole/api.Entry]", by decide, Tryz.func214.trans (congrArg some (by kernel_rfl))⟩
 f21 := ⟨ "slices.heapSortCmpFunc[bole/api.Entry]", by decide, Tryz.func215.trans (congrArg some (by kernel_rfl))⟩
 f22 := ⟨ "slices.breakPatternsCmpFunc[bole/api.Entry]", by decide, Tryz.func216.trans (congrArg some (by kernel_rfl))⟩
 f23 := ⟨ "slices.choosePivotCmpFunc[bole/api.Entry]", by decide, Tryz.func217.trans (congrArg some (by kernel_rfl))⟩
 f24 := ⟨ "slices.reverseRangeCmpFunc[bole/api.Entry]", by decide, Tryz.func218.trans (congrArg some (by kernel_rfl))⟩
 f25 := ⟨ "slices.partialInsertionSortCmpFunc[bole/api.Entry]", by decide, Tryz.func219.trans (congrArg some (by kernel_rfl))⟩
 f26 := ⟨ "slices.partitionEqualCmpFunc[bole/api.Entry]", by decide, Tryz.func220.trans (congrArg some (by kernel_rfl))⟩
 f27 := ⟨ "slices.partitionCmpFunc[bole/api.Entry]", by decide, Tryz.func221.trans (congrArg some (by kernel_rfl))⟩
 f28:=Tryz.func222.trans (congrArg some (by kernel_rfl))
 f29:=Tryz.func223.trans (congrArg some (by kernel_rfl))
 f46 := ⟨ "slices.siftDownCmpFunc[bole/api.Entry]", by decide, Tryz.func278.trans (congrArg some (by kernel_rfl))⟩
 f47:=Tryz.func279.trans (congrArg some (by kernel_rfl))
 f48:=Tryz.func280.trans (congrArg some (by kernel_rfl))
 f49 := ⟨ "slices.medianAdjacentCmpFunc[bole/api.Entry]", by decide, Tryz.func281.trans (congrArg some (by kernel_rfl))⟩
 f50 := ⟨ "slices.medianCmpFunc[bole/api.Entry]", by decide, Tryz.func282.trans (congrArg some (by kernel_rfl))⟩
 f57 := ⟨ "slices.order2CmpFunc[bole/api.Entry]", by decide, Tryz.func314.trans (congrArg some (by kernel_rfl))⟩
 t0:=Tryz.underlying0
 a0:=Tryz.isAgg0
 z0:=Tryz.sizeOf0
 v0:=Tryz.zeroValue0
 t3:=Tryz.underlying3
 a3:=Tryz.isAgg3
 z3:=Tryz.sizeOf3
 v3:=Tryz.zeroValue3
 t4:=Tryz.underlying4
 a4:=Tryz.isAgg4
 z4:=Tryz.sizeOf4
 v4:=Tryz.zeroValue4
 t5:=Tryz.underlying5
 a5:=Tryz.isAgg5
 z5:=Tryz.sizeOf5
 v5:=Tryz.zeroValue5
 t9:=Tryz.underlying9
 a9:=Tryz.isAgg9
 z9:=Tryz.sizeOf9
 v9:=Tryz.zeroValue9
 t22:=Tryz.underlying41
 a22:=Tryz.isAgg41
 z22:=Tryz.sizeOf41
 v22:=Tryz.zeroValue41
 t25:=Tryz.underlying167
 a25:=Tryz.isAgg167
 z25:=Tryz.sizeOf167
 v25:=Tryz.zeroValue167
 t39:=Tryz.underlying78
 a39:=Tryz.isAgg78
 z39:=Tryz.sizeOf78
 v39:=Tryz.zeroValue78
 t45:=Tryz.underlying317
 a45:=Tryz.isAgg317
 z45:=Tryz.sizeOf317
 v45:=Tryz.zeroValue317
 t46:=Tryz.underlying318
 a46:=Tryz.isAgg318
 z46:=Tryz.sizeOf318
 v46:=Tryz.zeroValue318
 t50:=Tryz.underlying322
 a50:=Tryz.isAgg322
 z50:=Tryz.sizeOf322
 v50:=Tryz.zeroValue322
 t53:=Tryz.underlying325
 a53:=Tryz.isAgg325
 z53:=Tryz.sizeOf325
 v53:=Tryz.zeroValue325
 t55:=Tryz.underlying257
 a55:=Tryz.isAgg257
 z55:=Tryz.sizeOf257
 v55:=Tryz.zeroValue257
 t66:=Tryz.underlying374
 a66:=Tryz.isAgg374
 z66:=Tryz.sizeOf374
 v66:=Tryz.zeroValue374
 t70:=Tryz.underlying369
 a70:=Tryz.isAgg369
 z70:=Tryz.sizeOf369
 v70:=Tryz.zeroValue369
 t76:=Tryz.underlying398
 a76:=Tryz.isAgg398
 z76:=Tryz.sizeOf398
 v76:=Tryz.zeroValue398
 t77:=Tryz.underlying399
 a77:=Tryz.isAgg399
 z77:=Tryz.sizeOf399
 v77:=Tryz.zeroValue399
end Go.Proofs
namespace Go.Proofs.YtiapingedfnlnaaGreatDoor.Di
open Go Go.Proofs Wx Hp W Re Ss
open Sk (E)
open Go.Op (bytesLess)
instance : Inhabited E:=⟨⟨0,[],0⟩⟩
def cfE (x y:E):Int:=if cmpT (mkStr x.name) (mkStr y.name)=0 then cmpZ x.place y.place else cmpT (mkStr x.name) (mkStr y.name)
theorem cfE_lt (x y:E):ltOf cfE x y=ltE x y:=by
 unfold ltOf cfE cmpT cmpZ ltE
 rw [toList_mkStr,toList_mkStr]
 cases hb:bytesLess x.name y.name with
 | true=>rfl
 | false =>
  by_cases e:x.name=y.name
  ·have e':(x.name == y.name)=true:=by rw [beq_iff_eq]; exact e
   rw [e']
   by_cases p:x.place<y.place
   ·rw [if_pos p,decide_eq_true p]; rfl
   ·rw [if_neg p,decide_eq_false p]
    by_cases q:x.place>y.place
    ·rw [if_pos q]; rfl
    ·rw [if_neg q]; rfl
  ·have e':(x.name == y.name)=false:=by rw [beq_eq_false_iff_ne]; exact e
   rw [e']; rfl
theorem swoE : Go.Sort.SWO (ltOf cfE) where
 irrefl x:=by rw [cfE_lt,ltE_irr]
 trans x y z h1 h2:=by rw [cfE_lt] at *; exact ltE_trans h1 h2
 ntrans x y z h1 h2:=by
  rw [cfE_lt] at *
  cases q:ltE x z with
  | false=>rfl
  | true =>
   exfalso
   cases r:ltE y x with
   | true=>rw [ltE_trans r q] at h2; cases h2
   | false =>
    obtain ⟨e1,e2⟩:=ltE_tri h1 r
    unfold ltE at q h2
    rw [e1,e2] at q
    rw [q] at h2; cases h2
theorem flat_at {es:List E} {j:Nat} (hj:j<es.length*3):(es.flatMap E.v)[j]?=(E.v (es[j / 3]'(by omega)))[j % 3]?:=by
 have p:=flat_part E.v 3 es (fun x _=>E.len x) (j / 3) (by omega)
 rw [← p,List.getElem?_take,if_pos (by omega),List.getElem?_drop]
 congr 1; omega
theorem flat_K {d:Array E} {j:Nat} (hj:j<d.size*3):(d.toList.flatMap E.v)[j]?=some ((Go.Sort.flatK E.v 3 d)[j]!):=by
 have h3:j / 3<d.size:=by omega
 rw [flat_at (by rw [Array.length_toList]; exact hj),Go.Sort.get_flatK _ _ _ _ hj,getElem!_pos d (j / 3) h3]
 rw [Array.getElem_toList]
 generalize d[j / 3]=e
 rcases (by omega:j % 3=0∨j % 3=1∨j % 3=2) with h|h|h <;> rw [h] <;> rfl
theorem rd_row {h:Heap} {b o:Nat} {xs:List Value} (H:∀ j v,xs[j]?=some v→cellOf h ⟨b,o+j,none⟩=some v):((rd h b).drop o).take xs.length=xs:=by
 refine List.ext_getElem? fun i=>?_
 rw [List.getElem?_take]
 by_cases hi:i<xs.length
 ·rw [if_pos hi,List.getElem?_drop]
  have:=H i xs[i] (List.getElem?_eq_getElem hi)
  rw [cellOf_rd] at this
  rw [List.getElem?_eq_getElem hi]; exact this
 ·rw [if_neg hi,List.getElem?_eq_none (by omega)]
theorem SortE_spec {h:Heap} {a:Option Addr} {l c:Nat} {es:List E} {F:Nat→Prop} {K:Value→Heap→Prop} (s:Sl h 3 a l c (es.flatMap E.v) F) (hl:l<4611686018427387904)
  (hK:∀ h' (es':List E),es'.Perm es→es'.Pairwise leE→Fr (fun b=>∃ p,a=some p∧b=p.block) h h'→Sl h' 3 a l c (es'.flatMap E.v) F→K (.tuple #[]) h') :
  C.slices_SortFunc_api_Entry_api_Entry a l c (.func (.func 79) #[] ⟨[]⟩) h K:=by
 refine ⟨⟨_,Tryz.func78,by kernel_rfl,by kernel_rfl⟩,fun w hw=>?_⟩
 subst hw
 have le:es.length=l:=by
  have:=s.1
  rw [flat_length E.v 3 _ (fun x _=>E.len x)] at this
  omega
 cases a with
 | none =>
  have l0:l=0:=s.2.1
  have c0:c=0:=s.2.2
  subst l0 c0
  refine (AnyF.slices_SortFunc_none Tryz.sortE none 0 (.func (.func 79) #[] ⟨[]⟩) w).mono fun e w' ⟨he,hw'⟩=>⟨_,he,?_⟩
  subst hw'
  exact ⟨⟨rfl,rfl,rfl⟩,hK _ es (.refl _) (by rw [List.length_eq_zero_iff.mp le]; exact .nil) (Fr.refl _ _) s⟩
 | some p =>
  obtain ⟨b,o,sp⟩:=p
  have ep:sp=none:=s.2.1
  subst ep
  have hcells:=s.cells
  obtain ⟨_,_,hF,⟨cs,T,fz,hb,hfz⟩,hlc,hrow,hroom⟩:=s
  have erd:rd w.heap b=cs.toList:=by unfold rd; rw [hb]
  have hb':w.heap[b]?=some (.cells cs T fz):=hb
  simp only at hroom
  rw [erd,Array.length_toList] at hroom
  have cell:∀ j v,(es.flatMap E.v)[j]?=some v→w.cell? ⟨b,o+j,none⟩=some v:=fun j v hv=>by
   have:=hcells j v hv
   rw [add_mk] at this
   exact this
  have hsz:es.toArray.size=l:=le
  have hH:Go.Sort.HoldsK E.v 3 w b o es.toArray:=fun j hj=>by
   rw [Go.Sort.size_flatK] at hj
   refine ⟨cell j _ (flat_K (d:=es.toArray) hj),?_⟩
   show (match w.heap[b]? with
    | some (.cells _ _ (lo,hi))=>decide (lo≤o+j) && decide (o+j<hi)
    | _=>false)=false
   rw [hb']
   show (decide (fz.1≤o+j) && decide (o+j<fz.2))=false
   rcases hfz with e|e
   ·rw [e,decide_eq_false (show ¬ o+j<0 by omega),Bool.and_false]
   ·rw [decide_eq_false (by rw [hsz] at hj; omega),Bool.false_and]
  have eg:∀ args w,(callFunc 79 args).run Tryz.prog w = .ok (.enter 79 args) w:=enters_of Tryz.func79 (by kernel_rfl) rfl
  have hcmp:CmpLays Tryz.prog 79 #[] E.v 3 cfE b o es.toArray.size w:=fun m os dk _ x y=>Tryz.clo x.place x.inode y.place y.inode (mkStr x.name) (mkStr y.name) _
  have cS:=AnyQ.slices_SortFunc Tryz.sortE 3 Tryz.isAgg113 Tryz.sizeOf113 E.v (fun _=>rfl) E.one cfE swoE 79 #[] b o c es.toArray w eg hcmp hH (Array.getElem?_eq_some_iff.mp hb').1 (by rw [hsz]; exact hl)
  rw [hsz] at cS
  refine cS.mono fun e w' ⟨he,d',n,ws,hp,hs,hw'⟩=>⟨_,he,?_⟩
  obtain ⟨p1,_,p3⟩:=hp
  rw [hsz] at p1
  have pe:d'.toList.Perm es:=by
   have e1:d'.extract 0 l=d':=by rw [← p1,Array.extract_size]
   have e2:es.toArray.extract 0 l=es.toArray:=by rw [← hsz,Array.extract_size]
   rw [e1,e2] at p3; exact p3
  have hH':=holdsK_sortWorldK_c E.v 3 w b o es.toArray d' n ws hH (Array.getElem?_eq_some_iff.mp hb').1 (by rw [p1,hsz])
  rw [← hw'] at hH'
  have eh:w'.heap=(w.heap.modify b (Go.Sort.onCells (Go.Sort.putCells id o (Go.Sort.flatK E.v 3 d'))))++ws:=by rw [hw']; rfl
  have ls:d'.toList.length=l:=by rw [Array.length_toList,p1]
  have rest:SameRest w w':=by rw [hw']; exact ⟨rfl,rfl,rfl⟩
  refine ⟨rest,hK _ d'.toList pe ?_ ⟨by rw [eh,Array.size_append,Array.size_modify]; omega,fun b' hb1 hb2=>?_⟩ ?_⟩
  ·rw [List.pairwise_iff_getElem]
   intro i j hi hj hij
   have:=hs i j (Nat.zero_le _) hij (by omega)
   rw [cfE_lt,getElem!_pos d' j (by omega),getElem!_pos d' i (by omega)] at this
   rw [Array.getElem_toList,Array.getElem_toList]
   exact this
  ·rw [eh,Array.getElem?_append_left (by rw [Array.size_modify]; exact hb1),Array.getElem?_modify,if_neg fun y=>hb2 ⟨_,rfl,y.symm⟩]
  ·have hbl:=(Array.getElem?_eq_some_iff.mp hb').1
   have eb:w'.heap[b]?=some (.cells (Go.Sort.putCells id o (Go.Sort.flatK E.v 3 d') cs) T fz):=by
    rw [eh,Array.getElem?_append_left (by rw [Array.size_modify]; exact hbl),Array.getElem?_modify,if_pos rfl,hb']; rfl
   have esz:(Go.Sort.putCells id o (Go.Sort.flatK E.v 3 d') cs).size=cs.size:=by unfold Go.Sort.putCells; rw [Array.size_mapIdx]
   have lf:(d'.toList.flatMap E.v).length=l*3:=by rw [flat_length E.v 3 _ (fun x _=>E.len x),ls]
   refine ⟨lf,rfl,hF,⟨_,T,fz,eb,by rw [esz]; exact hfz⟩,hlc,rd_row fun j v hv=>?_,?_⟩
   ·have hj:j<d'.size*3:=by
     have:=(List.getElem?_eq_some_iff.mp hv).1
     rw [lf] at this; omega
    rw [flat_K hj] at hv
    have:=(hH' j (by rw [Go.Sort.size_flatK]; exact hj)).1
    rw [← Option.some.inj hv]; exact this
   ·show o+c*3≤(rd w'.heap b).length
    have:rd w'.heap b=(Go.Sort.putCells id o (Go.Sort.flatK E.v 3 d') cs).toList:=by unfold rd; rw [eb]
    rw [this,Array.length_toList,esz]; exact hroom
end Go.Proofs.YtiapingedfnlnaaGreatDoor.Di
namespace Go.Proofs.YtiapingedfnlnaaGreatDoor.Di
open Go Go.Proofs Wx Hp W Ad Tm Spc Re Av Rg Ss
open Hd (ints)
open In (Glo ints_length ints_one)
open Ino (getM Cok getM_length)
open Bm (findM)
open Fi (blockM hv_yield getM_may cok)
open Sk (E nameOk)
theorem sl_lt {h:Heap} {ec:Nat} {a:Option Addr} {l c:Nat} {xs:List Value} {F:Nat→Prop} (s:Sl h ec a l c xs F):Sl h ec a l c xs (fun b=>F b∧b<h.size):=by
 obtain ⟨h1,h2⟩:=s
 refine ⟨h1,?_⟩
 cases a with
 | none=>exact h2
 | some p =>
  obtain ⟨a1,a2,a3,a4⟩:=h2
  exact ⟨a1,⟨a2,a3.lt⟩,a3,a4⟩
def upE (k:Nat) (c:E):E:=⟨c.place+16*(k:Int),c.name,c.inode⟩
theorem allE_cons (T:TM) (g:G) (R:List Int) (k:Nat) (r:List Leaf):allE ((leafM T g R k).1::r)=(leafM T g R k).1.cells.map (upE k)++allE r:=rfl
theorem List_spec {h:Heap} {F:Nat→Prop} {t d:Option Addr} {T:TM} {n:Nat} {i:Int} {K:Value→Heap→Prop} (gl:In.Glo h) (dm:Dim n) (x:Tx h F t d T)
  (hK:∀ h' a l c,Fr No h h'→l=(listD T (geoN n) i).1.length→Sl h' 3 a l c ((listD T (geoN n) i).1.flatMap E.v) (From h.size)→K (.tuple #[.slice a l c,.int .i64 (listD T (geoN n) i).2]) h'):C.dir_List t (geoN n).v i h K:=by
 refine dir_List.ok (New.intro fun h2 n2=>⟨(geoN n).v,rfl,cellsAll n2.rd,open_spec (gl.no n2.fr) (x.no n2.fr) (cok dm) fun h3 f3=>⟨_,rfl,NewRow.intro (rdV_len (openM_length T (geoN n) i)) rdV_one rfl fun h5 n5=>New.intro fun h6 n6=>leaves_spec fun h7 n7=>⟨_,rfl,fun L rounds=>?_⟩⟩⟩)
 have lR:=openM_length T (geoN n) i
 have z2:=n2.size
 have z3:=f3.size
 have z5:=n5.size
 have z6:=n6.size
 have z7:=n7.size
 have xl:∀ b,F b→b<h.size:=fun b hb=>x.lt hb
 have gl1:=gl.lt
 have F6:Fr No h h6:=((n2.fr.no f3).new n5).new n6
 have F7:Fr No h h7:=F6.new n7
 have Fb:=beginL_fr h7 L
 have on0:=beginL_on h7 L
 have d0:=beginL_d h7 L
 have zb:=beginL_size h7 L
 have F0:Fr No h (beginL h7 L):=F7.no Fb
 have cb0:rd (beginL h7 L) h6.size=[.pointer (some ⟨h3.size,0,none⟩)]:=(Fb.rd (by omega) fun y=>y).trans n7.rd
 have rb0:rd (beginL h7 L) h3.size=rdV t (geoN n) i (openM T (geoN n) i).1 (openM T (geoN n) i).2++[]:=by
  rw [List.append_nil]
  exact (Fb.rd (by omega) fun y=>y).trans ((n7.at_ (by omega)).trans ((n6.at_ (by omega)).trans n5.rd))
 have ob0:Own (beginL h7 L) h3.size:=Fb.own (by omega) (fun y=>y) (n7.ow (n6.ow n5.own))
 have ab0:rd (beginL h7 L) h5.size=[.slice none 0 0]:=(Fb.rd (by omega) fun y=>y).trans ((n7.at_ (by omega)).trans n6.rd)
 have pb0:Own (beginL h7 L) h5.size:=Fb.own (by omega) (fun y=>y) (n7.ow n6.own)
 have I0:It (beginL h7 L) F t d T (geoN n) i (openM T (geoN n) i).1 (openM T (geoN n) i).2 [] h6.size h3.size:=⟨gl.no F0,x.no F0,cb0,ob0,rb0,fun y=>by have:=xl _ y; omega,by omega,by omega⟩
 generalize hbe:beginL h7 L=hb at *
 show C.dir_reader_leaves_c1 (.func (.yield (h7.size+1)) #[] #[]) (some ⟨h6.size,0,none⟩) hb _
 -- what is behind the loop
 have fin:∀ (hh:Heap) (e:Int),Fr (fun b=>b=h3.size∨b=h5.size∨b=h7.size+1) hb hh→LoopOn hh (h7.size+1) L .ready none→rd hh h3.size=rdV t (geoN n) i (openM T (geoN n) i).1 e++[]→(e≠0→listD T (geoN n) i=([],e)) →
   (e=0→∃ (a:Option Addr) (l c:Nat) (acc:List E),rd hh h5.size=[.slice a l c]∧Sl hh 3 a l c (acc.flatMap E.v) (From hb.size)∧Rise acc∧acc.length≤300000∧listD T (geoN n) i=(sortE acc,0)) →
   ∃ (st1:LoopState) (pend1:Option Code),LoopOn hh (h7.size+1) L st1 pend1∧st1 ≠ .busy∧pendX pend1 (
    SetL hh (h7.size+1) L .exhausted pend1 fun h20=>∃ (n5:Int),cellOf h20 (Addr.add ⟨h3.size,0,none⟩ 22)=some (.int .i64 n5) ∧
    bif (n5 != 0) then (∃ (n6:Int),cellOf h20 (Addr.add ⟨h3.size,0,none⟩ 22)=some (.int .i64 n6)∧EndD h7.size h20 fun h21=>K (.tuple #[.slice none 0 0,.int .i64 n6]) h21) else (
     ∃ (sA4:Option Addr) (sL4:Nat) (sC4:Nat),cellOf h20 ⟨h5.size,0,none⟩=some (.slice sA4 sL4 sC4)∧C.slices_SortFunc_api_Entry_api_Entry sA4 sL4 sC4 (Value.func (.func 79) #[] ⟨[]⟩) h20 fun r3 h22 =>
     r3 = .tuple #[]∧∃ (sA5:Option Addr) (sL5:Nat) (sC5:Nat),cellOf h22 ⟨h5.size,0,none⟩=some (.slice sA5 sL5 sC5)∧EndD h7.size h22 fun h23=>K (.tuple #[.slice sA5 sL5 sC5,.int .i64 0]) h23)) (False) (fun _=>False):=by
  intro hh e f on r es0 es1
  have zf:=f.size
  refine ⟨.ready,none,on,by decide,pend_none (setL_intro (by omega) fun h20 t20=>?_)⟩
  have z20:=t20.size
  have f20:Fr (fun b=>b=h3.size∨b=h5.size∨b=h7.size+1) hb h20:=f.trans t20.fr fun b _ y => .inr (.inr y)
  have r20:=(t20.fr.rd (b:=h3.size) (by omega) (by omega)).trans r
  refine ⟨_,rda r20 (rdV_e lR),cn (fun he=>⟨_,rda r20 (rdV_e lR),endD_intro ((f20.same _ (by omega) (by omega)).trans d0) fun h21 z21 f21=>?_⟩) fun he=>?_⟩
  ·rw [es0 he] at hK
   exact hK h21 none 0 0 ((F0.trans f20 fun b hb y=>by omega).trans f21 fun b hb y=>by omega) rfl (Sl.nil _ _ _)
  obtain ⟨a,l,c,acc,ra,s,u,hacc,es⟩:=es1 he
  rw [es] at hK
  have a20:=(t20.fr.rd (b:=h5.size) (by omega) (by omega)).trans ra
  have s20:Sl h20 3 a l c (acc.flatMap E.v) (From hb.size):=s.fr t20.fr fun b _ hb' y=>by have hb':hb.size≤b:=hb'; omega
  have la:acc.length=l:=by
   have:=s20.1
   rw [flat_length E.v 3 _ (fun x _=>E.len x)] at this
   omega
  have hb5:∀ b,(∃ p,a=some p∧b=p.block)→hb.size≤b:=fun b ⟨p,ep,eb⟩=>by subst ep; rw [eb]; exact s20.2.2.1
  refine ⟨_,_,_,rdc a20 rfl,SortE_spec s20 (by omega) fun h22 es' pe so f22 s22=>⟨rfl,_,_,_,rdc (show rd h22 h5.size=[.slice a l c] from (f22.rd (by omega) fun y=>by have:=hb5 _ y; omega).trans a20) rfl,endD_intro ((f22.same _ (by omega) fun y=>by have:=hb5 _ y; omega).trans ((f20.same _ (by omega) (by omega)).trans d0)) fun h23 z23 f23=>?_⟩⟩
  have eq:es'=sortE acc:=sorted_eq u pe so
  subst eq
  have z22:=f22.size
  refine hK h23 a l c (((F0.trans f20 fun b hb y=>by omega).trans f22 fun b hb y=>by have:=hb5 _ y; omega).trans f23 fun b hb y=>by omega) ?_ ((s22.fr f23 fun b _ hb' y=>?_).mono fun b hb'=>?_)
  ·show l=(sortE acc).length
   rw [(sortE_perm acc).length_eq,la]
  ·have hb':hb.size≤b:=hb'; omega
  ·have hb':hb.size≤b:=hb'
   have:=F0.size
   show h.size≤b; omega
 by_cases he0:(openM T (geoN n) i).2=0
 rotate_left
 ·exact leaves_none lR I0 he0 (fin hb _ (Fr.refl _ _) on0 I0.r (fun _=>by unfold listD; rw [if_pos he0]) fun y=>absurd y he0)
 obtain ⟨R0,R1⟩:=open_size he0
 have es0:listD T (geoN n) i=if (leavesM T (geoN n) (openM T (geoN n) i).1).2≠0 then ([],(leavesM T (geoN n) (openM T (geoN n) i).1).2) else (sortE (allE (leavesM T (geoN n) (openM T (geoN n) i).1).1),0):=by
  unfold listD; rw [if_neg (fun y=>y he0)]
 have rise:=(leavesGo_rise T (geoN n) (openM T (geoN n) i).1 ((openM T (geoN n) i).1.getD 2 0 / 512).toNat 0).1
 unfold leavesM at es0
 rw [he0] at I0
 generalize hR:(openM T (geoN n) i).1=R at *
 generalize hm:(R.getD 2 0 / 512).toNat=m at *
 have hm2:m≤16522:=by omega
 refine leaves_iter lR R0 R1 (fun k hh=>It hh F t d T (geoN n) i R 0 [] h6.size h3.size∧Fr (fun b=>b=h3.size∨b=h5.size∨b=h7.size+1) hb hh∧LoopOn hh (h7.size+1) L .ready none∧∃ q a l c acc,m=k+q∧rd hh h5.size=[.slice a l c]∧Own hh h5.size∧Sl hh 3 a l c (acc.flatMap E.v) (From hb.size)∧acc.length≤16*k ∧
   allE (leavesGo T (geoN n) R m 0).1=acc++allE (leavesGo T (geoN n) R q k).1∧(leavesGo T (geoN n) R m 0).2=(leavesGo T (geoN n) R q k).2)
  (fun k hh J=>J.1) (fun k hh h' ba bl bc ca cl cc J hk he f' r' o' lf=>?_) ⟨I0,Fr.refl _ _,on0,m,none,0,0,[],by omega,ab0,pb0,Sl.nil _ _ _,Nat.zero_le _,rfl,rfl⟩ (fun hh J=>?_) fun k hh h' J hk he f' r' o'=>?_
 ·-- an index
  obtain ⟨I,f,on,q,a,l,c,acc,eq,ra,oa,sa,la,e1,e2⟩:=J
  rw [hm] at hk
  obtain ⟨q,rfl⟩:∃ q',q=q'+1:=⟨q - 1,by omega⟩
  have zf:=f.size
  have zf':=f'.size
  have on':LoopOn h' (h7.size+1) L .ready none:=loopOn_fr on f' (by omega)
  refine rounds (leafV k (leafM T (geoN n) R k).1.block ba bl bc ca cl cc) h' _ on' (NewRow.intro rfl leafV_one rfl fun h10 n10=>⟨loopOn_fr on' n10.fr fun y=>y,setL_intro (by have:=n10.size; omega) fun h11 t11=>?_⟩)
  have z10:=n10.size
  have z11:=t11.size
  have f11:Fr (fun b=>b=h3.size∨b=h5.size∨b=h7.size+1) hb h11:=((f.trans f' fun b _ y => .inl y).new n10).trans t11.fr fun b _ y => .inr (.inr y)
  have v11:rd h11 h'.size=leafV k (leafM T (geoN n) R k).1.block ba bl bc ca cl cc:=(t11.fr.rd (by omega) (by omega)).trans n10.rd
  have lf11:Lf hh h11 (leafM T (geoN n) R k).1 ba bl bc ca cl cc:=(lf.fr n10.fr fun _ _ _ y=>y).fr t11.fr fun b _ hb y=>by omega
  have lc:(leafM T (geoN n) R k).1.cells.length=cl:=by
   have:=lf11.c.1
   rw [flat_length E.v 3 _ (fun x _=>E.len x)] at this
   omega
  have l16:=leaf_len T (geoN n) R k
  have I11:It h11 F t d T (geoN n) i R 0 [] h6.size h3.size:=by
   have A:It h' F t d T (geoN n) i R 0 [] h6.size h3.size:=⟨I.gl.fr f' fun b hb y=>by omega,I.x.fr f' fun b hb y=>by have:=xl b hb; omega,(f'.rd I.clt (by omega)).trans I.cap,o',r',I.nf,I.b1,I.ne⟩
   exact (A.no n10.fr).fr t11.fr (by omega) (by omega) (fun b hb y=>by have:=xl b hb; omega) fun b hb y=>by omega
  have ra11:rd h11 h5.size=[.slice a l c]:=(t11.fr.rd (by omega) (by omega)).trans ((n10.at_ (by omega)).trans ((f'.rd (by omega) (by omega)).trans ra))
  have oa11:Own h11 h5.size:=t11.fr.own (by omega) (by omega) (n10.ow (f'.own (by omega) (by omega) oa))
  have sa11:Sl h11 3 a l c (acc.flatMap E.v) (fun b=>hb.size≤b∧b<hh.size):=(((sl_lt sa).mono (G:=fun b=>hb.size≤b∧b<hh.size) fun b hb=>hb).fr f' fun b _ hb y=>by omega).fr n10.fr (fun _ _ _ y=>y) |>.fr t11.fr fun b _ hb y=>by omega
  refine ⟨_,_,_,rda v11 rfl,fun j hx=>∃ p:Nat,j=p∧p≤cl∧Fr (fun b=>b=h5.size∨(hb.size≤b∧b<hh.size)) h11 hx∧∃ a l c,rd hx h5.size=[.slice a l c]∧Own hx h5.size∧Sl hx 3 a l c ((acc++((leafM T (geoN n) R k).1.cells.take p).map (upE k)).flatMap E.v) (fun b=>(hb.size≤b∧b<hh.size)∨(h11.size≤b∧b<hx.size)),fun j _=>((cl:Int) - j).toNat,
   ⟨0,rfl,Nat.zero_le _,Fr.refl _ _,a,l,c,ra11,oa11,by rw [List.take_zero,List.map_nil,List.append_nil]; exact sa11.mono fun b hb => .inl hb⟩,?_⟩
  rintro j h12 ⟨p,rfl,hp,f12,a2,l2,c2,ra12,oa12,s12⟩
  have z12:=f12.size
  have v12:rd h12 h'.size=leafV k (leafM T (geoN n) R k).1.block ba bl bc ca cl cc:=(f12.rd (by omega) (by omega)).trans v11
  have lf12:Lf hh h12 (leafM T (geoN n) R k).1 ba bl bc ca cl cc:=lf11.fr f12 fun b _ hb y=>by omega
  have on12:LoopOn h12 (h7.size+1) L .busy none:=loopOn_fr t11.on f12 (by omega)
  refine cd (fun hlt=>?_) fun hlt=>?_
  ·have hlt':p<(leafM T (geoN n) R k).1.cells.length:=by omega
   obtain ⟨a0,ea,ca0⟩:=ent_at lf12.c.cells hlt'
   subst ea
   have pr:=(leafM_ok T (geoN n) R k).rng _ (List.getElem_mem hlt')
   generalize hcell:(leafM T (geoN n) R k).1.cells[p]=cell at ca0 pr
   have ll2:l2=acc.length+p:=by
    have:=s12.1
    rw [flat_length E.v 3 _ (fun x _=>E.len x),List.length_append,List.length_map,List.length_take] at this
    omega
   refine ⟨⟨by omega,hlt⟩,os ⟨_,rfl,ca0,NewRow.intro rfl (E.one _) rfl fun h14 n14=>⟨_,rda n14.rd rfl,_,rda ((n14.at_ (by omega)).trans v12) rfl,?_⟩⟩⟩
   have z14:=n14.size
   refine Put.add n14.own (by rw [n14.rd]; show 0<3; decide) fun h15 d15=>?_
   have z15:=d15.size
   have r15:rd h15 h12.size=E.v (upE k cell):=by
    rw [d15.rd,n14.rd,wrap_i64 (n:=16*(k:Int)) (by omega) (by omega),wrap_i64 (by omega) (by omega)]; rfl
   have ra15:=(d15.at_ (c:=h5.size) (by omega) (by omega)).trans ((n14.at_ (by omega)).trans ra12)
   refine ⟨a2,l2,c2,rdc ra15 rfl,_,rfl,cellsAll r15,rfl,New.intro fun h16 n16=>⟨_,rfl,cellsAll n16.rd,E.one _,?_⟩⟩
   have z16:=n16.size
   have s16:Sl h16 3 a2 l2 c2 ((acc++((leafM T (geoN n) R k).1.cells.take p).map (upE k)).flatMap E.v) (fun b=>(hb.size≤b∧b<hh.size)∨(h11.size≤b∧b<h12.size)):=((s12.fr n14.fr fun _ _ _ y=>y).fr d15.fr fun b _ hb y=>by omega).fr n16.fr fun _ _ _ y=>y
   refine append_own (elem:=ti113) s16 rfl rfl (by show (l2+1)*32≤_; omega) (by omega) fun a' c' h17 f17 s17=>?_
   have z17:=f17.size
   have f16:Fr (fun b=>b=h5.size∨(hb.size≤b∧b<hh.size)) h11 h16:=((f12.new n14).did d15 fun hl=>by omega).new n16
   have w16:Own h16 h5.size:=n16.ow (d15.ow (n14.ow oa12))
   have r16:rd h16 h5.size=[.slice a2 l2 c2]:=(n16.at_ (by omega)).trans ra15
   have w17:Own h17 h5.size:=f17.own (by omega) (by omega) w16
   refine Put.intro w17 (by rw [f17.rd (by omega) (by omega),r16]; exact Nat.zero_lt_one) fun h18 d18=>?_
   have z18:=d18.size
   rw [wrap_i64 (by omega) (by omega)]
   refine ⟨⟨p+1,by omega,by omega,(f16.trans f17 fun b hb y=>?_).did d18 fun hl => .inl rfl,a',l2+1,c',?_,d18.own,?_⟩,falls hlt⟩
   ·omega
   ·rw [d18.rd,f17.rd (by omega) (by omega),r16]; rfl
   ·rw [List.take_succ_eq_append_getElem hlt',List.map_append,← List.append_assoc,List.flatMap_append,hcell]
    have s18:=(sl_lt s17).fr d18.fr fun b _ hb y=>by omega
    rw [show [cell].map (upE k)=[upE k cell] from rfl,List.flatMap_cons,List.flatMap_nil,List.append_nil]
    exact s18.mono fun b hb=>by omega
  ·have:p=cl:=by omega
   subst this
   refine ⟨on12,.inl ⟨rfl,?_⟩⟩
   have t24:=turned (loopOn_lt on12) L .ready none
   generalize setLoop h12 (h7.size+1) L .ready none=h24 at t24
   have z24:=t24.size
   refine ⟨(I11.fr f12 (by omega) (by omega) (fun b hb y=>by have:=xl b hb; omega) fun b hb y=>by omega).fr t24.fr (by omega) (by omega) (fun b hb y=>by have:=xl b hb; omega) fun b hb y=>by omega,(f11.trans f12 fun b _ y=>by omega).trans t24.fr fun b _ y => .inr (.inr y),t24.on,q,a2,l2,c2,acc++(leafM T (geoN n) R k).1.cells.map (upE k),by omega,(t24.fr.rd (by omega) (by omega)).trans ra12,t24.fr.own (by omega) (by omega) oa12,?_,?_,?_,?_⟩
   ·rw [List.take_of_length_le (by omega)] at s12
    exact (s12.fr t24.fr fun b _ hb y=>by omega).mono fun b hx=>by show hb.size≤b; omega
   ·rw [List.length_append,List.length_map]; omega
   ·rw [e1]
    conv=>lhs; unfold leavesGo
    rw [if_neg (fun y=>y he)]
    show acc++allE ((leafM T (geoN n) R k).1::(leavesGo T (geoN n) R q (k+1)).1)=_
    rw [allE_cons,List.append_assoc]
   ·rw [e2]
    conv=>lhs; unfold leavesGo
    rw [if_neg (fun y=>y he)]
 ·-- all have come
  obtain ⟨I,f,on,q,a,l,c,acc,eq,ra,oa,sa,la,e1,e2⟩:=J
  rw [hm] at eq e1 e2 la
  have:q=0:=by omega
  subst this
  have ea:allE (leavesGo T (geoN n) R m 0).1=acc:=by rw [e1]; exact List.append_nil _
  have e0:(leavesGo T (geoN n) R m 0).2=0:=by rw [e2]; rfl
  exact fin hh 0 f on I.r (fun y=>absurd rfl y) fun _=>⟨a,l,c,acc,ra,sa,by rw [← ea]; exact rise,by omega,by rw [es0,if_neg (fun y=>y e0),ea]⟩
 ·-- an index that does not read
  obtain ⟨I,f,on,q,a,l,c,acc,eq,ra,oa,sa,la,e1,e2⟩:=J
  rw [hm] at hk
  obtain ⟨q,rfl⟩:∃ q',q=q'+1:=⟨q - 1,by omega⟩
  have zf:=f.size
  have ee:(leavesGo T (geoN n) R m 0).2=(leafM T (geoN n) R k).2:=by
   rw [e2]; unfold leavesGo; rw [if_pos he]
  exact fin h' _ (f.trans f' fun b _ y => .inl y) (loopOn_fr on f' (by omega)) r' (fun _=>by rw [es0,ee,if_pos he]) fun y=>absurd y he
theorem Size_spec {h:Heap} {F:Nat→Prop} {t d:Option Addr} {T:TM} {n:Nat} {i:Int} {K:Value→Heap→Prop} (gl:In.Glo h) (dm:Dim n) (x:Tx h F t d T)
  (hK:∀ h',Fr No h h'→K (.tuple #[.int .i64 ((listD T (geoN n) i).1.length:Nat),.int .i64 (listD T (geoN n) i).2]) h'):C.dir_Size t (geoN n).v i h K:=by
 refine dir_Size.ok (New.intro fun h2 n2=>⟨(geoN n).v,rfl,cellsAll n2.rd,List_spec (gl.no n2.fr) dm (x.no n2.fr) fun h3 a l c f3 hl s3=>⟨_,_,_,_,rfl,?_⟩⟩)
 rw [hl]
 exact hK h3 (n2.fr.no f3)
end Go.Proofs.YtiapingedfnlnaaGreatDoor.Di
namespace Go.Proofs.YtiapingedfnlnaaGreatDoor.Di
open Go Go.Proofs Wx Hp W Ad Tm Bt Spc Av Ss
open Hd (ints)
open In (ints_length ints_one mayR encR encR_length)
open Fi (Ly Ib)
open Sk (E nameOk)
theorem fresh_spec {n:Nat} {h:Heap} {K:Value→Heap→Prop} (gl:In.Glo h) (d:Dim n) (hn:n<1000)
  (hK:∀ tb dd F L h',Fr No h h'→Tx h' F (some ⟨tb,0,none⟩) dd ⟨fresh (chunks L),[],[],false⟩→Ib n (recsD.flatMap encR) (4096*((geoN n).inodes - 98)) L→(∀ b,F b→h.size≤b)→K (.tuple #[.pointer (some ⟨tb,0,none⟩),.agg ⟨(geoN n).v⟩]) h'):C.bolelaw15_fresh n h K:=by
 have gl1:=gl.lt
 refine bolelaw15_fresh.ok (New.intro fun h2 n2=>Spc.Geo_spec (by omega) fun h3 f3=>⟨_,rfl,NewRow.intro rfl (G.one _) rfl fun h5 n5=>⟨(geoN n).v,rfl,cellsAll n5.rd,rfl,rfl,rfl,New.intro fun h6 n6=>?_⟩⟩)
 have z2:=n2.size
 have z3:=f3.size
 have z5:=n5.size
 have z6:=n6.size
 have F6:Fr No h h6:=((n2.fr.no f3).new n5).new n6
 have hd0:∀ R ∈ recsD,∀ i,i<10→R.getD (3+i) 0=0:=fun R hR i hi=>by
  have:∀ R ∈ recsD,∀ i:Fin 10,R.getD (3+i.val) 0=0:=by decide
  exact this R hR ⟨i,hi⟩
 have Y6:SlCells h6 (some ⟨h5.size,0,none⟩) (recsD.flatMap ints):=cellsAll n6.rd
 refine Fi.image_spec (recs:=recsD) (rc:=3) ⟨d.lo,by omega⟩ Y6 (by decide) (by decide) hd0 (by decide) fun ib L h7 f7 I o7 hib r7=>⟨_,_,_,rfl,?_⟩
 have z7:=f7.size
 have hL:=I.im.len
 have hlo:=d.lo
 have B7:StrAt h7 (some ⟨ib,0,none⟩) (512*n) L:=strAll r7 hL
 refine openF_spec B7 (Nat.le_refl _) (by omega) (fun y=>by exfalso; omega) fun _ _ _ q h8 D f8 hD A=>⟨_,_,rfl,cn (fun y=>absurd rfl y) fun _=>cf rfl ?_⟩
 have z8:=f8.size
 have F8:Fr No h h8:=(F6.no f7).no f8
 unfold bolelaw15_fresh.k1
 refine Tm.Begin_spec A fun tb h12 F f12 g12 x12=>⟨_,rfl,cf rfl ?_⟩
 have z12:=f12.size
 obtain ⟨T',ea,e1,e2,ed,eu⟩:=first_dir d hn I
 have F12:Fr No h h12:=F8.no f12
 have lowF:∀ b,F b→h7.size≤b:=fun b hb=>by
  rcases g12.new hb with y|y
  ·exact hD b y
  ·omega
 have rg12:rd h12 h3.size=(geoN n).v:=(f12.rd (by omega) fun y=>y).trans ((f8.rd (by omega) fun y=>y).trans ((f7.rd (by omega) fun y=>y).trans ((n6.at_ (by omega)).trans n5.rd)))
 have nm:∀ {h':Heap} {G:Nat→Prop},Fr G h12 h'→(∀ b,G b→h7.size≤b)→rd h' h3.size=(geoN n).v∧rd h' h.size=z25∧Own h' h.size:=fun f hG=>by
  have r0:rd h12 h.size=z25:=(f12.rd (by omega) fun y=>y).trans ((f8.rd (by omega) fun y=>y).trans ((f7.rd (by omega) fun y=>y).trans ((n6.at_ (by omega)).trans ((n5.at_ (by omega)).trans ((f3.rd (by omega) fun y=>y).trans n2.rd)))))
  have o0:Own h12 h.size:=f12.own (by omega) (fun y=>y) (f8.own (by omega) (fun y=>y) (f7.own (by omega) (fun y=>y) (n6.ow (n5.ow (f3.own (by omega) (fun y=>y) n2.own)))))
  exact ⟨(f.rd (by omega) fun y=>by have:=hG _ y; omega).trans rg12,(f.rd (by omega) fun y=>by have:=hG _ y; omega).trans r0,f.own (by omega) (fun y=>by have:=hG _ y; omega) o0⟩
 refine ⟨(geoN n).v,rfl,cellsAll rg12,Add_spec (s:=nmA) (gl.no F12) d x12 (fun b hb y=>by have:=lowF b y; omega) (by show 0<600000000; decide) fun h14 F' f14 g14 x14=>⟨_,rfl,?_⟩⟩
 rw [ea] at x14 ⊢
 refine cn (fun y=>absurd rfl y) fun _=>?_
 unfold bolelaw15_fresh.k2
 have z14:=f14.size
 have lowF':∀ b,F' b→h7.size≤b:=fun b hb=>by
  rcases g14.new hb with y|y
  ·exact lowF b y
  ·omega
 have F14:Fr No h h14:=F12.trans f14 fun b hb y=>by have:=lowF b y; omega
 refine ⟨(geoN n).v,rfl,cellsAll (nm f14 lowF).1,Find_spec (s:=nmA) (gl.no F14) d x14 fun h17 f17=>⟨_,_,rfl,?_⟩⟩
 have z17:=f17.size
 rw [e1]
 refine ⟨(geoN n).v,rfl,cellsAll (nm (f14.no f17) lowF).1,Find_spec (s:=nmA) (gl.no (F14.no f17)) d (x14.no f17) fun h18 f18=>⟨_,_,rfl,cn (fun y=>absurd rfl y) fun _=>?_⟩⟩
 rw [e2]
 have z18:=f18.size
 refine cn (fun y=>absurd rfl y) fun _=>cn (fun y=>absurd rfl y) fun _=>?_
 unfold bolelaw15_fresh.k3
 have x18:=(x14.no f17).no f18
 refine Tm.Abort_spec x18 fun h24 F2 f24 g24 x24=>⟨rfl,?_⟩
 have z24:=f24.size
 have lowF2:∀ b,F2 b→h7.size≤b:=fun b hb=>by
  rcases g24.new hb with y|y
  ·exact lowF' b y
  ·omega
 have f1224:Fr (fun b=>h7.size≤b) h12 h24:=(((f14.mono fun b _ y=>lowF b y).no f17).no f18).trans f24 fun b _ y=>lowF' b y
 obtain ⟨D2,A2,hD2⟩:=x24.dk
 have edk:(TM.ended T'.disk).disk=fresh (chunks L):=ed
 rw [edk] at A2
 refine ⟨(geoN n).v,rfl,cellsAll (nm f1224 fun _ y=>y).1,Tm.Begin_spec A2 fun tb2 h25 F3 f25 g25 x25=>⟨_,rfl,⟨rfl,cellsAll (nm (f1224.no f25) fun _ y=>y).1⟩,?_⟩⟩
 have z25:=f25.size
 obtain ⟨_,r0,o0⟩:=nm (f1224.no f25) fun _ y=>y
 refine PutRow.intro o0 rfl (G.one _) (by rw [r0]; exact Nat.le_refl _) fun h26 d26=>⟨(geoN n).v,rfl,cellsAll (by rw [d26.rd,r0]; exact put_all _ _ rfl),?_⟩
 have lowF3:∀ b,F3 b→h7.size≤b:=fun b hb=>by
  rcases g25.new hb with y|y
  ·exact lowF2 b (hD2 b y)
  ·omega
 exact hK tb2 _ F3 L h26 (((F12.trans f1224 fun b hb y=>by have y:h7.size≤b:=y; omega).no f25).did d26 fun hl=>by omega) (x25.fr d26.fr fun b hb y=>by have:=lowF3 b hb; omega) I fun b hb=>by have:=lowF3 b hb; omega
end Go.Proofs.YtiapingedfnlnaaGreatDoor.Di
namespace Go.Proofs.YtiapingedfnlnaaGreatDoor.Di
open Go Go.Proofs Wx Hp W Re Ss
open Sk (E nameOk)
open Go.Op (bytesLess)
theorem mkStr_app (a b:List UInt8):mkStr a++mkStr b=mkStr (a++b):=by
 apply ByteArray.ext
 rw [ByteArray.data_append]
 simp [mkStr]
theorem mod_spec {v n:Int} {h:Heap} {K:Value→Heap→Prop} (h0:0<n) (h1:n≤4294967296) (hK:K (.int .i64 (v % n)) h):C.bolelaw15_mod v n h K:=by
 refine bolelaw15_mod.ok ?_
 unfold bolelaw15_mod
 rw [if_neg (by omega)]
 have e:=Int.tmod_eq_emod (a:=v) (b:=n)
 have p0:=Int.emod_nonneg v (show n≠0 by omega)
 have p1:=Int.emod_lt_of_pos v h0
 refine cd (fun x=>?_) fun x=>?_
 ·have:v.tmod n+n=v % n:=by
   rw [e] at x ⊢
   split at x
   ·omega
   ·rename_i c; rw [if_neg c]; omega
  rw [this,wrap_i64 (by omega) (by omega)]; exact hK
 ·have:v.tmod n=v % n:=by
   rw [e] at x ⊢
   split at x
   ·rename_i c; rw [if_pos c]; omega
   ·rename_i c; omega
  rw [this]; exact hK
def dd2 (i:Nat):Tm.Txt:=[UInt8.ofNat (48+i / 10),UInt8.ofNat (48+i % 10)]
theorem named_spec {s:Tm.Txt} {i:Nat} {h:Heap} {K:Value→Heap→Prop} (hi:i<100) (hs:s.length≤1000000000000) (hK:∀ h',Fr No h h'→K (.string (mkStr (s++dd2 i))) h'):C.bolelaw15_named (mkStr s) (i:Int) h K:=by
 have e1:Int.tdiv (i:Int) 10=((i / 10:Nat):Int):=by rw [Int.tdiv_eq_ediv_of_nonneg (by omega)]; omega
 have e2:Int.tmod (i:Int) 10=((i % 10:Nat):Int):=by rw [Int.tmod_eq_emod_of_nonneg (by omega)]; omega
 refine bolelaw15_named.ok (New.intro fun h2 n2=>⟨dd2 i,strAll ?_ rfl,?_,?_⟩)
 ·have r2:=n2.rd
  rw [e1,e2,wrap_i64 (n:=((i / 10:Nat):Int)) (by omega) (by omega),wrap_i64 (n:=48+((i / 10:Nat):Int)) (by omega) (by omega),wrap_i64 (n:=48+((i % 10:Nat):Int)) (by omega) (by omega),wrap_u8 (by omega) (by omega),wrap_u8 (by omega) (by omega)] at r2
  rw [r2]
  show [Value.int .u8 (48+((i / 10:Nat):Int)),Value.int .u8 (48+((i % 10:Nat):Int))]=[bv (UInt8.ofNat (48+i / 10)),bv (UInt8.ofNat (48+i % 10))]
  unfold bv
  rw [UInt8.toNat_ofNat',UInt8.toNat_ofNat',Nat.mod_eq_of_lt (show 48+i / 10<2 ^ 8 by omega),Nat.mod_eq_of_lt (show 48+i % 10<2 ^ 8 by omega),Int.natCast_add,Int.natCast_add]; rfl
 ·show ((s.length+2:Nat):Int)≤9223372036854775807
  omega
 ·rw [mkStr_app]; exact hK h2 n2.fr
def pcV (c:PC):List Value:=[.string (mkStr c.1),.int .i64 c.2]
theorem pc_len (c:PC):(pcV c).length=2:=rfl
theorem pc_one (c:PC):∀ v ∈ pcV c,v.oneCell'=true:=by
 intro v hv
 simp only [pcV,List.mem_cons,List.not_mem_nil,or_false] at hv
 rcases hv with rfl|rfl <;> rfl
theorem row_one (l:List PC):∀ v ∈ l.flatMap pcV,v.oneCell'=true:=fun v hv=>by
 obtain ⟨c,_,hc⟩:=List.mem_flatMap.mp hv
 exact pc_one c v hc
theorem pc_at {h:Heap} {a:Option Addr} {l:List PC} (Z:SlCells h a (l.flatMap pcV)) {j:Nat} (hj:j<l.length):∃ p,a=some p∧Cells h (p.add (j*2)) (pcV l[j]):=by
 cases a with
 | none =>
  have Z:l.flatMap pcV=[]:=Z
  have:=flat_length pcV 2 l (fun x _=>pc_len x)
  rw [Z,List.length_nil] at this
  omega
 | some p =>
  refine ⟨p,rfl,?_⟩
  have:=Cells.part (show Cells h p (l.flatMap pcV) from Z) (j*2) 2
  rw [flat_part pcV 2 _ (fun x _=>pc_len x) j hj] at this
  exact this
def atI (s:Tm.Txt) (l:List PC):Int:=match atP s l with
 | some p=>(p:Int)
 | none => -1
theorem atP_append (s:Tm.Txt) (b:List PC):∀ a:List PC,atP s (a++b)=match atP s a with
  | some p=>some p
  | none=>(atP s b).map (· + a.length)
 | []=>by
  show atP s b=(atP s b).map (· + 0)
  cases atP s b <;> rfl
 | x::r=>by
  have ih:=atP_append s b r
  show (if x.1=s then some 0 else (atP s (r++b)).map (· + 1))=match (if x.1=s then some 0 else (atP s r).map (· + 1)) with
   | some p=>some p
   | none=>(atP s b).map (· + (r.length+1))
  by_cases h:x.1=s
  ·rw [if_pos h,if_pos h]
  ·rw [if_neg h,if_neg h,ih]
   cases atP s r with
   | some p=>rfl
   | none =>
    cases atP s b with
    | none=>rfl
    | some q=>show some (q+r.length+1)=some (q+(r.length+1)); rw [Nat.add_assoc]
theorem atP_some {s:Tm.Txt}:∀ {l:List PC} {p:Nat},atP s l=some p→p<l.length
 | [],p,h=>by cases h
 | x::r,p,h=>by
  unfold atP at h
  by_cases c:x.1=s
  ·rw [if_pos c] at h; cases h; exact Nat.succ_pos _
  ·rw [if_neg c] at h
   obtain ⟨q,hq,rfl⟩:=Option.map_eq_some_iff.mp h
   exact Nat.succ_lt_succ (atP_some hq)
theorem at_spec {h:Heap} {a:Option Addr} {L c:Nat} {l:List PC} {s:Tm.Txt} {K:Value→Heap→Prop} (Z:SlCells h a (l.flatMap pcV)) (hl:l.length=L) (hm:L≤1000000000000) (hK:∀ h',Fr No h h'→K (.int .i64 (atI s l)) h'):C.bolelaw15_at a L c (mkStr s) h K:=by
 refine bolelaw15_at.ok ⟨fun j hh=>∃ p:Nat,j=p∧p≤L∧Fr No h hh∧atP s (l.take p)=none,fun j _=>((L:Int) - j).toNat,⟨0,rfl,Nat.zero_le _,Fr.refl _ _,rfl⟩,?_⟩
 rintro j h2 ⟨p,rfl,hp,f2,np⟩
 refine cd (fun hlt=>?_) fun hlt=>?_
 ·have hlt':p<l.length:=by omega
  obtain ⟨a0,ea,ca⟩:=pc_at Z hlt'
  subst ea
  have Z2:Cells h2 (a0.add (p*2)) (pcV l[p]):=Cells.fr f2 ca fun y=>y
  refine ⟨⟨by omega,hlt⟩,os ⟨_,rfl,Z2,NewRow.intro rfl (pc_one _) rfl fun h4 n4=>⟨_,rda n4.rd rfl,?_⟩⟩⟩
  rw [toList_mkStr,toList_mkStr]
  have et:l.take (p+1)=l.take p++[l[p]]:=List.take_succ_eq_append_getElem hlt'
  have en:atP s (l.take (p+1))=(atP s [l[p]]).map (· + p):=by
   rw [et,atP_append,np,List.length_take,Nat.min_eq_left (Nat.le_of_lt hlt')]
  refine cs (fun heq=>?_) fun hne=>?_
  ·have e1:atP s l=some p:=by
    rw [← List.take_append_drop (p+1) l,atP_append,en]
    have:atP s [l[p]]=some 0:=if_pos (eq_of_beq heq)
    rw [this]
    show some (0+p)=_
    rw [Nat.zero_add]
   have hK:=hK h4 (f2.new n4)
   unfold atI at hK
   rw [e1] at hK
   exact hK
  ·rw [wrap_i64 (by omega) (by omega)]
   refine ⟨⟨p+1,by omega,by omega,f2.new n4,?_⟩,falls hlt⟩
   have hne:(l[p].1 == s)=false:=hne
   rw [en]
   have:atP s [l[p]]=none:=if_neg (fun y=>by rw [y,beq_self_eq_true] at hne; cases hne)
   rw [this]; rfl
 ·rw [List.take_of_length_le (by omega)] at np
  have hK:=hK h2 f2
  unfold atI at hK
  rw [np] at hK
  exact hK
theorem sl_put {h h':Heap} {b o l c i:Nat} {xs:List PC} {y:PC} {F:Nat→Prop} (s:Sl h 2 (some ⟨b,o,none⟩) l c (xs.flatMap pcV) F) (hi:i<xs.length) (d:Did b h h' (put (rd h b) (o+i*2) (pcV y))):Sl h' 2 (some ⟨b,o,none⟩) l c ((xs.set i y).flatMap pcV) F :=
 Sl.putPart (f:=pcV) (w:=2) s (fun x _=>pc_len x) hi (pc_len y) d
theorem plain_spec {h:Heap} {a:Option Addr} {L c:Nat} {l:List PC} {k v:Int} {s:Tm.Txt} {K:Value→Heap→Prop} (Z:SlCells h a (l.flatMap pcV)) (hl:l.length=L) (hm:L≤100000000)
  (hK:∀ h' a' c',Fr No h h'→SlCells h' a' ((plainM l k s v).1.flatMap pcV)→(a'=a∨∀ p,a'=some p→h.size≤p.block∧p.block<h'.size)→K (.tuple #[.slice a' (plainM l k s v).1.length c',.int .i64 (plainM l k s v).2.1,.int .i64 (plainM l k s v).2.2]) h'):C.bolelaw15_plain a L c k (mkStr s) v h K:=by
 have lf:(l.flatMap pcV).length=L*2:=by rw [flat_length pcV 2 _ (fun x _=>pc_len x),hl]
 have no:∀ (h':Heap) (e:Int),Fr No h h'→plainM l k s v=(l,0,e)→K (.tuple #[.slice a L c,.int .i64 0,.int .i64 e]) h':=fun h' e f e0=>by
  have hK:=hK h' a c f
  rw [e0] at hK
  have:=hK (SlCells.fr f Z fun _ _ y=>y) (.inl rfl)
  rw [hl] at this
  exact this
 refine bolelaw15_plain.ok ⟨l.flatMap pcV,lf,Z,row_one l,?_⟩
 refine append_own (elem:=ti49) (F:=From h.size) (xs:=[]) (Sl.nil _ _ _) lf rfl (by show (0+L)*24≤_; omega) (by omega) fun a2 c2 h2 f2 s2=>?_
 have z2:=f2.size
 have F2:Fr No h h2:=f2.mono fun b hb y=>by have y:h.size≤b:=y; omega
 rw [List.nil_append] at s2
 rw [Nat.zero_add] at s2 ⊢
 have s2:Sl h2 2 a2 L c2 (l.flatMap pcV) (From h.size):=s2.mono fun b hb=>hb.elim id id
 refine at_spec s2.cells hl (by omega) fun h3 f3=>⟨_,rfl,?_⟩
 have z3:=f3.size
 have F3:=F2.no f3
 have s3:Sl h3 2 a2 L c2 (l.flatMap pcV) (From h.size):=s2.fr f3 fun _ _ _ y=>y
 -- a cell is set
 have set_:∀ (hh:Heap) (a3:Option Addr) (m c3 i:Nat) (ms:List PC),Fr No h hh→Sl hh 2 a3 m c3 (ms.flatMap pcV) (From h.size)→ms.length=m→i<m→plainM l k s v=(ms.set i (s,v),0,0)→bolelaw15_plain.k1 (mkStr s) v a3 m c3 (i:Int) hh K:=fun hh a3 m c3 i ms f sm lm hi e0=>by
  unfold bolelaw15_plain.k1
  cases a3 with
  | none=>have:m=0:=sm.2.1; omega
  | some p =>
   obtain ⟨b,o,sp⟩:=p
   have ep:sp=none:=sm.2.1
   subst ep
   have zf:=f.size
   have hb:h.size≤b:=sm.2.2.1
   have rm:=sm.wr.2
   refine ⟨⟨by omega,by omega⟩,os (PutRow.add sm.wr.1 rfl (pc_one (s,v)) (by rw [Int.toNat_natCast]; omega) fun h9 d9=>?_)⟩
   rw [Int.toNat_natCast] at d9
   have s9:=sl_put (y:=(s,v)) sm (show i<ms.length by omega) d9
   have z9:=d9.size
   have hK:=hK h9 (some ⟨b,o,none⟩) c3 (f.did d9 fun hl=>by omega)
   rw [e0] at hK
   have:=hK s9.cells (.inr fun p hp=>by cases hp; exact ⟨hb,by have:=s9.wr.1.lt; exact this⟩)
   rw [List.length_set,lm] at this
   exact this
 have pm:atP s l=none∨∃ p,atP s l=some p∧p<L:=by
  cases hp:atP s l with
  | none=>exact .inl rfl
  | some p=>exact .inr ⟨p,rfl,by rw [← hl]; exact atP_some hp⟩
 refine ce (fun k0=>?_) fun k0=>?_
 ·rcases pm with hp|⟨p,hp,hpl⟩
  ·have e1:atI s l = -1:=by unfold atI; rw [hp]
   rw [e1]
   refine cf rfl (at_spec (s:=[]) s3.cells hl (by omega) fun h4 f4=>⟨_,rfl,?_⟩)
   have F4:=F3.no f4
   have s4:Sl h4 2 a2 L c2 (l.flatMap pcV) (From h.size):=s3.fr f4 fun _ _ _ y=>y
   cases hq:atP [] l with
   | some q =>
    have e2:atI [] l=(q:Int):=by unfold atI; rw [hq]
    have hq':=atP_some hq
    rw [e2,decide_eq_false (by omega)]
    refine cf rfl (set_ h4 a2 L c2 q l F4 s4 hl (by omega) ?_)
    unfold plainM; rw [if_pos k0,hp,hq]
   | none =>
    have e2:atI [] l = -1:=by unfold atI; rw [hq]
    rw [e2]
    refine ct rfl ⟨fun ma ml mc j hh=>∃ q:Nat,j=q∧q≤16∧ml=L+q∧Fr No h hh∧Sl hh 2 ma ml mc ((l++List.replicate q ([],0)).flatMap pcV) (From h.size),fun _ _ _ j _=>(16 - j).toNat,⟨0,rfl,by omega,rfl,F4,by rw [List.replicate_zero,List.append_nil]; exact s4⟩,?_⟩
    rintro ma ml mc j h5 ⟨q,rfl,hq16,rfl,f5,s5⟩
    refine cd (fun hj=>⟨rfl,New.intro fun h6 n6=>⟨pcV ([],0),rfl,cellsAll n6.rd,pc_one _,?_⟩⟩) fun hj=>?_
    ·have z6:=n6.size
     have z5:=f5.size
     refine append_own (elem:=ti49) (s5.fr n6.fr fun _ _ _ y=>y) rfl rfl (by show (L+q+1)*24≤_; omega) (by omega) fun a7 c7 h7 f7 s7=>?_
     rw [wrap_i64 (by omega) (by omega)]
     refine ⟨⟨q+1,by omega,by omega,by omega,(f5.new n6).trans f7 fun b hb y=>by have y:h.size≤b:=y; omega,?_⟩,by show (16 - ((q:Int)+1)).toNat<(16 - (q:Int)).toNat; omega⟩
     rw [List.replicate_succ',← List.append_assoc,List.flatMap_append]
     rw [show ([([],0)]:List PC).flatMap pcV=pcV ([],0) from rfl]
     exact s7.mono fun b hb=>hb.elim id fun y=>by show h.size≤b; omega
    ·have:q=16:=by omega
     subst this
     refine set_ h5 ma (L+16) mc L _ f5 s5 (by rw [List.length_append,List.length_replicate,hl]) (by omega) ?_
     unfold plainM; rw [if_pos k0,hp,hq,hl]
  ·have e1:atI s l=(p:Int):=by unfold atI; rw [hp]
   rw [e1,decide_eq_true (by omega)]
   exact ct rfl (no h3 150 F3 (by unfold plainM; rw [if_pos k0,hp]))
 ·rcases pm with hp|⟨p,hp,hpl⟩
  ·have e1:atI s l = -1:=by unfold atI; rw [hp]
   rw [e1]
   exact ct rfl (no h3 160 F3 (by unfold plainM; rw [if_neg k0,hp]))
  ·have e1:atI s l=(p:Int):=by unfold atI; rw [hp]
   have hpl':p<l.length:=by omega
   rw [e1,decide_eq_false (by omega)]
   refine cf rfl ?_
   cases a2 with
   | none=>have:L=0:=s3.2.1; omega
   | some q =>
    obtain ⟨b,o,sp⟩:=q
    have ep:sp=none:=s3.2.1
    subst ep
    have hb:h.size≤b:=s3.2.2.1
    have rm:=s3.wr.2
    obtain ⟨q,eq,cq⟩:=pc_at s3.cells hpl'
    cases eq
    have c1:cellOf h3 (Addr.add (Addr.add ⟨b,o,none⟩ ((Int.toNat (p:Int))*2)) 1)=some (.int .i64 (l[p]).2):=by
     rw [Int.toNat_natCast]
     exact Cells.cell cq (i:=1) rfl
    refine ⟨⟨by omega,by omega⟩,os ⟨_,c1,⟨by omega,by omega⟩,os (PutRow.add s3.wr.1 rfl (pc_one (s,v)) (by rw [Int.toNat_natCast]; omega) fun h10 d10=>?_)⟩⟩
    rw [Int.toNat_natCast] at d10
    have s10:=sl_put (y:=(s,v)) s3 hpl' d10
    have z10:=d10.size
    have F10:=F3.did d10 fun hl=>by omega
    have eg:(l.getD p ([],0)).2=(l[p]).2:=by rw [List.getD_eq_getElem?_getD,List.getElem?_eq_getElem hpl']; rfl
    have e0:plainM l k s v=(l.set p (if k=1 then ([],0) else (s,v)),(l[p]).2,0):=by unfold plainM; rw [if_neg k0,hp,← eg]
    have hK:=fun h'=>hK h' (some ⟨b,o,none⟩) c2
    rw [e0] at hK
    refine ce (fun k1=>⟨⟨by omega,by omega⟩,os (PutRow.add s10.wr.1 rfl (pc_one ([],0)) (by have:=s10.wr.2; rw [Int.toNat_natCast]; omega) fun h11 d11=>?_)⟩) fun k1=>?_
    ·rw [Int.toNat_natCast] at d11
     have s11:=sl_put (y:=([],0)) s10 (by rw [List.length_set]; exact hpl') d11
     rw [List.set_set] at s11
     have z11:=d11.size
     rw [if_pos k1] at hK
     have:=hK h11 (F10.did d11 fun hl=>by omega) s11.cells (.inr fun p hp=>by cases hp; exact ⟨hb,s11.wr.1.lt⟩)
     rw [List.length_set,hl] at this
     exact this
    ·rw [if_neg k1] at hK
     have:=hK h10 F10 s10.cells (.inr fun p hp=>by cases hp; exact ⟨hb,s10.wr.1.lt⟩)
     rw [List.length_set,hl] at this
     exact this
theorem insN_take {c:E}:∀ {k:Nat} {out:List E},k≤out.length→(∀ j (hj:j<out.length),j<k→bytesLess out[j].name c.name=true)→(∀ hj:k<out.length,bytesLess out[k].name c.name=false)→insN c out=out.take k++c::out.drop k
 | 0,[],_,_,_=>rfl
 | 0,x::r,_,_,h=>by
  have:=h (Nat.succ_pos _)
  unfold insN
  rw [if_neg (by rw [show bytesLess x.name c.name=false from this]; decide)]; rfl
 | k+1,[],hk,_,_=>absurd hk (Nat.not_succ_le_zero _)
 | k+1,x::r,hk,h1,h2=>by
  have h0:=h1 0 (Nat.succ_pos _) (Nat.succ_pos _)
  have ih:=insN_take (c:=c) (k:=k) (out:=r) (Nat.le_of_succ_le_succ hk) (fun j hj hlt=>h1 (j+1) (Nat.succ_lt_succ hj) (Nat.succ_lt_succ hlt)) fun hj=>h2 (Nat.succ_lt_succ hj)
  unfold insN
  rw [if_pos (show bytesLess x.name c.name=true from h0),ih]; rfl
theorem insN_len (c:E) (l:List E):(insN c l).length=l.length+1:=by rw [(insN_perm c l).length_eq]; rfl
theorem ent_one (l:List E):∀ v ∈ l.flatMap E.v,v.oneCell'=true:=fun v hv=>by
 obtain ⟨c,_,hc⟩:=List.mem_flatMap.mp hv
 exact E.one c v hc
theorem flat_take (l:List E) (k:Nat):(l.take k).flatMap E.v=(l.flatMap E.v).take (k*3):=by
 by_cases hk:k≤l.length
 ·have e:l.flatMap E.v=(l.take k).flatMap E.v++(l.drop k).flatMap E.v:=by rw [← List.flatMap_append,List.take_append_drop]
  have len:((l.take k).flatMap E.v).length=k*3:=by rw [flat_length E.v 3 _ (fun x _=>E.len x),List.length_take,Nat.min_eq_left hk]
  rw [e,← len,List.take_left]
 ·rw [List.take_of_length_le (by omega),List.take_of_length_le]
  rw [flat_length E.v 3 _ (fun x _=>E.len x)]; omega
theorem flat_drop (l:List E) (k:Nat) (hk:k≤l.length):(l.drop k).flatMap E.v=(l.flatMap E.v).drop (k*3):=by
 have e:l.flatMap E.v=(l.take k).flatMap E.v++(l.drop k).flatMap E.v:=by rw [← List.flatMap_append,List.take_append_drop]
 have len:((l.take k).flatMap E.v).length=k*3:=by rw [flat_length E.v 3 _ (fun x _=>E.len x),List.length_take,Nat.min_eq_left hk]
 conv=>rhs; rw [e,← len,List.drop_left]
theorem entries_spec {h:Heap} {a:Option Addr} {L c:Nat} {l:List PC} {K:Value→Heap→Prop} (Z:SlCells h a (l.flatMap pcV)) (hl:l.length=L) (hm:L≤100000000)
  (hK:∀ h' a' c',Fr No h h'→Sl h' 3 a' (entGo 0 l []).length c' ((entGo 0 l []).flatMap E.v) (From h.size)→K (.slice a' (entGo 0 l []).length c') h'):C.bolelaw15_entries a L c h K:=by
 refine bolelaw15_entries.ok ⟨fun oa ol oc j hh=>∃ (p:Nat) (out:List E),j=p∧p≤L∧Fr No h hh∧ol=out.length∧out.length≤p∧Sl hh 3 oa ol oc (out.flatMap E.v) (From h.size)∧entGo 0 l []=entGo p (l.drop p) out,fun _ _ _ j _=>((L:Int) - j).toNat,⟨0,[],rfl,Nat.zero_le _,Fr.refl _ _,rfl,Nat.zero_le _,Sl.nil _ _ _,rfl⟩,?_⟩
 rintro oa ol oc j h2 ⟨p,out,rfl,hp,f2,rfl,ho,s2,e⟩
 have z2:=f2.size
 refine cd (fun hlt=>?_) fun hlt=>?_
 rotate_left
 ·have:p=L:=by omega
  rw [List.drop_of_length_le (by omega)] at e
  have e:entGo 0 l []=out:=e
  rw [e] at hK
  exact hK h2 oa oc f2 s2
 have hlt':p<l.length:=by omega
 obtain ⟨a0,ea,ca⟩:=pc_at Z hlt'
 subst ea
 have Z2:Cells h2 (a0.add (p*2)) (pcV l[p]):=Cells.fr f2 ca fun y=>y
 have ed:l.drop p=l[p]::l.drop (p+1):=List.drop_eq_getElem_cons hlt'
 refine ⟨⟨by omega,hlt⟩,os ⟨_,rfl,Z2,NewRow.intro rfl (pc_one _) rfl fun h4 n4=>⟨_,rda n4.rd rfl,?_⟩⟩⟩
 rw [toList_mkStr,toList_mkStr]
 have z4:=n4.size
 have s4:Sl h4 3 oa out.length oc (out.flatMap E.v) (From h.size):=s2.fr n4.fr fun _ _ _ y=>y
 rw [ed] at e
 refine cs (fun heq=>?_) fun hne=>?_
 ·rw [wrap_i64 (by omega) (by omega)]
  refine ⟨⟨p+1,out,by omega,by omega,f2.new n4,rfl,by omega,s4,?_⟩,falls hlt⟩
  rw [e]
  conv=>lhs; unfold entGo
  exact if_pos (eq_of_beq heq)
 have hne:¬ l[p].1=[]:=fun y=>by
  have hne:(l[p].1 == ([]:Tm.Txt))=false:=hne
  rw [y,beq_self_eq_true] at hne; cases hne
 have e:entGo 0 l []=entGo (p+1) (l.drop (p+1)) (insN ⟨p,l[p].1,l[p].2⟩ out):=by
  rw [e]
  conv=>lhs; unfold entGo
  exact if_neg hne
 -- the entry is put in
 have K1:∀ (k:Nat),k≤out.length→insN ⟨p,l[p].1,l[p].2⟩ out=out.take k++⟨p,l[p].1,l[p].2⟩::out.drop k→bolelaw15_entries.k1 oa out.length oc (p:Int) h2 (fun oa ol oc j hh=>∃ (p:Nat) (out:List E),j=p∧p≤L∧Fr No h hh∧ol=out.length∧out.length≤p∧Sl hh 3 oa ol oc (out.flatMap E.v) (From h.size)∧entGo 0 l []=entGo p (l.drop p) out) (fun _ _ _ j _=>((L:Int) - j).toNat) (k:Int) h4 K:=by
  intro k hk ei
  have hco:=s4.le
  have lt:((out.take k).flatMap E.v).length=k*3:=by rw [flat_length E.v 3 _ (fun x _=>E.len x),List.length_take,Nat.min_eq_left hk]
  unfold bolelaw15_entries.k1
  rw [Int.toNat_natCast]
  refine ⟨⟨by omega,by omega⟩,(out.take k).flatMap E.v,lt,?_,ent_one _,?_⟩
  ·rw [flat_take]; exact SlCells.take s4.cells _
  refine append_own (elem:=ti113) (F:=From h4.size) (xs:=[]) (Sl.nil _ _ _) lt rfl (by show (0+k)*32≤_; omega) (by omega) fun a7 c7 h7 f7 s7=>?_
  have z7:=f7.size
  rw [List.nil_append] at s7
  have s7:Sl h7 3 a7 (0+k) c7 ((out.take k).flatMap E.v) (From h4.size):=s7.mono fun b hb=>hb.elim id id
  have f47:Fr No h4 h7:=f7.mono fun b hb y=>by have y:h4.size≤b:=y; omega
  have r7:rd h7 h2.size=pcV l[p]:=(f47.rd (by omega) fun y=>y).trans n4.rd
  refine ⟨_,rda r7 rfl,_,rda r7 rfl,rfl,New.intro fun h8 n8=>⟨E.v ⟨p,l[p].1,l[p].2⟩,rfl,cellsAll n8.rd,E.one _,?_⟩⟩
  have z8:=n8.size
  refine append_own (elem:=ti113) (s7.fr n8.fr fun _ _ _ y=>y) rfl rfl (by show (0+k+1)*32≤_; omega) (by omega) fun a9 c9 h9 f9 s9=>?_
  have z9:=f9.size
  have s9:Sl h9 3 a9 (0+k+1) c9 ((out.take k).flatMap E.v++E.v ⟨p,l[p].1,l[p].2⟩) (From h4.size):=s9.mono fun b hb=>hb.elim id fun y=>by show h4.size≤b; omega
  have f49:Fr No h4 h9:=(f47.new n8).trans f9 fun b hb y=>by have y:h4.size≤b:=y; omega
  have ld:((out.drop k).flatMap E.v).length=(out.length - k)*3:=by rw [flat_length E.v 3 _ (fun x _=>E.len x),List.length_drop]
  refine ⟨⟨by omega,by omega⟩,(out.drop k).flatMap E.v,ld,?_,ent_one _,?_⟩
  ·have s49:SlCells h9 oa (out.flatMap E.v):=SlCells.fr f49 s4.cells fun _ _ y=>y
   rw [flat_drop _ _ hk]
   by_cases hc:oc=k
   ·rw [if_pos hc]
    have:(out.flatMap E.v).drop (k*3)=[]:=List.drop_of_length_le (by rw [flat_length E.v 3 _ (fun x _=>E.len x)]; omega)
    rw [this]
    cases oa with
    | none=>rfl
    | some q=>exact Cells.nil _ _
   ·rw [if_neg hc]; exact SlCells.drop s49 _
  refine append_own (elem:=ti113) s9 ld rfl (by show (0+k+1+(out.length - k))*32≤_; omega) (by omega) fun a10 c10 h10 f10 s10=>?_
  have z10:=f10.size
  rw [wrap_i64 (by omega) (by omega)]
  refine ⟨⟨p+1,insN ⟨p,l[p].1,l[p].2⟩ out,by omega,by omega,((f2.new n4).no f49).trans f10 fun b hb y=>by have y:h4.size≤b:=y; omega,by rw [insN_len]; omega,by rw [insN_len]; omega,?_,e⟩,falls hlt⟩
  rw [ei,List.flatMap_append,List.flatMap_cons,← List.append_assoc]
  exact s10.mono fun b hb=>hb.elim (fun y=>by have y:h4.size≤b:=y; show h.size≤b; omega) fun y=>by show h.size≤b; omega
 refine ⟨fun k hh=>∃ q:Nat,k=q∧q≤out.length∧hh=h4∧∀ j (hj:j<out.length),j<q→bytesLess out[j].name l[p].1=true,fun k _=>((out.length:Int) - k).toNat,⟨0,rfl,Nat.zero_le _,rfl,fun j _ y=>absurd y (Nat.not_lt_zero _)⟩,?_⟩
 rintro k _ ⟨q,rfl,hq,rfl,less⟩
 refine cd (fun hk=>?_) fun hk=>?_
 ·have hk':q<out.length:=by omega
  obtain ⟨b0,eb,cb⟩:=ent_at s4.cells hk'
  subst eb
  refine ⟨⟨by omega,hk⟩,os ⟨_,Cells.cell cb (i:=1) rfl,_,rda n4.rd rfl,?_⟩⟩
  rw [toList_mkStr,toList_mkStr]
  refine cs (fun hb=>?_) fun hb=>?_
  ·rw [wrap_i64 (by omega) (by omega)]
   refine ⟨⟨q+1,by omega,by omega,rfl,fun j hj hlt2=>?_⟩,falls hk⟩
   rcases Nat.lt_or_ge j q with h|h
   ·exact less j hj h
   ·have:j=q:=by omega
    subst this
    exact hb
  ·exact K1 q hq (insN_take hq (fun j hj hlt2=>less j hj hlt2) fun hj=>hb)
 ·have:q=out.length:=by omega
  subst this
  exact K1 _ (Nat.le_refl _) (insN_take (Nat.le_refl _) (fun j hj hlt2=>less j hj hlt2) fun hj=>absurd hj (Nat.lt_irrefl _))
theorem sameEntries_spec {a b:Option Addr} {l m c c2:Nat} {xs ys:List E} {h:Heap} {K:Value→Heap→Prop} (A:SlCells h a (xs.flatMap E.v)) (hxl:xs.length=l) (B:SlCells h b (ys.flatMap E.v)) (hyl:ys.length=m) (hl:l≤140737488355328) (hK:K (.bool (decide (xs=ys))) h):C.bolelaw15_sameEntries a l c b m c2 h K:=by
 refine bolelaw15_sameEntries.ok (cn (fun hne=>?_) fun heq=>?_)
 ·have:xs≠ys:=by rintro rfl; omega
  rw [decide_eq_false this] at hK; exact hK
 ·refine ⟨fun i hh=>0≤i∧i≤l∧h=hh∧xs.take i.toNat=ys.take i.toNat,fun i _=>((l:Int) - i).toNat,⟨by omega,by omega,rfl,rfl⟩,?_⟩
  rintro i _ ⟨i0,i1,rfl,e⟩
  refine cd (fun hi=>?_) fun hi=>?_
  ·have hx:i.toNat<xs.length:=by omega
   have hy:i.toNat<ys.length:=by omega
   obtain ⟨p,rfl,ca⟩:=ent_at A hx
   obtain ⟨q,rfl,cb⟩:=ent_at B hy
   refine ⟨⟨i0,hi⟩,os ⟨_,rfl,ca,⟨i0,by omega⟩,os ⟨_,rfl,cb,E.eq.1,cnot ?_⟩⟩⟩
   rw [E.eq.2]
   refine cd (fun heq2=>?_) fun hne=>?_
   ·rw [wrap_i64 (by omega) (by omega)]
    refine ⟨⟨by omega,by omega,rfl,?_⟩,falls hi⟩
    rw [show (i+1).toNat=i.toNat+1 by omega,List.take_succ_eq_append_getElem hx,List.take_succ_eq_append_getElem hy,e,heq2]
   ·have:xs≠ys:=by rintro rfl; exact hne rfl
    rw [decide_eq_false this] at hK; exact hK
  ·rw [List.take_of_length_le (by omega),List.take_of_length_le (by omega)] at e
   rw [decide_eq_true e] at hK; exact hK
end Go.Proofs.YtiapingedfnlnaaGreatDoor.Di
namespace Go.Proofs.YtiapingedfnlnaaGreatDoor.Di
open Go Go.Proofs Wx Hp W Ad Tm Bt Spc Av Ss
open In (encR)
open Fi (Ly Ib cok)
open Bm (Z0)
open Sk (E nameOk ents)
def StD (n u:Nat) (T:TM) (v:Nat→List PC):Prop:=∃ (Z:Nat→Tm.Txt) (R:Nat→List Int) (H:Nat→List Cl),Dd n u [] Z T 1 (R 0) (H 0) 2 (R 1) (H 1)∧∀ k,k<2→Nm 40 (H k)∧v k=(H k).map toP
def upd {α:Type} (f:Nat→α) (k:Nat) (x:α):Nat→α:=fun j=>if j=k then x else f j
theorem StD.op {n u k q:Nat} {T:TM} {v:Nat→List PC} {kd:Int} {w:Nat} (d:Dim n) (s:StD n u T v) (hA:(geoN n).data - 98<60) (hu:u+20<n) (hk:k<2) (hq:q<40) (hw:1≤w∧w<(geoN n).count) :
  ∃ T',opM T (geoN n) ((1+k:Nat):Int) kd (nm q) (w:Int)=(T',(plainM (v k) kd (nm q) w).2.1,(plainM (v k) kd (nm q) w).2.2)∧StD n u T' (upd v k (plainM (v k) kd (nm q) w).1)∧T'.undo.length≤T.undo.length+20:=by
 obtain ⟨Z,R,H,D,hs⟩:=s
 have hA:([]:List Int).length+((geoN n).data - 98)<60:=by rw [List.length_nil,Nat.zero_add]; exact hA
 obtain ⟨N0,e0⟩:=hs 0 (by decide)
 obtain ⟨N1,e1⟩:=hs 1 (by decide)
 rcases (by omega:k=0∨k=1) with rfl|rfl
 ·obtain ⟨Z',T',R',H',eo,em,D',N',un⟩:=D.op d N0 hA (by decide) hu (k:=kd) hq hw
  rw [← e0] at eo em
  refine ⟨T',eo,⟨Z',upd R 0 R',upd H 0 H',D',fun j hj=>?_⟩,un⟩
  rcases (by omega:j=0∨j=1) with rfl|rfl
  ·exact ⟨N',em⟩
  ·exact ⟨N1,e1⟩
 ·obtain ⟨Z',T',R',H',eo,em,D',N',un⟩:=D.sym.op d N1 hA (by decide) hu (k:=kd) hq hw
  rw [← e1] at eo em
  refine ⟨T',eo,⟨Z',upd R 1 R',upd H 1 H',D'.sym,fun j hj=>?_⟩,un⟩
  rcases (by omega:j=0∨j=1) with rfl|rfl
  ·exact ⟨N0,e0⟩
  ·exact ⟨N',em⟩
structure EndD_ (n:Nat) (T:TM) (k:Nat) (l:List PC):Prop where
 list:listD T (geoN n) ((1+k:Nat):Int)=(entGo 0 l [],0)
 blocks:Fi.blocksM T (geoN n) ((1+k:Nat):Int)=(((l.length / 16:Nat):Int),0)
 all:(Fi.getF T (geoN n) ((1+k:Nat):Int)).2=0→(Bm.allM T (geoN n) (Fi.getF T (geoN n) ((1+k:Nat):Int)).1).1.length+(Bm.allM T (geoN n) (Fi.getF T (geoN n) ((1+k:Nat):Int)).1).2.1.length<1000000000000
 find:∀ q,q<40→findD T (geoN n) ((1+k:Nat):Int) (nm q)=match atP (nm q) l with
  | some p=>((l.getD p ([],0)).2,0)
  | none=>(0,160)
 len:l.length≤160
theorem end_one {n u i j:Nat} {A:List Int} {Z:Nat→Tm.Txt} {T:TM} {R S:List Int} {H J:List Cl} (d:Dim n) (D:Dd n u A Z T i R H j S J) (N:Nm 40 H) {k:Nat} (hi:i=1+k):EndD_ n T k (H.map toP):=by
 subst hi
 have eg:Fi.getF T (geoN n) ((1+k:Nat):Int)=(R,0):=by
  have kd:=D.di.kind
  unfold Fi.getF
  rw [Fi.getM_at D.av d D.ri.1 D.ri.2,D.gi]
  exact if_neg fun y=>by have:=y.2; have this:R.getD 0 0=0:=this; omega
 refine ⟨?_,?_,fun _=>?_,fun q hq=>?_,?_⟩
 ·rw [D.list d,entGo_sort D.di.good N.uq]
 ·rw [D.blocks d,List.length_map]
 ·rw [eg]
  have a2:=(Fi.all_len D.av D.w).2
  have ml:=Fi.many_le Z R
  show (Bm.allM T (geoN n) R).1.length+(Bm.allM T (geoN n) R).2.1.length<_
  omega
 ·have ok:=nm_ok q (by omega)
  rw [D.find d ok,atP_pos (name_ne ok) D.di.good]
  cases pos (nm q) H with
  | none=>rfl
  | some p =>
   show ((((H.getD p (0,[])).1:Nat):Int),(0:Int))=(((H.map toP).getD p ([],0)).2,0)
   rw [map_getD]; rfl
 ·rw [List.length_map]; exact D.di.most
theorem StD.fin {n u k:Nat} {T:TM} {v:Nat→List PC} (d:Dim n) (s:StD n u T v) (hk:k<2):EndD_ n T k (v k):=by
 obtain ⟨Z,R,H,D,hs⟩:=s
 obtain ⟨N,e⟩:=hs k hk
 rw [e]
 rcases (by omega:k=0∨k=1) with rfl|rfl
 ·exact end_one d D N rfl
 ·exact end_one d D.sym N rfl
theorem StD.len {n u k:Nat} {T:TM} {v:Nat→List PC} (s:StD n u T v) (hk:k<2):(v k).length≤160:=by
 obtain ⟨Z,R,H,D,hs⟩:=s
 obtain ⟨N,e⟩:=hs k hk
 rw [e,List.length_map]
 rcases (by omega:k=0∨k=1) with rfl|rfl
 ·exact D.di.most
 ·exact D.dj.most
structure RowB (h hh:Heap) (F:Nat→Prop) (nb:Nat) (a:Option Addr) (l:List PC):Prop where
 c:SlCells hh a (l.flatMap pcV)
 b:∀ p,a=some p→h.size≤p.block∧p.block<hh.size∧¬ F p.block∧p.block≠nb
def nowV (v:Nat→List PC) (a:Nat→Option Addr) (c:Nat→Nat):List Value:=[.slice (a 0) (v 0).length (c 0),.slice (a 1) (v 1).length (c 1)]
structure Dp (n:Nat) (h:Heap) (gb nb:Nat) (t d:Option Addr) (hh:Heap) (F:Nat→Prop) (T:TM) (v:Nat→List PC) (a:Nat→Option Addr) (c:Nat→Nat):Prop where
 ly:Ly n h gb t d hh F T
 r:rd hh nb=nowV v a c
 o:Own hh nb
 nf:¬ F nb
 lo:h.size≤nb
 ne:nb≠gb
 row:∀ k,k<2→RowB h hh F nb (a k) (v k)
section
variable {n gb nb : Nat} {h hh h' : Heap} {t d : Option Addr} {F F' : Nat → Prop} {T T' : TM} {v : Nat → List PC} {a : Nat → Option Addr} {c : Nat → Nat} {ar : Option Addr} {l : List PC}
theorem RowB.fr (x:RowB h hh F nb ar l) {G:Nat→Prop} (f:Fr G hh h') (hG:∀ b,h.size≤b→b<hh.size→¬ F b→b≠nb→¬ G b):RowB h h' F nb ar l :=
 ⟨SlCells.fr f x.c fun p hp=>by obtain ⟨b1,b2,b3,b4⟩:=x.b p hp; exact hG _ b1 b2 b3 b4,fun p hp=>by obtain ⟨b1,b2,b3,b4⟩:=x.b p hp; have:=f.size; exact ⟨b1,by omega,b3,b4⟩⟩
theorem RowB.no (x:RowB h hh F nb ar l) (f:Fr No hh h'):RowB h h' F nb ar l:=x.fr f fun _ _ _ _ _ y=>y
theorem RowB.call (x:RowB h hh F nb ar l) (f:Fr F hh h') (g:Gw hh F h' F'):RowB h h' F' nb ar l:=by
 have A:=x.fr f fun b _ _ hF _ y=>hF y
 refine ⟨A.c,fun p hp=>?_⟩
 obtain ⟨b1,b2,b3,b4⟩:=x.b p hp
 have:=f.size
 exact ⟨b1,by omega,fun y=>b3 ((g.old _ b2).mp y),b4⟩
theorem Dp.lt (s:Dp n h gb nb t d hh F T v a c):nb<hh.size:=s.o.lt
theorem Dp.no (s:Dp n h gb nb t d hh F T v a c) (f:Fr No hh h'):Dp n h gb nb t d h' F T v a c :=
 ⟨s.ly.no f,(f.rd s.lt fun y=>y).trans s.r,f.own s.lt (fun y=>y) s.o,s.nf,s.lo,s.ne,fun k hk=>(s.row k hk).no f⟩
theorem Dp.call (s:Dp n h gb nb t d hh F T v a c) (f:Fr F hh h') (g:Gw hh F h' F') (x:Tx h' F' t d T'):Dp n h gb nb t d h' F' T' v a c :=
 ⟨s.ly.call f g x,(f.rd s.lt s.nf).trans s.r,f.own s.lt s.nf s.o,fun y=>s.nf ((g.old _ s.lt).mp y),s.lo,s.ne,fun k hk=>(s.row k hk).call f g⟩
theorem now_at {k:Nat} (hk:k<2):(nowV v a c)[k]?=some (.slice (a k) (v k).length (c k)):=by
 rcases (by omega:k=0∨k=1) with rfl|rfl <;> rfl
theorem now_set {k:Nat} (hk:k<2) {x:List PC} {y:Option Addr} {z:Nat}:(nowV v a c).set k (.slice y x.length z)=nowV (upd v k x) (upd a k y) (upd c k z):=by
 rcases (by omega:k=0∨k=1) with rfl|rfl <;> rfl
theorem Dp.cell (s:Dp n h gb nb t d hh F T v a c) {k:Nat} (hk:k<2):cellOf hh (Addr.add ⟨nb,0,none⟩ (Int.toNat (k:Int)))=some (.slice (a k) (v k).length (c k)) :=
 rda s.r (by rw [Int.toNat_natCast,Nat.zero_add]; exact now_at hk)
theorem Dp.put (s:Dp n h gb nb t d hh F T v a c) {k:Nat} (hk:k<2) {x:List PC} {y:Option Addr} {z:Nat} (B:RowB h hh F nb y x) {X:Heap→Prop} (hX:∀ h',Dp n h gb nb t d h' F T (upd v k x) (upd a k y) (upd c k z)→X h') :
  Put (Addr.add ⟨nb,0,none⟩ (Int.toNat (k:Int))) (.slice y x.length z) hh X:=by
 refine Put.add s.o (by rw [s.r,Int.toNat_natCast,Nat.zero_add]; exact hk) fun h' d'=>hX h' ?_
 rw [s.r,Int.toNat_natCast,Nat.zero_add,now_set hk] at d'
 have keep:∀ {ar:Option Addr} {l:List PC},RowB h hh F nb ar l→RowB h h' F nb ar l:=fun B=>B.fr d'.fr fun b _ _ _ hn y=>hn y
 refine ⟨s.ly.did d' s.lo s.ne s.nf,d'.rd,d'.own,s.nf,s.lo,s.ne,fun j hj=>?_⟩
 unfold upd
 by_cases e:j=k
 ·rw [if_pos e,if_pos e]; exact keep B
 ·rw [if_neg e,if_neg e]; exact keep (s.row j hj)
end
structure AcI where
 other:Bool
 kind:Int
 name:Int
 inode:Int
def AcI.v (e:AcI):List Value:=[.bool e.other,.int .i64 e.kind,.int .i64 e.name,.int .i64 e.inode]
theorem ac_one (e:AcI):∀ v ∈ e.v,v.oneCell'=true:=by
 intro v hv; simp only [AcI.v,List.mem_cons,List.not_mem_nil,or_false] at hv; rcases hv with rfl|rfl|rfl|rfl <;> rfl
theorem ac_at {h:Heap} {a:Option Addr} {es:List AcI} {i:Nat} (X:SlCells h a (es.flatMap AcI.v)) (hi:i<es.length):∃ p,a=some p∧Cells h (p.add (i*4)) es[i].v:=by
 cases a with
 | none =>
  have X:es.flatMap AcI.v=[]:=X
  have:=flat_length AcI.v 4 es (fun _ _=>rfl)
  rw [X,List.length_nil] at this
  omega
 | some p =>
  refine ⟨p,rfl,?_⟩
  have:=Cells.part (show Cells h p (es.flatMap AcI.v) from X) (i*4) 4
  rw [flat_part AcI.v 4 _ (fun _ _=>rfl) i hi] at this
  exact this
theorem ent_le : ∀ {l:List PC} {i:Nat} {out:List E},(entGo i l out).length≤out.length+l.length
 | [],_,_=>Nat.le_refl _
 | x::r,i,out=>by
  unfold entGo
  split
  ·have:=ent_le (l:=r) (i:=i+1) (out:=out); rw [List.length_cons]; omega
  ·have:=ent_le (l:=r) (i:=i+1) (out:=insN ⟨i,x.1,x.2⟩ out); rw [insN_len] at this; rw [List.length_cons]; omega
theorem n_dd2 (q:Nat):([110]++dd2 q:Tm.Txt)=nm q:=rfl
theorem dim200 : Dim 200:=⟨by decide,by decide⟩
section
variable {h h2 h4 : Heap} {t d : Option Addr} {K : Value → Heap → Prop}
def PlJ (h h2 h4:Heap) (t d:Option Addr) (L:Nat) (j:Nat) (hh:Heap):Prop:=j≤L∧∃ F T v a c,Dp 200 h h2.size h4.size t d hh F T v a c∧StD 200 102 T v∧T.undo.length≤20*j
theorem DirPlain_k2 {k:Nat} {h10 h15:Heap} {F:Nat→Prop} {T:TM} {v:Nat→List PC} {a:Nat→Option Addr} {c:Nat→Nat} {I2:Int→Heap→Prop} {M2:Int→Heap→Nat} (hk:k<2) (s:Dp 200 h h2.size h4.size t d h15 F T v a c) (st:StD 200 102 T v)
  (hI:∀ hx,Dp 200 h h2.size h4.size t d hx F T v a c→I2 (IntKind.wrap .i64 ((k:Int)+1)) hx∧M2 (IntKind.wrap .i64 ((k:Int)+1)) hx<M2 k h10):bolelaw15_DirPlain.k2 h2 t h4 (k:Int) h10 I2 M2 h15 K:=by
 have E:=st.fin dim200 hk
 have hl:=E.len
 have e1:IntKind.wrap .i64 (1+(k:Int))=((1+k:Nat):Int):=by rw [wrap_i64 (by omega) (by omega)]; omega
 unfold bolelaw15_DirPlain.k2
 refine ⟨fun i hx=>∃ q:Nat,i=q∧q≤40∧Dp 200 h h2.size h4.size t d hx F T v a c,fun i _=>(((40:Nat):Int) - i).toNat,⟨0,rfl,Nat.zero_le _,s⟩,?_⟩
 rintro i h17 ⟨q,rfl,hq,s17⟩
 refine cd (fun hlt=>?_) fun hlt=>hI h17 s17
 have hq':q<40:=by omega
 refine ⟨⟨by omega,by omega⟩,_,_,_,s17.cell hk,named_spec (s:=[110]) (by omega) (by decide) fun h18 f18=>⟨_,rfl,?_⟩⟩
 have s18:=s17.no f18
 rw [n_dd2]
 refine ⟨s18.cell hk,at_spec (s18.row k hk).c rfl (by omega) fun h19 f19=>⟨_,rfl,(geoN 200).v,rfl,cellsAll (s18.no f19).ly.rg,named_spec (s:=[110]) (by omega) (by decide) fun h20 f20=>⟨_,rfl,⟨rfl,cellsAll ((s18.no f19).no f20).ly.rg⟩,?_⟩⟩⟩
 have s20:=(s18.no f19).no f20
 rw [n_dd2,e1]
 refine Find_spec s20.ly.glo dim200 s20.ly.x fun h21 f21=>⟨_,_,rfl,?_⟩
 have s21:=s20.no f21
 have next:(fun i hx=>∃ q:Nat,i=(q:Int)∧q≤40∧Dp 200 h h2.size h4.size t d hx F T v a c) (IntKind.wrap .i64 ((q:Int)+1)) h21∧(fun (i:Int) (_:Heap)=>(((40:Nat):Int) - i).toNat) (IntKind.wrap .i64 ((q:Int)+1)) h21<(fun (i:Int) (_:Heap)=>(((40:Nat):Int) - i).toNat) (q:Int) h17:=by
  rw [wrap_i64 (by omega) (by omega)]
  exact ⟨⟨q+1,by omega,by omega,s21⟩,falls hlt⟩
 have ef:=E.find q hq'
 cases hp:atP (nm q) (v k) with
 | some p =>
  have ea:atI (nm q) (v k)=(p:Int):=by unfold atI; rw [hp]
  have hpl:=atP_some hp
  rw [hp] at ef
  have ef:findD T (geoN 200) ((1+k:Nat):Int) (nm q)=(((v k).getD p ([],0)).2,0):=ef
  rw [ea,ef,decide_eq_true (show (p:Int)≥0 by omega),decide_eq_false (show ¬ (p:Int)<0 by omega)]
  obtain ⟨q0,eq0,cq⟩:=pc_at (s21.row k hk).c hpl
  have eg:((v k).getD p ([],0)).2=((v k)[p]).2:=by rw [List.getD_eq_getElem?_getD,List.getElem?_eq_getElem hpl]; rfl
  refine cnot (ct rfl (ct rfl ⟨⟨by omega,by omega⟩,_,_,_,s21.cell hk,⟨by omega,by omega⟩,?_⟩))
  rw [eq0]
  refine os ⟨_,?_,cn (fun y=>absurd eg y) fun _=>cf rfl next⟩
  rw [Int.toNat_natCast]
  exact Cells.cell cq (i:=1) rfl
 | none =>
  have ea:atI (nm q) (v k) = -1:=by unfold atI; rw [hp]
  rw [hp] at ef
  have ef:findD T (geoN 200) ((1+k:Nat):Int) (nm q)=(0,160):=ef
  rw [ea,ef]
  exact cnot (ct rfl (cf rfl (ct rfl (cn (fun y=>absurd rfl y) fun _=>cn (fun y=>absurd rfl y) fun _=>next))))
theorem DirPlain_k1 {hh:Heap} {F:Nat→Prop} {T:TM} {v:Nat→List PC} {a:Nat→Option Addr} {c:Nat→Nat} (s:Dp 200 h h2.size h4.size t d hh F T v a c) (st:StD 200 102 T v) (hK:∀ h',Fr No h h'→K (.bool true) h'):bolelaw15_DirPlain.k1 h2 t h4 hh K:=by
 unfold bolelaw15_DirPlain.k1
 refine ⟨fun k hx=>∃ q:Nat,k=q∧q≤2∧Dp 200 h h2.size h4.size t d hx F T v a c,fun k _=>(((2:Nat):Int) - k).toNat,⟨0,rfl,Nat.zero_le _,s⟩,?_⟩
 rintro i h10 ⟨k,rfl,hk2,s10⟩
 refine cd (fun hlt=>?_) fun hlt=>hK h10 s10.ly.fr
 have hk:k<2:=by omega
 have E:=st.fin dim200 hk
 have hl:=E.len
 have e1:IntKind.wrap .i64 (1+(k:Int))=((1+k:Nat):Int):=by rw [wrap_i64 (by omega) (by omega)]; omega
 rw [e1]
 refine ⟨(geoN 200).v,rfl,cellsAll s10.ly.rg,List_spec s10.ly.glo dim200 s10.ly.x fun h11 la ll lc f11 hll l11=>⟨_,_,_,_,rfl,(geoN 200).v,rfl,cellsAll (s10.no f11).ly.rg,Size_spec (s10.no f11).ly.glo dim200 (s10.no f11).ly.x fun h12 f12=>⟨_,_,rfl,?_⟩⟩⟩
 have s12:=(s10.no f11).no f12
 have l12:=l11.fr f12 fun _ _ _ y=>y
 rw [E.list] at hll l12 ⊢
 refine ⟨(geoN 200).v,rfl,cellsAll s12.ly.rg,Fi.Blocks_spec s12.ly.glo s12.ly.x (cok dim200) E.all fun h13 f13=>⟨_,_,rfl,⟨by omega,by omega⟩,_,_,_,(s12.no f13).cell hk,?_⟩⟩
 have s13:=s12.no f13
 have l13:=l12.fr f13 fun _ _ _ y=>y
 rw [E.blocks]
 refine entries_spec (s13.row k hk).c rfl (by omega) fun h14 ea ec f14 s14e=>⟨_,_,_,rfl,cn (fun y=>absurd rfl y) fun _=>cn (fun y=>absurd rfl y) fun _=>cn (fun y=>absurd rfl y) fun _=>?_⟩
 have s14:=s13.no f14
 have l14:=l13.fr f14 fun _ _ _ y=>y
 have le:(entGo 0 (v k) []).length≤1000000:=by
  have:=ent_le (l:=v k) (i:=0) (out:=[])
  rw [List.length_nil] at this
  omega
 refine sameEntries_spec l14.cells hll.symm s14e.cells rfl (by rw [hll]; show (entGo 0 (v k) []).length≤_; omega) ⟨_,rfl,?_⟩
 rw [decide_eq_true rfl]
 refine cnot (ct rfl (cn (fun y=>absurd rfl y) fun _=>⟨⟨by omega,by omega⟩,_,_,_,s14.cell hk,cn (fun y=>absurd ?_ y) fun _=>?_⟩))
 ·rw [Int.tdiv_eq_ediv_of_nonneg (by omega),wrap_i64 (by omega) (by omega)]
  show (((v k).length / 16:Nat):Int)=_
  omega
 ·exact DirPlain_k2 hk s14 st fun hx sx=>by
   rw [wrap_i64 (by omega) (by omega)]
   exact ⟨⟨k+1,by omega,by omega,sx⟩,falls hlt⟩
theorem DirPlain_k3 {k j L:Nat} {h6 h8:Heap} {F:Nat→Prop} {T:TM} {v:Nat→List PC} {a:Nat→Option Addr} {c:Nat→Nat} {ac:AcI} (hk:k<2) (hj:j<150) (hjL:j<L) (s:Dp 200 h h2.size h4.size t d h8 F T v a c) (st:StD 200 102 T v) (hu:T.undo.length≤20*j) (hx:rd h8 h6.size=ac.v) (lo6:h.size≤h6.size) (nf6:¬ F h6.size) :
  bolelaw15_DirPlain.k3 h2 t h4 (j:Int) h6 (fun i hx=>∃ q:Nat,i=q∧PlJ h h2 h4 t d L q hx) (fun i _=>((L:Int) - i).toNat) h8 (k:Int) K:=by
 have hl:=st.len hk
 have e1:IntKind.wrap .i64 (1+(k:Int))=((1+k:Nat):Int):=by rw [wrap_i64 (by omega) (by omega)]; omega
 have h6l:h6.size<h8.size:=rd_lt (o:=0) (by rw [hx]; rfl)
 unfold bolelaw15_DirPlain.k3
 refine ⟨_,rda hx rfl,mod_spec (by decide) (by decide) ⟨_,rfl,?_⟩⟩
 obtain ⟨q,eq,hq⟩:∃ q:Nat,ac.name % 40=q∧q<40:=⟨(ac.name % 40).toNat,by omega,by omega⟩
 rw [eq]
 refine named_spec (s:=[110]) (by omega) (by decide) fun h23 f23=>⟨_,rfl,?_⟩
 have s23:=s.no f23
 have hx23:=(f23.rd h6l fun y=>y).trans hx
 rw [n_dd2]
 have ecount:IntKind.wrap .i64 ((geoN 200).count - 1)=23:=by decide
 refine ⟨_,rda hx23 rfl,_,rda s23.ly.rg rfl,?_⟩
 show C.bolelaw15_mod ac.inode (IntKind.wrap .i64 ((geoN 200).count - 1)) h23 _
 rw [ecount]
 refine mod_spec (by decide) (by decide) ⟨_,rfl,_,rda hx23 rfl,mod_spec (by decide) (by decide) ⟨_,rfl,⟨by omega,by omega⟩,_,_,_,s23.cell hk,?_⟩⟩
 obtain ⟨w,ew,hw0,hw1⟩:∃ w:Nat,1+ac.inode % 23=w∧1≤w∧w<24:=⟨(1+ac.inode % 23).toNat,by omega,by omega,by omega⟩
 rw [wrap_i64 (n:=1+ac.inode % 23) (by omega) (by omega),ew]
 refine plain_spec (s23.row k hk).c rfl (by omega) fun h26 a26 c26 f26 z26 b26=>⟨_,_,_,_,_,rfl,?_⟩
 have s26:=s23.no f26
 obtain ⟨T',eo,st',un⟩:=st.op (kd:=ac.kind % 3) (q:=q) (w:=w) dim200 (by decide) (by decide) hk hq ⟨hw0,by show w<(24:Nat); omega⟩
 have B26:RowB h h26 F h4.size a26 (plainM (v k) (ac.kind % 3) (nm q) w).1:=by
  refine ⟨z26,fun p hp=>?_⟩
  rcases b26 with e|e
  ·exact ((s26.row k hk).b p (by rw [← e]; exact hp))
  ·obtain ⟨p1,p2⟩:=e p hp
   have:=s23.ly.fr.size
   have sz:=f23.size
   exact ⟨by omega,p2,fun y=>by have:=s23.ly.x.lt y; omega,by have:=s23.lt; omega⟩
 have hu':T'.undo.length≤20*(j+1):=by omega
 -- the end of an act
 have fin:∀ (h27:Heap) (F':Nat→Prop),Dp 200 h h2.size h4.size t d h27 F' T' v a c→RowB h h27 F' h4.size a26 (plainM (v k) (ac.kind % 3) (nm q) w).1→Put (Addr.add ⟨h4.size,0,none⟩ (Int.toNat (k:Int))) (.slice a26 (plainM (v k) (ac.kind % 3) (nm q) w).1.length c26) h27 fun h28 =>
   (fun i hx=>∃ q:Nat,i=(q:Int)∧PlJ h h2 h4 t d L q hx) (IntKind.wrap .i64 ((j:Int)+1)) h28∧(fun (i:Int) (_:Heap)=>((L:Int) - i).toNat) (IntKind.wrap .i64 ((j:Int)+1)) h28<(fun (i:Int) (_:Heap)=>((L:Int) - i).toNat) (j:Int) h6:=fun h27 F' s27 B27 =>
  s27.put hk B27 fun h28 s28=>by
   rw [wrap_i64 (by omega) (by omega)]
   exact ⟨⟨j+1,by omega,by omega,F',T',_,_,_,s28,st',hu'⟩,falls (by omega)⟩
 have k3:ac.kind % 3=0∨ac.kind % 3=1∨ac.kind % 3=2:=by omega
 rcases k3 with k0|k1|k2
 ·rw [k0] at eo fin B26 ⊢
  have ea:addD T (geoN 200) ((1+k:Nat):Int) (nm q) w=(T',(plainM (v k) 0 (nm q) w).2.2)∧(plainM (v k) 0 (nm q) w).2.1=0:=by
   unfold opM at eo
   rw [if_pos rfl] at eo
   have e1:=congrArg Prod.fst eo
   have e2:=congrArg (fun x=>x.2.1) eo
   have e3:=congrArg (fun x=>x.2.2) eo
   exact ⟨Prod.ext e1 e3,e2.symm⟩
  refine ct rfl ⟨(geoN 200).v,rfl,cellsAll s26.ly.rg,?_⟩
  rw [e1]
  refine Add_spec s26.ly.glo dim200 s26.ly.x s26.ly.g0 (by omega) fun h27 F27 f27 g27 x27=>⟨_,rfl,?_⟩
  rw [ea.1] at x27 ⊢
  rw [ea.2]
  exact cn (fun y=>absurd rfl y) fun _=>cn (fun y=>absurd rfl y) fun _=>⟨⟨by omega,by omega⟩,fin h27 F27 (s26.call f27 g27 x27) (B26.call f27 g27)⟩
 ·rw [k1] at eo fin B26 ⊢
  have ea:removeD T (geoN 200) ((1+k:Nat):Int) (nm q)=(T',(plainM (v k) 1 (nm q) w).2.1,(plainM (v k) 1 (nm q) w).2.2):=by
   unfold opM at eo
   rw [if_neg (by decide),if_pos rfl] at eo
   exact eo
  refine cf rfl (ct rfl ⟨(geoN 200).v,rfl,cellsAll s26.ly.rg,?_⟩)
  rw [e1]
  refine Remove_spec s26.ly.glo dim200 s26.ly.x (by omega) fun h27 F27 f27 g27 x27=>⟨_,_,rfl,?_⟩
  rw [ea] at x27 ⊢
  exact cn (fun y=>absurd rfl y) fun _=>cn (fun y=>absurd rfl y) fun _=>⟨⟨by omega,by omega⟩,fin h27 F27 (s26.call f27 g27 x27) (B26.call f27 g27)⟩
 ·rw [k2] at eo fin B26 ⊢
  have ea:replaceD T (geoN 200) ((1+k:Nat):Int) (nm q) w=(T',(plainM (v k) 2 (nm q) w).2.1,(plainM (v k) 2 (nm q) w).2.2):=by
   unfold opM at eo
   rw [if_neg (by decide),if_neg (by decide)] at eo
   exact eo
  refine cf rfl (cf rfl ⟨(geoN 200).v,rfl,cellsAll s26.ly.rg,?_⟩)
  rw [e1]
  refine Replace_spec s26.ly.glo dim200 s26.ly.x (by omega) fun h27 F27 f27 g27 x27=>⟨_,_,rfl,?_⟩
  rw [ea] at x27 ⊢
  exact cn (fun y=>absurd rfl y) fun _=>cn (fun y=>absurd rfl y) fun _=>⟨⟨by omega,by omega⟩,fin h27 F27 (s26.call f27 g27 x27) (B26.call f27 g27)⟩
end
theorem DirPlain_spec {ea:Option Addr} {el ec:Nat} {es:List AcI} {h:Heap} {K:Value→Heap→Prop} (gl:In.Glo h) (X:SlCells h ea (es.flatMap AcI.v)) (hel:es.length=el) (hll:el≤140737488355328)
  (hK:∀ h',Fr No h h'→K (.bool true) h'):C.bolelaw15_DirPlain ea el ec h K:=by
 refine bolelaw15_DirPlain.ok ?_
 show C.bolelaw15_fresh ((200:Nat):Int) h _
 refine fresh_spec gl dim200 (by decide) fun tb dd F L h2 f2 x2 I lowF=>⟨_,_,rfl,NewRow.intro rfl (G.one _) rfl fun h4 n4=>cf rfl (New.intro fun h5 n5=>?_)⟩
 have z2:=f2.size
 have z4:=n4.size
 have z5:=n5.size
 obtain ⟨f0,_⟩:=dd0 dim200 (by decide) I
 have st0:StD 200 102 ⟨fresh (chunks L),[],[],false⟩ (fun _=>[]):=⟨Z0 L,fun _=>Fi.dirR,fun _=>[],f0,fun k _=>⟨⟨fun p q hp=>absurd hp (Nat.not_lt_zero _),fun x hx=>by cases hx⟩,rfl⟩⟩
 have xl:∀ b,F b→b<h2.size:=fun b hb=>x2.lt hb
 have ly5:Ly 200 h h2.size (some ⟨tb,0,none⟩) dd h5 F ⟨fresh (chunks L),[],[],false⟩:=⟨(f2.new n4).new n5,gl,z2,(n5.at_ (by omega)).trans n4.rd,(x2.no n4.fr).no n5.fr,fun y=>by have:=xl _ y; omega,lowF⟩
 have s5:Dp 200 h h2.size h4.size (some ⟨tb,0,none⟩) dd h5 F ⟨fresh (chunks L),[],[],false⟩ (fun _=>[]) (fun _=>none) (fun _=>0):=⟨ly5,n5.rd,n5.own,fun y=>by have:=xl _ y; omega,by omega,by omega,fun k _=>⟨rfl,fun p hp=>by cases hp⟩⟩
 refine ⟨fun i hx=>∃ q:Nat,i=q∧PlJ h h2 h4 (some ⟨tb,0,none⟩) dd el q hx,fun i _=>((el:Int) - i).toNat,⟨0,rfl,Nat.zero_le _,F,_,_,_,_,s5,st0,Nat.zero_le _⟩,?_⟩
 rintro i h6 ⟨j,rfl,hj,F6,T6,v6,a6,c6,s6,st6,u6⟩
 refine cd (fun hlt=>?_) fun hlt=>DirPlain_k1 s6 st6 hK
 have hlt':j<es.length:=by omega
 have X6:=SlCells.fr s6.ly.fr X fun _ _ y=>y
 obtain ⟨a0,ea,ca⟩:=ac_at X6 hlt'
 subst ea
 refine ⟨⟨by omega,hlt⟩,os ⟨_,rfl,ca,NewRow.intro rfl (ac_one _) rfl fun h8 n8=>?_⟩⟩
 have s8:=s6.no n8.fr
 refine cd (fun h150=>DirPlain_k1 s8 st6 hK) fun h150=>⟨_,rda n8.rd rfl,cs (fun _=>?_) fun _=>?_⟩
 ·show bolelaw15_DirPlain.k3 h2 _ h4 _ h6 _ _ h8 ((1:Nat):Int) K
  exact DirPlain_k3 (ac:=es[j]) (by decide) (by omega) (by omega) s8 st6 u6 n8.rd (by have:=s6.ly.fr.size; omega) fun y=>by have:=s6.ly.x.lt y; omega
 ·show bolelaw15_DirPlain.k3 h2 _ h4 _ h6 _ _ h8 ((0:Nat):Int) K
  exact DirPlain_k3 (ac:=es[j]) (by decide) (by omega) (by omega) s8 st6 u6 n8.rd (by have:=s6.ly.fr.size; omega) fun y=>by have:=s6.ly.x.lt y; omega
end Go.Proofs.YtiapingedfnlnaaGreatDoor.Di
