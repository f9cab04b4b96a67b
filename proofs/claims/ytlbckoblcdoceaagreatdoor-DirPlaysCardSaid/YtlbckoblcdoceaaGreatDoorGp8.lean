/-
  TEXTS FOR dirPlays_card: StA StB.
-/
import Derived.Test.YtlbckoblcdoceaaGreatDoorProg
import Derived.WalkKit
import Derived.LoopTactic
import Derived.StillTailTactics
import Derived.Deep.QuietTactic
import Derived.BigQuiet
import Derived.Sort.Grow
import Derived.Lib.Bytealg
import Derived.Shelf.SlSortCmp.WholeK
import Derived.Shelf.SlSortCmp.NoneTotal
namespace Go.Proofs
open Go Go.RowKit Go.Sort
theorem Tryz.nanS (a:ByteArray) (w:World):Calls Tryz.prog 85 #[.string a] w fun e w'=>e = .returned (.bool false)∧w'=w:=by
 go_enter Tryz.func85,Tryz.ntmps85
 go_wp2
 go_ret
 exact ⟨rfl,rfl⟩
theorem Tryz.nanI (a:Int) (w:World):Calls Tryz.prog 86 #[.int .i64 a] w fun e w'=>e = .returned (.bool false)∧w'=w:=by
 go_enter Tryz.func86,Tryz.ntmps86
 go_wp2
 go_ret
 exact ⟨rfl,rfl⟩
def cmpZ (a b:Int):Int:=if a<b then -1 else if a>b then 1 else 0
theorem Tryz.cmpI (a b:Int) (w:World):Calls Tryz.prog 50 #[.int .i64 a,.int .i64 b] w fun e w'=>e = .returned (.int .i64 (cmpZ a b))∧w'=w:=by
 have h1:a<b→cmpZ a b = -1:=fun h=>by unfold cmpZ; rw [if_pos h]
 have h2:b<a→cmpZ a b=1:=fun h=>by unfold cmpZ; rw [if_neg (by omega),if_pos h]
 have h3:a≤b→b≤a→cmpZ a b=0:=fun h k=>by unfold cmpZ; rw [if_neg (by omega),if_neg (by omega)]
 generalize cmpZ a b=r at h1 h2 h3 ⊢
 go_enter Tryz.func50,Tryz.ntmps50
 go_wp2_with (go_at_call 86; refine (Tryz.nanI _ _).mono ?_; rintro e w' ⟨rfl,rfl⟩)
 ·go_ret
  rw [h1 (by assumption)]; exact ⟨rfl,rfl⟩
 ·go_ret
  rw [h2 (by assumption)]; exact ⟨rfl,rfl⟩
 ·go_ret
  rw [h3 (by assumption) (by assumption)]; exact ⟨rfl,rfl⟩
def cmpT (a b:ByteArray):Int:=if Op.bytesLess a.toList b.toList=true then -1 else if (!(Op.bytesLess a.toList b.toList || a.toList == b.toList))=true then 1 else 0
theorem Tryz.gtrS (a b:ByteArray) (w:World):(binOp .gtr 9 (.string a) (.string b)).run Tryz.prog w = .ok (.bool (!(Op.bytesLess a.toList b.toList || a.toList == b.toList))) w:=by
 simp [go_sem,binOp,Op.stringOp]
theorem Tryz.cmpS (a b:ByteArray) (w:World):Calls Tryz.prog 49 #[.string a,.string b] w fun e w'=>e = .returned (.int .i64 (cmpT a b))∧w'=w:=by
 have hg:=Tryz.gtrS a b
 have h1:Op.bytesLess a.toList b.toList=true→cmpT a b = -1:=fun h=>by unfold cmpT; rw [if_pos h]
 have h2:Op.bytesLess a.toList b.toList=false→(!(Op.bytesLess a.toList b.toList || a.toList == b.toList))=true→cmpT a b=1:=fun h k=>by unfold cmpT; rw [if_neg (by rw [h]; decide),if_pos k]
 have h3:Op.bytesLess a.toList b.toList=false→(!(Op.bytesLess a.toList b.toList || a.toList == b.toList))=false→cmpT a b=0:=fun h k=>by unfold cmpT; rw [if_neg (by rw [h]; decide),if_neg (by rw [k]; decide)]
 generalize cmpT a b=r at h1 h2 h3 ⊢
 generalize (!(Op.bytesLess a.toList b.toList || a.toList == b.toList))=g at hg h2 h3
 go_enter Tryz.func49,Tryz.ntmps49
 go_wp2_with (go_at_call 85; refine (Tryz.nanS _ _).mono ?_; rintro e w' ⟨rfl,rfl⟩)
 ·go_ret
  rw [h1 (by assumption)]; exact ⟨rfl,rfl⟩
 ·go_ret
  rw [h2 (by assumption) (by assumption)]; exact ⟨rfl,rfl⟩
 ·go_ret
  rw [h3 (by assumption) (by assumption)]; exact ⟨rfl,rfl⟩
theorem Tryz.orI (a b:Int) (blk:Nat) (w:World) (ha:w.cell? ⟨blk,0,none⟩=some (.int .i64 a)) (hb:w.cell? ⟨blk,1,none⟩=some (.int .i64 b)):Calls Tryz.prog 48 #[.slice (some ⟨blk,0,none⟩) 2 2] w fun e w'=>e = .returned (.int .i64 (if a=0 then b else a))∧w'=w:=by
 have g1:(a != 0)=true→(if a=0 then b else a)=a:=fun h=>if_neg (by simpa using h)
 have g2:a=0→(if a=0 then b else a)=b:=fun h=>if_pos h
 generalize (if a=0 then b else a)=r at g1 g2 ⊢
 go_enter Tryz.func48,Tryz.ntmps48
 go_wp2
 go_loop [8] (fun i=>i = .int .i64 0∨(i = .int .i64 1∧(a != 0)=false)∨(i = .int .i64 2∧(a != 0)=false∧(b != 0)=false)) (fun i=>2 - (intOf i).toNat)
 case atStart=>exact .inl rfl
 case round =>
  rcases hrel with rfl|⟨rfl,h0⟩|⟨rfl,h0,h1⟩
  ·go_wp2
   ·go_ret
    first|exact ⟨rfl,rfl⟩|(rw [g1 (by assumption)]; exact ⟨rfl,rfl⟩)
   ·go_round
    case rel=>exact .inr (.inl ⟨rfl,by assumption⟩)
    case measure=>simp [intOf]
  ·go_wp2
   ·go_ret
    first|exact ⟨rfl,rfl⟩|(rw [g2 (by simpa using h0)]; exact ⟨rfl,rfl⟩)
   ·go_round
    case rel=>exact .inr (.inr ⟨rfl,h0,by assumption⟩)
    case measure=>simp [intOf]
  ·go_wp2
   go_ret
   have e:b=0:=by simpa using h1
   first|exact ⟨rfl,rfl⟩|(rw [g2 (by simpa using h0),e]; exact ⟨rfl,rfl⟩)
theorem new_cell0 (w:World) (a b:Int) (t:Nat):(w.alloc (Obj.cells #[.int .i64 a,.int .i64 b] t)).cell? ⟨w.heap.size,0,none⟩=some (.int .i64 a):=by
 show (match (w.heap.push (Obj.cells #[.int .i64 a,.int .i64 b] t))[w.heap.size]? with
  | some (.cells c _ _)=>if (none:Option Nat).isSome then none else c[0]?
  | _=>none)=_
 rw [Array.getElem?_push,if_pos rfl]; rfl
theorem new_cell1 (w:World) (a b:Int) (t:Nat):(w.alloc (Obj.cells #[.int .i64 a,.int .i64 b] t)).cell? ⟨w.heap.size,1,none⟩=some (.int .i64 b):=by
 show (match (w.heap.push (Obj.cells #[.int .i64 a,.int .i64 b] t))[w.heap.size]? with
  | some (.cells c _ _)=>if (none:Option Nat).isSome then none else c[1]?
  | _=>none)=_
 rw [Array.getElem?_push,if_pos rfl]; rfl
set_option maxRecDepth 100000 in
set_option maxHeartbeats 1600000 in
theorem Tryz.clo (p1 i1 p2 i2:Int) (s1 s2:ByteArray) (W:World):Calls Tryz.prog 47 #[.agg #[.int .i64 p1,.string s1,.int .i64 i1],.agg #[.int .i64 p2,.string s2,.int .i64 i2]] W fun e w'=>e = .returned (.int .i64 (if cmpT s1 s2=0 then cmpZ p1 p2 else cmpT s1 s2))∧∃ q os',w'=grow (W.drewN q) os':=by
 have hS:=fun W'=>Tryz.cmpS s1 s2 W'
 have hI:=fun W'=>Tryz.cmpI p1 p2 W'
 generalize cmpT s1 s2=r1 at hS ⊢
 generalize cmpZ p1 p2=r2 at hI ⊢
 have hO:=fun W' h1 h2=>Tryz.orI r1 r2 (World.heap W').size (W'.alloc (Obj.cells #[.int .i64 r1,.int .i64 r2] 3)) h1 h2
 generalize (if r1=0 then r2 else r1)=r at hO ⊢
 go_enter Tryz.func47,Tryz.ntmps47
 go_wp2
 generalize hw1:(W.alloc (Obj.cells #[Value.int IntKind.i64 p1,Value.string s1,Value.int IntKind.i64 i1] 79)).alloc (Obj.cells #[Value.int IntKind.i64 p2,Value.string s2,Value.int IntKind.i64 i2] 79)=w1
 have e1:w1=grow W #[Obj.cells #[Value.int IntKind.i64 p1,Value.string s1,Value.int IntKind.i64 i1] 79,Obj.cells #[Value.int IntKind.i64 p2,Value.string s2,Value.int IntKind.i64 i2] 79]:=by
  rw [← hw1,alloc_eq_grow,alloc_eq_grow,grow_grow]; rfl
 have c10:w1.drew.cell? ⟨W.heap.size,0,none⟩=some (.int .i64 p1):=by rw [e1]; simp [World.cell?,World.drew,grow]
 have c11:w1.drew.cell? ⟨W.heap.size,1,none⟩=some (.string s1):=by rw [e1]; simp [World.cell?,World.drew,grow]
 have c20:w1.drew.cell? ⟨W.heap.size+1,0,none⟩=some (.int .i64 p2):=by rw [e1]; simp [World.cell?,World.drew,grow]
 have c21:w1.drew.cell? ⟨W.heap.size+1,1,none⟩=some (.string s2):=by rw [e1]; simp [World.cell?,World.drew,grow]
 clear hw1
 refine wp_region_still_tail 10 (by kernel_rfl) (by kernel_rfl) ?_
 simp only [List.take_succ_cons,List.take_zero,List.drop_succ_cons,List.drop_zero,World.drew_eq]
 generalize hw2:w1.drew=w2 at c10 c11 c20 c21 ⊢
 generalize W.heap.size=n1 at c10 c11 c20 c21 ⊢
 still_step
 still_step
 still_step
 still_step
 still_call (hS _)
 still_step
 still_step
 still_step
 still_step
 still_call (hI _)
 refine wpStill_nil ?_
 go_wp2_with (go_at_call 48; refine (hO w2 (new_cell0 _ _ _ _) (new_cell1 _ _ _ _)).mono ?_; rintro e w' ⟨rfl,rfl⟩)
 ·go_ret
  refine ⟨rfl,1,#[Obj.cells #[Value.int IntKind.i64 p1,Value.string s1,Value.int IntKind.i64 i1] 79,Obj.cells #[Value.int IntKind.i64 p2,Value.string s2,Value.int IntKind.i64 i2] 79] ++ #[Obj.cells #[Value.int IntKind.i64 r1,Value.int IntKind.i64 r2] 3],?_⟩
  rw [alloc_eq_grow,← hw2,e1,← grow_grow]
  rfl
end Go.Proofs
namespace Go.Proofs
open Go Go.Shelf
def Tryz.sortE_ren : Go.Shelf.Ren:=⟨fun|6=>46|15=>84|14=>83|28=>134|29=>135|20=>126|21=>127|22=>128|23=>129|24=>130|25=>131|26=>132|27=>133|46=>174|47=>175|48=>176|49=>177|50=>178|57=>218|n=>n,fun|22=>73|24=>79|25=>115|3=>3|39=>158|0=>0|53=>206|55=>208|4=>4|46=>199|45=>198|50=>203|5=>5|9=>9|66=>243|70=>247|76=>278|77=>279|n=>n,fun n=>n⟩
theorem Tryz.sortE : SlLaysF0.n6 Tryz.prog Tryz.sortE_ren where
 mixed:=by kernel_rfl
 f6 := ⟨ "slices.SortFunc[[]bole/api.Entry,bole/api.Entry]", by decide, Tryz.func46.trans (congrArg some (by kernel_rfl))⟩
 f14 := ⟨ "slices.pdqsortCmpFunc[bole/api.Entry]", by decide, Tryz.func83.trans (congrArg some (by kernel_rfl))⟩
 f15:=Tryz.func84.trans (congrArg some (by kernel_rfl))
 f20 := ⟨ "slices.insertionSortCmpFunc[bole/api.Entry]", by decide, Tryz.func126.trans (congrArg some (by kernel_rfl))⟩
 f21 := ⟨ "slices.heapSortCmpFunc[bole/api.Entry]", by decide, Tryz.func127.trans (congrArg some (by kernel_rfl))⟩
 f22 := ⟨ "slices.breakPatternsCmpFunc[bole/api.Entry]", by decide, Tryz.func128.trans (congrArg some (by kernel_rfl))⟩
 f23 := ⟨ "slices.choosePivotCmpFunc[bole/api.Entry]", by decide, Tryz.func129.trans (congrArg some (by kernel_rfl))⟩
 f24 := ⟨ "slices.reverseRangeCmpFunc[bole/api.Entry]", by decide, Tryz.func130.trans (congrArg some (by kernel_rfl))⟩
 f25 := ⟨ "slices.partialInsertionSortCmpFunc[bole/api.Entry]", by decide, Tryz.func131.trans (congrArg some (by kernel_rfl))⟩
 f26 := ⟨ "slices.partitionEqualCmpFunc[bole/api.Entry]", by decide, Tryz.func132.trans (congrArg some (by kernel_rfl))⟩
 f27 := ⟨ "slices.partitionCmpFunc[bole/api.Entry]", by decide, Tryz.func133.trans (congrArg some (by kernel_rfl))⟩
 f28:=Tryz.func134.trans (congrArg some (by kernel_rfl))
 f29:=Tryz.func135.trans (congrArg some (by kernel_rfl))
 f46 := ⟨ "slices.siftDownCmpFunc[bole/api.Entry]", by decide, Tryz.func174.trans (congrArg some (by kernel_rfl))⟩
 f47:=Tryz.func175.trans (congrArg some (by kernel_rfl))
 f48:=Tryz.func176.trans (congrArg some (by kernel_rfl))
 f49 := ⟨ "slices.medianAdjacentCmpFunc[bole/api.Entry]", by decide, Tryz.func177.trans (congrArg some (by kernel_rfl))⟩
 f50 := ⟨ "slices.medianCmpFunc[bole/api.Entry]", by decide, Tryz.func178.trans (congrArg some (by kernel_rfl))⟩
 f57 := ⟨ "slices.order2CmpFunc[bole/api.Entry]", by decide, Tryz.func218.trans (congrArg some (by kernel_rfl))⟩
 t0:=Tryz.underlying0
 a0:=Tryz.isAgg0
 z0:=Tryz.sizeOf0
 v0:=Tryz.zeroValue0
 t3:=Tryz.underlying3
 a3:=Tryz.isAgg3
 z3:=Tryz.sizeOf3
 v3:=Tryz.zeroValue3
 t4:=Tryz.underlying4
 a4:=Tryz.isAgg4
 z4:=Tryz.sizeOf4
 v4:=Tryz.zeroValue4
 t5:=Tryz.underlying5
 a5:=Tryz.isAgg5
 z5:=Tryz.sizeOf5
 v5:=Tryz.zeroValue5
 t9:=Tryz.underlying9
 a9:=Tryz.isAgg9
 z9:=Tryz.sizeOf9
 v9:=Tryz.zeroValue9
 t22:=Tryz.underlying73
 a22:=Tryz.isAgg73
 z22:=Tryz.sizeOf73
 v22:=Tryz.zeroValue73
 t25:=Tryz.underlying115
 a25:=Tryz.isAgg115
 z25:=Tryz.sizeOf115
 v25:=Tryz.zeroValue115
 t39:=Tryz.underlying158
 a39:=Tryz.isAgg158
 z39:=Tryz.sizeOf158
 v39:=Tryz.zeroValue158
 t45:=Tryz.underlying198
 a45:=Tryz.isAgg198
 z45:=Tryz.sizeOf198
 v45:=Tryz.zeroValue198
 t46:=Tryz.underlying199
 a46:=Tryz.isAgg199
 z46:=Tryz.sizeOf199
 v46:=Tryz.zeroValue199
 t50:=Tryz.underlying203
 a50:=Tryz.isAgg203
 z50:=Tryz.sizeOf203
 v50:=Tryz.zeroValue203
 t53:=Tryz.underlying206
 a53:=Tryz.isAgg206
 z53:=Tryz.sizeOf206
 v53:=Tryz.zeroValue206
 t55:=Tryz.underlying208
 a55:=Tryz.isAgg208
 z55:=Tryz.sizeOf208
 v55:=Tryz.zeroValue208
 t66:=Tryz.underlying243
 a66:=Tryz.isAgg243
 z66:=Tryz.sizeOf243
 v66:=Tryz.zeroValue243
 t70:=Tryz.underlying247
 a70:=Tryz.isAgg247
 z70:=Tryz.sizeOf247
 v70:=Tryz.zeroValue247
 t76:=Tryz.underlying278
 a76:=Tryz.isAgg278
 z76:=Tryz.sizeOf278
 v76:=Tryz.zeroValue278
 t77:=Tryz.underlying279
 a77:=Tryz.isAgg279
 z77:=Tryz.sizeOf279
 v77:=Tryz.zeroValue279
end Go.Proofs
