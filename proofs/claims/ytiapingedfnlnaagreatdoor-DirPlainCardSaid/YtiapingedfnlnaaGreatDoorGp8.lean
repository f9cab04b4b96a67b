/-
  TEXTS FOR dirPlain_card: Dpl.
-/
import Derived.Test.YtiapingedfnlnaaGreatDoorGp7
namespace Go.Proofs.YtiapingedfnlnaaGreatDoor
open Go Go.ChangeShapes Go.WideShapes Go.ChangeAt Go.RowKit Go.Proofs.YtiapingedfnlnaaGreatDoor.Wx Go.Proofs.YtiapingedfnlnaaGreatDoor.Hp Go.Proofs.YtiapingedfnlnaaGreatDoor.Gl
theorem Tryz.cellsAct : Tryz.prog.cellsOf 31=4:=by kernel_rfl
theorem Tryz.bytesAct : Tryz.prog.bytesOf 31=32:=by kernel_rfl
set_option maxRecDepth 100000 in
theorem one_act {H:Type} {enc:TypeId×Value→H} {W:World} (n:Nat) (cs:List Value) (y:DataW H×List MemPlace) (h:DataW.trod enc Tryz.prog W 0 (fun _=>true) true n 31 cs=some y):∃ x:Di.AcI,cs=x.v:=by
 obtain ⟨y0,y1,y2,y3,k,_,hl,h0,h1,h2,h3⟩:=Go.Joins.trod_struct4 Tryz.underlying31 h
 rw [Tryz.cellsAct] at hl
 simp only [Tryz.cellsBool,Tryz.cellsInt] at h0 h1 h2 h3
 match cs,hl with
 | [a,b,c,d],_ =>
  obtain ⟨n0,e0,_⟩:=DataW.trod_bool Tryz.underlying4 h0
  obtain ⟨n1,e1,_,_⟩:=DataW.trod_int Tryz.underlying3 h1
  obtain ⟨n2,e2,_,_⟩:=DataW.trod_int Tryz.underlying3 h2
  obtain ⟨n3,e3,_,_⟩:=DataW.trod_int Tryz.underlying3 h3
  have e0:a = .bool n0:=by simpa using e0
  have e1:b = .int .i64 n1:=by simpa using e1
  have e2:c = .int .i64 n2:=by simpa using e2
  have e3:d = .int .i64 n3:=by simpa using e3
  exact ⟨⟨n0,n1,n2,n3⟩,by rw [e0,e1,e2,e3]; rfl⟩
theorem laid_met (os:Os):laidMet Tryz.prog Rows.dirPlainRow.laid ((laidWorld os).forCall (fun _ _=>0) ⟨#[],#[.slice none 0 0],[]⟩).memory :=
 laidMet_of_run' 8 (by kernel_rfl) (by kernel_rfl)
theorem reads (os:Os) {H:Type} (enc:TypeId×Value→H):∃ places,DataW.whole enc Tryz.prog ((laidWorld os).forCall (fun _ _=>0) ⟨#[],#[.slice none 0 0],[]⟩).memory Tryz.f3.params.toList Rows.dirPlainSpec.vars false #[Value.slice none 0 0].toList 8=some ([.nil],[],places) :=
 ⟨[],by kernel_rfl⟩
set_option maxRecDepth 100000 in
theorem dpl_lifted (os:Os) (started:os.Started) (H:Type) (enc:TypeId×Value→H) (F:Stop.Interp) :
  ReturnsInHanded {} Tryz.checked os 3 .any ((OpenSpec.ofChange Rows.dirPlainSpec).preRow enc Tryz.prog Tryz.f3 Rows.dirPlainRow.domain false Rows.dirPlainRow.laid) (((OpenSpec.ofChange Rows.dirPlainSpec).at F).post enc Tryz.prog Tryz.f3 false true false false):=by
 obtain ⟨places,hx⟩:=reads os enc
 refine lifted_row (C:=Tryz.checked) (P:=Tryz.prog) (s:=Rows.dirPlainSpec) (tb:=4) rfl Tryz.own started (by kernel_rfl) Tryz.func3
  (witness_row_at (enc:=enc) (C:=Tryz.checked) false (laidWorld os) #[.slice none 0 0] rfl (by kernel_rfl) (by kernel_rfl) (by kernel_rfl)
   (OpenSpec.preRow_of_cond 8 hx (by kernel_rfl) (fun k hk=>by cases hk) (by kernel_rfl) (laid_met os)))
  Tryz.laidOut (by kernel_rfl) (by kernel_rfl) Tryz.underlying4 rfl ?_ ?_
 ·intro ds hl
  rw [Tryz.params3] at hl
  match ds,hl with
  | [_],_=>exact ⟨rfl,rfl,rfl⟩
 ·intro W base args ds ps hval hA hsz hL
  rw [Tryz.params3] at hA hval hsz
  obtain ⟨v0,d0,rfl,rfl,h0⟩:=trodAll_one hA
  obtain ⟨a1,il,ic,xs,rfl,B1,hy1,hlc1,room1⟩:=open_row (α:=Di.AcI) Di.AcI.v (fun _=>rfl) Tryz.underlying22 Tryz.cellsAct (hval 0 22 v0 rfl rfl) h0 one_act
  have m1:=light_room (light_arg hsz (j:=0) rfl rfl) Tryz.underlying22 room1
  rw [Tryz.bytesAct] at m1
  exact Di.DirPlain_spec (table1 hL) B1 hy1 (by omega) true_mk
theorem dpl_q1 : Rows.dirPlainRow.wf (OpenSpec.ofChange (OpenSpec.ofChange Rows.dirPlainSpec).bare)=true:=by kernel_rfl
theorem dpl_q3 : mapsRowed Tryz.prog=true:=by kernel_rfl
theorem dpl_q5 : (Rows.dirPlainRow.inPlace == Tryz.prog.inPlace 3)=true:=by kernel_rfl
theorem dpl_q6 : Tryz.prog.unfollowed 3=true:=by kernel_rfl
theorem dpl_q7 : (Rows.dirPlainRow.named == Tryz.prog.varsNamed 3)=true:=by kernel_rfl
theorem dpl_q9 : (Rows.dirPlainRow.plainKeys == Tryz.prog.plainKeys)=true:=by kernel_rfl
set_option maxHeartbeats 1000000 in
theorem dpl_facts : joinedFacts Tryz.prog 3 Tryz.f3 (OpenSpec.ofChange Rows.dirPlainSpec).bare Rows.dirPlainRow=true :=
 joinedFacts_of dpl_q1 Tryz.laidOut dpl_q3 (by as_aux_lemma=>kernel_rfl) dpl_q5 dpl_q6 rfl rfl dpl_q7 (by as_aux_lemma=>kernel_rfl) dpl_q9 (by as_aux_lemma=>kernel_rfl) (by as_aux_lemma=>kernel_rfl)
theorem dpl_said : Rows.DirPlainSaid :=
 OpenClaim.holds_of_cond 3 Tryz.f3 rfl rfl rfl rfl rfl rfl rfl ⟨rfl,rfl,rfl,rfl,rfl⟩ rfl rfl rfl rfl rfl (by kernel_rfl) Tryz.func3 dpl_facts
  (of_decide_eq_true (by kernel_rfl)) (by unfold Func.isWrapper; first|(rw [if_pos (by decide +kernel)]; kernel_rfl)|(rw [if_neg (by decide +kernel)]; exact ⟨rfl,rfl⟩))
  (fun os started H enc _ F=>by rw [OpenClaim.pre_eq_preRow]; exact dpl_lifted os started H enc F)
theorem dpl_plain (f : FuncId) (fn : Func) (hf : Tryz.pinned.checked.prog.funcNamed "bole/bolelaw15.DirPlain" = some f) (hfn : Tryz.pinned.checked.prog.funcs[f]? = some fn) :
  false=Tryz.pinned.checked.prog.looks []∧∀ (j:Nat) t,fn.params[j]?=some t→Tryz.pinned.checked.prog.wantsStandIn t=false:=by
 obtain rfl : f = 3 := Option.some.inj ((show Tryz.prog.funcNamed "bole/bolelaw15.DirPlain" = some 3 by kernel_rfl).symm.trans hf) |>.symm
 obtain rfl:fn=Tryz.f3:=(Option.some.inj (Tryz.func3.symm.trans hfn)).symm
 refine ⟨by kernel_rfl,fun j t ht=>?_⟩
 rw [Tryz.params3] at ht
 have:=Array.mem_of_getElem? ht
 have:t=22:=by simpa using this
 subst this
 exact (show Tryz.prog.wantsStandIn 22=false by kernel_rfl)
theorem dirPlain_card : Rows.DirPlainCardSaid :=
 Claim7.holds_tied_plain_at .later [] _ _ _ _ dpl_said (fun _ h=>by cases h) (by kernel_rfl) (fun _ h=>by cases h) dirPlain_row_tie rfl ⟨rfl,rfl⟩ (by kernel_rfl) rfl dpl_plain (by kernel_rfl)
end Go.Proofs.YtiapingedfnlnaaGreatDoor
