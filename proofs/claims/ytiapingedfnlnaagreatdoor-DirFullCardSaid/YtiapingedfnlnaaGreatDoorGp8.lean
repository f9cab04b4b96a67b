/-
  TEXTS FOR dirFull_card: Dfu.
-/
import Derived.Test.YtiapingedfnlnaaGreatDoorGp7
namespace Go.Proofs.YtiapingedfnlnaaGreatDoor
open Go Go.ChangeShapes Go.WideShapes Go.ChangeAt Go.RowKit Go.Proofs.YtiapingedfnlnaaGreatDoor.Wx Go.Proofs.YtiapingedfnlnaaGreatDoor.Hp Go.Proofs.YtiapingedfnlnaaGreatDoor.Gl
theorem laid_met (os:Os):laidMet Tryz.prog Rows.dirFullRow.laid ((laidWorld os).forCall (fun _ _=>0) ⟨#[],#[.int .i64 0,.int .i64 0],[]⟩).memory :=
 laidMet_of_run' 8 (by kernel_rfl) (by kernel_rfl)
theorem reads (os:Os) {H:Type} (enc:TypeId×Value→H):∃ places,DataW.whole enc Tryz.prog ((laidWorld os).forCall (fun _ _=>0) ⟨#[],#[.int .i64 0,.int .i64 0],[]⟩).memory Tryz.f10.params.toList Rows.dirFullSpec.vars false #[Value.int .i64 0,.int .i64 0].toList 8=some ([.lit (.int .i64 0),.lit (.int .i64 0)],[],places) :=
 ⟨[],by kernel_rfl⟩
set_option maxRecDepth 100000 in
theorem dfu_lifted (os:Os) (started:os.Started) (H:Type) (enc:TypeId×Value→H) (F:Stop.Interp) :
  ReturnsInHanded {} Tryz.checked os 10 .any ((OpenSpec.ofChange Rows.dirFullSpec).preRow enc Tryz.prog Tryz.f10 Rows.dirFullRow.domain false Rows.dirFullRow.laid) (((OpenSpec.ofChange Rows.dirFullSpec).at F).post enc Tryz.prog Tryz.f10 false true false false):=by
 obtain ⟨places,hx⟩:=reads os enc
 refine lifted_row (C:=Tryz.checked) (P:=Tryz.prog) (s:=Rows.dirFullSpec) (tb:=4) rfl Tryz.own started (by kernel_rfl) Tryz.func10
  (witness_row_at (enc:=enc) (C:=Tryz.checked) false (laidWorld os) #[.int .i64 0,.int .i64 0] rfl (by kernel_rfl) (by kernel_rfl) (by kernel_rfl)
   (OpenSpec.preRow_of_cond 8 hx (by kernel_rfl) (fun k hk=>by cases hk) (by kernel_rfl) (laid_met os)))
  Tryz.laidOut (by kernel_rfl) (by kernel_rfl) Tryz.underlying4 rfl ?_ ?_
 ·intro ds hl
  rw [Tryz.params10] at hl
  match ds,hl with
  | [_,_],_=>exact ⟨rfl,rfl,rfl⟩
 ·intro W base args ds ps hval hA hsz hL
  rw [Tryz.params10] at hA hval hsz
  obtain ⟨v0,v1,d0,d1,p0,p1,rfl,rfl,rfl,h0,h1⟩:=trodAll_two hA
  obtain ⟨n0,rfl,rfl,rfl,w0⟩:=open_int Tryz.underlying3 (hval 0 3 v0 rfl rfl) h0
  obtain ⟨n1,rfl,rfl,rfl,w1⟩:=open_int Tryz.underlying3 (hval 1 3 v1 rfl rfl) h1
  exact Di.DirFull_spec (table1 hL) true_mk
theorem dfu_q1 : Rows.dirFullRow.wf (OpenSpec.ofChange (OpenSpec.ofChange Rows.dirFullSpec).bare)=true:=by kernel_rfl
theorem dfu_q3 : mapsRowed Tryz.prog=true:=by kernel_rfl
theorem dfu_q5 : (Rows.dirFullRow.inPlace == Tryz.prog.inPlace 10)=true:=by kernel_rfl
theorem dfu_q6 : Tryz.prog.unfollowed 10=true:=by kernel_rfl
theorem dfu_q7 : (Rows.dirFullRow.named == Tryz.prog.varsNamed 10)=true:=by kernel_rfl
theorem dfu_q9 : (Rows.dirFullRow.plainKeys == Tryz.prog.plainKeys)=true:=by kernel_rfl
set_option maxHeartbeats 1000000 in
theorem dfu_facts : joinedFacts Tryz.prog 10 Tryz.f10 (OpenSpec.ofChange Rows.dirFullSpec).bare Rows.dirFullRow=true :=
 joinedFacts_of dfu_q1 Tryz.laidOut dfu_q3 (by as_aux_lemma=>kernel_rfl) dfu_q5 dfu_q6 rfl rfl dfu_q7 (by as_aux_lemma=>kernel_rfl) dfu_q9 (by as_aux_lemma=>kernel_rfl) (by as_aux_lemma=>kernel_rfl)
theorem dfu_said : Rows.DirFullSaid :=
 OpenClaim.holds_of_cond 10 Tryz.f10 rfl rfl rfl rfl rfl rfl rfl ⟨rfl,rfl,rfl,rfl,rfl⟩ rfl rfl rfl rfl rfl (by kernel_rfl) Tryz.func10 dfu_facts
  (of_decide_eq_true (by kernel_rfl)) (by unfold Func.isWrapper; first|(rw [if_pos (by decide +kernel)]; kernel_rfl)|(rw [if_neg (by decide +kernel)]; exact ⟨rfl,rfl⟩))
  (fun os started H enc _ F=>by rw [OpenClaim.pre_eq_preRow]; exact dfu_lifted os started H enc F)
theorem dfu_plain (f : FuncId) (fn : Func) (hf : Tryz.pinned.checked.prog.funcNamed "bole/bolelaw15.DirFull" = some f) (hfn : Tryz.pinned.checked.prog.funcs[f]? = some fn) :
  false=Tryz.pinned.checked.prog.looks []∧∀ (j:Nat) t,fn.params[j]?=some t→Tryz.pinned.checked.prog.wantsStandIn t=false:=by
 obtain rfl : f = 10 := Option.some.inj ((show Tryz.prog.funcNamed "bole/bolelaw15.DirFull" = some 10 by kernel_rfl).symm.trans hf) |>.symm
 obtain rfl:fn=Tryz.f10:=(Option.some.inj (Tryz.func10.symm.trans hfn)).symm
 refine ⟨by kernel_rfl,fun j t ht=>?_⟩
 rw [Tryz.params10] at ht
 have:=Array.mem_of_getElem? ht
 have:t=3:=by simpa using this
 subst this
 exact (show Tryz.prog.wantsStandIn 3=false by kernel_rfl)
theorem dirFull_card : Rows.DirFullCardSaid :=
 Claim7.holds_tied_plain_at .later [] _ _ _ _ dfu_said (fun _ h=>by cases h) (by kernel_rfl) (fun _ h=>by cases h) dirFull_row_tie rfl ⟨rfl,rfl⟩ (by kernel_rfl) rfl dfu_plain (by kernel_rfl)
end Go.Proofs.YtiapingedfnlnaaGreatDoor
