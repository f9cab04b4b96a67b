/-
  TEXTS FOR walkNames_card: Wna.
-/
import Derived.Test.YtiapingedfnlnaaGreatDoorGp7
namespace Go.Proofs.YtiapingedfnlnaaGreatDoor
open Go Go.ChangeShapes Go.WideShapes Go.ChangeAt Go.RowKit Go.Proofs.YtiapingedfnlnaaGreatDoor.Wx Go.Proofs.YtiapingedfnlnaaGreatDoor.Hp Go.Proofs.YtiapingedfnlnaaGreatDoor.Gl
theorem laid_met (os:Os):laidMet Tryz.prog Rows.walkNamesUptoRow.laid ((laidWorld os).forCall (fun _ _=>0) ⟨#[],#[.agg ⟨[.int .i64 0,.slice none 0 0,.slice none 0 0]⟩],[]⟩).memory :=
 laidMet_of_run' 8 (by kernel_rfl) (by kernel_rfl)
theorem reads (os:Os) {H:Type} (enc:TypeId×Value→H):∃ places,DataW.whole enc Tryz.prog ((laidWorld os).forCall (fun _ _=>0) ⟨#[],#[.agg ⟨[.int .i64 0,.slice none 0 0,.slice none 0 0]⟩],[]⟩).memory Tryz.f4.params.toList Rows.walkNamesSpec.vars false (#[.agg ⟨[.int .i64 0,.slice none 0 0,.slice none 0 0]⟩]:Array Value).toList 8=some ([.agg [.lit (.int .i64 0),.nil,.nil]],[],places) :=
 ⟨[],by kernel_rfl⟩
set_option maxRecDepth 100000 in
theorem wna_lifted (os:Os) (started:os.Started) (H:Type) (enc:TypeId×Value→H) (F:Stop.Interp) :
  ReturnsInHanded {} Tryz.checked os 4 .any ((Rows.OpenSpec.upto Rows.walkNamesSpec).preRow enc Tryz.prog Tryz.f4 Rows.walkNamesUptoRow.domain false Rows.walkNamesUptoRow.laid) (((Rows.OpenSpec.upto Rows.walkNamesSpec).at F).post enc Tryz.prog Tryz.f4 false true false false):=by
 obtain ⟨places,hx⟩:=reads os enc
 refine lifted_rowU (C:=Tryz.checked) (P:=Tryz.prog) (s:=Rows.walkNamesSpec) (tb:=4) rfl Tryz.own started (by kernel_rfl) Tryz.func4
  (witness_row_at (enc:=enc) (C:=Tryz.checked) false (laidWorld os) #[.agg ⟨[.int .i64 0,.slice none 0 0,.slice none 0 0]⟩] rfl (by kernel_rfl) (by kernel_rfl) (by kernel_rfl)
   (OpenSpec.preRow_of_cond 8 hx (by kernel_rfl) (fun k hk=>by cases hk; kernel_rfl) (by kernel_rfl) (laid_met os)))
  Tryz.laidOut (by kernel_rfl) (by kernel_rfl) Tryz.underlying4 rfl ?_ ?_
 ·intro ds hl
  rw [Tryz.params4] at hl
  match ds,hl with
  | [_],_=>exact ⟨rfl,rfl,rfl⟩
 ·intro W base args ds ps hval hA hsz hL hB
  rw [Tryz.params4] at hA hval
  obtain ⟨v0,d0,rfl,rfl,h0⟩:=trodAll_one hA
  have b0:Rows.uptoBulk d0≤1048576:=by
   simp only [Rows.uptoBulkAll] at hB
   omega
  obtain ⟨more,ta,tc,pa,pc,ts,ps,rfl,Z,Y,lt,lp,ht⟩:=open_walk (hval 0 54 v0 rfl rfl) h0
  exact Tr.WalkNames_spec (table1 hL) Z rfl (by omega) (fun t h=>by have:=ht t h; omega) true_mk
theorem wna_q1 : Rows.walkNamesUptoRow.wf (OpenSpec.ofChange (Rows.OpenSpec.upto Rows.walkNamesSpec).bare)=true:=by kernel_rfl
theorem wna_q3 : mapsRowed Tryz.prog=true:=by kernel_rfl
theorem wna_q5 : (Rows.walkNamesUptoRow.inPlace == Tryz.prog.inPlace 4)=true:=by kernel_rfl
theorem wna_q6 : Tryz.prog.unfollowed 4=true:=by kernel_rfl
theorem wna_q7 : (Rows.walkNamesUptoRow.named == Tryz.prog.varsNamed 4)=true:=by kernel_rfl
theorem wna_q9 : (Rows.walkNamesUptoRow.plainKeys == Tryz.prog.plainKeys)=true:=by kernel_rfl
set_option maxHeartbeats 1000000 in
theorem wna_facts : joinedFacts Tryz.prog 4 Tryz.f4 (Rows.OpenSpec.upto Rows.walkNamesSpec).bare Rows.walkNamesUptoRow=true :=
 joinedFacts_of wna_q1 Tryz.laidOut wna_q3 (by as_aux_lemma=>kernel_rfl) wna_q5 wna_q6 rfl rfl wna_q7 (by as_aux_lemma=>kernel_rfl) wna_q9 (by as_aux_lemma=>kernel_rfl) (by as_aux_lemma=>kernel_rfl)
theorem wna_said : Rows.WalkNamesUptoSaid :=
 OpenClaim.holds_of_cond 4 Tryz.f4 rfl rfl rfl rfl rfl rfl rfl ⟨rfl,rfl,rfl,rfl,rfl⟩ rfl rfl rfl rfl rfl (by kernel_rfl) Tryz.func4 wna_facts
  (of_decide_eq_true (by kernel_rfl)) (by unfold Func.isWrapper; first|(rw [if_pos (by decide +kernel)]; kernel_rfl)|(rw [if_neg (by decide +kernel)]; exact ⟨rfl,rfl⟩))
  (fun os started H enc _ F=>by rw [OpenClaim.pre_eq_preRow]; exact wna_lifted os started H enc F)
theorem wna_plain (f : FuncId) (fn : Func) (hf : Tryz.pinned.checked.prog.funcNamed "bole/bolelaw16.WalkNames" = some f) (hfn : Tryz.pinned.checked.prog.funcs[f]? = some fn) :
  false=Tryz.pinned.checked.prog.looks []∧∀ (j:Nat) t,fn.params[j]?=some t→Tryz.pinned.checked.prog.wantsStandIn t=false:=by
 obtain rfl : f = 4 := Option.some.inj ((show Tryz.prog.funcNamed "bole/bolelaw16.WalkNames" = some 4 by kernel_rfl).symm.trans hf) |>.symm
 obtain rfl:fn=Tryz.f4:=(Option.some.inj (Tryz.func4.symm.trans hfn)).symm
 refine ⟨by kernel_rfl,fun j t ht=>?_⟩
 rw [Tryz.params4] at ht
 have:=Array.mem_of_getElem? ht
 have:t=54:=by simpa using this
 subst this
 exact (show Tryz.prog.wantsStandIn 54=false by kernel_rfl)
theorem walkNames_card : Rows.WalkNamesUptoCardSaid :=
 Claim7.holds_tied_plain_at .later [] _ _ _ _ wna_said (fun _ h=>by cases h) (by kernel_rfl) (fun _ h=>by cases h) walkNamesUpto_row_tie rfl ⟨rfl,rfl⟩ (by kernel_rfl) rfl wna_plain (by kernel_rfl)
end Go.Proofs.YtiapingedfnlnaaGreatDoor
