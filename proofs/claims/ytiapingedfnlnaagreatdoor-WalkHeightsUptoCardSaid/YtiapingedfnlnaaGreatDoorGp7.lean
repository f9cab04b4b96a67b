/-
  TEXTS FOR walkHeights_card: Whe.
-/
import Derived.Test.YtiapingedfnlnaaGreatDoorGp6
namespace Go.Proofs.YtiapingedfnlnaaGreatDoor
open Go Go.ChangeShapes Go.WideShapes Go.ChangeAt Go.RowKit Go.Proofs.YtiapingedfnlnaaGreatDoor.Wx Go.Proofs.YtiapingedfnlnaaGreatDoor.Hp Go.Proofs.YtiapingedfnlnaaGreatDoor.Gl
theorem laid_met (os:Os):laidMet Tryz.prog Rows.walkHeightsUptoRow.laid ((laidWorld os).forCall (fun _ _=>0) ⟨#[],#[.agg ⟨[.int .i64 0,.slice none 0 0,.slice none 0 0]⟩,.int .i64 0],[]⟩).memory :=
 laidMet_of_run' 8 (by kernel_rfl) (by kernel_rfl)
theorem reads (os:Os) {H:Type} (enc:TypeId×Value→H):∃ places,DataW.whole enc Tryz.prog ((laidWorld os).forCall (fun _ _=>0) ⟨#[],#[.agg ⟨[.int .i64 0,.slice none 0 0,.slice none 0 0]⟩,.int .i64 0],[]⟩).memory Tryz.f6.params.toList Rows.walkHeightsSpec.vars false (#[.agg ⟨[.int .i64 0,.slice none 0 0,.slice none 0 0]⟩,.int .i64 0]:Array Value).toList 8=some ([.agg [.lit (.int .i64 0),.nil,.nil],.lit (.int .i64 0)],[],places) :=
 ⟨[],by kernel_rfl⟩
set_option maxRecDepth 100000 in
theorem whe_lifted (os:Os) (started:os.Started) (H:Type) (enc:TypeId×Value→H) (F:Stop.Interp) :
  ReturnsInHanded {} Tryz.checked os 6 .any ((Rows.OpenSpec.upto Rows.walkHeightsSpec).preRow enc Tryz.prog Tryz.f6 Rows.walkHeightsUptoRow.domain false Rows.walkHeightsUptoRow.laid) (((Rows.OpenSpec.upto Rows.walkHeightsSpec).at F).post enc Tryz.prog Tryz.f6 false true false false):=by
 obtain ⟨places,hx⟩:=reads os enc
 refine lifted_rowU (C:=Tryz.checked) (P:=Tryz.prog) (s:=Rows.walkHeightsSpec) (tb:=4) rfl Tryz.own started (by kernel_rfl) Tryz.func6
  (witness_row_at (enc:=enc) (C:=Tryz.checked) false (laidWorld os) #[.agg ⟨[.int .i64 0,.slice none 0 0,.slice none 0 0]⟩,.int .i64 0] rfl (by kernel_rfl) (by kernel_rfl) (by kernel_rfl)
   (OpenSpec.preRow_of_cond 8 hx (by kernel_rfl) (fun k hk=>by cases hk; kernel_rfl) (by kernel_rfl) (laid_met os)))
  Tryz.laidOut (by kernel_rfl) (by kernel_rfl) Tryz.underlying4 rfl ?_ ?_
 ·intro ds hl
  rw [Tryz.params6] at hl
  match ds,hl with
  | [_,_],_=>exact ⟨rfl,rfl,rfl⟩
 ·intro W base args ds ps hval hA hsz hL hB
  rw [Tryz.params6] at hA hval
  obtain ⟨v0,v1,d0,d1,p0,p1,rfl,rfl,rfl,h0,h1⟩:=trodAll_two hA
  have bulk:Rows.uptoBulk d0≤1048576∧Rows.uptoBulk d1≤1048576:=by
   simp only [Rows.uptoBulkAll] at hB
   omega
  obtain ⟨b0,b1⟩:=bulk
  obtain ⟨more,ta,tc,pa,pc,ts,ps,rfl,Z,Y,lt,lp,ht⟩:=open_walk (hval 0 54 v0 rfl rfl) h0
  obtain ⟨n1,rfl,rfl,rfl,w1⟩:=open_int Tryz.underlying3 (hval 1 3 v1 rfl rfl) h1
  exact Tr.WalkHeights_spec (table1 hL) Z rfl (by omega) (fun t h=>by have:=ht t h; omega) true_mk
theorem whe_q1 : Rows.walkHeightsUptoRow.wf (OpenSpec.ofChange (Rows.OpenSpec.upto Rows.walkHeightsSpec).bare)=true:=by kernel_rfl
theorem whe_q3 : mapsRowed Tryz.prog=true:=by kernel_rfl
theorem whe_q5 : (Rows.walkHeightsUptoRow.inPlace == Tryz.prog.inPlace 6)=true:=by kernel_rfl
theorem whe_q6 : Tryz.prog.unfollowed 6=true:=by kernel_rfl
theorem whe_q7 : (Rows.walkHeightsUptoRow.named == Tryz.prog.varsNamed 6)=true:=by kernel_rfl
theorem whe_q9 : (Rows.walkHeightsUptoRow.plainKeys == Tryz.prog.plainKeys)=true:=by kernel_rfl
set_option maxHeartbeats 1000000 in
theorem whe_facts : joinedFacts Tryz.prog 6 Tryz.f6 (Rows.OpenSpec.upto Rows.walkHeightsSpec).bare Rows.walkHeightsUptoRow=true :=
 joinedFacts_of whe_q1 Tryz.laidOut whe_q3 (by as_aux_lemma=>kernel_rfl) whe_q5 whe_q6 rfl rfl whe_q7 (by as_aux_lemma=>kernel_rfl) whe_q9 (by as_aux_lemma=>kernel_rfl) (by as_aux_lemma=>kernel_rfl)
theorem whe_said : Rows.WalkHeightsUptoSaid :=
 OpenClaim.holds_of_cond 6 Tryz.f6 rfl rfl rfl rfl rfl rfl rfl ⟨rfl,rfl,rfl,rfl,rfl⟩ rfl rfl rfl rfl rfl (by kernel_rfl) Tryz.func6 whe_facts
  (of_decide_eq_true (by kernel_rfl)) (by unfold Func.isWrapper; first|(rw [if_pos (by decide +kernel)]; kernel_rfl)|(rw [if_neg (by decide +kernel)]; exact ⟨rfl,rfl⟩))
  (fun os started H enc _ F=>by rw [OpenClaim.pre_eq_preRow]; exact whe_lifted os started H enc F)
theorem whe_plain (f : FuncId) (fn : Func) (hf : Tryz.pinned.checked.prog.funcNamed "bole/bolelaw16.WalkHeights" = some f) (hfn : Tryz.pinned.checked.prog.funcs[f]? = some fn) :
  false=Tryz.pinned.checked.prog.looks []∧∀ (j:Nat) t,fn.params[j]?=some t→Tryz.pinned.checked.prog.wantsStandIn t=false:=by
 obtain rfl : f = 6 := Option.some.inj ((show Tryz.prog.funcNamed "bole/bolelaw16.WalkHeights" = some 6 by kernel_rfl).symm.trans hf) |>.symm
 obtain rfl:fn=Tryz.f6:=(Option.some.inj (Tryz.func6.symm.trans hfn)).symm
 refine ⟨by kernel_rfl,fun j t ht=>?_⟩
 rw [Tryz.params6] at ht
 have:=Array.mem_of_getElem? ht
 have:t=54∨t=3:=by
  simp at this
  first|exact this|(rcases this with h|h|h <;> simp [h])
 rcases this with rfl|rfl
 ·exact (show Tryz.prog.wantsStandIn 54=false by kernel_rfl)
 ·exact (show Tryz.prog.wantsStandIn 3=false by kernel_rfl)
theorem walkHeights_card : Rows.WalkHeightsUptoCardSaid :=
 Claim7.holds_tied_plain_at .later [] _ _ _ _ whe_said (fun _ h=>by cases h) (by kernel_rfl) (fun _ h=>by cases h) walkHeightsUpto_row_tie rfl ⟨rfl,rfl⟩ (by kernel_rfl) rfl whe_plain (by kernel_rfl)
end Go.Proofs.YtiapingedfnlnaaGreatDoor
