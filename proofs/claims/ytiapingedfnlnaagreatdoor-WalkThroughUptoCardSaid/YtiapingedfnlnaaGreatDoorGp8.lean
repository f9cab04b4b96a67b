/-
  TEXTS FOR walkThrough_card: Wth.
-/
import Derived.Test.YtiapingedfnlnaaGreatDoorGp7
namespace Go.Proofs.YtiapingedfnlnaaGreatDoor
open Go Go.ChangeShapes Go.WideShapes Go.ChangeAt Go.RowKit Go.Proofs.YtiapingedfnlnaaGreatDoor.Wx Go.Proofs.YtiapingedfnlnaaGreatDoor.Hp Go.Proofs.YtiapingedfnlnaaGreatDoor.Gl
theorem laid_met (os:Os):laidMet Tryz.prog Rows.walkThroughUptoRow.laid ((laidWorld os).forCall (fun _ _=>0) ⟨#[],#[.agg ⟨[.int .i64 0,.slice none 0 0,.slice none 0 0]⟩,.string (mkStr []),.int .i64 0],[]⟩).memory :=
 laidMet_of_run' 8 (by kernel_rfl) (by kernel_rfl)
theorem reads (os:Os) {H:Type} (enc:TypeId×Value→H):∃ places,DataW.whole enc Tryz.prog ((laidWorld os).forCall (fun _ _=>0) ⟨#[],#[.agg ⟨[.int .i64 0,.slice none 0 0,.slice none 0 0]⟩,.string (mkStr []),.int .i64 0],[]⟩).memory Tryz.f5.params.toList Rows.walkThroughSpec.vars false (#[.agg ⟨[.int .i64 0,.slice none 0 0,.slice none 0 0]⟩,.string (mkStr []),.int .i64 0]:Array Value).toList 8=some ([.agg [.lit (.int .i64 0),.nil,.nil],.lit (.string []),.lit (.int .i64 0)],[],places) :=
 ⟨[],by kernel_rfl⟩
set_option maxRecDepth 100000 in
theorem wth_lifted (os:Os) (started:os.Started) (H:Type) (enc:TypeId×Value→H) (F:Stop.Interp) :
  ReturnsInHanded {} Tryz.checked os 5 .any ((Rows.OpenSpec.upto Rows.walkThroughSpec).preRow enc Tryz.prog Tryz.f5 Rows.walkThroughUptoRow.domain false Rows.walkThroughUptoRow.laid) (((Rows.OpenSpec.upto Rows.walkThroughSpec).at F).post enc Tryz.prog Tryz.f5 false true false false):=by
 obtain ⟨places,hx⟩:=reads os enc
 refine lifted_rowU (C:=Tryz.checked) (P:=Tryz.prog) (s:=Rows.walkThroughSpec) (tb:=4) rfl Tryz.own started (by kernel_rfl) Tryz.func5
  (witness_row_at (enc:=enc) (C:=Tryz.checked) false (laidWorld os) #[.agg ⟨[.int .i64 0,.slice none 0 0,.slice none 0 0]⟩,.string (mkStr []),.int .i64 0] rfl (by kernel_rfl) (by kernel_rfl) (by kernel_rfl)
   (OpenSpec.preRow_of_cond 8 hx (by kernel_rfl) (fun k hk=>by cases hk; kernel_rfl) (by kernel_rfl) (laid_met os)))
  Tryz.laidOut (by kernel_rfl) (by kernel_rfl) Tryz.underlying4 rfl ?_ ?_
 ·intro ds hl
  rw [Tryz.params5] at hl
  match ds,hl with
  | [_,_,_],_=>exact ⟨rfl,rfl,rfl⟩
 ·intro W base args ds ps hval hA hsz hL hB
  rw [Tryz.params5] at hA hval
  obtain ⟨v0,v1,v2,d0,d1,d2,p0,p1,p2,rfl,rfl,rfl,h0,h1,h2⟩:=trodAll_three hA
  have bulk:Rows.uptoBulk d0≤1048576∧Rows.uptoBulk d1≤1048576∧Rows.uptoBulk d2≤1048576:=by
   simp only [Rows.uptoBulkAll] at hB
   omega
  obtain ⟨b0,b1,b2⟩:=bulk
  obtain ⟨more,ta,tc,pa,pc,ts,ps,rfl,Z,Y,lt,lp,ht⟩:=open_walk (hval 0 54 v0 rfl rfl) h0
  obtain ⟨s1,rfl,rfl⟩:=open_text Tryz.underlying9 (hval 1 9 v1 rfl rfl) h1
  simp only [Rows.uptoBulk] at b1
  obtain ⟨n2,rfl,rfl,rfl,w2⟩:=open_int Tryz.underlying3 (hval 2 3 v2 rfl rfl) h2
  exact Tr.WalkThrough_spec (table1 hL) Z rfl (by omega) (fun t h=>by have:=ht t h; omega) (by omega) true_mk
theorem wth_q1 : Rows.walkThroughUptoRow.wf (OpenSpec.ofChange (Rows.OpenSpec.upto Rows.walkThroughSpec).bare)=true:=by kernel_rfl
theorem wth_q3 : mapsRowed Tryz.prog=true:=by kernel_rfl
theorem wth_q5 : (Rows.walkThroughUptoRow.inPlace == Tryz.prog.inPlace 5)=true:=by kernel_rfl
theorem wth_q6 : Tryz.prog.unfollowed 5=true:=by kernel_rfl
theorem wth_q7 : (Rows.walkThroughUptoRow.named == Tryz.prog.varsNamed 5)=true:=by kernel_rfl
theorem wth_q9 : (Rows.walkThroughUptoRow.plainKeys == Tryz.prog.plainKeys)=true:=by kernel_rfl
set_option maxHeartbeats 1000000 in
theorem wth_facts : joinedFacts Tryz.prog 5 Tryz.f5 (Rows.OpenSpec.upto Rows.walkThroughSpec).bare Rows.walkThroughUptoRow=true :=
 joinedFacts_of wth_q1 Tryz.laidOut wth_q3 (by as_aux_lemma=>kernel_rfl) wth_q5 wth_q6 rfl rfl wth_q7 (by as_aux_lemma=>kernel_rfl) wth_q9 (by as_aux_lemma=>kernel_rfl) (by as_aux_lemma=>kernel_rfl)
theorem wth_said : Rows.WalkThroughUptoSaid :=
 OpenClaim.holds_of_cond 5 Tryz.f5 rfl rfl rfl rfl rfl rfl rfl ⟨rfl,rfl,rfl,rfl,rfl⟩ rfl rfl rfl rfl rfl (by kernel_rfl) Tryz.func5 wth_facts
  (of_decide_eq_true (by kernel_rfl)) (by unfold Func.isWrapper; first|(rw [if_pos (by decide +kernel)]; kernel_rfl)|(rw [if_neg (by decide +kernel)]; exact ⟨rfl,rfl⟩))
  (fun os started H enc _ F=>by rw [OpenClaim.pre_eq_preRow]; exact wth_lifted os started H enc F)
theorem wth_plain (f : FuncId) (fn : Func) (hf : Tryz.pinned.checked.prog.funcNamed "bole/bolelaw16.WalkThrough" = some f) (hfn : Tryz.pinned.checked.prog.funcs[f]? = some fn) :
  false=Tryz.pinned.checked.prog.looks []∧∀ (j:Nat) t,fn.params[j]?=some t→Tryz.pinned.checked.prog.wantsStandIn t=false:=by
 obtain rfl : f = 5 := Option.some.inj ((show Tryz.prog.funcNamed "bole/bolelaw16.WalkThrough" = some 5 by kernel_rfl).symm.trans hf) |>.symm
 obtain rfl:fn=Tryz.f5:=(Option.some.inj (Tryz.func5.symm.trans hfn)).symm
 refine ⟨by kernel_rfl,fun j t ht=>?_⟩
 rw [Tryz.params5] at ht
 have:=Array.mem_of_getElem? ht
 have:t=54∨t=9∨t=3:=by
  simp at this
  first|exact this|(rcases this with h|h|h <;> simp [h])
 rcases this with rfl|rfl|rfl
 ·exact (show Tryz.prog.wantsStandIn 54=false by kernel_rfl)
 ·exact (show Tryz.prog.wantsStandIn 9=false by kernel_rfl)
 ·exact (show Tryz.prog.wantsStandIn 3=false by kernel_rfl)
theorem walkThrough_card : Rows.WalkThroughUptoCardSaid :=
 Claim7.holds_tied_plain_at .later [] _ _ _ _ wth_said (fun _ h=>by cases h) (by kernel_rfl) (fun _ h=>by cases h) walkThroughUpto_row_tie rfl ⟨rfl,rfl⟩ (by kernel_rfl) rfl wth_plain (by kernel_rfl)
end Go.Proofs.YtiapingedfnlnaaGreatDoor
