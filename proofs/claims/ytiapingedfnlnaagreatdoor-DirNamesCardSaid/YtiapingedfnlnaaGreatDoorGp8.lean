/-
  TEXTS FOR dirNames_card: Dna.
-/
import Derived.Test.YtiapingedfnlnaaGreatDoorGp7
namespace Go.Proofs.YtiapingedfnlnaaGreatDoor
open Go Go.ChangeShapes Go.WideShapes Go.ChangeAt Go.RowKit Go.Proofs.YtiapingedfnlnaaGreatDoor.Wx Go.Proofs.YtiapingedfnlnaaGreatDoor.Hp Go.Proofs.YtiapingedfnlnaaGreatDoor.Gl
theorem laid_met (os:Os):laidMet Tryz.prog Rows.dirNamesRow.laid ((laidWorld os).forCall (fun _ _=>0) ⟨#[],#[.string (mkStr []),.int .i64 0,.int .i64 0],[]⟩).memory :=
 laidMet_of_run' 8 (by kernel_rfl) (by kernel_rfl)
theorem reads (os:Os) {H:Type} (enc:TypeId×Value→H):∃ places,DataW.whole enc Tryz.prog ((laidWorld os).forCall (fun _ _=>0) ⟨#[],#[.string (mkStr []),.int .i64 0,.int .i64 0],[]⟩).memory Tryz.f11.params.toList Rows.dirNamesSpec.vars false #[Value.string (mkStr []),.int .i64 0,.int .i64 0].toList 8=some ([.lit (.string []),.lit (.int .i64 0),.lit (.int .i64 0)],[],places) :=
 ⟨[],by kernel_rfl⟩
set_option maxRecDepth 100000 in
theorem dna_lifted (os:Os) (started:os.Started) (H:Type) (enc:TypeId×Value→H) (F:Stop.Interp) :
  ReturnsInHanded {} Tryz.checked os 11 .any ((OpenSpec.ofChange Rows.dirNamesSpec).preRow enc Tryz.prog Tryz.f11 Rows.dirNamesRow.domain false Rows.dirNamesRow.laid) (((OpenSpec.ofChange Rows.dirNamesSpec).at F).post enc Tryz.prog Tryz.f11 false true false false):=by
 obtain ⟨places,hx⟩:=reads os enc
 refine lifted_row (C:=Tryz.checked) (P:=Tryz.prog) (s:=Rows.dirNamesSpec) (tb:=4) rfl Tryz.own started (by kernel_rfl) Tryz.func11
  (witness_row_at (enc:=enc) (C:=Tryz.checked) false (laidWorld os) #[.string (mkStr []),.int .i64 0,.int .i64 0] rfl (by kernel_rfl) (by kernel_rfl) (by kernel_rfl)
   (OpenSpec.preRow_of_cond 8 hx (by kernel_rfl) (fun k hk=>by cases hk) (by kernel_rfl) (laid_met os)))
  Tryz.laidOut (by kernel_rfl) (by kernel_rfl) Tryz.underlying4 rfl ?_ ?_
 ·intro ds hl
  rw [Tryz.params11] at hl
  match ds,hl with
  | [_,_,_],_=>exact ⟨rfl,rfl,rfl⟩
 ·intro W base args ds ps hval hA hsz hL
  rw [Tryz.params11] at hA hval hsz
  obtain ⟨v0,v1,v2,d0,d1,d2,p0,p1,p2,rfl,rfl,rfl,h0,h1,h2⟩:=trodAll_three hA
  obtain ⟨s0,rfl,rfl⟩:=open_text Tryz.underlying9 (hval 0 9 v0 rfl rfl) h0
  have ls0:=text_le (light_arg hsz (j:=0) rfl rfl)
  obtain ⟨n1,rfl,rfl,rfl,w1⟩:=open_int Tryz.underlying3 (hval 1 3 v1 rfl rfl) h1
  obtain ⟨n2,rfl,rfl,rfl,w2⟩:=open_int Tryz.underlying3 (hval 2 3 v2 rfl rfl) h2
  exact Di.DirNames_spec (table1 hL) (by omega) true_mk
theorem dna_q1 : Rows.dirNamesRow.wf (OpenSpec.ofChange (OpenSpec.ofChange Rows.dirNamesSpec).bare)=true:=by kernel_rfl
theorem dna_q3 : mapsRowed Tryz.prog=true:=by kernel_rfl
theorem dna_q5 : (Rows.dirNamesRow.inPlace == Tryz.prog.inPlace 11)=true:=by kernel_rfl
theorem dna_q6 : Tryz.prog.unfollowed 11=true:=by kernel_rfl
theorem dna_q7 : (Rows.dirNamesRow.named == Tryz.prog.varsNamed 11)=true:=by kernel_rfl
theorem dna_q9 : (Rows.dirNamesRow.plainKeys == Tryz.prog.plainKeys)=true:=by kernel_rfl
set_option maxHeartbeats 1000000 in
theorem dna_facts : joinedFacts Tryz.prog 11 Tryz.f11 (OpenSpec.ofChange Rows.dirNamesSpec).bare Rows.dirNamesRow=true :=
 joinedFacts_of dna_q1 Tryz.laidOut dna_q3 (by as_aux_lemma=>kernel_rfl) dna_q5 dna_q6 rfl rfl dna_q7 (by as_aux_lemma=>kernel_rfl) dna_q9 (by as_aux_lemma=>kernel_rfl) (by as_aux_lemma=>kernel_rfl)
theorem dna_said : Rows.DirNamesSaid :=
 OpenClaim.holds_of_cond 11 Tryz.f11 rfl rfl rfl rfl rfl rfl rfl ⟨rfl,rfl,rfl,rfl,rfl⟩ rfl rfl rfl rfl rfl (by kernel_rfl) Tryz.func11 dna_facts
  (of_decide_eq_true (by kernel_rfl)) (by unfold Func.isWrapper; first|(rw [if_pos (by decide +kernel)]; kernel_rfl)|(rw [if_neg (by decide +kernel)]; exact ⟨rfl,rfl⟩))
  (fun os started H enc _ F=>by rw [OpenClaim.pre_eq_preRow]; exact dna_lifted os started H enc F)
theorem dna_plain (f : FuncId) (fn : Func) (hf : Tryz.pinned.checked.prog.funcNamed "bole/bolelaw15.DirNames" = some f) (hfn : Tryz.pinned.checked.prog.funcs[f]? = some fn) :
  false=Tryz.pinned.checked.prog.looks []∧∀ (j:Nat) t,fn.params[j]?=some t→Tryz.pinned.checked.prog.wantsStandIn t=false:=by
 obtain rfl : f = 11 := Option.some.inj ((show Tryz.prog.funcNamed "bole/bolelaw15.DirNames" = some 11 by kernel_rfl).symm.trans hf) |>.symm
 obtain rfl:fn=Tryz.f11:=(Option.some.inj (Tryz.func11.symm.trans hfn)).symm
 refine ⟨by kernel_rfl,fun j t ht=>?_⟩
 rw [Tryz.params11] at ht
 have:=Array.mem_of_getElem? ht
 have:t=3∨t=9:=by
  simp at this
  first|exact this|exact this.symm|(rcases this with h|h|h <;> simp [h])
 rcases this with rfl|rfl
 ·exact (show Tryz.prog.wantsStandIn 3=false by kernel_rfl)
 ·exact (show Tryz.prog.wantsStandIn 9=false by kernel_rfl)
theorem dirNames_card : Rows.DirNamesCardSaid :=
 Claim7.holds_tied_plain_at .later [] _ _ _ _ dna_said (fun _ h=>by cases h) (by kernel_rfl) (fun _ h=>by cases h) dirNames_row_tie rfl ⟨rfl,rfl⟩ (by kernel_rfl) rfl dna_plain (by kernel_rfl)
end Go.Proofs.YtiapingedfnlnaaGreatDoor
