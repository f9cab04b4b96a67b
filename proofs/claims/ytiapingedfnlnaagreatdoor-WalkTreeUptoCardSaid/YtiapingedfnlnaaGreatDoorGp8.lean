/-
  TEXTS FOR walkTree_card: Wtr.
-/
import Derived.Test.YtiapingedfnlnaaGreatDoorGp7
namespace Go.Proofs.YtiapingedfnlnaaGreatDoor
open Go Go.ChangeShapes Go.WideShapes Go.ChangeAt Go.RowKit Go.Proofs.YtiapingedfnlnaaGreatDoor.Wx Go.Proofs.YtiapingedfnlnaaGreatDoor.Hp Go.Proofs.YtiapingedfnlnaaGreatDoor.Gl
theorem laid_met (os:Os):laidMet Tryz.prog Rows.walkTreeUptoRow.laid ((laidWorld os).forCall (fun _ _=>0) ⟨#[],#[.agg ⟨[.int .i64 0,.slice none 0 0,.slice none 0 0]⟩,.slice none 0 0],[]⟩).memory :=
 laidMet_of_run' 8 (by kernel_rfl) (by kernel_rfl)
theorem reads (os:Os) {H:Type} (enc:TypeId×Value→H):∃ places,DataW.whole enc Tryz.prog ((laidWorld os).forCall (fun _ _=>0) ⟨#[],#[.agg ⟨[.int .i64 0,.slice none 0 0,.slice none 0 0]⟩,.slice none 0 0],[]⟩).memory Tryz.f9.params.toList Rows.walkTreeSpec.vars false (#[.agg ⟨[.int .i64 0,.slice none 0 0,.slice none 0 0]⟩,.slice none 0 0]:Array Value).toList 8=some ([.agg [.lit (.int .i64 0),.nil,.nil],.nil],[],places) :=
 ⟨[],by kernel_rfl⟩
set_option maxRecDepth 100000 in
theorem wtr_lifted (os:Os) (started:os.Started) (H:Type) (enc:TypeId×Value→H) (F:Stop.Interp) :
  ReturnsInHanded {} Tryz.checked os 9 .any ((Rows.OpenSpec.upto Rows.walkTreeSpec).preRow enc Tryz.prog Tryz.f9 Rows.walkTreeUptoRow.domain false Rows.walkTreeUptoRow.laid) (((Rows.OpenSpec.upto Rows.walkTreeSpec).at F).post enc Tryz.prog Tryz.f9 false true false false):=by
 obtain ⟨places,hx⟩:=reads os enc
 refine lifted_rowU (C:=Tryz.checked) (P:=Tryz.prog) (s:=Rows.walkTreeSpec) (tb:=4) rfl Tryz.own started (by kernel_rfl) Tryz.func9
  (witness_row_at (enc:=enc) (C:=Tryz.checked) false (laidWorld os) #[.agg ⟨[.int .i64 0,.slice none 0 0,.slice none 0 0]⟩,.slice none 0 0] rfl (by kernel_rfl) (by kernel_rfl) (by kernel_rfl)
   (OpenSpec.preRow_of_cond 8 hx (by kernel_rfl) (fun k hk=>by cases hk; kernel_rfl) (by kernel_rfl) (laid_met os)))
  Tryz.laidOut (by kernel_rfl) (by kernel_rfl) Tryz.underlying4 rfl ?_ ?_
 ·intro ds hl
  rw [Tryz.params9] at hl
  match ds,hl with
  | [_,_],_=>exact ⟨rfl,rfl,rfl⟩
 ·intro W base args ds ps hval hA hsz hL hB
  rw [Tryz.params9] at hA hval
  obtain ⟨v0,v1,d0,d1,p0,p1,rfl,rfl,rfl,h0,h1⟩:=trodAll_two hA
  have bulk:Rows.uptoBulk d0≤1048576∧Rows.uptoBulk d1≤1048576:=by
   simp only [Rows.uptoBulkAll] at hB
   omega
  obtain ⟨b0,b1⟩:=bulk
  obtain ⟨more,ta,tc,pa,pc,ts,ps,rfl,Z,Y,lt,lp,ht⟩:=open_walk (hval 0 54 v0 rfl rfl) h0
  obtain ⟨a1,l1,c1,xs,rfl,B1,he,hlc,most,hq⟩:=open_rowB (α:=Tm.Txt) (m:=1) (fun p=>[.string (mkStr p)]) (fun d x=>x.length≤Rows.uptoBulk d) (fun _=>rfl) Tryz.underlying60 Tryz.cellsString (hval 1 60 v1 rfl rfl) h1 one_str
  exact Tr.WalkTree_spec (table1 hL) Z rfl (by omega) (fun t h=>by have:=ht t h; omega) (by rw [strs_flat] at B1; exact B1) he hlc (fun x hx=>by obtain ⟨i,hi,rfl⟩:=List.mem_iff_getElem.mp hx; obtain ⟨y,hy,q⟩:=hq i hi; omega) true_mk
theorem wtr_q1 : Rows.walkTreeUptoRow.wf (OpenSpec.ofChange (Rows.OpenSpec.upto Rows.walkTreeSpec).bare)=true:=by kernel_rfl
theorem wtr_q3 : mapsRowed Tryz.prog=true:=by kernel_rfl
theorem wtr_q5 : (Rows.walkTreeUptoRow.inPlace == Tryz.prog.inPlace 9)=true:=by kernel_rfl
theorem wtr_q6 : Tryz.prog.unfollowed 9=true:=by kernel_rfl
theorem wtr_q7 : (Rows.walkTreeUptoRow.named == Tryz.prog.varsNamed 9)=true:=by kernel_rfl
theorem wtr_q9 : (Rows.walkTreeUptoRow.plainKeys == Tryz.prog.plainKeys)=true:=by kernel_rfl
set_option maxHeartbeats 1000000 in
theorem wtr_facts : joinedFacts Tryz.prog 9 Tryz.f9 (Rows.OpenSpec.upto Rows.walkTreeSpec).bare Rows.walkTreeUptoRow=true :=
 joinedFacts_of wtr_q1 Tryz.laidOut wtr_q3 (by as_aux_lemma=>kernel_rfl) wtr_q5 wtr_q6 rfl rfl wtr_q7 (by as_aux_lemma=>kernel_rfl) wtr_q9 (by as_aux_lemma=>kernel_rfl) (by as_aux_lemma=>kernel_rfl)
theorem wtr_said : Rows.WalkTreeUptoSaid :=
 OpenClaim.holds_of_cond 9 Tryz.f9 rfl rfl rfl rfl rfl rfl rfl ⟨rfl,rfl,rfl,rfl,rfl⟩ rfl rfl rfl rfl rfl (by kernel_rfl) Tryz.func9 wtr_facts
  (of_decide_eq_true (by kernel_rfl)) (by unfold Func.isWrapper; first|(rw [if_pos (by decide +kernel)]; kernel_rfl)|(rw [if_neg (by decide +kernel)]; exact ⟨rfl,rfl⟩))
  (fun os started H enc _ F=>by rw [OpenClaim.pre_eq_preRow]; exact wtr_lifted os started H enc F)
theorem wtr_plain (f : FuncId) (fn : Func) (hf : Tryz.pinned.checked.prog.funcNamed "bole/bolelaw16.WalkTree" = some f) (hfn : Tryz.pinned.checked.prog.funcs[f]? = some fn) :
  false=Tryz.pinned.checked.prog.looks []∧∀ (j:Nat) t,fn.params[j]?=some t→Tryz.pinned.checked.prog.wantsStandIn t=false:=by
 obtain rfl : f = 9 := Option.some.inj ((show Tryz.prog.funcNamed "bole/bolelaw16.WalkTree" = some 9 by kernel_rfl).symm.trans hf) |>.symm
 obtain rfl:fn=Tryz.f9:=(Option.some.inj (Tryz.func9.symm.trans hfn)).symm
 refine ⟨by kernel_rfl,fun j t ht=>?_⟩
 rw [Tryz.params9] at ht
 have:=Array.mem_of_getElem? ht
 have:t=54∨t=60:=by
  simp at this
  first|exact this|(rcases this with h|h|h <;> simp [h])
 rcases this with rfl|rfl
 ·exact (show Tryz.prog.wantsStandIn 54=false by kernel_rfl)
 ·exact (show Tryz.prog.wantsStandIn 60=false by kernel_rfl)
theorem walkTree_card : Rows.WalkTreeUptoCardSaid :=
 Claim7.holds_tied_plain_at .later [] _ _ _ _ wtr_said (fun _ h=>by cases h) (by kernel_rfl) (fun _ h=>by cases h) walkTreeUpto_row_tie rfl ⟨rfl,rfl⟩ (by kernel_rfl) rfl wtr_plain (by kernel_rfl)
end Go.Proofs.YtiapingedfnlnaaGreatDoor
