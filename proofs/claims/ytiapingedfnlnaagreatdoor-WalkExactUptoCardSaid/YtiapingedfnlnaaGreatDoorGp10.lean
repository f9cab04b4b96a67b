/- walkExact_card -/
import Derived.Test.YtiapingedfnlnaaGreatDoorGp9
namespace Go.Proofs.YtiapingedfnlnaaGreatDoor
section
open Go Go.ChangeShapes Go.WideShapes Go.ChangeAt Go.RowKit Wx Hp Gl
theorem RB(os:Os):laidMet Tryz.prog Rows.walkExactUptoRow.laid ((y7 os).forCall (λ_ _=>0) ⟨#[],#[.agg ⟨[.int .i64 0,.slice none 0 0,.slice none 0 0]⟩,.slice none 0 0],[]⟩).memory:=
 laidMet_of_run' 8 (by kernel_rfl) (by kernel_rfl)
theorem reads(os:Os){H:Type}(enc:TypeId×Value->H):∃places,DataW.whole enc Tryz.prog ((y7 os).forCall (λ_ _=>0) ⟨#[],#[.agg ⟨[.int .i64 0,.slice none 0 0,.slice none 0 0]⟩,.slice none 0 0],[]⟩).memory Tryz.f8.params.toList Rows.walkExactSpec.vars false (#[.agg ⟨[.int .i64 0,.slice none 0 0,.slice none 0 0]⟩,.slice none 0 0]:Array Value).toList 8=some ([.agg [.lit (.int .i64 0),.nil,.nil],.nil],[],places):=
 ⟨[],by kernel_rfl⟩
set_option maxRecDepth 100000 in
theorem Km(os:Os)(started:os.Started)(H:Type)(enc:TypeId×Value->H)(F:Stop.Interp) :
  ReturnsInHanded {} Tryz.checked os 8 .any ((Rows.OpenSpec.upto Rows.walkExactSpec).preRow enc Tryz.prog Tryz.f8 Rows.walkExactUptoRow.domain false Rows.walkExactUptoRow.laid) (((Rows.OpenSpec.upto Rows.walkExactSpec).at F).post enc Tryz.prog Tryz.f8 false true false false):=by
 obtain⟨places,hx⟩:=reads os enc;refine Is (C:=Tryz.checked) (P:=Tryz.prog) (s:=Rows.walkExactSpec) (tb:=4) rfl Tryz.own started (by kernel_rfl) Tryz.func8
  (witness_row_at (enc:=enc) (C:=Tryz.checked) false (y7 os) #[.agg ⟨[.int .i64 0,.slice none 0 0,.slice none 0 0]⟩,.slice none 0 0] rfl (by kernel_rfl) (by kernel_rfl) (by kernel_rfl)
   (OpenSpec.preRow_of_cond 8 hx (by kernel_rfl) (λk hk=>by cases hk;kernel_rfl) (by kernel_rfl) (RB os)))
  Tryz.laidOut (by kernel_rfl) (by kernel_rfl) Tryz.underlying4 rfl ?_ ?_
 ·intro ds hl;rw[Tryz.params8]at hl
  match ds,hl with
  | [_,_],_=>exact⟨rfl,rfl,rfl⟩
 ·intro W base args ds ps tE hA iH hL hB;rw[Tryz.params8]at hA tE;obtain⟨v0,v1,d0,d1,p0,p1,rfl,rfl,rfl,h0,h1⟩:=trodAll_two hA
  have bulk:Rows.uptoBulk d0<=1048576/\Rows.uptoBulk d1<=1048576:=by
   simp only[Rows.uptoBulkAll]at hB;omega
  obtain⟨b0,b1⟩:=bulk;obtain⟨more,ta,tc,pa,pc,ts,ps,rfl,Z,Y,lt,lp,ht⟩:=Oi (tE 0 54 v0 rfl rfl) h0;obtain⟨a1,l1,c1,xs,rfl,B1,he,wv,most,hq⟩:=Og (α:=Rq.Ak) (m:=1) Rq.ID (λd x=>x.path.length<=Rows.uptoBulk d) (λ_=>rfl) Tryz.underlying85 Tryz.cellsAsk (tE 1 85 v1 rfl rfl) h1 VC;exact Rq.Cr (υ hL) Z rfl (by omega) (λt h=>by have:=ht t h;omega) Y rfl (by omega) B1 he wv (λx hx=>by obtain⟨i,hi,rfl⟩:=List.mem_iff_getElem.mp hx;obtain⟨y,hy,q⟩:=hq i hi;omega) VB
theorem χ : Rows.walkExactUptoRow.wf (OpenSpec.ofChange (Rows.OpenSpec.upto Rows.walkExactSpec).bare)=true:=by kernel_rfl
theorem ψ : mapsRowed Tryz.prog=true:=by kernel_rfl
theorem ω : (Rows.walkExactUptoRow.inPlace==Tryz.prog.inPlace 8)=true:=by kernel_rfl
theorem Γ : Tryz.prog.unfollowed 8=true:=by kernel_rfl
theorem Δ : (Rows.walkExactUptoRow.named==Tryz.prog.varsNamed 8)=true:=by kernel_rfl
theorem Θ : (Rows.walkExactUptoRow.plainKeys==Tryz.prog.plainKeys)=true:=by kernel_rfl
set_option maxHeartbeats 1000000 in
theorem Oj : joinedFacts Tryz.prog 8 Tryz.f8 (Rows.OpenSpec.upto Rows.walkExactSpec).bare Rows.walkExactUptoRow=true:=
 BP χ Tryz.laidOut ψ (by as_aux_lemma=>kernel_rfl) ω Γ rfl rfl Δ (by as_aux_lemma=>kernel_rfl) Θ (by as_aux_lemma=>kernel_rfl) (by as_aux_lemma=>kernel_rfl)
theorem RC : Rows.WalkExactUptoSaid:=
 OpenClaim.holds_of_cond 8 Tryz.f8 rfl rfl rfl rfl rfl rfl rfl ⟨rfl,rfl,rfl,rfl,rfl⟩ rfl rfl rfl rfl rfl (by kernel_rfl) Tryz.func8 Oj
  (of_decide_eq_true (by kernel_rfl)) (by unfold Func.isWrapper;first|(rw[if_pos (by decide +kernel)];kernel_rfl)|(rw[if_neg (by decide +kernel)];exact⟨rfl,rfl⟩))
  (λos started H enc _ F=>by rw[OpenClaim.pre_eq_preRow];exact Km os started H enc F)
theorem Ol (f : FuncId) (fn : Func) (hf : Tryz.pinned.checked.prog.funcNamed "bole/bolelaw16.WalkExact" = some f) (hfn : Tryz.pinned.checked.prog.funcs[f]? = some fn) :
  false=Tryz.pinned.checked.prog.looks []/\∀(j:Nat) t,fn.params[j]?=some t->Tryz.pinned.checked.prog.wantsStandIn t=false:=by
 obtain rfl : f = 8 := Option.some.inj ((show Tryz.prog.funcNamed "bole/bolelaw16.WalkExact" = some 8 by kernel_rfl).symm.trans hf) |>.symm;obtain rfl:fn=Tryz.f8:=(Option.some.inj (Tryz.func8.symm.trans hfn)).symm;refine ⟨by kernel_rfl,fun j t ht=>?_⟩;rw [Tryz.params8] at ht;have:=Array.mem_of_getElem? ht
 have:t=54∨t=85:=by
  simp at this
  first|exact this|(rcases this with h|h|h <;> simp[h])
 rcases this with rfl|rfl
 ·exact(show Tryz.prog.wantsStandIn 54=false by kernel_rfl)
 ·exact(show Tryz.prog.wantsStandIn 85=false by kernel_rfl)
theorem walkExact_card : Rows.WalkExactUptoCardSaid:=
 Claim7.holds_tied_plain_at .later [] _ _ _ _ RC (λ_ h=>by cases h) (by kernel_rfl) (λ_ h=>by cases h) walkExactUpto_row_tie rfl ⟨rfl,rfl⟩ (by kernel_rfl) rfl Ol (by kernel_rfl)
end
end Go.Proofs.YtiapingedfnlnaaGreatDoor
