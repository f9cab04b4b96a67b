/-
  TEXTS FOR bmapExact_card: Bex.
-/
import Derived.Test.YtcdpakjhjmchhaaGreatDoorGp5
namespace Go.Proofs.YtcdpakjhjmchhaaGreatDoor
open Go Go.ChangeShapes Go.WideShapes Go.ChangeAt Go.RowKit Go.Proofs.YtcdpakjhjmchhaaGreatDoor.Wx Go.Proofs.YtcdpakjhjmchhaaGreatDoor.Hp Go.Proofs.YtcdpakjhjmchhaaGreatDoor.Gl
theorem Tryz.cellsOp : Tryz.prog.cellsOf 53=2:=by kernel_rfl
set_option maxRecDepth 100000 in
theorem one_op {H:Type} {enc:TypeId×Value→H} {W:World} (n:Nat) (cs:List Value) (y:DataW H×List MemPlace) (h:DataW.trod enc Tryz.prog W 0 (fun _=>true) true n 53 cs=some y):∃ x:Int×Int,cs=Bm.pcellA x:=by
 obtain ⟨y0,y1,k,_,hl,h0,h1⟩:=trod_struct2 Tryz.underlying53 h
 rw [Tryz.cellsOp] at hl
 simp only [Tryz.cellsInt] at h0 h1
 match cs,hl with
 | [a,b],_ =>
  obtain ⟨n0,e0,_,_⟩:=DataW.trod_int Tryz.underlying3 h0
  obtain ⟨n1,e1,_,_⟩:=DataW.trod_int Tryz.underlying3 h1
  have e0:a = .int .i64 n0:=by simpa using e0
  have e1:b = .int .i64 n1:=by simpa using e1
  exact ⟨(n0,n1),by rw [e0,e1]; rfl⟩
set_option maxRecDepth 100000 in
theorem open_inode {H:Type} {enc:TypeId×Value→H} {W:World} {base:Nat} {v:Value} {d:DataW H} {p:List MemPlace} (hval:Value.okWide Tryz.prog W .any base 44 v) (h:DataW.Trod enc Tryz.prog W 0 (fun _=>true) true 44 v d p) :
  ∃ R:List Int,v = .agg ⟨Hd.ints R⟩∧R.length=15:=by
 obtain ⟨cs,rfl,_⟩:=okWide_struct Tryz.underlying44 hval
 obtain ⟨fuel,hf⟩:=h
 obtain ⟨R,e,l⟩:=one_inode _ _ _ hf
 obtain ⟨cl⟩:=cs
 have e:cl=Hd.ints R:=e
 exact ⟨R,by rw [e],l⟩
theorem laid_met (os:Os):laidMet Tryz.prog Rows.bmapExactRow.laid ((laidWorld os).forCall (fun _ _=>0) ⟨#[],#[.agg ⟨[.int .i64 0,.slice none 0 0,.slice none 0 0]⟩,.agg ⟨Hd.ints Bm.z15⟩,.slice none 0 0],[]⟩).memory :=
 laidMet_of_run' 8 (by kernel_rfl) (by kernel_rfl)
theorem reads (os:Os) {H:Type} (enc:TypeId×Value→H):∃ places,DataW.whole enc Tryz.prog ((laidWorld os).forCall (fun _ _=>0) ⟨#[],#[.agg ⟨[.int .i64 0,.slice none 0 0,.slice none 0 0]⟩,.agg ⟨Hd.ints Bm.z15⟩,.slice none 0 0],[]⟩).memory Tryz.f4.params.toList Rows.bmapExactSpec.vars false #[Value.agg ⟨[.int .i64 0,.slice none 0 0,.slice none 0 0]⟩,.agg ⟨Hd.ints Bm.z15⟩,.slice none 0 0].toList 8=some ([.agg [.lit (.int .i64 0),.nil,.nil],.agg [.lit (.int .i64 0),.lit (.int .i64 0),.lit (.int .i64 0),.agg (List.replicate 10 (.lit (.int .i64 0))),.lit (.int .i64 0),.lit (.int .i64 0)],.nil],[],places) :=
 ⟨[],by kernel_rfl⟩
set_option maxRecDepth 100000 in
theorem bex_lifted (os:Os) (started:os.Started) (H:Type) (enc:TypeId×Value→H) (F:Stop.Interp) :
  ReturnsInHanded {} Tryz.checked os 4 .any ((OpenSpec.ofChange Rows.bmapExactSpec).preRow enc Tryz.prog Tryz.f4 Rows.bmapExactRow.domain false Rows.bmapExactRow.laid) (((OpenSpec.ofChange Rows.bmapExactSpec).at F).post enc Tryz.prog Tryz.f4 false true false false):=by
 obtain ⟨places,hx⟩:=reads os enc
 refine lifted_row (C:=Tryz.checked) (P:=Tryz.prog) (s:=Rows.bmapExactSpec) (tb:=4) rfl Tryz.own started (by kernel_rfl) Tryz.func4
  (witness_row_at (enc:=enc) (C:=Tryz.checked) false (laidWorld os) #[.agg ⟨[.int .i64 0,.slice none 0 0,.slice none 0 0]⟩,.agg ⟨Hd.ints Bm.z15⟩,.slice none 0 0] rfl (by kernel_rfl) (by kernel_rfl) (by kernel_rfl)
   (OpenSpec.preRow_of_cond 8 hx (by kernel_rfl) (fun k hk=>by cases hk) (by kernel_rfl) (laid_met os)))
  Tryz.laidOut (by kernel_rfl) (by kernel_rfl) Tryz.underlying4 rfl ?_ ?_
 ·intro ds hl
  rw [Tryz.params4] at hl
  match ds,hl with
  | [_,_,_],_=>exact ⟨rfl,rfl,rfl⟩
 ·intro W base args ds ps hval hA hsz hL
  rw [Tryz.params4] at hA hval hsz
  obtain ⟨v0,v1,v2,d0,d1,d2,p0,p1,p2,rfl,rfl,rfl,h0,h1,h2⟩:=trodAll_three hA
  obtain ⟨more,ta,tc,ra,rc,ks,rs,rfl,X,Y,hY,l1,l2⟩:=open_setup (hval 0 41 v0 rfl rfl) h0 (light_arg hsz (j:=0) rfl rfl)
  obtain ⟨R,rfl,hR⟩:=open_inode (hval 1 44 v1 rfl rfl) h1
  obtain ⟨a1,il,ic,xs,rfl,B1,hy1,hlc1,room1⟩:=open_row (α:=Int×Int) Bm.pcellA (fun _=>rfl) Tryz.underlying45 Tryz.cellsOp (hval 2 45 v2 rfl rfl) h2 one_op
  subst hy1
  exact Bx.BmapExact_spec (table1 hL) X Y hY l1 l2 hR B1 hlc1 true_mk
theorem bex_said : Rows.BmapExactSaid :=
 OpenClaim.holds_of_cond 4 Tryz.f4 rfl rfl rfl rfl rfl rfl rfl ⟨rfl,rfl,rfl,rfl,rfl⟩ rfl rfl rfl rfl rfl (by kernel_rfl) Tryz.func4 (by kernel_rfl)
  (of_decide_eq_true (by kernel_rfl)) (by unfold Func.isWrapper; first|(rw [if_pos (by decide +kernel)]; kernel_rfl)|(rw [if_neg (by decide +kernel)]; exact ⟨rfl,rfl⟩))
  (fun os started H enc _ F=>by rw [OpenClaim.pre_eq_preRow]; exact bex_lifted os started H enc F)
theorem bex_plain (f : FuncId) (fn : Func) (hf : Tryz.pinned.checked.prog.funcNamed "bole/bolelaw10.BmapExact" = some f) (hfn : Tryz.pinned.checked.prog.funcs[f]? = some fn) :
  false=Tryz.pinned.checked.prog.looks []∧∀ (j:Nat) t,fn.params[j]?=some t→Tryz.pinned.checked.prog.wantsStandIn t=false:=by
 obtain rfl : f = 4 := Option.some.inj ((show Tryz.prog.funcNamed "bole/bolelaw10.BmapExact" = some 4 by kernel_rfl).symm.trans hf) |>.symm
 obtain rfl:fn=Tryz.f4:=(Option.some.inj (Tryz.func4.symm.trans hfn)).symm
 refine ⟨by kernel_rfl,fun j t ht=>?_⟩
 rw [Tryz.params4] at ht
 have:=Array.mem_of_getElem? ht
 have:t=41∨t=44∨t=45:=by simpa using this
 rcases this with rfl|rfl|rfl
 ·exact (show Tryz.prog.wantsStandIn 41=false by kernel_rfl)
 ·exact (show Tryz.prog.wantsStandIn 44=false by kernel_rfl)
 ·exact (show Tryz.prog.wantsStandIn 45=false by kernel_rfl)
theorem bmapExact_card : Rows.BmapExactCardSaid :=
 Claim7.holds_tied_plain_at .later [] _ _ _ _ bex_said (fun _ h=>by cases h) (by kernel_rfl) (fun _ h=>by cases h) bmapExact_row_tie rfl ⟨rfl,rfl⟩ (by kernel_rfl) rfl bex_plain (by kernel_rfl)
end Go.Proofs.YtcdpakjhjmchhaaGreatDoor
