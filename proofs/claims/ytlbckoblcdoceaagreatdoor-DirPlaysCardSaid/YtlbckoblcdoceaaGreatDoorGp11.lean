/- dirPlays_card -/
import Derived.Lib.SmallJoins
import Derived.Test.YtlbckoblcdoceaaGreatDoorGp10
namespace Go.Proofs.YtlbckoblcdoceaaGreatDoor
open Go Go.Proofs Wx
variable{base:Nat}{W:World}
open _root_.List renaming getElem?_eq_none->CU,length_map->aP
section
open Go Go.ChangeShapes Go.WideShapes Go.ChangeAt Go.RowKit Wx Hp Gl
theorem Tryz.cellsInt : Tryz.prog.cellsOf 3=1:=by kernel_rfl
theorem Tryz.cellsText : Tryz.prog.cellsOf 9=1:=by kernel_rfl
theorem Tryz.cellsTen : Tryz.prog.cellsOf 30=10:=by kernel_rfl
theorem Tryz.cellsInode : Tryz.prog.cellsOf 32=15:=by kernel_rfl
theorem Tryz.bytesInode : Tryz.prog.bytesOf 32=120:=by kernel_rfl
theorem Tryz.cellsInodes : Tryz.prog.cellsOf 22=1:=by kernel_rfl
theorem Tryz.cellsOp15 : Tryz.prog.cellsOf 50=4:=by kernel_rfl
theorem Tryz.cellsOps15 : Tryz.prog.cellsOf 23=1:=by kernel_rfl
theorem Tryz.cellsCase15 : Tryz.prog.cellsOf 25=3:=by kernel_rfl
theorem YD{H:Type}{enc:TypeId×Value->H}{P:Program}{w:World}{sp:Nat->Bool}{held:Bool}{fuel:Nat}{t e:TypeId}{n:Nat}{cs:LV}{y:DataW H×List MemPlace}
  (ht:P.underlying t=some (.array n e)) (he:P.underlying e=some (.int .i64)) (hce:P.cellsOf e=1) (hct:P.cellsOf t=n)
  (h:DataW.trod enc P w base sp held fuel t cs=some y):∃ns:List Int,cs=Hd.ints ns/\ns.length=n:=by
 cases fuel with
 | zero=>simp[DataW.trod]at h
 | succ fuel=>
  simp only[DataW.trod,ht,hce,hct,Nat.mul_one]at h
  split at h
  ·rename_i hl;obtain⟨xs,hm,hx⟩:=Option.map_eq_some_iff.1 h
   obtain⟨ns,hn,hq⟩:=Kv (p:=λi (x:Int)=>cs[i]?=some (vI x)) n λi hi=>by
    obtain⟨b,hb,hf⟩:=Lib.mapM_at hm i i (by simp[hi]);obtain⟨z,hc,_,_⟩:=DataW.trod_int he hf;refine⟨z,?_⟩;have:=congrArg (·[0]?) hc;simpa[List.getElem?_take,List.getElem?_drop]using this
   refine⟨ns,?_,hn⟩;apply List.ext_getElem?;intro i
   by_cases hi:i<n
   ·rw[hq i oX,Hd.ints,List.getElem?_map,List.getElem?_eq_getElem oX];rfl
   ·have hl:cs.length=n:=(by simpa using hl);rw[CU oX,CU (by simp[Hd.ints];omega)]
  ·cases h
set_option maxRecDepth 100000 in
theorem U9{H:Type}{enc:TypeId×Value->H}(n:Nat)(cs:LV)(y:DataW H×List MemPlace)(h:DataW.trod enc Tryz.prog W 0 (λ_=>true) true n 32 cs=some y):∃R:List Int,cs=Hd.ints R/\R.length=15:=by
 obtain⟨xs,n,_,_,hl,hlen,hf⟩:=DataW.trod_struct Tryz.underlying32 h;rw[Tryz.cellsInode]at hl
 match xs,hlen with
 | [y0,y1,y2,y3,y4,y5],_=>
  have h0:DataW.trod enc Tryz.prog W 0 (λ_=>true) true n 3 (List.take (Tryz.prog.cellsOf 3) (List.drop 0 _))=some y0:=hf 0 _ rfl;have h1:DataW.trod enc Tryz.prog W 0 (λ_=>true) true n 3 (List.take (Tryz.prog.cellsOf 3) (List.drop 1 _))=some y1:=hf 1 _ rfl;have h2:DataW.trod enc Tryz.prog W 0 (λ_=>true) true n 3 (List.take (Tryz.prog.cellsOf 3) (List.drop 2 _))=some y2:=hf 2 _ rfl;have h3:DataW.trod enc Tryz.prog W 0 (λ_=>true) true n 30 (List.take (Tryz.prog.cellsOf 30) (List.drop 3 _))=some y3:=hf 3 _ rfl;have h4:DataW.trod enc Tryz.prog W 0 (λ_=>true) true n 3 (List.take (Tryz.prog.cellsOf 3) (List.drop 13 _))=some y4:=hf 4 _ rfl;have h5:DataW.trod enc Tryz.prog W 0 (λ_=>true) true n 3 (List.take (Tryz.prog.cellsOf 3) (List.drop 14 _))=some y5:=hf 5 _ rfl;simp only[Tryz.cellsInt,Tryz.cellsTen]at h0 h1 h2 h3 h4 h5
  match cs,hl with
  | [c0,c1,c2,c3,c4,c5,c6,c7,c8,c9,c10,c11,LG,c13,c14],_=>
   obtain⟨n0,e0,_,_⟩:=DataW.trod_int Tryz.underlying3 h0;obtain⟨n1,e1,_,_⟩:=DataW.trod_int Tryz.underlying3 h1;obtain⟨n2,e2,_,_⟩:=DataW.trod_int Tryz.underlying3 h2;obtain⟨ns,e3,l3⟩:=YD Tryz.underlying30 Tryz.underlying3 Tryz.cellsInt Tryz.cellsTen h3;obtain⟨n4,e4,_,_⟩:=DataW.trod_int Tryz.underlying3 h4;obtain⟨n5,e5,_,_⟩:=DataW.trod_int Tryz.underlying3 h5;have e0:[c0]=[vI n0]:=e0;have e1:[c1]=[vI n1]:=e1;have e2:[c2]=[vI n2]:=e2;have e3:[c3,c4,c5,c6,c7,c8,c9,c10,c11,LG]=Hd.ints ns:=e3;have e4:[c13]=[vI n4]:=e4;have e5:[c14]=[vI n5]:=e5;refine⟨[n0,n1,n2]++ns++[n4,n5],?_,by simp[l3]⟩;have:[c0,c1,c2,c3,c4,c5,c6,c7,c8,c9,c10,c11,LG,c13,c14]=[c0]++[c1]++[c2]++[c3,c4,c5,c6,c7,c8,c9,c10,c11,LG]++[c13]++[c14]:=rfl;rw[this,e0,e1,e2,e3,e4,e5];simp[Hd.ints]
set_option maxRecDepth 100000 in
theorem YE{H:Type}{enc:TypeId×Value->H}(n:Nat)(cs:LV)(y:DataW H×List MemPlace)(h:DataW.trod enc Tryz.prog W 0 (λ_=>true) true n 50 cs=some y):∃x:Td.HR,cs=x.cells/\(EE Tryz.prog 50 y.1->x.s.length<=140737488351232):=by
 obtain⟨y0,y1,y2,y3,k,hy,hl,h0,h1,h2,h3⟩:=Go.Joins.trod_struct4 Tryz.underlying50 h;rw[Tryz.cellsOp15]at hl;simp only[Tryz.cellsInt,Tryz.cellsText]at h0 h1 h2 h3
 match cs,hl with
 | [a,b,c,d],_=>
  obtain⟨n0,e0,_,_⟩:=DataW.trod_int Tryz.underlying3 h0;obtain⟨n1,e1,_,_⟩:=DataW.trod_int Tryz.underlying3 h1;obtain⟨l,e2,d2⟩:=QR Tryz.underlying9 h2;obtain⟨n3,e3,_,_⟩:=DataW.trod_int Tryz.underlying3 h3;have e0:a = vI n0:=by simpa using e0
  have e1:b = vI n1:=by simpa using e1
  have e2:c = .string (mkStr l):=by simpa using e2
  have e3:d = vI n3:=by simpa using e3
  refine⟨⟨n0,n1,l,n3⟩,by rw[e0,e1,e2,e3];rfl,λL=>?_⟩;have L2:EE Tryz.prog 9 y2.1:=λw hw=>L w (by rw[hy];exact y9 (j:=2) Tryz.underlying50 rfl rfl hw);rw[d2]at L2;exact aaS L2
set_option maxRecDepth 100000 in
theorem OG{H:Type}{enc:TypeId×Value->H}{v:Value}{d:DataW H}{p:List MemPlace}(BI:Value.okWide Tryz.prog W .any base 25 v)(h:DataW.Trod enc Tryz.prog W 0 (λ_=>true) true 25 v d p)(L:EE Tryz.prog 25 d) :
  ∃c:Td.Cd,v = .agg ⟨c.cells⟩/\ak W.heap c.ra (c.qm.flatMap Hd.ints)/\(∀R∈c.qm,R.length=15)/\c.qm.length<=140737488355328/\ak W.heap c.sa (c.ops.flatMap Td.HR.cells)/\∀o∈c.ops,o.s.length<=140737488351232:=by
 obtain⟨cs,rfl,_⟩:=okWide_struct Tryz.underlying25 BI;obtain⟨fuel,hf⟩:=h;obtain⟨xs,n,_,hd,hl,hlen,hf⟩:=DataW.trod_struct Tryz.underlying25 hf;rw[Tryz.cellsCase15]at hl
 match xs,hlen with
 | [y0,y1,y2],_=>
  have h0:DataW.trod enc Tryz.prog W 0 (λ_=>true) true n 3 (List.take (Tryz.prog.cellsOf 3) (List.drop 0 _))=some y0:=hf 0 _ rfl;have h1:DataW.trod enc Tryz.prog W 0 (λ_=>true) true n 22 (List.take (Tryz.prog.cellsOf 22) (List.drop 1 _))=some y1:=hf 1 _ rfl;have h2:DataW.trod enc Tryz.prog W 0 (λ_=>true) true n 23 (List.take (Tryz.prog.cellsOf 23) (List.drop 2 _))=some y2:=hf 2 _ rfl
  have ed:d = .agg [y0.1,y1.1,y2.1]:=by
   have:=congrArg Prod.fst hd;simpa using this
  rw[ed]at L;simp only[Tryz.cellsInt,Tryz.cellsInodes,Tryz.cellsOps15]at h0 h1 h2;obtain⟨cl⟩:=cs
  match cl,hl with
  | [c0,c1,c2],_=>
   obtain⟨n0,e0,_,_⟩:=DataW.trod_int Tryz.underlying3 h0
   obtain⟨ra,rl,rc,xs,e1,B,Vd,k2,r1,hq1⟩:=HZ (α:={ R:List Int // R.length=15 }) (λx=>Hd.ints x.1) (λ_ _=>True) (λx=>by rw[Hd.ints,aP];exact x.2) Tryz.underlying22 Tryz.cellsInode h1 λn cs y h=>by
    obtain⟨R,e,l⟩:=U9 n cs y h;exact⟨⟨R,l⟩,e,trivial⟩
   obtain⟨sa,sl,sc,ops,e2,S,DQ,_,_,hq⟩:=HZ (α:=Td.HR) Td.HR.cells (λd x=>EE Tryz.prog 50 d->x.s.length<=140737488351232) (λ_=>rfl) Tryz.underlying23 Tryz.cellsOp15 h2 YE;have L1:EE Tryz.prog 22 y1.1:=λw hw=>L w (y9 (j:=1) Tryz.underlying25 rfl rfl hw);have m1:=QQ L1 Tryz.underlying22 r1;rw[Tryz.bytesInode]at m1;have e0:[c0]=[vI n0]:=e0;have e1:[c1]=[vS ra rl rc]:=e1;have e2:[c2]=[vS sa sl sc]:=e2;have e0:=(List.cons.inj e0).1;have e1:=(List.cons.inj e1).1;have e2:=(List.cons.inj e2).1;have lx:(xs.map (·.1)).length=rl:=(by rw[aP,Vd]);refine⟨⟨n0,ra,rc,xs.map (·.1),sa,sc,ops⟩,by rw[e0,e1,e2,<-DQ,<-lx];rfl,?_,λR hR=>?_,by show(xs.map (·.1)).length<=_;omega,S,λo ho=>?_⟩
   ·show ak W.heap ra ((xs.map (·.1)).flatMap Hd.ints);rw[List.flatMap_map];exact B
   ·obtain⟨x,_,rfl⟩:=List.mem_map.mp hR;exact x.2
   ·obtain⟨i,hi,rfl⟩:=List.mem_iff_getElem.mp ho;obtain⟨z,hz,h⟩:=hq i hi;exact h λw hw=>L w (y9 (j:=2) Tryz.underlying25 rfl rfl (hz w hw))
theorem QS(os:Os):laidMet Tryz.prog Rows.dirPlaysRow.laid ((DN os).forCall (λ_ _=>0) ⟨#[],#[.agg #[vI 0,vS none 0 0,vS none 0 0]],[]⟩).memory:=
 laidMet_of_run' 8 (by kernel_rfl) (by kernel_rfl)
theorem aaT(os:Os){H:Type}(enc:TypeId×Value->H):∃places,DataW.whole enc Tryz.prog ((DN os).forCall (λ_ _=>0) ⟨#[],#[.agg #[.int .i64 0,.slice none 0 0,.slice none 0 0]],[]⟩).memory Tryz.f3.params.toList Rows.dirPlaysSpec.vars false #[Value.agg #[.int .i64 0,.slice none 0 0,.slice none 0 0]].toList 8=some ([.agg [.lit (.int .i64 0),.nil,.nil]],[],places):=
 ⟨[],by kernel_rfl⟩
set_option maxRecDepth 100000 in
theorem OH(os:Os)(started:os.Started)(H:Type)(enc:TypeId×Value->H)(F:Stop.Interp) :
  ReturnsInHanded {} Tryz.checked os 3 .any ((OpenSpec.ofChange Rows.dirPlaysSpec).preRow enc Tryz.prog Tryz.f3 Rows.dirPlaysRow.domain false Rows.dirPlaysRow.laid) (((OpenSpec.ofChange Rows.dirPlaysSpec).at F).post enc Tryz.prog Tryz.f3 false true false false):=by
 obtain⟨places,hx⟩:=aaT os enc;refine QP (C:=Tryz.checked) (P:=Tryz.prog) (s:=Rows.dirPlaysSpec) (tb:=4) rfl Tryz.own started (by kernel_rfl) Tryz.func3
  (witness_row_at (enc:=enc) (C:=Tryz.checked) false (DN os) #[.agg #[vI 0,vS none 0 0,vS none 0 0]] rfl (by kernel_rfl) (by kernel_rfl) (by kernel_rfl)
   (OpenSpec.preRow_of_cond 8 hx (by kernel_rfl) (λk hk=>by cases hk) (by kernel_rfl) (QS os)))
  Tryz.laidOut (by kernel_rfl) (by kernel_rfl) Tryz.underlying4 rfl ?_ ?_
 ·intro ds hl;rw[Tryz.params3]at hl
  match ds,hl with
  | [_],_=>exact⟨rfl,rfl,rfl⟩
 ·intro W base args ds ps BI hA lV hL;rw[Tryz.params3]at hA BI lV;obtain⟨v0,d0,rfl,rfl,h0⟩:=trodAll_one hA;obtain⟨c,rfl,B,hR,hl,S,ok⟩:=OG (BI 0 25 v0 rfl rfl) h0 (U8 lV (j:=0) rfl rfl);exact Td.IK (tables hL) B hR hl S ok aaR
theorem aaU : Rows.dirPlaysRow.wf (OpenSpec.ofChange (OpenSpec.ofChange Rows.dirPlaysSpec).bare)=true:=by kernel_rfl
theorem aaV : mapsRowed Tryz.prog=true:=by kernel_rfl
theorem aaW : (Rows.dirPlaysRow.inPlace==Tryz.prog.inPlace 3)=true:=by kernel_rfl
theorem aaX : Tryz.prog.unfollowed 3=true:=by kernel_rfl
theorem aaY : (Rows.dirPlaysRow.named==Tryz.prog.varsNamed 3)=true:=by kernel_rfl
theorem aaZ : (Rows.dirPlaysRow.plainKeys==Tryz.prog.plainKeys)=true:=by kernel_rfl
set_option maxHeartbeats 1000000 in
theorem QT : joinedFacts Tryz.prog 3 Tryz.f3 (OpenSpec.ofChange Rows.dirPlaysSpec).bare Rows.dirPlaysRow=true:=
 HB aaU Tryz.laidOut aaV (by as_aux_lemma=>kernel_rfl) aaW aaX rfl rfl aaY (by as_aux_lemma=>kernel_rfl) aaZ (by as_aux_lemma=>kernel_rfl) (by as_aux_lemma=>kernel_rfl)
theorem Va : Rows.DirPlaysSaid:=
 OpenClaim.holds_of_cond 3 Tryz.f3 rfl rfl rfl rfl rfl rfl rfl ⟨rfl,rfl,rfl,rfl,rfl⟩ rfl rfl rfl rfl rfl (by kernel_rfl) Tryz.func3 QT
  (of_decide_eq_true (by kernel_rfl)) (by unfold Func.isWrapper;first|(rw[if_pos (by decide +kernel)];kernel_rfl)|(rw[if_neg (by decide +kernel)];exact⟨rfl,rfl⟩))
  (λos started H enc _ F=>by rw[OpenClaim.pre_eq_preRow];exact OH os started H enc F)
theorem QU (f : FuncId) (fn : Func) (hf : Tryz.pinned.checked.prog.funcNamed "bole/bolelaw15.DirPlays" = some f) (hfn : Tryz.pinned.checked.prog.funcs[f]? = some fn) :
  false=Tryz.pinned.checked.prog.looks []/\∀(j:Nat) t,fn.params[j]?=some t->Tryz.pinned.checked.prog.wantsStandIn t=false:=by
 obtain rfl : f = 3 := Option.some.inj ((show Tryz.prog.funcNamed "bole/bolelaw15.DirPlays" = some 3 by kernel_rfl).symm.trans hf) |>.symm;obtain rfl:fn=Tryz.f3:=(Option.some.inj (Tryz.func3.symm.trans hfn)).symm;refine ⟨by kernel_rfl,fun j t ht=>?_⟩;rw [Tryz.params3] at ht;have:=Array.mem_of_getElem? ht;have:t=25:=by simpa using this
 subst this;exact(show Tryz.prog.wantsStandIn 25=false by kernel_rfl)
theorem dirPlays_card : Rows.DirPlaysCardSaid:=
 Claim7.holds_tied_plain_at .later [] _ _ _ _ Va (λ_ h=>by cases h) (by kernel_rfl) (λ_ h=>by cases h) dirPlays_row_tie rfl ⟨rfl,rfl⟩ (by kernel_rfl) rfl QU (by kernel_rfl)
end
end Go.Proofs.YtlbckoblcdoceaaGreatDoor
