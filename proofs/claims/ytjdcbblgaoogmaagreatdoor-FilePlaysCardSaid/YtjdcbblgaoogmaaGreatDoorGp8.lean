/- filePlays_card -/
import Derived.Lib.SmallJoins
import Derived.Test.YtjdcbblgaoogmaaGreatDoorGp7
namespace Go.Proofs.YtjdcbblgaoogmaaGreatDoor
open Go Go.Proofs Wx
variable{base:Nat}{W:World}
section
open Go Go.ChangeShapes Go.WideShapes Go.ChangeAt Go.RowKit Wx Hp Gl
theorem Tryz.cellsInt : Tryz.prog.cellsOf 3=1:=by kernel_rfl
theorem Tryz.cellsText : Tryz.prog.cellsOf 9=1:=by kernel_rfl
theorem Tryz.cellsTen : Tryz.prog.cellsOf 153=10:=by kernel_rfl
theorem Tryz.cellsInode : Tryz.prog.cellsOf 155=15:=by kernel_rfl
theorem Tryz.bytesInode : Tryz.prog.bytesOf 155=120:=by kernel_rfl
theorem Tryz.cellsInodes : Tryz.prog.cellsOf 89=1:=by kernel_rfl
theorem Tryz.cellsOp12 : Tryz.prog.cellsOf 97=5:=by kernel_rfl
theorem Tryz.cellsOps12 : Tryz.prog.cellsOf 90=1:=by kernel_rfl
theorem Tryz.cellsCase12 : Tryz.prog.cellsOf 92=3:=by kernel_rfl
theorem Um{H:Type}{enc:TypeId×Value->H}{P:Program}{w:World}{sp:Nat->Bool}{held:Bool}{fuel:Nat}{t e:TypeId}{n:Nat}{cs:LV}{y:DataW H×List MemPlace}
  (ht:P.underlying t=some (.array n e)) (he:P.underlying e=some (.int .i64)) (hce:P.cellsOf e=1) (hct:P.cellsOf t=n)
  (h:DataW.trod enc P w base sp held fuel t cs=some y):∃ns:List Int,cs=Hd.ints ns/\ns.length=n:=by
 cases fuel with
 | zero=>simp[DataW.trod]at h
 | succ fuel=>
  simp only[DataW.trod,ht,hce,hct,Nat.mul_one]at h
  split at h
  ·rename_i hl;obtain⟨xs,hm,hx⟩:=Option.map_eq_some_iff.1 h
   obtain⟨ns,hn,hq⟩:=Gb (p:=λi (x:Int)=>cs[i]?=some (vI x)) n λi hi=>by
    obtain⟨b,hb,hf⟩:=Lib.mapM_at hm i i (by simp[hi]);obtain⟨z,hc,_,_⟩:=DataW.trod_int he hf;refine⟨z,?_⟩;have:=congrArg (·[0]?) hc;simpa[List.getElem?_take,List.getElem?_drop]using this
   refine⟨ns,?_,hn⟩;apply List.ext_getElem?;intro i
   by_cases hi:i<n
   ·rw[hq i (by omega),Hd.ints,lG0,List.getElem?_eq_getElem (by omega)];rfl
   ·have hl:cs.length=n:=(by simpa using hl);rw[List.getElem?_eq_none (by omega),List.getElem?_eq_none (by simp[Hd.ints];omega)]
  ·cases h
set_option maxRecDepth 100000 in
theorem Qz{H:Type}{enc:TypeId×Value->H}(n:Nat)(cs:LV)(y:DataW H×List MemPlace)(h:DataW.trod enc Tryz.prog W 0 (λ_=>true) true n 155 cs=some y):∃R:List Int,cs=Hd.ints R/\R.length=15:=by
 obtain⟨xs,n,_,_,hl,hlen,hf⟩:=DataW.trod_struct Tryz.underlying155 h;rw[Tryz.cellsInode]at hl
 match xs,hlen with
 | [y0,y1,y2,y3,y4,y5],_=>
  have h0:DataW.trod enc Tryz.prog W 0 (λ_=>true) true n 3 (List.take (Tryz.prog.cellsOf 3) (List.drop 0 _))=some y0:=hf 0 _ rfl;have h1:DataW.trod enc Tryz.prog W 0 (λ_=>true) true n 3 (List.take (Tryz.prog.cellsOf 3) (List.drop 1 _))=some y1:=hf 1 _ rfl;have h2:DataW.trod enc Tryz.prog W 0 (λ_=>true) true n 3 (List.take (Tryz.prog.cellsOf 3) (List.drop 2 _))=some y2:=hf 2 _ rfl;have h3:DataW.trod enc Tryz.prog W 0 (λ_=>true) true n 153 (List.take (Tryz.prog.cellsOf 153) (List.drop 3 _))=some y3:=hf 3 _ rfl;have h4:DataW.trod enc Tryz.prog W 0 (λ_=>true) true n 3 (List.take (Tryz.prog.cellsOf 3) (List.drop 13 _))=some y4:=hf 4 _ rfl;have h5:DataW.trod enc Tryz.prog W 0 (λ_=>true) true n 3 (List.take (Tryz.prog.cellsOf 3) (List.drop 14 _))=some y5:=hf 5 _ rfl;simp only[Tryz.cellsInt,Tryz.cellsTen]at h0 h1 h2 h3 h4 h5
  match cs,hl with
  | [c0,c1,c2,c3,c4,c5,c6,c7,c8,c9,c10,c11,c12,c13,c14],_=>
   obtain⟨n0,e0,_,_⟩:=DataW.trod_int Tryz.underlying3 h0;obtain⟨n1,e1,_,_⟩:=DataW.trod_int Tryz.underlying3 h1;obtain⟨n2,e2,_,_⟩:=DataW.trod_int Tryz.underlying3 h2;obtain⟨ns,e3,l3⟩:=Um Tryz.underlying153 Tryz.underlying3 Tryz.cellsInt Tryz.cellsTen h3;obtain⟨n4,e4,_,_⟩:=DataW.trod_int Tryz.underlying3 h4;obtain⟨n5,e5,_,_⟩:=DataW.trod_int Tryz.underlying3 h5;have e0:[c0]=[vI n0]:=e0;have e1:[c1]=[vI n1]:=e1;have e2:[c2]=[vI n2]:=e2;have e3:[c3,c4,c5,c6,c7,c8,c9,c10,c11,c12]=Hd.ints ns:=e3;have e4:[c13]=[vI n4]:=e4;have e5:[c14]=[vI n5]:=e5;refine⟨[n0,n1,n2]++ns++[n4,n5],?_,by simp[l3]⟩;have:[c0,c1,c2,c3,c4,c5,c6,c7,c8,c9,c10,c11,c12,c13,c14]=[c0]++[c1]++[c2]++[c3,c4,c5,c6,c7,c8,c9,c10,c11,c12]++[c13]++[c14]:=rfl;rw[this,e0,e1,e2,e3,e4,e5];simp[Hd.ints]
set_option maxRecDepth 100000 in
theorem Un{H:Type}{enc:TypeId×Value->H}(n:Nat)(cs:LV)(y:DataW H×List MemPlace)(h:DataW.trod enc Tryz.prog W 0 (λ_=>true) true n 97 cs=some y):∃x:Sx.yL,cs=x.cells/\x.off<=9223372036854775807:=by
 obtain⟨xs,k,_,hd,hl,hlen,hf⟩:=DataW.trod_struct Tryz.underlying97 h;rw[Tryz.cellsOp12]at hl
 match xs,hlen with
 | [y0,y1,y2,y3,y4],_=>
  have h0:DataW.trod enc Tryz.prog W 0 (λ_=>true) true k 3 (List.take (Tryz.prog.cellsOf 3) (List.drop 0 _))=some y0:=hf 0 _ rfl;have h1:DataW.trod enc Tryz.prog W 0 (λ_=>true) true k 3 (List.take (Tryz.prog.cellsOf 3) (List.drop 1 _))=some y1:=hf 1 _ rfl;have h2:DataW.trod enc Tryz.prog W 0 (λ_=>true) true k 3 (List.take (Tryz.prog.cellsOf 3) (List.drop 2 _))=some y2:=hf 2 _ rfl;have h3:DataW.trod enc Tryz.prog W 0 (λ_=>true) true k 3 (List.take (Tryz.prog.cellsOf 3) (List.drop 3 _))=some y3:=hf 3 _ rfl;have h4:DataW.trod enc Tryz.prog W 0 (λ_=>true) true k 9 (List.take (Tryz.prog.cellsOf 9) (List.drop 4 _))=some y4:=hf 4 _ rfl;simp only[Tryz.cellsInt,Tryz.cellsText]at h0 h1 h2 h3 h4
  match cs,hl with
  | [a,b,c,d,e],_=>
   obtain⟨n0,e0,_,_⟩:=DataW.trod_int Tryz.underlying3 h0;obtain⟨n1,e1,_,_⟩:=DataW.trod_int Tryz.underlying3 h1;obtain⟨n2,e2,_,w2⟩:=DataW.trod_int Tryz.underlying3 h2;obtain⟨n3,e3,_,_⟩:=DataW.trod_int Tryz.underlying3 h3;obtain⟨s,e4,_,_⟩:=DataW.trod_string Tryz.underlying9 h4;have e0:a = vI n0:=(by simpa using e0);have e1:b = vI n1:=(by simpa using e1);have e2:c = vI n2:=(by simpa using e2);have e3:d = vI n3:=(by simpa using e3);have e4:e = .string s:=(by simpa using e4);obtain⟨⟨l⟩⟩:=s;exact⟨⟨n0,n1,n2,n3,l⟩,by rw[e0,e1,e2,e3,e4];rfl,(Pb w2).2⟩
set_option maxRecDepth 100000 in
theorem Lc{H:Type}{enc:TypeId×Value->H}{v:Value}{d:DataW H}{p:List MemPlace}(yY:Value.okWide Tryz.prog W .any base 92 v)(h:DataW.Trod enc Tryz.prog W 0 (λ_=>true) true 92 v d p)(L:NV Tryz.prog 92 d) :
  ∃c:Sx.Ck,v = .agg ⟨c.cells⟩/\ak W.heap c.ra (c.qn.flatMap Hd.ints)/\(∀R∈c.qn,R.length=15)/\c.qn.length<=140737488355328/\ak W.heap c.sa (c.ops.flatMap Sx.yL.cells)/\∀o∈c.ops,o.off<=9223372036854775807:=by
 obtain⟨cs,rfl,_⟩:=okWide_struct Tryz.underlying92 yY;obtain⟨fuel,hf⟩:=h;obtain⟨xs,n,_,hd,hl,hlen,hf⟩:=DataW.trod_struct Tryz.underlying92 hf;rw[Tryz.cellsCase12]at hl
 match xs,hlen with
 | [y0,y1,y2],_=>
  have h0:DataW.trod enc Tryz.prog W 0 (λ_=>true) true n 3 (List.take (Tryz.prog.cellsOf 3) (List.drop 0 _))=some y0:=hf 0 _ rfl;have h1:DataW.trod enc Tryz.prog W 0 (λ_=>true) true n 89 (List.take (Tryz.prog.cellsOf 89) (List.drop 1 _))=some y1:=hf 1 _ rfl;have h2:DataW.trod enc Tryz.prog W 0 (λ_=>true) true n 90 (List.take (Tryz.prog.cellsOf 90) (List.drop 2 _))=some y2:=hf 2 _ rfl
  have ed:d = .agg [y0.1,y1.1,y2.1]:=by
   have:=congrArg Prod.fst hd;simpa using this
  rw[ed]at L;simp only[Tryz.cellsInt,Tryz.cellsInodes,Tryz.cellsOps12]at h0 h1 h2;obtain⟨cl⟩:=cs
  match cl,hl with
  | [c0,c1,c2],_=>
   obtain⟨n0,e0,_,_⟩:=DataW.trod_int Tryz.underlying3 h0
   obtain⟨ra,rl,rc,xs,e1,B,UU,k2,r1,hq1⟩:=Dm (α:={ R:List Int // R.length=15 }) (λx=>Hd.ints x.1) (λ_ _=>True) (λx=>by rw[Hd.ints,lM0];exact x.2) Tryz.underlying89 Tryz.cellsInode h1 λn cs y h=>by
    obtain⟨R,e,l⟩:=Qz n cs y h;exact⟨⟨R,l⟩,e,trivial⟩
   obtain⟨sa,sl,sc,ops,e2,S,HA,_,_,hq⟩:=Dm (α:=Sx.yL) Sx.yL.cells (λ_ x=>x.off<=9223372036854775807) (λ_=>rfl) Tryz.underlying90 Tryz.cellsOp12 h2 Un;have L1:NV Tryz.prog 89 y1.1:=λw hw=>L w (JG (j:=1) Tryz.underlying92 rfl rfl hw);have m1:=LP L1 Tryz.underlying89 r1;rw[Tryz.bytesInode]at m1;have e0:[c0]=[vI n0]:=e0;have e1:[c1]=[vS ra rl rc]:=e1;have e2:[c2]=[vS sa sl sc]:=e2;have e0:=(List.cons.inj e0).1;have e1:=(List.cons.inj e1).1;have e2:=(List.cons.inj e2).1;have lx:(xs.map (·.1)).length=rl:=(by rw[lM0,UU]);refine⟨⟨n0,ra,rc,xs.map (·.1),sa,sc,ops⟩,by rw[e0,e1,e2,<-HA,<-lx];rfl,?_,λR hR=>?_,by show(xs.map (·.1)).length<=_;omega,S,λo ho=>?_⟩
   ·show ak W.heap ra ((xs.map (·.1)).flatMap Hd.ints);rw[List.flatMap_map];exact B
   ·obtain⟨x,_,rfl⟩:=List.mem_map.mp hR;exact x.2
   ·obtain⟨i,hi,rfl⟩:=List.mem_iff_getElem.mp ho;obtain⟨z,_,h⟩:=hq i hi;exact h
theorem Np(os:Os):laidMet Tryz.prog Rows.filePlaysRow.laid ((AF os).forCall (λ_ _=>0) ⟨#[],#[.agg #[vI 0,vS none 0 0,vS none 0 0]],[]⟩).memory:=
 laidMet_of_run' 8 (by kernel_rfl) (by kernel_rfl)
theorem Xs(os:Os){H:Type}(enc:TypeId×Value->H):∃places,DataW.whole enc Tryz.prog ((AF os).forCall (λ_ _=>0) ⟨#[],#[.agg #[.int .i64 0,.slice none 0 0,.slice none 0 0]],[]⟩).memory Tryz.f6.params.toList Rows.filePlaysSpec.vars false #[Value.agg #[.int .i64 0,.slice none 0 0,.slice none 0 0]].toList 8=some ([.agg [.lit (.int .i64 0),.nil,.nil]],[],places):=
 ⟨[],by kernel_rfl⟩
set_option maxRecDepth 100000 in
theorem IL(os:Os)(started:os.Started)(H:Type)(enc:TypeId×Value->H)(F:Stop.Interp) :
  ReturnsInHanded {} Tryz.checked os 6 .any ((OpenSpec.ofChange Rows.filePlaysSpec).preRow enc Tryz.prog Tryz.f6 Rows.filePlaysRow.domain false Rows.filePlaysRow.laid) (((OpenSpec.ofChange Rows.filePlaysSpec).at F).post enc Tryz.prog Tryz.f6 false true false false):=by
 obtain⟨places,hx⟩:=Xs os enc;refine LO (C:=Tryz.checked) (P:=Tryz.prog) (s:=Rows.filePlaysSpec) (tb:=4) rfl Tryz.own started (by kernel_rfl) Tryz.func6
  (witness_row_at (enc:=enc) (C:=Tryz.checked) false (AF os) #[.agg #[vI 0,vS none 0 0,vS none 0 0]] rfl (by kernel_rfl) (by kernel_rfl) (by kernel_rfl)
   (OpenSpec.preRow_of_cond 8 hx (by kernel_rfl) (λk hk=>by cases hk) (by kernel_rfl) (Np os)))
  Tryz.laidOut (by kernel_rfl) (by kernel_rfl) Tryz.underlying4 rfl ?_ ?_
 ·intro ds hl;rw[Tryz.params6]at hl
  match ds,hl with
  | [_],_=>exact⟨rfl,rfl,rfl⟩
 ·intro W base args ds ps yY hA mW hL;rw[Tryz.params6]at hA yY mW;obtain⟨v0,d0,rfl,rfl,h0⟩:=trodAll_one hA;obtain⟨c,rfl,B,hR,hl,S,ok⟩:=Lc (yY 0 92 v0 rfl rfl) h0 (Pc mW (j:=0) rfl rfl);exact Sx.EH (tables hL) B hR hl S ok Vd
theorem Nq : Rows.FilePlaysSaid:=
 OpenClaim.holds_of_cond 6 Tryz.f6 rfl rfl rfl rfl rfl rfl rfl ⟨rfl,rfl,rfl,rfl,rfl⟩ rfl rfl rfl rfl rfl (by kernel_rfl) Tryz.func6 (by kernel_rfl)
  (of_decide_eq_true (by kernel_rfl)) (by unfold Func.isWrapper;first|(rw[if_pos (by decide +kernel)];kernel_rfl)|(rw[if_neg (by decide +kernel)];exact⟨rfl,rfl⟩))
  (λos started H enc _ F=>by rw[OpenClaim.pre_eq_preRow];exact IL os started H enc F)
theorem Ld (f : FuncId) (fn : Func) (hf : Tryz.pinned.checked.prog.funcNamed "bole/bolelaw12.FilePlays" = some f) (hfn : Tryz.pinned.checked.prog.funcs[f]? = some fn) :
  true=Tryz.pinned.checked.prog.looks []/\∀(j:Nat) t,fn.params[j]?=some t->Tryz.pinned.checked.prog.wantsStandIn t=false:=by
 obtain rfl : f = 6 := Option.some.inj ((show Tryz.prog.funcNamed "bole/bolelaw12.FilePlays" = some 6 by kernel_rfl).symm.trans hf) |>.symm;obtain rfl:fn=Tryz.f6:=(Option.some.inj (Tryz.func6.symm.trans hfn)).symm;refine ⟨by kernel_rfl,fun j t ht=>?_⟩;rw [Tryz.params6] at ht;have:=Array.mem_of_getElem? ht;have:t=92:=by simpa using this
 subst this;exact(show Tryz.prog.wantsStandIn 92=false by kernel_rfl)
theorem filePlays_card : Rows.FilePlaysCardSaid:=
 Claim7.holds_tied_plain_at .later [] _ _ _ _ Nq (λ_ h=>by cases h) (by kernel_rfl) (λ_ h=>by cases h) filePlays_row_tie rfl ⟨rfl,rfl⟩ (by kernel_rfl) rfl Ld (by kernel_rfl)
end
end Go.Proofs.YtjdcbblgaoogmaaGreatDoor
