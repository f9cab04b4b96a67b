/- dirPlays_card -/
import Derived.ProofKit
import Derived.SizedLaws
import Derived.ChangeCalls
import Derived.Deep.Strs
import Derived.Test.YtlbckoblcdoceaaGreatDoorRows
import Derived.JoinedCond
import Derived.OpenShut
import Derived.Deep.DeepHandedRow
import Derived.Lib.LaidTab
import Derived.Test.YtlbckoblcdoceaaGreatDoorCards
import Derived.Test.YtlbckoblcdoceaaGreatDoorTie
import Derived.Test.YtlbckoblcdoceaaGreatDoorGp9
namespace Go.Proofs.YtlbckoblcdoceaaGreatDoor
open Go Go.Proofs Wx
variable{h:ad}{a:Addr}{w base n:Nat}{t e:TypeId}{W:World}
open _root_.List renaming mem_cons_self->kj,mem_append_left->OY,mem_cons_of_mem->gV,mem_append_right->Tb,all_eq_true->oN,append_nil->gi,getElem?_eq_none->CU,length_map->aP
open _root_.Option renaming map_eq_some_iff->acI
namespace Gl
open Go Go.ChangeShapes Go.WideShapes Go.ChangeAt Go.RowKit Go.Proofs Wx Hp
theorem IL{H:Type}{enc:TypeId×Value->H}{P:Program}(hl:laidOutB P=true){W W':World}(hb:Below W.heap.size W W') :
  ∀{ts:List TypeId} {vs:LV} {ds:List (DataW H)} {ps:List MemPlace},(∀t∈ts,P.readableRec t=true/\t<P.types.size)->DataW.TrodAll enc P W 0 (λ_=>true) true ts vs ds ps->
   (∀x∈ps,x.block<W.heap.size)->DataW.TrodAll enc P W' 0 (λb=>decide (b<W.heap.size)) true ts vs ds ps:=by
 intro ts
 induction ts with
 | nil=>
  intro vs ds ps _ h _;obtain⟨rfl,rfl,rfl⟩:=trodAll_nil h;exact trodAll_mk0
 | cons t ts ih=>
  intro vs ds ps hts h bV
  match vs,ds,h with
  | v::vs,d::ds,⟨p,q,h1,h2,e⟩=>
   subst e;obtain⟨a1,a2⟩:=hts t (kj ..);exact⟨p,q,Below.trod hl a1 a2 h1 hb (λx hx=>bV x (OY _ hx)),ih (λu hu=>hts u (gV _ hu)) h2 (λx hx=>bV x (Tb _ hx)),rfl⟩
def acJ(h:ad):Value->ad->Prop:=λv h'=>v = .bool true/\Fr No h h'
theorem aaR:∀h',Fr No h h'->acJ h (.bool true) h':=λ_ f=>⟨rfl,f⟩
def ajm{H:Type}(d:DataW H)(c:Nat):Prop:=c=0∨∃es sp,d = .slice es sp/\es.length+sp.length=c
theorem ai.append{xs ys:LV}(c:ai h a xs)(d:ai h (a.add xs.length) ys):ai h a (xs++ys):=by
 intro i v hv
 rcases Nat.lt_or_ge i xs.length with hi|hi
 ·rw[List.getElem?_append_left hi]at hv;exact c i v hv
 ·rw[List.getElem?_append_right hi]at hv;have:=d (i-xs.length) v hv
  by_cases h0:i-xs.length=0
  ·rw[h0,Addr.add_zero]at this;rw[show i=xs.length by omega];exact this
  ·rw[Addr.add_add]at this;rw[show i=xs.length+(i-xs.length) by omega];exact this
theorem HW{w:World}{cs:LV}(h:w.cells? base a n=some cs):ai w.heap a cs:=by
 obtain⟨_,h2,h3⟩:=World.cells?_some h;intro i v hv;have hi:i<cs.length:=(List.getElem?_eq_some_iff.mp hv).1;have:=h3 i oX;rw[hv]at this;exact this
theorem QO{α:Type}{f:α->LV}:∀(xs:List α) (a:Addr) (k:Nat),(∀x∈xs,(f x).length=w)->(∀i (hi:i<xs.length),ai h (a.add ((k+i)*w)) (f xs[i]))->ai h (a.add (k*w)) (xs.flatMap f):=by
 intro xs
 induction xs with
 | nil=>intro a k _ _;exact ai.nil h _
 | cons x r ih=>
  intro a k hw hc;rw[List.flatMap_cons];refine ai.append (hc 0 (by simp)) ?_
  have:=ih a (k+1) (λy hy=>hw y (gV _ hy)) (λi hi=>by
   have:=hc (i+1) (by simpa using hi)
   rw[show k+1+i=k+(i+1) by omega];exact this)
  rw[hw x (kj ..)];rw[Nat.add_mul,Nat.one_mul]at this
  have e:(a.add (k*w)).add w=a.add (k*w+w):=by
   by_cases h0:w=0
   ·subst h0;simp[Addr.add]
   ·rw[Addr.add_add]
  rw[e];exact this
theorem Kv{α:Type}{p:Nat->α->Prop}:∀n,(∀i,i<n->∃x,p i x)->∃xs:List α,xs.length=n/\∀i (hi:i<xs.length),p i xs[i]:=by
 intro n
 induction n with
 | zero=>intro _;exact⟨[],rfl,λi hi=>absurd hi (by simp)⟩
 | succ n ih=>
  intro h;obtain⟨xs,hl,hx⟩:=ih λi hi=>h i oX;obtain⟨y,hy⟩:=h n oX;refine⟨xs++[y],by simp[hl],λi hi=>?_⟩
  rcases Nat.lt_or_ge i xs.length with h1|h1
  ·rw[List.getElem_append_left h1];exact hx i h1
  ·have:i=n:=(by simp at hi;omega);subst this;rw[List.getElem_append_right oX];simpa[hl]using hy
theorem QP{H:Type}{enc:TypeId×Value->H}{C:Checked}{P:Program}(hP:C.prog=P){os:Os}{f:FuncId}{fn:Func}{s:ChangeSpec}{tb:TypeId}{conds:List PathCond}{F:Stop.Interp}{laid:List (String×DataW Unit)}
  (own:ownKnob P.godebug=none) (started:os.Started) (afu:P.inits.idxOf? f=none) (hfn:P.funcs[f]?=some fn)
  (witness:∃(w:World) (tape:Tape) (i:Input),w.os=os/\(w.forCall tape i).Shaped P/\i.vars=[]/\Input.okWide P (w.forCall tape i) .any w.heap.size f i/\
   (OpenSpec.ofChange s).preRow enc P fn conds false laid (w.forCall tape i).memory i.args/\Assume.holds {} P (lone (Frame.enter P f i.args .normal) [] (w.forCall tape i)))
  (hl:laidOutB P=true) (hts0:(fn.params.toList.all λt=>P.readableRec t && decide (t<P.types.size))=true) (hr:fn.resultTypes = #[tb]) (hb:P.underlying tb=some .bool) (YB:s.vars=[])
  (adv:∀ds:List (DataW H),ds.length=fn.params.toList.length->(s.fn H (ds++[])).results=[.lit (.bool true)]/\(s.fn H (ds++[])).args=ds/\(s.fn H (ds++[])).vars=[])
  (law:∀(W:World) (base:Nat) (args:Array Value) (ds:List (DataW H)) (ps:List MemPlace),(∀(j:Nat) t v,fn.params[j]?=some t->args[j]?=some v->Value.okWide P W .any base t v)->
   DataW.TrodAll enc P W 0 (λ_=>true) true fn.params.toList args.toList ds ps->(DataW.weightsEach P fn.params.toList ds).all (· <=reachBytes)=true->laidMetH P laid W->
   qK P f args.toList W.heap (acJ W.heap)) :
  ReturnsInHanded {} C os f .any ((OpenSpec.ofChange s).preRow enc P fn conds false laid) (((OpenSpec.ofChange s).at F).post enc P fn false true false false):=by
 subst hP
 have hts:∀t∈fn.params.toList,C.prog.readableRec t=true/\t<C.prog.types.size:=by
  intro t ht;have:=oN.mp hts0 t ht;rw[Bool.and_eq_true]at this;exact⟨this.1,of_decide_eq_true this.2⟩
 refine returnsInHanded_of_row (C:=C) (s:=OpenSpec.ofChange s) own started afu hfn witness ?_;intro W base args ds gs before BI hW _ _ lV hL _ _;have hW':DataW.Whole enc C.prog fn.params.toList s.vars false W args.toList ds gs before:=hW;obtain⟨p,q,hA,hV,rfl,_,_⟩:=hW;rw[show(OpenSpec.ofChange s).vars=[] from YB]at hV;obtain⟨rfl,rfl⟩:=trodVars_none hV
 have hvt:(OpenSpec.ofChange s).bare.plain.varTypes C.prog=[]:=by
  have:(OpenSpec.ofChange s).bare.plain.vars=[]:=YB;simp[DataSpec.varTypes,this]
 rw[hvt,gi,gi]at lV;obtain⟨_,hc⟩:=law W base args ds p BI hA lV hL;have hlen:=(trodAll_length hA).2;obtain⟨e1,e2,e3⟩:=adv ds hlen;simp only[gi]at hW';refine(hc W rfl).mono λe W' ⟨v,he,hs,hv,hf⟩=>?_;subst hv;refine⟨_,he,ds,[],p,[],p,[],(by exact hW'),?_,?_,?_,?_,λh=>by cases h⟩
 ·show DataW.TrodAll _ _ _ _ _ _ _ _ (s.fn H (ds++[])).results _;rw[e1,hr];exact trodAll_mk1 (shut_bool hb true)
 ·show DataW.TrodAll _ _ _ _ _ _ _ _ (s.fn H (ds++[])).args _;rw[e2];exact IL hl ⟨hs.1,hs.2.1,hs.2.2,hf.size,λk hk=>hf.same k hk (λx=>x)⟩ hts hA (λx hx=>by simpa using hW'.lt x (by simpa using hx))
 ·have e4:(((OpenSpec.ofChange s).at F).fn H (ds++[])).vars=[]:=e3;have e5:((OpenSpec.ofChange s).at F).vars=[]:=YB;rw[e4,e5];rfl
 ·exact(Below.frame (⟨hs.1,hs.2.1,hs.2.2,hf.size,λk hk=>hf.same k hk (λx=>x)⟩:Below W.heap.size W W') _)
theorem HX{H:Type}{enc:TypeId×Value->H}{P:Program}{w:World}{sp:Nat->Bool}{held:Bool}{fuel:Nat}{cs:LV}{zs:List Bool}{p:List MemPlace}
  (ht:P.underlying t=some (.array n e)) (he:P.underlying e=some .bool) (hce:P.cellsOf e=1) (hct:P.cellsOf t=n)
  (h:DataW.trod enc P w base sp held fuel t cs=some (.agg (zs.map λz=>.lit (.bool z)),p)):cs=zs.map λz=>Value.bool z:=by
 cases fuel with
 | zero=>simp[DataW.trod]at h
 | succ fuel=>
  simp only[DataW.trod,ht,hce,hct,Nat.mul_one]at h
  split at h
  ·rename_i hl;obtain⟨xs,hm,hx⟩:=acI.1 h
   have hxs:xs.map (·.1)=zs.map λz=>(DataW.lit (.bool z):DataW H):=by
    have:=congrArg Prod.fst hx;simpa using this
   have hxl:xs.length=n:=by simpa using Lib.mapM_length hm
   have hzl:zs.length=n:=by
    have:=congrArg List.length hxs;simp at this;omega
   apply List.ext_getElem?;intro i
   by_cases hi:i<n
   ·obtain⟨b,hb,hf⟩:=Lib.mapM_at hm i i (by simp[hi]);obtain⟨z,hc,rfl⟩:=DataW.trod_bool he hf
    have h1:cs[i]?=some (.bool z):=by
     have:=congrArg (·[0]?) hc;simpa[List.getElem?_take,List.getElem?_drop]using this
    have h2:(xs.map (·.1))[i]?=some (DataW.lit (.bool z):DataW H):=(by simp[hb]);rw[hxs]at h2;simp only[List.getElem?_map,acI,DataW.lit.injEq,Lit.bool.injEq]at h2;obtain⟨z',hz',rfl⟩:=h2;simp[h1,hz']
   ·rw[CU oX,CU (by simp;omega)]
  ·cases h
theorem YC{P:Program}{name:String}{g:Nat}{cs:Array Value}(hg:P.globalNamed name=some g)(h:W.var? P name=some cs):rd W.heap g=cs.toList:=by
 unfold World.var? at h;rw[hg,Option.bind_some]at h
 cases hw:W.heap[g]? with
 | none=>rw[hw]at h;cases h
 | some o=>
  rw[hw]at h
  cases o with
  | cells c t z=>simp only[Option.some.injEq]at h;subst h;simp[rd,hw]
  | _=>cases h
theorem y8{H:Type}{P:Program}:∀{ts:List TypeId} {ds:List (DataW H)} {j:Nat} {t:TypeId} {d:DataW H} {w:Nat},ts[j]?=some t->ds[j]?=some d->w∈d.weights P t->w∈DataW.weightsEach P ts ds
 | [],_,_,_,_,_,h,_,_=>by simp at h
 | _::_,[],_,_,_,_,_,h,_=>by simp at h
 | t::ts,d::ds,0,_,_,w,h1,h2,h3=>by
  cases h1
  cases h2
  simp only[DataW.weightsEach];exact OY _ h3
 | t::ts,d::ds,j+1,_,_,w,h1,h2,h3=>by
  simp only[DataW.weightsEach];exact Tb _ (y8 h1 h2 h3)
theorem HY{H:Type}{P:Program}{e:TypeId}{y:DataW H}{w:Nat}(hw:w ∈ y.weights P e):∀{ds:List (DataW H)},y∈ds->w∈DataW.weightsAll P e ds
 | [],h=>by cases h
 | d::r,h=>by
  simp only[DataW.weightsAll]
  rcases List.mem_cons.mp h with rfl|h
  ·exact OY _ hw
  ·exact Tb _ (HY hw h)
theorem y9{H:Type}{P:Program}{fs:Array Field}{parts:List (DataW H)}{j:Nat}{u:TypeId}{d:DataW H}(ht:P.underlying t=some (.struct fs))(h1:(fs.toList.map (·.type))[j]?=some u)(h2:parts[j]?=some d)(hw:w ∈ d.weights P u) :
  w∈(DataW.agg parts).weights P t:=by
 simp only[DataW.weights,ht];exact y8 h1 h2 hw
theorem OE{H:Type}{P:Program}{es sp:List (DataW H)}{y:DataW H}(ht:P.underlying t=some (.slice e))(hy:y ∈ es)(hw:w ∈ y.weights P e):w∈(DataW.slice es sp).weights P t:=by
 simp only[DataW.weights,ht];exact gV _ (OY _ (HY hw hy))
def EE{H:Type}(P:Program)(t:TypeId)(d:DataW H):Prop:=∀w∈d.weights P t,w<=140737488351232
theorem U8{H:Type}{P:Program}{ts:List TypeId}{ds:List (DataW H)}(h:(DataW.weightsEach P ts ds).all (· <= reachBytes)=true){j:Nat}{t:TypeId}{d:DataW H}(h1:ts[j]?=some t)(h2:ds[j]?=some d):EE P t d:=by
 intro w hw;have:=of_decide_eq_true (oN.mp h w (y8 h1 h2 hw));have e:reachBytes=140737488351232:=by decide
 omega
theorem QQ{H:Type}{P:Program}{d:DataW H}{c:Nat}(L:EE P t d)(ht:P.underlying t=some (.slice e))(r:ajm d c):c*P.bytesOf e<=140737488351232:=by
 rcases r with rfl|⟨es,sp,rfl,rfl⟩
 ·omega
 ·refine L _ ?_;simp only[DataW.weights,ht];exact kj
theorem HZ{α H:Type}{enc:TypeId×Value->H}{P:Program}{t e:Nat}{cs:LV}{y:DataW H×List MemPlace}(f:α->LV)(Q:DataW H->α->Prop)(hw:∀ x,(f x).length=w)
  (ht:P.underlying t=some (.slice e)) (hc:P.cellsOf e=w) (h:DataW.trod enc P W 0 (λ_=>true) true n t cs=some y)
  (one:∀n cs y,DataW.trod enc P W 0 (λ_=>true) true n e cs=some y->∃x,cs=f x/\Q y.1 x) :
  ∃a l c,∃xs:List α,cs=[vS a l c]/\ak W.heap a (xs.flatMap f)/\xs.length=l/\l<=c/\ajm y.1 c/\∀i (hi:i<xs.length),∃z,(∀k∈z.weights P e,k∈y.1.weights P t)/\Q z xs[i]:=by
 rcases DataW.trod_slice ht h with⟨H9,hx⟩|⟨a,len',cap',elems,rest,n,_,H9,hx,hb,hl,hm,hlen,RK,hsp,hns⟩
 ·exact⟨none,0,0,[],H9,rfl,rfl,Nat.le_refl _,Or.inl rfl,λi hi=>absurd hi (Nat.not_lt_zero _)⟩
 ·subst hx;obtain⟨hrl,_⟩:=hsp rfl
  obtain⟨xs,hxl,hxs⟩:=Kv (p:=λi x=>ai W.heap (a.add ((0+i)*w)) (f x)/\∃y∈elems.map (·.1),Q y x) len' λi hi=>by
   have h1:=RK i hi;rw[List.getElem?_eq_getElem oX,hc,Option.bind_eq_some_iff]at h1;obtain⟨cs,h2,h3⟩:=h1;obtain⟨x,rfl,hq⟩:=one _ _ _ h3;exact⟨x,by rw[Nat.zero_add];exact HW h2,_,List.mem_map.mpr ⟨_,List.getElem_mem oX,rfl⟩,hq⟩
  refine⟨_,_,_,xs,H9,?_,hxl,hl,Or.inr ⟨_,_,rfl,by rw[aP,aP];omega⟩,λi hi=>?_⟩
  ·have:=QO xs a 0 (λx _=>hw x) λi hi=>(hxs i hi).1;rw[Nat.zero_mul,Addr.add_zero]at this;exact this
  ·obtain⟨y,hy,hq⟩:=(hxs i hi).2;exact⟨y,λk hk=>OE ht hy hk,hq⟩
end Gl
section
open Go Go.ChangeShapes Go.WideShapes Go.ChangeAt Go.RowKit Wx Hp Gl
theorem Tryz.own : ownKnob Tryz.prog.godebug=none:=by kernel_rfl
theorem Tryz.laidOut : laidOutB Tryz.prog=true:=by kernel_rfl
theorem Tryz.cellsBool : Tryz.prog.cellsOf 4=1:=by kernel_rfl
theorem Tryz.cellsWord : Tryz.prog.cellsOf 206=1:=by kernel_rfl
theorem Tryz.cellsHalf : Tryz.prog.cellsOf 308=16:=by kernel_rfl
theorem Tryz.cellsWide : Tryz.prog.cellsOf 289=9:=by kernel_rfl
theorem Tryz.gWide : Tryz.prog.globalNamed "bole/rec.widths" = some 0 := by kernel_rfl
theorem Tryz.gHalf : Tryz.prog.globalNamed "bole/sum.half" = some 1 := by kernel_rfl
theorem Tryz.tWide : (Tryz.prog.globals[0]?).map (·.type)=some 289:=by kernel_rfl
theorem Tryz.tHalf : (Tryz.prog.globals[1]?).map (·.type)=some 308:=by kernel_rfl
theorem tables (h : laidMetH Tryz.prog [("bole/rec.widths", Rows.laid_bole_rec_widths), ("bole/sum.half", Rows.laid_bole_sum_half)] W) : Re.lT W.heap := by
 obtain⟨ps,⟨g',t',cs,fuel,p,q,hg',Vc,hvar,hd,⟨g2,t2,cT,fuel2,p2,q2,hg2,ht2,ajn,hd2,_,_⟩,_⟩,_⟩:=h;obtain rfl:=Option.some.inj (Tryz.gWide.symm.trans hg');obtain rfl:=Option.some.inj (Tryz.tWide.symm.trans Vc);obtain rfl:=Option.some.inj (Tryz.gHalf.symm.trans hg2);obtain rfl:=Option.some.inj (Tryz.tHalf.symm.trans ht2);refine⟨?_,?_⟩
 ·exact(YC Tryz.gHalf ajn).trans (Lib.cells_of_tab (zs:=Su.MT) Tryz.underlying308 Tryz.underlying206 Tryz.cellsWord Tryz.cellsHalf hd2)
 ·exact(YC Tryz.gWide hvar).trans (HX (zs:=Re.Li) Tryz.underlying289 Tryz.underlying4 Tryz.cellsBool Tryz.cellsWide hd)
def ajo(cs:LV):Obj->Obj
 | .cells _ t frozen=>.cells ⟨cs⟩ t frozen
 | o=>o
noncomputable def DN(os:Os):World:=
 { World.holding Tryz.prog os ⟨#[],#[],[]⟩with heap:=((World.holding Tryz.prog os ⟨#[],#[],[]⟩).heap.modify 0 (ajo (Re.Li.map .bool))).modify 1 (ajo (Su.MT.map λn=>.int .u32 n)) }
end
namespace Gl
open Go Go.ChangeShapes Go.WideShapes Go.ChangeAt Go.RowKit Go.Proofs Wx Hp
theorem aaS{H:Type}{P:Program}{l:LB}(L:EE (H:=H) P t (.lit (.string l))):l.length<=140737488351232:=by
 refine L _ ?_;simp[DataW.weights]
theorem QR{H:Type}{enc:TypeId×Value->H}{P:Program}{t:Nat}{cs:LV}{y:DataW H×List MemPlace}(ht:P.underlying t=some .string)
  (h:DataW.trod enc P W 0 (λ_=>true) true n t cs=some y):∃l:LB,cs=[.string (mkStr l)]/\y.1 = .lit (.string l):=by
 obtain⟨s,e1,e2,_⟩:=DataW.trod_string ht h;obtain⟨⟨l⟩⟩:=s;exact⟨l,e1,congrArg Prod.fst e2⟩
end Gl
end Go.Proofs.YtlbckoblcdoceaaGreatDoor
