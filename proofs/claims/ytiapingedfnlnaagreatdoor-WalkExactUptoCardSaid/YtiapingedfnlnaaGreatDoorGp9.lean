/- walkExact_card -/
import Derived.ProofKit
import Derived.SizedLaws
import Derived.ChangeCalls
import Derived.Deep.Strs
import Derived.Test.YtiapingedfnlnaaGreatDoorRows
import Derived.JoinedCond
import Derived.OpenShut
import Derived.Deep.DeepHandedRow
import Derived.Lib.LaidTab
import Derived.Test.YtiapingedfnlnaaGreatDoorCards
import Derived.Test.YtiapingedfnlnaaGreatDoorTie
import Derived.Lib.SmallJoins
import Derived.Test.YtiapingedfnlnaaGreatDoorGp8
namespace Go.Proofs.YtiapingedfnlnaaGreatDoor
open Go Go.Proofs Wx
variable{P:Program}{h:ab}{n base fuel t e m:Nat}{a:Addr}{w W:World}{held:Bool}
namespace Gl
open Go Go.ChangeShapes Go.WideShapes Go.ChangeAt Go.RowKit Go.Proofs Wx Hp
theorem C'{H:Type}{enc:TypeId×Value->H}(hl:laidOutB P=true){W W':World}(hb:Below W.heap.size W W') :
  ∀{ts:List TypeId} {vs:LV} {ds:List (DataW H)} {ps:List MemPlace},(∀t∈ts,P.readableRec t=true/\t<P.types.size)->DataW.TrodAll enc P W 0 (λ_=>true) true ts vs ds ps->
   (∀x∈ps,x.block<W.heap.size)->DataW.TrodAll enc P W' 0 (λb=>decide (b<W.heap.size)) true ts vs ds ps:=by
 intro ts
 induction ts with
 | nil=>
  intro vs ds ps _ h _;obtain⟨rfl,rfl,rfl⟩:=trodAll_nil h;exact trodAll_mk0
 | cons t ts ih=>
  intro vs ds ps hts h dh
  match vs,ds,h with
  | v::vs,d::ds,⟨p,q,h1,h2,e⟩=>
   subst e;obtain⟨a1,a2⟩:=hts t (List.mem_cons_self ..);exact⟨p,q,Below.trod hl a1 a2 h1 hb (λx hx=>dh x (List.mem_append_left _ hx)),ih (λu hu=>hts u (List.mem_cons_of_mem _ hu)) h2 (λx hx=>dh x (List.mem_append_right _ hx)),rfl⟩
def XO(h:ab):Value->ab->Prop:=λv h'=>v = .bool true/\Fr No h h'
theorem VB:∀h',Fr No h h'->XO h (.bool true) h':=λ_ f=>⟨rfl,f⟩
theorem Ru{n:Int}(h:(Lit.int .u8 n).wf=true):0<=n/\n<=255:=by
 have h1:IntKind.u8.min=0:=rfl;have h2:IntKind.u8.max=255:=rfl;simp only[Lit.wf,Bool.and_eq_true,decide_eq_true_eq]at h;omega
theorem adR{n:Int}(h:(Lit.int .u8 n).wf=true):bv (UInt8.ofNat n.toNat) = .int .u8 n:=by
 have:=Ru h;simp only[bv,Value.int.injEq,true_and,UInt8.toNat_ofNat'];omega
theorem ai.append{xs ys:LV}(c:ai h a xs)(d:ai h (a.add xs.length) ys):ai h a (xs++ys):=by
 intro i v hv
 rcases Nat.lt_or_ge i xs.length with hi|hi
 ·rw[List.getElem?_append_left hi]at hv;exact c i v hv
 ·rw[List.getElem?_append_right hi]at hv;have:=d (i-xs.length) v hv
  by_cases h0:i-xs.length=0
  ·rw[h0,Addr.add_zero]at this;rw[show i=xs.length by omega];exact this
  ·rw[Addr.add_add]at this;rw[show i=xs.length+(i-xs.length) by omega];exact this
theorem Cs{cs:LV}(h:w.cells? base a n=some cs):ai w.heap a cs:=by
 obtain⟨_,h2,h3⟩:=World.cells?_some h;intro i v hv;have hi:i<cs.length:=(List.getElem?_eq_some_iff.mp hv).1;have:=h3 i (by omega);rw[hv]at this;exact this
theorem Kl{α:Type}{f:α->LV}{w:Nat}:∀(xs:List α) (a:Addr) (k:Nat),(∀x∈xs,(f x).length=w)->(∀i (hi:i<xs.length),ai h (a.add ((k+i)*w)) (f xs[i]))->ai h (a.add (k*w)) (xs.flatMap f):=by
 intro xs
 induction xs with
 | nil=>intro a k _ _;exact ai.nil h _
 | cons x r ih=>
  intro a k hw hc;rw[List.flatMap_cons];refine ai.append (hc 0 (by simp)) ?_
  have:=ih a (k+1) (λy hy=>hw y (List.mem_cons_of_mem _ hy)) (λi hi=>by
   have:=hc (i+1) (by simpa using hi)
   rw[show k+1+i=k+(i+1) by omega];exact this)
  rw[hw x (List.mem_cons_self ..)];rw[Nat.add_mul,Nat.one_mul]at this
  have e:(a.add (k*w)).add w=a.add (k*w+w):=by
   by_cases h0:w=0
   ·subst h0;simp[Addr.add]
   ·rw[Addr.add_add]
  rw[e];exact this
theorem Oc{α:Type}{p:Nat->α->Prop}:∀n,(∀i,i<n->∃x,p i x)->∃xs:List α,xs.length=n/\∀i (hi:i<xs.length),p i xs[i]:=by
 intro n
 induction n with
 | zero=>intro _;exact⟨[],rfl,λi hi=>absurd hi (by simp)⟩
 | succ n ih=>
  intro h;obtain⟨xs,hl,hx⟩:=ih λi hi=>h i (by omega);obtain⟨y,hy⟩:=h n (by omega);refine⟨xs++[y],by simp[hl],λi hi=>?_⟩
  rcases Nat.lt_or_ge i xs.length with h1|h1
  ·rw[List.getElem_append_left h1];exact hx i h1
  ·have:i=n:=(by simp at hi;omega);subst this;rw[List.getElem_append_right (by omega)];simpa[hl]using hy
theorem Oe{H:Type}{d:DataW H}{l:List (DataW H)}(h:d ∈ l):Rows.uptoBulk d<=Rows.uptoBulkAll l:=by
 induction l with
 | nil=>cases h
 | cons x r ih=>
  simp only[Rows.uptoBulkAll]
  cases List.mem_cons.1 h with
  | inl e=>subst e;omega
  | inr e=>have:=ih e;omega
theorem Rv{H:Type}(d:DataW H):1<=Rows.uptoBulk d:=by
 cases d with
 | lit l=>cases l <;> simp[Rows.uptoBulk]
 | nil=>simp[Rows.uptoBulk]
 | ptr d=>simp[Rows.uptoBulk]
 | slice elems spare=>simp[Rows.uptoBulk]
 | agg parts=>simp[Rows.uptoBulk]
 | iface t d=>simp[Rows.uptoBulk]
 | map entries=>simp[Rows.uptoBulk]
 | held h=>simp[Rows.uptoBulk]
theorem Ct{H:Type}{enc:TypeId×Value->H}{sp:Nat->Bool}{t e:TypeId}{cs:LV}{zs:List Bool}{p:List MemPlace}
  (ht:P.underlying t=some (.array n e)) (he:P.underlying e=some .bool) (hce:P.cellsOf e=1) (hct:P.cellsOf t=n)
  (h:DataW.trod enc P w base sp held fuel t cs=some (.agg (zs.map λz=>.lit (.bool z)),p)):cs=zs.map λz=>Value.bool z:=by
 cases fuel with
 | zero=>simp[DataW.trod]at h
 | succ fuel=>
  simp only[DataW.trod,ht,hce,hct,Nat.mul_one]at h
  split at h
  ·rename_i hl;obtain⟨xs,hm,hx⟩:=Option.map_eq_some_iff.1 h
   have hxs:xs.map (·.1)=zs.map λz=>(DataW.lit (.bool z):DataW H):=by
    have:=congrArg Prod.fst hx;simpa using this
   have ZD:xs.length=n:=by simpa using Lib.mapM_length hm
   have hzl:zs.length=n:=by
    have:=congrArg List.length hxs;simp at this;omega
   apply List.ext_getElem?;intro i
   by_cases hi:i<n
   ·obtain⟨b,hb,hf⟩:=Lib.mapM_at hm i i (by simp[hi]);obtain⟨z,hc,rfl⟩:=DataW.trod_bool he hf
    have h1:cs[i]?=some (.bool z):=by
     have:=congrArg (·[0]?) hc;simpa[List.getElem?_take,List.getElem?_drop]using this
    have h2:(xs.map (·.1))[i]?=some (DataW.lit (.bool z):DataW H):=(by simp[hb]);rw[hxs]at h2;simp only[List.getElem?_map,Option.map_eq_some_iff,DataW.lit.injEq,Lit.bool.injEq]at h2;obtain⟨z',hz',rfl⟩:=h2;simp[h1,hz']
   ·rw[List.getElem?_eq_none (by omega),List.getElem?_eq_none (by simp;omega)]
  ·cases h
theorem τ{name:String}{g:Nat}{cs:Array Value}(hg:P.globalNamed name=some g)(h:W.var? P name=some cs):rd W.heap g=cs.toList:=by
 unfold World.var? at h;rw[hg,Option.bind_some]at h
 cases hw:W.heap[g]? with
 | none=>rw[hw]at h;cases h
 | some o=>
  rw[hw]at h
  cases o with
  | cells c t z=>simp only[Option.some.injEq]at h;subst h;simp[rd,hw]
  | _=>cases h
end Gl
section
open Go Go.ChangeShapes Go.WideShapes Go.ChangeAt Go.RowKit Wx Hp Gl
theorem Tryz.own : ownKnob Tryz.prog.godebug=none:=by kernel_rfl
theorem Tryz.laidOut : laidOutB Tryz.prog=true:=by kernel_rfl
theorem Tryz.cellsBool : Tryz.prog.cellsOf 4=1:=by kernel_rfl
theorem Tryz.cellsInt : Tryz.prog.cellsOf 3=1:=by kernel_rfl
theorem Tryz.cellsWide : Tryz.prog.cellsOf 373=9:=by kernel_rfl
theorem Tryz.gWide : Tryz.prog.globalNamed "bole/rec.widths" = some 0 := by kernel_rfl
theorem Tryz.tWide : (Tryz.prog.globals[0]?).map (·.type)=some 373:=by kernel_rfl
theorem υ (h : laidMetH Tryz.prog [("bole/rec.widths", Rows.laid_bole_rec_widths)] W) : In.pq W.heap := by
 obtain⟨ps,⟨g',t',cs,fuel,p,q,VO,Cu,hvar,hd,_,_⟩,_⟩:=h;obtain rfl:=Option.some.inj (Tryz.gWide.symm.trans VO);obtain rfl:=Option.some.inj (Tryz.tWide.symm.trans Cu);exact⟨(τ Tryz.gWide hvar).trans (Ct (zs:=Re.Fl) Tryz.underlying373 Tryz.underlying4 Tryz.cellsBool Tryz.cellsWide hd)⟩
def layO(cs:LV):Obj->Obj
 | .cells _ t frozen=>.cells ⟨cs⟩ t frozen
 | o=>o
noncomputable def y7(os:Os):World:=
 { World.holding Tryz.prog os ⟨#[],#[],[]⟩with heap:=((World.holding Tryz.prog os ⟨#[],#[],[]⟩).heap.modify 0 (layO (Re.Fl.map .bool))) }
end
namespace Gl
open Go Go.ChangeShapes Go.WideShapes Go.ChangeAt Go.RowKit Go.Proofs Wx Hp
theorem wM{H:Type}{enc:TypeId×Value->H}{cs:LV}{y:DataW H×List MemPlace}(ht:P.underlying t=some .string)
  (h:DataW.trod enc P W 0 (λ_=>true) true n t cs=some y):∃l:LB,cs=[.string (mkStr l)]/\y.1 = .lit (.string l):=by
 obtain⟨s,e1,e2,_⟩:=DataW.trod_string ht h;obtain⟨⟨l⟩⟩:=s;exact⟨l,e1,congrArg Prod.fst e2⟩
theorem Is{H:Type}{enc:TypeId×Value->H}{C:Checked}(hP:C.prog=P){os:Os}{f:FuncId}{fn:Func}{s:ChangeSpec}{tb:TypeId}{conds:List PathCond}{F:Stop.Interp}{laid:List (String×DataW Unit)}
  (own:ownKnob P.godebug=none) (started:os.Started) (φ:P.inits.idxOf? f=none) (hfn:P.funcs[f]?=some fn)
  (witness:∃(w:World) (tape:Tape) (i:Input),w.os=os/\(w.forCall tape i).Shaped P/\i.vars=[]/\Input.okWide P (w.forCall tape i) .any w.heap.size f i/\
   (Rows.OpenSpec.upto s).preRow enc P fn conds false laid (w.forCall tape i).memory i.args/\Assume.holds {} P (lone (Frame.enter P f i.args .normal) [] (w.forCall tape i)))
  (hl:laidOutB P=true) (hts0:(fn.params.toList.all λt=>P.readableRec t && decide (t<P.types.size))=true) (hr:fn.resultTypes = #[tb]) (hb:P.underlying tb=some .bool) (Rw:s.vars=[])
  (Yp:∀ds:List (DataW H),ds.length=fn.params.toList.length->(s.fn H (ds++[])).results=[.lit (.bool true)]/\(s.fn H (ds++[])).args=ds/\(s.fn H (ds++[])).vars=[])
  (law:∀(W:World) (base:Nat) (args:Array Value) (ds:List (DataW H)) (ps:List MemPlace),(∀(j:Nat) t v,fn.params[j]?=some t->args[j]?=some v->Value.okWide P W .any base t v)->
   DataW.TrodAll enc P W 0 (λ_=>true) true fn.params.toList args.toList ds ps->(DataW.weightsEach P fn.params.toList ds).all (· <=reachBytes)=true->laidMetH P laid W->Rows.uptoBulkAll ds<=1048576->
   ao P f args.toList W.heap (XO W.heap)) :
  ReturnsInHanded {} C os f .any ((Rows.OpenSpec.upto s).preRow enc P fn conds false laid) (((Rows.OpenSpec.upto s).at F).post enc P fn false true false false):=by
 subst hP
 have hts:∀t∈fn.params.toList,C.prog.readableRec t=true/\t<C.prog.types.size:=by
  intro t ht;have:=List.all_eq_true.mp hts0 t ht;rw[Bool.and_eq_true]at this;exact⟨this.1,of_decide_eq_true this.2⟩
 refine returnsInHanded_of_row (C:=C) (s:=Rows.OpenSpec.upto s) own started φ hfn witness ?_;intro W base args ds gs before tE hW _ adT iH hL _ _;have hW':DataW.Whole enc C.prog fn.params.toList s.vars false W args.toList ds gs before:=hW;obtain⟨p,q,hA,hV,rfl,_,_⟩:=hW;rw[show(Rows.OpenSpec.upto s).vars=[] from Rw]at hV;obtain⟨rfl,rfl⟩:=trodVars_none hV
 have hvt:(Rows.OpenSpec.upto s).bare.plain.varTypes C.prog=[]:=by
  have:(Rows.OpenSpec.upto s).bare.plain.vars=[]:=Rw;simp[DataSpec.varTypes,this]
 rw[hvt,List.append_nil,List.append_nil]at iH;obtain⟨_,hc⟩:=law W base args ds p tE hA iH hL (by have hk:=adT _ rfl;rw[List.append_nil]at hk;exact of_decide_eq_true hk);have hlen:=(trodAll_length hA).2;obtain⟨e1,e2,e3⟩:=Yp ds hlen;simp only[List.append_nil]at hW';refine(hc W rfl).mono λe W' ⟨v,he,hs,hv,hf⟩=>?_;subst hv;refine⟨_,he,ds,[],p,[],p,[],(by exact hW'),?_,?_,?_,?_,λh=>by cases h⟩
 ·show DataW.TrodAll _ _ _ _ _ _ _ _ (s.fn H (ds++[])).results _;rw[e1,hr];exact trodAll_mk1 (shut_bool hb true)
 ·show DataW.TrodAll _ _ _ _ _ _ _ _ (s.fn H (ds++[])).args _;rw[e2];exact C' hl ⟨hs.1,hs.2.1,hs.2.2,hf.size,λk hk=>hf.same k hk (λx=>x)⟩ hts hA (λx hx=>by simpa using hW'.lt x (by simpa using hx))
 ·have e4:(((Rows.OpenSpec.upto s).at F).fn H (ds++[])).vars=[]:=e3;have e5:((Rows.OpenSpec.upto s).at F).vars=[]:=Rw;rw[e4,e5];rfl
 ·exact(Below.frame (⟨hs.1,hs.2.1,hs.2.2,hf.size,λk hk=>hf.same k hk (λx=>x)⟩:Below W.heap.size W W') _)
theorem Of{H:Type}:∀{l:List (DataW H)},(∀y∈l,m<=Rows.uptoBulk y)->l.length*m<=Rows.uptoBulkAll l:=by
 intro l
 induction l with
 | nil=>intro _;simp[Rows.uptoBulkAll]
 | cons x r ih=>
  intro h;have h1:=h x (List.mem_cons_self ..);have h2:=ih λy hy=>h y (List.mem_cons_of_mem _ hy);simp only[Rows.uptoBulkAll,List.length_cons];rw[Nat.succ_mul];omega
theorem wN{α H:Type}{enc:TypeId×Value->H}{w:Nat}{cs:LV}{y:DataW H×List MemPlace}(f:α->LV)(Q:DataW H->α->Prop)(hw:∀ x,(f x).length=w)
  (ht:P.underlying t=some (.slice e)) (hc:P.cellsOf e=w) (h:DataW.trod enc P W 0 (λ_=>true) true n t cs=some y)
  (one:∀n cs y,DataW.trod enc P W 0 (λ_=>true) true n e cs=some y->(∃x,cs=f x/\Q y.1 x)/\m<=Rows.uptoBulk y.1) :
  ∃a l c,∃xs:List α,cs=[.slice a l c]/\ag W.heap a (xs.flatMap f)/\xs.length=l/\l<=c/\l*m<=Rows.uptoBulk y.1/\∀i (hi:i<xs.length),∃z,Rows.uptoBulk z<=Rows.uptoBulk y.1/\Q z xs[i]:=by
 rcases DataW.trod_slice ht h with⟨wO,hx⟩|⟨a,adU,Nb,elems,rest,n,_,wO,hx,hb,hl,hm,hlen,hel,RE,hns⟩
 ·exact⟨none,0,0,[],wO,rfl,rfl,Nat.le_refl _,by omega,λi hi=>absurd hi (Nat.not_lt_zero _)⟩
 ·subst hx;obtain⟨hrl,_⟩:=RE rfl
  have each:∀i (hi:i<adU),∃cs,ai W.heap (a.add (i*w)) cs/\(∃x,cs=f x/\Q (elems[i]'(by omega)).1 x)/\m<=Rows.uptoBulk (elems[i]'(by omega)).1:=λi hi=>by
   have h1:=hel i hi;rw[List.getElem?_eq_getElem (by omega),hc,Option.bind_eq_some_iff]at h1;obtain⟨cs,h2,h3⟩:=h1;obtain⟨hq,hm⟩:=one _ _ _ h3;refine⟨cs,?_,hq,hm⟩;obtain⟨x,rfl,_⟩:=hq;exact Cs h2
  obtain⟨xs,ZD,hxs⟩:=Oc (p:=λi x=>ai W.heap (a.add ((0+i)*w)) (f x)/\∃y∈elems.map (·.1),Q y x) adU λi hi=>by
   obtain⟨cs,Gg,⟨x,rfl,hq⟩,_⟩:=each i hi;exact⟨x,by rw[Nat.zero_add];exact Gg,_,List.mem_map.mpr ⟨_,List.getElem_mem (by omega),rfl⟩,hq⟩
  refine⟨_,_,_,xs,wO,?_,ZD,hl,?_,λi hi=>?_⟩
  ·have:=Kl xs a 0 (λx _=>hw x) λi hi=>(hxs i hi).1;rw[Nat.zero_mul,Addr.add_zero]at this;exact this
  ·have:=Of (m:=m) (l:=elems.map (·.1)) λy hy=>by
    obtain⟨z,hz,rfl⟩:=List.mem_map.mp hy;obtain⟨i,hi,rfl⟩:=List.mem_iff_getElem.mp hz;obtain⟨_,_,_,hm⟩:=each i (by omega);exact hm
   rw[List.length_map,hlen]at this;simp only[Rows.uptoBulk];omega
  ·obtain⟨y,hy,hq⟩:=(hxs i hi).2;refine⟨y,?_,hq⟩;have:=Oe hy;simp only[Rows.uptoBulk];omega
theorem Og{α H:Type}{enc:TypeId×Value->H}{w:Nat}{v:Value}{d:DataW H}{p:List MemPlace}(f:α->LV)(Q:DataW H->α->Prop)(hw:∀ x,(f x).length=w)
  (ht:P.underlying t=some (.slice e)) (hc:P.cellsOf e=w) (tE:Value.okWide P W .any base t v) (h:DataW.Trod enc P W 0 (λ_=>true) true t v d p)
  (one:∀n cs y,DataW.trod enc P W 0 (λ_=>true) true n e cs=some y->(∃x,cs=f x/\Q y.1 x)/\m<=Rows.uptoBulk y.1) :
  ∃a l c,∃xs:List α,v = .slice a l c/\ag W.heap a (xs.flatMap f)/\xs.length=l/\l<=c/\l*m<=Rows.uptoBulk d/\∀i (hi:i<xs.length),∃y,Rows.uptoBulk y<=Rows.uptoBulk d/\Q y xs[i]:=by
 obtain⟨a1,len,cap,rfl⟩:=okWide_slice ht tE;obtain⟨fuel,hf⟩:=h;obtain⟨a,l,c,xs,e1,e2,e3,e4,e5,e6⟩:=wN f Q hw ht hc hf one;simp[Value.cells]at e1;obtain⟨rfl,rfl,rfl⟩:=e1;exact⟨_,_,_,xs,rfl,e2,e3,e4,e5,e6⟩
theorem Ge{H:Type}{enc:TypeId×Value->H}{spare:Nat->Bool}{t:TypeId}{f0 f1 f2 f3 f4:Field}{cs:LV}{x:DataW H×List MemPlace}(ht:P.underlying t=some (.struct #[f0,f1,f2,f3,f4]))(h:DataW.trod enc P w base spare held fuel t cs=some x) :
  ∃y0 y1 y2 y3 y4 n,x.1 = .agg [y0.1,y1.1,y2.1,y3.1,y4.1]/\cs.length=P.cellsOf t/\DataW.trod enc P w base spare held n f0.type ((cs.drop f0.offset).take (P.cellsOf f0.type))=some y0/\
   DataW.trod enc P w base spare held n f1.type ((cs.drop f1.offset).take (P.cellsOf f1.type))=some y1/\DataW.trod enc P w base spare held n f2.type ((cs.drop f2.offset).take (P.cellsOf f2.type))=some y2/\
   DataW.trod enc P w base spare held n f3.type ((cs.drop f3.offset).take (P.cellsOf f3.type))=some y3/\DataW.trod enc P w base spare held n f4.type ((cs.drop f4.offset).take (P.cellsOf f4.type))=some y4:=by
 obtain⟨xs,n,_,rfl,hl,hlen,hf⟩:=DataW.trod_struct ht h
 match xs,hlen with
 | [y0,y1,y2,y3,y4],_=>exact⟨y0,y1,y2,y3,y4,n,by simp,hl,by simpa using hf 0 f0 rfl,by simpa using hf 1 f1 rfl,by simpa using hf 2 f2 rfl,by simpa using hf 3 f3 rfl,by simpa using hf 4 f4 rfl⟩
end Gl
section
open Go Go.ChangeShapes Go.WideShapes Go.ChangeAt Go.RowKit Wx Hp Gl
theorem Tryz.cellsString : Tryz.prog.cellsOf 9=1:=by kernel_rfl
theorem Tryz.cellsByte : Tryz.prog.cellsOf 5=1:=by kernel_rfl
theorem Tryz.cellsThing : Tryz.prog.cellsOf 175=5:=by kernel_rfl
theorem Tryz.cellsPoke : Tryz.prog.cellsOf 191=2:=by kernel_rfl
theorem Tryz.cellsThings : Tryz.prog.cellsOf 51=1:=by kernel_rfl
theorem Tryz.cellsPokes : Tryz.prog.cellsOf 52=1:=by kernel_rfl
theorem Tryz.cellsWalk : Tryz.prog.cellsOf 54=3:=by kernel_rfl
def ThQ{H:Type}(d:DataW H)(x:Tr.Th):Prop:=x.name.length<=Rows.uptoBulk d/\x.text.length<=Rows.uptoBulk d
set_option maxRecDepth 100000 in
theorem Oh{H:Type}{enc:TypeId×Value->H}(n:Nat)(cs:LV)(y:DataW H×List MemPlace)(h:DataW.trod enc Tryz.prog W 0 (λ_=>true) true n 175 cs=some y):(∃x:Tr.Th,cs=Tr.FR x/\ThQ y.1 x)/\1<=Rows.uptoBulk y.1:=by
 obtain⟨y0,y1,y2,y3,y4,k,hy,hl,h0,h1,h2,h3,h4⟩:=Ge Tryz.underlying175 h;rw[Tryz.cellsThing]at hl;simp only[Tryz.cellsInt,Tryz.cellsString]at h0 h1 h2 h3 h4
 match cs,hl with
 | [a,b,c,d,e],_=>
  obtain⟨n0,e0,_,_⟩:=DataW.trod_int Tryz.underlying3 h0;obtain⟨n1,e1,_,_⟩:=DataW.trod_int Tryz.underlying3 h1;obtain⟨n2,e2,_,_⟩:=DataW.trod_int Tryz.underlying3 h2;obtain⟨s3,e3,d3⟩:=wM Tryz.underlying9 h3;obtain⟨s4,e4,d4⟩:=wM Tryz.underlying9 h4;have e0:a = .int .i64 n0:=by simpa using e0
  have e1:b = .int .i64 n1:=by simpa using e1
  have e2:c = .int .i64 n2:=by simpa using e2
  have e3:d = .string (mkStr s3):=by simpa using e3
  have e4:e = .string (mkStr s4):=by simpa using e4
  have eb:Rows.uptoBulk y.1=Rows.uptoBulk y0.1+(Rows.uptoBulk y1.1+(Rows.uptoBulk y2.1+(Rows.uptoBulk y3.1+(Rows.uptoBulk y4.1+0))))+1:=by
   rw[hy];simp only[Rows.uptoBulk,Rows.uptoBulkAll]
  rw[d3,d4]at eb;simp only[Rows.uptoBulk]at eb;refine⟨⟨⟨n0,n1,n2,s3,s4⟩,by rw[e0,e1,e2,e3,e4];rfl,?_,?_⟩,by omega⟩
  ·show s3.length<=_;omega
  ·show s4.length<=_;omega
set_option maxRecDepth 100000 in
theorem RA{H:Type}{enc:TypeId×Value->H}(n:Nat)(cs:LV)(y:DataW H×List MemPlace)(h:DataW.trod enc Tryz.prog W 0 (λ_=>true) true n 191 cs=some y):(∃x:Int×UInt8,cs=Tr.QW x/\True)/\1<=Rows.uptoBulk y.1:=by
 obtain⟨y0,y1,k,hy,hl,h0,h1⟩:=trod_struct2 Tryz.underlying191 h;rw[Tryz.cellsPoke]at hl;simp only[Tryz.cellsInt,Tryz.cellsByte]at h0 h1
 match cs,hl with
 | [a,b],_=>
  obtain⟨n0,e0,_,_⟩:=DataW.trod_int Tryz.underlying3 h0;obtain⟨n1,e1,_,w1⟩:=DataW.trod_int Tryz.underlying5 h1;have e0:a = .int .i64 n0:=by simpa using e0
  have e1:b = .int .u8 n1:=by simpa using e1
  exact⟨⟨(n0,UInt8.ofNat n1.toNat),by rw[e0,e1,Tr.QW,adR w1],trivial⟩,Rv y.1⟩
set_option maxRecDepth 100000 in
theorem Oi{H:Type}{enc:TypeId×Value->H}{v:Value}{d:DataW H}{p:List MemPlace}(tE:Value.okWide Tryz.prog W .any base 54 v)(h:DataW.Trod enc Tryz.prog W 0 (λ_=>true) true 54 v d p) :
  ∃more ta tc pa pc,∃ts:List Tr.Th,∃ps:List (Int×UInt8),v = .agg ⟨Tr.C8 more ta ts.length tc pa ps.length pc⟩/\ag W.heap ta (ts.flatMap Tr.FR)/\ag W.heap pa (ps.flatMap Tr.QW)/\ts.length<=Rows.uptoBulk d/\ps.length<=Rows.uptoBulk d/\∀t∈ts,t.name.length<=Rows.uptoBulk d/\t.text.length<=Rows.uptoBulk d:=by
 obtain⟨cs,rfl,_⟩:=okWide_struct Tryz.underlying54 tE;obtain⟨fuel,hf⟩:=h;obtain⟨xs,n,_,hd,hl,hlen,hf⟩:=DataW.trod_struct Tryz.underlying54 hf;rw[Tryz.cellsWalk]at hl
 match xs,hlen with
 | [y0,y1,y2],_=>
  have h0:DataW.trod enc Tryz.prog W 0 (λ_=>true) true n 3 (List.take (Tryz.prog.cellsOf 3) (List.drop 0 _))=some y0:=hf 0 _ rfl;have h1:DataW.trod enc Tryz.prog W 0 (λ_=>true) true n 51 (List.take (Tryz.prog.cellsOf 51) (List.drop 1 _))=some y1:=hf 1 _ rfl;have h2:DataW.trod enc Tryz.prog W 0 (λ_=>true) true n 52 (List.take (Tryz.prog.cellsOf 52) (List.drop 2 _))=some y2:=hf 2 _ rfl
  have ed:d = .agg [y0.1,y1.1,y2.1]:=by
   have:=congrArg Prod.fst hd;simpa using this
  have eb:Rows.uptoBulk d=Rows.uptoBulk y0.1+(Rows.uptoBulk y1.1+(Rows.uptoBulk y2.1+0))+1:=by
   rw[ed];simp only[Rows.uptoBulk,Rows.uptoBulkAll]
  simp only[Tryz.cellsInt,Tryz.cellsThings,Tryz.cellsPokes]at h0 h1 h2;obtain⟨cl⟩:=cs
  match cl,hl with
  | [c0,c1,c2],_=>
   obtain⟨n0,e0,_,_⟩:=DataW.trod_int Tryz.underlying3 h0;obtain⟨ta,tl,tc,ts,e1,K1,k1,_,m1,hq⟩:=wN (α:=Tr.Th) (m:=1) Tr.FR ThQ (λ_=>rfl) Tryz.underlying51 Tryz.cellsThing h1 Oh;obtain⟨pa,pl,pc,ps,e2,K2,k2,_,m2,_⟩:=wN (α:=Int×UInt8) (m:=1) Tr.QW (λ_ _=>True) (λ_=>rfl) Tryz.underlying52 Tryz.cellsPoke h2 RA;have e0:[c0]=[.int .i64 n0]:=e0;have e1:[c1]=[.slice ta tl tc]:=e1;have e2:[c2]=[.slice pa pl pc]:=e2;have e0:=(List.cons.inj e0).1;have e1:=(List.cons.inj e1).1;have e2:=(List.cons.inj e2).1;refine⟨n0,ta,tc,pa,pc,ts,ps,by rw[e0,e1,e2,k1,k2];rfl,K1,K2,by omega,by omega,λt ht=>?_⟩;obtain⟨i,hi,rfl⟩:=List.mem_iff_getElem.mp ht;obtain⟨z,hz,q1,q2⟩:=hq i hi;exact⟨by omega,by omega⟩
end
section
open Go Go.ChangeShapes Go.WideShapes Go.ChangeAt Go.RowKit Wx Hp Gl
theorem Tryz.cellsAsk : Tryz.prog.cellsOf 97=3:=by kernel_rfl
set_option maxRecDepth 100000 in
theorem VC{H:Type}{enc:TypeId×Value->H}(n:Nat)(cs:LV)(y:DataW H×List MemPlace)(h:DataW.trod enc Tryz.prog W 0 (λ_=>true) true n 97 cs=some y):(∃x:Rq.Ak,cs=Rq.ID x/\x.path.length<=Rows.uptoBulk y.1)/\1<=Rows.uptoBulk y.1:=by
 obtain⟨y0,y1,y2,k,hy,hl,h0,h1,h2⟩:=Go.Deep.trod_struct3 Tryz.underlying97 h;rw[Tryz.cellsAsk]at hl;simp only[Tryz.cellsInt,Tryz.cellsString,Tryz.cellsBool]at h0 h1 h2
 match cs,hl with
 | [a,b,c],_=>
  obtain⟨s0,e0,d0⟩:=wM Tryz.underlying9 h0;obtain⟨n1,e1,_⟩:=DataW.trod_bool Tryz.underlying4 h1;obtain⟨n2,e2,_,_⟩:=DataW.trod_int Tryz.underlying3 h2;have e0:a = .string (mkStr s0):=by simpa using e0
  have e1:b = .bool n1:=by simpa using e1
  have e2:c = .int .i64 n2:=by simpa using e2
  have eb:Rows.uptoBulk y.1=Rows.uptoBulk y0.1+(Rows.uptoBulk y1.1+(Rows.uptoBulk y2.1+0))+1:=by
   rw[hy];simp only[Rows.uptoBulk,Rows.uptoBulkAll]
  rw[d0]at eb;simp only[Rows.uptoBulk]at eb;refine⟨⟨⟨s0,n1,n2⟩,by rw[e0,e1,e2];rfl,?_⟩,by omega⟩;show s0.length<=_;omega
end
end Go.Proofs.YtiapingedfnlnaaGreatDoor
