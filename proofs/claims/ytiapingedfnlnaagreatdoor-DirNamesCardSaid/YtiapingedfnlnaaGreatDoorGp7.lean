/-
  TEXTS FOR dirNames_card: GlG Tb8 GlH.
-/
import Derived.ProofKit
import Derived.SizedLaws
import Derived.ChangeCalls
import Derived.Deep.Strs
import Derived.Test.YtiapingedfnlnaaGreatDoorRows
import Derived.JoinedCond
import Derived.OpenShut
import Derived.Deep.DeepHandedRow
import Derived.Lib.LaidTab
import Derived.Test.YtiapingedfnlnaaGreatDoorCards
import Derived.Test.YtiapingedfnlnaaGreatDoorTie
import Derived.Lib.SmallJoins
import Derived.Test.YtiapingedfnlnaaGreatDoorGp6
namespace Go.Proofs.YtiapingedfnlnaaGreatDoor.Gl
open Go Go.ChangeShapes Go.WideShapes Go.ChangeAt Go.RowKit Go.Proofs Wx Hp
theorem trodAll_below {H:Type} {enc:TypeId×Value→H} {P:Program} (hl:laidOutB P=true) {W W':World} (hb:Below W.heap.size W W') :
  ∀ {ts:List TypeId} {vs:List Value} {ds:List (DataW H)} {ps:List MemPlace},(∀ t ∈ ts,P.readableRec t=true∧t<P.types.size)→DataW.TrodAll enc P W 0 (fun _=>true) true ts vs ds ps →
   (∀ x ∈ ps,x.block<W.heap.size)→DataW.TrodAll enc P W' 0 (fun b=>decide (b<W.heap.size)) true ts vs ds ps:=by
 intro ts
 induction ts with
 | nil =>
  intro vs ds ps _ h _
  obtain ⟨rfl,rfl,rfl⟩:=trodAll_nil h
  exact trodAll_mk0
 | cons t ts ih =>
  intro vs ds ps hts h hlt
  match vs,ds,h with
  | v::vs,d::ds,⟨p,q,h1,h2,e⟩ =>
   subst e
   obtain ⟨a1,a2⟩:=hts t (List.mem_cons_self ..)
   exact ⟨p,q,Below.trod hl a1 a2 h1 hb (fun x hx=>hlt x (List.mem_append_left _ hx)),ih (fun u hu=>hts u (List.mem_cons_of_mem _ hu)) h2 (fun x hx=>hlt x (List.mem_append_right _ hx)),rfl⟩
def True_ (h:Heap):Value→Heap→Prop:=fun v h'=>v = .bool true∧Fr No h h'
theorem true_mk {h:Heap}:∀ h',Fr No h h'→True_ h (.bool true) h':=fun _ f=>⟨rfl,f⟩
end Go.Proofs.YtiapingedfnlnaaGreatDoor.Gl
namespace Go.Proofs.YtiapingedfnlnaaGreatDoor.Gl
open Go Go.ChangeShapes Go.WideShapes Go.ChangeAt Go.RowKit Go.Proofs Wx Hp
theorem lifted_row {H:Type} {enc:TypeId×Value→H} {C:Checked} {P:Program} (hP:C.prog=P) {os:Os} {f:FuncId} {fn:Func} {s:ChangeSpec} {tb:TypeId} {conds:List PathCond} {F:Stop.Interp} {laid:List (String×DataW Unit)}
  (own:ownKnob P.godebug=none) (started:os.Started) (noInit:P.inits.idxOf? f=none) (hfn:P.funcs[f]?=some fn)
  (witness:∃ (w:World) (tape:Tape) (i:Input),w.os=os∧(w.forCall tape i).Shaped P∧i.vars=[]∧Input.okWide P (w.forCall tape i) .any w.heap.size f i ∧
   (OpenSpec.ofChange s).preRow enc P fn conds false laid (w.forCall tape i).memory i.args∧Assume.holds {} P (lone (Frame.enter P f i.args .normal) [] (w.forCall tape i)))
  (hl:laidOutB P=true) (hts0:(fn.params.toList.all fun t=>P.readableRec t && decide (t<P.types.size))=true) (hr:fn.resultTypes = #[tb]) (hb:P.underlying tb=some .bool) (hvars:s.vars=[])
  (hres:∀ ds:List (DataW H),ds.length=fn.params.toList.length→(s.fn H (ds++[])).results=[.lit (.bool true)]∧(s.fn H (ds++[])).args=ds∧(s.fn H (ds++[])).vars=[])
  (law:∀ (W:World) (base:Nat) (args:Array Value) (ds:List (DataW H)) (ps:List MemPlace),(∀ (j:Nat) t v,fn.params[j]?=some t→args[j]?=some v→Value.okWide P W .any base t v) →
   DataW.TrodAll enc P W 0 (fun _=>true) true fn.params.toList args.toList ds ps→(DataW.weightsEach P fn.params.toList ds).all (· ≤ reachBytes)=true→laidMetH P laid W →
   HCalls P f args.toList W.heap (True_ W.heap)) :
  ReturnsInHanded {} C os f .any ((OpenSpec.ofChange s).preRow enc P fn conds false laid) (((OpenSpec.ofChange s).at F).post enc P fn false true false false):=by
 subst hP
 have hts:∀ t ∈ fn.params.toList,C.prog.readableRec t=true∧t<C.prog.types.size:=by
  intro t ht
  have:=List.all_eq_true.mp hts0 t ht
  rw [Bool.and_eq_true] at this
  exact ⟨this.1,of_decide_eq_true this.2⟩
 refine returnsInHanded_of_row (C:=C) (s:=OpenSpec.ofChange s) own started noInit hfn witness ?_
 intro W base args ds gs before hval hW _ _ hsz hL _ _
 have hW':DataW.Whole enc C.prog fn.params.toList s.vars false W args.toList ds gs before:=hW
 obtain ⟨p,q,hA,hV,rfl,_,_⟩:=hW
 rw [show (OpenSpec.ofChange s).vars=[] from hvars] at hV
 obtain ⟨rfl,rfl⟩:=trodVars_none hV
 have hvt:(OpenSpec.ofChange s).bare.plain.varTypes C.prog=[]:=by
  have:(OpenSpec.ofChange s).bare.plain.vars=[]:=hvars
  simp [DataSpec.varTypes,this]
 rw [hvt,List.append_nil,List.append_nil] at hsz
 obtain ⟨_,hc⟩:=law W base args ds p hval hA hsz hL
 have hlen:=(trodAll_length hA).2
 obtain ⟨e1,e2,e3⟩:=hres ds hlen
 simp only [List.append_nil] at hW'
 refine (hc W rfl).mono fun e W' ⟨v,he,hs,hv,hf⟩=>?_
 subst hv
 refine ⟨_,he,ds,[],p,[],p,[],(by exact hW'),?_,?_,?_,?_,fun h=>by cases h⟩
 ·show DataW.TrodAll _ _ _ _ _ _ _ _ (s.fn H (ds++[])).results _
  rw [e1,hr]; exact trodAll_mk1 (shut_bool hb true)
 ·show DataW.TrodAll _ _ _ _ _ _ _ _ (s.fn H (ds++[])).args _
  rw [e2]
  exact trodAll_below hl ⟨hs.1,hs.2.1,hs.2.2,hf.size,fun k hk=>hf.same k hk (fun x=>x)⟩ hts hA (fun x hx=>by simpa using hW'.lt x (by simpa using hx))
 ·have e4:(((OpenSpec.ofChange s).at F).fn H (ds++[])).vars=[]:=e3
  have e5:((OpenSpec.ofChange s).at F).vars=[]:=hvars
  rw [e4,e5]; rfl
 ·exact (Below.frame (⟨hs.1,hs.2.1,hs.2.2,hf.size,fun k hk=>hf.same k hk (fun x=>x)⟩:Below W.heap.size W W') _)
theorem cells_of_bools {H:Type} {enc:TypeId×Value→H} {P:Program} {w:World} {base:Nat} {sp:Nat→Bool} {held:Bool} {fuel:Nat} {t e:TypeId} {n:Nat} {cs:List Value} {zs:List Bool} {p:List MemPlace}
  (ht:P.underlying t=some (.array n e)) (he:P.underlying e=some .bool) (hce:P.cellsOf e=1) (hct:P.cellsOf t=n)
  (h:DataW.trod enc P w base sp held fuel t cs=some (.agg (zs.map fun z => .lit (.bool z)),p)):cs=zs.map fun z=>Value.bool z:=by
 cases fuel with
 | zero=>simp [DataW.trod] at h
 | succ fuel =>
  simp only [DataW.trod,ht,hce,hct,Nat.mul_one] at h
  split at h
  ·rename_i hl
   obtain ⟨xs,hm,hx⟩:=Option.map_eq_some_iff.1 h
   have hxs:xs.map (·.1)=zs.map fun z=>(DataW.lit (.bool z):DataW H):=by
    have:=congrArg Prod.fst hx
    simpa using this
   have hxl:xs.length=n:=by simpa using Lib.mapM_length hm
   have hzl:zs.length=n:=by
    have:=congrArg List.length hxs
    simp at this
    omega
   apply List.ext_getElem?
   intro i
   by_cases hi:i<n
   ·obtain ⟨b,hb,hf⟩:=Lib.mapM_at hm i i (by simp [hi])
    obtain ⟨z,hc,rfl⟩:=DataW.trod_bool he hf
    have h1:cs[i]?=some (.bool z):=by
     have:=congrArg (·[0]?) hc
     simpa [List.getElem?_take,List.getElem?_drop] using this
    have h2:(xs.map (·.1))[i]?=some (DataW.lit (.bool z):DataW H):=by simp [hb]
    rw [hxs] at h2
    simp only [List.getElem?_map,Option.map_eq_some_iff,DataW.lit.injEq,Lit.bool.injEq] at h2
    obtain ⟨z',hz',rfl⟩:=h2
    simp [h1,hz']
   ·rw [List.getElem?_eq_none (by omega),List.getElem?_eq_none (by simp; omega)]
  ·cases h
theorem rd_var {P:Program} {W:World} {name:String} {g:Nat} {cs:Array Value} (hg:P.globalNamed name=some g) (h:W.var? P name=some cs):rd W.heap g=cs.toList:=by
 unfold World.var? at h
 rw [hg,Option.bind_some] at h
 cases hw:W.heap[g]? with
 | none=>rw [hw] at h; cases h
 | some o =>
  rw [hw] at h
  cases o with
  | cells c t z=>simp only [Option.some.injEq] at h; subst h; simp [rd,hw]
  | _=>cases h
end Go.Proofs.YtiapingedfnlnaaGreatDoor.Gl
namespace Go.Proofs.YtiapingedfnlnaaGreatDoor.Gl
open Go Go.ChangeShapes Go.WideShapes Go.ChangeAt Go.RowKit Go.Proofs Wx Hp
theorem weight_each {H:Type} {P:Program}:∀ {ts:List TypeId} {ds:List (DataW H)} {j:Nat} {t:TypeId} {d:DataW H} {w:Nat},ts[j]?=some t→ds[j]?=some d→w ∈ d.weights P t→w ∈ DataW.weightsEach P ts ds
 | [],_,_,_,_,_,h,_,_=>by simp at h
 | _::_,[],_,_,_,_,_,h,_=>by simp at h
 | t::ts,d::ds,0,_,_,w,h1,h2,h3=>by
  cases h1
  cases h2
  simp only [DataW.weightsEach]
  exact List.mem_append_left _ h3
 | t::ts,d::ds,j+1,_,_,w,h1,h2,h3=>by
  simp only [DataW.weightsEach]
  exact List.mem_append_right _ (weight_each h1 h2 h3)
def Light {H:Type} (P:Program) (t:TypeId) (d:DataW H):Prop:=∀ w ∈ d.weights P t,w≤140737488351232
theorem light_arg {H:Type} {P:Program} {ts:List TypeId} {ds:List (DataW H)} (h:(DataW.weightsEach P ts ds).all (· ≤ reachBytes)=true) {j:Nat} {t:TypeId} {d:DataW H} (h1:ts[j]?=some t) (h2:ds[j]?=some d):Light P t d:=by
 intro w hw
 have:=of_decide_eq_true (List.all_eq_true.mp h w (weight_each h1 h2 hw))
 have e:reachBytes=140737488351232:=by decide
 omega
end Go.Proofs.YtiapingedfnlnaaGreatDoor.Gl
namespace Go.Proofs.YtiapingedfnlnaaGreatDoor
open Go Go.ChangeShapes Go.WideShapes Go.ChangeAt Go.RowKit Go.Proofs.YtiapingedfnlnaaGreatDoor.Wx Go.Proofs.YtiapingedfnlnaaGreatDoor.Hp Go.Proofs.YtiapingedfnlnaaGreatDoor.Gl
theorem Tryz.own : ownKnob Tryz.prog.godebug=none:=by kernel_rfl
theorem Tryz.laidOut : laidOutB Tryz.prog=true:=by kernel_rfl
theorem Tryz.cellsBool : Tryz.prog.cellsOf 4=1:=by kernel_rfl
theorem Tryz.cellsWide : Tryz.prog.cellsOf 373=9:=by kernel_rfl
theorem Tryz.gWide : Tryz.prog.globalNamed "bole/rec.widths" = some 0 := by kernel_rfl
theorem Tryz.tWide : (Tryz.prog.globals[0]?).map (·.type)=some 373:=by kernel_rfl
theorem table1 {W : World} (h : laidMetH Tryz.prog [("bole/rec.widths", Rows.laid_bole_rec_widths)] W) : In.Glo W.heap := by
 obtain ⟨ps,⟨g',t',cs,fuel,p,q,hg',ht',hvar,hd,_,_⟩,_⟩:=h
 obtain rfl:=Option.some.inj (Tryz.gWide.symm.trans hg')
 obtain rfl:=Option.some.inj (Tryz.tWide.symm.trans ht')
 exact ⟨(rd_var Tryz.gWide hvar).trans (cells_of_bools (zs:=Re.widthsL) Tryz.underlying373 Tryz.underlying4 Tryz.cellsBool Tryz.cellsWide hd)⟩
def layO (cs:List Value):Obj→Obj
 | .cells _ t frozen => .cells ⟨cs⟩ t frozen
 | o=>o
noncomputable def laidWorld (os:Os):World :=
 { World.holding Tryz.prog os ⟨#[],#[],[]⟩ with heap:=((World.holding Tryz.prog os ⟨#[],#[],[]⟩).heap.modify 0 (layO (Re.widthsL.map .bool))) }
end Go.Proofs.YtiapingedfnlnaaGreatDoor
namespace Go.Proofs.YtiapingedfnlnaaGreatDoor.Gl
open Go Go.ChangeShapes Go.WideShapes Go.ChangeAt Go.RowKit Go.Proofs Wx Hp
theorem open_text {H:Type} {enc:TypeId×Value→H} {P:Program} {W:World} {base t:Nat} {v:Value} {d:DataW H} {p:List MemPlace} (ht:P.underlying t=some .string) (hval:Value.okWide P W .any base t v)
  (h:DataW.Trod enc P W 0 (fun _=>true) true t v d p):∃ l:List UInt8,v = .string (mkStr l)∧d = .lit (.string l):=by
 obtain ⟨s,rfl⟩:=okWide_string ht hval
 obtain ⟨fuel,hf⟩:=h
 obtain ⟨s',e1,e2,_⟩:=DataW.trod_string ht hf
 have e1:s=s':=by simpa [Value.cells] using e1
 subst e1
 obtain ⟨⟨l⟩⟩:=s
 exact ⟨l,rfl,congrArg Prod.fst e2⟩
theorem text_le {H:Type} {P:Program} {t:TypeId} {l:List UInt8} (L:Light (H:=H) P t (.lit (.string l))):l.length≤140737488351232:=by
 refine L _ ?_
 simp [DataW.weights]
end Go.Proofs.YtiapingedfnlnaaGreatDoor.Gl
