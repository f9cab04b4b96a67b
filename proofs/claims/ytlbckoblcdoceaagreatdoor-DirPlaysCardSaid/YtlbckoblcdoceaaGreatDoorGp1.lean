/- dirPlays_card -/
import Derived.WalkKit
import Derived.KernelRfl
import Derived.RangeFuncRecord
import Derived.RangeFuncSeq
import Derived.OrdersIn
import Derived.TacticsIn
import Derived.MapKept
import Derived.Laws.CopyRow
import Derived.Scope
import Derived.Lib.Bytealg
import Derived.Laws.Tables
import Derived.Laws.IdiomStrings
import Derived.Laws.IdiomRangeMap
import Derived.Test.YtlbckoblcdoceaaGreatDoorTie
namespace Go.Proofs.YtlbckoblcdoceaaGreatDoor
open Go Go.Proofs
variable{p:Prop}{t e cap size n t' m i:Nat}{a b:Act}{c:Code}{w:World}{x y:Value}{f:FuncId}
open _root_.Nat renaming eq_of_beq_eq_true->xP,lt_or_ge->rI,zero_add->wR,add_mul->Mb,one_mul->OU,add_comm->acK,le_of_ble_eq_true->xS,ble_eq_true_of_le->OV,beq_refl->vE,lt_of_lt_of_le->mV
open _root_.Option renaming map_some->OW,map_none->Vy,bind_some->af9
open _root_.Array renaming getElem?_modify->Vz,getElem?_eq_none->lw4,ext'->tC,toList_map->aga,toList_range->agb,length_toList->Ax,foldl_toList->agc,toList_push->acL,getElem?_toList->S5,getElem?_eq_getElem->agd,toList_extract->Y4,getElem?_setIfInBounds_ne->S6
open _root_.List renaming length_cons->pA,eq_nil_of_length_eq_zero->Vb,map_append->eT,map_map->qJ,ext_getElem?->Kw,getElem?_map->jH,replicate_succ->uW,flatten_cons->H6,map_congr_left->Fu,length_append->bg,take_of_length_le->gL,mem_map->jc,getElem?_toArray->acM,getElem?_cons_zero->Y5,getElem?_cons_succ->Ta,all_eq_true->oN,eq_of_mem_replicate->VA,foldl_cons->zN,length_take->dL,length_drop->jM,append_assoc->iW,drop_drop->Bv,mem_cons->fO,map_cons->lI,eraseIdx_cons_succ->acN,mem_cons_self->kj,mem_cons_of_mem->gV,mem_append->nB,mem_singleton->kU,getElem?_set->acO,getElem?_eq_none->CU,mem_or_eq_of_mem_set->OX,nodup_cons->VB,filter_cons->age,filter_eq_self->acP,mem_of_getElem?->Fv,mem_append_right->Tb,length_map->aP,take_take->Y6,drop_take->agf,all_cons->Mc,range'_succ->agh,drop_zero->mW,extract_eq_take_drop->Y7,getElem?_append_left->Tc,getElem?_append_right->Te,nil_append->tP,filter_cons_of_neg->agi,filter_cons_of_pos->agj,mem_filter->H7,any_eq_true->Fw,append_nil->gi,mem_append_left->OY
open _root_.Bool renaming false_eq_true->Ay,not_false->agk,and_eq_true->dB,and_assoc->acQ
section
theorem oX(h:p:=by omega):p:=h
theorem dX(h:p:=by decide):p:=h
namespace Ad
end Ad
namespace Av
end Av
namespace Bm
end Bm
namespace Bt
end Bt
namespace Ch
end Ch
namespace Di
end Di
namespace Fi
end Fi
namespace Gl
end Gl
namespace Hd
end Hd
namespace Hp
end Hp
namespace In
end In
namespace Ino
end Ino
namespace L3
end L3
namespace Pn
end Pn
namespace Re
end Re
namespace Rf
end Rf
namespace Rg
end Rg
namespace Rx
end Rx
namespace Sk
end Sk
namespace Spc
end Spc
namespace Ss
end Ss
namespace Su
end Su
namespace Sx
end Sx
namespace Tm
end Tm
namespace Tp
end Tp
namespace W
end W
namespace Wc
end Wc
namespace Wx
end Wx
end
namespace Wx
open Go
abbrev ad :=Array Obj
abbrev OA:=Option Addr
abbrev LV:=List Value
abbrev LB:=List UInt8
abbrev NP:=Nat->Prop
abbrev HP:=ad->Prop
abbrev KT:=Value->ad->Prop
abbrev IP:=Int->ad->Prop
abbrev IM:=Int->ad->Nat
abbrev Fr :=List (Nat×Value)
def iL : Nat:=1000000000
def Tg : Fr->Nat->Option Value
  | [],_=>none
  | (i,v)::r,t=>bif Nat.beq i t then some v else Tg r t
def Fr.get(f:Fr)(t:Nat):Option Value:=bif Nat.beq t iL then none else Tg f t
def wS : Fr->LV
  | []=>[]
  | (i,v)::r=>bif Nat.beq i iL then v::wS r else wS r
def QV : Fr->Fr
  | []=>[]
  | (i,v)::r=>bif Nat.beq i iL then QV r else(i,v)::QV r
def Bw : LV->Fr->Fr
  | [],f=>f
  | v::r,f=>(iL,v)::Bw r f
inductive D where
  | bool|int (k:IntKind)|str|ptr (e:Nat)|slice (e:Nat)|arr (n e:Nat)|struct (fs:List (Nat×Nat))|fn|map (k e:Nat)|other
structure TI where
  ok:Bool
  d:D
  cells:Nat
  bytes:Nat
  zero:LV
  eq:List D
def Y8 : TI:=⟨false,.other,0,0,[],[]⟩
def uT(t:TI)(p:Prop):Prop:=bif t.ok then p else False
def VC(l:List (Nat×TI))(t:Nat):TI:=
  match l with
  | []=>Y8
  | (i,x)::r=>bif Nat.beq i t then x else VC r t
def aa0{α:Type}(l:List (Nat×List α))(t:Nat):List α:=
  match l with
  | []=>[]
  | (i,x)::r=>bif Nat.beq i t then x else aa0 r t
inductive Ty where
  | int (k:IntKind)|bool|str|ptr|slice|agg|any|map|clo
def D.ty : D->Ty
  | .int k=>.int k| .bool=>.bool| .str=>.str| .ptr _=>.ptr| .slice _=>.slice| .arr _ _=>.agg| .struct _=>.agg| .fn=>.any| .map _ _=>.map| .other=>.any
inductive Od where
  | nil
  | op (i:Nat) (st:List Nat) (r:Od)
  | alt (i:Nat) (st:List Nat) (r o:Od)
structure Ctx where
  P:Program
  ti:Nat->TI
  sig:Nat->List Ty
  loops:Nat->List Nat×List (Nat×Ty)
  vF:Nat->Od
  nat:List Nat
  OI:List Nat
def cellOf(h:ad)(a:Addr):Option Value:=
  match h[a.block]? with
  | some (.cells c _ _)=>if a.spot.isSome then none else c[a.off]?
  | _=>none
def uo(h:ad)(a:Addr):Bool:=
  match h[a.block]? with
  | some (.cells _ _ (lo,hi))=>lo<=a.off && a.off<hi
  | _=>false
def setOf(h:ad)(a:Addr)(v:Value):ad:=
  h.modify a.block fun
      | .cells c elem frozen=>.cells (if a.spot.isSome then c else c.setIfInBounds a.off v) elem frozen
      | o=>o
def ai(h:ad)(a:Addr)(xs:LV):Prop:=∀(i:Nat) (v:Value),xs[i]?=some v->cellOf h (a.add i)=some v
def ak(h:ad)(a:OA)(xs:LV):Prop:=
  match a with
  | some p=>ai h p xs
  | none=>xs=[]
def Wr(h:ad)(a:Addr):Prop:=(∃u,cellOf h a=some u)/\uo h a=false
def WrN(h:ad)(a:Addr)(n:Nat):Prop:=∀i,i<n->Wr h (a.add i)
def setRow(h:ad)(a:Addr):LV->(i:Nat)->ad
  | [],_=>h
  | v::r,i=>setRow (setOf h (a.add i) v) a r (i+1)
def QW(h:ad)(a:Addr)(cs:LV)(n:Nat):Prop:=cs.length=n/\(∀v∈cs,v.oneCell'=true)/\WrN h a n
def bv(b:UInt8):Value:=.int .u8 b.toNat
def mkStr(bs:LB):ByteArray:=⟨⟨bs⟩⟩
def av(h:ad)(a:OA)(l:Nat)(bs:LB):Prop:=bs.length=l/\ak h a (bs.map bv)
def aL(z:LV)(n:Nat):LV:=
  match z with
  | [v]=>List.replicate n v
  | z=>(List.replicate n z).flatten
def mi(v:Value):LV:=
  match v with
  | .agg a=>a.toList
  | v=>[v]
def Kx(h:ad):Value:=.pointer (some ⟨h.size,0,none⟩)
def uX(h:ad)(cs:LV)(t:Nat):ad:=h.push (.cells ⟨cs⟩ t)
def scale(n size:Nat):Nat:=bif Nat.beq size 1 then n else n*size
def ae{α:Type}(o:Option α)(k:α->Prop):Prop:=
  match o with
  | some a=>k a
  | none=>False
def px(f:Fr)(x:Operand)(k:Value->Prop):Prop:=
  match x with
  | .tmp t=>ae (Fr.get f t) k
  | .const v=>k v
  | .global g=>k (.pointer (some ⟨g,0,none⟩))
  | .func g=>k (.func (.func g) #[] #[])
def zX(v:Value)(k:IntKind->Int->Prop):Prop:=
  match v with
  | .int kd n=>k kd n
  | _=>False
def Ky(v:Value)(k:Bool->Prop):Prop:=
  match v with
  | .bool b=>k b
  | _=>False
def xT(v:Value)(k:OA->Prop):Prop:=
  match v with
  | .pointer q=>k q
  | _=>False
def tQ(v:Value)(k:OA->Nat->Nat->Prop):Prop:=
  match v with
  | .slice a l c=>k a l c
  | _=>False
def QX(v:Value)(k:LV->Prop):Prop:=
  match v with
  | .agg a=>k a.toList
  | _=>False
def IQ(v:Value)(k:ByteArray->Prop):Prop:=
  match v with
  | .string s=>k s
  | _=>False
def xv(v:Value)(k:Option Nat->Prop):Prop:=
  match v with
  | .map q=>k q
  | _=>False
def aa1(v:Value)(k:LV->Prop):Prop:=
  match v with
  | .tuple a=>k a.toList
  | _=>False
def VD(ty:Ty)(C K:Value->Prop):Prop:=
  match ty with
  | .int k=>∃n:Int,C (.int k n)/\K (.int k n)
  | .bool=>∃b:Bool,C (.bool b)/\K (.bool b)
  | .str=>∃s:ByteArray,C (.string s)/\K (.string s)
  | .ptr=>∃q:OA,C (.pointer q)/\K (.pointer q)
  | .slice=>∃(a:OA) (l c:Nat),C (.slice a l c)/\K (.slice a l c)
  | .agg=>∃cs:LV,C (.agg ⟨cs⟩)/\K (.agg ⟨cs⟩)
  | .any=>∃v:Value,C v/\K v
  | .map=>∃q:Option Nat,C (.map q)/\K (.map q)
  | .clo=>∃(g:Nat) (fs cs:LV),C (.func (.func g) ⟨fs⟩ ⟨cs⟩)/\K (.func (.func g) ⟨fs⟩ ⟨cs⟩)
def EF(Ti:List Ty)(acc:LV)(C K:LV->Prop):Prop:=
  match Ti with
  | []=>C acc/\K acc
  | .int k::r=>∃n:Int,EF r (acc++[.int k n]) C K
  | .bool::r=>∃b:Bool,EF r (acc++[.bool b]) C K
  | .str::r=>∃s:ByteArray,EF r (acc++[.string s]) C K
  | .ptr::r=>∃q:OA,EF r (acc++[.pointer q]) C K
  | .slice::r=>∃(a:OA) (l c:Nat),EF r (acc++[.slice a l c]) C K
  | .agg::r=>∃cs:LV,EF r (acc++[.agg ⟨cs⟩]) C K
  | .any::r=>∃v:Value,EF r (acc++[v]) C K
  | .map::r=>∃q:Option Nat,EF r (acc++[.map q]) C K
  | .clo::r=>∃(g:Nat) (fs cs:LV),EF r (acc++[.func (.func g) ⟨fs⟩ ⟨cs⟩]) C K
def bh(w w':World):Prop:=w'.os=w.os/\w'.tape=w.tape/\w'.output=w.output
def Bz (P : Program) (g : Nat) : Prop := ∃ fn, P.funcs[g]? = some fn ∧ (fn.name == "runtime.NumGoroutine") = false ∧ fn.body.isNone = false
def qK(P:Program)(g:Nat)(args:LV)(h:ad)(k:KT):Prop:=
  Bz P g/\∀w:World,w.heap=h->Calls P g ⟨args⟩ w λe w'=>∃v,e = .returned v/\bh w w'/\k v w'.heap
def acR(P:Program)(g:Nat)(args:LV)(h:ad)(k kp:KT):Prop:=
  Bz P g/\∀w:World,w.heap=h->Calls P g ⟨args⟩ w λe w'=>bh w w'/\((∃v,e = .returned v/\k v w'.heap)∨(∃v,e = .panicked [{ v:=v,recovered:=false }]/\kp v w'.heap))
def Y9(P:Program)(g:Nat)(args:LV)(v:Value)(h:ad)(k:HP):Prop:=
  Bz P g/\∀w:World,w.heap=h->CallsDIn Fence.wide 0 P g ⟨args⟩ (.panicking [{ v:=v,recovered:=false }]) w λe u w'=>u = .panicking [{ v:=v,recovered:=true }]/\(∃r,e = .returned r)/\bh w w'/\k w'.heap
def agl(P:Program)(c:Value)(args:LV)(v:Value)(h:ad)(k:HP):Prop:=
  match c with
  | .func (.func g) fs cs=>Y9 P g (fs.toList++args++cs.toList) v h k
  | _=>False
def rQ(P:Program)(l:Nat)(args:LV)(h:ad)(k:KT):Prop:=
  ∀w:World,w.heap=h->YieldAt Fence.wide 0 P l ⟨args⟩ w λe w'=>∃v,e = .returned v/\bh w w'/\k v w'.heap
def CV(P:Program)(g:Nat)(args:LV)(h:ad)(k:HP):Prop:=
  Bz P g/\∀w:World,w.heap=h->CallsDIn Fence.wide 0 P g ⟨args⟩ .returning w λe u w'=>u = .returning/\(∃v,e = .returned v)/\bh w w'/\k w'.heap
def QY(P:Program)(v:Value)(args:LV)(h:ad)(k:HP):Prop:=
  match v with
  | .func (.func g) fs cs=>CV P g (fs.toList++args++cs.toList) h k
  | _=>False
def bO(h:ad)(l:Nat)(R:Loop)(st:LoopState)(p:Option Code):Prop:=h[l]?=some (.loop { R with state:=st,pending:=p })
def dz(h:ad)(l:Nat)(R:Loop)(st:LoopState)(p:Option Code):ad:=h.setIfInBounds l (.loop { R with state:=st,pending:=p })
def dw(h:ad)(R:Loop):ad:=(h.push (.deferred (some []))).push (.loop { R with state:=.ready,pending:=none })
def Tj(h:ad)(b:Nat):ad:=h.setIfInBounds b (.deferred none)
def xU(p:Option Code)(n r:Prop)(e:NP):Prop:=
  match p with
  | none=>n
  | some .ret=>r
  | some (.exit i)=>e i
  | _=>False
def exX : List Nat->Nat->(NP)->Prop
  | [],_,_=>False
  | j::r,i,E=>bif Nat.beq i j then E j else exX r i E
def bP(op:BinOp)(kd:IntKind)(a b:Int):Int:=
  let x:=BitVec.ofInt kd.bits a
  let y:=BitVec.ofInt kd.bits b
  match op with
  | .and=>kd.wrap (x &&& y).toNat
  | .or=>kd.wrap (x ||| y).toNat
  | .xor=>kd.wrap (x ^^^ y).toNat
  | _=>kd.wrap (x &&& ~~~y).toNat
def Md(op:BinOp)(kd:IntKind)(a b:Int)(k:Value->Prop):Prop:=
  match op with
  | .add=>k (.int kd (kd.wrap (a+b)))
  | .sub=>k (.int kd (kd.wrap (a-b)))
  | .mul=>k (.int kd (kd.wrap (a*b)))
  | .quo=>if b=0 then False else k (.int kd (kd.wrap (a.tdiv b)))
  | .rem=>if b=0 then False else k (.int kd (a.tmod b))
  | .eql=>k (.bool (a==b))
  | .neq=>k (.bool (a != b))
  | .lss=>k (.bool (decide (a<b)))
  | .leq=>k (.bool (decide (a<=b)))
  | .gtr=>k (.bool (decide (a>b)))
  | .geq=>k (.bool (decide (a>=b)))
  | .and=>k (.int kd (bP .and kd a b))
  | .or=>k (.int kd (bP .or kd a b))
  | .xor=>k (.int kd (bP .xor kd a b))
  | .andNot=>k (.int kd (bP .andNot kd a b))
  | _=>False
def xV(op:BinOp)(kd:IntKind)(a b:Int)(k:Value->Prop):Prop:=
  match op with
  | .shl=>if b<0 then False else k (.int kd (kd.wrap (a*2 ^ min b.toNat kd.bits)))
  | .shr=>if b<0 then False else k (.int kd (a.fdiv (2 ^ min b.toNat kd.bits)))
  | _=>False
def acS(op:BinOp)(a b:ByteArray)(k:Value->Prop):Prop:=
  match op with
  | .add=>((a.size+b.size:Nat):Int)<=9223372036854775807/\k (.string (a++b))
  | .eql=>k (.bool (a.toList==b.toList))
  | .neq=>k (.bool !(a.toList==b.toList))
  | .lss=>k (.bool (Op.bytesLess a.toList b.toList))
  | .leq=>k (.bool (Op.bytesLess a.toList b.toList || a.toList==b.toList))
  | .gtr=>k (.bool !(Op.bytesLess a.toList b.toList || a.toList==b.toList))
  | .geq=>k (.bool !(Op.bytesLess a.toList b.toList))
  | _=>False
def u6 : BinOp->Bool
  | .shl| .shr=>true
  | _=>false
def nC : IntKind->IntKind->Bool
  | .i8,.i8| .i16,.i16| .i32,.i32| .i64,.i64| .u8,.u8| .u16,.u16| .u32,.u32| .u64,.u64=>true
  | _,_=>false
def eqB(op:BinOp)(b:Bool)(k:Value->Prop):Prop:=
  match op with
  | .eql=>k (.bool b)
  | .neq=>k (.bool !b)
  | _=>False
def y' : Value->Bool
  | .nilFunc=>true
  | _=>false
def IU : Value->Bool
  | .nilFunc=>true
  | .func _ _ _=>true
  | _=>false
def gJ(P:Program)(v:Value)(args:LV)(h:ad)(k:KT):Prop:=
  match v with
  | .func (.func g) fs cs=>qK P g (fs.toList++args++cs.toList) h k
  | .func (.yield l) fs _=>rQ P l (fs.toList++args) h k
  | _=>False
def za(P:Program)(v:Value)(args:LV)(h:ad)(k:KT):Prop:=
  match v with
  | .func (.func g) fs cs=>qK P g (fs.toList++args++cs.toList) h k
  | _=>False
def vR(d:D)(op:BinOp)(x y:Value)(k:Value->Prop):Prop:=
  match d with
  | .fn=>(match y with| .nilFunc=>IU x=true/\eqB op (y' x) k|_=>False)
  | d=>match x,y with
  | .int kd a,.int Kz b=>bif u6 op then xV op kd a b k else bif nC kd Kz then Md op kd a b k else False
  | .string a,.string b=>acS op a b k
  | .bool a,.bool b=>(match d with| .bool=>eqB op (a==b) k|_=>False)
  | .pointer a,.pointer none=>(match d with| .ptr _=>eqB op a.isNone k|_=>False)
  | .slice a _ _,.slice none _ _=>(match d with| .slice _=>eqB op a.isNone k|_=>False)
  | _,_=>False
def dr : List D->LV->LV->Bool
  | [],[],[]=>true
  | .int kd::ks,.int ka _::xs,.int kb _::ys=>nC kd ka && nC kd kb && dr ks xs ys
  | .str::ks,.string _::xs,.string _::ys=>dr ks xs ys
  | .bool::ks,.bool _::xs,.bool _::ys=>dr ks xs ys
  | _,_,_=>false
def cQ : LV->LV->Bool
  | .int _ a::xs,.int _ b::ys=>(a==b) && cQ xs ys
  | .string a::xs,.string b::ys=>(a.toList==b.toList) && cQ xs ys
  | .bool a::xs,.bool b::ys=>(a==b) && cQ xs ys
  | [],[]=>true
  | _,_=>false
def agm(t:TI)(op:BinOp)(x y:Value)(k:Value->Prop):Prop:=
  match t.eq with
  | []=>vR t.d op x y k
  | ks=>(match x,y with
      | .agg a,.agg b=>dr ks a.toList b.toList=true/\eqB op (cQ a.toList b.toList) k
      | _,_=>False)
def unX(op:UnOp)(x:Value)(k:Value->Prop):Prop:=
  match op,x with
  | .not,.bool b=>k (.bool !b)
  | .neg,.int kd n=>k (.int kd (kd.wrap (0-n)))
  | .xor,.int kd n=>k (.int kd (bP .xor kd (if kd.signed then -1 else kd.max) n))
  | _,_=>False
def QZ(t:TI)(p:Addr)(h:ad)(k:Value->Prop):Prop:=
  match t.d.ty with
  | .agg=>∃cs:LV,cs.length=t.cells/\ai h p cs/\k (.agg ⟨cs⟩)
  | ty=>VD ty (λv=>cellOf h p=some v) k
def OZ(t:TI)(p:Addr)(v:Value)(h:ad)(k:HP):Prop:=
  match v with
  | .agg a=>QW h p a.toList t.cells/\k (setRow h p a.toList 0)
  | .tuple _=>False
  | v=>bif Nat.beq t.cells 1 then Wr h p/\k (setOf h p v)else False
def tD : List LV->LV
  | []=>[]
  | [x]=>x
  | x::r=>x++tD r
def eU(f:Fr)(i:Nat):List (Nat×Operand)->Option (Option Value)
  | []=>none
  | (j,x)::r=>bif Nat.beq j i then some (match x with| .tmp t=>Fr.get f t| .const v=>some v| .global g=>some (.pointer (some ⟨g,0,none⟩))| .func g=>some (.func (.func g) #[] #[]))else eU f i r
def kV(f:Fr)(parts:List (Nat×Operand))(Z:LV):(pB:List (Nat×Nat))->(i:Nat)->(acc:List LV)->(k:List LV->Prop)->Prop
  | [],_,acc,k=>k acc
  | (off,size)::r,i,acc,k=>
    match eU f i parts with
    | none=>kV f parts Z r (i+1) (acc++[(Z.drop off).take size]) k
    | some o=>ae o λv=>(match v with
        | .agg a=>a.toList.length=size/\kV f parts Z r (i+1) (acc++[a.toList]) k
        | .tuple _=>False
        | v=>bif Nat.beq size 1 then kV f parts Z r (i+1) (acc++[[v]]) k else False)
def xW : List (Nat×Nat)->(at_ n:Nat)->Bool
  | [],m,n=>Nat.beq m n
  | (off,size)::r,m,n=>Nat.beq off m && xW r (m+size) n
def mj(size:Nat):(n i:Nat)->List (Nat×Nat)
  | 0,_=>[]
  | n+1,i=>(i*size,size)::mj size n (i+1)
def sorted(n:Nat):List (Nat×Operand)->(from_:Nat)->Bool
  | [],_=>true
  | (j,_)::r,m=>Nat.ble m j && Nat.blt j n && sorted n r (j+1)
def vT(a:OA)(l h m size:Nat):Value:=.slice (if m=l then a else a.map (·.add (scale l size))) (h-l) (m-l)
def loX(f:Fr)(lo:Option Operand)(k:Option Int->Prop):Prop:=
  match lo with
  | none=>k none
  | some x=>px f x λv=>zX v λ_ n=>k (some n)
def VE(a:OA)(len cap size:Nat)(lo hi mx:Option Int)(k:Value->Prop):Prop:=
  match lo,hi,mx with
  | none,none,none=>k (.slice a len cap)
  | none,some h,none=>(0<=h/\h<=(cap:Int))/\k (.slice a h.toNat cap)
  | some l,none,none=>(0<=l/\l<=(len:Int))/\k (vT a l.toNat len cap size)
  | some l,some h,none=>(0<=l/\l<=h/\h<=(cap:Int))/\k (vT a l.toNat h.toNat cap size)
  | none,some h,some m=>(0<=h/\h<=m/\m<=(cap:Int))/\k (.slice a h.toNat m.toNat)
  | some l,some h,some m=>(0<=l/\l<=h/\h<=m/\m<=(cap:Int))/\k (vT a l.toNat h.toNat m.toNat size)
  | _,_,_=>False
def O0(s:ByteArray)(lo hi mx:Option Int)(k:Value->Prop):Prop:=
  match lo,hi,mx with
  | none,none,none=>k (.string s)
  | none,some h,none=>(0<=h/\h<=(s.size:Int))/\k (.string (s.extract 0 h.toNat))
  | some l,none,none=>(0<=l/\l<=(s.size:Int))/\k (.string (s.extract l.toNat s.size))
  | some l,some h,none=>(0<=l/\l<=h/\h<=(s.size:Int))/\k (.string (s.extract l.toNat h.toNat))
  | _,_,_=>False
def KA(d:D)(size:Nat)(x:Value)(lo hi mx:Option Int)(k:Value->Prop):Prop:=
  match d,x with
  | .str,.string s=>O0 s lo hi mx k
  | .slice _,.slice a len cap=>VE a len cap size lo hi mx k
  | .arr n _,.pointer q=>ae q λp=>VE (some p) n n size lo hi mx k
  | _,_=>False
def Y'(elem:TI)(h:ad)(x:Value)(k:Nat->LV->Prop):Prop:=
  match x with
  | .slice b n _=>∃new:LV,new.length=n*elem.cells/\ak h b new/\(∀v∈new,v.oneCell'=true)/\k n new
  | .string s=>bif Nat.beq elem.cells 1 then k s.size (s.toList.map bv)else False
  | _=>False
def KB(h:ad)(a:OA)(o n:Nat):Prop:=
  match a with
  | some p=>WrN h (p.add o) n
  | none=>n=0
def sS(h:ad)(a:OA)(o:Nat)(new:LV):ad:=
  match a with
  | some p=>setRow h (p.add o) new 0
  | none=>h
def aJ(elem:TI)(e:Nat)(a:OA)(l c n:Nat)(new:LV)(h:ad)(k:OA->Nat->Nat->ad->Prop):Prop:=
  ∃old:LV,old.length=l*elem.cells/\ak h a old/\(l+n)*elem.bytes<=140737488355328/\(l+n<=140737488355328)/\
    (l+n<=c->KB h a (l*elem.cells) (n*elem.cells)/\k a (l+n) c (sS h a (l*elem.cells) new))/\
    (c<l+n->∀cap,l+n<=cap->k (some ⟨h.size,0,none⟩) (l+n) cap (uX h (old++new++aL elem.zero (cap-(l+n))) e))
def xw(elem:TI)(a:OA)(n:Nat)(src:Value)(h:ad)(k:Nat->ad->Prop):Prop:=
  match src with
  | .slice b m _=>∃new:LV,new.length=min m n*elem.cells/\ak h b new/\(∀v∈new,v.oneCell'=true)/\KB h a 0 (min m n*elem.cells)/\k (min m n) (sS h a 0 new)
  | .string s=>(bif Nat.beq elem.cells 1 then True else False)/\KB h a 0 (min s.size n)/\k (min s.size n) (sS h a 0 ((s.toList.take (min s.size n)).map bv))
  | _=>False
def Fy(elem:TI)(a:OA)(n:Nat)(h:ad)(k:HP):Prop:=
  (bif elem.zero.all Value.oneCell' then True else False)/\KB h a 0 (n*elem.cells)/\k (sS h a 0 (aL elem.zero n))
def aa3(elem:TI)(e:Nat)(l c:Int)(h:ad)(k:KT):Prop:=
  (0<=l/\l<=c/\(elem.bytes:Int)*c<=281474976710656/\c<=281474976710656)/\k (.slice (some ⟨h.size,0,none⟩) l.toNat c.toNat) (uX h (aL elem.zero c.toNat) e)
def acT(d:D)(v:Value)(k:Value->Prop):Prop:=
  match d,v with
  | .slice _,.slice _ n _=>k (.int .i64 (n:Int))
  | .str,.string s=>k (.int .i64 (s.size:Int))
  | .arr n _,_=>k (.int .i64 (n:Int))
  | _,_=>False
def agn(d:D)(v:Value)(k:Value->Prop):Prop:=
  match d,v with
  | .slice _,.slice _ _ c=>k (.int .i64 (c:Int))
  | _,_=>False
def acU(x y:Value)(k:Value->Prop):Prop:=
  match x,y with
  | .int kd a,.int Kz b=>bif nC kd Kz then k (.int kd (if b<a then b else a))else False
  | _,_=>False
def acV(x y:Value)(k:Value->Prop):Prop:=
  match x,y with
  | .int kd a,.int Kz b=>bif nC kd Kz then k (.int kd (if b>a then b else a))else False
  | _,_=>False
def zO : D->Bool
  | .int .u8=>true
  | _=>false
def BB : D->Bool
  | .slice _=>true
  | _=>false
def vG(h:ad)(cs:LV)(t:Nat):ad:=h.push (.cells ⟨cs⟩ t (cs.length,cs.length+1))
def ago(n:Nat):Obj->Obj
  | .cells c e (lo,hi)=>.cells c e (if lo==hi then(n,n+1)else(min lo n,max hi (n+1)))
  | o=>o
def tJ(h:ad)(b:Nat):ad:=
  match h[b]? with
  | some (.cells c _ _)=>h.modify b (ago c.size)
  | _=>h
def Fz(C:Ctx)(same:Bool)(src dst:D)(v:Value)(h:ad)(k:KT):Prop:=
  match src,dst with
  | .str,.slice e=>bif zO (C.ti e).d then IQ v λs=>∀cap:Nat,s.size<=cap->k (.slice (some ⟨h.size,0,none⟩) s.size cap) (vG h (s.toList.map bv++List.replicate (cap-s.size) (bv 0)) e)else False
  | .slice _,.slice e=>bif same && zO (C.ti e).d then tQ v λa l c=>ae a λp=>k (.slice (some p) l c) (tJ h p.block)else False
  | _,_=>False
def Me(C:Ctx)(src dst:D)(v:Value)(h:ad)(k:KT):Prop:=
  match src,dst,v with
  | .int _,.int kd,.int _ n=>k (.int kd (kd.wrap n)) h
  | .str,.str,.string s=>k (.string s) h
  | .int _,.str,.int _ n=>k (.string (Utf8.encode n)) h
  | .slice e,.str,.slice a l _=>bif zO (C.ti e).d then ∃bs:LB,av h a l bs/\k (.string (mkStr bs)) h else False
  | _,_,_=>False
def elemOf(C:Ctx)(t:Nat):Nat:=
  match (C.ti t).d with
  | .slice e=>e
  | .arr _ e=>e
  | .ptr e=>e
  | _=>0
def CQ(f:Fr):List Operand->(acc:LV)->(k:LV->Prop)->Prop
  | [],acc,k=>k acc
  | x::r,acc,k=>px f x λv=>CQ f r (acc++[v]) k
def Mf(Ti:List Ty)(k:KT)(v:Value)(h:ad):Prop:=
  match Ti with
  | []=>v = .tuple #[]/\k (.tuple #[]) h
  | [ty]=>VD ty (λu=>v=u) (λu=>k u h)
  | Ti=>EF Ti [] (λus=>v = .tuple ⟨us⟩) (λus=>k (.tuple ⟨us⟩) h)
def ET(C:Ctx)(t i:Nat):Option (Nat×Nat):=
  match (C.ti t).d with
  | .struct fs=>fs[i]?
  | _=>none
def Az(q:Nat×Operand):List (Nat×Operand)->List (Nat×Operand)
  | []=>[q]
  | x::r=>bif Nat.ble q.1 x.1 then q::x::r else x::Az q r
def xy : List (Nat×Operand)->List (Nat×Operand)
  | []=>[]
  | q::r=>Az q (xy r)
def vH(len:Nat)(parts:List (Nat×Operand)):Bool:=sorted len (xy parts) 0
inductive mC where
  | i (n:Int)
  | s (b:LB)
def mC.same : mC->mC->Bool
  | .i a,.i b=>a==b
  | .s a,.s b=>a==b
  | _,_=>false
def nQ(d:D):mC->Value
  | .i n=>(match d with| .int k=>.int k n|_=>.nilFunc)
  | .s b=>.string (mkStr b)
def mn(d:D):mC->Bool
  | .i _=>(match d with| .int _=>true|_=>false)
  | .s _=>(match d with| .str=>true|_=>false)
def Mg(d:D)(v:Value)(k:mC->Prop):Prop:=
  match d,v with
  | .int kd,.int Kz n=>bif nC kd Kz then k (.i n)else False
  | .str,.string s=>k (.s s.toList)
  | _,_=>False
abbrev sT :=List (mC×Value)
def nK(d:D)(h:ad)(r:Nat)(m:sT):Prop:=
  ∃es clock,h[r]?=some (.map es clock)/\es.toList.map (λe=>(e.key,e.val))=m.map (λp=>(nQ d p.1,p.2))/\(∀p∈m,mn d p.1=true)/\MapKept.Stamped es clock
structure MapTo(d:D)(h:ad)(r:Nat)(m:sT)(h':ad):Prop where
  size:h'.size=h.size
  same:∀b,b≠r->h'[b]?=h[b]?
  at_:nK d h' r m
structure aa4(d:D)(h:ad)(r:Nat)(x:mC)(m:sT)(h':ad):Prop extends MapTo d h r m h' where
  del:∀es clock,h[r]?=some (.map es clock)->∃EU,h'[r]?=some (.map EU clock)/\EU.toList=es.toList.filter λe=>@decide (e.key≠nQ d x) (Classical.propDecidable _)
def nD : sT->mC->Option Value
  | [],_=>none
  | (k,v)::r,x=>bif mC.same x k then some v else nD r x
def zP : sT->mC->Value->sT
  | [],x,v=>[(x,v)]
  | (k,u)::r,x,v=>bif mC.same x k then(x,v)::r else(k,u)::zP r x v
def Mh : sT->mC->sT
  | [],_=>[]
  | (k,u)::r,x=>bif mC.same x k then r else(k,u)::Mh r x
def u7(d:D)(q:Option Nat)(h:ad)(K:sT->Prop):=
  match q with
  | none=>K []
  | some r=>∃m,nK d h r m/\K m
def AA(d:D)(r:Nat)(x:mC)(v:Value)(h:ad)(K:HP):=∃m,nK d h r m/\∀h',MapTo d h r (zP m x v) h'->K h'
def VF(d:D)(q:Option Nat)(x:mC)(h:ad)(K:HP):=
  match q with
  | none=>K h
  | some r=>∃m,nK d h r m/\∀h',aa4 d h r x (Mh m x) h'->K h'
def KC(h:ad):ad:=h.push (.map #[] 0)
def zeroV(t:TI):Value:=
  match t.d.ty with
  | .agg=>.agg ⟨t.zero⟩
  | _=>t.zero.headD .nilFunc
structure KD(h:ad)(r:Nat)(s:ByteArray)(pos:Nat)(h':ad):Prop where
  size:h'.size=h.size
  same:∀b,b≠r->h'[b]?=h[b]?
  at_:h'[r]?=some (.stringIter s pos)
def agp(h:ad)(s:ByteArray):ad:=h.push (.stringIter s 0)
abbrev BC :=List (Int×Int)
def mI(l:BC):sT:=l.map λp=>(.i p.1,.int .i64 p.2)
def pC : D->Bool
  | .int .i64=>true
  | _=>false
def kvI(p:Int×Int):Value×Value:=(.int .i64 p.1,.int .i64 p.2)
def Q0(h:ad)(b r:Nat)(m left:BC):Prop:=
  ∃es clock since seen last,h[r]?=some (.map es clock)/\h[b]?=some (.mapIter (some r) since seen last)/\es.toList.map (λe=>(e.key,e.val))=m.map kvI/\MapKept.Stamped es clock/\
    (∀x∈es.toList,x.born<since)/\since<=last/\since<=clock/\(es.toList.filter λe=>!seen.contains e.born).map (λe=>(e.key,e.val))=left.map kvI
def agq(h:ad)(b r:Nat)(n v:Int):Prop:=
  ∃es clock since seen e,h[r]?=some (.map es clock)/\h[b]?=some (.mapIter (some r) since seen clock)/\seen.back?=some e.born/\es.find? (·.born==e.born)=some e/\e.key = .int .i64 n/\e.val = .int .i64 v
def acW(h:ad)(r:Nat)(x:mC)(s:Int):Prop:=∃es clock e,h[r]?=some (.map es clock)/\e∈es.toList/\(e.born:Int)=s/\e.key=nQ (.int .i64) x
structure VG(h:ad)(r:Nat)(m:BC)(x:mC)(z s:Int)(h':ad):Prop where
  to:MapTo (.int .i64) h r (zP (mI m) x (.int .i64 z)) h'
  st:acW h' r x s
structure ags(h:ad)(r:Nat)(m:BC)(h':ad):Prop where
  size:h'.size=h.size+1
  same:∀b,b<h.size->h'[b]?=h[b]?
  at_:Q0 h' h.size r m m
structure agt(h:ad)(b r:Nat)(m left:BC)(e:Int×Int)(h':ad):Prop where
  size:h'.size=h.size
  same:∀b',b'≠b->h'[b']?=h[b']?
  at_:Q0 h' b r m (left.filter λp=>p.1 != e.1)
  cur:agq h' b r e.1 e.2
def wU : LB->UInt8->Int
  | [],_=>-1
  | b::l,c=>if b==c then 0 else if wU l c == -1 then -1 else wU l c+1
def zY(C:Ctx)(f:Fr)(op:Op)(ty:Nat)(k:KT)(h:ad):Prop:=
  match op with
  | .move x| .assign x=>px f x λv=>k v h
  | .pick c a b=>px f c λvc=>Ky vc λt=>bif t then px f a (λv=>k v h)else px f b (λv=>k v h)
  | .alloc e=>uT (C.ti e) (k (Kx h) (uX h (C.ti e).zero e))
  | .box e x=>px f x λv=>k (Kx h) (uX h (mi v) e)
  | .build t parts=>uT (C.ti t) (match (C.ti t).d with
      | .struct fs=>bif vH fs.length parts.toList && (fs.all λx=>(C.ti x.2).ok) && xW (fs.map λx=>(x.1,(C.ti x.2).cells)) 0 (C.ti t).cells then
          kV f parts.toList (C.ti t).zero (fs.map λx=>(x.1,(C.ti x.2).cells)) 0 [] λxs=>k (.agg ⟨tD xs⟩) h else False
      | .arr n e=>uT (C.ti e) (bif vH n parts.toList && Nat.beq (n*(C.ti e).cells) (C.ti t).cells then
          kV f parts.toList (C.ti t).zero (mj (C.ti e).cells n 0) 0 [] λxs=>k (.agg ⟨tD xs⟩) h else False)
      | _=>False)
  | .buildSlice t n parts=>(match (C.ti t).d with
      | .slice e=>uT (C.ti e) (bif vH n parts.toList && Nat.ble (n*(C.ti e).cells) 16777216 then
          kV f parts.toList (aL (C.ti e).zero n) (mj (C.ti e).cells n 0) 0 [] λxs=>k (.slice (some ⟨h.size,0,none⟩) n n) (uX h (tD xs) e)else False)
      | _=>False)
  | .load t x=>px f x λv=>xT v λq=>ae q λp=>uT (C.ti t) (QZ (C.ti t) p h (λu=>k u h))
  | .store t x y=>px f x λv=>xT v λq=>ae q λp=>px f y λu=>uT (C.ti t) (OZ (C.ti t) p u h (λh'=>k undef h'))
  | .nilCheck x=>px f x λv=>(match v with
      | .pointer q=>ae q λp=>k (.pointer (some p)) h
      | .func (.func g) fs cs=>k (.func (.func g) fs cs) h
      | _=>False)
  | .binOp op t x y _=>px f x λu=>px f y λv=>agm (C.ti t) op u v (λr=>k r h)
  | .unOp op _ x=>px f x λu=>unX op u (λr=>k r h)
  | .convert s t x=>px f x λu=>bif BB (C.ti t).d then Fz C (Nat.beq s t) (C.ti s).d (C.ti t).d u h k else Me C (C.ti s).d (C.ti t).d u h k
  | .makeFunc (.func g) fs cs=>CQ f fs.toList [] λa=>CQ f cs.toList [] λb=>(match a with|[]=>k (.func (.func g) #[] ⟨b⟩) h|a=>k (.func (.func g) ⟨a⟩ ⟨b⟩) h)
  | .makeSlice t x y=>px f x λu=>px f y λv=>zX u λ_ l=>zX v λ_ c=>(match (C.ti t).d with
      | .slice e=>uT (C.ti e) (aa3 (C.ti e) e l c h k)
      | _=>False)
  | .slice t x lo hi mx=>px f x λv=>loX f lo λl=>loX f hi λu=>loX f mx λm=>(match (C.ti t).d with
      | .str=>KA .str 1 v l u m (λr=>k r h)
      | d=>uT (C.ti (elemOf C t)) (KA d (C.ti (elemOf C t)).cells v l u m (λr=>k r h)))
  | .fieldAddr t x i=>px f x λv=>xT v λq=>ae q λp=>ae (ET C t i) λo=>bif Nat.beq (C.ti o.2).cells 0 then False else k (.pointer (some (p.add o.1))) h
  | .field t x i=>px f x λv=>QX v λcs=>ae (ET C t i) λo=>uT (C.ti o.2) (match (C.ti o.2).d.ty with
      | .agg=>k (.agg ⟨(cs.drop o.1).take (C.ti o.2).cells⟩) h
      | ty=>VD ty (λu=>cs[o.1]?=some u) (λu=>k u h))
  | .indexAddr t x y=>px f x λu=>px f y λv=>zX v λ_ i=>(match (C.ti t).d,u with
      | .slice e,.slice a l _=>uT (C.ti e) ((0<=i/\i<(l:Int))/\ae a λp=>k (.pointer (some (p.add (scale i.toNat (C.ti e).cells)))) h)
      | .arr n e,.pointer q=>uT (C.ti e) (ae q λp=>(0<=i/\i<(n:Int))/\k (.pointer (some (p.add (scale i.toNat (C.ti e).cells)))) h)
      | _,_=>False)
  | .index t x y=>px f x λu=>px f y λv=>zX v λ_ i=>(match (C.ti t).d,u with
      | .arr n e,.agg cs=>uT (C.ti e) ((0<=i/\i<(n:Int))/\match (C.ti e).d.ty with
          | .agg=>k (.agg ⟨(cs.toList.drop (scale i.toNat (C.ti e).cells)).take (C.ti e).cells⟩) h
          | ty=>VD ty (λr=>cs.toList[scale i.toNat (C.ti e).cells]?=some r) (λr=>k r h))
      | .str,.string s=>(0<=i/\i<(s.size:Int))/\∃b:UInt8,s.toList[i.toNat]?=some b/\k (bv b) h
      | _,_=>False)
  | .extract x i=>px f x λv=>aa1 v λus=>ae us[i]? λu=>k u h
  | .call { callee:=.builtin .len,args,argTypes }=>CQ f args.toList [] λus=>(match us,argTypes.toList with
      | [u],[t]=>(match (C.ti t).d with
          | .map kt _=>xv u λq=>uT (C.ti kt) (u7 (C.ti kt).d q h λm=>k (.int .i64 (m.length:Int)) h)
          | d=>acT d u (λr=>k r h))
      | _,_=>False)
  | .call { callee:=.builtin .cap,args,argTypes }=>CQ f args.toList [] λus=>(match us,argTypes.toList with
      | [u],[t]=>agn (C.ti t).d u (λr=>k r h)
      | _,_=>False)
  | .call { callee:=.builtin .min,args,argTypes:=_ }=>CQ f args.toList [] λus=>(match us with
      | [u,v]=>acU u v (λr=>k r h)
      | _=>False)
  | .call { callee:=.builtin .max,args,argTypes:=_ }=>CQ f args.toList [] λus=>(match us with
      | [u,v]=>acV u v (λr=>k r h)
      | _=>False)
  | .call { callee:=.builtin .append,args,argTypes }=>CQ f args.toList [] λus=>(match us,argTypes.toList with
      | [u,v],[t,t']=>(match (C.ti t).d,(C.ti t').d with
          | .slice e,.slice _| .slice e,.str=>uT (C.ti e) (tQ u λa l c=>Y' (C.ti e) h v λn new=>aJ (C.ti e) e a l c n new h λa' l' c' h'=>k (.slice a' l' c') h')
          | _,_=>False)
      | _,_=>False)
  | .call { callee:=.builtin .copy,args,argTypes }=>CQ f args.toList [] λus=>(match us,argTypes.toList with
      | [u,v],[t,_]=>(match (C.ti t).d with
          | .slice e=>uT (C.ti e) (tQ u λa l _=>xw (C.ti e) a l v h λn h'=>k (.int .i64 (n:Int)) h')
          | _=>False)
      | _,_=>False)
  | .call { callee:=.builtin .clear,args,argTypes }=>CQ f args.toList [] λus=>(match us,argTypes.toList with
      | [u],[t]=>(match (C.ti t).d with
          | .slice e=>uT (C.ti e) (tQ u λa l _=>Fy (C.ti e) a l h λh'=>k (.tuple #[]) h')
          | _=>False)
      | _,_=>False)
  | .call { callee:=.builtin .delete,args,argTypes }=>CQ f args.toList [] λus=>(match us,argTypes.toList with
      | [u,v],t::_=>(match (C.ti t).d with
          | .map kt _=>Mg (C.ti kt).d v λx=>xv u λq=>VF (C.ti kt).d q x h λh'=>k (.tuple #[]) h'
          | _=>False)
      | _,_=>False)
  | .call { callee:=.value (.func g),args,argTypes:=_ }=>CQ f args.toList [] λus=>bif C.nat.any (Nat.beq g)then
      (match us with
        | [u,v]=>IQ u λs=>zX v λkd c=>kd = .u8/\k (.int .i64 (wU s.toList (UInt8.ofNat c.toNat))) h
        | _=>False)
      else qK C.P g us h (Mf (C.sig ty) k)
  | .makeMap _ none=>k (.map (some h.size)) (KC h)
  | .insert t m x y| .mapUpdate t m x y=>px f m λu=>px f x λv=>px f y λz=>(match (C.ti t).d with
      | .map kt _=>Mg (C.ti kt).d v λkey=>xv u λq=>ae q λr=>AA (C.ti kt).d r key z h λh'=>k undef h'
      | _=>False)
  | .lookup t m x ok=>px f m λu=>px f x λv=>(match (C.ti t).d with
      | .map kt et=>uT (C.ti et) (Mg (C.ti kt).d v λkey=>xv u λq=>u7 (C.ti kt).d q h λm=>
          VD (C.ti et).d.ty (λr=>(nD m key).getD (zeroV (C.ti et))=r) λr=>bif ok then k (.tuple #[r,.bool (nD m key).isSome]) h else k r h)
      | _=>False)
  | .mapEntry t m x=>px f m λu=>px f x λv=>(match (C.ti t).d with
      | .map kt et=>uT (C.ti et) (bif pC (C.ti kt).d && pC (C.ti et).d then zeroV (C.ti et) = .int .i64 0/\Mg (C.ti kt).d v λkey=>xv u λq=>ae q λr=>∃mm:BC,nK (.int .i64) h r (mI mm)/\∀(z s:Int) (h':ad),VG h r mm key z s h'->k (.tuple #[.int .i64 z,.int .i64 s]) h' else False)
      | _=>False)
  | .entryStore t m s x=>px f m λu=>px f s λvs=>px f x λvx=>(match (C.ti t).d with
      | .map kt et=>bif pC (C.ti kt).d && pC (C.ti et).d then xv u λq=>ae q λr=>zX vs λ_ sn=>zX vx λkd z=>kd = .i64/\∃(mm:BC) (key:mC),nK (.int .i64) h r (mI mm)/\acW h r key sn/\∀h':ad,MapTo (.int .i64) h r (zP (mI mm) key (.int .i64 z)) h'->k undef h' else False
      | _=>False)
  | .range t x=>px f x λu=>(match (C.ti t).d with
      | .str=>IQ u λs=>k (Kx h) (agp h s)
      | .map kt et=>bif pC (C.ti kt).d && pC (C.ti et).d then xv u λq=>ae q λr=>∃m:BC,nK (.int .i64) h r (mI m)/\∀h',ags h r m h'->k (Kx h) h' else False
      | _=>False)
  | .next x false=>px f x λu=>xT u λq=>ae q λp=>p.off=0/\∃(r:Nat) (m left:BC),Q0 h p.block r m left/\
      (left=[]->k (.tuple #[.bool false]) h)/\
      ∀e∈left,∀h',agt h p.block r m left e h'->k (.tuple #[.bool true,.int .i64 e.1,.int .i64 e.2]) h'
  | .entry x=>px f x λu=>xT u λq=>ae q λp=>p.off=0/\∃(r:Nat) (n v:Int),agq h p.block r n v/\k (.tuple #[.int .i64 n,.int .i64 v]) h
  | .next x true=>px f x λu=>xT u λq=>ae q λp=>p.off=0/\∃(s:ByteArray) (pos:Nat),h[p.block]?=some (.stringIter s pos)/\
      (pos<s.size->∀h',KD h p.block s (pos+(Utf8.decode s pos).2) h'->k (.tuple #[.bool true,.int .i64 (pos:Int),.int .i32 (Utf8.decode s pos).1]) h')/\
      (¬pos<s.size->k (.tuple #[.bool false]) h)
  | .call { callee:=.value (.tmp s),args,argTypes:=_ }=>px f (.tmp s) λv=>CQ f args.toList [] λus=>gJ C.P v us h (Mf (C.sig ty) k)
  | .sliceToArrayPointer t x=>px f x λv=>tQ v λa l _=>(match (C.ti t).d with
      | .arr n _=>n<=l/\k (.pointer a) h
      | _=>False)
  | _=>False
def mf(f:Fr)(dst:Option Nat)(v:Value):Fr:=
  match dst with
  | some d=>(d,v)::f
  | none=>f
def guards(full:List Oper)(o:Oper):Bool:=
  match o.op,o.dst with
  | .move _,some d=>full.any λo'=>match o'.guard with
      | some (j,_)=>(match full[j]? with|some oj=>(match oj.dst with|some e=>Nat.beq e d|none=>false)|none=>false)
      | none=>false
  | _,_=>false
def xX(b:Bool)(v:Value)(k:Value->Prop):Prop:=
  bif b then(match v with
    | .bool t=>bif t then k (.bool true)else k (.bool false)
    | v=>k v)else k v
def FA(full:List Oper)(f:Fr)(g:Option (Nat×Bool))(k:Bool->Prop):Prop:=
  match g with
  | none=>k true
  | some (j,want)=>ae (full[j]?) λoj=>ae oj.dst λd=>ae (Fr.get f d) λv=>(match v with
      | .bool b=>k (b==want)
      | .tuple _=>k false
      | _=>False)
def CW(f:Fr)(c:Call)(k:Value->Prop):Prop:=
  match c with
  | { callee:=.value x,args,argTypes:=_ }=>px f x λv=>(match v with
      | .func (.func g) fs cs=>CQ f args.toList [] λus=>k (.tuple ⟨.func (.func g) fs cs::us⟩)
      | _=>False)
  | _=>False
def iX : Op->Bool
  | .defer _=>true
  | _=>false
def FB : Op->Call
  | .defer c=>c
  | _=>default
def Mi(C:Ctx)(full:List Oper):List Oper->(Fr->ad->Prop)->Fr->ad->Prop
  | [],N,f,h=>N f h
  | o::rest,N,f,h=>FA full f o.guard λw=>
      bif w then bif iX o.op then CW f (FB o.op) λd=>Mi C full rest N (mf ((iL,d)::f) o.dst undef) h
        else zY C f o.op o.type (λv h'=>xX (guards full o) v λv=>Mi C full rest N (mf f o.dst v) h') h
      else Mi C full rest N (mf f o.dst undef) h
def isP(C:Ctx)(o:Oper):Bool:=
  match o.op with
  | .call { callee:=.value (.func g),args:=_,argTypes:=_ }=>C.OI.any (Nat.beq g)
  | .panic _=>true
  | _=>false
def Q1(C:Ctx)(f:Fr)(op:Op)(ty:Nat)(k:KT)(X:KT)(h:ad):Prop:=
  match op with
  | .call { callee:=.value (.func g),args,argTypes:=_ }=>CQ f args.toList [] λus=>acR C.P g us h (Mf (C.sig ty) k) X
  | .panic x=>px f x λv=>(match v with| .iface T u=>X (.iface T u) h|_=>False)
  | _=>False
def H8(C:Ctx)(full:List Oper)(X:Value->Fr->ad->Prop):List Oper->(Fr->ad->Prop)->Fr->ad->Prop
  | [],N,f,h=>N f h
  | o::rest,N,f,h=>FA full f o.guard λw=>
      bif w then bif isP C o then Q1 C f o.op o.type (λv h'=>H8 C full X rest N (mf f o.dst v) h') (λv h'=>X v f h') h
        else bif iX o.op then CW f (FB o.op) λd=>H8 C full X rest N (mf ((iL,d)::f) o.dst undef) h
        else zY C f o.op o.type (λv h'=>xX (guards full o) v λv=>H8 C full X rest N (mf f o.dst v) h') h
      else H8 C full X rest N (mf f o.dst undef) h
def KE(C:Ctx)(f:Fr)(h:ad)(o:Oper):Prop:=
  match o.dst with
  | none=>False
  | some d=>ae (Fr.get f d) λv=>
    match o.op with
    | .load t x=>px f x λu=>xT u λq=>ae q λp=>uT (C.ti t) (match (C.ti t).d.ty with
        | .agg=>QX v λcs=>cs.length=(C.ti t).cells/\ai h p cs
        | _=>cellOf h p=some v)
    | .convert s t x=>(match (C.ti s).d,(C.ti t).d with
        | .slice e,.str=>bif zO (C.ti e).d then px f x λu=>tQ u λa l _=>IQ v λb=>av h a l b.toList else False
        | _,_=>False)
    | _=>False
def CX(C:Ctx)(full:List Oper)(f:Fr)(h:ad):List Nat->Prop->Prop
  | [],K=>K
  | j::r,K=>ae (full[j]?) λo=>FA full f o.guard λw=>bif w then KE C f h o/\CX C full f h r K else CX C full f h r K
def doX(C:Ctx)(full:List Oper)(i:Nat)(st:List Nat)(K:Fr->ad->Prop)(f:Fr)(h:ad):=
  ae (full[i]?) λo=>FA full f o.guard λw=>
      bif w then zY C f o.op o.type (λv h'=>CX C full f h' st (xX (guards full o) v λv=>K (mf f o.dst v) h')) h
      else K (mf f o.dst undef) h
def CY(C:Ctx)(full:List Oper):Od->(Fr->ad->Prop)->Fr->ad->Prop
  | .nil,N,f,h=>N f h
  | .op i st r,N,f,h=>doX C full i st (λf h=>CY C full r N f h) f h
  | .alt i st r o,N,f,h=>doX C full i st (λf h=>CY C full r N f h) f h/\CY C full o N f h
structure Ks where
  exit:Nat->Fr->ad->Prop
  ret:Fr->ad->Prop
  OI:Value->Fr->ad->Prop:=λ_ _ _=>False
def sU : List (Nat×Ty)->Type->Type
  | [],R=>R
  | (_,.int _)::r,R=>Int->sU r R
  | (_,.bool)::r,R=>Bool->sU r R
  | (_,.str)::r,R=>ByteArray->sU r R
  | (_,.ptr)::r,R=>OA->sU r R
  | (_,.slice)::r,R=>OA->Nat->Nat->sU r R
  | (_,.agg)::r,R=>LV->sU r R
  | (_,.any)::r,R=>Value->sU r R
  | (_,.map)::r,R=>Option Nat->sU r R
  | (_,.clo)::r,R=>Value->sU r R
def FC{R S:Type}:(l:List (Nat×Ty))->sU l R->sU l S->Fr->(R->S->Fr->Prop)->Prop
  | [],i,m,f,K=>K i m f
  | (t,.int k)::r,i,m,f,K=>∀n:Int,FC r (i n) (m n) ((t,.int k n)::f) K
  | (t,.bool)::r,i,m,f,K=>∀b:Bool,FC r (i b) (m b) ((t,.bool b)::f) K
  | (t,.str)::r,i,m,f,K=>∀s:ByteArray,FC r (i s) (m s) ((t,.string s)::f) K
  | (t,.ptr)::r,i,m,f,K=>∀q:OA,FC r (i q) (m q) ((t,.pointer q)::f) K
  | (t,.slice)::r,i,m,f,K=>∀(a:OA) (l c:Nat),FC r (i a l c) (m a l c) ((t,.slice a l c)::f) K
  | (t,.agg)::r,i,m,f,K=>∀cs:LV,FC r (i cs) (m cs) ((t,.agg ⟨cs⟩)::f) K
  | (t,.any)::r,i,m,f,K=>∀v:Value,FC r (i v) (m v) ((t,v)::f) K
  | (t,.map)::r,i,m,f,K=>∀q:Option Nat,FC r (i q) (m q) ((t,.map q)::f) K
  | (t,.clo)::r,i,m,f,K=>∀v:Value,FC r (i v) (m v) ((t,v)::f) K
def Tl{R S:Type}:(l:List (Nat×Ty))->sU l R->sU l S->Fr->(R->S->Prop)->Prop
  | [],i,m,_,K=>K i m
  | (t,.int k)::r,i,m,f,K=>ae (Fr.get f t) λv=>zX v λk' n=>bif nC k k' then Tl r (i n) (m n) f K else False
  | (t,.bool)::r,i,m,f,K=>ae (Fr.get f t) λv=>Ky v λb=>Tl r (i b) (m b) f K
  | (t,.str)::r,i,m,f,K=>ae (Fr.get f t) λv=>IQ v λs=>Tl r (i s) (m s) f K
  | (t,.ptr)::r,i,m,f,K=>ae (Fr.get f t) λv=>xT v λq=>Tl r (i q) (m q) f K
  | (t,.slice)::r,i,m,f,K=>ae (Fr.get f t) λv=>tQ v λa l c=>Tl r (i a l c) (m a l c) f K
  | (t,.agg)::r,i,m,f,K=>ae (Fr.get f t) λv=>QX v λcs=>Tl r (i cs) (m cs) f K
  | (t,.any)::r,i,m,f,K=>ae (Fr.get f t) λv=>Tl r (i v) (m v) f K
  | (t,.map)::r,i,m,f,K=>ae (Fr.get f t) λv=>xv v λq=>Tl r (i q) (m q) f K
  | (t,.clo)::r,i,m,f,K=>ae (Fr.get f t) λv=>Tl r (i v) (m v) f K
def xz(f:Fr):List Nat->Fr
  | []=>[]
  | t::r=>match Fr.get f t with
    | some v=>(t,v)::xz f r
    | none=>xz f r
def uq : Code->Option Nat
  | .region id _ _=>some id
  | .seq a b=>(match uq a with|some i=>some i|none=>uq b)
  | .cond _ a b=>(match uq a with|some i=>some i|none=>uq b)
  | .block _ a| .loop a| .scope a=>uq a
  | _=>none
def AB(c:Code):Nat:=(uq c).getD 0
def VH(assign body:Code):Nat:=(uq (.seq assign body)).getD 0+1000000
def tR : Code->List Nat
  | .exit i=>[i]
  | .seq a b=>tR a++(tR b).filter λi=>!((tR a).any (Nat.beq i))
  | .cond _ a b=>tR a++(tR b).filter λi=>!((tR a).any (Nat.beq i))
  | .block id a=>(tR a).filter λi=>!(Nat.beq i id)
  | .loop a| .scope a=>tR a
  | _=>[]
def xY : Code->Bool
  | .ret=>true
  | .seq a b=>xY a || xY b
  | .cond _ a b=>xY a || xY b
  | .block _ a| .loop a| .scope a=>xY a
  | _=>false
def CZ : List (Nat×Ty)->Fr->LV->(Fr->LV->Prop)->Prop
  | [],f,acc,K=>K f acc
  | (t,.int k)::r,f,acc,K=>∀n:Int,CZ r ((t,.int k n)::f) (acc++[.int k n]) K
  | (t,.bool)::r,f,acc,K=>∀b:Bool,CZ r ((t,.bool b)::f) (acc++[.bool b]) K
  | (t,.str)::r,f,acc,K=>∀s:ByteArray,CZ r ((t,.string s)::f) (acc++[.string s]) K
  | (t,.ptr)::r,f,acc,K=>∀q:OA,CZ r ((t,.pointer q)::f) (acc++[.pointer q]) K
  | (t,.slice)::r,f,acc,K=>∀(a:OA) (l c:Nat),CZ r ((t,.slice a l c)::f) (acc++[.slice a l c]) K
  | (t,.agg)::r,f,acc,K=>∀cs:LV,CZ r ((t,.agg ⟨cs⟩)::f) (acc++[.agg ⟨cs⟩]) K
  | (t,.any)::r,f,acc,K=>∀v:Value,CZ r ((t,v)::f) (acc++[v]) K
  | (t,.map)::r,f,acc,K=>∀q:Option Nat,CZ r ((t,.map q)::f) (acc++[.map q]) K
  | (t,.clo)::r,f,acc,K=>∀v:Value,CZ r ((t,v)::f) (acc++[v]) K
def Q2(C:Ctx):Code->Ks->(Fr->ad->Prop)->Fr->ad->Prop
  | .skip,_,N,f,h=>N f h
  | .seq a b,Q,N,f,h=>Q2 C a Q (λf h=>Q2 C b Q N f h) f h
  | .cond c a b,Q,N,f,h=>px f c λv=>Ky v λt=>bif t then Q2 C a Q N f h else Q2 C b Q N f h
  | .block id a,Q,N,f,h=>Q2 C a { exit:=λi f h=>bif Nat.beq i id then N f h else Q.exit i f h,ret:=Q.ret,OI:=Q.OI } N f h
  | .exit id,Q,_,f,h=>Q.exit id f h
  | .ret,Q,_,f,h=>Q.ret f h
  | .scope a,Q,N,f,h=>Q2 C a Q N f h
  | .label _,_,N,f,h=>N f h
  | .region id ops draw,Q,N,f,h=>bif draw then CY C ops.toList (C.vF id) N f h else bif ops.toList.any (isP C)then H8 C ops.toList Q.OI ops.toList N f h else Mi C ops.toList ops.toList N f h
  | .loop body,Q,_,f,h=>
    let hint:=C.loops (AB body)
    ∃(I:sU hint.2 (HP)) (μ:sU hint.2 (ad->Nat)),
      Tl hint.2 I μ f (λi _=>i h)/\
      FC hint.2 I μ (Bw (wS f) (xz f hint.1)) λi m f'=>∀h',i h'->
        Q2 C body Q (λf2 h2=>Tl hint.2 I μ f2 λi2 m2=>i2 h2/\m2 h2<m h') f' h'
  | .rangeFunc g _ assign body,Q,N,f,h=>px f g λv=>∀R:Loop,
      (CZ (C.loops (VH assign body)).2 (QV f) [] λf' args=>∀(h3:ad) (k:KT),
        bO h3 (h.size+1) R .ready none->
        Q2 C assign { exit:=λ_ _ _=>False,ret:=λ_ _=>False }
          (λf2 h4=>bO h4 (h.size+1) R .ready none/\
            Q2 C body { exit:=λi _ h5=>bO h5 (h.size+1) R .busy none/\k (.bool false) (dz h5 (h.size+1) R .done (some (.exit i))),
                         ret:=λ_ h5=>bO h5 (h.size+1) R .busy none/\k (.bool false) (dz h5 (h.size+1) R .done (some .ret)) }
              (λ_ h5=>bO h5 (h.size+1) R .busy none/\k (.bool true) (dz h5 (h.size+1) R .ready none)) f2 (dz h4 (h.size+1) R .busy none)) f' h3->
        rQ C.P (h.size+1) args h3 k)->
      za C.P v [.func (.yield (h.size+1)) #[] #[]] (dw h R) λ_ h6=>∃(st:LoopState) (p:Option Code),bO h6 (h.size+1) R st p/\st≠.busy/\
        xU p (N ((iL,.pointer (some ⟨h.size,0,none⟩))::f) (dz h6 (h.size+1) R .exhausted p))
          (bif xY body then Q.ret ((iL,.pointer (some ⟨h.size,0,none⟩))::f) (dz h6 (h.size+1) R .exhausted p)else False)
          (λi=>exX (tR body) i λj=>Q.exit j ((iL,.pointer (some ⟨h.size,0,none⟩))::f) (dz h6 (h.size+1) R .exhausted p))
  | _,_,_,_,_=>False
def Tr(C:Ctx)(rs:List ResultVar)(f:Fr)(h:ad)(acc:LV)(k:LV->Prop):Prop:=
  match rs with
  | []=>k acc
  | .tmp t::r=>ae (Fr.get f t) λv=>Tr C r f h (acc++[v]) k
  | .cell t ty::r=>ae (Fr.get f t) λv=>xT v λq=>ae q λp=>uT (C.ti ty) (QZ (C.ti ty) p h λu=>Tr C r f h (acc++[u]) k)
def acY(vs:LV):Value:=
  match vs with
  | [v]=>v
  | vs=>.tuple ⟨vs⟩
def DO : LV->Nat->Fr
  | [],_=>[]
  | v::r,i=>(i,v)::DO r (i+1)
def xZ(C:Ctx)(rs:List ResultVar)(f:Fr)(k:KT):LV->ad->Prop
  | [],h=>Tr C rs f h [] λvs=>k (acY vs) h
  | .pointer (some a)::ds,h=>h[a.block]?=some (.deferred (some []))/\xZ C rs f k ds (Tj h a.block)
  | .tuple ⟨v::us⟩::ds,h=>QY C.P v us h λh'=>xZ C rs f k ds h'
  | _,_=>False
def fnX(C:Ctx)(fn:Func)(c:Code)(args:LV)(k:KT)(h:ad):Prop:=
  Q2 C c { exit:=λ_ _ _=>False,ret:=λf h=>xZ C fn.results.toList f k (wS f) h }
    (λf h=>xZ C fn.results.toList f k (wS f) h) (DO args 0) h
def ar : TypeDesc->D
  | .bool=>.bool| .int k=>.int k| .string=>.str| .pointer e=>.ptr e| .slice e=>.slice e| .array n e=>.arr n e
  | .struct fs=>.struct (fs.toList.map λf=>(f.offset,f.type))| .func _ _ _=>.fn| .map k e=>.map k e|_=>.other
def KF(i:TypeInfo):Nat×Nat×Option LV:=(i.size,i.bytes,i.zero.map mi)
def wV(g:Nat->Option (List D)):List Field->Nat->Option (List D)
  | [],_=>some []
  | fd :: r, off => bif fd.name == "_" then none else bif Nat.beq fd.offset off then (match g fd.type with
      | some ks=>(wV g r (off+ks.length)).map (ks ++ ·)
      | none=>none)else none
def Q3(P:Program)(g:Nat->Option (List D))(t:Nat):Option (List D):=
  match P.underlying t with
  | some (.int k)=>some [D.int k]
  | some .string=>some [D.str]
  | some .bool=>some [D.bool]
  | some (.struct fs)=>bif P.stoodInHeld t then none else wV g fs.toList 0
  | some (.array n e)=>(g e).map λks=>(List.replicate n ks).flatten
  | _=>none
def VI(P:Program)(t:Nat):Option (List D)->Option (List D)
  | some ks=>bif(match P.info? t with|some i=>Nat.beq i.size ks.length|none=>false)then some ks else none
  | none=>none
def flatK(P:Program):Nat->Nat->Option (List D)
  | 0,_=>none
  | f+1,t=>VI P t (Q3 P (flatK P f) t)
def aa6 : D->D->Bool
  | .int a,.int b=>nC a b
  | .str,.str=>true
  | .bool,.bool=>true
  | _,_=>false
def C0 : List D->List D->Bool
  | [],[]=>true
  | a::r,b::s=>aa6 a b && C0 r s
  | _,_=>false
def VJ(P:Program)(t:Nat)(ks:List D):Bool:=
  match ks with
  | []=>true
  | ks=>(match flatK P 6 t with|some l=>C0 ks l && !(P.eqGuardType P.depth t) && (match P.underlying t with|some (.struct _)=>true|some (.array _ _)=>true|_=>false)|none=>false)
def VK : Value->Bool
  | .agg _=>true
  | _=>false
def EV : Ty->Bool
  | .agg=>true
  | _=>false
structure dy(P:Program)(t:Nat)(x:TI):Prop where
  eqs:VJ P t x.eq=true
  zag:((P.info? t).bind (·.zero)).map VK=some (EV x.d.ty)
  info:(P.info? t).map KF=some (x.cells,x.bytes,some x.zero)
  desc:(P.underlying t).map ar=some x.d
  len:x.zero.length=x.cells
theorem tk{P:Program}{x:TI}(a:VJ P t x.eq=true:=by kernel_rfl)(b:((P.info? t).bind (·.zero)).map VK=some (EV x.d.ty):=by kernel_rfl)(c:(P.info? t).map KF=some (x.cells,x.bytes,some x.zero):=by kernel_rfl)(d:(P.underlying t).map ar=some x.d:=by kernel_rfl)(e:x.zero.length=x.cells:=by kernel_rfl):dy P t x:=⟨a,b,c,d,e⟩
def Q4(P:Program)(g:Nat):Prop:=∀(s:ByteArray) (c:Int) (w:World),(callFunc g #[.string s,.int .u8 c]).run P w = .ok (.value (.int .i64 (wU s.toList (UInt8.ofNat c.toNat)))) w
structure mo(C:Ctx):Prop where
  nat:∀g∈C.nat,Q4 C.P g
  ti:∀t,C.ti t=Y8∨dy C.P t (C.ti t)
  mixed:C.P.follows .mixedOrders=true
theorem Q5{P:Program}:∀(l:List (Nat×TI)),(∀x∈l,dy P x.1 x.2)->∀t,VC l t=Y8∨dy P t (VC l t)
  | [],_,t=>.inl rfl
  | (i,x)::r,h,t=>by
    unfold VC
    cases hb:Nat.beq i t with
    | true=>
      have e:i=t:=xP hb;subst e;exact .inr (h (i,x) (by simp))
    | false=>exact Q5 r (λy hy=>h y (by simp[hy])) t
theorem mo.ok{C:Ctx}(hC:mo C){t:Nat}(h:(C.ti t).ok=true):dy C.P t (C.ti t):=by
  rcases hC.ti t with e|e
  · rw[e]at h;simp[Y8]at h
  · exact e
theorem mo.uT{C:Ctx}(hC:mo C){t:Nat}{p:Prop}(h:uT (C.ti t) p):dy C.P t (C.ti t)/\p:=by
  unfold Wx.uT at h
  cases e:(C.ti t).ok with
  | true=>rw[e]at h;exact⟨hC.ok e,h⟩
  | false=>rw[e]at h;exact h.elim
theorem mo.FE{C:Ctx}(hC:mo C){t:Nat}(h:(C.ti t).d ≠ .other):dy C.P t (C.ti t):=by
  rcases hC.ti t with e|e
  · rw[e]at h;exact(h rfl).elim
  · exact e
theorem dy.get{P:Program}{x:TI}(h:dy P t x) :
    ∃i d z,P.info? t=some i/\P.underlying t=some d/\ar d=x.d/\i.size=x.cells/\i.bytes=x.bytes/\i.zero=some z/\mi z=x.zero:=by
  obtain⟨_,_,h1,h2,_⟩:=h
  cases hi:P.info? t with
  | none=>simp[hi]at h1
  | some i=>
    cases hd:P.underlying t with
    | none=>simp[hd]at h2
    | some d=>
      simp only[hi,hd,OW,Option.some.injEq,KF,Prod.mk.injEq]at h1 h2;obtain⟨h1a,h1b,h1c⟩:=h1
      cases hz:i.zero with
      | none=>simp[hz]at h1c
      | some z=>
        simp[hz]at h1c;exact⟨i,d,z,rfl,rfl,h2,h1a,h1b,hz,h1c⟩
theorem ko(v:Value):mi v=v.cells.toList:=by cases v <;> simp[mi,Value.cells]
theorem sM(w:World)(a:Addr):w.cell? a=cellOf w.heap a:=rfl
theorem Tu(w:World)(a:Addr):w.frozen? a=uo w.heap a:=rfl
theorem KG(w:World)(a:Addr)(v:Value):(w.setCell a v).heap=setOf w.heap a v:=rfl
theorem bh.refl(w:World):bh w w:=⟨rfl,rfl,rfl⟩
theorem bh.trans{a b c:World}(h:bh a b)(k:bh b c):bh a c:=⟨k.1.trans h.1,k.2.1.trans h.2.1,k.2.2.trans h.2.2⟩
def To{α:Type}(P:Program)(s:Sem α)(w:World)(k:α->ad->Prop):Prop:=
  ∃v w',s.run P w = .ok v w'/\bh w w'/\k v w'.heap
theorem To.mono{α:Type}{P:Program}{s:Sem α}{k k':α->ad->Prop}(h:To P s w k)(hk:∀ v h,k v h->k' v h):To P s w k':=
  let ⟨v,w',a,b,c⟩:=h;⟨v,w',a,b,hk _ _ c⟩
theorem jz{P:Program}{i:TypeInfo}(h:P.info? t=some i)(w:World):(typeInfo t).run P w = .ok i w:=by
  simp[typeInfo,h]
theorem cy{P:Program}{i:TypeInfo}(h:P.info? t=some i)(w:World):(sizeOf t).run P w = .ok i.size w:=by
  simp[sizeOf,jz h]
def jN : D->Bool
  | .arr _ _=>true
  | .struct _=>true
  | _=>false
theorem qL{P:Program}{d:TypeDesc}(h:P.underlying t=some d)(w:World) :
    (isAgg t).run P w = .ok (jN (ar d)) w:=by
  unfold isAgg;rw[Sem.run_bind,run_underlying h w]
  cases d <;> simp[ar,jN]
theorem nR{ty:Ty}{C K:Value->Prop}(h:VD ty C K):∃v,C v/\K v:=by
  cases ty <;> simp only[VD]at h <;> (first|(obtain⟨a,l,c,h1,h2⟩:=h;exact⟨_,h1,h2⟩)|(obtain⟨a,h1,h2⟩:=h;exact⟨_,h1,h2⟩))
theorem FF{P:Program}{x:TI}(hx:dy P t x){p:Addr}{w:World}{k:Value->Prop}(h:QZ x p w.heap k) :
    ∃v,(loadVar t p).run P w = .ok v w/\k v:=by
  obtain⟨i,d,z,hi,hd,AD,lV,_,_,_⟩:=hx.get;unfold QZ at h;unfold loadVar;have xA:=qL hd w
  cases hq:ar d with
  | arr n e=>
    rw[<-AD,hq]at h;simp only[D.ty]at h;rw[hq]at xA;simp only[jN]at xA;obtain⟨cs,hl,hc,hk⟩:=h;have Za:=run_loadCells_list (P:=P) w p cs (λj v hv=>hc j v hv);refine⟨.agg ⟨cs⟩,?_,hk⟩;simp only[Sem.run_bind,xA,Result.andThen_ok,if_true,cy hi,lV,<-hl,Za,Sem.run_pure]
  | struct fs=>
    rw[<-AD,hq]at h;simp only[D.ty]at h;rw[hq]at xA;simp only[jN]at xA;obtain⟨cs,hl,hc,hk⟩:=h;have Za:=run_loadCells_list (P:=P) w p cs (λj v hv=>hc j v hv);refine⟨.agg ⟨cs⟩,?_,hk⟩;simp only[Sem.run_bind,xA,Result.andThen_ok,if_true,cy hi,lV,<-hl,Za,Sem.run_pure]
  | bool=>rw[<-AD,hq]at h;simp only[D.ty]at h;rw[hq]at xA;simp only[jN]at xA;obtain⟨v,hc,hk⟩:=nR h;exact⟨v,by simp[Sem.run_bind,xA,sM,hc],hk⟩
  | int kd=>rw[<-AD,hq]at h;simp only[D.ty]at h;rw[hq]at xA;simp only[jN]at xA;obtain⟨v,hc,hk⟩:=nR h;exact⟨v,by simp[Sem.run_bind,xA,sM,hc],hk⟩
  | str=>rw[<-AD,hq]at h;simp only[D.ty]at h;rw[hq]at xA;simp only[jN]at xA;obtain⟨v,hc,hk⟩:=nR h;exact⟨v,by simp[Sem.run_bind,xA,sM,hc],hk⟩
  | ptr e=>rw[<-AD,hq]at h;simp only[D.ty]at h;rw[hq]at xA;simp only[jN]at xA;obtain⟨v,hc,hk⟩:=nR h;exact⟨v,by simp[Sem.run_bind,xA,sM,hc],hk⟩
  | slice e=>rw[<-AD,hq]at h;simp only[D.ty]at h;rw[hq]at xA;simp only[jN]at xA;obtain⟨v,hc,hk⟩:=nR h;exact⟨v,by simp[Sem.run_bind,xA,sM,hc],hk⟩
  | fn=>rw[<-AD,hq]at h;simp only[D.ty]at h;rw[hq]at xA;simp only[jN]at xA;obtain⟨v,hc,hk⟩:=nR h;exact⟨v,by simp[Sem.run_bind,xA,sM,hc],hk⟩
  | map k e=>rw[<-AD,hq]at h;simp only[D.ty]at h;rw[hq]at xA;simp only[jN]at xA;obtain⟨v,hc,hk⟩:=nR h;exact⟨v,by simp[Sem.run_bind,xA,sM,hc],hk⟩
  | other=>rw[<-AD,hq]at h;simp only[D.ty]at h;rw[hq]at xA;simp only[jN]at xA;obtain⟨v,hc,hk⟩:=nR h;exact⟨v,by simp[Sem.run_bind,xA,sM,hc],hk⟩
theorem KH(h:ad)(a b:Addr)(v:Value):(∃u,cellOf h b=some u)->∃u,cellOf (setOf h a v) b=some u:=by
  rintro⟨u,hu⟩;unfold cellOf setOf at *;simp only[Vz]
  by_cases e:a.block=b.block
  · rw[e];simp only[if_true]
    cases hb:h[b.block]? with
    | none=>rw[hb]at hu;simp at hu
    | some o=>
      rw[hb]at hu
      cases o with
      | cells c t fr=>
        simp only at hu;simp only[OW]
        cases hs:b.spot with
        | some q=>simp[hs]at hu
        | none=>
          simp[hs]at hu ⊢
          have bV:b.off<c.size:=by
            rcases rI b.off c.size with h1|h1
            · exact h1
            · simp[lw4 h1]at hu
          by_cases hsp:a.spot.isSome=true
          · simp[hsp,bV]
          · simp only[hsp]
            simp[bV]
      | _=>simp at hu
  · simp only[if_neg e];exact⟨u,hu⟩
theorem FG(h:ad)(a b:Addr)(v:Value):uo (setOf h a v) b=uo h b:=by
  unfold uo setOf;simp only[Vz]
  by_cases e:a.block=b.block
  · rw[e];simp only[if_true]
    cases hb:h[b.block]? with
    | none=>simp
    | some o=>cases o <;> simp
  · simp only[if_neg e]
theorem Wr.set{h:ad}{a b:Addr}(v:Value)(hw:Wr h b):Wr (setOf h a v) b:=⟨KH h a b v hw.1,by rw[FG];exact hw.2⟩
theorem VL{P:Program}{a:Addr}{v:Value}(hv:v.oneCell'=true)(hw:Wr w.heap a):(store a v).run P w = .ok () (w.setCell a v):=by
  obtain⟨⟨u,hu⟩,hf⟩:=hw;rw[run_store P w a v .plain hv,sM,hu];simp[Tu,hf]
def VM(w:World)(h:ad):World:={ w with heap:=h }
theorem zc(w:World)(h:ad):bh w (VM w h):=⟨rfl,rfl,rfl⟩
theorem pD{P:Program}(a:Addr):∀(cs:LV) (i:Nat) (w:World),(∀v∈cs,v.oneCell'=true)->(∀j,j<cs.length->Wr w.heap (a.add (i+j)))->
    (storeCells a cs i).run P w = .ok () (VM w (setRow w.heap a cs i))
  | [],i,w,_,_=>rfl
  | v::r,i,w,h1,h2=>by
    have hs:=VL (P:=P) (w:=w) (a:=a.add i) (h1 v (by simp)) (by simpa using h2 0 (by simp));have ih:=pD (P:=P) a r (i+1) (w.setCell (a.add i) v) (λx hx=>h1 x (by simp[hx]))
      (λj hj=>by
        rw[KG];have:=h2 (j+1) (by simp;omega);rw[show i+1+j=i+(j+1) by omega]
        exact this.set v)
    simp only[storeCells,Sem.run_bind,hs,Result.andThen_ok,ih];rfl
theorem Mj{P:Program}{x:TI}(hx:dy P t x){p:Addr}{v:Value}{w:World}{k:HP}(h:OZ x p v w.heap k) :
    ∃w',(storeVar t p v).run P w = .ok () w'/\bh w w'/\k w'.heap:=by
  obtain⟨i,d,z,hi,hd,AD,lV,_,_,_⟩:=hx.get
  have one:∀u:Value,u.oneCell'=true->u.cells = #[u]->Nat.beq x.cells 1=true->Wr w.heap p->k (setOf w.heap p u)->
      ∃w',(storeVar t p u).run P w = .ok () w'/\bh w w'/\k w'.heap:=by
    intro u hu H9 hb hw hk;have Zb:x.cells=1:=xP hb
    have hs:=pD (P:=P) p [u] 0 w (by simpa using hu) (λj hj=>by
      have:j=0:=by simpa using hj
      subst this;simpa[Addr.add]using hw)
    refine⟨VM w (setRow w.heap p [u] 0),?_,zc w _,?_⟩
    · simp only[storeVar,Sem.run_bind,cy hi,Result.andThen_ok,H9,lV,Zb]
      simp only[List.size_toArray,pA,List.length_nil];simpa using hs
    · simpa[setRow,VM,Addr.add]using hk
  cases v with
  | agg a=>
    obtain⟨⟨h1,h2,h3⟩,hk⟩:=h
    have hs:=pD (P:=P) p a.toList 0 w h2 (λj hj=>by
      rw[wR];exact h3 j oX)
    refine⟨VM w (setRow w.heap p a.toList 0),?_,zc w _,?_⟩
    · simp only[storeVar,Sem.run_bind,cy hi,Result.andThen_ok,Value.cells,lV]
      have e:a.size=x.cells:=(by simpa using h1);simp only[e];simpa using hs
    · exact hk
  | tuple a=>exact h.elim
  | _=>
    simp only[OZ]at h
    cases hb:Nat.beq x.cells 1 with
    | false=>rw[hb]at h;exact h.elim
    | true=>rw[hb]at h;exact one _ rfl rfl hb h.1 h.2
def Qt{α:Type}(P:Program)(s:Sem α)(k:α->Prop):Prop:=∃v,(∀w:World,s.run P w = .ok v w)/\k v
theorem oO{a b:IntKind}(h:nC a b=true):a=b:=by cases a <;> cases b <;> first|rfl|(simp[nC]at h)
theorem Q6{P:Program}{op:BinOp}{kd:IntKind}{a b:Int}{k:Value->Prop}(hs:u6 op=false)(h:Md op kd a b k) :
    Qt P (binOp op t (.int kd a) (.int kd b)) k:=by
  cases op with
  | shl=>simp[u6]at hs
  | shr=>simp[u6]at hs
  | add=>exact⟨_,by simp[Op.intArith,binOp],h⟩
  | sub=>exact⟨_,by simp[Op.intArith,binOp],h⟩
  | mul=>exact⟨_,by simp[Op.intArith,binOp],h⟩
  | quo=>
    by_cases hb:b=0
    · simp[Md,hb]at h
    · simp only[Md,if_neg hb]at h
      exact⟨_,by simp[Op.intDiv,binOp,hb],h⟩
  | rem=>
    by_cases hb:b=0
    · simp[Md,hb]at h
    · simp only[Md,if_neg hb]at h
      exact⟨_,by simp[Op.intDiv,binOp,hb],h⟩
  | eql=>exact⟨_,by simp[Op.intCmp,binOp],h⟩
  | neq=>exact⟨_,by simp[Op.intCmp,binOp],h⟩
  | lss=>exact⟨_,by simp[Op.intCmp,binOp],h⟩
  | leq=>exact⟨_,by simp[Op.intCmp,binOp],h⟩
  | gtr=>exact⟨_,λw=>by simp only[Op.intCmp,binOp];simp,h⟩
  | geq=>exact⟨_,λw=>by simp only[Op.intCmp,binOp];simp,h⟩
  | and=>exact⟨_,by simp[Op.intBits,binOp,bP],h⟩
  | or=>exact⟨_,by simp[Op.intBits,binOp,bP],h⟩
  | xor=>exact⟨_,by simp[Op.intBits,binOp,bP],h⟩
  | andNot=>exact⟨_,by simp[Op.intBits,binOp,bP],h⟩
theorem IV{P:Program}{op:BinOp}{kd Kz:IntKind}{a b:Int}{k:Value->Prop}(h:xV op kd a b k) :
    Qt P (binOp op t (.int kd a) (.int Kz b)) k:=by
  cases op with
  | shl=>
    by_cases hb:b<0
    · simp[xV,hb]at h
    · simp only[xV,if_neg hb]at h
      exact⟨_,λw=>by simp only[binOp,Op.shift];rw[if_neg hb];rfl,h⟩
  | shr=>
    by_cases hb:b<0
    · simp[xV,hb]at h
    · simp only[xV,if_neg hb]at h
      exact⟨_,λw=>by simp only[binOp,Op.shift];rw[if_neg hb];rfl,h⟩
  | _=>exact h.elim
theorem Q7{P:Program}{op:BinOp}{a b:ByteArray}{k:Value->Prop}(h:acS op a b k) :
    Qt P (binOp op t (.string a) (.string b)) k:=by
  cases op with
  | add=>
    obtain⟨h1,h2⟩:=h;refine⟨_,λw=>?_,h2⟩;have e:IntKind.max .i64=9223372036854775807:=(by decide);simp only[binOp,Op.stringOp];rw[if_neg (by rw[e];omega)];rfl
  | eql=>exact⟨_,by simp[Op.stringOp,binOp],h⟩
  | neq=>exact⟨_,by simp[Op.stringOp,binOp],h⟩
  | lss=>exact⟨_,by simp[Op.stringOp,binOp],h⟩
  | leq=>exact⟨_,by simp[Op.stringOp,binOp],h⟩
  | gtr=>exact⟨_,λw=>by simp only[Op.stringOp,binOp];rfl,h⟩
  | geq=>exact⟨_,λw=>by simp only[Op.stringOp,binOp];rfl,h⟩
  | _=>exact h.elim
theorem DP{P:Program}{op:BinOp}{b:Bool}{k:Value->Prop}(h:eqB op b k)
    (he:∀w:World,(Op.equal t x y).run P w = .ok b w) (h1:binOp .eql t x y=(do Pure.pure (.bool (<-Op.equal t x y)))) (h2:binOp .neq t x y=(do Pure.pure (.bool (!(<-Op.equal t x y))))) :
    Qt P (binOp op t x y) k:=by
  cases op with
  | eql=>exact⟨_,λw=>by rw[h1];simp[he],h⟩
  | neq=>exact⟨_,λw=>by rw[h2];simp[he],h⟩
  | _=>exact h.elim
theorem rR{P:Program}{d:TypeDesc}(hd:P.underlying t=some d){x y:Value}{b:Bool}
    (h:(match d,x,y with
      | .bool,.bool a,.bool c=>b=(a==c)
      | .pointer _,.pointer none,.pointer q=>b=q.isNone
      | .pointer _,.pointer (some _),.pointer none=>b=false
      | .slice _,.slice none _ _,.slice q _ _=>b=q.isNone
      | .slice _,.slice (some _) _ _,.slice none _ _=>b=false
      | .func _ _ _,.nilFunc,.nilFunc=>b=true
      | .func _ _ _,.func _ _ _,.nilFunc=>b=false
      | _,_,_=>False)):∀w:World,(Op.equal t x y).run P w = .ok b w:=by
  intro w;unfold Op.equal Op.maxDepth;rw[show(10000:Nat)=9999+1 from rfl];unfold Op.equalIn;rw[Sem.run_bind,run_underlying hd w];simp only[Result.andThen_ok]
  split at h <;> first|(subst h;rfl)|exact h.elim
theorem Zd{P:Program}{d:TypeDesc}(hd:P.underlying t=some d){op:BinOp}{x y:Value}{k:Value->Prop}(h:vR (ar d) op x y k) :
    Qt P (binOp op t x y) k:=by
  by_cases hf:ar d = .fn
  · rw[hf]at h
    cases d <;> simp[ar]at hf
    simp only[vR]at h
    cases y <;> try exact h.elim
    obtain⟨h1,h2⟩:=h
    cases x <;> simp[IU]at h1
    · exact DP h2 (rR hd rfl) rfl rfl
    · exact DP h2 (rR hd rfl) rfl rfl
  · cases x with
    | int kd a=>
      cases y with
      | int Kz b=>
        have h':bif u6 op then xV op kd a b k else bif nC kd Kz then Md op kd a b k else False:=by
          unfold vR at h;split at h
          · exact(hf (by assumption)).elim
          · exact h
        cases hs:u6 op with
        | true=>rw[hs]at h';exact IV h'
        | false=>
          rw[hs]at h'
          cases hk:nC kd Kz with
          | false=>rw[hk]at h';exact h'.elim
          | true=>rw[hk]at h';obtain rfl:=oO hk;exact Q6 hs h'
      | _=>unfold vR at h;split at h <;> first|exact(hf (by assumption)).elim|exact h.elim
    | string a=>
      cases y with
      | string b=>unfold vR at h;split at h <;> first|exact(hf (by assumption)).elim|exact Q7 h
      | _=>unfold vR at h;split at h <;> first|exact(hf (by assumption)).elim|exact h.elim
    | bool a=>
      cases y with
      | bool b=>
        unfold vR at h;split at h
        · exact(hf (by assumption)).elim
        · cases d <;> simp[ar]at h
          exact DP h (rR hd rfl) rfl rfl
      | _=>unfold vR at h;split at h <;> first|exact(hf (by assumption)).elim|exact h.elim
    | pointer a=>
      cases y with
      | pointer b=>
        unfold vR at h;split at h
        · exact(hf (by assumption)).elim
        · cases b with
          | some q=>exact h.elim
          | none=>
            cases d <;> simp[ar]at h
            cases a with
            | none=>exact DP h (rR hd rfl) rfl rfl
            | some p=>exact DP h (rR hd rfl) rfl rfl
      | _=>unfold vR at h;split at h <;> first|exact(hf (by assumption)).elim|exact h.elim
    | slice a l c=>
      cases y with
      | slice b l' c'=>
        unfold vR at h;split at h
        · exact(hf (by assumption)).elim
        · cases b with
          | some q=>exact h.elim
          | none=>
            cases d <;> simp[ar]at h
            cases a with
            | none=>exact DP h (rR hd rfl) rfl rfl
            | some p=>exact DP h (rR hd rfl) rfl rfl
      | _=>unfold vR at h;split at h <;> first|exact(hf (by assumption)).elim|exact h.elim
    | _=>unfold vR at h;split at h <;> first|exact(hf (by assumption)).elim|exact h.elim
theorem acZ{P:Program}{op:UnOp}{k:Value->Prop}(h:unX op x k):Qt P (Op.unary op x) k:=by
  cases op with
  | not=>cases x <;> first|exact h.elim|exact⟨_,λ_=>rfl,h⟩
  | neg=>cases x <;> first|exact h.elim|exact⟨_,λ_=>rfl,h⟩
  | xor=>cases x <;> first|exact h.elim|exact⟨_,λ_=>rfl,h⟩
  | plus=>cases x <;> exact h.elim
def C4(a b:Value):Bool:=
  match a,b with
  | .nilIface,.nilIface=>false
  | .agg _,.agg _=>false
  | _,_=>true
theorem Mk{P:Program}{op:BinOp}{x y:Operand}{a b:Value}(h:C4 a b=true) :
    (eqGuard op t x y a b).run P w = .ok () w:=by
  have key:∀c:Bool,(if c=true then(Pure.pure ():Sem Unit)else Pure.pure ()).run P w = .ok () w:=λc=>by cases c <;> rfl
  unfold eqGuard
  cases a <;> cases b <;> first|exact key _|(simp[C4]at h;done)
theorem O1{d:D}{op:BinOp}{k:Value->Prop}(h:vR d op x y k):C4 x y=true:=by
  unfold vR at h
  cases x <;> cases y <;> first|rfl|(split at h <;> exact h.elim)
theorem vU(n s:Nat):scale n s=n*s:=by
  unfold scale
  cases h:Nat.beq s 1 with
  | false=>rfl
  | true=>have:=xP h;subst this;simp
theorem Addr.add_zero(a:Addr):a.add 0=a:=by simp[Addr.add]
theorem zZ(z:LV)(n:Nat):(List.range (n*z.length)).map (λi=>z[i%z.length]!)=(List.replicate n z).flatten:=by
  by_cases hz:z.length=0
  · have:z=[]:=Vb hz
    subst this
    induction n with
    | zero=>rfl
    | succ n ih=>simp
  · induction n with
    | zero=>simp
    | succ n ih=>
      have e:(List.replicate (n+1) z).flatten=(List.replicate n z).flatten++z:=by
        rw[List.replicate_succ',List.flatten_append];simp
      rw[e,<-ih,Mb,OU,List.range_add,eT,qJ];congr 1;apply Kw;intro i;simp only[jH]
      by_cases hi:i<z.length
      · simp[hi,Nat.mod_eq_of_lt hi]
      · simp[hi]
theorem sV(z:LV)(n:Nat):aL z n=(List.replicate n z).flatten:=by
  unfold aL
  split
  · rename_i v
    induction n with
    | zero=>rfl
    | succ n ih=>rw[uW,ih,uW,H6];rfl
  · rfl
theorem IW(z:Array Value)(i:Nat):z[i]! = z[i]?.getD default:=by simp[getElem!_def];split <;> simp_all
theorem BD(z:Value)(n:Nat):Builtin.zeroCells z.cells n=⟨aL (mi z) n⟩:=by
  apply tC;rw[sV,ko,<-zZ];simp only[Builtin.zeroCells,aga,agb,Ax];apply Fu;intro i _;simp[IW]
theorem BE(z:Value)(n:Nat):madeCells z.cells (n*z.cells.size)=⟨aL (mi z) n⟩:=by
  apply tC;rw[sV,ko,<-zZ];simp only[madeCells,aga,agb,Ax];apply Fu;intro i _;simp[IW]
theorem kY(z:LV)(n:Nat):(aL z n).length=n*z.length:=by
  rw[sV]
  induction n with
  | zero=>simp
  | succ n ih=>rw[uW,H6,bg,ih,Mb,OU,acK]
theorem VN{P:Program}{x:TI}(ht:∃ d,P.underlying t=some d/\ar d = .slice e)(hx:dy P e x){kl kc:IntKind}{l c:Int}{w:World}{k:KT}
    (h:aa3 x e l c w.heap k):To P (Instr.makeSlice t (.int kl l) (.int kc c)) w k:=by
  obtain⟨i,d,z,hi,hd,AD,lV,hb,hz,KI⟩:=hx.get;obtain⟨dt,H0,Ia⟩:=ht;have hu:P.underlying t=some (.slice e):=by cases dt <;> simp[ar]at Ia;subst Ia;exact H0
  obtain⟨⟨h0,h1,h2,h3⟩,hk⟩:=h;have hr:=run_make (P:=P) w t e i z hu hi hz kl kc l c h0 h1 (by rw[hb];exact h2) oX
  have hl:z.cells.size=i.size:=by
    have:=hx.len;rw[<-KI,ko]at this;rw[lV,<-this];simp
  rw[<-hl,BE,KI]at hr;exact⟨_,_,hr,⟨rfl,rfl,rfl⟩,hk⟩
def Ib(o:Option (IntKind×Int)):Option Value:=o.map λp=>.int p.1 p.2
def ins(o:Option (IntKind×Int)):Option Int:=o.map (·.2)
theorem kr{P:Program}(kd:IntKind)(i:Int)(y:Nat)(code:BoundsCode)(h0:0<=i)(h1:i<=(y:Int)) :
    (Instr.sliceBound (.int kd i) y code).run P w = .ok i.toNat w:=by
  simp[Instr.sliceBound,asIntOf,h0,h1]
theorem Ml{P:Program}{isS:Bool}{a:OA}{len:Nat}{lo hi mx:Option (IntKind×Int)}{k:Value->Prop}
    (h:VE a len cap size (ins lo) (ins hi) (ins mx) k) :
    ∃l u m,(∀w:World,(Instr.sliceBounds isS len cap (Ib lo) (Ib hi) (Ib mx)).run P w = .ok (l,u,m) w)/\k (.slice (if m=l then a else a.map (·.add (l*size))) (u-l) (m-l)):=by
  have O2:∀m:Nat,(if m=0 then a else a.map (·.add (0*size)))=a:=λm=>by
    split
    · rfl
    · cases a <;> simp[Addr.add]
  have hid':∀m:Nat,(if m=0 then a else a.map (·.add 0))=a:=λm=>by
    split
    · rfl
    · cases a <;> simp[Addr.add]
  rcases lo with _|⟨kl,l⟩ <;> rcases hi with _|⟨kh,u⟩ <;> rcases mx with _|⟨km,m⟩ <;> simp only[VE,ins,Vy,OW]at h
  · refine⟨0,len,cap,by simp[Instr.sliceBounds,Ib],?_⟩
    rw[O2];simpa using h
  · obtain⟨⟨h0,h1⟩,hk⟩:=h
    refine⟨0,u.toNat,cap,by simp[Instr.sliceBounds,Ib,kr kh u cap _ h0 h1],?_⟩;rw[O2];simpa using hk
  · obtain⟨⟨h0,h1,h2⟩,hk⟩:=h
    have e1:=λw=>kr (P:=P) (w:=w) km m cap (if isS then .slice3Acap else .slice3Alen) oX h2;have e2:=λw=>kr (P:=P) (w:=w) kh u m.toNat .slice3B h0 oX;refine⟨0,u.toNat,m.toNat,by simp[Instr.sliceBounds,Ib,e1,e2],?_⟩;rw[O2];simpa using hk
  · obtain⟨⟨h0,h1⟩,hk⟩:=h
    refine⟨l.toNat,len,cap,by simp[Instr.sliceBounds,Ib,kr kl l len _ h0 h1],?_⟩;simpa[vT,vU]using hk
  · obtain⟨⟨h0,h1,h2⟩,hk⟩:=h
    have e1:=λw=>kr (P:=P) (w:=w) kh u cap (if isS then .sliceAcap else .sliceAlen) oX h2;have e2:=λw=>kr (P:=P) (w:=w) kl l u.toNat .sliceB h0 oX;refine⟨l.toNat,u.toNat,cap,by simp[Instr.sliceBounds,Ib,e1,e2],?_⟩;simpa[vT,vU]using hk
  · obtain⟨⟨h0,h1,h2,h3⟩,hk⟩:=h
    have e1:=λw=>kr (P:=P) (w:=w) km m cap (if isS then .slice3Acap else .slice3Alen) oX h3;have e2:=λw=>kr (P:=P) (w:=w) kh u m.toNat .slice3B oX oX;have e3:=λw=>kr (P:=P) (w:=w) kl l u.toNat .slice3C h0 oX;refine⟨l.toNat,u.toNat,m.toNat,by simp[Instr.sliceBounds,Ib,e1,e2,e3],?_⟩;simpa[vT,vU]using hk
theorem O3{P:Program}{s:ByteArray}{lo hi mx:Option (IntKind×Int)}{k:Value->Prop}(h:O0 s (ins lo) (ins hi) (ins mx) k) :
    mx=none/\∃l u m,(∀w:World,(Instr.sliceBounds false s.size s.size (Ib lo) (Ib hi) none).run P w = .ok (l,u,m) w)/\k (.string (s.extract l u)):=by
  rcases lo with _|⟨kl,l⟩ <;> rcases hi with _|⟨kh,u⟩ <;> rcases mx with _|⟨km,m⟩ <;> simp only[O0,ins,Vy,OW]at h <;> first|exact h.elim|refine⟨rfl,?_⟩
  · refine⟨0,s.size,s.size,by simp[Instr.sliceBounds,Ib],?_⟩
    rw[ByteArray.extract_zero_size];exact h
  · obtain⟨⟨h0,h1⟩,hk⟩:=h
    exact⟨0,u.toNat,s.size,by simp[Instr.sliceBounds,Ib,kr kh u s.size _ h0 h1],hk⟩
  · obtain⟨⟨h0,h1⟩,hk⟩:=h
    exact⟨l.toNat,s.size,s.size,by simp[Instr.sliceBounds,Ib,kr kl l s.size _ h0 h1],hk⟩
  · obtain⟨⟨h0,h1,h2⟩,hk⟩:=h
    have e1:=λw=>kr (P:=P) (w:=w) kh u s.size .sliceAlen oX h2;have e2:=λw=>kr (P:=P) (w:=w) kl l u.toNat .sliceB h0 oX;exact⟨l.toNat,u.toNat,s.size,by simp[Instr.sliceBounds,Ib,e1,e2],hk⟩
theorem IX{P:Program}{d:TypeDesc}(hd:P.underlying t=some d){size:Nat}
    (he:∀e,(ar d = .slice e∨∃n,ar d = .arr n e)->∃i,P.info? e=some i/\i.size=size) {x:Value} {lo hi mx:Option (IntKind×Int)} {k:Value->Prop}
    (h:KA (ar d) size x (ins lo) (ins hi) (ins mx) k):Qt P (Instr.sliceAt t x (Ib lo) (Ib hi) (Ib mx)) k:=by
  cases d with
  | string=>
    cases x <;> try exact h.elim
    rename_i s;obtain⟨rfl,l,u,m,hr,hk⟩:=O3 (P:=P) h;refine⟨_,λw=>?_,hk⟩;simp only[Instr.sliceAt,Instr.slice,Sem.run_bind,run_underlying hd,Result.andThen_ok];simp[Ib]at hr ⊢;simp[hr]
  | slice e=>
    cases x <;> try exact h.elim
    rename_i a l c;obtain⟨i,tK,hs⟩:=he e (.inl rfl);obtain⟨l',u,m,hr,hk⟩:=Ml (P:=P) (isS:=true) h;refine⟨_,λw=>?_,hk⟩;simp only[Instr.sliceAt,Instr.slice,Sem.run_bind,run_underlying hd,Result.andThen_ok,hr,cy tK,hs,Sem.run_pure]
  | array n e=>
    cases x <;> try exact h.elim
    rename_i q
    cases q with
    | none=>exact h.elim
    | some p=>
      obtain⟨i,tK,hs⟩:=he e (.inr ⟨n,rfl⟩);obtain⟨l',u,m,hr,hk⟩:=Ml (P:=P) (isS:=false) (show VE (some p) n n size (ins lo) (ins hi) (ins mx) k from h);refine⟨_,λw=>?_,hk⟩;simp only[Instr.sliceAt,Instr.sureAddr,Sem.run_bind,run_underlying hd,Result.andThen_ok,hr,cy tK,hs,Sem.run_pure];congr 2
      split <;> simp
  | _=>cases x <;> exact h.elim
theorem pU{P:Program}{b:OA}{len:Nat}{cs:LV}(hl:cs.length=n*size)(h:ak w.heap b cs) :
    (Builtin.firstCells size n (.slice b len cap)).run P w = .ok ⟨cs⟩ w:=by
  cases b with
  | none=>
    have:cs=[]:=h;subst this;simp[Builtin.firstCells]
  | some p=>exact run_firstCells_some (P:=P) w size n p len cap cs hl (λj v hv=>h j v hv)
theorem ya{P:Program}{s:ByteArray} :
    (Builtin.firstCells 1 n (.string s)).run P w = .ok ⟨(s.toList.take n).map bv⟩ w:=by
  simp only[Builtin.firstCells,Sem.run_pure];congr 1;apply tC;simp[ByteArray.toList_eq];rfl
structure Src(P:Program)(size:Nat)(x:Value)(h:ad)(n:Nat)(new:LV):Prop where
  len:∀w:World,w.heap=h->(Builtin.lenOf x).run P w = .ok n w
  cells:∀w:World,w.heap=h->(Builtin.firstCells size n x).run P w = .ok ⟨new⟩ w
  length:new.length=n*size
  one:∀v∈new,v.oneCell'=true
theorem Ze{P:Program}{x:TI}{v:Value}{h:ad}{k:Nat->LV->Prop}(hk:Y' x h v k):∃n new,Src P x.cells v h n new/\k n new:=by
  cases v <;> try exact hk.elim
  · rename_i s
    unfold Y' at hk
    cases hb:Nat.beq x.cells 1 with
    | false=>simp[hb]at hk
    | true=>
      have e:x.cells=1:=xP hb;simp[hb]at hk;refine⟨_,_,⟨λw _=>rfl,λw _=>?_,?_,?_⟩,hk⟩
      · rw[e]
        have:=ya (P:=P) (w:=w) (s:=s) (n:=s.size);have hl:s.toList.length=s.size:=(by rw[ByteArray.toList_eq];simp);rw[gL oX]at this;exact this
      · rw[e,ByteArray.toList_eq];simp
      · intro v hv
        obtain⟨b,_,rfl⟩:=jc.1 hv;rfl
  · rename_i b n c
    obtain⟨new,h1,h2,h3,hk⟩:=hk;exact⟨n,new,⟨λw _=>rfl,λw hw=>pU h1 (hw▸h2),h1,h3⟩,hk⟩
theorem Tv{P:Program}{ty:Nat}{x:TI}(ht:∃ d,P.underlying t=some d/\ar d = .slice e)(Vc:(∃ e',P.underlying t'=some (.slice e'))∨P.underlying t'=some .string)
    (hx:dy P e x) {a:OA} {l c n:Nat} {v:Value} {new:LV} {w:World} {k:OA->Nat->Nat->ad->Prop} (hs:Src P x.cells v w.heap n new)
    (h:aJ x e a l c n new w.heap k):To P (Builtin.append_ #[t,t'] ty #[.slice a l c,v]) w λr h'=>∃a' l' c',r = .slice a' l' c'/\k a' l' c' h':=by
  obtain⟨i,d,z,hi,hd,AD,lV,hb,hz,KI⟩:=hx.get;obtain⟨dt,H0,Ia⟩:=ht;have hu:P.underlying t=some (.slice e):=by cases dt <;> simp[ar]at Ia;subst Ia;exact H0
  obtain⟨old,ho,hoc,AE,hlen,hfit,agu⟩:=h
  by_cases hc:l+n<=c
  · obtain⟨hwr,hk⟩:=hfit hc
    have tB:∃w',(match a with|some a=>storeCells (a.add (l*i.size)) new|none=>Pure.pure ():Sem Unit).run P w = .ok () w'/\bh w w'/\w'.heap=sS w.heap a (l*x.cells) new:=by
      cases a with
      | none=>exact⟨w,rfl,.refl _,rfl⟩
      | some p=>
        have:=pD (P:=P) (p.add (l*x.cells)) new 0 w hs.one (λj hj=>by
          rw[wR];exact hwr j (by rw[<-hs.length];exact hj))
        exact⟨_,by rw[lV];exact this,zc _ _,rfl⟩
    obtain⟨w',h1,h2,h3⟩:=tB;refine⟨.slice a (l+n) c,w',?_,h2,a,l+n,c,rfl,by rw[h3];exact hk⟩;have H9:=hs.cells w rfl;rw[<-lV]at H9
    rcases Vc with⟨e',Vc⟩|Vc
    all_goals
      simp only[Builtin.append_,acM,Y5,Ta,Sem.run_bind,run_underlying hu,run_underlying Vc,Result.andThen_ok,cy hi,Sem.run_pure,Ay,if_false,agk,if_true,hs.len w rfl,Sem.run_ite,if_pos hc,H9]
      cases a with
      | none=>simp at h1 ⊢;exact h1
      | some p=>simp only at h1;simp[h1]
  · have hg:c<l+n:=oX
    have hk:=agu hg;have hfits:=growslice_fits (bytes:=i.bytes) hg (by rw[hb];exact AE)
    have h48:¬(Builtin.nextslicecap (l+n) c*i.bytes>2 ^ 48):=by
      have e:(2:Nat) ^ 48=281474976710656:=(by decide);rw[e];omega
    have h63:¬(((l+n:Nat):Int)>IntKind.i64.max/\(false=true∨i.bytes=0)):=by
      have e:IntKind.max .i64=9223372036854775807:=(by decide);rw[e];omega
    let w1:World:={ w with drawn:=w.drawn+1 }
    let cap:=(Question.appendCap (l+n) c e).cut (w.tape w.drawn (Question.appendCap (l+n) c e))
    have FH:l+n<=cap:=(by show l+n<=Question.cut _ _;simp[Question.cut]);have H9:=hs.cells w1 rfl;rw[<-lV]at H9;have hos:=pU (P:=P) (w:=w1) (size:=i.size) (n:=l) (len:=l) (cap:=c) (by rw[lV];exact ho) hoc;refine⟨.slice (some ⟨w.heap.size,0,none⟩) (l+n) cap,w1.alloc (.cells ⟨old++new++aL x.zero (cap-(l+n))⟩ e),?_,⟨rfl,rfl,rfl⟩,_,_,_,rfl,hk cap FH⟩;have hzv:(zeroValue e).run P w1 = .ok z w1:=(by simp[zeroValue,jz hi,hz]);have hch:(choose (Question.appendCap (l+n) c e)).run P w = .ok cap w1:=by simp[Question.forced,w1,cap]
    rcases Vc with⟨e',Vc⟩|Vc
    all_goals
      simp only[Builtin.append_,acM,Y5,Ta,Sem.run_bind,run_underlying hu,run_underlying Vc,Result.andThen_ok,cy hi,Sem.run_pure,Ay,if_false,agk,if_true,hs.len w rfl,Sem.run_ite,if_neg hc,jz hi,if_neg h48];rw[if_neg (by simpa using h63)];simp only[Sem.run_bind,Result.andThen_ok,hch,run_askRoom,hos,H9,hzv,newRow,run_newObj,Sem.run_pure,BD,KI];congr 2;simp
theorem Q8{P:Program}(a:OA)(o:Nat)(new:LV)(h1:∀ v ∈ new,v.oneCell'=true)(h2:KB w.heap a o new.length) :
    ∃w',(match a with|some a=>storeCells (a.add o) new|none=>Pure.pure ():Sem Unit).run P w = .ok () w'/\bh w w'/\w'.heap=sS w.heap a o new:=by
  cases a with
  | none=>exact⟨w,rfl,.refl _,rfl⟩
  | some p=>
    have:=pD (P:=P) (p.add o) new 0 w h1 (λj hj=>by rw[wR];exact h2 j hj);exact⟨_,this,zc _ _,rfl⟩
theorem VO{P:Program}{ty:Nat}{x:TI}(ht:∃ d,P.underlying t=some d/\ar d = .slice e)
    (hx:dy P e x) {a:OA} {n c:Nat} {w:World} {k:HP}
    (h:Fy x a n w.heap k):To P (Builtin.clear_ #[t] ty #[.slice a n c]) w λr h'=>r = .tuple #[]/\k h':=by
  obtain⟨i,d,z,hi,hd,AD,lV,hb,hz,KI⟩:=hx.get;obtain⟨dt,H0,Ia⟩:=ht;have hu:P.underlying t=some (.slice e):=by cases dt <;> simp[ar]at Ia;subst Ia;exact H0
  obtain⟨h1,h2,h3⟩:=h;have hzv:(zeroValue e).run P w = .ok z w:=by simp[zeroValue,jz hi,hz]
  have Zb:∀v∈x.zero,v.oneCell'=true:=by
    cases hb:x.zero.all Value.oneCell' with
    | true=>exact oN.1 hb
    | false=>rw[hb]at h1;exact h1.elim
  have hrep:∀v∈aL x.zero n,v.oneCell'=true:=by
    intro v hv;unfold aL at hv
    split at hv
    · rename_i u hu;exact Zb v (by rw[hu];simp[VA hv])
    · obtain⟨l,hl,hv⟩:=List.mem_flatten.1 hv
      rw[VA hl]at hv;exact Zb v hv
  have hlen:(aL x.zero n).length=n*x.cells:=by rw[kY,hx.len]
  cases a with
  | none=>exact⟨.tuple #[],w,by simp[Builtin.clear_,run_underlying hu],⟨rfl,rfl,rfl⟩,rfl,h3⟩
  | some p=>
    cases n with
    | zero=>
      refine⟨.tuple #[],w,by simp[Builtin.clear_,run_underlying hu],⟨rfl,rfl,rfl⟩,rfl,?_⟩;have e0:aL x.zero 0=[]:=Vb (by rw[hlen,Nat.zero_mul]);rw[e0]at h3;exact h3
    | succ n=>
      obtain⟨w',Vd,DQ,OJ⟩:=Q8 (P:=P) (w:=w) (some p) 0 (aL x.zero (n+1)) hrep (by rw[hlen];exact h2);simp only[Addr.add_zero]at Vd;refine⟨.tuple #[],w',?_,DQ,rfl,by rw[OJ];exact h3⟩;simp[Builtin.clear_,run_underlying hu,hzv,BD,KI,Vd]
theorem Zf{P:Program}{ty:Nat}{x:TI}(ht:∃ d,P.underlying t=some d/\ar d = .slice e)
    (hx:dy P e x) {a:OA} {n c:Nat} {v:Value} {w:World} {k:Nat->ad->Prop}
    (h:xw x a n v w.heap k):To P (Builtin.copy_ #[t,t'] ty #[.slice a n c,v]) w λr h'=>∃m:Nat,r = .int .i64 (m:Int)/\k m h':=by
  obtain⟨i,d,z,hi,hd,AD,lV,hb,hz,KI⟩:=hx.get;obtain⟨dt,H0,Ia⟩:=ht;have hu:P.underlying t=some (.slice e):=by cases dt <;> simp[ar]at Ia;subst Ia;exact H0
  have key:∀(m:Nat) (new:LV),(∀w':World,w'.heap=w.heap->(Builtin.lenOf v).run P w' = .ok m w')->
      (∀w':World,w'.heap=w.heap->(Builtin.firstCells x.cells (min m n) v).run P w' = .ok ⟨new⟩ w')->(∀u∈new,u.oneCell'=true)->KB w.heap a 0 new.length->k (min m n) (sS w.heap a 0 new)->
      To P (Builtin.copy_ #[t,t'] ty #[.slice a n c,v]) w λr h'=>∃m:Nat,r = .int .i64 (m:Int)/\k m h':=by
    intro m new hl hc h1 hw hk;obtain⟨w',Vd,DQ,OJ⟩:=Q8 (P:=P) (w:=w) a 0 new h1 hw;refine⟨.int .i64 ((min m n:Nat):Int),w',?_,DQ,min m n,rfl,by rw[OJ];exact hk⟩;have H9:=hc w rfl;rw[<-lV]at H9;have e:Nat.min m n=min m n:=rfl
    cases a with
    | none=>
      simp only[Sem.run_pure,Result.ok.injEq,true_and]at Vd;subst Vd;simp[Builtin.copy_,run_underlying hu,hl w rfl,cy hi,e,H9,goInt]
    | some p=>
      simp only[Addr.add_zero]at Vd;simp[Builtin.copy_,run_underlying hu,hl w rfl,cy hi,e,H9,Vd,goInt]
  cases v <;> try exact h.elim
  · rename_i s
    obtain⟨YF,hw,hk⟩:=h
    have e1:x.cells=1:=by
      cases VP:Nat.beq x.cells 1 with
      | true=>exact xP VP
      | false=>simp[VP]at YF
    refine key s.size ((s.toList.take (min s.size n)).map bv) (λw' _=>rfl) (λw' _=>?_) ?_ ?_ hk
    · rw[e1];exact ya
    · intro u hu
      obtain⟨b,_,rfl⟩:=jc.1 hu;rfl
    · have hl:s.toList.length=s.size:=by rw[ByteArray.toList_eq];simp
      have:((s.toList.take (min s.size n)).map bv).length=min s.size n:=(by simp[hl]);rw[this];exact hw
  · rename_i b m c'
    obtain⟨new,hl,hc,h1,hw,hk⟩:=h;refine key m new (λw' _=>rfl) (λw' VQ=>pU hl (VQ▸hc)) h1 ?_ hk;rw[hl];exact hw
theorem Tw(v:LV):∀(off j:Nat) (cells:Array Value),off+j+v.length<=cells.size->
    ((v.zipIdx j).foldl (λcs (p:Value×Nat)=>cs.setIfInBounds (off+p.2) p.1) cells).toList=cells.toList.take (off+j)++v++cells.toList.drop (off+j+v.length):=by
  induction v with
  | nil=>intro off j cells _;simp
  | cons x r ih=>
    intro off j cells hl;simp only[pA]at hl;simp only[List.zipIdx_cons,zN];rw[ih off (j+1) _ (by simp;omega)];have bV:off+j<cells.toList.length:=(by simp;omega);simp only[Array.toList_setIfInBounds,<-Nat.add_assoc];have e:=list_seg_step cells.toList (off+j) x r (by simp;omega);simpa[Nat.add_assoc,acK,Nat.add_left_comm]using e
def qM(place:Nat->Option (Nat×Nat))(l:LV)(q:Nat×Value):LV:=
  match place q.1 with|some (off,size)=>l.take off++mi q.2++l.drop (off+size)|none=>l
theorem Q9(place:Nat->Option (Nat×Nat))(Z:LV):∀(parts:List (Nat×Value)) (cells:Array Value),cells.size=Z.length->
    (∀q∈parts,∃off size,place q.1=some (off,size)/\q.2.cells.size=size/\off+size<=Z.length)->
    ∃O4,Instr.fill place cells parts=some O4/\O4.size=Z.length/\
      O4.toList=parts.foldl (qM place) cells.toList
  | [],cells,hs,_=>⟨cells,rfl,hs,rfl⟩
  | (i,v)::r,cells,hs,h=>by
    obtain⟨off,size,hp,hv,hle⟩:=h (i,v) (by simp);simp only at hp hv;have agv:off+v.cells.size<=cells.size:=(by rw[hs,hv];exact hle);have hf:=Tw v.cells.toList off 0 cells (by simpa using agv);simp only[Nat.add_zero]at hf
    have e1:(v.cells.zipIdx.foldl (λcs (p:Value×Nat)=>cs.setIfInBounds (off+p.2) p.1) cells)=(v.cells.toList.zipIdx.foldl (λcs (p:Value×Nat)=>cs.setIfInBounds (off+p.2) p.1) cells):=by
      rw[<-agc,Array.toList_zipIdx]
    have hsz':(v.cells.zipIdx.foldl (λcs (p:Value×Nat)=>cs.setIfInBounds (off+p.2) p.1) cells).size=Z.length:=by
      rw[e1,<-Ax,hf];simp only[bg,dL,jM,Ax];omega
    obtain⟨c',h1,h2,h3⟩:=Q9 place Z r _ hsz' (λq hq=>h q (by simp[hq]));refine⟨c',?_,h2,?_⟩
    · simp only[Instr.fill,hp]
      rw[if_neg]
      · exact h1
      · simp only[Bool.or_eq_true,decide_eq_true_eq,not_or,ne_eq,Decidable.not_not,Nat.not_lt]
        exact⟨hv,agv⟩
    · rw[h3,e1,hf]
      simp only[zN,qM,hp,ko];rw[<-hv];simp
theorem IY : ∀xs:List LV,tD xs=xs.flatten
  | []=>rfl
  | [x]=>by simp[tD]
  | x::y::r=>by
    show x++tD (y::r)=_;rw[IY (y::r)];simp
def yc(f:Fr)(x:Operand):Option Value:=
  match x with| .tmp t=>Fr.get f t| .const v=>some v| .global g=>some (.pointer (some ⟨g,0,none⟩))| .func g=>some (.func (.func g) #[] #[])
theorem nh(f:Fr)(i j:Nat)(x:Operand)(r:List (Nat×Operand)):eU f i ((j,x)::r)=bif Nat.beq j i then some (yc f x)else eU f i r:=rfl
theorem jX{j:Nat}{x:Operand}{r:List (Nat×Operand)}(h:sorted n ((j,x)::r) m=true):m<=j/\j<n/\sorted n r (j+1)=true:=by
  simp only[sorted,dB]at h;exact⟨xS h.1.1,xS h.1.2,h.2⟩
theorem Mm:∀{r:List (Nat×Operand)} {m m':Nat},sorted n r m=true->m'<=m->sorted n r m'=true
  | [],_,_,_,_=>rfl
  | (j,x)::r,m,m',h,hm=>by
    obtain⟨h1,h2,h3⟩:=jX h;simp only[sorted,dB];exact⟨⟨OV oX,OV h2⟩,h3⟩
theorem Aa{f:Fr}{n i:Nat}:∀{r:List (Nat×Operand)} {m:Nat},sorted n r m=true->i<m->eU f i r=none
  | [],_,_,_=>rfl
  | (j,x)::r,m,h,hm=>by
    obtain⟨h1,h2,h3⟩:=jX h
    have:Nat.beq j i=false:=by
      cases hb:Nat.beq j i with
      | false=>rfl
      | true=>have:=xP hb;omega
    rw[nh,this];exact Aa h3 oX
theorem AF{f:Fr}{ρ:Operand->Value}(hρ:∀ x v,yc f x=some v->ρ x=v)(place:Nat->Option (Nat×Nat))(Z:LV) :
    ∀(pB:List (Nat×Nat)) (i m:Nat) (parts:List (Nat×Operand)) (acc:List LV) (k:List LV->Prop) (pre:LV),
    kV f parts Z pB i acc k->sorted (i+pB.length) parts i=true->(∀idx,idx<pB.length->place (i+idx)=pB[idx]?)->xW pB m Z.length=true->pre.length=m->
    ∃Ic:List LV,k (acc++Ic)/\(parts.map λq=>(q.1,ρ q.2)).foldl (qM place) (pre++Z.drop m)=pre++Ic.flatten/\
      ∀q∈parts,∃off size,place q.1=some (off,size)/\(ρ q.2).cells.size=size/\off+size<=Z.length
  | [],i,m,parts,acc,k,pre,h,hs,hp,hl,hm=>by
    have hz:m=Z.length:=xP hl
    cases parts with
    | nil=>exact⟨[],by simpa[kV]using h,by simp[hz],by simp⟩
    | cons q r=>
      obtain⟨h1,h2,_⟩:=jX (x:=q.2) (j:=q.1) (r:=r) hs;simp at h2;omega
  | (off,size)::r,i,m,parts,acc,k,pre,h,hs,hp,hl,hm=>by
    simp only[xW,dB]at hl;have ho:off=m:=xP hl.1;subst ho;have ac1:=hl.2
    have hmZ:∀(s:List (Nat×Nat)) (a:Nat),xW s a Z.length=true->a<=Z.length:=by
      intro s
      induction s with
      | nil=>intro a ha;exact Nat.le_of_eq (xP ha)
      | cons x s ih=>
        intro a ha;obtain⟨x1,x2⟩:=x;simp only[xW,dB]at ha;have:=ih _ ha.2;omega
    have hle:=hmZ _ _ ac1;have hp0:place i=some (off,size):=by simpa using hp 0 (by simp)
    have uY:∀idx,idx<r.length->place (i+1+idx)=r[idx]?:=λidx hi=>by
      have:=hp (idx+1) (by simp;omega);rw[show i+1+idx=i+(idx+1) by omega];simpa using this
    have hlen:i+((off,size)::r).length=i+1+r.length:=(by simp;omega);rw[hlen]at hs
    have skip:(∀q∈parts,i<q.1)->eU f i parts=none->∃Ic:List LV,k (acc++Ic)/\(parts.map λq=>(q.1,ρ q.2)).foldl (qM place) (pre++Z.drop off)=pre++Ic.flatten/\
        ∀q∈parts,∃off size,place q.1=some (off,size)/\(ρ q.2).cells.size=size/\off+size<=Z.length:=by
      intro hgt VR
      have hs':sorted (i+1+r.length) parts (i+1)=true:=by
        cases parts with
        | nil=>rfl
        | cons q t=>
          obtain⟨q1,q2⟩:=q;obtain⟨a1,a2,a3⟩:=jX hs;have:=hgt (q1,q2) (by simp);simp only[sorted,dB];exact⟨⟨OV this,OV a2⟩,a3⟩
      simp only[kV,VR]at h;obtain⟨Ic,h1,h2,h3⟩:=AF hρ place Z r (i+1) (off+size) parts _ k (pre++(Z.drop off).take size) h hs' uY ac1 (by simp;omega);refine⟨(Z.drop off).take size::Ic,by simpa using h1,?_,h3⟩
      have e:pre++(Z.drop off).take size++Z.drop (off+size)=pre++Z.drop off:=by
        rw[iW,<-Bv,List.take_append_drop]
      rw[e]at h2;rw[h2];simp
    cases parts with
    | nil=>exact skip (by simp) rfl
    | cons q t=>
      obtain⟨j,x⟩:=q;obtain⟨a1,a2,a3⟩:=jX hs
      cases hb:Nat.beq j i with
      | false=>
        have fP:j≠i:=λe=>by subst e;rw[vE]at hb;cases hb
        refine skip ?_ ?_
        · intro q hq
          rcases fO.1 hq with rfl|hq
          · exact Nat.lt_of_le_of_ne a1 (Ne.symm fP)
          · have:∀(l:List (Nat×Operand)) (b:Nat),sorted (i+1+r.length) l b=true->∀q∈l,b<=q.1:=by
              intro l
              induction l with
              | nil=>intro b _ q hq;simp at hq
              | cons y l ih=>
                intro b hb q hq;obtain⟨y1,y2⟩:=y;obtain⟨b1,b2,b3⟩:=jX hb
                rcases fO.1 hq with rfl|hq
                · exact b1
                · have:=ih _ b3 q hq;omega
            have:=this t _ a3 q hq;omega
        · rw[nh,hb];exact Aa a3 oX
      | true=>
        have he:j=i:=xP hb;subst he;have hfp:eU f j ((j,x)::t)=some (yc f x):=by rw[nh,hb];rfl
        -- the rest of the parts lies behind
        have rest:∀(v:Value),yc f x=some v->(mi v).length=size->kV f ((j,x)::t) Z r (j+1) (acc++[mi v]) k->(∃Ic:List LV,k (acc++Ic)/\(((j,x)::t).map λq=>(q.1,ρ q.2)).foldl (qM place) (pre++Z.drop off)=pre++Ic.flatten/\
              ∀q∈(j,x)::t,∃off size,place q.1=some (off,size)/\(ρ q.2).cells.size=size/\off+size<=Z.length):=λv hv lV hpx=>by
          have hpx':kV f t Z r (j+1) (acc++[mi v]) k:=by
            have drop:∀(s:List (Nat×Nat)) (b:Nat) (ac:List LV),j<b->kV f ((j,x)::t) Z s b ac k->kV f t Z s b ac k:=by
              intro s
              induction s with
              | nil=>intro b ac _ h;exact h
              | cons y s ih=>
                intro b ac hb h;obtain⟨y1,y2⟩:=y
                have hf:eU f b ((j,x)::t)=eU f b t:=by
                  rw[nh]
                  have:Nat.beq j b=false:=by
                    cases VP:Nat.beq j b with
                    | false=>rfl
                    | true=>have:=xP VP;omega
                  rw[this];rfl
                simp only[kV,hf]at h ⊢
                cases hfb:eU f b t with
                | none=>rw[hfb]at h;exact ih _ _ oX h
                | some o=>
                  rw[hfb]at h
                  cases o with
                  | none=>exact h
                  | some v=>
                    simp only[ae]at h ⊢
                    cases v with
                    | agg a=>exact⟨h.1,ih _ _ oX h.2⟩
                    | tuple a=>exact h
                    | _=>
                      simp only at h ⊢
                      cases hq:Nat.beq y2 1 with
                      | false=>rw[hq]at h;exact h
                      | true=>rw[hq]at h;exact ih _ _ oX h
            exact drop r (j+1) _ oX hpx
          obtain⟨Ic,h1,h2,h3⟩:=AF hρ place Z r (j+1) (off+size) t _ k (pre++mi v) hpx' a3 uY ac1 (by simp;omega);have hv':=hρ x v hv;refine⟨mi v::Ic,by simpa using h1,?_,?_⟩
          · have e:qM place (pre++Z.drop off) (j,ρ x)=pre++mi v++Z.drop (off+size):=by
              simp only[qM,hp0,hv'];rw[List.take_append_of_le_length oX,gL oX,List.drop_append];rw[List.drop_of_length_le oX];simp[hm,Bv]
            simp only[lI,zN,e,h2];simp
          · intro q hq
            rcases fO.1 hq with rfl|hq
            · exact⟨off,size,hp0,by rw[hv',<-Ax,<-ko];exact lV,hle⟩
            · exact h3 q hq
        simp only[kV,hfp]at h
        cases hev:yc f x with
        | none=>rw[hev]at h;exact h.elim
        | some v=>
          rw[hev]at h;simp only[ae]at h
          cases v with
          | agg a=>exact rest (.agg a) hev h.1 h.2
          | tuple a=>exact h.elim
          | _=>
            simp only at h
            cases hq:Nat.beq size 1 with
            | false=>rw[hq]at h;exact h.elim
            | true=>
              rw[hq]at h;have:size=1:=xP hq;exact rest _ hev (by rw[this];rfl) h
theorem ur{dc:TypeDesc}{x:mC}(h:mn (ar dc) x=true):MapKept.IsKey dc (nQ (ar dc) x):=by
  cases dc <;> cases x <;> simp_all [mn,ar,nQ,MapKept.IsKey]
theorem TA{a b:LB}(h:mkStr a=mkStr b):a=b:=by
  have:=congrArg (λs:ByteArray=>s.data.toList) h;simpa[mkStr]using this
theorem VS{d:D}{x y:mC}(hx:mn d x=true)(hy:mn d y=true):mC.same x y=true↔nQ d x=nQ d y:=by
  cases d <;> cases x <;> cases y <;> simp[mn,mC.same,nQ]at *
  · exact⟨λh=>by rw[h],TA⟩
def qN : sT->mC->Nat->Option (Nat×Value)
  | [],_,_=>none
  | (k,v)::r,x,i=>bif mC.same x k then some (i,v)else qN r x (i+1)
theorem IZ : ∀(m:sT) (x:mC) (i:Nat),nD m x=(qN m x i).map (·.2)
  | [],_,_=>rfl
  | (k,v)::r,x,i=>by
    rw[nD,qN]
    cases mC.same x k with
    | true=>rfl
    | false=>exact IZ r x (i+1)
theorem yd : ∀(m:sT) (x:mC) (v:Value) (i:Nat),zP m x v=(match qN m x i with|some (j,_)=>m.set (j-i) (x,v)|none=>m++[(x,v)])/\∀j u,qN m x i=some (j,u)->i<=j
  | [],_,_,_=>⟨rfl,λ_ _ h=>by cases h⟩
  | (k,u)::r,x,v,i=>by
    rw[zP,qN]
    cases hk:mC.same x k with
    | true=>exact⟨by simp,λj u h=>by simp at h;omega⟩
    | false=>
      obtain⟨h1,h2⟩:=yd r x v (i+1);rw[cond_false,cond_false,h1]
      cases hf:qN r x (i+1)with
      | none=>exact⟨rfl,λj u h=>by cases h⟩
      | some p=>
        obtain⟨j,u'⟩:=p;have:=h2 j u' hf;refine⟨?_,λj' u h=>by cases h;omega⟩;show(k,u)::r.set (j-(i+1)) (x,v)=((k,u)::r).set (j-i) (x,v);rw[show j-i=(j-(i+1))+1 by omega,List.set_cons_succ]
theorem FI : ∀(m:sT) (x:mC) (i:Nat),Mh m x=(match qN m x i with|some (j,_)=>m.eraseIdx (j-i)|none=>m)/\∀j u,qN m x i=some (j,u)->i<=j
  | [],_,_=>⟨rfl,λ_ _ h=>by cases h⟩
  | (k,u)::r,x,i=>by
    rw[Mh,qN]
    cases hk:mC.same x k with
    | true=>exact⟨by simp,λj u h=>by simp at h;omega⟩
    | false=>
      obtain⟨h1,h2⟩:=FI r x (i+1);rw[cond_false,cond_false,h1]
      cases hf:qN r x (i+1)with
      | none=>exact⟨rfl,λj u h=>by cases h⟩
      | some p=>
        obtain⟨j,u'⟩:=p;have:=h2 j u' hf;refine⟨?_,λj' u h=>by cases h;omega⟩;show(k,u)::r.eraseIdx (j-(i+1))=((k,u)::r).eraseIdx (j-i);rw[show j-i=(j-(i+1))+1 by omega,acN]
theorem C5{α β:Type}(f:α->β):∀(l:List α) (i:Nat),(l.eraseIdx i).map f=(l.map f).eraseIdx i
  | [],_=>rfl
  | _::_,0=>rfl
  | a::l,i+1=>by simp[acN,C5 f l i]
theorem rS{dc:TypeDesc}{x:mC}(hx:mn (ar dc) x=true):∀(es:List MapEntry) (m:sT) (i:Nat),es.map (λe=>(e.key,e.val))=m.map (λp=>(nQ (ar dc) p.1,p.2))->(∀p∈m,mn (ar dc) p.1=true)->
    Instr.findNow dc (nQ (ar dc) x) es i=some (qN m x i)
  | [],[],_,_,_=>rfl
  | [],_::_,_,h,_=>by simp at h
  | _::_,[],_,h,_=>by simp at h
  | e::es,(k,v)::m,i,h,hm=>by
    simp only[lI,List.cons.injEq,Prod.mk.injEq]at h;obtain⟨⟨h1,h2⟩,h3⟩:=h;have hk:mn (ar dc) k=true:=hm (k,v) kj;obtain⟨r,hr,EG⟩:=MapKept.sameNow_of_keys (ur hx) (ur hk);have hs:=VS hx hk;rw[Instr.findNow,h1,hr,qN]
    cases r with
    | true=>
      have:mC.same x k=true:=hs.mpr (EG.mp rfl);rw[this,h2];rfl
    | false=>
      have:mC.same x k=false:=by
        cases hq:mC.same x k with
        | false=>rfl
        | true=>exact absurd (EG.mpr (hs.mp hq)) Bool.false_ne_true
      rw[this];exact rS hx es m (i+1) h3 λp hp=>hm p (gV _ hp)
section
variable{P : Program}{t kt et r : Nat}{dc : TypeDesc}{m : sT}{x : mC}{w : World}
theorem mH{es:Array MapEntry}{clock:Nat}{EU:Array MapEntry}{wW:Nat}{m':sT}(hb:w.heap[r]?=some (.map es clock))(h1:EU.toList.map (λe=>(e.key,e.val))=m'.map (λp=>(nQ (ar dc) p.1,p.2)))(h2:∀ p ∈ m',mn (ar dc) p.1=true)(h3:MapKept.Stamped EU wW) :
    MapTo (ar dc) w.heap r m' (w.heap.setIfInBounds r (.map EU wW)):=
  ⟨by simp,λb pV=>(MapKept.heap_set hb).2 b pV,_,_,(MapKept.heap_set hb).1,h1,h2,h3⟩
theorem KJ{v:Value}(hm:P.underlying t=some (.map kt et))(hd:P.underlying kt=some dc)(hA:nK (ar dc) w.heap r m)(hx:mn (ar dc) x=true) :
    ∃h',MapTo (ar dc) w.heap r (zP m x v) h'/\(Instr.mapUpdate t (.map (some r)) (nQ (ar dc) x) v).run P w = .ok () { w with heap:=h' }:=by
  obtain⟨es,clock,hb,he,hf,tB⟩:=hA;have hk:=ur hx;have h1:=rS hx es.toList m 0 he hf;obtain⟨hp,_⟩:=yd m x v 0
  have Ve:∀e∈es.toList,MapKept.IsKey dc e.key:=λe Ra=>by
    have:(e.key,e.val)∈es.toList.map (λe=>(e.key,e.val)):=jc.mpr ⟨e,Ra,rfl⟩;rw[he]at this;obtain⟨p,hp,e1⟩:=jc.mp this;have e1:nQ (ar dc) p.1=e.key:=congrArg Prod.fst e1;rw[<-e1];exact ur (hf p hp)
  cases FJ:qN m x 0 with
  | none=>
    rw[FJ]at h1 hp
    have fP:∀x_1∈es.toList,x_1.key≠nQ (ar dc) x:=by
      rcases MapKept.findNow_spec hk es.toList 0 Ve with⟨_,g1⟩|⟨j',e,g1,g2,g3⟩
      · exact g1
      · rw[h1]at g1;cases g1
    refine⟨_,mH hb (EU:=es.push { key:=nQ (ar dc) x,val:=v,born:=clock }) (wW:=clock+1) (by rw[hp,eT,acL,eT,he];rfl) ?_ (MapKept.stamped_push tB fP),?_⟩
    · intro p uY
      rw[hp]at uY
      rcases nB.mp uY with h|h
      · exact hf p h
      · rw[kU.mp h];exact hx
    · simp[Instr.mapUpdate,run_underlying hm,MapKept.run_getObj_map hb,MapKept.run_checkKey hd hk,MapKept.run_findKey hd h1,MapKept.run_setObj_map _ hb,Result.andThen]
  | some q=>
    obtain⟨j,u⟩:=q;rw[FJ]at h1 hp;have hp:zP m x v=m.set j (x,v):=hp
    rcases MapKept.findNow_spec hk es.toList 0 Ve with⟨g1,_⟩|⟨j',e,g1,g2,g3⟩
    · rw[h1]at g1;cases g1
    · rw[h1]at g1
      have ej:j=j':=(by simp at g1;omega);subst ej;have hj:es[j]?=some e:=(by simpa using g2);refine⟨_,mH hb (EU:=es.modify j λe=>{ e with key:=nQ (ar dc) x,val:=v }) (wW:=clock) ?_ ?_ (MapKept.stamped_modify tB j _ (λ_ _=>rfl) λe' _ h'=>by rw[hj]at h';cases h';exact g3.symm),?_⟩
      · rw[hp]
        apply Kw;intro i;have hi:(es.toList.map (λe=>(e.key,e.val)))[i]?=(m.map (λp=>(nQ (ar dc) p.1,p.2)))[i]?:=(by rw[he]);rw[jH,jH,S5]at hi;simp only[jH,S5,Vz,acO]
        by_cases OK:j=i
        · subst OK
          have hl:j<m.length:=by
            rcases rI j m.length with h|h
            · exact h
            · rw[hj,CU h]at hi;simp at hi
          simp[hj,hl]
        · simp[OK,hi]
      · intro p uY
        rw[hp]at uY
        rcases OX uY with h|h
        · exact hf p h
        · rw[h];exact hx
      · simp[Instr.mapUpdate,run_underlying hm,MapKept.run_getObj_map hb,MapKept.run_checkKey hd hk,MapKept.run_findKey hd h1,hj,g3,MapKept.run_keyThatStays hk,MapKept.run_setObj_map _ hb,Result.andThen]
theorem erase_filter : ∀(l:List MapEntry) (j:Nat) (e:MapEntry),l[j]?=some e->(l.map (·.key)).Nodup->l.eraseIdx j=l.filter λa=>@decide (a.key≠e.key) (Classical.propDecidable _)
  | [],_,_,h,_=>by simp at h
  | a::l,0,e,h,nd=>by
    have h:a=e:=(by simpa using h);subst h;rw[lI,VB]at nd;rw[List.eraseIdx_zero,List.tail_cons,age,if_neg (by simp)];refine(acP.mpr λb hb=>?_).symm;exact @decide_eq_true _ (Classical.propDecidable _) λy=>nd.1 (y▸jc.mpr ⟨b,hb,rfl⟩)
  | a::l,j+1,e,h,nd=>by
    have h:l[j]?=some e:=(by simpa using h);rw[lI,VB]at nd;have hm:e∈l:=Fv h;have ha:a.key≠e.key:=λy=>nd.1 (by rw[y];exact jc.mpr ⟨e,hm,rfl⟩);rw[acN,erase_filter l j e h nd.2,age,if_pos (@decide_eq_true _ (Classical.propDecidable _) ha)]
theorem TB{ty:TypeId}(hm:P.underlying t=some (.map kt et))(hd:P.underlying kt=some dc)(hA:nK (ar dc) w.heap r m)(hx:mn (ar dc) x=true)(ts:List TypeId) :
    ∃h',aa4 (ar dc) w.heap r x (Mh m x) h'/\(Builtin.delete_ ⟨t::ts⟩ ty #[.map (some r),nQ (ar dc) x]).run P w = .ok (.tuple #[]) { w with heap:=h' }:=by
  obtain⟨es,clock,hb,he,hf,tB⟩:=hA;have hk:=ur hx;have h1:=rS hx es.toList m 0 he hf;obtain⟨hp,_⟩:=FI m x 0
  have Ve:∀e∈es.toList,MapKept.IsKey dc e.key:=λe Ra=>by
    have:(e.key,e.val)∈es.toList.map (λe=>(e.key,e.val)):=jc.mpr ⟨e,Ra,rfl⟩;rw[he]at this;obtain⟨p,hp,e1⟩:=jc.mp this;have e1:nQ (ar dc) p.1=e.key:=congrArg Prod.fst e1;rw[<-e1];exact ur (hf p hp)
  have KK:∀o:Obj,(w.heap.setIfInBounds r o)[r]?=some o:=λo=>(MapKept.heap_set hb).1
  cases FJ:qN m x 0 with
  | none=>
    rw[FJ]at h1 hp;refine⟨_,⟨mH hb (EU:=es) (wW:=clock) (by rw[hp];exact he) (by rw[hp];exact hf) tB,λMn ck0 h0=>?_⟩,?_⟩
    · rw[hb]at h0;cases h0
      refine⟨_,KK _,(acP.mpr λb pV=>?_).symm⟩
      rcases MapKept.findNow_spec hk es.toList 0 Ve with⟨_,g1⟩|⟨j',e,g1,_,_⟩
      · exact @decide_eq_true _ (Classical.propDecidable _) (g1 b pV)
      · rw[h1]at g1;cases g1
    simp[Builtin.delete_,run_underlying hm,MapKept.run_getObj_map hb,MapKept.run_checkKey hd hk,MapKept.run_findKey hd h1,MapKept.run_setObj_map _ hb,Result.andThen]
  | some q=>
    obtain⟨j,u⟩:=q;rw[FJ]at h1 hp;have hp:Mh m x=m.eraseIdx j:=hp
    have el:(es.eraseIdxIfInBounds j).toList=es.toList.eraseIdx j:=by
      unfold Array.eraseIdxIfInBounds
      split
      · simp
      · rw[List.eraseIdx_of_length_le (by simp;omega)]
    refine⟨_,⟨mH hb (EU:=es.eraseIdxIfInBounds j) (wW:=clock) ?_ ?_ (MapKept.stamped_erase tB j),λMn ck0 h0=>?_⟩,?_⟩
    rotate_left
    rotate_left
    · rw[hb]at h0;cases h0
      refine⟨_,KK _,?_⟩
      rcases MapKept.findNow_spec hk es.toList 0 Ve with⟨g1,_⟩|⟨j',e,g1,g2,g3⟩
      · rw[h1]at g1;cases g1
      · rw[h1]at g1
        have ej:j=j':=(by simp at g1;omega);subst ej;rw[el,erase_filter es.toList j e (by simpa using g2) tB.2.2,g3]
    rotate_left
    · rw[hp,C5,<-he,<-C5,el]
    · intro p uY
      rw[hp]at uY;exact hf p ((List.eraseIdx_sublist _ _).subset uY)
    · simp[Builtin.delete_,run_underlying hm,MapKept.run_getObj_map hb,MapKept.run_checkKey hd hk,MapKept.run_findKey hd h1,MapKept.run_setObj_map _ hb,Result.andThen]
theorem Rb : ∀{l:List MapEntry},(l.map (·.born)).Nodup->∀{x y:MapEntry},x∈l->y∈l->x.born=y.born->x=y
  | [],_,_,_,hx,_,_=>by cases hx
  | a::r,hn,x,y,hx,hy,e=>by
    rw[lI,VB]at hn;have no:∀z,z∈r->z.born≠a.born:=λz hz e=>hn.1 (jc.mpr ⟨z,hz,e⟩)
    rcases fO.mp hx with h1|h1
    · rcases fO.mp hy with h2|h2
      · rw[h1,h2]
      · exact absurd (by rw[<-e,h1]) (no y h2)
    · rcases fO.mp hy with h2|h2
      · exact absurd (by rw[e,h2]) (no x h1)
      · exact Rb hn.2 h1 h2 e
theorem Mo{m:BC}{x:mC}{es:List MapEntry}(hx:mn (ar (.int .i64)) x=true)(he:es.map (λe=>(e.key,e.val))=(mI m).map (λp=>(nQ (ar (.int .i64)) p.1,p.2))):(∀e∈es,MapKept.IsKey (.int .i64) e.key)/\∀(j:Nat) (e:MapEntry),es[j]?=some e->∃z:Int,e.val = .int .i64 z:=by
  constructor
  · intro e Ra
    have:(e.key,e.val)∈es.map (λe=>(e.key,e.val)):=jc.mpr ⟨e,Ra,rfl⟩;rw[he]at this;obtain⟨p,hp,e1⟩:=jc.mp this;obtain⟨q,_,rfl⟩:=jc.mp hp;have e1:nQ (ar (.int .i64)) (.i q.1)=e.key:=congrArg Prod.fst e1;rw[<-e1];exact ur rfl
  · intro j e hj
    have hi:(es.map (λe=>(e.key,e.val)))[j]?=((mI m).map (λp=>(nQ (ar (.int .i64)) p.1,p.2)))[j]?:=(by rw[he]);rw[jH,hj,mI,qJ,jH]at hi
    cases hm:m[j]? with
    | none=>rw[hm]at hi;cases hi
    | some p=>
      rw[hm]at hi;have:=(Option.some.inj hi);exact⟨p.2,congrArg Prod.snd this⟩
theorem Mp{m:BC}(hm:P.underlying t=some (.map kt et))(hd:P.underlying kt=some (.int .i64))(hz:(zeroValue et).run P w = .ok (.int .i64 0) w)(hA:nK (.int .i64) w.heap r (mI m))(hx:mn (.int .i64) x=true) :
    ∃(z s:Int) (h':ad),VG w.heap r m x z s h'/\(Instr.mapEntry t (.map (some r)) (nQ (.int .i64) x)).run P w = .ok (.tuple #[.int .i64 z,.int .i64 s]) { w with heap:=h' }:=by
  have hA:nK (ar (.int .i64)) w.heap r (mI m):=hA;have hx:mn (ar (.int .i64)) x=true:=hx;obtain⟨es,clock,hb,he,hf,tB⟩:=hA;have hk:=ur hx;have h1:=rS hx es.toList (mI m) 0 he hf;obtain⟨Ve,hvs⟩:=Mo hx he;have KK:∀o:Obj,(w.heap.setIfInBounds r o)[r]?=some o:=λo=>(MapKept.heap_set hb).1;show ∃(z s:Int) (h':ad),VG w.heap r m x z s h'/\(Instr.mapEntry t (.map (some r)) (nQ (ar (.int .i64)) x)).run P w=_
  cases FJ:qN (mI m) x 0 with
  | none=>
    obtain⟨hp,_⟩:=yd (mI m) x (.int .i64 0) 0;rw[FJ]at h1 hp
    have fP:∀y∈es.toList,y.key≠nQ (ar (.int .i64)) x:=by
      rcases MapKept.findNow_spec hk es.toList 0 Ve with⟨_,g1⟩|⟨j',e,g1,g2,g3⟩
      · exact g1
      · rw[h1]at g1;cases g1
    refine⟨0,clock,_,⟨mH (dc:=.int .i64) (m':=zP (mI m) x (.int .i64 0)) hb (EU:=es.push { key:=nQ (ar (.int .i64)) x,val:=.int .i64 0,born:=clock }) (wW:=clock+1) (by rw[hp,eT,acL,eT,he];rfl) ?_ (MapKept.stamped_push tB fP),⟨_,_,_,KK _,by rw[acL];exact Tb _ (kU.mpr rfl),rfl,rfl⟩⟩,?_⟩
    · intro p uY
      rw[hp]at uY
      rcases nB.mp uY with h|h
      · exact hf p h
      · rw[kU.mp h];exact hx
    · simp[Instr.mapEntry,run_underlying hm,MapKept.run_getObj_map hb,MapKept.run_checkKey hd hk,MapKept.run_findKey hd h1,hz,MapKept.run_setObj_map _ hb,Result.andThen,goInt]
  | some q=>
    obtain⟨j,u⟩:=q;rw[FJ]at h1
    rcases MapKept.findNow_spec hk es.toList 0 Ve with⟨g1,_⟩|⟨j',e,g1,g2,g3⟩
    · rw[h1]at g1;cases g1
    · rw[h1]at g1
      have ej:j=j':=(by simp at g1;omega);have eu:u=e.val:=(by simp at g1;exact g1.2);subst ej;have hj:es[j]?=some e:=(by simpa using g2);obtain⟨z,hz'⟩:=hvs j e g2;obtain⟨hp,_⟩:=yd (mI m) x (.int .i64 z) 0;rw[FJ]at hp;have hp:zP (mI m) x (.int .i64 z)=(mI m).set j (x,.int .i64 z):=hp;refine⟨z,e.born,_,⟨mH (dc:=.int .i64) (m':=zP (mI m) x (.int .i64 z)) hb (EU:=es.modify j λe=>{ e with key:=nQ (ar (.int .i64)) x }) (wW:=clock) ?_ ?_ (MapKept.stamped_modify tB j _ (λ_ _=>rfl) λe' _ h'=>by rw[hj]at h';cases h';exact g3.symm),⟨_,_,{ e with key:=nQ (ar (.int .i64)) x },KK _,?_,rfl,rfl⟩⟩,?_⟩
      · rw[hp]
        apply Kw;intro i;have hi:(es.toList.map (λe=>(e.key,e.val)))[i]?=((mI m).map (λp=>(nQ (ar (.int .i64)) p.1,p.2)))[i]?:=(by rw[he]);rw[jH,jH,S5]at hi;simp only[jH,S5,Vz,acO]
        by_cases OK:j=i
        · subst OK
          have hl:j<(mI m).length:=by
            rcases rI j (mI m).length with h|h
            · exact h
            · rw[hj,CU h]at hi;simp at hi
          simp[hj,hl,hz']
        · simp[OK,hi]
      · intro p uY
        rw[hp]at uY
        rcases OX uY with h|h
        · exact hf p h
        · rw[h];exact hx
      · refine Fv (i:=j) ?_
        simp[hj]
      · simp[Instr.mapEntry,run_underlying hm,MapKept.run_getObj_map hb,MapKept.run_checkKey hd hk,MapKept.run_findKey hd h1,hj,g3,MapKept.run_keyThatStays hk,MapKept.run_setObj_map _ hb,Result.andThen,eu,hz',goInt]
theorem Ie{m:BC}{s z:Int}(hA:nK (.int .i64) w.heap r (mI m))(hS:acW w.heap r x s)(hx:mn (.int .i64) x=true) :
    ∃h',MapTo (.int .i64) w.heap r (zP (mI m) x (.int .i64 z)) h'/\(Instr.entryStore t (.map (some r)) (.int .i64 s) (.int .i64 z)).run P w = .ok () { w with heap:=h' }:=by
  have hA:nK (ar (.int .i64)) w.heap r (mI m):=hA;have hx:mn (ar (.int .i64)) x=true:=hx;obtain⟨es,clock,hb,he,hf,tB⟩:=hA;obtain⟨YG,ck2,e,OL,xK,agw,EH⟩:=hS;rw[hb]at OL
  cases OL
  have hk:=ur hx;have h1:=rS hx es.toList (mI m) 0 he hf;obtain⟨Ve,_⟩:=Mo hx he;obtain⟨hp,_⟩:=yd (mI m) x (.int .i64 z) 0
  cases FJ:qN (mI m) x 0 with
  | none=>
    rw[FJ]at h1
    rcases MapKept.findNow_spec hk es.toList 0 Ve with⟨_,g1⟩|⟨j',e,g1,g2,g3⟩
    · exact absurd EH (g1 e xK)
    · rw[h1]at g1;cases g1
  | some q=>
    obtain⟨j,u⟩:=q;rw[FJ]at h1 hp;have hp:zP (mI m) x (.int .i64 z)=(mI m).set j (x,.int .i64 z):=hp
    rcases MapKept.findNow_spec hk es.toList 0 Ve with⟨g1,_⟩|⟨j',e',g1,g2,g3⟩
    · rw[h1]at g1;cases g1
    · rw[h1]at g1
      have ej:j=j':=(by simp at g1;omega);subst ej;have hj:es[j]?=some e':=by simpa using g2
      have DR:j<es.size:=by
        rcases rI j es.size with h|h
        · exact h
        · rw[lw4 h]at hj;cases hj
      have hje:es[j]=e':=by rw[agd DR]at hj;exact Option.some.inj hj
      have ac4:∀{l:List MapEntry},(l.map (·.key)).Nodup->∀{x y:MapEntry},x∈l->y∈l->x.key=y.key->x=y:=by
        intro l hn x y hx hy e
        induction l with
        | nil=>cases hx
        | cons a r ih=>
          rw[lI,VB]at hn;have no:∀z,z∈r->z.key≠a.key:=λz hz e=>hn.1 (jc.mpr ⟨z,hz,e⟩)
          rcases fO.mp hx with h1|h1
          · rcases fO.mp hy with h2|h2
            · rw[h1,h2]
            · exact absurd (by rw[<-e,h1]) (no y h2)
          · rcases fO.mp hy with h2|h2
            · exact absurd (by rw[e,h2]) (no x h1)
            · exact ih hn.2 h1 h2
      have Ra:e=e':=ac4 tB.2.2 xK (Fv g2) (EH.trans g3.symm);subst Ra
      have agx:es.findIdx? (λa=>(a.born:Int)==s)=some j:=by
        rw[Array.findIdx?_eq_some_iff_getElem];refine⟨DR,by rw[hje];simpa using agw,λi OK=>?_⟩;have hil:i<es.size:=oX;intro hc;have hc:(es[i].born:Int)=s:=(by simpa using hc);have:es[i]=es[j]:=Rb tB.2.1 (by simp) (by simp) (by rw[hje];omega);have nd:(es.toList.map (·.born)).Nodup:=tB.2.1;have h2:=(List.getElem_inj (xs:=es.toList.map (·.born)) (i:=i) (j:=j) (h₀:=by simp;omega) (h₁:=by simp;omega) nd).mp (by simp[this]);omega
      refine⟨_,mH (dc:=.int .i64) (m':=zP (mI m) x (.int .i64 z)) hb (EU:=es.modify j λe=>{ e with val:=.int .i64 z }) (wW:=clock) ?_ ?_ (MapKept.stamped_modify tB j _ (λ_ _=>rfl) λe' _ h'=>rfl),?_⟩
      · rw[hp]
        apply Kw;intro i;have hi:(es.toList.map (λe=>(e.key,e.val)))[i]?=((mI m).map (λp=>(nQ (ar (.int .i64)) p.1,p.2)))[i]?:=(by rw[he]);rw[jH,jH,S5]at hi;simp only[jH,S5,Vz,acO]
        by_cases OK:j=i
        · subst OK
          have hl:j<(mI m).length:=by
            rcases rI j (mI m).length with h|h
            · exact h
            · rw[hj,CU h]at hi;simp at hi
          simp[hj,hl,g3]
        · simp[OK,hi]
      · intro p uY
        rw[hp]at uY
        rcases OX uY with h|h
        · exact hf p h
        · rw[h];exact hx
      · simp[Instr.entryStore,MapKept.run_getObj_map hb,asInt,asIntOf,agx,MapKept.run_setObj_map _ hb,Result.andThen]
theorem TC{q:Option Nat}{z:Value}{ok:Bool}(hm:P.underlying t=some (.map kt et))(hd:P.underlying kt=some dc)(hz:(zeroValue et).run P w = .ok z w)(hA:match q with|none=>m=[]|some r=>nK (ar dc) w.heap r m)(hx:mn (ar dc) x=true) :
    (Instr.lookup t (.map q) (nQ (ar dc) x) ok).run P w = .ok (bif ok then .tuple #[(nD m x).getD z,.bool (nD m x).isSome]else(nD m x).getD z) w:=by
  have hk:=ur hx
  cases q with
  | none=>
    have hA:m=[]:=hA;subst hA;have h1:=rS hx [] [] 0 rfl (λ_ h=>by cases h)
    cases ok <;> simp[Instr.lookup,run_underlying hm,MapKept.run_checkKey hd hk,MapKept.run_findKey hd h1,qN,hz,nD,Result.andThen]
  | some r=>
    obtain⟨es,clock,hb,he,hf,tB⟩:=hA;have h1:=rS hx es.toList m 0 he hf;rw[IZ m x 0]
    cases FJ:qN m x 0 with
    | none=>
      rw[FJ]at h1
      cases ok <;> simp[Instr.lookup,run_underlying hm,MapKept.run_getObj_map hb,MapKept.run_checkKey hd hk,MapKept.run_findKey hd h1,hz,Result.andThen]
    | some p=>
      rw[FJ]at h1
      cases ok <;> simp[Instr.lookup,run_underlying hm,MapKept.run_getObj_map hb,MapKept.run_checkKey hd hk,MapKept.run_findKey hd h1,Result.andThen]
theorem I'{q:Option Nat}{ty:TypeId}(hm:P.underlying t=some (.map kt et))(hA:match q with|none=>m=[]|some r=>nK (ar dc) w.heap r m) :
    (Builtin.len_ #[t] ty #[.map q]).run P w = .ok (.int .i64 (m.length:Int)) w:=by
  cases q with
  | none=>
    have hA:m=[]:=hA;subst hA;simp[Builtin.len_,run_underlying hm,goInt]
  | some r=>
    obtain⟨es,clock,hb,he,hf,tB⟩:=hA;have hl:=congrArg List.length he;simp only[aP]at hl;have:es.size=m.length:=(by rw[<-hl];simp);simp[Builtin.len_,run_underlying hm,MapKept.run_getObj_map hb,goInt,this]
end
theorem zd{d:D}{v:Value}{k:mC->Prop}(h:Mg d v k):∃x,mn d x=true/\v=nQ d x/\k x/\d≠.other:=by
  cases d <;> cases v <;> try exact h.elim
  · rename_i kd Kz n
    simp only[Mg]at h
    cases hk:nC kd Kz with
    | false=>rw[hk]at h;exact h.elim
    | true=>
      rw[hk]at h;obtain rfl:=oO hk;exact⟨.i n,rfl,rfl,h,by intro e;cases e⟩
  · rename_i s
    refine⟨.s s.toList,rfl,?_,h,by intro e;cases e⟩;show Value.string s = .string (mkStr s.toList);congr 1;obtain⟨⟨l⟩⟩:=s;simp[mkStr]
theorem Ja : ∀(l:LB) (c:UInt8),wU l c=Lib.indexByte l c
  | [],_=>rfl
  | b::l,c=>by rw[wU,Lib.indexByte,Ja l c]
theorem agy {P:Program} {g:Nat} {fn:Func} (hf : P.funcs[g]? = some fn) (hn : (fn.name == "runtime.NumGoroutine") = false) (hb : fn.body.isNone = true) (hx : Extern.findNext fn = none) (he : Extern.find fn = some Extern.BytealgIndexByte.indexByte) : Q4 P g := by
  intro s c w;rw[run_callFunc_extern hf hn hb hx he,Lib.run_indexByteString,Ja];have:s.toList=s.data.toList:=by obtain⟨⟨l⟩⟩:=s;simp
  rw[this];rfl
theorem sW : ∀(ks:List D) (ls:List D) (xs ys:LV),dr (ks++ls) xs ys=true->dr ks (xs.take ks.length) (ys.take ks.length)=true/\dr ls (xs.drop ks.length) (ys.drop ks.length)=true/\
    cQ xs ys=(cQ (xs.take ks.length) (ys.take ks.length) && cQ (xs.drop ks.length) (ys.drop ks.length))
  | [],ls,xs,ys,h=>⟨rfl,h,by simp[cQ]⟩
  | k::ks,ls,xs,ys,h=>by
    cases xs with
    | nil=>cases k <;> simp[dr]at h
    | cons x xs=>
      cases ys with
      | nil=>cases k <;> cases x <;> simp[dr]at h
      | cons y ys=>
        cases k <;> cases x <;> cases y <;> simp[dr]at h
        · obtain⟨h1,h2,h3⟩:=sW ks ls xs ys h
          exact⟨by simpa[dr]using h1,by simpa using h2,by simp[cQ,h3,acQ]⟩
        · obtain⟨h1,h2,h3⟩:=sW ks ls xs ys h.2
          exact⟨by simp[dr,h.1.1,h.1.2,h1],by simpa using h2,by simp[cQ,h3,acQ]⟩
        · obtain⟨h1,h2,h3⟩:=sW ks ls xs ys h
          exact⟨by simpa[dr]using h1,by simpa using h2,by simp[cQ,h3,acQ]⟩
theorem ye : ∀(ks:List D) (xs ys:LV),dr ks xs ys=true->xs.length=ks.length/\ys.length=ks.length
  | [],xs,ys,h=>by cases xs <;> cases ys <;> simp[dr]at *
  | k::ks,xs,ys,h=>by
    cases xs with
    | nil=>cases k <;> simp[dr]at h
    | cons x xs=>
      cases ys with
      | nil=>cases k <;> cases x <;> simp[dr]at h
      | cons y ys=>
        have:dr ks xs ys=true:=(by cases k <;> cases x <;> cases y <;> simp[dr]at h <;> first|exact h|exact h.2);have:=ye ks xs ys this;simp;omega
theorem yf{α β:Type}{P:Program}(body:α->β->Sem (ForInStep β))(b0 bF:β)(p:α->Bool)(w:World):∀l:List α,(∀a∈l,(body a b0).run P w = .ok (if p a then .yield b0 else .done bF) w)->
    (forIn l b0 body).run P w = .ok (if l.all p then b0 else bF) w
  | [],_=>by simp[Sem.run_pure]
  | a::l,h=>by
    have h1:=h a kj;rw[List.forIn_cons,Sem.run_bind,h1]
    cases hp:p a with
    | true=>
      simp only[if_true,Result.andThen_ok];rw[yf body b0 bF p w l λx hx=>h x (gV _ hx)];simp[hp]
    | false=>simp[hp,Sem.run_pure]
def KL(P:Program)(n t:Nat)(ks:List D):Prop:=
  ∀(X Y:Array Value) (o o':Nat),dr ks ((X.toList.drop o).take ks.length) ((Y.toList.drop o').take ks.length)=true->
    ∃x y,(∀w,(part t X o).run P w = .ok x w)/\(∀w,(part t Y o').run P w = .ok y w)/\∀w,(Op.equalIn n t x y).run P w = .ok (cQ ((X.toList.drop o).take ks.length) ((Y.toList.drop o').take ks.length)) w
theorem FK{P:Program}{n:Nat}{g:Nat->Option (List D)}(hg:∀ u ks,g u=some ks->KL P n u ks)(X Y:Array Value):∀(fs:List Field) (off:Nat) (ks:List D),wV g fs off=some ks->
    dr ks ((X.toList.drop off).take ks.length) ((Y.toList.drop off).take ks.length)=true->
    (∀ fd ∈ fs, fd.name ≠ "_" ∧ ∃ x y, (∀ w, (part fd.type X fd.offset).run P w = .ok x w) ∧ (∀ w, (part fd.type Y fd.offset).run P w = .ok y w) ∧
      ∀w,(Op.equalIn n fd.type x y).run P w = .ok (cQ ((X.toList.drop fd.offset).take ((g fd.type).getD []).length) ((Y.toList.drop fd.offset).take ((g fd.type).getD []).length)) w)/\
    (fs.all λfd=>cQ ((X.toList.drop fd.offset).take ((g fd.type).getD []).length) ((Y.toList.drop fd.offset).take ((g fd.type).getD []).length))=cQ ((X.toList.drop off).take ks.length) ((Y.toList.drop off).take ks.length)
  | [],off,ks,h,_=>by
    simp only[wV,Option.some.injEq]at h;subst h;exact⟨λfd hfd=>absurd hfd List.not_mem_nil,rfl⟩
  | fd::fs,off,ks,h,hp=>by
    rw[wV]at h
    cases hn : (fd.name == "_") with
    | true=>rw[hn]at h;cases h
    | false=>
    rw[hn,cond_false]at h
    cases ho:Nat.beq fd.offset off with
    | false=>rw[ho]at h;cases h
    | true=>
    rw[ho,cond_true]at h;have ho:=xP ho
    cases hk:g fd.type with
    | none=>rw[hk]at h;cases h
    | some k1=>
    rw[hk]at h;have h:(wV g fs (off+k1.length)).map (k1 ++ ·)=some ks:=h
    cases hr:wV g fs (off+k1.length)with
    | none=>rw[hr]at h;cases h
    | some k2=>
    rw[hr]at h;have h:k1++k2=ks:=Option.some.inj h;subst h;obtain⟨p1,p2,p3⟩:=sW k1 k2 _ _ hp;have hl:k1.length+k2.length=(k1++k2).length:=(by rw[bg]);have t1:∀l:LV,(((l.drop off).take (k1++k2).length).take k1.length)=(l.drop off).take k1.length:=λl=>by rw[Y6];congr 1;omega
    have t2:∀l:LV,(((l.drop off).take (k1++k2).length).drop k1.length)=(l.drop (off+k1.length)).take k2.length:=λl=>by rw[agf,Bv];congr 1;omega
    rw[t1,t1]at p1 p3;rw[t2,t2]at p2 p3;obtain⟨q1,q2⟩:=FK hg X Y fs (off+k1.length) k2 hr p2;refine⟨λx hx=>?_,?_⟩
    · rcases fO.mp hx with rfl|hx
      · refine⟨beq_eq_false_iff_ne.mp hn,?_⟩
        have:=hg _ _ hk X Y x.offset x.offset (by rw[ho];exact p1);rw[hk];exact this
      · exact q1 x hx
    · rw[Mc,q2,p3,hk,ho];rfl
theorem Ab{P:Program}{n e:Nat}{ks:List D}(hg:KL P n e ks)(X Y:Array Value):∀(len i:Nat),
    dr (List.replicate len ks).flatten ((X.toList.drop (i*ks.length)).take (len*ks.length)) ((Y.toList.drop (i*ks.length)).take (len*ks.length))=true->
    (∀j∈List.range' i len,∃x y,(∀w,(part e X (j*ks.length)).run P w = .ok x w)/\(∀w,(part e Y (j*ks.length)).run P w = .ok y w)/\
      ∀w,(Op.equalIn n e x y).run P w = .ok (cQ ((X.toList.drop (j*ks.length)).take ks.length) ((Y.toList.drop (j*ks.length)).take ks.length)) w)/\
    ((List.range' i len).all λj=>cQ ((X.toList.drop (j*ks.length)).take ks.length) ((Y.toList.drop (j*ks.length)).take ks.length))=cQ ((X.toList.drop (i*ks.length)).take (len*ks.length)) ((Y.toList.drop (i*ks.length)).take (len*ks.length))
  | 0,i,_=>⟨λj hj=>by simp at hj,by simp[cQ]⟩
  | len+1,i,hp=>by
    rw[uW,H6]at hp;obtain⟨p1,p2,p3⟩:=sW ks _ _ _ hp;have hm:(len+1)*ks.length=ks.length+len*ks.length:=(by rw[Mb,OU,acK]);have t1:∀l:LV,((l.take ((len+1)*ks.length)).take ks.length)=l.take ks.length:=λl=>by rw[Y6];congr 1;omega
    have t2:∀l:LV,(((l.drop (i*ks.length)).take ((len+1)*ks.length)).drop ks.length)=(l.drop ((i+1)*ks.length)).take (len*ks.length):=λl=>by
      rw[agf,Bv,hm,Mb,OU];congr 1;omega
    rw[t1,t1]at p1 p3;rw[t2,t2]at p2 p3;obtain⟨q1,q2⟩:=Ab hg X Y len (i+1) p2;refine⟨λj hj=>?_,?_⟩
    · rw[agh]at hj
      rcases fO.mp hj with rfl|hj
      · exact hg X Y _ _ p1
      · exact q1 j hj
    · rw[agh,Mc,q2,p3]
theorem ze{X:Array Value}{o:Nat}{v:Value}(h:(X.toList.drop o).take 1=[v]):X[o]?=some v:=by
  have:=congrArg (·[0]?) h;simpa using this
theorem ac5{ks:List D}{l m:LV}(h:dr ks l m=true)(hk:ks.length=1):∃x y,l=[x]/\m=[y]:=by
  obtain⟨h1,h2⟩:=ye _ _ _ h
  match l,m,h1,h2 with
  | [x],[y],_,_=>exact⟨x,y,rfl,rfl⟩
  | [],_,h1,_=>simp at h1;omega
  | _::_::_,_,h1,_=>simp at h1;omega
  | [_],[],_,h2=>simp at h2;omega
  | [_],_::_::_,_,h2=>simp at h2;omega
theorem vV{P:Program}{d:TypeDesc}(hd:P.underlying t=some d)(ha:jN (ar d)=false){X:Array Value}{o:Nat}{v:Value}(h:X[o]?=some v)(w:World):(part t X o).run P w = .ok v w:=by
  unfold part;simp only[Sem.run_bind,qL hd,ha,Result.andThen_ok,Ay,if_false,h,Sem.run_pure]
theorem vW{P:Program}{d:TypeDesc}{i:TypeInfo}(hd:P.underlying t=some d)(hi:P.info? t=some i)(ha:jN (ar d)=true)(X:Array Value)(o:Nat)(w:World):(part t X o).run P w = .ok (.agg (X.extract o (o+i.size))) w:=by
  unfold part;simp only[Sem.run_bind,qL hd,ha,Result.andThen_ok,if_true,cy hi,Sem.run_pure]
theorem Jb{P:Program}{f:Nat}{ks:List D}(h:flatK P f t=some ks):∃i,P.info? t=some i/\i.size=ks.length:=by
  cases f with
  | zero=>cases h
  | succ f=>
    rw[flatK]at h;generalize Q3 P (flatK P f) t=q at h;unfold VI at h
    cases q with
    | none=>cases h
    | some k0=>
    cases hi:P.info? t with
    | none=>rw[hi]at h;cases h
    | some i=>
    rw[hi]at h
    cases hz:Nat.beq i.size k0.length with
    | false=>simp only[hz]at h;cases h
    | true=>
    simp only[hz]at h;have h:k0=ks:=Option.some.inj h;subst h;exact⟨i,rfl,xP hz⟩
theorem VT{P:Program}:∀(f t:Nat) (ks:List D),flatK P f t=some ks->∀n,f<=n->KL P n t ks:=by
  intro f
  induction f with
  | zero=>intro t ks h;cases h
  | succ f ih=>
    intro t ks h n hn X Y o o' hp;obtain⟨n,rfl⟩:∃m,n=m+1:=⟨n-1,oX⟩;rw[flatK]at h;generalize hq:Q3 P (flatK P f) t=q at h;unfold Q3 at hq;unfold VI at h
    cases q with
    | none=>cases h
    | some k0=>
    cases hi:P.info? t with
    | none=>rw[hi]at h;cases h
    | some i=>
    rw[hi]at h
    cases hz:Nat.beq i.size k0.length with
    | false=>simp only[hz]at h;cases h
    | true=>
    simp only[hz]at h;have hz:=xP hz;have h:k0=ks:=Option.some.inj h;subst h
    cases hd:P.underlying t with
    | none=>rw[hd]at hq;cases hq
    | some d=>
    rw[hd]at hq
    cases d with
    | int k=>
      have hq:[D.int k]=k0:=Option.some.inj hq;subst hq;obtain⟨x,y,e1,e2⟩:=ac5 hp rfl;rw[e1,e2]at hp ⊢;refine⟨x,y,vV hd rfl (ze e1),vV hd rfl (ze e2),λw=>?_⟩
      cases x <;> cases y <;> simp[dr]at hp
      obtain⟨h1,h2⟩:=hp;obtain rfl:=oO h1;obtain rfl:=oO h2;simp[Op.equalIn,run_underlying hd,cQ,Result.andThen]
    | string=>
      have hq:[D.str]=k0:=Option.some.inj hq;subst hq;obtain⟨x,y,e1,e2⟩:=ac5 hp rfl;rw[e1,e2]at hp ⊢;refine⟨x,y,vV hd rfl (ze e1),vV hd rfl (ze e2),λw=>?_⟩
      cases x <;> cases y <;> simp[dr]at hp
      rename_i a b
      have:(a==b)=(a.toList==b.toList):=by
        rw[Bool.eq_iff_iff,MapKept.bytes_beq,beq_iff_eq]
        exact⟨λh=>by rw[h],λh=>by
          have:mkStr a.toList=mkStr b.toList:=(by rw[h]);obtain⟨⟨l⟩⟩:=a;obtain⟨⟨m⟩⟩:=b
          simpa[mkStr]using this⟩
      simp[Op.equalIn,run_underlying hd,cQ,Result.andThen,this]
    | bool=>
      have hq:[D.bool]=k0:=Option.some.inj hq;subst hq;obtain⟨x,y,e1,e2⟩:=ac5 hp rfl;rw[e1,e2]at hp ⊢;refine⟨x,y,vV hd rfl (ze e1),vV hd rfl (ze e2),λw=>?_⟩
      cases x <;> cases y <;> simp[dr]at hp
      simp[Op.equalIn,run_underlying hd,cQ,Result.andThen]
    | struct fs=>
      have hq:(bif P.stoodInHeld t then none else wV (flatK P f) fs.toList 0)=some k0:=hq
      cases hs:P.stoodInHeld t with
      | true=>rw[hs]at hq;cases hq
      | false=>
      rw[hs]at hq;have hq:wV (flatK P f) fs.toList 0=some k0:=hq
      have ex:∀(Z:Array Value) (b:Nat),((Z.extract b (b+i.size)).toList.drop 0).take k0.length=(Z.toList.drop b).take k0.length:=λZ b=>by
        rw[mW,Y4,Y7,Y6];congr 1;omega
      have uY:dr k0 (((X.extract o (o+i.size)).toList.drop 0).take k0.length) (((Y.extract o' (o'+i.size)).toList.drop 0).take k0.length)=true:=(by rw[ex,ex];exact hp);obtain⟨q1,q2⟩:=FK (n:=n) (λu ks hu=>ih u ks hu n oX) _ _ fs.toList 0 k0 hq uY;rw[ex,ex]at q2;refine⟨_,_,vW hd hi rfl X o,vW hd hi rfl Y o',λw=>?_⟩;rw[Op.equalIn];simp only[Sem.run_bind,run_underlying hd,Result.andThen_ok,run_program,hs,Ay,if_false];rw[<-Array.forIn_toList,yf _ _ ⟨some false,()⟩ (λfd=>cQ (((X.extract o (o+i.size)).toList.drop fd.offset).take ((flatK P f fd.type).getD []).length) (((Y.extract o' (o'+i.size)).toList.drop fd.offset).take ((flatK P f fd.type).getD []).length)) w]
      · rw[q2]
        cases cQ ((X.toList.drop o).take k0.length) ((Y.toList.drop o').take k0.length) <;> simp[Sem.run_pure]
      · intro fd hfd
        obtain⟨fP,x,y,e1,e2,e3⟩:=q1 fd hfd;rw[if_pos fP];simp only[Sem.run_bind,e1,e2,e3,Result.andThen_ok]
        cases cQ (((X.extract o (o+i.size)).toList.drop fd.offset).take ((flatK P f fd.type).getD []).length) (((Y.extract o' (o'+i.size)).toList.drop fd.offset).take ((flatK P f fd.type).getD []).length) <;> simp[Sem.run_pure]
    | array len e=>
      have hq:(flatK P f e).map (λks=>(List.replicate len ks).flatten)=some k0:=hq
      cases he:flatK P f e with
      | none=>rw[he]at hq;cases hq
      | some k1=>
      rw[he]at hq;have hq:(List.replicate len k1).flatten=k0:=Option.some.inj hq;subst hq;have hL:(List.replicate len k1).flatten.length=len*k1.length:=(by simp);obtain⟨ie,hie,Ia⟩:=Jb he
      have ex:∀(Z:Array Value) (b:Nat),((Z.extract b (b+i.size)).toList.drop (0*k1.length)).take (len*k1.length)=(Z.toList.drop b).take (List.replicate len k1).flatten.length:=λZ b=>by
        rw[Nat.zero_mul,mW,Y4,Y7,Y6];congr 1;omega
      have uY:dr (List.replicate len k1).flatten (((X.extract o (o+i.size)).toList.drop (0*k1.length)).take (len*k1.length)) (((Y.extract o' (o'+i.size)).toList.drop (0*k1.length)).take (len*k1.length))=true:=(by rw[ex,ex];exact hp);obtain⟨q1,q2⟩:=Ab (n:=n) (ih e k1 he n oX) _ _ len 0 uY;rw[ex,ex]at q2;refine⟨_,_,vW hd hi rfl X o,vW hd hi rfl Y o',λw=>?_⟩;rw[Op.equalIn];simp only[Sem.run_bind,run_underlying hd,Result.andThen_ok,cy hie,Ia];rw[Std.Legacy.Range.forIn_eq_forIn_range'];simp only[Std.Legacy.Range.size,Nat.sub_zero,Nat.add_sub_cancel,Nat.div_one];rw[yf _ _ ⟨some false,()⟩ (λj=>cQ (((X.extract o (o+i.size)).toList.drop (j*k1.length)).take k1.length) (((Y.extract o' (o'+i.size)).toList.drop (j*k1.length)).take k1.length)) w]
      · rw[q2]
        cases cQ ((X.toList.drop o).take (List.replicate len k1).flatten.length) ((Y.toList.drop o').take (List.replicate len k1).flatten.length) <;> simp[Sem.run_pure]
      · intro j hj
        obtain⟨x,y,e1,e2,e3⟩:=q1 j hj;simp only[Sem.run_bind,e1,e2,e3,Result.andThen_ok]
        cases cQ (((X.extract o (o+i.size)).toList.drop (j*k1.length)).take k1.length) (((Y.extract o' (o'+i.size)).toList.drop (j*k1.length)).take k1.length) <;> simp[Sem.run_pure]
    | _=>cases hq
theorem Jc : ∀{a b:List D},C0 a b=true->a=b
  | [],[],_=>rfl
  | [],_::_,h=>by simp[C0]at h
  | _::_,[],h=>by simp[C0]at h
  | a::r,b::s,h=>by
    simp only[C0,dB]at h
    have h1:a=b:=by
      have:=h.1
      cases a <;> cases b <;> simp[aa6]at this <;> first|rfl|(rw[oO this])
    rw[h1,Jc h.2]
theorem Jd{P:Program}{x:TI}(hx:dy P t x)(fP:x.eq≠[]){a b:Array Value}(hp:dr x.eq a.toList b.toList=true)(w:World) :
    (Op.equal t (.agg a) (.agg b)).run P w = .ok (cQ a.toList b.toList) w/\P.eqGuardType P.depth t=false:=by
  have h:=hx.eqs;unfold VJ at h
  split at h
  · rename_i he;exact absurd he fP
  rename_i ks Ve
  cases hf:flatK P 6 t with
  | none=>rw[hf]at h;cases h
  | some l=>
  rw[hf]at h;simp only[dB,Bool.not_eq_true']at h;obtain⟨⟨h1,h2⟩,hu⟩:=h;have h1:=Jc h1;rw[<-h1]at hf;refine⟨?_,h2⟩;obtain⟨i,d,z,hi,hd,AD,lV,_,_,_⟩:=hx.get;obtain⟨l1,l2⟩:=ye _ _ _ hp;have ta:a.toList.take x.eq.length=a.toList:=gL oX;have tb:b.toList.take x.eq.length=b.toList:=gL oX;obtain⟨i',tK,hs'⟩:=Jb hf;have hp0:dr x.eq ((a.toList.drop 0).take x.eq.length) ((b.toList.drop 0).take x.eq.length)=true:=by rw[mW,mW,ta,tb];exact hp
  obtain⟨u,v,e1,e2,e3⟩:=VT 6 t _ hf Op.maxDepth dX a b 0 0 hp0;rw[mW,mW,ta,tb]at e3
  cases ha:jN (ar d)with
  | true=>
    have g1:=vW hd tK ha a 0 w;have g2:=vW hd tK ha b 0 w;rw[e1]at g1;rw[e2]at g2
    have ea:a.extract 0 (0+i'.size)=a:=by
      apply tC;rw[Y4,Y7,mW,hs'];exact gL oX
    have eb:b.extract 0 (0+i'.size)=b:=by
      apply tC;rw[Y4,Y7,mW,hs'];exact gL oX
    rw[ea]at g1;rw[eb]at g2;have g1:u = .agg a:=(by injection g1);have g2:v = .agg b:=(by injection g2);have:=e3 w;rw[g1,g2]at this;exact this
  | false=>
    rw[hd]at hu
    cases d <;> simp[jN,ar]at ha hu
theorem Mq{q y:Nat×Operand}:∀{r:List (Nat×Operand)},y∈Az q r↔y=q∨y∈r
  | []=>by simp[Az]
  | x::r=>by
    rw[Az]
    cases Nat.ble q.1 x.1
    · show y∈x::Az q r↔_
      rw[fO,Mq,fO]
      constructor
      · rintro(h|h|h)
        · exact Or.inr (Or.inl h)
        · exact Or.inl h
        · exact Or.inr (Or.inr h)
      · rintro(h|h|h)
        · exact Or.inr (Or.inl h)
        · exact Or.inl h
        · exact Or.inr (Or.inr h)
    · exact fO
theorem C6{y:Nat×Operand}:∀{r:List (Nat×Operand)},y∈xy r↔y∈r
  | []=>Iff.rfl
  | x::r=>by rw[xy,Mq,C6,fO]
theorem iM{f:Fr}{x:Nat×Operand}{r:List (Nat×Operand)}(h:x.1≠i):eU f i (x::r)=eU f i r:=by
  obtain⟨j,o⟩:=x;rw[nh,show Nat.beq j i=false from by cases hb:Nat.beq j i with|false=>rfl|true=>exact absurd (xP hb) h];rfl
theorem ku{f:Fr}{x:Nat×Operand}{r:List (Nat×Operand)}(h:x.1=i):eU f i (x::r)=some (yc f x.2):=by
  obtain⟨j,o⟩:=x;have h:j=i:=h;subst h;rw[nh,show Nat.beq j j=true from vE j];rfl
theorem Ac{f:Fr}{i:Nat}{q:Nat×Operand}:∀{r:List (Nat×Operand)},(∀x∈r,x.1≠q.1)->eU f i (Az q r)=eU f i (q::r)
  | [],_=>rfl
  | x::r,h=>by
    rw[Az]
    cases Nat.ble q.1 x.1
    · show eU f i (x::Az q r)=_
      have hx:=h x (kj ..);have ih:=Ac (f:=f) (i:=i) (q:=q) (r:=r) λy hy=>h y (gV _ hy)
      by_cases hi:x.1=i
      · rw[ku hi,iM (x:=q) (by rw[<-hi];exact Ne.symm hx),ku hi]
      · rw[iM hi,ih]
        by_cases hq:q.1=i
        · rw[ku hq,ku hq]
        · rw[iM hq,iM hq,iM hi]
    · rfl
theorem FL{f:Fr}{q:Nat×Operand}{r s:List (Nat×Operand)}(h:eU f i r=eU f i s):eU f i (q::r)=eU f i (q::s):=by
  by_cases hq:q.1=i
  · rw[ku hq,ku hq]
  · rw[iM hq,iM hq,h]
theorem Je{n:Nat}:∀{r:List (Nat×Operand)} {m:Nat},sorted n r m=true->∀x∈r,m<=x.1/\x.1<n
  | [],_,_,x,hx=>absurd hx (by simp)
  | (j,o)::r,m,h,x,hx=>by
    obtain⟨h1,h2,h3⟩:=jX h
    rcases fO.mp hx with rfl|hx
    · exact⟨h1,h2⟩
    · have:=Je h3 x hx;exact⟨oX,this.2⟩
theorem AG{n:Nat}{q:Nat×Operand}:∀{r:List (Nat×Operand)} {m:Nat},sorted n (Az q r) m=true->sorted n r m=true/\(∀x∈r,x.1≠q.1)/\q.1<n
  | [],m,h=>by
    obtain⟨_,h2,_⟩:=jX (x:=q.2) (j:=q.1) (r:=[]) h;exact⟨rfl,λx hx=>absurd hx (by simp),h2⟩
  | x::r,m,h=>by
    rw[Az]at h
    cases hb:Nat.ble q.1 x.1 with
    | true=>
      rw[hb]at h;have h:sorted n (q::x::r) m=true:=h;obtain⟨h1,h2,h3⟩:=jX (x:=q.2) (j:=q.1) h;have g:=Je h3;exact⟨Mm h3 oX,λy hy=>by have:=(g y hy).1;omega,h2⟩
    | false=>
      rw[hb]at h;have h:sorted n (x::Az q r) m=true:=h;obtain⟨h1,h2,h3⟩:=jX (x:=x.2) (j:=x.1) h;obtain⟨a,b,c⟩:=AG h3;have bV:¬q.1<=x.1:=λe=>by rw[OV e]at hb;cases hb
      refine⟨?_,λy hy=>?_,c⟩
      · obtain⟨j,o⟩:=x
        simp only[sorted,dB];exact⟨⟨OV h1,OV h2⟩,a⟩
      · rcases fO.mp hy with rfl|hy
        · omega
        · exact b y hy
theorem yg{f:Fr}{n m:Nat}:∀{r:List (Nat×Operand)},sorted n (xy r) m=true->∀i,eU f i (xy r)=eU f i r
  | [],_,_=>rfl
  | q::r,h,i=>by
    rw[xy]at h ⊢;obtain⟨a,b,_⟩:=AG h;rw[Ac b];exact FL (yg a i)
theorem tS{f:Fr}{Z:LV}{p1 p2:List (Nat×Operand)}(hf:∀ i,eU f i p1=eU f i p2){k:List LV->Prop}:∀{pB:List (Nat×Nat)} {i:Nat} {acc:List LV},kV f p1 Z pB i acc k->kV f p2 Z pB i acc k
  | [],_,_,h=>h
  | (off,size)::r,i,acc,h=>by
    simp only[kV]at h ⊢;rw[<-hf i]
    cases e:eU f i p1 with
    | none=>rw[e]at h;exact tS hf h
    | some o=>
      rw[e]at h
      cases o with
      | none=>exact h
      | some v=>
        simp only[ae]at h ⊢
        cases v with
        | agg a=>exact⟨h.1,tS hf h.2⟩
        | tuple _=>exact h
        | _=>
          cases hb:Nat.beq size 1
          · rw[hb]at h;exact h
          · rw[hb]at h;exact tS hf h
theorem EW(l c:LV)(o i:Nat)(h:o+c.length<=l.length):(l.take o++c++l.drop (o+c.length))[i]?=if o<=i/\i<o+c.length then c[i-o]? else l[i]?:=by
  have lt:(l.take o).length=o:=by rw[dL];omega
  by_cases h1:i<o
  · rw[if_neg oX,iW,Tc oX,List.getElem?_take_of_lt h1]
  · by_cases h2:i<o+c.length
    · rw[if_pos ⟨oX,h2⟩,Tc (by rw[bg];omega),Te oX,lt]
    · rw[if_neg oX,Te (by rw[bg];omega),bg,lt,List.getElem?_drop]
      congr 1;omega
theorem VU(l c1 c2:LV)(o1 o2:Nat)(h1:o1+c1.length<=l.length)(h2:o2+c2.length<=l.length)(hd:o1+c1.length<=o2∨o2+c2.length<=o1) :
    (l.take o1++c1++l.drop (o1+c1.length)).take o2++c2++(l.take o1++c1++l.drop (o1+c1.length)).drop (o2+c2.length)=(l.take o2++c2++l.drop (o2+c2.length)).take o1++c1++(l.take o2++c2++l.drop (o2+c2.length)).drop (o1+c1.length):=by
  have k1:(l.take o1++c1++l.drop (o1+c1.length)).length=l.length:=by simp only[bg,dL,jM];omega
  have k2:(l.take o2++c2++l.drop (o2+c2.length)).length=l.length:=by simp only[bg,dL,jM];omega
  apply Kw;intro i;rw[EW _ c2 o2 i oX,EW _ c1 o1 i oX,EW _ c1 o1 i oX,EW _ c2 o2 i oX]
  by_cases a:o1<=i/\i<o1+c1.length
  · rw[if_pos a,if_pos a,if_neg oX]
  · rw[if_neg a,if_neg a]
theorem Rc : ∀{pB:List (Nat×Nat)} {m n j:Nat} {o s:Nat},xW pB m n=true->pB[j]?=some (o,s)->m<=o
  | [],_,_,_,_,_,_,h=>absurd h (by simp)
  | (off,size)::r,m,n,j,o,s,hl,h=>by
    simp only[xW,dB]at hl;have h1:=xP hl.1
    cases j with
    | zero=>simp only[Y5,Option.some.injEq,Prod.mk.injEq]at h;omega
    | succ j=>rw[Ta]at h;have:=Rc hl.2 h;omega
theorem FM : ∀{pB:List (Nat×Nat)} {m n i j:Nat} {o1 s1 o2 s2:Nat},xW pB m n=true->pB[i]?=some (o1,s1)->pB[j]?=some (o2,s2)->i<j->o1+s1<=o2
  | [],_,_,_,_,_,_,_,_,_,h,_,_=>absurd h (by simp)
  | (off,size)::r,m,n,i,j,o1,s1,o2,s2,hl,h1,h2,OK=>by
    simp only[xW,dB]at hl;have e:=xP hl.1
    cases j with
    | zero=>omega
    | succ j=>
      rw[Ta]at h2
      cases i with
      | zero=>
        simp only[Y5,Option.some.injEq,Prod.mk.injEq]at h1;have:=Rc hl.2 h2;omega
      | succ i=>
        rw[Ta]at h1;exact FM hl.2 h1 h2 oX
def O5(place:Nat->Option (Nat×Nat))(n:Nat)(q:Nat×Value):Prop:=∃off size,place q.1=some (off,size)/\q.2.cells.size=size/\off+size<=n
theorem BF{place:Nat->Option (Nat×Nat)}{l:LV}{q:Nat×Value}(h:O5 place l.length q):(qM place l q).length=l.length:=by
  obtain⟨o,s,h1,h2,h3⟩:=h;have e:(mi q.2).length=s:=by rw[ko,Ax,h2]
  simp only[qM,h1,bg,dL,jM,e];omega
theorem O6{place:Nat->Option (Nat×Nat)}{l:LV}{q x:Nat×Value}(hq:O5 place l.length q)(hx:O5 place l.length x)(fP:x.1≠q.1)
    (hd:∀i j o1 s1 o2 s2,place i=some (o1,s1)->place j=some (o2,s2)->i<j->o1+s1<=o2):qM place (qM place l x) q=qM place (qM place l q) x:=by
  obtain⟨o1,s1,a1,a2,a3⟩:=hx;obtain⟨o2,s2,b1,b2,b3⟩:=hq;have e1:(mi x.2).length=s1:=by rw[ko,Ax,a2]
  have e2:(mi q.2).length=s2:=by rw[ko,Ax,b2]
  simp only[qM,a1,b1];rw[<-e1,<-e2];refine VU l _ _ o1 o2 oX oX ?_
  rcases rI x.1 q.1 with h|h
  · left;rw[e1];exact hd _ _ _ _ _ _ a1 b1 h
  · right;rw[e2];exact hd _ _ _ _ _ _ b1 a1 oX
theorem Mr{place:Nat->Option (Nat×Nat)}{ρ:Operand->Value}{n:Nat}(hd:∀ i j o1 s1 o2 s2,place i=some (o1,s1)->place j=some (o2,s2)->i<j->o1+s1<=o2){q:Nat×Operand} :
    ∀{r:List (Nat×Operand)} {l:LV},l.length=n->O5 place n (q.1,ρ q.2)->(∀x∈r,O5 place n (x.1,ρ x.2)/\x.1≠q.1)->
      ((Az q r).map λq=>(q.1,ρ q.2)).foldl (qM place) l=((q::r).map λq=>(q.1,ρ q.2)).foldl (qM place) l
  | [],_,_,_,_=>rfl
  | x::r,l,hl,hq,h=>by
    rw[Az]
    cases Nat.ble q.1 x.1
    · show((x::Az q r).map λq=>(q.1,ρ q.2)).foldl (qM place) l=_
      obtain⟨fx,nx⟩:=h x (kj ..);subst hl;rw[lI,zN,Mr hd (BF fx) hq λy hy=>h y (gV _ hy)];rw[lI,zN,lI,zN,lI,zN];rw[O6 hq fx nx hd]
    · rfl
theorem FN{place:Nat->Option (Nat×Nat)}{ρ:Operand->Value}{n m nn:Nat}(hd:∀ i j o1 s1 o2 s2,place i=some (o1,s1)->place j=some (o2,s2)->i<j->o1+s1<=o2) :
    ∀{r:List (Nat×Operand)} {l:LV},l.length=n->sorted nn (xy r) m=true->(∀x∈r,O5 place n (x.1,ρ x.2))->
      ((xy r).map λq=>(q.1,ρ q.2)).foldl (qM place) l=(r.map λq=>(q.1,ρ q.2)).foldl (qM place) l
  | [],_,_,_,_=>rfl
  | q::r,l,hl,hs,h=>by
    rw[xy]at hs ⊢;obtain⟨a,b,_⟩:=AG hs;have hq:=h q (kj ..);rw[Mr hd hl hq λx hx=>⟨h x (gV _ (C6.mp hx)),b x hx⟩];rw[lI,lI,zN,zN];subst hl;exact FN hd (BF hq) a λx hx=>h x (gV _ hx)
theorem AH{f:Fr}{ρ:Operand->Value}(hρ:∀ x v,yc f x=some v->ρ x=v)(place:Nat->Option (Nat×Nat))(Z:LV)(pB:List (Nat×Nat))(parts:List (Nat×Operand))
    (k:List LV->Prop) (h:kV f parts Z pB 0 [] k) (hs:sorted pB.length (xy parts) 0=true) (hp:∀idx,idx<pB.length->place idx=pB[idx]?) (hl:xW pB 0 Z.length=true)
    (hd:∀i j o1 s1 o2 s2,place i=some (o1,s1)->place j=some (o2,s2)->i<j->o1+s1<=o2) :
    ∃Ic,k Ic/\Instr.fill place ⟨Z⟩ (parts.map λq=>(q.1,ρ q.2))=some ⟨tD Ic⟩:=by
  have h':=tS (λi=>(yg hs i).symm) h;obtain⟨Ic,h1,h2,h3⟩:=AF hρ place Z pB 0 0 (xy parts) [] k [] h' (by simpa using hs) (by simpa using hp) hl rfl;have L6:∀q∈parts,O5 place Z.length (q.1,ρ q.2):=λq hq=>h3 q (C6.mpr hq)
  obtain⟨c',f1,f2,f3⟩:=Q9 place Z (parts.map λq=>(q.1,ρ q.2)) ⟨Z⟩ (by simp) (by
    intro q hq;obtain⟨p,hp,rfl⟩:=jc.1 hq
    exact L6 p hp)
  refine⟨Ic,by simpa using h1,?_⟩;rw[f1];congr 1;apply tC;rw[f3];simp only[tP,mW]at h2;rw[FN hd rfl hs L6]at h2;rw[h2,IY]
theorem O7{pB:List (Nat×Nat)}(hl:xW pB m n=true):∀(i j o1 s1 o2 s2:Nat),pB[i]?=some (o1,s1)->pB[j]?=some (o2,s2)->i<j->o1+s1<=o2:=
  λ_ _ _ _ _ _ h1 h2 h=>FM hl h1 h2 h
theorem FO(size:Nat):∀(i j o1 s1 o2 s2:Nat),(λi:Nat=>some (i*size,size)) i=some (o1,s1)->(λi:Nat=>some (i*size,size)) j=some (o2,s2)->i<j->o1+s1<=o2:=by
  intro i j o1 s1 o2 s2 h1 h2 h;simp only[Option.some.injEq,Prod.mk.injEq]at h1 h2;obtain⟨rfl,rfl⟩:=h1;obtain⟨rfl,_⟩:=h2;have:=Nat.mul_le_mul_right size (show i+1<=j from h);rw[Mb,OU]at this;exact this
theorem tT(parts:Array (Nat×Operand))(ρ:Operand->Value):(parts.map λ(i,x)=>(i,ρ x)).toList=parts.toList.map λq=>(q.1,ρ q.2):=by simp
theorem mX(size:Nat):∀(n i:Nat),(mj size n i).length=n
  | 0,_=>rfl
  | n+1,i=>by simp[mj,mX size n (i+1)]
theorem wX(size:Nat):∀(n i idx:Nat),idx<n->(mj size n i)[idx]?=some ((i+idx)*size,size)
  | 0,_,_,h=>by omega
  | n+1,i,0,_=>by simp[mj]
  | n+1,i,idx+1,h=>by
    simp only[mj,Ta];rw[wX size n (i+1) idx oX];rw[show i+1+idx=i+(idx+1) by omega]
theorem wY(size:Nat):∀(n i:Nat),xW (mj size n i) (i*size) ((i+n)*size)=true
  | 0,i=>by simp[mj,xW]
  | n+1,i=>by
    simp only[mj,xW,dB];refine⟨by simp,?_⟩;have:=wY size n (i+1);rw[show i*size+size=(i+1)*size by rw[Mb,OU],show i+(n+1)=i+1+n by omega];exact this
theorem EI{C:Ctx}(hC:mo C){t:Nat}{fs:List (Nat×Nat)}(hx:dy C.P t (C.ti t))(hd:(C.ti t).d = .struct fs){f:Fr}{ρ:Operand->Value}(hρ:∀ x v,yc f x=some v->ρ x=v)
    {parts:Array (Nat×Operand)} {k:Value->Prop}
    (h1:vH fs.length parts.toList=true) (h2:(fs.all λx=>(C.ti x.2).ok)=true) (h3:xW (fs.map λx=>(x.1,(C.ti x.2).cells)) 0 (C.ti t).cells=true)
    (h:kV f parts.toList (C.ti t).zero (fs.map λx=>(x.1,(C.ti x.2).cells)) 0 [] λxs=>k (.agg ⟨tD xs⟩)) :
    Qt C.P (Instr.build t (parts.map λ(i,x)=>(i,ρ x))) k:=by
  obtain⟨i,d,z,hi,hu,AD,lV,hb,hz,KI⟩:=hx.get;rw[hd]at AD
  cases d <;> simp[ar]at AD
  rename_i fields
  let pB:=fs.map λx=>(x.1,(C.ti x.2).cells)
  have Zg:fields.toList.mapM (λf=>(C.P.info? f.type).map λi=>(f.offset,i.size))=some pB:=by
    have key:∀l:List Field,(∀x∈l.map (λf=>(f.offset,f.type)),(C.ti x.2).ok=true)->
        l.mapM (λf=>(C.P.info? f.type).map λi=>(f.offset,i.size))=some ((l.map λf=>(f.offset,f.type)).map λx=>(x.1,(C.ti x.2).cells)):=by
      intro l
      induction l with
      | nil=>intro _;rfl
      | cons a l ih=>
        intro VV;have ha:=hC.ok (VV (a.offset,a.type) (by simp));obtain⟨ia,_,_,hia,_,_,hsa,_⟩:=ha.get;rw[List.mapM_cons,ih (λx hx=>VV x (by simp only[lI,fO];exact .inr hx))];simp only[hia,OW,lI,hsa];rfl
    rw[key fields.toList (by rw[AD];simpa using h2),AD]
  obtain⟨Ic,hk,hf⟩:=AH hρ (λi=>pB[i]?) (C.ti t).zero pB parts.toList _ h (by simpa[pB,vH]using h1) (λ_ _=>rfl) (by rw[hx.len];exact h3) (O7 h3);refine⟨_,λw=>?_,hk⟩;have hzz:z.cells=⟨(C.ti t).zero⟩:=by apply tC;rw[<-ko,KI]
  refine run_build w t _ _ ?_;rw[tT];simp only[Program.built,hi,hu,hz,Zg,hzz];simpa using hf
theorem KM{C:Ctx}(hx:dy C.P t (C.ti t))(hd:(C.ti t).d = .arr n e)(Rh:dy C.P e (C.ti e)){f:Fr}{ρ:Operand->Value}(hρ:∀ x v,yc f x=some v->ρ x=v)
    {parts:Array (Nat×Operand)} {k:Value->Prop}
    (h1:vH n parts.toList=true) (h2:Nat.beq (n*(C.ti e).cells) (C.ti t).cells=true)
    (h:kV f parts.toList (C.ti t).zero (mj (C.ti e).cells n 0) 0 [] λxs=>k (.agg ⟨tD xs⟩)) :
    Qt C.P (Instr.build t (parts.map λ(i,x)=>(i,ρ x))) k:=by
  obtain⟨i,d,z,hi,hu,AD,lV,hb,hz,KI⟩:=hx.get;obtain⟨ie,_,_,hie,_,_,Ia,_⟩:=Rh.get;rw[hd]at AD
  cases d <;> simp[ar]at AD
  obtain⟨en,ee⟩:=AD;rw[en,ee]at hu;have hlen:=xP h2;obtain⟨Ic,hk,hf⟩:=AH hρ (λi=>some (i*ie.size,ie.size)) (C.ti t).zero _ parts.toList _ h (by rw[mX];exact h1)
    (λidx VW=>by rw[mX]at VW;rw[wX _ _ _ _ VW,Ia];simp)
    (by have:=wY (C.ti e).cells n 0
        rw[hx.len,<-hlen];simpa using this)
    (FO ie.size)
  refine⟨_,λw=>?_,hk⟩;have hzz:z.cells=⟨(C.ti t).zero⟩:=by apply tC;rw[<-ko,KI]
  refine run_build w t _ _ ?_;rw[tT];simp only[Program.built,hi,hu,hz,hie,hzz];exact hf
theorem Ig{C:Ctx}(hd:∃ d,C.P.underlying t=some d/\ar d = .slice e)(Rh:dy C.P e (C.ti e)){f:Fr}{ρ:Operand->Value}(hρ:∀ x v,yc f x=some v->ρ x=v)
    {parts:Array (Nat×Operand)} {k:KT} {w:World}
    (h1:vH n parts.toList=true) (h2:Nat.ble (n*(C.ti e).cells) 16777216=true)
    (h:kV f parts.toList (aL (C.ti e).zero n) (mj (C.ti e).cells n 0) 0 [] λxs=>k (.slice (some ⟨w.heap.size,0,none⟩) n n) (uX w.heap (tD xs) e)) :
    To C.P (Instr.buildSlice t n (parts.map λ(i,x)=>(i,ρ x))) w k:=by
  obtain⟨ie,d,z,hie,_,_,Ia,_,hz,KI⟩:=Rh.get;obtain⟨dt,H0,VX⟩:=hd;have hu:C.P.underlying t=some (.slice e):=by cases dt <;> simp[ar]at VX;subst VX;exact H0
  have sX:=xS h2
  have hzl:z.cells.size=ie.size:=by
    have:=Rh.len;rw[<-KI,ko]at this;rw[Ia,<-this];simp
  obtain⟨Ic,hk,hf⟩:=AH hρ (λi=>some (i*ie.size,ie.size)) (aL (C.ti e).zero n) _ parts.toList _ h (by rw[mX];exact h1)
    (λidx VW=>by rw[mX]at VW;rw[wX _ _ _ _ VW,Ia];simp)
    (by have:=wY (C.ti e).cells n 0
        rw[kY,Rh.len];simpa using this)
    (FO ie.size)
  refine⟨.slice (some ⟨w.heap.size,0,none⟩) n n,w.alloc (.cells ⟨tD Ic⟩ e),?_,⟨rfl,rfl,rfl⟩,hk⟩;have hzv:(zeroValue e).run C.P w = .ok z w:=by simp[zeroValue,jz hie,hz]
  have agz:(Array.range (n*ie.size)).map (λx=>z.cells[x%z.cells.size]!)=⟨aL (C.ti e).zero n⟩:=by
    have:=BE z n;rw[hzl,KI]at this;exact this
  by_cases hn:n*ie.size=0
  · have hm0:(Array.range (n*ie.size)).map (λx=>(#[]:Array Value)[x%(#[]:Array Value).size]!)=⟨aL (C.ti e).zero n⟩:=by
      have hz0:aL (C.ti e).zero n=[]:=Vb (by rw[kY,Rh.len,<-Ia];exact hn);rw[hz0,hn];apply tC;simp
    simp only[Instr.buildSlice,Sem.run_bind,run_underlying hu,Result.andThen_ok,cy hie,Sem.run_ite,if_pos hn];rw[if_neg (by rw[Ia];omega)];simp only[Sem.run_pure,Result.andThen_ok,hm0,tT,hf,newRow,Sem.run_bind,run_newObj];rfl
  · simp only[Instr.buildSlice,Sem.run_bind,run_underlying hu,Result.andThen_ok,cy hie,Sem.run_ite,if_neg hn]
    rw[if_neg (by rw[Ia];omega)];simp only[Sem.run_bind,hzv,Sem.run_pure,Result.andThen_ok,agz,tT,hf,newRow,run_newObj];rfl
def Fit(f:Fr)(ρ:Operand->Value):Prop:=∀x v,yc f x=some v->ρ x=v
theorem bM{f:Fr}{ρ:Operand->Value}(hρ:Fit f ρ){x:Operand}{k:Value->Prop}(h:px f x k):k (ρ x):=by
  cases x with
  | tmp t=>
    simp only[px]at h
    cases hg:Fr.get f t with
    | none=>rw[hg]at h;exact h.elim
    | some v=>rw[hg]at h;rw[hρ (.tmp t) v hg];exact h
  | const v=>rw[hρ (.const v) v rfl];exact h
  | global g=>rw[hρ (.global g) _ rfl];exact h
  | func g=>rw[hρ (.func g) _ rfl];exact h
theorem mJ{v:Value}{k:IntKind->Int->Prop}(h:zX v k):∃kd n,v = .int kd n/\k kd n:=by cases v <;> first|exact h.elim|exact⟨_,_,rfl,h⟩
theorem yh{v:Value}{k:Bool->Prop}(h:Ky v k):∃b,v = .bool b/\k b:=by cases v <;> first|exact h.elim|exact⟨_,rfl,h⟩
theorem AJ{v:Value}{k:OA->Prop}(h:xT v k):∃q,v = .pointer q/\k q:=by cases v <;> first|exact h.elim|exact⟨_,rfl,h⟩
theorem mK{v:Value}{k:OA->Nat->Nat->Prop}(h:tQ v k):∃a l c,v = .slice a l c/\k a l c:=by cases v <;> first|exact h.elim|exact⟨_,_,_,rfl,h⟩
theorem AK{v:Value}{k:LV->Prop}(h:QX v k):∃cs,v = .agg ⟨cs⟩/\k cs:=by
  cases v <;> try exact h.elim
  rename_i a;exact⟨a.toList,by simp,h⟩
theorem wZ{v:Value}{k:ByteArray->Prop}(h:IQ v k):∃s,v = .string s/\k s:=by cases v <;> first|exact h.elim|exact⟨_,rfl,h⟩
theorem O8{v:Value}{k:LV->Prop}(h:aa1 v k):∃vs,v = .tuple ⟨vs⟩/\k vs:=by
  cases v <;> try exact h.elim
  rename_i a;exact⟨a.toList,by simp,h⟩
theorem nS{v:Value}{k:Option Nat->Prop}(h:xv v k):∃q,v = .map q/\k q:=by cases v <;> first|exact h.elim|exact⟨_,rfl,h⟩
theorem bI{α:Type}{o:Option α}{k:α->Prop}(h:ae o k):∃a,o=some a/\k a:=by cases o <;> first|exact h.elim|exact⟨_,rfl,h⟩
theorem uu{f:Fr}{ρ:Operand->Value}(hρ:Fit f ρ){x:Operand}{k:Addr->Prop}(h:px f x λv=>xT v λq=>ae q k):∃p,ρ x = .pointer (some p)/\k p:=by
  obtain⟨q,hq,h1⟩:=AJ (bM hρ h);obtain⟨p,hp,h2⟩:=bI h1;exact⟨p,by rw[hq,hp],h2⟩
theorem FP{f:Fr}{ρ:Operand->Value}(hρ:Fit f ρ){lo:Option Operand}{k:Option Int->Prop}(h:loX f lo k):∃q,lo.map ρ=Ib q/\k (ins q):=by
  cases lo with
  | none=>exact⟨none,rfl,h⟩
  | some x=>
    obtain⟨kd,n,hv,hk⟩:=mJ (bM hρ h);exact⟨some (kd,n),by simp[Ib,hv],hk⟩
theorem jI{f:Fr}{ρ:Operand->Value}(hρ:Fit f ρ):∀{l:List Operand} {acc:LV} {k:LV->Prop},CQ f l acc k->k (acc++l.map ρ)
  | [],_,_,h=>by simpa[CQ]using h
  | x::r,acc,k,h=>by
    have:=jI hρ (bM hρ (show px f x _ from h));simpa using this
def zQ(P:Program)(ρ:Operand->Value)(o:Oper)(w:World)(k:Value->World->Prop):Prop:=
  (∃v w',(execOp ρ o).run P w = .ok (.value v) w'/\k v w')∨
  (∃w',(execOp ρ o).run P w = .ok .skip w'/\k undef w')∨
  (∃g args,(execOp ρ o).run P w = .ok (.enter g args) w/\Calls P g args w λe w''=>∃v,e = .returned v/\k v w'')∨
  (∃l fn tmps assign body,(execOp ρ o).run P w = .ok (.round l fn tmps assign body) w/\RoundIn Fence.wide 0 P l fn tmps assign body w λe w''=>∃v,e = .returned v/\k v w'')
def HK(w:World)(k:KT):Value->World->Prop:=λv w'=>bh w w'/\k v w'.heap
theorem zQ.val{P:Program}{ρ:Operand->Value}{o:Oper}{s:Sem Value}{k:KT}(he:execOp ρ o=(do Pure.pure (.value (<- s))))(h:To P s w k):zQ P ρ o w (HK w k):=by
  obtain⟨v,w',h1,h2,h3⟩:=h;exact .inl ⟨v,w',by rw[he,Sem.run_bind,h1];rfl,h2,h3⟩
theorem ni : ∀{Ti:List Ty} {acc:LV} {C K:LV->Prop},EF Ti acc C K->∃vs,C vs/\K vs
  | [],acc,_,_,h=>⟨acc,h⟩
  | .int _::_,_,_,_,⟨_,h⟩=>ni h
  | .bool::_,_,_,_,⟨_,h⟩=>ni h
  | .str::_,_,_,_,⟨_,h⟩=>ni h
  | .ptr::_,_,_,_,⟨_,h⟩=>ni h
  | .slice::_,_,_,_,⟨_,_,_,h⟩=>ni h
  | .agg::_,_,_,_,⟨_,h⟩=>ni h
  | .any::_,_,_,_,⟨_,h⟩=>ni h
  | .map::_,_,_,_,⟨_,h⟩=>ni h
  | .clo::_,_,_,_,⟨_,_,_,h⟩=>ni h
theorem TD(es:Array MapEntry)(seen:Array Nat)(b:Nat):(es.toList.filter λe=>!(seen.push b).contains e.born)=(es.toList.filter λe=>!seen.contains e.born).filter λe=>e.born != b:=by
  rw[List.filter_filter];congr 1;funext e;rw[Array.contains_push,bne]
  cases seen.contains e.born <;> cases e.born==b <;> rfl
theorem Ms(b:Nat)(key:Int):∀(L:List MapEntry) (left:BC),L.map (λe=>(e.key,e.val))=left.map kvI->(∀x∈L,x.born=b↔x.key = .int .i64 key)->
    (L.filter λe=>e.born != b).map (λe=>(e.key,e.val))=(left.filter λp=>p.1 != key).map kvI
  | [],[],_,_=>rfl
  | [],_::_,h,_=>by simp at h
  | _::_,[],h,_=>by simp at h
  | x::l,p::r,h,hx=>by
    simp only[lI,List.cons.injEq]at h;obtain⟨h1,h2⟩:=h;have ih:=Ms b key l r h2 λy hy=>hx y (gV _ hy);have hk:x.key = .int .i64 p.1:=(Prod.mk.inj h1).1;have iff:=hx x (kj ..)
    by_cases e:p.1=key
    · have eb:x.born=b:=iff.mpr (by rw[hk,e])
      rw[agi (by simp[eb]),agi (by simp[e])];exact ih
    · have eb:x.born≠b:=λy=>e (by have:=iff.mp y;rw[hk]at this;exact(Value.int.inj this).2)
      rw[agj (by simpa using eb),agj (by simpa using e),lI,lI,ih,h1]
theorem FQ{α β:Type}(f:α->β):∀{l:List α},(l.map f).Nodup->∀{x y:α},x∈l->y∈l->f x=f y->x=y
  | [],_,_,_,hx,_,_=>by cases hx
  | a::r,hn,x,y,hx,hy,e=>by
    rw[lI,VB]at hn;have no:∀z,z∈r->f z≠f a:=λz hz e=>hn.1 (jc.mpr ⟨z,hz,e⟩)
    rcases fO.mp hx with h1|h1
    · rcases fO.mp hy with h2|h2
      · rw[h1,h2]
      · exact absurd (by rw[<-e,h1]) (no y h2)
    · rcases fO.mp hy with h2|h2
      · exact absurd (by rw[e,h2]) (no x h1)
      · exact FQ f hn.2 h1 h2 e
theorem run_next_at{P:Program}(w:World)(ty:TypeId)(b r since last:Nat)(sp:Option Nat)(seen:Array Nat)(es:Array MapEntry)(clock:Nat)(hb:w.heap[b]?=some (.mapIter (some r) since seen last))(hr:w.heap[r]?=some (.map es clock))(hold:∀ x ∈ es.toList,x.born<since)(hsc:since<=last) :
    ((leftOf es seen).size=0/\(Instr.next (.pointer (some ⟨b,0,sp⟩)) false ty).run P w = .ok (.tuple #[.bool false]) w)∨
    ∃e∈(leftOf es seen).toList,∃w1:World,w1.heap=w.heap/\bh w w1/\(Instr.next (.pointer (some ⟨b,0,sp⟩)) false ty).run P w = .ok (.tuple #[.bool true,e.key,e.val]) { w1 with heap:=w.heap.setIfInBounds b (.mapIter (some r) since (seen.push e.born) clock) }:=by
  simp only[Instr.next,getObj,Sem.run_bind,Sem.run,hb,hr,Result.andThen,next_test_false seen es since last hold hsc,Ay,if_false];unfold leftOf;have xK:∀x∈(Array.filter (λe=>!seen.contains e.born) es).toList,x.born<since:=λx hx=>hold x (by simp at hx ⊢;exact hx.1);generalize Array.filter (λe=>!seen.contains e.born) es=L at xK ⊢;have e1:L.filter (λx=>decide (x.born<since))=L:=Array.filter_eq_self.2 (λx hx=>by simpa using xK x (by simpa using hx))
  have e2:L.filter (λx=>decide (x.born>=since)) = #[]:=by
    rw[Array.filter_eq_empty_iff];intro x hx;have:=xK x (by simpa using hx);simp;omega
  simp only[e1,e2,Array.append_empty]
  by_cases h0:L.size=0
  · left
    have:L = #[]:=Array.eq_empty_of_size_eq_zero h0;subst this;refine⟨rfl,?_⟩;simp[choose,Sem.run,Question.forced]
  · right
    have fP:L.isEmpty=false:=(by simp[Array.isEmpty,h0]);simp only[fP,Ay,if_false,Array.empty_append,Array.size_map]
    have hch:∃(j:Nat) (w1:World),j<L.size/\w1.heap=w.heap/\bh w w1/\(choose (Question.mapNext L.size)).run P w = .ok j w1:=by
      by_cases hf:L.size<=1
      · exact⟨0,w,oX,rfl,.refl _,by simp[choose,Sem.run,Question.forced,hf]⟩
      · exact⟨_,w.drew,Nat.mod_lt _ oX,rfl,⟨rfl,rfl,rfl⟩,by
          simp only[choose,Sem.run,Question.forced,decide_eq_true_eq,hf,if_false,Question.cut]
          rfl⟩
    obtain⟨j,w1,hj,hh,hs,ada⟩:=hch;refine⟨L[j],by simp,w1,hh,hs,?_⟩
    have KK:∀(o':Obj),(setObj b o').run P w1 = .ok () { w1 with heap:=w.heap.setIfInBounds b o' }:=λo'=>by
      simp only[setObj,Sem.run,hh,hb]
    simp only[ada,Array.getElem?_map,agd hj,OW,Sem.run_bind,KK,Result.andThen];rfl
theorem Mt{P:Program}{ty b r:Nat}{sp:Option Nat}{m left:BC}{k:KT}(H:Q0 w.heap b r m left)(hN:left=[]->k (.tuple #[.bool false]) w.heap)
    (hS:∀e∈left,∀h',agt w.heap b r m left e h'->k (.tuple #[.bool true,.int .i64 e.1,.int .i64 e.2]) h'):To P (Instr.next (.pointer (some ⟨b,0,sp⟩)) false ty) w k:=by
  obtain⟨es,clock,since,seen,last,hr,hb,hm,tB,hold,VX,hsc,hl⟩:=H;have eL:(leftOf es seen).toList=es.toList.filter λe=>!seen.contains e.born:=by unfold leftOf;rw[Array.toList_filter]
  rcases run_next_at (P:=P) w ty b r since last sp seen es clock hb hr hold VX with⟨h0,run⟩|⟨e,he,w1,hh,hs,run⟩
  · refine⟨_,w,run,.refl _,hN ?_⟩
    have e0:(leftOf es seen).toList=[]:=Vb (by rw[Ax];exact h0);rw[<-eL,e0]at hl;exact(List.map_eq_nil_iff.mp hl.symm)
  · rw[eL]at he
    have hf:(e.key,e.val)∈(es.toList.filter λe=>!seen.contains e.born).map (λe:MapEntry=>(e.key,e.val)):=jc.mpr ⟨e,he,rfl⟩;rw[hl]at hf;obtain⟨p,hp,ep⟩:=jc.mp hf;have ek:e.key = .int .i64 p.1:=(Prod.mk.inj ep).1.symm;have ev:e.val = .int .i64 p.2:=(Prod.mk.inj ep).2.symm;have hes:e∈es.toList:=(H7.mp he).1;obtain⟨g1,g2⟩:=MapKept.heap_set (o':=.mapIter (some r) since (seen.push e.born) clock) hb;have hrb:r≠b:=(by intro y;rw[y,hb]at hr;cases hr);rw[ek,ev]at run;have hr':=(g2 r hrb).trans hr;refine⟨_,_,run,⟨hs.1,hs.2.1,hs.2.2⟩,hS p hp _ ⟨by simp,g2,⟨es,clock,since,seen.push e.born,clock,hr',g1,hm,tB,hold,hsc,hsc,?_⟩,⟨es,clock,since,seen.push e.born,e,hr',g1,by simp,?_,ek,ev⟩⟩⟩
    · rw[TD]
      exact Ms e.born p.1 _ _ hl λx hx=>by
        have Zh:=(H7.mp hx).1;refine⟨λy=>?_,λy=>?_⟩
        · rw[FQ MapEntry.born tB.2.1 Zh hes y,ek]
        · rw[FQ MapEntry.key tB.2.2 Zh hes (by rw[y,ek])]
    · rw[<-Array.find?_toList];exact find_born e es.toList tB.2.1 hes
theorem AL{Ti:List Ty}{k:KT}{v:Value}{h:ad}(hb:Mf Ti k v h):k v h:=by
  match Ti,hb with
  | [],⟨e,hk⟩=>subst e;exact hk
  | [ty],hb=>obtain⟨u,e,hk⟩:=nR (show VD ty (λu=>v=u) (λu=>k u h) from hb);subst e;exact hk
  | _::_::_,hb=>obtain⟨us,e,hk⟩:=ni (show EF _ [] (λus=>v = .tuple ⟨us⟩) (λus=>k (.tuple ⟨us⟩) h) from hb);subst e;exact hk
theorem Ri{P:Program}{ρ:Operand->Value}{o:Oper}{g:Nat}{args:LV}{Ti:List Ty}{k:KT}
    (he:execOp ρ o=callFunc g ⟨args⟩) (h:qK P g args w.heap (Mf Ti k)):zQ P ρ o w (HK w k):=by
  obtain⟨⟨fn,hf,hn,hb⟩,hc⟩:=h;refine .inr (.inr (.inl ⟨g,⟨args⟩,?_,?_⟩))
  · rw[he]
    simp only[callFunc,Sem.run_bind,run_program,Result.andThen_ok,hf,hn,hb,Ay,if_false,Sem.run_pure]
  · exact(hc w rfl).mono λe w' ⟨v,h1,h2,h3⟩=>⟨v,h1,h2,AL h3⟩
theorem Rj{P:Program}{x:TI}(hx:dy P t x){cs:Array Value}{off:Nat}{k:Value->Prop}
    (h:match x.d.ty with
      | .agg=>k (.agg ⟨(cs.toList.drop off).take x.cells⟩)
      | ty=>VD ty (λu=>cs.toList[off]?=some u) k):Qt P (part t cs off) k:=by
  obtain⟨i,d,z,hi,hd,AD,lV,_,_,_⟩:=hx.get;have xA:=λw=>qL hd w;unfold part;rw[<-AD]at h;have agg:jN (ar d)=true->(ar d).ty = .agg:=by cases ar d <;> simp[D.ty,jN]
  have nagg:jN (ar d)=false->(ar d).ty≠.agg:=by cases ar d <;> simp[D.ty,jN]
  cases hq:jN (ar d)with
  | true=>
    rw[agg hq]at h;refine⟨_,λw=>?_,h⟩;simp only[Sem.run_bind,xA,hq,Result.andThen_ok,if_true,cy hi,lV,Sem.run_pure];congr 2;apply tC;simp
  | false=>
    have fP:=nagg hq
    have h':VD (ar d).ty (λu=>cs.toList[off]?=some u) k:=by
      cases ht:(ar d).ty <;> rw[ht]at h fP <;> first|exact h|exact(fP rfl).elim
    obtain⟨v,hc,hk⟩:=nR h';refine⟨v,λw=>?_,hk⟩;have hc':cs[off]?=some v:=(by simpa using hc);simp only[Sem.run_bind,xA,hq,Result.andThen_ok,Ay,if_false,hc',Sem.run_pure]
theorem foldl_push(ns:LB):∀r:ByteArray,(ns.map λb=>((b.toNat:Nat):Int)).foldl (λr n=>r.push (UInt8.ofNat n.toNat)) r=⟨r.data++ns.toArray⟩:=by
  induction ns with
  | nil=>intro r;simp
  | cons b ns ih=>
    intro r;simp only[lI,zN];rw[ih];simp[ByteArray.push]
theorem DS{P:Program}{a:OA}{l c:Nat}{bs:LB}(h:av w.heap a l bs):(Conv.bytesToString (.slice a l c)).run P w = .ok (.string (mkStr bs)) w:=by
  obtain⟨hl,hc⟩:=h
  cases a with
  | none=>
    have:bs=[]:=(by simpa[ak]using hc);subst this;rfl
  | some p=>
    have Za:=run_loadCells_list (P:=P) w p (bs.map bv) (λj v hv=>hc j v hv);have hm:(bs.map bv)=(bs.map λb=>((b.toNat:Nat):Int)).map (Value.int .u8):=(by simp[bv,Function.comp_def]);rw[hm,aP,aP,hl]at Za;rw[run_bytesToString w p l c _ Za,foldl_push];simp[mkStr,ByteArray.empty,ByteArray.emptyWithCapacity];rfl
def O9 : D->Bool
  | .str=>true
  | _=>false
theorem VY{C:Ctx}(hC:mo C){s t:Nat}{v:Value}{w:World}{k:KT}(h:Me C (C.ti s).d (C.ti t).d v w.heap k) :
    ∃r,(convert s t v).run C.P w = .ok r w/\k r w.heap/\(O9 (C.ti t).d=false->∀w':World,(convert s t v).run C.P w' = .ok r w'):=by
  have hs:(C.ti s).d≠.other:=by intro e;rw[e]at h;exact h.elim
  have ht:(C.ti t).d≠.other:=by intro e;rw[e]at h;unfold Me at h;split at h <;> first|exact h.elim|simp at *
  obtain⟨_,ds,_,_,VZ,hds,_⟩:=(hC.FE hs).get;obtain⟨_,dt,_,_,TE,H0,_⟩:=(hC.FE ht).get;rw[<-hds,<-H0]at h
  cases ds <;> cases dt <;> cases v <;> try exact h.elim
  · exact⟨_,by simp[convert,run_underlying VZ,run_underlying TE,Conv.intToInt],h,λ_ w'=>by simp[convert,run_underlying VZ,run_underlying TE,Conv.intToInt]⟩
  · exact⟨_,by simp[convert,run_underlying VZ,run_underlying TE,Conv.intToString],h,λ_ w'=>by simp[convert,run_underlying VZ,run_underlying TE,Conv.intToString]⟩
  · exact⟨_,by simp[convert,run_underlying VZ,run_underlying TE],h,λ_ w'=>by simp[convert,run_underlying VZ,run_underlying TE]⟩
  · rename_i e a l c
    simp only[ar,Me]at h
    cases hb:zO (C.ti e).d with
    | false=>rw[hb]at h;exact h.elim
    | true=>
      rw[hb]at h;obtain⟨bs,tB,hk⟩:=h;have he:(C.ti e).d≠.other:=(by intro e';rw[e']at hb;simp[zO]at hb);obtain⟨_,de,_,_,hue,hde,_⟩:=(hC.FE he).get;rw[<-hde]at hb
      have adf:C.P.underlying e=some (.int .u8):=by
        cases de <;> simp[ar,zO]at hb
        rename_i kd
        cases kd <;> simp at hb
        exact hue
      exact⟨_,by rw[run_convert_bytes_string w s t e a l c VZ adf TE];exact DS tB,hk,λhf=>by rw[<-H0]at hf;simp[ar,O9]at hf⟩
theorem Zi{P:Program}{k:Value->Prop}(h:acU x y k)(at_:Array TypeId)(ty:TypeId):Qt P (Builtin.min_ at_ ty #[x,y]) k:=by
  cases x <;> cases y <;> try exact h.elim
  rename_i k1 a k2 b;simp only[acU]at h
  cases hk:nC k1 k2 with
  | false=>rw[hk]at h;exact h.elim
  | true=>rw[hk]at h;obtain rfl:=oO hk;exact⟨_,by simp[Builtin.min_,Builtin.min2],h⟩
theorem Zj{P:Program}{k:Value->Prop}(h:acV x y k)(at_:Array TypeId)(ty:TypeId):Qt P (Builtin.max_ at_ ty #[x,y]) k:=by
  cases x <;> cases y <;> try exact h.elim
  rename_i k1 a k2 b;simp only[acV]at h
  cases hk:nC k1 k2 with
  | false=>rw[hk]at h;exact h.elim
  | true=>rw[hk]at h;obtain rfl:=oO hk;exact⟨_,by simp[Builtin.max_,Builtin.max2],h⟩
theorem Rk{P:Program}{d:TypeDesc}(hd:P.underlying t=some d){x:Value}{k:Value->Prop}(h:acT (ar d) x k)(ty:TypeId):Qt P (Builtin.len_ #[t] ty #[x]) k:=by
  cases d <;> cases x <;> first|exact h.elim|exact⟨_,by simp[Builtin.len_,run_underlying hd,goInt],h⟩
theorem Zk{P:Program}{d:TypeDesc}(hd:P.underlying t=some d){x:Value}{k:Value->Prop}(h:agn (ar d) x k)(ty:TypeId):Qt P (Builtin.cap_ #[t] ty #[x]) k:=by
  cases d <;> cases x <;> first|exact h.elim|exact⟨_,by simp[Builtin.cap_,run_underlying hd,goInt],h⟩
theorem Jf{P:Program}{d:TypeDesc}(hd:P.underlying t=some d){fs:List (Nat×Nat)}(hf:ar d = .struct fs){o:Nat×Nat}(ho:fs[i]?=some o) :
    ∃(fields:Array Field) (fd:Field),d = .struct fields/\fields[i]?=some fd/\fd.offset=o.1/\fd.type=o.2:=by
  cases d <;> simp[ar]at hf
  rename_i fields;subst hf;simp at ho;obtain⟨fd,h1,h2⟩:=ho;exact⟨fields,fd,rfl,by simpa using h1,by rw[<-h2],by rw[<-h2]⟩
theorem BG{C:Ctx}{o:Nat×Nat}(h:ET C t i=some o):∃fs,(C.ti t).d = .struct fs/\fs[i]?=some o:=by
  unfold ET at h
  cases hd:(C.ti t).d <;> rw[hd]at h <;> simp at h
  exact⟨_,rfl,h⟩
theorem pW{C:Ctx}(hC:mo C){t e:Nat}(h:(C.ti t).d = .slice e):∃d,C.P.underlying t=some d/\ar d = .slice e:=by
  obtain⟨_,d,_,_,hu,hd,_⟩:=(hC.FE (t:=t) (by rw[h];intro e;cases e)).get;exact⟨d,hu,hd.trans h⟩
theorem gW{C:Ctx}(hC:mo C){t:Nat}(h:(C.ti t).d ≠ .other):∃d,C.P.underlying t=some d/\ar d=(C.ti t).d:=by
  obtain⟨_,d,_,_,hu,hd,_⟩:=(hC.FE h).get;exact⟨d,hu,hd⟩
theorem O'{op:BinOp}{k:Value->Prop}{d:D}(h:vR d op x y k):(∃kd a Kz b,x = .int kd a/\y = .int Kz b)∨(∃a b,x = .string a/\y = .string b)∨d≠.other:=by
  by_cases hd:d = .other
  · subst hd
    cases x <;> cases y <;> first|exact h.elim|exact .inl ⟨_,_,_,_,rfl,rfl⟩|exact .inr (.inl ⟨_,_,rfl,rfl⟩)|(simp[vR]at h;done)|(rename_i a b;cases b <;> exact h.elim)|(rename_i a _ _ b _ _;cases b <;> exact h.elim)
  · exact .inr (.inr hd)
def V0 : D->Bool
  | .map _ _=>true
  | _=>false
def Pa(C:Ctx):Op->Bool
  | .move _| .assign _| .pick _ _ _| .build _ _| .load _ _| .nilCheck _| .binOp _ _ _ _ _| .unOp _ _ _| .makeFunc _ _ _| .slice _ _ _ _ _| .fieldAddr _ _ _| .field _ _ _
  | .indexAddr _ _ _| .index _ _ _| .extract _ _| .sliceToArrayPointer _ _=>true
  | .convert _ t _=>!BB (C.ti t).d
  | .call { callee:=.builtin .len,argTypes,.. }=>!(argTypes.toList.any λt=>V0 (C.ti t).d)
  | .call { callee:=.builtin .cap,.. }| .call { callee:=.builtin .min,.. }| .call { callee:=.builtin .max,.. }=>true
  | _=>false
def ft(C:Ctx):Op->Bool
  | .load _ _=>true
  | .convert _ t _=>O9 (C.ti t).d
  | _=>false
def QTo(C:Ctx)(ρ:Operand->Value)(o:Oper)(w:World)(k:KT):Prop:=
  ∃v,(execOp ρ o).run C.P w = .ok (.value v) w/\k v w.heap/\(ft C o.op=false->∀w':World,(execOp ρ o).run C.P w' = .ok (.value v) w')
theorem QTo.qt{C:Ctx}{ρ:Operand->Value}{o:Oper}{s:Sem Value}{k:KT}(he:execOp ρ o=(do Pure.pure (.value (<- s))))(h:Qt C.P s (λv=>k v w.heap)):QTo C ρ o w k:=by
  obtain⟨v,h1,h2⟩:=h;exact⟨v,by rw[he,Sem.run_bind,h1];rfl,h2,λ_ w'=>by rw[he,Sem.run_bind,h1];rfl⟩
theorem QTo.op{C:Ctx}{ρ:Operand->Value}{o:Oper}{k:KT}(h:QTo C ρ o w k):zQ C.P ρ o w (HK w k):=
  let ⟨v,h1,h2,_⟩:=h;.inl ⟨v,w,h1,.refl _,h2⟩
theorem Mu{C:Ctx}(hC:mo C){f:Fr}{ρ:Operand->Value}(hρ:Fit f ρ)(o:Oper)(hq:Pa C o.op=true){k:KT}{w:World}(h:zY C f o.op o.type k w.heap) :
    QTo C ρ o w k:=by
  cases ho:o.op with
  | move x=>rw[ho]at h;exact⟨ρ x,by simp[execOp,ho],bM hρ h,λ_ w'=>by simp[execOp,ho]⟩
  | assign x=>rw[ho]at h;exact⟨ρ x,by simp[execOp,ho],bM hρ h,λ_ w'=>by simp[execOp,ho]⟩
  | pick c a b=>
    rw[ho]at h;obtain⟨t,hc,h⟩:=yh (bM hρ h);have he:execOp ρ o=(do Pure.pure (.value (if<-asBool (ρ c)then ρ a else ρ b))):=by simp only[execOp,ho]
    cases t with
    | true=>exact⟨ρ a,by rw[he,hc];simp[asBool],bM hρ (show px f a (λv=>k v w.heap) from h),λ_ w'=>by rw[he,hc];simp[asBool]⟩
    | false=>exact⟨ρ b,by rw[he,hc];simp[asBool],bM hρ (show px f b (λv=>k v w.heap) from h),λ_ w'=>by rw[he,hc];simp[asBool]⟩
  | build t parts=>
    rw[ho]at h;obtain⟨hx,h⟩:=hC.uT h;refine .qt (s:=Instr.build t (parts.map λ(i,x)=>(i,ρ x))) (by simp only[execOp,ho]) ?_
    cases hd:(C.ti t).d with
    | struct fs=>
      rw[hd]at h;simp only at h
      cases hb:(vH fs.length parts.toList && (fs.all λx=>(C.ti x.2).ok) && xW (fs.map λx=>(x.1,(C.ti x.2).cells)) 0 (C.ti t).cells)with
      | false=>rw[hb]at h;exact h.elim
      | true=>
        rw[hb]at h;simp only[dB]at hb;exact EI hC hx hd hρ hb.1.1 hb.1.2 hb.2 h
    | arr n e=>
      rw[hd]at h;obtain⟨Rh,h⟩:=hC.uT h
      cases hb:(vH n parts.toList && Nat.beq (n*(C.ti e).cells) (C.ti t).cells)with
      | false=>rw[hb]at h;exact h.elim
      | true=>
        rw[hb]at h;simp only[dB]at hb;exact KM hx hd Rh hρ hb.1 hb.2 h
    | _=>rw[hd]at h;exact h.elim
  | load t x=>
    rw[ho]at h;obtain⟨p,hq,h⟩:=uu hρ h;obtain⟨hx,h⟩:=hC.uT h;obtain⟨v,hr,hk⟩:=FF hx h;refine⟨v,?_,hk,λhf=>by simp[ft,ho]at hf⟩;simp only[execOp,ho];rw[hq];simp only[Instr.loadAt,Instr.sureAddr,Sem.run_bind,Sem.run_pure,Result.andThen_ok,hr]
  | nilCheck x=>
    rw[ho]at h;have hk:=bM hρ h
    cases hv:ρ x with
    | pointer q=>
      rw[hv]at hk;obtain⟨p,hp,hk⟩:=bI hk;rw[hp]at hv;exact⟨_,by simp only[execOp,ho,hv];rfl,hk,λ_ w'=>by simp only[execOp,ho,hv];rfl⟩
    | func fn fs cs=>
      rw[hv]at hk
      cases fn with
      | func g=>exact⟨_,by simp only[execOp,ho,hv];rfl,hk,λ_ w'=>by simp only[execOp,ho,hv];rfl⟩
      | _=>exact hk.elim
    | _=>rw[hv]at hk;exact hk.elim
  | binOp op t x y u=>
    rw[ho]at h;have TF:=bM hρ (bM hρ h);refine .qt (s:=do eqGuard op t x y (ρ x) (ρ y);binOp op t (ρ x) (ρ y)) (by simp only[execOp,ho]) ?_;unfold agm at TF
    split at TF
    · rename_i heq
      have hk:=TF;have hg:=λw=>Mk (P:=C.P) (op:=op) (t:=t) (x:=x) (y:=y) (w:=w) (O1 hk)
      have:Qt C.P (binOp op t (ρ x) (ρ y)) (λr=>k r w.heap):=by
        rcases O' hk with⟨kd,a,Kz,b,e1,e2⟩|⟨a,b,e1,e2⟩|fP
        · rw[e1,e2]at hk ⊢
          have wO:bif u6 op then xV op kd a b (λr=>k r w.heap)else bif nC kd Kz then Md op kd a b (λr=>k r w.heap)else False:=by
            unfold vR at hk;split at hk
            · exact hk.elim
            · exact hk
          cases hs:u6 op with
          | true=>rw[hs]at wO;exact IV wO
          | false=>
            rw[hs]at wO
            cases hkk:nC kd Kz with
            | false=>rw[hkk]at wO;exact wO.elim
            | true=>rw[hkk]at wO;obtain rfl:=oO hkk;exact Q6 hs wO
        · rw[e1,e2]at hk ⊢
          have wO:acS op a b (λr=>k r w.heap):=by
            unfold vR at hk;split at hk
            · exact hk.elim
            · exact hk
          exact Q7 wO
        · obtain⟨d,hu,hd⟩:=gW hC fP
          rw[<-hd]at hk;exact Zd hu hk
      obtain⟨v,h1,h2⟩:=this;exact⟨v,λw=>by rw[Sem.run_bind,hg];exact h1 w,h2⟩
    · rename_i heq
      split at TF
      · rename_i a b e1 e2
        obtain⟨hp,hk⟩:=TF
        have hx:dy C.P t (C.ti t):=by
          rcases hC.ti t with e|e
          · rw[e]at heq;exact absurd rfl heq
          · exact e
        have run:=λw=>(Jd hx heq hp w).1;have TG:=(Jd hx heq hp w).2;rw[e1,e2]
        have hg:∀w,(eqGuard op t x y (.agg a) (.agg b)).run C.P w = .ok () w:=λw=>by
          unfold eqGuard
          cases op <;> simp[TG]
        obtain⟨v,h1,h2⟩:=DP (k:=λr=>k r w.heap) hk run rfl rfl;exact⟨v,λw=>by rw[Sem.run_bind,hg];exact h1 w,h2⟩
      · exact TF.elim
  | unOp op t x=>
    rw[ho]at h;exact .qt (s:=Op.unary op (ρ x)) (by simp only[execOp,ho]) (acZ (bM hρ h))
  | convert s t x=>
    rw[ho]at h;rw[ho]at hq;have hns:BB (C.ti t).d=false:=(by simpa[Pa]using hq);have h:=bM hρ h;rw[hns]at h;obtain⟨r,h1,h2,h3⟩:=VY hC (show Me C (C.ti s).d (C.ti t).d (ρ x) w.heap k from h);refine⟨r,by simp only[execOp,ho,Sem.run_bind,h1];rfl,h2,λhf w'=>?_⟩;have:=h3 (by simpa[ft,ho]using hf) w';simp only[execOp,ho,Sem.run_bind,this];rfl
  | makeFunc fn fs cs=>
    rw[ho]at h
    cases fn with
    | func g=>
      have h1:=jI hρ h;have h2:=jI hρ h1;simp only[tP]at h2
      cases hfs:fs.toList.map ρ with
      | cons a r=>
        rw[hfs]at h2;have e1:fs.map ρ=⟨a::r⟩:=(by apply tC;simpa using hfs);have e2:cs.map ρ=⟨cs.toList.map ρ⟩:=(by apply tC;simp);exact .qt (s:=Instr.makeFunc (.func g) (fs.map ρ) (cs.map ρ)) (by simp only[execOp,ho]) (by rw[e1,e2];exact⟨_,λ_=>rfl,h2⟩)
      | nil=>
        rw[hfs]at h2;have e1:fs.map ρ = #[]:=(by apply tC;simpa using hfs);have e2:cs.map ρ=⟨cs.toList.map ρ⟩:=(by apply tC;simp);exact .qt (s:=Instr.makeFunc (.func g) (fs.map ρ) (cs.map ρ)) (by simp only[execOp,ho]) (by rw[e1,e2];exact⟨_,λ_=>rfl,h2⟩)
    | _=>exact h.elim
  | slice t x lo hi mx=>
    rw[ho]at h;have h:=bM hρ h;obtain⟨q1,e1,h⟩:=FP hρ h;obtain⟨q2,e2,h⟩:=FP hρ h;obtain⟨q3,e3,h⟩:=FP hρ h;refine .qt (s:=Instr.sliceAt t (ρ x) (lo.map ρ) (hi.map ρ) (mx.map ρ)) (by simp only[execOp,ho]) ?_;rw[e1,e2,e3]
    have fP:(C.ti t).d≠.other:=by
      intro e;rw[e]at h;obtain⟨_,h⟩:=hC.uT h;exact h.elim
    obtain⟨d,hu,hd⟩:=gW hC fP
    by_cases hs:(C.ti t).d = .str
    · rw[hs]at h hd
      refine IX hu (size:=1) ?_ (by rw[hd];exact h);intro e he;rw[hd]at he
      rcases he with he|⟨n,he⟩ <;> cases he
    · have h':uT (C.ti (elemOf C t)) (KA (C.ti t).d (C.ti (elemOf C t)).cells (ρ x) (ins q1) (ins q2) (ins q3) λr=>k r w.heap):=by
        cases hq:(C.ti t).d <;> rw[hq]at h <;> first|exact(hs hq).elim|exact h
      obtain⟨hx,h'⟩:=hC.uT h';rw[<-hd]at h';refine IX hu ?_ h';intro e he
      have Ra:elemOf C t=e:=by
        unfold elemOf;rw[<-hd]
        rcases he with he|⟨n,he⟩ <;> rw[he]
      obtain⟨i,_,_,hi,_,_,lV,_⟩:=hx.get;rw[Ra]at hi lV ⊢;exact⟨i,hi,lV⟩
  | fieldAddr t x i=>
    rw[ho]at h;obtain⟨p,hq,h⟩:=uu hρ h;obtain⟨fo,hfo,h⟩:=bI h;obtain⟨fs,hd,hfs⟩:=BG hfo;obtain⟨d,hu,qI⟩:=gW hC (t:=t) (by rw[hd];intro e;cases e);rw[hd]at qI;obtain⟨fields,fd,rfl,h1,h2,h3⟩:=Jf hu qI hfs
    cases hz:Nat.beq (C.ti fo.2).cells 0 with
    | true=>rw[hz]at h;exact h.elim
    | false=>
      rw[hz]at h;have fP:(C.ti fo.2).cells≠0:=λe=>by rw[e]at hz;simp at hz
      have hx:dy C.P fo.2 (C.ti fo.2):=by
        rcases hC.ti fo.2 with e|e
        · rw[e]at fP;exact(fP rfl).elim
        · exact e
      obtain⟨fi,_,_,FJ,_,_,lV,_⟩:=hx.get;refine .qt (s:=Instr.fieldAt t (ρ x) i) (by simp only[execOp,ho]) ⟨.pointer (some (p.add fo.1)),λw=>?_,h⟩;rw[hq];simp only[Instr.fieldAt,Sem.run_bind,run_underlying hu,Result.andThen_ok,h1,Instr.sureAddr,Sem.run_pure,fieldPlace,h3,cy FJ,Sem.run_ite];rw[if_neg (by rw[lV];exact fP),h2];rfl
  | field t x i=>
    rw[ho]at h;obtain⟨cs,hq,h⟩:=AK (bM hρ h);obtain⟨fo,hfo,h⟩:=bI h;obtain⟨fs,hd,hfs⟩:=BG hfo;obtain⟨d,hu,qI⟩:=gW hC (t:=t) (by rw[hd];intro e;cases e);rw[hd]at qI;obtain⟨fields,fd,rfl,h1,h2,h3⟩:=Jf hu qI hfs;obtain⟨hx,h⟩:=hC.uT h;obtain⟨v,hr,hk⟩:=Rj (cs:=⟨cs⟩) (off:=fo.1) (k:=λr=>k r w.heap) hx h;refine .qt (s:=Instr.field t (ρ x) i) (by simp only[execOp,ho]) ⟨v,λw=>?_,hk⟩;rw[hq];simp only[Instr.field,Sem.run_bind,run_underlying hu,Result.andThen_ok,h1,asAgg,Sem.run_pure,h2,h3,hr]
  | indexAddr t x y=>
    rw[ho]at h;have h:=bM hρ (bM hρ h);obtain⟨kd,i,e2,h⟩:=mJ h;refine .qt (s:=Instr.indexAt t (ρ x) (ρ y)) (by simp only[execOp,ho]) ?_;rw[e2]
    cases hd:(C.ti t).d with
    | slice e=>
      rw[hd]at h
      cases hv:ρ x with
      | slice a l c=>
        rw[hv]at h;obtain⟨hx,⟨h0,h1⟩,h⟩:=hC.uT h;obtain⟨p,hp,h⟩:=bI h;obtain⟨d,hu,qI⟩:=pW hC hd;have V1:C.P.underlying t=some (.slice e):=(by cases d <;> simp[ar]at qI;subst qI;exact hu);obtain⟨fi,_,_,FJ,_,_,lV,_⟩:=hx.get;refine⟨_,λw=>?_,h⟩;rw[hp];simp[Instr.indexAt,asIntOf,run_underlying V1,h0,h1,cy FJ,lV,vU]
      | _=>rw[hv]at h;exact h.elim
    | arr n e=>
      rw[hd]at h
      cases hv:ρ x with
      | pointer q=>
        rw[hv]at h;obtain⟨hx,h⟩:=hC.uT h;obtain⟨p,hp,⟨h0,h1⟩,h⟩:=bI h;obtain⟨d,hu,qI⟩:=gW hC (t:=t) (by rw[hd];intro e;cases e);rw[hd]at qI;have V1:C.P.underlying t=some (.array n e):=(by cases d <;> simp[ar]at qI;obtain⟨rfl,rfl⟩:=qI;exact hu);obtain⟨fi,_,_,FJ,_,_,lV,_⟩:=hx.get;refine⟨_,λw=>?_,h⟩;rw[hp];simp[Instr.indexAt,asIntOf,run_underlying V1,Instr.sureAddr,h0,h1,cy FJ,lV,vU]
      | _=>rw[hv]at h;exact h.elim
    | _=>rw[hd]at h;exact h.elim
  | index t x y=>
    rw[ho]at h;have h:=bM hρ (bM hρ h);obtain⟨kd,i,e2,h⟩:=mJ h;refine .qt (s:=Instr.index t (ρ x) (ρ y)) (by simp only[execOp,ho]) ?_;rw[e2]
    cases hd:(C.ti t).d with
    | arr n e=>
      rw[hd]at h
      cases hv:ρ x with
      | agg cs=>
        rw[hv]at h;obtain⟨hx,⟨h0,h1⟩,h⟩:=hC.uT h;obtain⟨d,hu,qI⟩:=gW hC (t:=t) (by rw[hd];intro e;cases e);rw[hd]at qI;have V1:C.P.underlying t=some (.array n e):=(by cases d <;> simp[ar]at qI;obtain⟨rfl,rfl⟩:=qI;exact hu);obtain⟨fi,_,_,FJ,_,_,lV,_⟩:=hx.get;obtain⟨v,hr,hk⟩:=Rj (cs:=cs) (off:=scale i.toNat (C.ti e).cells) (k:=λr=>k r w.heap) hx h;refine⟨v,λw=>?_,hk⟩;rw[vU]at hr;simp[Instr.index,asIntOf,run_underlying V1,h0,h1,cy FJ,lV,hr]
      | _=>rw[hv]at h;exact h.elim
    | str=>
      rw[hd]at h
      cases hv:ρ x with
      | string s=>
        rw[hv]at h;obtain⟨⟨h0,h1⟩,b,hb,h⟩:=h;obtain⟨d,hu,qI⟩:=gW hC (t:=t) (by rw[hd];intro e;cases e);rw[hd]at qI;have V1:C.P.underlying t=some .string:=by cases d <;> simp[ar]at qI;exact hu
        have pV:s[i.toNat]?=some b:=by
          rw[ByteArray.toList_eq]at hb
          have bV:i.toNat<s.data.toList.length:=by
            rcases rI i.toNat s.data.toList.length with hh|hh
            · exact hh
            · rw[CU hh]at hb;cases hb
          have vJ:i.toNat<s.size:=(by simpa using bV);rw[getElem?_pos s i.toNat vJ];rw[List.getElem?_eq_getElem bV]at hb;show some s.data[i.toNat]=some b;simpa using hb
        refine⟨bv b,λw=>?_,h⟩;simp[Instr.index,asIntOf,run_underlying V1,h0,pV,bv]
      | _=>rw[hv]at h;exact h.elim
    | _=>rw[hd]at h;exact h.elim
  | extract x i=>
    rw[ho]at h;obtain⟨vs,e1,h⟩:=O8 (bM hρ h);obtain⟨v,hv,h⟩:=bI h;refine .qt (s:=Instr.extract (ρ x) i) (by simp only[execOp,ho]) ⟨v,λw=>?_,h⟩;rw[e1];have hv':(⟨vs⟩:Array Value)[i]?=some v:=(by simpa using hv);simp only[Instr.extract,hv',Sem.run_pure]
  | sliceToArrayPointer t x=>
    rw[ho]at h;obtain⟨a,l,c,e1,h⟩:=mK (bM hρ h)
    cases hd:(C.ti t).d with
    | arr n e=>
      rw[hd]at h;obtain⟨h1,h⟩:=h;obtain⟨d,hu,qI⟩:=gW hC (t:=t) (by rw[hd];intro e;cases e);rw[hd]at qI;have V1:C.P.underlying t=some (.array n e):=(by cases d <;> simp[ar]at qI;obtain⟨rfl,rfl⟩:=qI;exact hu);refine .qt (s:=Instr.arrayAt t (ρ x)) (by simp only[execOp,ho]) ⟨.pointer a,λw=>?_,h⟩;rw[e1];simp only[Instr.arrayAt,Sem.run_bind,run_underlying V1,Result.andThen_ok];rw[if_neg oX];rfl
    | _=>rw[hd]at h;exact h.elim
  | call c=>
    obtain⟨callee,args,argTypes⟩:=c;have vX:args.map ρ=⟨args.toList.map ρ⟩:=(by apply tC;simp);have YH:argTypes=⟨argTypes.toList⟩:=by simp
    cases callee with
    | builtin b=>
      have he:∀(s:Sem Value),builtin b argTypes o.type (args.map fun| .const _=>true|_=>false) (args.map ρ)=(do Pure.pure (.value (<-s)))->execOp ρ o=(do Pure.pure (.value (<-s))):=by
        intro s hs;rw[<-hs];simp only[execOp,ho,resolve];rfl
      cases b with
      | len=>
        rw[ho]at h;have h:=jI hρ (show CQ f args.toList [] _ from h);simp only[tP]at h
        split at h
        · rename_i u t e1 e2
          rw[ho]at hq;have Zl:∀a b,(C.ti t).d≠.map a b:=λa b e=>by simp[Pa,e2,e,V0]at hq
          have h:acT (C.ti t).d u λr=>k r w.heap:=by
            split at h
            · rename_i a b e;exact absurd e (Zl a b)
            · exact h
          refine .qt (he (Builtin.len_ argTypes o.type (args.map ρ)) rfl) ?_;rw[vX,e1,YH,e2];have fP:(C.ti t).d≠.other:=(by intro e;rw[e]at h;cases u <;> exact h.elim);obtain⟨d,hu,qI⟩:=gW hC fP;rw[<-qI]at h;exact Rk hu h _
        · exact h.elim
      | cap=>
        rw[ho]at h;have h:=jI hρ (show CQ f args.toList [] _ from h);simp only[tP]at h
        split at h
        · rename_i u t e1 e2
          refine .qt (he (Builtin.cap_ argTypes o.type (args.map ρ)) rfl) ?_;rw[vX,e1,YH,e2];have fP:(C.ti t).d≠.other:=(by intro e;rw[e]at h;cases u <;> exact h.elim);obtain⟨d,hu,qI⟩:=gW hC fP;rw[<-qI]at h;exact Zk hu h _
        · exact h.elim
      | min=>
        rw[ho]at h;have h:=jI hρ (show CQ f args.toList [] _ from h);simp only[tP]at h
        split at h
        · rename_i u v e1
          refine .qt (he (Builtin.min_ argTypes o.type (args.map ρ)) rfl) ?_;rw[vX,e1];exact Zi h _ _
        · exact h.elim
      | max=>
        rw[ho]at h;have h:=jI hρ (show CQ f args.toList [] _ from h);simp only[tP]at h
        split at h
        · rename_i u v e1
          refine .qt (he (Builtin.max_ argTypes o.type (args.map ρ)) rfl) ?_;rw[vX,e1];exact Zj h _ _
        · exact h.elim
      | _=>rw[ho]at hq;exact(by cases hq)
    | value x=>rw[ho]at hq;exact(by cases hq)
    | invoke r m=>rw[ho]at hq;exact(by cases hq)
  | _=>rw[ho]at hq;exact(by cases hq)
theorem TH{C:Ctx}(hC:mo C){s t:Nat}{v:Value}{w:World}{k:KT}(h:Fz C (Nat.beq s t) (C.ti s).d (C.ti t).d v w.heap k):To C.P (convert s t v) w k:=by
  cases hs:(C.ti s).d with
  | str=>
    cases ht:(C.ti t).d with
    | slice e=>
      rw[hs,ht]at h;simp only[Fz]at h
      cases hb:zO (C.ti e).d with
      | false=>rw[hb]at h;exact h.elim
      | true=>
        rw[hb]at h
        cases v with
        | string b=>
          have h:∀cap:Nat,b.size<=cap->k (.slice (some ⟨w.heap.size,0,none⟩) b.size cap) (vG w.heap (b.toList.map bv++List.replicate (cap-b.size) (bv 0)) e):=h;obtain⟨_,ds,_,_,VZ,hds,_⟩:=(hC.FE (t:=s) (by rw[hs];intro e;cases e)).get;obtain⟨_,dt,_,_,TE,H0,_⟩:=(hC.FE (t:=t) (by rw[ht];intro e;cases e)).get;have he:(C.ti e).d≠.other:=(by intro e';rw[e']at hb;simp[zO]at hb);obtain⟨_,de,_,_,hue,hde,_⟩:=(hC.FE he).get;rw[hs]at hds;rw[ht]at H0;rw[<-hde]at hb;have h1:C.P.underlying s=some .string:=(by cases ds <;> simp[ar]at hds;exact VZ);have h2:C.P.underlying t=some (.slice e):=by cases dt <;> simp[ar]at H0;subst H0;exact TE
          have h3:C.P.underlying e=some (.int .u8):=by
            cases de <;> simp[ar,zO]at hb
            rename_i kd
            cases kd <;> simp at hb
            exact hue
          refine⟨_,_,run_bytes_of_string w s t e b h1 h2 h3,⟨rfl,rfl,rfl⟩,?_⟩;have hk:=h _ (grownCap_ge w b.size 0 e)
          have ec:bytesRow b (grownCap w b.size 0 e)=⟨b.toList.map bv++List.replicate (grownCap w b.size 0 e-b.size) (bv 0)⟩:=by
            apply tC;have eb:b.toList=b.data.toList:=(by obtain⟨⟨l⟩⟩:=b;simp);simp[bytesRow,eb,bv]
          rw[ec];exact hk
        | _=>exact h.elim
    | _=>rw[hs,ht]at h;exact h.elim
  | slice e0=>
    cases ht:(C.ti t).d with
    | slice e=>
      rw[hs,ht]at h;simp only[Fz]at h
      cases hb:(Nat.beq s t && zO (C.ti e).d)with
      | false=>rw[hb]at h;exact h.elim
      | true=>
        rw[hb]at h;rw[dB]at hb;obtain⟨tB,hb⟩:=hb;have tB:=xP tB;subst tB;obtain⟨a,l,c,rfl,h⟩:=mK h;obtain⟨p,rfl,h⟩:=bI h;obtain⟨_,dt,_,_,TE,H0,_⟩:=(hC.FE (t:=s) (by rw[ht];intro e;cases e)).get;have he:(C.ti e).d≠.other:=(by intro e';rw[e']at hb;simp[zO]at hb);obtain⟨_,de,_,_,hue,hde,_⟩:=(hC.FE he).get;rw[ht]at H0;rw[<-hde]at hb;have h2:C.P.underlying s=some (.slice e):=by cases dt <;> simp[ar]at H0;subst H0;exact TE
        have h3:C.P.underlying e=some (.int .u8):=by
          cases de <;> simp[ar,zO]at hb
          rename_i kd
          cases kd <;> simp at hb
          exact hue
        refine⟨.slice (some p) l c,{ w with heap:=tJ w.heap p.block },?_,⟨rfl,rfl,rfl⟩,h⟩
        have hm:(markStringish p).run C.P w = .ok () { w with heap:=tJ w.heap p.block }:=by
          simp only[markStringish,Sem.run_bind,run_shape,Result.andThen_ok];unfold World.shape? tJ
          cases hw:w.heap[p.block]? with
          | none=>rfl
          | some o=>
            cases o with
            | cells c e z=>simp only[run_freeze];unfold World.freeze;rw[if_neg dX];rfl
            | _=>rfl
        simp[convert,run_underlying h2,run_underlying h3,hm]
    | _=>rw[hs,ht]at h;exact h.elim
  | _=>rw[hs]at h;cases ht:(C.ti t).d <;> (rw[ht]at h;exact h.elim)
theorem Rl{P:Program}{x:TI}(hx:dy P t x)(w:World):∃z,(zeroValue t).run P w = .ok z w/\z=zeroV x:=by
  obtain⟨i,d,z,hi,hd,AD,_,_,hz,KI⟩:=hx.get;refine⟨z,by simp[zeroValue,jz hi,hz],?_⟩;have ha:=hx.zag;simp only[hi,af9,hz,OW,Option.some.injEq]at ha;unfold zeroV
  cases z with
  | agg a=>
    have ha:EV x.d.ty=true:=ha.symm;have:x.zero=a.toList:=KI.symm
    cases hq:x.d.ty <;> rw[hq]at ha <;> first|(cases ha)|skip
    rw[this]
  | _=>
    have ha:EV x.d.ty=false:=ha.symm;rw[<-KI]
    cases hq:x.d.ty <;> rw[hq]at ha <;> first|rfl|(cases ha)
theorem Rm{C:Ctx}(hC:mo C){f:Fr}{ρ:Operand->Value}(hρ:Fit f ρ)(o:Oper){t:Nat}{m x y:Operand}{k:KT}{w:World}
    (he:execOp ρ o=(do Instr.mapUpdate t (ρ m) (ρ x) (ρ y);Pure.pure .skip))
    (h:px f m λu=>px f x λv=>px f y λz=>(match (C.ti t).d with
      | .map kt _=>Mg (C.ti kt).d v λkey=>xv u λq=>ae q λr=>AA (C.ti kt).d r key z w.heap λh'=>k undef h'
      | _=>False)):zQ C.P ρ o w (HK w k):=by
  have h:=bM hρ (bM hρ (bM hρ h))
  split at h
  · rename_i kt et hd
    obtain⟨key,hx,e2,h,fP⟩:=zd h;obtain⟨q,e1,h⟩:=nS h;obtain⟨r,rfl,mm,hA,hk⟩:=bI h;obtain⟨d,hu,qI⟩:=gW hC (t:=t) (by rw[hd];intro e;cases e);rw[hd]at qI;obtain⟨dk,Zm,V2⟩:=gW hC fP;have hm:C.P.underlying t=some (.map kt et):=(by cases d <;> simp[ar]at qI;obtain⟨rfl,rfl⟩:=qI;exact hu);rw[<-V2]at hx e2 hA hk;obtain⟨h',hT,hr⟩:=KJ (v:=ρ y) hm Zm hA hx;refine .inr (.inl ⟨{ w with heap:=h' },?_,⟨rfl,rfl,rfl⟩,hk h' hT⟩);rw[he,e1,e2,Sem.run_bind,hr];rfl
  · exact h.elim
theorem FR{C:Ctx}(hC:mo C){f:Fr}{ρ:Operand->Value}(hρ:Fit f ρ)(o:Oper){k:KT}{w:World}(h:zY C f o.op o.type k w.heap) :
    zQ C.P ρ o w (HK w k):=by
  by_cases hq:Pa C o.op=true
  · exact(Mu hC hρ o hq h).op
  cases ho:o.op with
  | alloc e=>
    rw[ho]at h;obtain⟨hx,hk⟩:=hC.uT h;obtain⟨i,d,z,hi,_,_,_,_,hz,KI⟩:=hx.get;have hzv:(zeroValue e).run C.P w = .ok z w:=(by simp[zeroValue,jz hi,hz]);refine .val (s:=Instr.alloc e true (.tuple #[])) (by simp only[execOp,ho]) ⟨Kx w.heap,w.alloc (.cells z.cells e),?_,⟨rfl,rfl,rfl⟩,?_⟩
    · simp only[Instr.alloc,Sem.run_bind,hzv,Result.andThen_ok,newVar,newRow,run_newObj,Sem.run_pure]
      rfl
    · have hzz:z.cells=⟨(C.ti e).zero⟩:=by apply tC;rw[<-ko,KI]
      rw[hzz];exact hk
  | box e x=>
    rw[ho]at h;have hk:=bM hρ h;refine .val (s:=Instr.box e (ρ x)) (by simp only[execOp,ho]) ⟨Kx w.heap,w.alloc (.cells (ρ x).cells e),?_,⟨rfl,rfl,rfl⟩,?_⟩
    · simp only[Instr.box,Sem.run_bind,newVar,newRow,run_newObj,Sem.run_pure,Result.andThen_ok]
      rfl
    · have hzz:(ρ x).cells=⟨mi (ρ x)⟩:=by apply tC;rw[<-ko]
      show k (Kx w.heap) (w.heap.push (.cells (ρ x).cells e));rw[hzz];exact hk
  | buildSlice t n parts=>
    rw[ho]at h;refine .val (s:=Instr.buildSlice t n (parts.map λ(i,x)=>(i,ρ x))) (by simp only[execOp,ho]) ?_
    cases hd:(C.ti t).d with
    | slice e=>
      simp only[zY,hd]at h;obtain⟨Rh,h⟩:=hC.uT h
      cases hb:(vH n parts.toList && Nat.ble (n*(C.ti e).cells) 16777216)with
      | false=>rw[hb]at h;exact h.elim
      | true=>
        rw[hb]at h;simp only[dB]at hb;exact Ig (pW hC hd) Rh hρ hb.1 hb.2 h
    | _=>simp only[zY,hd]at h
  | store t x y=>
    rw[ho]at h;obtain⟨p,hq,h⟩:=uu hρ h;obtain⟨hx,h⟩:=hC.uT (bM hρ h);obtain⟨w',hr,hs,hk⟩:=Mj hx h;refine .inr (.inl ⟨w',?_,hs,hk⟩);simp only[execOp,ho,hq,Instr.storeAt,Instr.sureAddr,Sem.run_bind,Sem.run_pure,Result.andThen_ok,hr]
  | convert s t x=>
    rw[ho]at h;rw[ho]at hq;have hns:BB (C.ti t).d=true:=(by simpa[Pa]using hq);have h:=bM hρ h;rw[hns]at h;exact .val (s:=convert s t (ρ x)) (by simp only[execOp,ho]) (TH hC (show Fz C (Nat.beq s t) (C.ti s).d (C.ti t).d (ρ x) w.heap k from h))
  | makeSlice t x y=>
    rw[ho]at h;have h:=bM hρ (bM hρ h);obtain⟨kl,l,e1,h⟩:=mJ h;obtain⟨kc,c,e2,h⟩:=mJ h
    cases hd:(C.ti t).d with
    | slice e=>
      rw[hd]at h;obtain⟨hx,h⟩:=hC.uT h;exact .val (s:=Instr.makeSlice t (ρ x) (ρ y)) (by simp only[execOp,ho]) (by rw[e1,e2];exact VN (pW hC hd) hx h)
    | _=>rw[hd]at h;exact h.elim
  | call c=>
    obtain⟨callee,args,argTypes⟩:=c;have vX:args.map ρ=⟨args.toList.map ρ⟩:=(by apply tC;simp);have YH:argTypes=⟨argTypes.toList⟩:=by simp
    cases callee with
    | builtin b=>
      have he:∀(s:Sem Value),builtin b argTypes o.type (args.map fun| .const _=>true|_=>false) (args.map ρ)=(do Pure.pure (.value (<-s)))->execOp ρ o=(do Pure.pure (.value (<-s))):=by
        intro s hs;rw[<-hs];simp only[execOp,ho,resolve];rfl
      cases b with
      | append=>
        rw[ho]at h;have h:=jI hρ (show CQ f args.toList [] _ from h);simp only[tP]at h
        split at h
        · rename_i u v t t' e1 e2
          refine .val (he (Builtin.append_ argTypes o.type (args.map ρ)) rfl) ?_;rw[vX,e1,YH,e2]
          have key:∀e,(C.ti t).d = .slice e->((∃e',(C.ti t').d = .slice e')∨(C.ti t').d = .str)->
              uT (C.ti e) (tQ u λa l c=>Y' (C.ti e) w.heap v λn new=>aJ (C.ti e) e a l c n new w.heap λa' l' c' h'=>k (.slice a' l' c') h')->
              To C.P (Builtin.append_ ⟨[t,t']⟩ o.type ⟨[u,v]⟩) w k:=by
            intro e hd OM h;obtain⟨hx,h⟩:=hC.uT h;obtain⟨a,l,c,rfl,h⟩:=mK h;obtain⟨n,new,hs,h⟩:=Ze (P:=C.P) h
            have Vc:(∃e',C.P.underlying t'=some (.slice e'))∨C.P.underlying t'=some .string:=by
              rcases OM with⟨e',OM⟩|OM
              · obtain⟨d,hu,qI⟩:=pW hC OM
                cases d <;> simp[ar]at qI
                exact .inl ⟨_,hu⟩
              · obtain⟨d,hu,qI⟩:=gW hC (t:=t') (by rw[OM];intro e;cases e)
                rw[OM]at qI
                cases d <;> simp[ar]at qI
                exact .inr hu
            exact(Tv (pW hC hd) Vc hx hs h).mono λr h' ⟨a',l',c',e,hk⟩=>by rw[e];exact hk
          split at h
          · rename_i e e' hd OM
            exact key e hd (.inl ⟨e',OM⟩) h
          · rename_i e hd OM
            exact key e hd (.inr OM) h
          · exact h.elim
        · exact h.elim
      | clear=>
        rw[ho]at h;have h:=jI hρ (show CQ f args.toList [] _ from h);simp only[tP]at h
        split at h
        · rename_i u t e1 e2
          refine .val (he (Builtin.clear_ argTypes o.type (args.map ρ)) rfl) ?_;rw[vX,e1,YH,e2]
          split at h
          · rename_i e hd
            obtain⟨hx,h⟩:=hC.uT h;obtain⟨a,l,c,hu,h2⟩:=mK h;subst hu;exact(VO (pW hC hd) hx h2).mono λr h' ⟨e,hk⟩=>by rw[e];exact hk
          · exact h.elim
        · exact h.elim
      | copy=>
        rw[ho]at h;have h:=jI hρ (show CQ f args.toList [] _ from h);simp only[tP]at h
        split at h
        · rename_i u v t t' e1 e2
          refine .val (he (Builtin.copy_ argTypes o.type (args.map ρ)) rfl) ?_;rw[vX,e1,YH,e2]
          split at h
          · rename_i e hd
            obtain⟨hx,h⟩:=hC.uT h;obtain⟨a,l,c,hu,h2⟩:=mK h;subst hu;exact(Zf (pW hC hd) hx h2).mono λr h' ⟨m,e,hk⟩=>by rw[e];exact hk
          · exact h.elim
        · exact h.elim
      | delete=>
        rw[ho]at h;have h:=jI hρ (show CQ f args.toList [] _ from h);simp only[tP]at h
        split at h
        · rename_i u v t ts e1 e2
          refine .val (he (Builtin.delete_ argTypes o.type (args.map ρ)) rfl) ?_;rw[vX,e1,YH,e2]
          split at h
          · rename_i kt et hd
            obtain⟨x,hx,rfl,h,fP⟩:=zd h;obtain⟨q,rfl,h⟩:=nS h;obtain⟨d,hu,qI⟩:=gW hC (t:=t) (by rw[hd];intro e;cases e);rw[hd]at qI;obtain⟨dk,Zm,V2⟩:=gW hC fP;have hm:C.P.underlying t=some (.map kt et):=(by cases d <;> simp[ar]at qI;obtain⟨rfl,rfl⟩:=qI;exact hu);rw[<-V2]at h hx ⊢
            cases q with
            | none=>
              refine⟨.tuple #[],w,?_,.refl _,h⟩;show(Builtin.delete_ ⟨t::ts⟩ o.type #[.map none,nQ (ar dk) x]).run C.P w=_;simp[Builtin.delete_,run_underlying hm,MapKept.run_checkKey Zm (ur hx),Result.andThen]
            | some r=>
              obtain⟨m,hA,hk⟩:=h;obtain⟨h',hT,hr⟩:=TB (ty:=o.type) hm Zm hA hx ts;exact⟨_,_,hr,⟨rfl,rfl,rfl⟩,hk h' hT⟩
          · exact h.elim
        · exact h.elim
      | len=>
        rw[ho]at h;have h:=jI hρ (show CQ f args.toList [] _ from h);simp only[tP]at h
        split at h
        · rename_i u t e1 e2
          refine .val (he (Builtin.len_ argTypes o.type (args.map ρ)) rfl) ?_;rw[vX,e1,YH,e2]
          split at h
          · rename_i kt et hd
            obtain⟨q,rfl,h⟩:=nS h;obtain⟨hxk,h⟩:=hC.uT h;obtain⟨_,dk,_,_,Zm,V2,_⟩:=hxk.get;obtain⟨d,hu,qI⟩:=gW hC (t:=t) (by rw[hd];intro e;cases e);rw[hd]at qI;have hm:C.P.underlying t=some (.map kt et):=(by cases d <;> simp[ar]at qI;obtain⟨rfl,rfl⟩:=qI;exact hu);rw[<-V2]at h
            cases q with
            | none=>exact⟨_,w,I' (dc:=dk) (m:=[]) hm rfl,.refl _,h⟩
            | some r=>
              obtain⟨m,hA,hk⟩:=h;exact⟨_,w,I' (dc:=dk) (m:=m) hm hA,.refl _,hk⟩
          · rename_i Zl
            have fP:(C.ti t).d≠.other:=(by intro e;rw[e]at h;cases u <;> exact h.elim);obtain⟨d,hu,qI⟩:=gW hC fP;rw[<-qI]at h;obtain⟨v,h1,h2⟩:=Rk hu h o.type;exact⟨v,w,h1 w,.refl _,h2⟩
        · exact h.elim
      | _=>first|(rw[ho]at hq;exact(hq rfl).elim)|(rw[ho]at h;exact h.elim)
    | value x=>
      cases x with
      | func g=>
        rw[ho]at h;have h:=jI hρ (show CQ f args.toList [] _ from h);simp only[tP]at h;have hg:=hρ (.func g) _ rfl
        have aa9:execOp ρ o=callFunc g ⟨args.toList.map ρ⟩:=by
          simp only[execOp,ho,resolve,hg,Deferred.ofValue,vX];show callFunc g _=_;congr 1;apply tC;simp
        cases hn:C.nat.any (Nat.beq g)with
        | false=>rw[hn]at h;exact Ri (g:=g) (args:=args.toList.map ρ) aa9 h
        | true=>
          rw[hn,cond_true]at h;obtain⟨g',hg',hb⟩:=Fw.mp hn;have hb:=xP hb;subst hb
          split at h
          · rename_i u v e1
            obtain⟨s,eu,h2⟩:=wZ h;obtain⟨kd,c,ev,hk8,h3⟩:=mJ h2;subst hk8;exact .inl ⟨_,w,by rw[aa9,e1,eu,ev];exact hC.nat g hg' s c w,.refl _,h3⟩
          · exact h.elim
      | tmp s=>
        rw[ho]at h;have h:=jI hρ (show CQ f args.toList [] _ from bM hρ (show px f (.tmp s) _ from h));simp only[tP]at h;unfold gJ at h
        split at h
        · rename_i g fs cs hv
          refine Ri (g:=g) (args:=fs.toList++args.toList.map ρ++cs.toList) ?_ h;simp only[execOp,ho,resolve,hv,Deferred.ofValue,vX];show callFunc g _=_;congr 1;apply tC;simp
        · rename_i l fs cs hv
          obtain⟨fn,tmps,assign,body,hy,hR⟩:=h w rfl;refine .inr (.inr (.inr ⟨l,fn,tmps,assign,body,?_,hR.mono λe w' ⟨u,h1,h2,h3⟩=>⟨u,h1,h2,AL h3⟩⟩))
          have he:execOp ρ o=Instr.yield l ⟨fs.toList++args.toList.map ρ⟩:=by
            simp only[execOp,ho,resolve,hv,Deferred.ofValue,vX];show Instr.yield l _=_;congr 1;apply tC;simp
          rw[he];exact hy
        · exact h.elim
      | _=>rw[ho]at h;exact h.elim
    | invoke r m=>rw[ho]at h;exact h.elim
  | makeMap t r=>
    cases r with
    | none=>
      rw[ho]at h;refine .val (s:=Instr.makeMap t none) (by simp only[execOp,ho];rfl) ⟨.map (some w.heap.size),w.alloc (.map #[] 0),?_,⟨rfl,rfl,rfl⟩,h⟩;simp[Instr.makeMap,Result.andThen]
    | some x=>rw[ho]at h;exact h.elim
  | insert t m x y=>exact Rm (t:=t) (m:=m) (x:=x) (y:=y) hC hρ o (by simp only[execOp,ho]) (by rw[ho]at h;exact h)
  | mapUpdate t m x y=>exact Rm (t:=t) (m:=m) (x:=x) (y:=y) hC hρ o (by simp only[execOp,ho]) (by rw[ho]at h;exact h)
  | lookup t m x ok=>
    rw[ho]at h;have h:=bM hρ (bM hρ (show px f m _ from h));refine .val (s:=Instr.lookup t (ρ m) (ρ x) ok) (by simp only[execOp,ho]) ?_
    split at h
    · rename_i kt et hd
      obtain⟨Rh,h⟩:=hC.uT h;obtain⟨key,hx,e2,h,fP⟩:=zd h;obtain⟨q,e1,h⟩:=nS h;obtain⟨d,hu,qI⟩:=gW hC (t:=t) (by rw[hd];intro e;cases e);rw[hd]at qI;obtain⟨dk,Zm,V2⟩:=gW hC fP;have hm:C.P.underlying t=some (.map kt et):=(by cases d <;> simp[ar]at qI;obtain⟨rfl,rfl⟩:=qI;exact hu);rw[<-V2]at h hx e2;obtain⟨z,hz,ez⟩:=Rl Rh w;rw[e1,e2]
      have main:∀mm:sT,(match (generalizing:=false) q with|none=>mm=[]|some r=>nK (ar dk) w.heap r mm)->
          VD (C.ti et).d.ty (λr=>(nD mm key).getD (zeroV (C.ti et))=r) (λr=>bif ok then k (.tuple #[r,.bool (nD mm key).isSome]) w.heap else k r w.heap)->To C.P (Instr.lookup t (.map q) (nQ (ar dk) key) ok) w k:=by
        intro mm hA hk;obtain⟨r,hr,hk⟩:=nR hk;refine⟨_,w,TC hm Zm hz hA hx,.refl _,?_⟩;rw[ez,hr]
        cases ok <;> exact hk
      cases q with
      | none=>exact main [] rfl h
      | some r=>
        obtain⟨mm,hA,hk⟩:=h;exact main mm hA hk
    · exact h.elim
  | mapEntry t m x=>
    rw[ho]at h;have h:=bM hρ (bM hρ (show px f m _ from h));refine .val (s:=Instr.mapEntry t (ρ m) (ρ x)) (by simp only[execOp,ho]) ?_
    split at h
    · rename_i kt et hd
      obtain⟨Rh,h⟩:=hC.uT h
      have hh:(pC (C.ti kt).d && pC (C.ti et).d)=true:=by
        cases e:pC (C.ti kt).d && pC (C.ti et).d
        · rw[e]at h;exact h.elim
        · rfl
      rw[hh]at h
      have hkt:(C.ti kt).d = .int .i64:=by
        have:=(dB _ _▸hh:pC (C.ti kt).d=true/\pC (C.ti et).d=true).1;unfold pC at this
        split at this
        · assumption
        · cases this
      have h:zeroV (C.ti et) = .int .i64 0/\Mg (C.ti kt).d (ρ x) _:=h;obtain⟨hz0,h⟩:=h;rw[hkt]at h;obtain⟨key,hx,e2,h,_⟩:=zd h;obtain⟨q,e1,h⟩:=nS h;obtain⟨r,rfl,mm,hA,hk⟩:=bI h;obtain⟨d,hu,qI⟩:=gW hC (t:=t) (by rw[hd];intro e;cases e);rw[hd]at qI;obtain⟨dk,Zm,V2⟩:=gW hC (t:=kt) (by rw[hkt];intro e;cases e);have hm:C.P.underlying t=some (.map kt et):=by cases d <;> simp[ar]at qI;obtain⟨rfl,rfl⟩:=qI;exact hu
      have hki:C.P.underlying kt=some (.int .i64):=by
        rw[hkt]at V2
        cases dk <;> simp[ar]at V2
        subst V2;exact Zm
      obtain⟨z,hz,ez⟩:=Rl Rh w;rw[hz0]at ez;subst ez;obtain⟨z,s,h',hE,hr⟩:=Mp hm hki hz hA hx;rw[e1,e2];exact⟨_,_,hr,⟨rfl,rfl,rfl⟩,hk z s h' hE⟩
    · exact h.elim
  | entryStore t m s x=>
    rw[ho]at h;have h:=bM hρ (bM hρ (bM hρ (show px f m _ from h)))
    split at h
    · rename_i kt et hd
      have hh:(pC (C.ti kt).d && pC (C.ti et).d)=true:=by
        cases e:pC (C.ti kt).d && pC (C.ti et).d
        · rw[e]at h;exact h.elim
        · rfl
      rw[hh]at h;obtain⟨q,e1,h⟩:=nS (show xv (ρ m) _ from h);obtain⟨r,rfl,h⟩:=bI h;obtain⟨kd1,sn,e2,h⟩:=mJ h;obtain⟨kd,z,e3,rfl,mm,key,hA,hS,hk⟩:=mJ h
      have hx:mn (.int .i64) key=true:=by
        obtain⟨es,clock,e,hb,xK,_,EH⟩:=hS;obtain⟨YG,ck2,OL,he,_,_⟩:=hA;rw[hb]at OL
        cases OL
        cases key with
        | i n=>rfl
        | s b=>
          exfalso;have:(e.key,e.val)∈es.toList.map (λe=>(e.key,e.val)):=jc.mpr ⟨e,xK,rfl⟩;rw[he]at this;obtain⟨p,hp,e1⟩:=jc.mp this;obtain⟨q,_,rfl⟩:=jc.mp hp;have e1:nQ (.int .i64) (.i q.1)=e.key:=congrArg Prod.fst e1;rw[EH]at e1
          cases e1
      obtain⟨h',hT,hr⟩:=Ie (t:=t) (P:=C.P) (z:=z) hA hS hx;refine .inr (.inl ⟨{ w with heap:=h' },?_,⟨rfl,rfl,rfl⟩,hk h' hT⟩)
      have hr':(Instr.entryStore t (ρ m) (ρ s) (ρ x)).run C.P w = .ok () { w with heap:=h' }:=by
        rw[e1,e2,e3];simp only[Instr.entryStore,asInt,asIntOf]at hr ⊢;exact hr
      simp only[execOp,ho];rw[Sem.run_bind,hr'];rfl
    · exact h.elim
  | range t x=>
    rw[ho]at h;have h:=bM hρ (show px f x _ from h);refine .val (s:=Instr.range t (ρ x)) (by simp only[execOp,ho]) ?_
    split at h
    · rename_i hd
      obtain⟨s,e1,h⟩:=wZ h;obtain⟨d,hu,qI⟩:=gW hC (t:=t) (by rw[hd];intro e;cases e);rw[hd]at qI;have hm:C.P.underlying t=some .string:=(by cases d <;> simp[ar]at qI;exact hu);rw[e1];refine⟨Kx w.heap,w.alloc (.stringIter s 0),?_,⟨rfl,rfl,rfl⟩,h⟩;simp[Instr.range,run_underlying hm,Result.andThen];rfl
    · rename_i kt et hd
      have hh:(pC (C.ti kt).d && pC (C.ti et).d)=true:=by
        cases e:pC (C.ti kt).d && pC (C.ti et).d
        · rw[e]at h;exact h.elim
        · rfl
      rw[hh]at h;obtain⟨q,e1,h⟩:=nS (show xv (ρ x) _ from h);obtain⟨r,rfl,m,⟨es,clock,hr,hm,_,tB⟩,hk⟩:=bI h;obtain⟨d,hu,qI⟩:=gW hC (t:=t) (by rw[hd];intro e;cases e);rw[hd]at qI;obtain⟨k',e',V3⟩:∃k' e',C.P.underlying t=some (.map k' e'):=(by cases d <;> simp[ar]at qI;exact⟨_,_,hu⟩);rw[e1]
      have bV:r<w.heap.size:=by
        rcases rI r w.heap.size with y|y
        · exact y
        · rw[lw4 y]at hr;cases hr
      refine⟨Kx w.heap,w.alloc (.mapIter (some r) clock #[] clock),run_range_map w t k' e' r es clock V3 hr,⟨rfl,rfl,rfl⟩,hk _ ⟨by simp,λb hb=>heap_alloc_old w _ hb,⟨es,clock,clock,#[],clock,(heap_alloc_old w _ bV).trans hr,heap_alloc_new w _,?_,tB,tB.1,Nat.le_refl _,Nat.le_refl _,?_⟩⟩⟩
      · rw[hm,mI,qJ];rfl
      · have:(es.toList.filter λe=>!(#[]:Array Nat).contains e.born)=es.toList:=acP.mpr λx _=>by simp
        rw[this,hm,mI,qJ];rfl
    · exact h.elim
  | next x str=>
    cases str with
    | false=>
      rw[ho]at h;obtain⟨p,e1,h⟩:=uu hρ (show px f x _ from h);obtain⟨h0,r,m,left,H,hN,hS⟩:=h;obtain⟨b,off,sp⟩:=p;have h0:off=0:=h0;subst h0;refine .val (s:=Instr.next (ρ x) false o.type) (by simp only[execOp,ho]) ?_;rw[e1];exact Mt H hN hS
    | true=>
      rw[ho]at h;obtain⟨p,e1,h⟩:=uu hρ (show px f x _ from h);obtain⟨h0,s,pos,hs,h1,h2⟩:=h;refine .val (s:=Instr.next (ρ x) true o.type) (by simp only[execOp,ho]) ?_;obtain⟨b,off,sp⟩:=p;have h0:off=0:=h0;subst h0;have hs:w.heap[b]?=some (.stringIter s pos):=hs;have hg:(getObj b).run C.P w = .ok (.stringIter s pos) w:=(by simp[getObj,Sem.run,hs]);rw[e1]
      by_cases bV:pos<s.size
      · have KK:∀o',(setObj b o').run C.P w = .ok () { w with heap:=w.heap.setIfInBounds b o' }:=λo'=>by simp[setObj,Sem.run,hs]
        refine⟨_,{ w with heap:=w.heap.setIfInBounds b (.stringIter s (pos+(Utf8.decode s pos).2)) },?_,⟨rfl,rfl,rfl⟩,h1 bV _ ⟨by simp,λb' pV=>(MapKept.heap_set hs).2 b' pV,(MapKept.heap_set hs).1⟩⟩;simp[Instr.next,hg,bV,KK,goInt,Result.andThen]
      · refine⟨_,w,?_,.refl _,h2 bV⟩
        simp[Instr.next,hg,bV,Result.andThen]
  | entry x=>
    rw[ho]at h;obtain⟨p,e1,h⟩:=uu hρ (show px f x _ from h);obtain⟨h0,r,n,v,⟨es,clock,since,seen,e,hr,hb,hk,hf,ek,ev⟩,hh⟩:=h;obtain⟨b,off,sp⟩:=p;have h0:off=0:=h0;subst h0;have hr:w.heap[r]?=some (.map es clock):=hr;have hb:w.heap[b]?=some (.mapIter (some r) since seen clock):=hb;refine .val (s:=Instr.entry (ρ x)) (by simp only[execOp,ho]) ?_;rw[e1];refine⟨.tuple #[.int .i64 n,.int .i64 v],w,?_,.refl _,hh⟩;simp only[Instr.entry,getObj,Sem.run_bind,Sem.run,hb,hr,hk,Result.andThen,bne_self_eq_false,Ay,if_false,hf,ek,ev];rfl
  | _=>first|(rw[ho]at hq;exact(hq rfl).elim)|(rw[ho]at h;exact h.elim)
def toD : Value->Deferred
  | .pointer (some a)=>{ target:=.collected a.block,args:=#[] }
  | .tuple ⟨.func g fs cs::us⟩=>{ target:=.fn g cs,args:=fs++⟨us⟩ }
  | _=>default
theorem Fr.BH(f:Fr):Fr.get f iL=none:=by
  unfold Fr.get;rw[vE];rfl
theorem Fr.KN{f:Fr}(h:t≠iL):Fr.get f t=Tg f t:=by
  unfold Fr.get
  cases hb:Nat.beq t iL with
  | true=>exact absurd (xP hb) h
  | false=>rfl
theorem Jg(f:Fr)(d t:Nat)(v:Value):Tg ((d,v)::f) t=if d=t then some v else Tg f t:=by
  show(bif Nat.beq d t then some v else Tg f t)=_
  cases h:Nat.beq d t with
  | true=>rw[if_pos (xP h)];rfl
  | false=>
    have:d≠t:=λe=>by subst e;rw[vE]at h;cases h
    rw[if_neg this];rfl
theorem Fr.uv(f:Fr)(d t:Nat)(v:Value)(hd:d≠iL):Fr.get ((d,v)::f) t=if d=t then some v else Fr.get f t:=by
  by_cases ht:t=iL
  · subst ht;rw[Fr.BH,Fr.BH,if_neg hd]
  · rw[Fr.KN ht,Fr.KN ht,Jg]
theorem Fr.vY(f:Fr)(t:Nat)(v:Value):Fr.get ((iL,v)::f) t=Fr.get f t:=by
  by_cases ht:t=iL
  · subst ht;rw[Fr.BH,Fr.BH]
  · rw[Fr.KN ht,Fr.KN ht,Jg,if_neg λe=>ht e.symm]
theorem Fr.EX{f:Fr}{v:Value}(h:Fr.get f t=some v):t≠iL:=λe=>by subst e;rw[Fr.BH]at h;cases h
theorem vZ(f:Fr)(d:Nat)(v:Value)(hd:d≠iL):wS ((d,v)::f)=wS f:=by
  show(bif Nat.beq d iL then v::wS f else wS f)=_
  cases h:Nat.beq d iL with
  | true=>exact absurd (xP h) hd
  | false=>rfl
theorem zg(f:Fr)(v:Value):wS ((iL,v)::f)=v::wS f:=by
  show(bif Nat.beq iL iL then v::wS f else wS f)=_;rw[vE];rfl
theorem Fr.Jh(f:Fr)(t:Nat):∀ds:LV,Fr.get (Bw ds f) t=Fr.get f t
  | []=>rfl
  | v::r=>by rw[Bw,Fr.vY,Fr.Jh f t r]
theorem Ji(f:Fr):∀ds:LV,wS (Bw ds f)=ds++wS f
  | []=>rfl
  | v::r=>by rw[Bw,zg,Ji f r];rfl
theorem KO(t:Nat):∀f:Fr,Fr.get (QV f) t=Fr.get f t
  | []=>rfl
  | (d,v)::r=>by
    show Fr.get (bif Nat.beq d iL then QV r else(d,v)::QV r) t=_
    cases h:Nat.beq d iL with
    | true=>
      have:=xP h;subst this;rw[Fr.vY];exact KO t r
    | false=>
      have hd:d≠iL:=λe=>by subst e;rw[vE]at h;cases h
      show Fr.get ((d,v)::QV r) t=_;rw[Fr.uv _ _ _ _ hd,Fr.uv _ _ _ _ hd,KO t r]
theorem KP : ∀f:Fr,wS (QV f)=[]
  | []=>rfl
  | (d,v)::r=>by
    show wS (bif Nat.beq d iL then QV r else(d,v)::QV r)=_
    cases h:Nat.beq d iL with
    | true=>exact KP r
    | false=>
      have hd:d≠iL:=λe=>by subst e;rw[vE]at h;cases h
      show wS ((d,v)::QV r)=_;rw[vZ _ _ _ hd,KP r]
structure wP(n:Nat)(a:Act)(f:Fr):Prop where
  lim:n<=iL
  size:a.tmps.size=n
  defers:a.defers=(wS f).map toD
  val:∀t v,Fr.get f t=some v->a.tmps.getD t undef=v
theorem wP.fit{f:Fr}(h:wP n a f):Fit f a.eval:=by
  intro x v hx
  cases x with
  | tmp t=>exact h.val t v hx
  | const u=>exact Option.some.inj hx
  | global g=>exact Option.some.inj hx
  | func g=>exact Option.some.inj hx
def v7(n:Nat)(o:Oper):Bool:=
  match o.dst with
  | some d=>Nat.blt d n
  | none=>true
theorem wP.put{n:Nat}{a:Act}{f:Fr}(h:wP n a f){o:Oper}(hd:v7 n o=true)(v:Value):wP n (a.put o.dst v) (mf f o.dst v):=by
  unfold v7 at hd
  cases uZ:o.dst with
  | none=>exact h
  | some d=>
    rw[uZ]at hd;have bV:d<n:=xS hd;have fP:d≠iL:=Nat.ne_of_lt (mV bV h.lim);refine⟨h.lim,by simp[Act.put,h.size],by rw[show mf f (some d) v=(d,v)::f from rfl,vZ _ _ _ fP];exact h.defers,λt u hu=>?_⟩;rw[show mf f (some d) v=(d,v)::f from rfl,Fr.uv _ _ _ _ fP]at hu
    by_cases e:d=t
    · subst e
      rw[if_pos rfl]at hu;have:=Option.some.inj hu;subst this;simp[Act.put,h.size,bV]
    · rw[if_neg e]at hu
      have:=h.val t u hu;simpa[Act.put,S6 e]using this
def FW(ro:Option Nat):Fence:={ Fence.wide with round:=ro }
theorem AM{ro:Option Nat}{P:Program}{args:Array Value}{R:Ending->World->Prop}(h:Calls P f args w R):CallsIn (FW ro) m P f args w R:=
  (callsIn_wide (n:=m)).2 h
theorem Pb{ro:Option Nat}{P:Program}{l:Nat}{tmps:Array Value}{assign body:Code}{R:Ending->World->Prop}(h:RoundIn Fence.wide 0 P l f tmps assign body w R):RoundIn (FW ro) m P l f tmps assign body w R:=
  ⟨trivial,λc cs _=>h.2 c cs (room_wide _)⟩
theorem semAt_plain{ro:Option Nat}{ρ:Operand->Value}{o:Oper}(h:ro=none∨iX o.op=false):Oper.semAt ro ρ o=execOp ρ o:=by
  cases ro with
  | none=>exact Oper.semAt_none ρ o
  | some l=>
    refine Oper.semAt_some l ρ o λc e=>?_
    rcases h with h|h
    · cases h
    · rw[e]at h;cases h
theorem tU{ro:Option Nat}{P:Program}{o:Oper}{k:Value->World->Prop}{next:Act->World->Prop}{Q:Exit->Act->World->Prop}(hd:ro=none∨iX o.op=false)
    (h:zQ P a.eval o w k) (hk:∀v w',k v w'->next (a.put o.dst v) w'):o.wpIn (FW ro) m P a w next Q:=by
  refine⟨λ_ _=>trivial,?_⟩;show o.uponIn (FW ro) m P a next Q ((o.semAt ro a.eval).run P w);rw[semAt_plain hd]
  rcases h with⟨v,w',hr,hv⟩|⟨w',hr,hv⟩|⟨g,args,hr,hc⟩|⟨l,fn,tmps,assign,body,hr,hc⟩
  · rw[hr];exact hk _ _ hv
  · rw[hr];exact hk _ _ hv
  · rw[hr,Oper.uponIn_enter]
    exact⟨(λx=>by cases x),AM (hc.mono λe w'' ⟨v,he,hv⟩=>by subst he;exact hk _ _ hv)⟩
  · rw[hr,Oper.uponIn_round]
    exact⟨(λx=>by cases x),Pb (hc.mono λe w'' ⟨v,he,hv⟩=>by subst he;exact hk _ _ hv)⟩
theorem Jj{f:Fr}{P:Program}{ρ:Operand->Value}(hρ:Fit f ρ){o:Oper}{w:World}{k:Value->Prop}(hd:iX o.op=true)(h:CW f (FB o.op) k) :
    ∃d,(execOp ρ o).run P w = .ok (.defer (toD d)) w/\k d:=by
  cases ho:o.op with
  | defer c=>
    rw[ho]at h;have h:CW f c k:=h;obtain⟨callee,args,Ti⟩:=c
    cases callee with
    | value x=>
      have h:=bM hρ (show px f x _ from h)
      split at h
      · rename_i g fs cs hv
        have h:=jI hρ h;simp only[tP]at h;refine⟨_,?_,h⟩;simp only[execOp,ho,resolve,hv,Deferred.ofValue,Sem.run_bind,Sem.run_pure,Result.andThen_ok,toD];congr 3;apply tC;simp
      · exact h.elim
    | builtin b=>exact h.elim
    | invoke r m=>exact h.elim
  | _=>rw[ho]at hd;cases hd
theorem u9{b:Bool}{v:Value}{k:Value->Prop}(h:xX b v k):k v:=by
  unfold xX at h
  cases b with
  | false=>exact h
  | true=>
    cases v with
    | bool t=>cases t <;> exact h
    | _=>exact h
theorem xa{f:Fr}(hA:wP n a f){full:List Oper}{o:Oper}{k:Bool->Prop}(h:FA full f o.guard k):k (Region.wanted o (yielded full.toArray a.tmps)):=by
  unfold Region.wanted
  cases hg:o.guard with
  | none=>rw[hg]at h;exact h
  | some jw=>
    obtain⟨j,want⟩:=jw;rw[hg]at h;obtain⟨oj,zh,h1⟩:=bI h;obtain⟨d,hd,h2⟩:=bI h1;obtain⟨v,hv,h3⟩:=bI h2;have BI:=hA.val d v hv
    have hy:yielded full.toArray a.tmps j=(match a.tmps[d]? with|some (.bool b)=>some b|_=>none):=by
      unfold yielded;simp only[acM,zh,af9,hd];rfl
    have hget:a.tmps[d]?=some v∨(a.tmps[d]?=none/\v=undef):=by
      rw[Array.getD_eq_getD_getElem?]at BI
      cases hh:a.tmps[d]? with
      | none=>rw[hh]at BI;exact .inr ⟨rfl,BI.symm⟩
      | some u=>rw[hh]at BI;exact .inl (congrArg some BI)
    show k (yielded full.toArray a.tmps j==some want);rw[hy]
    rcases hget with hh|⟨hh,rfl⟩
    · rw[hh]
      cases v with
      | bool b=>simpa using h3
      | tuple vs=>exact h3
      | _=>exact h3.elim
    · rw[hh];exact h3
def dstsOf(l:List Oper):List Nat:=l.filterMap (·.dst)
def adg(l:List Oper):List Nat:=bif l.any λo=>iX o.op then[iL]else[]
def iV : Code->List Nat
  | .region _ ops _=>adg ops.toList++dstsOf ops.toList
  | .rangeFunc _ _ _ _=>[iL]
  | .seq a b=>iV a++iV b
  | .cond _ a b=>iV a++iV b
  | .block _ a| .loop a| .scope a=>iV a
  | _=>[]
structure jY(M:List Nat)(a a':Act):Prop where
  tmp:∀t,t ∉ M->a'.tmps.getD t undef=a.tmps.getD t undef
  V4:iL ∉ M->a'.defers=a.defers
theorem jY.refl(M:List Nat)(a:Act):jY M a a:=⟨λ_ _=>rfl,λ_=>rfl⟩
theorem jY.trans{M:List Nat}{a b c:Act}(h:jY M a b)(k:jY M b c):jY M a c:=⟨λt ht=>(k.tmp t ht).trans (h.tmp t ht),λx=>(k.V4 x).trans (h.V4 x)⟩
theorem jY.mono{M M':List Nat}(h:jY M a b)(hm:∀ t ∈ M,t ∈ M'):jY M' a b:=⟨λt ht=>h.tmp t λh'=>ht (hm t h'),λx=>h.V4 λh'=>x (hm _ h')⟩
theorem Act.put_defers(a:Act)(d:Option Nat)(v:Value):(a.put d v).defers=a.defers:=by cases d <;> rfl
theorem jY.put{M:List Nat}{a b:Act}(h:jY M a b){o:Oper}(hd:∀ d,o.dst=some d->d ∈ M)(v:Value):jY M a (b.put o.dst v):=by
  refine⟨λt ht=>?_,λx=>(Act.put_defers _ _ _).trans (h.V4 x)⟩
  cases uZ:o.dst with
  | none=>exact h.tmp t ht
  | some d=>
    have fP:d≠t:=λe=>ht (e▸hd d uZ);have:=h.tmp t ht;simpa[Act.put,S6 fP]using this
theorem AN{l:List Oper}{o:Oper}(ho:o ∈ l){d:Nat}(hd:o.dst=some d):d∈dstsOf l:=List.mem_filterMap.2 ⟨o,ho,hd⟩
theorem Rn{C:Ctx}(hC:mo C){ro:Option Nat}{n:Nat}{w0:World}{a0:Act}{M:List Nat}{full:List Oper}{N:Fr->ad->Prop}{Q:Exit->Act->World->Prop}
    (hN:∀f a w,N f w.heap->wP n a f->bh w0 w->jY M a0 a->Q .normal a w) :
    ∀(l:List Oper),(∀o∈l,v7 n o=true)->(∀o∈l,∀d,o.dst=some d->d∈M)->(∀o∈l,iX o.op=true->iL∈M/\ro=none)->∀(f:Fr) (a:Act) (w:World),Mi C full l N f w.heap->wP n a f->bh w0 w->jY M a0 a->wpListIn (FW ro) 0 C.P full.toArray Q l a w
  | [],_,_,_,f,a,w,h,hA,hR,hM=>hN f a w h hA hR hM
  | o::r,hl,hm,hdf,f,a,w,h,hA,hR,hM=>by
    have hw:=xa hA (show FA full f o.guard _ from h);have hd:=hl o (by simp);have Vf:=hm o (by simp);have hdo:=hdf o (by simp);have rest:=Rn (full:=full) hC (ro:=ro) hN r (λo' Ro=>hl o' (by simp[Ro])) (λo' Ro=>hm o' (by simp[Ro])) (λo' Ro=>hdf o' (by simp[Ro]));unfold wpListIn
    split
    · rename_i FT
      rw[FT]at hw
      cases O2:iX o.op with
      | true=>
        obtain⟨hk,DT⟩:=hdo O2;have hw:(bif iX o.op then CW f (FB o.op) λd=>Mi C full r N (mf ((iL,d)::f) o.dst undef) w.heap else _):=hw;rw[O2,cond_true]at hw;obtain⟨d,hr,hx⟩:=Jj (P:=C.P) (w:=w) hA.fit O2 hw;refine⟨λ_ _=>trivial,?_⟩;show o.uponIn (FW ro) 0 C.P a _ Q ((o.semAt ro a.eval).run C.P w);rw[semAt_plain (.inl DT),hr,Oper.uponIn_defer];have YI:wP n { a with defers:=toD d::a.defers } ((iL,d)::f):=⟨hA.lim,hA.size,by rw[zg,lI,<-hA.defers],λt v h=>hA.val t v (by rwa[Fr.vY]at h)⟩;have hM':jY M a0 { a with defers:=toD d::a.defers }:=⟨hM.tmp,λx=>absurd hk x⟩;exact rest _ _ w hx (YI.put hd undef) hR (hM'.put Vf undef)
      | false=>
        have hw:(bif iX o.op then _ else zY C f o.op o.type (λv h'=>xX (guards full o) v λv=>Mi C full r N (mf f o.dst v) h') w.heap):=hw;rw[O2,cond_false]at hw;refine tU (.inr O2) (FR hC hA.fit o hw) λv w' ⟨hr,hk⟩=>?_;exact rest _ _ w' (u9 hk) (hA.put hd v) (hR.trans hr) (hM.put Vf v)
    · rename_i FT
      have Pc:Region.wanted o (yielded full.toArray a.tmps)=false:=(by simpa using FT);rw[Pc]at hw;exact⟨λ_ _=>trivial,rest _ _ w hw (hA.put hd undef) hR (hM.put Vf undef)⟩
theorem V5{C:Ctx}{ro:Option Nat}{f:Fr}(hρ:Fit f a.eval)(o:Oper)(hi:isP C o=true){k X:KT}{next:Act->World->Prop}{Q:Exit->Act->World->Prop}{w:World}(h:Q1 C f o.op o.type k X w.heap)
    (hk:∀v w',bh w w'->k v w'.heap->next (a.put o.dst v) w') (hX:∀v w',bh w w'->X v w'.heap->Q (.panic [{ v:=v,recovered:=false }]) a w'):o.wpIn (FW ro) 0 C.P a w next Q:=by
  obtain⟨dst,op,type,pos,after,guard⟩:=o
  have hnd:iX op=false:=by
    cases op with
    | defer c=>cases hi
    | _=>rfl
  refine⟨λ_ _=>trivial,?_⟩;show Oper.uponIn (FW ro) 0 C.P _ a next Q ((Oper.semAt ro a.eval _).run C.P w);rw[semAt_plain (.inr hnd)];unfold Q1 at h
  split at h
  · rename_i op' g args ats e
    have e:op=_:=e;subst e;obtain⟨⟨fn,hf,hn,hb⟩,hc⟩:=jI hρ h
    have hr:(execOp a.eval (⟨dst,.call { callee:=.value (.func g),args:=args,argTypes:=ats },type,pos,after,guard⟩:Oper)).run C.P w = .ok (.enter g ⟨[]++args.toList.map a.eval⟩) w:=by
      show(callFunc g _).run C.P w=_;simp only[callFunc,Sem.run_bind,run_program,Result.andThen_ok,hf,hn,hb,Ay,if_false,Sem.run_pure];congr 2;apply tC;simp
    rw[hr,Oper.uponIn_enter];refine⟨(λx=>by cases x),AM ((hc w rfl).mono λe w' he=>?_)⟩;obtain⟨hs,h1|h1⟩:=he
    · obtain⟨v,rfl,h2⟩:=h1
      exact hk v w' hs (AL h2)
    · obtain⟨v,rfl,h2⟩:=h1
      exact hX v w' hs h2
  · rename_i op' x e
    have e:op=_:=e;subst e;have h:=bM hρ h;have hx:(execOp a.eval (⟨dst,.panic x,type,pos,after,guard⟩:Oper)).run C.P w=(do Pure.pure (.value (<-Instr.panic (a.eval x))):Sem Next).run C.P w:=rfl;rw[hx];generalize a.eval x=v at h
    cases v with
    | iface T u=>exact hX (.iface T u) w (.refl w) h
    | _=>exact h.elim
  · exact h.elim
theorem Rp{C:Ctx}(hC:mo C){ro:Option Nat}{n:Nat}{w0:World}{a0:Act}{M:List Nat}{full:List Oper}{N:Fr->ad->Prop}{X:Value->Fr->ad->Prop}{Q:Exit->Act->World->Prop}
    (hN:∀f a w,N f w.heap->wP n a f->bh w0 w->jY M a0 a->Q .normal a w)
    (hX:∀v f a w,X v f w.heap->wP n a f->bh w0 w->jY M a0 a->Q (.panic [{ v:=v,recovered:=false }]) a w) :
    ∀(l:List Oper),(∀o∈l,v7 n o=true)->(∀o∈l,∀d,o.dst=some d->d∈M)->(∀o∈l,iX o.op=true->iL∈M/\ro=none)->∀(f:Fr) (a:Act) (w:World),H8 C full X l N f w.heap->wP n a f->bh w0 w->jY M a0 a->wpListIn (FW ro) 0 C.P full.toArray Q l a w
  | [],_,_,_,f,a,w,h,hA,hR,hM=>hN f a w h hA hR hM
  | o::r,hl,hm,hdf,f,a,w,h,hA,hR,hM=>by
    have hw:=xa hA (show FA full f o.guard _ from h);have hd:=hl o (by simp);have Vf:=hm o (by simp);have hdo:=hdf o (by simp);have rest:=Rp (full:=full) hC (ro:=ro) hN hX r (λo' Ro=>hl o' (by simp[Ro])) (λo' Ro=>hm o' (by simp[Ro])) (λo' Ro=>hdf o' (by simp[Ro]));unfold wpListIn
    split
    · rename_i FT
      rw[FT]at hw
      have hw:(bif isP C o then Q1 C f o.op o.type (λv h'=>H8 C full X r N (mf f o.dst v) h') (λv h'=>X v f h') w.heap
        else bif iX o.op then CW f (FB o.op) λd=>H8 C full X r N (mf ((iL,d)::f) o.dst undef) w.heap else _):=hw
      cases hip:isP C o with
      | true=>
        rw[hip,cond_true]at hw;exact V5 hA.fit o hip hw (λv w' hs h1=>rest _ _ w' h1 (hA.put hd v) (hR.trans hs) (hM.put Vf v)) λv w' hs h1=>hX v f a w' h1 hA (hR.trans hs) hM
      | false=>
        rw[hip,cond_false]at hw
        cases O2:iX o.op with
        | true=>
          obtain⟨hk,DT⟩:=hdo O2;rw[O2,cond_true]at hw;obtain⟨d,hr,hx⟩:=Jj (P:=C.P) (w:=w) hA.fit O2 hw;refine⟨λ_ _=>trivial,?_⟩;show o.uponIn (FW ro) 0 C.P a _ Q ((o.semAt ro a.eval).run C.P w);rw[semAt_plain (.inl DT),hr,Oper.uponIn_defer];have YI:wP n { a with defers:=toD d::a.defers } ((iL,d)::f):=⟨hA.lim,hA.size,by rw[zg,lI,<-hA.defers],λt v h=>hA.val t v (by rwa[Fr.vY]at h)⟩;have hM':jY M a0 { a with defers:=toD d::a.defers }:=⟨hM.tmp,λx=>absurd hk x⟩;exact rest _ _ w hx (YI.put hd undef) hR (hM'.put Vf undef)
        | false=>
          have hw:(bif iX o.op then _ else zY C f o.op o.type (λv h'=>xX (guards full o) v λv=>H8 C full X r N (mf f o.dst v) h') w.heap):=hw;rw[O2,cond_false]at hw;refine tU (.inr O2) (FR hC hA.fit o hw) λv w' ⟨hr,hk⟩=>?_;exact rest _ _ w' (u9 hk) (hA.put hd v) (hR.trans hr) (hM.put Vf v)
    · rename_i FT
      have Pc:Region.wanted o (yielded full.toArray a.tmps)=false:=(by simpa using FT);rw[Pc]at hw;exact⟨λ_ _=>trivial,rest _ _ w hw (hA.put hd undef) hR (hM.put Vf undef)⟩
structure Post(n:Nat)(w0:World)(a0:Act)(M:List Nat)(Q:Ks)(N:Fr->ad->Prop)(R:Exit->Act->World->Prop):Prop where
  normal:∀f a w,N f w.heap->wP n a f->bh w0 w->jY M a0 a->R .normal a w
  exit:∀id f a w,Q.exit id f w.heap->wP n a f->bh w0 w->jY M a0 a->R (.exit id) a w
  ret:∀f a w,Q.ret f w.heap->wP n a f->bh w0 w->(iL ∉ M->a.defers=a0.defers)->R .ret a w
  OI:∀v f a w,Q.OI v f w.heap->wP n a f->bh w0 w->(iL ∉ M->a.defers=a0.defers)->R (.panic [{ v:=v,recovered:=false }]) a w
theorem Zn{F:Fence}{P:Program}{Q:Exit->Act->World->Prop}(Pd:Nat->Act->World->Prop)
    (round:∀k a w,Pd k a w->c.wpIn F m P (Exit.then (λa' w'=>∃k',k'<k/\Pd k' a' w') Q) a w) {k:Nat} {a:Act} {w:World} (h0:Pd k a w):(Code.loop c).wpIn F m P Q a w:=by
  intro b kk cs DT hb hr
  have key:∀(k:Nat) (a:Act) (w:World),Pd k a w->∃e a' w',Q e a' w'/\ArrivesIn (Machine.fenced P F) P (lone (b.atR a (.code c :: .inLoop c::kk)) cs w) b kk cs e a' w':=by
    intro k
    induction k using Nat.strongRecOn with
    | _ k ih=>
      intro a w hg;obtain⟨e,a1,w1,hq,AO⟩:=round k a w hg b (.inLoop c::kk) cs DT hb hr
      cases e with
      | normal=>
        obtain⟨k',bV,hg'⟩:=hq;obtain⟨e2,a2,w2,hq2,agF⟩:=ih k' bV a1 w1 hg';exact⟨e2,a2,w2,hq2,.of_steps (StepsIn.trans AO (.one (fenced_calm hb hr rfl) stepR_inLoop)) agF⟩
      | outgrown=>exact⟨_,a1,w1,hq,.pass (x:=.inLoop c) rfl (λ_ _=>.inl (by simp)) AO⟩
      | exit id=>exact⟨_,a1,w1,hq,.pass (x:=.inLoop c) rfl (λ_ _=>.inl (by simp)) AO⟩
      | goto l=>exact⟨_,a1,w1,hq,.pass (x:=.inLoop c) rfl (λ_ _=>.inl (by simp)) AO⟩
      | ret=>exact⟨_,a1,w1,hq,.pass (x:=.inLoop c) rfl (λ_ _=>.inl (by simp)) AO⟩
      | panic ch=>exact⟨_,a1,w1,hq,.pass (x:=.inLoop c) rfl (λ_ _=>.inl (by simp)) AO⟩
  obtain⟨e,a',w',hq,AO⟩:=key k a w h0;exact⟨e,a',w',hq,.of_steps (.one (fenced_calm hb hr rfl) stepR_loop) AO⟩
theorem qn{P:Program}{b:Frame}{k:List Item}{cs:List Frame}:step P (lone (b.atR a (.code (.scope c)::k)) cs w) = .next (lone (b.atR a (.code c :: .inScope c::k)) cs w):=
  step_lone_go (by simp[stepG,stepG.exec,Frame.atR])
theorem Ih{P:Program}{b:Frame}{k:List Item}{cs:List Frame}:step P (lone (b.atR a (.inScope c::k)) cs w) = .next (lone (b.atR a k) cs w):=
  step_lone_go (by simp[stepG,stepG.exec,Frame.atR])
theorem zR{F:Fence}{P:Program}{Q:Exit->Act->World->Prop}(h:c.wpIn F m P (Exit.noGoto Q) a w):(Code.scope c).wpIn F m P Q a w:=by
  intro b k cs DT hb hr;have h0:(lone (b.atR a (.code (.scope c)::k)) cs w).fenced P F:=fenced_calm hb hr rfl;obtain⟨e,a₁,w₁,hq,AO⟩:=h b (.inScope c::k) cs DT hb hr
  cases e with
  | normal=>exact⟨.normal,a₁,w₁,hq,.head h0 qn (StepsIn.trans AO (.one (fenced_calm hb hr rfl) Ih))⟩
  | exit id=>
    have hx:exitTo id (.inScope c::k)=exitTo id k:=by simp[exitTo]
    exact⟨.exit id,a₁,w₁,hq,λk' hk=>.head h0 qn (AO.1 k' (by rw[hx];exact hk)),
      λhr' hk=>let ⟨k₁,h1,h2⟩:=AO.2 hr' (by rw[hx];exact hk);⟨k₁,h1,.head h0 qn h2⟩⟩
  | goto l=>exact hq.elim
  | ret=>exact⟨_,a₁,w₁,hq,.of_steps (.one h0 qn) AO⟩
  | panic ch=>exact⟨_,a₁,w₁,hq,.of_steps (.one h0 qn) AO⟩
  | outgrown=>exact⟨_,a₁,w₁,hq,.of_steps (.one h0 qn) AO⟩
theorem Fr.get_nil(t:Nat):Fr.get [] t=none:=by
  unfold Fr.get;cases Nat.beq t iL <;> rfl
theorem C7(f:Fr):∀(l:List Nat) (t:Nat) (v:Value),Fr.get (xz f l) t=some v->t∈l/\Fr.get f t=some v
  | [],t,v,h=>by rw[show xz f []=[] from rfl,Fr.get_nil]at h;cases h
  | x::r,t,v,h=>by
    unfold xz at h
    cases hx:Fr.get f x with
    | none=>rw[hx]at h;obtain⟨h1,h2⟩:=C7 f r t v h;exact⟨by simp[h1],h2⟩
    | some u=>
      rw[hx]at h;simp only at h;rw[Fr.uv _ _ _ _ (Fr.EX hx)]at h
      by_cases e:x=t
      · subst e;rw[if_pos rfl]at h;exact⟨by simp,hx.trans h⟩
      · rw[if_neg e]at h;obtain⟨h1,h2⟩:=C7 f r t v h;exact⟨by simp[h1],h2⟩
theorem C8(f:Fr):∀l:List Nat,wS (xz f l)=[]
  | []=>rfl
  | x::r=>by
    unfold xz
    cases hx:Fr.get f x with
    | none=>exact C8 f r
    | some u=>show wS ((x,u)::xz f r)=[];rw[vZ _ _ _ (Fr.EX hx),C8 f r]
theorem FU{f2:Fr}(hA:wP n a f2){R S:Type} :
    ∀(l:List (Nat×Ty)) (I:sU l R) (μ:sU l S) (fk:Fr) (K:R->S->Prop) (EJ:R->S->Fr->Prop),Tl l I μ f2 K->FC l I μ fk EJ->(∀t v,Fr.get fk t=some v->a.tmps.getD t undef=v)->
    ∃i m f',K i m/\EJ i m f'/\wS f'=wS fk/\∀t v,Fr.get f' t=some v->a.tmps.getD t undef=v:=by
  have base:∀(fk:Fr) (t:Nat) (v:Value),Fr.get f2 t=some v->(∀t v,Fr.get fk t=some v->a.tmps.getD t undef=v)->∀t' v',Fr.get ((t,v)::fk) t'=some v'->a.tmps.getD t' undef=v':=by
    intro fk t v hg hb t' v' h';rw[Fr.uv _ _ _ _ (Fr.EX hg)]at h'
    by_cases e:t=t'
    · subst e;rw[if_pos rfl]at h';have:=Option.some.inj h';subst this;exact hA.val _ _ hg
    · rw[if_neg e]at h';exact hb _ _ h'
  have BJ:∀{t:Nat} {v:Value} {fk:Fr} {K:R->S->Prop} {EJ:R->S->Fr->Prop},Fr.get f2 t=some v->(∃i m f',K i m/\EJ i m f'/\wS f'=wS ((t,v)::fk)/\∀t v,Fr.get f' t=some v->a.tmps.getD t undef=v)->
      ∃i m f',K i m/\EJ i m f'/\wS f'=wS fk/\∀t v,Fr.get f' t=some v->a.tmps.getD t undef=v:=by
    rintro t v fk K EJ hv ⟨i,m,f',h1,h2,h3,h4⟩;exact⟨i,m,f',h1,h2,by rw[h3,vZ _ _ _ (Fr.EX hv)],h4⟩
  intro l
  induction l with
  | nil=>intro I μ fk K EJ h1 h2 hb;exact⟨I,μ,fk,h1,h2,rfl,hb⟩
  | cons x r ih=>
    obtain⟨t,ty⟩:=x;intro I μ fk K EJ h1 h2 hb
    cases ty with
    | int kd=>
      obtain⟨v,hv,h1⟩:=bI h1;obtain⟨k',m,rfl,h3⟩:=mJ h1
      cases hk:nC kd k' with
      | false=>rw[hk]at h3;exact h3.elim
      | true=>rw[hk]at h3;obtain rfl:=oO hk;exact BJ hv (ih _ _ _ _ _ h3 (h2 m) (base _ _ _ hv hb))
    | bool=>
      obtain⟨v,hv,h1⟩:=bI h1;obtain⟨b,rfl,h3⟩:=yh h1;exact BJ hv (ih _ _ _ _ _ h3 (h2 b) (base _ _ _ hv hb))
    | str=>
      obtain⟨v,hv,h1⟩:=bI h1;obtain⟨b,rfl,h3⟩:=wZ h1;exact BJ hv (ih _ _ _ _ _ h3 (h2 b) (base _ _ _ hv hb))
    | ptr=>
      obtain⟨v,hv,h1⟩:=bI h1;obtain⟨b,rfl,h3⟩:=AJ h1;exact BJ hv (ih _ _ _ _ _ h3 (h2 b) (base _ _ _ hv hb))
    | slice=>
      obtain⟨v,hv,h1⟩:=bI h1;obtain⟨b,l',c,rfl,h3⟩:=mK h1;exact BJ hv (ih _ _ _ _ _ h3 (h2 b l' c) (base _ _ _ hv hb))
    | agg=>
      obtain⟨v,hv,h1⟩:=bI h1;obtain⟨b,rfl,h3⟩:=AK h1;exact BJ hv (ih _ _ _ _ _ h3 (h2 b) (base _ _ _ hv hb))
    | any=>
      obtain⟨v,hv,h1⟩:=bI h1;exact BJ hv (ih _ _ _ _ _ h1 (h2 v) (base _ _ _ hv hb))
    | clo=>
      obtain⟨v,hv,h1⟩:=bI h1;exact BJ hv (ih _ _ _ _ _ h1 (h2 v) (base _ _ _ hv hb))
    | map=>
      obtain⟨v,hv,h1⟩:=bI h1;obtain⟨b,rfl,h3⟩:=nS h1;exact BJ hv (ih _ _ _ _ _ h3 (h2 b) (base _ _ _ hv hb))
def zS : Code->Bool
  | .region _ ops _=>ops.toList.all λo=>!iX o.op
  | .seq a b=>zS a && zS b
  | .cond _ a b=>zS a && zS b
  | .block _ a| .loop a| .scope a=>zS a
  | .rangeFunc _ _ _ _=>false
  | _=>true
def BK : List Nat->List Nat->Bool
  | [],[]=>true
  | a::r,b::s=>Nat.beq a b && BK r s
  | _,_=>false
theorem DU : ∀{a b:List Nat},BK a b=true->a=b
  | [],[],_=>rfl
  | a::r,b::s,h=>by
    simp only[BK,dB]at h;rw[xP h.1,DU h.2]
  | [],_::_,h=>by cases h
  | _::_,[],h=>by cases h
def codeOk(C:Ctx)(n:Nat)(drawn:Nat->List Oper->Bool):Code->Bool
  | .region id ops draw=>(ops.toList.all (v7 n)) && (bif draw then(ops.toList.all λo=>!iX o.op) && drawn id ops.toList else true)
  | .seq a b=>codeOk C n drawn a && codeOk C n drawn b
  | .cond _ a b=>codeOk C n drawn a && codeOk C n drawn b
  | .block _ a=>codeOk C n drawn a
  | .scope a=>codeOk C n drawn a
  | .loop a=>codeOk C n drawn a && ((C.loops (AB a)).1.all λt=>(iV a).all λm=>!(Nat.beq m t)) && (iV a).all λm=>!(Nat.beq m iL)
  | .rangeFunc _ ps assign body=>codeOk C n drawn assign && codeOk C n drawn body && zS assign && zS body && BK ps.toList ((C.loops (VH assign body)).2.map (·.1)) && ps.toList.all λt=>Nat.blt t n
  | _=>true
def Mw(C:Ctx)(n:Nat)(drawn:Nat->List Oper->Bool):Prop:=
  ∀(ro:Option Nat) (id:Nat) (ops:Array Oper) (N:Fr->ad->Prop) (R:Exit->Act->World->Prop) (f:Fr) (a:Act) (w0 w:World),drawn id ops.toList=true->(∀o∈ops.toList,v7 n o=true)->(∀o∈ops.toList,iX o.op=false)->
    CY C ops.toList (C.vF id) N f w.heap->wP n a f->bh w0 w->(∀f a' w,N f w.heap->wP n a' f->bh w0 w->jY (dstsOf ops.toList) a a'->R .normal a' w)->
    (Code.region id ops true).wpIn (FW ro) 0 C.P R a w
def Zo(f:Fr):List (Nat×Value)->Fr
  | []=>f
  | p::r=>Zo (p::f) r
def V6(tmps:Array Value)(ps:List (Nat×Value)):Array Value:=ps.foldl (λtmps p=>tmps.setIfInBounds p.1 p.2) tmps
theorem FV : ∀(l:List (Nat×Ty)) (f:Fr) (acc:LV) (K:Fr->LV->Prop),(∀vs:LV,vs.length=l.length->K (Zo f ((l.map (·.1)).zip vs)) (acc++vs))->CZ l f acc K
  | [],f,acc,K,h=>by
    have:=h [] rfl;rw[gi]at this;exact this
  | (t,ty)::r,f,acc,K,h=>by
    have go:∀v:Value,CZ r ((t,v)::f) (acc++[v]) K:=λv=>by
      refine FV r ((t,v)::f) (acc++[v]) K λvs hl=>?_;have:=h (v::vs) (by simp[hl]);simpa[Zo]using this
    cases ty with
    | int k=>exact λn=>go _
    | bool=>exact λn=>go _
    | str=>exact λn=>go _
    | ptr=>exact λn=>go _
    | slice=>exact λa l c=>go _
    | agg=>exact λn=>go _
    | any=>exact λn=>go _
    | clo=>exact λn=>go _
    | map=>exact λn=>go _
theorem Mx{n:Nat}:∀(ps:List (Nat×Value)) (tmps:Array Value) (f:Fr),wP n { tmps:=tmps,defers:=[] } f->(∀p∈ps,p.1<n)->wP n { tmps:=V6 tmps ps,defers:=[] } (Zo f ps)
  | [],tmps,f,h,_=>h
  | (d,v)::r,tmps,f,h,hp=>by
    have bV:d<n:=hp (d,v) (by simp);have fP:d≠iL:=Nat.ne_of_lt (mV bV h.lim);refine Mx r (tmps.setIfInBounds d v) ((d,v)::f) ⟨h.lim,by simpa using h.size,by rw[vZ _ _ _ fP];exact h.defers,λt u hu=>?_⟩ λp uY=>hp p (by simp[uY]);rw[Fr.uv _ _ _ _ fP]at hu
    by_cases e:d=t
    · subst e
      rw[if_pos rfl]at hu;have:=Option.some.inj hu;subst this;have hs:d<tmps.size:=(by have:=h.size;simp only at this;omega);simp[hs]
    · rw[if_neg e]at hu
      have:=h.val t u hu;simpa[S6 e]using this
theorem My{i:Nat}{E:NP}:∀{l:List Nat},exX l i E->E i
  | [],h=>h.elim
  | j::r,h=>by
    have h:bif Nat.beq i j then E j else exX r i E:=h
    cases hb:Nat.beq i j with
    | true=>rw[hb]at h;rw[xP hb];exact h
    | false=>rw[hb]at h;exact My (l:=r) h
theorem V7{C:Ctx}(hC:mo C){n:Nat}{drawn:Nat->List Oper->Bool}(hD:Mw C n drawn) :
    ∀(c:Code),codeOk C n drawn c=true->∀(ro:Option Nat),(ro=none∨zS c=true)->∀(w0:World) (Q:Ks) (N:Fr->ad->Prop) (R:Exit->Act->World->Prop) (f:Fr) (a:Act) (w:World),
      Q2 C c Q N f w.heap->wP n a f->bh w0 w->Post n w0 a (iV c) Q N R->c.wpIn (FW ro) 0 C.P R a w:=by
  intro c
  induction c with
  | skip=>intro _ ro _ w0 Q N R f a w h hA hR hP;exact wpIn_skip (hP.normal f a w h hA hR (.refl _ _))
  | region id ops draw=>
    intro ue ro DT w0 Q N R f a w h hA hR hP;simp only[codeOk,dB,oN]at ue;have sub:∀t∈dstsOf ops.toList,t∈iV (Code.region id ops draw):=λt ht=>Tb _ ht
    cases draw with
    | true=>
      have adj:=ue.2;rw[cond_true,dB,oN]at adj;exact hD ro id ops N R f a w0 w adj.2 ue.1 (λo ho=>by simpa using adj.1 o ho) h hA hR λf a' w h1 h2 h3 h4=>hP.normal f a' w h1 h2 h3 (h4.mono sub)
    | false=>
      refine wpIn_region_list ?_;have h:(bif ops.toList.any (isP C)then H8 C ops.toList Q.OI ops.toList N f w.heap else Mi C ops.toList ops.toList N f w.heap):=h
      have hdef:∀o∈ops.toList,iX o.op=true->iL∈iV (Code.region id ops false)/\ro=none:=λo ho hd=>⟨OY _ (by
        unfold adg
        rw[Fw.mpr ⟨o,ho,hd⟩];simp),by
        rcases DT with h|h
        · exact h
        · have:=oN.1 h o ho
          rw[hd]at this;cases this⟩
      cases hp:ops.toList.any (isP C)with
      | true=>
        rw[hp,cond_true]at h;have:=Rp (Q:=R) hC (ro:=ro) (full:=ops.toList) (λf a' w h1 h2 h3 h4=>hP.normal f a' w h1 h2 h3 h4) (λv f a' w h1 h2 h3 h4=>hP.OI v f a' w h1 h2 h3 h4.V4) ops.toList ue.1 (λo ho d hd=>sub _ (AN ho hd)) hdef f a w h hA hR (jY.refl _ _);simpa using this
      | false=>
      rw[hp,cond_false]at h
      have:=Rn (Q:=R) hC (ro:=ro) (full:=ops.toList) (λf a' w h1 h2 h3 h4=>hP.normal f a' w h1 h2 h3 h4) ops.toList ue.1 (λo ho d hd=>sub _ (AN ho hd)) (λo ho hd=>⟨OY _ (by
        unfold adg
        rw[Fw.mpr ⟨o,ho,hd⟩];simp),by
        rcases DT with h|h
        · exact h
        · have:=oN.1 h o ho
          rw[hd]at this;cases this⟩) f a w h hA hR (jY.refl _ _)
      simpa using this
  | seq x y ihx ihy=>
    intro ue ro DT w0 Q N R f a w h hA hR hP;simp only[codeOk,dB]at ue;have hrx:ro=none∨zS x=true:=DT.imp id λh=>by simp only[zS,dB]at h;exact h.1
    have hry:ro=none∨zS y=true:=DT.imp id λh=>by simp only[zS,dB]at h;exact h.2
    refine wpIn_seq (ihx ue.1 ro hrx w0 Q _ _ f a w h hA hR ⟨?_,?_,?_,?_⟩)
    · intro f1 a1 w1 h1 Pe Vg ON
      refine ihy ue.2 ro hry w0 Q N R f1 a1 w1 h1 Pe Vg ⟨?_,?_,?_,?_⟩
      · intro f2 a2 w2 h2 OO Pf Zp
        exact hP.normal f2 a2 w2 h2 OO Pf ((ON.mono λt ht=>by simp[iV,ht]).trans (Zp.mono λt ht=>by simp[iV,ht]))
      · intro id f2 a2 w2 h2 OO Pf Zp
        exact hP.exit id f2 a2 w2 h2 OO Pf ((ON.mono λt ht=>by simp[iV,ht]).trans (Zp.mono λt ht=>by simp[iV,ht]))
      · exact λf2 a2 w2 h2 OO Pf hd=>hP.ret f2 a2 w2 h2 OO Pf λhn=>(hd λx=>hn (by simp[iV,x])).trans (ON.V4 λx=>hn (by simp[iV,x]))
      · exact λv f2 a2 w2 h2 OO Pf hd=>hP.OI v f2 a2 w2 h2 OO Pf λhn=>(hd λx=>hn (by simp[iV,x])).trans (ON.V4 λx=>hn (by simp[iV,x]))
    · exact λid f1 a1 w1 h1 Pe Vg ON=>hP.exit id f1 a1 w1 h1 Pe Vg (ON.mono λt ht=>by simp[iV,ht])
    · exact λf1 a1 w1 h1 Pe Vg hd=>hP.ret f1 a1 w1 h1 Pe Vg λhn=>hd λx=>hn (by simp[iV,x])
    · exact λv f1 a1 w1 h1 Pe Vg hd=>hP.OI v f1 a1 w1 h1 Pe Vg λhn=>hd λx=>hn (by simp[iV,x])
  | cond c x y ihx ihy=>
    intro ue ro DT w0 Q N R f a w h hA hR hP;simp only[codeOk,dB]at ue;have hrx:ro=none∨zS x=true:=DT.imp id λh=>by simp only[zS,dB]at h;exact h.1
    have hry:ro=none∨zS y=true:=DT.imp id λh=>by simp only[zS,dB]at h;exact h.2
    obtain⟨t,hc,h1⟩:=yh (bM hA.fit h);refine wpIn_cond hc ?_
    cases t with
    | true=>exact ihx ue.1 ro hrx w0 Q N R f a w h1 hA hR ⟨λf a' w h1 h2 h3 h4=>hP.normal f a' w h1 h2 h3 (h4.mono λt ht=>by simp[iV,ht]),λid f a' w h1 h2 h3 h4=>hP.exit id f a' w h1 h2 h3 (h4.mono λt ht=>by simp[iV,ht]),λf a' w h1 h2 h3 hd=>hP.ret f a' w h1 h2 h3 λhn=>hd λx=>hn (by simp[iV,x]),λv f a' w h1 h2 h3 hd=>hP.OI v f a' w h1 h2 h3 λhn=>hd λx=>hn (by simp[iV,x])⟩
    | false=>exact ihy ue.2 ro hry w0 Q N R f a w h1 hA hR ⟨λf a' w h1 h2 h3 h4=>hP.normal f a' w h1 h2 h3 (h4.mono λt ht=>by simp[iV,ht]),λid f a' w h1 h2 h3 h4=>hP.exit id f a' w h1 h2 h3 (h4.mono λt ht=>by simp[iV,ht]),λf a' w h1 h2 h3 hd=>hP.ret f a' w h1 h2 h3 λhn=>hd λx=>hn (by simp[iV,x]),λv f a' w h1 h2 h3 hd=>hP.OI v f a' w h1 h2 h3 λhn=>hd λx=>hn (by simp[iV,x])⟩
  | block id x ih=>
    intro ue ro DT w0 Q N R f a w h hA hR hP;refine wpIn_block (ih ue ro DT w0 _ _ _ f a w h hA hR ⟨λf a' w h1 h2 h3 h4=>hP.normal f a' w h1 h2 h3 h4,?_,λf a' w h1 h2 h3 hd=>hP.ret f a' w h1 h2 h3 hd,λv f a' w h1 h2 h3 hd=>hP.OI v f a' w h1 h2 h3 hd⟩);intro i f1 a1 w1 h1 Pe Vg ON;show Exit.inBlock id R (.exit i) a1 w1;simp only[Exit.inBlock]
    cases hb:Nat.beq i id with
    | true=>
      rw[if_pos (xP hb)];exact hP.normal f1 a1 w1 (by simpa[hb]using h1) Pe Vg ON
    | false=>
      have:i≠id:=λe=>by subst e;rw[vE]at hb;cases hb
      rw[if_neg this];exact hP.exit i f1 a1 w1 (by simpa[hb]using h1) Pe Vg ON
  | scope x ih=>
    intro ue ro DT w0 Q N R f a w h hA hR hP;exact zR (ih ue ro DT w0 Q N (Exit.noGoto R) f a w h hA hR ⟨λf a' w h1 h2 h3 h4=>hP.normal f a' w h1 h2 h3 h4,λi f a' w h1 h2 h3 h4=>hP.exit i f a' w h1 h2 h3 h4,λf a' w h1 h2 h3 hd=>hP.ret f a' w h1 h2 h3 hd,λv f a' w h1 h2 h3 hd=>hP.OI v f a' w h1 h2 h3 hd⟩)
  | label l=>intro _ ro _ w0 Q N R f a w h hA hR hP;exact wpIn_label (hP.normal f a w h hA hR (.refl _ _))
  | exit id=>intro _ ro _ w0 Q N R f a w h hA hR hP;exact wpIn_exit (hP.exit id f a w h hA hR (.refl _ _))
  | ret=>intro _ ro _ w0 Q N R f a w h hA hR hP;exact wpIn_ret (hP.ret f a w h hA hR λ_=>rfl)
  | loop x ih=>
    intro ue ro DT w0 Q N R f a w h hA hR hP;simp only[codeOk,dB]at ue;obtain⟨⟨hokx,agG⟩,hnd⟩:=ue;obtain⟨I,μ,YH,VV⟩:=h
    have EH:iL ∉ iV x:=λhm=>by
      have:=oN.1 hnd _ hm;simp[vE]at this
    have hdis:∀t∈(C.loops (AB x)).1,t ∉ iV x:=by
      intro t ht hm;have:=oN.1 (oN.1 agG t ht) t hm;simp[vE]at this
    have Rr:∀a':Act,jY (iV x) a a'->∀t v,Fr.get (Bw (wS f) (xz f (C.loops (AB x)).1)) t=some v->a'.tmps.getD t undef=v:=by
      intro a' hM t v hg;rw[Fr.Jh]at hg;obtain⟨h1,h2⟩:=C7 f _ t v hg;rw[hM.tmp t (hdis t h1)];exact hA.val t v h2
    have hdfs:wS (Bw (wS f) (xz f (C.loops (AB x)).1))=wS f:=by rw[Ji,C8,gi]
    let EJ:(HP)->(ad->Nat)->Fr->Prop:=λi m f'=>∀h',i h'->Q2 C x Q (λf2 h2=>Tl (C.loops (AB x)).2 I μ f2 λi2 m2=>i2 h2/\m2 h2<m h') f' h'
    let Pd:Nat->Act->World->Prop:=λk a' w'=>∃i m f',m w'.heap=k/\i w'.heap/\EJ i m f'/\wP n a' f'/\bh w0 w'/\jY (iV x) a a'
    have agr:∀{a':Act} {f' f2:Fr},jY (iV x) a a'->wP n a' f2->wS f'=wS (Bw (wS f) (xz f (C.loops (AB x)).1))->(∀t v,Fr.get f' t=some v->a'.tmps.getD t undef=v)->wP n a' f':=
      λhM YI hd hv=>⟨YI.lim,YI.size,by rw[hM.V4 EH,hA.defers,hd,hdfs],hv⟩
    have start:∃k,Pd k a w:=by
      obtain⟨i,m,f',h1,h2,hd,h3⟩:=FU hA _ I μ _ _ EJ YH VV (Rr a (.refl _ _));exact⟨m w.heap,i,m,f',rfl,h1,h2,agr (.refl _ _) hA hd h3,hR,.refl _ _⟩
    obtain⟨k,hg⟩:=start;refine Zn Pd ?_ hg;rintro k1 a1 w1 ⟨i,m,f',rfl,hi,hK,Pe,Vg,ON⟩;refine ih hokx ro DT w0 Q _ _ f' a1 w1 (hK _ hi) Pe Vg ⟨?_,?_,?_,?_⟩
    · intro f2 a2 w2 h2 OO Pf Zp
      obtain⟨i',m',f3,⟨h1,bV⟩,h4,hd,h3⟩:=FU OO _ I μ _ _ EJ h2 VV (Rr a2 (ON.trans Zp));exact⟨m' w2.heap,bV,i',m',f3,rfl,h1,h4,agr (ON.trans Zp) OO hd h3,Pf,ON.trans Zp⟩
    · exact λid f2 a2 w2 h2 OO Pf Zp=>hP.exit id f2 a2 w2 h2 OO Pf (ON.trans Zp)
    · exact λf2 a2 w2 h2 OO Pf hd=>hP.ret f2 a2 w2 h2 OO Pf λhn=>(hd hn).trans (ON.V4 hn)
    · exact λv f2 a2 w2 h2 OO Pf hd=>hP.OI v f2 a2 w2 h2 OO Pf λhn=>(hd hn).trans (ON.V4 hn)
  | rangeFunc g ps assign body iha ihb=>
    intro ue ro DT w0 Q N R f a w h hA hR hP;simp only[codeOk,dB,oN]at ue;obtain⟨⟨⟨⟨⟨hoa,hob⟩,hna⟩,hnb⟩,hps⟩,bV⟩:=ue;have hps:=DU hps
    have DT:ro=none:=by
      rcases DT with h|h
      · exact h
      · cases h
    subst DT;have h:=bM hA.fit h;refine wpIn_rangeFunc λfn _=>?_;have h:=h { state:=.ready,pending:=none,fn:=fn,tmps:=a.tmps,params:=ps,assign:=assign,body:=body,defers:=w.heap.size };generalize hL:({ state:=.ready,pending:=none,fn:=fn,tmps:=a.tmps,params:=ps,assign:=assign,body:=body,defers:=w.heap.size }:Loop)=L at h;have hl:w.heap.size+1=w.heap.size+1:=rfl
    -- the rounds
    have rounds:CZ (C.loops (VH assign body)).2 (QV f) [] λf' args=>∀(h3:ad) (k:KT),
        bO h3 (w.heap.size+1) L .ready none->
        Q2 C assign { exit:=λ_ _ _=>False,ret:=λ_ _=>False }
          (λf2 h4=>bO h4 (w.heap.size+1) L .ready none/\
            Q2 C body { exit:=λi _ h5=>bO h5 (w.heap.size+1) L .busy none/\k (.bool false) (dz h5 (w.heap.size+1) L .done (some (.exit i))),
                         ret:=λ_ h5=>bO h5 (w.heap.size+1) L .busy none/\k (.bool false) (dz h5 (w.heap.size+1) L .done (some .ret)) }
              (λ_ h5=>bO h5 (w.heap.size+1) L .busy none/\k (.bool true) (dz h5 (w.heap.size+1) L .ready none)) f2 (dz h4 (w.heap.size+1) L .busy none)) f' h3->
        rQ C.P (w.heap.size+1) args h3 k:=by
      refine FV _ _ _ _ λvs hlen h3 k Pg hx w3 hw3=>?_;subst hw3;subst hL
      have lV:vs.length=ps.size:=by
        have:=congrArg List.length hps;simp only[aP,Ax]at this;omega
      have ada:=run_yield (P:=C.P) (args:=⟨vs⟩) Pg (by simpa using lV);refine⟨_,_,_,_,ada,?_⟩;refine roundIn_of_wpIn trivial ?_
      have agH:(ps.zip ⟨vs⟩).foldl (λtmps (x:Nat×Value)=>tmps.setIfInBounds x.1 x.2) a.tmps=V6 a.tmps (((C.loops (VH assign body)).2.map (·.1)).zip vs):=by
        rw[<-hps,V6,<-agc,Array.toList_zip]
      have hA0:wP n { tmps:=a.tmps,defers:=[] } (QV f):=⟨hA.lim,hA.size,by rw[KP];rfl,λt v h=>hA.val t v (by rwa[KO]at h)⟩
      have Pe:=Mx (((C.loops (VH assign body)).2.map (·.1)).zip vs) a.tmps (QV f) hA0 λp hp=>by
        have:=(List.of_mem_zip hp).1;rw[<-hps]at this;exact xS (bV _ this)
      rw[<-agH]at Pe;have sr:∀{w5:World} (o:Obj),bh w3 w5->bh w3 (w5.putObj (w.heap.size+1) o):=λo h=>⟨h.1,h.2.1,h.2.2⟩;refine iha hoa (some _) (.inr hna) w3 _ _ _ _ _ w3 hx Pe (.refl _) ⟨λf4 a4 w4 h4 hA4 hR4 _=>?_,λ_ _ _ _ h=>h.elim,λ_ _ _ h=>h.elim,λ_ _ _ _ h=>h.elim⟩;obtain⟨hon4,hx4⟩:=h4;refine⟨_,run_beginRound hon4 rfl,?_⟩;refine ihb hob (some _) (.inr hnb) w3 _ _ _ f4 a4 (w4.putObj (w.heap.size+1) _) hx4 hA4 (sr _ hR4) ⟨λf5 a5 w5 h5 _ hR5 _=>?_,λi f5 a5 w5 h5 _ hR5 _=>?_,λf5 a5 w5 h5 _ hR5 _=>?_,λ_ _ _ _ h=>h.elim⟩
      · exact⟨_,_,run_endRound none h5.1,_,rfl,sr _ hR5,h5.2⟩
      · exact⟨_,_,run_endRound (some (.exit i)) h5.1,_,rfl,sr _ hR5,h5.2⟩
      · exact⟨_,_,run_endRound (some .ret) h5.1,_,rfl,sr _ hR5,h5.2⟩
    have h:=h rounds;unfold za at h
    split at h
    · rename_i gid fs cs hv
      obtain⟨⟨fn',hf',nE,pV⟩,hc⟩:=h
      let w1:World:=(w.alloc (.deferred (some []))).alloc (.loop L)
      have hw1:w1.heap=dw w.heap L:=(by subst hL;rfl);have adl:bh w w1:=⟨rfl,rfl,rfl⟩;refine⟨w.heap.size+1,[{ target:=.collected w.heap.size,args:=#[] }],w1,{ target:=.fn (.func gid) cs,args:=fs ++ #[.func (.yield (w.heap.size+1)) #[] #[]] },w1,gid,⟨fs.toList++[.func (.yield (w.heap.size+1)) #[] #[]]++cs.toList⟩,w1,?_,?_,λ_ _=>trivial,?_,(λx=>by cases x),?_⟩
      · subst hL;exact run_enterLoop_outer fn a.tmps ps assign body
      · have hv:a.eval g = .func (.func gid) fs cs:=hv
        have hm:Array.map a.eval #[Operand.const (Value.func (Fn.yield (w.heap.size+1)) #[] #[])] = #[Value.func (Fn.yield (w.heap.size+1)) #[] #[]]:=(by simp[Act.eval]);simp only[resolve,hv,Deferred.ofValue,Sem.run_pure,hm]
      · show(callFunc gid _).run C.P w1=_
        simp only[callFunc,Sem.run_bind,run_program,Result.andThen_ok,hf',nE,pV,Ay,if_false,Sem.run_pure];congr 3;apply tC;simp
      · refine AM ((hc w1 hw1).mono λe w6 ⟨v,he,hsr,st,p,Pg,tB,BL⟩=>?_)
        subst he;refine⟨p,w6.putObj (w.heap.size+1) (.loop { L with state:=.exhausted,pending:=p }),run_endLoop Pg tB,?_⟩
        have YI:wP n { a with defers:=[{ target:=.collected w.heap.size,args:=#[] }]++a.defers } ((iL,.pointer (some ⟨w.heap.size,0,none⟩))::f):=
          ⟨hA.lim,hA.size,by rw[zg,lI,<-hA.defers];rfl,λt v h=>hA.val t v (by rwa[Fr.vY]at h)⟩
        have adm:bh w0 (w6.putObj (w.heap.size+1) (.loop { L with state:=.exhausted,pending:=p })):=⟨(hR.trans (adl.trans hsr)).1,(hR.trans (adl.trans hsr)).2.1,(hR.trans (adl.trans hsr)).2.2⟩;have hM':jY [iL] a { a with defers:=[{ target:=.collected w.heap.size,args:=#[] }]++a.defers }:=⟨λ_ _=>rfl,λx=>absurd (kU.2 rfl) x⟩
        cases p with
        | none=>exact hP.normal _ _ _ BL YI adm hM'
        | some c=>
          cases c with
          | ret=>
            have BL:bif xY body then _ else False:=BL
            cases hb:xY body with
            | false=>rw[hb]at BL;exact BL.elim
            | true=>rw[hb]at BL;exact wpIn_ret (hP.ret _ _ _ BL YI adm λx=>absurd (kU.2 rfl) x)
          | exit i=>exact wpIn_exit (hP.exit i _ _ _ (My BL) YI adm hM')
          | _=>exact BL.elim
    · exact h.elim
  | _=>intro _ ro _ w0 Q N R f a w h;exact h.elim
end Wx
end Go.Proofs.YtlbckoblcdoceaaGreatDoor
