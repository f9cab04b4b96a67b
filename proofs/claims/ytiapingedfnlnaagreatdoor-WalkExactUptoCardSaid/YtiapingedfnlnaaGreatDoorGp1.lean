/- walkExact_card -/
import Derived.WalkKit
import Derived.KernelRfl
import Derived.RangeFuncRecord
import Derived.RangeFuncSeq
import Derived.OrdersIn
import Derived.TacticsIn
import Derived.MapKept
import Derived.Laws.CopyRow
import Derived.Scope
import Derived.Lib.Bytealg
import Derived.Laws.Tables
import Derived.Laws.IdiomStrings
import Derived.Laws.IdiomRangeMap
import Derived.Test.YtiapingedfnlnaaGreatDoorTie
namespace Go.Proofs.YtiapingedfnlnaaGreatDoor
open Go Go.Proofs
variable{P:Program}{t e cap n t' m i g:Nat}{a b:Act}{c:Code}{w:World}{x y:Value}{s:ByteArray}{f:FuncId}
section
namespace Ad
end Ad
namespace Av
end Av
namespace Bm
end Bm
namespace Bt
end Bt
namespace Ch
end Ch
namespace Di
end Di
namespace Fi
end Fi
namespace Gl
end Gl
namespace Hd
end Hd
namespace Hp
end Hp
namespace In
end In
namespace Ino
end Ino
namespace L3
end L3
namespace Pa
end Pa
namespace Re
end Re
namespace Rf
end Rf
namespace Rg
end Rg
namespace Rx
end Rx
namespace Rz
end Rz
namespace Sk
end Sk
namespace Spc
end Spc
namespace Ss
end Ss
namespace Su
end Su
namespace Tm
end Tm
namespace Tr
end Tr
namespace W
end W
namespace Wc
end Wc
namespace Wl
end Wl
namespace Wx
end Wx
end
namespace Wx
open Go
abbrev ab :=Array Obj
abbrev OA:=Option Addr
abbrev LV:=List Value
abbrev LB:=List UInt8
abbrev NP:=Nat->Prop
abbrev HP:=ab->Prop
abbrev KT:=Value->ab->Prop
abbrev Fr :=List (Nat×Value)
def gN : Nat:=1000000000
def Mc : Fr->Nat->Option Value
  | [],_=>none
  | (i,v)::r,t=>bif Nat.beq i t then some v else Mc r t
def Fr.get(f:Fr)(t:Nat):Option Value:=bif Nat.beq t gN then none else Mc f t
def sY : Fr->LV
  | []=>[]
  | (i,v)::r=>bif Nat.beq i gN then v::sY r else sY r
def Kn : Fr->Fr
  | []=>[]
  | (i,v)::r=>bif Nat.beq i gN then Kn r else(i,v)::Kn r
def wS : LV->Fr->Fr
  | [],f=>f
  | v::r,f=>(gN,v)::wS r f
inductive D where
  | bool|int (k:IntKind)|str|ptr (e:Nat)|slice (e:Nat)|arr (n e:Nat)|struct (fs:List (Nat×Nat))|fn|map (k e:Nat)|other
structure TI where
  ok:Bool
  d:D
  cells:Nat
  bytes:Nat
  zero:LV
  eq:List D
def Sd : TI:=⟨false,.other,0,0,[],[]⟩
def qi(t:TI)(p:Prop):Prop:=bif t.ok then p else False
def OT(l:List (Nat×TI))(t:Nat):TI:=
  match l with
  | []=>Sd
  | (i,x)::r=>bif Nat.beq i t then x else OT r t
def VD{α:Type}(l:List (Nat×List α))(t:Nat):List α:=
  match l with
  | []=>[]
  | (i,x)::r=>bif Nat.beq i t then x else VD r t
inductive Ty where
  | int (k:IntKind)|bool|str|ptr|slice|agg|any|map|clo
def D.ty : D->Ty
  | .int k=>.int k| .bool=>.bool| .str=>.str| .ptr _=>.ptr| .slice _=>.slice| .arr _ _=>.agg| .struct _=>.agg| .fn=>.any| .map _ _=>.map| .other=>.any
inductive Od where
  | nil
  | op (i:Nat) (st:List Nat) (r:Od)
  | alt (i:Nat) (st:List Nat) (r o:Od)
structure Ctx where
  P:Program
  ti:Nat->TI
  sig:Nat->List Ty
  loops:Nat->List Nat×List (Nat×Ty)
  qE:Nat->Od
  nat:List Nat
  Iu:List Nat
def cellOf(h:ab)(a:Addr):Option Value:=
  match h[a.block]? with
  | some (.cells c _ _)=>if a.spot.isSome then none else c[a.off]?
  | _=>none
def pF(h:ab)(a:Addr):Bool:=
  match h[a.block]? with
  | some (.cells _ _ (lo,hi))=>lo<=a.off && a.off<hi
  | _=>false
def setOf(h:ab)(a:Addr)(v:Value):ab:=
  h.modify a.block fun
      | .cells c elem frozen=>.cells (if a.spot.isSome then c else c.setIfInBounds a.off v) elem frozen
      | o=>o
def ai(h:ab)(a:Addr)(xs:LV):Prop:=∀(i:Nat) (v:Value),xs[i]?=some v->cellOf h (a.add i)=some v
def ag(h:ab)(a:OA)(xs:LV):Prop:=
  match a with
  | some p=>ai h p xs
  | none=>xs=[]
def Wr(h:ab)(a:Addr):Prop:=(∃u,cellOf h a=some u)/\pF h a=false
def WrN(h:ab)(a:Addr)(n:Nat):Prop:=∀i,i<n->Wr h (a.add i)
def setRow(h:ab)(a:Addr):LV->(i:Nat)->ab
  | [],_=>h
  | v::r,i=>setRow (setOf h (a.add i) v) a r (i+1)
def Ko(h:ab)(a:Addr)(cs:LV)(n:Nat):Prop:=cs.length=n/\(∀v∈cs,v.oneCell'=true)/\WrN h a n
def bv(b:UInt8):Value:=.int .u8 b.toNat
def mkStr(bs:LB):ByteArray:=⟨⟨bs⟩⟩
def aJ(h:ab)(a:OA)(l:Nat)(bs:LB):Prop:=bs.length=l/\ag h a (bs.map bv)
def aW(z:LV)(n:Nat):LV:=
  match z with
  | [v]=>List.replicate n v
  | z=>(List.replicate n z).flatten
def ky(v:Value):LV:=
  match v with
  | .agg a=>a.toList
  | v=>[v]
def Ey(h:ab):Value:=.pointer (some ⟨h.size,0,none⟩)
def oF(h:ab)(cs:LV)(t:Nat):ab:=h.push (.cells ⟨cs⟩ t)
def scale(n size:Nat):Nat:=bif Nat.beq size 1 then n else n*size
def ae{α:Type}(o:Option α)(k:α->Prop):Prop:=
  match o with
  | some a=>k a
  | none=>False
def lW(f:Fr)(x:Operand)(k:Value->Prop):Prop:=
  match x with
  | .tmp t=>ae (Fr.get f t) k
  | .const v=>k v
  | .global g=>k (.pointer (some ⟨g,0,none⟩))
  | .func g=>k (.func (.func g) #[] #[])
def vy(v:Value)(k:IntKind->Int->Prop):Prop:=
  match v with
  | .int kd n=>k kd n
  | _=>False
def Ez(v:Value)(k:Bool->Prop):Prop:=
  match v with
  | .bool b=>k b
  | _=>False
def th(v:Value)(k:OA->Prop):Prop:=
  match v with
  | .pointer q=>k q
  | _=>False
def oT(v:Value)(k:OA->Nat->Nat->Prop):Prop:=
  match v with
  | .slice a l c=>k a l c
  | _=>False
def Kp(v:Value)(k:LV->Prop):Prop:=
  match v with
  | .agg a=>k a.toList
  | _=>False
def Da(v:Value)(k:ByteArray->Prop):Prop:=
  match v with
  | .string s=>k s
  | _=>False
def sM(v:Value)(k:Option Nat->Prop):Prop:=
  match v with
  | .map q=>k q
  | _=>False
def VE(v:Value)(k:LV->Prop):Prop:=
  match v with
  | .tuple a=>k a.toList
  | _=>False
def OU(ty:Ty)(C K:Value->Prop):Prop:=
  match ty with
  | .int k=>∃n:Int,C (.int k n)/\K (.int k n)
  | .bool=>∃b:Bool,C (.bool b)/\K (.bool b)
  | .str=>∃s:ByteArray,C (.string s)/\K (.string s)
  | .ptr=>∃q:OA,C (.pointer q)/\K (.pointer q)
  | .slice=>∃(a:OA) (l c:Nat),C (.slice a l c)/\K (.slice a l c)
  | .agg=>∃cs:LV,C (.agg ⟨cs⟩)/\K (.agg ⟨cs⟩)
  | .any=>∃v:Value,C v/\K v
  | .map=>∃q:Option Nat,C (.map q)/\K (.map q)
  | .clo=>∃(g:Nat) (fs cs:LV),C (.func (.func g) ⟨fs⟩ ⟨cs⟩)/\K (.func (.func g) ⟨fs⟩ ⟨cs⟩)
def zL(Md:List Ty)(acc:LV)(C K:LV->Prop):Prop:=
  match Md with
  | []=>C acc/\K acc
  | .int k::r=>∃n:Int,zL r (acc++[.int k n]) C K
  | .bool::r=>∃b:Bool,zL r (acc++[.bool b]) C K
  | .str::r=>∃s:ByteArray,zL r (acc++[.string s]) C K
  | .ptr::r=>∃q:OA,zL r (acc++[.pointer q]) C K
  | .slice::r=>∃(a:OA) (l c:Nat),zL r (acc++[.slice a l c]) C K
  | .agg::r=>∃cs:LV,zL r (acc++[.agg ⟨cs⟩]) C K
  | .any::r=>∃v:Value,zL r (acc++[v]) C K
  | .map::r=>∃q:Option Nat,zL r (acc++[.map q]) C K
  | .clo::r=>∃(g:Nat) (fs cs:LV),zL r (acc++[.func (.func g) ⟨fs⟩ ⟨cs⟩]) C K
def aP(w w':World):Prop:=w'.os=w.os/\w'.tape=w.tape/\w'.output=w.output
def wT (P : Program) (g : Nat) : Prop := ∃ fn, P.funcs[g]? = some fn ∧ (fn.name == "runtime.NumGoroutine") = false ∧ fn.body.isNone = false
def ao(P:Program)(g:Nat)(args:LV)(h:ab)(k:KT):Prop:=
  wT P g/\∀w:World,w.heap=h->Calls P g ⟨args⟩ w λe w'=>∃v,e = .returned v/\aP w w'/\k v w'.heap
def XP(P:Program)(g:Nat)(args:LV)(h:ab)(k kp:KT):Prop:=
  wT P g/\∀w:World,w.heap=h->Calls P g ⟨args⟩ w λe w'=>aP w w'/\((∃v,e = .returned v/\k v w'.heap)∨(∃v,e = .panicked [{ v:=v,recovered:=false }]/\kp v w'.heap))
def Se(P:Program)(g:Nat)(args:LV)(v:Value)(h:ab)(k:HP):Prop:=
  wT P g/\∀w:World,w.heap=h->CallsDIn Fence.wide 0 P g ⟨args⟩ (.panicking [{ v:=v,recovered:=false }]) w λe u w'=>u = .panicking [{ v:=v,recovered:=true }]/\(∃r,e = .returned r)/\aP w w'/\k w'.heap
def aaL(P:Program)(c:Value)(args:LV)(v:Value)(h:ab)(k:HP):Prop:=
  match c with
  | .func (.func g) fs cs=>Se P g (fs.toList++args++cs.toList) v h k
  | _=>False
def mj(P:Program)(l:Nat)(args:LV)(h:ab)(k:KT):Prop:=
  ∀w:World,w.heap=h->YieldAt Fence.wide 0 P l ⟨args⟩ w λe w'=>∃v,e = .returned v/\aP w w'/\k v w'.heap
def XQ(P:Program)(g:Nat)(args:LV)(h:ab)(k:HP):Prop:=
  wT P g/\∀w:World,w.heap=h->CallsDIn Fence.wide 0 P g ⟨args⟩ .returning w λe u w'=>u = .returning/\(∃v,e = .returned v)/\aP w w'/\k w'.heap
def Kq(P:Program)(v:Value)(args:LV)(h:ab)(k:HP):Prop:=
  match v with
  | .func (.func g) fs cs=>XQ P g (fs.toList++args++cs.toList) h k
  | _=>False
def br(h:ab)(l:Nat)(R:Loop)(st:LoopState)(p:Option Code):Prop:=h[l]?=some (.loop { R with state:=st,pending:=p })
def cZ(h:ab)(l:Nat)(R:Loop)(st:LoopState)(p:Option Code):ab:=h.setIfInBounds l (.loop { R with state:=st,pending:=p })
def bN(h:ab)(R:Loop):ab:=(h.push (.deferred (some []))).push (.loop { R with state:=.ready,pending:=none })
def Me(h:ab)(b:Nat):ab:=h.setIfInBounds b (.deferred none)
def vz(p:Option Code)(n r:Prop)(e:NP):Prop:=
  match p with
  | none=>n
  | some .ret=>r
  | some (.exit i)=>e i
  | _=>False
def exX : List Nat->Nat->(NP)->Prop
  | [],_,_=>False
  | j::r,i,E=>bif Nat.beq i j then E j else exX r i E
def oo(op:BinOp)(kd:IntKind)(a b:Int):Int:=
  let x:=BitVec.ofInt kd.bits a
  let y:=BitVec.ofInt kd.bits b
  match op with
  | .and=>kd.wrap (x &&& y).toNat
  | .or=>kd.wrap (x ||| y).toNat
  | .xor=>kd.wrap (x ^^^ y).toNat
  | _=>kd.wrap (x &&& ~~~y).toNat
def Gk(op:BinOp)(kd:IntKind)(a b:Int)(k:Value->Prop):Prop:=
  match op with
  | .add=>k (.int kd (kd.wrap (a+b)))
  | .sub=>k (.int kd (kd.wrap (a-b)))
  | .mul=>k (.int kd (kd.wrap (a*b)))
  | .quo=>if b=0 then False else k (.int kd (kd.wrap (a.tdiv b)))
  | .rem=>if b=0 then False else k (.int kd (a.tmod b))
  | .eql=>k (.bool (a==b))
  | .neq=>k (.bool (a != b))
  | .lss=>k (.bool (decide (a<b)))
  | .leq=>k (.bool (decide (a<=b)))
  | .gtr=>k (.bool (decide (a>b)))
  | .geq=>k (.bool (decide (a>=b)))
  | .and=>k (.int kd (oo .and kd a b))
  | .or=>k (.int kd (oo .or kd a b))
  | .xor=>k (.int kd (oo .xor kd a b))
  | .andNot=>k (.int kd (oo .andNot kd a b))
  | _=>False
def tj(op:BinOp)(kd:IntKind)(a b:Int)(k:Value->Prop):Prop:=
  match op with
  | .shl=>if b<0 then False else k (.int kd (kd.wrap (a*2 ^ min b.toNat kd.bits)))
  | .shr=>if b<0 then False else k (.int kd (a.fdiv (2 ^ min b.toNat kd.bits)))
  | _=>False
def XR(op:BinOp)(a b:ByteArray)(k:Value->Prop):Prop:=
  match op with
  | .add=>((a.size+b.size:Nat):Int)<=9223372036854775807/\k (.string (a++b))
  | .eql=>k (.bool (a.toList==b.toList))
  | .neq=>k (.bool !(a.toList==b.toList))
  | .lss=>k (.bool (Op.bytesLess a.toList b.toList))
  | .leq=>k (.bool (Op.bytesLess a.toList b.toList || a.toList==b.toList))
  | .gtr=>k (.bool !(Op.bytesLess a.toList b.toList || a.toList==b.toList))
  | .geq=>k (.bool !(Op.bytesLess a.toList b.toList))
  | _=>False
def qn : BinOp->Bool
  | .shl| .shr=>true
  | _=>false
def kz : IntKind->IntKind->Bool
  | .i8,.i8| .i16,.i16| .i32,.i32| .i64,.i64| .u8,.u8| .u16,.u16| .u32,.u32| .u64,.u64=>true
  | _,_=>false
def Ξ(op:BinOp)(b:Bool)(k:Value->Prop):Prop:=
  match op with
  | .eql=>k (.bool b)
  | .neq=>k (.bool !b)
  | _=>False
def Sf : Value->Bool
  | .nilFunc=>true
  | _=>false
def VF : Value->Bool
  | .nilFunc=>true
  | .func _ _ _=>true
  | _=>false
def oV(P:Program)(v:Value)(args:LV)(h:ab)(k:KT):Prop:=
  match v with
  | .func (.func g) fs cs=>ao P g (fs.toList++args++cs.toList) h k
  | .func (.yield l) fs _=>mj P l (fs.toList++args) h k
  | _=>False
def rP(P:Program)(v:Value)(args:LV)(h:ab)(k:KT):Prop:=
  match v with
  | .func (.func g) fs cs=>ao P g (fs.toList++args++cs.toList) h k
  | _=>False
def qS(d:D)(op:BinOp)(x y:Value)(k:Value->Prop):Prop:=
  match d with
  | .fn=>(match y with| .nilFunc=>VF x=true/\Ξ op (Sf x) k|_=>False)
  | d=>match x,y with
  | .int kd a,.int EA b=>bif qn op then tj op kd a b k else bif kz kd EA then Gk op kd a b k else False
  | .string a,.string b=>XR op a b k
  | .bool a,.bool b=>(match d with| .bool=>Ξ op (a==b) k|_=>False)
  | .pointer a,.pointer none=>(match d with| .ptr _=>Ξ op a.isNone k|_=>False)
  | .slice a _ _,.slice none _ _=>(match d with| .slice _=>Ξ op a.isNone k|_=>False)
  | _,_=>False
def dv : List D->LV->LV->Bool
  | [],[],[]=>true
  | .int kd::ks,.int ka _::xs,.int kb _::ys=>kz kd ka && kz kd kb && dv ks xs ys
  | .str::ks,.string _::xs,.string _::ys=>dv ks xs ys
  | .bool::ks,.bool _::xs,.bool _::ys=>dv ks xs ys
  | _,_,_=>false
def dw : LV->LV->Bool
  | .int _ a::xs,.int _ b::ys=>(a==b) && dw xs ys
  | .string a::xs,.string b::ys=>(a.toList==b.toList) && dw xs ys
  | .bool a::xs,.bool b::ys=>(a==b) && dw xs ys
  | [],[]=>true
  | _,_=>false
def aaM(t:TI)(op:BinOp)(x y:Value)(k:Value->Prop):Prop:=
  match t.eq with
  | []=>qS t.d op x y k
  | ks=>(match x,y with
      | .agg a,.agg b=>dv ks a.toList b.toList=true/\Ξ op (dw a.toList b.toList) k
      | _,_=>False)
def unX(op:UnOp)(x:Value)(k:Value->Prop):Prop:=
  match op,x with
  | .not,.bool b=>k (.bool !b)
  | .neg,.int kd n=>k (.int kd (kd.wrap (0-n)))
  | .xor,.int kd n=>k (.int kd (oo .xor kd (if kd.signed then -1 else kd.max) n))
  | _,_=>False
def Kr(t:TI)(p:Addr)(h:ab)(k:Value->Prop):Prop:=
  match t.d.ty with
  | .agg=>∃cs:LV,cs.length=t.cells/\ai h p cs/\k (.agg ⟨cs⟩)
  | ty=>OU ty (λv=>cellOf h p=some v) k
def IE(t:TI)(p:Addr)(v:Value)(h:ab)(k:HP):Prop:=
  match v with
  | .agg a=>Ko h p a.toList t.cells/\k (setRow h p a.toList 0)
  | .tuple _=>False
  | v=>bif Nat.beq t.cells 1 then Wr h p/\k (setOf h p v)else False
def oG : List LV->LV
  | []=>[]
  | [x]=>x
  | x::r=>x++oG r
def dN(f:Fr)(i:Nat):List (Nat×Operand)->Option (Option Value)
  | []=>none
  | (j,x)::r=>bif Nat.beq j i then some (match x with| .tmp t=>Fr.get f t| .const v=>some v| .global g=>some (.pointer (some ⟨g,0,none⟩))| .func g=>some (.func (.func g) #[] #[]))else dN f i r
def iX(f:Fr)(parts:List (Nat×Operand))(Z:LV):(lX:List (Nat×Nat))->(i:Nat)->(acc:List LV)->(k:List LV->Prop)->Prop
  | [],_,acc,k=>k acc
  | (off,size)::r,i,acc,k=>
    match dN f i parts with
    | none=>iX f parts Z r (i+1) (acc++[(Z.drop off).take size]) k
    | some o=>ae o λv=>(match v with
        | .agg a=>a.toList.length=size/\iX f parts Z r (i+1) (acc++[a.toList]) k
        | .tuple _=>False
        | v=>bif Nat.beq size 1 then iX f parts Z r (i+1) (acc++[[v]]) k else False)
def tm : List (Nat×Nat)->(at_ n:Nat)->Bool
  | [],m,n=>Nat.beq m n
  | (off,size)::r,m,n=>Nat.beq off m && tm r (m+size) n
def jH(size:Nat):(n i:Nat)->List (Nat×Nat)
  | 0,_=>[]
  | n+1,i=>(i*size,size)::jH size n (i+1)
def sorted(n:Nat):List (Nat×Operand)->(from_:Nat)->Bool
  | [],_=>true
  | (j,_)::r,m=>Nat.ble m j && Nat.blt j n && sorted n r (j+1)
def qT(a:OA)(l h m size:Nat):Value:=.slice (if m=l then a else a.map (·.add (scale l size))) (h-l) (m-l)
def loX(f:Fr)(lo:Option Operand)(k:Option Int->Prop):Prop:=
  match lo with
  | none=>k none
  | some x=>lW f x λv=>vy v λ_ n=>k (some n)
def OV(a:OA)(len cap size:Nat)(lo hi mx:Option Int)(k:Value->Prop):Prop:=
  match lo,hi,mx with
  | none,none,none=>k (.slice a len cap)
  | none,some h,none=>(0<=h/\h<=(cap:Int))/\k (.slice a h.toNat cap)
  | some l,none,none=>(0<=l/\l<=(len:Int))/\k (qT a l.toNat len cap size)
  | some l,some h,none=>(0<=l/\l<=h/\h<=(cap:Int))/\k (qT a l.toNat h.toNat cap size)
  | none,some h,some m=>(0<=h/\h<=m/\m<=(cap:Int))/\k (.slice a h.toNat m.toNat)
  | some l,some h,some m=>(0<=l/\l<=h/\h<=m/\m<=(cap:Int))/\k (qT a l.toNat h.toNat m.toNat size)
  | _,_,_=>False
def IF(s:ByteArray)(lo hi mx:Option Int)(k:Value->Prop):Prop:=
  match lo,hi,mx with
  | none,none,none=>k (.string s)
  | none,some h,none=>(0<=h/\h<=(s.size:Int))/\k (.string (s.extract 0 h.toNat))
  | some l,none,none=>(0<=l/\l<=(s.size:Int))/\k (.string (s.extract l.toNat s.size))
  | some l,some h,none=>(0<=l/\l<=h/\h<=(s.size:Int))/\k (.string (s.extract l.toNat h.toNat))
  | _,_,_=>False
def EB(d:D)(size:Nat)(x:Value)(lo hi mx:Option Int)(k:Value->Prop):Prop:=
  match d,x with
  | .str,.string s=>IF s lo hi mx k
  | .slice _,.slice a len cap=>OV a len cap size lo hi mx k
  | .arr n _,.pointer q=>ae q λp=>OV (some p) n n size lo hi mx k
  | _,_=>False
def Sg(elem:TI)(h:ab)(x:Value)(k:Nat->LV->Prop):Prop:=
  match x with
  | .slice b n _=>∃new:LV,new.length=n*elem.cells/\ag h b new/\(∀v∈new,v.oneCell'=true)/\k n new
  | .string s=>bif Nat.beq elem.cells 1 then k s.size (s.toList.map bv)else False
  | _=>False
def Om(h:ab)(a:OA)(o n:Nat):Prop:=
  match a with
  | some p=>WrN h (p.add o) n
  | none=>n=0
def wW(h:ab)(a:OA)(o:Nat)(new:LV):ab:=
  match a with
  | some p=>setRow h (p.add o) new 0
  | none=>h
def aw(elem:TI)(e:Nat)(a:OA)(l c n:Nat)(new:LV)(h:ab)(k:OA->Nat->Nat->ab->Prop):Prop:=
  ∃Db:LV,Db.length=l*elem.cells/\ag h a Db/\(l+n)*elem.bytes<=140737488355328/\(l+n<=140737488355328)/\
    (l+n<=c->Om h a (l*elem.cells) (n*elem.cells)/\k a (l+n) c (wW h a (l*elem.cells) new))/\
    (c<l+n->∀cap,l+n<=cap->k (some ⟨h.size,0,none⟩) (l+n) cap (oF h (Db++new++aW elem.zero (cap-(l+n))) e))
def qU(elem:TI)(a:OA)(n:Nat)(src:Value)(h:ab)(k:Nat->ab->Prop):Prop:=
  match src with
  | .slice b m _=>∃new:LV,new.length=min m n*elem.cells/\ag h b new/\(∀v∈new,v.oneCell'=true)/\Om h a 0 (min m n*elem.cells)/\k (min m n) (wW h a 0 new)
  | .string s=>(bif Nat.beq elem.cells 1 then True else False)/\Om h a 0 (min s.size n)/\k (min s.size n) (wW h a 0 ((s.toList.take (min s.size n)).map bv))
  | _=>False
def EC(elem:TI)(a:OA)(n:Nat)(h:ab)(k:HP):Prop:=
  (bif elem.zero.all Value.oneCell' then True else False)/\Om h a 0 (n*elem.cells)/\k (wW h a 0 (aW elem.zero n))
def VG(elem:TI)(e:Nat)(l c:Int)(h:ab)(k:KT):Prop:=
  (0<=l/\l<=c/\(elem.bytes:Int)*c<=281474976710656/\c<=281474976710656)/\k (.slice (some ⟨h.size,0,none⟩) l.toNat c.toNat) (oF h (aW elem.zero c.toNat) e)
def XS(d:D)(v:Value)(k:Value->Prop):Prop:=
  match d,v with
  | .slice _,.slice _ n _=>k (.int .i64 (n:Int))
  | .str,.string s=>k (.int .i64 (s.size:Int))
  | .arr n _,_=>k (.int .i64 (n:Int))
  | _,_=>False
def aaN(d:D)(v:Value)(k:Value->Prop):Prop:=
  match d,v with
  | .slice _,.slice _ _ c=>k (.int .i64 (c:Int))
  | _,_=>False
def XT(x y:Value)(k:Value->Prop):Prop:=
  match x,y with
  | .int kd a,.int EA b=>bif kz kd EA then k (.int kd (if b<a then b else a))else False
  | _,_=>False
def XU(x y:Value)(k:Value->Prop):Prop:=
  match x,y with
  | .int kd a,.int EA b=>bif kz kd EA then k (.int kd (if b>a then b else a))else False
  | _,_=>False
def vi : D->Bool
  | .int .u8=>true
  | _=>false
def wX : D->Bool
  | .slice _=>true
  | _=>false
def tp(h:ab)(cs:LV)(t:Nat):ab:=h.push (.cells ⟨cs⟩ t (cs.length,cs.length+1))
def aaO(n:Nat):Obj->Obj
  | .cells c e (lo,hi)=>.cells c e (if lo==hi then(n,n+1)else(min lo n,max hi (n+1)))
  | o=>o
def Kt(h:ab)(b:Nat):ab:=
  match h[b]? with
  | some (.cells c _ _)=>h.modify b (aaO c.size)
  | _=>h
def AG(C:Ctx)(same:Bool)(src dst:D)(v:Value)(h:ab)(k:KT):Prop:=
  match src,dst with
  | .str,.slice e=>bif vi (C.ti e).d then Da v λs=>∀cap:Nat,s.size<=cap->k (.slice (some ⟨h.size,0,none⟩) s.size cap) (tp h (s.toList.map bv++List.replicate (cap-s.size) (bv 0)) e)else False
  | .slice _,.slice e=>bif same && vi (C.ti e).d then oT v λa l c=>ae a λp=>k (.slice (some p) l c) (Kt h p.block)else False
  | _,_=>False
def Gm(C:Ctx)(src dst:D)(v:Value)(h:ab)(k:KT):Prop:=
  match src,dst,v with
  | .int _,.int kd,.int _ n=>k (.int kd (kd.wrap n)) h
  | .str,.str,.string s=>k (.string s) h
  | .int _,.str,.int _ n=>k (.string (Utf8.encode n)) h
  | .slice e,.str,.slice a l _=>bif vi (C.ti e).d then ∃bs:LB,aJ h a l bs/\k (.string (mkStr bs)) h else False
  | _,_,_=>False
def elemOf(C:Ctx)(t:Nat):Nat:=
  match (C.ti t).d with
  | .slice e=>e
  | .arr _ e=>e
  | .ptr e=>e
  | _=>0
def yh(f:Fr):List Operand->(acc:LV)->(k:LV->Prop)->Prop
  | [],acc,k=>k acc
  | x::r,acc,k=>lW f x λv=>yh f r (acc++[v]) k
def Gn(Md:List Ty)(k:KT)(v:Value)(h:ab):Prop:=
  match Md with
  | []=>v = .tuple #[]/\k (.tuple #[]) h
  | [ty]=>OU ty (λu=>v=u) (λu=>k u h)
  | Md=>zL Md [] (λus=>v = .tuple ⟨us⟩) (λus=>k (.tuple ⟨us⟩) h)
def Ah(C:Ctx)(t i:Nat):Option (Nat×Nat):=
  match (C.ti t).d with
  | .struct fs=>fs[i]?
  | _=>none
def vQ(q:Nat×Operand):List (Nat×Operand)->List (Nat×Operand)
  | []=>[q]
  | x::r=>bif Nat.ble q.1 x.1 then q::x::r else x::vQ q r
def sN : List (Nat×Operand)->List (Nat×Operand)
  | []=>[]
  | q::r=>vQ q (sN r)
def qF(len:Nat)(parts:List (Nat×Operand)):Bool:=sorted len (sN parts) 0
inductive jI where
  | i (n:Int)
  | s (b:LB)
def jI.same : jI->jI->Bool
  | .i a,.i b=>a==b
  | .s a,.s b=>a==b
  | _,_=>false
def kJ(d:D):jI->Value
  | .i n=>(match d with| .int k=>.int k n|_=>.nilFunc)
  | .s b=>.string (mkStr b)
def jJ(d:D):jI->Bool
  | .i _=>(match d with| .int _=>true|_=>false)
  | .s _=>(match d with| .str=>true|_=>false)
def Gp(d:D)(v:Value)(k:jI->Prop):Prop:=
  match d,v with
  | .int kd,.int EA n=>bif kz kd EA then k (.i n)else False
  | .str,.string s=>k (.s s.toList)
  | _,_=>False
abbrev qj :=List (jI×Value)
def kK(d:D)(h:ab)(r:Nat)(m:qj):Prop:=
  ∃es clock,h[r]?=some (.map es clock)/\es.toList.map (λe=>(e.key,e.val))=m.map (λp=>(kJ d p.1,p.2))/\(∀p∈m,jJ d p.1=true)/\MapKept.Stamped es clock
structure y8(d:D)(h:ab)(r:Nat)(m:qj)(h':ab):Prop where
  size:h'.size=h.size
  same:∀b,b≠r->h'[b]?=h[b]?
  at_:kK d h' r m
structure VH(d:D)(h:ab)(r:Nat)(x:jI)(m:qj)(h':ab):Prop extends y8 d h r m h' where
  del:∀es clock,h[r]?=some (.map es clock)->∃sO,h'[r]?=some (.map sO clock)/\sO.toList=es.toList.filter λe=>@decide (e.key≠kJ d x) (Classical.propDecidable _)
def rQ : qj->jI->Option Value
  | [],_=>none
  | (k,v)::r,x=>bif jI.same x k then some v else rQ r x
def wY : qj->jI->Value->qj
  | [],x,v=>[(x,v)]
  | (k,u)::r,x,v=>bif jI.same x k then(x,v)::r else(k,u)::wY r x v
def Mf : qj->jI->qj
  | [],_=>[]
  | (k,u)::r,x=>bif jI.same x k then r else(k,u)::Mf r x
def Ku(d:D)(q:Option Nat)(h:ab)(K:qj->Prop):Prop:=
  match q with
  | none=>K []
  | some r=>∃m,kK d h r m/\K m
def ED(d:D)(r:Nat)(x:jI)(v:Value)(h:ab)(K:HP):Prop:=∃m,kK d h r m/\∀h',y8 d h r (wY m x v) h'->K h'
def XV(d:D)(q:Option Nat)(x:jI)(h:ab)(K:HP):Prop:=
  match q with
  | none=>K h
  | some r=>∃m,kK d h r m/\∀h',VH d h r x (Mf m x) h'->K h'
def EE(h:ab):ab:=h.push (.map #[] 0)
def zeroV(t:TI):Value:=
  match t.d.ty with
  | .agg=>.agg ⟨t.zero⟩
  | _=>t.zero.headD .nilFunc
structure EF(h:ab)(r:Nat)(s:ByteArray)(pos:Nat)(h':ab):Prop where
  size:h'.size=h.size
  same:∀b,b≠r->h'[b]?=h[b]?
  at_:h'[r]?=some (.stringIter s pos)
def aaP(h:ab)(s:ByteArray):ab:=h.push (.stringIter s 0)
abbrev wZ :=List (Int×Int)
def mI(l:wZ):qj:=l.map λp=>(.i p.1,.int .i64 p.2)
def lY : D->Bool
  | .int .i64=>true
  | _=>false
def kvI(p:Int×Int):Value×Value:=(.int .i64 p.1,.int .i64 p.2)
def Kv(h:ab)(b r:Nat)(m left:wZ):Prop:=
  ∃es clock since seen last,h[r]?=some (.map es clock)/\h[b]?=some (.mapIter (some r) since seen last)/\es.toList.map (λe=>(e.key,e.val))=m.map kvI/\MapKept.Stamped es clock/\
    (∀x∈es.toList,x.born<since)/\since<=last/\since<=clock/\(es.toList.filter λe=>!seen.contains e.born).map (λe=>(e.key,e.val))=left.map kvI
def aaQ(h:ab)(b r:Nat)(n v:Int):Prop:=
  ∃es clock since seen e,h[r]?=some (.map es clock)/\h[b]?=some (.mapIter (some r) since seen clock)/\seen.back?=some e.born/\es.find? (·.born==e.born)=some e/\e.key = .int .i64 n/\e.val = .int .i64 v
def XW(h:ab)(r:Nat)(x:jI)(s:Int):Prop:=∃es clock e,h[r]?=some (.map es clock)/\e∈es.toList/\(e.born:Int)=s/\e.key=kJ (.int .i64) x
structure OW(h:ab)(r:Nat)(m:wZ)(x:jI)(z s:Int)(h':ab):Prop where
  to:y8 (.int .i64) h r (wY (mI m) x (.int .i64 z)) h'
  st:XW h' r x s
structure aaR(h:ab)(r:Nat)(m:wZ)(h':ab):Prop where
  size:h'.size=h.size+1
  same:∀b,b<h.size->h'[b]?=h[b]?
  at_:Kv h' h.size r m m
structure aaS(h:ab)(b r:Nat)(m left:wZ)(e:Int×Int)(h':ab):Prop where
  size:h'.size=h.size
  same:∀b',b'≠b->h'[b']?=h[b']?
  at_:Kv h' b r m (left.filter λp=>p.1 != e.1)
  cur:aaQ h' b r e.1 e.2
def lO : LB->UInt8->Int
  | [],_=>-1
  | b::l,c=>if b==c then 0 else if lO l c == -1 then -1 else lO l c+1
def vA(C:Ctx)(f:Fr)(op:Op)(ty:Nat)(k:KT)(h:ab):Prop:=
  match op with
  | .move x| .assign x=>lW f x λv=>k v h
  | .pick c a b=>lW f c λvc=>Ez vc λt=>bif t then lW f a (λv=>k v h)else lW f b (λv=>k v h)
  | .alloc e=>qi (C.ti e) (k (Ey h) (oF h (C.ti e).zero e))
  | .box e x=>lW f x λv=>k (Ey h) (oF h (ky v) e)
  | .build t parts=>qi (C.ti t) (match (C.ti t).d with
      | .struct fs=>bif qF fs.length parts.toList && (fs.all λx=>(C.ti x.2).ok) && tm (fs.map λx=>(x.1,(C.ti x.2).cells)) 0 (C.ti t).cells then
          iX f parts.toList (C.ti t).zero (fs.map λx=>(x.1,(C.ti x.2).cells)) 0 [] λxs=>k (.agg ⟨oG xs⟩) h else False
      | .arr n e=>qi (C.ti e) (bif qF n parts.toList && Nat.beq (n*(C.ti e).cells) (C.ti t).cells then
          iX f parts.toList (C.ti t).zero (jH (C.ti e).cells n 0) 0 [] λxs=>k (.agg ⟨oG xs⟩) h else False)
      | _=>False)
  | .buildSlice t n parts=>(match (C.ti t).d with
      | .slice e=>qi (C.ti e) (bif qF n parts.toList && Nat.ble (n*(C.ti e).cells) 16777216 then
          iX f parts.toList (aW (C.ti e).zero n) (jH (C.ti e).cells n 0) 0 [] λxs=>k (.slice (some ⟨h.size,0,none⟩) n n) (oF h (oG xs) e)else False)
      | _=>False)
  | .load t x=>lW f x λv=>th v λq=>ae q λp=>qi (C.ti t) (Kr (C.ti t) p h (λu=>k u h))
  | .store t x y=>lW f x λv=>th v λq=>ae q λp=>lW f y λu=>qi (C.ti t) (IE (C.ti t) p u h (λh'=>k undef h'))
  | .nilCheck x=>lW f x λv=>(match v with
      | .pointer q=>ae q λp=>k (.pointer (some p)) h
      | .func (.func g) fs cs=>k (.func (.func g) fs cs) h
      | _=>False)
  | .binOp op t x y _=>lW f x λu=>lW f y λv=>aaM (C.ti t) op u v (λr=>k r h)
  | .unOp op _ x=>lW f x λu=>unX op u (λr=>k r h)
  | .convert s t x=>lW f x λu=>bif wX (C.ti t).d then AG C (Nat.beq s t) (C.ti s).d (C.ti t).d u h k else Gm C (C.ti s).d (C.ti t).d u h k
  | .makeFunc (.func g) fs cs=>yh f fs.toList [] λa=>yh f cs.toList [] λb=>(match a with|[]=>k (.func (.func g) #[] ⟨b⟩) h|a=>k (.func (.func g) ⟨a⟩ ⟨b⟩) h)
  | .makeSlice t x y=>lW f x λu=>lW f y λv=>vy u λ_ l=>vy v λ_ c=>(match (C.ti t).d with
      | .slice e=>qi (C.ti e) (VG (C.ti e) e l c h k)
      | _=>False)
  | .slice t x lo hi mx=>lW f x λv=>loX f lo λl=>loX f hi λu=>loX f mx λm=>(match (C.ti t).d with
      | .str=>EB .str 1 v l u m (λr=>k r h)
      | d=>qi (C.ti (elemOf C t)) (EB d (C.ti (elemOf C t)).cells v l u m (λr=>k r h)))
  | .fieldAddr t x i=>lW f x λv=>th v λq=>ae q λp=>ae (Ah C t i) λo=>bif Nat.beq (C.ti o.2).cells 0 then False else k (.pointer (some (p.add o.1))) h
  | .field t x i=>lW f x λv=>Kp v λcs=>ae (Ah C t i) λo=>qi (C.ti o.2) (match (C.ti o.2).d.ty with
      | .agg=>k (.agg ⟨(cs.drop o.1).take (C.ti o.2).cells⟩) h
      | ty=>OU ty (λu=>cs[o.1]?=some u) (λu=>k u h))
  | .indexAddr t x y=>lW f x λu=>lW f y λv=>vy v λ_ i=>(match (C.ti t).d,u with
      | .slice e,.slice a l _=>qi (C.ti e) ((0<=i/\i<(l:Int))/\ae a λp=>k (.pointer (some (p.add (scale i.toNat (C.ti e).cells)))) h)
      | .arr n e,.pointer q=>qi (C.ti e) (ae q λp=>(0<=i/\i<(n:Int))/\k (.pointer (some (p.add (scale i.toNat (C.ti e).cells)))) h)
      | _,_=>False)
  | .index t x y=>lW f x λu=>lW f y λv=>vy v λ_ i=>(match (C.ti t).d,u with
      | .arr n e,.agg cs=>qi (C.ti e) ((0<=i/\i<(n:Int))/\match (C.ti e).d.ty with
          | .agg=>k (.agg ⟨(cs.toList.drop (scale i.toNat (C.ti e).cells)).take (C.ti e).cells⟩) h
          | ty=>OU ty (λr=>cs.toList[scale i.toNat (C.ti e).cells]?=some r) (λr=>k r h))
      | .str,.string s=>(0<=i/\i<(s.size:Int))/\∃b:UInt8,s.toList[i.toNat]?=some b/\k (bv b) h
      | _,_=>False)
  | .extract x i=>lW f x λv=>VE v λus=>ae us[i]? λu=>k u h
  | .call { callee:=.builtin .len,args,argTypes }=>yh f args.toList [] λus=>(match us,argTypes.toList with
      | [u],[t]=>(match (C.ti t).d with
          | .map kt _=>sM u λq=>qi (C.ti kt) (Ku (C.ti kt).d q h λm=>k (.int .i64 (m.length:Int)) h)
          | d=>XS d u (λr=>k r h))
      | _,_=>False)
  | .call { callee:=.builtin .cap,args,argTypes }=>yh f args.toList [] λus=>(match us,argTypes.toList with
      | [u],[t]=>aaN (C.ti t).d u (λr=>k r h)
      | _,_=>False)
  | .call { callee:=.builtin .min,args,argTypes:=_ }=>yh f args.toList [] λus=>(match us with
      | [u,v]=>XT u v (λr=>k r h)
      | _=>False)
  | .call { callee:=.builtin .max,args,argTypes:=_ }=>yh f args.toList [] λus=>(match us with
      | [u,v]=>XU u v (λr=>k r h)
      | _=>False)
  | .call { callee:=.builtin .append,args,argTypes }=>yh f args.toList [] λus=>(match us,argTypes.toList with
      | [u,v],[t,t']=>(match (C.ti t).d,(C.ti t').d with
          | .slice e,.slice _| .slice e,.str=>qi (C.ti e) (oT u λa l c=>Sg (C.ti e) h v λn new=>aw (C.ti e) e a l c n new h λa' l' c' h'=>k (.slice a' l' c') h')
          | _,_=>False)
      | _,_=>False)
  | .call { callee:=.builtin .copy,args,argTypes }=>yh f args.toList [] λus=>(match us,argTypes.toList with
      | [u,v],[t,_]=>(match (C.ti t).d with
          | .slice e=>qi (C.ti e) (oT u λa l _=>qU (C.ti e) a l v h λn h'=>k (.int .i64 (n:Int)) h')
          | _=>False)
      | _,_=>False)
  | .call { callee:=.builtin .clear,args,argTypes }=>yh f args.toList [] λus=>(match us,argTypes.toList with
      | [u],[t]=>(match (C.ti t).d with
          | .slice e=>qi (C.ti e) (oT u λa l _=>EC (C.ti e) a l h λh'=>k (.tuple #[]) h')
          | _=>False)
      | _,_=>False)
  | .call { callee:=.builtin .delete,args,argTypes }=>yh f args.toList [] λus=>(match us,argTypes.toList with
      | [u,v],t::_=>(match (C.ti t).d with
          | .map kt _=>Gp (C.ti kt).d v λx=>sM u λq=>XV (C.ti kt).d q x h λh'=>k (.tuple #[]) h'
          | _=>False)
      | _,_=>False)
  | .call { callee:=.value (.func g),args,argTypes:=_ }=>yh f args.toList [] λus=>bif C.nat.any (Nat.beq g)then
      (match us with
        | [u,v]=>Da u λs=>vy v λkd c=>kd = .u8/\k (.int .i64 (lO s.toList (UInt8.ofNat c.toNat))) h
        | _=>False)
      else ao C.P g us h (Gn (C.sig ty) k)
  | .makeMap _ none=>k (.map (some h.size)) (EE h)
  | .insert t m x y| .mapUpdate t m x y=>lW f m λu=>lW f x λv=>lW f y λz=>(match (C.ti t).d with
      | .map kt _=>Gp (C.ti kt).d v λkey=>sM u λq=>ae q λr=>ED (C.ti kt).d r key z h λh'=>k undef h'
      | _=>False)
  | .lookup t m x ok=>lW f m λu=>lW f x λv=>(match (C.ti t).d with
      | .map kt et=>qi (C.ti et) (Gp (C.ti kt).d v λkey=>sM u λq=>Ku (C.ti kt).d q h λm=>
          OU (C.ti et).d.ty (λr=>(rQ m key).getD (zeroV (C.ti et))=r) λr=>bif ok then k (.tuple #[r,.bool (rQ m key).isSome]) h else k r h)
      | _=>False)
  | .mapEntry t m x=>lW f m λu=>lW f x λv=>(match (C.ti t).d with
      | .map kt et=>qi (C.ti et) (bif lY (C.ti kt).d && lY (C.ti et).d then zeroV (C.ti et) = .int .i64 0/\Gp (C.ti kt).d v λkey=>sM u λq=>ae q λr=>∃mm:wZ,kK (.int .i64) h r (mI mm)/\∀(z s:Int) (h':ab),OW h r mm key z s h'->k (.tuple #[.int .i64 z,.int .i64 s]) h' else False)
      | _=>False)
  | .entryStore t m s x=>lW f m λu=>lW f s λvs=>lW f x λvx=>(match (C.ti t).d with
      | .map kt et=>bif lY (C.ti kt).d && lY (C.ti et).d then sM u λq=>ae q λr=>vy vs λ_ sn=>vy vx λkd z=>kd = .i64/\∃(mm:wZ) (key:jI),kK (.int .i64) h r (mI mm)/\XW h r key sn/\∀h':ab,y8 (.int .i64) h r (wY (mI mm) key (.int .i64 z)) h'->k undef h' else False
      | _=>False)
  | .range t x=>lW f x λu=>(match (C.ti t).d with
      | .str=>Da u λs=>k (Ey h) (aaP h s)
      | .map kt et=>bif lY (C.ti kt).d && lY (C.ti et).d then sM u λq=>ae q λr=>∃m:wZ,kK (.int .i64) h r (mI m)/\∀h',aaR h r m h'->k (Ey h) h' else False
      | _=>False)
  | .next x false=>lW f x λu=>th u λq=>ae q λp=>p.off=0/\∃(r:Nat) (m left:wZ),Kv h p.block r m left/\
      (left=[]->k (.tuple #[.bool false]) h)/\
      ∀e∈left,∀h',aaS h p.block r m left e h'->k (.tuple #[.bool true,.int .i64 e.1,.int .i64 e.2]) h'
  | .entry x=>lW f x λu=>th u λq=>ae q λp=>p.off=0/\∃(r:Nat) (n v:Int),aaQ h p.block r n v/\k (.tuple #[.int .i64 n,.int .i64 v]) h
  | .next x true=>lW f x λu=>th u λq=>ae q λp=>p.off=0/\∃(s:ByteArray) (pos:Nat),h[p.block]?=some (.stringIter s pos)/\
      (pos<s.size->∀h',EF h p.block s (pos+(Utf8.decode s pos).2) h'->k (.tuple #[.bool true,.int .i64 (pos:Int),.int .i32 (Utf8.decode s pos).1]) h')/\
      (¬pos<s.size->k (.tuple #[.bool false]) h)
  | .call { callee:=.value (.tmp s),args,argTypes:=_ }=>lW f (.tmp s) λv=>yh f args.toList [] λus=>oV C.P v us h (Gn (C.sig ty) k)
  | .sliceToArrayPointer t x=>lW f x λv=>oT v λa l _=>(match (C.ti t).d with
      | .arr n _=>n<=l/\k (.pointer a) h
      | _=>False)
  | _=>False
def sZ(f:Fr)(dst:Option Nat)(v:Value):Fr:=
  match dst with
  | some d=>(d,v)::f
  | none=>f
def guards(full:List Oper)(o:Oper):Bool:=
  match o.op,o.dst with
  | .move _,some d=>full.any λo'=>match o'.guard with
      | some (j,_)=>(match full[j]? with|some oj=>(match oj.dst with|some e=>Nat.beq e d|none=>false)|none=>false)
      | none=>false
  | _,_=>false
def tq(b:Bool)(v:Value)(k:Value->Prop):Prop:=
  bif b then(match v with
    | .bool t=>bif t then k (.bool true)else k (.bool false)
    | v=>k v)else k v
def AH(full:List Oper)(f:Fr)(g:Option (Nat×Bool))(k:Bool->Prop):Prop:=
  match g with
  | none=>k true
  | some (j,want)=>ae (full[j]?) λoj=>ae oj.dst λd=>ae (Fr.get f d) λv=>(match v with
      | .bool b=>k (b==want)
      | .tuple _=>k false
      | _=>False)
def yi(f:Fr)(c:Call)(k:Value->Prop):Prop:=
  match c with
  | { callee:=.value x,args,argTypes:=_ }=>lW f x λv=>(match v with
      | .func (.func g) fs cs=>yh f args.toList [] λus=>k (.tuple ⟨.func (.func g) fs cs::us⟩)
      | _=>False)
  | _=>False
def gK : Op->Bool
  | .defer _=>true
  | _=>false
def AJ : Op->Call
  | .defer c=>c
  | _=>default
def Gq(C:Ctx)(full:List Oper):List Oper->(Fr->ab->Prop)->Fr->ab->Prop
  | [],N,f,h=>N f h
  | o::rest,N,f,h=>AH full f o.guard λw=>
      bif w then bif gK o.op then yi f (AJ o.op) λd=>Gq C full rest N (sZ ((gN,d)::f) o.dst undef) h
        else vA C f o.op o.type (λv h'=>tq (guards full o) v λv=>Gq C full rest N (sZ f o.dst v) h') h
      else Gq C full rest N (sZ f o.dst undef) h
def XX(C:Ctx)(o:Oper):Bool:=
  match o.op with
  | .call { callee:=.value (.func g),args:=_,argTypes:=_ }=>C.Iu.any (Nat.beq g)
  | .panic _=>true
  | _=>false
def Kw(C:Ctx)(f:Fr)(op:Op)(ty:Nat)(k:KT)(X:KT)(h:ab):Prop:=
  match op with
  | .call { callee:=.value (.func g),args,argTypes:=_ }=>yh f args.toList [] λus=>XP C.P g us h (Gn (C.sig ty) k) X
  | .panic x=>lW f x λv=>(match v with| .iface T u=>X (.iface T u) h|_=>False)
  | _=>False
def CA(C:Ctx)(full:List Oper)(X:Value->Fr->ab->Prop):List Oper->(Fr->ab->Prop)->Fr->ab->Prop
  | [],N,f,h=>N f h
  | o::rest,N,f,h=>AH full f o.guard λw=>
      bif w then bif XX C o then Kw C f o.op o.type (λv h'=>CA C full X rest N (sZ f o.dst v) h') (λv h'=>X v f h') h
        else bif gK o.op then yi f (AJ o.op) λd=>CA C full X rest N (sZ ((gN,d)::f) o.dst undef) h
        else vA C f o.op o.type (λv h'=>tq (guards full o) v λv=>CA C full X rest N (sZ f o.dst v) h') h
      else CA C full X rest N (sZ f o.dst undef) h
def EG(C:Ctx)(f:Fr)(h:ab)(o:Oper):Prop:=
  match o.dst with
  | none=>False
  | some d=>ae (Fr.get f d) λv=>
    match o.op with
    | .load t x=>lW f x λu=>th u λq=>ae q λp=>qi (C.ti t) (match (C.ti t).d.ty with
        | .agg=>Kp v λcs=>cs.length=(C.ti t).cells/\ai h p cs
        | _=>cellOf h p=some v)
    | .convert s t x=>(match (C.ti s).d,(C.ti t).d with
        | .slice e,.str=>bif vi (C.ti e).d then lW f x λu=>oT u λa l _=>Da v λb=>aJ h a l b.toList else False
        | _,_=>False)
    | _=>False
def yj(C:Ctx)(full:List Oper)(f:Fr)(h:ab):List Nat->Prop->Prop
  | [],K=>K
  | j::r,K=>ae (full[j]?) λo=>AH full f o.guard λw=>bif w then EG C f h o/\yj C full f h r K else yj C full f h r K
def doX(C:Ctx)(full:List Oper)(i:Nat)(st:List Nat)(K:Fr->ab->Prop)(f:Fr)(h:ab):Prop:=
  ae (full[i]?) λo=>AH full f o.guard λw=>
      bif w then vA C f o.op o.type (λv h'=>yj C full f h' st (tq (guards full o) v λv=>K (sZ f o.dst v) h')) h
      else K (sZ f o.dst undef) h
def yk(C:Ctx)(full:List Oper):Od->(Fr->ab->Prop)->Fr->ab->Prop
  | .nil,N,f,h=>N f h
  | .op i st r,N,f,h=>doX C full i st (λf h=>yk C full r N f h) f h
  | .alt i st r o,N,f,h=>doX C full i st (λf h=>yk C full r N f h) f h/\yk C full o N f h
structure Ks where
  exit:Nat->Fr->ab->Prop
  ret:Fr->ab->Prop
  Iu:Value->Fr->ab->Prop:=λ_ _ _=>False
def oq : List (Nat×Ty)->Type->Type
  | [],R=>R
  | (_,.int _)::r,R=>Int->oq r R
  | (_,.bool)::r,R=>Bool->oq r R
  | (_,.str)::r,R=>ByteArray->oq r R
  | (_,.ptr)::r,R=>OA->oq r R
  | (_,.slice)::r,R=>OA->Nat->Nat->oq r R
  | (_,.agg)::r,R=>LV->oq r R
  | (_,.any)::r,R=>Value->oq r R
  | (_,.map)::r,R=>Option Nat->oq r R
  | (_,.clo)::r,R=>Value->oq r R
def AK{R S:Type}:(l:List (Nat×Ty))->oq l R->oq l S->Fr->(R->S->Fr->Prop)->Prop
  | [],i,m,f,K=>K i m f
  | (t,.int k)::r,i,m,f,K=>∀n:Int,AK r (i n) (m n) ((t,.int k n)::f) K
  | (t,.bool)::r,i,m,f,K=>∀b:Bool,AK r (i b) (m b) ((t,.bool b)::f) K
  | (t,.str)::r,i,m,f,K=>∀s:ByteArray,AK r (i s) (m s) ((t,.string s)::f) K
  | (t,.ptr)::r,i,m,f,K=>∀q:OA,AK r (i q) (m q) ((t,.pointer q)::f) K
  | (t,.slice)::r,i,m,f,K=>∀(a:OA) (l c:Nat),AK r (i a l c) (m a l c) ((t,.slice a l c)::f) K
  | (t,.agg)::r,i,m,f,K=>∀cs:LV,AK r (i cs) (m cs) ((t,.agg ⟨cs⟩)::f) K
  | (t,.any)::r,i,m,f,K=>∀v:Value,AK r (i v) (m v) ((t,v)::f) K
  | (t,.map)::r,i,m,f,K=>∀q:Option Nat,AK r (i q) (m q) ((t,.map q)::f) K
  | (t,.clo)::r,i,m,f,K=>∀v:Value,AK r (i v) (m v) ((t,v)::f) K
def Mg{R S:Type}:(l:List (Nat×Ty))->oq l R->oq l S->Fr->(R->S->Prop)->Prop
  | [],i,m,_,K=>K i m
  | (t,.int k)::r,i,m,f,K=>ae (Fr.get f t) λv=>vy v λk' n=>bif kz k k' then Mg r (i n) (m n) f K else False
  | (t,.bool)::r,i,m,f,K=>ae (Fr.get f t) λv=>Ez v λb=>Mg r (i b) (m b) f K
  | (t,.str)::r,i,m,f,K=>ae (Fr.get f t) λv=>Da v λs=>Mg r (i s) (m s) f K
  | (t,.ptr)::r,i,m,f,K=>ae (Fr.get f t) λv=>th v λq=>Mg r (i q) (m q) f K
  | (t,.slice)::r,i,m,f,K=>ae (Fr.get f t) λv=>oT v λa l c=>Mg r (i a l c) (m a l c) f K
  | (t,.agg)::r,i,m,f,K=>ae (Fr.get f t) λv=>Kp v λcs=>Mg r (i cs) (m cs) f K
  | (t,.any)::r,i,m,f,K=>ae (Fr.get f t) λv=>Mg r (i v) (m v) f K
  | (t,.map)::r,i,m,f,K=>ae (Fr.get f t) λv=>sM v λq=>Mg r (i q) (m q) f K
  | (t,.clo)::r,i,m,f,K=>ae (Fr.get f t) λv=>Mg r (i v) (m v) f K
def sP(f:Fr):List Nat->Fr
  | []=>[]
  | t::r=>match Fr.get f t with
    | some v=>(t,v)::sP f r
    | none=>sP f r
def pG : Code->Option Nat
  | .region id _ _=>some id
  | .seq a b=>(match pG a with|some i=>some i|none=>pG b)
  | .cond _ a b=>(match pG a with|some i=>some i|none=>pG b)
  | .block _ a| .loop a| .scope a=>pG a
  | _=>none
def vR(c:Code):Nat:=(pG c).getD 0
def OX(assign body:Code):Nat:=(pG (.seq assign body)).getD 0+1000000
def oW : Code->List Nat
  | .exit i=>[i]
  | .seq a b=>oW a++(oW b).filter λi=>!((oW a).any (Nat.beq i))
  | .cond _ a b=>oW a++(oW b).filter λi=>!((oW a).any (Nat.beq i))
  | .block id a=>(oW a).filter λi=>!(Nat.beq i id)
  | .loop a| .scope a=>oW a
  | _=>[]
def tu : Code->Bool
  | .ret=>true
  | .seq a b=>tu a || tu b
  | .cond _ a b=>tu a || tu b
  | .block _ a| .loop a| .scope a=>tu a
  | _=>false
def yl : List (Nat×Ty)->Fr->LV->(Fr->LV->Prop)->Prop
  | [],f,acc,K=>K f acc
  | (t,.int k)::r,f,acc,K=>∀n:Int,yl r ((t,.int k n)::f) (acc++[.int k n]) K
  | (t,.bool)::r,f,acc,K=>∀b:Bool,yl r ((t,.bool b)::f) (acc++[.bool b]) K
  | (t,.str)::r,f,acc,K=>∀s:ByteArray,yl r ((t,.string s)::f) (acc++[.string s]) K
  | (t,.ptr)::r,f,acc,K=>∀q:OA,yl r ((t,.pointer q)::f) (acc++[.pointer q]) K
  | (t,.slice)::r,f,acc,K=>∀(a:OA) (l c:Nat),yl r ((t,.slice a l c)::f) (acc++[.slice a l c]) K
  | (t,.agg)::r,f,acc,K=>∀cs:LV,yl r ((t,.agg ⟨cs⟩)::f) (acc++[.agg ⟨cs⟩]) K
  | (t,.any)::r,f,acc,K=>∀v:Value,yl r ((t,v)::f) (acc++[v]) K
  | (t,.map)::r,f,acc,K=>∀q:Option Nat,yl r ((t,.map q)::f) (acc++[.map q]) K
  | (t,.clo)::r,f,acc,K=>∀v:Value,yl r ((t,v)::f) (acc++[v]) K
def Kx(C:Ctx):Code->Ks->(Fr->ab->Prop)->Fr->ab->Prop
  | .skip,_,N,f,h=>N f h
  | .seq a b,Q,N,f,h=>Kx C a Q (λf h=>Kx C b Q N f h) f h
  | .cond c a b,Q,N,f,h=>lW f c λv=>Ez v λt=>bif t then Kx C a Q N f h else Kx C b Q N f h
  | .block id a,Q,N,f,h=>Kx C a { exit:=λi f h=>bif Nat.beq i id then N f h else Q.exit i f h,ret:=Q.ret,Iu:=Q.Iu } N f h
  | .exit id,Q,_,f,h=>Q.exit id f h
  | .ret,Q,_,f,h=>Q.ret f h
  | .scope a,Q,N,f,h=>Kx C a Q N f h
  | .label _,_,N,f,h=>N f h
  | .region id ops draw,Q,N,f,h=>bif draw then yk C ops.toList (C.qE id) N f h else bif ops.toList.any (XX C)then CA C ops.toList Q.Iu ops.toList N f h else Gq C ops.toList ops.toList N f h
  | .loop body,Q,_,f,h=>
    let hint:=C.loops (vR body)
    ∃(I:oq hint.2 (HP)) (μ:oq hint.2 (ab->Nat)),
      Mg hint.2 I μ f (λi _=>i h)/\
      AK hint.2 I μ (wS (sY f) (sP f hint.1)) λi m f'=>∀h',i h'->
        Kx C body Q (λf2 h2=>Mg hint.2 I μ f2 λi2 m2=>i2 h2/\m2 h2<m h') f' h'
  | .rangeFunc g _ assign body,Q,N,f,h=>lW f g λv=>∀R:Loop,
      (yl (C.loops (OX assign body)).2 (Kn f) [] λf' args=>∀(h3:ab) (k:KT),
        br h3 (h.size+1) R .ready none->
        Kx C assign { exit:=λ_ _ _=>False,ret:=λ_ _=>False }
          (λf2 h4=>br h4 (h.size+1) R .ready none/\
            Kx C body { exit:=λi _ h5=>br h5 (h.size+1) R .busy none/\k (.bool false) (cZ h5 (h.size+1) R .done (some (.exit i))),
                         ret:=λ_ h5=>br h5 (h.size+1) R .busy none/\k (.bool false) (cZ h5 (h.size+1) R .done (some .ret)) }
              (λ_ h5=>br h5 (h.size+1) R .busy none/\k (.bool true) (cZ h5 (h.size+1) R .ready none)) f2 (cZ h4 (h.size+1) R .busy none)) f' h3->
        mj C.P (h.size+1) args h3 k)->
      rP C.P v [.func (.yield (h.size+1)) #[] #[]] (bN h R) λ_ h6=>∃(st:LoopState) (p:Option Code),br h6 (h.size+1) R st p/\st≠.busy/\
        vz p (N ((gN,.pointer (some ⟨h.size,0,none⟩))::f) (cZ h6 (h.size+1) R .exhausted p))
          (bif tu body then Q.ret ((gN,.pointer (some ⟨h.size,0,none⟩))::f) (cZ h6 (h.size+1) R .exhausted p)else False)
          (λi=>exX (oW body) i λj=>Q.exit j ((gN,.pointer (some ⟨h.size,0,none⟩))::f) (cZ h6 (h.size+1) R .exhausted p))
  | _,_,_,_,_=>False
def Mh(C:Ctx)(rs:List ResultVar)(f:Fr)(h:ab)(acc:LV)(k:LV->Prop):Prop:=
  match rs with
  | []=>k acc
  | .tmp t::r=>ae (Fr.get f t) λv=>Mh C r f h (acc++[v]) k
  | .cell t ty::r=>ae (Fr.get f t) λv=>th v λq=>ae q λp=>qi (C.ti ty) (Kr (C.ti ty) p h λu=>Mh C r f h (acc++[u]) k)
def XY(vs:LV):Value:=
  match vs with
  | [v]=>v
  | vs=>.tuple ⟨vs⟩
def y9 : LV->Nat->Fr
  | [],_=>[]
  | v::r,i=>(i,v)::y9 r (i+1)
def vS(C:Ctx)(rs:List ResultVar)(f:Fr)(k:KT):LV->ab->Prop
  | [],h=>Mh C rs f h [] λvs=>k (XY vs) h
  | .pointer (some a)::ds,h=>h[a.block]?=some (.deferred (some []))/\vS C rs f k ds (Me h a.block)
  | .tuple ⟨v::us⟩::ds,h=>Kq C.P v us h λh'=>vS C rs f k ds h'
  | _,_=>False
def fnX(C:Ctx)(fn:Func)(c:Code)(args:LV)(k:KT)(h:ab):Prop:=
  Kx C c { exit:=λ_ _ _=>False,ret:=λf h=>vS C fn.results.toList f k (sY f) h }
    (λf h=>vS C fn.results.toList f k (sY f) h) (y9 args 0) h
def aq : TypeDesc->D
  | .bool=>.bool| .int k=>.int k| .string=>.str| .pointer e=>.ptr e| .slice e=>.slice e| .array n e=>.arr n e
  | .struct fs=>.struct (fs.toList.map λf=>(f.offset,f.type))| .func _ _ _=>.fn| .map k e=>.map k e|_=>.other
def Ky(i:TypeInfo):Nat×Nat×Option LV:=(i.size,i.bytes,i.zero.map ky)
def rR(g:Nat->Option (List D)):List Field->Nat->Option (List D)
  | [],_=>some []
  | fd :: r, off => bif fd.name == "_" then none else bif Nat.beq fd.offset off then (match g fd.type with
      | some ks=>(rR g r (off+ks.length)).map (ks ++ ·)
      | none=>none)else none
def Kz(P:Program)(g:Nat->Option (List D))(t:Nat):Option (List D):=
  match P.underlying t with
  | some (.int k)=>some [D.int k]
  | some .string=>some [D.str]
  | some .bool=>some [D.bool]
  | some (.struct fs)=>bif P.stoodInHeld t then none else rR g fs.toList 0
  | some (.array n e)=>(g e).map λks=>(List.replicate n ks).flatten
  | _=>none
def OY(P:Program)(t:Nat):Option (List D)->Option (List D)
  | some ks=>bif(match P.info? t with|some i=>Nat.beq i.size ks.length|none=>false)then some ks else none
  | none=>none
def flatK(P:Program):Nat->Nat->Option (List D)
  | 0,_=>none
  | f+1,t=>OY P t (Kz P (flatK P f) t)
def VI : D->D->Bool
  | .int a,.int b=>kz a b
  | .str,.str=>true
  | .bool,.bool=>true
  | _,_=>false
def ym : List D->List D->Bool
  | [],[]=>true
  | a::r,b::s=>VI a b && ym r s
  | _,_=>false
def VJ(P:Program)(t:Nat)(ks:List D):Bool:=
  match ks with
  | []=>true
  | ks=>(match flatK P 6 t with|some l=>ym ks l && !(P.eqGuardType P.depth t) && (match P.underlying t with|some (.struct _)=>true|some (.array _ _)=>true|_=>false)|none=>false)
def XZ : Value->Bool
  | .agg _=>true
  | _=>false
def EH : Ty->Bool
  | .agg=>true
  | _=>false
structure bA(P:Program)(t:Nat)(x:TI):Prop where
  eqs:VJ P t x.eq=true
  zag:((P.info? t).bind (·.zero)).map XZ=some (EH x.d.ty)
  info:(P.info? t).map Ky=some (x.cells,x.bytes,some x.zero)
  desc:(P.underlying t).map aq=some x.d
  len:x.zero.length=x.cells
def KA(P:Program)(g:Nat):Prop:=∀(s:ByteArray) (c:Int) (w:World),(callFunc g #[.string s,.int .u8 c]).run P w = .ok (.value (.int .i64 (lO s.toList (UInt8.ofNat c.toNat)))) w
structure jQ(C:Ctx):Prop where
  nat:∀g∈C.nat,KA C.P g
  ti:∀t,C.ti t=Sd∨bA C.P t (C.ti t)
  mixed:C.P.follows .mixedOrders=true
theorem KB{P:Program}:∀(l:List (Nat×TI)),(∀x∈l,bA P x.1 x.2)->∀t,OT l t=Sd∨bA P t (OT l t)
  | [],_,t=>.inl rfl
  | (i,x)::r,h,t=>by
    unfold OT
    cases hb:Nat.beq i t with
    | true=>
      have e:i=t:=Nat.eq_of_beq_eq_true hb;subst e;exact .inr (h (i,x) (by simp))
    | false=>exact KB r (λy hy=>h y (by simp[hy])) t
theorem jQ.ok{C:Ctx}(hC:jQ C){t:Nat}(h:(C.ti t).ok=true):bA C.P t (C.ti t):=by
  rcases hC.ti t with e|e
  · rw[e]at h;simp[Sd]at h
  · exact e
theorem jQ.qi{C:Ctx}(hC:jQ C){t:Nat}{p:Prop}(h:qi (C.ti t) p):bA C.P t (C.ti t)/\p:=by
  unfold Wx.qi at h
  cases e:(C.ti t).ok with
  | true=>rw[e]at h;exact⟨hC.ok e,h⟩
  | false=>rw[e]at h;exact h.elim
theorem jQ.Mi{C:Ctx}(hC:jQ C){t:Nat}(h:(C.ti t).d ≠ .other):bA C.P t (C.ti t):=by
  rcases hC.ti t with e|e
  · rw[e]at h;exact(h rfl).elim
  · exact e
theorem bA.get{x:TI}(h:bA P t x) :
    ∃i d z,P.info? t=some i/\P.underlying t=some d/\aq d=x.d/\i.size=x.cells/\i.bytes=x.bytes/\i.zero=some z/\ky z=x.zero:=by
  obtain⟨_,_,h1,h2,_⟩:=h
  cases hi:P.info? t with
  | none=>simp[hi]at h1
  | some i=>
    cases hd:P.underlying t with
    | none=>simp[hd]at h2
    | some d=>
      simp only[hi,hd,Option.map_some,Option.some.injEq,Ky,Prod.mk.injEq]at h1 h2;obtain⟨h1a,h1b,h1c⟩:=h1
      cases hz:i.zero with
      | none=>simp[hz]at h1c
      | some z=>
        simp[hz]at h1c;exact⟨i,d,z,rfl,rfl,h2,h1a,h1b,hz,h1c⟩
theorem iE(v:Value):ky v=v.cells.toList:=by cases v <;> simp[ky,Value.cells]
theorem nZ(w:World)(a:Addr):w.cell? a=cellOf w.heap a:=rfl
theorem Mj(w:World)(a:Addr):w.frozen? a=pF w.heap a:=rfl
theorem EI(w:World)(a:Addr)(v:Value):(w.setCell a v).heap=setOf w.heap a v:=rfl
theorem aP.refl(w:World):aP w w:=⟨rfl,rfl,rfl⟩
theorem aP.trans{a b c:World}(h:aP a b)(k:aP b c):aP a c:=⟨k.1.trans h.1,k.2.1.trans h.2.1,k.2.2.trans h.2.2⟩
def To{α:Type}(P:Program)(s:Sem α)(w:World)(k:α->ab->Prop):Prop:=
  ∃v w',s.run P w = .ok v w'/\aP w w'/\k v w'.heap
theorem To.mono{α:Type}{s:Sem α}{k k':α->ab->Prop}(h:To P s w k)(hk:∀ v h,k v h->k' v h):To P s w k':=
  let ⟨v,w',a,b,c⟩:=h;⟨v,w',a,b,hk _ _ c⟩
theorem hU{i:TypeInfo}(h:P.info? t=some i)(w:World):(typeInfo t).run P w = .ok i w:=by
  simp[typeInfo,h]
theorem bI{i:TypeInfo}(h:P.info? t=some i)(w:World):(sizeOf t).run P w = .ok i.size w:=by
  simp[sizeOf,hU h]
def ir : D->Bool
  | .arr _ _=>true
  | .struct _=>true
  | _=>false
theorem mN{d:TypeDesc}(h:P.underlying t=some d)(w:World) :
    (isAgg t).run P w = .ok (ir (aq d)) w:=by
  unfold isAgg;rw[Sem.run_bind,run_underlying h w]
  cases d <;> simp[aq,ir]
theorem kL{ty:Ty}{C K:Value->Prop}(h:OU ty C K):∃v,C v/\K v:=by
  cases ty <;> simp only[OU]at h <;> (first|(obtain⟨a,l,c,h1,h2⟩:=h;exact⟨_,h1,h2⟩)|(obtain⟨a,h1,h2⟩:=h;exact⟨_,h1,h2⟩))
theorem AL{x:TI}(hx:bA P t x){p:Addr}{w:World}{k:Value->Prop}(h:Kr x p w.heap k) :
    ∃v,(loadVar t p).run P w = .ok v w/\k v:=by
  obtain⟨i,d,z,hi,hd,vT,iH,_,_,_⟩:=hx.get;unfold Kr at h;unfold loadVar;have sQ:=mN hd w
  cases hq:aq d with
  | arr n e=>
    rw[<-vT,hq]at h;simp only[D.ty]at h;rw[hq]at sQ;simp only[ir]at sQ;obtain⟨cs,hl,hc,hk⟩:=h;have VK:=run_loadCells_list (P:=P) w p cs (λj v hv=>hc j v hv);refine⟨.agg ⟨cs⟩,?_,hk⟩;simp only[Sem.run_bind,sQ,Result.andThen_ok,if_true,bI hi,iH,<-hl,VK,Sem.run_pure]
  | struct fs=>
    rw[<-vT,hq]at h;simp only[D.ty]at h;rw[hq]at sQ;simp only[ir]at sQ;obtain⟨cs,hl,hc,hk⟩:=h;have VK:=run_loadCells_list (P:=P) w p cs (λj v hv=>hc j v hv);refine⟨.agg ⟨cs⟩,?_,hk⟩;simp only[Sem.run_bind,sQ,Result.andThen_ok,if_true,bI hi,iH,<-hl,VK,Sem.run_pure]
  | bool=>rw[<-vT,hq]at h;simp only[D.ty]at h;rw[hq]at sQ;simp only[ir]at sQ;obtain⟨v,hc,hk⟩:=kL h;exact⟨v,by simp[Sem.run_bind,sQ,nZ,hc],hk⟩
  | int kd=>rw[<-vT,hq]at h;simp only[D.ty]at h;rw[hq]at sQ;simp only[ir]at sQ;obtain⟨v,hc,hk⟩:=kL h;exact⟨v,by simp[Sem.run_bind,sQ,nZ,hc],hk⟩
  | str=>rw[<-vT,hq]at h;simp only[D.ty]at h;rw[hq]at sQ;simp only[ir]at sQ;obtain⟨v,hc,hk⟩:=kL h;exact⟨v,by simp[Sem.run_bind,sQ,nZ,hc],hk⟩
  | ptr e=>rw[<-vT,hq]at h;simp only[D.ty]at h;rw[hq]at sQ;simp only[ir]at sQ;obtain⟨v,hc,hk⟩:=kL h;exact⟨v,by simp[Sem.run_bind,sQ,nZ,hc],hk⟩
  | slice e=>rw[<-vT,hq]at h;simp only[D.ty]at h;rw[hq]at sQ;simp only[ir]at sQ;obtain⟨v,hc,hk⟩:=kL h;exact⟨v,by simp[Sem.run_bind,sQ,nZ,hc],hk⟩
  | fn=>rw[<-vT,hq]at h;simp only[D.ty]at h;rw[hq]at sQ;simp only[ir]at sQ;obtain⟨v,hc,hk⟩:=kL h;exact⟨v,by simp[Sem.run_bind,sQ,nZ,hc],hk⟩
  | map k e=>rw[<-vT,hq]at h;simp only[D.ty]at h;rw[hq]at sQ;simp only[ir]at sQ;obtain⟨v,hc,hk⟩:=kL h;exact⟨v,by simp[Sem.run_bind,sQ,nZ,hc],hk⟩
  | other=>rw[<-vT,hq]at h;simp only[D.ty]at h;rw[hq]at sQ;simp only[ir]at sQ;obtain⟨v,hc,hk⟩:=kL h;exact⟨v,by simp[Sem.run_bind,sQ,nZ,hc],hk⟩
theorem EJ(h:ab)(a b:Addr)(v:Value):(∃u,cellOf h b=some u)->∃u,cellOf (setOf h a v) b=some u:=by
  rintro⟨u,hu⟩;unfold cellOf setOf at *;simp only[Array.getElem?_modify]
  by_cases e:a.block=b.block
  · rw[e];simp only[if_true]
    cases hb:h[b.block]? with
    | none=>rw[hb]at hu;simp at hu
    | some o=>
      rw[hb]at hu
      cases o with
      | cells c t fr=>
        simp only at hu;simp only[Option.map_some]
        cases hs:b.spot with
        | some q=>simp[hs]at hu
        | none=>
          simp[hs]at hu ⊢
          have dh:b.off<c.size:=by
            rcases Nat.lt_or_ge b.off c.size with h1|h1
            · exact h1
            · simp[Array.getElem?_eq_none h1]at hu
          by_cases RE:a.spot.isSome=true
          · simp[RE,dh]
          · simp only[RE]
            simp[dh]
      | _=>simp at hu
  · simp only[if_neg e];exact⟨u,hu⟩
theorem AM(h:ab)(a b:Addr)(v:Value):pF (setOf h a v) b=pF h b:=by
  unfold pF setOf;simp only[Array.getElem?_modify]
  by_cases e:a.block=b.block
  · rw[e];simp only[if_true]
    cases hb:h[b.block]? with
    | none=>simp
    | some o=>cases o <;> simp
  · simp only[if_neg e]
theorem Wr.set{h:ab}{a b:Addr}(v:Value)(hw:Wr h b):Wr (setOf h a v) b:=⟨EJ h a b v hw.1,by rw[AM];exact hw.2⟩
theorem OZ{a:Addr}{v:Value}(hv:v.oneCell'=true)(hw:Wr w.heap a):(store a v).run P w = .ok () (w.setCell a v):=by
  obtain⟨⟨u,hu⟩,hf⟩:=hw;rw[run_store P w a v .plain hv,nZ,hu];simp[Mj,hf]
def O0(w:World)(h:ab):World:={ w with heap:=h }
theorem uD(w:World)(h:ab):aP w (O0 w h):=⟨rfl,rfl,rfl⟩
theorem lZ{P:Program}(a:Addr):∀(cs:LV) (i:Nat) (w:World),(∀v∈cs,v.oneCell'=true)->(∀j,j<cs.length->Wr w.heap (a.add (i+j)))->
    (storeCells a cs i).run P w = .ok () (O0 w (setRow w.heap a cs i))
  | [],i,w,_,_=>rfl
  | v::r,i,w,h1,h2=>by
    have hs:=OZ (P:=P) (w:=w) (a:=a.add i) (h1 v (by simp)) (by simpa using h2 0 (by simp));have ih:=lZ (P:=P) a r (i+1) (w.setCell (a.add i) v) (λx hx=>h1 x (by simp[hx]))
      (λj hj=>by
        rw[EI];have:=h2 (j+1) (by simp;omega);rw[show i+1+j=i+(j+1) by omega]
        exact this.set v)
    simp only[storeCells,Sem.run_bind,hs,Result.andThen_ok,ih];rfl
theorem Gr{x:TI}(hx:bA P t x){p:Addr}{v:Value}{w:World}{k:HP}(h:IE x p v w.heap k) :
    ∃w',(storeVar t p v).run P w = .ok () w'/\aP w w'/\k w'.heap:=by
  obtain⟨i,d,z,hi,hd,vT,iH,_,_,_⟩:=hx.get
  have one:∀u:Value,u.oneCell'=true->u.cells = #[u]->Nat.beq x.cells 1=true->Wr w.heap p->k (setOf w.heap p u)->
      ∃w',(storeVar t p u).run P w = .ok () w'/\aP w w'/\k w'.heap:=by
    intro u hu wO hb hw hk;have Sh:x.cells=1:=Nat.eq_of_beq_eq_true hb
    have hs:=lZ (P:=P) p [u] 0 w (by simpa using hu) (λj hj=>by
      have:j=0:=by simpa using hj
      subst this;simpa[Addr.add]using hw)
    refine⟨O0 w (setRow w.heap p [u] 0),?_,uD w _,?_⟩
    · simp only[storeVar,Sem.run_bind,bI hi,Result.andThen_ok,wO,iH,Sh]
      simp only[List.size_toArray,List.length_cons,List.length_nil];simpa using hs
    · simpa[setRow,O0,Addr.add]using hk
  cases v with
  | agg a=>
    obtain⟨⟨h1,h2,h3⟩,hk⟩:=h
    have hs:=lZ (P:=P) p a.toList 0 w h2 (λj hj=>by
      rw[Nat.zero_add];exact h3 j (by omega))
    refine⟨O0 w (setRow w.heap p a.toList 0),?_,uD w _,?_⟩
    · simp only[storeVar,Sem.run_bind,bI hi,Result.andThen_ok,Value.cells,iH]
      have e:a.size=x.cells:=(by simpa using h1);simp only[e];simpa using hs
    · exact hk
  | tuple a=>exact h.elim
  | _=>
    simp only[IE]at h
    cases hb:Nat.beq x.cells 1 with
    | false=>rw[hb]at h;exact h.elim
    | true=>rw[hb]at h;exact one _ rfl rfl hb h.1 h.2
def Qt{α:Type}(P:Program)(s:Sem α)(k:α->Prop):Prop:=∃v,(∀w:World,s.run P w = .ok v w)/\k v
theorem lA{a b:IntKind}(h:kz a b=true):a=b:=by cases a <;> cases b <;> first|rfl|(simp[kz]at h)
theorem KC{op:BinOp}{kd:IntKind}{a b:Int}{k:Value->Prop}(hs:qn op=false)(h:Gk op kd a b k) :
    Qt P (binOp op t (.int kd a) (.int kd b)) k:=by
  cases op with
  | shl=>simp[qn]at hs
  | shr=>simp[qn]at hs
  | add=>exact⟨_,by simp[Op.intArith,binOp],h⟩
  | sub=>exact⟨_,by simp[Op.intArith,binOp],h⟩
  | mul=>exact⟨_,by simp[Op.intArith,binOp],h⟩
  | quo=>
    by_cases hb:b=0
    · simp[Gk,hb]at h
    · simp only[Gk,if_neg hb]at h
      exact⟨_,by simp[Op.intDiv,binOp,hb],h⟩
  | rem=>
    by_cases hb:b=0
    · simp[Gk,hb]at h
    · simp only[Gk,if_neg hb]at h
      exact⟨_,by simp[Op.intDiv,binOp,hb],h⟩
  | eql=>exact⟨_,by simp[Op.intCmp,binOp],h⟩
  | neq=>exact⟨_,by simp[Op.intCmp,binOp],h⟩
  | lss=>exact⟨_,by simp[Op.intCmp,binOp],h⟩
  | leq=>exact⟨_,by simp[Op.intCmp,binOp],h⟩
  | gtr=>exact⟨_,λw=>by simp only[Op.intCmp,binOp];simp,h⟩
  | geq=>exact⟨_,λw=>by simp only[Op.intCmp,binOp];simp,h⟩
  | and=>exact⟨_,by simp[Op.intBits,binOp,oo],h⟩
  | or=>exact⟨_,by simp[Op.intBits,binOp,oo],h⟩
  | xor=>exact⟨_,by simp[Op.intBits,binOp,oo],h⟩
  | andNot=>exact⟨_,by simp[Op.intBits,binOp,oo],h⟩
theorem Dc{op:BinOp}{kd EA:IntKind}{a b:Int}{k:Value->Prop}(h:tj op kd a b k) :
    Qt P (binOp op t (.int kd a) (.int EA b)) k:=by
  cases op with
  | shl=>
    by_cases hb:b<0
    · simp[tj,hb]at h
    · simp only[tj,if_neg hb]at h
      exact⟨_,λw=>by simp only[binOp,Op.shift];rw[if_neg hb];rfl,h⟩
  | shr=>
    by_cases hb:b<0
    · simp[tj,hb]at h
    · simp only[tj,if_neg hb]at h
      exact⟨_,λw=>by simp only[binOp,Op.shift];rw[if_neg hb];rfl,h⟩
  | _=>exact h.elim
theorem KD{op:BinOp}{a b:ByteArray}{k:Value->Prop}(h:XR op a b k) :
    Qt P (binOp op t (.string a) (.string b)) k:=by
  cases op with
  | add=>
    obtain⟨h1,h2⟩:=h;refine⟨_,λw=>?_,h2⟩;have e:IntKind.max .i64=9223372036854775807:=(by decide);simp only[binOp,Op.stringOp];rw[if_neg (by rw[e];omega)];rfl
  | eql=>exact⟨_,by simp[Op.stringOp,binOp],h⟩
  | neq=>exact⟨_,by simp[Op.stringOp,binOp],h⟩
  | lss=>exact⟨_,by simp[Op.stringOp,binOp],h⟩
  | leq=>exact⟨_,by simp[Op.stringOp,binOp],h⟩
  | gtr=>exact⟨_,λw=>by simp only[Op.stringOp,binOp];rfl,h⟩
  | geq=>exact⟨_,λw=>by simp only[Op.stringOp,binOp];rfl,h⟩
  | _=>exact h.elim
theorem y'{op:BinOp}{b:Bool}{k:Value->Prop}(h:Ξ op b k)
    (he:∀w:World,(Op.equal t x y).run P w = .ok b w) (h1:binOp .eql t x y=(do Pure.pure (.bool (<-Op.equal t x y)))) (h2:binOp .neq t x y=(do Pure.pure (.bool (!(<-Op.equal t x y))))) :
    Qt P (binOp op t x y) k:=by
  cases op with
  | eql=>exact⟨_,λw=>by rw[h1];simp[he],h⟩
  | neq=>exact⟨_,λw=>by rw[h2];simp[he],h⟩
  | _=>exact h.elim
theorem nC{d:TypeDesc}(hd:P.underlying t=some d){x y:Value}{b:Bool}
    (h:(match d,x,y with
      | .bool,.bool a,.bool c=>b=(a==c)
      | .pointer _,.pointer none,.pointer q=>b=q.isNone
      | .pointer _,.pointer (some _),.pointer none=>b=false
      | .slice _,.slice none _ _,.slice q _ _=>b=q.isNone
      | .slice _,.slice (some _) _ _,.slice none _ _=>b=false
      | .func _ _ _,.nilFunc,.nilFunc=>b=true
      | .func _ _ _,.func _ _ _,.nilFunc=>b=false
      | _,_,_=>False)):∀w:World,(Op.equal t x y).run P w = .ok b w:=by
  intro w;unfold Op.equal Op.maxDepth;rw[show(10000:Nat)=9999+1 from rfl];unfold Op.equalIn;rw[Sem.run_bind,run_underlying hd w];simp only[Result.andThen_ok]
  split at h <;> first|(subst h;rfl)|exact h.elim
theorem Si{d:TypeDesc}(hd:P.underlying t=some d){op:BinOp}{x y:Value}{k:Value->Prop}(h:qS (aq d) op x y k) :
    Qt P (binOp op t x y) k:=by
  by_cases hf:aq d = .fn
  · rw[hf]at h
    cases d <;> simp[aq]at hf
    simp only[qS]at h
    cases y <;> try exact h.elim
    obtain⟨h1,h2⟩:=h
    cases x <;> simp[VF]at h1
    · exact y' h2 (nC hd rfl) rfl rfl
    · exact y' h2 (nC hd rfl) rfl rfl
  · cases x with
    | int kd a=>
      cases y with
      | int EA b=>
        have h':bif qn op then tj op kd a b k else bif kz kd EA then Gk op kd a b k else False:=by
          unfold qS at h;split at h
          · exact(hf (by assumption)).elim
          · exact h
        cases hs:qn op with
        | true=>rw[hs]at h';exact Dc h'
        | false=>
          rw[hs]at h'
          cases hk:kz kd EA with
          | false=>rw[hk]at h';exact h'.elim
          | true=>rw[hk]at h';obtain rfl:=lA hk;exact KC hs h'
      | _=>unfold qS at h;split at h <;> first|exact(hf (by assumption)).elim|exact h.elim
    | string a=>
      cases y with
      | string b=>unfold qS at h;split at h <;> first|exact(hf (by assumption)).elim|exact KD h
      | _=>unfold qS at h;split at h <;> first|exact(hf (by assumption)).elim|exact h.elim
    | bool a=>
      cases y with
      | bool b=>
        unfold qS at h;split at h
        · exact(hf (by assumption)).elim
        · cases d <;> simp[aq]at h
          exact y' h (nC hd rfl) rfl rfl
      | _=>unfold qS at h;split at h <;> first|exact(hf (by assumption)).elim|exact h.elim
    | pointer a=>
      cases y with
      | pointer b=>
        unfold qS at h;split at h
        · exact(hf (by assumption)).elim
        · cases b with
          | some q=>exact h.elim
          | none=>
            cases d <;> simp[aq]at h
            cases a with
            | none=>exact y' h (nC hd rfl) rfl rfl
            | some p=>exact y' h (nC hd rfl) rfl rfl
      | _=>unfold qS at h;split at h <;> first|exact(hf (by assumption)).elim|exact h.elim
    | slice a l c=>
      cases y with
      | slice b l' c'=>
        unfold qS at h;split at h
        · exact(hf (by assumption)).elim
        · cases b with
          | some q=>exact h.elim
          | none=>
            cases d <;> simp[aq]at h
            cases a with
            | none=>exact y' h (nC hd rfl) rfl rfl
            | some p=>exact y' h (nC hd rfl) rfl rfl
      | _=>unfold qS at h;split at h <;> first|exact(hf (by assumption)).elim|exact h.elim
    | _=>unfold qS at h;split at h <;> first|exact(hf (by assumption)).elim|exact h.elim
theorem X0{op:UnOp}{k:Value->Prop}(h:unX op x k):Qt P (Op.unary op x) k:=by
  cases op with
  | not=>cases x <;> first|exact h.elim|exact⟨_,λ_=>rfl,h⟩
  | neg=>cases x <;> first|exact h.elim|exact⟨_,λ_=>rfl,h⟩
  | xor=>cases x <;> first|exact h.elim|exact⟨_,λ_=>rfl,h⟩
  | plus=>cases x <;> exact h.elim
def yn(a b:Value):Bool:=
  match a,b with
  | .nilIface,.nilIface=>false
  | .agg _,.agg _=>false
  | _,_=>true
theorem Gs{op:BinOp}{x y:Operand}{a b:Value}(h:yn a b=true) :
    (eqGuard op t x y a b).run P w = .ok () w:=by
  have key:∀c:Bool,(if c=true then(Pure.pure ():Sem Unit)else Pure.pure ()).run P w = .ok () w:=λc=>by cases c <;> rfl
  unfold eqGuard
  cases a <;> cases b <;> first|exact key _|(simp[yn]at h;done)
theorem IG{d:D}{op:BinOp}{k:Value->Prop}(h:qS d op x y k):yn x y=true:=by
  unfold qS at h
  cases x <;> cases y <;> first|rfl|(split at h <;> exact h.elim)
theorem qV(n s:Nat):scale n s=n*s:=by
  unfold scale
  cases h:Nat.beq s 1 with
  | false=>rfl
  | true=>have:=Nat.eq_of_beq_eq_true h;subst this;simp
theorem Addr.add_zero(a:Addr):a.add 0=a:=by simp[Addr.add]
theorem vB(z:LV)(n:Nat):(List.range (n*z.length)).map (λi=>z[i%z.length]!)=(List.replicate n z).flatten:=by
  by_cases hz:z.length=0
  · have:z=[]:=List.eq_nil_of_length_eq_zero hz
    subst this
    induction n with
    | zero=>rfl
    | succ n ih=>simp
  · induction n with
    | zero=>simp
    | succ n ih=>
      have e:(List.replicate (n+1) z).flatten=(List.replicate n z).flatten++z:=by
        rw[List.replicate_succ',List.flatten_append];simp
      rw[e,<-ih,Nat.add_mul,Nat.one_mul,List.range_add,List.map_append,List.map_map];congr 1;apply List.ext_getElem?;intro i;simp only[List.getElem?_map]
      by_cases hi:i<z.length
      · simp[hi,Nat.mod_eq_of_lt hi]
      · simp[hi]
theorem ot(z:LV)(n:Nat):aW z n=(List.replicate n z).flatten:=by
  unfold aW
  split
  · rename_i v
    induction n with
    | zero=>rfl
    | succ n ih=>rw[List.replicate_succ,ih,List.replicate_succ,List.flatten_cons];rfl
  · rfl
theorem Dd(z:Array Value)(i:Nat):z[i]! = z[i]?.getD default:=by simp[getElem!_def];split <;> simp_all
theorem xa(z:Value)(n:Nat):Builtin.zeroCells z.cells n=⟨aW (ky z) n⟩:=by
  apply Array.ext';rw[ot,iE,<-vB];simp only[Builtin.zeroCells,Array.toList_map,Array.toList_range,Array.length_toList];apply List.map_congr_left;intro i _;simp[Dd]
theorem xc(z:Value)(n:Nat):madeCells z.cells (n*z.cells.size)=⟨aW (ky z) n⟩:=by
  apply Array.ext';rw[ot,iE,<-vB];simp only[madeCells,Array.toList_map,Array.toList_range,Array.length_toList];apply List.map_congr_left;intro i _;simp[Dd]
theorem j6(z:LV)(n:Nat):(aW z n).length=n*z.length:=by
  rw[ot]
  induction n with
  | zero=>simp
  | succ n ih=>rw[List.replicate_succ,List.flatten_cons,List.length_append,ih,Nat.add_mul,Nat.one_mul,Nat.add_comm]
theorem O1{x:TI}(ht:∃ d,P.underlying t=some d/\aq d = .slice e)(hx:bA P e x){kl kc:IntKind}{l c:Int}{w:World}{k:KT}
    (h:VG x e l c w.heap k):To P (Instr.makeSlice t (.int kl l) (.int kc c)) w k:=by
  obtain⟨i,d,z,hi,hd,vT,iH,hb,hz,EK⟩:=hx.get;obtain⟨dt,AN,CB⟩:=ht;have hu:P.underlying t=some (.slice e):=by cases dt <;> simp[aq]at CB;subst CB;exact AN
  obtain⟨⟨h0,h1,h2,h3⟩,hk⟩:=h;have hr:=run_make (P:=P) w t e i z hu hi hz kl kc l c h0 h1 (by rw[hb];exact h2) (by omega)
  have hl:z.cells.size=i.size:=by
    have:=hx.len;rw[<-EK,iE]at this;rw[iH,<-this];simp
  rw[<-hl,xc,EK]at hr;exact⟨_,_,hr,⟨rfl,rfl,rfl⟩,hk⟩
def CC(o:Option (IntKind×Int)):Option Value:=o.map λp=>.int p.1 p.2
def ins(o:Option (IntKind×Int)):Option Int:=o.map (·.2)
theorem iF(kd:IntKind)(i:Int)(y:Nat)(code:BoundsCode)(h0:0<=i)(h1:i<=(y:Int)) :
    (Instr.sliceBound (.int kd i) y code).run P w = .ok i.toNat w:=by
  simp[Instr.sliceBound,asIntOf,h0,h1]
theorem Gt{isS:Bool}{a:OA}{len size:Nat}{lo hi mx:Option (IntKind×Int)}{k:Value->Prop}
    (h:OV a len cap size (ins lo) (ins hi) (ins mx) k) :
    ∃l u m,(∀w:World,(Instr.sliceBounds isS len cap (CC lo) (CC hi) (CC mx)).run P w = .ok (l,u,m) w)/\k (.slice (if m=l then a else a.map (·.add (l*size))) (u-l) (m-l)):=by
  have II:∀m:Nat,(if m=0 then a else a.map (·.add (0*size)))=a:=λm=>by
    split
    · rfl
    · cases a <;> simp[Addr.add]
  have hid':∀m:Nat,(if m=0 then a else a.map (·.add 0))=a:=λm=>by
    split
    · rfl
    · cases a <;> simp[Addr.add]
  rcases lo with _|⟨kl,l⟩ <;> rcases hi with _|⟨kh,u⟩ <;> rcases mx with _|⟨km,m⟩ <;> simp only[OV,ins,Option.map_none,Option.map_some]at h
  · refine⟨0,len,cap,by simp[Instr.sliceBounds,CC],?_⟩
    rw[II];simpa using h
  · obtain⟨⟨h0,h1⟩,hk⟩:=h
    refine⟨0,u.toNat,cap,by simp[Instr.sliceBounds,CC,iF kh u cap _ h0 h1],?_⟩;rw[II];simpa using hk
  · obtain⟨⟨h0,h1,h2⟩,hk⟩:=h
    have e1:=λw=>iF (P:=P) (w:=w) km m cap (if isS then .slice3Acap else .slice3Alen) (by omega) h2;have e2:=λw=>iF (P:=P) (w:=w) kh u m.toNat .slice3B h0 (by omega);refine⟨0,u.toNat,m.toNat,by simp[Instr.sliceBounds,CC,e1,e2],?_⟩;rw[II];simpa using hk
  · obtain⟨⟨h0,h1⟩,hk⟩:=h
    refine⟨l.toNat,len,cap,by simp[Instr.sliceBounds,CC,iF kl l len _ h0 h1],?_⟩;simpa[qT,qV]using hk
  · obtain⟨⟨h0,h1,h2⟩,hk⟩:=h
    have e1:=λw=>iF (P:=P) (w:=w) kh u cap (if isS then .sliceAcap else .sliceAlen) (by omega) h2;have e2:=λw=>iF (P:=P) (w:=w) kl l u.toNat .sliceB h0 (by omega);refine⟨l.toNat,u.toNat,cap,by simp[Instr.sliceBounds,CC,e1,e2],?_⟩;simpa[qT,qV]using hk
  · obtain⟨⟨h0,h1,h2,h3⟩,hk⟩:=h
    have e1:=λw=>iF (P:=P) (w:=w) km m cap (if isS then .slice3Acap else .slice3Alen) (by omega) h3;have e2:=λw=>iF (P:=P) (w:=w) kh u m.toNat .slice3B (by omega) (by omega);have e3:=λw=>iF (P:=P) (w:=w) kl l u.toNat .slice3C h0 (by omega);refine⟨l.toNat,u.toNat,m.toNat,by simp[Instr.sliceBounds,CC,e1,e2,e3],?_⟩;simpa[qT,qV]using hk
theorem IJ{lo hi mx:Option (IntKind×Int)}{k:Value->Prop}(h:IF s (ins lo) (ins hi) (ins mx) k) :
    mx=none/\∃l u m,(∀w:World,(Instr.sliceBounds false s.size s.size (CC lo) (CC hi) none).run P w = .ok (l,u,m) w)/\k (.string (s.extract l u)):=by
  rcases lo with _|⟨kl,l⟩ <;> rcases hi with _|⟨kh,u⟩ <;> rcases mx with _|⟨km,m⟩ <;> simp only[IF,ins,Option.map_none,Option.map_some]at h <;> first|exact h.elim|refine⟨rfl,?_⟩
  · refine⟨0,s.size,s.size,by simp[Instr.sliceBounds,CC],?_⟩
    rw[ByteArray.extract_zero_size];exact h
  · obtain⟨⟨h0,h1⟩,hk⟩:=h
    exact⟨0,u.toNat,s.size,by simp[Instr.sliceBounds,CC,iF kh u s.size _ h0 h1],hk⟩
  · obtain⟨⟨h0,h1⟩,hk⟩:=h
    exact⟨l.toNat,s.size,s.size,by simp[Instr.sliceBounds,CC,iF kl l s.size _ h0 h1],hk⟩
  · obtain⟨⟨h0,h1,h2⟩,hk⟩:=h
    have e1:=λw=>iF (P:=P) (w:=w) kh u s.size .sliceAlen (by omega) h2;have e2:=λw=>iF (P:=P) (w:=w) kl l u.toNat .sliceB h0 (by omega);exact⟨l.toNat,u.toNat,s.size,by simp[Instr.sliceBounds,CC,e1,e2],hk⟩
theorem De{d:TypeDesc}(hd:P.underlying t=some d){size:Nat}
    (he:∀e,(aq d = .slice e∨∃n,aq d = .arr n e)->∃i,P.info? e=some i/\i.size=size) {x:Value} {lo hi mx:Option (IntKind×Int)} {k:Value->Prop}
    (h:EB (aq d) size x (ins lo) (ins hi) (ins mx) k):Qt P (Instr.sliceAt t x (CC lo) (CC hi) (CC mx)) k:=by
  cases d with
  | string=>
    cases x <;> try exact h.elim
    rename_i s;obtain⟨rfl,l,u,m,hr,hk⟩:=IJ (P:=P) h;refine⟨_,λw=>?_,hk⟩;simp only[Instr.sliceAt,Instr.slice,Sem.run_bind,run_underlying hd,Result.andThen_ok];simp[CC]at hr ⊢;simp[hr]
  | slice e=>
    cases x <;> try exact h.elim
    rename_i a l c;obtain⟨i,oK,hs⟩:=he e (.inl rfl);obtain⟨l',u,m,hr,hk⟩:=Gt (P:=P) (isS:=true) h;refine⟨_,λw=>?_,hk⟩;simp only[Instr.sliceAt,Instr.slice,Sem.run_bind,run_underlying hd,Result.andThen_ok,hr,bI oK,hs,Sem.run_pure]
  | array n e=>
    cases x <;> try exact h.elim
    rename_i q
    cases q with
    | none=>exact h.elim
    | some p=>
      obtain⟨i,oK,hs⟩:=he e (.inr ⟨n,rfl⟩);obtain⟨l',u,m,hr,hk⟩:=Gt (P:=P) (isS:=false) (show OV (some p) n n size (ins lo) (ins hi) (ins mx) k from h);refine⟨_,λw=>?_,hk⟩;simp only[Instr.sliceAt,Instr.sureAddr,Sem.run_bind,run_underlying hd,Result.andThen_ok,hr,bI oK,hs,Sem.run_pure];congr 2
      split <;> simp
  | _=>cases x <;> exact h.elim
theorem mn{size:Nat}{b:OA}{len:Nat}{cs:LV}(hl:cs.length=n*size)(h:ag w.heap b cs) :
    (Builtin.firstCells size n (.slice b len cap)).run P w = .ok ⟨cs⟩ w:=by
  cases b with
  | none=>
    have:cs=[]:=h;subst this;simp[Builtin.firstCells]
  | some p=>exact run_firstCells_some (P:=P) w size n p len cap cs hl (λj v hv=>h j v hv)
theorem tv :
    (Builtin.firstCells 1 n (.string s)).run P w = .ok ⟨(s.toList.take n).map bv⟩ w:=by
  simp only[Builtin.firstCells,Sem.run_pure];congr 1;apply Array.ext';simp[ByteArray.toList_eq];rfl
structure Src(P:Program)(size:Nat)(x:Value)(h:ab)(n:Nat)(new:LV):Prop where
  len:∀w:World,w.heap=h->(Builtin.lenOf x).run P w = .ok n w
  cells:∀w:World,w.heap=h->(Builtin.firstCells size n x).run P w = .ok ⟨new⟩ w
  length:new.length=n*size
  one:∀v∈new,v.oneCell'=true
theorem Sj{x:TI}{v:Value}{h:ab}{k:Nat->LV->Prop}(hk:Sg x h v k):∃n new,Src P x.cells v h n new/\k n new:=by
  cases v <;> try exact hk.elim
  · rename_i s
    unfold Sg at hk
    cases hb:Nat.beq x.cells 1 with
    | false=>simp[hb]at hk
    | true=>
      have e:x.cells=1:=Nat.eq_of_beq_eq_true hb;simp[hb]at hk;refine⟨_,_,⟨λw _=>rfl,λw _=>?_,?_,?_⟩,hk⟩
      · rw[e]
        have:=tv (P:=P) (w:=w) (s:=s) (n:=s.size);have hl:s.toList.length=s.size:=(by rw[ByteArray.toList_eq];simp);rw[List.take_of_length_le (by omega)]at this;exact this
      · rw[e,ByteArray.toList_eq];simp
      · intro v hv
        obtain⟨b,_,rfl⟩:=List.mem_map.1 hv;rfl
  · rename_i b n c
    obtain⟨new,h1,h2,h3,hk⟩:=hk;exact⟨n,new,⟨λw _=>rfl,λw hw=>mn h1 (hw▸h2),h1,h3⟩,hk⟩
theorem Mk{ty:Nat}{x:TI}(ht:∃ d,P.underlying t=some d/\aq d = .slice e)(Cu:(∃ e',P.underlying t'=some (.slice e'))∨P.underlying t'=some .string)
    (hx:bA P e x) {a:OA} {l c n:Nat} {v:Value} {new:LV} {w:World} {k:OA->Nat->Nat->ab->Prop} (hs:Src P x.cells v w.heap n new)
    (h:aw x e a l c n new w.heap k):To P (Builtin.append_ #[t,t'] ty #[.slice a l c,v]) w λr h'=>∃a' l' c',r = .slice a' l' c'/\k a' l' c' h':=by
  obtain⟨i,d,z,hi,hd,vT,iH,hb,hz,EK⟩:=hx.get;obtain⟨dt,AN,CB⟩:=ht;have hu:P.underlying t=some (.slice e):=by cases dt <;> simp[aq]at CB;subst CB;exact AN
  obtain⟨Db,ho,hoc,AO,hlen,IK,aaT⟩:=h
  by_cases hc:l+n<=c
  · obtain⟨hwr,hk⟩:=IK hc
    have pH:∃w',(match a with|some a=>storeCells (a.add (l*i.size)) new|none=>Pure.pure ():Sem Unit).run P w = .ok () w'/\aP w w'/\w'.heap=wW w.heap a (l*x.cells) new:=by
      cases a with
      | none=>exact⟨w,rfl,.refl _,rfl⟩
      | some p=>
        have:=lZ (P:=P) (p.add (l*x.cells)) new 0 w hs.one (λj hj=>by
          rw[Nat.zero_add];exact hwr j (by rw[<-hs.length];exact hj))
        exact⟨_,by rw[iH];exact this,uD _ _,rfl⟩
    obtain⟨w',h1,h2,h3⟩:=pH;refine⟨.slice a (l+n) c,w',?_,h2,a,l+n,c,rfl,by rw[h3];exact hk⟩;have wO:=hs.cells w rfl;rw[<-iH]at wO
    rcases Cu with⟨e',Cu⟩|Cu
    all_goals
      simp only[Builtin.append_,List.getElem?_toArray,List.getElem?_cons_zero,List.getElem?_cons_succ,Sem.run_bind,run_underlying hu,run_underlying Cu,Result.andThen_ok,bI hi,Sem.run_pure,Bool.false_eq_true,if_false,Bool.not_false,if_true,hs.len w rfl,Sem.run_ite,if_pos hc,wO]
      cases a with
      | none=>simp at h1 ⊢;exact h1
      | some p=>simp only at h1;simp[h1]
  · have hg:c<l+n:=by omega
    have hk:=aaT hg;have hfits:=growslice_fits (bytes:=i.bytes) hg (by rw[hb];exact AO)
    have h48:¬(Builtin.nextslicecap (l+n) c*i.bytes>2 ^ 48):=by
      have e:(2:Nat) ^ 48=281474976710656:=(by decide);rw[e];omega
    have h63:¬(((l+n:Nat):Int)>IntKind.i64.max/\(false=true∨i.bytes=0)):=by
      have e:IntKind.max .i64=9223372036854775807:=(by decide);rw[e];omega
    let w1:World:={ w with drawn:=w.drawn+1 }
    let cap:=(Question.appendCap (l+n) c e).cut (w.tape w.drawn (Question.appendCap (l+n) c e))
    have qW:l+n<=cap:=(by show l+n<=Question.cut _ _;simp[Question.cut]);have wO:=hs.cells w1 rfl;rw[<-iH]at wO;have hos:=mn (P:=P) (w:=w1) (size:=i.size) (n:=l) (len:=l) (cap:=c) (by rw[iH];exact ho) hoc;refine⟨.slice (some ⟨w.heap.size,0,none⟩) (l+n) cap,w1.alloc (.cells ⟨Db++new++aW x.zero (cap-(l+n))⟩ e),?_,⟨rfl,rfl,rfl⟩,_,_,_,rfl,hk cap qW⟩;have X1:(zeroValue e).run P w1 = .ok z w1:=(by simp[zeroValue,hU hi,hz]);have Φ:(choose (Question.appendCap (l+n) c e)).run P w = .ok cap w1:=by simp[Question.forced,w1,cap]
    rcases Cu with⟨e',Cu⟩|Cu
    all_goals
      simp only[Builtin.append_,List.getElem?_toArray,List.getElem?_cons_zero,List.getElem?_cons_succ,Sem.run_bind,run_underlying hu,run_underlying Cu,Result.andThen_ok,bI hi,Sem.run_pure,Bool.false_eq_true,if_false,Bool.not_false,if_true,hs.len w rfl,Sem.run_ite,if_neg hc,hU hi,if_neg h48];rw[if_neg (by simpa using h63)];simp only[Sem.run_bind,Result.andThen_ok,Φ,run_askRoom,hos,wO,X1,newRow,run_newObj,Sem.run_pure,xa,EK];congr 2;simp
theorem KE(a:OA)(o:Nat)(new:LV)(h1:∀ v ∈ new,v.oneCell'=true)(h2:Om w.heap a o new.length) :
    ∃w',(match a with|some a=>storeCells (a.add o) new|none=>Pure.pure ():Sem Unit).run P w = .ok () w'/\aP w w'/\w'.heap=wW w.heap a o new:=by
  cases a with
  | none=>exact⟨w,rfl,.refl _,rfl⟩
  | some p=>
    have:=lZ (P:=P) (p.add o) new 0 w h1 (λj hj=>by rw[Nat.zero_add];exact h2 j hj);exact⟨_,this,uD _ _,rfl⟩
theorem O2{ty:Nat}{x:TI}(ht:∃ d,P.underlying t=some d/\aq d = .slice e)
    (hx:bA P e x) {a:OA} {n c:Nat} {w:World} {k:HP}
    (h:EC x a n w.heap k):To P (Builtin.clear_ #[t] ty #[.slice a n c]) w λr h'=>r = .tuple #[]/\k h':=by
  obtain⟨i,d,z,hi,hd,vT,iH,hb,hz,EK⟩:=hx.get;obtain⟨dt,AN,CB⟩:=ht;have hu:P.underlying t=some (.slice e):=by cases dt <;> simp[aq]at CB;subst CB;exact AN
  obtain⟨h1,h2,h3⟩:=h;have X1:(zeroValue e).run P w = .ok z w:=by simp[zeroValue,hU hi,hz]
  have Sh:∀v∈x.zero,v.oneCell'=true:=by
    cases hb:x.zero.all Value.oneCell' with
    | true=>exact List.all_eq_true.1 hb
    | false=>rw[hb]at h1;exact h1.elim
  have hrep:∀v∈aW x.zero n,v.oneCell'=true:=by
    intro v hv;unfold aW at hv
    split at hv
    · rename_i u hu;exact Sh v (by rw[hu];simp[List.eq_of_mem_replicate hv])
    · obtain⟨l,hl,hv⟩:=List.mem_flatten.1 hv
      rw[List.eq_of_mem_replicate hl]at hv;exact Sh v hv
  have hlen:(aW x.zero n).length=n*x.cells:=by rw[j6,hx.len]
  cases a with
  | none=>exact⟨.tuple #[],w,by simp[Builtin.clear_,run_underlying hu],⟨rfl,rfl,rfl⟩,rfl,h3⟩
  | some p=>
    cases n with
    | zero=>
      refine⟨.tuple #[],w,by simp[Builtin.clear_,run_underlying hu],⟨rfl,rfl,rfl⟩,rfl,?_⟩;have e0:aW x.zero 0=[]:=List.eq_nil_of_length_eq_zero (by rw[hlen,Nat.zero_mul]);rw[e0]at h3;exact h3
    | succ n=>
      obtain⟨w',O3,VL,Ψ⟩:=KE (P:=P) (w:=w) (some p) 0 (aW x.zero (n+1)) hrep (by rw[hlen];exact h2);simp only[Addr.add_zero]at O3;refine⟨.tuple #[],w',?_,VL,rfl,by rw[Ψ];exact h3⟩;simp[Builtin.clear_,run_underlying hu,X1,xa,EK,O3]
theorem Sn{ty:Nat}{x:TI}(ht:∃ d,P.underlying t=some d/\aq d = .slice e)
    (hx:bA P e x) {a:OA} {n c:Nat} {v:Value} {w:World} {k:Nat->ab->Prop}
    (h:qU x a n v w.heap k):To P (Builtin.copy_ #[t,t'] ty #[.slice a n c,v]) w λr h'=>∃m:Nat,r = .int .i64 (m:Int)/\k m h':=by
  obtain⟨i,d,z,hi,hd,vT,iH,hb,hz,EK⟩:=hx.get;obtain⟨dt,AN,CB⟩:=ht;have hu:P.underlying t=some (.slice e):=by cases dt <;> simp[aq]at CB;subst CB;exact AN
  have key:∀(m:Nat) (new:LV),(∀w':World,w'.heap=w.heap->(Builtin.lenOf v).run P w' = .ok m w')->
      (∀w':World,w'.heap=w.heap->(Builtin.firstCells x.cells (min m n) v).run P w' = .ok ⟨new⟩ w')->(∀u∈new,u.oneCell'=true)->Om w.heap a 0 new.length->k (min m n) (wW w.heap a 0 new)->
      To P (Builtin.copy_ #[t,t'] ty #[.slice a n c,v]) w λr h'=>∃m:Nat,r = .int .i64 (m:Int)/\k m h':=by
    intro m new hl hc h1 hw hk;obtain⟨w',O3,VL,Ψ⟩:=KE (P:=P) (w:=w) a 0 new h1 hw;refine⟨.int .i64 ((min m n:Nat):Int),w',?_,VL,min m n,rfl,by rw[Ψ];exact hk⟩;have wO:=hc w rfl;rw[<-iH]at wO;have e:Nat.min m n=min m n:=rfl
    cases a with
    | none=>
      simp only[Sem.run_pure,Result.ok.injEq,true_and]at O3;subst O3;simp[Builtin.copy_,run_underlying hu,hl w rfl,bI hi,e,wO,goInt]
    | some p=>
      simp only[Addr.add_zero]at O3;simp[Builtin.copy_,run_underlying hu,hl w rfl,bI hi,e,wO,O3,goInt]
  cases v <;> try exact h.elim
  · rename_i s
    obtain⟨hb1,hw,hk⟩:=h
    have e1:x.cells=1:=by
      cases X2:Nat.beq x.cells 1 with
      | true=>exact Nat.eq_of_beq_eq_true X2
      | false=>simp[X2]at hb1
    refine key s.size ((s.toList.take (min s.size n)).map bv) (λw' _=>rfl) (λw' _=>?_) ?_ ?_ hk
    · rw[e1];exact tv
    · intro u hu
      obtain⟨b,_,rfl⟩:=List.mem_map.1 hu;rfl
    · have hl:s.toList.length=s.size:=by rw[ByteArray.toList_eq];simp
      have:((s.toList.take (min s.size n)).map bv).length=min s.size n:=(by simp[hl]);rw[this];exact hw
  · rename_i b m c'
    obtain⟨new,hl,hc,h1,hw,hk⟩:=h;refine key m new (λw' _=>rfl) (λw' Df=>mn hl (Df▸hc)) h1 ?_ hk;rw[hl];exact hw
theorem Ml(v:LV):∀(off j:Nat) (cells:Array Value),off+j+v.length<=cells.size->
    ((v.zipIdx j).foldl (λcs (p:Value×Nat)=>cs.setIfInBounds (off+p.2) p.1) cells).toList=cells.toList.take (off+j)++v++cells.toList.drop (off+j+v.length):=by
  induction v with
  | nil=>intro off j cells _;simp
  | cons x r ih=>
    intro off j cells hl;simp only[List.length_cons]at hl;simp only[List.zipIdx_cons,List.foldl_cons];rw[ih off (j+1) _ (by simp;omega)];have dh:off+j<cells.toList.length:=(by simp;omega);simp only[Array.toList_setIfInBounds,<-Nat.add_assoc];have e:=list_seg_step cells.toList (off+j) x r (by simp;omega);simpa[Nat.add_assoc,Nat.add_comm,Nat.add_left_comm]using e
def mO(place:Nat->Option (Nat×Nat))(l:LV)(q:Nat×Value):LV:=
  match place q.1 with|some (off,size)=>l.take off++ky q.2++l.drop (off+size)|none=>l
theorem KF(place:Nat->Option (Nat×Nat))(Z:LV):∀(parts:List (Nat×Value)) (cells:Array Value),cells.size=Z.length->
    (∀q∈parts,∃off size,place q.1=some (off,size)/\q.2.cells.size=size/\off+size<=Z.length)->
    ∃IL,Instr.fill place cells parts=some IL/\IL.size=Z.length/\
      IL.toList=parts.foldl (mO place) cells.toList
  | [],cells,hs,_=>⟨cells,rfl,hs,rfl⟩
  | (i,v)::r,cells,hs,h=>by
    obtain⟨off,size,hp,hv,hle⟩:=h (i,v) (by simp);simp only at hp hv;have aaW:off+v.cells.size<=cells.size:=(by rw[hs,hv];exact hle);have hf:=Ml v.cells.toList off 0 cells (by simpa using aaW);simp only[Nat.add_zero]at hf
    have e1:(v.cells.zipIdx.foldl (λcs (p:Value×Nat)=>cs.setIfInBounds (off+p.2) p.1) cells)=(v.cells.toList.zipIdx.foldl (λcs (p:Value×Nat)=>cs.setIfInBounds (off+p.2) p.1) cells):=by
      rw[<-Array.foldl_toList,Array.toList_zipIdx]
    have hsz':(v.cells.zipIdx.foldl (λcs (p:Value×Nat)=>cs.setIfInBounds (off+p.2) p.1) cells).size=Z.length:=by
      rw[e1,<-Array.length_toList,hf];simp only[List.length_append,List.length_take,List.length_drop,Array.length_toList];omega
    obtain⟨c',h1,h2,h3⟩:=KF place Z r _ hsz' (λq hq=>h q (by simp[hq]));refine⟨c',?_,h2,?_⟩
    · simp only[Instr.fill,hp]
      rw[if_neg]
      · exact h1
      · simp only[Bool.or_eq_true,decide_eq_true_eq,not_or,ne_eq,Decidable.not_not,Nat.not_lt]
        exact⟨hv,aaW⟩
    · rw[h3,e1,hf]
      simp only[List.foldl_cons,mO,hp,iE];rw[<-hv];simp
theorem Dg : ∀xs:List LV,oG xs=xs.flatten
  | []=>rfl
  | [x]=>by simp[oG]
  | x::y::r=>by
    show x++oG (y::r)=_;rw[Dg (y::r)];simp
def tw(f:Fr)(x:Operand):Option Value:=
  match x with| .tmp t=>Fr.get f t| .const v=>some v| .global g=>some (.pointer (some ⟨g,0,none⟩))| .func g=>some (.func (.func g) #[] #[])
theorem ki(f:Fr)(i j:Nat)(x:Operand)(r:List (Nat×Operand)):dN f i ((j,x)::r)=bif Nat.beq j i then some (tw f x)else dN f i r:=rfl
theorem iy{j:Nat}{x:Operand}{r:List (Nat×Operand)}(h:sorted n ((j,x)::r) m=true):m<=j/\j<n/\sorted n r (j+1)=true:=by
  simp only[sorted,Bool.and_eq_true]at h;exact⟨Nat.le_of_ble_eq_true h.1.1,Nat.le_of_ble_eq_true h.1.2,h.2⟩
theorem Gu:∀{r:List (Nat×Operand)} {m m':Nat},sorted n r m=true->m'<=m->sorted n r m'=true
  | [],_,_,_,_=>rfl
  | (j,x)::r,m,m',h,hm=>by
    obtain⟨h1,h2,h3⟩:=iy h;simp only[sorted,Bool.and_eq_true];exact⟨⟨Nat.ble_eq_true_of_le (by omega),Nat.ble_eq_true_of_le h2⟩,h3⟩
theorem vC{f:Fr}{n i:Nat}:∀{r:List (Nat×Operand)} {m:Nat},sorted n r m=true->i<m->dN f i r=none
  | [],_,_,_=>rfl
  | (j,x)::r,m,h,hm=>by
    obtain⟨h1,h2,h3⟩:=iy h
    have:Nat.beq j i=false:=by
      cases hb:Nat.beq j i with
      | false=>rfl
      | true=>have:=Nat.eq_of_beq_eq_true hb;omega
    rw[ki,this];exact vC h3 (by omega)
theorem vU{f:Fr}{ρ:Operand->Value}(hρ:∀ x v,tw f x=some v->ρ x=v)(place:Nat->Option (Nat×Nat))(Z:LV) :
    ∀(lX:List (Nat×Nat)) (i m:Nat) (parts:List (Nat×Operand)) (acc:List LV) (k:List LV->Prop) (pre:LV),
    iX f parts Z lX i acc k->sorted (i+lX.length) parts i=true->(∀idx,idx<lX.length->place (i+idx)=lX[idx]?)->tm lX m Z.length=true->pre.length=m->
    ∃CD:List LV,k (acc++CD)/\(parts.map λq=>(q.1,ρ q.2)).foldl (mO place) (pre++Z.drop m)=pre++CD.flatten/\
      ∀q∈parts,∃off size,place q.1=some (off,size)/\(ρ q.2).cells.size=size/\off+size<=Z.length
  | [],i,m,parts,acc,k,pre,h,hs,hp,hl,hm=>by
    have hz:m=Z.length:=Nat.eq_of_beq_eq_true hl
    cases parts with
    | nil=>exact⟨[],by simpa[iX]using h,by simp[hz],by simp⟩
    | cons q r=>
      obtain⟨h1,h2,_⟩:=iy (x:=q.2) (j:=q.1) (r:=r) hs;simp at h2;omega
  | (off,size)::r,i,m,parts,acc,k,pre,h,hs,hp,hl,hm=>by
    simp only[tm,Bool.and_eq_true]at hl;have ho:off=m:=Nat.eq_of_beq_eq_true hl.1;subst ho;have X3:=hl.2
    have hmZ:∀(s:List (Nat×Nat)) (a:Nat),tm s a Z.length=true->a<=Z.length:=by
      intro s
      induction s with
      | nil=>intro a ha;exact Nat.le_of_eq (Nat.eq_of_beq_eq_true ha)
      | cons x s ih=>
        intro a ha;obtain⟨x1,x2⟩:=x;simp only[tm,Bool.and_eq_true]at ha;have:=ih _ ha.2;omega
    have hle:=hmZ _ _ X3;have hp0:place i=some (off,size):=by simpa using hp 0 (by simp)
    have kA:∀idx,idx<r.length->place (i+1+idx)=r[idx]?:=λidx hi=>by
      have:=hp (idx+1) (by simp;omega);rw[show i+1+idx=i+(idx+1) by omega];simpa using this
    have hlen:i+((off,size)::r).length=i+1+r.length:=(by simp;omega);rw[hlen]at hs
    have skip:(∀q∈parts,i<q.1)->dN f i parts=none->∃CD:List LV,k (acc++CD)/\(parts.map λq=>(q.1,ρ q.2)).foldl (mO place) (pre++Z.drop off)=pre++CD.flatten/\
        ∀q∈parts,∃off size,place q.1=some (off,size)/\(ρ q.2).cells.size=size/\off+size<=Z.length:=by
      intro RF aaX
      have hs':sorted (i+1+r.length) parts (i+1)=true:=by
        cases parts with
        | nil=>rfl
        | cons q t=>
          obtain⟨q1,q2⟩:=q;obtain⟨a1,a2,a3⟩:=iy hs;have:=RF (q1,q2) (by simp);simp only[sorted,Bool.and_eq_true];exact⟨⟨Nat.ble_eq_true_of_le this,Nat.ble_eq_true_of_le a2⟩,a3⟩
      simp only[iX,aaX]at h;obtain⟨CD,h1,h2,h3⟩:=vU hρ place Z r (i+1) (off+size) parts _ k (pre++(Z.drop off).take size) h hs' kA X3 (by simp;omega);refine⟨(Z.drop off).take size::CD,by simpa using h1,?_,h3⟩
      have e:pre++(Z.drop off).take size++Z.drop (off+size)=pre++Z.drop off:=by
        rw[List.append_assoc,<-List.drop_drop,List.take_append_drop]
      rw[e]at h2;rw[h2];simp
    cases parts with
    | nil=>exact skip (by simp) rfl
    | cons q t=>
      obtain⟨j,x⟩:=q;obtain⟨a1,a2,a3⟩:=iy hs
      cases hb:Nat.beq j i with
      | false=>
        have fB:j≠i:=λe=>by subst e;rw[Nat.beq_refl]at hb;cases hb
        refine skip ?_ ?_
        · intro q hq
          rcases List.mem_cons.1 hq with rfl|hq
          · exact Nat.lt_of_le_of_ne a1 (Ne.symm fB)
          · have:∀(l:List (Nat×Operand)) (b:Nat),sorted (i+1+r.length) l b=true->∀q∈l,b<=q.1:=by
              intro l
              induction l with
              | nil=>intro b _ q hq;simp at hq
              | cons y l ih=>
                intro b hb q hq;obtain⟨y1,y2⟩:=y;obtain⟨b1,b2,b3⟩:=iy hb
                rcases List.mem_cons.1 hq with rfl|hq
                · exact b1
                · have:=ih _ b3 q hq;omega
            have:=this t _ a3 q hq;omega
        · rw[ki,hb];exact vC a3 (by omega)
      | true=>
        have he:j=i:=Nat.eq_of_beq_eq_true hb;subst he;have hfp:dN f j ((j,x)::t)=some (tw f x):=by rw[ki,hb];rfl
        -- the rest of the parts lies behind
        have rest:∀(v:Value),tw f x=some v->(ky v).length=size->iX f ((j,x)::t) Z r (j+1) (acc++[ky v]) k->(∃CD:List LV,k (acc++CD)/\(((j,x)::t).map λq=>(q.1,ρ q.2)).foldl (mO place) (pre++Z.drop off)=pre++CD.flatten/\
              ∀q∈(j,x)::t,∃off size,place q.1=some (off,size)/\(ρ q.2).cells.size=size/\off+size<=Z.length):=λv hv iH hpx=>by
          have hpx':iX f t Z r (j+1) (acc++[ky v]) k:=by
            have drop:∀(s:List (Nat×Nat)) (b:Nat) (ac:List LV),j<b->iX f ((j,x)::t) Z s b ac k->iX f t Z s b ac k:=by
              intro s
              induction s with
              | nil=>intro b ac _ h;exact h
              | cons y s ih=>
                intro b ac hb h;obtain⟨y1,y2⟩:=y
                have hf:dN f b ((j,x)::t)=dN f b t:=by
                  rw[ki]
                  have:Nat.beq j b=false:=by
                    cases X2:Nat.beq j b with
                    | false=>rfl
                    | true=>have:=Nat.eq_of_beq_eq_true X2;omega
                  rw[this];rfl
                simp only[iX,hf]at h ⊢
                cases hfb:dN f b t with
                | none=>rw[hfb]at h;exact ih _ _ (by omega) h
                | some o=>
                  rw[hfb]at h
                  cases o with
                  | none=>exact h
                  | some v=>
                    simp only[ae]at h ⊢
                    cases v with
                    | agg a=>exact⟨h.1,ih _ _ (by omega) h.2⟩
                    | tuple a=>exact h
                    | _=>
                      simp only at h ⊢
                      cases hq:Nat.beq y2 1 with
                      | false=>rw[hq]at h;exact h
                      | true=>rw[hq]at h;exact ih _ _ (by omega) h
            exact drop r (j+1) _ (by omega) hpx
          obtain⟨CD,h1,h2,h3⟩:=vU hρ place Z r (j+1) (off+size) t _ k (pre++ky v) hpx' a3 kA X3 (by simp;omega);have hv':=hρ x v hv;refine⟨ky v::CD,by simpa using h1,?_,?_⟩
          · have e:mO place (pre++Z.drop off) (j,ρ x)=pre++ky v++Z.drop (off+size):=by
              simp only[mO,hp0,hv'];rw[List.take_append_of_le_length (by omega),List.take_of_length_le (by omega),List.drop_append];rw[List.drop_of_length_le (by omega)];simp[hm,List.drop_drop]
            simp only[List.map_cons,List.foldl_cons,e,h2];simp
          · intro q hq
            rcases List.mem_cons.1 hq with rfl|hq
            · exact⟨off,size,hp0,by rw[hv',<-Array.length_toList,<-iE];exact iH,hle⟩
            · exact h3 q hq
        simp only[iX,hfp]at h
        cases hev:tw f x with
        | none=>rw[hev]at h;exact h.elim
        | some v=>
          rw[hev]at h;simp only[ae]at h
          cases v with
          | agg a=>exact rest (.agg a) hev h.1 h.2
          | tuple a=>exact h.elim
          | _=>
            simp only at h
            cases hq:Nat.beq size 1 with
            | false=>rw[hq]at h;exact h.elim
            | true=>
              rw[hq]at h;have:size=1:=Nat.eq_of_beq_eq_true hq;exact rest _ hev (by rw[this];rfl) h
theorem pI{dc:TypeDesc}{x:jI}(h:jJ (aq dc) x=true):MapKept.IsKey dc (kJ (aq dc) x):=by
  cases dc <;> cases x <;> simp_all [jJ,aq,kJ,MapKept.IsKey]
theorem Mm{a b:LB}(h:mkStr a=mkStr b):a=b:=by
  have:=congrArg (λs:ByteArray=>s.data.toList) h;simpa[mkStr]using this
theorem O4{d:D}{x y:jI}(hx:jJ d x=true)(hy:jJ d y=true):jI.same x y=true↔kJ d x=kJ d y:=by
  cases d <;> cases x <;> cases y <;> simp[jJ,jI.same,kJ]at *
  · exact⟨λh=>by rw[h],Mm⟩
def mP : qj->jI->Nat->Option (Nat×Value)
  | [],_,_=>none
  | (k,v)::r,x,i=>bif jI.same x k then some (i,v)else mP r x (i+1)
theorem Dh : ∀(m:qj) (x:jI) (i:Nat),rQ m x=(mP m x i).map (·.2)
  | [],_,_=>rfl
  | (k,v)::r,x,i=>by
    rw[rQ,mP]
    cases jI.same x k with
    | true=>rfl
    | false=>exact Dh r x (i+1)
theorem tz : ∀(m:qj) (x:jI) (v:Value) (i:Nat),wY m x v=(match mP m x i with|some (j,_)=>m.set (j-i) (x,v)|none=>m++[(x,v)])/\∀j u,mP m x i=some (j,u)->i<=j
  | [],_,_,_=>⟨rfl,λ_ _ h=>by cases h⟩
  | (k,u)::r,x,v,i=>by
    rw[wY,mP]
    cases hk:jI.same x k with
    | true=>exact⟨by simp,λj u h=>by simp at h;omega⟩
    | false=>
      obtain⟨h1,h2⟩:=tz r x v (i+1);rw[cond_false,cond_false,h1]
      cases hf:mP r x (i+1)with
      | none=>exact⟨rfl,λj u h=>by cases h⟩
      | some p=>
        obtain⟨j,u'⟩:=p;have:=h2 j u' hf;refine⟨?_,λj' u h=>by cases h;omega⟩;show(k,u)::r.set (j-(i+1)) (x,v)=((k,u)::r).set (j-i) (x,v);rw[show j-i=(j-(i+1))+1 by omega,List.set_cons_succ]
theorem AP : ∀(m:qj) (x:jI) (i:Nat),Mf m x=(match mP m x i with|some (j,_)=>m.eraseIdx (j-i)|none=>m)/\∀j u,mP m x i=some (j,u)->i<=j
  | [],_,_=>⟨rfl,λ_ _ h=>by cases h⟩
  | (k,u)::r,x,i=>by
    rw[Mf,mP]
    cases hk:jI.same x k with
    | true=>exact⟨by simp,λj u h=>by simp at h;omega⟩
    | false=>
      obtain⟨h1,h2⟩:=AP r x (i+1);rw[cond_false,cond_false,h1]
      cases hf:mP r x (i+1)with
      | none=>exact⟨rfl,λj u h=>by cases h⟩
      | some p=>
        obtain⟨j,u'⟩:=p;have:=h2 j u' hf;refine⟨?_,λj' u h=>by cases h;omega⟩;show(k,u)::r.eraseIdx (j-(i+1))=((k,u)::r).eraseIdx (j-i);rw[show j-i=(j-(i+1))+1 by omega,List.eraseIdx_cons_succ]
theorem yo{α β:Type}(f:α->β):∀(l:List α) (i:Nat),(l.eraseIdx i).map f=(l.map f).eraseIdx i
  | [],_=>rfl
  | _::_,0=>rfl
  | a::l,i+1=>by simp[List.eraseIdx_cons_succ,yo f l i]
theorem nD{dc:TypeDesc}{x:jI}(hx:jJ (aq dc) x=true):∀(es:List MapEntry) (m:qj) (i:Nat),es.map (λe=>(e.key,e.val))=m.map (λp=>(kJ (aq dc) p.1,p.2))->(∀p∈m,jJ (aq dc) p.1=true)->
    Instr.findNow dc (kJ (aq dc) x) es i=some (mP m x i)
  | [],[],_,_,_=>rfl
  | [],_::_,_,h,_=>by simp at h
  | _::_,[],_,h,_=>by simp at h
  | e::es,(k,v)::m,i,h,hm=>by
    simp only[List.map_cons,List.cons.injEq,Prod.mk.injEq]at h;obtain⟨⟨h1,h2⟩,h3⟩:=h;have hk:jJ (aq dc) k=true:=hm (k,v) List.mem_cons_self;obtain⟨r,hr,zM⟩:=MapKept.sameNow_of_keys (pI hx) (pI hk);have hs:=O4 hx hk;rw[Instr.findNow,h1,hr,mP]
    cases r with
    | true=>
      have:jI.same x k=true:=hs.mpr (zM.mp rfl);rw[this,h2];rfl
    | false=>
      have:jI.same x k=false:=by
        cases hq:jI.same x k with
        | false=>rfl
        | true=>exact absurd (zM.mpr (hs.mp hq)) Bool.false_ne_true
      rw[this];exact nD hx es m (i+1) h3 λp hp=>hm p (List.mem_cons_of_mem _ hp)
section
variable{P : Program}{t kt et r : Nat}{dc : TypeDesc}{m : qj}{x : jI}{w : World}
theorem jW{es:Array MapEntry}{clock:Nat}{sO:Array MapEntry}{rS:Nat}{m':qj}(hb:w.heap[r]?=some (.map es clock))(h1:sO.toList.map (λe=>(e.key,e.val))=m'.map (λp=>(kJ (aq dc) p.1,p.2)))(h2:∀ p ∈ m',jJ (aq dc) p.1=true)(h3:MapKept.Stamped sO rS) :
    y8 (aq dc) w.heap r m' (w.heap.setIfInBounds r (.map sO rS)):=
  ⟨by simp,λb mQ=>(MapKept.heap_set hb).2 b mQ,_,_,(MapKept.heap_set hb).1,h1,h2,h3⟩
theorem EL{v:Value}(hm:P.underlying t=some (.map kt et))(hd:P.underlying kt=some dc)(hA:kK (aq dc) w.heap r m)(hx:jJ (aq dc) x=true) :
    ∃h',y8 (aq dc) w.heap r (wY m x v) h'/\(Instr.mapUpdate t (.map (some r)) (kJ (aq dc) x) v).run P w = .ok () { w with heap:=h' }:=by
  obtain⟨es,clock,hb,he,hf,pH⟩:=hA;have hk:=pI hx;have h1:=nD hx es.toList m 0 he hf;obtain⟨hp,_⟩:=tz m x v 0
  have Oo:∀e∈es.toList,MapKept.IsKey dc e.key:=λe Sp=>by
    have:(e.key,e.val)∈es.toList.map (λe=>(e.key,e.val)):=List.mem_map.mpr ⟨e,Sp,rfl⟩;rw[he]at this;obtain⟨p,hp,e1⟩:=List.mem_map.mp this;have e1:kJ (aq dc) p.1=e.key:=congrArg Prod.fst e1;rw[<-e1];exact pI (hf p hp)
  cases AQ:mP m x 0 with
  | none=>
    rw[AQ]at h1 hp
    have fB:∀x_1∈es.toList,x_1.key≠kJ (aq dc) x:=by
      rcases MapKept.findNow_spec hk es.toList 0 Oo with⟨_,g1⟩|⟨j',e,g1,g2,g3⟩
      · exact g1
      · rw[h1]at g1;cases g1
    refine⟨_,jW hb (sO:=es.push { key:=kJ (aq dc) x,val:=v,born:=clock }) (rS:=clock+1) (by rw[hp,List.map_append,Array.toList_push,List.map_append,he];rfl) ?_ (MapKept.stamped_push pH fB),?_⟩
    · intro p kA
      rw[hp]at kA
      rcases List.mem_append.mp kA with h|h
      · exact hf p h
      · rw[List.mem_singleton.mp h];exact hx
    · simp[Instr.mapUpdate,run_underlying hm,MapKept.run_getObj_map hb,MapKept.run_checkKey hd hk,MapKept.run_findKey hd h1,MapKept.run_setObj_map _ hb,Result.andThen]
  | some q=>
    obtain⟨j,u⟩:=q;rw[AQ]at h1 hp;have hp:wY m x v=m.set j (x,v):=hp
    rcases MapKept.findNow_spec hk es.toList 0 Oo with⟨g1,_⟩|⟨j',e,g1,g2,g3⟩
    · rw[h1]at g1;cases g1
    · rw[h1]at g1
      have ej:j=j':=(by simp at g1;omega);subst ej;have hj:es[j]?=some e:=(by simpa using g2);refine⟨_,jW hb (sO:=es.modify j λe=>{ e with key:=kJ (aq dc) x,val:=v }) (rS:=clock) ?_ ?_ (MapKept.stamped_modify pH j _ (λ_ _=>rfl) λe' _ h'=>by rw[hj]at h';cases h';exact g3.symm),?_⟩
      · rw[hp]
        apply List.ext_getElem?;intro i;have hi:(es.toList.map (λe=>(e.key,e.val)))[i]?=(m.map (λp=>(kJ (aq dc) p.1,p.2)))[i]?:=(by rw[he]);rw[List.getElem?_map,List.getElem?_map,Array.getElem?_toList]at hi;simp only[List.getElem?_map,Array.getElem?_toList,Array.getElem?_modify,List.getElem?_set]
        by_cases Iv:j=i
        · subst Iv
          have hl:j<m.length:=by
            rcases Nat.lt_or_ge j m.length with h|h
            · exact h
            · rw[hj,List.getElem?_eq_none h]at hi;simp at hi
          simp[hj,hl]
        · simp[Iv,hi]
      · intro p kA
        rw[hp]at kA
        rcases List.mem_or_eq_of_mem_set kA with h|h
        · exact hf p h
        · rw[h];exact hx
      · simp[Instr.mapUpdate,run_underlying hm,MapKept.run_getObj_map hb,MapKept.run_checkKey hd hk,MapKept.run_findKey hd h1,hj,g3,MapKept.run_keyThatStays hk,MapKept.run_setObj_map _ hb,Result.andThen]
theorem erase_filter : ∀(l:List MapEntry) (j:Nat) (e:MapEntry),l[j]?=some e->(l.map (·.key)).Nodup->l.eraseIdx j=l.filter λa=>@decide (a.key≠e.key) (Classical.propDecidable _)
  | [],_,_,h,_=>by simp at h
  | a::l,0,e,h,nd=>by
    have h:a=e:=(by simpa using h);subst h;rw[List.map_cons,List.nodup_cons]at nd;rw[List.eraseIdx_zero,List.tail_cons,List.filter_cons,if_neg (by simp)];refine(List.filter_eq_self.mpr λb hb=>?_).symm;exact @decide_eq_true _ (Classical.propDecidable _) λy=>nd.1 (y▸List.mem_map.mpr ⟨b,hb,rfl⟩)
  | a::l,j+1,e,h,nd=>by
    have h:l[j]?=some e:=(by simpa using h);rw[List.map_cons,List.nodup_cons]at nd;have hm:e∈l:=List.mem_of_getElem? h;have ha:a.key≠e.key:=λy=>nd.1 (by rw[y];exact List.mem_map.mpr ⟨e,hm,rfl⟩);rw[List.eraseIdx_cons_succ,erase_filter l j e h nd.2,List.filter_cons,if_pos (@decide_eq_true _ (Classical.propDecidable _) ha)]
theorem Mn{ty:TypeId}(hm:P.underlying t=some (.map kt et))(hd:P.underlying kt=some dc)(hA:kK (aq dc) w.heap r m)(hx:jJ (aq dc) x=true)(ts:List TypeId) :
    ∃h',VH (aq dc) w.heap r x (Mf m x) h'/\(Builtin.delete_ ⟨t::ts⟩ ty #[.map (some r),kJ (aq dc) x]).run P w = .ok (.tuple #[]) { w with heap:=h' }:=by
  obtain⟨es,clock,hb,he,hf,pH⟩:=hA;have hk:=pI hx;have h1:=nD hx es.toList m 0 he hf;obtain⟨hp,_⟩:=AP m x 0
  have Oo:∀e∈es.toList,MapKept.IsKey dc e.key:=λe Sp=>by
    have:(e.key,e.val)∈es.toList.map (λe=>(e.key,e.val)):=List.mem_map.mpr ⟨e,Sp,rfl⟩;rw[he]at this;obtain⟨p,hp,e1⟩:=List.mem_map.mp this;have e1:kJ (aq dc) p.1=e.key:=congrArg Prod.fst e1;rw[<-e1];exact pI (hf p hp)
  have EM:∀o:Obj,(w.heap.setIfInBounds r o)[r]?=some o:=λo=>(MapKept.heap_set hb).1
  cases AQ:mP m x 0 with
  | none=>
    rw[AQ]at h1 hp;refine⟨_,⟨jW hb (sO:=es) (rS:=clock) (by rw[hp];exact he) (by rw[hp];exact hf) pH,λSq ck0 h0=>?_⟩,?_⟩
    · rw[hb]at h0;cases h0
      refine⟨_,EM _,(List.filter_eq_self.mpr λb mQ=>?_).symm⟩
      rcases MapKept.findNow_spec hk es.toList 0 Oo with⟨_,g1⟩|⟨j',e,g1,_,_⟩
      · exact @decide_eq_true _ (Classical.propDecidable _) (g1 b mQ)
      · rw[h1]at g1;cases g1
    simp[Builtin.delete_,run_underlying hm,MapKept.run_getObj_map hb,MapKept.run_checkKey hd hk,MapKept.run_findKey hd h1,MapKept.run_setObj_map _ hb,Result.andThen]
  | some q=>
    obtain⟨j,u⟩:=q;rw[AQ]at h1 hp;have hp:Mf m x=m.eraseIdx j:=hp
    have el:(es.eraseIdxIfInBounds j).toList=es.toList.eraseIdx j:=by
      unfold Array.eraseIdxIfInBounds
      split
      · simp
      · rw[List.eraseIdx_of_length_le (by simp;omega)]
    refine⟨_,⟨jW hb (sO:=es.eraseIdxIfInBounds j) (rS:=clock) ?_ ?_ (MapKept.stamped_erase pH j),λSq ck0 h0=>?_⟩,?_⟩
    rotate_left
    rotate_left
    · rw[hb]at h0;cases h0
      refine⟨_,EM _,?_⟩
      rcases MapKept.findNow_spec hk es.toList 0 Oo with⟨g1,_⟩|⟨j',e,g1,g2,g3⟩
      · rw[h1]at g1;cases g1
      · rw[h1]at g1
        have ej:j=j':=(by simp at g1;omega);subst ej;rw[el,erase_filter es.toList j e (by simpa using g2) pH.2.2,g3]
    rotate_left
    · rw[hp,yo,<-he,<-yo,el]
    · intro p kA
      rw[hp]at kA;exact hf p ((List.eraseIdx_sublist _ _).subset kA)
    · simp[Builtin.delete_,run_underlying hm,MapKept.run_getObj_map hb,MapKept.run_checkKey hd hk,MapKept.run_findKey hd h1,MapKept.run_setObj_map _ hb,Result.andThen]
theorem KG : ∀{l:List MapEntry},(l.map (·.born)).Nodup->∀{x y:MapEntry},x∈l->y∈l->x.born=y.born->x=y
  | [],_,_,_,hx,_,_=>by cases hx
  | a::r,hn,x,y,hx,hy,e=>by
    rw[List.map_cons,List.nodup_cons]at hn;have no:∀z,z∈r->z.born≠a.born:=λz hz e=>hn.1 (List.mem_map.mpr ⟨z,hz,e⟩)
    rcases List.mem_cons.mp hx with h1|h1
    · rcases List.mem_cons.mp hy with h2|h2
      · rw[h1,h2]
      · exact absurd (by rw[<-e,h1]) (no y h2)
    · rcases List.mem_cons.mp hy with h2|h2
      · exact absurd (by rw[e,h2]) (no x h1)
      · exact KG hn.2 h1 h2 e
theorem Gv{m:wZ}{x:jI}{es:List MapEntry}(hx:jJ (aq (.int .i64)) x=true)(he:es.map (λe=>(e.key,e.val))=(mI m).map (λp=>(kJ (aq (.int .i64)) p.1,p.2))):(∀e∈es,MapKept.IsKey (.int .i64) e.key)/\∀(j:Nat) (e:MapEntry),es[j]?=some e->∃z:Int,e.val = .int .i64 z:=by
  constructor
  · intro e Sp
    have:(e.key,e.val)∈es.map (λe=>(e.key,e.val)):=List.mem_map.mpr ⟨e,Sp,rfl⟩;rw[he]at this;obtain⟨p,hp,e1⟩:=List.mem_map.mp this;obtain⟨q,_,rfl⟩:=List.mem_map.mp hp;have e1:kJ (aq (.int .i64)) (.i q.1)=e.key:=congrArg Prod.fst e1;rw[<-e1];exact pI rfl
  · intro j e hj
    have hi:(es.map (λe=>(e.key,e.val)))[j]?=((mI m).map (λp=>(kJ (aq (.int .i64)) p.1,p.2)))[j]?:=(by rw[he]);rw[List.getElem?_map,hj,mI,List.map_map,List.getElem?_map]at hi
    cases hm:m[j]? with
    | none=>rw[hm]at hi;cases hi
    | some p=>
      rw[hm]at hi;have:=(Option.some.inj hi);exact⟨p.2,congrArg Prod.snd this⟩
theorem Gx{m:wZ}(hm:P.underlying t=some (.map kt et))(hd:P.underlying kt=some (.int .i64))(hz:(zeroValue et).run P w = .ok (.int .i64 0) w)(hA:kK (.int .i64) w.heap r (mI m))(hx:jJ (.int .i64) x=true) :
    ∃(z s:Int) (h':ab),OW w.heap r m x z s h'/\(Instr.mapEntry t (.map (some r)) (kJ (.int .i64) x)).run P w = .ok (.tuple #[.int .i64 z,.int .i64 s]) { w with heap:=h' }:=by
  have hA:kK (aq (.int .i64)) w.heap r (mI m):=hA;have hx:jJ (aq (.int .i64)) x=true:=hx;obtain⟨es,clock,hb,he,hf,pH⟩:=hA;have hk:=pI hx;have h1:=nD hx es.toList (mI m) 0 he hf;obtain⟨Oo,hvs⟩:=Gv hx he;have EM:∀o:Obj,(w.heap.setIfInBounds r o)[r]?=some o:=λo=>(MapKept.heap_set hb).1;show ∃(z s:Int) (h':ab),OW w.heap r m x z s h'/\(Instr.mapEntry t (.map (some r)) (kJ (aq (.int .i64)) x)).run P w=_
  cases AQ:mP (mI m) x 0 with
  | none=>
    obtain⟨hp,_⟩:=tz (mI m) x (.int .i64 0) 0;rw[AQ]at h1 hp
    have fB:∀y∈es.toList,y.key≠kJ (aq (.int .i64)) x:=by
      rcases MapKept.findNow_spec hk es.toList 0 Oo with⟨_,g1⟩|⟨j',e,g1,g2,g3⟩
      · exact g1
      · rw[h1]at g1;cases g1
    refine⟨0,clock,_,⟨jW (dc:=.int .i64) (m':=wY (mI m) x (.int .i64 0)) hb (sO:=es.push { key:=kJ (aq (.int .i64)) x,val:=.int .i64 0,born:=clock }) (rS:=clock+1) (by rw[hp,List.map_append,Array.toList_push,List.map_append,he];rfl) ?_ (MapKept.stamped_push pH fB),⟨_,_,_,EM _,by rw[Array.toList_push];exact List.mem_append_right _ (List.mem_singleton.mpr rfl),rfl,rfl⟩⟩,?_⟩
    · intro p kA
      rw[hp]at kA
      rcases List.mem_append.mp kA with h|h
      · exact hf p h
      · rw[List.mem_singleton.mp h];exact hx
    · simp[Instr.mapEntry,run_underlying hm,MapKept.run_getObj_map hb,MapKept.run_checkKey hd hk,MapKept.run_findKey hd h1,hz,MapKept.run_setObj_map _ hb,Result.andThen,goInt]
  | some q=>
    obtain⟨j,u⟩:=q;rw[AQ]at h1
    rcases MapKept.findNow_spec hk es.toList 0 Oo with⟨g1,_⟩|⟨j',e,g1,g2,g3⟩
    · rw[h1]at g1;cases g1
    · rw[h1]at g1
      have ej:j=j':=(by simp at g1;omega);have eu:u=e.val:=(by simp at g1;exact g1.2);subst ej;have hj:es[j]?=some e:=(by simpa using g2);obtain⟨z,hz'⟩:=hvs j e g2;obtain⟨hp,_⟩:=tz (mI m) x (.int .i64 z) 0;rw[AQ]at hp;have hp:wY (mI m) x (.int .i64 z)=(mI m).set j (x,.int .i64 z):=hp;refine⟨z,e.born,_,⟨jW (dc:=.int .i64) (m':=wY (mI m) x (.int .i64 z)) hb (sO:=es.modify j λe=>{ e with key:=kJ (aq (.int .i64)) x }) (rS:=clock) ?_ ?_ (MapKept.stamped_modify pH j _ (λ_ _=>rfl) λe' _ h'=>by rw[hj]at h';cases h';exact g3.symm),⟨_,_,{ e with key:=kJ (aq (.int .i64)) x },EM _,?_,rfl,rfl⟩⟩,?_⟩
      · rw[hp]
        apply List.ext_getElem?;intro i;have hi:(es.toList.map (λe=>(e.key,e.val)))[i]?=((mI m).map (λp=>(kJ (aq (.int .i64)) p.1,p.2)))[i]?:=(by rw[he]);rw[List.getElem?_map,List.getElem?_map,Array.getElem?_toList]at hi;simp only[List.getElem?_map,Array.getElem?_toList,Array.getElem?_modify,List.getElem?_set]
        by_cases Iv:j=i
        · subst Iv
          have hl:j<(mI m).length:=by
            rcases Nat.lt_or_ge j (mI m).length with h|h
            · exact h
            · rw[hj,List.getElem?_eq_none h]at hi;simp at hi
          simp[hj,hl,hz']
        · simp[Iv,hi]
      · intro p kA
        rw[hp]at kA
        rcases List.mem_or_eq_of_mem_set kA with h|h
        · exact hf p h
        · rw[h];exact hx
      · refine List.mem_of_getElem? (i:=j) ?_
        simp[hj]
      · simp[Instr.mapEntry,run_underlying hm,MapKept.run_getObj_map hb,MapKept.run_checkKey hd hk,MapKept.run_findKey hd h1,hj,g3,MapKept.run_keyThatStays hk,MapKept.run_setObj_map _ hb,Result.andThen,eu,hz',goInt]
theorem CE{m:wZ}{s z:Int}(hA:kK (.int .i64) w.heap r (mI m))(hS:XW w.heap r x s)(hx:jJ (.int .i64) x=true) :
    ∃h',y8 (.int .i64) w.heap r (wY (mI m) x (.int .i64 z)) h'/\(Instr.entryStore t (.map (some r)) (.int .i64 s) (.int .i64 z)).run P w = .ok () { w with heap:=h' }:=by
  have hA:kK (aq (.int .i64)) w.heap r (mI m):=hA;have hx:jJ (aq (.int .i64)) x=true:=hx;obtain⟨es,clock,hb,he,hf,pH⟩:=hA;obtain⟨es2,ck2,e,Sr,vj,aaZ,EN⟩:=hS;rw[hb]at Sr
  cases Sr
  have hk:=pI hx;have h1:=nD hx es.toList (mI m) 0 he hf;obtain⟨Oo,_⟩:=Gv hx he;obtain⟨hp,_⟩:=tz (mI m) x (.int .i64 z) 0
  cases AQ:mP (mI m) x 0 with
  | none=>
    rw[AQ]at h1
    rcases MapKept.findNow_spec hk es.toList 0 Oo with⟨_,g1⟩|⟨j',e,g1,g2,g3⟩
    · exact absurd EN (g1 e vj)
    · rw[h1]at g1;cases g1
  | some q=>
    obtain⟨j,u⟩:=q;rw[AQ]at h1 hp;have hp:wY (mI m) x (.int .i64 z)=(mI m).set j (x,.int .i64 z):=hp
    rcases MapKept.findNow_spec hk es.toList 0 Oo with⟨g1,_⟩|⟨j',e',g1,g2,g3⟩
    · rw[h1]at g1;cases g1
    · rw[h1]at g1
      have ej:j=j':=(by simp at g1;omega);subst ej;have hj:es[j]?=some e':=by simpa using g2
      have Oq:j<es.size:=by
        rcases Nat.lt_or_ge j es.size with h|h
        · exact h
        · rw[Array.getElem?_eq_none h]at hj;cases hj
      have hje:es[j]=e':=by rw[Array.getElem?_eq_getElem Oq]at hj;exact Option.some.inj hj
      have X4:∀{l:List MapEntry},(l.map (·.key)).Nodup->∀{x y:MapEntry},x∈l->y∈l->x.key=y.key->x=y:=by
        intro l hn x y hx hy e
        induction l with
        | nil=>cases hx
        | cons a r ih=>
          rw[List.map_cons,List.nodup_cons]at hn;have no:∀z,z∈r->z.key≠a.key:=λz hz e=>hn.1 (List.mem_map.mpr ⟨z,hz,e⟩)
          rcases List.mem_cons.mp hx with h1|h1
          · rcases List.mem_cons.mp hy with h2|h2
            · rw[h1,h2]
            · exact absurd (by rw[<-e,h1]) (no y h2)
          · rcases List.mem_cons.mp hy with h2|h2
            · exact absurd (by rw[e,h2]) (no x h1)
            · exact ih hn.2 h1 h2
      have Sp:e=e':=X4 pH.2.2 vj (List.mem_of_getElem? g2) (EN.trans g3.symm);subst Sp
      have aa0:es.findIdx? (λa=>(a.born:Int)==s)=some j:=by
        rw[Array.findIdx?_eq_some_iff_getElem];refine⟨Oq,by rw[hje];simpa using aaZ,λi Iv=>?_⟩;have hil:i<es.size:=(by omega);intro hc;have hc:(es[i].born:Int)=s:=(by simpa using hc);have:es[i]=es[j]:=KG pH.2.1 (by simp) (by simp) (by rw[hje];omega);have nd:(es.toList.map (·.born)).Nodup:=pH.2.1;have h2:=(List.getElem_inj (xs:=es.toList.map (·.born)) (i:=i) (j:=j) (h₀:=by simp;omega) (h₁:=by simp;omega) nd).mp (by simp[this]);omega
      refine⟨_,jW (dc:=.int .i64) (m':=wY (mI m) x (.int .i64 z)) hb (sO:=es.modify j λe=>{ e with val:=.int .i64 z }) (rS:=clock) ?_ ?_ (MapKept.stamped_modify pH j _ (λ_ _=>rfl) λe' _ h'=>rfl),?_⟩
      · rw[hp]
        apply List.ext_getElem?;intro i;have hi:(es.toList.map (λe=>(e.key,e.val)))[i]?=((mI m).map (λp=>(kJ (aq (.int .i64)) p.1,p.2)))[i]?:=(by rw[he]);rw[List.getElem?_map,List.getElem?_map,Array.getElem?_toList]at hi;simp only[List.getElem?_map,Array.getElem?_toList,Array.getElem?_modify,List.getElem?_set]
        by_cases Iv:j=i
        · subst Iv
          have hl:j<(mI m).length:=by
            rcases Nat.lt_or_ge j (mI m).length with h|h
            · exact h
            · rw[hj,List.getElem?_eq_none h]at hi;simp at hi
          simp[hj,hl,g3]
        · simp[Iv,hi]
      · intro p kA
        rw[hp]at kA
        rcases List.mem_or_eq_of_mem_set kA with h|h
        · exact hf p h
        · rw[h];exact hx
      · simp[Instr.entryStore,MapKept.run_getObj_map hb,asInt,asIntOf,aa0,MapKept.run_setObj_map _ hb,Result.andThen]
theorem Mo{q:Option Nat}{z:Value}{ok:Bool}(hm:P.underlying t=some (.map kt et))(hd:P.underlying kt=some dc)(hz:(zeroValue et).run P w = .ok z w)(hA:match q with|none=>m=[]|some r=>kK (aq dc) w.heap r m)(hx:jJ (aq dc) x=true) :
    (Instr.lookup t (.map q) (kJ (aq dc) x) ok).run P w = .ok (bif ok then .tuple #[(rQ m x).getD z,.bool (rQ m x).isSome]else(rQ m x).getD z) w:=by
  have hk:=pI hx
  cases q with
  | none=>
    have hA:m=[]:=hA;subst hA;have h1:=nD hx [] [] 0 rfl (λ_ h=>by cases h)
    cases ok <;> simp[Instr.lookup,run_underlying hm,MapKept.run_checkKey hd hk,MapKept.run_findKey hd h1,mP,hz,rQ,Result.andThen]
  | some r=>
    obtain⟨es,clock,hb,he,hf,pH⟩:=hA;have h1:=nD hx es.toList m 0 he hf;rw[Dh m x 0]
    cases AQ:mP m x 0 with
    | none=>
      rw[AQ]at h1
      cases ok <;> simp[Instr.lookup,run_underlying hm,MapKept.run_getObj_map hb,MapKept.run_checkKey hd hk,MapKept.run_findKey hd h1,hz,Result.andThen]
    | some p=>
      rw[AQ]at h1
      cases ok <;> simp[Instr.lookup,run_underlying hm,MapKept.run_getObj_map hb,MapKept.run_checkKey hd hk,MapKept.run_findKey hd h1,Result.andThen]
theorem Dj{q:Option Nat}{ty:TypeId}(hm:P.underlying t=some (.map kt et))(hA:match q with|none=>m=[]|some r=>kK (aq dc) w.heap r m) :
    (Builtin.len_ #[t] ty #[.map q]).run P w = .ok (.int .i64 (m.length:Int)) w:=by
  cases q with
  | none=>
    have hA:m=[]:=hA;subst hA;simp[Builtin.len_,run_underlying hm,goInt]
  | some r=>
    obtain⟨es,clock,hb,he,hf,pH⟩:=hA;have hl:=congrArg List.length he;simp only[List.length_map]at hl;have:es.size=m.length:=(by rw[<-hl];simp);simp[Builtin.len_,run_underlying hm,MapKept.run_getObj_map hb,goInt,this]
end
theorem uE{d:D}{v:Value}{k:jI->Prop}(h:Gp d v k):∃x,jJ d x=true/\v=kJ d x/\k x/\d≠.other:=by
  cases d <;> cases v <;> try exact h.elim
  · rename_i kd EA n
    simp only[Gp]at h
    cases hk:kz kd EA with
    | false=>rw[hk]at h;exact h.elim
    | true=>
      rw[hk]at h;obtain rfl:=lA hk;exact⟨.i n,rfl,rfl,h,by intro e;cases e⟩
  · rename_i s
    refine⟨.s s.toList,rfl,?_,h,by intro e;cases e⟩;show Value.string s = .string (mkStr s.toList);congr 1;obtain⟨⟨l⟩⟩:=s;simp[mkStr]
theorem Dk : ∀(l:LB) (c:UInt8),lO l c=Lib.indexByte l c
  | [],_=>rfl
  | b::l,c=>by rw[lO,Lib.indexByte,Dk l c]
theorem aa1 {fn:Func} (hf : P.funcs[g]? = some fn) (hn : (fn.name == "runtime.NumGoroutine") = false) (hb : fn.body.isNone = true) (hx : Extern.findNext fn = none) (he : Extern.find fn = some Extern.BytealgIndexByte.indexByte) : KA P g := by
  intro s c w;rw[run_callFunc_extern hf hn hb hx he,Lib.run_indexByteString,Dk];have:s.toList=s.data.toList:=by obtain⟨⟨l⟩⟩:=s;simp
  rw[this];rfl
theorem ou : ∀(ks:List D) (ls:List D) (xs ys:LV),dv (ks++ls) xs ys=true->dv ks (xs.take ks.length) (ys.take ks.length)=true/\dv ls (xs.drop ks.length) (ys.drop ks.length)=true/\
    dw xs ys=(dw (xs.take ks.length) (ys.take ks.length) && dw (xs.drop ks.length) (ys.drop ks.length))
  | [],ls,xs,ys,h=>⟨rfl,h,by simp[dw]⟩
  | k::ks,ls,xs,ys,h=>by
    cases xs with
    | nil=>cases k <;> simp[dv]at h
    | cons x xs=>
      cases ys with
      | nil=>cases k <;> cases x <;> simp[dv]at h
      | cons y ys=>
        cases k <;> cases x <;> cases y <;> simp[dv]at h
        · obtain⟨h1,h2,h3⟩:=ou ks ls xs ys h
          exact⟨by simpa[dv]using h1,by simpa using h2,by simp[dw,h3,Bool.and_assoc]⟩
        · obtain⟨h1,h2,h3⟩:=ou ks ls xs ys h.2
          exact⟨by simp[dv,h.1.1,h.1.2,h1],by simpa using h2,by simp[dw,h3,Bool.and_assoc]⟩
        · obtain⟨h1,h2,h3⟩:=ou ks ls xs ys h
          exact⟨by simpa[dv]using h1,by simpa using h2,by simp[dw,h3,Bool.and_assoc]⟩
theorem tA : ∀(ks:List D) (xs ys:LV),dv ks xs ys=true->xs.length=ks.length/\ys.length=ks.length
  | [],xs,ys,h=>by cases xs <;> cases ys <;> simp[dv]at *
  | k::ks,xs,ys,h=>by
    cases xs with
    | nil=>cases k <;> simp[dv]at h
    | cons x xs=>
      cases ys with
      | nil=>cases k <;> cases x <;> simp[dv]at h
      | cons y ys=>
        have:dv ks xs ys=true:=(by cases k <;> cases x <;> cases y <;> simp[dv]at h <;> first|exact h|exact h.2);have:=tA ks xs ys this;simp;omega
theorem tB{α β:Type}{P:Program}(body:α->β->Sem (ForInStep β))(b0 bF:β)(p:α->Bool)(w:World):∀l:List α,(∀a∈l,(body a b0).run P w = .ok (if p a then .yield b0 else .done bF) w)->
    (forIn l b0 body).run P w = .ok (if l.all p then b0 else bF) w
  | [],_=>by simp[Sem.run_pure]
  | a::l,h=>by
    have h1:=h a List.mem_cons_self;rw[List.forIn_cons,Sem.run_bind,h1]
    cases hp:p a with
    | true=>
      simp only[if_true,Result.andThen_ok];rw[tB body b0 bF p w l λx hx=>h x (List.mem_cons_of_mem _ hx)];simp[hp]
    | false=>simp[hp,Sem.run_pure]
def EO(P:Program)(n t:Nat)(ks:List D):Prop:=
  ∀(X Y:Array Value) (o o':Nat),dv ks ((X.toList.drop o).take ks.length) ((Y.toList.drop o').take ks.length)=true->
    ∃x y,(∀w,(part t X o).run P w = .ok x w)/\(∀w,(part t Y o').run P w = .ok y w)/\∀w,(Op.equalIn n t x y).run P w = .ok (dw ((X.toList.drop o).take ks.length) ((Y.toList.drop o').take ks.length)) w
theorem AR{P:Program}{n:Nat}{g:Nat->Option (List D)}(hg:∀ u ks,g u=some ks->EO P n u ks)(X Y:Array Value):∀(fs:List Field) (off:Nat) (ks:List D),rR g fs off=some ks->
    dv ks ((X.toList.drop off).take ks.length) ((Y.toList.drop off).take ks.length)=true->
    (∀ fd ∈ fs, fd.name ≠ "_" ∧ ∃ x y, (∀ w, (part fd.type X fd.offset).run P w = .ok x w) ∧ (∀ w, (part fd.type Y fd.offset).run P w = .ok y w) ∧
      ∀w,(Op.equalIn n fd.type x y).run P w = .ok (dw ((X.toList.drop fd.offset).take ((g fd.type).getD []).length) ((Y.toList.drop fd.offset).take ((g fd.type).getD []).length)) w)/\
    (fs.all λfd=>dw ((X.toList.drop fd.offset).take ((g fd.type).getD []).length) ((Y.toList.drop fd.offset).take ((g fd.type).getD []).length))=dw ((X.toList.drop off).take ks.length) ((Y.toList.drop off).take ks.length)
  | [],off,ks,h,_=>by
    simp only[rR,Option.some.injEq]at h;subst h;exact⟨λfd hfd=>absurd hfd List.not_mem_nil,rfl⟩
  | fd::fs,off,ks,h,hp=>by
    rw[rR]at h
    cases hn : (fd.name == "_") with
    | true=>rw[hn]at h;cases h
    | false=>
    rw[hn,cond_false]at h
    cases ho:Nat.beq fd.offset off with
    | false=>rw[ho]at h;cases h
    | true=>
    rw[ho,cond_true]at h;have ho:=Nat.eq_of_beq_eq_true ho
    cases hk:g fd.type with
    | none=>rw[hk]at h;cases h
    | some k1=>
    rw[hk]at h;have h:(rR g fs (off+k1.length)).map (k1 ++ ·)=some ks:=h
    cases hr:rR g fs (off+k1.length)with
    | none=>rw[hr]at h;cases h
    | some k2=>
    rw[hr]at h;have h:k1++k2=ks:=Option.some.inj h;subst h;obtain⟨p1,p2,p3⟩:=ou k1 k2 _ _ hp;have hl:k1.length+k2.length=(k1++k2).length:=(by rw[List.length_append]);have t1:∀l:LV,(((l.drop off).take (k1++k2).length).take k1.length)=(l.drop off).take k1.length:=λl=>by rw[List.take_take];congr 1;omega
    have t2:∀l:LV,(((l.drop off).take (k1++k2).length).drop k1.length)=(l.drop (off+k1.length)).take k2.length:=λl=>by rw[List.drop_take,List.drop_drop];congr 1;omega
    rw[t1,t1]at p1 p3;rw[t2,t2]at p2 p3;obtain⟨q1,q2⟩:=AR hg X Y fs (off+k1.length) k2 hr p2;refine⟨λx hx=>?_,?_⟩
    · rcases List.mem_cons.mp hx with rfl|hx
      · refine⟨beq_eq_false_iff_ne.mp hn,?_⟩
        have:=hg _ _ hk X Y x.offset x.offset (by rw[ho];exact p1);rw[hk];exact this
      · exact q1 x hx
    · rw[List.all_cons,q2,p3,hk,ho];rfl
theorem vD{P:Program}{n e:Nat}{ks:List D}(hg:EO P n e ks)(X Y:Array Value):∀(len i:Nat),
    dv (List.replicate len ks).flatten ((X.toList.drop (i*ks.length)).take (len*ks.length)) ((Y.toList.drop (i*ks.length)).take (len*ks.length))=true->
    (∀j∈List.range' i len,∃x y,(∀w,(part e X (j*ks.length)).run P w = .ok x w)/\(∀w,(part e Y (j*ks.length)).run P w = .ok y w)/\
      ∀w,(Op.equalIn n e x y).run P w = .ok (dw ((X.toList.drop (j*ks.length)).take ks.length) ((Y.toList.drop (j*ks.length)).take ks.length)) w)/\
    ((List.range' i len).all λj=>dw ((X.toList.drop (j*ks.length)).take ks.length) ((Y.toList.drop (j*ks.length)).take ks.length))=dw ((X.toList.drop (i*ks.length)).take (len*ks.length)) ((Y.toList.drop (i*ks.length)).take (len*ks.length))
  | 0,i,_=>⟨λj hj=>by simp at hj,by simp[dw]⟩
  | len+1,i,hp=>by
    rw[List.replicate_succ,List.flatten_cons]at hp;obtain⟨p1,p2,p3⟩:=ou ks _ _ _ hp;have hm:(len+1)*ks.length=ks.length+len*ks.length:=(by rw[Nat.add_mul,Nat.one_mul,Nat.add_comm]);have t1:∀l:LV,((l.take ((len+1)*ks.length)).take ks.length)=l.take ks.length:=λl=>by rw[List.take_take];congr 1;omega
    have t2:∀l:LV,(((l.drop (i*ks.length)).take ((len+1)*ks.length)).drop ks.length)=(l.drop ((i+1)*ks.length)).take (len*ks.length):=λl=>by
      rw[List.drop_take,List.drop_drop,hm,Nat.add_mul,Nat.one_mul];congr 1;omega
    rw[t1,t1]at p1 p3;rw[t2,t2]at p2 p3;obtain⟨q1,q2⟩:=vD hg X Y len (i+1) p2;refine⟨λj hj=>?_,?_⟩
    · rw[List.range'_succ]at hj
      rcases List.mem_cons.mp hj with rfl|hj
      · exact hg X Y _ _ p1
      · exact q1 j hj
    · rw[List.range'_succ,List.all_cons,q2,p3]
theorem uF{X:Array Value}{o:Nat}{v:Value}(h:(X.toList.drop o).take 1=[v]):X[o]?=some v:=by
  have:=congrArg (·[0]?) h;simpa using this
theorem X5{ks:List D}{l m:LV}(h:dv ks l m=true)(hk:ks.length=1):∃x y,l=[x]/\m=[y]:=by
  obtain⟨h1,h2⟩:=tA _ _ _ h
  match l,m,h1,h2 with
  | [x],[y],_,_=>exact⟨x,y,rfl,rfl⟩
  | [],_,h1,_=>simp at h1;omega
  | _::_::_,_,h1,_=>simp at h1;omega
  | [_],[],_,h2=>simp at h2;omega
  | [_],_::_::_,_,h2=>simp at h2;omega
theorem qX{d:TypeDesc}(hd:P.underlying t=some d)(ha:ir (aq d)=false){X:Array Value}{o:Nat}{v:Value}(h:X[o]?=some v)(w:World):(part t X o).run P w = .ok v w:=by
  unfold part;simp only[Sem.run_bind,mN hd,ha,Result.andThen_ok,Bool.false_eq_true,if_false,h,Sem.run_pure]
theorem qY{d:TypeDesc}{i:TypeInfo}(hd:P.underlying t=some d)(hi:P.info? t=some i)(ha:ir (aq d)=true)(X:Array Value)(o:Nat)(w:World):(part t X o).run P w = .ok (.agg (X.extract o (o+i.size))) w:=by
  unfold part;simp only[Sem.run_bind,mN hd,ha,Result.andThen_ok,if_true,bI hi,Sem.run_pure]
theorem Dl{f:Nat}{ks:List D}(h:flatK P f t=some ks):∃i,P.info? t=some i/\i.size=ks.length:=by
  cases f with
  | zero=>cases h
  | succ f=>
    rw[flatK]at h;generalize Kz P (flatK P f) t=q at h;unfold OY at h
    cases q with
    | none=>cases h
    | some k0=>
    cases hi:P.info? t with
    | none=>rw[hi]at h;cases h
    | some i=>
    rw[hi]at h
    cases hz:Nat.beq i.size k0.length with
    | false=>simp only[hz]at h;cases h
    | true=>
    simp only[hz]at h;have h:k0=ks:=Option.some.inj h;subst h;exact⟨i,rfl,Nat.eq_of_beq_eq_true hz⟩
theorem O5:∀(f t:Nat) (ks:List D),flatK P f t=some ks->∀n,f<=n->EO P n t ks:=by
  intro f
  induction f with
  | zero=>intro t ks h;cases h
  | succ f ih=>
    intro t ks h n hn X Y o o' hp;obtain⟨n,rfl⟩:∃m,n=m+1:=⟨n-1,by omega⟩;rw[flatK]at h;generalize hq:Kz P (flatK P f) t=q at h;unfold Kz at hq;unfold OY at h
    cases q with
    | none=>cases h
    | some k0=>
    cases hi:P.info? t with
    | none=>rw[hi]at h;cases h
    | some i=>
    rw[hi]at h
    cases hz:Nat.beq i.size k0.length with
    | false=>simp only[hz]at h;cases h
    | true=>
    simp only[hz]at h;have hz:=Nat.eq_of_beq_eq_true hz;have h:k0=ks:=Option.some.inj h;subst h
    cases hd:P.underlying t with
    | none=>rw[hd]at hq;cases hq
    | some d=>
    rw[hd]at hq
    cases d with
    | int k=>
      have hq:[D.int k]=k0:=Option.some.inj hq;subst hq;obtain⟨x,y,e1,e2⟩:=X5 hp rfl;rw[e1,e2]at hp ⊢;refine⟨x,y,qX hd rfl (uF e1),qX hd rfl (uF e2),λw=>?_⟩
      cases x <;> cases y <;> simp[dv]at hp
      obtain⟨h1,h2⟩:=hp;obtain rfl:=lA h1;obtain rfl:=lA h2;simp[Op.equalIn,run_underlying hd,dw,Result.andThen]
    | string=>
      have hq:[D.str]=k0:=Option.some.inj hq;subst hq;obtain⟨x,y,e1,e2⟩:=X5 hp rfl;rw[e1,e2]at hp ⊢;refine⟨x,y,qX hd rfl (uF e1),qX hd rfl (uF e2),λw=>?_⟩
      cases x <;> cases y <;> simp[dv]at hp
      rename_i a b
      have:(a==b)=(a.toList==b.toList):=by
        rw[Bool.eq_iff_iff,MapKept.bytes_beq,beq_iff_eq]
        exact⟨λh=>by rw[h],λh=>by
          have:mkStr a.toList=mkStr b.toList:=(by rw[h]);obtain⟨⟨l⟩⟩:=a;obtain⟨⟨m⟩⟩:=b
          simpa[mkStr]using this⟩
      simp[Op.equalIn,run_underlying hd,dw,Result.andThen,this]
    | bool=>
      have hq:[D.bool]=k0:=Option.some.inj hq;subst hq;obtain⟨x,y,e1,e2⟩:=X5 hp rfl;rw[e1,e2]at hp ⊢;refine⟨x,y,qX hd rfl (uF e1),qX hd rfl (uF e2),λw=>?_⟩
      cases x <;> cases y <;> simp[dv]at hp
      simp[Op.equalIn,run_underlying hd,dw,Result.andThen]
    | struct fs=>
      have hq:(bif P.stoodInHeld t then none else rR (flatK P f) fs.toList 0)=some k0:=hq
      cases hs:P.stoodInHeld t with
      | true=>rw[hs]at hq;cases hq
      | false=>
      rw[hs]at hq;have hq:rR (flatK P f) fs.toList 0=some k0:=hq
      have ex:∀(Z:Array Value) (b:Nat),((Z.extract b (b+i.size)).toList.drop 0).take k0.length=(Z.toList.drop b).take k0.length:=λZ b=>by
        rw[List.drop_zero,Array.toList_extract,List.extract_eq_take_drop,List.take_take];congr 1;omega
      have kA:dv k0 (((X.extract o (o+i.size)).toList.drop 0).take k0.length) (((Y.extract o' (o'+i.size)).toList.drop 0).take k0.length)=true:=(by rw[ex,ex];exact hp);obtain⟨q1,q2⟩:=AR (n:=n) (λu ks hu=>ih u ks hu n (by omega)) _ _ fs.toList 0 k0 hq kA;rw[ex,ex]at q2;refine⟨_,_,qY hd hi rfl X o,qY hd hi rfl Y o',λw=>?_⟩;rw[Op.equalIn];simp only[Sem.run_bind,run_underlying hd,Result.andThen_ok,run_program,hs,Bool.false_eq_true,if_false];rw[<-Array.forIn_toList,tB _ _ ⟨some false,()⟩ (λfd=>dw (((X.extract o (o+i.size)).toList.drop fd.offset).take ((flatK P f fd.type).getD []).length) (((Y.extract o' (o'+i.size)).toList.drop fd.offset).take ((flatK P f fd.type).getD []).length)) w]
      · rw[q2]
        cases dw ((X.toList.drop o).take k0.length) ((Y.toList.drop o').take k0.length) <;> simp[Sem.run_pure]
      · intro fd hfd
        obtain⟨fB,x,y,e1,e2,e3⟩:=q1 fd hfd;rw[if_pos fB];simp only[Sem.run_bind,e1,e2,e3,Result.andThen_ok]
        cases dw (((X.extract o (o+i.size)).toList.drop fd.offset).take ((flatK P f fd.type).getD []).length) (((Y.extract o' (o'+i.size)).toList.drop fd.offset).take ((flatK P f fd.type).getD []).length) <;> simp[Sem.run_pure]
    | array len e=>
      have hq:(flatK P f e).map (λks=>(List.replicate len ks).flatten)=some k0:=hq
      cases he:flatK P f e with
      | none=>rw[he]at hq;cases hq
      | some k1=>
      rw[he]at hq;have hq:(List.replicate len k1).flatten=k0:=Option.some.inj hq;subst hq;have hL:(List.replicate len k1).flatten.length=len*k1.length:=(by simp);obtain⟨ie,X6,CB⟩:=Dl he
      have ex:∀(Z:Array Value) (b:Nat),((Z.extract b (b+i.size)).toList.drop (0*k1.length)).take (len*k1.length)=(Z.toList.drop b).take (List.replicate len k1).flatten.length:=λZ b=>by
        rw[Nat.zero_mul,List.drop_zero,Array.toList_extract,List.extract_eq_take_drop,List.take_take];congr 1;omega
      have kA:dv (List.replicate len k1).flatten (((X.extract o (o+i.size)).toList.drop (0*k1.length)).take (len*k1.length)) (((Y.extract o' (o'+i.size)).toList.drop (0*k1.length)).take (len*k1.length))=true:=(by rw[ex,ex];exact hp);obtain⟨q1,q2⟩:=vD (n:=n) (ih e k1 he n (by omega)) _ _ len 0 kA;rw[ex,ex]at q2;refine⟨_,_,qY hd hi rfl X o,qY hd hi rfl Y o',λw=>?_⟩;rw[Op.equalIn];simp only[Sem.run_bind,run_underlying hd,Result.andThen_ok,bI X6,CB];rw[Std.Legacy.Range.forIn_eq_forIn_range'];simp only[Std.Legacy.Range.size,Nat.sub_zero,Nat.add_sub_cancel,Nat.div_one];rw[tB _ _ ⟨some false,()⟩ (λj=>dw (((X.extract o (o+i.size)).toList.drop (j*k1.length)).take k1.length) (((Y.extract o' (o'+i.size)).toList.drop (j*k1.length)).take k1.length)) w]
      · rw[q2]
        cases dw ((X.toList.drop o).take (List.replicate len k1).flatten.length) ((Y.toList.drop o').take (List.replicate len k1).flatten.length) <;> simp[Sem.run_pure]
      · intro j hj
        obtain⟨x,y,e1,e2,e3⟩:=q1 j hj;simp only[Sem.run_bind,e1,e2,e3,Result.andThen_ok]
        cases dw (((X.extract o (o+i.size)).toList.drop (j*k1.length)).take k1.length) (((Y.extract o' (o'+i.size)).toList.drop (j*k1.length)).take k1.length) <;> simp[Sem.run_pure]
    | _=>cases hq
theorem Dm : ∀{a b:List D},ym a b=true->a=b
  | [],[],_=>rfl
  | [],_::_,h=>by simp[ym]at h
  | _::_,[],h=>by simp[ym]at h
  | a::r,b::s,h=>by
    simp only[ym,Bool.and_eq_true]at h
    have h1:a=b:=by
      have:=h.1
      cases a <;> cases b <;> simp[VI]at this <;> first|rfl|(rw[lA this])
    rw[h1,Dm h.2]
theorem Dn{x:TI}(hx:bA P t x)(fB:x.eq≠[]){a b:Array Value}(hp:dv x.eq a.toList b.toList=true)(w:World) :
    (Op.equal t (.agg a) (.agg b)).run P w = .ok (dw a.toList b.toList) w/\P.eqGuardType P.depth t=false:=by
  have h:=hx.eqs;unfold VJ at h
  split at h
  · rename_i he;exact absurd he fB
  rename_i ks Oo
  cases hf:flatK P 6 t with
  | none=>rw[hf]at h;cases h
  | some l=>
  rw[hf]at h;simp only[Bool.and_eq_true,Bool.not_eq_true']at h;obtain⟨⟨h1,h2⟩,hu⟩:=h;have h1:=Dm h1;rw[<-h1]at hf;refine⟨?_,h2⟩;obtain⟨i,d,z,hi,hd,vT,iH,_,_,_⟩:=hx.get;obtain⟨l1,l2⟩:=tA _ _ _ hp;have ta:a.toList.take x.eq.length=a.toList:=List.take_of_length_le (by omega);have tb:b.toList.take x.eq.length=b.toList:=List.take_of_length_le (by omega);obtain⟨i',oK,hs'⟩:=Dl hf;have hp0:dv x.eq ((a.toList.drop 0).take x.eq.length) ((b.toList.drop 0).take x.eq.length)=true:=by rw[List.drop_zero,List.drop_zero,ta,tb];exact hp
  obtain⟨u,v,e1,e2,e3⟩:=O5 6 t _ hf Op.maxDepth (by decide) a b 0 0 hp0;rw[List.drop_zero,List.drop_zero,ta,tb]at e3
  cases ha:ir (aq d)with
  | true=>
    have g1:=qY hd oK ha a 0 w;have g2:=qY hd oK ha b 0 w;rw[e1]at g1;rw[e2]at g2
    have ea:a.extract 0 (0+i'.size)=a:=by
      apply Array.ext';rw[Array.toList_extract,List.extract_eq_take_drop,List.drop_zero,hs'];exact List.take_of_length_le (by omega)
    have eb:b.extract 0 (0+i'.size)=b:=by
      apply Array.ext';rw[Array.toList_extract,List.extract_eq_take_drop,List.drop_zero,hs'];exact List.take_of_length_le (by omega)
    rw[ea]at g1;rw[eb]at g2;have g1:u = .agg a:=(by injection g1);have g2:v = .agg b:=(by injection g2);have:=e3 w;rw[g1,g2]at this;exact this
  | false=>
    rw[hd]at hu
    cases d <;> simp[ir,aq]at ha hu
theorem Gy{q y:Nat×Operand}:∀{r:List (Nat×Operand)},y∈vQ q r↔y=q∨y∈r
  | []=>by simp[vQ]
  | x::r=>by
    rw[vQ]
    cases Nat.ble q.1 x.1
    · show y∈x::vQ q r↔_
      rw[List.mem_cons,Gy,List.mem_cons]
      constructor
      · rintro(h|h|h)
        · exact Or.inr (Or.inl h)
        · exact Or.inl h
        · exact Or.inr (Or.inr h)
      · rintro(h|h|h)
        · exact Or.inr (Or.inl h)
        · exact Or.inl h
        · exact Or.inr (Or.inr h)
    · exact List.mem_cons
theorem yp{y:Nat×Operand}:∀{r:List (Nat×Operand)},y∈sN r↔y∈r
  | []=>Iff.rfl
  | x::r=>by rw[sN,Gy,yp,List.mem_cons]
theorem gB{f:Fr}{x:Nat×Operand}{r:List (Nat×Operand)}(h:x.1≠i):dN f i (x::r)=dN f i r:=by
  obtain⟨j,o⟩:=x;rw[ki,show Nat.beq j i=false from by cases hb:Nat.beq j i with|false=>rfl|true=>exact absurd (Nat.eq_of_beq_eq_true hb) h];rfl
theorem iG{f:Fr}{x:Nat×Operand}{r:List (Nat×Operand)}(h:x.1=i):dN f i (x::r)=some (tw f x.2):=by
  obtain⟨j,o⟩:=x;have h:j=i:=h;subst h;rw[ki,show Nat.beq j j=true from Nat.beq_refl j];rfl
theorem vE{f:Fr}{i:Nat}{q:Nat×Operand}:∀{r:List (Nat×Operand)},(∀x∈r,x.1≠q.1)->dN f i (vQ q r)=dN f i (q::r)
  | [],_=>rfl
  | x::r,h=>by
    rw[vQ]
    cases Nat.ble q.1 x.1
    · show dN f i (x::vQ q r)=_
      have hx:=h x (List.mem_cons_self ..);have ih:=vE (f:=f) (i:=i) (q:=q) (r:=r) λy hy=>h y (List.mem_cons_of_mem _ hy)
      by_cases hi:x.1=i
      · rw[iG hi,gB (x:=q) (by rw[<-hi];exact Ne.symm hx),iG hi]
      · rw[gB hi,ih]
        by_cases hq:q.1=i
        · rw[iG hq,iG hq]
        · rw[gB hq,gB hq,gB hi]
    · rfl
theorem AU{f:Fr}{q:Nat×Operand}{r s:List (Nat×Operand)}(h:dN f i r=dN f i s):dN f i (q::r)=dN f i (q::s):=by
  by_cases hq:q.1=i
  · rw[iG hq,iG hq]
  · rw[gB hq,gB hq,h]
theorem Dp{n:Nat}:∀{r:List (Nat×Operand)} {m:Nat},sorted n r m=true->∀x∈r,m<=x.1/\x.1<n
  | [],_,_,x,hx=>absurd hx (by simp)
  | (j,o)::r,m,h,x,hx=>by
    obtain⟨h1,h2,h3⟩:=iy h
    rcases List.mem_cons.mp hx with rfl|hx
    · exact⟨h1,h2⟩
    · have:=Dp h3 x hx;exact⟨by omega,this.2⟩
theorem vV{n:Nat}{q:Nat×Operand}:∀{r:List (Nat×Operand)} {m:Nat},sorted n (vQ q r) m=true->sorted n r m=true/\(∀x∈r,x.1≠q.1)/\q.1<n
  | [],m,h=>by
    obtain⟨_,h2,_⟩:=iy (x:=q.2) (j:=q.1) (r:=[]) h;exact⟨rfl,λx hx=>absurd hx (by simp),h2⟩
  | x::r,m,h=>by
    rw[vQ]at h
    cases hb:Nat.ble q.1 x.1 with
    | true=>
      rw[hb]at h;have h:sorted n (q::x::r) m=true:=h;obtain⟨h1,h2,h3⟩:=iy (x:=q.2) (j:=q.1) h;have g:=Dp h3;exact⟨Gu h3 (by omega),λy hy=>by have:=(g y hy).1;omega,h2⟩
    | false=>
      rw[hb]at h;have h:sorted n (x::vQ q r) m=true:=h;obtain⟨h1,h2,h3⟩:=iy (x:=x.2) (j:=x.1) h;obtain⟨a,b,c⟩:=vV h3;have dh:¬q.1<=x.1:=λe=>by rw[Nat.ble_eq_true_of_le e]at hb;cases hb
      refine⟨?_,λy hy=>?_,c⟩
      · obtain⟨j,o⟩:=x
        simp only[sorted,Bool.and_eq_true];exact⟨⟨Nat.ble_eq_true_of_le h1,Nat.ble_eq_true_of_le h2⟩,a⟩
      · rcases List.mem_cons.mp hy with rfl|hy
        · omega
        · exact b y hy
theorem tC{f:Fr}{n m:Nat}:∀{r:List (Nat×Operand)},sorted n (sN r) m=true->∀i,dN f i (sN r)=dN f i r
  | [],_,_=>rfl
  | q::r,h,i=>by
    rw[sN]at h ⊢;obtain⟨a,b,_⟩:=vV h;rw[vE b];exact AU (tC a i)
theorem oX{f:Fr}{Z:LV}{p1 p2:List (Nat×Operand)}(hf:∀ i,dN f i p1=dN f i p2){k:List LV->Prop}:∀{lX:List (Nat×Nat)} {i:Nat} {acc:List LV},iX f p1 Z lX i acc k->iX f p2 Z lX i acc k
  | [],_,_,h=>h
  | (off,size)::r,i,acc,h=>by
    simp only[iX]at h ⊢;rw[<-hf i]
    cases e:dN f i p1 with
    | none=>rw[e]at h;exact oX hf h
    | some o=>
      rw[e]at h
      cases o with
      | none=>exact h
      | some v=>
        simp only[ae]at h ⊢
        cases v with
        | agg a=>exact⟨h.1,oX hf h.2⟩
        | tuple _=>exact h
        | _=>
          cases hb:Nat.beq size 1
          · rw[hb]at h;exact h
          · rw[hb]at h;exact oX hf h
theorem Ai(l c:LV)(o i:Nat)(h:o+c.length<=l.length):(l.take o++c++l.drop (o+c.length))[i]?=if o<=i/\i<o+c.length then c[i-o]? else l[i]?:=by
  have lt:(l.take o).length=o:=by rw[List.length_take];omega
  by_cases h1:i<o
  · rw[if_neg (by omega),List.append_assoc,List.getElem?_append_left (by omega),List.getElem?_take_of_lt h1]
  · by_cases h2:i<o+c.length
    · rw[if_pos ⟨by omega,h2⟩,List.getElem?_append_left (by rw[List.length_append];omega),List.getElem?_append_right (by omega),lt]
    · rw[if_neg (by omega),List.getElem?_append_right (by rw[List.length_append];omega),List.length_append,lt,List.getElem?_drop]
      congr 1;omega
theorem O6(l c1 c2:LV)(o1 o2:Nat)(h1:o1+c1.length<=l.length)(h2:o2+c2.length<=l.length)(hd:o1+c1.length<=o2∨o2+c2.length<=o1) :
    (l.take o1++c1++l.drop (o1+c1.length)).take o2++c2++(l.take o1++c1++l.drop (o1+c1.length)).drop (o2+c2.length)=(l.take o2++c2++l.drop (o2+c2.length)).take o1++c1++(l.take o2++c2++l.drop (o2+c2.length)).drop (o1+c1.length):=by
  have k1:(l.take o1++c1++l.drop (o1+c1.length)).length=l.length:=by simp only[List.length_append,List.length_take,List.length_drop];omega
  have k2:(l.take o2++c2++l.drop (o2+c2.length)).length=l.length:=by simp only[List.length_append,List.length_take,List.length_drop];omega
  apply List.ext_getElem?;intro i;rw[Ai _ c2 o2 i (by omega),Ai _ c1 o1 i (by omega),Ai _ c1 o1 i (by omega),Ai _ c2 o2 i (by omega)]
  by_cases a:o1<=i/\i<o1+c1.length
  · rw[if_pos a,if_pos a,if_neg (by omega)]
  · rw[if_neg a,if_neg a]
theorem KH : ∀{lX:List (Nat×Nat)} {m n j:Nat} {o s:Nat},tm lX m n=true->lX[j]?=some (o,s)->m<=o
  | [],_,_,_,_,_,_,h=>absurd h (by simp)
  | (off,size)::r,m,n,j,o,s,hl,h=>by
    simp only[tm,Bool.and_eq_true]at hl;have h1:=Nat.eq_of_beq_eq_true hl.1
    cases j with
    | zero=>simp only[List.getElem?_cons_zero,Option.some.injEq,Prod.mk.injEq]at h;omega
    | succ j=>rw[List.getElem?_cons_succ]at h;have:=KH hl.2 h;omega
theorem AV : ∀{lX:List (Nat×Nat)} {m n i j:Nat} {o1 s1 o2 s2:Nat},tm lX m n=true->lX[i]?=some (o1,s1)->lX[j]?=some (o2,s2)->i<j->o1+s1<=o2
  | [],_,_,_,_,_,_,_,_,_,h,_,_=>absurd h (by simp)
  | (off,size)::r,m,n,i,j,o1,s1,o2,s2,hl,h1,h2,Iv=>by
    simp only[tm,Bool.and_eq_true]at hl;have e:=Nat.eq_of_beq_eq_true hl.1
    cases j with
    | zero=>omega
    | succ j=>
      rw[List.getElem?_cons_succ]at h2
      cases i with
      | zero=>
        simp only[List.getElem?_cons_zero,Option.some.injEq,Prod.mk.injEq]at h1;have:=KH hl.2 h2;omega
      | succ i=>
        rw[List.getElem?_cons_succ]at h1;exact AV hl.2 h1 h2 (by omega)
def IM(place:Nat->Option (Nat×Nat))(n:Nat)(q:Nat×Value):Prop:=∃off size,place q.1=some (off,size)/\q.2.cells.size=size/\off+size<=n
theorem xd{place:Nat->Option (Nat×Nat)}{l:LV}{q:Nat×Value}(h:IM place l.length q):(mO place l q).length=l.length:=by
  obtain⟨o,s,h1,h2,h3⟩:=h;have e:(ky q.2).length=s:=by rw[iE,Array.length_toList,h2]
  simp only[mO,h1,List.length_append,List.length_take,List.length_drop,e];omega
theorem IP{place:Nat->Option (Nat×Nat)}{l:LV}{q x:Nat×Value}(hq:IM place l.length q)(hx:IM place l.length x)(fB:x.1≠q.1)
    (hd:∀i j o1 s1 o2 s2,place i=some (o1,s1)->place j=some (o2,s2)->i<j->o1+s1<=o2):mO place (mO place l x) q=mO place (mO place l q) x:=by
  obtain⟨o1,s1,a1,a2,a3⟩:=hx;obtain⟨o2,s2,b1,b2,b3⟩:=hq;have e1:(ky x.2).length=s1:=by rw[iE,Array.length_toList,a2]
  have e2:(ky q.2).length=s2:=by rw[iE,Array.length_toList,b2]
  simp only[mO,a1,b1];rw[<-e1,<-e2];refine O6 l _ _ o1 o2 (by omega) (by omega) ?_
  rcases Nat.lt_or_ge x.1 q.1 with h|h
  · left;rw[e1];exact hd _ _ _ _ _ _ a1 b1 h
  · right;rw[e2];exact hd _ _ _ _ _ _ b1 a1 (by omega)
theorem Gz{place:Nat->Option (Nat×Nat)}{ρ:Operand->Value}{n:Nat}(hd:∀ i j o1 s1 o2 s2,place i=some (o1,s1)->place j=some (o2,s2)->i<j->o1+s1<=o2){q:Nat×Operand} :
    ∀{r:List (Nat×Operand)} {l:LV},l.length=n->IM place n (q.1,ρ q.2)->(∀x∈r,IM place n (x.1,ρ x.2)/\x.1≠q.1)->
      ((vQ q r).map λq=>(q.1,ρ q.2)).foldl (mO place) l=((q::r).map λq=>(q.1,ρ q.2)).foldl (mO place) l
  | [],_,_,_,_=>rfl
  | x::r,l,hl,hq,h=>by
    rw[vQ]
    cases Nat.ble q.1 x.1
    · show((x::vQ q r).map λq=>(q.1,ρ q.2)).foldl (mO place) l=_
      obtain⟨fx,nx⟩:=h x (List.mem_cons_self ..);subst hl;rw[List.map_cons,List.foldl_cons,Gz hd (xd fx) hq λy hy=>h y (List.mem_cons_of_mem _ hy)];rw[List.map_cons,List.foldl_cons,List.map_cons,List.foldl_cons,List.map_cons,List.foldl_cons];rw[IP hq fx nx hd]
    · rfl
theorem AW{place:Nat->Option (Nat×Nat)}{ρ:Operand->Value}{n m nn:Nat}(hd:∀ i j o1 s1 o2 s2,place i=some (o1,s1)->place j=some (o2,s2)->i<j->o1+s1<=o2) :
    ∀{r:List (Nat×Operand)} {l:LV},l.length=n->sorted nn (sN r) m=true->(∀x∈r,IM place n (x.1,ρ x.2))->
      ((sN r).map λq=>(q.1,ρ q.2)).foldl (mO place) l=(r.map λq=>(q.1,ρ q.2)).foldl (mO place) l
  | [],_,_,_,_=>rfl
  | q::r,l,hl,hs,h=>by
    rw[sN]at hs ⊢;obtain⟨a,b,_⟩:=vV hs;have hq:=h q (List.mem_cons_self ..);rw[Gz hd hl hq λx hx=>⟨h x (List.mem_cons_of_mem _ (yp.mp hx)),b x hx⟩];rw[List.map_cons,List.map_cons,List.foldl_cons,List.foldl_cons];subst hl;exact AW hd (xd hq) a λx hx=>h x (List.mem_cons_of_mem _ hx)
theorem vW{f:Fr}{ρ:Operand->Value}(hρ:∀ x v,tw f x=some v->ρ x=v)(place:Nat->Option (Nat×Nat))(Z:LV)(lX:List (Nat×Nat))(parts:List (Nat×Operand))
    (k:List LV->Prop) (h:iX f parts Z lX 0 [] k) (hs:sorted lX.length (sN parts) 0=true) (hp:∀idx,idx<lX.length->place idx=lX[idx]?) (hl:tm lX 0 Z.length=true)
    (hd:∀i j o1 s1 o2 s2,place i=some (o1,s1)->place j=some (o2,s2)->i<j->o1+s1<=o2) :
    ∃CD,k CD/\Instr.fill place ⟨Z⟩ (parts.map λq=>(q.1,ρ q.2))=some ⟨oG CD⟩:=by
  have h':=oX (λi=>(tC hs i).symm) h;obtain⟨CD,h1,h2,h3⟩:=vU hρ place Z lX 0 0 (sN parts) [] k [] h' (by simpa using hs) (by simpa using hp) hl rfl;have IQ:∀q∈parts,IM place Z.length (q.1,ρ q.2):=λq hq=>h3 q (yp.mpr hq)
  obtain⟨c',f1,f2,f3⟩:=KF place Z (parts.map λq=>(q.1,ρ q.2)) ⟨Z⟩ (by simp) (by
    intro q hq;obtain⟨p,hp,rfl⟩:=List.mem_map.1 hq
    exact IQ p hp)
  refine⟨CD,by simpa using h1,?_⟩;rw[f1];congr 1;apply Array.ext';rw[f3];simp only[List.nil_append,List.drop_zero]at h2;rw[AW hd rfl hs IQ]at h2;rw[h2,Dg]
theorem IU{lX:List (Nat×Nat)}(hl:tm lX m n=true):∀(i j o1 s1 o2 s2:Nat),lX[i]?=some (o1,s1)->lX[j]?=some (o2,s2)->i<j->o1+s1<=o2:=
  λ_ _ _ _ _ _ h1 h2 h=>AV hl h1 h2 h
theorem AX(size:Nat):∀(i j o1 s1 o2 s2:Nat),(λi:Nat=>some (i*size,size)) i=some (o1,s1)->(λi:Nat=>some (i*size,size)) j=some (o2,s2)->i<j->o1+s1<=o2:=by
  intro i j o1 s1 o2 s2 h1 h2 h;simp only[Option.some.injEq,Prod.mk.injEq]at h1 h2;obtain⟨rfl,rfl⟩:=h1;obtain⟨rfl,_⟩:=h2;have:=Nat.mul_le_mul_right size (show i+1<=j from h);rw[Nat.add_mul,Nat.one_mul]at this;exact this
theorem oY(parts:Array (Nat×Operand))(ρ:Operand->Value):(parts.map λ(i,x)=>(i,ρ x)).toList=parts.toList.map λq=>(q.1,ρ q.2):=by simp
theorem j7(size:Nat):∀(n i:Nat),(jH size n i).length=n
  | 0,_=>rfl
  | n+1,i=>by simp[jH,j7 size n (i+1)]
theorem rT(size:Nat):∀(n i idx:Nat),idx<n->(jH size n i)[idx]?=some ((i+idx)*size,size)
  | 0,_,_,h=>by omega
  | n+1,i,0,_=>by simp[jH]
  | n+1,i,idx+1,h=>by
    simp only[jH,List.getElem?_cons_succ];rw[rT size n (i+1) idx (by omega)];rw[show i+1+idx=i+(idx+1) by omega]
theorem rU(size:Nat):∀(n i:Nat),tm (jH size n i) (i*size) ((i+n)*size)=true
  | 0,i=>by simp[jH,tm]
  | n+1,i=>by
    simp only[jH,tm,Bool.and_eq_true];refine⟨by simp,?_⟩;have:=rU size n (i+1);rw[show i*size+size=(i+1)*size by rw[Nat.add_mul,Nat.one_mul],show i+(n+1)=i+1+n by omega];exact this
theorem zN{C:Ctx}(hC:jQ C){t:Nat}{fs:List (Nat×Nat)}(hx:bA C.P t (C.ti t))(hd:(C.ti t).d = .struct fs){f:Fr}{ρ:Operand->Value}(hρ:∀ x v,tw f x=some v->ρ x=v)
    {parts:Array (Nat×Operand)} {k:Value->Prop}
    (h1:qF fs.length parts.toList=true) (h2:(fs.all λx=>(C.ti x.2).ok)=true) (h3:tm (fs.map λx=>(x.1,(C.ti x.2).cells)) 0 (C.ti t).cells=true)
    (h:iX f parts.toList (C.ti t).zero (fs.map λx=>(x.1,(C.ti x.2).cells)) 0 [] λxs=>k (.agg ⟨oG xs⟩)) :
    Qt C.P (Instr.build t (parts.map λ(i,x)=>(i,ρ x))) k:=by
  obtain⟨i,d,z,hi,hu,vT,iH,hb,hz,EK⟩:=hx.get;rw[hd]at vT
  cases d <;> simp[aq]at vT
  rename_i fields
  let lX:=fs.map λx=>(x.1,(C.ti x.2).cells)
  have Sv:fields.toList.mapM (λf=>(C.P.info? f.type).map λi=>(f.offset,i.size))=some lX:=by
    have key:∀l:List Field,(∀x∈l.map (λf=>(f.offset,f.type)),(C.ti x.2).ok=true)->
        l.mapM (λf=>(C.P.info? f.type).map λi=>(f.offset,i.size))=some ((l.map λf=>(f.offset,f.type)).map λx=>(x.1,(C.ti x.2).cells)):=by
      intro l
      induction l with
      | nil=>intro _;rfl
      | cons a l ih=>
        intro GA;have ha:=hC.ok (GA (a.offset,a.type) (by simp));obtain⟨ia,_,_,hia,_,_,hsa,_⟩:=ha.get;rw[List.mapM_cons,ih (λx hx=>GA x (by simp only[List.map_cons,List.mem_cons];exact .inr hx))];simp only[hia,Option.map_some,List.map_cons,hsa];rfl
    rw[key fields.toList (by rw[vT];simpa using h2),vT]
  obtain⟨CD,hk,hf⟩:=vW hρ (λi=>lX[i]?) (C.ti t).zero lX parts.toList _ h (by simpa[lX,qF]using h1) (λ_ _=>rfl) (by rw[hx.len];exact h3) (IU h3);refine⟨_,λw=>?_,hk⟩;have X7:z.cells=⟨(C.ti t).zero⟩:=by apply Array.ext';rw[<-iE,EK]
  refine run_build w t _ _ ?_;rw[oY];simp only[Program.built,hi,hu,hz,Sv,X7];simpa using hf
theorem EP{C:Ctx}(hx:bA C.P t (C.ti t))(hd:(C.ti t).d = .arr n e)(KI:bA C.P e (C.ti e)){f:Fr}{ρ:Operand->Value}(hρ:∀ x v,tw f x=some v->ρ x=v)
    {parts:Array (Nat×Operand)} {k:Value->Prop}
    (h1:qF n parts.toList=true) (h2:Nat.beq (n*(C.ti e).cells) (C.ti t).cells=true)
    (h:iX f parts.toList (C.ti t).zero (jH (C.ti e).cells n 0) 0 [] λxs=>k (.agg ⟨oG xs⟩)) :
    Qt C.P (Instr.build t (parts.map λ(i,x)=>(i,ρ x))) k:=by
  obtain⟨i,d,z,hi,hu,vT,iH,hb,hz,EK⟩:=hx.get;obtain⟨ie,_,_,X6,_,_,CB,_⟩:=KI.get;rw[hd]at vT
  cases d <;> simp[aq]at vT
  obtain⟨en,ee⟩:=vT;rw[en,ee]at hu;have hlen:=Nat.eq_of_beq_eq_true h2;obtain⟨CD,hk,hf⟩:=vW hρ (λi=>some (i*ie.size,ie.size)) (C.ti t).zero _ parts.toList _ h (by rw[j7];exact h1)
    (λidx O7=>by rw[j7]at O7;rw[rT _ _ _ _ O7,CB];simp)
    (by have:=rU (C.ti e).cells n 0
        rw[hx.len,<-hlen];simpa using this)
    (AX ie.size)
  refine⟨_,λw=>?_,hk⟩;have X7:z.cells=⟨(C.ti t).zero⟩:=by apply Array.ext';rw[<-iE,EK]
  refine run_build w t _ _ ?_;rw[oY];simp only[Program.built,hi,hu,hz,X6,X7];exact hf
theorem CF{C:Ctx}(hd:∃ d,C.P.underlying t=some d/\aq d = .slice e)(KI:bA C.P e (C.ti e)){f:Fr}{ρ:Operand->Value}(hρ:∀ x v,tw f x=some v->ρ x=v)
    {parts:Array (Nat×Operand)} {k:KT} {w:World}
    (h1:qF n parts.toList=true) (h2:Nat.ble (n*(C.ti e).cells) 16777216=true)
    (h:iX f parts.toList (aW (C.ti e).zero n) (jH (C.ti e).cells n 0) 0 [] λxs=>k (.slice (some ⟨w.heap.size,0,none⟩) n n) (oF w.heap (oG xs) e)) :
    To C.P (Instr.buildSlice t n (parts.map λ(i,x)=>(i,ρ x))) w k:=by
  obtain⟨ie,d,z,X6,_,_,CB,_,hz,EK⟩:=KI.get;obtain⟨dt,AN,hsl⟩:=hd;have hu:C.P.underlying t=some (.slice e):=by cases dt <;> simp[aq]at hsl;subst hsl;exact AN
  have pz:=Nat.le_of_ble_eq_true h2
  have hzl:z.cells.size=ie.size:=by
    have:=KI.len;rw[<-EK,iE]at this;rw[CB,<-this];simp
  obtain⟨CD,hk,hf⟩:=vW hρ (λi=>some (i*ie.size,ie.size)) (aW (C.ti e).zero n) _ parts.toList _ h (by rw[j7];exact h1)
    (λidx O7=>by rw[j7]at O7;rw[rT _ _ _ _ O7,CB];simp)
    (by have:=rU (C.ti e).cells n 0
        rw[j6,KI.len];simpa using this)
    (AX ie.size)
  refine⟨.slice (some ⟨w.heap.size,0,none⟩) n n,w.alloc (.cells ⟨oG CD⟩ e),?_,⟨rfl,rfl,rfl⟩,hk⟩;have X1:(zeroValue e).run C.P w = .ok z w:=by simp[zeroValue,hU X6,hz]
  have aa2:(Array.range (n*ie.size)).map (λx=>z.cells[x%z.cells.size]!)=⟨aW (C.ti e).zero n⟩:=by
    have:=xc z n;rw[hzl,EK]at this;exact this
  by_cases hn:n*ie.size=0
  · have hm0:(Array.range (n*ie.size)).map (λx=>(#[]:Array Value)[x%(#[]:Array Value).size]!)=⟨aW (C.ti e).zero n⟩:=by
      have hz0:aW (C.ti e).zero n=[]:=List.eq_nil_of_length_eq_zero (by rw[j6,KI.len,<-CB];exact hn);rw[hz0,hn];apply Array.ext';simp
    simp only[Instr.buildSlice,Sem.run_bind,run_underlying hu,Result.andThen_ok,bI X6,Sem.run_ite,if_pos hn];rw[if_neg (by rw[CB];omega)];simp only[Sem.run_pure,Result.andThen_ok,hm0,oY,hf,newRow,Sem.run_bind,run_newObj];rfl
  · simp only[Instr.buildSlice,Sem.run_bind,run_underlying hu,Result.andThen_ok,bI X6,Sem.run_ite,if_neg hn]
    rw[if_neg (by rw[CB];omega)];simp only[Sem.run_bind,X1,Sem.run_pure,Result.andThen_ok,aa2,oY,hf,newRow,run_newObj];rfl
def Fit(f:Fr)(ρ:Operand->Value):Prop:=∀x v,tw f x=some v->ρ x=v
theorem bm{f:Fr}{ρ:Operand->Value}(hρ:Fit f ρ){x:Operand}{k:Value->Prop}(h:lW f x k):k (ρ x):=by
  cases x with
  | tmp t=>
    simp only[lW]at h
    cases hg:Fr.get f t with
    | none=>rw[hg]at h;exact h.elim
    | some v=>rw[hg]at h;rw[hρ (.tmp t) v hg];exact h
  | const v=>rw[hρ (.const v) v rfl];exact h
  | global g=>rw[hρ (.global g) _ rfl];exact h
  | func g=>rw[hρ (.func g) _ rfl];exact h
theorem jX{v:Value}{k:IntKind->Int->Prop}(h:vy v k):∃kd n,v = .int kd n/\k kd n:=by cases v <;> first|exact h.elim|exact⟨_,_,rfl,h⟩
theorem tD{v:Value}{k:Bool->Prop}(h:Ez v k):∃b,v = .bool b/\k b:=by cases v <;> first|exact h.elim|exact⟨_,rfl,h⟩
theorem vX{v:Value}{k:OA->Prop}(h:th v k):∃q,v = .pointer q/\k q:=by cases v <;> first|exact h.elim|exact⟨_,rfl,h⟩
theorem jY{v:Value}{k:OA->Nat->Nat->Prop}(h:oT v k):∃a l c,v = .slice a l c/\k a l c:=by cases v <;> first|exact h.elim|exact⟨_,_,_,rfl,h⟩
theorem vY{v:Value}{k:LV->Prop}(h:Kp v k):∃cs,v = .agg ⟨cs⟩/\k cs:=by
  cases v <;> try exact h.elim
  rename_i a;exact⟨a.toList,by simp,h⟩
theorem rW{v:Value}{k:ByteArray->Prop}(h:Da v k):∃s,v = .string s/\k s:=by cases v <;> first|exact h.elim|exact⟨_,rfl,h⟩
theorem IV{v:Value}{k:LV->Prop}(h:VE v k):∃vs,v = .tuple ⟨vs⟩/\k vs:=by
  cases v <;> try exact h.elim
  rename_i a;exact⟨a.toList,by simp,h⟩
theorem kM{v:Value}{k:Option Nat->Prop}(h:sM v k):∃q,v = .map q/\k q:=by cases v <;> first|exact h.elim|exact⟨_,rfl,h⟩
theorem aV{α:Type}{o:Option α}{k:α->Prop}(h:ae o k):∃a,o=some a/\k a:=by cases o <;> first|exact h.elim|exact⟨_,rfl,h⟩
theorem pJ{f:Fr}{ρ:Operand->Value}(hρ:Fit f ρ){x:Operand}{k:Addr->Prop}(h:lW f x λv=>th v λq=>ae q k):∃p,ρ x = .pointer (some p)/\k p:=by
  obtain⟨q,hq,h1⟩:=vX (bm hρ h);obtain⟨p,hp,h2⟩:=aV h1;exact⟨p,by rw[hq,hp],h2⟩
theorem AY{f:Fr}{ρ:Operand->Value}(hρ:Fit f ρ){lo:Option Operand}{k:Option Int->Prop}(h:loX f lo k):∃q,lo.map ρ=CC q/\k (ins q):=by
  cases lo with
  | none=>exact⟨none,rfl,h⟩
  | some x=>
    obtain⟨kd,n,hv,hk⟩:=jX (bm hρ h);exact⟨some (kd,n),by simp[CC,hv],hk⟩
theorem ig{f:Fr}{ρ:Operand->Value}(hρ:Fit f ρ):∀{l:List Operand} {acc:LV} {k:LV->Prop},yh f l acc k->k (acc++l.map ρ)
  | [],_,_,h=>by simpa[yh]using h
  | x::r,acc,k,h=>by
    have:=ig hρ (bm hρ (show lW f x _ from h));simpa using this
def vm(P:Program)(ρ:Operand->Value)(o:Oper)(w:World)(k:Value->World->Prop):Prop:=
  (∃v w',(execOp ρ o).run P w = .ok (.value v) w'/\k v w')∨
  (∃w',(execOp ρ o).run P w = .ok .skip w'/\k undef w')∨
  (∃g args,(execOp ρ o).run P w = .ok (.enter g args) w/\Calls P g args w λe X8=>∃v,e = .returned v/\k v X8)∨
  (∃l fn tmps assign body,(execOp ρ o).run P w = .ok (.round l fn tmps assign body) w/\RoundIn Fence.wide 0 P l fn tmps assign body w λe X8=>∃v,e = .returned v/\k v X8)
def HK(w:World)(k:KT):Value->World->Prop:=λv w'=>aP w w'/\k v w'.heap
theorem vm.val{ρ:Operand->Value}{o:Oper}{s:Sem Value}{k:KT}(he:execOp ρ o=(do Pure.pure (.value (<- s))))(h:To P s w k):vm P ρ o w (HK w k):=by
  obtain⟨v,w',h1,h2,h3⟩:=h;exact .inl ⟨v,w',by rw[he,Sem.run_bind,h1];rfl,h2,h3⟩
theorem kj : ∀{Md:List Ty} {acc:LV} {C K:LV->Prop},zL Md acc C K->∃vs,C vs/\K vs
  | [],acc,_,_,h=>⟨acc,h⟩
  | .int _::_,_,_,_,⟨_,h⟩=>kj h
  | .bool::_,_,_,_,⟨_,h⟩=>kj h
  | .str::_,_,_,_,⟨_,h⟩=>kj h
  | .ptr::_,_,_,_,⟨_,h⟩=>kj h
  | .slice::_,_,_,_,⟨_,_,_,h⟩=>kj h
  | .agg::_,_,_,_,⟨_,h⟩=>kj h
  | .any::_,_,_,_,⟨_,h⟩=>kj h
  | .map::_,_,_,_,⟨_,h⟩=>kj h
  | .clo::_,_,_,_,⟨_,_,_,h⟩=>kj h
theorem Mp(es:Array MapEntry)(seen:Array Nat)(b:Nat):(es.toList.filter λe=>!(seen.push b).contains e.born)=(es.toList.filter λe=>!seen.contains e.born).filter λe=>e.born != b:=by
  rw[List.filter_filter];congr 1;funext e;rw[Array.contains_push,bne]
  cases seen.contains e.born <;> cases e.born==b <;> rfl
theorem GB(b:Nat)(key:Int):∀(L:List MapEntry) (left:wZ),L.map (λe=>(e.key,e.val))=left.map kvI->(∀x∈L,x.born=b↔x.key = .int .i64 key)->
    (L.filter λe=>e.born != b).map (λe=>(e.key,e.val))=(left.filter λp=>p.1 != key).map kvI
  | [],[],_,_=>rfl
  | [],_::_,h,_=>by simp at h
  | _::_,[],h,_=>by simp at h
  | x::l,p::r,h,hx=>by
    simp only[List.map_cons,List.cons.injEq]at h;obtain⟨h1,h2⟩:=h;have ih:=GB b key l r h2 λy hy=>hx y (List.mem_cons_of_mem _ hy);have hk:x.key = .int .i64 p.1:=(Prod.mk.inj h1).1;have iff:=hx x (List.mem_cons_self ..)
    by_cases e:p.1=key
    · have eb:x.born=b:=iff.mpr (by rw[hk,e])
      rw[List.filter_cons_of_neg (by simp[eb]),List.filter_cons_of_neg (by simp[e])];exact ih
    · have eb:x.born≠b:=λy=>e (by have:=iff.mp y;rw[hk]at this;exact(Value.int.inj this).2)
      rw[List.filter_cons_of_pos (by simpa using eb),List.filter_cons_of_pos (by simpa using e),List.map_cons,List.map_cons,ih,h1]
theorem AZ{α β:Type}(f:α->β):∀{l:List α},(l.map f).Nodup->∀{x y:α},x∈l->y∈l->f x=f y->x=y
  | [],_,_,_,hx,_,_=>by cases hx
  | a::r,hn,x,y,hx,hy,e=>by
    rw[List.map_cons,List.nodup_cons]at hn;have no:∀z,z∈r->f z≠f a:=λz hz e=>hn.1 (List.mem_map.mpr ⟨z,hz,e⟩)
    rcases List.mem_cons.mp hx with h1|h1
    · rcases List.mem_cons.mp hy with h2|h2
      · rw[h1,h2]
      · exact absurd (by rw[<-e,h1]) (no y h2)
    · rcases List.mem_cons.mp hy with h2|h2
      · exact absurd (by rw[e,h2]) (no x h1)
      · exact AZ f hn.2 h1 h2 e
theorem run_next_at(w:World)(ty:TypeId)(b r since last:Nat)(sp:Option Nat)(seen:Array Nat)(es:Array MapEntry)(clock:Nat)(hb:w.heap[b]?=some (.mapIter (some r) since seen last))(hr:w.heap[r]?=some (.map es clock))(hold:∀ x ∈ es.toList,x.born<since)(hsc:since<=last) :
    ((leftOf es seen).size=0/\(Instr.next (.pointer (some ⟨b,0,sp⟩)) false ty).run P w = .ok (.tuple #[.bool false]) w)∨
    ∃e∈(leftOf es seen).toList,∃w1:World,w1.heap=w.heap/\aP w w1/\(Instr.next (.pointer (some ⟨b,0,sp⟩)) false ty).run P w = .ok (.tuple #[.bool true,e.key,e.val]) { w1 with heap:=w.heap.setIfInBounds b (.mapIter (some r) since (seen.push e.born) clock) }:=by
  simp only[Instr.next,getObj,Sem.run_bind,Sem.run,hb,hr,Result.andThen,next_test_false seen es since last hold hsc,Bool.false_eq_true,if_false];unfold leftOf;have vj:∀x∈(Array.filter (λe=>!seen.contains e.born) es).toList,x.born<since:=λx hx=>hold x (by simp at hx ⊢;exact hx.1);generalize Array.filter (λe=>!seen.contains e.born) es=L at vj ⊢;have e1:L.filter (λx=>decide (x.born<since))=L:=Array.filter_eq_self.2 (λx hx=>by simpa using vj x (by simpa using hx))
  have e2:L.filter (λx=>decide (x.born>=since)) = #[]:=by
    rw[Array.filter_eq_empty_iff];intro x hx;have:=vj x (by simpa using hx);simp;omega
  simp only[e1,e2,Array.append_empty]
  by_cases h0:L.size=0
  · left
    have:L = #[]:=Array.eq_empty_of_size_eq_zero h0;subst this;refine⟨rfl,?_⟩;simp[choose,Sem.run,Question.forced]
  · right
    have fB:L.isEmpty=false:=(by simp[Array.isEmpty,h0]);simp only[fB,Bool.false_eq_true,if_false,Array.empty_append,Array.size_map]
    have Φ:∃(j:Nat) (w1:World),j<L.size/\w1.heap=w.heap/\aP w w1/\(choose (Question.mapNext L.size)).run P w = .ok j w1:=by
      by_cases hf:L.size<=1
      · exact⟨0,w,by omega,rfl,.refl _,by simp[choose,Sem.run,Question.forced,hf]⟩
      · exact⟨_,w.drew,Nat.mod_lt _ (by omega),rfl,⟨rfl,rfl,rfl⟩,by
          simp only[choose,Sem.run,Question.forced,decide_eq_true_eq,hf,if_false,Question.cut]
          rfl⟩
    obtain⟨j,w1,hj,hh,hs,X9⟩:=Φ;refine⟨L[j],by simp,w1,hh,hs,?_⟩
    have EM:∀(o':Obj),(setObj b o').run P w1 = .ok () { w1 with heap:=w.heap.setIfInBounds b o' }:=λo'=>by
      simp only[setObj,Sem.run,hh,hb]
    simp only[X9,Array.getElem?_map,Array.getElem?_eq_getElem hj,Option.map_some,Sem.run_bind,EM,Result.andThen];rfl
theorem GC{ty b r:Nat}{sp:Option Nat}{m left:wZ}{k:KT}(H:Kv w.heap b r m left)(hN:left=[]->k (.tuple #[.bool false]) w.heap)
    (hS:∀e∈left,∀h',aaS w.heap b r m left e h'->k (.tuple #[.bool true,.int .i64 e.1,.int .i64 e.2]) h'):To P (Instr.next (.pointer (some ⟨b,0,sp⟩)) false ty) w k:=by
  obtain⟨es,clock,since,seen,last,hr,hb,hm,pH,hold,hsl,hsc,hl⟩:=H;have eL:(leftOf es seen).toList=es.toList.filter λe=>!seen.contains e.born:=by unfold leftOf;rw[Array.toList_filter]
  rcases run_next_at (P:=P) w ty b r since last sp seen es clock hb hr hold hsl with⟨h0,run⟩|⟨e,he,w1,hh,hs,run⟩
  · refine⟨_,w,run,.refl _,hN ?_⟩
    have e0:(leftOf es seen).toList=[]:=List.eq_nil_of_length_eq_zero (by rw[Array.length_toList];exact h0);rw[<-eL,e0]at hl;exact(List.map_eq_nil_iff.mp hl.symm)
  · rw[eL]at he
    have hf:(e.key,e.val)∈(es.toList.filter λe=>!seen.contains e.born).map (λe:MapEntry=>(e.key,e.val)):=List.mem_map.mpr ⟨e,he,rfl⟩;rw[hl]at hf;obtain⟨p,hp,ep⟩:=List.mem_map.mp hf;have ek:e.key = .int .i64 p.1:=(Prod.mk.inj ep).1.symm;have ev:e.val = .int .i64 p.2:=(Prod.mk.inj ep).2.symm;have hes:e∈es.toList:=(List.mem_filter.mp he).1;obtain⟨g1,g2⟩:=MapKept.heap_set (o':=.mapIter (some r) since (seen.push e.born) clock) hb;have hrb:r≠b:=(by intro y;rw[y,hb]at hr;cases hr);rw[ek,ev]at run;have Ω:=(g2 r hrb).trans hr;refine⟨_,_,run,⟨hs.1,hs.2.1,hs.2.2⟩,hS p hp _ ⟨by simp,g2,⟨es,clock,since,seen.push e.born,clock,Ω,g1,hm,pH,hold,hsc,hsc,?_⟩,⟨es,clock,since,seen.push e.born,e,Ω,g1,by simp,?_,ek,ev⟩⟩⟩
    · rw[Mp]
      exact GB e.born p.1 _ _ hl λx hx=>by
        have Mq:=(List.mem_filter.mp hx).1;refine⟨λy=>?_,λy=>?_⟩
        · rw[AZ MapEntry.born pH.2.1 Mq hes y,ek]
        · rw[AZ MapEntry.key pH.2.2 Mq hes (by rw[y,ek])]
    · rw[<-Array.find?_toList];exact find_born e es.toList pH.2.1 hes
theorem vZ{Md:List Ty}{k:KT}{v:Value}{h:ab}(hb:Gn Md k v h):k v h:=by
  match Md,hb with
  | [],⟨e,hk⟩=>subst e;exact hk
  | [ty],hb=>obtain⟨u,e,hk⟩:=kL (show OU ty (λu=>v=u) (λu=>k u h) from hb);subst e;exact hk
  | _::_::_,hb=>obtain⟨us,e,hk⟩:=kj (show zL _ [] (λus=>v = .tuple ⟨us⟩) (λus=>k (.tuple ⟨us⟩) h) from hb);subst e;exact hk
theorem KJ{ρ:Operand->Value}{o:Oper}{args:LV}{Md:List Ty}{k:KT}
    (he:execOp ρ o=callFunc g ⟨args⟩) (h:ao P g args w.heap (Gn Md k)):vm P ρ o w (HK w k):=by
  obtain⟨⟨fn,hf,hn,hb⟩,hc⟩:=h;refine .inr (.inr (.inl ⟨g,⟨args⟩,?_,?_⟩))
  · rw[he]
    simp only[callFunc,Sem.run_bind,run_program,Result.andThen_ok,hf,hn,hb,Bool.false_eq_true,if_false,Sem.run_pure]
  · exact(hc w rfl).mono λe w' ⟨v,h1,h2,h3⟩=>⟨v,h1,h2,vZ h3⟩
theorem KK{x:TI}(hx:bA P t x){cs:Array Value}{off:Nat}{k:Value->Prop}
    (h:match x.d.ty with
      | .agg=>k (.agg ⟨(cs.toList.drop off).take x.cells⟩)
      | ty=>OU ty (λu=>cs.toList[off]?=some u) k):Qt P (part t cs off) k:=by
  obtain⟨i,d,z,hi,hd,vT,iH,_,_,_⟩:=hx.get;have sQ:=λw=>mN hd w;unfold part;rw[<-vT]at h;have agg:ir (aq d)=true->(aq d).ty = .agg:=by cases aq d <;> simp[D.ty,ir]
  have nagg:ir (aq d)=false->(aq d).ty≠.agg:=by cases aq d <;> simp[D.ty,ir]
  cases hq:ir (aq d)with
  | true=>
    rw[agg hq]at h;refine⟨_,λw=>?_,h⟩;simp only[Sem.run_bind,sQ,hq,Result.andThen_ok,if_true,bI hi,iH,Sem.run_pure];congr 2;apply Array.ext';simp
  | false=>
    have fB:=nagg hq
    have h':OU (aq d).ty (λu=>cs.toList[off]?=some u) k:=by
      cases ht:(aq d).ty <;> rw[ht]at h fB <;> first|exact h|exact(fB rfl).elim
    obtain⟨v,hc,hk⟩:=kL h';refine⟨v,λw=>?_,hk⟩;have hc':cs[off]?=some v:=(by simpa using hc);simp only[Sem.run_bind,sQ,hq,Result.andThen_ok,Bool.false_eq_true,if_false,hc',Sem.run_pure]
theorem foldl_push(ns:LB):∀r:ByteArray,(ns.map λb=>((b.toNat:Nat):Int)).foldl (λr n=>r.push (UInt8.ofNat n.toNat)) r=⟨r.data++ns.toArray⟩:=by
  induction ns with
  | nil=>intro r;simp
  | cons b ns ih=>
    intro r;simp only[List.map_cons,List.foldl_cons];rw[ih];simp[ByteArray.push]
theorem za{a:OA}{l c:Nat}{bs:LB}(h:aJ w.heap a l bs):(Conv.bytesToString (.slice a l c)).run P w = .ok (.string (mkStr bs)) w:=by
  obtain⟨hl,hc⟩:=h
  cases a with
  | none=>
    have:bs=[]:=(by simpa[ag]using hc);subst this;rfl
  | some p=>
    have VK:=run_loadCells_list (P:=P) w p (bs.map bv) (λj v hv=>hc j v hv);have hm:(bs.map bv)=(bs.map λb=>((b.toNat:Nat):Int)).map (Value.int .u8):=(by simp[bv,Function.comp_def]);rw[hm,List.length_map,List.length_map,hl]at VK;rw[run_bytesToString w p l c _ VK,foldl_push];simp[mkStr,ByteArray.empty,ByteArray.emptyWithCapacity];rfl
def IW : D->Bool
  | .str=>true
  | _=>false
theorem O8{C:Ctx}(hC:jQ C){s t:Nat}{v:Value}{w:World}{k:KT}(h:Gm C (C.ti s).d (C.ti t).d v w.heap k) :
    ∃r,(convert s t v).run C.P w = .ok r w/\k r w.heap/\(IW (C.ti t).d=false->∀w':World,(convert s t v).run C.P w' = .ok r w'):=by
  have hs:(C.ti s).d≠.other:=by intro e;rw[e]at h;exact h.elim
  have ht:(C.ti t).d≠.other:=by intro e;rw[e]at h;unfold Gm at h;split at h <;> first|exact h.elim|simp at *
  obtain⟨_,ds,_,_,O9,hds,_⟩:=(hC.Mi hs).get;obtain⟨_,dt,_,_,Mr,AN,_⟩:=(hC.Mi ht).get;rw[<-hds,<-AN]at h
  cases ds <;> cases dt <;> cases v <;> try exact h.elim
  · exact⟨_,by simp[convert,run_underlying O9,run_underlying Mr,Conv.intToInt],h,λ_ w'=>by simp[convert,run_underlying O9,run_underlying Mr,Conv.intToInt]⟩
  · exact⟨_,by simp[convert,run_underlying O9,run_underlying Mr,Conv.intToString],h,λ_ w'=>by simp[convert,run_underlying O9,run_underlying Mr,Conv.intToString]⟩
  · exact⟨_,by simp[convert,run_underlying O9,run_underlying Mr],h,λ_ w'=>by simp[convert,run_underlying O9,run_underlying Mr]⟩
  · rename_i e a l c
    simp only[aq,Gm]at h
    cases hb:vi (C.ti e).d with
    | false=>rw[hb]at h;exact h.elim
    | true=>
      rw[hb]at h;obtain⟨bs,pH,hk⟩:=h;have he:(C.ti e).d≠.other:=(by intro e';rw[e']at hb;simp[vi]at hb);obtain⟨_,de,_,_,X',Ya,_⟩:=(hC.Mi he).get;rw[<-Ya]at hb
      have Yb:C.P.underlying e=some (.int .u8):=by
        cases de <;> simp[aq,vi]at hb
        rename_i kd
        cases kd <;> simp at hb
        exact X'
      exact⟨_,by rw[run_convert_bytes_string w s t e a l c O9 Yb Mr];exact za pH,hk,λhf=>by rw[<-AN]at hf;simp[aq,IW]at hf⟩
theorem Sw{k:Value->Prop}(h:XT x y k)(at_:Array TypeId)(ty:TypeId):Qt P (Builtin.min_ at_ ty #[x,y]) k:=by
  cases x <;> cases y <;> try exact h.elim
  rename_i k1 a k2 b;simp only[XT]at h
  cases hk:kz k1 k2 with
  | false=>rw[hk]at h;exact h.elim
  | true=>rw[hk]at h;obtain rfl:=lA hk;exact⟨_,by simp[Builtin.min_,Builtin.min2],h⟩
theorem Sx{k:Value->Prop}(h:XU x y k)(at_:Array TypeId)(ty:TypeId):Qt P (Builtin.max_ at_ ty #[x,y]) k:=by
  cases x <;> cases y <;> try exact h.elim
  rename_i k1 a k2 b;simp only[XU]at h
  cases hk:kz k1 k2 with
  | false=>rw[hk]at h;exact h.elim
  | true=>rw[hk]at h;obtain rfl:=lA hk;exact⟨_,by simp[Builtin.max_,Builtin.max2],h⟩
theorem KL{d:TypeDesc}(hd:P.underlying t=some d){x:Value}{k:Value->Prop}(h:XS (aq d) x k)(ty:TypeId):Qt P (Builtin.len_ #[t] ty #[x]) k:=by
  cases d <;> cases x <;> first|exact h.elim|exact⟨_,by simp[Builtin.len_,run_underlying hd,goInt],h⟩
theorem Sy{d:TypeDesc}(hd:P.underlying t=some d){x:Value}{k:Value->Prop}(h:aaN (aq d) x k)(ty:TypeId):Qt P (Builtin.cap_ #[t] ty #[x]) k:=by
  cases d <;> cases x <;> first|exact h.elim|exact⟨_,by simp[Builtin.cap_,run_underlying hd,goInt],h⟩
theorem Dq{d:TypeDesc}(hd:P.underlying t=some d){fs:List (Nat×Nat)}(hf:aq d = .struct fs){o:Nat×Nat}(ho:fs[i]?=some o) :
    ∃(fields:Array Field) (fd:Field),d = .struct fields/\fields[i]?=some fd/\fd.offset=o.1/\fd.type=o.2:=by
  cases d <;> simp[aq]at hf
  rename_i fields;subst hf;simp at ho;obtain⟨fd,h1,h2⟩:=ho;exact⟨fields,fd,rfl,by simpa using h1,by rw[<-h2],by rw[<-h2]⟩
theorem xe{C:Ctx}{o:Nat×Nat}(h:Ah C t i=some o):∃fs,(C.ti t).d = .struct fs/\fs[i]?=some o:=by
  unfold Ah at h
  cases hd:(C.ti t).d <;> rw[hd]at h <;> simp at h
  exact⟨_,rfl,h⟩
theorem mq{C:Ctx}(hC:jQ C){t e:Nat}(h:(C.ti t).d = .slice e):∃d,C.P.underlying t=some d/\aq d = .slice e:=by
  obtain⟨_,d,_,_,hu,hd,_⟩:=(hC.Mi (t:=t) (by rw[h];intro e;cases e)).get;exact⟨d,hu,hd.trans h⟩
theorem fR{C:Ctx}(hC:jQ C){t:Nat}(h:(C.ti t).d ≠ .other):∃d,C.P.underlying t=some d/\aq d=(C.ti t).d:=by
  obtain⟨_,d,_,_,hu,hd,_⟩:=(hC.Mi h).get;exact⟨d,hu,hd⟩
theorem IX{op:BinOp}{k:Value->Prop}{d:D}(h:qS d op x y k):(∃kd a EA b,x = .int kd a/\y = .int EA b)∨(∃a b,x = .string a/\y = .string b)∨d≠.other:=by
  by_cases hd:d = .other
  · subst hd
    cases x <;> cases y <;> first|exact h.elim|exact .inl ⟨_,_,_,_,rfl,rfl⟩|exact .inr (.inl ⟨_,_,rfl,rfl⟩)|(simp[qS]at h;done)|(rename_i a b;cases b <;> exact h.elim)|(rename_i a _ _ b _ _;cases b <;> exact h.elim)
  · exact .inr (.inr hd)
def O' : D->Bool
  | .map _ _=>true
  | _=>false
def IY(C:Ctx):Op->Bool
  | .move _| .assign _| .pick _ _ _| .build _ _| .load _ _| .nilCheck _| .binOp _ _ _ _ _| .unOp _ _ _| .makeFunc _ _ _| .slice _ _ _ _ _| .fieldAddr _ _ _| .field _ _ _
  | .indexAddr _ _ _| .index _ _ _| .extract _ _| .sliceToArrayPointer _ _=>true
  | .convert _ t _=>!wX (C.ti t).d
  | .call { callee:=.builtin .len,argTypes,.. }=>!(argTypes.toList.any λt=>O' (C.ti t).d)
  | .call { callee:=.builtin .cap,.. }| .call { callee:=.builtin .min,.. }| .call { callee:=.builtin .max,.. }=>true
  | _=>false
def dZ(C:Ctx):Op->Bool
  | .load _ _=>true
  | .convert _ t _=>IW (C.ti t).d
  | _=>false
def QTo(C:Ctx)(ρ:Operand->Value)(o:Oper)(w:World)(k:KT):Prop:=
  ∃v,(execOp ρ o).run C.P w = .ok (.value v) w/\k v w.heap/\(dZ C o.op=false->∀w':World,(execOp ρ o).run C.P w' = .ok (.value v) w')
theorem QTo.qt{C:Ctx}{ρ:Operand->Value}{o:Oper}{s:Sem Value}{k:KT}(he:execOp ρ o=(do Pure.pure (.value (<- s))))(h:Qt C.P s (λv=>k v w.heap)):QTo C ρ o w k:=by
  obtain⟨v,h1,h2⟩:=h;exact⟨v,by rw[he,Sem.run_bind,h1];rfl,h2,λ_ w'=>by rw[he,Sem.run_bind,h1];rfl⟩
theorem QTo.op{C:Ctx}{ρ:Operand->Value}{o:Oper}{k:KT}(h:QTo C ρ o w k):vm C.P ρ o w (HK w k):=
  let ⟨v,h1,h2,_⟩:=h;.inl ⟨v,w,h1,.refl _,h2⟩
theorem GD{C:Ctx}(hC:jQ C){f:Fr}{ρ:Operand->Value}(hρ:Fit f ρ)(o:Oper)(hq:IY C o.op=true){k:KT}{w:World}(h:vA C f o.op o.type k w.heap) :
    QTo C ρ o w k:=by
  cases ho:o.op with
  | move x=>rw[ho]at h;exact⟨ρ x,by simp[execOp,ho],bm hρ h,λ_ w'=>by simp[execOp,ho]⟩
  | assign x=>rw[ho]at h;exact⟨ρ x,by simp[execOp,ho],bm hρ h,λ_ w'=>by simp[execOp,ho]⟩
  | pick c a b=>
    rw[ho]at h;obtain⟨t,hc,h⟩:=tD (bm hρ h);have he:execOp ρ o=(do Pure.pure (.value (if<-asBool (ρ c)then ρ a else ρ b))):=by simp only[execOp,ho]
    cases t with
    | true=>exact⟨ρ a,by rw[he,hc];simp[asBool],bm hρ (show lW f a (λv=>k v w.heap) from h),λ_ w'=>by rw[he,hc];simp[asBool]⟩
    | false=>exact⟨ρ b,by rw[he,hc];simp[asBool],bm hρ (show lW f b (λv=>k v w.heap) from h),λ_ w'=>by rw[he,hc];simp[asBool]⟩
  | build t parts=>
    rw[ho]at h;obtain⟨hx,h⟩:=hC.qi h;refine .qt (s:=Instr.build t (parts.map λ(i,x)=>(i,ρ x))) (by simp only[execOp,ho]) ?_
    cases hd:(C.ti t).d with
    | struct fs=>
      rw[hd]at h;simp only at h
      cases hb:(qF fs.length parts.toList && (fs.all λx=>(C.ti x.2).ok) && tm (fs.map λx=>(x.1,(C.ti x.2).cells)) 0 (C.ti t).cells)with
      | false=>rw[hb]at h;exact h.elim
      | true=>
        rw[hb]at h;simp only[Bool.and_eq_true]at hb;exact zN hC hx hd hρ hb.1.1 hb.1.2 hb.2 h
    | arr n e=>
      rw[hd]at h;obtain⟨KI,h⟩:=hC.qi h
      cases hb:(qF n parts.toList && Nat.beq (n*(C.ti e).cells) (C.ti t).cells)with
      | false=>rw[hb]at h;exact h.elim
      | true=>
        rw[hb]at h;simp only[Bool.and_eq_true]at hb;exact EP hx hd KI hρ hb.1 hb.2 h
    | _=>rw[hd]at h;exact h.elim
  | load t x=>
    rw[ho]at h;obtain⟨p,hq,h⟩:=pJ hρ h;obtain⟨hx,h⟩:=hC.qi h;obtain⟨v,hr,hk⟩:=AL hx h;refine⟨v,?_,hk,λhf=>by simp[dZ,ho]at hf⟩;simp only[execOp,ho];rw[hq];simp only[Instr.loadAt,Instr.sureAddr,Sem.run_bind,Sem.run_pure,Result.andThen_ok,hr]
  | nilCheck x=>
    rw[ho]at h;have hk:=bm hρ h
    cases hv:ρ x with
    | pointer q=>
      rw[hv]at hk;obtain⟨p,hp,hk⟩:=aV hk;rw[hp]at hv;exact⟨_,by simp only[execOp,ho,hv];rfl,hk,λ_ w'=>by simp only[execOp,ho,hv];rfl⟩
    | func fn fs cs=>
      rw[hv]at hk
      cases fn with
      | func g=>exact⟨_,by simp only[execOp,ho,hv];rfl,hk,λ_ w'=>by simp only[execOp,ho,hv];rfl⟩
      | _=>exact hk.elim
    | _=>rw[hv]at hk;exact hk.elim
  | binOp op t x y u=>
    rw[ho]at h;have hk0:=bm hρ (bm hρ h);refine .qt (s:=do eqGuard op t x y (ρ x) (ρ y);binOp op t (ρ x) (ρ y)) (by simp only[execOp,ho]) ?_;unfold aaM at hk0
    split at hk0
    · rename_i heq
      have hk:=hk0;have hg:=λw=>Gs (P:=C.P) (op:=op) (t:=t) (x:=x) (y:=y) (w:=w) (IG hk)
      have:Qt C.P (binOp op t (ρ x) (ρ y)) (λr=>k r w.heap):=by
        rcases IX hk with⟨kd,a,EA,b,e1,e2⟩|⟨a,b,e1,e2⟩|fB
        · rw[e1,e2]at hk ⊢
          have CG:bif qn op then tj op kd a b (λr=>k r w.heap)else bif kz kd EA then Gk op kd a b (λr=>k r w.heap)else False:=by
            unfold qS at hk;split at hk
            · exact hk.elim
            · exact hk
          cases hs:qn op with
          | true=>rw[hs]at CG;exact Dc CG
          | false=>
            rw[hs]at CG
            cases hkk:kz kd EA with
            | false=>rw[hkk]at CG;exact CG.elim
            | true=>rw[hkk]at CG;obtain rfl:=lA hkk;exact KC hs CG
        · rw[e1,e2]at hk ⊢
          have CG:XR op a b (λr=>k r w.heap):=by
            unfold qS at hk;split at hk
            · exact hk.elim
            · exact hk
          exact KD CG
        · obtain⟨d,hu,hd⟩:=fR hC fB
          rw[<-hd]at hk;exact Si hu hk
      obtain⟨v,h1,h2⟩:=this;exact⟨v,λw=>by rw[Sem.run_bind,hg];exact h1 w,h2⟩
    · rename_i heq
      split at hk0
      · rename_i a b e1 e2
        obtain⟨hp,hk⟩:=hk0
        have hx:bA C.P t (C.ti t):=by
          rcases hC.ti t with e|e
          · rw[e]at heq;exact absurd rfl heq
          · exact e
        have run:=λw=>(Dn hx heq hp w).1;have vF:=(Dn hx heq hp w).2;rw[e1,e2]
        have hg:∀w,(eqGuard op t x y (.agg a) (.agg b)).run C.P w = .ok () w:=λw=>by
          unfold eqGuard
          cases op <;> simp[vF]
        obtain⟨v,h1,h2⟩:=y' (k:=λr=>k r w.heap) hk run rfl rfl;exact⟨v,λw=>by rw[Sem.run_bind,hg];exact h1 w,h2⟩
      · exact hk0.elim
  | unOp op t x=>
    rw[ho]at h;exact .qt (s:=Op.unary op (ρ x)) (by simp only[execOp,ho]) (X0 (bm hρ h))
  | convert s t x=>
    rw[ho]at h;rw[ho]at hq;have hns:wX (C.ti t).d=false:=(by simpa[IY]using hq);have h:=bm hρ h;rw[hns]at h;obtain⟨r,h1,h2,h3⟩:=O8 hC (show Gm C (C.ti s).d (C.ti t).d (ρ x) w.heap k from h);refine⟨r,by simp only[execOp,ho,Sem.run_bind,h1];rfl,h2,λhf w'=>?_⟩;have:=h3 (by simpa[dZ,ho]using hf) w';simp only[execOp,ho,Sem.run_bind,this];rfl
  | makeFunc fn fs cs=>
    rw[ho]at h
    cases fn with
    | func g=>
      have h1:=ig hρ h;have h2:=ig hρ h1;simp only[List.nil_append]at h2
      cases VM:fs.toList.map ρ with
      | cons a r=>
        rw[VM]at h2;have e1:fs.map ρ=⟨a::r⟩:=(by apply Array.ext';simpa using VM);have e2:cs.map ρ=⟨cs.toList.map ρ⟩:=(by apply Array.ext';simp);exact .qt (s:=Instr.makeFunc (.func g) (fs.map ρ) (cs.map ρ)) (by simp only[execOp,ho]) (by rw[e1,e2];exact⟨_,λ_=>rfl,h2⟩)
      | nil=>
        rw[VM]at h2;have e1:fs.map ρ = #[]:=(by apply Array.ext';simpa using VM);have e2:cs.map ρ=⟨cs.toList.map ρ⟩:=(by apply Array.ext';simp);exact .qt (s:=Instr.makeFunc (.func g) (fs.map ρ) (cs.map ρ)) (by simp only[execOp,ho]) (by rw[e1,e2];exact⟨_,λ_=>rfl,h2⟩)
    | _=>exact h.elim
  | slice t x lo hi mx=>
    rw[ho]at h;have h:=bm hρ h;obtain⟨q1,e1,h⟩:=AY hρ h;obtain⟨q2,e2,h⟩:=AY hρ h;obtain⟨q3,e3,h⟩:=AY hρ h;refine .qt (s:=Instr.sliceAt t (ρ x) (lo.map ρ) (hi.map ρ) (mx.map ρ)) (by simp only[execOp,ho]) ?_;rw[e1,e2,e3]
    have fB:(C.ti t).d≠.other:=by
      intro e;rw[e]at h;obtain⟨_,h⟩:=hC.qi h;exact h.elim
    obtain⟨d,hu,hd⟩:=fR hC fB
    by_cases hs:(C.ti t).d = .str
    · rw[hs]at h hd
      refine De hu (size:=1) ?_ (by rw[hd];exact h);intro e he;rw[hd]at he
      rcases he with he|⟨n,he⟩ <;> cases he
    · have h':qi (C.ti (elemOf C t)) (EB (C.ti t).d (C.ti (elemOf C t)).cells (ρ x) (ins q1) (ins q2) (ins q3) λr=>k r w.heap):=by
        cases hq:(C.ti t).d <;> rw[hq]at h <;> first|exact(hs hq).elim|exact h
      obtain⟨hx,h'⟩:=hC.qi h';rw[<-hd]at h';refine De hu ?_ h';intro e he
      have Sp:elemOf C t=e:=by
        unfold elemOf;rw[<-hd]
        rcases he with he|⟨n,he⟩ <;> rw[he]
      obtain⟨i,_,_,hi,_,_,iH,_⟩:=hx.get;rw[Sp]at hi iH ⊢;exact⟨i,hi,iH⟩
  | fieldAddr t x i=>
    rw[ho]at h;obtain⟨p,hq,h⟩:=pJ hρ h;obtain⟨fo,hfo,h⟩:=aV h;obtain⟨fs,hd,VM⟩:=xe hfo;obtain⟨d,hu,mK⟩:=fR hC (t:=t) (by rw[hd];intro e;cases e);rw[hd]at mK;obtain⟨fields,fd,rfl,h1,h2,h3⟩:=Dq hu mK VM
    cases hz:Nat.beq (C.ti fo.2).cells 0 with
    | true=>rw[hz]at h;exact h.elim
    | false=>
      rw[hz]at h;have fB:(C.ti fo.2).cells≠0:=λe=>by rw[e]at hz;simp at hz
      have hx:bA C.P fo.2 (C.ti fo.2):=by
        rcases hC.ti fo.2 with e|e
        · rw[e]at fB;exact(fB rfl).elim
        · exact e
      obtain⟨fi,_,_,AQ,_,_,iH,_⟩:=hx.get;refine .qt (s:=Instr.fieldAt t (ρ x) i) (by simp only[execOp,ho]) ⟨.pointer (some (p.add fo.1)),λw=>?_,h⟩;rw[hq];simp only[Instr.fieldAt,Sem.run_bind,run_underlying hu,Result.andThen_ok,h1,Instr.sureAddr,Sem.run_pure,fieldPlace,h3,bI AQ,Sem.run_ite];rw[if_neg (by rw[iH];exact fB),h2];rfl
  | field t x i=>
    rw[ho]at h;obtain⟨cs,hq,h⟩:=vY (bm hρ h);obtain⟨fo,hfo,h⟩:=aV h;obtain⟨fs,hd,VM⟩:=xe hfo;obtain⟨d,hu,mK⟩:=fR hC (t:=t) (by rw[hd];intro e;cases e);rw[hd]at mK;obtain⟨fields,fd,rfl,h1,h2,h3⟩:=Dq hu mK VM;obtain⟨hx,h⟩:=hC.qi h;obtain⟨v,hr,hk⟩:=KK (cs:=⟨cs⟩) (off:=fo.1) (k:=λr=>k r w.heap) hx h;refine .qt (s:=Instr.field t (ρ x) i) (by simp only[execOp,ho]) ⟨v,λw=>?_,hk⟩;rw[hq];simp only[Instr.field,Sem.run_bind,run_underlying hu,Result.andThen_ok,h1,asAgg,Sem.run_pure,h2,h3,hr]
  | indexAddr t x y=>
    rw[ho]at h;have h:=bm hρ (bm hρ h);obtain⟨kd,i,e2,h⟩:=jX h;refine .qt (s:=Instr.indexAt t (ρ x) (ρ y)) (by simp only[execOp,ho]) ?_;rw[e2]
    cases hd:(C.ti t).d with
    | slice e=>
      rw[hd]at h
      cases hv:ρ x with
      | slice a l c=>
        rw[hv]at h;obtain⟨hx,⟨h0,h1⟩,h⟩:=hC.qi h;obtain⟨p,hp,h⟩:=aV h;obtain⟨d,hu,mK⟩:=mq hC hd;have Sz:C.P.underlying t=some (.slice e):=(by cases d <;> simp[aq]at mK;subst mK;exact hu);obtain⟨fi,_,_,AQ,_,_,iH,_⟩:=hx.get;refine⟨_,λw=>?_,h⟩;rw[hp];simp[Instr.indexAt,asIntOf,run_underlying Sz,h0,h1,bI AQ,iH,qV]
      | _=>rw[hv]at h;exact h.elim
    | arr n e=>
      rw[hd]at h
      cases hv:ρ x with
      | pointer q=>
        rw[hv]at h;obtain⟨hx,h⟩:=hC.qi h;obtain⟨p,hp,⟨h0,h1⟩,h⟩:=aV h;obtain⟨d,hu,mK⟩:=fR hC (t:=t) (by rw[hd];intro e;cases e);rw[hd]at mK;have Sz:C.P.underlying t=some (.array n e):=(by cases d <;> simp[aq]at mK;obtain⟨rfl,rfl⟩:=mK;exact hu);obtain⟨fi,_,_,AQ,_,_,iH,_⟩:=hx.get;refine⟨_,λw=>?_,h⟩;rw[hp];simp[Instr.indexAt,asIntOf,run_underlying Sz,Instr.sureAddr,h0,h1,bI AQ,iH,qV]
      | _=>rw[hv]at h;exact h.elim
    | _=>rw[hd]at h;exact h.elim
  | index t x y=>
    rw[ho]at h;have h:=bm hρ (bm hρ h);obtain⟨kd,i,e2,h⟩:=jX h;refine .qt (s:=Instr.index t (ρ x) (ρ y)) (by simp only[execOp,ho]) ?_;rw[e2]
    cases hd:(C.ti t).d with
    | arr n e=>
      rw[hd]at h
      cases hv:ρ x with
      | agg cs=>
        rw[hv]at h;obtain⟨hx,⟨h0,h1⟩,h⟩:=hC.qi h;obtain⟨d,hu,mK⟩:=fR hC (t:=t) (by rw[hd];intro e;cases e);rw[hd]at mK;have Sz:C.P.underlying t=some (.array n e):=(by cases d <;> simp[aq]at mK;obtain⟨rfl,rfl⟩:=mK;exact hu);obtain⟨fi,_,_,AQ,_,_,iH,_⟩:=hx.get;obtain⟨v,hr,hk⟩:=KK (cs:=cs) (off:=scale i.toNat (C.ti e).cells) (k:=λr=>k r w.heap) hx h;refine⟨v,λw=>?_,hk⟩;rw[qV]at hr;simp[Instr.index,asIntOf,run_underlying Sz,h0,h1,bI AQ,iH,hr]
      | _=>rw[hv]at h;exact h.elim
    | str=>
      rw[hd]at h
      cases hv:ρ x with
      | string s=>
        rw[hv]at h;obtain⟨⟨h0,h1⟩,b,hb,h⟩:=h;obtain⟨d,hu,mK⟩:=fR hC (t:=t) (by rw[hd];intro e;cases e);rw[hd]at mK;have Sz:C.P.underlying t=some .string:=by cases d <;> simp[aq]at mK;exact hu
        have mQ:s[i.toNat]?=some b:=by
          rw[ByteArray.toList_eq]at hb
          have dh:i.toNat<s.data.toList.length:=by
            rcases Nat.lt_or_ge i.toNat s.data.toList.length with hh|hh
            · exact hh
            · rw[List.getElem?_eq_none hh]at hb;cases hb
          have vn:i.toNat<s.size:=(by simpa using dh);rw[getElem?_pos s i.toNat vn];rw[List.getElem?_eq_getElem dh]at hb;show some s.data[i.toNat]=some b;simpa using hb
        refine⟨bv b,λw=>?_,h⟩;simp[Instr.index,asIntOf,run_underlying Sz,h0,mQ,bv]
      | _=>rw[hv]at h;exact h.elim
    | _=>rw[hd]at h;exact h.elim
  | extract x i=>
    rw[ho]at h;obtain⟨vs,e1,h⟩:=IV (bm hρ h);obtain⟨v,hv,h⟩:=aV h;refine .qt (s:=Instr.extract (ρ x) i) (by simp only[execOp,ho]) ⟨v,λw=>?_,h⟩;rw[e1];have hv':(⟨vs⟩:Array Value)[i]?=some v:=(by simpa using hv);simp only[Instr.extract,hv',Sem.run_pure]
  | sliceToArrayPointer t x=>
    rw[ho]at h;obtain⟨a,l,c,e1,h⟩:=jY (bm hρ h)
    cases hd:(C.ti t).d with
    | arr n e=>
      rw[hd]at h;obtain⟨h1,h⟩:=h;obtain⟨d,hu,mK⟩:=fR hC (t:=t) (by rw[hd];intro e;cases e);rw[hd]at mK;have Sz:C.P.underlying t=some (.array n e):=(by cases d <;> simp[aq]at mK;obtain⟨rfl,rfl⟩:=mK;exact hu);refine .qt (s:=Instr.arrayAt t (ρ x)) (by simp only[execOp,ho]) ⟨.pointer a,λw=>?_,h⟩;rw[e1];simp only[Instr.arrayAt,Sem.run_bind,run_underlying Sz,Result.andThen_ok];rw[if_neg (by omega)];rfl
    | _=>rw[hd]at h;exact h.elim
  | call c=>
    obtain⟨callee,args,argTypes⟩:=c;have qZ:args.map ρ=⟨args.toList.map ρ⟩:=(by apply Array.ext';simp);have RG:argTypes=⟨argTypes.toList⟩:=by simp
    cases callee with
    | builtin b=>
      have he:∀(s:Sem Value),builtin b argTypes o.type (args.map fun| .const _=>true|_=>false) (args.map ρ)=(do Pure.pure (.value (<-s)))->execOp ρ o=(do Pure.pure (.value (<-s))):=by
        intro s hs;rw[<-hs];simp only[execOp,ho,resolve];rfl
      cases b with
      | len=>
        rw[ho]at h;have h:=ig hρ (show yh f args.toList [] _ from h);simp only[List.nil_append]at h
        split at h
        · rename_i u t e1 e2
          rw[ho]at hq;have wP:∀a b,(C.ti t).d≠.map a b:=λa b e=>by simp[IY,e2,e,O']at hq
          have h:XS (C.ti t).d u λr=>k r w.heap:=by
            split at h
            · rename_i a b e;exact absurd e (wP a b)
            · exact h
          refine .qt (he (Builtin.len_ argTypes o.type (args.map ρ)) rfl) ?_;rw[qZ,e1,RG,e2];have fB:(C.ti t).d≠.other:=(by intro e;rw[e]at h;cases u <;> exact h.elim);obtain⟨d,hu,mK⟩:=fR hC fB;rw[<-mK]at h;exact KL hu h _
        · exact h.elim
      | cap=>
        rw[ho]at h;have h:=ig hρ (show yh f args.toList [] _ from h);simp only[List.nil_append]at h
        split at h
        · rename_i u t e1 e2
          refine .qt (he (Builtin.cap_ argTypes o.type (args.map ρ)) rfl) ?_;rw[qZ,e1,RG,e2];have fB:(C.ti t).d≠.other:=(by intro e;rw[e]at h;cases u <;> exact h.elim);obtain⟨d,hu,mK⟩:=fR hC fB;rw[<-mK]at h;exact Sy hu h _
        · exact h.elim
      | min=>
        rw[ho]at h;have h:=ig hρ (show yh f args.toList [] _ from h);simp only[List.nil_append]at h
        split at h
        · rename_i u v e1
          refine .qt (he (Builtin.min_ argTypes o.type (args.map ρ)) rfl) ?_;rw[qZ,e1];exact Sw h _ _
        · exact h.elim
      | max=>
        rw[ho]at h;have h:=ig hρ (show yh f args.toList [] _ from h);simp only[List.nil_append]at h
        split at h
        · rename_i u v e1
          refine .qt (he (Builtin.max_ argTypes o.type (args.map ρ)) rfl) ?_;rw[qZ,e1];exact Sx h _ _
        · exact h.elim
      | _=>rw[ho]at hq;exact(by cases hq)
    | value x=>rw[ho]at hq;exact(by cases hq)
    | invoke r m=>rw[ho]at hq;exact(by cases hq)
  | _=>rw[ho]at hq;exact(by cases hq)
theorem Mt{C:Ctx}(hC:jQ C){s t:Nat}{v:Value}{w:World}{k:KT}(h:AG C (Nat.beq s t) (C.ti s).d (C.ti t).d v w.heap k):To C.P (convert s t v) w k:=by
  cases hs:(C.ti s).d with
  | str=>
    cases ht:(C.ti t).d with
    | slice e=>
      rw[hs,ht]at h;simp only[AG]at h
      cases hb:vi (C.ti e).d with
      | false=>rw[hb]at h;exact h.elim
      | true=>
        rw[hb]at h
        cases v with
        | string b=>
          have h:∀cap:Nat,b.size<=cap->k (.slice (some ⟨w.heap.size,0,none⟩) b.size cap) (tp w.heap (b.toList.map bv++List.replicate (cap-b.size) (bv 0)) e):=h;obtain⟨_,ds,_,_,O9,hds,_⟩:=(hC.Mi (t:=s) (by rw[hs];intro e;cases e)).get;obtain⟨_,dt,_,_,Mr,AN,_⟩:=(hC.Mi (t:=t) (by rw[ht];intro e;cases e)).get;have he:(C.ti e).d≠.other:=(by intro e';rw[e']at hb;simp[vi]at hb);obtain⟨_,de,_,_,X',Ya,_⟩:=(hC.Mi he).get;rw[hs]at hds;rw[ht]at AN;rw[<-Ya]at hb;have h1:C.P.underlying s=some .string:=(by cases ds <;> simp[aq]at hds;exact O9);have h2:C.P.underlying t=some (.slice e):=by cases dt <;> simp[aq]at AN;subst AN;exact Mr
          have h3:C.P.underlying e=some (.int .u8):=by
            cases de <;> simp[aq,vi]at hb
            rename_i kd
            cases kd <;> simp at hb
            exact X'
          refine⟨_,_,run_bytes_of_string w s t e b h1 h2 h3,⟨rfl,rfl,rfl⟩,?_⟩;have hk:=h _ (grownCap_ge w b.size 0 e)
          have ec:bytesRow b (grownCap w b.size 0 e)=⟨b.toList.map bv++List.replicate (grownCap w b.size 0 e-b.size) (bv 0)⟩:=by
            apply Array.ext';have eb:b.toList=b.data.toList:=(by obtain⟨⟨l⟩⟩:=b;simp);simp[bytesRow,eb,bv]
          rw[ec];exact hk
        | _=>exact h.elim
    | _=>rw[hs,ht]at h;exact h.elim
  | slice e0=>
    cases ht:(C.ti t).d with
    | slice e=>
      rw[hs,ht]at h;simp only[AG]at h
      cases hb:(Nat.beq s t && vi (C.ti e).d)with
      | false=>rw[hb]at h;exact h.elim
      | true=>
        rw[hb]at h;rw[Bool.and_eq_true]at hb;obtain⟨pH,hb⟩:=hb;have pH:=Nat.eq_of_beq_eq_true pH;subst pH;obtain⟨a,l,c,rfl,h⟩:=jY h;obtain⟨p,rfl,h⟩:=aV h;obtain⟨_,dt,_,_,Mr,AN,_⟩:=(hC.Mi (t:=s) (by rw[ht];intro e;cases e)).get;have he:(C.ti e).d≠.other:=(by intro e';rw[e']at hb;simp[vi]at hb);obtain⟨_,de,_,_,X',Ya,_⟩:=(hC.Mi he).get;rw[ht]at AN;rw[<-Ya]at hb;have h2:C.P.underlying s=some (.slice e):=by cases dt <;> simp[aq]at AN;subst AN;exact Mr
        have h3:C.P.underlying e=some (.int .u8):=by
          cases de <;> simp[aq,vi]at hb
          rename_i kd
          cases kd <;> simp at hb
          exact X'
        refine⟨.slice (some p) l c,{ w with heap:=Kt w.heap p.block },?_,⟨rfl,rfl,rfl⟩,h⟩
        have hm:(markStringish p).run C.P w = .ok () { w with heap:=Kt w.heap p.block }:=by
          simp only[markStringish,Sem.run_bind,run_shape,Result.andThen_ok];unfold World.shape? Kt
          cases hw:w.heap[p.block]? with
          | none=>rfl
          | some o=>
            cases o with
            | cells c e z=>simp only[run_freeze];unfold World.freeze;rw[if_neg (by decide)];rfl
            | _=>rfl
        simp[convert,run_underlying h2,run_underlying h3,hm]
    | _=>rw[hs,ht]at h;exact h.elim
  | _=>rw[hs]at h;cases ht:(C.ti t).d <;> (rw[ht]at h;exact h.elim)
theorem KM{x:TI}(hx:bA P t x)(w:World):∃z,(zeroValue t).run P w = .ok z w/\z=zeroV x:=by
  obtain⟨i,d,z,hi,hd,vT,_,_,hz,EK⟩:=hx.get;refine⟨z,by simp[zeroValue,hU hi,hz],?_⟩;have ha:=hx.zag;simp only[hi,Option.bind_some,hz,Option.map_some,Option.some.injEq]at ha;unfold zeroV
  cases z with
  | agg a=>
    have ha:EH x.d.ty=true:=ha.symm;have:x.zero=a.toList:=EK.symm
    cases hq:x.d.ty <;> rw[hq]at ha <;> first|(cases ha)|skip
    rw[this]
  | _=>
    have ha:EH x.d.ty=false:=ha.symm;rw[<-EK]
    cases hq:x.d.ty <;> rw[hq]at ha <;> first|rfl|(cases ha)
theorem KN{C:Ctx}(hC:jQ C){f:Fr}{ρ:Operand->Value}(hρ:Fit f ρ)(o:Oper){t:Nat}{m x y:Operand}{k:KT}{w:World}
    (he:execOp ρ o=(do Instr.mapUpdate t (ρ m) (ρ x) (ρ y);Pure.pure .skip))
    (h:lW f m λu=>lW f x λv=>lW f y λz=>(match (C.ti t).d with
      | .map kt _=>Gp (C.ti kt).d v λkey=>sM u λq=>ae q λr=>ED (C.ti kt).d r key z w.heap λh'=>k undef h'
      | _=>False)):vm C.P ρ o w (HK w k):=by
  have h:=bm hρ (bm hρ (bm hρ h))
  split at h
  · rename_i kt et hd
    obtain⟨key,hx,e2,h,fB⟩:=uE h;obtain⟨q,e1,h⟩:=kM h;obtain⟨r,rfl,mm,hA,hk⟩:=aV h;obtain⟨d,hu,mK⟩:=fR hC (t:=t) (by rw[hd];intro e;cases e);rw[hd]at mK;obtain⟨dk,SA,Pb⟩:=fR hC fB;have hm:C.P.underlying t=some (.map kt et):=(by cases d <;> simp[aq]at mK;obtain⟨rfl,rfl⟩:=mK;exact hu);rw[<-Pb]at hx e2 hA hk;obtain⟨h',hT,hr⟩:=EL (v:=ρ y) hm SA hA hx;refine .inr (.inl ⟨{ w with heap:=h' },?_,⟨rfl,rfl,rfl⟩,hk h' hT⟩);rw[he,e1,e2,Sem.run_bind,hr];rfl
  · exact h.elim
theorem A0{C:Ctx}(hC:jQ C){f:Fr}{ρ:Operand->Value}(hρ:Fit f ρ)(o:Oper){k:KT}{w:World}(h:vA C f o.op o.type k w.heap) :
    vm C.P ρ o w (HK w k):=by
  by_cases hq:IY C o.op=true
  · exact(GD hC hρ o hq h).op
  cases ho:o.op with
  | alloc e=>
    rw[ho]at h;obtain⟨hx,hk⟩:=hC.qi h;obtain⟨i,d,z,hi,_,_,_,_,hz,EK⟩:=hx.get;have X1:(zeroValue e).run C.P w = .ok z w:=(by simp[zeroValue,hU hi,hz]);refine .val (s:=Instr.alloc e true (.tuple #[])) (by simp only[execOp,ho]) ⟨Ey w.heap,w.alloc (.cells z.cells e),?_,⟨rfl,rfl,rfl⟩,?_⟩
    · simp only[Instr.alloc,Sem.run_bind,X1,Result.andThen_ok,newVar,newRow,run_newObj,Sem.run_pure]
      rfl
    · have X7:z.cells=⟨(C.ti e).zero⟩:=by apply Array.ext';rw[<-iE,EK]
      rw[X7];exact hk
  | box e x=>
    rw[ho]at h;have hk:=bm hρ h;refine .val (s:=Instr.box e (ρ x)) (by simp only[execOp,ho]) ⟨Ey w.heap,w.alloc (.cells (ρ x).cells e),?_,⟨rfl,rfl,rfl⟩,?_⟩
    · simp only[Instr.box,Sem.run_bind,newVar,newRow,run_newObj,Sem.run_pure,Result.andThen_ok]
      rfl
    · have X7:(ρ x).cells=⟨ky (ρ x)⟩:=by apply Array.ext';rw[<-iE]
      show k (Ey w.heap) (w.heap.push (.cells (ρ x).cells e));rw[X7];exact hk
  | buildSlice t n parts=>
    rw[ho]at h;refine .val (s:=Instr.buildSlice t n (parts.map λ(i,x)=>(i,ρ x))) (by simp only[execOp,ho]) ?_
    cases hd:(C.ti t).d with
    | slice e=>
      simp only[vA,hd]at h;obtain⟨KI,h⟩:=hC.qi h
      cases hb:(qF n parts.toList && Nat.ble (n*(C.ti e).cells) 16777216)with
      | false=>rw[hb]at h;exact h.elim
      | true=>
        rw[hb]at h;simp only[Bool.and_eq_true]at hb;exact CF (mq hC hd) KI hρ hb.1 hb.2 h
    | _=>simp only[vA,hd]at h
  | store t x y=>
    rw[ho]at h;obtain⟨p,hq,h⟩:=pJ hρ h;obtain⟨hx,h⟩:=hC.qi (bm hρ h);obtain⟨w',hr,hs,hk⟩:=Gr hx h;refine .inr (.inl ⟨w',?_,hs,hk⟩);simp only[execOp,ho,hq,Instr.storeAt,Instr.sureAddr,Sem.run_bind,Sem.run_pure,Result.andThen_ok,hr]
  | convert s t x=>
    rw[ho]at h;rw[ho]at hq;have hns:wX (C.ti t).d=true:=(by simpa[IY]using hq);have h:=bm hρ h;rw[hns]at h;exact .val (s:=convert s t (ρ x)) (by simp only[execOp,ho]) (Mt hC (show AG C (Nat.beq s t) (C.ti s).d (C.ti t).d (ρ x) w.heap k from h))
  | makeSlice t x y=>
    rw[ho]at h;have h:=bm hρ (bm hρ h);obtain⟨kl,l,e1,h⟩:=jX h;obtain⟨kc,c,e2,h⟩:=jX h
    cases hd:(C.ti t).d with
    | slice e=>
      rw[hd]at h;obtain⟨hx,h⟩:=hC.qi h;exact .val (s:=Instr.makeSlice t (ρ x) (ρ y)) (by simp only[execOp,ho]) (by rw[e1,e2];exact O1 (mq hC hd) hx h)
    | _=>rw[hd]at h;exact h.elim
  | call c=>
    obtain⟨callee,args,argTypes⟩:=c;have qZ:args.map ρ=⟨args.toList.map ρ⟩:=(by apply Array.ext';simp);have RG:argTypes=⟨argTypes.toList⟩:=by simp
    cases callee with
    | builtin b=>
      have he:∀(s:Sem Value),builtin b argTypes o.type (args.map fun| .const _=>true|_=>false) (args.map ρ)=(do Pure.pure (.value (<-s)))->execOp ρ o=(do Pure.pure (.value (<-s))):=by
        intro s hs;rw[<-hs];simp only[execOp,ho,resolve];rfl
      cases b with
      | append=>
        rw[ho]at h;have h:=ig hρ (show yh f args.toList [] _ from h);simp only[List.nil_append]at h
        split at h
        · rename_i u v t t' e1 e2
          refine .val (he (Builtin.append_ argTypes o.type (args.map ρ)) rfl) ?_;rw[qZ,e1,RG,e2]
          have key:∀e,(C.ti t).d = .slice e->((∃e',(C.ti t').d = .slice e')∨(C.ti t').d = .str)->
              qi (C.ti e) (oT u λa l c=>Sg (C.ti e) w.heap v λn new=>aw (C.ti e) e a l c n new w.heap λa' l' c' h'=>k (.slice a' l' c') h')->
              To C.P (Builtin.append_ ⟨[t,t']⟩ o.type ⟨[u,v]⟩) w k:=by
            intro e hd yq h;obtain⟨hx,h⟩:=hC.qi h;obtain⟨a,l,c,rfl,h⟩:=jY h;obtain⟨n,new,hs,h⟩:=Sj (P:=C.P) h
            have Cu:(∃e',C.P.underlying t'=some (.slice e'))∨C.P.underlying t'=some .string:=by
              rcases yq with⟨e',yq⟩|yq
              · obtain⟨d,hu,mK⟩:=mq hC yq
                cases d <;> simp[aq]at mK
                exact .inl ⟨_,hu⟩
              · obtain⟨d,hu,mK⟩:=fR hC (t:=t') (by rw[yq];intro e;cases e)
                rw[yq]at mK
                cases d <;> simp[aq]at mK
                exact .inr hu
            exact(Mk (mq hC hd) Cu hx hs h).mono λr h' ⟨a',l',c',e,hk⟩=>by rw[e];exact hk
          split at h
          · rename_i e e' hd yq
            exact key e hd (.inl ⟨e',yq⟩) h
          · rename_i e hd yq
            exact key e hd (.inr yq) h
          · exact h.elim
        · exact h.elim
      | clear=>
        rw[ho]at h;have h:=ig hρ (show yh f args.toList [] _ from h);simp only[List.nil_append]at h
        split at h
        · rename_i u t e1 e2
          refine .val (he (Builtin.clear_ argTypes o.type (args.map ρ)) rfl) ?_;rw[qZ,e1,RG,e2]
          split at h
          · rename_i e hd
            obtain⟨hx,h⟩:=hC.qi h;obtain⟨a,l,c,hu,h2⟩:=jY h;subst hu;exact(O2 (mq hC hd) hx h2).mono λr h' ⟨e,hk⟩=>by rw[e];exact hk
          · exact h.elim
        · exact h.elim
      | copy=>
        rw[ho]at h;have h:=ig hρ (show yh f args.toList [] _ from h);simp only[List.nil_append]at h
        split at h
        · rename_i u v t t' e1 e2
          refine .val (he (Builtin.copy_ argTypes o.type (args.map ρ)) rfl) ?_;rw[qZ,e1,RG,e2]
          split at h
          · rename_i e hd
            obtain⟨hx,h⟩:=hC.qi h;obtain⟨a,l,c,hu,h2⟩:=jY h;subst hu;exact(Sn (mq hC hd) hx h2).mono λr h' ⟨m,e,hk⟩=>by rw[e];exact hk
          · exact h.elim
        · exact h.elim
      | delete=>
        rw[ho]at h;have h:=ig hρ (show yh f args.toList [] _ from h);simp only[List.nil_append]at h
        split at h
        · rename_i u v t ts e1 e2
          refine .val (he (Builtin.delete_ argTypes o.type (args.map ρ)) rfl) ?_;rw[qZ,e1,RG,e2]
          split at h
          · rename_i kt et hd
            obtain⟨x,hx,rfl,h,fB⟩:=uE h;obtain⟨q,rfl,h⟩:=kM h;obtain⟨d,hu,mK⟩:=fR hC (t:=t) (by rw[hd];intro e;cases e);rw[hd]at mK;obtain⟨dk,SA,Pb⟩:=fR hC fB;have hm:C.P.underlying t=some (.map kt et):=(by cases d <;> simp[aq]at mK;obtain⟨rfl,rfl⟩:=mK;exact hu);rw[<-Pb]at h hx ⊢
            cases q with
            | none=>
              refine⟨.tuple #[],w,?_,.refl _,h⟩;show(Builtin.delete_ ⟨t::ts⟩ o.type #[.map none,kJ (aq dk) x]).run C.P w=_;simp[Builtin.delete_,run_underlying hm,MapKept.run_checkKey SA (pI hx),Result.andThen]
            | some r=>
              obtain⟨m,hA,hk⟩:=h;obtain⟨h',hT,hr⟩:=Mn (ty:=o.type) hm SA hA hx ts;exact⟨_,_,hr,⟨rfl,rfl,rfl⟩,hk h' hT⟩
          · exact h.elim
        · exact h.elim
      | len=>
        rw[ho]at h;have h:=ig hρ (show yh f args.toList [] _ from h);simp only[List.nil_append]at h
        split at h
        · rename_i u t e1 e2
          refine .val (he (Builtin.len_ argTypes o.type (args.map ρ)) rfl) ?_;rw[qZ,e1,RG,e2]
          split at h
          · rename_i kt et hd
            obtain⟨q,rfl,h⟩:=kM h;obtain⟨hxk,h⟩:=hC.qi h;obtain⟨_,dk,_,_,SA,Pb,_⟩:=hxk.get;obtain⟨d,hu,mK⟩:=fR hC (t:=t) (by rw[hd];intro e;cases e);rw[hd]at mK;have hm:C.P.underlying t=some (.map kt et):=(by cases d <;> simp[aq]at mK;obtain⟨rfl,rfl⟩:=mK;exact hu);rw[<-Pb]at h
            cases q with
            | none=>exact⟨_,w,Dj (dc:=dk) (m:=[]) hm rfl,.refl _,h⟩
            | some r=>
              obtain⟨m,hA,hk⟩:=h;exact⟨_,w,Dj (dc:=dk) (m:=m) hm hA,.refl _,hk⟩
          · rename_i wP
            have fB:(C.ti t).d≠.other:=(by intro e;rw[e]at h;cases u <;> exact h.elim);obtain⟨d,hu,mK⟩:=fR hC fB;rw[<-mK]at h;obtain⟨v,h1,h2⟩:=KL hu h o.type;exact⟨v,w,h1 w,.refl _,h2⟩
        · exact h.elim
      | _=>first|(rw[ho]at hq;exact(hq rfl).elim)|(rw[ho]at h;exact h.elim)
    | value x=>
      cases x with
      | func g=>
        rw[ho]at h;have h:=ig hρ (show yh f args.toList [] _ from h);simp only[List.nil_append]at h;have hg:=hρ (.func g) _ rfl
        have VN:execOp ρ o=callFunc g ⟨args.toList.map ρ⟩:=by
          simp only[execOp,ho,resolve,hg,Deferred.ofValue,qZ];show callFunc g _=_;congr 1;apply Array.ext';simp
        cases hn:C.nat.any (Nat.beq g)with
        | false=>rw[hn]at h;exact KJ (g:=g) (args:=args.toList.map ρ) VN h
        | true=>
          rw[hn,cond_true]at h;obtain⟨g',VO,hb⟩:=List.any_eq_true.mp hn;have hb:=Nat.eq_of_beq_eq_true hb;subst hb
          split at h
          · rename_i u v e1
            obtain⟨s,eu,h2⟩:=rW h;obtain⟨kd,c,ev,hk8,h3⟩:=jX h2;subst hk8;exact .inl ⟨_,w,by rw[VN,e1,eu,ev];exact hC.nat g VO s c w,.refl _,h3⟩
          · exact h.elim
      | tmp s=>
        rw[ho]at h;have h:=ig hρ (show yh f args.toList [] _ from bm hρ (show lW f (.tmp s) _ from h));simp only[List.nil_append]at h;unfold oV at h
        split at h
        · rename_i g fs cs hv
          refine KJ (g:=g) (args:=fs.toList++args.toList.map ρ++cs.toList) ?_ h;simp only[execOp,ho,resolve,hv,Deferred.ofValue,qZ];show callFunc g _=_;congr 1;apply Array.ext';simp
        · rename_i l fs cs hv
          obtain⟨fn,tmps,assign,body,hy,hR⟩:=h w rfl;refine .inr (.inr (.inr ⟨l,fn,tmps,assign,body,?_,hR.mono λe w' ⟨u,h1,h2,h3⟩=>⟨u,h1,h2,vZ h3⟩⟩))
          have he:execOp ρ o=Instr.yield l ⟨fs.toList++args.toList.map ρ⟩:=by
            simp only[execOp,ho,resolve,hv,Deferred.ofValue,qZ];show Instr.yield l _=_;congr 1;apply Array.ext';simp
          rw[he];exact hy
        · exact h.elim
      | _=>rw[ho]at h;exact h.elim
    | invoke r m=>rw[ho]at h;exact h.elim
  | makeMap t r=>
    cases r with
    | none=>
      rw[ho]at h;refine .val (s:=Instr.makeMap t none) (by simp only[execOp,ho];rfl) ⟨.map (some w.heap.size),w.alloc (.map #[] 0),?_,⟨rfl,rfl,rfl⟩,h⟩;simp[Instr.makeMap,Result.andThen]
    | some x=>rw[ho]at h;exact h.elim
  | insert t m x y=>exact KN (t:=t) (m:=m) (x:=x) (y:=y) hC hρ o (by simp only[execOp,ho]) (by rw[ho]at h;exact h)
  | mapUpdate t m x y=>exact KN (t:=t) (m:=m) (x:=x) (y:=y) hC hρ o (by simp only[execOp,ho]) (by rw[ho]at h;exact h)
  | lookup t m x ok=>
    rw[ho]at h;have h:=bm hρ (bm hρ (show lW f m _ from h));refine .val (s:=Instr.lookup t (ρ m) (ρ x) ok) (by simp only[execOp,ho]) ?_
    split at h
    · rename_i kt et hd
      obtain⟨KI,h⟩:=hC.qi h;obtain⟨key,hx,e2,h,fB⟩:=uE h;obtain⟨q,e1,h⟩:=kM h;obtain⟨d,hu,mK⟩:=fR hC (t:=t) (by rw[hd];intro e;cases e);rw[hd]at mK;obtain⟨dk,SA,Pb⟩:=fR hC fB;have hm:C.P.underlying t=some (.map kt et):=(by cases d <;> simp[aq]at mK;obtain⟨rfl,rfl⟩:=mK;exact hu);rw[<-Pb]at h hx e2;obtain⟨z,hz,ez⟩:=KM KI w;rw[e1,e2]
      have main:∀mm:qj,(match (generalizing:=false) q with|none=>mm=[]|some r=>kK (aq dk) w.heap r mm)->
          OU (C.ti et).d.ty (λr=>(rQ mm key).getD (zeroV (C.ti et))=r) (λr=>bif ok then k (.tuple #[r,.bool (rQ mm key).isSome]) w.heap else k r w.heap)->To C.P (Instr.lookup t (.map q) (kJ (aq dk) key) ok) w k:=by
        intro mm hA hk;obtain⟨r,hr,hk⟩:=kL hk;refine⟨_,w,Mo hm SA hz hA hx,.refl _,?_⟩;rw[ez,hr]
        cases ok <;> exact hk
      cases q with
      | none=>exact main [] rfl h
      | some r=>
        obtain⟨mm,hA,hk⟩:=h;exact main mm hA hk
    · exact h.elim
  | mapEntry t m x=>
    rw[ho]at h;have h:=bm hρ (bm hρ (show lW f m _ from h));refine .val (s:=Instr.mapEntry t (ρ m) (ρ x)) (by simp only[execOp,ho]) ?_
    split at h
    · rename_i kt et hd
      obtain⟨KI,h⟩:=hC.qi h
      have hh:(lY (C.ti kt).d && lY (C.ti et).d)=true:=by
        cases e:lY (C.ti kt).d && lY (C.ti et).d
        · rw[e]at h;exact h.elim
        · rfl
      rw[hh]at h
      have hkt:(C.ti kt).d = .int .i64:=by
        have:=(Bool.and_eq_true _ _▸hh:lY (C.ti kt).d=true/\lY (C.ti et).d=true).1;unfold lY at this
        split at this
        · assumption
        · cases this
      have h:zeroV (C.ti et) = .int .i64 0/\Gp (C.ti kt).d (ρ x) _:=h;obtain⟨hz0,h⟩:=h;rw[hkt]at h;obtain⟨key,hx,e2,h,_⟩:=uE h;obtain⟨q,e1,h⟩:=kM h;obtain⟨r,rfl,mm,hA,hk⟩:=aV h;obtain⟨d,hu,mK⟩:=fR hC (t:=t) (by rw[hd];intro e;cases e);rw[hd]at mK;obtain⟨dk,SA,Pb⟩:=fR hC (t:=kt) (by rw[hkt];intro e;cases e);have hm:C.P.underlying t=some (.map kt et):=by cases d <;> simp[aq]at mK;obtain⟨rfl,rfl⟩:=mK;exact hu
      have hki:C.P.underlying kt=some (.int .i64):=by
        rw[hkt]at Pb
        cases dk <;> simp[aq]at Pb
        subst Pb;exact SA
      obtain⟨z,hz,ez⟩:=KM KI w;rw[hz0]at ez;subst ez;obtain⟨z,s,h',hE,hr⟩:=Gx hm hki hz hA hx;rw[e1,e2];exact⟨_,_,hr,⟨rfl,rfl,rfl⟩,hk z s h' hE⟩
    · exact h.elim
  | entryStore t m s x=>
    rw[ho]at h;have h:=bm hρ (bm hρ (bm hρ (show lW f m _ from h)))
    split at h
    · rename_i kt et hd
      have hh:(lY (C.ti kt).d && lY (C.ti et).d)=true:=by
        cases e:lY (C.ti kt).d && lY (C.ti et).d
        · rw[e]at h;exact h.elim
        · rfl
      rw[hh]at h;obtain⟨q,e1,h⟩:=kM (show sM (ρ m) _ from h);obtain⟨r,rfl,h⟩:=aV h;obtain⟨kd1,sn,e2,h⟩:=jX h;obtain⟨kd,z,e3,rfl,mm,key,hA,hS,hk⟩:=jX h
      have hx:jJ (.int .i64) key=true:=by
        obtain⟨es,clock,e,hb,vj,_,EN⟩:=hS;obtain⟨es2,ck2,Sr,he,_,_⟩:=hA;rw[hb]at Sr
        cases Sr
        cases key with
        | i n=>rfl
        | s b=>
          exfalso;have:(e.key,e.val)∈es.toList.map (λe=>(e.key,e.val)):=List.mem_map.mpr ⟨e,vj,rfl⟩;rw[he]at this;obtain⟨p,hp,e1⟩:=List.mem_map.mp this;obtain⟨q,_,rfl⟩:=List.mem_map.mp hp;have e1:kJ (.int .i64) (.i q.1)=e.key:=congrArg Prod.fst e1;rw[EN]at e1
          cases e1
      obtain⟨h',hT,hr⟩:=CE (t:=t) (P:=C.P) (z:=z) hA hS hx;refine .inr (.inl ⟨{ w with heap:=h' },?_,⟨rfl,rfl,rfl⟩,hk h' hT⟩)
      have Ω:(Instr.entryStore t (ρ m) (ρ s) (ρ x)).run C.P w = .ok () { w with heap:=h' }:=by
        rw[e1,e2,e3];simp only[Instr.entryStore,asInt,asIntOf]at hr ⊢;exact hr
      simp only[execOp,ho];rw[Sem.run_bind,Ω];rfl
    · exact h.elim
  | range t x=>
    rw[ho]at h;have h:=bm hρ (show lW f x _ from h);refine .val (s:=Instr.range t (ρ x)) (by simp only[execOp,ho]) ?_
    split at h
    · rename_i hd
      obtain⟨s,e1,h⟩:=rW h;obtain⟨d,hu,mK⟩:=fR hC (t:=t) (by rw[hd];intro e;cases e);rw[hd]at mK;have hm:C.P.underlying t=some .string:=(by cases d <;> simp[aq]at mK;exact hu);rw[e1];refine⟨Ey w.heap,w.alloc (.stringIter s 0),?_,⟨rfl,rfl,rfl⟩,h⟩;simp[Instr.range,run_underlying hm,Result.andThen];rfl
    · rename_i kt et hd
      have hh:(lY (C.ti kt).d && lY (C.ti et).d)=true:=by
        cases e:lY (C.ti kt).d && lY (C.ti et).d
        · rw[e]at h;exact h.elim
        · rfl
      rw[hh]at h;obtain⟨q,e1,h⟩:=kM (show sM (ρ x) _ from h);obtain⟨r,rfl,m,⟨es,clock,hr,hm,_,pH⟩,hk⟩:=aV h;obtain⟨d,hu,mK⟩:=fR hC (t:=t) (by rw[hd];intro e;cases e);rw[hd]at mK;obtain⟨k',e',hm'⟩:∃k' e',C.P.underlying t=some (.map k' e'):=(by cases d <;> simp[aq]at mK;exact⟨_,_,hu⟩);rw[e1]
      have dh:r<w.heap.size:=by
        rcases Nat.lt_or_ge r w.heap.size with y|y
        · exact y
        · rw[Array.getElem?_eq_none y]at hr;cases hr
      refine⟨Ey w.heap,w.alloc (.mapIter (some r) clock #[] clock),run_range_map w t k' e' r es clock hm' hr,⟨rfl,rfl,rfl⟩,hk _ ⟨by simp,λb hb=>heap_alloc_old w _ hb,⟨es,clock,clock,#[],clock,(heap_alloc_old w _ dh).trans hr,heap_alloc_new w _,?_,pH,pH.1,Nat.le_refl _,Nat.le_refl _,?_⟩⟩⟩
      · rw[hm,mI,List.map_map];rfl
      · have:(es.toList.filter λe=>!(#[]:Array Nat).contains e.born)=es.toList:=List.filter_eq_self.mpr λx _=>by simp
        rw[this,hm,mI,List.map_map];rfl
    · exact h.elim
  | next x str=>
    cases str with
    | false=>
      rw[ho]at h;obtain⟨p,e1,h⟩:=pJ hρ (show lW f x _ from h);obtain⟨h0,r,m,left,H,hN,hS⟩:=h;obtain⟨b,off,sp⟩:=p;have h0:off=0:=h0;subst h0;refine .val (s:=Instr.next (ρ x) false o.type) (by simp only[execOp,ho]) ?_;rw[e1];exact GC H hN hS
    | true=>
      rw[ho]at h;obtain⟨p,e1,h⟩:=pJ hρ (show lW f x _ from h);obtain⟨h0,s,pos,hs,h1,h2⟩:=h;refine .val (s:=Instr.next (ρ x) true o.type) (by simp only[execOp,ho]) ?_;obtain⟨b,off,sp⟩:=p;have h0:off=0:=h0;subst h0;have hs:w.heap[b]?=some (.stringIter s pos):=hs;have hg:(getObj b).run C.P w = .ok (.stringIter s pos) w:=(by simp[getObj,Sem.run,hs]);rw[e1]
      by_cases dh:pos<s.size
      · have EM:∀o',(setObj b o').run C.P w = .ok () { w with heap:=w.heap.setIfInBounds b o' }:=λo'=>by simp[setObj,Sem.run,hs]
        refine⟨_,{ w with heap:=w.heap.setIfInBounds b (.stringIter s (pos+(Utf8.decode s pos).2)) },?_,⟨rfl,rfl,rfl⟩,h1 dh _ ⟨by simp,λb' mQ=>(MapKept.heap_set hs).2 b' mQ,(MapKept.heap_set hs).1⟩⟩;simp[Instr.next,hg,dh,EM,goInt,Result.andThen]
      · refine⟨_,w,?_,.refl _,h2 dh⟩
        simp[Instr.next,hg,dh,Result.andThen]
  | entry x=>
    rw[ho]at h;obtain⟨p,e1,h⟩:=pJ hρ (show lW f x _ from h);obtain⟨h0,r,n,v,⟨es,clock,since,seen,e,hr,hb,hk,hf,ek,ev⟩,hh⟩:=h;obtain⟨b,off,sp⟩:=p;have h0:off=0:=h0;subst h0;have hr:w.heap[r]?=some (.map es clock):=hr;have hb:w.heap[b]?=some (.mapIter (some r) since seen clock):=hb;refine .val (s:=Instr.entry (ρ x)) (by simp only[execOp,ho]) ?_;rw[e1];refine⟨.tuple #[.int .i64 n,.int .i64 v],w,?_,.refl _,hh⟩;simp only[Instr.entry,getObj,Sem.run_bind,Sem.run,hb,hr,hk,Result.andThen,bne_self_eq_false,Bool.false_eq_true,if_false,hf,ek,ev];rfl
  | _=>first|(rw[ho]at hq;exact(hq rfl).elim)|(rw[ho]at h;exact h.elim)
def toD : Value->Deferred
  | .pointer (some a)=>{ target:=.collected a.block,args:=#[] }
  | .tuple ⟨.func g fs cs::us⟩=>{ target:=.fn g cs,args:=fs++⟨us⟩ }
  | _=>default
theorem Fr.xf(f:Fr):Fr.get f gN=none:=by
  unfold Fr.get;rw[Nat.beq_refl];rfl
theorem Fr.ER{f:Fr}(h:t≠gN):Fr.get f t=Mc f t:=by
  unfold Fr.get
  cases hb:Nat.beq t gN with
  | true=>exact absurd (Nat.eq_of_beq_eq_true hb) h
  | false=>rfl
theorem Dr(f:Fr)(d t:Nat)(v:Value):Mc ((d,v)::f) t=if d=t then some v else Mc f t:=by
  show(bif Nat.beq d t then some v else Mc f t)=_
  cases h:Nat.beq d t with
  | true=>rw[if_pos (Nat.eq_of_beq_eq_true h)];rfl
  | false=>
    have:d≠t:=λe=>by subst e;rw[Nat.beq_refl]at h;cases h
    rw[if_neg this];rfl
theorem Fr.pK(f:Fr)(d t:Nat)(v:Value)(hd:d≠gN):Fr.get ((d,v)::f) t=if d=t then some v else Fr.get f t:=by
  by_cases ht:t=gN
  · subst ht;rw[Fr.xf,Fr.xf,if_neg hd]
  · rw[Fr.ER ht,Fr.ER ht,Dr]
theorem Fr.rh(f:Fr)(t:Nat)(v:Value):Fr.get ((gN,v)::f) t=Fr.get f t:=by
  by_cases ht:t=gN
  · subst ht;rw[Fr.xf,Fr.xf]
  · rw[Fr.ER ht,Fr.ER ht,Dr,if_neg λe=>ht e.symm]
theorem Fr.Aj{f:Fr}{v:Value}(h:Fr.get f t=some v):t≠gN:=λe=>by subst e;rw[Fr.xf]at h;cases h
theorem rj(f:Fr)(d:Nat)(v:Value)(hd:d≠gN):sY ((d,v)::f)=sY f:=by
  show(bif Nat.beq d gN then v::sY f else sY f)=_
  cases h:Nat.beq d gN with
  | true=>exact absurd (Nat.eq_of_beq_eq_true h) hd
  | false=>rfl
theorem uG(f:Fr)(v:Value):sY ((gN,v)::f)=v::sY f:=by
  show(bif Nat.beq gN gN then v::sY f else sY f)=_;rw[Nat.beq_refl];rfl
theorem Fr.Ds(f:Fr)(t:Nat):∀ds:LV,Fr.get (wS ds f) t=Fr.get f t
  | []=>rfl
  | v::r=>by rw[wS,Fr.rh,Fr.Ds f t r]
theorem Du(f:Fr):∀ds:LV,sY (wS ds f)=ds++sY f
  | []=>rfl
  | v::r=>by rw[wS,uG,Du f r];rfl
theorem ES(t:Nat):∀f:Fr,Fr.get (Kn f) t=Fr.get f t
  | []=>rfl
  | (d,v)::r=>by
    show Fr.get (bif Nat.beq d gN then Kn r else(d,v)::Kn r) t=_
    cases h:Nat.beq d gN with
    | true=>
      have:=Nat.eq_of_beq_eq_true h;subst this;rw[Fr.rh];exact ES t r
    | false=>
      have hd:d≠gN:=λe=>by subst e;rw[Nat.beq_refl]at h;cases h
      show Fr.get ((d,v)::Kn r) t=_;rw[Fr.pK _ _ _ _ hd,Fr.pK _ _ _ _ hd,ES t r]
theorem ET : ∀f:Fr,sY (Kn f)=[]
  | []=>rfl
  | (d,v)::r=>by
    show sY (bif Nat.beq d gN then Kn r else(d,v)::Kn r)=_
    cases h:Nat.beq d gN with
    | true=>exact ET r
    | false=>
      have hd:d≠gN:=λe=>by subst e;rw[Nat.beq_refl]at h;cases h
      show sY ((d,v)::Kn r)=_;rw[rj _ _ _ hd,ET r]
structure rX(n:Nat)(a:Act)(f:Fr):Prop where
  lim:n<=gN
  size:a.tmps.size=n
  defers:a.defers=(sY f).map toD
  val:∀t v,Fr.get f t=some v->a.tmps.getD t undef=v
theorem rX.fit{f:Fr}(h:rX n a f):Fit f a.eval:=by
  intro x v hx
  cases x with
  | tmp t=>exact h.val t v hx
  | const u=>exact Option.some.inj hx
  | global g=>exact Option.some.inj hx
  | func g=>exact Option.some.inj hx
def rp(n:Nat)(o:Oper):Bool:=
  match o.dst with
  | some d=>Nat.blt d n
  | none=>true
theorem rX.put{n:Nat}{a:Act}{f:Fr}(h:rX n a f){o:Oper}(hd:rp n o=true)(v:Value):rX n (a.put o.dst v) (sZ f o.dst v):=by
  unfold rp at hd
  cases qk:o.dst with
  | none=>exact h
  | some d=>
    rw[qk]at hd;have dh:d<n:=Nat.le_of_ble_eq_true hd;have fB:d≠gN:=Nat.ne_of_lt (Nat.lt_of_lt_of_le dh h.lim);refine⟨h.lim,by simp[Act.put,h.size],by rw[show sZ f (some d) v=(d,v)::f from rfl,rj _ _ _ fB];exact h.defers,λt u hu=>?_⟩;rw[show sZ f (some d) v=(d,v)::f from rfl,Fr.pK _ _ _ _ fB]at hu
    by_cases e:d=t
    · subst e
      rw[if_pos rfl]at hu;have:=Option.some.inj hu;subst this;simp[Act.put,h.size,dh]
    · rw[if_neg e]at hu
      have:=h.val t u hu;simpa[Act.put,Array.getElem?_setIfInBounds_ne e]using this
def FW(ro:Option Nat):Fence:={ Fence.wide with round:=ro }
theorem v8{ro:Option Nat}{args:Array Value}{R:Ending->World->Prop}(h:Calls P f args w R):CallsIn (FW ro) m P f args w R:=
  (callsIn_wide (n:=m)).2 h
theorem IZ{ro:Option Nat}{l:Nat}{tmps:Array Value}{assign body:Code}{R:Ending->World->Prop}(h:RoundIn Fence.wide 0 P l f tmps assign body w R):RoundIn (FW ro) m P l f tmps assign body w R:=
  ⟨trivial,λc cs _=>h.2 c cs (room_wide _)⟩
theorem semAt_plain{ro:Option Nat}{ρ:Operand->Value}{o:Oper}(h:ro=none∨gK o.op=false):Oper.semAt ro ρ o=execOp ρ o:=by
  cases ro with
  | none=>exact Oper.semAt_none ρ o
  | some l=>
    refine Oper.semAt_some l ρ o λc e=>?_
    rcases h with h|h
    · cases h
    · rw[e]at h;cases h
theorem oZ{ro:Option Nat}{o:Oper}{k:Value->World->Prop}{next:Act->World->Prop}{Q:Exit->Act->World->Prop}(hd:ro=none∨gK o.op=false)
    (h:vm P a.eval o w k) (hk:∀v w',k v w'->next (a.put o.dst v) w'):o.wpIn (FW ro) m P a w next Q:=by
  refine⟨λ_ _=>trivial,?_⟩;show o.uponIn (FW ro) m P a next Q ((o.semAt ro a.eval).run P w);rw[semAt_plain hd]
  rcases h with⟨v,w',hr,hv⟩|⟨w',hr,hv⟩|⟨g,args,hr,hc⟩|⟨l,fn,tmps,assign,body,hr,hc⟩
  · rw[hr];exact hk _ _ hv
  · rw[hr];exact hk _ _ hv
  · rw[hr,Oper.uponIn_enter]
    exact⟨(λx=>by cases x),v8 (hc.mono λe X8 ⟨v,he,hv⟩=>by subst he;exact hk _ _ hv)⟩
  · rw[hr,Oper.uponIn_round]
    exact⟨(λx=>by cases x),IZ (hc.mono λe X8 ⟨v,he,hv⟩=>by subst he;exact hk _ _ hv)⟩
theorem Dv{f:Fr}{ρ:Operand->Value}(hρ:Fit f ρ){o:Oper}{w:World}{k:Value->Prop}(hd:gK o.op=true)(h:yi f (AJ o.op) k) :
    ∃d,(execOp ρ o).run P w = .ok (.defer (toD d)) w/\k d:=by
  cases ho:o.op with
  | defer c=>
    rw[ho]at h;have h:yi f c k:=h;obtain⟨callee,args,Md⟩:=c
    cases callee with
    | value x=>
      have h:=bm hρ (show lW f x _ from h)
      split at h
      · rename_i g fs cs hv
        have h:=ig hρ h;simp only[List.nil_append]at h;refine⟨_,?_,h⟩;simp only[execOp,ho,resolve,hv,Deferred.ofValue,Sem.run_bind,Sem.run_pure,Result.andThen_ok,toD];congr 3;apply Array.ext';simp
      · exact h.elim
    | builtin b=>exact h.elim
    | invoke r m=>exact h.elim
  | _=>rw[ho]at hd;cases hd
theorem qo{b:Bool}{v:Value}{k:Value->Prop}(h:tq b v k):k v:=by
  unfold tq at h
  cases b with
  | false=>exact h
  | true=>
    cases v with
    | bool t=>cases t <;> exact h
    | _=>exact h
theorem rY{f:Fr}(hA:rX n a f){full:List Oper}{o:Oper}{k:Bool->Prop}(h:AH full f o.guard k):k (Region.wanted o (yielded full.toArray a.tmps)):=by
  unfold Region.wanted
  cases hg:o.guard with
  | none=>rw[hg]at h;exact h
  | some jw=>
    obtain⟨j,want⟩:=jw;rw[hg]at h;obtain⟨oj,uH,h1⟩:=aV h;obtain⟨d,hd,h2⟩:=aV h1;obtain⟨v,hv,h3⟩:=aV h2;have tE:=hA.val d v hv
    have hy:yielded full.toArray a.tmps j=(match a.tmps[d]? with|some (.bool b)=>some b|_=>none):=by
      unfold yielded;simp only[List.getElem?_toArray,uH,Option.bind_some,hd];rfl
    have hget:a.tmps[d]?=some v∨(a.tmps[d]?=none/\v=undef):=by
      rw[Array.getD_eq_getD_getElem?]at tE
      cases hh:a.tmps[d]? with
      | none=>rw[hh]at tE;exact .inr ⟨rfl,tE.symm⟩
      | some u=>rw[hh]at tE;exact .inl (congrArg some tE)
    show k (yielded full.toArray a.tmps j==some want);rw[hy]
    rcases hget with hh|⟨hh,rfl⟩
    · rw[hh]
      cases v with
      | bool b=>simpa using h3
      | tuple vs=>exact h3
      | _=>exact h3.elim
    · rw[hh];exact h3
def dstsOf(l:List Oper):List Nat:=l.filterMap (·.dst)
def Yc(l:List Oper):List Nat:=bif l.any λo=>gK o.op then[gN]else[]
def gX : Code->List Nat
  | .region _ ops _=>Yc ops.toList++dstsOf ops.toList
  | .rangeFunc _ _ _ _=>[gN]
  | .seq a b=>gX a++gX b
  | .cond _ a b=>gX a++gX b
  | .block _ a| .loop a| .scope a=>gX a
  | _=>[]
structure iz(M:List Nat)(a a':Act):Prop where
  tmp:∀t,t ∉ M->a'.tmps.getD t undef=a.tmps.getD t undef
  RH:gN ∉ M->a'.defers=a.defers
theorem iz.refl(M:List Nat)(a:Act):iz M a a:=⟨λ_ _=>rfl,λ_=>rfl⟩
theorem iz.trans{M:List Nat}{a b c:Act}(h:iz M a b)(k:iz M b c):iz M a c:=⟨λt ht=>(k.tmp t ht).trans (h.tmp t ht),λx=>(k.RH x).trans (h.RH x)⟩
theorem iz.mono{M M':List Nat}(h:iz M a b)(hm:∀ t ∈ M,t ∈ M'):iz M' a b:=⟨λt ht=>h.tmp t λh'=>ht (hm t h'),λx=>h.RH λh'=>x (hm _ h')⟩
theorem Act.put_defers(a:Act)(d:Option Nat)(v:Value):(a.put d v).defers=a.defers:=by cases d <;> rfl
theorem iz.put{M:List Nat}{a b:Act}(h:iz M a b){o:Oper}(hd:∀ d,o.dst=some d->d ∈ M)(v:Value):iz M a (b.put o.dst v):=by
  refine⟨λt ht=>?_,λx=>(Act.put_defers _ _ _).trans (h.RH x)⟩
  cases qk:o.dst with
  | none=>exact h.tmp t ht
  | some d=>
    have fB:d≠t:=λe=>ht (e▸hd d qk);have:=h.tmp t ht;simpa[Act.put,Array.getElem?_setIfInBounds_ne fB]using this
theorem wa{l:List Oper}{o:Oper}(ho:o ∈ l){d:Nat}(hd:o.dst=some d):d∈dstsOf l:=List.mem_filterMap.2 ⟨o,ho,hd⟩
theorem KO{C:Ctx}(hC:jQ C){ro:Option Nat}{n:Nat}{w0:World}{a0:Act}{M:List Nat}{full:List Oper}{N:Fr->ab->Prop}{Q:Exit->Act->World->Prop}
    (hN:∀f a w,N f w.heap->rX n a f->aP w0 w->iz M a0 a->Q .normal a w) :
    ∀(l:List Oper),(∀o∈l,rp n o=true)->(∀o∈l,∀d,o.dst=some d->d∈M)->(∀o∈l,gK o.op=true->gN∈M/\ro=none)->∀(f:Fr) (a:Act) (w:World),Gq C full l N f w.heap->rX n a f->aP w0 w->iz M a0 a->wpListIn (FW ro) 0 C.P full.toArray Q l a w
  | [],_,_,_,f,a,w,h,hA,hR,hM=>hN f a w h hA hR hM
  | o::r,hl,hm,hdf,f,a,w,h,hA,hR,hM=>by
    have hw:=rY hA (show AH full f o.guard _ from h);have hd:=hl o (by simp);have Ot:=hm o (by simp);have hdo:=hdf o (by simp);have rest:=KO (full:=full) hC (ro:=ro) hN r (λo' CH=>hl o' (by simp[CH])) (λo' CH=>hm o' (by simp[CH])) (λo' CH=>hdf o' (by simp[CH]));unfold wpListIn
    split
    · rename_i A1
      rw[A1]at hw
      cases II:gK o.op with
      | true=>
        obtain⟨hk,zc⟩:=hdo II;have hw:(bif gK o.op then yi f (AJ o.op) λd=>Gq C full r N (sZ ((gN,d)::f) o.dst undef) w.heap else _):=hw;rw[II,cond_true]at hw;obtain⟨d,hr,hx⟩:=Dv (P:=C.P) (w:=w) hA.fit II hw;refine⟨λ_ _=>trivial,?_⟩;show o.uponIn (FW ro) 0 C.P a _ Q ((o.semAt ro a.eval).run C.P w);rw[semAt_plain (.inl zc),hr,Oper.uponIn_defer];have RI:rX n { a with defers:=toD d::a.defers } ((gN,d)::f):=⟨hA.lim,hA.size,by rw[uG,List.map_cons,<-hA.defers],λt v h=>hA.val t v (by rwa[Fr.rh]at h)⟩;have hM':iz M a0 { a with defers:=toD d::a.defers }:=⟨hM.tmp,λx=>absurd hk x⟩;exact rest _ _ w hx (RI.put hd undef) hR (hM'.put Ot undef)
      | false=>
        have hw:(bif gK o.op then _ else vA C f o.op o.type (λv h'=>tq (guards full o) v λv=>Gq C full r N (sZ f o.dst v) h') w.heap):=hw;rw[II,cond_false]at hw;refine oZ (.inr II) (A0 hC hA.fit o hw) λv w' ⟨hr,hk⟩=>?_;exact rest _ _ w' (qo hk) (hA.put hd v) (hR.trans hr) (hM.put Ot v)
    · rename_i A1
      have I':Region.wanted o (yielded full.toArray a.tmps)=false:=(by simpa using A1);rw[I']at hw;exact⟨λ_ _=>trivial,rest _ _ w hw (hA.put hd undef) hR (hM.put Ot undef)⟩
theorem Pc{C:Ctx}{ro:Option Nat}{f:Fr}(hρ:Fit f a.eval)(o:Oper)(hi:XX C o=true){k X:KT}{next:Act->World->Prop}{Q:Exit->Act->World->Prop}{w:World}(h:Kw C f o.op o.type k X w.heap)
    (hk:∀v w',aP w w'->k v w'.heap->next (a.put o.dst v) w') (hX:∀v w',aP w w'->X v w'.heap->Q (.panic [{ v:=v,recovered:=false }]) a w'):o.wpIn (FW ro) 0 C.P a w next Q:=by
  obtain⟨dst,op,type,pos,after,guard⟩:=o
  have Yd:gK op=false:=by
    cases op with
    | defer c=>cases hi
    | _=>rfl
  refine⟨λ_ _=>trivial,?_⟩;show Oper.uponIn (FW ro) 0 C.P _ a next Q ((Oper.semAt ro a.eval _).run C.P w);rw[semAt_plain (.inr Yd)];unfold Kw at h
  split at h
  · rename_i op' g args ats e
    have e:op=_:=e;subst e;obtain⟨⟨fn,hf,hn,hb⟩,hc⟩:=ig hρ h
    have hr:(execOp a.eval (⟨dst,.call { callee:=.value (.func g),args:=args,argTypes:=ats },type,pos,after,guard⟩:Oper)).run C.P w = .ok (.enter g ⟨[]++args.toList.map a.eval⟩) w:=by
      show(callFunc g _).run C.P w=_;simp only[callFunc,Sem.run_bind,run_program,Result.andThen_ok,hf,hn,hb,Bool.false_eq_true,if_false,Sem.run_pure];congr 2;apply Array.ext';simp
    rw[hr,Oper.uponIn_enter];refine⟨(λx=>by cases x),v8 ((hc w rfl).mono λe w' he=>?_)⟩;obtain⟨hs,h1|h1⟩:=he
    · obtain⟨v,rfl,h2⟩:=h1
      exact hk v w' hs (vZ h2)
    · obtain⟨v,rfl,h2⟩:=h1
      exact hX v w' hs h2
  · rename_i op' x e
    have e:op=_:=e;subst e;have h:=bm hρ h;have hx:(execOp a.eval (⟨dst,.panic x,type,pos,after,guard⟩:Oper)).run C.P w=(do Pure.pure (.value (<-Instr.panic (a.eval x))):Sem Next).run C.P w:=rfl;rw[hx];generalize a.eval x=v at h
    cases v with
    | iface T u=>exact hX (.iface T u) w (.refl w) h
    | _=>exact h.elim
  · exact h.elim
theorem KP{C:Ctx}(hC:jQ C){ro:Option Nat}{n:Nat}{w0:World}{a0:Act}{M:List Nat}{full:List Oper}{N:Fr->ab->Prop}{X:Value->Fr->ab->Prop}{Q:Exit->Act->World->Prop}
    (hN:∀f a w,N f w.heap->rX n a f->aP w0 w->iz M a0 a->Q .normal a w)
    (hX:∀v f a w,X v f w.heap->rX n a f->aP w0 w->iz M a0 a->Q (.panic [{ v:=v,recovered:=false }]) a w) :
    ∀(l:List Oper),(∀o∈l,rp n o=true)->(∀o∈l,∀d,o.dst=some d->d∈M)->(∀o∈l,gK o.op=true->gN∈M/\ro=none)->∀(f:Fr) (a:Act) (w:World),CA C full X l N f w.heap->rX n a f->aP w0 w->iz M a0 a->wpListIn (FW ro) 0 C.P full.toArray Q l a w
  | [],_,_,_,f,a,w,h,hA,hR,hM=>hN f a w h hA hR hM
  | o::r,hl,hm,hdf,f,a,w,h,hA,hR,hM=>by
    have hw:=rY hA (show AH full f o.guard _ from h);have hd:=hl o (by simp);have Ot:=hm o (by simp);have hdo:=hdf o (by simp);have rest:=KP (full:=full) hC (ro:=ro) hN hX r (λo' CH=>hl o' (by simp[CH])) (λo' CH=>hm o' (by simp[CH])) (λo' CH=>hdf o' (by simp[CH]));unfold wpListIn
    split
    · rename_i A1
      rw[A1]at hw
      have hw:(bif XX C o then Kw C f o.op o.type (λv h'=>CA C full X r N (sZ f o.dst v) h') (λv h'=>X v f h') w.heap
        else bif gK o.op then yi f (AJ o.op) λd=>CA C full X r N (sZ ((gN,d)::f) o.dst undef) w.heap else _):=hw
      cases hip:XX C o with
      | true=>
        rw[hip,cond_true]at hw;exact Pc hA.fit o hip hw (λv w' hs h1=>rest _ _ w' h1 (hA.put hd v) (hR.trans hs) (hM.put Ot v)) λv w' hs h1=>hX v f a w' h1 hA (hR.trans hs) hM
      | false=>
        rw[hip,cond_false]at hw
        cases II:gK o.op with
        | true=>
          obtain⟨hk,zc⟩:=hdo II;rw[II,cond_true]at hw;obtain⟨d,hr,hx⟩:=Dv (P:=C.P) (w:=w) hA.fit II hw;refine⟨λ_ _=>trivial,?_⟩;show o.uponIn (FW ro) 0 C.P a _ Q ((o.semAt ro a.eval).run C.P w);rw[semAt_plain (.inl zc),hr,Oper.uponIn_defer];have RI:rX n { a with defers:=toD d::a.defers } ((gN,d)::f):=⟨hA.lim,hA.size,by rw[uG,List.map_cons,<-hA.defers],λt v h=>hA.val t v (by rwa[Fr.rh]at h)⟩;have hM':iz M a0 { a with defers:=toD d::a.defers }:=⟨hM.tmp,λx=>absurd hk x⟩;exact rest _ _ w hx (RI.put hd undef) hR (hM'.put Ot undef)
        | false=>
          have hw:(bif gK o.op then _ else vA C f o.op o.type (λv h'=>tq (guards full o) v λv=>CA C full X r N (sZ f o.dst v) h') w.heap):=hw;rw[II,cond_false]at hw;refine oZ (.inr II) (A0 hC hA.fit o hw) λv w' ⟨hr,hk⟩=>?_;exact rest _ _ w' (qo hk) (hA.put hd v) (hR.trans hr) (hM.put Ot v)
    · rename_i A1
      have I':Region.wanted o (yielded full.toArray a.tmps)=false:=(by simpa using A1);rw[I']at hw;exact⟨λ_ _=>trivial,rest _ _ w hw (hA.put hd undef) hR (hM.put Ot undef)⟩
structure Post(n:Nat)(w0:World)(a0:Act)(M:List Nat)(Q:Ks)(N:Fr->ab->Prop)(R:Exit->Act->World->Prop):Prop where
  normal:∀f a w,N f w.heap->rX n a f->aP w0 w->iz M a0 a->R .normal a w
  exit:∀id f a w,Q.exit id f w.heap->rX n a f->aP w0 w->iz M a0 a->R (.exit id) a w
  ret:∀f a w,Q.ret f w.heap->rX n a f->aP w0 w->(gN ∉ M->a.defers=a0.defers)->R .ret a w
  Iu:∀v f a w,Q.Iu v f w.heap->rX n a f->aP w0 w->(gN ∉ M->a.defers=a0.defers)->R (.panic [{ v:=v,recovered:=false }]) a w
theorem SB{F:Fence}{Q:Exit->Act->World->Prop}(wc:Nat->Act->World->Prop)
    (round:∀k a w,wc k a w->c.wpIn F m P (Exit.then (λa' w'=>∃k',k'<k/\wc k' a' w') Q) a w) {k:Nat} {a:Act} {w:World} (h0:wc k a w):(Code.loop c).wpIn F m P Q a w:=by
  intro b kk cs zc hb hr
  have key:∀(k:Nat) (a:Act) (w:World),wc k a w->∃e a' w',Q e a' w'/\ArrivesIn (Machine.fenced P F) P (lone (b.atR a (.code c :: .inLoop c::kk)) cs w) b kk cs e a' w':=by
    intro k
    induction k using Nat.strongRecOn with
    | _ k ih=>
      intro a w hg;obtain⟨e,a1,w1,hq,we⟩:=round k a w hg b (.inLoop c::kk) cs zc hb hr
      cases e with
      | normal=>
        obtain⟨k',dh,VO⟩:=hq;obtain⟨e2,a2,w2,hq2,aa6⟩:=ih k' dh a1 w1 VO;exact⟨e2,a2,w2,hq2,.of_steps (StepsIn.trans we (.one (fenced_calm hb hr rfl) stepR_inLoop)) aa6⟩
      | outgrown=>exact⟨_,a1,w1,hq,.pass (x:=.inLoop c) rfl (λ_ _=>.inl (by simp)) we⟩
      | exit id=>exact⟨_,a1,w1,hq,.pass (x:=.inLoop c) rfl (λ_ _=>.inl (by simp)) we⟩
      | goto l=>exact⟨_,a1,w1,hq,.pass (x:=.inLoop c) rfl (λ_ _=>.inl (by simp)) we⟩
      | ret=>exact⟨_,a1,w1,hq,.pass (x:=.inLoop c) rfl (λ_ _=>.inl (by simp)) we⟩
      | panic ch=>exact⟨_,a1,w1,hq,.pass (x:=.inLoop c) rfl (λ_ _=>.inl (by simp)) we⟩
  obtain⟨e,a',w',hq,we⟩:=key k a w h0;exact⟨e,a',w',hq,.of_steps (.one (fenced_calm hb hr rfl) stepR_loop) we⟩
theorem mz{b:Frame}{k:List Item}{cs:List Frame}:step P (lone (b.atR a (.code (.scope c)::k)) cs w) = .next (lone (b.atR a (.code c :: .inScope c::k)) cs w):=
  step_lone_go (by simp[stepG,stepG.exec,Frame.atR])
theorem CI{b:Frame}{k:List Item}{cs:List Frame}:step P (lone (b.atR a (.inScope c::k)) cs w) = .next (lone (b.atR a k) cs w):=
  step_lone_go (by simp[stepG,stepG.exec,Frame.atR])
theorem vo{F:Fence}{Q:Exit->Act->World->Prop}(h:c.wpIn F m P (Exit.noGoto Q) a w):(Code.scope c).wpIn F m P Q a w:=by
  intro b k cs zc hb hr;have h0:(lone (b.atR a (.code (.scope c)::k)) cs w).fenced P F:=fenced_calm hb hr rfl;obtain⟨e,a₁,w₁,hq,we⟩:=h b (.inScope c::k) cs zc hb hr
  cases e with
  | normal=>exact⟨.normal,a₁,w₁,hq,.head h0 mz (StepsIn.trans we (.one (fenced_calm hb hr rfl) CI))⟩
  | exit id=>
    have hx:exitTo id (.inScope c::k)=exitTo id k:=by simp[exitTo]
    exact⟨.exit id,a₁,w₁,hq,λk' hk=>.head h0 mz (we.1 k' (by rw[hx];exact hk)),
      λΩ hk=>let ⟨k₁,h1,h2⟩:=we.2 Ω (by rw[hx];exact hk);⟨k₁,h1,.head h0 mz h2⟩⟩
  | goto l=>exact hq.elim
  | ret=>exact⟨_,a₁,w₁,hq,.of_steps (.one h0 mz) we⟩
  | panic ch=>exact⟨_,a₁,w₁,hq,.of_steps (.one h0 mz) we⟩
  | outgrown=>exact⟨_,a₁,w₁,hq,.of_steps (.one h0 mz) we⟩
theorem Fr.get_nil(t:Nat):Fr.get [] t=none:=by
  unfold Fr.get;cases Nat.beq t gN <;> rfl
theorem yr(f:Fr):∀(l:List Nat) (t:Nat) (v:Value),Fr.get (sP f l) t=some v->t∈l/\Fr.get f t=some v
  | [],t,v,h=>by rw[show sP f []=[] from rfl,Fr.get_nil]at h;cases h
  | x::r,t,v,h=>by
    unfold sP at h
    cases hx:Fr.get f x with
    | none=>rw[hx]at h;obtain⟨h1,h2⟩:=yr f r t v h;exact⟨by simp[h1],h2⟩
    | some u=>
      rw[hx]at h;simp only at h;rw[Fr.pK _ _ _ _ (Fr.Aj hx)]at h
      by_cases e:x=t
      · subst e;rw[if_pos rfl]at h;exact⟨by simp,hx.trans h⟩
      · rw[if_neg e]at h;obtain⟨h1,h2⟩:=yr f r t v h;exact⟨by simp[h1],h2⟩
theorem yt(f:Fr):∀l:List Nat,sY (sP f l)=[]
  | []=>rfl
  | x::r=>by
    unfold sP
    cases hx:Fr.get f x with
    | none=>exact yt f r
    | some u=>show sY ((x,u)::sP f r)=[];rw[rj _ _ _ (Fr.Aj hx),yt f r]
theorem A2{f2:Fr}(hA:rX n a f2){R S:Type} :
    ∀(l:List (Nat×Ty)) (I:oq l R) (μ:oq l S) (fk:Fr) (K:R->S->Prop) (zO:R->S->Fr->Prop),Mg l I μ f2 K->AK l I μ fk zO->(∀t v,Fr.get fk t=some v->a.tmps.getD t undef=v)->
    ∃i m f',K i m/\zO i m f'/\sY f'=sY fk/\∀t v,Fr.get f' t=some v->a.tmps.getD t undef=v:=by
  have base:∀(fk:Fr) (t:Nat) (v:Value),Fr.get f2 t=some v->(∀t v,Fr.get fk t=some v->a.tmps.getD t undef=v)->∀t' v',Fr.get ((t,v)::fk) t'=some v'->a.tmps.getD t' undef=v':=by
    intro fk t v hg hb t' v' h';rw[Fr.pK _ _ _ _ (Fr.Aj hg)]at h'
    by_cases e:t=t'
    · subst e;rw[if_pos rfl]at h';have:=Option.some.inj h';subst this;exact hA.val _ _ hg
    · rw[if_neg e]at h';exact hb _ _ h'
  have xg:∀{t:Nat} {v:Value} {fk:Fr} {K:R->S->Prop} {zO:R->S->Fr->Prop},Fr.get f2 t=some v->(∃i m f',K i m/\zO i m f'/\sY f'=sY ((t,v)::fk)/\∀t v,Fr.get f' t=some v->a.tmps.getD t undef=v)->
      ∃i m f',K i m/\zO i m f'/\sY f'=sY fk/\∀t v,Fr.get f' t=some v->a.tmps.getD t undef=v:=by
    rintro t v fk K zO hv ⟨i,m,f',h1,h2,h3,h4⟩;exact⟨i,m,f',h1,h2,by rw[h3,rj _ _ _ (Fr.Aj hv)],h4⟩
  intro l
  induction l with
  | nil=>intro I μ fk K zO h1 h2 hb;exact⟨I,μ,fk,h1,h2,rfl,hb⟩
  | cons x r ih=>
    obtain⟨t,ty⟩:=x;intro I μ fk K zO h1 h2 hb
    cases ty with
    | int kd=>
      obtain⟨v,hv,h1⟩:=aV h1;obtain⟨k',m,rfl,h3⟩:=jX h1
      cases hk:kz kd k' with
      | false=>rw[hk]at h3;exact h3.elim
      | true=>rw[hk]at h3;obtain rfl:=lA hk;exact xg hv (ih _ _ _ _ _ h3 (h2 m) (base _ _ _ hv hb))
    | bool=>
      obtain⟨v,hv,h1⟩:=aV h1;obtain⟨b,rfl,h3⟩:=tD h1;exact xg hv (ih _ _ _ _ _ h3 (h2 b) (base _ _ _ hv hb))
    | str=>
      obtain⟨v,hv,h1⟩:=aV h1;obtain⟨b,rfl,h3⟩:=rW h1;exact xg hv (ih _ _ _ _ _ h3 (h2 b) (base _ _ _ hv hb))
    | ptr=>
      obtain⟨v,hv,h1⟩:=aV h1;obtain⟨b,rfl,h3⟩:=vX h1;exact xg hv (ih _ _ _ _ _ h3 (h2 b) (base _ _ _ hv hb))
    | slice=>
      obtain⟨v,hv,h1⟩:=aV h1;obtain⟨b,l',c,rfl,h3⟩:=jY h1;exact xg hv (ih _ _ _ _ _ h3 (h2 b l' c) (base _ _ _ hv hb))
    | agg=>
      obtain⟨v,hv,h1⟩:=aV h1;obtain⟨b,rfl,h3⟩:=vY h1;exact xg hv (ih _ _ _ _ _ h3 (h2 b) (base _ _ _ hv hb))
    | any=>
      obtain⟨v,hv,h1⟩:=aV h1;exact xg hv (ih _ _ _ _ _ h1 (h2 v) (base _ _ _ hv hb))
    | clo=>
      obtain⟨v,hv,h1⟩:=aV h1;exact xg hv (ih _ _ _ _ _ h1 (h2 v) (base _ _ _ hv hb))
    | map=>
      obtain⟨v,hv,h1⟩:=aV h1;obtain⟨b,rfl,h3⟩:=kM h1;exact xg hv (ih _ _ _ _ _ h3 (h2 b) (base _ _ _ hv hb))
def vp : Code->Bool
  | .region _ ops _=>ops.toList.all λo=>!gK o.op
  | .seq a b=>vp a && vp b
  | .cond _ a b=>vp a && vp b
  | .block _ a| .loop a| .scope a=>vp a
  | .rangeFunc _ _ _ _=>false
  | _=>true
def xh : List Nat->List Nat->Bool
  | [],[]=>true
  | a::r,b::s=>Nat.beq a b && xh r s
  | _,_=>false
theorem zd : ∀{a b:List Nat},xh a b=true->a=b
  | [],[],_=>rfl
  | a::r,b::s,h=>by
    simp only[xh,Bool.and_eq_true]at h;rw[Nat.eq_of_beq_eq_true h.1,zd h.2]
  | [],_::_,h=>by cases h
  | _::_,[],h=>by cases h
def codeOk(C:Ctx)(n:Nat)(drawn:Nat->List Oper->Bool):Code->Bool
  | .region id ops draw=>(ops.toList.all (rp n)) && (bif draw then(ops.toList.all λo=>!gK o.op) && drawn id ops.toList else true)
  | .seq a b=>codeOk C n drawn a && codeOk C n drawn b
  | .cond _ a b=>codeOk C n drawn a && codeOk C n drawn b
  | .block _ a=>codeOk C n drawn a
  | .scope a=>codeOk C n drawn a
  | .loop a=>codeOk C n drawn a && ((C.loops (vR a)).1.all λt=>(gX a).all λm=>!(Nat.beq m t)) && (gX a).all λm=>!(Nat.beq m gN)
  | .rangeFunc _ ps assign body=>codeOk C n drawn assign && codeOk C n drawn body && vp assign && vp body && xh ps.toList ((C.loops (OX assign body)).2.map (·.1)) && ps.toList.all λt=>Nat.blt t n
  | _=>true
def GF(C:Ctx)(n:Nat)(drawn:Nat->List Oper->Bool):Prop:=
  ∀(ro:Option Nat) (id:Nat) (ops:Array Oper) (N:Fr->ab->Prop) (R:Exit->Act->World->Prop) (f:Fr) (a:Act) (w0 w:World),drawn id ops.toList=true->(∀o∈ops.toList,rp n o=true)->(∀o∈ops.toList,gK o.op=false)->
    yk C ops.toList (C.qE id) N f w.heap->rX n a f->aP w0 w->(∀f a' w,N f w.heap->rX n a' f->aP w0 w->iz (dstsOf ops.toList) a a'->R .normal a' w)->
    (Code.region id ops true).wpIn (FW ro) 0 C.P R a w
def SC(f:Fr):List (Nat×Value)->Fr
  | []=>f
  | p::r=>SC (p::f) r
def Pd(tmps:Array Value)(ps:List (Nat×Value)):Array Value:=ps.foldl (λtmps p=>tmps.setIfInBounds p.1 p.2) tmps
theorem A3 : ∀(l:List (Nat×Ty)) (f:Fr) (acc:LV) (K:Fr->LV->Prop),(∀vs:LV,vs.length=l.length->K (SC f ((l.map (·.1)).zip vs)) (acc++vs))->yl l f acc K
  | [],f,acc,K,h=>by
    have:=h [] rfl;rw[List.append_nil]at this;exact this
  | (t,ty)::r,f,acc,K,h=>by
    have go:∀v:Value,yl r ((t,v)::f) (acc++[v]) K:=λv=>by
      refine A3 r ((t,v)::f) (acc++[v]) K λvs hl=>?_;have:=h (v::vs) (by simp[hl]);simpa[SC]using this
    cases ty with
    | int k=>exact λn=>go _
    | bool=>exact λn=>go _
    | str=>exact λn=>go _
    | ptr=>exact λn=>go _
    | slice=>exact λa l c=>go _
    | agg=>exact λn=>go _
    | any=>exact λn=>go _
    | clo=>exact λn=>go _
    | map=>exact λn=>go _
theorem GG{n:Nat}:∀(ps:List (Nat×Value)) (tmps:Array Value) (f:Fr),rX n { tmps:=tmps,defers:=[] } f->(∀p∈ps,p.1<n)->rX n { tmps:=Pd tmps ps,defers:=[] } (SC f ps)
  | [],tmps,f,h,_=>h
  | (d,v)::r,tmps,f,h,hp=>by
    have dh:d<n:=hp (d,v) (by simp);have fB:d≠gN:=Nat.ne_of_lt (Nat.lt_of_lt_of_le dh h.lim);refine GG r (tmps.setIfInBounds d v) ((d,v)::f) ⟨h.lim,by simpa using h.size,by rw[rj _ _ _ fB];exact h.defers,λt u hu=>?_⟩ λp kA=>hp p (by simp[kA]);rw[Fr.pK _ _ _ _ fB]at hu
    by_cases e:d=t
    · subst e
      rw[if_pos rfl]at hu;have:=Option.some.inj hu;subst this;have hs:d<tmps.size:=(by have:=h.size;simp only at this;omega);simp[hs]
    · rw[if_neg e]at hu
      have:=h.val t u hu;simpa[Array.getElem?_setIfInBounds_ne e]using this
theorem GH{i:Nat}{E:NP}:∀{l:List Nat},exX l i E->E i
  | [],h=>h.elim
  | j::r,h=>by
    have h:bif Nat.beq i j then E j else exX r i E:=h
    cases hb:Nat.beq i j with
    | true=>rw[hb]at h;rw[Nat.eq_of_beq_eq_true hb];exact h
    | false=>rw[hb]at h;exact GH (l:=r) h
theorem Ye{C:Ctx}(hC:jQ C){n:Nat}{drawn:Nat->List Oper->Bool}(hD:GF C n drawn) :
    ∀(c:Code),codeOk C n drawn c=true->∀(ro:Option Nat),(ro=none∨vp c=true)->∀(w0:World) (Q:Ks) (N:Fr->ab->Prop) (R:Exit->Act->World->Prop) (f:Fr) (a:Act) (w:World),
      Kx C c Q N f w.heap->rX n a f->aP w0 w->Post n w0 a (gX c) Q N R->c.wpIn (FW ro) 0 C.P R a w:=by
  intro c
  induction c with
  | skip=>intro _ ro _ w0 Q N R f a w h hA hR hP;exact wpIn_skip (hP.normal f a w h hA hR (.refl _ _))
  | region id ops draw=>
    intro qO ro zc w0 Q N R f a w h hA hR hP;simp only[codeOk,Bool.and_eq_true,List.all_eq_true]at qO;have sub:∀t∈dstsOf ops.toList,t∈gX (Code.region id ops draw):=λt ht=>List.mem_append_right _ ht
    cases draw with
    | true=>
      have Yf:=qO.2;rw[cond_true,Bool.and_eq_true,List.all_eq_true]at Yf;exact hD ro id ops N R f a w0 w Yf.2 qO.1 (λo ho=>by simpa using Yf.1 o ho) h hA hR λf a' w h1 h2 h3 h4=>hP.normal f a' w h1 h2 h3 (h4.mono sub)
    | false=>
      refine wpIn_region_list ?_;have h:(bif ops.toList.any (XX C)then CA C ops.toList Q.Iu ops.toList N f w.heap else Gq C ops.toList ops.toList N f w.heap):=h
      have hdef:∀o∈ops.toList,gK o.op=true->gN∈gX (Code.region id ops false)/\ro=none:=λo ho hd=>⟨List.mem_append_left _ (by
        unfold Yc
        rw[List.any_eq_true.mpr ⟨o,ho,hd⟩];simp),by
        rcases zc with h|h
        · exact h
        · have:=List.all_eq_true.1 h o ho
          rw[hd]at this;cases this⟩
      cases hp:ops.toList.any (XX C)with
      | true=>
        rw[hp,cond_true]at h;have:=KP (Q:=R) hC (ro:=ro) (full:=ops.toList) (λf a' w h1 h2 h3 h4=>hP.normal f a' w h1 h2 h3 h4) (λv f a' w h1 h2 h3 h4=>hP.Iu v f a' w h1 h2 h3 h4.RH) ops.toList qO.1 (λo ho d hd=>sub _ (wa ho hd)) hdef f a w h hA hR (iz.refl _ _);simpa using this
      | false=>
      rw[hp,cond_false]at h
      have:=KO (Q:=R) hC (ro:=ro) (full:=ops.toList) (λf a' w h1 h2 h3 h4=>hP.normal f a' w h1 h2 h3 h4) ops.toList qO.1 (λo ho d hd=>sub _ (wa ho hd)) (λo ho hd=>⟨List.mem_append_left _ (by
        unfold Yc
        rw[List.any_eq_true.mpr ⟨o,ho,hd⟩];simp),by
        rcases zc with h|h
        · exact h
        · have:=List.all_eq_true.1 h o ho
          rw[hd]at this;cases this⟩) f a w h hA hR (iz.refl _ _)
      simpa using this
  | seq x y ihx ihy=>
    intro qO ro zc w0 Q N R f a w h hA hR hP;simp only[codeOk,Bool.and_eq_true]at qO;have hrx:ro=none∨vp x=true:=zc.imp id λh=>by simp only[vp,Bool.and_eq_true]at h;exact h.1
    have hry:ro=none∨vp y=true:=zc.imp id λh=>by simp only[vp,Bool.and_eq_true]at h;exact h.2
    refine wpIn_seq (ihx qO.1 ro hrx w0 Q _ _ f a w h hA hR ⟨?_,?_,?_,?_⟩)
    · intro f1 a1 w1 h1 Ja Ou Iw
      refine ihy qO.2 ro hry w0 Q N R f1 a1 w1 h1 Ja Ou ⟨?_,?_,?_,?_⟩
      · intro f2 a2 w2 h2 Ix Jb SD
        exact hP.normal f2 a2 w2 h2 Ix Jb ((Iw.mono λt ht=>by simp[gX,ht]).trans (SD.mono λt ht=>by simp[gX,ht]))
      · intro id f2 a2 w2 h2 Ix Jb SD
        exact hP.exit id f2 a2 w2 h2 Ix Jb ((Iw.mono λt ht=>by simp[gX,ht]).trans (SD.mono λt ht=>by simp[gX,ht]))
      · exact λf2 a2 w2 h2 Ix Jb hd=>hP.ret f2 a2 w2 h2 Ix Jb λhn=>(hd λx=>hn (by simp[gX,x])).trans (Iw.RH λx=>hn (by simp[gX,x]))
      · exact λv f2 a2 w2 h2 Ix Jb hd=>hP.Iu v f2 a2 w2 h2 Ix Jb λhn=>(hd λx=>hn (by simp[gX,x])).trans (Iw.RH λx=>hn (by simp[gX,x]))
    · exact λid f1 a1 w1 h1 Ja Ou Iw=>hP.exit id f1 a1 w1 h1 Ja Ou (Iw.mono λt ht=>by simp[gX,ht])
    · exact λf1 a1 w1 h1 Ja Ou hd=>hP.ret f1 a1 w1 h1 Ja Ou λhn=>hd λx=>hn (by simp[gX,x])
    · exact λv f1 a1 w1 h1 Ja Ou hd=>hP.Iu v f1 a1 w1 h1 Ja Ou λhn=>hd λx=>hn (by simp[gX,x])
  | cond c x y ihx ihy=>
    intro qO ro zc w0 Q N R f a w h hA hR hP;simp only[codeOk,Bool.and_eq_true]at qO;have hrx:ro=none∨vp x=true:=zc.imp id λh=>by simp only[vp,Bool.and_eq_true]at h;exact h.1
    have hry:ro=none∨vp y=true:=zc.imp id λh=>by simp only[vp,Bool.and_eq_true]at h;exact h.2
    obtain⟨t,hc,h1⟩:=tD (bm hA.fit h);refine wpIn_cond hc ?_
    cases t with
    | true=>exact ihx qO.1 ro hrx w0 Q N R f a w h1 hA hR ⟨λf a' w h1 h2 h3 h4=>hP.normal f a' w h1 h2 h3 (h4.mono λt ht=>by simp[gX,ht]),λid f a' w h1 h2 h3 h4=>hP.exit id f a' w h1 h2 h3 (h4.mono λt ht=>by simp[gX,ht]),λf a' w h1 h2 h3 hd=>hP.ret f a' w h1 h2 h3 λhn=>hd λx=>hn (by simp[gX,x]),λv f a' w h1 h2 h3 hd=>hP.Iu v f a' w h1 h2 h3 λhn=>hd λx=>hn (by simp[gX,x])⟩
    | false=>exact ihy qO.2 ro hry w0 Q N R f a w h1 hA hR ⟨λf a' w h1 h2 h3 h4=>hP.normal f a' w h1 h2 h3 (h4.mono λt ht=>by simp[gX,ht]),λid f a' w h1 h2 h3 h4=>hP.exit id f a' w h1 h2 h3 (h4.mono λt ht=>by simp[gX,ht]),λf a' w h1 h2 h3 hd=>hP.ret f a' w h1 h2 h3 λhn=>hd λx=>hn (by simp[gX,x]),λv f a' w h1 h2 h3 hd=>hP.Iu v f a' w h1 h2 h3 λhn=>hd λx=>hn (by simp[gX,x])⟩
  | block id x ih=>
    intro qO ro zc w0 Q N R f a w h hA hR hP;refine wpIn_block (ih qO ro zc w0 _ _ _ f a w h hA hR ⟨λf a' w h1 h2 h3 h4=>hP.normal f a' w h1 h2 h3 h4,?_,λf a' w h1 h2 h3 hd=>hP.ret f a' w h1 h2 h3 hd,λv f a' w h1 h2 h3 hd=>hP.Iu v f a' w h1 h2 h3 hd⟩);intro i f1 a1 w1 h1 Ja Ou Iw;show Exit.inBlock id R (.exit i) a1 w1;simp only[Exit.inBlock]
    cases hb:Nat.beq i id with
    | true=>
      rw[if_pos (Nat.eq_of_beq_eq_true hb)];exact hP.normal f1 a1 w1 (by simpa[hb]using h1) Ja Ou Iw
    | false=>
      have:i≠id:=λe=>by subst e;rw[Nat.beq_refl]at hb;cases hb
      rw[if_neg this];exact hP.exit i f1 a1 w1 (by simpa[hb]using h1) Ja Ou Iw
  | scope x ih=>
    intro qO ro zc w0 Q N R f a w h hA hR hP;exact vo (ih qO ro zc w0 Q N (Exit.noGoto R) f a w h hA hR ⟨λf a' w h1 h2 h3 h4=>hP.normal f a' w h1 h2 h3 h4,λi f a' w h1 h2 h3 h4=>hP.exit i f a' w h1 h2 h3 h4,λf a' w h1 h2 h3 hd=>hP.ret f a' w h1 h2 h3 hd,λv f a' w h1 h2 h3 hd=>hP.Iu v f a' w h1 h2 h3 hd⟩)
  | label l=>intro _ ro _ w0 Q N R f a w h hA hR hP;exact wpIn_label (hP.normal f a w h hA hR (.refl _ _))
  | exit id=>intro _ ro _ w0 Q N R f a w h hA hR hP;exact wpIn_exit (hP.exit id f a w h hA hR (.refl _ _))
  | ret=>intro _ ro _ w0 Q N R f a w h hA hR hP;exact wpIn_ret (hP.ret f a w h hA hR λ_=>rfl)
  | loop x ih=>
    intro qO ro zc w0 Q N R f a w h hA hR hP;simp only[codeOk,Bool.and_eq_true]at qO;obtain⟨⟨hokx,aa7⟩,Yd⟩:=qO;obtain⟨I,μ,RG,GA⟩:=h
    have EN:gN ∉ gX x:=λhm=>by
      have:=List.all_eq_true.1 Yd _ hm;simp[Nat.beq_refl]at this
    have hdis:∀t∈(C.loops (vR x)).1,t ∉ gX x:=by
      intro t ht hm;have:=List.all_eq_true.1 (List.all_eq_true.1 aa7 t ht) t hm;simp[Nat.beq_refl]at this
    have KQ:∀a':Act,iz (gX x) a a'->∀t v,Fr.get (wS (sY f) (sP f (C.loops (vR x)).1)) t=some v->a'.tmps.getD t undef=v:=by
      intro a' hM t v hg;rw[Fr.Ds]at hg;obtain⟨h1,h2⟩:=yr f _ t v hg;rw[hM.tmp t (hdis t h1)];exact hA.val t v h2
    have hdfs:sY (wS (sY f) (sP f (C.loops (vR x)).1))=sY f:=by rw[Du,yt,List.append_nil]
    let zO:(HP)->(ab->Nat)->Fr->Prop:=λi m f'=>∀h',i h'->Kx C x Q (λf2 h2=>Mg (C.loops (vR x)).2 I μ f2 λi2 m2=>i2 h2/\m2 h2<m h') f' h'
    let wc:Nat->Act->World->Prop:=λk a' w'=>∃i m f',m w'.heap=k/\i w'.heap/\zO i m f'/\rX n a' f'/\aP w0 w'/\iz (gX x) a a'
    have agr:∀{a':Act} {f' f2:Fr},iz (gX x) a a'->rX n a' f2->sY f'=sY (wS (sY f) (sP f (C.loops (vR x)).1))->(∀t v,Fr.get f' t=some v->a'.tmps.getD t undef=v)->rX n a' f':=
      λhM RI hd hv=>⟨RI.lim,RI.size,by rw[hM.RH EN,hA.defers,hd,hdfs],hv⟩
    have start:∃k,wc k a w:=by
      obtain⟨i,m,f',h1,h2,hd,h3⟩:=A2 hA _ I μ _ _ zO RG GA (KQ a (.refl _ _));exact⟨m w.heap,i,m,f',rfl,h1,h2,agr (.refl _ _) hA hd h3,hR,.refl _ _⟩
    obtain⟨k,hg⟩:=start;refine SB wc ?_ hg;rintro k1 a1 w1 ⟨i,m,f',rfl,hi,hK,Ja,Ou,Iw⟩;refine ih hokx ro zc w0 Q _ _ f' a1 w1 (hK _ hi) Ja Ou ⟨?_,?_,?_,?_⟩
    · intro f2 a2 w2 h2 Ix Jb SD
      obtain⟨i',m',f3,⟨h1,dh⟩,h4,hd,h3⟩:=A2 Ix _ I μ _ _ zO h2 GA (KQ a2 (Iw.trans SD));exact⟨m' w2.heap,dh,i',m',f3,rfl,h1,h4,agr (Iw.trans SD) Ix hd h3,Jb,Iw.trans SD⟩
    · exact λid f2 a2 w2 h2 Ix Jb SD=>hP.exit id f2 a2 w2 h2 Ix Jb (Iw.trans SD)
    · exact λf2 a2 w2 h2 Ix Jb hd=>hP.ret f2 a2 w2 h2 Ix Jb λhn=>(hd hn).trans (Iw.RH hn)
    · exact λv f2 a2 w2 h2 Ix Jb hd=>hP.Iu v f2 a2 w2 h2 Ix Jb λhn=>(hd hn).trans (Iw.RH hn)
  | rangeFunc g ps assign body iha ihb=>
    intro qO ro zc w0 Q N R f a w h hA hR hP;simp only[codeOk,Bool.and_eq_true,List.all_eq_true]at qO;obtain⟨⟨⟨⟨⟨hoa,hob⟩,hna⟩,hnb⟩,hps⟩,dh⟩:=qO;have hps:=zd hps
    have zc:ro=none:=by
      rcases zc with h|h
      · exact h
      · cases h
    subst zc;have h:=bm hA.fit h;refine wpIn_rangeFunc λfn _=>?_;have h:=h { state:=.ready,pending:=none,fn:=fn,tmps:=a.tmps,params:=ps,assign:=assign,body:=body,defers:=w.heap.size };generalize hL:({ state:=.ready,pending:=none,fn:=fn,tmps:=a.tmps,params:=ps,assign:=assign,body:=body,defers:=w.heap.size }:Loop)=L at h;have hl:w.heap.size+1=w.heap.size+1:=rfl
    -- the rounds
    have rounds:yl (C.loops (OX assign body)).2 (Kn f) [] λf' args=>∀(h3:ab) (k:KT),
        br h3 (w.heap.size+1) L .ready none->
        Kx C assign { exit:=λ_ _ _=>False,ret:=λ_ _=>False }
          (λf2 h4=>br h4 (w.heap.size+1) L .ready none/\
            Kx C body { exit:=λi _ h5=>br h5 (w.heap.size+1) L .busy none/\k (.bool false) (cZ h5 (w.heap.size+1) L .done (some (.exit i))),
                         ret:=λ_ h5=>br h5 (w.heap.size+1) L .busy none/\k (.bool false) (cZ h5 (w.heap.size+1) L .done (some .ret)) }
              (λ_ h5=>br h5 (w.heap.size+1) L .busy none/\k (.bool true) (cZ h5 (w.heap.size+1) L .ready none)) f2 (cZ h4 (w.heap.size+1) L .busy none)) f' h3->
        mj C.P (w.heap.size+1) args h3 k:=by
      refine A3 _ _ _ _ λvs hlen h3 k hon hx w3 hw3=>?_;subst hw3;subst hL
      have iH:vs.length=ps.size:=by
        have:=congrArg List.length hps;simp only[List.length_map,Array.length_toList]at this;omega
      have X9:=run_yield (P:=C.P) (args:=⟨vs⟩) hon (by simpa using iH);refine⟨_,_,_,_,X9,?_⟩;refine roundIn_of_wpIn trivial ?_
      have aa9:(ps.zip ⟨vs⟩).foldl (λtmps (x:Nat×Value)=>tmps.setIfInBounds x.1 x.2) a.tmps=Pd a.tmps (((C.loops (OX assign body)).2.map (·.1)).zip vs):=by
        rw[<-hps,Pd,<-Array.foldl_toList,Array.toList_zip]
      have hA0:rX n { tmps:=a.tmps,defers:=[] } (Kn f):=⟨hA.lim,hA.size,by rw[ET];rfl,λt v h=>hA.val t v (by rwa[ES]at h)⟩
      have Ja:=GG (((C.loops (OX assign body)).2.map (·.1)).zip vs) a.tmps (Kn f) hA0 λp hp=>by
        have:=(List.of_mem_zip hp).1;rw[<-hps]at this;exact Nat.le_of_ble_eq_true (dh _ this)
      rw[<-aa9]at Ja;have sr:∀{w5:World} (o:Obj),aP w3 w5->aP w3 (w5.putObj (w.heap.size+1) o):=λo h=>⟨h.1,h.2.1,h.2.2⟩;refine iha hoa (some _) (.inr hna) w3 _ _ _ _ _ w3 hx Ja (.refl _) ⟨λf4 a4 w4 h4 hA4 hR4 _=>?_,λ_ _ _ _ h=>h.elim,λ_ _ _ h=>h.elim,λ_ _ _ _ h=>h.elim⟩;obtain⟨hon4,hx4⟩:=h4;refine⟨_,run_beginRound hon4 rfl,?_⟩;refine ihb hob (some _) (.inr hnb) w3 _ _ _ f4 a4 (w4.putObj (w.heap.size+1) _) hx4 hA4 (sr _ hR4) ⟨λf5 a5 w5 h5 _ hR5 _=>?_,λi f5 a5 w5 h5 _ hR5 _=>?_,λf5 a5 w5 h5 _ hR5 _=>?_,λ_ _ _ _ h=>h.elim⟩
      · exact⟨_,_,run_endRound none h5.1,_,rfl,sr _ hR5,h5.2⟩
      · exact⟨_,_,run_endRound (some (.exit i)) h5.1,_,rfl,sr _ hR5,h5.2⟩
      · exact⟨_,_,run_endRound (some .ret) h5.1,_,rfl,sr _ hR5,h5.2⟩
    have h:=h rounds;unfold rP at h
    split at h
    · rename_i gid fs cs hv
      obtain⟨⟨fn',hf',Gf,mQ⟩,hc⟩:=h
      let w1:World:=(w.alloc (.deferred (some []))).alloc (.loop L)
      have hw1:w1.heap=bN w.heap L:=(by subst hL;rfl);have Yg:aP w w1:=⟨rfl,rfl,rfl⟩;refine⟨w.heap.size+1,[{ target:=.collected w.heap.size,args:=#[] }],w1,{ target:=.fn (.func gid) cs,args:=fs ++ #[.func (.yield (w.heap.size+1)) #[] #[]] },w1,gid,⟨fs.toList++[.func (.yield (w.heap.size+1)) #[] #[]]++cs.toList⟩,w1,?_,?_,λ_ _=>trivial,?_,(λx=>by cases x),?_⟩
      · subst hL;exact run_enterLoop_outer fn a.tmps ps assign body
      · have hv:a.eval g = .func (.func gid) fs cs:=hv
        have hm:Array.map a.eval #[Operand.const (Value.func (Fn.yield (w.heap.size+1)) #[] #[])] = #[Value.func (Fn.yield (w.heap.size+1)) #[] #[]]:=(by simp[Act.eval]);simp only[resolve,hv,Deferred.ofValue,Sem.run_pure,hm]
      · show(callFunc gid _).run C.P w1=_
        simp only[callFunc,Sem.run_bind,run_program,Result.andThen_ok,hf',Gf,mQ,Bool.false_eq_true,if_false,Sem.run_pure];congr 3;apply Array.ext';simp
      · refine v8 ((hc w1 hw1).mono λe w6 ⟨v,he,hsr,st,p,hon,pH,xi⟩=>?_)
        subst he;refine⟨p,w6.putObj (w.heap.size+1) (.loop { L with state:=.exhausted,pending:=p }),run_endLoop hon pH,?_⟩
        have RI:rX n { a with defers:=[{ target:=.collected w.heap.size,args:=#[] }]++a.defers } ((gN,.pointer (some ⟨w.heap.size,0,none⟩))::f):=
          ⟨hA.lim,hA.size,by rw[uG,List.map_cons,<-hA.defers];rfl,λt v h=>hA.val t v (by rwa[Fr.rh]at h)⟩
        have Yh:aP w0 (w6.putObj (w.heap.size+1) (.loop { L with state:=.exhausted,pending:=p })):=⟨(hR.trans (Yg.trans hsr)).1,(hR.trans (Yg.trans hsr)).2.1,(hR.trans (Yg.trans hsr)).2.2⟩;have hM':iz [gN] a { a with defers:=[{ target:=.collected w.heap.size,args:=#[] }]++a.defers }:=⟨λ_ _=>rfl,λx=>absurd (List.mem_singleton.2 rfl) x⟩
        cases p with
        | none=>exact hP.normal _ _ _ xi RI Yh hM'
        | some c=>
          cases c with
          | ret=>
            have xi:bif tu body then _ else False:=xi
            cases hb:tu body with
            | false=>rw[hb]at xi;exact xi.elim
            | true=>rw[hb]at xi;exact wpIn_ret (hP.ret _ _ _ xi RI Yh λx=>absurd (List.mem_singleton.2 rfl) x)
          | exit i=>exact wpIn_exit (hP.exit i _ _ _ (GH xi) RI Yh hM')
          | _=>exact xi.elim
    · exact h.elim
  | _=>intro _ ro _ w0 Q N R f a w h;exact h.elim
end Wx
end Go.Proofs.YtiapingedfnlnaaGreatDoor
