/- filePlays_card -/
import Derived.WalkKit
import Derived.KernelRfl
import Derived.RangeFuncRecord
import Derived.RangeFuncSeq
import Derived.OrdersIn
import Derived.TacticsIn
import Derived.MapKept
import Derived.Laws.CopyRow
import Derived.Scope
import Derived.Lib.Bytealg
import Derived.Laws.Tables
import Derived.Laws.IdiomStrings
import Derived.Laws.IdiomRangeMap
namespace Go.Proofs.YtjdcbblgaoogmaaGreatDoor
open Go Go.Proofs
variable{t e cap size t' m i:Nat}{a b:Act}{c:Code}{w:World}{x y:Value}{s:ByteArray}{f:FuncId}
section
universe u v
theorem lA0{α:Type u}{a b:List α}:(a++b).length=a.length+b.length:=List.length_append
theorem lM0{α:Type u}{β:Type v}{f:α->β}{a:List α}:(a.map f).length=a.length:=List.length_map f
theorem lT0{α:Type u}{n:Nat}{a:List α}:(a.take n).length=min n a.length:=List.length_take
theorem lD0{α:Type u}{n:Nat}{a:List α}:(a.drop n).length=a.length-n:=List.length_drop
theorem lG0{α:Type u}{β:Type v}{f:α->β}{a:List α}{n:Nat}:(a.map f)[n]?=(a[n]?).map f:=List.getElem?_map
theorem tN0{n:Nat}:(n:Int).toNat=n:=Int.toNat_natCast n
theorem nL0{n:Nat}:n<=n:=Nat.le_refl n
theorem nZ0{n:Nat}:0<=n:=Nat.zero_le n
namespace Ad
end Ad
namespace Av
end Av
namespace Bm
end Bm
namespace Bt
end Bt
namespace Fi
end Fi
namespace Gl
end Gl
namespace Hd
end Hd
namespace Hp
end Hp
namespace In
end In
namespace Ino
end Ino
namespace L3
end L3
namespace Pn
end Pn
namespace Re
end Re
namespace Rf
end Rf
namespace Rg
end Rg
namespace Rx
end Rx
namespace Spc
end Spc
namespace Su
end Su
namespace Tm
end Tm
namespace Tp
end Tp
namespace W
end W
namespace Wc
end Wc
namespace Wx
end Wx
end
namespace Wx
open Go
abbrev ad :=Array Obj
abbrev OA:=Option Addr
abbrev LV:=List Value
abbrev LB:=List UInt8
abbrev NP:=Nat->Prop
abbrev HP:=ad->Prop
abbrev KT:=Value->ad->Prop
abbrev Fr :=List (Nat×Value)
def hZ : Nat:=1000000000
def OR : Fr->Nat->Option Value
  | [],_=>none
  | (i,v)::r,t=>bif Nat.beq i t then some v else OR r t
def Fr.get(f:Fr)(t:Nat):Option Value:=bif Nat.beq t hZ then none else OR f t
def ur : Fr->LV
  | []=>[]
  | (i,v)::r=>bif Nat.beq i hZ then v::ur r else ur r
def Nr : Fr->Fr
  | []=>[]
  | (i,v)::r=>bif Nat.beq i hZ then Nr r else(i,v)::Nr r
def yN : LV->Fr->Fr
  | [],f=>f
  | v::r,f=>(hZ,v)::yN r f
inductive D where
  | bool|int (k:IntKind)|str|ptr (e:Nat)|slice (e:Nat)|arr (n e:Nat)|struct (fs:List (Nat×Nat))|fn|map (k e:Nat)|other
structure TI where
  ok:Bool
  d:D
  cells:Nat
  bytes:Nat
  zero:LV
  eq:List D
def UL : TI:=⟨false,.other,0,0,[],[]⟩
def sE(t:TI)(p:Prop):Prop:=bif t.ok then p else False
def QR(l:List (Nat×TI))(t:Nat):TI:=
  match l with
  | []=>UL
  | (i,x)::r=>bif Nat.beq i t then x else QR r t
def Xu{α:Type}(l:List (Nat×List α))(t:Nat):List α:=
  match l with
  | []=>[]
  | (i,x)::r=>bif Nat.beq i t then x else Xu r t
inductive Ty where
  | int (k:IntKind)|bool|str|ptr|slice|agg|any|map|QS
def D.ty : D->Ty
  | .int k=>.int k| .bool=>.bool| .str=>.str| .ptr _=>.ptr| .slice _=>.slice| .arr _ _=>.agg| .struct _=>.agg| .fn=>.any| .map _ _=>.map| .other=>.any
inductive Od where
  | nil
  | op (i:Nat) (st:List Nat) (r:Od)
  | alt (i:Nat) (st:List Nat) (r o:Od)
structure Ctx where
  P:Program
  ti:Nat->TI
  sig:Nat->List Ty
  loops:Nat->List Nat×List (Nat×Ty)
  td:Nat->Od
  nat:List Nat
  Le:List Nat
def cellOf(h:ad)(a:Addr):Option Value:=
  match h[a.block]? with
  | some (.cells c _ _)=>if a.spot.isSome then none else c[a.off]?
  | _=>none
def rO(h:ad)(a:Addr):Bool:=
  match h[a.block]? with
  | some (.cells _ _ (lo,hi))=>lo<=a.off && a.off<hi
  | _=>false
def setOf(h:ad)(a:Addr)(v:Value):ad:=
  h.modify a.block fun
      | .cells c elem frozen=>.cells (if a.spot.isSome then c else c.setIfInBounds a.off v) elem frozen
      | o=>o
def aj(h:ad)(a:Addr)(xs:LV):Prop:=∀(i:Nat) (v:Value),xs[i]?=some v->cellOf h (a.add i)=some v
def ak(h:ad)(a:OA)(xs:LV):Prop:=
  match a with
  | some p=>aj h p xs
  | none=>xs=[]
def Wr(h:ad)(a:Addr):Prop:=(∃u,cellOf h a=some u)/\rO h a=false
def WrN(h:ad)(a:Addr)(n:Nat):Prop:=∀i,i<n->Wr h (a.add i)
def setRow(h:ad)(a:Addr):LV->(i:Nat)->ad
  | [],_=>h
  | v::r,i=>setRow (setOf h (a.add i) v) a r (i+1)
def Ns(h:ad)(a:Addr)(cs:LV)(n:Nat):Prop:=cs.length=n/\(∀v∈cs,v.oneCell'=true)/\WrN h a n
def bv(b:UInt8):Value:=.int .u8 b.toNat
def mkStr(bs:LB):ByteArray:=⟨⟨bs⟩⟩
def aw(h:ad)(a:OA)(l:Nat)(bs:LB):Prop:=bs.length=l/\ak h a (bs.map bv)
def aN(z:LV)(n:Nat):LV:=
  match z with
  | [v]=>List.replicate n v
  | z=>(List.replicate n z).flatten
def kK(v:Value):LV:=
  match v with
  | .agg a=>a.toList
  | v=>[v]
def Hm(h:ad):Value:=.pointer (some ⟨h.size,0,none⟩)
def qT(h:ad)(cs:LV)(t:Nat):ad:=h.push (.cells ⟨cs⟩ t)
def scale(n size:Nat):Nat:=bif Nat.beq size 1 then n else n*size
def ae{α:Type}(o:Option α)(k:α->Prop):Prop:=
  match o with
  | some a=>k a
  | none=>False
def nO(f:Fr)(x:Operand)(k:Value->Prop):Prop:=
  match x with
  | .tmp t=>ae (Fr.get f t) k
  | .const v=>k v
  | .global g=>k (.pointer (some ⟨g,0,none⟩))
  | .func g=>k (.func (.func g) #[] #[])
def xG(v:Value)(k:IntKind->Int->Prop):Prop:=
  match v with
  | .int kd n=>k kd n
  | _=>False
def Hn(v:Value)(k:Bool->Prop):Prop:=
  match v with
  | .bool b=>k b
  | _=>False
def vv(v:Value)(k:OA->Prop):Prop:=
  match v with
  | .pointer q=>k q
  | _=>False
def rv(v:Value)(k:OA->Nat->Nat->Prop):Prop:=
  match v with
  | .slice a l c=>k a l c
  | _=>False
def Nt(v:Value)(k:LV->Prop):Prop:=
  match v with
  | .agg a=>k a.toList
  | _=>False
def Fy(v:Value)(k:ByteArray->Prop):Prop:=
  match v with
  | .string s=>k s
  | _=>False
def uX(v:Value)(k:Option Nat->Prop):Prop:=
  match v with
  | .map q=>k q
  | _=>False
def Xv(v:Value)(k:LV->Prop):Prop:=
  match v with
  | .tuple a=>k a.toList
  | _=>False
def QT(ty:Ty)(C K:Value->Prop):Prop:=
  match ty with
  | .int k=>∃n:Int,C (.int k n)/\K (.int k n)
  | .bool=>∃b:Bool,C (.bool b)/\K (.bool b)
  | .str=>∃s:ByteArray,C (.string s)/\K (.string s)
  | .ptr=>∃q:OA,C (.pointer q)/\K (.pointer q)
  | .slice=>∃(a:OA) (l c:Nat),C (.slice a l c)/\K (.slice a l c)
  | .agg=>∃cs:LV,C (.agg ⟨cs⟩)/\K (.agg ⟨cs⟩)
  | .any=>∃v:Value,C v/\K v
  | .map=>∃q:Option Nat,C (.map q)/\K (.map q)
  | .QS=>∃(g:Nat) (fs cs:LV),C (.func (.func g) ⟨fs⟩ ⟨cs⟩)/\K (.func (.func g) ⟨fs⟩ ⟨cs⟩)
def BV(OS:List Ty)(acc:LV)(C K:LV->Prop):Prop:=
  match OS with
  | []=>C acc/\K acc
  | .int k::r=>∃n:Int,BV r (acc++[.int k n]) C K
  | .bool::r=>∃b:Bool,BV r (acc++[.bool b]) C K
  | .str::r=>∃s:ByteArray,BV r (acc++[.string s]) C K
  | .ptr::r=>∃q:OA,BV r (acc++[.pointer q]) C K
  | .slice::r=>∃(a:OA) (l c:Nat),BV r (acc++[.slice a l c]) C K
  | .agg::r=>∃cs:LV,BV r (acc++[.agg ⟨cs⟩]) C K
  | .any::r=>∃v:Value,BV r (acc++[v]) C K
  | .map::r=>∃q:Option Nat,BV r (acc++[.map q]) C K
  | .QS::r=>∃(g:Nat) (fs cs:LV),BV r (acc++[.func (.func g) ⟨fs⟩ ⟨cs⟩]) C K
def aQ(w w':World):Prop:=w'.os=w.os/\w'.tape=w.tape/\w'.output=w.output
def yO (P : Program) (g : Nat) : Prop := ∃ fn, P.funcs[g]? = some fn ∧ (fn.name == "runtime.NumGoroutine") = false ∧ fn.body.isNone = false
def pQ(P:Program)(g:Nat)(args:LV)(h:ad)(k:KT):Prop:=
  yO P g/\∀w:World,w.heap=h->Calls P g ⟨args⟩ w λe w'=>∃v,e = .returned v/\aQ w w'/\k v w'.heap
def Y0(P:Program)(g:Nat)(args:LV)(h:ad)(k kp:KT):Prop:=
  yO P g/\∀w:World,w.heap=h->Calls P g ⟨args⟩ w λe w'=>aQ w w'/\((∃v,e = .returned v/\k v w'.heap)∨(∃v,e = .panicked [{ v:=v,recovered:=false }]/\kp v w'.heap))
def UM(P:Program)(g:Nat)(args:LV)(v:Value)(h:ad)(k:HP):Prop:=
  yO P g/\∀w:World,w.heap=h->CallsDIn Fence.wide 0 P g ⟨args⟩ (.panicking [{ v:=v,recovered:=false }]) w λe u w'=>u = .panicking [{ v:=v,recovered:=true }]/\(∃r,e = .returned r)/\aQ w w'/\k w'.heap
def ab4(P:Program)(c:Value)(args:LV)(v:Value)(h:ad)(k:HP):Prop:=
  match c with
  | .func (.func g) fs cs=>UM P g (fs.toList++args++cs.toList) v h k
  | _=>False
def qU(P:Program)(l:Nat)(args:LV)(h:ad)(k:KT):Prop:=
  ∀w:World,w.heap=h->YieldAt Fence.wide 0 P l ⟨args⟩ w λe w'=>∃v,e = .returned v/\aQ w w'/\k v w'.heap
def xU(P:Program)(g:Nat)(args:LV)(h:ad)(k:HP):Prop:=
  yO P g/\∀w:World,w.heap=h->CallsDIn Fence.wide 0 P g ⟨args⟩ .returning w λe u w'=>u = .returning/\(∃v,e = .returned v)/\aQ w w'/\k w'.heap
def og(P:Program)(v:Value)(args:LV)(h:ad)(k:HP):Prop:=
  match v with
  | .func (.func g) fs cs=>xU P g (fs.toList++args++cs.toList) h k
  | _=>False
def bX(h:ad)(l:Nat)(R:Loop)(st:LoopState)(p:Option Code):Prop:=h[l]?=some (.loop { R with state:=st,pending:=p })
def dr(h:ad)(l:Nat)(R:Loop)(st:LoopState)(p:Option Code):ad:=h.setIfInBounds l (.loop { R with state:=st,pending:=p })
def cE(h:ad)(R:Loop):ad:=(h.push (.deferred (some []))).push (.loop { R with state:=.ready,pending:=none })
def OT(h:ad)(b:Nat):ad:=h.setIfInBounds b (.deferred none)
def CH(p:Option Code)(n r:Prop)(e:NP):Prop:=
  match p with
  | none=>n
  | some .ret=>r
  | some (.exit i)=>e i
  | _=>False
def exX : List Nat->Nat->(NP)->Prop
  | [],_,_=>False
  | j::r,i,E=>bif Nat.beq i j then E j else exX r i E
def bw(op:BinOp)(kd:IntKind)(a b:Int):Int:=
  let x:=BitVec.ofInt kd.bits a
  let y:=BitVec.ofInt kd.bits b
  match op with
  | .and=>kd.wrap (x &&& y).toNat
  | .or=>kd.wrap (x ||| y).toNat
  | .xor=>kd.wrap (x ^^^ y).toNat
  | _=>kd.wrap (x &&& ~~~y).toNat
def I7(op:BinOp)(kd:IntKind)(a b:Int)(k:Value->Prop):Prop:=
  match op with
  | .add=>k (.int kd (kd.wrap (a+b)))
  | .sub=>k (.int kd (kd.wrap (a-b)))
  | .mul=>k (.int kd (kd.wrap (a*b)))
  | .quo=>if b=0 then False else k (.int kd (kd.wrap (a.tdiv b)))
  | .rem=>if b=0 then False else k (.int kd (a.tmod b))
  | .eql=>k (.bool (a==b))
  | .neq=>k (.bool (a != b))
  | .lss=>k (.bool (decide (a<b)))
  | .leq=>k (.bool (decide (a<=b)))
  | .gtr=>k (.bool (decide (a>b)))
  | .geq=>k (.bool (decide (a>=b)))
  | .and=>k (.int kd (bw .and kd a b))
  | .or=>k (.int kd (bw .or kd a b))
  | .xor=>k (.int kd (bw .xor kd a b))
  | .andNot=>k (.int kd (bw .andNot kd a b))
  | _=>False
def vw(op:BinOp)(kd:IntKind)(a b:Int)(k:Value->Prop):Prop:=
  match op with
  | .shl=>if b<0 then False else k (.int kd (kd.wrap (a*2 ^ min b.toNat kd.bits)))
  | .shr=>if b<0 then False else k (.int kd (a.fdiv (2 ^ min b.toNat kd.bits)))
  | _=>False
def Y1(op:BinOp)(a b:ByteArray)(k:Value->Prop):Prop:=
  match op with
  | .add=>((a.size+b.size:Nat):Int)<=9223372036854775807/\k (.string (a++b))
  | .eql=>k (.bool (a.toList==b.toList))
  | .neq=>k (.bool !(a.toList==b.toList))
  | .lss=>k (.bool (Op.bytesLess a.toList b.toList))
  | .leq=>k (.bool (Op.bytesLess a.toList b.toList || a.toList==b.toList))
  | .gtr=>k (.bool !(Op.bytesLess a.toList b.toList || a.toList==b.toList))
  | .geq=>k (.bool !(Op.bytesLess a.toList b.toList))
  | _=>False
def sI : BinOp->Bool
  | .shl| .shr=>true
  | _=>false
def mg : IntKind->IntKind->Bool
  | .i8,.i8| .i16,.i16| .i32,.i32| .i64,.i64| .u8,.u8| .u16,.u16| .u32,.u32| .u64,.u64=>true
  | _,_=>false
def eqB(op:BinOp)(b:Bool)(k:Value->Prop):Prop:=
  match op with
  | .eql=>k (.bool b)
  | .neq=>k (.bool !b)
  | _=>False
def wF : Value->Bool
  | .nilFunc=>true
  | _=>false
def Fz : Value->Bool
  | .nilFunc=>true
  | .func _ _ _=>true
  | _=>false
def cT(P:Program)(v:Value)(args:LV)(h:ad)(k:KT):Prop:=
  match v with
  | .func (.func g) fs cs=>pQ P g (fs.toList++args++cs.toList) h k
  | .func (.yield l) fs _=>qU P l (fs.toList++args) h k
  | _=>False
def yP(P:Program)(v:Value)(args:LV)(h:ad)(k:KT):Prop:=
  match v with
  | .func (.func g) fs cs=>pQ P g (fs.toList++args++cs.toList) h k
  | _=>False
def tz(d:D)(op:BinOp)(x y:Value)(k:Value->Prop):Prop:=
  match d with
  | .fn=>(match y with| .nilFunc=>Fz x=true/\eqB op (wF x) k|_=>False)
  | d=>match x,y with
  | .int kd a,.int Hq b=>bif sI op then vw op kd a b k else bif mg kd Hq then I7 op kd a b k else False
  | .string a,.string b=>Y1 op a b k
  | .bool a,.bool b=>(match d with| .bool=>eqB op (a==b) k|_=>False)
  | .pointer a,.pointer none=>(match d with| .ptr _=>eqB op a.isNone k|_=>False)
  | .slice a _ _,.slice none _ _=>(match d with| .slice _=>eqB op a.isNone k|_=>False)
  | _,_=>False
def du : List D->LV->LV->Bool
  | [],[],[]=>true
  | .int kd::ks,.int ka _::xs,.int kb _::ys=>mg kd ka && mg kd kb && du ks xs ys
  | .str::ks,.string _::xs,.string _::ys=>du ks xs ys
  | .bool::ks,.bool _::xs,.bool _::ys=>du ks xs ys
  | _,_,_=>false
def dw : LV->LV->Bool
  | .int _ a::xs,.int _ b::ys=>(a==b) && dw xs ys
  | .string a::xs,.string b::ys=>(a.toList==b.toList) && dw xs ys
  | .bool a::xs,.bool b::ys=>(a==b) && dw xs ys
  | [],[]=>true
  | _,_=>false
def ab5(t:TI)(op:BinOp)(x y:Value)(k:Value->Prop):Prop:=
  match t.eq with
  | []=>tz t.d op x y k
  | ks=>(match x,y with
      | .agg a,.agg b=>du ks a.toList b.toList=true/\eqB op (dw a.toList b.toList) k
      | _,_=>False)
def unX(op:UnOp)(x:Value)(k:Value->Prop):Prop:=
  match op,x with
  | .not,.bool b=>k (.bool !b)
  | .neg,.int kd n=>k (.int kd (kd.wrap (0-n)))
  | .xor,.int kd n=>k (.int kd (bw .xor kd (if kd.signed then -1 else kd.max) n))
  | _,_=>False
def Nu(t:TI)(p:Addr)(h:ad)(k:Value->Prop):Prop:=
  match t.d.ty with
  | .agg=>∃cs:LV,cs.length=t.cells/\aj h p cs/\k (.agg ⟨cs⟩)
  | ty=>QT ty (λv=>cellOf h p=some v) k
def Lo(t:TI)(p:Addr)(v:Value)(h:ad)(k:HP):Prop:=
  match v with
  | .agg a=>Ns h p a.toList t.cells/\k (setRow h p a.toList 0)
  | .tuple _=>False
  | v=>bif Nat.beq t.cells 1 then Wr h p/\k (setOf h p v)else False
def qV : List LV->LV
  | []=>[]
  | [x]=>x
  | x::r=>x++qV r
def dU(f:Fr)(i:Nat):List (Nat×Operand)->Option (Option Value)
  | []=>none
  | (j,x)::r=>bif Nat.beq j i then some (match x with| .tmp t=>Fr.get f t| .const v=>some v| .global g=>some (.pointer (some ⟨g,0,none⟩))| .func g=>some (.func (.func g) #[] #[]))else dU f i r
def jU(f:Fr)(parts:List (Nat×Operand))(Z:LV):(nS:List (Nat×Nat))->(i:Nat)->(acc:List LV)->(k:List LV->Prop)->Prop
  | [],_,acc,k=>k acc
  | (off,size)::r,i,acc,k=>
    match dU f i parts with
    | none=>jU f parts Z r (i+1) (acc++[(Z.drop off).take size]) k
    | some o=>ae o λv=>(match v with
        | .agg a=>a.toList.length=size/\jU f parts Z r (i+1) (acc++[a.toList]) k
        | .tuple _=>False
        | v=>bif Nat.beq size 1 then jU f parts Z r (i+1) (acc++[[v]]) k else False)
def vy : List (Nat×Nat)->(at_ n:Nat)->Bool
  | [],m,n=>Nat.beq m n
  | (off,size)::r,m,n=>Nat.beq off m && vy r (m+size) n
def kL(size:Nat):(n i:Nat)->List (Nat×Nat)
  | 0,_=>[]
  | n+1,i=>(i*size,size)::kL size n (i+1)
def sorted(n:Nat):List (Nat×Operand)->(from_:Nat)->Bool
  | [],_=>true
  | (j,_)::r,m=>Nat.ble m j && Nat.blt j n && sorted n r (j+1)
def tA(a:OA)(l h m size:Nat):Value:=.slice (if m=l then a else a.map (·.add (scale l size))) (h-l) (m-l)
def loX(f:Fr)(lo:Option Operand)(k:Option Int->Prop):Prop:=
  match lo with
  | none=>k none
  | some x=>nO f x λv=>xG v λ_ n=>k (some n)
def QU(a:OA)(len cap size:Nat)(lo hi mx:Option Int)(k:Value->Prop):Prop:=
  match lo,hi,mx with
  | none,none,none=>k (.slice a len cap)
  | none,some h,none=>(0<=h/\h<=(cap:Int))/\k (.slice a h.toNat cap)
  | some l,none,none=>(0<=l/\l<=(len:Int))/\k (tA a l.toNat len cap size)
  | some l,some h,none=>(0<=l/\l<=h/\h<=(cap:Int))/\k (tA a l.toNat h.toNat cap size)
  | none,some h,some m=>(0<=h/\h<=m/\m<=(cap:Int))/\k (.slice a h.toNat m.toNat)
  | some l,some h,some m=>(0<=l/\l<=h/\h<=m/\m<=(cap:Int))/\k (tA a l.toNat h.toNat m.toNat size)
  | _,_,_=>False
def Lp(s:ByteArray)(lo hi mx:Option Int)(k:Value->Prop):Prop:=
  match lo,hi,mx with
  | none,none,none=>k (.string s)
  | none,some h,none=>(0<=h/\h<=(s.size:Int))/\k (.string (s.extract 0 h.toNat))
  | some l,none,none=>(0<=l/\l<=(s.size:Int))/\k (.string (s.extract l.toNat s.size))
  | some l,some h,none=>(0<=l/\l<=h/\h<=(s.size:Int))/\k (.string (s.extract l.toNat h.toNat))
  | _,_,_=>False
def Hr(d:D)(size:Nat)(x:Value)(lo hi mx:Option Int)(k:Value->Prop):Prop:=
  match d,x with
  | .str,.string s=>Lp s lo hi mx k
  | .slice _,.slice a len cap=>QU a len cap size lo hi mx k
  | .arr n _,.pointer q=>ae q λp=>QU (some p) n n size lo hi mx k
  | _,_=>False
def UN(elem:TI)(h:ad)(x:Value)(k:Nat->LV->Prop):Prop:=
  match x with
  | .slice b n _=>∃new:LV,new.length=n*elem.cells/\ak h b new/\(∀v∈new,v.oneCell'=true)/\k n new
  | .string s=>bif Nat.beq elem.cells 1 then k s.size (s.toList.map bv)else False
  | _=>False
def Lf(h:ad)(a:OA)(o n:Nat):Prop:=
  match a with
  | some p=>WrN h (p.add o) n
  | none=>n=0
def uu(h:ad)(a:OA)(o:Nat)(new:LV):ad:=
  match a with
  | some p=>setRow h (p.add o) new 0
  | none=>h
def aH(elem:TI)(e:Nat)(a:OA)(l c n:Nat)(new:LV)(h:ad)(k:OA->Nat->Nat->ad->Prop):Prop:=
  ∃old:LV,old.length=l*elem.cells/\ak h a old/\(l+n)*elem.bytes<=140737488355328/\(l+n<=140737488355328)/\
    (l+n<=c->Lf h a (l*elem.cells) (n*elem.cells)/\k a (l+n) c (uu h a (l*elem.cells) new))/\
    (c<l+n->∀cap,l+n<=cap->k (some ⟨h.size,0,none⟩) (l+n) cap (qT h (old++new++aN elem.zero (cap-(l+n))) e))
def rP(elem:TI)(a:OA)(n:Nat)(src:Value)(h:ad)(k:Nat->ad->Prop):Prop:=
  match src with
  | .slice b m _=>∃new:LV,new.length=min m n*elem.cells/\ak h b new/\(∀v∈new,v.oneCell'=true)/\Lf h a 0 (min m n*elem.cells)/\k (min m n) (uu h a 0 new)
  | .string s=>(bif Nat.beq elem.cells 1 then True else False)/\Lf h a 0 (min s.size n)/\k (min s.size n) (uu h a 0 ((s.toList.take (min s.size n)).map bv))
  | _=>False
def Lq(elem:TI)(a:OA)(n:Nat)(h:ad)(k:HP):Prop:=
  (bif elem.zero.all Value.oneCell' then True else False)/\Lf h a 0 (n*elem.cells)/\k (uu h a 0 (aN elem.zero n))
def Xw(elem:TI)(e:Nat)(l c:Int)(h:ad)(k:KT):Prop:=
  (0<=l/\l<=c/\(elem.bytes:Int)*c<=281474976710656/\c<=281474976710656)/\k (.slice (some ⟨h.size,0,none⟩) l.toNat c.toNat) (qT h (aN elem.zero c.toNat) e)
def Y2(d:D)(v:Value)(k:Value->Prop):Prop:=
  match d,v with
  | .slice _,.slice _ n _=>k (.int .i64 (n:Int))
  | .str,.string s=>k (.int .i64 (s.size:Int))
  | .arr n _,_=>k (.int .i64 (n:Int))
  | _,_=>False
def ab6(d:D)(v:Value)(k:Value->Prop):Prop:=
  match d,v with
  | .slice _,.slice _ _ c=>k (.int .i64 (c:Int))
  | _,_=>False
def Y4(x y:Value)(k:Value->Prop):Prop:=
  match x,y with
  | .int kd a,.int Hq b=>bif mg kd Hq then k (.int kd (if b<a then b else a))else False
  | _,_=>False
def Y5(x y:Value)(k:Value->Prop):Prop:=
  match x,y with
  | .int kd a,.int Hq b=>bif mg kd Hq then k (.int kd (if b>a then b else a))else False
  | _,_=>False
def xz : D->Bool
  | .int .u8=>true
  | _=>false
def yQ : D->Bool
  | .slice _=>true
  | _=>false
def vz(h:ad)(cs:LV)(t:Nat):ad:=h.push (.cells ⟨cs⟩ t (cs.length,cs.length+1))
def ab7(n:Nat):Obj->Obj
  | .cells c e (lo,hi)=>.cells c e (if lo==hi then(n,n+1)else(min lo n,max hi (n+1)))
  | o=>o
def qZ(h:ad)(b:Nat):ad:=
  match h[b]? with
  | some (.cells c _ _)=>h.modify b (ab7 c.size)
  | _=>h
def CI(C:Ctx)(same:Bool)(src dst:D)(v:Value)(h:ad)(k:KT):Prop:=
  match src,dst with
  | .str,.slice e=>bif xz (C.ti e).d then Fy v λs=>∀cap:Nat,s.size<=cap->k (.slice (some ⟨h.size,0,none⟩) s.size cap) (vz h (s.toList.map bv++List.replicate (cap-s.size) (bv 0)) e)else False
  | .slice _,.slice e=>bif same && xz (C.ti e).d then rv v λa l c=>ae a λp=>k (.slice (some p) l c) (qZ h p.block)else False
  | _,_=>False
def I8(C:Ctx)(src dst:D)(v:Value)(h:ad)(k:KT):Prop:=
  match src,dst,v with
  | .int _,.int kd,.int _ n=>k (.int kd (kd.wrap n)) h
  | .str,.str,.string s=>k (.string s) h
  | .int _,.str,.int _ n=>k (.string (Utf8.encode n)) h
  | .slice e,.str,.slice a l _=>bif xz (C.ti e).d then ∃bs:LB,aw h a l bs/\k (.string (mkStr bs)) h else False
  | _,_,_=>False
def elemOf(C:Ctx)(t:Nat):Nat:=
  match (C.ti t).d with
  | .slice e=>e
  | .arr _ e=>e
  | .ptr e=>e
  | _=>0
def Aa(f:Fr):List Operand->(acc:LV)->(k:LV->Prop)->Prop
  | [],acc,k=>k acc
  | x::r,acc,k=>nO f x λv=>Aa f r (acc++[v]) k
def I'(OS:List Ty)(k:KT)(v:Value)(h:ad):Prop:=
  match OS with
  | []=>v = .tuple #[]/\k (.tuple #[]) h
  | [ty]=>QT ty (λu=>v=u) (λu=>k u h)
  | OS=>BV OS [] (λus=>v = .tuple ⟨us⟩) (λus=>k (.tuple ⟨us⟩) h)
def Ch(C:Ctx)(t i:Nat):Option (Nat×Nat):=
  match (C.ti t).d with
  | .struct fs=>fs[i]?
  | _=>none
def xV(q:Nat×Operand):List (Nat×Operand)->List (Nat×Operand)
  | []=>[q]
  | x::r=>bif Nat.ble q.1 x.1 then q::x::r else x::xV q r
def uY : List (Nat×Operand)->List (Nat×Operand)
  | []=>[]
  | q::r=>xV q (uY r)
def te(len:Nat)(parts:List (Nat×Operand)):Bool:=sorted len (uY parts) 0
inductive lL where
  | i (n:Int)
  | s (b:LB)
def lL.same : lL->lL->Bool
  | .i a,.i b=>a==b
  | .s a,.s b=>a==b
  | _,_=>false
def my(d:D):lL->Value
  | .i n=>(match d with| .int k=>.int k n|_=>.nilFunc)
  | .s b=>.string (mkStr b)
def kM(d:D):lL->Bool
  | .i _=>(match d with| .int _=>true|_=>false)
  | .s _=>(match d with| .str=>true|_=>false)
def Ja(d:D)(v:Value)(k:lL->Prop):Prop:=
  match d,v with
  | .int kd,.int Hq n=>bif mg kd Hq then k (.i n)else False
  | .str,.string s=>k (.s s.toList)
  | _,_=>False
abbrev qW :=List (lL×Value)
def mz(d:D)(h:ad)(r:Nat)(m:qW):Prop:=
  ∃es clock,h[r]?=some (.map es clock)/\es.toList.map (λe=>(e.key,e.val))=m.map (λp=>(my d p.1,p.2))/\(∀p∈m,kM d p.1=true)/\MapKept.Stamped es clock
structure MapTo(d:D)(h:ad)(r:Nat)(m:qW)(h':ad):Prop where
  size:h'.size=h.size
  same:∀b,b≠r->h'[b]?=h[b]?
  at_:mz d h' r m
structure Xx(d:D)(h:ad)(r:Nat)(x:lL)(m:qW)(h':ad):Prop extends MapTo d h r m h' where
  del:∀es clock,h[r]?=some (.map es clock)->∃IM,h'[r]?=some (.map IM clock)/\IM.toList=es.toList.filter λe=>@decide (e.key≠my d x) (Classical.propDecidable _)
def mX : qW->lL->Option Value
  | [],_=>none
  | (k,v)::r,x=>bif lL.same x k then some v else mX r x
def xA : qW->lL->Value->qW
  | [],x,v=>[(x,v)]
  | (k,u)::r,x,v=>bif lL.same x k then(x,v)::r else(k,u)::xA r x v
def Jb : qW->lL->qW
  | [],_=>[]
  | (k,u)::r,x=>bif lL.same x k then r else(k,u)::Jb r x
def tB(d:D)(q:Option Nat)(h:ad)(K:qW->Prop):=
  match q with
  | none=>K []
  | some r=>∃m,mz d h r m/\K m
def CJ(d:D)(r:Nat)(x:lL)(v:Value)(h:ad)(K:HP):=∃m,mz d h r m/\∀h',MapTo d h r (xA m x v) h'->K h'
def QV(d:D)(q:Option Nat)(x:lL)(h:ad)(K:HP):=
  match q with
  | none=>K h
  | some r=>∃m,mz d h r m/\∀h',Xx d h r x (Jb m x) h'->K h'
def Ht(h:ad):ad:=h.push (.map #[] 0)
def zeroV(t:TI):Value:=
  match t.d.ty with
  | .agg=>.agg ⟨t.zero⟩
  | _=>t.zero.headD .nilFunc
structure Y6(h:ad)(r:Nat)(s:ByteArray)(pos:Nat)(h':ad):Prop where
  size:h'.size=h.size
  same:∀b,b≠r->h'[b]?=h[b]?
  at_:h'[r]?=some (.stringIter s pos)
def newI(h:ad)(s:ByteArray):ad:=h.push (.stringIter s 0)
abbrev yS :=List (Int×Int)
def mI(l:yS):qW:=l.map λp=>(.i p.1,.int .i64 p.2)
def nT : D->Bool
  | .int .i64=>true
  | _=>false
def kvI(p:Int×Int):Value×Value:=(.int .i64 p.1,.int .i64 p.2)
def Nv(h:ad)(b r:Nat)(m left:yS):Prop:=
  ∃es clock since seen last,h[r]?=some (.map es clock)/\h[b]?=some (.mapIter (some r) since seen last)/\es.toList.map (λe=>(e.key,e.val))=m.map kvI/\MapKept.Stamped es clock/\
    (∀x∈es.toList,x.born<since)/\since<=last/\since<=clock/\(es.toList.filter λe=>!seen.contains e.born).map (λe=>(e.key,e.val))=left.map kvI
def ab8(h:ad)(b r:Nat)(n v:Int):Prop:=
  ∃es clock since seen e,h[r]?=some (.map es clock)/\h[b]?=some (.mapIter (some r) since seen clock)/\seen.back?=some e.born/\es.find? (·.born==e.born)=some e/\e.key = .int .i64 n/\e.val = .int .i64 v
def Y7(h:ad)(r:Nat)(x:lL)(s:Int):Prop:=∃es clock e,h[r]?=some (.map es clock)/\e∈es.toList/\(e.born:Int)=s/\e.key=my (.int .i64) x
structure QW(h:ad)(r:Nat)(m:yS)(x:lL)(z s:Int)(h':ad):Prop where
  to:MapTo (.int .i64) h r (xA (mI m) x (.int .i64 z)) h'
  st:Y7 h' r x s
structure ab9(h:ad)(r:Nat)(m:yS)(h':ad):Prop where
  size:h'.size=h.size+1
  same:∀b,b<h.size->h'[b]?=h[b]?
  at_:Nv h' h.size r m m
structure aca(h:ad)(b r:Nat)(m left:yS)(e:Int×Int)(h':ad):Prop where
  size:h'.size=h.size
  same:∀b',b'≠b->h'[b']?=h[b']?
  at_:Nv h' b r m (left.filter λp=>p.1 != e.1)
  cur:ab8 h' b r e.1 e.2
def Hu : LB->UInt8->Int
  | [],_=>-1
  | b::l,c=>if b==c then 0 else if Hu l c == -1 then -1 else Hu l c+1
def xH(C:Ctx)(f:Fr)(op:Op)(ty:Nat)(k:KT)(h:ad):Prop:=
  match op with
  | .move x| .assign x=>nO f x λv=>k v h
  | .pick c a b=>nO f c λvc=>Hn vc λt=>bif t then nO f a (λv=>k v h)else nO f b (λv=>k v h)
  | .alloc e=>sE (C.ti e) (k (Hm h) (qT h (C.ti e).zero e))
  | .box e x=>nO f x λv=>k (Hm h) (qT h (kK v) e)
  | .build t parts=>sE (C.ti t) (match (C.ti t).d with
      | .struct fs=>bif te fs.length parts.toList && (fs.all λx=>(C.ti x.2).ok) && vy (fs.map λx=>(x.1,(C.ti x.2).cells)) 0 (C.ti t).cells then
          jU f parts.toList (C.ti t).zero (fs.map λx=>(x.1,(C.ti x.2).cells)) 0 [] λxs=>k (.agg ⟨qV xs⟩) h else False
      | .arr n e=>sE (C.ti e) (bif te n parts.toList && Nat.beq (n*(C.ti e).cells) (C.ti t).cells then
          jU f parts.toList (C.ti t).zero (kL (C.ti e).cells n 0) 0 [] λxs=>k (.agg ⟨qV xs⟩) h else False)
      | _=>False)
  | .buildSlice t n parts=>(match (C.ti t).d with
      | .slice e=>sE (C.ti e) (bif te n parts.toList && Nat.ble (n*(C.ti e).cells) 16777216 then
          jU f parts.toList (aN (C.ti e).zero n) (kL (C.ti e).cells n 0) 0 [] λxs=>k (.slice (some ⟨h.size,0,none⟩) n n) (qT h (qV xs) e)else False)
      | _=>False)
  | .load t x=>nO f x λv=>vv v λq=>ae q λp=>sE (C.ti t) (Nu (C.ti t) p h (λu=>k u h))
  | .store t x y=>nO f x λv=>vv v λq=>ae q λp=>nO f y λu=>sE (C.ti t) (Lo (C.ti t) p u h (λh'=>k undef h'))
  | .nilCheck x=>nO f x λv=>(match v with
      | .pointer q=>ae q λp=>k (.pointer (some p)) h
      | .func (.func g) fs cs=>k (.func (.func g) fs cs) h
      | _=>False)
  | .binOp op t x y _=>nO f x λu=>nO f y λv=>ab5 (C.ti t) op u v (λr=>k r h)
  | .unOp op _ x=>nO f x λu=>unX op u (λr=>k r h)
  | .convert s t x=>nO f x λu=>bif yQ (C.ti t).d then CI C (Nat.beq s t) (C.ti s).d (C.ti t).d u h k else I8 C (C.ti s).d (C.ti t).d u h k
  | .makeFunc (.func g) fs cs=>Aa f fs.toList [] λa=>Aa f cs.toList [] λb=>(match a with|[]=>k (.func (.func g) #[] ⟨b⟩) h|a=>k (.func (.func g) ⟨a⟩ ⟨b⟩) h)
  | .makeSlice t x y=>nO f x λu=>nO f y λv=>xG u λ_ l=>xG v λ_ c=>(match (C.ti t).d with
      | .slice e=>sE (C.ti e) (Xw (C.ti e) e l c h k)
      | _=>False)
  | .slice t x lo hi mx=>nO f x λv=>loX f lo λl=>loX f hi λu=>loX f mx λm=>(match (C.ti t).d with
      | .str=>Hr .str 1 v l u m (λr=>k r h)
      | d=>sE (C.ti (elemOf C t)) (Hr d (C.ti (elemOf C t)).cells v l u m (λr=>k r h)))
  | .fieldAddr t x i=>nO f x λv=>vv v λq=>ae q λp=>ae (Ch C t i) λo=>bif Nat.beq (C.ti o.2).cells 0 then False else k (.pointer (some (p.add o.1))) h
  | .field t x i=>nO f x λv=>Nt v λcs=>ae (Ch C t i) λo=>sE (C.ti o.2) (match (C.ti o.2).d.ty with
      | .agg=>k (.agg ⟨(cs.drop o.1).take (C.ti o.2).cells⟩) h
      | ty=>QT ty (λu=>cs[o.1]?=some u) (λu=>k u h))
  | .indexAddr t x y=>nO f x λu=>nO f y λv=>xG v λ_ i=>(match (C.ti t).d,u with
      | .slice e,.slice a l _=>sE (C.ti e) ((0<=i/\i<(l:Int))/\ae a λp=>k (.pointer (some (p.add (scale i.toNat (C.ti e).cells)))) h)
      | .arr n e,.pointer q=>sE (C.ti e) (ae q λp=>(0<=i/\i<(n:Int))/\k (.pointer (some (p.add (scale i.toNat (C.ti e).cells)))) h)
      | _,_=>False)
  | .index t x y=>nO f x λu=>nO f y λv=>xG v λ_ i=>(match (C.ti t).d,u with
      | .arr n e,.agg cs=>sE (C.ti e) ((0<=i/\i<(n:Int))/\match (C.ti e).d.ty with
          | .agg=>k (.agg ⟨(cs.toList.drop (scale i.toNat (C.ti e).cells)).take (C.ti e).cells⟩) h
          | ty=>QT ty (λr=>cs.toList[scale i.toNat (C.ti e).cells]?=some r) (λr=>k r h))
      | .str,.string s=>(0<=i/\i<(s.size:Int))/\∃b:UInt8,s.toList[i.toNat]?=some b/\k (bv b) h
      | _,_=>False)
  | .extract x i=>nO f x λv=>Xv v λus=>ae us[i]? λu=>k u h
  | .call { callee:=.builtin .len,args,argTypes }=>Aa f args.toList [] λus=>(match us,argTypes.toList with
      | [u],[t]=>(match (C.ti t).d with
          | .map kt _=>uX u λq=>sE (C.ti kt) (tB (C.ti kt).d q h λm=>k (.int .i64 (m.length:Int)) h)
          | d=>Y2 d u (λr=>k r h))
      | _,_=>False)
  | .call { callee:=.builtin .cap,args,argTypes }=>Aa f args.toList [] λus=>(match us,argTypes.toList with
      | [u],[t]=>ab6 (C.ti t).d u (λr=>k r h)
      | _,_=>False)
  | .call { callee:=.builtin .min,args,argTypes:=_ }=>Aa f args.toList [] λus=>(match us with
      | [u,v]=>Y4 u v (λr=>k r h)
      | _=>False)
  | .call { callee:=.builtin .max,args,argTypes:=_ }=>Aa f args.toList [] λus=>(match us with
      | [u,v]=>Y5 u v (λr=>k r h)
      | _=>False)
  | .call { callee:=.builtin .append,args,argTypes }=>Aa f args.toList [] λus=>(match us,argTypes.toList with
      | [u,v],[t,t']=>(match (C.ti t).d,(C.ti t').d with
          | .slice e,.slice _| .slice e,.str=>sE (C.ti e) (rv u λa l c=>UN (C.ti e) h v λn new=>aH (C.ti e) e a l c n new h λa' l' c' h'=>k (.slice a' l' c') h')
          | _,_=>False)
      | _,_=>False)
  | .call { callee:=.builtin .copy,args,argTypes }=>Aa f args.toList [] λus=>(match us,argTypes.toList with
      | [u,v],[t,_]=>(match (C.ti t).d with
          | .slice e=>sE (C.ti e) (rv u λa l _=>rP (C.ti e) a l v h λn h'=>k (.int .i64 (n:Int)) h')
          | _=>False)
      | _,_=>False)
  | .call { callee:=.builtin .clear,args,argTypes }=>Aa f args.toList [] λus=>(match us,argTypes.toList with
      | [u],[t]=>(match (C.ti t).d with
          | .slice e=>sE (C.ti e) (rv u λa l _=>Lq (C.ti e) a l h λh'=>k (.tuple #[]) h')
          | _=>False)
      | _,_=>False)
  | .call { callee:=.builtin .delete,args,argTypes }=>Aa f args.toList [] λus=>(match us,argTypes.toList with
      | [u,v],t::_=>(match (C.ti t).d with
          | .map kt _=>Ja (C.ti kt).d v λx=>uX u λq=>QV (C.ti kt).d q x h λh'=>k (.tuple #[]) h'
          | _=>False)
      | _,_=>False)
  | .call { callee:=.value (.func g),args,argTypes:=_ }=>Aa f args.toList [] λus=>bif C.nat.any (Nat.beq g)then
      (match us with
        | [u,v]=>Fy u λs=>xG v λkd c=>kd = .u8/\k (.int .i64 (Hu s.toList (UInt8.ofNat c.toNat))) h
        | _=>False)
      else pQ C.P g us h (I' (C.sig ty) k)
  | .makeMap _ none=>k (.map (some h.size)) (Ht h)
  | .insert t m x y| .mapUpdate t m x y=>nO f m λu=>nO f x λv=>nO f y λz=>(match (C.ti t).d with
      | .map kt _=>Ja (C.ti kt).d v λkey=>uX u λq=>ae q λr=>CJ (C.ti kt).d r key z h λh'=>k undef h'
      | _=>False)
  | .lookup t m x ok=>nO f m λu=>nO f x λv=>(match (C.ti t).d with
      | .map kt et=>sE (C.ti et) (Ja (C.ti kt).d v λkey=>uX u λq=>tB (C.ti kt).d q h λm=>
          QT (C.ti et).d.ty (λr=>(mX m key).getD (zeroV (C.ti et))=r) λr=>bif ok then k (.tuple #[r,.bool (mX m key).isSome]) h else k r h)
      | _=>False)
  | .mapEntry t m x=>nO f m λu=>nO f x λv=>(match (C.ti t).d with
      | .map kt et=>sE (C.ti et) (bif nT (C.ti kt).d && nT (C.ti et).d then zeroV (C.ti et) = .int .i64 0/\Ja (C.ti kt).d v λkey=>uX u λq=>ae q λr=>∃mm:yS,mz (.int .i64) h r (mI mm)/\∀(z s:Int) (h':ad),QW h r mm key z s h'->k (.tuple #[.int .i64 z,.int .i64 s]) h' else False)
      | _=>False)
  | .entryStore t m s x=>nO f m λu=>nO f s λvs=>nO f x λvx=>(match (C.ti t).d with
      | .map kt et=>bif nT (C.ti kt).d && nT (C.ti et).d then uX u λq=>ae q λr=>xG vs λ_ sn=>xG vx λkd z=>kd = .i64/\∃(mm:yS) (key:lL),mz (.int .i64) h r (mI mm)/\Y7 h r key sn/\∀h':ad,MapTo (.int .i64) h r (xA (mI mm) key (.int .i64 z)) h'->k undef h' else False
      | _=>False)
  | .range t x=>nO f x λu=>(match (C.ti t).d with
      | .str=>Fy u λs=>k (Hm h) (newI h s)
      | .map kt et=>bif nT (C.ti kt).d && nT (C.ti et).d then uX u λq=>ae q λr=>∃m:yS,mz (.int .i64) h r (mI m)/\∀h',ab9 h r m h'->k (Hm h) h' else False
      | _=>False)
  | .next x false=>nO f x λu=>vv u λq=>ae q λp=>p.off=0/\∃(r:Nat) (m left:yS),Nv h p.block r m left/\
      (left=[]->k (.tuple #[.bool false]) h)/\
      ∀e∈left,∀h',aca h p.block r m left e h'->k (.tuple #[.bool true,.int .i64 e.1,.int .i64 e.2]) h'
  | .entry x=>nO f x λu=>vv u λq=>ae q λp=>p.off=0/\∃(r:Nat) (n v:Int),ab8 h p.block r n v/\k (.tuple #[.int .i64 n,.int .i64 v]) h
  | .next x true=>nO f x λu=>vv u λq=>ae q λp=>p.off=0/\∃(s:ByteArray) (pos:Nat),h[p.block]?=some (.stringIter s pos)/\
      (pos<s.size->∀h',Y6 h p.block s (pos+(Utf8.decode s pos).2) h'->k (.tuple #[.bool true,.int .i64 (pos:Int),.int .i32 (Utf8.decode s pos).1]) h')/\
      (¬pos<s.size->k (.tuple #[.bool false]) h)
  | .call { callee:=.value (.tmp s),args,argTypes:=_ }=>nO f (.tmp s) λv=>Aa f args.toList [] λus=>cT C.P v us h (I' (C.sig ty) k)
  | .sliceToArrayPointer t x=>nO f x λv=>rv v λa l _=>(match (C.ti t).d with
      | .arr n _=>n<=l/\k (.pointer a) h
      | _=>False)
  | _=>False
def vk(f:Fr)(dst:Option Nat)(v:Value):Fr:=
  match dst with
  | some d=>(d,v)::f
  | none=>f
def guards(full:List Oper)(o:Oper):Bool:=
  match o.op,o.dst with
  | .move _,some d=>full.any λo'=>match o'.guard with
      | some (j,_)=>(match full[j]? with|some oj=>(match oj.dst with|some e=>Nat.beq e d|none=>false)|none=>false)
      | none=>false
  | _,_=>false
def vA(b:Bool)(v:Value)(k:Value->Prop):Prop:=
  bif b then(match v with
    | .bool t=>bif t then k (.bool true)else k (.bool false)
    | v=>k v)else k v
def CK(full:List Oper)(f:Fr)(g:Option (Nat×Bool))(k:Bool->Prop):Prop:=
  match g with
  | none=>k true
  | some (j,want)=>ae (full[j]?) λoj=>ae oj.dst λd=>ae (Fr.get f d) λv=>(match v with
      | .bool b=>k (b==want)
      | .tuple _=>k false
      | _=>False)
def Af(f:Fr)(c:Call)(k:Value->Prop):Prop:=
  match c with
  | { callee:=.value x,args,argTypes:=_ }=>nO f x λv=>(match v with
      | .func (.func g) fs cs=>Aa f args.toList [] λus=>k (.tuple ⟨.func (.func g) fs cs::us⟩)
      | _=>False)
  | _=>False
def iA : Op->Bool
  | .defer _=>true
  | _=>false
def CL : Op->Call
  | .defer c=>c
  | _=>default
def Jc(C:Ctx)(full:List Oper):List Oper->(Fr->ad->Prop)->Fr->ad->Prop
  | [],N,f,h=>N f h
  | o::rest,N,f,h=>CK full f o.guard λw=>
      bif w then bif iA o.op then Af f (CL o.op) λd=>Jc C full rest N (vk ((hZ,d)::f) o.dst undef) h
        else xH C f o.op o.type (λv h'=>vA (guards full o) v λv=>Jc C full rest N (vk f o.dst v) h') h
      else Jc C full rest N (vk f o.dst undef) h
def Y8(C:Ctx)(o:Oper):Bool:=
  match o.op with
  | .call { callee:=.value (.func g),args:=_,argTypes:=_ }=>C.Le.any (Nat.beq g)
  | .panic _=>true
  | _=>false
def Nw(C:Ctx)(f:Fr)(op:Op)(ty:Nat)(k:KT)(X:KT)(h:ad):Prop:=
  match op with
  | .call { callee:=.value (.func g),args,argTypes:=_ }=>Aa f args.toList [] λus=>Y0 C.P g us h (I' (C.sig ty) k) X
  | .panic x=>nO f x λv=>(match v with| .iface T u=>X (.iface T u) h|_=>False)
  | _=>False
def EO(C:Ctx)(full:List Oper)(X:Value->Fr->ad->Prop):List Oper->(Fr->ad->Prop)->Fr->ad->Prop
  | [],N,f,h=>N f h
  | o::rest,N,f,h=>CK full f o.guard λw=>
      bif w then bif Y8 C o then Nw C f o.op o.type (λv h'=>EO C full X rest N (vk f o.dst v) h') (λv h'=>X v f h') h
        else bif iA o.op then Af f (CL o.op) λd=>EO C full X rest N (vk ((hZ,d)::f) o.dst undef) h
        else xH C f o.op o.type (λv h'=>vA (guards full o) v λv=>EO C full X rest N (vk f o.dst v) h') h
      else EO C full X rest N (vk f o.dst undef) h
def Hv(C:Ctx)(f:Fr)(h:ad)(o:Oper):Prop:=
  match o.dst with
  | none=>False
  | some d=>ae (Fr.get f d) λv=>
    match o.op with
    | .load t x=>nO f x λu=>vv u λq=>ae q λp=>sE (C.ti t) (match (C.ti t).d.ty with
        | .agg=>Nt v λcs=>cs.length=(C.ti t).cells/\aj h p cs
        | _=>cellOf h p=some v)
    | .convert s t x=>(match (C.ti s).d,(C.ti t).d with
        | .slice e,.str=>bif xz (C.ti e).d then nO f x λu=>rv u λa l _=>Fy v λb=>aw h a l b.toList else False
        | _,_=>False)
    | _=>False
def Ah(C:Ctx)(full:List Oper)(f:Fr)(h:ad):List Nat->Prop->Prop
  | [],K=>K
  | j::r,K=>ae (full[j]?) λo=>CK full f o.guard λw=>bif w then Hv C f h o/\Ah C full f h r K else Ah C full f h r K
def doX(C:Ctx)(full:List Oper)(i:Nat)(st:List Nat)(K:Fr->ad->Prop)(f:Fr)(h:ad):=
  ae (full[i]?) λo=>CK full f o.guard λw=>
      bif w then xH C f o.op o.type (λv h'=>Ah C full f h' st (vA (guards full o) v λv=>K (vk f o.dst v) h')) h
      else K (vk f o.dst undef) h
def Ai(C:Ctx)(full:List Oper):Od->(Fr->ad->Prop)->Fr->ad->Prop
  | .nil,N,f,h=>N f h
  | .op i st r,N,f,h=>doX C full i st (λf h=>Ai C full r N f h) f h
  | .alt i st r o,N,f,h=>doX C full i st (λf h=>Ai C full r N f h) f h/\Ai C full o N f h
structure Ks where
  exit:Nat->Fr->ad->Prop
  ret:Fr->ad->Prop
  Le:Value->Fr->ad->Prop:=λ_ _ _=>False
def qw : List (Nat×Ty)->Type->Type
  | [],R=>R
  | (_,.int _)::r,R=>Int->qw r R
  | (_,.bool)::r,R=>Bool->qw r R
  | (_,.str)::r,R=>ByteArray->qw r R
  | (_,.ptr)::r,R=>OA->qw r R
  | (_,.slice)::r,R=>OA->Nat->Nat->qw r R
  | (_,.agg)::r,R=>LV->qw r R
  | (_,.any)::r,R=>Value->qw r R
  | (_,.map)::r,R=>Option Nat->qw r R
  | (_,.QS)::r,R=>Value->qw r R
def CM{R S:Type}:(l:List (Nat×Ty))->qw l R->qw l S->Fr->(R->S->Fr->Prop)->Prop
  | [],i,m,f,K=>K i m f
  | (t,.int k)::r,i,m,f,K=>∀n:Int,CM r (i n) (m n) ((t,.int k n)::f) K
  | (t,.bool)::r,i,m,f,K=>∀b:Bool,CM r (i b) (m b) ((t,.bool b)::f) K
  | (t,.str)::r,i,m,f,K=>∀s:ByteArray,CM r (i s) (m s) ((t,.string s)::f) K
  | (t,.ptr)::r,i,m,f,K=>∀q:OA,CM r (i q) (m q) ((t,.pointer q)::f) K
  | (t,.slice)::r,i,m,f,K=>∀(a:OA) (l c:Nat),CM r (i a l c) (m a l c) ((t,.slice a l c)::f) K
  | (t,.agg)::r,i,m,f,K=>∀cs:LV,CM r (i cs) (m cs) ((t,.agg ⟨cs⟩)::f) K
  | (t,.any)::r,i,m,f,K=>∀v:Value,CM r (i v) (m v) ((t,v)::f) K
  | (t,.map)::r,i,m,f,K=>∀q:Option Nat,CM r (i q) (m q) ((t,.map q)::f) K
  | (t,.QS)::r,i,m,f,K=>∀v:Value,CM r (i v) (m v) ((t,v)::f) K
def OU{R S:Type}:(l:List (Nat×Ty))->qw l R->qw l S->Fr->(R->S->Prop)->Prop
  | [],i,m,_,K=>K i m
  | (t,.int k)::r,i,m,f,K=>ae (Fr.get f t) λv=>xG v λk' n=>bif mg k k' then OU r (i n) (m n) f K else False
  | (t,.bool)::r,i,m,f,K=>ae (Fr.get f t) λv=>Hn v λb=>OU r (i b) (m b) f K
  | (t,.str)::r,i,m,f,K=>ae (Fr.get f t) λv=>Fy v λs=>OU r (i s) (m s) f K
  | (t,.ptr)::r,i,m,f,K=>ae (Fr.get f t) λv=>vv v λq=>OU r (i q) (m q) f K
  | (t,.slice)::r,i,m,f,K=>ae (Fr.get f t) λv=>rv v λa l c=>OU r (i a l c) (m a l c) f K
  | (t,.agg)::r,i,m,f,K=>ae (Fr.get f t) λv=>Nt v λcs=>OU r (i cs) (m cs) f K
  | (t,.any)::r,i,m,f,K=>ae (Fr.get f t) λv=>OU r (i v) (m v) f K
  | (t,.map)::r,i,m,f,K=>ae (Fr.get f t) λv=>uX v λq=>OU r (i q) (m q) f K
  | (t,.QS)::r,i,m,f,K=>ae (Fr.get f t) λv=>OU r (i v) (m v) f K
def uZ(f:Fr):List Nat->Fr
  | []=>[]
  | t::r=>match Fr.get f t with
    | some v=>(t,v)::uZ f r
    | none=>uZ f r
def rQ : Code->Option Nat
  | .region id _ _=>some id
  | .seq a b=>(match rQ a with|some i=>some i|none=>rQ b)
  | .cond _ a b=>(match rQ a with|some i=>some i|none=>rQ b)
  | .block _ a| .loop a| .scope a=>rQ a
  | _=>none
def xW(c:Code):Nat:=(rQ c).getD 0
def QX(assign body:Code):Nat:=(rQ (.seq assign body)).getD 0+1000000
def rz : Code->List Nat
  | .exit i=>[i]
  | .seq a b=>rz a++(rz b).filter λi=>!((rz a).any (Nat.beq i))
  | .cond _ a b=>rz a++(rz b).filter λi=>!((rz a).any (Nat.beq i))
  | .block id a=>(rz a).filter λi=>!(Nat.beq i id)
  | .loop a| .scope a=>rz a
  | _=>[]
def vB : Code->Bool
  | .ret=>true
  | .seq a b=>vB a || vB b
  | .cond _ a b=>vB a || vB b
  | .block _ a| .loop a| .scope a=>vB a
  | _=>false
def Aj : List (Nat×Ty)->Fr->LV->(Fr->LV->Prop)->Prop
  | [],f,acc,K=>K f acc
  | (t,.int k)::r,f,acc,K=>∀n:Int,Aj r ((t,.int k n)::f) (acc++[.int k n]) K
  | (t,.bool)::r,f,acc,K=>∀b:Bool,Aj r ((t,.bool b)::f) (acc++[.bool b]) K
  | (t,.str)::r,f,acc,K=>∀s:ByteArray,Aj r ((t,.string s)::f) (acc++[.string s]) K
  | (t,.ptr)::r,f,acc,K=>∀q:OA,Aj r ((t,.pointer q)::f) (acc++[.pointer q]) K
  | (t,.slice)::r,f,acc,K=>∀(a:OA) (l c:Nat),Aj r ((t,.slice a l c)::f) (acc++[.slice a l c]) K
  | (t,.agg)::r,f,acc,K=>∀cs:LV,Aj r ((t,.agg ⟨cs⟩)::f) (acc++[.agg ⟨cs⟩]) K
  | (t,.any)::r,f,acc,K=>∀v:Value,Aj r ((t,v)::f) (acc++[v]) K
  | (t,.map)::r,f,acc,K=>∀q:Option Nat,Aj r ((t,.map q)::f) (acc++[.map q]) K
  | (t,.QS)::r,f,acc,K=>∀v:Value,Aj r ((t,v)::f) (acc++[v]) K
def Nx(C:Ctx):Code->Ks->(Fr->ad->Prop)->Fr->ad->Prop
  | .skip,_,N,f,h=>N f h
  | .seq a b,Q,N,f,h=>Nx C a Q (λf h=>Nx C b Q N f h) f h
  | .cond c a b,Q,N,f,h=>nO f c λv=>Hn v λt=>bif t then Nx C a Q N f h else Nx C b Q N f h
  | .block id a,Q,N,f,h=>Nx C a { exit:=λi f h=>bif Nat.beq i id then N f h else Q.exit i f h,ret:=Q.ret,Le:=Q.Le } N f h
  | .exit id,Q,_,f,h=>Q.exit id f h
  | .ret,Q,_,f,h=>Q.ret f h
  | .scope a,Q,N,f,h=>Nx C a Q N f h
  | .label _,_,N,f,h=>N f h
  | .region id ops draw,Q,N,f,h=>bif draw then Ai C ops.toList (C.td id) N f h else bif ops.toList.any (Y8 C)then EO C ops.toList Q.Le ops.toList N f h else Jc C ops.toList ops.toList N f h
  | .loop body,Q,_,f,h=>
    let hint:=C.loops (xW body)
    ∃(I:qw hint.2 (HP)) (μ:qw hint.2 (ad->Nat)),
      OU hint.2 I μ f (λi _=>i h)/\
      CM hint.2 I μ (yN (ur f) (uZ f hint.1)) λi m f'=>∀h',i h'->
        Nx C body Q (λf2 h2=>OU hint.2 I μ f2 λi2 m2=>i2 h2/\m2 h2<m h') f' h'
  | .rangeFunc g _ assign body,Q,N,f,h=>nO f g λv=>∀R:Loop,
      (Aj (C.loops (QX assign body)).2 (Nr f) [] λf' args=>∀(h3:ad) (k:KT),
        bX h3 (h.size+1) R .ready none->
        Nx C assign { exit:=λ_ _ _=>False,ret:=λ_ _=>False }
          (λf2 h4=>bX h4 (h.size+1) R .ready none/\
            Nx C body { exit:=λi _ h5=>bX h5 (h.size+1) R .busy none/\k (.bool false) (dr h5 (h.size+1) R .done (some (.exit i))),
                         ret:=λ_ h5=>bX h5 (h.size+1) R .busy none/\k (.bool false) (dr h5 (h.size+1) R .done (some .ret)) }
              (λ_ h5=>bX h5 (h.size+1) R .busy none/\k (.bool true) (dr h5 (h.size+1) R .ready none)) f2 (dr h4 (h.size+1) R .busy none)) f' h3->
        qU C.P (h.size+1) args h3 k)->
      yP C.P v [.func (.yield (h.size+1)) #[] #[]] (cE h R) λ_ h6=>∃(st:LoopState) (p:Option Code),bX h6 (h.size+1) R st p/\st≠.busy/\
        CH p (N ((hZ,.pointer (some ⟨h.size,0,none⟩))::f) (dr h6 (h.size+1) R .exhausted p))
          (bif vB body then Q.ret ((hZ,.pointer (some ⟨h.size,0,none⟩))::f) (dr h6 (h.size+1) R .exhausted p)else False)
          (λi=>exX (rz body) i λj=>Q.exit j ((hZ,.pointer (some ⟨h.size,0,none⟩))::f) (dr h6 (h.size+1) R .exhausted p))
  | _,_,_,_,_=>False
def OV(C:Ctx)(rs:List ResultVar)(f:Fr)(h:ad)(acc:LV)(k:LV->Prop):Prop:=
  match rs with
  | []=>k acc
  | .tmp t::r=>ae (Fr.get f t) λv=>OV C r f h (acc++[v]) k
  | .cell t ty::r=>ae (Fr.get f t) λv=>vv v λq=>ae q λp=>sE (C.ti ty) (Nu (C.ti ty) p h λu=>OV C r f h (acc++[u]) k)
def Y9(vs:LV):Value:=
  match vs with
  | [v]=>v
  | vs=>.tuple ⟨vs⟩
def Bj : LV->Nat->Fr
  | [],_=>[]
  | v::r,i=>(i,v)::Bj r (i+1)
def vC(C:Ctx)(rs:List ResultVar)(f:Fr)(k:KT):LV->ad->Prop
  | [],h=>OV C rs f h [] λvs=>k (Y9 vs) h
  | .pointer (some a)::ds,h=>h[a.block]?=some (.deferred (some []))/\vC C rs f k ds (OT h a.block)
  | .tuple ⟨v::us⟩::ds,h=>og C.P v us h λh'=>vC C rs f k ds h'
  | _,_=>False
def UO(C:Ctx)(fn:Func)(c:Code)(args:LV)(k:KT)(h:ad):Prop:=
  Nx C c { exit:=λ_ _ _=>False,ret:=λf h=>vC C fn.results.toList f k (ur f) h }
    (λf h=>vC C fn.results.toList f k (ur f) h) (Bj args 0) h
def au : TypeDesc->D
  | .bool=>.bool| .int k=>.int k| .string=>.str| .pointer e=>.ptr e| .slice e=>.slice e| .array n e=>.arr n e
  | .struct fs=>.struct (fs.toList.map λf=>(f.offset,f.type))| .func _ _ _=>.fn| .map k e=>.map k e|_=>.other
def Hw(i:TypeInfo):Nat×Nat×Option LV:=(i.size,i.bytes,i.zero.map kK)
def uv(g:Nat->Option (List D)):List Field->Nat->Option (List D)
  | [],_=>some []
  | fd :: r, off => bif fd.name == "_" then none else bif Nat.beq fd.offset off then (match g fd.type with
      | some ks=>(uv g r (off+ks.length)).map (ks ++ ·)
      | none=>none)else none
def Ny(P:Program)(g:Nat->Option (List D))(t:Nat):Option (List D):=
  match P.underlying t with
  | some (.int k)=>some [D.int k]
  | some .string=>some [D.str]
  | some .bool=>some [D.bool]
  | some (.struct fs)=>bif P.stoodInHeld t then none else uv g fs.toList 0
  | some (.array n e)=>(g e).map λks=>(List.replicate n ks).flatten
  | _=>none
def QY(P:Program)(t:Nat):Option (List D)->Option (List D)
  | some ks=>bif(match P.info? t with|some i=>Nat.beq i.size ks.length|none=>false)then some ks else none
  | none=>none
def qx(P:Program):Nat->Nat->Option (List D)
  | 0,_=>none
  | f+1,t=>QY P t (Ny P (qx P f) t)
def Xy : D->D->Bool
  | .int a,.int b=>mg a b
  | .str,.str=>true
  | .bool,.bool=>true
  | _,_=>false
def Ak : List D->List D->Bool
  | [],[]=>true
  | a::r,b::s=>Xy a b && Ak r s
  | _,_=>false
def QZ(P:Program)(t:Nat)(ks:List D):Bool:=
  match ks with
  | []=>true
  | ks=>(match qx P 6 t with|some l=>Ak ks l && !(P.eqGuardType P.depth t) && (match P.underlying t with|some (.struct _)=>true|some (.array _ _)=>true|_=>false)|none=>false)
def Q1 : Value->Bool
  | .agg _=>true
  | _=>false
def Ci : Ty->Bool
  | .agg=>true
  | _=>false
structure cA(P:Program)(t:Nat)(x:TI):Prop where
  eqs:QZ P t x.eq=true
  zag:((P.info? t).bind (·.zero)).map Q1=some (Ci x.d.ty)
  info:(P.info? t).map Hw=some (x.cells,x.bytes,some x.zero)
  desc:(P.underlying t).map au=some x.d
  len:x.zero.length=x.cells
theorem tk{P:Program}{x:TI}(a:QZ P t x.eq=true:=by kernel_rfl)(b:((P.info? t).bind (·.zero)).map Q1=some (Ci x.d.ty):=by kernel_rfl)(c:(P.info? t).map Hw=some (x.cells,x.bytes,some x.zero):=by kernel_rfl)(d:(P.underlying t).map au=some x.d:=by kernel_rfl)(e:x.zero.length=x.cells:=by kernel_rfl):cA P t x:=⟨a,b,c,d,e⟩
def Xz(P:Program)(g:Nat):Prop:=∀(s:ByteArray) (c:Int) (w:World),(callFunc g #[.string s,.int .u8 c]).run P w = .ok (.value (.int .i64 (Hu s.toList (UInt8.ofNat c.toNat)))) w
structure kN(C:Ctx):Prop where
  nat:∀g∈C.nat,Xz C.P g
  ti:∀t,C.ti t=UL∨cA C.P t (C.ti t)
  mixed:C.P.follows .mixedOrders=true
theorem Nz{P:Program}:∀(l:List (Nat×TI)),(∀x∈l,cA P x.1 x.2)->∀t,QR l t=UL∨cA P t (QR l t)
  | [],_,t=>.inl rfl
  | (i,x)::r,h,t=>by
    unfold QR
    cases hb:Nat.beq i t with
    | true=>
      have e:i=t:=Nat.eq_of_beq_eq_true hb;subst e;exact .inr (h (i,x) (by simp))
    | false=>exact Nz r (λy hy=>h y (by simp[hy])) t
theorem kN.ok{C:Ctx}(hC:kN C){t:Nat}(h:(C.ti t).ok=true):cA C.P t (C.ti t):=by
  rcases hC.ti t with e|e
  · rw[e]at h;simp[UL]at h
  · exact e
theorem kN.sE{C:Ctx}(hC:kN C){t:Nat}{p:Prop}(h:sE (C.ti t) p):cA C.P t (C.ti t)/\p:=by
  unfold Wx.sE at h
  cases e:(C.ti t).ok with
  | true=>rw[e]at h;exact⟨hC.ok e,h⟩
  | false=>rw[e]at h;exact h.elim
theorem kN.CN{C:Ctx}(hC:kN C){t:Nat}(h:(C.ti t).d ≠ .other):cA C.P t (C.ti t):=by
  rcases hC.ti t with e|e
  · rw[e]at h;exact(h rfl).elim
  · exact e
theorem cA.get{P:Program}{x:TI}(h:cA P t x) :
    ∃i d z,P.info? t=some i/\P.underlying t=some d/\au d=x.d/\i.size=x.cells/\i.bytes=x.bytes/\i.zero=some z/\kK z=x.zero:=by
  obtain⟨_,_,h1,h2,_⟩:=h
  cases hi:P.info? t with
  | none=>simp[hi]at h1
  | some i=>
    cases hd:P.underlying t with
    | none=>simp[hd]at h2
    | some d=>
      simp only[hi,hd,Option.map_some,Option.some.injEq,Hw,Prod.mk.injEq]at h1 h2;obtain⟨h1a,h1b,h1c⟩:=h1
      cases hz:i.zero with
      | none=>simp[hz]at h1c
      | some z=>
        simp[hz]at h1c;exact⟨i,d,z,rfl,rfl,h2,h1a,h1b,hz,h1c⟩
theorem jE(v:Value):kK v=v.cells.toList:=by cases v <;> simp[kK,Value.cells]
theorem qp(w:World)(a:Addr):w.cell? a=cellOf w.heap a:=rfl
theorem OW(w:World)(a:Addr):w.frozen? a=rO w.heap a:=rfl
theorem Hx(w:World)(a:Addr)(v:Value):(w.setCell a v).heap=setOf w.heap a v:=rfl
theorem aQ.refl(w:World):aQ w w:=⟨rfl,rfl,rfl⟩
theorem aQ.trans{a b c:World}(h:aQ a b)(k:aQ b c):aQ a c:=⟨k.1.trans h.1,k.2.1.trans h.2.1,k.2.2.trans h.2.2⟩
def To{α:Type}(P:Program)(s:Sem α)(w:World)(k:α->ad->Prop):Prop:=
  ∃v w',s.run P w = .ok v w'/\aQ w w'/\k v w'.heap
theorem To.mono{α:Type}{P:Program}{s:Sem α}{k k':α->ad->Prop}(h:To P s w k)(hk:∀ v h,k v h->k' v h):To P s w k':=
  let ⟨v,w',a,b,c⟩:=h;⟨v,w',a,b,hk _ _ c⟩
theorem iN{P:Program}{i:TypeInfo}(h:P.info? t=some i)(w:World):(typeInfo t).run P w = .ok i w:=by
  simp[typeInfo,h]
theorem bO{P:Program}{i:TypeInfo}(h:P.info? t=some i)(w:World):(sizeOf t).run P w = .ok i.size w:=by
  simp[sizeOf,iN h]
def jd : D->Bool
  | .arr _ _=>true
  | .struct _=>true
  | _=>false
theorem pj{P:Program}{d:TypeDesc}(h:P.underlying t=some d)(w:World) :
    (isAgg t).run P w = .ok (jd (au d)) w:=by
  unfold isAgg;rw[Sem.run_bind,run_underlying h w]
  cases d <;> simp[au,jd]
theorem mA{ty:Ty}{C K:Value->Prop}(h:QT ty C K):∃v,C v/\K v:=by
  cases ty <;> simp only[QT]at h <;> (first|(obtain⟨a,l,c,h1,h2⟩:=h;exact⟨_,h1,h2⟩)|(obtain⟨a,h1,h2⟩:=h;exact⟨_,h1,h2⟩))
theorem CO{P:Program}{x:TI}(hx:cA P t x){p:Addr}{w:World}{k:Value->Prop}(h:Nu x p w.heap k) :
    ∃v,(loadVar t p).run P w = .ok v w/\k v:=by
  obtain⟨i,d,z,hi,hd,xX,mW,_,_,_⟩:=hx.get;unfold Nu at h;unfold loadVar;have u7:=pj hd w
  cases hq:au d with
  | arr n e=>
    rw[<-xX,hq]at h;simp only[D.ty]at h;rw[hq]at u7;simp only[jd]at u7;obtain⟨cs,hl,hc,hk⟩:=h;have UP:=run_loadCells_list (P:=P) w p cs (λj v hv=>hc j v hv);refine⟨.agg ⟨cs⟩,?_,hk⟩;simp only[Sem.run_bind,u7,Result.andThen_ok,if_true,bO hi,mW,<-hl,UP,Sem.run_pure]
  | struct fs=>
    rw[<-xX,hq]at h;simp only[D.ty]at h;rw[hq]at u7;simp only[jd]at u7;obtain⟨cs,hl,hc,hk⟩:=h;have UP:=run_loadCells_list (P:=P) w p cs (λj v hv=>hc j v hv);refine⟨.agg ⟨cs⟩,?_,hk⟩;simp only[Sem.run_bind,u7,Result.andThen_ok,if_true,bO hi,mW,<-hl,UP,Sem.run_pure]
  | bool=>rw[<-xX,hq]at h;simp only[D.ty]at h;rw[hq]at u7;simp only[jd]at u7;obtain⟨v,hc,hk⟩:=mA h;exact⟨v,by simp[Sem.run_bind,u7,qp,hc],hk⟩
  | int kd=>rw[<-xX,hq]at h;simp only[D.ty]at h;rw[hq]at u7;simp only[jd]at u7;obtain⟨v,hc,hk⟩:=mA h;exact⟨v,by simp[Sem.run_bind,u7,qp,hc],hk⟩
  | str=>rw[<-xX,hq]at h;simp only[D.ty]at h;rw[hq]at u7;simp only[jd]at u7;obtain⟨v,hc,hk⟩:=mA h;exact⟨v,by simp[Sem.run_bind,u7,qp,hc],hk⟩
  | ptr e=>rw[<-xX,hq]at h;simp only[D.ty]at h;rw[hq]at u7;simp only[jd]at u7;obtain⟨v,hc,hk⟩:=mA h;exact⟨v,by simp[Sem.run_bind,u7,qp,hc],hk⟩
  | slice e=>rw[<-xX,hq]at h;simp only[D.ty]at h;rw[hq]at u7;simp only[jd]at u7;obtain⟨v,hc,hk⟩:=mA h;exact⟨v,by simp[Sem.run_bind,u7,qp,hc],hk⟩
  | fn=>rw[<-xX,hq]at h;simp only[D.ty]at h;rw[hq]at u7;simp only[jd]at u7;obtain⟨v,hc,hk⟩:=mA h;exact⟨v,by simp[Sem.run_bind,u7,qp,hc],hk⟩
  | map k e=>rw[<-xX,hq]at h;simp only[D.ty]at h;rw[hq]at u7;simp only[jd]at u7;obtain⟨v,hc,hk⟩:=mA h;exact⟨v,by simp[Sem.run_bind,u7,qp,hc],hk⟩
  | other=>rw[<-xX,hq]at h;simp only[D.ty]at h;rw[hq]at u7;simp only[jd]at u7;obtain⟨v,hc,hk⟩:=mA h;exact⟨v,by simp[Sem.run_bind,u7,qp,hc],hk⟩
theorem Hy(h:ad)(a b:Addr)(v:Value):(∃u,cellOf h b=some u)->∃u,cellOf (setOf h a v) b=some u:=by
  rintro⟨u,hu⟩;unfold cellOf setOf at *;simp only[Array.getElem?_modify]
  by_cases e:a.block=b.block
  · rw[e];simp only[if_true]
    cases hb:h[b.block]? with
    | none=>rw[hb]at hu;simp at hu
    | some o=>
      rw[hb]at hu
      cases o with
      | cells c t fr=>
        simp only at hu;simp only[Option.map_some]
        cases hs:b.spot with
        | some q=>simp[hs]at hu
        | none=>
          simp[hs]at hu ⊢
          have bK:b.off<c.size:=by
            rcases Nat.lt_or_ge b.off c.size with h1|h1
            · exact h1
            · simp[Array.getElem?_eq_none h1]at hu
          by_cases hsp:a.spot.isSome=true
          · simp[hsp,bK]
          · simp only[hsp]
            simp[bK]
      | _=>simp at hu
  · simp only[if_neg e];exact⟨u,hu⟩
theorem CP(h:ad)(a b:Addr)(v:Value):rO (setOf h a v) b=rO h b:=by
  unfold rO setOf;simp only[Array.getElem?_modify]
  by_cases e:a.block=b.block
  · rw[e];simp only[if_true]
    cases hb:h[b.block]? with
    | none=>simp
    | some o=>cases o <;> simp
  · simp only[if_neg e]
theorem Wr.set{h:ad}{a b:Addr}(v:Value)(hw:Wr h b):Wr (setOf h a v) b:=⟨Hy h a b v hw.1,by rw[CP];exact hw.2⟩
theorem Q8{P:Program}{a:Addr}{v:Value}(hv:v.oneCell'=true)(hw:Wr w.heap a):(store a v).run P w = .ok () (w.setCell a v):=by
  obtain⟨⟨u,hu⟩,hf⟩:=hw;rw[run_store P w a v .plain hv,qp,hu];simp[OW,hf]
def Q9(w:World)(h:ad):World:={ w with heap:=h }
theorem wG(w:World)(h:ad):aQ w (Q9 w h):=⟨rfl,rfl,rfl⟩
theorem nU{P:Program}(a:Addr):∀(cs:LV) (i:Nat) (w:World),(∀v∈cs,v.oneCell'=true)->(∀j,j<cs.length->Wr w.heap (a.add (i+j)))->
    (storeCells a cs i).run P w = .ok () (Q9 w (setRow w.heap a cs i))
  | [],i,w,_,_=>rfl
  | v::r,i,w,h1,h2=>by
    have hs:=Q8 (P:=P) (w:=w) (a:=a.add i) (h1 v (by simp)) (by simpa using h2 0 (by simp));have ih:=nU (P:=P) a r (i+1) (w.setCell (a.add i) v) (λx hx=>h1 x (by simp[hx]))
      (λj hj=>by
        rw[Hx];have:=h2 (j+1) (by simp;omega);rw[show i+1+j=i+(j+1) by omega]
        exact this.set v)
    simp only[storeCells,Sem.run_bind,hs,Result.andThen_ok,ih];rfl
theorem Jd{P:Program}{x:TI}(hx:cA P t x){p:Addr}{v:Value}{w:World}{k:HP}(h:Lo x p v w.heap k) :
    ∃w',(storeVar t p v).run P w = .ok () w'/\aQ w w'/\k w'.heap:=by
  obtain⟨i,d,z,hi,hd,xX,mW,_,_,_⟩:=hx.get
  have one:∀u:Value,u.oneCell'=true->u.cells = #[u]->Nat.beq x.cells 1=true->Wr w.heap p->k (setOf w.heap p u)->
      ∃w',(storeVar t p u).run P w = .ok () w'/\aQ w w'/\k w'.heap:=by
    intro u hu Bk hb hw hk;have UQ:x.cells=1:=Nat.eq_of_beq_eq_true hb
    have hs:=nU (P:=P) p [u] 0 w (by simpa using hu) (λj hj=>by
      have:j=0:=by simpa using hj
      subst this;simpa[Addr.add]using hw)
    refine⟨Q9 w (setRow w.heap p [u] 0),?_,wG w _,?_⟩
    · simp only[storeVar,Sem.run_bind,bO hi,Result.andThen_ok,Bk,mW,UQ]
      simp only[List.size_toArray,List.length_cons,List.length_nil];simpa using hs
    · simpa[setRow,Q9,Addr.add]using hk
  cases v with
  | agg a=>
    obtain⟨⟨h1,h2,h3⟩,hk⟩:=h
    have hs:=nU (P:=P) p a.toList 0 w h2 (λj hj=>by
      rw[Nat.zero_add];exact h3 j (by omega))
    refine⟨Q9 w (setRow w.heap p a.toList 0),?_,wG w _,?_⟩
    · simp only[storeVar,Sem.run_bind,bO hi,Result.andThen_ok,Value.cells,mW]
      have e:a.size=x.cells:=(by simpa using h1);simp only[e];simpa using hs
    · exact hk
  | tuple a=>exact h.elim
  | _=>
    simp only[Lo]at h
    cases hb:Nat.beq x.cells 1 with
    | false=>rw[hb]at h;exact h.elim
    | true=>rw[hb]at h;exact one _ rfl rfl hb h.1 h.2
def Qt{α:Type}(P:Program)(s:Sem α)(k:α->Prop):Prop:=∃v,(∀w:World,s.run P w = .ok v w)/\k v
theorem mY{a b:IntKind}(h:mg a b=true):a=b:=by cases a <;> cases b <;> first|rfl|(simp[mg]at h)
theorem NA{P:Program}{op:BinOp}{kd:IntKind}{a b:Int}{k:Value->Prop}(hs:sI op=false)(h:I7 op kd a b k) :
    Qt P (binOp op t (.int kd a) (.int kd b)) k:=by
  cases op with
  | shl=>simp[sI]at hs
  | shr=>simp[sI]at hs
  | add=>exact⟨_,by simp[Op.intArith,binOp],h⟩
  | sub=>exact⟨_,by simp[Op.intArith,binOp],h⟩
  | mul=>exact⟨_,by simp[Op.intArith,binOp],h⟩
  | quo=>
    by_cases hb:b=0
    · simp[I7,hb]at h
    · simp only[I7,if_neg hb]at h
      exact⟨_,by simp[Op.intDiv,binOp,hb],h⟩
  | rem=>
    by_cases hb:b=0
    · simp[I7,hb]at h
    · simp only[I7,if_neg hb]at h
      exact⟨_,by simp[Op.intDiv,binOp,hb],h⟩
  | eql=>exact⟨_,by simp[Op.intCmp,binOp],h⟩
  | neq=>exact⟨_,by simp[Op.intCmp,binOp],h⟩
  | lss=>exact⟨_,by simp[Op.intCmp,binOp],h⟩
  | leq=>exact⟨_,by simp[Op.intCmp,binOp],h⟩
  | gtr=>exact⟨_,λw=>by simp only[Op.intCmp,binOp];simp,h⟩
  | geq=>exact⟨_,λw=>by simp only[Op.intCmp,binOp];simp,h⟩
  | and=>exact⟨_,by simp[Op.intBits,binOp,bw],h⟩
  | or=>exact⟨_,by simp[Op.intBits,binOp,bw],h⟩
  | xor=>exact⟨_,by simp[Op.intBits,binOp,bw],h⟩
  | andNot=>exact⟨_,by simp[Op.intBits,binOp,bw],h⟩
theorem FA{P:Program}{op:BinOp}{kd Hq:IntKind}{a b:Int}{k:Value->Prop}(h:vw op kd a b k) :
    Qt P (binOp op t (.int kd a) (.int Hq b)) k:=by
  cases op with
  | shl=>
    by_cases hb:b<0
    · simp[vw,hb]at h
    · simp only[vw,if_neg hb]at h
      exact⟨_,λw=>by simp only[binOp,Op.shift];rw[if_neg hb];rfl,h⟩
  | shr=>
    by_cases hb:b<0
    · simp[vw,hb]at h
    · simp only[vw,if_neg hb]at h
      exact⟨_,λw=>by simp only[binOp,Op.shift];rw[if_neg hb];rfl,h⟩
  | _=>exact h.elim
theorem NB{P:Program}{op:BinOp}{a b:ByteArray}{k:Value->Prop}(h:Y1 op a b k) :
    Qt P (binOp op t (.string a) (.string b)) k:=by
  cases op with
  | add=>
    obtain⟨h1,h2⟩:=h;refine⟨_,λw=>?_,h2⟩;have e:IntKind.max .i64=9223372036854775807:=(by decide);simp only[binOp,Op.stringOp];rw[if_neg (by rw[e];omega)];rfl
  | eql=>exact⟨_,by simp[Op.stringOp,binOp],h⟩
  | neq=>exact⟨_,by simp[Op.stringOp,binOp],h⟩
  | lss=>exact⟨_,by simp[Op.stringOp,binOp],h⟩
  | leq=>exact⟨_,by simp[Op.stringOp,binOp],h⟩
  | gtr=>exact⟨_,λw=>by simp only[Op.stringOp,binOp];rfl,h⟩
  | geq=>exact⟨_,λw=>by simp only[Op.stringOp,binOp];rfl,h⟩
  | _=>exact h.elim
theorem Bn{P:Program}{op:BinOp}{b:Bool}{k:Value->Prop}(h:eqB op b k)
    (he:∀w:World,(Op.equal t x y).run P w = .ok b w) (h1:binOp .eql t x y=(do Pure.pure (.bool (<-Op.equal t x y)))) (h2:binOp .neq t x y=(do Pure.pure (.bool (!(<-Op.equal t x y))))) :
    Qt P (binOp op t x y) k:=by
  cases op with
  | eql=>exact⟨_,λw=>by rw[h1];simp[he],h⟩
  | neq=>exact⟨_,λw=>by rw[h2];simp[he],h⟩
  | _=>exact h.elim
theorem pR{P:Program}{d:TypeDesc}(hd:P.underlying t=some d){x y:Value}{b:Bool}
    (h:(match d,x,y with
      | .bool,.bool a,.bool c=>b=(a==c)
      | .pointer _,.pointer none,.pointer q=>b=q.isNone
      | .pointer _,.pointer (some _),.pointer none=>b=false
      | .slice _,.slice none _ _,.slice q _ _=>b=q.isNone
      | .slice _,.slice (some _) _ _,.slice none _ _=>b=false
      | .func _ _ _,.nilFunc,.nilFunc=>b=true
      | .func _ _ _,.func _ _ _,.nilFunc=>b=false
      | _,_,_=>False)):∀w:World,(Op.equal t x y).run P w = .ok b w:=by
  intro w;unfold Op.equal Op.maxDepth;rw[show(10000:Nat)=9999+1 from rfl];unfold Op.equalIn;rw[Sem.run_bind,run_underlying hd w];simp only[Result.andThen_ok]
  split at h <;> first|(subst h;rfl)|exact h.elim
theorem US{P:Program}{d:TypeDesc}(hd:P.underlying t=some d){op:BinOp}{x y:Value}{k:Value->Prop}(h:tz (au d) op x y k) :
    Qt P (binOp op t x y) k:=by
  by_cases hf:au d = .fn
  · rw[hf]at h
    cases d <;> simp[au]at hf
    simp only[tz]at h
    cases y <;> try exact h.elim
    obtain⟨h1,h2⟩:=h
    cases x <;> simp[Fz]at h1
    · exact Bn h2 (pR hd rfl) rfl rfl
    · exact Bn h2 (pR hd rfl) rfl rfl
  · cases x with
    | int kd a=>
      cases y with
      | int Hq b=>
        have h':bif sI op then vw op kd a b k else bif mg kd Hq then I7 op kd a b k else False:=by
          unfold tz at h;split at h
          · exact(hf (by assumption)).elim
          · exact h
        cases hs:sI op with
        | true=>rw[hs]at h';exact FA h'
        | false=>
          rw[hs]at h'
          cases hk:mg kd Hq with
          | false=>rw[hk]at h';exact h'.elim
          | true=>rw[hk]at h';obtain rfl:=mY hk;exact NA hs h'
      | _=>unfold tz at h;split at h <;> first|exact(hf (by assumption)).elim|exact h.elim
    | string a=>
      cases y with
      | string b=>unfold tz at h;split at h <;> first|exact(hf (by assumption)).elim|exact NB h
      | _=>unfold tz at h;split at h <;> first|exact(hf (by assumption)).elim|exact h.elim
    | bool a=>
      cases y with
      | bool b=>
        unfold tz at h;split at h
        · exact(hf (by assumption)).elim
        · cases d <;> simp[au]at h
          exact Bn h (pR hd rfl) rfl rfl
      | _=>unfold tz at h;split at h <;> first|exact(hf (by assumption)).elim|exact h.elim
    | pointer a=>
      cases y with
      | pointer b=>
        unfold tz at h;split at h
        · exact(hf (by assumption)).elim
        · cases b with
          | some q=>exact h.elim
          | none=>
            cases d <;> simp[au]at h
            cases a with
            | none=>exact Bn h (pR hd rfl) rfl rfl
            | some p=>exact Bn h (pR hd rfl) rfl rfl
      | _=>unfold tz at h;split at h <;> first|exact(hf (by assumption)).elim|exact h.elim
    | slice a l c=>
      cases y with
      | slice b l' c'=>
        unfold tz at h;split at h
        · exact(hf (by assumption)).elim
        · cases b with
          | some q=>exact h.elim
          | none=>
            cases d <;> simp[au]at h
            cases a with
            | none=>exact Bn h (pR hd rfl) rfl rfl
            | some p=>exact Bn h (pR hd rfl) rfl rfl
      | _=>unfold tz at h;split at h <;> first|exact(hf (by assumption)).elim|exact h.elim
    | _=>unfold tz at h;split at h <;> first|exact(hf (by assumption)).elim|exact h.elim
theorem Y'{P:Program}{op:UnOp}{k:Value->Prop}(h:unX op x k):Qt P (Op.unary op x) k:=by
  cases op with
  | not=>cases x <;> first|exact h.elim|exact⟨_,λ_=>rfl,h⟩
  | neg=>cases x <;> first|exact h.elim|exact⟨_,λ_=>rfl,h⟩
  | xor=>cases x <;> first|exact h.elim|exact⟨_,λ_=>rfl,h⟩
  | plus=>cases x <;> exact h.elim
def Al(a b:Value):Bool:=
  match a,b with
  | .nilIface,.nilIface=>false
  | .agg _,.agg _=>false
  | _,_=>true
theorem Je{P:Program}{op:BinOp}{x y:Operand}{a b:Value}(h:Al a b=true) :
    (eqGuard op t x y a b).run P w = .ok () w:=by
  have key:∀c:Bool,(if c=true then(Pure.pure ():Sem Unit)else Pure.pure ()).run P w = .ok () w:=λc=>by cases c <;> rfl
  unfold eqGuard
  cases a <;> cases b <;> first|exact key _|(simp[Al]at h;done)
theorem Lr{d:D}{op:BinOp}{k:Value->Prop}(h:tz d op x y k):Al x y=true:=by
  unfold tz at h
  cases x <;> cases y <;> first|rfl|(split at h <;> exact h.elim)
theorem tC(n s:Nat):scale n s=n*s:=by
  unfold scale
  cases h:Nat.beq s 1 with
  | false=>rfl
  | true=>have:=Nat.eq_of_beq_eq_true h;subst this;simp
theorem Addr.add_zero(a:Addr):a.add 0=a:=by simp[Addr.add]
theorem xI(z:LV)(n:Nat):(List.range (n*z.length)).map (λi=>z[i%z.length]!)=(List.replicate n z).flatten:=by
  by_cases hz:z.length=0
  · have:z=[]:=List.eq_nil_of_length_eq_zero hz
    subst this
    induction n with
    | zero=>rfl
    | succ n ih=>simp
  · induction n with
    | zero=>simp
    | succ n ih=>
      have e:(List.replicate (n+1) z).flatten=(List.replicate n z).flatten++z:=by
        rw[List.replicate_succ',List.flatten_append];simp
      rw[e,<-ih,Nat.add_mul,Nat.one_mul,List.range_add,List.map_append,List.map_map];congr 1;apply List.ext_getElem?;intro i;simp only[lG0]
      by_cases hi:i<z.length
      · simp[hi,Nat.mod_eq_of_lt hi]
      · simp[hi]
theorem qy(z:LV)(n:Nat):aN z n=(List.replicate n z).flatten:=by
  unfold aN
  split
  · rename_i v
    induction n with
    | zero=>rfl
    | succ n ih=>rw[List.replicate_succ,ih,List.replicate_succ,List.flatten_cons];rfl
  · rfl
theorem FB(z:Array Value)(i:Nat):z[i]! = z[i]?.getD default:=by simp[getElem!_def];split <;> simp_all
theorem yT(z:Value)(n:Nat):Builtin.zeroCells z.cells n=⟨aN (kK z) n⟩:=by
  apply Array.ext';rw[qy,jE,<-xI];simp only[Builtin.zeroCells,Array.toList_map,Array.toList_range,Array.length_toList];apply List.map_congr_left;intro i _;simp[FB]
theorem yU(z:Value)(n:Nat):madeCells z.cells (n*z.cells.size)=⟨aN (kK z) n⟩:=by
  apply Array.ext';rw[qy,jE,<-xI];simp only[madeCells,Array.toList_map,Array.toList_range,Array.length_toList];apply List.map_congr_left;intro i _;simp[FB]
theorem iO(z:LV)(n:Nat):(aN z n).length=n*z.length:=by
  rw[qy]
  induction n with
  | zero=>simp
  | succ n ih=>rw[List.replicate_succ,List.flatten_cons,lA0,ih,Nat.add_mul,Nat.one_mul,Nat.add_comm]
theorem Ra{P:Program}{x:TI}(ht:∃ d,P.underlying t=some d/\au d = .slice e)(hx:cA P e x){kl kc:IntKind}{l c:Int}{w:World}{k:KT}
    (h:Xw x e l c w.heap k):To P (Instr.makeSlice t (.int kl l) (.int kc c)) w k:=by
  obtain⟨i,d,z,hi,hd,xX,mW,hb,hz,Hz⟩:=hx.get;obtain⟨dt,EJ,EP⟩:=ht;have hu:P.underlying t=some (.slice e):=by cases dt <;> simp[au]at EP;subst EP;exact EJ
  obtain⟨⟨h0,h1,h2,h3⟩,hk⟩:=h;have hr:=run_make (P:=P) w t e i z hu hi hz kl kc l c h0 h1 (by rw[hb];exact h2) (by omega)
  have hl:z.cells.size=i.size:=by
    have:=hx.len;rw[<-Hz,jE]at this;rw[mW,<-this];simp
  rw[<-hl,yU,Hz]at hr;exact⟨_,_,hr,⟨rfl,rfl,rfl⟩,hk⟩
def ER(o:Option (IntKind×Int)):Option Value:=o.map λp=>.int p.1 p.2
def ins(o:Option (IntKind×Int)):Option Int:=o.map (·.2)
theorem jF{P:Program}(kd:IntKind)(i:Int)(y:Nat)(code:BoundsCode)(h0:0<=i)(h1:i<=(y:Int)) :
    (Instr.sliceBound (.int kd i) y code).run P w = .ok i.toNat w:=by
  simp[Instr.sliceBound,asIntOf,h0,h1]
theorem Jf{P:Program}{isS:Bool}{a:OA}{len:Nat}{lo hi mx:Option (IntKind×Int)}{k:Value->Prop}
    (h:QU a len cap size (ins lo) (ins hi) (ins mx) k) :
    ∃l u m,(∀w:World,(Instr.sliceBounds isS len cap (ER lo) (ER hi) (ER mx)).run P w = .ok (l,u,m) w)/\k (.slice (if m=l then a else a.map (·.add (l*size))) (u-l) (m-l)):=by
  have Ls:∀m:Nat,(if m=0 then a else a.map (·.add (0*size)))=a:=λm=>by
    split
    · rfl
    · cases a <;> simp[Addr.add]
  have hid':∀m:Nat,(if m=0 then a else a.map (·.add 0))=a:=λm=>by
    split
    · rfl
    · cases a <;> simp[Addr.add]
  rcases lo with _|⟨kl,l⟩ <;> rcases hi with _|⟨kh,u⟩ <;> rcases mx with _|⟨km,m⟩ <;> simp only[QU,ins,Option.map_none,Option.map_some]at h
  · refine⟨0,len,cap,by simp[Instr.sliceBounds,ER],?_⟩
    rw[Ls];simpa using h
  · obtain⟨⟨h0,h1⟩,hk⟩:=h
    refine⟨0,u.toNat,cap,by simp[Instr.sliceBounds,ER,jF kh u cap _ h0 h1],?_⟩;rw[Ls];simpa using hk
  · obtain⟨⟨h0,h1,h2⟩,hk⟩:=h
    have e1:=λw=>jF (P:=P) (w:=w) km m cap (if isS then .slice3Acap else .slice3Alen) (by omega) h2;have e2:=λw=>jF (P:=P) (w:=w) kh u m.toNat .slice3B h0 (by omega);refine⟨0,u.toNat,m.toNat,by simp[Instr.sliceBounds,ER,e1,e2],?_⟩;rw[Ls];simpa using hk
  · obtain⟨⟨h0,h1⟩,hk⟩:=h
    refine⟨l.toNat,len,cap,by simp[Instr.sliceBounds,ER,jF kl l len _ h0 h1],?_⟩;simpa[tA,tC]using hk
  · obtain⟨⟨h0,h1,h2⟩,hk⟩:=h
    have e1:=λw=>jF (P:=P) (w:=w) kh u cap (if isS then .sliceAcap else .sliceAlen) (by omega) h2;have e2:=λw=>jF (P:=P) (w:=w) kl l u.toNat .sliceB h0 (by omega);refine⟨l.toNat,u.toNat,cap,by simp[Instr.sliceBounds,ER,e1,e2],?_⟩;simpa[tA,tC]using hk
  · obtain⟨⟨h0,h1,h2,h3⟩,hk⟩:=h
    have e1:=λw=>jF (P:=P) (w:=w) km m cap (if isS then .slice3Acap else .slice3Alen) (by omega) h3;have e2:=λw=>jF (P:=P) (w:=w) kh u m.toNat .slice3B (by omega) (by omega);have e3:=λw=>jF (P:=P) (w:=w) kl l u.toNat .slice3C h0 (by omega);refine⟨l.toNat,u.toNat,m.toNat,by simp[Instr.sliceBounds,ER,e1,e2,e3],?_⟩;simpa[tA,tC]using hk
theorem Lt{P:Program}{lo hi mx:Option (IntKind×Int)}{k:Value->Prop}(h:Lp s (ins lo) (ins hi) (ins mx) k) :
    mx=none/\∃l u m,(∀w:World,(Instr.sliceBounds false s.size s.size (ER lo) (ER hi) none).run P w = .ok (l,u,m) w)/\k (.string (s.extract l u)):=by
  rcases lo with _|⟨kl,l⟩ <;> rcases hi with _|⟨kh,u⟩ <;> rcases mx with _|⟨km,m⟩ <;> simp only[Lp,ins,Option.map_none,Option.map_some]at h <;> first|exact h.elim|refine⟨rfl,?_⟩
  · refine⟨0,s.size,s.size,by simp[Instr.sliceBounds,ER],?_⟩
    rw[ByteArray.extract_zero_size];exact h
  · obtain⟨⟨h0,h1⟩,hk⟩:=h
    exact⟨0,u.toNat,s.size,by simp[Instr.sliceBounds,ER,jF kh u s.size _ h0 h1],hk⟩
  · obtain⟨⟨h0,h1⟩,hk⟩:=h
    exact⟨l.toNat,s.size,s.size,by simp[Instr.sliceBounds,ER,jF kl l s.size _ h0 h1],hk⟩
  · obtain⟨⟨h0,h1,h2⟩,hk⟩:=h
    have e1:=λw=>jF (P:=P) (w:=w) kh u s.size .sliceAlen (by omega) h2;have e2:=λw=>jF (P:=P) (w:=w) kl l u.toNat .sliceB h0 (by omega);exact⟨l.toNat,u.toNat,s.size,by simp[Instr.sliceBounds,ER,e1,e2],hk⟩
theorem FC{P:Program}{d:TypeDesc}(hd:P.underlying t=some d){size:Nat}
    (he:∀e,(au d = .slice e∨∃n,au d = .arr n e)->∃i,P.info? e=some i/\i.size=size) {x:Value} {lo hi mx:Option (IntKind×Int)} {k:Value->Prop}
    (h:Hr (au d) size x (ins lo) (ins hi) (ins mx) k):Qt P (Instr.sliceAt t x (ER lo) (ER hi) (ER mx)) k:=by
  cases d with
  | string=>
    cases x <;> try exact h.elim
    rename_i s;obtain⟨rfl,l,u,m,hr,hk⟩:=Lt (P:=P) h;refine⟨_,λw=>?_,hk⟩;simp only[Instr.sliceAt,Instr.slice,Sem.run_bind,run_underlying hd,Result.andThen_ok];simp[ER]at hr ⊢;simp[hr]
  | slice e=>
    cases x <;> try exact h.elim
    rename_i a l c;obtain⟨i,vt,hs⟩:=he e (.inl rfl);obtain⟨l',u,m,hr,hk⟩:=Jf (P:=P) (isS:=true) h;refine⟨_,λw=>?_,hk⟩;simp only[Instr.sliceAt,Instr.slice,Sem.run_bind,run_underlying hd,Result.andThen_ok,hr,bO vt,hs,Sem.run_pure]
  | array n e=>
    cases x <;> try exact h.elim
    rename_i q
    cases q with
    | none=>exact h.elim
    | some p=>
      obtain⟨i,vt,hs⟩:=he e (.inr ⟨n,rfl⟩);obtain⟨l',u,m,hr,hk⟩:=Jf (P:=P) (isS:=false) (show QU (some p) n n size (ins lo) (ins hi) (ins mx) k from h);refine⟨_,λw=>?_,hk⟩;simp only[Instr.sliceAt,Instr.sureAddr,Sem.run_bind,run_underlying hd,Result.andThen_ok,hr,bO vt,hs,Sem.run_pure];congr 2
      split <;> simp
  | _=>cases x <;> exact h.elim
theorem ou{P:Program}{n:Nat}{b:OA}{len:Nat}{cs:LV}(hl:cs.length=n*size)(h:ak w.heap b cs) :
    (Builtin.firstCells size n (.slice b len cap)).run P w = .ok ⟨cs⟩ w:=by
  cases b with
  | none=>
    have:cs=[]:=h;subst this;simp[Builtin.firstCells]
  | some p=>exact run_firstCells_some (P:=P) w size n p len cap cs hl (λj v hv=>h j v hv)
theorem vD{P:Program}{n:Nat} :
    (Builtin.firstCells 1 n (.string s)).run P w = .ok ⟨(s.toList.take n).map bv⟩ w:=by
  simp only[Builtin.firstCells,Sem.run_pure];congr 1;apply Array.ext';simp[ByteArray.toList_eq];rfl
structure Src(P:Program)(size:Nat)(x:Value)(h:ad)(n:Nat)(new:LV):Prop where
  len:∀w:World,w.heap=h->(Builtin.lenOf x).run P w = .ok n w
  cells:∀w:World,w.heap=h->(Builtin.firstCells size n x).run P w = .ok ⟨new⟩ w
  length:new.length=n*size
  one:∀v∈new,v.oneCell'=true
theorem UT{P:Program}{x:TI}{v:Value}{h:ad}{k:Nat->LV->Prop}(hk:UN x h v k):∃n new,Src P x.cells v h n new/\k n new:=by
  cases v <;> try exact hk.elim
  · rename_i s
    unfold UN at hk
    cases hb:Nat.beq x.cells 1 with
    | false=>simp[hb]at hk
    | true=>
      have e:x.cells=1:=Nat.eq_of_beq_eq_true hb;simp[hb]at hk;refine⟨_,_,⟨λw _=>rfl,λw _=>?_,?_,?_⟩,hk⟩
      · rw[e]
        have:=vD (P:=P) (w:=w) (s:=s) (n:=s.size);have hl:s.toList.length=s.size:=(by rw[ByteArray.toList_eq];simp);rw[List.take_of_length_le (by omega)]at this;exact this
      · rw[e,ByteArray.toList_eq];simp
      · intro v hv
        obtain⟨b,_,rfl⟩:=List.mem_map.1 hv;rfl
  · rename_i b n c
    obtain⟨new,h1,h2,h3,hk⟩:=hk;exact⟨n,new,⟨λw _=>rfl,λw hw=>ou h1 (hw▸h2),h1,h3⟩,hk⟩
theorem OX{P:Program}{ty:Nat}{x:TI}(ht:∃ d,P.underlying t=some d/\au d = .slice e)(QA:(∃ e',P.underlying t'=some (.slice e'))∨P.underlying t'=some .string)
    (hx:cA P e x) {a:OA} {l c n:Nat} {v:Value} {new:LV} {w:World} {k:OA->Nat->Nat->ad->Prop} (hs:Src P x.cells v w.heap n new)
    (h:aH x e a l c n new w.heap k):To P (Builtin.append_ #[t,t'] ty #[.slice a l c,v]) w λr h'=>∃a' l' c',r = .slice a' l' c'/\k a' l' c' h':=by
  obtain⟨i,d,z,hi,hd,xX,mW,hb,hz,Hz⟩:=hx.get;obtain⟨dt,EJ,EP⟩:=ht;have hu:P.underlying t=some (.slice e):=by cases dt <;> simp[au]at EP;subst EP;exact EJ
  obtain⟨old,ho,hoc,Za,hlen,hfit,acb⟩:=h
  by_cases hc:l+n<=c
  · obtain⟨hwr,hk⟩:=hfit hc
    have qS:∃w',(match a with|some a=>storeCells (a.add (l*i.size)) new|none=>Pure.pure ():Sem Unit).run P w = .ok () w'/\aQ w w'/\w'.heap=uu w.heap a (l*x.cells) new:=by
      cases a with
      | none=>exact⟨w,rfl,.refl _,rfl⟩
      | some p=>
        have:=nU (P:=P) (p.add (l*x.cells)) new 0 w hs.one (λj hj=>by
          rw[Nat.zero_add];exact hwr j (by rw[<-hs.length];exact hj))
        exact⟨_,by rw[mW];exact this,wG _ _,rfl⟩
    obtain⟨w',h1,h2,h3⟩:=qS;refine⟨.slice a (l+n) c,w',?_,h2,a,l+n,c,rfl,by rw[h3];exact hk⟩;have Bk:=hs.cells w rfl;rw[<-mW]at Bk
    rcases QA with⟨e',QA⟩|QA
    all_goals
      simp only[Builtin.append_,List.getElem?_toArray,List.getElem?_cons_zero,List.getElem?_cons_succ,Sem.run_bind,run_underlying hu,run_underlying QA,Result.andThen_ok,bO hi,Sem.run_pure,Bool.false_eq_true,if_false,Bool.not_false,if_true,hs.len w rfl,Sem.run_ite,if_pos hc,Bk]
      cases a with
      | none=>simp at h1 ⊢;exact h1
      | some p=>simp only at h1;simp[h1]
  · have hg:c<l+n:=by omega
    have hk:=acb hg;have hfits:=growslice_fits (bytes:=i.bytes) hg (by rw[hb];exact Za)
    have h48:¬(Builtin.nextslicecap (l+n) c*i.bytes>2 ^ 48):=by
      have e:(2:Nat) ^ 48=281474976710656:=(by decide);rw[e];omega
    have h63:¬(((l+n:Nat):Int)>IntKind.i64.max/\(false=true∨i.bytes=0)):=by
      have e:IntKind.max .i64=9223372036854775807:=(by decide);rw[e];omega
    let w1:World:={ w with drawn:=w.drawn+1 }
    let cap:=(Question.appendCap (l+n) c e).cut (w.tape w.drawn (Question.appendCap (l+n) c e))
    have xY:l+n<=cap:=(by show l+n<=Question.cut _ _;simp[Question.cut]);have Bk:=hs.cells w1 rfl;rw[<-mW]at Bk;have hos:=ou (P:=P) (w:=w1) (size:=i.size) (n:=l) (len:=l) (cap:=c) (by rw[mW];exact ho) hoc;refine⟨.slice (some ⟨w.heap.size,0,none⟩) (l+n) cap,w1.alloc (.cells ⟨old++new++aN x.zero (cap-(l+n))⟩ e),?_,⟨rfl,rfl,rfl⟩,_,_,_,rfl,hk cap xY⟩;have Zb:(zeroValue e).run P w1 = .ok z w1:=(by simp[zeroValue,iN hi,hz]);have hch:(choose (Question.appendCap (l+n) c e)).run P w = .ok cap w1:=by simp[Question.forced,w1,cap]
    rcases QA with⟨e',QA⟩|QA
    all_goals
      simp only[Builtin.append_,List.getElem?_toArray,List.getElem?_cons_zero,List.getElem?_cons_succ,Sem.run_bind,run_underlying hu,run_underlying QA,Result.andThen_ok,bO hi,Sem.run_pure,Bool.false_eq_true,if_false,Bool.not_false,if_true,hs.len w rfl,Sem.run_ite,if_neg hc,iN hi,if_neg h48];rw[if_neg (by simpa using h63)];simp only[Sem.run_bind,Result.andThen_ok,hch,run_askRoom,hos,Bk,Zb,newRow,run_newObj,Sem.run_pure,yT,Hz];congr 2;simp
theorem NC{P:Program}(a:OA)(o:Nat)(new:LV)(h1:∀ v ∈ new,v.oneCell'=true)(h2:Lf w.heap a o new.length) :
    ∃w',(match a with|some a=>storeCells (a.add o) new|none=>Pure.pure ():Sem Unit).run P w = .ok () w'/\aQ w w'/\w'.heap=uu w.heap a o new:=by
  cases a with
  | none=>exact⟨w,rfl,.refl _,rfl⟩
  | some p=>
    have:=nU (P:=P) (p.add o) new 0 w h1 (λj hj=>by rw[Nat.zero_add];exact h2 j hj);exact⟨_,this,wG _ _,rfl⟩
theorem Rb{P:Program}{ty:Nat}{x:TI}(ht:∃ d,P.underlying t=some d/\au d = .slice e)
    (hx:cA P e x) {a:OA} {n c:Nat} {w:World} {k:HP}
    (h:Lq x a n w.heap k):To P (Builtin.clear_ #[t] ty #[.slice a n c]) w λr h'=>r = .tuple #[]/\k h':=by
  obtain⟨i,d,z,hi,hd,xX,mW,hb,hz,Hz⟩:=hx.get;obtain⟨dt,EJ,EP⟩:=ht;have hu:P.underlying t=some (.slice e):=by cases dt <;> simp[au]at EP;subst EP;exact EJ
  obtain⟨h1,h2,h3⟩:=h;have Zb:(zeroValue e).run P w = .ok z w:=by simp[zeroValue,iN hi,hz]
  have UQ:∀v∈x.zero,v.oneCell'=true:=by
    cases hb:x.zero.all Value.oneCell' with
    | true=>exact List.all_eq_true.1 hb
    | false=>rw[hb]at h1;exact h1.elim
  have hrep:∀v∈aN x.zero n,v.oneCell'=true:=by
    intro v hv;unfold aN at hv
    split at hv
    · rename_i u hu;exact UQ v (by rw[hu];simp[List.eq_of_mem_replicate hv])
    · obtain⟨l,hl,hv⟩:=List.mem_flatten.1 hv
      rw[List.eq_of_mem_replicate hl]at hv;exact UQ v hv
  have hlen:(aN x.zero n).length=n*x.cells:=by rw[iO,hx.len]
  cases a with
  | none=>exact⟨.tuple #[],w,by simp[Builtin.clear_,run_underlying hu],⟨rfl,rfl,rfl⟩,rfl,h3⟩
  | some p=>
    cases n with
    | zero=>
      refine⟨.tuple #[],w,by simp[Builtin.clear_,run_underlying hu],⟨rfl,rfl,rfl⟩,rfl,?_⟩;have e0:aN x.zero 0=[]:=List.eq_nil_of_length_eq_zero (by rw[hlen,Nat.zero_mul]);rw[e0]at h3;exact h3
    | succ n=>
      obtain⟨w',UU,HA,ND⟩:=NC (P:=P) (w:=w) (some p) 0 (aN x.zero (n+1)) hrep (by rw[hlen];exact h2);simp only[Addr.add_zero]at UU;refine⟨.tuple #[],w',?_,HA,rfl,by rw[ND];exact h3⟩;simp[Builtin.clear_,run_underlying hu,Zb,yT,Hz,UU]
theorem UW{P:Program}{ty:Nat}{x:TI}(ht:∃ d,P.underlying t=some d/\au d = .slice e)
    (hx:cA P e x) {a:OA} {n c:Nat} {v:Value} {w:World} {k:Nat->ad->Prop}
    (h:rP x a n v w.heap k):To P (Builtin.copy_ #[t,t'] ty #[.slice a n c,v]) w λr h'=>∃m:Nat,r = .int .i64 (m:Int)/\k m h':=by
  obtain⟨i,d,z,hi,hd,xX,mW,hb,hz,Hz⟩:=hx.get;obtain⟨dt,EJ,EP⟩:=ht;have hu:P.underlying t=some (.slice e):=by cases dt <;> simp[au]at EP;subst EP;exact EJ
  have key:∀(m:Nat) (new:LV),(∀w':World,w'.heap=w.heap->(Builtin.lenOf v).run P w' = .ok m w')->
      (∀w':World,w'.heap=w.heap->(Builtin.firstCells x.cells (min m n) v).run P w' = .ok ⟨new⟩ w')->(∀u∈new,u.oneCell'=true)->Lf w.heap a 0 new.length->k (min m n) (uu w.heap a 0 new)->
      To P (Builtin.copy_ #[t,t'] ty #[.slice a n c,v]) w λr h'=>∃m:Nat,r = .int .i64 (m:Int)/\k m h':=by
    intro m new hl hc h1 hw hk;obtain⟨w',UU,HA,ND⟩:=NC (P:=P) (w:=w) a 0 new h1 hw;refine⟨.int .i64 ((min m n:Nat):Int),w',?_,HA,min m n,rfl,by rw[ND];exact hk⟩;have Bk:=hc w rfl;rw[<-mW]at Bk;have e:Nat.min m n=min m n:=rfl
    cases a with
    | none=>
      simp only[Sem.run_pure,Result.ok.injEq,true_and]at UU;subst UU;simp[Builtin.copy_,run_underlying hu,hl w rfl,bO hi,e,Bk,goInt]
    | some p=>
      simp only[Addr.add_zero]at UU;simp[Builtin.copy_,run_underlying hu,hl w rfl,bO hi,e,Bk,UU,goInt]
  cases v <;> try exact h.elim
  · rename_i s
    obtain⟨hb1,hw,hk⟩:=h
    have e1:x.cells=1:=by
      cases UX:Nat.beq x.cells 1 with
      | true=>exact Nat.eq_of_beq_eq_true UX
      | false=>simp[UX]at hb1
    refine key s.size ((s.toList.take (min s.size n)).map bv) (λw' _=>rfl) (λw' _=>?_) ?_ ?_ hk
    · rw[e1];exact vD
    · intro u hu
      obtain⟨b,_,rfl⟩:=List.mem_map.1 hu;rfl
    · have hl:s.toList.length=s.size:=by rw[ByteArray.toList_eq];simp
      have:((s.toList.take (min s.size n)).map bv).length=min s.size n:=(by simp[hl]);rw[this];exact hw
  · rename_i b m c'
    obtain⟨new,hl,hc,h1,hw,hk⟩:=h;refine key m new (λw' _=>rfl) (λw' hw'=>ou hl (hw'▸hc)) h1 ?_ hk;rw[hl];exact hw
theorem OY(v:LV):∀(off j:Nat) (cells:Array Value),off+j+v.length<=cells.size->
    ((v.zipIdx j).foldl (λcs (p:Value×Nat)=>cs.setIfInBounds (off+p.2) p.1) cells).toList=cells.toList.take (off+j)++v++cells.toList.drop (off+j+v.length):=by
  induction v with
  | nil=>intro off j cells _;simp
  | cons x r ih=>
    intro off j cells hl;simp only[List.length_cons]at hl;simp only[List.zipIdx_cons,List.foldl_cons];rw[ih off (j+1) _ (by simp;omega)];have bK:off+j<cells.toList.length:=(by simp;omega);simp only[Array.toList_setIfInBounds,<-Nat.add_assoc];have e:=list_seg_step cells.toList (off+j) x r (by simp;omega);simpa[Nat.add_assoc,Nat.add_comm,Nat.add_left_comm]using e
def pq(place:Nat->Option (Nat×Nat))(l:LV)(q:Nat×Value):LV:=
  match place q.1 with|some (off,size)=>l.take off++kK q.2++l.drop (off+size)|none=>l
theorem NF(place:Nat->Option (Nat×Nat))(Z:LV):∀(parts:List (Nat×Value)) (cells:Array Value),cells.size=Z.length->
    (∀q∈parts,∃off size,place q.1=some (off,size)/\q.2.cells.size=size/\off+size<=Z.length)->
    ∃Lu,Instr.fill place cells parts=some Lu/\Lu.size=Z.length/\
      Lu.toList=parts.foldl (pq place) cells.toList
  | [],cells,hs,_=>⟨cells,rfl,hs,rfl⟩
  | (i,v)::r,cells,hs,h=>by
    obtain⟨off,size,hp,hv,hle⟩:=h (i,v) (by simp);simp only at hp hv;have ace:off+v.cells.size<=cells.size:=(by rw[hs,hv];exact hle);have hf:=OY v.cells.toList off 0 cells (by simpa using ace);simp only[Nat.add_zero]at hf
    have e1:(v.cells.zipIdx.foldl (λcs (p:Value×Nat)=>cs.setIfInBounds (off+p.2) p.1) cells)=(v.cells.toList.zipIdx.foldl (λcs (p:Value×Nat)=>cs.setIfInBounds (off+p.2) p.1) cells):=by
      rw[<-Array.foldl_toList,Array.toList_zipIdx]
    have hsz':(v.cells.zipIdx.foldl (λcs (p:Value×Nat)=>cs.setIfInBounds (off+p.2) p.1) cells).size=Z.length:=by
      rw[e1,<-Array.length_toList,hf];simp only[lA0,lT0,lD0,Array.length_toList];omega
    obtain⟨c',h1,h2,h3⟩:=NF place Z r _ hsz' (λq hq=>h q (by simp[hq]));refine⟨c',?_,h2,?_⟩
    · simp only[Instr.fill,hp]
      rw[if_neg]
      · exact h1
      · simp only[Bool.or_eq_true,decide_eq_true_eq,not_or,ne_eq,Decidable.not_not,Nat.not_lt]
        exact⟨hv,ace⟩
    · rw[h3,e1,hf]
      simp only[List.foldl_cons,pq,hp,jE];rw[<-hv];simp
theorem FE : ∀xs:List LV,qV xs=xs.flatten
  | []=>rfl
  | [x]=>by simp[qV]
  | x::y::r=>by
    show x++qV (y::r)=_;rw[FE (y::r)];simp
def vE(f:Fr)(x:Operand):Option Value:=
  match x with| .tmp t=>Fr.get f t| .const v=>some v| .global g=>some (.pointer (some ⟨g,0,none⟩))| .func g=>some (.func (.func g) #[] #[])
theorem lU(f:Fr)(i j:Nat)(x:Operand)(r:List (Nat×Operand)):dU f i ((j,x)::r)=bif Nat.beq j i then some (vE f x)else dU f i r:=rfl
theorem jo{n j:Nat}{x:Operand}{r:List (Nat×Operand)}(h:sorted n ((j,x)::r) m=true):m<=j/\j<n/\sorted n r (j+1)=true:=by
  simp only[sorted,Bool.and_eq_true]at h;exact⟨Nat.le_of_ble_eq_true h.1.1,Nat.le_of_ble_eq_true h.1.2,h.2⟩
theorem Jg{n:Nat}:∀{r:List (Nat×Operand)} {m m':Nat},sorted n r m=true->m'<=m->sorted n r m'=true
  | [],_,_,_,_=>rfl
  | (j,x)::r,m,m',h,hm=>by
    obtain⟨h1,h2,h3⟩:=jo h;simp only[sorted,Bool.and_eq_true];exact⟨⟨Nat.ble_eq_true_of_le (by omega),Nat.ble_eq_true_of_le h2⟩,h3⟩
theorem xJ{f:Fr}{n i:Nat}:∀{r:List (Nat×Operand)} {m:Nat},sorted n r m=true->i<m->dU f i r=none
  | [],_,_,_=>rfl
  | (j,x)::r,m,h,hm=>by
    obtain⟨h1,h2,h3⟩:=jo h
    have:Nat.beq j i=false:=by
      cases hb:Nat.beq j i with
      | false=>rfl
      | true=>have:=Nat.eq_of_beq_eq_true hb;omega
    rw[lU,this];exact xJ h3 (by omega)
theorem xZ{f:Fr}{ρ:Operand->Value}(hρ:∀ x v,vE f x=some v->ρ x=v)(place:Nat->Option (Nat×Nat))(Z:LV) :
    ∀(nS:List (Nat×Nat)) (i m:Nat) (parts:List (Nat×Operand)) (acc:List LV) (k:List LV->Prop) (pre:LV),
    jU f parts Z nS i acc k->sorted (i+nS.length) parts i=true->(∀idx,idx<nS.length->place (i+idx)=nS[idx]?)->vy nS m Z.length=true->pre.length=m->
    ∃ES:List LV,k (acc++ES)/\(parts.map λq=>(q.1,ρ q.2)).foldl (pq place) (pre++Z.drop m)=pre++ES.flatten/\
      ∀q∈parts,∃off size,place q.1=some (off,size)/\(ρ q.2).cells.size=size/\off+size<=Z.length
  | [],i,m,parts,acc,k,pre,h,hs,hp,hl,hm=>by
    have hz:m=Z.length:=Nat.eq_of_beq_eq_true hl
    cases parts with
    | nil=>exact⟨[],by simpa[jU]using h,by simp[hz],by simp⟩
    | cons q r=>
      obtain⟨h1,h2,_⟩:=jo (x:=q.2) (j:=q.1) (r:=r) hs;simp at h2;omega
  | (off,size)::r,i,m,parts,acc,k,pre,h,hs,hp,hl,hm=>by
    simp only[vy,Bool.and_eq_true]at hl;have ho:off=m:=Nat.eq_of_beq_eq_true hl.1;subst ho;have Zc:=hl.2
    have hmZ:∀(s:List (Nat×Nat)) (a:Nat),vy s a Z.length=true->a<=Z.length:=by
      intro s
      induction s with
      | nil=>intro a ha;exact Nat.le_of_eq (Nat.eq_of_beq_eq_true ha)
      | cons x s ih=>
        intro a ha;obtain⟨x1,x2⟩:=x;simp only[vy,Bool.and_eq_true]at ha;have:=ih _ ha.2;omega
    have hle:=hmZ _ _ Zc;have Zd:place i=some (off,size):=by simpa using hp 0 (by simp)
    have xB:∀idx,idx<r.length->place (i+1+idx)=r[idx]?:=λidx hi=>by
      have:=hp (idx+1) (by simp;omega);rw[show i+1+idx=i+(idx+1) by omega];simpa using this
    have hlen:i+((off,size)::r).length=i+1+r.length:=(by simp;omega);rw[hlen]at hs
    have skip:(∀q∈parts,i<q.1)->dU f i parts=none->∃ES:List LV,k (acc++ES)/\(parts.map λq=>(q.1,ρ q.2)).foldl (pq place) (pre++Z.drop off)=pre++ES.flatten/\
        ∀q∈parts,∃off size,place q.1=some (off,size)/\(ρ q.2).cells.size=size/\off+size<=Z.length:=by
      intro hgt Rc
      have hs':sorted (i+1+r.length) parts (i+1)=true:=by
        cases parts with
        | nil=>rfl
        | cons q t=>
          obtain⟨q1,q2⟩:=q;obtain⟨a1,a2,a3⟩:=jo hs;have:=hgt (q1,q2) (by simp);simp only[sorted,Bool.and_eq_true];exact⟨⟨Nat.ble_eq_true_of_le this,Nat.ble_eq_true_of_le a2⟩,a3⟩
      simp only[jU,Rc]at h;obtain⟨ES,h1,h2,h3⟩:=xZ hρ place Z r (i+1) (off+size) parts _ k (pre++(Z.drop off).take size) h hs' xB Zc (by simp;omega);refine⟨(Z.drop off).take size::ES,by simpa using h1,?_,h3⟩
      have e:pre++(Z.drop off).take size++Z.drop (off+size)=pre++Z.drop off:=by
        rw[List.append_assoc,<-List.drop_drop,List.take_append_drop]
      rw[e]at h2;rw[h2];simp
    cases parts with
    | nil=>exact skip (by simp) rfl
    | cons q t=>
      obtain⟨j,x⟩:=q;obtain⟨a1,a2,a3⟩:=jo hs
      cases hb:Nat.beq j i with
      | false=>
        have dp:j≠i:=λe=>by subst e;rw[Nat.beq_refl]at hb;cases hb
        refine skip ?_ ?_
        · intro q hq
          rcases List.mem_cons.1 hq with rfl|hq
          · exact Nat.lt_of_le_of_ne a1 (Ne.symm dp)
          · have:∀(l:List (Nat×Operand)) (b:Nat),sorted (i+1+r.length) l b=true->∀q∈l,b<=q.1:=by
              intro l
              induction l with
              | nil=>intro b _ q hq;simp at hq
              | cons y l ih=>
                intro b hb q hq;obtain⟨y1,y2⟩:=y;obtain⟨b1,b2,b3⟩:=jo hb
                rcases List.mem_cons.1 hq with rfl|hq
                · exact b1
                · have:=ih _ b3 q hq;omega
            have:=this t _ a3 q hq;omega
        · rw[lU,hb];exact xJ a3 (by omega)
      | true=>
        have he:j=i:=Nat.eq_of_beq_eq_true hb;subst he;have hfp:dU f j ((j,x)::t)=some (vE f x):=by rw[lU,hb];rfl
        -- the rest of the parts lies behind
        have rest:∀(v:Value),vE f x=some v->(kK v).length=size->jU f ((j,x)::t) Z r (j+1) (acc++[kK v]) k->(∃ES:List LV,k (acc++ES)/\(((j,x)::t).map λq=>(q.1,ρ q.2)).foldl (pq place) (pre++Z.drop off)=pre++ES.flatten/\
              ∀q∈(j,x)::t,∃off size,place q.1=some (off,size)/\(ρ q.2).cells.size=size/\off+size<=Z.length):=λv hv mW hpx=>by
          have hpx':jU f t Z r (j+1) (acc++[kK v]) k:=by
            have drop:∀(s:List (Nat×Nat)) (b:Nat) (ac:List LV),j<b->jU f ((j,x)::t) Z s b ac k->jU f t Z s b ac k:=by
              intro s
              induction s with
              | nil=>intro b ac _ h;exact h
              | cons y s ih=>
                intro b ac hb h;obtain⟨y1,y2⟩:=y
                have hf:dU f b ((j,x)::t)=dU f b t:=by
                  rw[lU]
                  have:Nat.beq j b=false:=by
                    cases UX:Nat.beq j b with
                    | false=>rfl
                    | true=>have:=Nat.eq_of_beq_eq_true UX;omega
                  rw[this];rfl
                simp only[jU,hf]at h ⊢
                cases hfb:dU f b t with
                | none=>rw[hfb]at h;exact ih _ _ (by omega) h
                | some o=>
                  rw[hfb]at h
                  cases o with
                  | none=>exact h
                  | some v=>
                    simp only[ae]at h ⊢
                    cases v with
                    | agg a=>exact⟨h.1,ih _ _ (by omega) h.2⟩
                    | tuple a=>exact h
                    | _=>
                      simp only at h ⊢
                      cases hq:Nat.beq y2 1 with
                      | false=>rw[hq]at h;exact h
                      | true=>rw[hq]at h;exact ih _ _ (by omega) h
            exact drop r (j+1) _ (by omega) hpx
          obtain⟨ES,h1,h2,h3⟩:=xZ hρ place Z r (j+1) (off+size) t _ k (pre++kK v) hpx' a3 xB Zc (by simp;omega);have hv':=hρ x v hv;refine⟨kK v::ES,by simpa using h1,?_,?_⟩
          · have e:pq place (pre++Z.drop off) (j,ρ x)=pre++kK v++Z.drop (off+size):=by
              simp only[pq,Zd,hv'];rw[List.take_append_of_le_length (by omega),List.take_of_length_le (by omega),List.drop_append];rw[List.drop_of_length_le (by omega)];simp[hm,List.drop_drop]
            simp only[List.map_cons,List.foldl_cons,e,h2];simp
          · intro q hq
            rcases List.mem_cons.1 hq with rfl|hq
            · exact⟨off,size,Zd,by rw[hv',<-Array.length_toList,<-jE];exact mW,hle⟩
            · exact h3 q hq
        simp only[jU,hfp]at h
        cases hev:vE f x with
        | none=>rw[hev]at h;exact h.elim
        | some v=>
          rw[hev]at h;simp only[ae]at h
          cases v with
          | agg a=>exact rest (.agg a) hev h.1 h.2
          | tuple a=>exact h.elim
          | _=>
            simp only at h
            cases hq:Nat.beq size 1 with
            | false=>rw[hq]at h;exact h.elim
            | true=>
              rw[hq]at h;have:size=1:=Nat.eq_of_beq_eq_true hq;exact rest _ hev (by rw[this];rfl) h
theorem rR{dc:TypeDesc}{x:lL}(h:kM (au dc) x=true):MapKept.IsKey dc (my (au dc) x):=by
  cases dc <;> cases x <;> simp_all [kM,au,my,MapKept.IsKey]
theorem OZ{a b:LB}(h:mkStr a=mkStr b):a=b:=by
  have:=congrArg (λs:ByteArray=>s.data.toList) h;simpa[mkStr]using this
theorem Rh{d:D}{x y:lL}(hx:kM d x=true)(hy:kM d y=true):lL.same x y=true↔my d x=my d y:=by
  cases d <;> cases x <;> cases y <;> simp[kM,lL.same,my]at *
  · exact⟨λh=>by rw[h],OZ⟩
def pr : qW->lL->Nat->Option (Nat×Value)
  | [],_,_=>none
  | (k,v)::r,x,i=>bif lL.same x k then some (i,v)else pr r x (i+1)
theorem FF : ∀(m:qW) (x:lL) (i:Nat),mX m x=(pr m x i).map (·.2)
  | [],_,_=>rfl
  | (k,v)::r,x,i=>by
    rw[mX,pr]
    cases lL.same x k with
    | true=>rfl
    | false=>exact FF r x (i+1)
theorem vF : ∀(m:qW) (x:lL) (v:Value) (i:Nat),xA m x v=(match pr m x i with|some (j,_)=>m.set (j-i) (x,v)|none=>m++[(x,v)])/\∀j u,pr m x i=some (j,u)->i<=j
  | [],_,_,_=>⟨rfl,λ_ _ h=>by cases h⟩
  | (k,u)::r,x,v,i=>by
    rw[xA,pr]
    cases hk:lL.same x k with
    | true=>exact⟨by simp,λj u h=>by simp at h;omega⟩
    | false=>
      obtain⟨h1,h2⟩:=vF r x v (i+1);rw[cond_false,cond_false,h1]
      cases hf:pr r x (i+1)with
      | none=>exact⟨rfl,λj u h=>by cases h⟩
      | some p=>
        obtain⟨j,u'⟩:=p;have:=h2 j u' hf;refine⟨?_,λj' u h=>by cases h;omega⟩;show(k,u)::r.set (j-(i+1)) (x,v)=((k,u)::r).set (j-i) (x,v);rw[show j-i=(j-(i+1))+1 by omega,List.set_cons_succ]
theorem CQ : ∀(m:qW) (x:lL) (i:Nat),Jb m x=(match pr m x i with|some (j,_)=>m.eraseIdx (j-i)|none=>m)/\∀j u,pr m x i=some (j,u)->i<=j
  | [],_,_=>⟨rfl,λ_ _ h=>by cases h⟩
  | (k,u)::r,x,i=>by
    rw[Jb,pr]
    cases hk:lL.same x k with
    | true=>exact⟨by simp,λj u h=>by simp at h;omega⟩
    | false=>
      obtain⟨h1,h2⟩:=CQ r x (i+1);rw[cond_false,cond_false,h1]
      cases hf:pr r x (i+1)with
      | none=>exact⟨rfl,λj u h=>by cases h⟩
      | some p=>
        obtain⟨j,u'⟩:=p;have:=h2 j u' hf;refine⟨?_,λj' u h=>by cases h;omega⟩;show(k,u)::r.eraseIdx (j-(i+1))=((k,u)::r).eraseIdx (j-i);rw[show j-i=(j-(i+1))+1 by omega,List.eraseIdx_cons_succ]
theorem Am{α β:Type}(f:α->β):∀(l:List α) (i:Nat),(l.eraseIdx i).map f=(l.map f).eraseIdx i
  | [],_=>rfl
  | _::_,0=>rfl
  | a::l,i+1=>by simp[List.eraseIdx_cons_succ,Am f l i]
theorem pS{dc:TypeDesc}{x:lL}(hx:kM (au dc) x=true):∀(es:List MapEntry) (m:qW) (i:Nat),es.map (λe=>(e.key,e.val))=m.map (λp=>(my (au dc) p.1,p.2))->(∀p∈m,kM (au dc) p.1=true)->
    Instr.findNow dc (my (au dc) x) es i=some (pr m x i)
  | [],[],_,_,_=>rfl
  | [],_::_,_,h,_=>by simp at h
  | _::_,[],_,h,_=>by simp at h
  | e::es,(k,v)::m,i,h,hm=>by
    simp only[List.map_cons,List.cons.injEq,Prod.mk.injEq]at h;obtain⟨⟨h1,h2⟩,h3⟩:=h;have hk:kM (au dc) k=true:=hm (k,v) List.mem_cons_self;obtain⟨r,hr,BW⟩:=MapKept.sameNow_of_keys (rR hx) (rR hk);have hs:=Rh hx hk;rw[Instr.findNow,h1,hr,pr]
    cases r with
    | true=>
      have:lL.same x k=true:=hs.mpr (BW.mp rfl);rw[this,h2];rfl
    | false=>
      have:lL.same x k=false:=by
        cases hq:lL.same x k with
        | false=>rfl
        | true=>exact absurd (BW.mpr (hs.mp hq)) Bool.false_ne_true
      rw[this];exact pS hx es m (i+1) h3 λp hp=>hm p (List.mem_cons_of_mem _ hp)
section
variable{P : Program}{t kt et r : Nat}{dc : TypeDesc}{m : qW}{x : lL}{w : World}
theorem k9{es:Array MapEntry}{clock:Nat}{IM:Array MapEntry}{ux:Nat}{m':qW}(hb:w.heap[r]?=some (.map es clock))(h1:IM.toList.map (λe=>(e.key,e.val))=m'.map (λp=>(my (au dc) p.1,p.2)))(h2:∀ p ∈ m',kM (au dc) p.1=true)(h3:MapKept.Stamped IM ux) :
    MapTo (au dc) w.heap r m' (w.heap.setIfInBounds r (.map IM ux)):=
  ⟨by simp,λb wH=>(MapKept.heap_set hb).2 b wH,_,_,(MapKept.heap_set hb).1,h1,h2,h3⟩
theorem HB{v:Value}(hm:P.underlying t=some (.map kt et))(hd:P.underlying kt=some dc)(hA:mz (au dc) w.heap r m)(hx:kM (au dc) x=true) :
    ∃h',MapTo (au dc) w.heap r (xA m x v) h'/\(Instr.mapUpdate t (.map (some r)) (my (au dc) x) v).run P w = .ok () { w with heap:=h' }:=by
  obtain⟨es,clock,hb,he,hf,qS⟩:=hA;have hk:=rR hx;have h1:=pS hx es.toList m 0 he hf;obtain⟨hp,_⟩:=vF m x v 0
  have QB:∀e∈es.toList,MapKept.IsKey dc e.key:=λe QC=>by
    have:(e.key,e.val)∈es.toList.map (λe=>(e.key,e.val)):=List.mem_map.mpr ⟨e,QC,rfl⟩;rw[he]at this;obtain⟨p,hp,e1⟩:=List.mem_map.mp this;have e1:my (au dc) p.1=e.key:=congrArg Prod.fst e1;rw[<-e1];exact rR (hf p hp)
  cases CR:pr m x 0 with
  | none=>
    rw[CR]at h1 hp
    have dp:∀x_1∈es.toList,x_1.key≠my (au dc) x:=by
      rcases MapKept.findNow_spec hk es.toList 0 QB with⟨_,g1⟩|⟨j',e,g1,g2,g3⟩
      · exact g1
      · rw[h1]at g1;cases g1
    refine⟨_,k9 hb (IM:=es.push { key:=my (au dc) x,val:=v,born:=clock }) (ux:=clock+1) (by rw[hp,List.map_append,Array.toList_push,List.map_append,he];rfl) ?_ (MapKept.stamped_push qS dp),?_⟩
    · intro p xB
      rw[hp]at xB
      rcases List.mem_append.mp xB with h|h
      · exact hf p h
      · rw[List.mem_singleton.mp h];exact hx
    · simp[Instr.mapUpdate,run_underlying hm,MapKept.run_getObj_map hb,MapKept.run_checkKey hd hk,MapKept.run_findKey hd h1,MapKept.run_setObj_map _ hb,Result.andThen]
  | some q=>
    obtain⟨j,u⟩:=q;rw[CR]at h1 hp;have hp:xA m x v=m.set j (x,v):=hp
    rcases MapKept.findNow_spec hk es.toList 0 QB with⟨g1,_⟩|⟨j',e,g1,g2,g3⟩
    · rw[h1]at g1;cases g1
    · rw[h1]at g1
      have ej:j=j':=(by simp at g1;omega);subst ej;have hj:es[j]?=some e:=(by simpa using g2);refine⟨_,k9 hb (IM:=es.modify j λe=>{ e with key:=my (au dc) x,val:=v }) (ux:=clock) ?_ ?_ (MapKept.stamped_modify qS j _ (λ_ _=>rfl) λe' _ h'=>by rw[hj]at h';cases h';exact g3.symm),?_⟩
      · rw[hp]
        apply List.ext_getElem?;intro i;have hi:(es.toList.map (λe=>(e.key,e.val)))[i]?=(m.map (λp=>(my (au dc) p.1,p.2)))[i]?:=(by rw[he]);rw[lG0,lG0,Array.getElem?_toList]at hi;simp only[lG0,Array.getElem?_toList,Array.getElem?_modify,List.getElem?_set]
        by_cases NG:j=i
        · subst NG
          have hl:j<m.length:=by
            rcases Nat.lt_or_ge j m.length with h|h
            · exact h
            · rw[hj,List.getElem?_eq_none h]at hi;simp at hi
          simp[hj,hl]
        · simp[NG,hi]
      · intro p xB
        rw[hp]at xB
        rcases List.mem_or_eq_of_mem_set xB with h|h
        · exact hf p h
        · rw[h];exact hx
      · simp[Instr.mapUpdate,run_underlying hm,MapKept.run_getObj_map hb,MapKept.run_checkKey hd hk,MapKept.run_findKey hd h1,hj,g3,MapKept.run_keyThatStays hk,MapKept.run_setObj_map _ hb,Result.andThen]
theorem erase_filter : ∀(l:List MapEntry) (j:Nat) (e:MapEntry),l[j]?=some e->(l.map (·.key)).Nodup->l.eraseIdx j=l.filter λa=>@decide (a.key≠e.key) (Classical.propDecidable _)
  | [],_,_,h,_=>by simp at h
  | a::l,0,e,h,nd=>by
    have h:a=e:=(by simpa using h);subst h;rw[List.map_cons,List.nodup_cons]at nd;rw[List.eraseIdx_zero,List.tail_cons,List.filter_cons,if_neg (by simp)];refine(List.filter_eq_self.mpr λb hb=>?_).symm;exact @decide_eq_true _ (Classical.propDecidable _) λy=>nd.1 (y▸List.mem_map.mpr ⟨b,hb,rfl⟩)
  | a::l,j+1,e,h,nd=>by
    have h:l[j]?=some e:=(by simpa using h);rw[List.map_cons,List.nodup_cons]at nd;have hm:e∈l:=List.mem_of_getElem? h;have ha:a.key≠e.key:=λy=>nd.1 (by rw[y];exact List.mem_map.mpr ⟨e,hm,rfl⟩);rw[List.eraseIdx_cons_succ,erase_filter l j e h nd.2,List.filter_cons,if_pos (@decide_eq_true _ (Classical.propDecidable _) ha)]
theorem O0{ty:TypeId}(hm:P.underlying t=some (.map kt et))(hd:P.underlying kt=some dc)(hA:mz (au dc) w.heap r m)(hx:kM (au dc) x=true)(ts:List TypeId) :
    ∃h',Xx (au dc) w.heap r x (Jb m x) h'/\(Builtin.delete_ ⟨t::ts⟩ ty #[.map (some r),my (au dc) x]).run P w = .ok (.tuple #[]) { w with heap:=h' }:=by
  obtain⟨es,clock,hb,he,hf,qS⟩:=hA;have hk:=rR hx;have h1:=pS hx es.toList m 0 he hf;obtain⟨hp,_⟩:=CQ m x 0
  have QB:∀e∈es.toList,MapKept.IsKey dc e.key:=λe QC=>by
    have:(e.key,e.val)∈es.toList.map (λe=>(e.key,e.val)):=List.mem_map.mpr ⟨e,QC,rfl⟩;rw[he]at this;obtain⟨p,hp,e1⟩:=List.mem_map.mp this;have e1:my (au dc) p.1=e.key:=congrArg Prod.fst e1;rw[<-e1];exact rR (hf p hp)
  have HC:∀o:Obj,(w.heap.setIfInBounds r o)[r]?=some o:=λo=>(MapKept.heap_set hb).1
  cases CR:pr m x 0 with
  | none=>
    rw[CR]at h1 hp;refine⟨_,⟨k9 hb (IM:=es) (ux:=clock) (by rw[hp];exact he) (by rw[hp];exact hf) qS,λes0 ck0 h0=>?_⟩,?_⟩
    · rw[hb]at h0;cases h0
      refine⟨_,HC _,(List.filter_eq_self.mpr λb wH=>?_).symm⟩
      rcases MapKept.findNow_spec hk es.toList 0 QB with⟨_,g1⟩|⟨j',e,g1,_,_⟩
      · exact @decide_eq_true _ (Classical.propDecidable _) (g1 b wH)
      · rw[h1]at g1;cases g1
    simp[Builtin.delete_,run_underlying hm,MapKept.run_getObj_map hb,MapKept.run_checkKey hd hk,MapKept.run_findKey hd h1,MapKept.run_setObj_map _ hb,Result.andThen]
  | some q=>
    obtain⟨j,u⟩:=q;rw[CR]at h1 hp;have hp:Jb m x=m.eraseIdx j:=hp
    have el:(es.eraseIdxIfInBounds j).toList=es.toList.eraseIdx j:=by
      unfold Array.eraseIdxIfInBounds
      split
      · simp
      · rw[List.eraseIdx_of_length_le (by simp;omega)]
    refine⟨_,⟨k9 hb (IM:=es.eraseIdxIfInBounds j) (ux:=clock) ?_ ?_ (MapKept.stamped_erase qS j),λes0 ck0 h0=>?_⟩,?_⟩
    rotate_left
    rotate_left
    · rw[hb]at h0;cases h0
      refine⟨_,HC _,?_⟩
      rcases MapKept.findNow_spec hk es.toList 0 QB with⟨g1,_⟩|⟨j',e,g1,g2,g3⟩
      · rw[h1]at g1;cases g1
      · rw[h1]at g1
        have ej:j=j':=(by simp at g1;omega);subst ej;rw[el,erase_filter es.toList j e (by simpa using g2) qS.2.2,g3]
    rotate_left
    · rw[hp,Am,<-he,<-Am,el]
    · intro p xB
      rw[hp]at xB;exact hf p ((List.eraseIdx_sublist _ _).subset xB)
    · simp[Builtin.delete_,run_underlying hm,MapKept.run_getObj_map hb,MapKept.run_checkKey hd hk,MapKept.run_findKey hd h1,MapKept.run_setObj_map _ hb,Result.andThen]
theorem NH : ∀{l:List MapEntry},(l.map (·.born)).Nodup->∀{x y:MapEntry},x∈l->y∈l->x.born=y.born->x=y
  | [],_,_,_,hx,_,_=>by cases hx
  | a::r,hn,x,y,hx,hy,e=>by
    rw[List.map_cons,List.nodup_cons]at hn;have no:∀z,z∈r->z.born≠a.born:=λz hz e=>hn.1 (List.mem_map.mpr ⟨z,hz,e⟩)
    rcases List.mem_cons.mp hx with h1|h1
    · rcases List.mem_cons.mp hy with h2|h2
      · rw[h1,h2]
      · exact absurd (by rw[<-e,h1]) (no y h2)
    · rcases List.mem_cons.mp hy with h2|h2
      · exact absurd (by rw[e,h2]) (no x h1)
      · exact NH hn.2 h1 h2 e
theorem Jh{m:yS}{x:lL}{es:List MapEntry}(hx:kM (au (.int .i64)) x=true)(he:es.map (λe=>(e.key,e.val))=(mI m).map (λp=>(my (au (.int .i64)) p.1,p.2))):(∀e∈es,MapKept.IsKey (.int .i64) e.key)/\∀(j:Nat) (e:MapEntry),es[j]?=some e->∃z:Int,e.val = .int .i64 z:=by
  constructor
  · intro e QC
    have:(e.key,e.val)∈es.map (λe=>(e.key,e.val)):=List.mem_map.mpr ⟨e,QC,rfl⟩;rw[he]at this;obtain⟨p,hp,e1⟩:=List.mem_map.mp this;obtain⟨q,_,rfl⟩:=List.mem_map.mp hp;have e1:my (au (.int .i64)) (.i q.1)=e.key:=congrArg Prod.fst e1;rw[<-e1];exact rR rfl
  · intro j e hj
    have hi:(es.map (λe=>(e.key,e.val)))[j]?=((mI m).map (λp=>(my (au (.int .i64)) p.1,p.2)))[j]?:=(by rw[he]);rw[lG0,hj,mI,List.map_map,lG0]at hi
    cases hm:m[j]? with
    | none=>rw[hm]at hi;cases hi
    | some p=>
      rw[hm]at hi;have:=(Option.some.inj hi);exact⟨p.2,congrArg Prod.snd this⟩
theorem Ji{m:yS}(hm:P.underlying t=some (.map kt et))(hd:P.underlying kt=some (.int .i64))(hz:(zeroValue et).run P w = .ok (.int .i64 0) w)(hA:mz (.int .i64) w.heap r (mI m))(hx:kM (.int .i64) x=true) :
    ∃(z s:Int) (h':ad),QW w.heap r m x z s h'/\(Instr.mapEntry t (.map (some r)) (my (.int .i64) x)).run P w = .ok (.tuple #[.int .i64 z,.int .i64 s]) { w with heap:=h' }:=by
  have hA:mz (au (.int .i64)) w.heap r (mI m):=hA;have hx:kM (au (.int .i64)) x=true:=hx;obtain⟨es,clock,hb,he,hf,qS⟩:=hA;have hk:=rR hx;have h1:=pS hx es.toList (mI m) 0 he hf;obtain⟨QB,hvs⟩:=Jh hx he;have HC:∀o:Obj,(w.heap.setIfInBounds r o)[r]?=some o:=λo=>(MapKept.heap_set hb).1;show ∃(z s:Int) (h':ad),QW w.heap r m x z s h'/\(Instr.mapEntry t (.map (some r)) (my (au (.int .i64)) x)).run P w=_
  cases CR:pr (mI m) x 0 with
  | none=>
    obtain⟨hp,_⟩:=vF (mI m) x (.int .i64 0) 0;rw[CR]at h1 hp
    have dp:∀y∈es.toList,y.key≠my (au (.int .i64)) x:=by
      rcases MapKept.findNow_spec hk es.toList 0 QB with⟨_,g1⟩|⟨j',e,g1,g2,g3⟩
      · exact g1
      · rw[h1]at g1;cases g1
    refine⟨0,clock,_,⟨k9 (dc:=.int .i64) (m':=xA (mI m) x (.int .i64 0)) hb (IM:=es.push { key:=my (au (.int .i64)) x,val:=.int .i64 0,born:=clock }) (ux:=clock+1) (by rw[hp,List.map_append,Array.toList_push,List.map_append,he];rfl) ?_ (MapKept.stamped_push qS dp),⟨_,_,_,HC _,by rw[Array.toList_push];exact List.mem_append_right _ (List.mem_singleton.mpr rfl),rfl,rfl⟩⟩,?_⟩
    · intro p xB
      rw[hp]at xB
      rcases List.mem_append.mp xB with h|h
      · exact hf p h
      · rw[List.mem_singleton.mp h];exact hx
    · simp[Instr.mapEntry,run_underlying hm,MapKept.run_getObj_map hb,MapKept.run_checkKey hd hk,MapKept.run_findKey hd h1,hz,MapKept.run_setObj_map _ hb,Result.andThen,goInt]
  | some q=>
    obtain⟨j,u⟩:=q;rw[CR]at h1
    rcases MapKept.findNow_spec hk es.toList 0 QB with⟨g1,_⟩|⟨j',e,g1,g2,g3⟩
    · rw[h1]at g1;cases g1
    · rw[h1]at g1
      have ej:j=j':=(by simp at g1;omega);have eu:u=e.val:=(by simp at g1;exact g1.2);subst ej;have hj:es[j]?=some e:=(by simpa using g2);obtain⟨z,Uo⟩:=hvs j e g2;obtain⟨hp,_⟩:=vF (mI m) x (.int .i64 z) 0;rw[CR]at hp;have hp:xA (mI m) x (.int .i64 z)=(mI m).set j (x,.int .i64 z):=hp;refine⟨z,e.born,_,⟨k9 (dc:=.int .i64) (m':=xA (mI m) x (.int .i64 z)) hb (IM:=es.modify j λe=>{ e with key:=my (au (.int .i64)) x }) (ux:=clock) ?_ ?_ (MapKept.stamped_modify qS j _ (λ_ _=>rfl) λe' _ h'=>by rw[hj]at h';cases h';exact g3.symm),⟨_,_,{ e with key:=my (au (.int .i64)) x },HC _,?_,rfl,rfl⟩⟩,?_⟩
      · rw[hp]
        apply List.ext_getElem?;intro i;have hi:(es.toList.map (λe=>(e.key,e.val)))[i]?=((mI m).map (λp=>(my (au (.int .i64)) p.1,p.2)))[i]?:=(by rw[he]);rw[lG0,lG0,Array.getElem?_toList]at hi;simp only[lG0,Array.getElem?_toList,Array.getElem?_modify,List.getElem?_set]
        by_cases NG:j=i
        · subst NG
          have hl:j<(mI m).length:=by
            rcases Nat.lt_or_ge j (mI m).length with h|h
            · exact h
            · rw[hj,List.getElem?_eq_none h]at hi;simp at hi
          simp[hj,hl,Uo]
        · simp[NG,hi]
      · intro p xB
        rw[hp]at xB
        rcases List.mem_or_eq_of_mem_set xB with h|h
        · exact hf p h
        · rw[h];exact hx
      · refine List.mem_of_getElem? (i:=j) ?_
        simp[hj]
      · simp[Instr.mapEntry,run_underlying hm,MapKept.run_getObj_map hb,MapKept.run_checkKey hd hk,MapKept.run_findKey hd h1,hj,g3,MapKept.run_keyThatStays hk,MapKept.run_setObj_map _ hb,Result.andThen,eu,Uo,goInt]
theorem ET{m:yS}{s z:Int}(hA:mz (.int .i64) w.heap r (mI m))(hS:Y7 w.heap r x s)(hx:kM (.int .i64) x=true) :
    ∃h',MapTo (.int .i64) w.heap r (xA (mI m) x (.int .i64 z)) h'/\(Instr.entryStore t (.map (some r)) (.int .i64 s) (.int .i64 z)).run P w = .ok () { w with heap:=h' }:=by
  have hA:mz (au (.int .i64)) w.heap r (mI m):=hA;have hx:kM (au (.int .i64)) x=true:=hx;obtain⟨es,clock,hb,he,hf,qS⟩:=hA;obtain⟨XA,ck2,e,XB,vl,acg,BX⟩:=hS;rw[hb]at XB
  cases XB
  have hk:=rR hx;have h1:=pS hx es.toList (mI m) 0 he hf;obtain⟨QB,_⟩:=Jh hx he;obtain⟨hp,_⟩:=vF (mI m) x (.int .i64 z) 0
  cases CR:pr (mI m) x 0 with
  | none=>
    rw[CR]at h1
    rcases MapKept.findNow_spec hk es.toList 0 QB with⟨_,g1⟩|⟨j',e,g1,g2,g3⟩
    · exact absurd BX (g1 e vl)
    · rw[h1]at g1;cases g1
  | some q=>
    obtain⟨j,u⟩:=q;rw[CR]at h1 hp;have hp:xA (mI m) x (.int .i64 z)=(mI m).set j (x,.int .i64 z):=hp
    rcases MapKept.findNow_spec hk es.toList 0 QB with⟨g1,_⟩|⟨j',e',g1,g2,g3⟩
    · rw[h1]at g1;cases g1
    · rw[h1]at g1
      have ej:j=j':=(by simp at g1;omega);subst ej;have hj:es[j]?=some e':=by simpa using g2
      have Bo:j<es.size:=by
        rcases Nat.lt_or_ge j es.size with h|h
        · exact h
        · rw[Array.getElem?_eq_none h]at hj;cases hj
      have hje:es[j]=e':=by rw[Array.getElem?_eq_getElem Bo]at hj;exact Option.some.inj hj
      have Ze:∀{l:List MapEntry},(l.map (·.key)).Nodup->∀{x y:MapEntry},x∈l->y∈l->x.key=y.key->x=y:=by
        intro l hn x y hx hy e
        induction l with
        | nil=>cases hx
        | cons a r ih=>
          rw[List.map_cons,List.nodup_cons]at hn;have no:∀z,z∈r->z.key≠a.key:=λz hz e=>hn.1 (List.mem_map.mpr ⟨z,hz,e⟩)
          rcases List.mem_cons.mp hx with h1|h1
          · rcases List.mem_cons.mp hy with h2|h2
            · rw[h1,h2]
            · exact absurd (by rw[<-e,h1]) (no y h2)
          · rcases List.mem_cons.mp hy with h2|h2
            · exact absurd (by rw[e,h2]) (no x h1)
            · exact ih hn.2 h1 h2
      have QC:e=e':=Ze qS.2.2 vl (List.mem_of_getElem? g2) (BX.trans g3.symm);subst QC
      have ach:es.findIdx? (λa=>(a.born:Int)==s)=some j:=by
        rw[Array.findIdx?_eq_some_iff_getElem];refine⟨Bo,by rw[hje];simpa using acg,λi NG=>?_⟩;have hil:i<es.size:=(by omega);intro hc;have hc:(es[i].born:Int)=s:=(by simpa using hc);have:es[i]=es[j]:=NH qS.2.1 (by simp) (by simp) (by rw[hje];omega);have nd:(es.toList.map (·.born)).Nodup:=qS.2.1;have h2:=(List.getElem_inj (xs:=es.toList.map (·.born)) (i:=i) (j:=j) (h₀:=by simp;omega) (h₁:=by simp;omega) nd).mp (by simp[this]);omega
      refine⟨_,k9 (dc:=.int .i64) (m':=xA (mI m) x (.int .i64 z)) hb (IM:=es.modify j λe=>{ e with val:=.int .i64 z }) (ux:=clock) ?_ ?_ (MapKept.stamped_modify qS j _ (λ_ _=>rfl) λe' _ h'=>rfl),?_⟩
      · rw[hp]
        apply List.ext_getElem?;intro i;have hi:(es.toList.map (λe=>(e.key,e.val)))[i]?=((mI m).map (λp=>(my (au (.int .i64)) p.1,p.2)))[i]?:=(by rw[he]);rw[lG0,lG0,Array.getElem?_toList]at hi;simp only[lG0,Array.getElem?_toList,Array.getElem?_modify,List.getElem?_set]
        by_cases NG:j=i
        · subst NG
          have hl:j<(mI m).length:=by
            rcases Nat.lt_or_ge j (mI m).length with h|h
            · exact h
            · rw[hj,List.getElem?_eq_none h]at hi;simp at hi
          simp[hj,hl,g3]
        · simp[NG,hi]
      · intro p xB
        rw[hp]at xB
        rcases List.mem_or_eq_of_mem_set xB with h|h
        · exact hf p h
        · rw[h];exact hx
      · simp[Instr.entryStore,MapKept.run_getObj_map hb,asInt,asIntOf,ach,MapKept.run_setObj_map _ hb,Result.andThen]
theorem O1{q:Option Nat}{z:Value}{ok:Bool}(hm:P.underlying t=some (.map kt et))(hd:P.underlying kt=some dc)(hz:(zeroValue et).run P w = .ok z w)(hA:match q with|none=>m=[]|some r=>mz (au dc) w.heap r m)(hx:kM (au dc) x=true) :
    (Instr.lookup t (.map q) (my (au dc) x) ok).run P w = .ok (bif ok then .tuple #[(mX m x).getD z,.bool (mX m x).isSome]else(mX m x).getD z) w:=by
  have hk:=rR hx
  cases q with
  | none=>
    have hA:m=[]:=hA;subst hA;have h1:=pS hx [] [] 0 rfl (λ_ h=>by cases h)
    cases ok <;> simp[Instr.lookup,run_underlying hm,MapKept.run_checkKey hd hk,MapKept.run_findKey hd h1,pr,hz,mX,Result.andThen]
  | some r=>
    obtain⟨es,clock,hb,he,hf,qS⟩:=hA;have h1:=pS hx es.toList m 0 he hf;rw[FF m x 0]
    cases CR:pr m x 0 with
    | none=>
      rw[CR]at h1
      cases ok <;> simp[Instr.lookup,run_underlying hm,MapKept.run_getObj_map hb,MapKept.run_checkKey hd hk,MapKept.run_findKey hd h1,hz,Result.andThen]
    | some p=>
      rw[CR]at h1
      cases ok <;> simp[Instr.lookup,run_underlying hm,MapKept.run_getObj_map hb,MapKept.run_checkKey hd hk,MapKept.run_findKey hd h1,Result.andThen]
theorem FG{q:Option Nat}{ty:TypeId}(hm:P.underlying t=some (.map kt et))(hA:match q with|none=>m=[]|some r=>mz (au dc) w.heap r m) :
    (Builtin.len_ #[t] ty #[.map q]).run P w = .ok (.int .i64 (m.length:Int)) w:=by
  cases q with
  | none=>
    have hA:m=[]:=hA;subst hA;simp[Builtin.len_,run_underlying hm,goInt]
  | some r=>
    obtain⟨es,clock,hb,he,hf,qS⟩:=hA;have hl:=congrArg List.length he;simp only[lM0]at hl;have:es.size=m.length:=(by rw[<-hl];simp);simp[Builtin.len_,run_underlying hm,MapKept.run_getObj_map hb,goInt,this]
end
theorem wJ{d:D}{v:Value}{k:lL->Prop}(h:Ja d v k):∃x,kM d x=true/\v=my d x/\k x/\d≠.other:=by
  cases d <;> cases v <;> try exact h.elim
  · rename_i kd Hq n
    simp only[Ja]at h
    cases hk:mg kd Hq with
    | false=>rw[hk]at h;exact h.elim
    | true=>
      rw[hk]at h;obtain rfl:=mY hk;exact⟨.i n,rfl,rfl,h,by intro e;cases e⟩
  · rename_i s
    refine⟨.s s.toList,rfl,?_,h,by intro e;cases e⟩;show Value.string s = .string (mkStr s.toList);congr 1;obtain⟨⟨l⟩⟩:=s;simp[mkStr]
theorem qz : ∀(ks:List D) (ls:List D) (xs ys:LV),du (ks++ls) xs ys=true->du ks (xs.take ks.length) (ys.take ks.length)=true/\du ls (xs.drop ks.length) (ys.drop ks.length)=true/\
    dw xs ys=(dw (xs.take ks.length) (ys.take ks.length) && dw (xs.drop ks.length) (ys.drop ks.length))
  | [],ls,xs,ys,h=>⟨rfl,h,by simp[dw]⟩
  | k::ks,ls,xs,ys,h=>by
    cases xs with
    | nil=>cases k <;> simp[du]at h
    | cons x xs=>
      cases ys with
      | nil=>cases k <;> cases x <;> simp[du]at h
      | cons y ys=>
        cases k <;> cases x <;> cases y <;> simp[du]at h
        · obtain⟨h1,h2,h3⟩:=qz ks ls xs ys h
          exact⟨by simpa[du]using h1,by simpa using h2,by simp[dw,h3,Bool.and_assoc]⟩
        · obtain⟨h1,h2,h3⟩:=qz ks ls xs ys h.2
          exact⟨by simp[du,h.1.1,h.1.2,h1],by simpa using h2,by simp[dw,h3,Bool.and_assoc]⟩
        · obtain⟨h1,h2,h3⟩:=qz ks ls xs ys h
          exact⟨by simpa[du]using h1,by simpa using h2,by simp[dw,h3,Bool.and_assoc]⟩
theorem vG : ∀(ks:List D) (xs ys:LV),du ks xs ys=true->xs.length=ks.length/\ys.length=ks.length
  | [],xs,ys,h=>by cases xs <;> cases ys <;> simp[du]at *
  | k::ks,xs,ys,h=>by
    cases xs with
    | nil=>cases k <;> simp[du]at h
    | cons x xs=>
      cases ys with
      | nil=>cases k <;> cases x <;> simp[du]at h
      | cons y ys=>
        have:du ks xs ys=true:=(by cases k <;> cases x <;> cases y <;> simp[du]at h <;> first|exact h|exact h.2);have:=vG ks xs ys this;simp;omega
theorem vH{α β:Type}{P:Program}(body:α->β->Sem (ForInStep β))(b0 bF:β)(p:α->Bool)(w:World):∀l:List α,(∀a∈l,(body a b0).run P w = .ok (if p a then .yield b0 else .done bF) w)->
    (forIn l b0 body).run P w = .ok (if l.all p then b0 else bF) w
  | [],_=>by simp[Sem.run_pure]
  | a::l,h=>by
    have h1:=h a List.mem_cons_self;rw[List.forIn_cons,Sem.run_bind,h1]
    cases hp:p a with
    | true=>
      simp only[if_true,Result.andThen_ok];rw[vH body b0 bF p w l λx hx=>h x (List.mem_cons_of_mem _ hx)];simp[hp]
    | false=>simp[hp,Sem.run_pure]
def HD(P:Program)(n t:Nat)(ks:List D):Prop:=
  ∀(X Y:Array Value) (o o':Nat),du ks ((X.toList.drop o).take ks.length) ((Y.toList.drop o').take ks.length)=true->
    ∃x y,(∀w,(part t X o).run P w = .ok x w)/\(∀w,(part t Y o').run P w = .ok y w)/\∀w,(Op.equalIn n t x y).run P w = .ok (dw ((X.toList.drop o).take ks.length) ((Y.toList.drop o').take ks.length)) w
theorem CS{P:Program}{n:Nat}{g:Nat->Option (List D)}(hg:∀ u ks,g u=some ks->HD P n u ks)(X Y:Array Value):∀(fs:List Field) (off:Nat) (ks:List D),uv g fs off=some ks->
    du ks ((X.toList.drop off).take ks.length) ((Y.toList.drop off).take ks.length)=true->
    (∀ fd ∈ fs, fd.name ≠ "_" ∧ ∃ x y, (∀ w, (part fd.type X fd.offset).run P w = .ok x w) ∧ (∀ w, (part fd.type Y fd.offset).run P w = .ok y w) ∧
      ∀w,(Op.equalIn n fd.type x y).run P w = .ok (dw ((X.toList.drop fd.offset).take ((g fd.type).getD []).length) ((Y.toList.drop fd.offset).take ((g fd.type).getD []).length)) w)/\
    (fs.all λfd=>dw ((X.toList.drop fd.offset).take ((g fd.type).getD []).length) ((Y.toList.drop fd.offset).take ((g fd.type).getD []).length))=dw ((X.toList.drop off).take ks.length) ((Y.toList.drop off).take ks.length)
  | [],off,ks,h,_=>by
    simp only[uv,Option.some.injEq]at h;subst h;exact⟨λfd hfd=>absurd hfd List.not_mem_nil,rfl⟩
  | fd::fs,off,ks,h,hp=>by
    rw[uv]at h
    cases hn : (fd.name == "_") with
    | true=>rw[hn]at h;cases h
    | false=>
    rw[hn,cond_false]at h
    cases ho:Nat.beq fd.offset off with
    | false=>rw[ho]at h;cases h
    | true=>
    rw[ho,cond_true]at h;have ho:=Nat.eq_of_beq_eq_true ho
    cases hk:g fd.type with
    | none=>rw[hk]at h;cases h
    | some k1=>
    rw[hk]at h;have h:(uv g fs (off+k1.length)).map (k1 ++ ·)=some ks:=h
    cases hr:uv g fs (off+k1.length)with
    | none=>rw[hr]at h;cases h
    | some k2=>
    rw[hr]at h;have h:k1++k2=ks:=Option.some.inj h;subst h;obtain⟨p1,p2,p3⟩:=qz k1 k2 _ _ hp;have hl:k1.length+k2.length=(k1++k2).length:=(by rw[lA0]);have t1:∀l:LV,(((l.drop off).take (k1++k2).length).take k1.length)=(l.drop off).take k1.length:=λl=>by rw[List.take_take];congr 1;omega
    have t2:∀l:LV,(((l.drop off).take (k1++k2).length).drop k1.length)=(l.drop (off+k1.length)).take k2.length:=λl=>by rw[List.drop_take,List.drop_drop];congr 1;omega
    rw[t1,t1]at p1 p3;rw[t2,t2]at p2 p3;obtain⟨q1,q2⟩:=CS hg X Y fs (off+k1.length) k2 hr p2;refine⟨λx hx=>?_,?_⟩
    · rcases List.mem_cons.mp hx with rfl|hx
      · refine⟨beq_eq_false_iff_ne.mp hn,?_⟩
        have:=hg _ _ hk X Y x.offset x.offset (by rw[ho];exact p1);rw[hk];exact this
      · exact q1 x hx
    · rw[List.all_cons,q2,p3,hk,ho];rfl
theorem xK{P:Program}{n e:Nat}{ks:List D}(hg:HD P n e ks)(X Y:Array Value):∀(len i:Nat),
    du (List.replicate len ks).flatten ((X.toList.drop (i*ks.length)).take (len*ks.length)) ((Y.toList.drop (i*ks.length)).take (len*ks.length))=true->
    (∀j∈List.range' i len,∃x y,(∀w,(part e X (j*ks.length)).run P w = .ok x w)/\(∀w,(part e Y (j*ks.length)).run P w = .ok y w)/\
      ∀w,(Op.equalIn n e x y).run P w = .ok (dw ((X.toList.drop (j*ks.length)).take ks.length) ((Y.toList.drop (j*ks.length)).take ks.length)) w)/\
    ((List.range' i len).all λj=>dw ((X.toList.drop (j*ks.length)).take ks.length) ((Y.toList.drop (j*ks.length)).take ks.length))=dw ((X.toList.drop (i*ks.length)).take (len*ks.length)) ((Y.toList.drop (i*ks.length)).take (len*ks.length))
  | 0,i,_=>⟨λj hj=>by simp at hj,by simp[dw]⟩
  | len+1,i,hp=>by
    rw[List.replicate_succ,List.flatten_cons]at hp;obtain⟨p1,p2,p3⟩:=qz ks _ _ _ hp;have hm:(len+1)*ks.length=ks.length+len*ks.length:=(by rw[Nat.add_mul,Nat.one_mul,Nat.add_comm]);have t1:∀l:LV,((l.take ((len+1)*ks.length)).take ks.length)=l.take ks.length:=λl=>by rw[List.take_take];congr 1;omega
    have t2:∀l:LV,(((l.drop (i*ks.length)).take ((len+1)*ks.length)).drop ks.length)=(l.drop ((i+1)*ks.length)).take (len*ks.length):=λl=>by
      rw[List.drop_take,List.drop_drop,hm,Nat.add_mul,Nat.one_mul];congr 1;omega
    rw[t1,t1]at p1 p3;rw[t2,t2]at p2 p3;obtain⟨q1,q2⟩:=xK hg X Y len (i+1) p2;refine⟨λj hj=>?_,?_⟩
    · rw[List.range'_succ]at hj
      rcases List.mem_cons.mp hj with rfl|hj
      · exact hg X Y _ _ p1
      · exact q1 j hj
    · rw[List.range'_succ,List.all_cons,q2,p3]
theorem wK{X:Array Value}{o:Nat}{v:Value}(h:(X.toList.drop o).take 1=[v]):X[o]?=some v:=by
  have:=congrArg (·[0]?) h;simpa using this
theorem Zf{ks:List D}{l m:LV}(h:du ks l m=true)(hk:ks.length=1):∃x y,l=[x]/\m=[y]:=by
  obtain⟨h1,h2⟩:=vG _ _ _ h
  match l,m,h1,h2 with
  | [x],[y],_,_=>exact⟨x,y,rfl,rfl⟩
  | [],_,h1,_=>simp at h1;omega
  | _::_::_,_,h1,_=>simp at h1;omega
  | [_],[],_,h2=>simp at h2;omega
  | [_],_::_::_,_,h2=>simp at h2;omega
theorem tD{P:Program}{d:TypeDesc}(hd:P.underlying t=some d)(ha:jd (au d)=false){X:Array Value}{o:Nat}{v:Value}(h:X[o]?=some v)(w:World):(part t X o).run P w = .ok v w:=by
  unfold part;simp only[Sem.run_bind,pj hd,ha,Result.andThen_ok,Bool.false_eq_true,if_false,h,Sem.run_pure]
theorem tE{P:Program}{d:TypeDesc}{i:TypeInfo}(hd:P.underlying t=some d)(hi:P.info? t=some i)(ha:jd (au d)=true)(X:Array Value)(o:Nat)(w:World):(part t X o).run P w = .ok (.agg (X.extract o (o+i.size))) w:=by
  unfold part;simp only[Sem.run_bind,pj hd,ha,Result.andThen_ok,if_true,bO hi,Sem.run_pure]
theorem FH{P:Program}{f:Nat}{ks:List D}(h:qx P f t=some ks):∃i,P.info? t=some i/\i.size=ks.length:=by
  cases f with
  | zero=>cases h
  | succ f=>
    rw[qx]at h;generalize Ny P (qx P f) t=q at h;unfold QY at h
    cases q with
    | none=>cases h
    | some k0=>
    cases hi:P.info? t with
    | none=>rw[hi]at h;cases h
    | some i=>
    rw[hi]at h
    cases hz:Nat.beq i.size k0.length with
    | false=>simp only[hz]at h;cases h
    | true=>
    simp only[hz]at h;have h:k0=ks:=Option.some.inj h;subst h;exact⟨i,rfl,Nat.eq_of_beq_eq_true hz⟩
theorem Ri{P:Program}:∀(f t:Nat) (ks:List D),qx P f t=some ks->∀n,f<=n->HD P n t ks:=by
  intro f
  induction f with
  | zero=>intro t ks h;cases h
  | succ f ih=>
    intro t ks h n hn X Y o o' hp;obtain⟨n,rfl⟩:∃m,n=m+1:=⟨n-1,by omega⟩;rw[qx]at h;generalize hq:Ny P (qx P f) t=q at h;unfold Ny at hq;unfold QY at h
    cases q with
    | none=>cases h
    | some k0=>
    cases hi:P.info? t with
    | none=>rw[hi]at h;cases h
    | some i=>
    rw[hi]at h
    cases hz:Nat.beq i.size k0.length with
    | false=>simp only[hz]at h;cases h
    | true=>
    simp only[hz]at h;have hz:=Nat.eq_of_beq_eq_true hz;have h:k0=ks:=Option.some.inj h;subst h
    cases hd:P.underlying t with
    | none=>rw[hd]at hq;cases hq
    | some d=>
    rw[hd]at hq
    cases d with
    | int k=>
      have hq:[D.int k]=k0:=Option.some.inj hq;subst hq;obtain⟨x,y,e1,e2⟩:=Zf hp rfl;rw[e1,e2]at hp ⊢;refine⟨x,y,tD hd rfl (wK e1),tD hd rfl (wK e2),λw=>?_⟩
      cases x <;> cases y <;> simp[du]at hp
      obtain⟨h1,h2⟩:=hp;obtain rfl:=mY h1;obtain rfl:=mY h2;simp[Op.equalIn,run_underlying hd,dw,Result.andThen]
    | string=>
      have hq:[D.str]=k0:=Option.some.inj hq;subst hq;obtain⟨x,y,e1,e2⟩:=Zf hp rfl;rw[e1,e2]at hp ⊢;refine⟨x,y,tD hd rfl (wK e1),tD hd rfl (wK e2),λw=>?_⟩
      cases x <;> cases y <;> simp[du]at hp
      rename_i a b
      have:(a==b)=(a.toList==b.toList):=by
        rw[Bool.eq_iff_iff,MapKept.bytes_beq,beq_iff_eq]
        exact⟨λh=>by rw[h],λh=>by
          have:mkStr a.toList=mkStr b.toList:=(by rw[h]);obtain⟨⟨l⟩⟩:=a;obtain⟨⟨m⟩⟩:=b
          simpa[mkStr]using this⟩
      simp[Op.equalIn,run_underlying hd,dw,Result.andThen,this]
    | bool=>
      have hq:[D.bool]=k0:=Option.some.inj hq;subst hq;obtain⟨x,y,e1,e2⟩:=Zf hp rfl;rw[e1,e2]at hp ⊢;refine⟨x,y,tD hd rfl (wK e1),tD hd rfl (wK e2),λw=>?_⟩
      cases x <;> cases y <;> simp[du]at hp
      simp[Op.equalIn,run_underlying hd,dw,Result.andThen]
    | struct fs=>
      have hq:(bif P.stoodInHeld t then none else uv (qx P f) fs.toList 0)=some k0:=hq
      cases hs:P.stoodInHeld t with
      | true=>rw[hs]at hq;cases hq
      | false=>
      rw[hs]at hq;have hq:uv (qx P f) fs.toList 0=some k0:=hq
      have ex:∀(Z:Array Value) (b:Nat),((Z.extract b (b+i.size)).toList.drop 0).take k0.length=(Z.toList.drop b).take k0.length:=λZ b=>by
        rw[List.drop_zero,Array.toList_extract,List.extract_eq_take_drop,List.take_take];congr 1;omega
      have xB:du k0 (((X.extract o (o+i.size)).toList.drop 0).take k0.length) (((Y.extract o' (o'+i.size)).toList.drop 0).take k0.length)=true:=(by rw[ex,ex];exact hp);obtain⟨q1,q2⟩:=CS (n:=n) (λu ks hu=>ih u ks hu n (by omega)) _ _ fs.toList 0 k0 hq xB;rw[ex,ex]at q2;refine⟨_,_,tE hd hi rfl X o,tE hd hi rfl Y o',λw=>?_⟩;rw[Op.equalIn];simp only[Sem.run_bind,run_underlying hd,Result.andThen_ok,run_program,hs,Bool.false_eq_true,if_false];rw[<-Array.forIn_toList,vH _ _ ⟨some false,()⟩ (λfd=>dw (((X.extract o (o+i.size)).toList.drop fd.offset).take ((qx P f fd.type).getD []).length) (((Y.extract o' (o'+i.size)).toList.drop fd.offset).take ((qx P f fd.type).getD []).length)) w]
      · rw[q2]
        cases dw ((X.toList.drop o).take k0.length) ((Y.toList.drop o').take k0.length) <;> simp[Sem.run_pure]
      · intro fd hfd
        obtain⟨dp,x,y,e1,e2,e3⟩:=q1 fd hfd;rw[if_pos dp];simp only[Sem.run_bind,e1,e2,e3,Result.andThen_ok]
        cases dw (((X.extract o (o+i.size)).toList.drop fd.offset).take ((qx P f fd.type).getD []).length) (((Y.extract o' (o'+i.size)).toList.drop fd.offset).take ((qx P f fd.type).getD []).length) <;> simp[Sem.run_pure]
    | array len e=>
      have hq:(qx P f e).map (λks=>(List.replicate len ks).flatten)=some k0:=hq
      cases he:qx P f e with
      | none=>rw[he]at hq;cases hq
      | some k1=>
      rw[he]at hq;have hq:(List.replicate len k1).flatten=k0:=Option.some.inj hq;subst hq;have hL:(List.replicate len k1).flatten.length=len*k1.length:=(by simp);obtain⟨ie,Zg,EP⟩:=FH he
      have ex:∀(Z:Array Value) (b:Nat),((Z.extract b (b+i.size)).toList.drop (0*k1.length)).take (len*k1.length)=(Z.toList.drop b).take (List.replicate len k1).flatten.length:=λZ b=>by
        rw[Nat.zero_mul,List.drop_zero,Array.toList_extract,List.extract_eq_take_drop,List.take_take];congr 1;omega
      have xB:du (List.replicate len k1).flatten (((X.extract o (o+i.size)).toList.drop (0*k1.length)).take (len*k1.length)) (((Y.extract o' (o'+i.size)).toList.drop (0*k1.length)).take (len*k1.length))=true:=(by rw[ex,ex];exact hp);obtain⟨q1,q2⟩:=xK (n:=n) (ih e k1 he n (by omega)) _ _ len 0 xB;rw[ex,ex]at q2;refine⟨_,_,tE hd hi rfl X o,tE hd hi rfl Y o',λw=>?_⟩;rw[Op.equalIn];simp only[Sem.run_bind,run_underlying hd,Result.andThen_ok,bO Zg,EP];rw[Std.Legacy.Range.forIn_eq_forIn_range'];simp only[Std.Legacy.Range.size,Nat.sub_zero,Nat.add_sub_cancel,Nat.div_one];rw[vH _ _ ⟨some false,()⟩ (λj=>dw (((X.extract o (o+i.size)).toList.drop (j*k1.length)).take k1.length) (((Y.extract o' (o'+i.size)).toList.drop (j*k1.length)).take k1.length)) w]
      · rw[q2]
        cases dw ((X.toList.drop o).take (List.replicate len k1).flatten.length) ((Y.toList.drop o').take (List.replicate len k1).flatten.length) <;> simp[Sem.run_pure]
      · intro j hj
        obtain⟨x,y,e1,e2,e3⟩:=q1 j hj;simp only[Sem.run_bind,e1,e2,e3,Result.andThen_ok]
        cases dw (((X.extract o (o+i.size)).toList.drop (j*k1.length)).take k1.length) (((Y.extract o' (o'+i.size)).toList.drop (j*k1.length)).take k1.length) <;> simp[Sem.run_pure]
    | _=>cases hq
theorem FI : ∀{a b:List D},Ak a b=true->a=b
  | [],[],_=>rfl
  | [],_::_,h=>by simp[Ak]at h
  | _::_,[],h=>by simp[Ak]at h
  | a::r,b::s,h=>by
    simp only[Ak,Bool.and_eq_true]at h
    have h1:a=b:=by
      have:=h.1
      cases a <;> cases b <;> simp[Xy]at this <;> first|rfl|(rw[mY this])
    rw[h1,FI h.2]
theorem FJ{P:Program}{x:TI}(hx:cA P t x)(dp:x.eq≠[]){a b:Array Value}(hp:du x.eq a.toList b.toList=true)(w:World) :
    (Op.equal t (.agg a) (.agg b)).run P w = .ok (dw a.toList b.toList) w/\P.eqGuardType P.depth t=false:=by
  have h:=hx.eqs;unfold QZ at h
  split at h
  · rename_i he;exact absurd he dp
  rename_i ks QB
  cases hf:qx P 6 t with
  | none=>rw[hf]at h;cases h
  | some l=>
  rw[hf]at h;simp only[Bool.and_eq_true,Bool.not_eq_true']at h;obtain⟨⟨h1,h2⟩,hu⟩:=h;have h1:=FI h1;rw[<-h1]at hf;refine⟨?_,h2⟩;obtain⟨i,d,z,hi,hd,xX,mW,_,_,_⟩:=hx.get;obtain⟨l1,l2⟩:=vG _ _ _ hp;have ta:a.toList.take x.eq.length=a.toList:=List.take_of_length_le (by omega);have tb:b.toList.take x.eq.length=b.toList:=List.take_of_length_le (by omega);obtain⟨i',vt,hs'⟩:=FH hf;have Zd:du x.eq ((a.toList.drop 0).take x.eq.length) ((b.toList.drop 0).take x.eq.length)=true:=by rw[List.drop_zero,List.drop_zero,ta,tb];exact hp
  obtain⟨u,v,e1,e2,e3⟩:=Ri 6 t _ hf Op.maxDepth (by decide) a b 0 0 Zd;rw[List.drop_zero,List.drop_zero,ta,tb]at e3
  cases ha:jd (au d)with
  | true=>
    have g1:=tE hd vt ha a 0 w;have g2:=tE hd vt ha b 0 w;rw[e1]at g1;rw[e2]at g2
    have ea:a.extract 0 (0+i'.size)=a:=by
      apply Array.ext';rw[Array.toList_extract,List.extract_eq_take_drop,List.drop_zero,hs'];exact List.take_of_length_le (by omega)
    have eb:b.extract 0 (0+i'.size)=b:=by
      apply Array.ext';rw[Array.toList_extract,List.extract_eq_take_drop,List.drop_zero,hs'];exact List.take_of_length_le (by omega)
    rw[ea]at g1;rw[eb]at g2;have g1:u = .agg a:=(by injection g1);have g2:v = .agg b:=(by injection g2);have:=e3 w;rw[g1,g2]at this;exact this
  | false=>
    rw[hd]at hu
    cases d <;> simp[jd,au]at ha hu
theorem Jj{q y:Nat×Operand}:∀{r:List (Nat×Operand)},y∈xV q r↔y=q∨y∈r
  | []=>by simp[xV]
  | x::r=>by
    rw[xV]
    cases Nat.ble q.1 x.1
    · show y∈x::xV q r↔_
      rw[List.mem_cons,Jj,List.mem_cons]
      constructor
      · rintro(h|h|h)
        · exact Or.inr (Or.inl h)
        · exact Or.inl h
        · exact Or.inr (Or.inr h)
      · rintro(h|h|h)
        · exact Or.inr (Or.inl h)
        · exact Or.inl h
        · exact Or.inr (Or.inr h)
    · exact List.mem_cons
theorem An{y:Nat×Operand}:∀{r:List (Nat×Operand)},y∈uY r↔y∈r
  | []=>Iff.rfl
  | x::r=>by rw[uY,Jj,An,List.mem_cons]
theorem ig{f:Fr}{x:Nat×Operand}{r:List (Nat×Operand)}(h:x.1≠i):dU f i (x::r)=dU f i r:=by
  obtain⟨j,o⟩:=x;rw[lU,show Nat.beq j i=false from by cases hb:Nat.beq j i with|false=>rfl|true=>exact absurd (Nat.eq_of_beq_eq_true hb) h];rfl
theorem jG{f:Fr}{x:Nat×Operand}{r:List (Nat×Operand)}(h:x.1=i):dU f i (x::r)=some (vE f x.2):=by
  obtain⟨j,o⟩:=x;have h:j=i:=h;subst h;rw[lU,show Nat.beq j j=true from Nat.beq_refl j];rfl
theorem xL{f:Fr}{i:Nat}{q:Nat×Operand}:∀{r:List (Nat×Operand)},(∀x∈r,x.1≠q.1)->dU f i (xV q r)=dU f i (q::r)
  | [],_=>rfl
  | x::r,h=>by
    rw[xV]
    cases Nat.ble q.1 x.1
    · show dU f i (x::xV q r)=_
      have hx:=h x (List.mem_cons_self ..);have ih:=xL (f:=f) (i:=i) (q:=q) (r:=r) λy hy=>h y (List.mem_cons_of_mem _ hy)
      by_cases hi:x.1=i
      · rw[jG hi,ig (x:=q) (by rw[<-hi];exact Ne.symm hx),jG hi]
      · rw[ig hi,ih]
        by_cases hq:q.1=i
        · rw[jG hq,jG hq]
        · rw[ig hq,ig hq,ig hi]
    · rfl
theorem CT{f:Fr}{q:Nat×Operand}{r s:List (Nat×Operand)}(h:dU f i r=dU f i s):dU f i (q::r)=dU f i (q::s):=by
  by_cases hq:q.1=i
  · rw[jG hq,jG hq]
  · rw[ig hq,ig hq,h]
theorem FK{n:Nat}:∀{r:List (Nat×Operand)} {m:Nat},sorted n r m=true->∀x∈r,m<=x.1/\x.1<n
  | [],_,_,x,hx=>absurd hx (by simp)
  | (j,o)::r,m,h,x,hx=>by
    obtain⟨h1,h2,h3⟩:=jo h
    rcases List.mem_cons.mp hx with rfl|hx
    · exact⟨h1,h2⟩
    · have:=FK h3 x hx;exact⟨by omega,this.2⟩
theorem ya{n:Nat}{q:Nat×Operand}:∀{r:List (Nat×Operand)} {m:Nat},sorted n (xV q r) m=true->sorted n r m=true/\(∀x∈r,x.1≠q.1)/\q.1<n
  | [],m,h=>by
    obtain⟨_,h2,_⟩:=jo (x:=q.2) (j:=q.1) (r:=[]) h;exact⟨rfl,λx hx=>absurd hx (by simp),h2⟩
  | x::r,m,h=>by
    rw[xV]at h
    cases hb:Nat.ble q.1 x.1 with
    | true=>
      rw[hb]at h;have h:sorted n (q::x::r) m=true:=h;obtain⟨h1,h2,h3⟩:=jo (x:=q.2) (j:=q.1) h;have g:=FK h3;exact⟨Jg h3 (by omega),λy hy=>by have:=(g y hy).1;omega,h2⟩
    | false=>
      rw[hb]at h;have h:sorted n (x::xV q r) m=true:=h;obtain⟨h1,h2,h3⟩:=jo (x:=x.2) (j:=x.1) h;obtain⟨a,b,c⟩:=ya h3;have bK:¬q.1<=x.1:=λe=>by rw[Nat.ble_eq_true_of_le e]at hb;cases hb
      refine⟨?_,λy hy=>?_,c⟩
      · obtain⟨j,o⟩:=x
        simp only[sorted,Bool.and_eq_true];exact⟨⟨Nat.ble_eq_true_of_le h1,Nat.ble_eq_true_of_le h2⟩,a⟩
      · rcases List.mem_cons.mp hy with rfl|hy
        · omega
        · exact b y hy
theorem vJ{f:Fr}{n m:Nat}:∀{r:List (Nat×Operand)},sorted n (uY r) m=true->∀i,dU f i (uY r)=dU f i r
  | [],_,_=>rfl
  | q::r,h,i=>by
    rw[uY]at h ⊢;obtain⟨a,b,_⟩:=ya h;rw[xL b];exact CT (vJ a i)
theorem rA{f:Fr}{Z:LV}{p1 p2:List (Nat×Operand)}(hf:∀ i,dU f i p1=dU f i p2){k:List LV->Prop}:∀{nS:List (Nat×Nat)} {i:Nat} {acc:List LV},jU f p1 Z nS i acc k->jU f p2 Z nS i acc k
  | [],_,_,h=>h
  | (off,size)::r,i,acc,h=>by
    simp only[jU]at h ⊢;rw[<-hf i]
    cases e:dU f i p1 with
    | none=>rw[e]at h;exact rA hf h
    | some o=>
      rw[e]at h
      cases o with
      | none=>exact h
      | some v=>
        simp only[ae]at h ⊢
        cases v with
        | agg a=>exact⟨h.1,rA hf h.2⟩
        | tuple _=>exact h
        | _=>
          cases hb:Nat.beq size 1
          · rw[hb]at h;exact h
          · rw[hb]at h;exact rA hf h
theorem Cl(l c:LV)(o i:Nat)(h:o+c.length<=l.length):(l.take o++c++l.drop (o+c.length))[i]?=if o<=i/\i<o+c.length then c[i-o]? else l[i]?:=by
  have lt:(l.take o).length=o:=by rw[lT0];omega
  by_cases h1:i<o
  · rw[if_neg (by omega),List.append_assoc,List.getElem?_append_left (by omega),List.getElem?_take_of_lt h1]
  · by_cases h2:i<o+c.length
    · rw[if_pos ⟨by omega,h2⟩,List.getElem?_append_left (by rw[lA0];omega),List.getElem?_append_right (by omega),lt]
    · rw[if_neg (by omega),List.getElem?_append_right (by rw[lA0];omega),lA0,lt,List.getElem?_drop]
      congr 1;omega
theorem Rj(l c1 c2:LV)(o1 o2:Nat)(h1:o1+c1.length<=l.length)(h2:o2+c2.length<=l.length)(hd:o1+c1.length<=o2∨o2+c2.length<=o1) :
    (l.take o1++c1++l.drop (o1+c1.length)).take o2++c2++(l.take o1++c1++l.drop (o1+c1.length)).drop (o2+c2.length)=(l.take o2++c2++l.drop (o2+c2.length)).take o1++c1++(l.take o2++c2++l.drop (o2+c2.length)).drop (o1+c1.length):=by
  have k1:(l.take o1++c1++l.drop (o1+c1.length)).length=l.length:=by simp only[lA0,lT0,lD0];omega
  have k2:(l.take o2++c2++l.drop (o2+c2.length)).length=l.length:=by simp only[lA0,lT0,lD0];omega
  apply List.ext_getElem?;intro i;rw[Cl _ c2 o2 i (by omega),Cl _ c1 o1 i (by omega),Cl _ c1 o1 i (by omega),Cl _ c2 o2 i (by omega)]
  by_cases a:o1<=i/\i<o1+c1.length
  · rw[if_pos a,if_pos a,if_neg (by omega)]
  · rw[if_neg a,if_neg a]
theorem NI : ∀{nS:List (Nat×Nat)} {m n j:Nat} {o s:Nat},vy nS m n=true->nS[j]?=some (o,s)->m<=o
  | [],_,_,_,_,_,_,h=>absurd h (by simp)
  | (off,size)::r,m,n,j,o,s,hl,h=>by
    simp only[vy,Bool.and_eq_true]at hl;have h1:=Nat.eq_of_beq_eq_true hl.1
    cases j with
    | zero=>simp only[List.getElem?_cons_zero,Option.some.injEq,Prod.mk.injEq]at h;omega
    | succ j=>rw[List.getElem?_cons_succ]at h;have:=NI hl.2 h;omega
theorem CU : ∀{nS:List (Nat×Nat)} {m n i j:Nat} {o1 s1 o2 s2:Nat},vy nS m n=true->nS[i]?=some (o1,s1)->nS[j]?=some (o2,s2)->i<j->o1+s1<=o2
  | [],_,_,_,_,_,_,_,_,_,h,_,_=>absurd h (by simp)
  | (off,size)::r,m,n,i,j,o1,s1,o2,s2,hl,h1,h2,NG=>by
    simp only[vy,Bool.and_eq_true]at hl;have e:=Nat.eq_of_beq_eq_true hl.1
    cases j with
    | zero=>omega
    | succ j=>
      rw[List.getElem?_cons_succ]at h2
      cases i with
      | zero=>
        simp only[List.getElem?_cons_zero,Option.some.injEq,Prod.mk.injEq]at h1;have:=NI hl.2 h2;omega
      | succ i=>
        rw[List.getElem?_cons_succ]at h1;exact CU hl.2 h1 h2 (by omega)
def Lv(place:Nat->Option (Nat×Nat))(n:Nat)(q:Nat×Value):Prop:=∃off size,place q.1=some (off,size)/\q.2.cells.size=size/\off+size<=n
theorem yV{place:Nat->Option (Nat×Nat)}{l:LV}{q:Nat×Value}(h:Lv place l.length q):(pq place l q).length=l.length:=by
  obtain⟨o,s,h1,h2,h3⟩:=h;have e:(kK q.2).length=s:=by rw[jE,Array.length_toList,h2]
  simp only[pq,h1,lA0,lT0,lD0,e];omega
theorem Lw{place:Nat->Option (Nat×Nat)}{l:LV}{q x:Nat×Value}(hq:Lv place l.length q)(hx:Lv place l.length x)(dp:x.1≠q.1)
    (hd:∀i j o1 s1 o2 s2,place i=some (o1,s1)->place j=some (o2,s2)->i<j->o1+s1<=o2):pq place (pq place l x) q=pq place (pq place l q) x:=by
  obtain⟨o1,s1,a1,a2,a3⟩:=hx;obtain⟨o2,s2,b1,b2,b3⟩:=hq;have e1:(kK x.2).length=s1:=by rw[jE,Array.length_toList,a2]
  have e2:(kK q.2).length=s2:=by rw[jE,Array.length_toList,b2]
  simp only[pq,a1,b1];rw[<-e1,<-e2];refine Rj l _ _ o1 o2 (by omega) (by omega) ?_
  rcases Nat.lt_or_ge x.1 q.1 with h|h
  · left;rw[e1];exact hd _ _ _ _ _ _ a1 b1 h
  · right;rw[e2];exact hd _ _ _ _ _ _ b1 a1 (by omega)
theorem Jk{place:Nat->Option (Nat×Nat)}{ρ:Operand->Value}{n:Nat}(hd:∀ i j o1 s1 o2 s2,place i=some (o1,s1)->place j=some (o2,s2)->i<j->o1+s1<=o2){q:Nat×Operand} :
    ∀{r:List (Nat×Operand)} {l:LV},l.length=n->Lv place n (q.1,ρ q.2)->(∀x∈r,Lv place n (x.1,ρ x.2)/\x.1≠q.1)->
      ((xV q r).map λq=>(q.1,ρ q.2)).foldl (pq place) l=((q::r).map λq=>(q.1,ρ q.2)).foldl (pq place) l
  | [],_,_,_,_=>rfl
  | x::r,l,hl,hq,h=>by
    rw[xV]
    cases Nat.ble q.1 x.1
    · show((x::xV q r).map λq=>(q.1,ρ q.2)).foldl (pq place) l=_
      obtain⟨fx,nx⟩:=h x (List.mem_cons_self ..);subst hl;rw[List.map_cons,List.foldl_cons,Jk hd (yV fx) hq λy hy=>h y (List.mem_cons_of_mem _ hy)];rw[List.map_cons,List.foldl_cons,List.map_cons,List.foldl_cons,List.map_cons,List.foldl_cons];rw[Lw hq fx nx hd]
    · rfl
theorem CV{place:Nat->Option (Nat×Nat)}{ρ:Operand->Value}{n m nn:Nat}(hd:∀ i j o1 s1 o2 s2,place i=some (o1,s1)->place j=some (o2,s2)->i<j->o1+s1<=o2) :
    ∀{r:List (Nat×Operand)} {l:LV},l.length=n->sorted nn (uY r) m=true->(∀x∈r,Lv place n (x.1,ρ x.2))->
      ((uY r).map λq=>(q.1,ρ q.2)).foldl (pq place) l=(r.map λq=>(q.1,ρ q.2)).foldl (pq place) l
  | [],_,_,_,_=>rfl
  | q::r,l,hl,hs,h=>by
    rw[uY]at hs ⊢;obtain⟨a,b,_⟩:=ya hs;have hq:=h q (List.mem_cons_self ..);rw[Jk hd hl hq λx hx=>⟨h x (List.mem_cons_of_mem _ (An.mp hx)),b x hx⟩];rw[List.map_cons,List.map_cons,List.foldl_cons,List.foldl_cons];subst hl;exact CV hd (yV hq) a λx hx=>h x (List.mem_cons_of_mem _ hx)
theorem yc{f:Fr}{ρ:Operand->Value}(hρ:∀ x v,vE f x=some v->ρ x=v)(place:Nat->Option (Nat×Nat))(Z:LV)(nS:List (Nat×Nat))(parts:List (Nat×Operand))
    (k:List LV->Prop) (h:jU f parts Z nS 0 [] k) (hs:sorted nS.length (uY parts) 0=true) (hp:∀idx,idx<nS.length->place idx=nS[idx]?) (hl:vy nS 0 Z.length=true)
    (hd:∀i j o1 s1 o2 s2,place i=some (o1,s1)->place j=some (o2,s2)->i<j->o1+s1<=o2) :
    ∃ES,k ES/\Instr.fill place ⟨Z⟩ (parts.map λq=>(q.1,ρ q.2))=some ⟨qV ES⟩:=by
  have h':=rA (λi=>(vJ hs i).symm) h;obtain⟨ES,h1,h2,h3⟩:=xZ hρ place Z nS 0 0 (uY parts) [] k [] h' (by simpa using hs) (by simpa using hp) hl rfl;have HE:∀q∈parts,Lv place Z.length (q.1,ρ q.2):=λq hq=>h3 q (An.mpr hq)
  obtain⟨c',f1,f2,f3⟩:=NF place Z (parts.map λq=>(q.1,ρ q.2)) ⟨Z⟩ (by simp) (by
    intro q hq;obtain⟨p,hp,rfl⟩:=List.mem_map.1 hq
    exact HE p hp)
  refine⟨ES,by simpa using h1,?_⟩;rw[f1];congr 1;apply Array.ext';rw[f3];simp only[List.nil_append,List.drop_zero]at h2;rw[CV hd rfl hs HE]at h2;rw[h2,FE]
theorem Lx{nS:List (Nat×Nat)}{n:Nat}(hl:vy nS m n=true):∀(i j o1 s1 o2 s2:Nat),nS[i]?=some (o1,s1)->nS[j]?=some (o2,s2)->i<j->o1+s1<=o2:=
  λ_ _ _ _ _ _ h1 h2 h=>CU hl h1 h2 h
theorem CW(size:Nat):∀(i j o1 s1 o2 s2:Nat),(λi:Nat=>some (i*size,size)) i=some (o1,s1)->(λi:Nat=>some (i*size,size)) j=some (o2,s2)->i<j->o1+s1<=o2:=by
  intro i j o1 s1 o2 s2 h1 h2 h;simp only[Option.some.injEq,Prod.mk.injEq]at h1 h2;obtain⟨rfl,rfl⟩:=h1;obtain⟨rfl,_⟩:=h2;have:=Nat.mul_le_mul_right size (show i+1<=j from h);rw[Nat.add_mul,Nat.one_mul]at this;exact this
theorem rB(parts:Array (Nat×Operand))(ρ:Operand->Value):(parts.map λ(i,x)=>(i,ρ x)).toList=parts.toList.map λq=>(q.1,ρ q.2):=by simp
theorem lM(size:Nat):∀(n i:Nat),(kL size n i).length=n
  | 0,_=>rfl
  | n+1,i=>by simp[kL,lM size n (i+1)]
theorem uy(size:Nat):∀(n i idx:Nat),idx<n->(kL size n i)[idx]?=some ((i+idx)*size,size)
  | 0,_,_,h=>by omega
  | n+1,i,0,_=>by simp[kL]
  | n+1,i,idx+1,h=>by
    simp only[kL,List.getElem?_cons_succ];rw[uy size n (i+1) idx (by omega)];rw[show i+1+idx=i+(idx+1) by omega]
theorem uz(size:Nat):∀(n i:Nat),vy (kL size n i) (i*size) ((i+n)*size)=true
  | 0,i=>by simp[kL,vy]
  | n+1,i=>by
    simp only[kL,vy,Bool.and_eq_true];refine⟨by simp,?_⟩;have:=uz size n (i+1);rw[show i*size+size=(i+1)*size by rw[Nat.add_mul,Nat.one_mul],show i+(n+1)=i+1+n by omega];exact this
theorem BZ{C:Ctx}(hC:kN C){t:Nat}{fs:List (Nat×Nat)}(hx:cA C.P t (C.ti t))(hd:(C.ti t).d = .struct fs){f:Fr}{ρ:Operand->Value}(hρ:∀ x v,vE f x=some v->ρ x=v)
    {parts:Array (Nat×Operand)} {k:Value->Prop}
    (h1:te fs.length parts.toList=true) (h2:(fs.all λx=>(C.ti x.2).ok)=true) (h3:vy (fs.map λx=>(x.1,(C.ti x.2).cells)) 0 (C.ti t).cells=true)
    (h:jU f parts.toList (C.ti t).zero (fs.map λx=>(x.1,(C.ti x.2).cells)) 0 [] λxs=>k (.agg ⟨qV xs⟩)) :
    Qt C.P (Instr.build t (parts.map λ(i,x)=>(i,ρ x))) k:=by
  obtain⟨i,d,z,hi,hu,xX,mW,hb,hz,Hz⟩:=hx.get;rw[hd]at xX
  cases d <;> simp[au]at xX
  rename_i fields
  let nS:=fs.map λx=>(x.1,(C.ti x.2).cells)
  have UY:fields.toList.mapM (λf=>(C.P.info? f.type).map λi=>(f.offset,i.size))=some nS:=by
    have key:∀l:List Field,(∀x∈l.map (λf=>(f.offset,f.type)),(C.ti x.2).ok=true)->
        l.mapM (λf=>(C.P.info? f.type).map λi=>(f.offset,i.size))=some ((l.map λf=>(f.offset,f.type)).map λx=>(x.1,(C.ti x.2).cells)):=by
      intro l
      induction l with
      | nil=>intro _;rfl
      | cons a l ih=>
        intro Rk;have ha:=hC.ok (Rk (a.offset,a.type) (by simp));obtain⟨ia,_,_,hia,_,_,hsa,_⟩:=ha.get;rw[List.mapM_cons,ih (λx hx=>Rk x (by simp only[List.map_cons,List.mem_cons];exact .inr hx))];simp only[hia,Option.map_some,List.map_cons,hsa];rfl
    rw[key fields.toList (by rw[xX];simpa using h2),xX]
  obtain⟨ES,hk,hf⟩:=yc hρ (λi=>nS[i]?) (C.ti t).zero nS parts.toList _ h (by simpa[nS,te]using h1) (λ_ _=>rfl) (by rw[hx.len];exact h3) (Lx h3);refine⟨_,λw=>?_,hk⟩;have Zh:z.cells=⟨(C.ti t).zero⟩:=by apply Array.ext';rw[<-jE,Hz]
  refine run_build w t _ _ ?_;rw[rB];simp only[Program.built,hi,hu,hz,UY,Zh];simpa using hf
theorem HF{C:Ctx}{n:Nat}(hx:cA C.P t (C.ti t))(hd:(C.ti t).d = .arr n e)(NJ:cA C.P e (C.ti e)){f:Fr}{ρ:Operand->Value}(hρ:∀ x v,vE f x=some v->ρ x=v)
    {parts:Array (Nat×Operand)} {k:Value->Prop}
    (h1:te n parts.toList=true) (h2:Nat.beq (n*(C.ti e).cells) (C.ti t).cells=true)
    (h:jU f parts.toList (C.ti t).zero (kL (C.ti e).cells n 0) 0 [] λxs=>k (.agg ⟨qV xs⟩)) :
    Qt C.P (Instr.build t (parts.map λ(i,x)=>(i,ρ x))) k:=by
  obtain⟨i,d,z,hi,hu,xX,mW,hb,hz,Hz⟩:=hx.get;obtain⟨ie,_,_,Zg,_,_,EP,_⟩:=NJ.get;rw[hd]at xX
  cases d <;> simp[au]at xX
  obtain⟨en,ee⟩:=xX;rw[en,ee]at hu;have hlen:=Nat.eq_of_beq_eq_true h2;obtain⟨ES,hk,hf⟩:=yc hρ (λi=>some (i*ie.size,ie.size)) (C.ti t).zero _ parts.toList _ h (by rw[lM];exact h1)
    (λidx Rl=>by rw[lM]at Rl;rw[uy _ _ _ _ Rl,EP];simp)
    (by have:=uz (C.ti e).cells n 0
        rw[hx.len,<-hlen];simpa using this)
    (CW ie.size)
  refine⟨_,λw=>?_,hk⟩;have Zh:z.cells=⟨(C.ti t).zero⟩:=by apply Array.ext';rw[<-jE,Hz]
  refine run_build w t _ _ ?_;rw[rB];simp only[Program.built,hi,hu,hz,Zg,Zh];exact hf
theorem EU{C:Ctx}{n:Nat}(hd:∃ d,C.P.underlying t=some d/\au d = .slice e)(NJ:cA C.P e (C.ti e)){f:Fr}{ρ:Operand->Value}(hρ:∀ x v,vE f x=some v->ρ x=v)
    {parts:Array (Nat×Operand)} {k:KT} {w:World}
    (h1:te n parts.toList=true) (h2:Nat.ble (n*(C.ti e).cells) 16777216=true)
    (h:jU f parts.toList (aN (C.ti e).zero n) (kL (C.ti e).cells n 0) 0 [] λxs=>k (.slice (some ⟨w.heap.size,0,none⟩) n n) (qT w.heap (qV xs) e)) :
    To C.P (Instr.buildSlice t n (parts.map λ(i,x)=>(i,ρ x))) w k:=by
  obtain⟨ie,d,z,Zg,_,_,EP,_,hz,Hz⟩:=NJ.get;obtain⟨dt,EJ,UZ⟩:=hd;have hu:C.P.underlying t=some (.slice e):=by cases dt <;> simp[au]at UZ;subst UZ;exact EJ
  have mu:=Nat.le_of_ble_eq_true h2
  have hzl:z.cells.size=ie.size:=by
    have:=NJ.len;rw[<-Hz,jE]at this;rw[EP,<-this];simp
  obtain⟨ES,hk,hf⟩:=yc hρ (λi=>some (i*ie.size,ie.size)) (aN (C.ti e).zero n) _ parts.toList _ h (by rw[lM];exact h1)
    (λidx Rl=>by rw[lM]at Rl;rw[uy _ _ _ _ Rl,EP];simp)
    (by have:=uz (C.ti e).cells n 0
        rw[iO,NJ.len];simpa using this)
    (CW ie.size)
  refine⟨.slice (some ⟨w.heap.size,0,none⟩) n n,w.alloc (.cells ⟨qV ES⟩ e),?_,⟨rfl,rfl,rfl⟩,hk⟩;have Zb:(zeroValue e).run C.P w = .ok z w:=by simp[zeroValue,iN Zg,hz]
  have aci:(Array.range (n*ie.size)).map (λx=>z.cells[x%z.cells.size]!)=⟨aN (C.ti e).zero n⟩:=by
    have:=yU z n;rw[hzl,Hz]at this;exact this
  by_cases hn:n*ie.size=0
  · have hm0:(Array.range (n*ie.size)).map (λx=>(#[]:Array Value)[x%(#[]:Array Value).size]!)=⟨aN (C.ti e).zero n⟩:=by
      have hz0:aN (C.ti e).zero n=[]:=List.eq_nil_of_length_eq_zero (by rw[iO,NJ.len,<-EP];exact hn);rw[hz0,hn];apply Array.ext';simp
    simp only[Instr.buildSlice,Sem.run_bind,run_underlying hu,Result.andThen_ok,bO Zg,Sem.run_ite,if_pos hn];rw[if_neg (by rw[EP];omega)];simp only[Sem.run_pure,Result.andThen_ok,hm0,rB,hf,newRow,Sem.run_bind,run_newObj];rfl
  · simp only[Instr.buildSlice,Sem.run_bind,run_underlying hu,Result.andThen_ok,bO Zg,Sem.run_ite,if_neg hn]
    rw[if_neg (by rw[EP];omega)];simp only[Sem.run_bind,Zb,Sem.run_pure,Result.andThen_ok,aci,rB,hf,newRow,run_newObj];rfl
def Fit(f:Fr)(ρ:Operand->Value):Prop:=∀x v,vE f x=some v->ρ x=v
theorem bq{f:Fr}{ρ:Operand->Value}(hρ:Fit f ρ){x:Operand}{k:Value->Prop}(h:nO f x k):k (ρ x):=by
  cases x with
  | tmp t=>
    simp only[nO]at h
    cases hg:Fr.get f t with
    | none=>rw[hg]at h;exact h.elim
    | some v=>rw[hg]at h;rw[hρ (.tmp t) v hg];exact h
  | const v=>rw[hρ (.const v) v rfl];exact h
  | global g=>rw[hρ (.global g) _ rfl];exact h
  | func g=>rw[hρ (.func g) _ rfl];exact h
theorem lh{v:Value}{k:IntKind->Int->Prop}(h:xG v k):∃kd n,v = .int kd n/\k kd n:=by cases v <;> first|exact h.elim|exact⟨_,_,rfl,h⟩
theorem vK{v:Value}{k:Bool->Prop}(h:Hn v k):∃b,v = .bool b/\k b:=by cases v <;> first|exact h.elim|exact⟨_,rfl,h⟩
theorem yd{v:Value}{k:OA->Prop}(h:vv v k):∃q,v = .pointer q/\k q:=by cases v <;> first|exact h.elim|exact⟨_,rfl,h⟩
theorem lj{v:Value}{k:OA->Nat->Nat->Prop}(h:rv v k):∃a l c,v = .slice a l c/\k a l c:=by cases v <;> first|exact h.elim|exact⟨_,_,_,rfl,h⟩
theorem ye{v:Value}{k:LV->Prop}(h:Nt v k):∃cs,v = .agg ⟨cs⟩/\k cs:=by
  cases v <;> try exact h.elim
  rename_i a;exact⟨a.toList,by simp,h⟩
theorem uA{v:Value}{k:ByteArray->Prop}(h:Fy v k):∃s,v = .string s/\k s:=by cases v <;> first|exact h.elim|exact⟨_,rfl,h⟩
theorem Ly{v:Value}{k:LV->Prop}(h:Xv v k):∃vs,v = .tuple ⟨vs⟩/\k vs:=by
  cases v <;> try exact h.elim
  rename_i a;exact⟨a.toList,by simp,h⟩
theorem mB{v:Value}{k:Option Nat->Prop}(h:uX v k):∃q,v = .map q/\k q:=by cases v <;> first|exact h.elim|exact⟨_,rfl,h⟩
theorem bg{α:Type}{o:Option α}{k:α->Prop}(h:ae o k):∃a,o=some a/\k a:=by cases o <;> first|exact h.elim|exact⟨_,rfl,h⟩
theorem rS{f:Fr}{ρ:Operand->Value}(hρ:Fit f ρ){x:Operand}{k:Addr->Prop}(h:nO f x λv=>vv v λq=>ae q k):∃p,ρ x = .pointer (some p)/\k p:=by
  obtain⟨q,hq,h1⟩:=yd (bq hρ h);obtain⟨p,hp,h2⟩:=bg h1;exact⟨p,by rw[hq,hp],h2⟩
theorem CY{f:Fr}{ρ:Operand->Value}(hρ:Fit f ρ){lo:Option Operand}{k:Option Int->Prop}(h:loX f lo k):∃q,lo.map ρ=ER q/\k (ins q):=by
  cases lo with
  | none=>exact⟨none,rfl,h⟩
  | some x=>
    obtain⟨kd,n,hv,hk⟩:=lh (bq hρ h);exact⟨some (kd,n),by simp[ER,hv],hk⟩
theorem iX{f:Fr}{ρ:Operand->Value}(hρ:Fit f ρ):∀{l:List Operand} {acc:LV} {k:LV->Prop},Aa f l acc k->k (acc++l.map ρ)
  | [],_,_,h=>by simpa[Aa]using h
  | x::r,acc,k,h=>by
    have:=iX hρ (bq hρ (show nO f x _ from h));simpa using this
def xC(P:Program)(ρ:Operand->Value)(o:Oper)(w:World)(k:Value->World->Prop):Prop:=
  (∃v w',(execOp ρ o).run P w = .ok (.value v) w'/\k v w')∨
  (∃w',(execOp ρ o).run P w = .ok .skip w'/\k undef w')∨
  (∃g args,(execOp ρ o).run P w = .ok (.enter g args) w/\Calls P g args w λe Zi=>∃v,e = .returned v/\k v Zi)∨
  (∃l fn tmps assign body,(execOp ρ o).run P w = .ok (.round l fn tmps assign body) w/\RoundIn Fence.wide 0 P l fn tmps assign body w λe Zi=>∃v,e = .returned v/\k v Zi)
def HK(w:World)(k:KT):Value->World->Prop:=λv w'=>aQ w w'/\k v w'.heap
theorem xC.val{P:Program}{ρ:Operand->Value}{o:Oper}{s:Sem Value}{k:KT}(he:execOp ρ o=(do Pure.pure (.value (<- s))))(h:To P s w k):xC P ρ o w (HK w k):=by
  obtain⟨v,w',h1,h2,h3⟩:=h;exact .inl ⟨v,w',by rw[he,Sem.run_bind,h1];rfl,h2,h3⟩
theorem lV : ∀{OS:List Ty} {acc:LV} {C K:LV->Prop},BV OS acc C K->∃vs,C vs/\K vs
  | [],acc,_,_,h=>⟨acc,h⟩
  | .int _::_,_,_,_,⟨_,h⟩=>lV h
  | .bool::_,_,_,_,⟨_,h⟩=>lV h
  | .str::_,_,_,_,⟨_,h⟩=>lV h
  | .ptr::_,_,_,_,⟨_,h⟩=>lV h
  | .slice::_,_,_,_,⟨_,_,_,h⟩=>lV h
  | .agg::_,_,_,_,⟨_,h⟩=>lV h
  | .any::_,_,_,_,⟨_,h⟩=>lV h
  | .map::_,_,_,_,⟨_,h⟩=>lV h
  | .QS::_,_,_,_,⟨_,_,_,h⟩=>lV h
theorem O2(es:Array MapEntry)(seen:Array Nat)(b:Nat):(es.toList.filter λe=>!(seen.push b).contains e.born)=(es.toList.filter λe=>!seen.contains e.born).filter λe=>e.born != b:=by
  rw[List.filter_filter];congr 1;funext e;rw[Array.contains_push,bne]
  cases seen.contains e.born <;> cases e.born==b <;> rfl
theorem Jl(b:Nat)(key:Int):∀(L:List MapEntry) (left:yS),L.map (λe=>(e.key,e.val))=left.map kvI->(∀x∈L,x.born=b↔x.key = .int .i64 key)->
    (L.filter λe=>e.born != b).map (λe=>(e.key,e.val))=(left.filter λp=>p.1 != key).map kvI
  | [],[],_,_=>rfl
  | [],_::_,h,_=>by simp at h
  | _::_,[],h,_=>by simp at h
  | x::l,p::r,h,hx=>by
    simp only[List.map_cons,List.cons.injEq]at h;obtain⟨h1,h2⟩:=h;have ih:=Jl b key l r h2 λy hy=>hx y (List.mem_cons_of_mem _ hy);have hk:x.key = .int .i64 p.1:=(Prod.mk.inj h1).1;have iff:=hx x (List.mem_cons_self ..)
    by_cases e:p.1=key
    · have eb:x.born=b:=iff.mpr (by rw[hk,e])
      rw[List.filter_cons_of_neg (by simp[eb]),List.filter_cons_of_neg (by simp[e])];exact ih
    · have eb:x.born≠b:=λy=>e (by have:=iff.mp y;rw[hk]at this;exact(Value.int.inj this).2)
      rw[List.filter_cons_of_pos (by simpa using eb),List.filter_cons_of_pos (by simpa using e),List.map_cons,List.map_cons,ih,h1]
theorem CZ{α β:Type}(f:α->β):∀{l:List α},(l.map f).Nodup->∀{x y:α},x∈l->y∈l->f x=f y->x=y
  | [],_,_,_,hx,_,_=>by cases hx
  | a::r,hn,x,y,hx,hy,e=>by
    rw[List.map_cons,List.nodup_cons]at hn;have no:∀z,z∈r->f z≠f a:=λz hz e=>hn.1 (List.mem_map.mpr ⟨z,hz,e⟩)
    rcases List.mem_cons.mp hx with h1|h1
    · rcases List.mem_cons.mp hy with h2|h2
      · rw[h1,h2]
      · exact absurd (by rw[<-e,h1]) (no y h2)
    · rcases List.mem_cons.mp hy with h2|h2
      · exact absurd (by rw[e,h2]) (no x h1)
      · exact CZ f hn.2 h1 h2 e
theorem run_next_at{P:Program}(w:World)(ty:TypeId)(b r since last:Nat)(sp:Option Nat)(seen:Array Nat)(es:Array MapEntry)(clock:Nat)(hb:w.heap[b]?=some (.mapIter (some r) since seen last))(hr:w.heap[r]?=some (.map es clock))(hold:∀ x ∈ es.toList,x.born<since)(Zj:since<=last) :
    ((leftOf es seen).size=0/\(Instr.next (.pointer (some ⟨b,0,sp⟩)) false ty).run P w = .ok (.tuple #[.bool false]) w)∨
    ∃e∈(leftOf es seen).toList,∃w1:World,w1.heap=w.heap/\aQ w w1/\(Instr.next (.pointer (some ⟨b,0,sp⟩)) false ty).run P w = .ok (.tuple #[.bool true,e.key,e.val]) { w1 with heap:=w.heap.setIfInBounds b (.mapIter (some r) since (seen.push e.born) clock) }:=by
  simp only[Instr.next,getObj,Sem.run_bind,Sem.run,hb,hr,Result.andThen,next_test_false seen es since last hold Zj,Bool.false_eq_true,if_false];unfold leftOf;have vl:∀x∈(Array.filter (λe=>!seen.contains e.born) es).toList,x.born<since:=λx hx=>hold x (by simp at hx ⊢;exact hx.1);generalize Array.filter (λe=>!seen.contains e.born) es=L at vl ⊢;have e1:L.filter (λx=>decide (x.born<since))=L:=Array.filter_eq_self.2 (λx hx=>by simpa using vl x (by simpa using hx))
  have e2:L.filter (λx=>decide (x.born>=since)) = #[]:=by
    rw[Array.filter_eq_empty_iff];intro x hx;have:=vl x (by simpa using hx);simp;omega
  simp only[e1,e2,Array.append_empty]
  by_cases h0:L.size=0
  · left
    have:L = #[]:=Array.eq_empty_of_size_eq_zero h0;subst this;refine⟨rfl,?_⟩;simp[choose,Sem.run,Question.forced]
  · right
    have dp:L.isEmpty=false:=(by simp[Array.isEmpty,h0]);simp only[dp,Bool.false_eq_true,if_false,Array.empty_append,Array.size_map]
    have hch:∃(j:Nat) (w1:World),j<L.size/\w1.heap=w.heap/\aQ w w1/\(choose (Question.mapNext L.size)).run P w = .ok j w1:=by
      by_cases hf:L.size<=1
      · exact⟨0,w,by omega,rfl,.refl _,by simp[choose,Sem.run,Question.forced,hf]⟩
      · exact⟨_,w.drew,Nat.mod_lt _ (by omega),rfl,⟨rfl,rfl,rfl⟩,by
          simp only[choose,Sem.run,Question.forced,decide_eq_true_eq,hf,if_false,Question.cut]
          rfl⟩
    obtain⟨j,w1,hj,hh,hs,Zk⟩:=hch;refine⟨L[j],by simp,w1,hh,hs,?_⟩
    have HC:∀(o':Obj),(setObj b o').run P w1 = .ok () { w1 with heap:=w.heap.setIfInBounds b o' }:=λo'=>by
      simp only[setObj,Sem.run,hh,hb]
    simp only[Zk,Array.getElem?_map,Array.getElem?_eq_getElem hj,Option.map_some,Sem.run_bind,HC,Result.andThen];rfl
theorem Jm{P:Program}{ty b r:Nat}{sp:Option Nat}{m left:yS}{k:KT}(H:Nv w.heap b r m left)(hN:left=[]->k (.tuple #[.bool false]) w.heap)
    (hS:∀e∈left,∀h',aca w.heap b r m left e h'->k (.tuple #[.bool true,.int .i64 e.1,.int .i64 e.2]) h'):To P (Instr.next (.pointer (some ⟨b,0,sp⟩)) false ty) w k:=by
  obtain⟨es,clock,since,seen,last,hr,hb,hm,qS,hold,UZ,Zj,hl⟩:=H;have eL:(leftOf es seen).toList=es.toList.filter λe=>!seen.contains e.born:=by unfold leftOf;rw[Array.toList_filter]
  rcases run_next_at (P:=P) w ty b r since last sp seen es clock hb hr hold UZ with⟨h0,run⟩|⟨e,he,w1,hh,hs,run⟩
  · refine⟨_,w,run,.refl _,hN ?_⟩
    have e0:(leftOf es seen).toList=[]:=List.eq_nil_of_length_eq_zero (by rw[Array.length_toList];exact h0);rw[<-eL,e0]at hl;exact(List.map_eq_nil_iff.mp hl.symm)
  · rw[eL]at he
    have hf:(e.key,e.val)∈(es.toList.filter λe=>!seen.contains e.born).map (λe:MapEntry=>(e.key,e.val)):=List.mem_map.mpr ⟨e,he,rfl⟩;rw[hl]at hf;obtain⟨p,hp,ep⟩:=List.mem_map.mp hf;have ek:e.key = .int .i64 p.1:=(Prod.mk.inj ep).1.symm;have ev:e.val = .int .i64 p.2:=(Prod.mk.inj ep).2.symm;have hes:e∈es.toList:=(List.mem_filter.mp he).1;obtain⟨g1,g2⟩:=MapKept.heap_set (o':=.mapIter (some r) since (seen.push e.born) clock) hb;have hrb:r≠b:=(by intro y;rw[y,hb]at hr;cases hr);rw[ek,ev]at run;have hr':=(g2 r hrb).trans hr;refine⟨_,_,run,⟨hs.1,hs.2.1,hs.2.2⟩,hS p hp _ ⟨by simp,g2,⟨es,clock,since,seen.push e.born,clock,hr',g1,hm,qS,hold,Zj,Zj,?_⟩,⟨es,clock,since,seen.push e.born,e,hr',g1,by simp,?_,ek,ev⟩⟩⟩
    · rw[O2]
      exact Jl e.born p.1 _ _ hl λx hx=>by
        have Zl:=(List.mem_filter.mp hx).1;refine⟨λy=>?_,λy=>?_⟩
        · rw[CZ MapEntry.born qS.2.1 Zl hes y,ek]
        · rw[CZ MapEntry.key qS.2.2 Zl hes (by rw[y,ek])]
    · rw[<-Array.find?_toList];exact find_born e es.toList qS.2.1 hes
theorem yf{OS:List Ty}{k:KT}{v:Value}{h:ad}(hb:I' OS k v h):k v h:=by
  match OS,hb with
  | [],⟨e,hk⟩=>subst e;exact hk
  | [ty],hb=>obtain⟨u,e,hk⟩:=mA (show QT ty (λu=>v=u) (λu=>k u h) from hb);subst e;exact hk
  | _::_::_,hb=>obtain⟨us,e,hk⟩:=lV (show BV _ [] (λus=>v = .tuple ⟨us⟩) (λus=>k (.tuple ⟨us⟩) h) from hb);subst e;exact hk
theorem NK{P:Program}{ρ:Operand->Value}{o:Oper}{g:Nat}{args:LV}{OS:List Ty}{k:KT}
    (he:execOp ρ o=callFunc g ⟨args⟩) (h:pQ P g args w.heap (I' OS k)):xC P ρ o w (HK w k):=by
  obtain⟨⟨fn,hf,hn,hb⟩,hc⟩:=h;refine .inr (.inr (.inl ⟨g,⟨args⟩,?_,?_⟩))
  · rw[he]
    simp only[callFunc,Sem.run_bind,run_program,Result.andThen_ok,hf,hn,hb,Bool.false_eq_true,if_false,Sem.run_pure]
  · exact(hc w rfl).mono λe w' ⟨v,h1,h2,h3⟩=>⟨v,h1,h2,yf h3⟩
theorem NL{P:Program}{x:TI}(hx:cA P t x){cs:Array Value}{off:Nat}{k:Value->Prop}
    (h:match x.d.ty with
      | .agg=>k (.agg ⟨(cs.toList.drop off).take x.cells⟩)
      | ty=>QT ty (λu=>cs.toList[off]?=some u) k):Qt P (part t cs off) k:=by
  obtain⟨i,d,z,hi,hd,xX,mW,_,_,_⟩:=hx.get;have u7:=λw=>pj hd w;unfold part;rw[<-xX]at h;have agg:jd (au d)=true->(au d).ty = .agg:=by cases au d <;> simp[D.ty,jd]
  have nagg:jd (au d)=false->(au d).ty≠.agg:=by cases au d <;> simp[D.ty,jd]
  cases hq:jd (au d)with
  | true=>
    rw[agg hq]at h;refine⟨_,λw=>?_,h⟩;simp only[Sem.run_bind,u7,hq,Result.andThen_ok,if_true,bO hi,mW,Sem.run_pure];congr 2;apply Array.ext';simp
  | false=>
    have dp:=nagg hq
    have h':QT (au d).ty (λu=>cs.toList[off]?=some u) k:=by
      cases ht:(au d).ty <;> rw[ht]at h dp <;> first|exact h|exact(dp rfl).elim
    obtain⟨v,hc,hk⟩:=mA h';refine⟨v,λw=>?_,hk⟩;have hc':cs[off]?=some v:=(by simpa using hc);simp only[Sem.run_bind,u7,hq,Result.andThen_ok,Bool.false_eq_true,if_false,hc',Sem.run_pure]
theorem foldl_push(ns:LB):∀r:ByteArray,(ns.map λb=>((b.toNat:Nat):Int)).foldl (λr n=>r.push (UInt8.ofNat n.toNat)) r=⟨r.data++ns.toArray⟩:=by
  induction ns with
  | nil=>intro r;simp
  | cons b ns ih=>
    intro r;simp only[List.map_cons,List.foldl_cons];rw[ih];simp[ByteArray.push]
theorem Bp{P:Program}{a:OA}{l c:Nat}{bs:LB}(h:aw w.heap a l bs):(Conv.bytesToString (.slice a l c)).run P w = .ok (.string (mkStr bs)) w:=by
  obtain⟨hl,hc⟩:=h
  cases a with
  | none=>
    have:bs=[]:=(by simpa[ak]using hc);subst this;rfl
  | some p=>
    have UP:=run_loadCells_list (P:=P) w p (bs.map bv) (λj v hv=>hc j v hv);have hm:(bs.map bv)=(bs.map λb=>((b.toNat:Nat):Int)).map (Value.int .u8):=(by simp[bv,Function.comp_def]);rw[hm,lM0,lM0,hl]at UP;rw[run_bytesToString w p l c _ UP,foldl_push];simp[mkStr,ByteArray.empty,ByteArray.emptyWithCapacity];rfl
def Lz : D->Bool
  | .str=>true
  | _=>false
theorem Rm{C:Ctx}(hC:kN C){s t:Nat}{v:Value}{w:World}{k:KT}(h:I8 C (C.ti s).d (C.ti t).d v w.heap k) :
    ∃r,(convert s t v).run C.P w = .ok r w/\k r w.heap/\(Lz (C.ti t).d=false->∀w':World,(convert s t v).run C.P w' = .ok r w'):=by
  have hs:(C.ti s).d≠.other:=by intro e;rw[e]at h;exact h.elim
  have ht:(C.ti t).d≠.other:=by intro e;rw[e]at h;unfold I8 at h;split at h <;> first|exact h.elim|simp at *
  obtain⟨_,ds,_,_,Rn,Ro,_⟩:=(hC.CN hs).get;obtain⟨_,dt,_,_,O3,EJ,_⟩:=(hC.CN ht).get;rw[<-Ro,<-EJ]at h
  cases ds <;> cases dt <;> cases v <;> try exact h.elim
  · exact⟨_,by simp[convert,run_underlying Rn,run_underlying O3,Conv.intToInt],h,λ_ w'=>by simp[convert,run_underlying Rn,run_underlying O3,Conv.intToInt]⟩
  · exact⟨_,by simp[convert,run_underlying Rn,run_underlying O3,Conv.intToString],h,λ_ w'=>by simp[convert,run_underlying Rn,run_underlying O3,Conv.intToString]⟩
  · exact⟨_,by simp[convert,run_underlying Rn,run_underlying O3],h,λ_ w'=>by simp[convert,run_underlying Rn,run_underlying O3]⟩
  · rename_i e a l c
    simp only[au,I8]at h
    cases hb:xz (C.ti e).d with
    | false=>rw[hb]at h;exact h.elim
    | true=>
      rw[hb]at h;obtain⟨bs,qS,hk⟩:=h;have he:(C.ti e).d≠.other:=(by intro e';rw[e']at hb;simp[xz]at hb);obtain⟨_,de,_,_,Zm,Zn,_⟩:=(hC.CN he).get;rw[<-Zn]at hb
      have Zo:C.P.underlying e=some (.int .u8):=by
        cases de <;> simp[au,xz]at hb
        rename_i kd
        cases kd <;> simp at hb
        exact Zm
      exact⟨_,by rw[run_convert_bytes_string w s t e a l c Rn Zo O3];exact Bp qS,hk,λhf=>by rw[<-EJ]at hf;simp[au,Lz]at hf⟩
theorem U0{P:Program}{k:Value->Prop}(h:Y4 x y k)(at_:Array TypeId)(ty:TypeId):Qt P (Builtin.min_ at_ ty #[x,y]) k:=by
  cases x <;> cases y <;> try exact h.elim
  rename_i k1 a k2 b;simp only[Y4]at h
  cases hk:mg k1 k2 with
  | false=>rw[hk]at h;exact h.elim
  | true=>rw[hk]at h;obtain rfl:=mY hk;exact⟨_,by simp[Builtin.min_,Builtin.min2],h⟩
theorem U1{P:Program}{k:Value->Prop}(h:Y5 x y k)(at_:Array TypeId)(ty:TypeId):Qt P (Builtin.max_ at_ ty #[x,y]) k:=by
  cases x <;> cases y <;> try exact h.elim
  rename_i k1 a k2 b;simp only[Y5]at h
  cases hk:mg k1 k2 with
  | false=>rw[hk]at h;exact h.elim
  | true=>rw[hk]at h;obtain rfl:=mY hk;exact⟨_,by simp[Builtin.max_,Builtin.max2],h⟩
theorem NM{P:Program}{d:TypeDesc}(hd:P.underlying t=some d){x:Value}{k:Value->Prop}(h:Y2 (au d) x k)(ty:TypeId):Qt P (Builtin.len_ #[t] ty #[x]) k:=by
  cases d <;> cases x <;> first|exact h.elim|exact⟨_,by simp[Builtin.len_,run_underlying hd,goInt],h⟩
theorem U2{P:Program}{d:TypeDesc}(hd:P.underlying t=some d){x:Value}{k:Value->Prop}(h:ab6 (au d) x k)(ty:TypeId):Qt P (Builtin.cap_ #[t] ty #[x]) k:=by
  cases d <;> cases x <;> first|exact h.elim|exact⟨_,by simp[Builtin.cap_,run_underlying hd,goInt],h⟩
theorem FL{P:Program}{d:TypeDesc}(hd:P.underlying t=some d){fs:List (Nat×Nat)}(hf:au d = .struct fs){o:Nat×Nat}(ho:fs[i]?=some o) :
    ∃(fields:Array Field) (fd:Field),d = .struct fields/\fields[i]?=some fd/\fd.offset=o.1/\fd.type=o.2:=by
  cases d <;> simp[au]at hf
  rename_i fields;subst hf;simp at ho;obtain⟨fd,h1,h2⟩:=ho;exact⟨fields,fd,rfl,by simpa using h1,by rw[<-h2],by rw[<-h2]⟩
theorem yW{C:Ctx}{o:Nat×Nat}(h:Ch C t i=some o):∃fs,(C.ti t).d = .struct fs/\fs[i]?=some o:=by
  unfold Ch at h
  cases hd:(C.ti t).d <;> rw[hd]at h <;> simp at h
  exact⟨_,rfl,h⟩
theorem oz{C:Ctx}(hC:kN C){t e:Nat}(h:(C.ti t).d = .slice e):∃d,C.P.underlying t=some d/\au d = .slice e:=by
  obtain⟨_,d,_,_,hu,hd,_⟩:=(hC.CN (t:=t) (by rw[h];intro e;cases e)).get;exact⟨d,hu,hd.trans h⟩
theorem gF{C:Ctx}(hC:kN C){t:Nat}(h:(C.ti t).d ≠ .other):∃d,C.P.underlying t=some d/\au d=(C.ti t).d:=by
  obtain⟨_,d,_,_,hu,hd,_⟩:=(hC.CN h).get;exact⟨d,hu,hd⟩
theorem LA{op:BinOp}{k:Value->Prop}{d:D}(h:tz d op x y k):(∃kd a Hq b,x = .int kd a/\y = .int Hq b)∨(∃a b,x = .string a/\y = .string b)∨d≠.other:=by
  by_cases hd:d = .other
  · subst hd
    cases x <;> cases y <;> first|exact h.elim|exact .inl ⟨_,_,_,_,rfl,rfl⟩|exact .inr (.inl ⟨_,_,rfl,rfl⟩)|(simp[tz]at h;done)|(rename_i a b;cases b <;> exact h.elim)|(rename_i a _ _ b _ _;cases b <;> exact h.elim)
  · exact .inr (.inr hd)
def Rp : D->Bool
  | .map _ _=>true
  | _=>false
def LC(C:Ctx):Op->Bool
  | .move _| .assign _| .pick _ _ _| .build _ _| .load _ _| .nilCheck _| .binOp _ _ _ _ _| .unOp _ _ _| .makeFunc _ _ _| .slice _ _ _ _ _| .fieldAddr _ _ _| .field _ _ _
  | .indexAddr _ _ _| .index _ _ _| .extract _ _| .sliceToArrayPointer _ _=>true
  | .convert _ t _=>!yQ (C.ti t).d
  | .call { callee:=.builtin .len,argTypes,.. }=>!(argTypes.toList.any λt=>Rp (C.ti t).d)
  | .call { callee:=.builtin .cap,.. }| .call { callee:=.builtin .min,.. }| .call { callee:=.builtin .max,.. }=>true
  | _=>false
def eG(C:Ctx):Op->Bool
  | .load _ _=>true
  | .convert _ t _=>Lz (C.ti t).d
  | _=>false
def QTo(C:Ctx)(ρ:Operand->Value)(o:Oper)(w:World)(k:KT):Prop:=
  ∃v,(execOp ρ o).run C.P w = .ok (.value v) w/\k v w.heap/\(eG C o.op=false->∀w':World,(execOp ρ o).run C.P w' = .ok (.value v) w')
theorem QTo.qt{C:Ctx}{ρ:Operand->Value}{o:Oper}{s:Sem Value}{k:KT}(he:execOp ρ o=(do Pure.pure (.value (<- s))))(h:Qt C.P s (λv=>k v w.heap)):QTo C ρ o w k:=by
  obtain⟨v,h1,h2⟩:=h;exact⟨v,by rw[he,Sem.run_bind,h1];rfl,h2,λ_ w'=>by rw[he,Sem.run_bind,h1];rfl⟩
theorem QTo.op{C:Ctx}{ρ:Operand->Value}{o:Oper}{k:KT}(h:QTo C ρ o w k):xC C.P ρ o w (HK w k):=
  let ⟨v,h1,h2,_⟩:=h;.inl ⟨v,w,h1,.refl _,h2⟩
theorem Jn{C:Ctx}(hC:kN C){f:Fr}{ρ:Operand->Value}(hρ:Fit f ρ)(o:Oper)(hq:LC C o.op=true){k:KT}{w:World}(h:xH C f o.op o.type k w.heap) :
    QTo C ρ o w k:=by
  cases ho:o.op with
  | move x=>rw[ho]at h;exact⟨ρ x,by simp[execOp,ho],bq hρ h,λ_ w'=>by simp[execOp,ho]⟩
  | assign x=>rw[ho]at h;exact⟨ρ x,by simp[execOp,ho],bq hρ h,λ_ w'=>by simp[execOp,ho]⟩
  | pick c a b=>
    rw[ho]at h;obtain⟨t,hc,h⟩:=vK (bq hρ h);have he:execOp ρ o=(do Pure.pure (.value (if<-asBool (ρ c)then ρ a else ρ b))):=by simp only[execOp,ho]
    cases t with
    | true=>exact⟨ρ a,by rw[he,hc];simp[asBool],bq hρ (show nO f a (λv=>k v w.heap) from h),λ_ w'=>by rw[he,hc];simp[asBool]⟩
    | false=>exact⟨ρ b,by rw[he,hc];simp[asBool],bq hρ (show nO f b (λv=>k v w.heap) from h),λ_ w'=>by rw[he,hc];simp[asBool]⟩
  | build t parts=>
    rw[ho]at h;obtain⟨hx,h⟩:=hC.sE h;refine .qt (s:=Instr.build t (parts.map λ(i,x)=>(i,ρ x))) (by simp only[execOp,ho]) ?_
    cases hd:(C.ti t).d with
    | struct fs=>
      rw[hd]at h;simp only at h
      cases hb:(te fs.length parts.toList && (fs.all λx=>(C.ti x.2).ok) && vy (fs.map λx=>(x.1,(C.ti x.2).cells)) 0 (C.ti t).cells)with
      | false=>rw[hb]at h;exact h.elim
      | true=>
        rw[hb]at h;simp only[Bool.and_eq_true]at hb;exact BZ hC hx hd hρ hb.1.1 hb.1.2 hb.2 h
    | arr n e=>
      rw[hd]at h;obtain⟨NJ,h⟩:=hC.sE h
      cases hb:(te n parts.toList && Nat.beq (n*(C.ti e).cells) (C.ti t).cells)with
      | false=>rw[hb]at h;exact h.elim
      | true=>
        rw[hb]at h;simp only[Bool.and_eq_true]at hb;exact HF hx hd NJ hρ hb.1 hb.2 h
    | _=>rw[hd]at h;exact h.elim
  | load t x=>
    rw[ho]at h;obtain⟨p,hq,h⟩:=rS hρ h;obtain⟨hx,h⟩:=hC.sE h;obtain⟨v,hr,hk⟩:=CO hx h;refine⟨v,?_,hk,λhf=>by simp[eG,ho]at hf⟩;simp only[execOp,ho];rw[hq];simp only[Instr.loadAt,Instr.sureAddr,Sem.run_bind,Sem.run_pure,Result.andThen_ok,hr]
  | nilCheck x=>
    rw[ho]at h;have hk:=bq hρ h
    cases hv:ρ x with
    | pointer q=>
      rw[hv]at hk;obtain⟨p,hp,hk⟩:=bg hk;rw[hp]at hv;exact⟨_,by simp only[execOp,ho,hv];rfl,hk,λ_ w'=>by simp only[execOp,ho,hv];rfl⟩
    | func fn fs cs=>
      rw[hv]at hk
      cases fn with
      | func g=>exact⟨_,by simp only[execOp,ho,hv];rfl,hk,λ_ w'=>by simp only[execOp,ho,hv];rfl⟩
      | _=>exact hk.elim
    | _=>rw[hv]at hk;exact hk.elim
  | binOp op t x y u=>
    rw[ho]at h;have FM:=bq hρ (bq hρ h);refine .qt (s:=do eqGuard op t x y (ρ x) (ρ y);binOp op t (ρ x) (ρ y)) (by simp only[execOp,ho]) ?_;unfold ab5 at FM
    split at FM
    · rename_i heq
      have hk:=FM;have hg:=λw=>Je (P:=C.P) (op:=op) (t:=t) (x:=x) (y:=y) (w:=w) (Lr hk)
      have:Qt C.P (binOp op t (ρ x) (ρ y)) (λr=>k r w.heap):=by
        rcases LA hk with⟨kd,a,Hq,b,e1,e2⟩|⟨a,b,e1,e2⟩|dp
        · rw[e1,e2]at hk ⊢
          have yM:bif sI op then vw op kd a b (λr=>k r w.heap)else bif mg kd Hq then I7 op kd a b (λr=>k r w.heap)else False:=by
            unfold tz at hk;split at hk
            · exact hk.elim
            · exact hk
          cases hs:sI op with
          | true=>rw[hs]at yM;exact FA yM
          | false=>
            rw[hs]at yM
            cases hkk:mg kd Hq with
            | false=>rw[hkk]at yM;exact yM.elim
            | true=>rw[hkk]at yM;obtain rfl:=mY hkk;exact NA hs yM
        · rw[e1,e2]at hk ⊢
          have yM:Y1 op a b (λr=>k r w.heap):=by
            unfold tz at hk;split at hk
            · exact hk.elim
            · exact hk
          exact NB yM
        · obtain⟨d,hu,hd⟩:=gF hC dp
          rw[<-hd]at hk;exact US hu hk
      obtain⟨v,h1,h2⟩:=this;exact⟨v,λw=>by rw[Sem.run_bind,hg];exact h1 w,h2⟩
    · rename_i heq
      split at FM
      · rename_i a b e1 e2
        obtain⟨hp,hk⟩:=FM
        have hx:cA C.P t (C.ti t):=by
          rcases hC.ti t with e|e
          · rw[e]at heq;exact absurd rfl heq
          · exact e
        have run:=λw=>(FJ hx heq hp w).1;have Up:=(FJ hx heq hp w).2;rw[e1,e2]
        have hg:∀w,(eqGuard op t x y (.agg a) (.agg b)).run C.P w = .ok () w:=λw=>by
          unfold eqGuard
          cases op <;> simp[Up]
        obtain⟨v,h1,h2⟩:=Bn (k:=λr=>k r w.heap) hk run rfl rfl;exact⟨v,λw=>by rw[Sem.run_bind,hg];exact h1 w,h2⟩
      · exact FM.elim
  | unOp op t x=>
    rw[ho]at h;exact .qt (s:=Op.unary op (ρ x)) (by simp only[execOp,ho]) (Y' (bq hρ h))
  | convert s t x=>
    rw[ho]at h;rw[ho]at hq;have hns:yQ (C.ti t).d=false:=(by simpa[LC]using hq);have h:=bq hρ h;rw[hns]at h;obtain⟨r,h1,h2,h3⟩:=Rm hC (show I8 C (C.ti s).d (C.ti t).d (ρ x) w.heap k from h);refine⟨r,by simp only[execOp,ho,Sem.run_bind,h1];rfl,h2,λhf w'=>?_⟩;have:=h3 (by simpa[eG,ho]using hf) w';simp only[execOp,ho,Sem.run_bind,this];rfl
  | makeFunc fn fs cs=>
    rw[ho]at h
    cases fn with
    | func g=>
      have h1:=iX hρ h;have h2:=iX hρ h1;simp only[List.nil_append]at h2
      cases XC:fs.toList.map ρ with
      | cons a r=>
        rw[XC]at h2;have e1:fs.map ρ=⟨a::r⟩:=(by apply Array.ext';simpa using XC);have e2:cs.map ρ=⟨cs.toList.map ρ⟩:=(by apply Array.ext';simp);exact .qt (s:=Instr.makeFunc (.func g) (fs.map ρ) (cs.map ρ)) (by simp only[execOp,ho]) (by rw[e1,e2];exact⟨_,λ_=>rfl,h2⟩)
      | nil=>
        rw[XC]at h2;have e1:fs.map ρ = #[]:=(by apply Array.ext';simpa using XC);have e2:cs.map ρ=⟨cs.toList.map ρ⟩:=(by apply Array.ext';simp);exact .qt (s:=Instr.makeFunc (.func g) (fs.map ρ) (cs.map ρ)) (by simp only[execOp,ho]) (by rw[e1,e2];exact⟨_,λ_=>rfl,h2⟩)
    | _=>exact h.elim
  | slice t x lo hi mx=>
    rw[ho]at h;have h:=bq hρ h;obtain⟨q1,e1,h⟩:=CY hρ h;obtain⟨q2,e2,h⟩:=CY hρ h;obtain⟨q3,e3,h⟩:=CY hρ h;refine .qt (s:=Instr.sliceAt t (ρ x) (lo.map ρ) (hi.map ρ) (mx.map ρ)) (by simp only[execOp,ho]) ?_;rw[e1,e2,e3]
    have dp:(C.ti t).d≠.other:=by
      intro e;rw[e]at h;obtain⟨_,h⟩:=hC.sE h;exact h.elim
    obtain⟨d,hu,hd⟩:=gF hC dp
    by_cases hs:(C.ti t).d = .str
    · rw[hs]at h hd
      refine FC hu (size:=1) ?_ (by rw[hd];exact h);intro e he;rw[hd]at he
      rcases he with he|⟨n,he⟩ <;> cases he
    · have h':sE (C.ti (elemOf C t)) (Hr (C.ti t).d (C.ti (elemOf C t)).cells (ρ x) (ins q1) (ins q2) (ins q3) λr=>k r w.heap):=by
        cases hq:(C.ti t).d <;> rw[hq]at h <;> first|exact(hs hq).elim|exact h
      obtain⟨hx,h'⟩:=hC.sE h';rw[<-hd]at h';refine FC hu ?_ h';intro e he
      have QC:elemOf C t=e:=by
        unfold elemOf;rw[<-hd]
        rcases he with he|⟨n,he⟩ <;> rw[he]
      obtain⟨i,_,_,hi,_,_,mW,_⟩:=hx.get;rw[QC]at hi mW ⊢;exact⟨i,hi,mW⟩
  | fieldAddr t x i=>
    rw[ho]at h;obtain⟨p,hq,h⟩:=rS hρ h;obtain⟨fo,hfo,h⟩:=bg h;obtain⟨fs,hd,XC⟩:=yW hfo;obtain⟨d,hu,ph⟩:=gF hC (t:=t) (by rw[hd];intro e;cases e);rw[hd]at ph;obtain⟨fields,fd,rfl,h1,h2,h3⟩:=FL hu ph XC
    cases hz:Nat.beq (C.ti fo.2).cells 0 with
    | true=>rw[hz]at h;exact h.elim
    | false=>
      rw[hz]at h;have dp:(C.ti fo.2).cells≠0:=λe=>by rw[e]at hz;simp at hz
      have hx:cA C.P fo.2 (C.ti fo.2):=by
        rcases hC.ti fo.2 with e|e
        · rw[e]at dp;exact(dp rfl).elim
        · exact e
      obtain⟨fi,_,_,CR,_,_,mW,_⟩:=hx.get;refine .qt (s:=Instr.fieldAt t (ρ x) i) (by simp only[execOp,ho]) ⟨.pointer (some (p.add fo.1)),λw=>?_,h⟩;rw[hq];simp only[Instr.fieldAt,Sem.run_bind,run_underlying hu,Result.andThen_ok,h1,Instr.sureAddr,Sem.run_pure,fieldPlace,h3,bO CR,Sem.run_ite];rw[if_neg (by rw[mW];exact dp),h2];rfl
  | field t x i=>
    rw[ho]at h;obtain⟨cs,hq,h⟩:=ye (bq hρ h);obtain⟨fo,hfo,h⟩:=bg h;obtain⟨fs,hd,XC⟩:=yW hfo;obtain⟨d,hu,ph⟩:=gF hC (t:=t) (by rw[hd];intro e;cases e);rw[hd]at ph;obtain⟨fields,fd,rfl,h1,h2,h3⟩:=FL hu ph XC;obtain⟨hx,h⟩:=hC.sE h;obtain⟨v,hr,hk⟩:=NL (cs:=⟨cs⟩) (off:=fo.1) (k:=λr=>k r w.heap) hx h;refine .qt (s:=Instr.field t (ρ x) i) (by simp only[execOp,ho]) ⟨v,λw=>?_,hk⟩;rw[hq];simp only[Instr.field,Sem.run_bind,run_underlying hu,Result.andThen_ok,h1,asAgg,Sem.run_pure,h2,h3,hr]
  | indexAddr t x y=>
    rw[ho]at h;have h:=bq hρ (bq hρ h);obtain⟨kd,i,e2,h⟩:=lh h;refine .qt (s:=Instr.indexAt t (ρ x) (ρ y)) (by simp only[execOp,ho]) ?_;rw[e2]
    cases hd:(C.ti t).d with
    | slice e=>
      rw[hd]at h
      cases hv:ρ x with
      | slice a l c=>
        rw[hv]at h;obtain⟨hx,⟨h0,h1⟩,h⟩:=hC.sE h;obtain⟨p,hp,h⟩:=bg h;obtain⟨d,hu,ph⟩:=oz hC hd;have O4:C.P.underlying t=some (.slice e):=(by cases d <;> simp[au]at ph;subst ph;exact hu);obtain⟨fi,_,_,CR,_,_,mW,_⟩:=hx.get;refine⟨_,λw=>?_,h⟩;rw[hp];simp[Instr.indexAt,asIntOf,run_underlying O4,h0,h1,bO CR,mW,tC]
      | _=>rw[hv]at h;exact h.elim
    | arr n e=>
      rw[hd]at h
      cases hv:ρ x with
      | pointer q=>
        rw[hv]at h;obtain⟨hx,h⟩:=hC.sE h;obtain⟨p,hp,⟨h0,h1⟩,h⟩:=bg h;obtain⟨d,hu,ph⟩:=gF hC (t:=t) (by rw[hd];intro e;cases e);rw[hd]at ph;have O4:C.P.underlying t=some (.array n e):=(by cases d <;> simp[au]at ph;obtain⟨rfl,rfl⟩:=ph;exact hu);obtain⟨fi,_,_,CR,_,_,mW,_⟩:=hx.get;refine⟨_,λw=>?_,h⟩;rw[hp];simp[Instr.indexAt,asIntOf,run_underlying O4,Instr.sureAddr,h0,h1,bO CR,mW,tC]
      | _=>rw[hv]at h;exact h.elim
    | _=>rw[hd]at h;exact h.elim
  | index t x y=>
    rw[ho]at h;have h:=bq hρ (bq hρ h);obtain⟨kd,i,e2,h⟩:=lh h;refine .qt (s:=Instr.index t (ρ x) (ρ y)) (by simp only[execOp,ho]) ?_;rw[e2]
    cases hd:(C.ti t).d with
    | arr n e=>
      rw[hd]at h
      cases hv:ρ x with
      | agg cs=>
        rw[hv]at h;obtain⟨hx,⟨h0,h1⟩,h⟩:=hC.sE h;obtain⟨d,hu,ph⟩:=gF hC (t:=t) (by rw[hd];intro e;cases e);rw[hd]at ph;have O4:C.P.underlying t=some (.array n e):=(by cases d <;> simp[au]at ph;obtain⟨rfl,rfl⟩:=ph;exact hu);obtain⟨fi,_,_,CR,_,_,mW,_⟩:=hx.get;obtain⟨v,hr,hk⟩:=NL (cs:=cs) (off:=scale i.toNat (C.ti e).cells) (k:=λr=>k r w.heap) hx h;refine⟨v,λw=>?_,hk⟩;rw[tC]at hr;simp[Instr.index,asIntOf,run_underlying O4,h0,h1,bO CR,mW,hr]
      | _=>rw[hv]at h;exact h.elim
    | str=>
      rw[hd]at h
      cases hv:ρ x with
      | string s=>
        rw[hv]at h;obtain⟨⟨h0,h1⟩,b,hb,h⟩:=h;obtain⟨d,hu,ph⟩:=gF hC (t:=t) (by rw[hd];intro e;cases e);rw[hd]at ph;have O4:C.P.underlying t=some .string:=by cases d <;> simp[au]at ph;exact hu
        have wH:s[i.toNat]?=some b:=by
          rw[ByteArray.toList_eq]at hb
          have bK:i.toNat<s.data.toList.length:=by
            rcases Nat.lt_or_ge i.toNat s.data.toList.length with hh|hh
            · exact hh
            · rw[List.getElem?_eq_none hh]at hb;cases hb
          have EV:i.toNat<s.size:=(by simpa using bK);rw[getElem?_pos s i.toNat EV];rw[List.getElem?_eq_getElem bK]at hb;show some s.data[i.toNat]=some b;simpa using hb
        refine⟨bv b,λw=>?_,h⟩;simp[Instr.index,asIntOf,run_underlying O4,h0,wH,bv]
      | _=>rw[hv]at h;exact h.elim
    | _=>rw[hd]at h;exact h.elim
  | extract x i=>
    rw[ho]at h;obtain⟨vs,e1,h⟩:=Ly (bq hρ h);obtain⟨v,hv,h⟩:=bg h;refine .qt (s:=Instr.extract (ρ x) i) (by simp only[execOp,ho]) ⟨v,λw=>?_,h⟩;rw[e1];have hv':(⟨vs⟩:Array Value)[i]?=some v:=(by simpa using hv);simp only[Instr.extract,hv',Sem.run_pure]
  | sliceToArrayPointer t x=>
    rw[ho]at h;obtain⟨a,l,c,e1,h⟩:=lj (bq hρ h)
    cases hd:(C.ti t).d with
    | arr n e=>
      rw[hd]at h;obtain⟨h1,h⟩:=h;obtain⟨d,hu,ph⟩:=gF hC (t:=t) (by rw[hd];intro e;cases e);rw[hd]at ph;have O4:C.P.underlying t=some (.array n e):=(by cases d <;> simp[au]at ph;obtain⟨rfl,rfl⟩:=ph;exact hu);refine .qt (s:=Instr.arrayAt t (ρ x)) (by simp only[execOp,ho]) ⟨.pointer a,λw=>?_,h⟩;rw[e1];simp only[Instr.arrayAt,Sem.run_bind,run_underlying O4,Result.andThen_ok];rw[if_neg (by omega)];rfl
    | _=>rw[hd]at h;exact h.elim
  | call c=>
    obtain⟨callee,args,argTypes⟩:=c;have tF:args.map ρ=⟨args.toList.map ρ⟩:=(by apply Array.ext';simp);have Uq:argTypes=⟨argTypes.toList⟩:=by simp
    cases callee with
    | builtin b=>
      have he:∀(s:Sem Value),builtin b argTypes o.type (args.map fun| .const _=>true|_=>false) (args.map ρ)=(do Pure.pure (.value (<-s)))->execOp ρ o=(do Pure.pure (.value (<-s))):=by
        intro s hs;rw[<-hs];simp only[execOp,ho,resolve];rfl
      cases b with
      | len=>
        rw[ho]at h;have h:=iX hρ (show Aa f args.toList [] _ from h);simp only[List.nil_append]at h
        split at h
        · rename_i u t e1 e2
          rw[ho]at hq;have hnm:∀a b,(C.ti t).d≠.map a b:=λa b e=>by simp[LC,e2,e,Rp]at hq
          have h:Y2 (C.ti t).d u λr=>k r w.heap:=by
            split at h
            · rename_i a b e;exact absurd e (hnm a b)
            · exact h
          refine .qt (he (Builtin.len_ argTypes o.type (args.map ρ)) rfl) ?_;rw[tF,e1,Uq,e2];have dp:(C.ti t).d≠.other:=(by intro e;rw[e]at h;cases u <;> exact h.elim);obtain⟨d,hu,ph⟩:=gF hC dp;rw[<-ph]at h;exact NM hu h _
        · exact h.elim
      | cap=>
        rw[ho]at h;have h:=iX hρ (show Aa f args.toList [] _ from h);simp only[List.nil_append]at h
        split at h
        · rename_i u t e1 e2
          refine .qt (he (Builtin.cap_ argTypes o.type (args.map ρ)) rfl) ?_;rw[tF,e1,Uq,e2];have dp:(C.ti t).d≠.other:=(by intro e;rw[e]at h;cases u <;> exact h.elim);obtain⟨d,hu,ph⟩:=gF hC dp;rw[<-ph]at h;exact U2 hu h _
        · exact h.elim
      | min=>
        rw[ho]at h;have h:=iX hρ (show Aa f args.toList [] _ from h);simp only[List.nil_append]at h
        split at h
        · rename_i u v e1
          refine .qt (he (Builtin.min_ argTypes o.type (args.map ρ)) rfl) ?_;rw[tF,e1];exact U0 h _ _
        · exact h.elim
      | max=>
        rw[ho]at h;have h:=iX hρ (show Aa f args.toList [] _ from h);simp only[List.nil_append]at h
        split at h
        · rename_i u v e1
          refine .qt (he (Builtin.max_ argTypes o.type (args.map ρ)) rfl) ?_;rw[tF,e1];exact U1 h _ _
        · exact h.elim
      | _=>rw[ho]at hq;exact(by cases hq)
    | value x=>rw[ho]at hq;exact(by cases hq)
    | invoke r m=>rw[ho]at hq;exact(by cases hq)
  | _=>rw[ho]at hq;exact(by cases hq)
theorem O5{C:Ctx}(hC:kN C){s t:Nat}{v:Value}{w:World}{k:KT}(h:CI C (Nat.beq s t) (C.ti s).d (C.ti t).d v w.heap k):To C.P (convert s t v) w k:=by
  cases hs:(C.ti s).d with
  | str=>
    cases ht:(C.ti t).d with
    | slice e=>
      rw[hs,ht]at h;simp only[CI]at h
      cases hb:xz (C.ti e).d with
      | false=>rw[hb]at h;exact h.elim
      | true=>
        rw[hb]at h
        cases v with
        | string b=>
          have h:∀cap:Nat,b.size<=cap->k (.slice (some ⟨w.heap.size,0,none⟩) b.size cap) (vz w.heap (b.toList.map bv++List.replicate (cap-b.size) (bv 0)) e):=h;obtain⟨_,ds,_,_,Rn,Ro,_⟩:=(hC.CN (t:=s) (by rw[hs];intro e;cases e)).get;obtain⟨_,dt,_,_,O3,EJ,_⟩:=(hC.CN (t:=t) (by rw[ht];intro e;cases e)).get;have he:(C.ti e).d≠.other:=(by intro e';rw[e']at hb;simp[xz]at hb);obtain⟨_,de,_,_,Zm,Zn,_⟩:=(hC.CN he).get;rw[hs]at Ro;rw[ht]at EJ;rw[<-Zn]at hb;have h1:C.P.underlying s=some .string:=(by cases ds <;> simp[au]at Ro;exact Rn);have h2:C.P.underlying t=some (.slice e):=by cases dt <;> simp[au]at EJ;subst EJ;exact O3
          have h3:C.P.underlying e=some (.int .u8):=by
            cases de <;> simp[au,xz]at hb
            rename_i kd
            cases kd <;> simp at hb
            exact Zm
          refine⟨_,_,run_bytes_of_string w s t e b h1 h2 h3,⟨rfl,rfl,rfl⟩,?_⟩;have hk:=h _ (grownCap_ge w b.size 0 e)
          have ec:bytesRow b (grownCap w b.size 0 e)=⟨b.toList.map bv++List.replicate (grownCap w b.size 0 e-b.size) (bv 0)⟩:=by
            apply Array.ext';have eb:b.toList=b.data.toList:=(by obtain⟨⟨l⟩⟩:=b;simp);simp[bytesRow,eb,bv]
          rw[ec];exact hk
        | _=>exact h.elim
    | _=>rw[hs,ht]at h;exact h.elim
  | slice e0=>
    cases ht:(C.ti t).d with
    | slice e=>
      rw[hs,ht]at h;simp only[CI]at h
      cases hb:(Nat.beq s t && xz (C.ti e).d)with
      | false=>rw[hb]at h;exact h.elim
      | true=>
        rw[hb]at h;rw[Bool.and_eq_true]at hb;obtain⟨qS,hb⟩:=hb;have qS:=Nat.eq_of_beq_eq_true qS;subst qS;obtain⟨a,l,c,rfl,h⟩:=lj h;obtain⟨p,rfl,h⟩:=bg h;obtain⟨_,dt,_,_,O3,EJ,_⟩:=(hC.CN (t:=s) (by rw[ht];intro e;cases e)).get;have he:(C.ti e).d≠.other:=(by intro e';rw[e']at hb;simp[xz]at hb);obtain⟨_,de,_,_,Zm,Zn,_⟩:=(hC.CN he).get;rw[ht]at EJ;rw[<-Zn]at hb;have h2:C.P.underlying s=some (.slice e):=by cases dt <;> simp[au]at EJ;subst EJ;exact O3
        have h3:C.P.underlying e=some (.int .u8):=by
          cases de <;> simp[au,xz]at hb
          rename_i kd
          cases kd <;> simp at hb
          exact Zm
        refine⟨.slice (some p) l c,{ w with heap:=qZ w.heap p.block },?_,⟨rfl,rfl,rfl⟩,h⟩
        have hm:(markStringish p).run C.P w = .ok () { w with heap:=qZ w.heap p.block }:=by
          simp only[markStringish,Sem.run_bind,run_shape,Result.andThen_ok];unfold World.shape? qZ
          cases hw:w.heap[p.block]? with
          | none=>rfl
          | some o=>
            cases o with
            | cells c e z=>simp only[run_freeze];unfold World.freeze;rw[if_neg (by decide)];rfl
            | _=>rfl
        simp[convert,run_underlying h2,run_underlying h3,hm]
    | _=>rw[hs,ht]at h;exact h.elim
  | _=>rw[hs]at h;cases ht:(C.ti t).d <;> (rw[ht]at h;exact h.elim)
theorem NN{P:Program}{x:TI}(hx:cA P t x)(w:World):∃z,(zeroValue t).run P w = .ok z w/\z=zeroV x:=by
  obtain⟨i,d,z,hi,hd,xX,_,_,hz,Hz⟩:=hx.get;refine⟨z,by simp[zeroValue,iN hi,hz],?_⟩;have ha:=hx.zag;simp only[hi,Option.bind_some,hz,Option.map_some,Option.some.injEq]at ha;unfold zeroV
  cases z with
  | agg a=>
    have ha:Ci x.d.ty=true:=ha.symm;have:x.zero=a.toList:=Hz.symm
    cases hq:x.d.ty <;> rw[hq]at ha <;> first|(cases ha)|skip
    rw[this]
  | _=>
    have ha:Ci x.d.ty=false:=ha.symm;rw[<-Hz]
    cases hq:x.d.ty <;> rw[hq]at ha <;> first|rfl|(cases ha)
theorem NO{C:Ctx}(hC:kN C){f:Fr}{ρ:Operand->Value}(hρ:Fit f ρ)(o:Oper){t:Nat}{m x y:Operand}{k:KT}{w:World}
    (he:execOp ρ o=(do Instr.mapUpdate t (ρ m) (ρ x) (ρ y);Pure.pure .skip))
    (h:nO f m λu=>nO f x λv=>nO f y λz=>(match (C.ti t).d with
      | .map kt _=>Ja (C.ti kt).d v λkey=>uX u λq=>ae q λr=>CJ (C.ti kt).d r key z w.heap λh'=>k undef h'
      | _=>False)):xC C.P ρ o w (HK w k):=by
  have h:=bq hρ (bq hρ (bq hρ h))
  split at h
  · rename_i kt et hd
    obtain⟨key,hx,e2,h,dp⟩:=wJ h;obtain⟨q,e1,h⟩:=mB h;obtain⟨r,rfl,mm,hA,hk⟩:=bg h;obtain⟨d,hu,ph⟩:=gF hC (t:=t) (by rw[hd];intro e;cases e);rw[hd]at ph;obtain⟨dk,U3,Rq⟩:=gF hC dp;have hm:C.P.underlying t=some (.map kt et):=(by cases d <;> simp[au]at ph;obtain⟨rfl,rfl⟩:=ph;exact hu);rw[<-Rq]at hx e2 hA hk;obtain⟨h',hT,hr⟩:=HB (v:=ρ y) hm U3 hA hx;refine .inr (.inl ⟨{ w with heap:=h' },?_,⟨rfl,rfl,rfl⟩,hk h' hT⟩);rw[he,e1,e2,Sem.run_bind,hr];rfl
  · exact h.elim
theorem C4{C:Ctx}(hC:kN C){f:Fr}{ρ:Operand->Value}(hρ:Fit f ρ)(o:Oper){k:KT}{w:World}(h:xH C f o.op o.type k w.heap) :
    xC C.P ρ o w (HK w k):=by
  by_cases hq:LC C o.op=true
  · exact(Jn hC hρ o hq h).op
  cases ho:o.op with
  | alloc e=>
    rw[ho]at h;obtain⟨hx,hk⟩:=hC.sE h;obtain⟨i,d,z,hi,_,_,_,_,hz,Hz⟩:=hx.get;have Zb:(zeroValue e).run C.P w = .ok z w:=(by simp[zeroValue,iN hi,hz]);refine .val (s:=Instr.alloc e true (.tuple #[])) (by simp only[execOp,ho]) ⟨Hm w.heap,w.alloc (.cells z.cells e),?_,⟨rfl,rfl,rfl⟩,?_⟩
    · simp only[Instr.alloc,Sem.run_bind,Zb,Result.andThen_ok,newVar,newRow,run_newObj,Sem.run_pure]
      rfl
    · have Zh:z.cells=⟨(C.ti e).zero⟩:=by apply Array.ext';rw[<-jE,Hz]
      rw[Zh];exact hk
  | box e x=>
    rw[ho]at h;have hk:=bq hρ h;refine .val (s:=Instr.box e (ρ x)) (by simp only[execOp,ho]) ⟨Hm w.heap,w.alloc (.cells (ρ x).cells e),?_,⟨rfl,rfl,rfl⟩,?_⟩
    · simp only[Instr.box,Sem.run_bind,newVar,newRow,run_newObj,Sem.run_pure,Result.andThen_ok]
      rfl
    · have Zh:(ρ x).cells=⟨kK (ρ x)⟩:=by apply Array.ext';rw[<-jE]
      show k (Hm w.heap) (w.heap.push (.cells (ρ x).cells e));rw[Zh];exact hk
  | buildSlice t n parts=>
    rw[ho]at h;refine .val (s:=Instr.buildSlice t n (parts.map λ(i,x)=>(i,ρ x))) (by simp only[execOp,ho]) ?_
    cases hd:(C.ti t).d with
    | slice e=>
      simp only[xH,hd]at h;obtain⟨NJ,h⟩:=hC.sE h
      cases hb:(te n parts.toList && Nat.ble (n*(C.ti e).cells) 16777216)with
      | false=>rw[hb]at h;exact h.elim
      | true=>
        rw[hb]at h;simp only[Bool.and_eq_true]at hb;exact EU (oz hC hd) NJ hρ hb.1 hb.2 h
    | _=>simp only[xH,hd]at h
  | store t x y=>
    rw[ho]at h;obtain⟨p,hq,h⟩:=rS hρ h;obtain⟨hx,h⟩:=hC.sE (bq hρ h);obtain⟨w',hr,hs,hk⟩:=Jd hx h;refine .inr (.inl ⟨w',?_,hs,hk⟩);simp only[execOp,ho,hq,Instr.storeAt,Instr.sureAddr,Sem.run_bind,Sem.run_pure,Result.andThen_ok,hr]
  | convert s t x=>
    rw[ho]at h;rw[ho]at hq;have hns:yQ (C.ti t).d=true:=(by simpa[LC]using hq);have h:=bq hρ h;rw[hns]at h;exact .val (s:=convert s t (ρ x)) (by simp only[execOp,ho]) (O5 hC (show CI C (Nat.beq s t) (C.ti s).d (C.ti t).d (ρ x) w.heap k from h))
  | makeSlice t x y=>
    rw[ho]at h;have h:=bq hρ (bq hρ h);obtain⟨kl,l,e1,h⟩:=lh h;obtain⟨kc,c,e2,h⟩:=lh h
    cases hd:(C.ti t).d with
    | slice e=>
      rw[hd]at h;obtain⟨hx,h⟩:=hC.sE h;exact .val (s:=Instr.makeSlice t (ρ x) (ρ y)) (by simp only[execOp,ho]) (by rw[e1,e2];exact Ra (oz hC hd) hx h)
    | _=>rw[hd]at h;exact h.elim
  | call c=>
    obtain⟨callee,args,argTypes⟩:=c;have tF:args.map ρ=⟨args.toList.map ρ⟩:=(by apply Array.ext';simp);have Uq:argTypes=⟨argTypes.toList⟩:=by simp
    cases callee with
    | builtin b=>
      have he:∀(s:Sem Value),builtin b argTypes o.type (args.map fun| .const _=>true|_=>false) (args.map ρ)=(do Pure.pure (.value (<-s)))->execOp ρ o=(do Pure.pure (.value (<-s))):=by
        intro s hs;rw[<-hs];simp only[execOp,ho,resolve];rfl
      cases b with
      | append=>
        rw[ho]at h;have h:=iX hρ (show Aa f args.toList [] _ from h);simp only[List.nil_append]at h
        split at h
        · rename_i u v t t' e1 e2
          refine .val (he (Builtin.append_ argTypes o.type (args.map ρ)) rfl) ?_;rw[tF,e1,Uq,e2]
          have key:∀e,(C.ti t).d = .slice e->((∃e',(C.ti t').d = .slice e')∨(C.ti t').d = .str)->
              sE (C.ti e) (rv u λa l c=>UN (C.ti e) w.heap v λn new=>aH (C.ti e) e a l c n new w.heap λa' l' c' h'=>k (.slice a' l' c') h')->
              To C.P (Builtin.append_ ⟨[t,t']⟩ o.type ⟨[u,v]⟩) w k:=by
            intro e hd Lg h;obtain⟨hx,h⟩:=hC.sE h;obtain⟨a,l,c,rfl,h⟩:=lj h;obtain⟨n,new,hs,h⟩:=UT (P:=C.P) h
            have QA:(∃e',C.P.underlying t'=some (.slice e'))∨C.P.underlying t'=some .string:=by
              rcases Lg with⟨e',Lg⟩|Lg
              · obtain⟨d,hu,ph⟩:=oz hC Lg
                cases d <;> simp[au]at ph
                exact .inl ⟨_,hu⟩
              · obtain⟨d,hu,ph⟩:=gF hC (t:=t') (by rw[Lg];intro e;cases e)
                rw[Lg]at ph
                cases d <;> simp[au]at ph
                exact .inr hu
            exact(OX (oz hC hd) QA hx hs h).mono λr h' ⟨a',l',c',e,hk⟩=>by rw[e];exact hk
          split at h
          · rename_i e e' hd Lg
            exact key e hd (.inl ⟨e',Lg⟩) h
          · rename_i e hd Lg
            exact key e hd (.inr Lg) h
          · exact h.elim
        · exact h.elim
      | clear=>
        rw[ho]at h;have h:=iX hρ (show Aa f args.toList [] _ from h);simp only[List.nil_append]at h
        split at h
        · rename_i u t e1 e2
          refine .val (he (Builtin.clear_ argTypes o.type (args.map ρ)) rfl) ?_;rw[tF,e1,Uq,e2]
          split at h
          · rename_i e hd
            obtain⟨hx,h⟩:=hC.sE h;obtain⟨a,l,c,hu,h2⟩:=lj h;subst hu;exact(Rb (oz hC hd) hx h2).mono λr h' ⟨e,hk⟩=>by rw[e];exact hk
          · exact h.elim
        · exact h.elim
      | copy=>
        rw[ho]at h;have h:=iX hρ (show Aa f args.toList [] _ from h);simp only[List.nil_append]at h
        split at h
        · rename_i u v t t' e1 e2
          refine .val (he (Builtin.copy_ argTypes o.type (args.map ρ)) rfl) ?_;rw[tF,e1,Uq,e2]
          split at h
          · rename_i e hd
            obtain⟨hx,h⟩:=hC.sE h;obtain⟨a,l,c,hu,h2⟩:=lj h;subst hu;exact(UW (oz hC hd) hx h2).mono λr h' ⟨m,e,hk⟩=>by rw[e];exact hk
          · exact h.elim
        · exact h.elim
      | delete=>
        rw[ho]at h;have h:=iX hρ (show Aa f args.toList [] _ from h);simp only[List.nil_append]at h
        split at h
        · rename_i u v t ts e1 e2
          refine .val (he (Builtin.delete_ argTypes o.type (args.map ρ)) rfl) ?_;rw[tF,e1,Uq,e2]
          split at h
          · rename_i kt et hd
            obtain⟨x,hx,rfl,h,dp⟩:=wJ h;obtain⟨q,rfl,h⟩:=mB h;obtain⟨d,hu,ph⟩:=gF hC (t:=t) (by rw[hd];intro e;cases e);rw[hd]at ph;obtain⟨dk,U3,Rq⟩:=gF hC dp;have hm:C.P.underlying t=some (.map kt et):=(by cases d <;> simp[au]at ph;obtain⟨rfl,rfl⟩:=ph;exact hu);rw[<-Rq]at h hx ⊢
            cases q with
            | none=>
              refine⟨.tuple #[],w,?_,.refl _,h⟩;show(Builtin.delete_ ⟨t::ts⟩ o.type #[.map none,my (au dk) x]).run C.P w=_;simp[Builtin.delete_,run_underlying hm,MapKept.run_checkKey U3 (rR hx),Result.andThen]
            | some r=>
              obtain⟨m,hA,hk⟩:=h;obtain⟨h',hT,hr⟩:=O0 (ty:=o.type) hm U3 hA hx ts;exact⟨_,_,hr,⟨rfl,rfl,rfl⟩,hk h' hT⟩
          · exact h.elim
        · exact h.elim
      | len=>
        rw[ho]at h;have h:=iX hρ (show Aa f args.toList [] _ from h);simp only[List.nil_append]at h
        split at h
        · rename_i u t e1 e2
          refine .val (he (Builtin.len_ argTypes o.type (args.map ρ)) rfl) ?_;rw[tF,e1,Uq,e2]
          split at h
          · rename_i kt et hd
            obtain⟨q,rfl,h⟩:=mB h;obtain⟨hxk,h⟩:=hC.sE h;obtain⟨_,dk,_,_,U3,Rq,_⟩:=hxk.get;obtain⟨d,hu,ph⟩:=gF hC (t:=t) (by rw[hd];intro e;cases e);rw[hd]at ph;have hm:C.P.underlying t=some (.map kt et):=(by cases d <;> simp[au]at ph;obtain⟨rfl,rfl⟩:=ph;exact hu);rw[<-Rq]at h
            cases q with
            | none=>exact⟨_,w,FG (dc:=dk) (m:=[]) hm rfl,.refl _,h⟩
            | some r=>
              obtain⟨m,hA,hk⟩:=h;exact⟨_,w,FG (dc:=dk) (m:=m) hm hA,.refl _,hk⟩
          · rename_i hnm
            have dp:(C.ti t).d≠.other:=(by intro e;rw[e]at h;cases u <;> exact h.elim);obtain⟨d,hu,ph⟩:=gF hC dp;rw[<-ph]at h;obtain⟨v,h1,h2⟩:=NM hu h o.type;exact⟨v,w,h1 w,.refl _,h2⟩
        · exact h.elim
      | _=>first|(rw[ho]at hq;exact(hq rfl).elim)|(rw[ho]at h;exact h.elim)
    | value x=>
      cases x with
      | func g=>
        rw[ho]at h;have h:=iX hρ (show Aa f args.toList [] _ from h);simp only[List.nil_append]at h;have hg:=hρ (.func g) _ rfl
        have XD:execOp ρ o=callFunc g ⟨args.toList.map ρ⟩:=by
          simp only[execOp,ho,resolve,hg,Deferred.ofValue,tF];show callFunc g _=_;congr 1;apply Array.ext';simp
        cases hn:C.nat.any (Nat.beq g)with
        | false=>rw[hn]at h;exact NK (g:=g) (args:=args.toList.map ρ) XD h
        | true=>
          rw[hn,cond_true]at h;obtain⟨g',XE,hb⟩:=List.any_eq_true.mp hn;have hb:=Nat.eq_of_beq_eq_true hb;subst hb
          split at h
          · rename_i u v e1
            obtain⟨s,eu,h2⟩:=uA h;obtain⟨kd,c,ev,hk8,h3⟩:=lh h2;subst hk8;exact .inl ⟨_,w,by rw[XD,e1,eu,ev];exact hC.nat g XE s c w,.refl _,h3⟩
          · exact h.elim
      | tmp s=>
        rw[ho]at h;have h:=iX hρ (show Aa f args.toList [] _ from bq hρ (show nO f (.tmp s) _ from h));simp only[List.nil_append]at h;unfold cT at h
        split at h
        · rename_i g fs cs hv
          refine NK (g:=g) (args:=fs.toList++args.toList.map ρ++cs.toList) ?_ h;simp only[execOp,ho,resolve,hv,Deferred.ofValue,tF];show callFunc g _=_;congr 1;apply Array.ext';simp
        · rename_i l fs cs hv
          obtain⟨fn,tmps,assign,body,hy,hR⟩:=h w rfl;refine .inr (.inr (.inr ⟨l,fn,tmps,assign,body,?_,hR.mono λe w' ⟨u,h1,h2,h3⟩=>⟨u,h1,h2,yf h3⟩⟩))
          have he:execOp ρ o=Instr.yield l ⟨fs.toList++args.toList.map ρ⟩:=by
            simp only[execOp,ho,resolve,hv,Deferred.ofValue,tF];show Instr.yield l _=_;congr 1;apply Array.ext';simp
          rw[he];exact hy
        · exact h.elim
      | _=>rw[ho]at h;exact h.elim
    | invoke r m=>rw[ho]at h;exact h.elim
  | makeMap t r=>
    cases r with
    | none=>
      rw[ho]at h;refine .val (s:=Instr.makeMap t none) (by simp only[execOp,ho];rfl) ⟨.map (some w.heap.size),w.alloc (.map #[] 0),?_,⟨rfl,rfl,rfl⟩,h⟩;simp[Instr.makeMap,Result.andThen]
    | some x=>rw[ho]at h;exact h.elim
  | insert t m x y=>exact NO (t:=t) (m:=m) (x:=x) (y:=y) hC hρ o (by simp only[execOp,ho]) (by rw[ho]at h;exact h)
  | mapUpdate t m x y=>exact NO (t:=t) (m:=m) (x:=x) (y:=y) hC hρ o (by simp only[execOp,ho]) (by rw[ho]at h;exact h)
  | lookup t m x ok=>
    rw[ho]at h;have h:=bq hρ (bq hρ (show nO f m _ from h));refine .val (s:=Instr.lookup t (ρ m) (ρ x) ok) (by simp only[execOp,ho]) ?_
    split at h
    · rename_i kt et hd
      obtain⟨NJ,h⟩:=hC.sE h;obtain⟨key,hx,e2,h,dp⟩:=wJ h;obtain⟨q,e1,h⟩:=mB h;obtain⟨d,hu,ph⟩:=gF hC (t:=t) (by rw[hd];intro e;cases e);rw[hd]at ph;obtain⟨dk,U3,Rq⟩:=gF hC dp;have hm:C.P.underlying t=some (.map kt et):=(by cases d <;> simp[au]at ph;obtain⟨rfl,rfl⟩:=ph;exact hu);rw[<-Rq]at h hx e2;obtain⟨z,hz,ez⟩:=NN NJ w;rw[e1,e2]
      have main:∀mm:qW,(match (generalizing:=false) q with|none=>mm=[]|some r=>mz (au dk) w.heap r mm)->
          QT (C.ti et).d.ty (λr=>(mX mm key).getD (zeroV (C.ti et))=r) (λr=>bif ok then k (.tuple #[r,.bool (mX mm key).isSome]) w.heap else k r w.heap)->To C.P (Instr.lookup t (.map q) (my (au dk) key) ok) w k:=by
        intro mm hA hk;obtain⟨r,hr,hk⟩:=mA hk;refine⟨_,w,O1 hm U3 hz hA hx,.refl _,?_⟩;rw[ez,hr]
        cases ok <;> exact hk
      cases q with
      | none=>exact main [] rfl h
      | some r=>
        obtain⟨mm,hA,hk⟩:=h;exact main mm hA hk
    · exact h.elim
  | mapEntry t m x=>
    rw[ho]at h;have h:=bq hρ (bq hρ (show nO f m _ from h));refine .val (s:=Instr.mapEntry t (ρ m) (ρ x)) (by simp only[execOp,ho]) ?_
    split at h
    · rename_i kt et hd
      obtain⟨NJ,h⟩:=hC.sE h
      have hh:(nT (C.ti kt).d && nT (C.ti et).d)=true:=by
        cases e:nT (C.ti kt).d && nT (C.ti et).d
        · rw[e]at h;exact h.elim
        · rfl
      rw[hh]at h
      have hkt:(C.ti kt).d = .int .i64:=by
        have:=(Bool.and_eq_true _ _▸hh:nT (C.ti kt).d=true/\nT (C.ti et).d=true).1;unfold nT at this
        split at this
        · assumption
        · cases this
      have h:zeroV (C.ti et) = .int .i64 0/\Ja (C.ti kt).d (ρ x) _:=h;obtain⟨hz0,h⟩:=h;rw[hkt]at h;obtain⟨key,hx,e2,h,_⟩:=wJ h;obtain⟨q,e1,h⟩:=mB h;obtain⟨r,rfl,mm,hA,hk⟩:=bg h;obtain⟨d,hu,ph⟩:=gF hC (t:=t) (by rw[hd];intro e;cases e);rw[hd]at ph;obtain⟨dk,U3,Rq⟩:=gF hC (t:=kt) (by rw[hkt];intro e;cases e);have hm:C.P.underlying t=some (.map kt et):=by cases d <;> simp[au]at ph;obtain⟨rfl,rfl⟩:=ph;exact hu
      have hki:C.P.underlying kt=some (.int .i64):=by
        rw[hkt]at Rq
        cases dk <;> simp[au]at Rq
        subst Rq;exact U3
      obtain⟨z,hz,ez⟩:=NN NJ w;rw[hz0]at ez;subst ez;obtain⟨z,s,h',hE,hr⟩:=Ji hm hki hz hA hx;rw[e1,e2];exact⟨_,_,hr,⟨rfl,rfl,rfl⟩,hk z s h' hE⟩
    · exact h.elim
  | entryStore t m s x=>
    rw[ho]at h;have h:=bq hρ (bq hρ (bq hρ (show nO f m _ from h)))
    split at h
    · rename_i kt et hd
      have hh:(nT (C.ti kt).d && nT (C.ti et).d)=true:=by
        cases e:nT (C.ti kt).d && nT (C.ti et).d
        · rw[e]at h;exact h.elim
        · rfl
      rw[hh]at h;obtain⟨q,e1,h⟩:=mB (show uX (ρ m) _ from h);obtain⟨r,rfl,h⟩:=bg h;obtain⟨kd1,sn,e2,h⟩:=lh h;obtain⟨kd,z,e3,rfl,mm,key,hA,hS,hk⟩:=lh h
      have hx:kM (.int .i64) key=true:=by
        obtain⟨es,clock,e,hb,vl,_,BX⟩:=hS;obtain⟨XA,ck2,XB,he,_,_⟩:=hA;rw[hb]at XB
        cases XB
        cases key with
        | i n=>rfl
        | s b=>
          exfalso;have:(e.key,e.val)∈es.toList.map (λe=>(e.key,e.val)):=List.mem_map.mpr ⟨e,vl,rfl⟩;rw[he]at this;obtain⟨p,hp,e1⟩:=List.mem_map.mp this;obtain⟨q,_,rfl⟩:=List.mem_map.mp hp;have e1:my (.int .i64) (.i q.1)=e.key:=congrArg Prod.fst e1;rw[BX]at e1
          cases e1
      obtain⟨h',hT,hr⟩:=ET (t:=t) (P:=C.P) (z:=z) hA hS hx;refine .inr (.inl ⟨{ w with heap:=h' },?_,⟨rfl,rfl,rfl⟩,hk h' hT⟩)
      have hr':(Instr.entryStore t (ρ m) (ρ s) (ρ x)).run C.P w = .ok () { w with heap:=h' }:=by
        rw[e1,e2,e3];simp only[Instr.entryStore,asInt,asIntOf]at hr ⊢;exact hr
      simp only[execOp,ho];rw[Sem.run_bind,hr'];rfl
    · exact h.elim
  | range t x=>
    rw[ho]at h;have h:=bq hρ (show nO f x _ from h);refine .val (s:=Instr.range t (ρ x)) (by simp only[execOp,ho]) ?_
    split at h
    · rename_i hd
      obtain⟨s,e1,h⟩:=uA h;obtain⟨d,hu,ph⟩:=gF hC (t:=t) (by rw[hd];intro e;cases e);rw[hd]at ph;have hm:C.P.underlying t=some .string:=(by cases d <;> simp[au]at ph;exact hu);rw[e1];refine⟨Hm w.heap,w.alloc (.stringIter s 0),?_,⟨rfl,rfl,rfl⟩,h⟩;simp[Instr.range,run_underlying hm,Result.andThen];rfl
    · rename_i kt et hd
      have hh:(nT (C.ti kt).d && nT (C.ti et).d)=true:=by
        cases e:nT (C.ti kt).d && nT (C.ti et).d
        · rw[e]at h;exact h.elim
        · rfl
      rw[hh]at h;obtain⟨q,e1,h⟩:=mB (show uX (ρ x) _ from h);obtain⟨r,rfl,m,⟨es,clock,hr,hm,_,qS⟩,hk⟩:=bg h;obtain⟨d,hu,ph⟩:=gF hC (t:=t) (by rw[hd];intro e;cases e);rw[hd]at ph;obtain⟨k',e',U4⟩:∃k' e',C.P.underlying t=some (.map k' e'):=(by cases d <;> simp[au]at ph;exact⟨_,_,hu⟩);rw[e1]
      have bK:r<w.heap.size:=by
        rcases Nat.lt_or_ge r w.heap.size with y|y
        · exact y
        · rw[Array.getElem?_eq_none y]at hr;cases hr
      refine⟨Hm w.heap,w.alloc (.mapIter (some r) clock #[] clock),run_range_map w t k' e' r es clock U4 hr,⟨rfl,rfl,rfl⟩,hk _ ⟨by simp,λb hb=>heap_alloc_old w _ hb,⟨es,clock,clock,#[],clock,(heap_alloc_old w _ bK).trans hr,heap_alloc_new w _,?_,qS,qS.1,nL0,nL0,?_⟩⟩⟩
      · rw[hm,mI,List.map_map];rfl
      · have:(es.toList.filter λe=>!(#[]:Array Nat).contains e.born)=es.toList:=List.filter_eq_self.mpr λx _=>by simp
        rw[this,hm,mI,List.map_map];rfl
    · exact h.elim
  | next x str=>
    cases str with
    | false=>
      rw[ho]at h;obtain⟨p,e1,h⟩:=rS hρ (show nO f x _ from h);obtain⟨h0,r,m,left,H,hN,hS⟩:=h;obtain⟨b,off,sp⟩:=p;have h0:off=0:=h0;subst h0;refine .val (s:=Instr.next (ρ x) false o.type) (by simp only[execOp,ho]) ?_;rw[e1];exact Jm H hN hS
    | true=>
      rw[ho]at h;obtain⟨p,e1,h⟩:=rS hρ (show nO f x _ from h);obtain⟨h0,s,pos,hs,h1,h2⟩:=h;refine .val (s:=Instr.next (ρ x) true o.type) (by simp only[execOp,ho]) ?_;obtain⟨b,off,sp⟩:=p;have h0:off=0:=h0;subst h0;have hs:w.heap[b]?=some (.stringIter s pos):=hs;have hg:(getObj b).run C.P w = .ok (.stringIter s pos) w:=(by simp[getObj,Sem.run,hs]);rw[e1]
      by_cases bK:pos<s.size
      · have HC:∀o',(setObj b o').run C.P w = .ok () { w with heap:=w.heap.setIfInBounds b o' }:=λo'=>by simp[setObj,Sem.run,hs]
        refine⟨_,{ w with heap:=w.heap.setIfInBounds b (.stringIter s (pos+(Utf8.decode s pos).2)) },?_,⟨rfl,rfl,rfl⟩,h1 bK _ ⟨by simp,λb' wH=>(MapKept.heap_set hs).2 b' wH,(MapKept.heap_set hs).1⟩⟩;simp[Instr.next,hg,bK,HC,goInt,Result.andThen]
      · refine⟨_,w,?_,.refl _,h2 bK⟩
        simp[Instr.next,hg,bK,Result.andThen]
  | entry x=>
    rw[ho]at h;obtain⟨p,e1,h⟩:=rS hρ (show nO f x _ from h);obtain⟨h0,r,n,v,⟨es,clock,since,seen,e,hr,hb,hk,hf,ek,ev⟩,hh⟩:=h;obtain⟨b,off,sp⟩:=p;have h0:off=0:=h0;subst h0;have hr:w.heap[r]?=some (.map es clock):=hr;have hb:w.heap[b]?=some (.mapIter (some r) since seen clock):=hb;refine .val (s:=Instr.entry (ρ x)) (by simp only[execOp,ho]) ?_;rw[e1];refine⟨.tuple #[.int .i64 n,.int .i64 v],w,?_,.refl _,hh⟩;simp only[Instr.entry,getObj,Sem.run_bind,Sem.run,hb,hr,hk,Result.andThen,bne_self_eq_false,Bool.false_eq_true,if_false,hf,ek,ev];rfl
  | _=>first|(rw[ho]at hq;exact(hq rfl).elim)|(rw[ho]at h;exact h.elim)
def toD : Value->Deferred
  | .pointer (some a)=>{ target:=.collected a.block,args:=#[] }
  | .tuple ⟨.func g fs cs::us⟩=>{ target:=.fn g cs,args:=fs++⟨us⟩ }
  | _=>default
theorem Fr.yX(f:Fr):Fr.get f hZ=none:=by
  unfold Fr.get;rw[Nat.beq_refl];rfl
theorem Fr.HG{f:Fr}(h:t≠hZ):Fr.get f t=OR f t:=by
  unfold Fr.get
  cases hb:Nat.beq t hZ with
  | true=>exact absurd (Nat.eq_of_beq_eq_true hb) h
  | false=>rfl
theorem FN(f:Fr)(d t:Nat)(v:Value):OR ((d,v)::f) t=if d=t then some v else OR f t:=by
  show(bif Nat.beq d t then some v else OR f t)=_
  cases h:Nat.beq d t with
  | true=>rw[if_pos (Nat.eq_of_beq_eq_true h)];rfl
  | false=>
    have:d≠t:=λe=>by subst e;rw[Nat.beq_refl]at h;cases h
    rw[if_neg this];rfl
theorem Fr.rT(f:Fr)(d t:Nat)(v:Value)(hd:d≠hZ):Fr.get ((d,v)::f) t=if d=t then some v else Fr.get f t:=by
  by_cases ht:t=hZ
  · subst ht;rw[Fr.yX,Fr.yX,if_neg hd]
  · rw[Fr.HG ht,Fr.HG ht,FN]
theorem Fr.tG(f:Fr)(t:Nat)(v:Value):Fr.get ((hZ,v)::f) t=Fr.get f t:=by
  by_cases ht:t=hZ
  · subst ht;rw[Fr.yX,Fr.yX]
  · rw[Fr.HG ht,Fr.HG ht,FN,if_neg λe=>ht e.symm]
theorem Fr.Cm{f:Fr}{v:Value}(h:Fr.get f t=some v):t≠hZ:=λe=>by subst e;rw[Fr.yX]at h;cases h
theorem tH(f:Fr)(d:Nat)(v:Value)(hd:d≠hZ):ur ((d,v)::f)=ur f:=by
  show(bif Nat.beq d hZ then v::ur f else ur f)=_
  cases h:Nat.beq d hZ with
  | true=>exact absurd (Nat.eq_of_beq_eq_true h) hd
  | false=>rfl
theorem wL(f:Fr)(v:Value):ur ((hZ,v)::f)=v::ur f:=by
  show(bif Nat.beq hZ hZ then v::ur f else ur f)=_;rw[Nat.beq_refl];rfl
theorem Fr.FO(f:Fr)(t:Nat):∀ds:LV,Fr.get (yN ds f) t=Fr.get f t
  | []=>rfl
  | v::r=>by rw[yN,Fr.tG,Fr.FO f t r]
theorem FP(f:Fr):∀ds:LV,ur (yN ds f)=ds++ur f
  | []=>rfl
  | v::r=>by rw[yN,wL,FP f r];rfl
theorem HH(t:Nat):∀f:Fr,Fr.get (Nr f) t=Fr.get f t
  | []=>rfl
  | (d,v)::r=>by
    show Fr.get (bif Nat.beq d hZ then Nr r else(d,v)::Nr r) t=_
    cases h:Nat.beq d hZ with
    | true=>
      have:=Nat.eq_of_beq_eq_true h;subst this;rw[Fr.tG];exact HH t r
    | false=>
      have hd:d≠hZ:=λe=>by subst e;rw[Nat.beq_refl]at h;cases h
      show Fr.get ((d,v)::Nr r) t=_;rw[Fr.rT _ _ _ _ hd,Fr.rT _ _ _ _ hd,HH t r]
theorem HI : ∀f:Fr,ur (Nr f)=[]
  | []=>rfl
  | (d,v)::r=>by
    show ur (bif Nat.beq d hZ then Nr r else(d,v)::Nr r)=_
    cases h:Nat.beq d hZ with
    | true=>exact HI r
    | false=>
      have hd:d≠hZ:=λe=>by subst e;rw[Nat.beq_refl]at h;cases h
      show ur ((d,v)::Nr r)=_;rw[tH _ _ _ hd,HI r]
structure um(n:Nat)(a:Act)(f:Fr):Prop where
  lim:n<=hZ
  size:a.tmps.size=n
  defers:a.defers=(ur f).map toD
  val:∀t v,Fr.get f t=some v->a.tmps.getD t undef=v
theorem um.fit{n:Nat}{f:Fr}(h:um n a f):Fit f a.eval:=by
  intro x v hx
  cases x with
  | tmp t=>exact h.val t v hx
  | const u=>exact Option.some.inj hx
  | global g=>exact Option.some.inj hx
  | func g=>exact Option.some.inj hx
def tI(n:Nat)(o:Oper):Bool:=
  match o.dst with
  | some d=>Nat.blt d n
  | none=>true
theorem um.put{n:Nat}{a:Act}{f:Fr}(h:um n a f){o:Oper}(hd:tI n o=true)(v:Value):um n (a.put o.dst v) (vk f o.dst v):=by
  unfold tI at hd
  cases sG:o.dst with
  | none=>exact h
  | some d=>
    rw[sG]at hd;have bK:d<n:=Nat.le_of_ble_eq_true hd;have dp:d≠hZ:=Nat.ne_of_lt (Nat.lt_of_lt_of_le bK h.lim);refine⟨h.lim,by simp[Act.put,h.size],by rw[show vk f (some d) v=(d,v)::f from rfl,tH _ _ _ dp];exact h.defers,λt u hu=>?_⟩;rw[show vk f (some d) v=(d,v)::f from rfl,Fr.rT _ _ _ _ dp]at hu
    by_cases e:d=t
    · subst e
      rw[if_pos rfl]at hu;have:=Option.some.inj hu;subst this;simp[Act.put,h.size,bK]
    · rw[if_neg e]at hu
      have:=h.val t u hu;simpa[Act.put,Array.getElem?_setIfInBounds_ne e]using this
def FW(ro:Option Nat):Fence:={ Fence.wide with round:=ro }
theorem yg{ro:Option Nat}{P:Program}{args:Array Value}{R:Ending->World->Prop}(h:Calls P f args w R):CallsIn (FW ro) m P f args w R:=
  (callsIn_wide (n:=m)).2 h
theorem LD{ro:Option Nat}{P:Program}{l:Nat}{tmps:Array Value}{assign body:Code}{R:Ending->World->Prop}(h:RoundIn Fence.wide 0 P l f tmps assign body w R):RoundIn (FW ro) m P l f tmps assign body w R:=
  ⟨trivial,λc cs _=>h.2 c cs (room_wide _)⟩
theorem semAt_plain{ro:Option Nat}{ρ:Operand->Value}{o:Oper}(h:ro=none∨iA o.op=false):Oper.semAt ro ρ o=execOp ρ o:=by
  cases ro with
  | none=>exact Oper.semAt_none ρ o
  | some l=>
    refine Oper.semAt_some l ρ o λc e=>?_
    rcases h with h|h
    · cases h
    · rw[e]at h;cases h
theorem rC{ro:Option Nat}{P:Program}{o:Oper}{k:Value->World->Prop}{next:Act->World->Prop}{Q:Exit->Act->World->Prop}(hd:ro=none∨iA o.op=false)
    (h:xC P a.eval o w k) (hk:∀v w',k v w'->next (a.put o.dst v) w'):o.wpIn (FW ro) m P a w next Q:=by
  refine⟨λ_ _=>trivial,?_⟩;show o.uponIn (FW ro) m P a next Q ((o.semAt ro a.eval).run P w);rw[semAt_plain hd]
  rcases h with⟨v,w',hr,hv⟩|⟨w',hr,hv⟩|⟨g,args,hr,hc⟩|⟨l,fn,tmps,assign,body,hr,hc⟩
  · rw[hr];exact hk _ _ hv
  · rw[hr];exact hk _ _ hv
  · rw[hr,Oper.uponIn_enter]
    exact⟨(λx=>by cases x),yg (hc.mono λe Zi ⟨v,he,hv⟩=>by subst he;exact hk _ _ hv)⟩
  · rw[hr,Oper.uponIn_round]
    exact⟨(λx=>by cases x),LD (hc.mono λe Zi ⟨v,he,hv⟩=>by subst he;exact hk _ _ hv)⟩
theorem FQ{f:Fr}{P:Program}{ρ:Operand->Value}(hρ:Fit f ρ){o:Oper}{w:World}{k:Value->Prop}(hd:iA o.op=true)(h:Af f (CL o.op) k) :
    ∃d,(execOp ρ o).run P w = .ok (.defer (toD d)) w/\k d:=by
  cases ho:o.op with
  | defer c=>
    rw[ho]at h;have h:Af f c k:=h;obtain⟨callee,args,OS⟩:=c
    cases callee with
    | value x=>
      have h:=bq hρ (show nO f x _ from h)
      split at h
      · rename_i g fs cs hv
        have h:=iX hρ h;simp only[List.nil_append]at h;refine⟨_,?_,h⟩;simp only[execOp,ho,resolve,hv,Deferred.ofValue,Sem.run_bind,Sem.run_pure,Result.andThen_ok,toD];congr 3;apply Array.ext';simp
      · exact h.elim
    | builtin b=>exact h.elim
    | invoke r m=>exact h.elim
  | _=>rw[ho]at hd;cases hd
theorem sJ{b:Bool}{v:Value}{k:Value->Prop}(h:vA b v k):k v:=by
  unfold vA at h
  cases b with
  | false=>exact h
  | true=>
    cases v with
    | bool t=>cases t <;> exact h
    | _=>exact h
theorem uB{n:Nat}{f:Fr}(hA:um n a f){full:List Oper}{o:Oper}{k:Bool->Prop}(h:CK full f o.guard k):k (Region.wanted o (yielded full.toArray a.tmps)):=by
  unfold Region.wanted
  cases hg:o.guard with
  | none=>rw[hg]at h;exact h
  | some jw=>
    obtain⟨j,want⟩:=jw;rw[hg]at h;obtain⟨oj,wM,h1⟩:=bg h;obtain⟨d,hd,h2⟩:=bg h1;obtain⟨v,hv,h3⟩:=bg h2;have yY:=hA.val d v hv
    have hy:yielded full.toArray a.tmps j=(match a.tmps[d]? with|some (.bool b)=>some b|_=>none):=by
      unfold yielded;simp only[List.getElem?_toArray,wM,Option.bind_some,hd];rfl
    have hget:a.tmps[d]?=some v∨(a.tmps[d]?=none/\v=undef):=by
      rw[Array.getD_eq_getD_getElem?]at yY
      cases hh:a.tmps[d]? with
      | none=>rw[hh]at yY;exact .inr ⟨rfl,yY.symm⟩
      | some u=>rw[hh]at yY;exact .inl (congrArg some yY)
    show k (yielded full.toArray a.tmps j==some want);rw[hy]
    rcases hget with hh|⟨hh,rfl⟩
    · rw[hh]
      cases v with
      | bool b=>simpa using h3
      | tuple vs=>exact h3
      | _=>exact h3.elim
    · rw[hh];exact h3
def dstsOf(l:List Oper):List Nat:=l.filterMap (·.dst)
def Zp(l:List Oper):List Nat:=bif l.any λo=>iA o.op then[hZ]else[]
def iz : Code->List Nat
  | .region _ ops _=>Zp ops.toList++dstsOf ops.toList
  | .rangeFunc _ _ _ _=>[hZ]
  | .seq a b=>iz a++iz b
  | .cond _ a b=>iz a++iz b
  | .block _ a| .loop a| .scope a=>iz a
  | _=>[]
structure jq(M:List Nat)(a a':Act):Prop where
  tmp:∀t,t ∉ M->a'.tmps.getD t undef=a.tmps.getD t undef
  Rr:hZ ∉ M->a'.defers=a.defers
theorem jq.refl(M:List Nat)(a:Act):jq M a a:=⟨λ_ _=>rfl,λ_=>rfl⟩
theorem jq.trans{M:List Nat}{a b c:Act}(h:jq M a b)(k:jq M b c):jq M a c:=⟨λt ht=>(k.tmp t ht).trans (h.tmp t ht),λx=>(k.Rr x).trans (h.Rr x)⟩
theorem jq.mono{M M':List Nat}(h:jq M a b)(hm:∀ t ∈ M,t ∈ M'):jq M' a b:=⟨λt ht=>h.tmp t λh'=>ht (hm t h'),λx=>h.Rr λh'=>x (hm _ h')⟩
theorem Act.put_defers(a:Act)(d:Option Nat)(v:Value):(a.put d v).defers=a.defers:=by cases d <;> rfl
theorem jq.put{M:List Nat}{a b:Act}(h:jq M a b){o:Oper}(hd:∀ d,o.dst=some d->d ∈ M)(v:Value):jq M a (b.put o.dst v):=by
  refine⟨λt ht=>?_,λx=>(Act.put_defers _ _ _).trans (h.Rr x)⟩
  cases sG:o.dst with
  | none=>exact h.tmp t ht
  | some d=>
    have dp:d≠t:=λe=>ht (e▸hd d sG);have:=h.tmp t ht;simpa[Act.put,Array.getElem?_setIfInBounds_ne dp]using this
theorem yh{l:List Oper}{o:Oper}(ho:o ∈ l){d:Nat}(hd:o.dst=some d):d∈dstsOf l:=List.mem_filterMap.2 ⟨o,ho,hd⟩
theorem NQ{C:Ctx}(hC:kN C){ro:Option Nat}{n:Nat}{w0:World}{a0:Act}{M:List Nat}{full:List Oper}{N:Fr->ad->Prop}{Q:Exit->Act->World->Prop}
    (hN:∀f a w,N f w.heap->um n a f->aQ w0 w->jq M a0 a->Q .normal a w) :
    ∀(l:List Oper),(∀o∈l,tI n o=true)->(∀o∈l,∀d,o.dst=some d->d∈M)->(∀o∈l,iA o.op=true->hZ∈M/\ro=none)->∀(f:Fr) (a:Act) (w:World),Jc C full l N f w.heap->um n a f->aQ w0 w->jq M a0 a->wpListIn (FW ro) 0 C.P full.toArray Q l a w
  | [],_,_,_,f,a,w,h,hA,hR,hM=>hN f a w h hA hR hM
  | o::r,hl,hm,Zq,f,a,w,h,hA,hR,hM=>by
    have hw:=uB hA (show CK full f o.guard _ from h);have hd:=hl o (by simp);have QD:=hm o (by simp);have hdo:=Zq o (by simp);have rest:=NQ (full:=full) hC (ro:=ro) hN r (λo' NR=>hl o' (by simp[NR])) (λo' NR=>hm o' (by simp[NR])) (λo' NR=>Zq o' (by simp[NR]));unfold wpListIn
    split
    · rename_i C5
      rw[C5]at hw
      cases Ls:iA o.op with
      | true=>
        obtain⟨hk,Bq⟩:=hdo Ls;have hw:(bif iA o.op then Af f (CL o.op) λd=>Jc C full r N (vk ((hZ,d)::f) o.dst undef) w.heap else _):=hw;rw[Ls,cond_true]at hw;obtain⟨d,hr,hx⟩:=FQ (P:=C.P) (w:=w) hA.fit Ls hw;refine⟨λ_ _=>trivial,?_⟩;show o.uponIn (FW ro) 0 C.P a _ Q ((o.semAt ro a.eval).run C.P w);rw[semAt_plain (.inl Bq),hr,Oper.uponIn_defer];have Ur:um n { a with defers:=toD d::a.defers } ((hZ,d)::f):=⟨hA.lim,hA.size,by rw[wL,List.map_cons,<-hA.defers],λt v h=>hA.val t v (by rwa[Fr.tG]at h)⟩;have hM':jq M a0 { a with defers:=toD d::a.defers }:=⟨hM.tmp,λx=>absurd hk x⟩;exact rest _ _ w hx (Ur.put hd undef) hR (hM'.put QD undef)
      | false=>
        have hw:(bif iA o.op then _ else xH C f o.op o.type (λv h'=>vA (guards full o) v λv=>Jc C full r N (vk f o.dst v) h') w.heap):=hw;rw[Ls,cond_false]at hw;refine rC (.inr Ls) (C4 hC hA.fit o hw) λv w' ⟨hr,hk⟩=>?_;exact rest _ _ w' (sJ hk) (hA.put hd v) (hR.trans hr) (hM.put QD v)
    · rename_i C5
      have LF:Region.wanted o (yielded full.toArray a.tmps)=false:=(by simpa using C5);rw[LF]at hw;exact⟨λ_ _=>trivial,rest _ _ w hw (hA.put hd undef) hR (hM.put QD undef)⟩
theorem Rt{C:Ctx}{ro:Option Nat}{f:Fr}(hρ:Fit f a.eval)(o:Oper)(hi:Y8 C o=true){k X:KT}{next:Act->World->Prop}{Q:Exit->Act->World->Prop}{w:World}(h:Nw C f o.op o.type k X w.heap)
    (hk:∀v w',aQ w w'->k v w'.heap->next (a.put o.dst v) w') (hX:∀v w',aQ w w'->X v w'.heap->Q (.panic [{ v:=v,recovered:=false }]) a w'):o.wpIn (FW ro) 0 C.P a w next Q:=by
  obtain⟨dst,op,type,pos,after,guard⟩:=o
  have Zr:iA op=false:=by
    cases op with
    | defer c=>cases hi
    | _=>rfl
  refine⟨λ_ _=>trivial,?_⟩;show Oper.uponIn (FW ro) 0 C.P _ a next Q ((Oper.semAt ro a.eval _).run C.P w);rw[semAt_plain (.inr Zr)];unfold Nw at h
  split at h
  · rename_i op' g args ats e
    have e:op=_:=e;subst e;obtain⟨⟨fn,hf,hn,hb⟩,hc⟩:=iX hρ h
    have hr:(execOp a.eval (⟨dst,.call { callee:=.value (.func g),args:=args,argTypes:=ats },type,pos,after,guard⟩:Oper)).run C.P w = .ok (.enter g ⟨[]++args.toList.map a.eval⟩) w:=by
      show(callFunc g _).run C.P w=_;simp only[callFunc,Sem.run_bind,run_program,Result.andThen_ok,hf,hn,hb,Bool.false_eq_true,if_false,Sem.run_pure];congr 2;apply Array.ext';simp
    rw[hr,Oper.uponIn_enter];refine⟨(λx=>by cases x),yg ((hc w rfl).mono λe w' he=>?_)⟩;obtain⟨hs,h1|h1⟩:=he
    · obtain⟨v,rfl,h2⟩:=h1
      exact hk v w' hs (yf h2)
    · obtain⟨v,rfl,h2⟩:=h1
      exact hX v w' hs h2
  · rename_i op' x e
    have e:op=_:=e;subst e;have h:=bq hρ h;have hx:(execOp a.eval (⟨dst,.panic x,type,pos,after,guard⟩:Oper)).run C.P w=(do Pure.pure (.value (<-Instr.panic (a.eval x))):Sem Next).run C.P w:=rfl;rw[hx];generalize a.eval x=v at h
    cases v with
    | iface T u=>exact hX (.iface T u) w (.refl w) h
    | _=>exact h.elim
  · exact h.elim
theorem NS{C:Ctx}(hC:kN C){ro:Option Nat}{n:Nat}{w0:World}{a0:Act}{M:List Nat}{full:List Oper}{N:Fr->ad->Prop}{X:Value->Fr->ad->Prop}{Q:Exit->Act->World->Prop}
    (hN:∀f a w,N f w.heap->um n a f->aQ w0 w->jq M a0 a->Q .normal a w)
    (hX:∀v f a w,X v f w.heap->um n a f->aQ w0 w->jq M a0 a->Q (.panic [{ v:=v,recovered:=false }]) a w) :
    ∀(l:List Oper),(∀o∈l,tI n o=true)->(∀o∈l,∀d,o.dst=some d->d∈M)->(∀o∈l,iA o.op=true->hZ∈M/\ro=none)->∀(f:Fr) (a:Act) (w:World),EO C full X l N f w.heap->um n a f->aQ w0 w->jq M a0 a->wpListIn (FW ro) 0 C.P full.toArray Q l a w
  | [],_,_,_,f,a,w,h,hA,hR,hM=>hN f a w h hA hR hM
  | o::r,hl,hm,Zq,f,a,w,h,hA,hR,hM=>by
    have hw:=uB hA (show CK full f o.guard _ from h);have hd:=hl o (by simp);have QD:=hm o (by simp);have hdo:=Zq o (by simp);have rest:=NS (full:=full) hC (ro:=ro) hN hX r (λo' NR=>hl o' (by simp[NR])) (λo' NR=>hm o' (by simp[NR])) (λo' NR=>Zq o' (by simp[NR]));unfold wpListIn
    split
    · rename_i C5
      rw[C5]at hw
      have hw:(bif Y8 C o then Nw C f o.op o.type (λv h'=>EO C full X r N (vk f o.dst v) h') (λv h'=>X v f h') w.heap
        else bif iA o.op then Af f (CL o.op) λd=>EO C full X r N (vk ((hZ,d)::f) o.dst undef) w.heap else _):=hw
      cases hip:Y8 C o with
      | true=>
        rw[hip,cond_true]at hw;exact Rt hA.fit o hip hw (λv w' hs h1=>rest _ _ w' h1 (hA.put hd v) (hR.trans hs) (hM.put QD v)) λv w' hs h1=>hX v f a w' h1 hA (hR.trans hs) hM
      | false=>
        rw[hip,cond_false]at hw
        cases Ls:iA o.op with
        | true=>
          obtain⟨hk,Bq⟩:=hdo Ls;rw[Ls,cond_true]at hw;obtain⟨d,hr,hx⟩:=FQ (P:=C.P) (w:=w) hA.fit Ls hw;refine⟨λ_ _=>trivial,?_⟩;show o.uponIn (FW ro) 0 C.P a _ Q ((o.semAt ro a.eval).run C.P w);rw[semAt_plain (.inl Bq),hr,Oper.uponIn_defer];have Ur:um n { a with defers:=toD d::a.defers } ((hZ,d)::f):=⟨hA.lim,hA.size,by rw[wL,List.map_cons,<-hA.defers],λt v h=>hA.val t v (by rwa[Fr.tG]at h)⟩;have hM':jq M a0 { a with defers:=toD d::a.defers }:=⟨hM.tmp,λx=>absurd hk x⟩;exact rest _ _ w hx (Ur.put hd undef) hR (hM'.put QD undef)
        | false=>
          have hw:(bif iA o.op then _ else xH C f o.op o.type (λv h'=>vA (guards full o) v λv=>EO C full X r N (vk f o.dst v) h') w.heap):=hw;rw[Ls,cond_false]at hw;refine rC (.inr Ls) (C4 hC hA.fit o hw) λv w' ⟨hr,hk⟩=>?_;exact rest _ _ w' (sJ hk) (hA.put hd v) (hR.trans hr) (hM.put QD v)
    · rename_i C5
      have LF:Region.wanted o (yielded full.toArray a.tmps)=false:=(by simpa using C5);rw[LF]at hw;exact⟨λ_ _=>trivial,rest _ _ w hw (hA.put hd undef) hR (hM.put QD undef)⟩
structure Post(n:Nat)(w0:World)(a0:Act)(M:List Nat)(Q:Ks)(N:Fr->ad->Prop)(R:Exit->Act->World->Prop):Prop where
  normal:∀f a w,N f w.heap->um n a f->aQ w0 w->jq M a0 a->R .normal a w
  exit:∀id f a w,Q.exit id f w.heap->um n a f->aQ w0 w->jq M a0 a->R (.exit id) a w
  ret:∀f a w,Q.ret f w.heap->um n a f->aQ w0 w->(hZ ∉ M->a.defers=a0.defers)->R .ret a w
  Le:∀v f a w,Q.Le v f w.heap->um n a f->aQ w0 w->(hZ ∉ M->a.defers=a0.defers)->R (.panic [{ v:=v,recovered:=false }]) a w
theorem U6{F:Fence}{P:Program}{Q:Exit->Act->World->Prop}(EW:Nat->Act->World->Prop)
    (round:∀k a w,EW k a w->c.wpIn F m P (Exit.then (λa' w'=>∃k',k'<k/\EW k' a' w') Q) a w) {k:Nat} {a:Act} {w:World} (h0:EW k a w):(Code.loop c).wpIn F m P Q a w:=by
  intro b kk cs Bq hb hr
  have key:∀(k:Nat) (a:Act) (w:World),EW k a w->∃e a' w',Q e a' w'/\ArrivesIn (Machine.fenced P F) P (lone (b.atR a (.code c :: .inLoop c::kk)) cs w) b kk cs e a' w':=by
    intro k
    induction k using Nat.strongRecOn with
    | _ k ih=>
      intro a w hg;obtain⟨e,a1,w1,hq,yi⟩:=round k a w hg b (.inLoop c::kk) cs Bq hb hr
      cases e with
      | normal=>
        obtain⟨k',bK,XE⟩:=hq;obtain⟨e2,a2,w2,hq2,acm⟩:=ih k' bK a1 w1 XE;exact⟨e2,a2,w2,hq2,.of_steps (StepsIn.trans yi (.one (fenced_calm hb hr rfl) stepR_inLoop)) acm⟩
      | outgrown=>exact⟨_,a1,w1,hq,.pass (x:=.inLoop c) rfl (λ_ _=>.inl (by simp)) yi⟩
      | exit id=>exact⟨_,a1,w1,hq,.pass (x:=.inLoop c) rfl (λ_ _=>.inl (by simp)) yi⟩
      | goto l=>exact⟨_,a1,w1,hq,.pass (x:=.inLoop c) rfl (λ_ _=>.inl (by simp)) yi⟩
      | ret=>exact⟨_,a1,w1,hq,.pass (x:=.inLoop c) rfl (λ_ _=>.inl (by simp)) yi⟩
      | panic ch=>exact⟨_,a1,w1,hq,.pass (x:=.inLoop c) rfl (λ_ _=>.inl (by simp)) yi⟩
  obtain⟨e,a',w',hq,yi⟩:=key k a w h0;exact⟨e,a',w',hq,.of_steps (.one (fenced_calm hb hr rfl) stepR_loop) yi⟩
theorem oP{P:Program}{b:Frame}{k:List Item}{cs:List Frame}:step P (lone (b.atR a (.code (.scope c)::k)) cs w) = .next (lone (b.atR a (.code c :: .inScope c::k)) cs w):=
  step_lone_go (by simp[stepG,stepG.exec,Frame.atR])
theorem EX{P:Program}{b:Frame}{k:List Item}{cs:List Frame}:step P (lone (b.atR a (.inScope c::k)) cs w) = .next (lone (b.atR a k) cs w):=
  step_lone_go (by simp[stepG,stepG.exec,Frame.atR])
theorem xD{F:Fence}{P:Program}{Q:Exit->Act->World->Prop}(h:c.wpIn F m P (Exit.noGoto Q) a w):(Code.scope c).wpIn F m P Q a w:=by
  intro b k cs Bq hb hr;have h0:(lone (b.atR a (.code (.scope c)::k)) cs w).fenced P F:=fenced_calm hb hr rfl;obtain⟨e,a₁,w₁,hq,yi⟩:=h b (.inScope c::k) cs Bq hb hr
  cases e with
  | normal=>exact⟨.normal,a₁,w₁,hq,.head h0 oP (StepsIn.trans yi (.one (fenced_calm hb hr rfl) EX))⟩
  | exit id=>
    have hx:exitTo id (.inScope c::k)=exitTo id k:=by simp[exitTo]
    exact⟨.exit id,a₁,w₁,hq,λk' hk=>.head h0 oP (yi.1 k' (by rw[hx];exact hk)),
      λhr' hk=>let ⟨k₁,h1,h2⟩:=yi.2 hr' (by rw[hx];exact hk);⟨k₁,h1,.head h0 oP h2⟩⟩
  | goto l=>exact hq.elim
  | ret=>exact⟨_,a₁,w₁,hq,.of_steps (.one h0 oP) yi⟩
  | panic ch=>exact⟨_,a₁,w₁,hq,.of_steps (.one h0 oP) yi⟩
  | outgrown=>exact⟨_,a₁,w₁,hq,.of_steps (.one h0 oP) yi⟩
theorem Fr.get_nil(t:Nat):Fr.get [] t=none:=by
  unfold Fr.get;cases Nat.beq t hZ <;> rfl
theorem Ao(f:Fr):∀(l:List Nat) (t:Nat) (v:Value),Fr.get (uZ f l) t=some v->t∈l/\Fr.get f t=some v
  | [],t,v,h=>by rw[show uZ f []=[] from rfl,Fr.get_nil]at h;cases h
  | x::r,t,v,h=>by
    unfold uZ at h
    cases hx:Fr.get f x with
    | none=>rw[hx]at h;obtain⟨h1,h2⟩:=Ao f r t v h;exact⟨by simp[h1],h2⟩
    | some u=>
      rw[hx]at h;simp only at h;rw[Fr.rT _ _ _ _ (Fr.Cm hx)]at h
      by_cases e:x=t
      · subst e;rw[if_pos rfl]at h;exact⟨by simp,hx.trans h⟩
      · rw[if_neg e]at h;obtain⟨h1,h2⟩:=Ao f r t v h;exact⟨by simp[h1],h2⟩
theorem Aq(f:Fr):∀l:List Nat,ur (uZ f l)=[]
  | []=>rfl
  | x::r=>by
    unfold uZ
    cases hx:Fr.get f x with
    | none=>exact Aq f r
    | some u=>show ur ((x,u)::uZ f r)=[];rw[tH _ _ _ (Fr.Cm hx),Aq f r]
theorem C6{n:Nat}{f2:Fr}(hA:um n a f2){R S:Type} :
    ∀(l:List (Nat×Ty)) (I:qw l R) (μ:qw l S) (fk:Fr) (K:R->S->Prop) (B5:R->S->Fr->Prop),OU l I μ f2 K->CM l I μ fk B5->(∀t v,Fr.get fk t=some v->a.tmps.getD t undef=v)->
    ∃i m f',K i m/\B5 i m f'/\ur f'=ur fk/\∀t v,Fr.get f' t=some v->a.tmps.getD t undef=v:=by
  have base:∀(fk:Fr) (t:Nat) (v:Value),Fr.get f2 t=some v->(∀t v,Fr.get fk t=some v->a.tmps.getD t undef=v)->∀t' v',Fr.get ((t,v)::fk) t'=some v'->a.tmps.getD t' undef=v':=by
    intro fk t v hg hb t' v' h';rw[Fr.rT _ _ _ _ (Fr.Cm hg)]at h'
    by_cases e:t=t'
    · subst e;rw[if_pos rfl]at h';have:=Option.some.inj h';subst this;exact hA.val _ _ hg
    · rw[if_neg e]at h';exact hb _ _ h'
  have yZ:∀{t:Nat} {v:Value} {fk:Fr} {K:R->S->Prop} {B5:R->S->Fr->Prop},Fr.get f2 t=some v->(∃i m f',K i m/\B5 i m f'/\ur f'=ur ((t,v)::fk)/\∀t v,Fr.get f' t=some v->a.tmps.getD t undef=v)->
      ∃i m f',K i m/\B5 i m f'/\ur f'=ur fk/\∀t v,Fr.get f' t=some v->a.tmps.getD t undef=v:=by
    rintro t v fk K B5 hv ⟨i,m,f',h1,h2,h3,h4⟩;exact⟨i,m,f',h1,h2,by rw[h3,tH _ _ _ (Fr.Cm hv)],h4⟩
  intro l
  induction l with
  | nil=>intro I μ fk K B5 h1 h2 hb;exact⟨I,μ,fk,h1,h2,rfl,hb⟩
  | cons x r ih=>
    obtain⟨t,ty⟩:=x;intro I μ fk K B5 h1 h2 hb
    cases ty with
    | int kd=>
      obtain⟨v,hv,h1⟩:=bg h1;obtain⟨k',m,rfl,h3⟩:=lh h1
      cases hk:mg kd k' with
      | false=>rw[hk]at h3;exact h3.elim
      | true=>rw[hk]at h3;obtain rfl:=mY hk;exact yZ hv (ih _ _ _ _ _ h3 (h2 m) (base _ _ _ hv hb))
    | bool=>
      obtain⟨v,hv,h1⟩:=bg h1;obtain⟨b,rfl,h3⟩:=vK h1;exact yZ hv (ih _ _ _ _ _ h3 (h2 b) (base _ _ _ hv hb))
    | str=>
      obtain⟨v,hv,h1⟩:=bg h1;obtain⟨b,rfl,h3⟩:=uA h1;exact yZ hv (ih _ _ _ _ _ h3 (h2 b) (base _ _ _ hv hb))
    | ptr=>
      obtain⟨v,hv,h1⟩:=bg h1;obtain⟨b,rfl,h3⟩:=yd h1;exact yZ hv (ih _ _ _ _ _ h3 (h2 b) (base _ _ _ hv hb))
    | slice=>
      obtain⟨v,hv,h1⟩:=bg h1;obtain⟨b,l',c,rfl,h3⟩:=lj h1;exact yZ hv (ih _ _ _ _ _ h3 (h2 b l' c) (base _ _ _ hv hb))
    | agg=>
      obtain⟨v,hv,h1⟩:=bg h1;obtain⟨b,rfl,h3⟩:=ye h1;exact yZ hv (ih _ _ _ _ _ h3 (h2 b) (base _ _ _ hv hb))
    | any=>
      obtain⟨v,hv,h1⟩:=bg h1;exact yZ hv (ih _ _ _ _ _ h1 (h2 v) (base _ _ _ hv hb))
    | QS=>
      obtain⟨v,hv,h1⟩:=bg h1;exact yZ hv (ih _ _ _ _ _ h1 (h2 v) (base _ _ _ hv hb))
    | map=>
      obtain⟨v,hv,h1⟩:=bg h1;obtain⟨b,rfl,h3⟩:=mB h1;exact yZ hv (ih _ _ _ _ _ h3 (h2 b) (base _ _ _ hv hb))
def xE : Code->Bool
  | .region _ ops _=>ops.toList.all λo=>!iA o.op
  | .seq a b=>xE a && xE b
  | .cond _ a b=>xE a && xE b
  | .block _ a| .loop a| .scope a=>xE a
  | .rangeFunc _ _ _ _=>false
  | _=>true
def y7 : List Nat->List Nat->Bool
  | [],[]=>true
  | a::r,b::s=>Nat.beq a b && y7 r s
  | _,_=>false
theorem Br : ∀{a b:List Nat},y7 a b=true->a=b
  | [],[],_=>rfl
  | a::r,b::s,h=>by
    simp only[y7,Bool.and_eq_true]at h;rw[Nat.eq_of_beq_eq_true h.1,Br h.2]
  | [],_::_,h=>by cases h
  | _::_,[],h=>by cases h
def codeOk(C:Ctx)(n:Nat)(drawn:Nat->List Oper->Bool):Code->Bool
  | .region id ops draw=>(ops.toList.all (tI n)) && (bif draw then(ops.toList.all λo=>!iA o.op) && drawn id ops.toList else true)
  | .seq a b=>codeOk C n drawn a && codeOk C n drawn b
  | .cond _ a b=>codeOk C n drawn a && codeOk C n drawn b
  | .block _ a=>codeOk C n drawn a
  | .scope a=>codeOk C n drawn a
  | .loop a=>codeOk C n drawn a && ((C.loops (xW a)).1.all λt=>(iz a).all λm=>!(Nat.beq m t)) && (iz a).all λm=>!(Nat.beq m hZ)
  | .rangeFunc _ ps assign body=>codeOk C n drawn assign && codeOk C n drawn body && xE assign && xE body && y7 ps.toList ((C.loops (QX assign body)).2.map (·.1)) && ps.toList.all λt=>Nat.blt t n
  | _=>true
def Jo(C:Ctx)(n:Nat)(drawn:Nat->List Oper->Bool):Prop:=
  ∀(ro:Option Nat) (id:Nat) (ops:Array Oper) (N:Fr->ad->Prop) (R:Exit->Act->World->Prop) (f:Fr) (a:Act) (w0 w:World),drawn id ops.toList=true->(∀o∈ops.toList,tI n o=true)->(∀o∈ops.toList,iA o.op=false)->
    Ai C ops.toList (C.td id) N f w.heap->um n a f->aQ w0 w->(∀f a' w,N f w.heap->um n a' f->aQ w0 w->jq (dstsOf ops.toList) a a'->R .normal a' w)->
    (Code.region id ops true).wpIn (FW ro) 0 C.P R a w
def U7(f:Fr):List (Nat×Value)->Fr
  | []=>f
  | p::r=>U7 (p::f) r
def Ru(tmps:Array Value)(ps:List (Nat×Value)):Array Value:=ps.foldl (λtmps p=>tmps.setIfInBounds p.1 p.2) tmps
theorem C7 : ∀(l:List (Nat×Ty)) (f:Fr) (acc:LV) (K:Fr->LV->Prop),(∀vs:LV,vs.length=l.length->K (U7 f ((l.map (·.1)).zip vs)) (acc++vs))->Aj l f acc K
  | [],f,acc,K,h=>by
    have:=h [] rfl;rw[List.append_nil]at this;exact this
  | (t,ty)::r,f,acc,K,h=>by
    have go:∀v:Value,Aj r ((t,v)::f) (acc++[v]) K:=λv=>by
      refine C7 r ((t,v)::f) (acc++[v]) K λvs hl=>?_;have:=h (v::vs) (by simp[hl]);simpa[U7]using this
    cases ty with
    | int k=>exact λn=>go _
    | bool=>exact λn=>go _
    | str=>exact λn=>go _
    | ptr=>exact λn=>go _
    | slice=>exact λa l c=>go _
    | agg=>exact λn=>go _
    | any=>exact λn=>go _
    | QS=>exact λn=>go _
    | map=>exact λn=>go _
theorem Jp{n:Nat}:∀(ps:List (Nat×Value)) (tmps:Array Value) (f:Fr),um n { tmps:=tmps,defers:=[] } f->(∀p∈ps,p.1<n)->um n { tmps:=Ru tmps ps,defers:=[] } (U7 f ps)
  | [],tmps,f,h,_=>h
  | (d,v)::r,tmps,f,h,hp=>by
    have bK:d<n:=hp (d,v) (by simp);have dp:d≠hZ:=Nat.ne_of_lt (Nat.lt_of_lt_of_le bK h.lim);refine Jp r (tmps.setIfInBounds d v) ((d,v)::f) ⟨h.lim,by simpa using h.size,by rw[tH _ _ _ dp];exact h.defers,λt u hu=>?_⟩ λp xB=>hp p (by simp[xB]);rw[Fr.rT _ _ _ _ dp]at hu
    by_cases e:d=t
    · subst e
      rw[if_pos rfl]at hu;have:=Option.some.inj hu;subst this;have hs:d<tmps.size:=(by have:=h.size;simp only at this;omega);simp[hs]
    · rw[if_neg e]at hu
      have:=h.val t u hu;simpa[Array.getElem?_setIfInBounds_ne e]using this
theorem Jq{i:Nat}{E:NP}:∀{l:List Nat},exX l i E->E i
  | [],h=>h.elim
  | j::r,h=>by
    have h:bif Nat.beq i j then E j else exX r i E:=h
    cases hb:Nat.beq i j with
    | true=>rw[hb]at h;rw[Nat.eq_of_beq_eq_true hb];exact h
    | false=>rw[hb]at h;exact Jq (l:=r) h
theorem Rv{C:Ctx}(hC:kN C){n:Nat}{drawn:Nat->List Oper->Bool}(hD:Jo C n drawn) :
    ∀(c:Code),codeOk C n drawn c=true->∀(ro:Option Nat),(ro=none∨xE c=true)->∀(w0:World) (Q:Ks) (N:Fr->ad->Prop) (R:Exit->Act->World->Prop) (f:Fr) (a:Act) (w:World),
      Nx C c Q N f w.heap->um n a f->aQ w0 w->Post n w0 a (iz c) Q N R->c.wpIn (FW ro) 0 C.P R a w:=by
  intro c
  induction c with
  | skip=>intro _ ro _ w0 Q N R f a w h hA hR hP;exact wpIn_skip (hP.normal f a w h hA hR (.refl _ _))
  | region id ops draw=>
    intro rK ro Bq w0 Q N R f a w h hA hR hP;simp only[codeOk,Bool.and_eq_true,List.all_eq_true]at rK;have sub:∀t∈dstsOf ops.toList,t∈iz (Code.region id ops draw):=λt ht=>List.mem_append_right _ ht
    cases draw with
    | true=>
      have Zs:=rK.2;rw[cond_true,Bool.and_eq_true,List.all_eq_true]at Zs;exact hD ro id ops N R f a w0 w Zs.2 rK.1 (λo ho=>by simpa using Zs.1 o ho) h hA hR λf a' w h1 h2 h3 h4=>hP.normal f a' w h1 h2 h3 (h4.mono sub)
    | false=>
      refine wpIn_region_list ?_;have h:(bif ops.toList.any (Y8 C)then EO C ops.toList Q.Le ops.toList N f w.heap else Jc C ops.toList ops.toList N f w.heap):=h
      have hdef:∀o∈ops.toList,iA o.op=true->hZ∈iz (Code.region id ops false)/\ro=none:=λo ho hd=>⟨List.mem_append_left _ (by
        unfold Zp
        rw[List.any_eq_true.mpr ⟨o,ho,hd⟩];simp),by
        rcases Bq with h|h
        · exact h
        · have:=List.all_eq_true.1 h o ho
          rw[hd]at this;cases this⟩
      cases hp:ops.toList.any (Y8 C)with
      | true=>
        rw[hp,cond_true]at h;have:=NS (Q:=R) hC (ro:=ro) (full:=ops.toList) (λf a' w h1 h2 h3 h4=>hP.normal f a' w h1 h2 h3 h4) (λv f a' w h1 h2 h3 h4=>hP.Le v f a' w h1 h2 h3 h4.Rr) ops.toList rK.1 (λo ho d hd=>sub _ (yh ho hd)) hdef f a w h hA hR (jq.refl _ _);simpa using this
      | false=>
      rw[hp,cond_false]at h
      have:=NQ (Q:=R) hC (ro:=ro) (full:=ops.toList) (λf a' w h1 h2 h3 h4=>hP.normal f a' w h1 h2 h3 h4) ops.toList rK.1 (λo ho d hd=>sub _ (yh ho hd)) (λo ho hd=>⟨List.mem_append_left _ (by
        unfold Zp
        rw[List.any_eq_true.mpr ⟨o,ho,hd⟩];simp),by
        rcases Bq with h|h
        · exact h
        · have:=List.all_eq_true.1 h o ho
          rw[hd]at this;cases this⟩) f a w h hA hR (jq.refl _ _)
      simpa using this
  | seq x y ihx ihy=>
    intro rK ro Bq w0 Q N R f a w h hA hR hP;simp only[codeOk,Bool.and_eq_true]at rK;have hrx:ro=none∨xE x=true:=Bq.imp id λh=>by simp only[xE,Bool.and_eq_true]at h;exact h.1
    have hry:ro=none∨xE y=true:=Bq.imp id λh=>by simp only[xE,Bool.and_eq_true]at h;exact h.2
    refine wpIn_seq (ihx rK.1 ro hrx w0 Q _ _ f a w h hA hR ⟨?_,?_,?_,?_⟩)
    · intro f1 a1 w1 h1 LG QE Lh
      refine ihy rK.2 ro hry w0 Q N R f1 a1 w1 h1 LG QE ⟨?_,?_,?_,?_⟩
      · intro f2 a2 w2 h2 Li LH U8
        exact hP.normal f2 a2 w2 h2 Li LH ((Lh.mono λt ht=>by simp[iz,ht]).trans (U8.mono λt ht=>by simp[iz,ht]))
      · intro id f2 a2 w2 h2 Li LH U8
        exact hP.exit id f2 a2 w2 h2 Li LH ((Lh.mono λt ht=>by simp[iz,ht]).trans (U8.mono λt ht=>by simp[iz,ht]))
      · exact λf2 a2 w2 h2 Li LH hd=>hP.ret f2 a2 w2 h2 Li LH λhn=>(hd λx=>hn (by simp[iz,x])).trans (Lh.Rr λx=>hn (by simp[iz,x]))
      · exact λv f2 a2 w2 h2 Li LH hd=>hP.Le v f2 a2 w2 h2 Li LH λhn=>(hd λx=>hn (by simp[iz,x])).trans (Lh.Rr λx=>hn (by simp[iz,x]))
    · exact λid f1 a1 w1 h1 LG QE Lh=>hP.exit id f1 a1 w1 h1 LG QE (Lh.mono λt ht=>by simp[iz,ht])
    · exact λf1 a1 w1 h1 LG QE hd=>hP.ret f1 a1 w1 h1 LG QE λhn=>hd λx=>hn (by simp[iz,x])
    · exact λv f1 a1 w1 h1 LG QE hd=>hP.Le v f1 a1 w1 h1 LG QE λhn=>hd λx=>hn (by simp[iz,x])
  | cond c x y ihx ihy=>
    intro rK ro Bq w0 Q N R f a w h hA hR hP;simp only[codeOk,Bool.and_eq_true]at rK;have hrx:ro=none∨xE x=true:=Bq.imp id λh=>by simp only[xE,Bool.and_eq_true]at h;exact h.1
    have hry:ro=none∨xE y=true:=Bq.imp id λh=>by simp only[xE,Bool.and_eq_true]at h;exact h.2
    obtain⟨t,hc,h1⟩:=vK (bq hA.fit h);refine wpIn_cond hc ?_
    cases t with
    | true=>exact ihx rK.1 ro hrx w0 Q N R f a w h1 hA hR ⟨λf a' w h1 h2 h3 h4=>hP.normal f a' w h1 h2 h3 (h4.mono λt ht=>by simp[iz,ht]),λid f a' w h1 h2 h3 h4=>hP.exit id f a' w h1 h2 h3 (h4.mono λt ht=>by simp[iz,ht]),λf a' w h1 h2 h3 hd=>hP.ret f a' w h1 h2 h3 λhn=>hd λx=>hn (by simp[iz,x]),λv f a' w h1 h2 h3 hd=>hP.Le v f a' w h1 h2 h3 λhn=>hd λx=>hn (by simp[iz,x])⟩
    | false=>exact ihy rK.2 ro hry w0 Q N R f a w h1 hA hR ⟨λf a' w h1 h2 h3 h4=>hP.normal f a' w h1 h2 h3 (h4.mono λt ht=>by simp[iz,ht]),λid f a' w h1 h2 h3 h4=>hP.exit id f a' w h1 h2 h3 (h4.mono λt ht=>by simp[iz,ht]),λf a' w h1 h2 h3 hd=>hP.ret f a' w h1 h2 h3 λhn=>hd λx=>hn (by simp[iz,x]),λv f a' w h1 h2 h3 hd=>hP.Le v f a' w h1 h2 h3 λhn=>hd λx=>hn (by simp[iz,x])⟩
  | block id x ih=>
    intro rK ro Bq w0 Q N R f a w h hA hR hP;refine wpIn_block (ih rK ro Bq w0 _ _ _ f a w h hA hR ⟨λf a' w h1 h2 h3 h4=>hP.normal f a' w h1 h2 h3 h4,?_,λf a' w h1 h2 h3 hd=>hP.ret f a' w h1 h2 h3 hd,λv f a' w h1 h2 h3 hd=>hP.Le v f a' w h1 h2 h3 hd⟩);intro i f1 a1 w1 h1 LG QE Lh;show Exit.inBlock id R (.exit i) a1 w1;simp only[Exit.inBlock]
    cases hb:Nat.beq i id with
    | true=>
      rw[if_pos (Nat.eq_of_beq_eq_true hb)];exact hP.normal f1 a1 w1 (by simpa[hb]using h1) LG QE Lh
    | false=>
      have:i≠id:=λe=>by subst e;rw[Nat.beq_refl]at hb;cases hb
      rw[if_neg this];exact hP.exit i f1 a1 w1 (by simpa[hb]using h1) LG QE Lh
  | scope x ih=>
    intro rK ro Bq w0 Q N R f a w h hA hR hP;exact xD (ih rK ro Bq w0 Q N (Exit.noGoto R) f a w h hA hR ⟨λf a' w h1 h2 h3 h4=>hP.normal f a' w h1 h2 h3 h4,λi f a' w h1 h2 h3 h4=>hP.exit i f a' w h1 h2 h3 h4,λf a' w h1 h2 h3 hd=>hP.ret f a' w h1 h2 h3 hd,λv f a' w h1 h2 h3 hd=>hP.Le v f a' w h1 h2 h3 hd⟩)
  | label l=>intro _ ro _ w0 Q N R f a w h hA hR hP;exact wpIn_label (hP.normal f a w h hA hR (.refl _ _))
  | exit id=>intro _ ro _ w0 Q N R f a w h hA hR hP;exact wpIn_exit (hP.exit id f a w h hA hR (.refl _ _))
  | ret=>intro _ ro _ w0 Q N R f a w h hA hR hP;exact wpIn_ret (hP.ret f a w h hA hR λ_=>rfl)
  | loop x ih=>
    intro rK ro Bq w0 Q N R f a w h hA hR hP;simp only[codeOk,Bool.and_eq_true]at rK;obtain⟨⟨hokx,acn⟩,Zr⟩:=rK;obtain⟨I,μ,Uq,Rk⟩:=h
    have BX:hZ ∉ iz x:=λhm=>by
      have:=List.all_eq_true.1 Zr _ hm;simp[Nat.beq_refl]at this
    have hdis:∀t∈(C.loops (xW x)).1,t ∉ iz x:=by
      intro t ht hm;have:=List.all_eq_true.1 (List.all_eq_true.1 acn t ht) t hm;simp[Nat.beq_refl]at this
    have NT:∀a':Act,jq (iz x) a a'->∀t v,Fr.get (yN (ur f) (uZ f (C.loops (xW x)).1)) t=some v->a'.tmps.getD t undef=v:=by
      intro a' hM t v hg;rw[Fr.FO]at hg;obtain⟨h1,h2⟩:=Ao f _ t v hg;rw[hM.tmp t (hdis t h1)];exact hA.val t v h2
    have hdfs:ur (yN (ur f) (uZ f (C.loops (xW x)).1))=ur f:=by rw[FP,Aq,List.append_nil]
    let B5:(HP)->(ad->Nat)->Fr->Prop:=λi m f'=>∀h',i h'->Nx C x Q (λf2 h2=>OU (C.loops (xW x)).2 I μ f2 λi2 m2=>i2 h2/\m2 h2<m h') f' h'
    let EW:Nat->Act->World->Prop:=λk a' w'=>∃i m f',m w'.heap=k/\i w'.heap/\B5 i m f'/\um n a' f'/\aQ w0 w'/\jq (iz x) a a'
    have agr:∀{a':Act} {f' f2:Fr},jq (iz x) a a'->um n a' f2->ur f'=ur (yN (ur f) (uZ f (C.loops (xW x)).1))->(∀t v,Fr.get f' t=some v->a'.tmps.getD t undef=v)->um n a' f':=
      λhM Ur hd hv=>⟨Ur.lim,Ur.size,by rw[hM.Rr BX,hA.defers,hd,hdfs],hv⟩
    have start:∃k,EW k a w:=by
      obtain⟨i,m,f',h1,h2,hd,h3⟩:=C6 hA _ I μ _ _ B5 Uq Rk (NT a (.refl _ _));exact⟨m w.heap,i,m,f',rfl,h1,h2,agr (.refl _ _) hA hd h3,hR,.refl _ _⟩
    obtain⟨k,hg⟩:=start;refine U6 EW ?_ hg;rintro k1 a1 w1 ⟨i,m,f',rfl,hi,hK,LG,QE,Lh⟩;refine ih hokx ro Bq w0 Q _ _ f' a1 w1 (hK _ hi) LG QE ⟨?_,?_,?_,?_⟩
    · intro f2 a2 w2 h2 Li LH U8
      obtain⟨i',m',f3,⟨h1,bK⟩,h4,hd,h3⟩:=C6 Li _ I μ _ _ B5 h2 Rk (NT a2 (Lh.trans U8));exact⟨m' w2.heap,bK,i',m',f3,rfl,h1,h4,agr (Lh.trans U8) Li hd h3,LH,Lh.trans U8⟩
    · exact λid f2 a2 w2 h2 Li LH U8=>hP.exit id f2 a2 w2 h2 Li LH (Lh.trans U8)
    · exact λf2 a2 w2 h2 Li LH hd=>hP.ret f2 a2 w2 h2 Li LH λhn=>(hd hn).trans (Lh.Rr hn)
    · exact λv f2 a2 w2 h2 Li LH hd=>hP.Le v f2 a2 w2 h2 Li LH λhn=>(hd hn).trans (Lh.Rr hn)
  | rangeFunc g ps assign body iha ihb=>
    intro rK ro Bq w0 Q N R f a w h hA hR hP;simp only[codeOk,Bool.and_eq_true,List.all_eq_true]at rK;obtain⟨⟨⟨⟨⟨hoa,hob⟩,hna⟩,hnb⟩,Zt⟩,bK⟩:=rK;have Zt:=Br Zt
    have Bq:ro=none:=by
      rcases Bq with h|h
      · exact h
      · cases h
    subst Bq;have h:=bq hA.fit h;refine wpIn_rangeFunc λfn _=>?_;have h:=h { state:=.ready,pending:=none,fn:=fn,tmps:=a.tmps,params:=ps,assign:=assign,body:=body,defers:=w.heap.size };generalize hL:({ state:=.ready,pending:=none,fn:=fn,tmps:=a.tmps,params:=ps,assign:=assign,body:=body,defers:=w.heap.size }:Loop)=L at h;have hl:w.heap.size+1=w.heap.size+1:=rfl
    -- the rounds
    have rounds:Aj (C.loops (QX assign body)).2 (Nr f) [] λf' args=>∀(h3:ad) (k:KT),
        bX h3 (w.heap.size+1) L .ready none->
        Nx C assign { exit:=λ_ _ _=>False,ret:=λ_ _=>False }
          (λf2 h4=>bX h4 (w.heap.size+1) L .ready none/\
            Nx C body { exit:=λi _ h5=>bX h5 (w.heap.size+1) L .busy none/\k (.bool false) (dr h5 (w.heap.size+1) L .done (some (.exit i))),
                         ret:=λ_ h5=>bX h5 (w.heap.size+1) L .busy none/\k (.bool false) (dr h5 (w.heap.size+1) L .done (some .ret)) }
              (λ_ h5=>bX h5 (w.heap.size+1) L .busy none/\k (.bool true) (dr h5 (w.heap.size+1) L .ready none)) f2 (dr h4 (w.heap.size+1) L .busy none)) f' h3->
        qU C.P (w.heap.size+1) args h3 k:=by
      refine C7 _ _ _ _ λvs hlen h3 k Jr hx w3 hw3=>?_;subst hw3;subst hL
      have mW:vs.length=ps.size:=by
        have:=congrArg List.length Zt;simp only[lM0,Array.length_toList]at this;omega
      have Zk:=run_yield (P:=C.P) (args:=⟨vs⟩) Jr (by simpa using mW);refine⟨_,_,_,_,Zk,?_⟩;refine roundIn_of_wpIn trivial ?_
      have aco:(ps.zip ⟨vs⟩).foldl (λtmps (x:Nat×Value)=>tmps.setIfInBounds x.1 x.2) a.tmps=Ru a.tmps (((C.loops (QX assign body)).2.map (·.1)).zip vs):=by
        rw[<-Zt,Ru,<-Array.foldl_toList,Array.toList_zip]
      have hA0:um n { tmps:=a.tmps,defers:=[] } (Nr f):=⟨hA.lim,hA.size,by rw[HI];rfl,λt v h=>hA.val t v (by rwa[HH]at h)⟩
      have LG:=Jp (((C.loops (QX assign body)).2.map (·.1)).zip vs) a.tmps (Nr f) hA0 λp hp=>by
        have:=(List.of_mem_zip hp).1;rw[<-Zt]at this;exact Nat.le_of_ble_eq_true (bK _ this)
      rw[<-aco]at LG;have sr:∀{w5:World} (o:Obj),aQ w3 w5->aQ w3 (w5.putObj (w.heap.size+1) o):=λo h=>⟨h.1,h.2.1,h.2.2⟩;refine iha hoa (some _) (.inr hna) w3 _ _ _ _ _ w3 hx LG (.refl _) ⟨λf4 a4 w4 h4 hA4 hR4 _=>?_,λ_ _ _ _ h=>h.elim,λ_ _ _ h=>h.elim,λ_ _ _ _ h=>h.elim⟩;obtain⟨hon4,hx4⟩:=h4;refine⟨_,run_beginRound hon4 rfl,?_⟩;refine ihb hob (some _) (.inr hnb) w3 _ _ _ f4 a4 (w4.putObj (w.heap.size+1) _) hx4 hA4 (sr _ hR4) ⟨λf5 a5 w5 h5 _ hR5 _=>?_,λi f5 a5 w5 h5 _ hR5 _=>?_,λf5 a5 w5 h5 _ hR5 _=>?_,λ_ _ _ _ h=>h.elim⟩
      · exact⟨_,_,run_endRound none h5.1,_,rfl,sr _ hR5,h5.2⟩
      · exact⟨_,_,run_endRound (some (.exit i)) h5.1,_,rfl,sr _ hR5,h5.2⟩
      · exact⟨_,_,run_endRound (some .ret) h5.1,_,rfl,sr _ hR5,h5.2⟩
    have h:=h rounds;unfold yP at h
    split at h
    · rename_i gid fs cs hv
      obtain⟨⟨fn',hf',nV,wH⟩,hc⟩:=h
      let w1:World:=(w.alloc (.deferred (some []))).alloc (.loop L)
      have hw1:w1.heap=cE w.heap L:=(by subst hL;rfl);have Zu:aQ w w1:=⟨rfl,rfl,rfl⟩;refine⟨w.heap.size+1,[{ target:=.collected w.heap.size,args:=#[] }],w1,{ target:=.fn (.func gid) cs,args:=fs ++ #[.func (.yield (w.heap.size+1)) #[] #[]] },w1,gid,⟨fs.toList++[.func (.yield (w.heap.size+1)) #[] #[]]++cs.toList⟩,w1,?_,?_,λ_ _=>trivial,?_,(λx=>by cases x),?_⟩
      · subst hL;exact run_enterLoop_outer fn a.tmps ps assign body
      · have hv:a.eval g = .func (.func gid) fs cs:=hv
        have hm:Array.map a.eval #[Operand.const (Value.func (Fn.yield (w.heap.size+1)) #[] #[])] = #[Value.func (Fn.yield (w.heap.size+1)) #[] #[]]:=(by simp[Act.eval]);simp only[resolve,hv,Deferred.ofValue,Sem.run_pure,hm]
      · show(callFunc gid _).run C.P w1=_
        simp only[callFunc,Sem.run_bind,run_program,Result.andThen_ok,hf',nV,wH,Bool.false_eq_true,if_false,Sem.run_pure];congr 3;apply Array.ext';simp
      · refine yg ((hc w1 hw1).mono λe w6 ⟨v,he,hsr,st,p,Jr,qS,y8⟩=>?_)
        subst he;refine⟨p,w6.putObj (w.heap.size+1) (.loop { L with state:=.exhausted,pending:=p }),run_endLoop Jr qS,?_⟩
        have Ur:um n { a with defers:=[{ target:=.collected w.heap.size,args:=#[] }]++a.defers } ((hZ,.pointer (some ⟨w.heap.size,0,none⟩))::f):=
          ⟨hA.lim,hA.size,by rw[wL,List.map_cons,<-hA.defers];rfl,λt v h=>hA.val t v (by rwa[Fr.tG]at h)⟩
        have Zv:aQ w0 (w6.putObj (w.heap.size+1) (.loop { L with state:=.exhausted,pending:=p })):=⟨(hR.trans (Zu.trans hsr)).1,(hR.trans (Zu.trans hsr)).2.1,(hR.trans (Zu.trans hsr)).2.2⟩;have hM':jq [hZ] a { a with defers:=[{ target:=.collected w.heap.size,args:=#[] }]++a.defers }:=⟨λ_ _=>rfl,λx=>absurd (List.mem_singleton.2 rfl) x⟩
        cases p with
        | none=>exact hP.normal _ _ _ y8 Ur Zv hM'
        | some c=>
          cases c with
          | ret=>
            have y8:bif vB body then _ else False:=y8
            cases hb:vB body with
            | false=>rw[hb]at y8;exact y8.elim
            | true=>rw[hb]at y8;exact wpIn_ret (hP.ret _ _ _ y8 Ur Zv λx=>absurd (List.mem_singleton.2 rfl) x)
          | exit i=>exact wpIn_exit (hP.exit i _ _ _ (Jq y8) Ur Zv hM')
          | _=>exact y8.elim
    · exact h.elim
  | _=>intro _ ro _ w0 Q N R f a w h;exact h.elim
end Wx
end Go.Proofs.YtjdcbblgaoogmaaGreatDoor
