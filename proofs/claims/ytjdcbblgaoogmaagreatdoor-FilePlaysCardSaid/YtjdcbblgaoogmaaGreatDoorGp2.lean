/- filePlays_card -/
import Derived.Orders
import Derived.ProofKit
import Derived.SizedLaws
import Derived.ChangeCalls
import Derived.Deep.Strs
import Derived.Test.YtjdcbblgaoogmaaGreatDoorRows
import Derived.JoinedCond
import Derived.OpenShut
import Derived.Deep.DeepHandedRow
import Derived.Lib.LaidTab
import Derived.LoadGo3
import Derived.Test.YtjdcbblgaoogmaaGreatDoorGp1
namespace Go.Proofs.YtjdcbblgaoogmaaGreatDoor
open Go Go.Proofs Wx
variable{x o w j i b m c l ec e base:Nat}{a:OA}{args xs ys:LV}{F:NP}{h h' h1 h2 h3:ad}{bs:LB}{k:HP}{ao ay c1 c2:Nat->Nat}{p:Addr}{A B:Prop}{y:Int}{t:TypeId}{W:World}
namespace Wx
open Go
def pt(P:Program)(a:Act)(o:Oper)(w:World)(v:Value):Prop:=(execOp a.eval o).run P w = .ok (.value v) w
def q0(full:List Oper)(a:Act)(o:Oper):Bool:=Region.wanted o (yielded full.toArray a.tmps)
def HJ(a:Act)(o:Oper):Value:=
  match o.dst with
  | some d=>a.tmps.getD d undef
  | none=>undef
def nC(D:Nat->Bool)(i:Nat):Nat->Bool:=λj=>Nat.beq j i || D j
theorem O6(D:Nat->Bool)(i j:Nat):nC (nC D i) j=nC (nC D j) i:=by
  funext k;simp only[nC];cases Nat.beq k i <;> cases Nat.beq k j <;> rfl
def Js(C:Ctx)(full:List Oper)(st:List Nat)(D:Nat->Bool)(a:Act)(w:World):Prop:=
  ∀j∈st,D j=true->∀oj,full[j]?=some oj->q0 full a oj=true->pt C.P a oj w (HJ a oj)
def va(C:Ctx)(full:List Oper)(i:Nat)(st:List Nat)(D:Nat->Bool)(K:Act->World->Prop)(a:Act)(w:World):=
  ∃o,full[i]?=some o/\
    (if q0 full a o=true then
      (if LC C o.op=true then ∃v,pt C.P a o w v/\(eG C o.op=false->∀w',pt C.P a o w' v)/\K (a.put o.dst v) w
       else xC C.P a.eval o w λv w'=>Js C full st D a w'/\K (a.put o.dst v) w')
    else K (a.put o.dst undef) w)
def SW(C:Ctx)(full:List Oper):Od->(Nat->Bool)->(Act->World->Prop)->Act->World->Prop
  | .nil,_,N,a,w=>N a w
  | .op i st r,D,N,a,w=>va C full i st D (λa w=>SW C full r (nC D i) N a w) a w
  | .alt i st r o,D,N,a,w=>va C full i st D (λa w=>SW C full r (nC D i) N a w) a w/\SW C full o D N a w
def kI(o:Oper):List Nat:=(o.after.toList.filter λe=>Region.binds .any e).map (·.on)
def mask(acc:Array Nat):List Nat->Nat
  | []=>0
  | p::r=>(2 ^ p ||| acc.getD p 0) ||| mask acc r
def rU : List Oper->Array Nat->Array Nat
  | [],acc=>acc
  | o::r,acc=>rU r (acc.push (mask acc (kI o)))
def C8(o:Oper):Bool:=
  match o.op with
  | .select _ _=>false
  | _=>true
def RA(full:List Oper)(o:Oper)(d:Nat):Bool:=(o.looksAt full.toArray).contains d
def gG(full:List Oper)(x o:Oper):Bool:=
  match x.dst with
  | some d=>RA full o d
  | none=>false
def mZ(x o:Oper):Bool:=
  match x.dst,o.dst with
  | some d,some e=>Nat.beq d e
  | _,_=>false
def FR(C:Ctx)(full:List Oper)(M:Array Nat)(x i:Nat×List Nat):Bool:=
  match full[x.1]?,full[i.1]? with
  | some ox,some oi=>
    !(Nat.beq x.1 i.1) && !((kI ox).contains i.1) && !(mZ ox oi) && !(eG C ox.op && gG full oi ox) &&
    ((M.getD i.1 0).testBit x.1 || (LC C ox.op && !(gG full ox oi) && !(gG full oi ox) && (LC C oi.op || !(eG C ox.op) || i.2.contains x.1)))
  | _,_=>false
def Jt : Od->List (Nat×List Nat)
  | .nil=>[]
  | .op i st r=>(i,st)::Jt r
  | .alt i st r o=>(i,st)::(Jt r++Jt o)
def vL : Od->List Nat
  | .nil=>[]
  | .op i _ _=>[i]
  | .alt i _ _ o=>i::vL o
def pN(R:List Nat)(x:Nat):List Nat:=R.filter λj=>!Nat.beq j x
def m5(full:List Oper)(x:Nat)(R:List Nat):Bool:=
  match full[x]? with
  | some o=>(kI o).all λp=>!R.contains p
  | none=>false
def wN(C:Ctx)(full:List Oper)(x:Nat):Bool:=
  match full[x]? with
  | some o=>!eG C o.op
  | none=>false
def okB(C:Ctx)(full:List Oper)(M:Array Nat):Bool->Od->List Nat->Bool
  | _,.nil,R=>R.isEmpty
  | b,.op x st r,R=>R.contains x && (m5 full x R && ((bif b then wN C full x else(Jt r).all (FR C full M (x,st))) && okB C full M false r (pN R x)))
  | b,.alt x _ r o,R=>R.contains x && (m5 full x R && (wN C full x && (okB C full M false r (pN R x) && (okB C full M true o R && (b || R.all λy=>Nat.beq y x || (vL o).contains y || (M.getD y 0).testBit x || (vL o).any λe=>(M.getD y 0).testBit e)))))
def NU(C:Ctx)(full:List Oper)(L:Od):Bool:=
  (full.all C8) && ((full.zipIdx.all λp=>(kI p.1).all λq=>Nat.blt q p.2) && ((full.all λo=>!(eG C o.op && (gG full o o || o.dst.isNone))) &&
  (((Jt L).all λx=>Nat.blt x.1 full.length && x.2.all λj=>match full[j]? with|some o=>eG C o.op|none=>false) && okB C full (rU full #[]) false L (List.range full.length))))
theorem vM{full:List Oper}{x o:Oper}(h:gG full x o=false):∀d,x.dst=some d->d ∉ o.looksAt full.toArray:=by
  intro d hd;unfold gG at h;rw[hd]at h;simpa[RA]using h
theorem xM{x o:Oper}(h:mZ x o=false):∀d,x.dst=some d->o.dst≠some d:=by
  intro d hd he;unfold mZ at h;rw[hd,he]at h;simp at h
theorem vN{full:List Oper}{x o:Oper}(hs:C8 o=true)(a:Act)(v:Value)(h:gG full x o=false):execOp (a.put x.dst v).eval o=execOp a.eval o:=
  execOp_put (ops:=full.toArray) o (λcs b e=>by simp[C8,e]at hs) a x.dst v (vM h)
theorem y9{full:List Oper}{x o:Oper}(a:Act)(v:Value)(h:gG full x o=false):q0 full (a.put x.dst v) o=q0 full a o:=
  wanted_put (ops:=full.toArray) o a x.dst v (vM h)
theorem Ju{x o:Oper}(a:Act)(v:Value)(h:mZ x o=false):HJ (a.put x.dst v) o=HJ a o:=by
  unfold HJ
  cases ho:o.dst with
  | none=>rfl
  | some e=>
    cases hx:x.dst with
    | none=>rfl
    | some d=>
      have dp:d≠e:=λhh=>xM h d hx (by rw[ho,hh]);simp[Act.put,Array.getElem?_setIfInBounds_ne dp]
def C9(C:Ctx)(full:List Oper)(D:Nat->Bool)(L:List (Nat×List Nat)):Prop:=
  ∀j oj,D j=true->full[j]?=some oj->eG C oj.op=true->∀x∈L,∀ox,full[x.1]?=some ox->gG full ox oj=false/\mZ ox oj=false
structure acr(C:Ctx)(full:List Oper)(x i:Nat×List Nat):Prop where
  q:∀ox,full[x.1]?=some ox->LC C ox.op=true
  a:∀ox oi,full[x.1]?=some ox->full[i.1]?=some oi->gG full ox oi=false/\gG full oi ox=false/\mZ ox oi=false
  s:∀ox oi,full[x.1]?=some ox->full[i.1]?=some oi->LC C oi.op=false->eG C ox.op=true->x.1∈i.2
theorem Js.back{C:Ctx}{full:List Oper}(HL:∀ o ∈ full,C8 o=true){st:List Nat}{D:Nat->Bool}{x:Nat×List Nat}{ox:Oper}(hx:full[x.1]?=some ox){L:List (Nat×List Nat)}(QF:C9 C full D (x::L))
    (hrd:∀j∈st,D j=true->∀oj,full[j]?=some oj->eG C oj.op=true) {a:Act} {v:Value} {w:World} (h:Js C full st (nC D x.1) (a.put ox.dst v) w):Js C full st D a w:=by
  intro j hj hD oj wM hw;have hr:=hrd j hj hD oj wM;obtain⟨h1,h2⟩:=QF j oj hD wM hr x (by simp) ox hx;have:=h j hj (by simp[nC,hD]) oj wM (by rw[y9 a v h1];exact hw);rw[Ju a v h2]at this;unfold pt at this ⊢;rwa[vN (HL oj (List.mem_of_getElem? wM)) a v h1]at this
theorem xC.mono{P:Program}{ρ:Operand->Value}{o:Oper}{w:World}{k k':Value->World->Prop}(h:xC P ρ o w k)(hk:∀ v w',k v w'->k' v w'):xC P ρ o w k':=by
  rcases h with⟨v,w',h1,h2⟩|⟨w',h1,h2⟩|⟨g,args,h1,h2⟩|⟨l,fn,tmps,assign,body,h1,h2⟩
  · exact .inl ⟨v,w',h1,hk _ _ h2⟩
  · exact .inr (.inl ⟨w',h1,hk _ _ h2⟩)
  · exact .inr (.inr (.inl ⟨g,args,h1,h2.mono λe Zi ⟨v,he,hv⟩=>⟨v,he,hk _ _ hv⟩⟩))
  · exact .inr (.inr (.inr ⟨l,fn,tmps,assign,body,h1,h2.mono λe Zi ⟨v,he,hv⟩=>⟨v,he,hk _ _ hv⟩⟩))
theorem xC.congr{P:Program}{ρ ρ':Operand->Value}{o:Oper}{w:World}{k:Value->World->Prop}(he:execOp ρ o=execOp ρ' o)(h:xC P ρ o w k):xC P ρ' o w k:=by
  unfold xC at h ⊢;rw[he]at h;exact h
theorem EY{n:Nat}{o:Oper}{a:Act}(hs:a.tmps.size=n)(hd:tI n o=true)(hn:o.dst.isNone=false)(v:Value):HJ (a.put o.dst v) o=v:=by
  unfold HJ tI at *
  cases ho:o.dst with
  | none=>rw[ho]at hn;cases hn
  | some d=>
    rw[ho]at hd;have bK:d<n:=Nat.le_of_ble_eq_true hd;simp[Act.put,hs,bK]
theorem size_put(a:Act)(d:Option Nat)(v:Value):(a.put d v).tmps.size=a.tmps.size:=by cases d <;> simp[Act.put]
theorem HM(x o:Oper):mZ x o=mZ o x:=by
  unfold mZ
  cases x.dst <;> cases o.dst <;> try rfl
  rename_i d e;simp only
  cases h:Nat.beq d e with
  | true=>have:=Nat.eq_of_beq_eq_true h;subst this;exact h.symm
  | false=>
    cases h':Nat.beq e d with
    | false=>rfl
    | true=>have:=Nat.eq_of_beq_eq_true h';subst this;rw[Nat.beq_refl]at h;cases h
theorem O7{x o:Oper}(a:Act)(v u:Value)(h:mZ x o=false):(a.put x.dst v).put o.dst u=(a.put o.dst u).put x.dst v:=
  Act.put_comm a v u (xM h)
def Zw(C:Ctx)(full:List Oper)(x y:Nat×List Nat):Prop:=
  ∀ox oy,full[x.1]?=some ox->full[y.1]?=some oy->eG C ox.op=true->gG full oy ox=false/\mZ oy ox=false
theorem LI{C:Ctx}{full:List Oper}{n:Nat}(sG:∀ o ∈ full,tI n o=true)(HL:∀ o ∈ full,C8 o=true)(Jv:∀ o ∈ full,eG C o.op=true->gG full o o=false/\o.dst.isNone=false)(i:Nat)(st:List Nat)
    (qS:∀j∈st,∀oj,full[j]?=some oj->eG C oj.op=true) {x:Nat×List Nat} (hX:acr C full x (i,st)) {D:Nat->Bool} (QF:C9 C full D [x]) {A:Act->World->Prop} {B:(Nat->Bool)->Act->World->Prop} {a:Act} {w:World} (mW:a.tmps.size=n)
    (IH:∀v,(∃ox,full[x.1]?=some ox/\A (a.put ox.dst v) w)->∃ox,full[x.1]?=some ox/\va C full i st (nC D x.1) (B (nC (nC D x.1) i)) (a.put ox.dst v) w)
    (h:va C full x.1 x.2 D A a w):va C full i st D (λa w=>va C full x.1 x.2 (nC D i) (B (nC (nC D i) x.1)) a w) a w:=by
    obtain⟨ox,EZ,h⟩:=h
    have IH:∀v,A (a.put ox.dst v) w->va C full i st (nC D x.1) (B (nC (nC D x.1) i)) (a.put ox.dst v) w:=λv hv=>by
      obtain⟨ox',e,r⟩:=IH v ⟨ox,EZ,hv⟩;rw[EZ]at e;have:=Option.some.inj e;subst this;exact r
    have hq:=hX.q ox EZ
    -- what x acs, v its value
    have core:∀v:Value,(q0 full a ox=true->pt C.P a ox w v/\(eG C ox.op=false->∀w',pt C.P a ox w' v))->(q0 full a ox=false->v=undef)->
        A (a.put ox.dst v) w->va C full i st D (λa w=>va C full x.1 x.2 (nC D i) (B (nC (nC D i) x.1)) a w) a w:=by
      intro v hv1 hv2 acu;obtain⟨oi,hoi,hf⟩:=IH v acu;obtain⟨a1,a2,a3⟩:=hX.a ox oi EZ hoi;have hsi:=HL oi (List.mem_of_getElem? hoi);have hsx:=HL ox (List.mem_of_getElem? EZ);have hwi:=y9 (full:=full) a v a1;have hei:=vN (full:=full) hsi a v a1;refine⟨oi,hoi,?_⟩
      -- x behind i, at a world where it runs as it ran
      have RB:∀(u:Value) (w':World),(q0 full a ox=true->pt C.P a ox w' v)->B (nC (nC D x.1) i) ((a.put ox.dst v).put oi.dst u) w'->
          va C full x.1 x.2 (nC D i) (B (nC (nC D i) x.1)) (a.put oi.dst u) w':=by
        intro u w' hr hs;rw[O7 a v u a3,O6]at hs;have hwx:=y9 (full:=full) a u a2;refine⟨ox,EZ,?_⟩;rw[hwx]
        cases hw:q0 full a ox with
        | true=>
          rw[if_pos rfl,if_pos hq];refine⟨v,?_,λhnr w2=>?_,hs⟩
          · unfold pt;rw[vN hsx a u a2];exact hr hw
          · unfold pt;rw[vN hsx a u a2];exact(hv1 hw).2 hnr w2
        | false=>
          rw[if_neg (by simp)];have:=hv2 hw;subst this;exact hs
      rw[hwi]at hf
      cases acv:q0 full a oi with
      | false=>
        rw[acv,if_neg (by simp)]at hf;rw[if_neg (by simp)];exact RB undef w (λhw=>(hv1 hw).1) hf
      | true=>
        rw[acv,if_pos rfl]at hf;rw[if_pos rfl]
        cases hqi:LC C oi.op with
        | true=>
          rw[hqi,if_pos rfl]at hf;rw[if_pos rfl];obtain⟨u,r1,r2,r3⟩:=hf;refine⟨u,?_,λhnr w2=>?_,RB u w (λhw=>(hv1 hw).1) r3⟩
          · unfold pt at r1 ⊢;rwa[hei]at r1
          · have:=r2 hnr w2;unfold pt at this ⊢;rwa[hei]at this
        | false=>
          rw[hqi,if_neg (by simp)]at hf;rw[if_neg (by simp)];refine(xC.congr hei hf).mono λu w' ⟨RC,hk⟩=>?_;refine⟨Js.back HL EZ (L:=[]) (λj oj hD wM hr y hy oy RE=>?_) (λj hj _ oj wM=>qS j hj oj wM) RC,RB u w' (λhw=>?_) hk⟩
          · have:y=x:=by simpa using hy
            subst this;exact QF j oj hD wM hr y (by simp) oy RE
          · cases hr:eG C ox.op with
            | false=>exact(hv1 hw).2 hr w'
            | true=>
              have vl:=hX.s ox oi EZ hoi hqi hr;obtain⟨hsf,hsn⟩:=Jv ox (List.mem_of_getElem? EZ) hr;have:=RC x.1 vl (by simp[nC,Nat.beq_refl]) ox EZ (by rw[y9 a v hsf];exact hw);unfold pt at this ⊢;rw[vN hsx a v hsf]at this;rw[EY mW (sG ox (List.mem_of_getElem? EZ)) hsn]at this;exact this
    cases hw:q0 full a ox with
    | true=>
      rw[hw,if_pos rfl,if_pos hq]at h;obtain⟨v,r1,r2,r3⟩:=h;exact core v (λ_=>⟨r1,r2⟩) (λhf=>by rw[hw]at hf;cases hf) r3
    | false=>
      rw[hw,if_neg (by simp)]at h;exact core undef (λhf=>by rw[hw]at hf;cases hf) (λ_=>rfl) h
theorem Jw(acc:Array Nat):∀(ps:List Nat) (j:Nat),(mask acc ps).testBit j=true->∃p∈ps,p=j∨(acc.getD p 0).testBit j=true
  | [],j,h=>by simp[mask]at h
  | p::r,j,h=>by
    simp only[mask,Nat.testBit_or,Bool.or_eq_true]at h
    rcases h with(h|h)|h
    · refine⟨p,by simp,.inl ?_⟩
      by_cases e:p=j
      · exact e
      · rw[Nat.testBit_two_pow_of_ne e]at h;cases h
    · exact⟨p,by simp,.inr h⟩
    · obtain⟨q,hq,hj⟩:=Jw acc r j h
      exact⟨q,by simp[hq],hj⟩
theorem uC : ∀(l:List Oper) (acc:Array Nat) (p:Nat),p<acc.size->(rU l acc).getD p 0=acc.getD p 0
  | [],_,_,_=>rfl
  | o::r,acc,p,h=>by
    rw[rU,uC r _ p (by simp;omega)];simp[Array.getElem?_push,show p≠acc.size by omega]
theorem Jx : ∀(l:List Oper) (acc:Array Nat) (k:Nat) (o:Oper),l[k]?=some o->∃Jy:Array Nat,Jy.size=acc.size+k/\(rU l acc).getD (acc.size+k) 0=mask Jy (kI o)/\
    ∀p,p<Jy.size->Jy.getD p 0=(rU l acc).getD p 0
  | [],_,_,_,h=>by simp at h
  | o::r,acc,0,o',h=>by
    have e:o=o':=(by simpa using h);subst e;refine⟨acc,rfl,?_,λp hp=>?_⟩
    · rw[rU,uC r _ _ (by simp)]
      simp
    · rw[rU,uC r _ _ (by simp;omega)]
      simp[Array.getElem?_push,show p≠acc.size by omega]
  | o::r,acc,k+1,o',h=>by
    obtain⟨Jy,h1,h2,h3⟩:=Jx r (acc.push (mask acc (kI o))) k o' (by simpa using h);refine⟨Jy,by rw[h1];simp;omega,?_,λp hp=>by rw[rU];exact h3 p hp⟩;rw[rU];have e:(acc.push (mask acc (kI o))).size+k=acc.size+(k+1):=(by simp;omega);rw[e]at h2;exact h2
theorem HN{full:List Oper}(acw:∀ i o,full[i]?=some o->∀ p ∈ kI o,p<i){listed:Nat->Bool}
    (Da:∀i o,full[i]?=some o->listed i=true->∀p∈kI o,listed p=true) :
    ∀(i:Nat) (o:Oper),full[i]?=some o->(∀p∈kI o,listed p=true)->∀j,((rU full #[]).getD i 0).testBit j=true->listed j=true:=by
  intro i
  induction i using Nat.strongRecOn with
  | _ i ih=>
    intro o ho hp j hj;obtain⟨Jy,h1,h2,h3⟩:=Jx full #[] i o ho;simp only[List.size_toArray,List.length_nil,Nat.zero_add]at h1 h2;rw[h2]at hj;obtain⟨p,Us,hpj⟩:=Jw Jy _ _ hj
    rcases hpj with rfl|hpj
    · exact hp p Us
    · have bK:=acw i o ho p Us
      rw[h3 p (by rw[h1];exact bK)]at hpj
      have hlen:p<full.length:=by
        have:=(List.getElem?_eq_some_iff.1 ho).1;omega
      have hop:full[p]?=some full[p]:=List.getElem?_eq_getElem hlen;exact ih p bK _ hop (Da p _ hop (hp p Us)) j hpj
theorem Db{C:Ctx}{full:List Oper}{M:Array Nat}{x i:Nat×List Nat}(h:FR C full M x i=true) :
    ∃ox oi,full[x.1]?=some ox/\full[i.1]?=some oi/\x.1≠i.1/\i.1 ∉ kI ox/\mZ ox oi=false/\(eG C ox.op=true->gG full oi ox=false)/\
      ((M.getD i.1 0).testBit x.1=true∨(LC C ox.op=true/\gG full ox oi=false/\gG full oi ox=false/\(LC C oi.op=true∨eG C ox.op=false∨x.1∈i.2))):=by
  unfold FR at h
  cases hx:full[x.1]? with
  | none=>rw[hx]at h;cases h
  | some ox=>
    cases hi:full[i.1]? with
    | none=>rw[hx,hi]at h;cases h
    | some oi=>
      rw[hx,hi]at h;simp only[Bool.and_eq_true,Bool.not_eq_true',Bool.or_eq_true]at h;obtain⟨⟨⟨⟨h1,h2⟩,h3⟩,h4⟩,h5⟩:=h;refine⟨ox,oi,rfl,rfl,λe=>?_,λhm=>?_,h3,λhr=>?_,?_⟩
      · rw[e,Nat.beq_refl]at h1;cases h1
      · rw[List.contains_iff_mem.2 hm]at h2;cases h2
      · rw[hr,Bool.true_and]at h4;exact h4
      · rcases h5 with h5|⟨⟨⟨h5,h6⟩,h7⟩,h8⟩
        · exact .inl h5
        · refine .inr ⟨h5,h6,h7,?_⟩
          rcases h8 with(h8|h8)|h8
          · exact .inl h8
          · exact .inr (.inl h8)
          · exact .inr (.inr (List.contains_iff_mem.1 h8))
theorem Bs{C:Ctx}{full:List Oper}{M:Array Nat}{x y:Nat×List Nat}(h:FR C full M x y=true):Zw C full x y:=by
  obtain⟨ox,oy,h1,h2,h3,h4,h5,h6,h7⟩:=Db h;intro ox' oy' e1 e2 hr;rw[h1]at e1;rw[h2]at e2;have:=Option.some.inj e1;subst this;have:=Option.some.inj e2;subst this;exact⟨h6 hr,by rw[HM];exact h5⟩
def pull(i:Nat):Od->Od
  | .nil=>.nil
  | .op x st r=>if Nat.beq x i then r else .op x st (pull i r)
  | .alt x _ r o=>if Nat.beq x i then r else pull i o
def yj(i:Nat):Od->List Nat
  | .nil=>[]
  | .op x st r=>if Nat.beq x i then st else yj i r
  | .alt x st _ o=>if Nat.beq x i then st else yj i o
theorem vO(i:Nat):∀(T:Od),∀y∈Jt (pull i T),y∈Jt T
  | .nil,y,h=>h
  | .op x st r,y,h=>by
    unfold pull at h
    split at h
    · exact List.mem_cons_of_mem _ h
    · rcases List.mem_cons.1 h with h|h
      · exact List.mem_cons.2 (.inl h)
      · exact List.mem_cons_of_mem _ (vO i r y h)
  | .alt x st r o,y,h=>by
    unfold pull at h
    split at h
    · exact List.mem_cons_of_mem _ (List.mem_append.2 (.inl h))
    · exact List.mem_cons_of_mem _ (List.mem_append.2 (.inr (vO i o y h)))
theorem pT{R:List Nat}:j∈pN R x↔j∈R/\j≠x:=by
  simp only[pN,List.mem_filter,Bool.not_eq_true',and_congr_right_iff];intro _
  constructor
  · intro h e;subst e;rw[Nat.beq_refl]at h;cases h
  · intro h;cases e:Nat.beq j x with
    | false=>rfl
    | true=>exact absurd (Nat.eq_of_beq_eq_true e) h
theorem LJ(R:List Nat)(x i:Nat):pN (pN R x) i=pN (pN R i) x:=by
  simp only[pN,List.filter_filter];congr 1;funext k;exact Bool.and_comm _ _
theorem HO{R:List Nat}(h:x ∈ R):(pN R x).length<R.length:=by
  unfold pN;have h1:=List.length_filter_le (λj=>!Nat.beq j x) R
  rcases Nat.lt_or_ge (R.filter λj=>!Nat.beq j x).length R.length with h2|h2
  · exact h2
  · exfalso
    have:=List.length_filter_eq_length_iff.1 (Nat.le_antisymm h1 h2) x h;rw[Nat.beq_refl]at this;cases this
theorem beq_false(h:x≠i):Nat.beq x i=false:=by
  cases e:Nat.beq x i with
  | false=>rfl
  | true=>exact absurd (Nat.eq_of_beq_eq_true e) h
theorem yk(h:x≠i)(st:List Nat)(r:Od):pull i (.op x st r) = .op x st (pull i r):=by rw[pull,beq_false h];rfl
theorem yl(i:Nat)(st:List Nat)(r:Od):pull i (.op i st r)=r:=by rw[pull,Nat.beq_refl];rfl
theorem aaf(h:x≠i)(st:List Nat)(r o:Od):pull i (.alt x st r o)=pull i o:=by rw[pull,beq_false h];rfl
theorem Bu(i:Nat)(st:List Nat)(r o:Od):pull i (.alt i st r o)=r:=by rw[pull,Nat.beq_refl];rfl
theorem Dc(h:x≠i)(st:List Nat)(r:Od):yj i (.op x st r)=yj i r:=by rw[yj,beq_false h];rfl
theorem Dd(i:Nat)(st:List Nat)(r:Od):yj i (.op i st r)=st:=by rw[yj,Nat.beq_refl];rfl
theorem Bv(h:x≠i)(st:List Nat)(r o:Od):yj i (.alt x st r o)=yj i o:=by rw[yj,beq_false h];rfl
theorem Bw(i:Nat)(st:List Nat)(r o:Od):yj i (.alt i st r o)=st:=by rw[yj,Nat.beq_refl];rfl
structure OkOp(C:Ctx)(full:List Oper)(M:Array Nat)(b:Bool)(x:Nat)(st:List Nat)(r:Od)(R:List Nat):Prop where
  mem:x∈R
  free:m5 full x R=true
  rest:okB C full M false r (pN R x)=true
  pair:b=false->∀p∈Jt r,FR C full M (x,st) p=true
  alt:b=true->wN C full x=true
theorem vQ{C:Ctx}{full:List Oper}{M:Array Nat}{b:Bool}{st:List Nat}{r:Od}{R:List Nat}(h:okB C full M b (.op x st r) R=true):OkOp C full M b x st r R:=by
  simp only[okB,Bool.and_eq_true]at h;obtain⟨h1,h2,h3,h4⟩:=h;refine⟨List.contains_iff_mem.1 h1,h2,h4,λe=>?_,λe=>?_⟩
  · subst e;exact List.all_eq_true.1 h3
  · subst e;exact h3
structure acx(C:Ctx)(full:List Oper)(M:Array Nat)(b:Bool)(x:Nat)(r o:Od)(R:List Nat):Prop where
  mem:x∈R
  free:m5 full x R=true
  quiet:wN C full x=true
  rest:okB C full M false r (pN R x)=true
  other:okB C full M true o R=true
  cover:b=false->∀y∈R,y∈vL (.alt x [] r o)∨∃e∈vL (.alt x [] r o),(M.getD y 0).testBit e=true
theorem pv{C:Ctx}{full:List Oper}{M:Array Nat}{b:Bool}{st:List Nat}{r o:Od}{R:List Nat}(h:okB C full M b (.alt x st r o) R=true):acx C full M b x r o R:=by
  simp only[okB,Bool.and_eq_true]at h;obtain⟨h1,h2,h3,h4,h5,h6⟩:=h;refine⟨List.contains_iff_mem.1 h1,h2,h3,h4,h5,λe y hy=>?_⟩;subst e;have:=List.all_eq_true.1 (by simpa only[Bool.false_or]using h6) y hy;simp only[Bool.or_eq_true]at this
  rcases this with((h|h)|h)|h
  · exact .inl (List.mem_cons.2 (.inl (Nat.eq_of_beq_eq_true h)))
  · exact .inl (List.mem_cons_of_mem _ (List.contains_iff_mem.1 h))
  · exact .inr ⟨x,List.mem_cons_self ..,h⟩
  · obtain⟨e,he,ht⟩:=List.any_eq_true.1 h
    exact .inr ⟨e,List.mem_cons_of_mem _ he,ht⟩
theorem FT{C:Ctx}{full:List Oper}{M:Array Nat}:∀(T:Od) (b:Bool) (R:List Nat),okB C full M b T R=true->∀e∈vL T,e∈R
  | .nil,_,_,_,e,he=>absurd he (by simp[vL])
  | .op x st r,b,R,h,e,he=>by
    have:e=x:=(by simpa[vL]using he);rw[this];exact(vQ h).mem
  | .alt x st r o,b,R,h,e,he=>by
    have:=pv h
    rcases List.mem_cons.1 he with he|he
    · rw[he];exact this.mem
    · exact FT o true R this.other e he
structure Can(full:List Oper)(M:Array Nat)(i:Nat)(b:Bool)(T:Od)(R:List Nat):Prop where
  mem:i∈R
  up:∀k,(M.getD i 0).testBit k=true->k ∉ R
  alt:b=true->i∈vL T
theorem Can.rest{full:List Oper}{M:Array Nat}{st:List Nat}{r:Od}{R:List Nat}(c:Can full M i false (.op x st r) R)(h:x≠i):Can full M i false r (pN R x):=
  ⟨pT.2 ⟨c.mem,λe=>h e.symm⟩,λk hk hm=>c.up k hk (pT.1 hm).1,λe=>by cases e⟩
theorem Can.other{C:Ctx}{full:List Oper}{M:Array Nat}{b:Bool}{st:List Nat}{r o:Od}{R:List Nat}(c:Can full M i b (.alt x st r o) R)(hk:okB C full M b (.alt x st r o) R=true)(h:x≠i):Can full M i true o R:=by
  refine⟨c.mem,c.up,λ_=>?_⟩
  have hh:i∈vL (.alt x st r o):=by
    cases b with
    | true=>exact c.alt rfl
    | false=>
      rcases(pv hk).cover rfl i c.mem with h|⟨e,he,ht⟩
      · exact h
      · exact absurd (FT _ _ _ hk e he) (c.up e ht)
  rcases List.mem_cons.1 hh with hh|hh
  · exact absurd hh.symm h
  · exact hh
theorem Can.eq{full:List Oper}{M:Array Nat}{st:List Nat}{r:Od}{R:List Nat}(c:Can full M i true (.op x st r) R):x=i:=by
  have:=c.alt rfl;simp only[vL,List.mem_singleton]at this;exact this.symm
theorem y'{C:Ctx}{full:List Oper}{M:Array Nat}{i:Nat}:∀(T:Od) (b:Bool) (R:List Nat),okB C full M b T R=true->Can full M i b T R->(i,yj i T)∈Jt T
  | .nil,b,R,h,c=>by
    simp only[okB,List.isEmpty_iff]at h;have:=c.mem;rw[h]at this;exact absurd this (by simp)
  | .op x st r,b,R,h,c=>by
    by_cases e:x=i
    · subst e;rw[Dd];exact List.mem_cons_self ..
    · cases b with
      | true=>exact absurd c.eq e
      | false=>rw[Dc e];exact List.mem_cons_of_mem _ (y' r false _ (vQ h).rest (c.rest e))
  | .alt x st r o,b,R,h,c=>by
    by_cases e:x=i
    · subst e;rw[Bw];exact List.mem_cons_self ..
    · rw[Bv e];exact List.mem_cons_of_mem _ (List.mem_append.2 (.inr (y' o true R (pv h).other (c.other h e))))
theorem De{full:List Oper}{R:List Nat}(h:m5 full x R=true):m5 full x (pN R i)=true:=by
  unfold m5 at h ⊢
  cases ho:full[x]? with
  | none=>rw[ho]at h;cases h
  | some o=>
    rw[ho]at h;refine List.all_eq_true.2 λp hp=>?_;have:=List.all_eq_true.1 h p hp;rw[Bool.not_eq_true']at this ⊢
    cases hc:(pN R i).contains p with
    | false=>rfl
    | true=>rw[List.contains_iff_mem.2 (pT.1 (List.contains_iff_mem.1 hc)).1]at this;cases this
theorem HQ{C:Ctx}{full:List Oper}{M:Array Nat}{i:Nat}:∀(T:Od) (b:Bool) (R:List Nat),okB C full M b T R=true->Can full M i b T R->okB C full M false (pull i T) (pN R i)=true
  | .nil,b,R,h,c=>by
    simp only[okB,List.isEmpty_iff]at h;have:=c.mem;rw[h]at this;exact absurd this (by simp)
  | .op x st r,b,R,h,c=>by
    have k:=vQ h
    by_cases e:x=i
    · subst e;rw[yl];exact k.rest
    · cases b with
      | true=>exact absurd c.eq e
      | false=>
        rw[yk e];simp only[okB,Bool.and_eq_true];refine⟨List.contains_iff_mem.2 (pT.2 ⟨k.mem,e⟩),De k.free,?_,?_⟩
        · exact List.all_eq_true.2 λp hp=>k.pair rfl p (vO i r p hp)
        · rw[LJ];exact HQ r false _ k.rest (c.rest e)
  | .alt x st r o,b,R,h,c=>by
    by_cases e:x=i
    · subst e;rw[Bu];exact(pv h).rest
    · rw[aaf e];exact HQ o true R (pv h).other (c.other h e)
theorem FU{C:Ctx}{full:List Oper}{M:Array Nat}{x i:Nat×List Nat}(h:FR C full M x i=true)(QG:(M.getD i.1 0).testBit x.1=false):acr C full x i:=by
  obtain⟨ox,oi,g1,g2,g3,g4,g5,g6,g7⟩:=Db h
  rcases g7 with g7|⟨k1,k2,k3,k4⟩
  · rw[QG]at g7;cases g7
  · refine⟨λo1 e1=>?_,λo1 o2 e1 e2=>?_,λo1 o2 e1 e2 hnq hr=>?_⟩
    · rw[g1]at e1;have:=Option.some.inj e1;subst this;exact k1
    · rw[g1]at e1;rw[g2]at e2;have:=Option.some.inj e1;subst this;have:=Option.some.inj e2;subst this;exact⟨k2,k3,g5⟩
    · rw[g1]at e1;rw[g2]at e2;have:=Option.some.inj e1;subst this;have:=Option.some.inj e2;subst this
      rcases k4 with k4|k4|k4
      · rw[hnq]at k4;cases k4
      · rw[hr]at k4;cases k4
      · exact k4
theorem Can.no{full:List Oper}{M:Array Nat}{b:Bool}{T:Od}{R:List Nat}(c:Can full M i b T R)(h:x ∈ R):(M.getD i 0).testBit x=false:=by
  cases e:(M.getD i 0).testBit x with
  | false=>rfl
  | true=>exact absurd h (c.up x e)
theorem vR{C:Ctx}{full:List Oper}{M:Array Nat}{i:Nat}{o:Oper}(ho:full[i]?=some o)(hr:eG C o.op=true):∀(T:Od) (b:Bool) (R:List Nat),okB C full M b T R=true->Can full M i b T R->
    ∀y∈Jt (pull i T),∀oy,full[y.1]?=some oy->gG full oy o=false/\mZ oy o=false
  | .nil,b,R,h,c,y,hy,oy,RE=>absurd hy (by simp[pull,Jt])
  | .op x st r,b,R,h,c,y,hy,oy,RE=>by
    have k:=vQ h
    by_cases e:x=i
    · subst e
      rw[yl]at hy
      cases b with
      | true=>
        have:=k.alt rfl;unfold wN at this;rw[ho]at this;simp[hr]at this
      | false=>exact Bs (k.pair rfl y hy) o oy ho RE hr
    · cases b with
      | true=>exact absurd c.eq e
      | false=>
        rw[yk e]at hy
        rcases List.mem_cons.1 hy with hy|hy
        · subst hy
          have hm:=y' r false _ k.rest (c.rest e);have sw:=FU (k.pair rfl _ hm) (c.no k.mem);obtain⟨k1,_,k3⟩:=sw.a oy o RE ho;exact⟨k1,k3⟩
        · exact vR ho hr r false _ k.rest (c.rest e) y hy oy RE
  | .alt x st r o',b,R,h,c,y,hy,oy,RE=>by
    by_cases e:x=i
    · subst e
      have:=(pv h).quiet;unfold wN at this;rw[ho]at this;simp[hr]at this
    · rw[aaf e]at hy
      exact vR ho hr o' true R (pv h).other (c.other h e) y hy oy RE
theorem C9.sub{C:Ctx}{full:List Oper}{D:Nat->Bool}{L L':List (Nat×List Nat)}(h:C9 C full D L)(hs:∀ y ∈ L',y ∈ L):C9 C full D L':=
  λj oj hD wM hr x hx ox EZ=>h j oj hD wM hr x (hs x hx) ox EZ
theorem ym{C:Ctx}{full:List Oper}{n:Nat}{M:Array Nat}(sG:∀ o ∈ full,tI n o=true)(HL:∀ o ∈ full,C8 o=true)(Jv:∀ o ∈ full,eG C o.op=true->gG full o o=false/\o.dst.isNone=false)(i:Nat)(N:Act->World->Prop) :
    ∀(T:Od) (b:Bool) (R:List Nat) (D:Nat->Bool) (a:Act) (w:World),okB C full M b T R=true->Can full M i b T R->(∀x∈Jt T,∀j∈x.2,∀oj,full[j]?=some oj->eG C oj.op=true)->
      a.tmps.size=n->C9 C full D (Jt T)->SW C full T D N a w->va C full i (yj i T) D (λa w=>SW C full (pull i T) (nC D i) N a w) a w
  | .nil,b,R,D,a,w,h,c,_,_,_,_=>by
    simp only[okB,List.isEmpty_iff]at h;have:=c.mem;rw[h]at this;exact absurd this (by simp)
  | .op x st r,b,R,D,a,w,h,c,qS,mW,QF,hs=>by
    have k:=vQ h
    by_cases e:x=i
    · subst e;rw[yl,Dd];exact hs
    · cases b with
      | true=>exact absurd c.eq e
      | false=>
        rw[yk e,Dc e];have hm:=y' r false _ k.rest (c.rest e);have sw:=FU (k.pair rfl _ hm) (c.no k.mem);refine LI sG HL Jv i (yj i r) (qS _ (List.mem_cons_of_mem _ hm)) (x:=(x,st)) sw (QF.sub λy hy=>by rw[List.mem_singleton.1 hy];exact List.mem_cons_self ..)
          (A:=λa w=>SW C full r (nC D x) N a w) (B:=λD a w=>SW C full (pull i r) D N a w) mW (λv hv=>?_) hs
        obtain⟨ox,EZ,hv⟩:=hv;refine⟨ox,EZ,?_⟩;refine ym sG HL Jv i N r false _ (nC D x) _ w k.rest (c.rest e) (λy hy=>qS y (List.mem_cons_of_mem _ hy)) (by rw[size_put];exact mW) ?_ hv;intro j oj hD wM hr y hy oy RE;simp only[nC,Bool.or_eq_true]at hD
        rcases hD with hD|hD
        · have e:=Nat.eq_of_beq_eq_true hD
          subst e;exact Bs (k.pair rfl y hy) oj oy wM RE hr
        · exact QF j oj hD wM hr y (List.mem_cons_of_mem _ hy) oy RE
  | .alt x st r o,b,R,D,a,w,h,c,qS,mW,QF,hs=>by
    by_cases e:x=i
    · subst e;rw[Bu,Bw];exact hs.1
    · rw[aaf e,Bv e]
      exact ym sG HL Jv i N o true R D a w (pv h).other (c.other h e) (λy hy=>qS y (List.mem_cons_of_mem _ (List.mem_append.2 (.inr hy)))) mW
        (QF.sub λy hy=>List.mem_cons_of_mem _ (List.mem_append.2 (.inr hy))) hs.2
structure acy(C:Ctx)(full:List Oper)(L:Od):Prop where
  sel:∀o∈full,C8 o=true
  back:∀i o,full[i]?=some o->∀p∈kI o,p<i
  self:∀o∈full,eG C o.op=true->gG full o o=false/\o.dst.isNone=false
  st:∀x∈Jt L,∀j∈x.2,∀oj,full[j]?=some oj->eG C oj.op=true
  ok:okB C full (rU full #[]) false L (List.range full.length)=true
theorem LK{C:Ctx}{full:List Oper}{L:Od}(h:NU C full L=true):acy C full L:=by
  simp only[NU,Bool.and_eq_true]at h;obtain⟨h1,h2,h3,h5,h6⟩:=h;refine⟨List.all_eq_true.1 h1,?_,?_,?_,h6⟩
  · intro i o ho p hp
    have hm:(o,i)∈full.zipIdx:=by
      rw[List.mem_iff_getElem?];exact⟨i,by simp[List.getElem?_zipIdx,ho]⟩
    have:=List.all_eq_true.1 (List.all_eq_true.1 h2 _ hm) p hp;exact Nat.le_of_ble_eq_true this
  · intro o ho hr
    have:=List.all_eq_true.1 h3 o ho;rw[hr]at this;simpa using this
  · intro x hx j hj oj wM
    have:=List.all_eq_true.1 h5 x hx;simp only[Bool.and_eq_true]at this;have:=List.all_eq_true.1 this.2 j hj;rw[wM]at this;exact this
theorem Zx{C:Ctx}{ro:Option Nat}{full:List Oper}{n:Nat}(Zr:∀ o ∈ full,iA o.op=false)(sG:∀ o ∈ full,tI n o=true){L0:Od}(hp:acy C full L0){Q:Exit->Act->World->Prop}{N:Act->World->Prop}(hN:∀ a w,N a w->Q .normal a w) :
    ∀(fuel:Nat) (listed:Array Bool) (T:Od) (R:List Nat) (D:Nat->Bool) (a:Act) (w:World),listed.size=full.length->okB C full (rU full #[]) false T R=true->(∀y∈Jt T,y∈Jt L0)->
      (∀i,i<full.length->(listed.getD i true=false↔i∈R))->(∀i∈R,i<full.length)->(∀i o,full[i]?=some o->listed.getD i false=true->∀p∈kI o,listed.getD p false=true)->
      C9 C full D (Jt T)->a.tmps.size=n->R.length<=fuel->SW C full T D N a w->wpAnyIn (FW ro) 0 C.P .any full.toArray Q fuel listed a w:=by
  have pm:∀(o:Oper) (e:Edge),e∈o.after->Region.binds .any e=true->e.on∈kI o:=λo e he hb=>
    List.mem_map.2 ⟨e,List.mem_filter.2 ⟨by simpa using he,hb⟩,rfl⟩
  have mp:∀(o:Oper) (p:Nat),p∈kI o->∃e∈o.after,Region.binds .any e=true/\e.on=p:=λo p h=>by
    obtain⟨e,he,rfl⟩:=List.mem_map.1 h;obtain⟨h1,h2⟩:=List.mem_filter.1 he;exact⟨e,by simpa using h1,h2,rfl⟩
  have flip:∀(listed:Array Bool) (i:Nat),listed.size=full.length->i<full.length->listed.getD i true=listed.getD i false:=by
    intro listed i hs hi;have bK:i<listed.size:=(by omega);rw[Array.getD_eq_getD_getElem?,Array.getD_eq_getD_getElem?,Array.getElem?_eq_getElem bK];rfl
  -- where nothing is ready, nothing is left
  have O8:∀(listed:Array Bool) (T:Od) (R:List Nat),listed.size=full.length->okB C full (rU full #[]) false T R=true->(∀i,i<full.length->(listed.getD i true=false↔i∈R))->(∀i∈R,i<full.length)->
      Region.ready .any full.toArray listed=[]->T = .nil:=by
    intro listed T R hs rK BW LL hr
    have go:∀x,x∈R->m5 full x R=true->False:=by
      intro x hxm Jz;have bK:=LL x hxm;have EZ:full[x]?=some full[x]:=List.getElem?_eq_getElem bK
      have vl:x∈Region.ready .any full.toArray listed:=by
        refine mem_ready.2 ⟨(BW x bK).2 hxm,full[x],by simp,λe he hb=>?_⟩;have Us:=pm _ e he hb;have hplt:=hp.back _ _ EZ _ Us
        cases hl:listed.getD e.on false with
        | true=>rfl
        | false=>
          exfalso;rw[<-flip listed e.on hs (by omega)]at hl;have hin:=(BW e.on (by omega)).1 hl;unfold m5 at Jz;rw[EZ]at Jz;have:=List.all_eq_true.1 Jz e.on Us;rw[List.contains_iff_mem.2 hin]at this;cases this
      rw[hr]at vl;exact absurd vl (by simp)
    cases T with
    | nil=>rfl
    | op x st r=>exact(go x (vQ rK).mem (vQ rK).free).elim
    | alt x st r o=>exact(go x (pv rK).mem (pv rK).free).elim
  intro fuel
  induction fuel with
  | zero=>
    intro listed T R D a w hs rK Zy BW LL Da QF mW hlen h;have hL:R=[]:=List.eq_nil_of_length_eq_zero (by omega);subst hL
    have hT:T = .nil:=by
      cases T with
      | nil=>rfl
      | op x st r=>exact absurd (vQ rK).mem (by simp)
      | alt x st r o=>exact absurd (pv rK).mem (by simp)
    subst hT;refine⟨?_,hN _ _ h⟩
    cases hr:Region.ready .any full.toArray listed with
    | nil=>rfl
    | cons j r=>
      exfalso;have hj:j∈Region.ready .any full.toArray listed:=(by rw[hr];simp);obtain⟨h1,o,h2,_⟩:=mem_ready.1 hj
      have bK:j<full.length:=by
        have:=(Array.getElem?_eq_some_iff.1 h2).1;simpa using this
      exact absurd ((BW j bK).1 h1) (by simp)
  | succ fuel ih=>
    intro listed T R D a w hs rK Zy BW LL Da QF mW hlen h;refine⟨λhr=>?_,λi hi=>?_⟩
    · have:=O8 listed T R hs rK BW LL hr
      subst this;exact hN _ _ h
    · obtain⟨h1,o,h2,h3⟩:=mem_ready.1 hi
      have ho:full[i]?=some o:=(by simpa using h2);have bK:i<full.length:=(List.getElem?_eq_some_iff.1 ho).1;have hiR:=(BW i bK).1 h1
      have RH:∀p∈kI o,listed.getD p false=true:=λp xB=>by
        obtain⟨e,he,hb,rfl⟩:=mp o p xB;exact h3 e he hb
      have Zz:=HN hp.back (listed:=λk=>listed.getD k false) Da i o ho RH
      have can:Can full (rU full #[]) i false T R:=by
        refine⟨hiR,λk hk hm=>?_,λe=>by cases e⟩;have h4:=Zz k hk;have h4:listed.getD k false=true:=h4;rw[<-flip listed k hs (LL k hm),(BW k (LL k hm)).2 hm]at h4
        cases h4
      obtain⟨o',NR,hf⟩:=ym sG hp.sel hp.self i N T false R D a w rK can (λx hx=>hp.st x (Zy x hx)) mW QF h;rw[ho]at NR;have:=Option.some.inj NR;subst this
      have next:∀(v:Value) (w':World),SW C full (pull i T) (nC D i) N (a.put o.dst v) w'->wpAnyIn (FW ro) 0 C.P .any full.toArray Q fuel (listed.setIfInBounds i true) (a.put o.dst v) w':=by
        intro v w' hsw;refine ih _ _ (pN R i) _ _ _ (by simpa using hs) (HQ T false R rK can) (λy hy=>Zy y (vO i T y hy)) ?_ (λj hj=>LL j (pT.1 hj).1) ?_ ?_ (by rw[size_put];exact mW) (by have:=HO hiR;omega) hsw
        · intro j hj
          by_cases e:i=j
          · subst e
            constructor
            · intro hh
              have:(listed.setIfInBounds i true).getD i true=true:=by
                rw[Array.getD_eq_getD_getElem?];simp[show i<listed.size by omega]
              rw[this]at hh;cases hh
            · intro hh;exact absurd rfl (pT.1 hh).2
          · rw[getD_set_ne true e,BW j hj,pT]
            exact⟨λhh=>⟨hh,λe'=>e e'.symm⟩,λhh=>hh.1⟩
        · intro j oj wM hl p xB
          by_cases e:i=j
          · subst e
            rw[ho]at wM;have:=Option.some.inj wM;subst this;exact getD_set_true (RH p xB)
          · rw[getD_set_ne false e]at hl
            exact getD_set_true (Da j oj wM hl p xB)
        · intro j oj hD wM hr x Zl ox EZ
          simp only[nC,Bool.or_eq_true]at hD
          rcases hD with hD|hD
          · have e:=Nat.eq_of_beq_eq_true hD
            subst e;exact vR wM hr T false R rK can x Zl ox EZ
          · exact QF j oj hD wM hr x (vO i T x Zl) ox EZ
      have hd:ro=none∨iA o.op=false:=.inr (Zr o (List.mem_of_getElem? ho));unfold wpOpIn;simp only[h2]
      split
      · rename_i hw
        have hw':q0 full a o=true:=hw;rw[hw',if_pos rfl]at hf
        cases hq:LC C o.op with
        | true=>
          rw[hq,if_pos rfl]at hf;obtain⟨v,r1,_,r3⟩:=hf;exact rC hd (k:=λu w'=>u=v/\w'=w) (.inl ⟨v,w,r1,rfl,rfl⟩) λu w' ⟨e1,e2⟩=>by subst e1;subst e2;exact next _ _ r3
        | false=>
          rw[hq,if_neg (by simp)]at hf;exact rC hd hf λu w' ⟨_,hk⟩=>next _ _ hk
      · rename_i hw
        have hw':q0 full a o=false:=(by simpa[q0]using hw);rw[hw',if_neg (by simp)]at hf;exact⟨λ_ _=>trivial,next _ _ hf⟩
theorem sK{C:Ctx}{full:List Oper}{n:Nat}{a:Act}{f:Fr}(hA:um n a f){h:ad}{K:Prop}:∀{js:List Nat},Ah C full f h js K->
    (∀j∈js,∀oj,full[j]?=some oj->q0 full a oj=true->Hv C f h oj)/\K
  | [],hk=>⟨λj hj=>absurd hj (by simp),hk⟩
  | j::r,hk=>by
    obtain⟨o,ho,h1⟩:=bg (show ae (full[j]?) _ from hk);have h2:=uB hA h1
    cases hw:q0 full a o with
    | true=>
      rw[show Region.wanted o (yielded full.toArray a.tmps)=true from hw]at h2;obtain⟨h3,h4⟩:=h2;obtain⟨i1,i2⟩:=sK hA h4;refine⟨λk hk oj wM ZA=>?_,i2⟩
      rcases List.mem_cons.1 hk with rfl|hk
      · rw[ho]at wM;have:=Option.some.inj wM;subst this;exact h3
      · exact i1 k hk oj wM ZA
    | false=>
      rw[show Region.wanted o (yielded full.toArray a.tmps)=false from hw]at h2;obtain⟨i1,i2⟩:=sK hA (show Ah C full f h r K from h2);refine⟨λk hk oj wM ZA=>?_,i2⟩
      rcases List.mem_cons.1 hk with rfl|hk
      · rw[ho]at wM;have:=Option.some.inj wM;subst this;rw[hw]at ZA;cases ZA
      · exact i1 k hk oj wM ZA
theorem HR(s:ByteArray):mkStr s.toList=s:=by
  rw[ByteArray.toList_eq];rfl
theorem O9{C:Ctx}(hC:kN C){n:Nat}{a:Act}{f:Fr}(hA:um n a f){o:Oper}{w:World}(h:Hv C f w.heap o):pt C.P a o w (HJ a o):=by
  unfold Hv at h
  cases hd:o.dst with
  | none=>rw[hd]at h;exact h.elim
  | some d=>
    rw[hd]at h;obtain⟨v,hv,h1⟩:=bg h;have hdv:HJ a o=v:=(by unfold HJ;rw[hd];exact hA.val d v hv);rw[hdv];unfold pt
    cases ho:o.op with
    | load t x=>
      rw[ho]at h1;obtain⟨p,hp,h2⟩:=rS hA.fit h1;obtain⟨hx,h3⟩:=hC.sE h2;obtain⟨i,ds,z,hi,hu,xX,mW,_,_,_⟩:=hx.get;have u7:=pj hu w;have he:execOp a.eval o=(do Pure.pure (.value (<-Instr.loadAt t (a.eval x)))):=(by simp only[execOp,ho]);rw[he,hp]
      have key:(loadVar t p).run C.P w = .ok v w:=by
        unfold loadVar
        cases hq:jd (au ds)with
        | true=>
          rw[hq]at u7;have hty:(C.ti t).d.ty = .agg:=(by rw[<-xX];revert hq;cases au ds <;> simp[jd,D.ty]);rw[hty]at h3;obtain⟨cs,rfl,hl,hc⟩:=ye h3;have UP:=run_loadCells_list (P:=C.P) w p cs (λj v hv=>hc j v hv);simp only[Sem.run_bind,u7,Result.andThen_ok,if_true,bO hi,mW,<-hl,UP,Sem.run_pure]
        | false=>
          rw[hq]at u7;have hty:(C.ti t).d.ty≠.agg:=by rw[<-xX];revert hq;cases au ds <;> simp[jd,D.ty]
          have h4:cellOf w.heap p=some v:=by
            cases hq2:(C.ti t).d.ty <;> rw[hq2]at h3 hty <;> first|exact h3|exact(hty rfl).elim
          simp[Sem.run_bind,u7,qp,h4]
      simp only[Instr.loadAt,Instr.sureAddr,Sem.run_bind,Sem.run_pure,Result.andThen_ok,key]
    | convert s t x=>
      rw[ho]at h1;simp only at h1;have hs:(C.ti s).d≠.other:=(by intro e;rw[e]at h1;exact h1.elim);have ht:(C.ti t).d≠.other:=(by intro e;rw[e]at h1;split at h1 <;> first|exact h1.elim|simp at *);obtain⟨_,dss,_,_,Rn,Ro,_⟩:=(hC.CN hs).get;obtain⟨_,dt,_,_,O3,EJ,_⟩:=(hC.CN ht).get;rw[<-Ro,<-EJ]at h1
      cases dss <;> cases dt <;> try exact h1.elim
      rename_i e;simp only[au]at h1
      cases hb:xz (C.ti e).d with
      | false=>rw[hb]at h1;exact h1.elim
      | true=>
        rw[hb]at h1;obtain⟨al,l,c,hx,h2⟩:=lj (bq hA.fit (show nO f x _ from h1));obtain⟨b,hvb,qS⟩:=uA h2;have he:(C.ti e).d≠.other:=(by intro e';rw[e']at hb;simp[xz]at hb);obtain⟨_,de,_,_,Zm,Zn,_⟩:=(hC.CN he).get;rw[<-Zn]at hb
        have Zo:C.P.underlying e=some (.int .u8):=by
          cases de <;> simp[au,xz]at hb
          rename_i kd
          cases kd <;> simp at hb
          exact Zm
        have hr:(convert s t (.slice al l c)).run C.P w = .ok v w:=by
          rw[run_convert_bytes_string w s t e al l c Rn Zo O3,Bp qS,HR,hvb]
        have XF:execOp a.eval o=(do Pure.pure (.value (<-convert s t (a.eval x)))):=(by simp only[execOp,ho]);rw[XF,hx,Sem.run_bind,hr];rfl
    | _=>rw[ho]at h1;exact h1.elim
theorem FV{C:Ctx}(hC:kN C){full:List Oper}{n:Nat}(sG:∀ o ∈ full,tI n o=true){w0:World}{a0:Act}{i:Nat}{st:List Nat}{D:Nat->Bool}{K:Fr->ad->Prop}{A:Act->World->Prop}{f:Fr}{a:Act}{w:World}
    (h:doX C full i st K f w.heap) (hA:um n a f) (hR:aQ w0 w) (hM:jq (dstsOf full) a0 a)
    (hK:∀f a w,K f w.heap->um n a f->aQ w0 w->jq (dstsOf full) a0 a->A a w):va C full i st D A a w:=by
    obtain⟨o,ho,h1⟩:=bg (show ae (full[i]?) _ from h);have vl:=List.mem_of_getElem? ho;have hd:=sG o vl;have QD:∀d,o.dst=some d->d∈dstsOf full:=λd hd=>yh vl hd;have h2:=uB hA h1;refine⟨o,ho,?_⟩
    cases hw:q0 full a o with
    | false=>
      rw[show Region.wanted o (yielded full.toArray a.tmps)=false from hw]at h2;rw[if_neg (by simp)];exact hK _ _ _ h2 (hA.put hd undef) hR (hM.put QD undef)
    | true=>
      rw[show Region.wanted o (yielded full.toArray a.tmps)=true from hw]at h2;rw[if_pos rfl];have h2:xH C f o.op o.type (λv h'=>Ah C full f h' st (vA (guards full o) v λv=>K (vk f o.dst v) h')) w.heap:=h2
      cases hq:LC C o.op with
      | true=>
        rw[if_pos rfl];obtain⟨v,r1,r2,r3⟩:=Jn hC hA.fit o hq h2;exact⟨v,r1,r3,hK _ _ _ (sJ (sK hA r2).2) (hA.put hd v) hR (hM.put QD v)⟩
      | false=>
        rw[if_neg (by simp)];refine(C4 hC hA.fit o h2).mono λv w' ⟨hr,hk⟩=>?_;obtain⟨k1,k2⟩:=sK hA hk;exact⟨λj hj _ oj wM ZA=>O9 hC hA (k1 j hj oj wM ZA),hK _ _ _ (sJ k2) (hA.put hd v) (hR.trans hr) (hM.put QD v)⟩
theorem za{C:Ctx}(hC:kN C){full:List Oper}{n:Nat}(sG:∀ o ∈ full,tI n o=true){w0:World}{a0:Act}{N:Fr->ad->Prop} :
    ∀(L:Od) (D:Nat->Bool) (f:Fr) (a:Act) (w:World),Ai C full L N f w.heap->um n a f->aQ w0 w->jq (dstsOf full) a0 a->
      SW C full L D (λa w=>∃f,N f w.heap/\um n a f/\aQ w0 w/\jq (dstsOf full) a0 a) a w
  | .nil,D,f,a,w,h,hA,hR,hM=>⟨f,h,hA,hR,hM⟩
  | .op i st r,D,f,a,w,h,hA,hR,hM=>FV hC sG h hA hR hM λf a w h hA hR hM=>za hC sG r _ f a w h hA hR hM
  | .alt i st r o,D,f,a,w,h,hA,hR,hM=>⟨FV hC sG h.1 hA hR hM λf a w h hA hR hM=>za hC sG r _ f a w h hA hR hM,za hC sG o D f a w h.2 hA hR hM⟩
theorem JA{C:Ctx}(hC:kN C)(n:Nat):Jo C n λid full=>NU C full (C.td id):=by
  intro ro id ops N R f a w0 w acz sG Zr h hA hR hN;have hp:=LK acz;refine wpIn_region_any hC.mixed ?_;have hw:aQ w0 { w with drawn:=w.drawn+1 }:=⟨hR.1,hR.2.1,hR.2.2⟩;have hsw:=za hC (full:=ops.toList) sG (w0:=w0) (a0:=a) (N:=N) (C.td id) (λ_=>false) f a { w with drawn:=w.drawn+1 } h hA hw (.refl _ _);have hlen:(Array.replicate ops.size false).size=ops.toList.length:=by simp
  have:=Zx (ro:=ro) (n:=n) Zr sG hp (Q:=R) (λa w ⟨f,h1,h2,h3,h4⟩=>hN f a w h1 h2 h3 h4) ops.size (Array.replicate ops.size false) (C.td id) (List.range ops.toList.length) (λ_=>false) a { w with drawn:=w.drawn+1 } hlen hp.ok (λ_ h=>h)
    (λi hi=>by
      have vt:i<ops.size:=by simpa using hi
      constructor
      · exact λ_=>List.mem_range.2 hi
      · exact λ_=>by rw[Array.getD_eq_getD_getElem?];simp[vt])
    (λi hi=>List.mem_range.1 hi)
    (λi o ho hl=>by
      exfalso;rw[Array.getD_eq_getD_getElem?]at hl
      by_cases hi:i<ops.size <;> simp[hi]at hl)
    (λj oj hD=>by cases hD) hA.size ?_ hsw
  · simpa using this
  · simp
theorem FX : ∀(l:LV) (i:Nat),i+l.length<=hZ->ur (Bj l i)=[]
  | [],_,_=>rfl
  | x::r,i,h=>by
    rw[List.length_cons]at h;rw[Bj,tH _ _ _ (Nat.ne_of_lt (Nat.lt_of_lt_of_le (by omega) h)),FX r (i+1) (by omega)]
theorem FY : ∀(l:LV) (i t:Nat) (v:Value),i+l.length<=hZ->Fr.get (Bj l i) t=some v->i<=t/\l[t-i]?=some v
  | [],_,t,_,_,h=>by rw[show Bj [] _=[] from rfl,Fr.get_nil]at h;cases h
  | x::r,i,t,v,O',h=>by
    rw[List.length_cons]at O';rw[Bj,Fr.rT _ _ _ _ (Nat.ne_of_lt (Nat.lt_of_lt_of_le (by omega) O'))]at h
    by_cases e:i=t
    · subst e;rw[if_pos rfl]at h;exact⟨nL0,by simpa using h⟩
    · rw[if_neg e]at h
      obtain⟨h1,h2⟩:=FY r (i+1) t v (by omega) h;refine⟨by omega,?_⟩;rw[show t-i=(t-(i+1))+1 by omega];simpa using h2
def HS(a:Act):ResultVar->Sem Value
  | .tmp t=>Pure.pure (a.tmps.getD t undef)
  | .cell s t=>do loadVar t (<-asAddr (a.tmps.getD s undef))
theorem HT{C:Ctx}(hC:kN C){n:Nat}{a:Act}{f:Fr}(hA:um n a f){w:World}:∀(rs:List ResultVar) (acc:LV) (k:LV->Prop),OV C rs f w.heap acc k->
    ∃vs,(rs.mapM (HS a)).run C.P w = .ok vs w/\k (acc++vs)
  | [],acc,k,h=>⟨[],rfl,by simpa[OV]using h⟩
  | .tmp t::r,acc,k,h=>by
    obtain⟨v,hv,h1⟩:=bg (show ae (Fr.get f t) _ from h);obtain⟨vs,h2,h3⟩:=HT hC hA r _ k h1;refine⟨v::vs,?_,by simpa using h3⟩;rw[List.mapM_cons];simp only[HS,Sem.run_bind,Sem.run_pure,Result.andThen_ok,hA.val t v hv,h2]
  | .cell s t::r,acc,k,h=>by
    obtain⟨v,hv,h1⟩:=bg (show ae (Fr.get f s) _ from h);obtain⟨q,hq,h2⟩:=yd h1;obtain⟨p,hp,h3⟩:=bg h2;obtain⟨hx,h4⟩:=hC.sE h3;obtain⟨u,hr,h5⟩:=CO hx h4;obtain⟨vs,h6,h7⟩:=HT hC hA r _ k h5;refine⟨u::vs,?_,by simpa using h7⟩;have yY:=hA.val s v hv;rw[List.mapM_cons];simp only[HS,Sem.run_bind,Sem.run_pure,Result.andThen_ok,yY,hq,hp,asAddr,hr,h6]
def LM(C:Ctx)(fn:Func)(c:Code)(RI:Nat):Bool:=
  codeOk C fn.ntmps (fun id full => NU C full (C.td id)) c && Nat.ble RI fn.ntmps && !(fn.name == "runtime.NumGoroutine") && Nat.ble fn.ntmps hZ
theorem JB(hle:args.length<=m)(O':m<=hZ):um m { tmps:=⟨args⟩++Array.replicate (m-(⟨args⟩:Array Value).size) undef,defers:=[] } (Bj args 0):=by
  refine⟨O',by simp;omega,by rw[FX _ _ (by omega)];rfl,λt v hv=>?_⟩;obtain⟨_,h5⟩:=FY args 0 t v (by omega) hv;simp only[Nat.sub_zero]at h5;have bK:=(List.getElem?_eq_some_iff.1 h5).1;rw[Array.getD_eq_getD_getElem?,Array.getElem?_append_left (by simpa using bK)];simp[h5]
theorem Df{C:Ctx}(hC:kN C){n:Nat}{fn:Func}{a:Act}{f:Fr}(hA:um n a f){w:World}{k:Value->Prop}(h:OV C fn.results.toList f w.heap [] λvs=>k (Y9 vs)):∃v,(results fn a.tmps).run C.P w = .ok v w/\k v:=by
  obtain⟨vs,g1,g2⟩:=HT hC hA _ _ _ h;refine⟨Y9 vs,?_,by simpa using g2⟩
  have ZB:results fn a.tmps=(do let vs<-fn.results.mapM (HS a);Pure.pure (if h:vs.size=1 then vs[0]else .tuple vs)):=by
    unfold results;congr 2
  rw[ZB,Sem.run_bind,Array.mapM_eq_mapM_toList,Sem.run_map,g1];simp only[Result.andThen_ok,Sem.run_pure];congr 1
  cases vs with
  | nil=>rfl
  | cons v r=>cases r <;> rfl
theorem Ar{C:Ctx}(hC:kN C){n:Nat}{fn:Func}{a:Act}{f:Fr}(hA:um n a f){w0:World}{k:KT}:∀(ds:LV) (w:World),vC C fn.results.toList f k ds w.heap->aQ w0 w->
    LeavesInM Fence.wide 0 C.P fn a.tmps (λe w'=>∃u,e = .returned u/\aQ w0 w'/\k u w'.heap) (ds.map toD) .returning w
  | [],w,h,hR=>by
    obtain⟨v,h1,h2⟩:=Df hC hA (k:=λv=>k v w.heap) h;exact⟨v,h1,v,rfl,hR,h2⟩
  | d::ds,w,h,hR=>by
    unfold vC at h
    split at h
    · rename_i e;cases e
    · rename_i a' ds' e
      cases e
      exact⟨(λx=>by cases x),.inl ⟨_,_,rfl,run_takeDeferred h.1,Ar hC hA ds _ h.2 ⟨hR.1,hR.2.1,hR.2.2⟩⟩⟩
    · rename_i v us ds' e
      cases e
      unfold og at h
      split at h
      · rename_i g fs cs
        obtain⟨⟨fn',hf',nV,wH⟩,hc⟩:=h;refine⟨(λx=>by cases x),.inr ⟨(λx=>by cases x),.func g,cs,g,⟨fs.toList++us++cs.toList⟩,rfl,?_,λ_ _=>trivial,?_⟩⟩
        · show(callFunc g _).run C.P w=_
          simp only[callFunc,Sem.run_bind,run_program,Result.andThen_ok,hf',nV,wH,Bool.false_eq_true,if_false,Sem.run_pure];congr 2;apply Array.ext';simp[toD]
        · refine(hc w rfl).mono λe u w' ⟨hu,⟨v,he⟩,hsr,hk⟩=>?_
          subst hu;subst he;exact Ar hC hA ds w' hk (hR.trans hsr)
      · exact h.elim
    · exact h.elim
theorem RJ{C:Ctx}(hC:kN C){g:Nat}{fn:Func}(hf:C.P.funcs[g]?=some fn){c:Code}(hb:fn.body=some c){args:LV}(rK:LM C fn c args.length=true){k:KT}{h:ad}
    (hx:UO C fn c args k h):pQ C.P g args h k:=by
  simp only[LM,Bool.and_eq_true,Bool.not_eq_true']at rK;obtain⟨⟨⟨h1,h2⟩,h3⟩,h4⟩:=rK;have hle:=Nat.le_of_ble_eq_true h2;refine⟨⟨fn,hf,h3,by rw[hb];rfl⟩,λw hw=>?_⟩;subst hw;refine(callsIn_wide (n:=0)).1 (callsIn_of_wp_marks hf hb trivial ?_)
  have leave:∀(f:Fr) (a:Act) (w':World),vC C fn.results.toList f k (ur f) w'.heap->um fn.ntmps a f->aQ w w'->LeavesInM Fence.wide 0 C.P fn a.tmps (λe w'=>∃u,e = .returned u/\aQ w w'/\k u w'.heap) a.defers .returning w':=by
    intro f a w' hr hA hR;rw[hA.defers];exact Ar hC hA (ur f) w' hr hR
  exact Rv hC (JA hC fn.ntmps) c h1 none (.inl rfl) w _ _ _ _ _ w hx (JB hle (Nat.le_of_ble_eq_true h4)) (.refl _) ⟨λf a w' hr hA hR _=>leave f a w' hr hA hR,λid f a w' hr=>hr.elim,λf a w' hr hA hR _=>leave f a w' hr hA hR,λ_ _ _ _ hr=>hr.elim⟩
def FZ(C:Ctx)(fn:Func)(c:Code)(RI:Nat):Bool:=LM C fn c RI && (iz c).all λm=>!(Nat.beq m hZ)
theorem Dg{C:Ctx}(hC:kN C){g:Nat}{fn:Func}(hf:C.P.funcs[g]?=some fn){c:Code}(hb:fn.body=some c){args:LV}(rK:FZ C fn c args.length=true){k:HP}{h:ad}
    (hx:UO C fn c args (λ_ h'=>k h') h):xU C.P g args h k:=by
  simp only[FZ,LM,Bool.and_eq_true,Bool.not_eq_true']at rK;obtain⟨⟨⟨⟨h1,h2⟩,h3⟩,h4⟩,h5⟩:=rK;have hle:=Nat.le_of_ble_eq_true h2
  have BX:hZ ∉ iz c:=λhm=>by
    have:=List.all_eq_true.1 h5 _ hm;simp[Nat.beq_refl]at this
  refine⟨⟨fn,hf,h3,by rw[hb];rfl⟩,λw hw=>?_⟩;subst hw;refine(callsDIn_of_wp (R:=λe w'=>(∃v,e = .returned v)/\aQ w w'/\k w'.heap) hf hb trivial ?_).mono λe u w' ⟨h1,h2⟩=>⟨h1,h2⟩
  have leave:∀(f:Fr) (a:Act) (w':World),vC C fn.results.toList f (λ_ h'=>k h') (ur f) w'.heap->um fn.ntmps a f->aQ w w'->a.defers=[]->a.defers=[]/\∃v,(results fn a.tmps).run C.P w' = .ok v w'/\(∃u,Ending.returned v = .returned u)/\aQ w w'/\k w'.heap:=by
    intro f a w' hr hA hR hd
    have Zq:ur f=[]:=by
      have:=hA.defers;rw[hd]at this;exact List.map_eq_nil_iff.1 this.symm
    rw[Zq]at hr;obtain⟨v,g1,g2⟩:=Df hC hA (k:=λ_=>k w'.heap) hr;exact⟨hd,v,g1,⟨v,rfl⟩,hR,g2⟩
  exact Rv hC (JA hC fn.ntmps) c h1 none (.inl rfl) w _ _ _ _ _ w hx (JB hle (Nat.le_of_ble_eq_true h4)) (.refl _) ⟨λf a w' hr hA hR hM=>leave f a w' hr hA hR (hM.Rr BX),λid f a w' hr=>hr.elim,λf a w' hr hA hR hd=>leave f a w' hr hA hR (hd BX),λ_ _ _ _ hr=>hr.elim⟩
end Wx
namespace Hp
def rd(h:ad)(b:Nat):LV:=
 match h[b]? with
 | some (.cells c _ _)=>c.toList
 | _=>[]
def dJ(h:ad)(b:Nat):Prop:=∃c T f,h[b]?=some (.cells c T f)/\(f=(0,0)∨c.size<=f.1)
structure Fr(F:NP)(h h':ad):Prop where
 size:h.size<=h'.size
 same:∀b,b<h.size->¬F b->h'[b]?=h[b]?
def No : Nat->Prop:=λ_=>False
def dG(n:Nat):Nat->Prop:=λb=>n<=b
theorem Fr.rd{F:NP}{h h':ad}(f:Fr F h h'){b:Nat}(hb:b<h.size)(hF:¬ F b):rd h' b=rd h b:=by
 simp only[Hp.rd,f.same b hb hF]
theorem Fr.own(f:Fr F h h'){b:Nat}(hb:b<h.size)(hF:¬ F b)(o:dJ h b):dJ h' b:=by
 obtain⟨c,T,z,e,k⟩:=o;exact⟨c,T,z,by rw[f.same b hb hF];exact e,k⟩
theorem Fr.refl(F:NP)(h:ad):Fr F h h:=⟨nL0,λ_ _ _=>rfl⟩
theorem Fr.trans{F G:NP}{h1 h2 h3:ad}(f:Fr F h1 h2)(g:Fr G h2 h3)(hs:∀ b,b<h1.size->G b->F b):Fr F h1 h3:=
 ⟨Nat.le_trans f.size g.size,λb hb hF=>(g.same b (Nat.lt_of_lt_of_le hb f.size) (λx=>hF (hs b hb x))).trans (f.same b hb hF)⟩
theorem Fr.no(f:Fr F h1 h2)(g:Fr No h2 h3):Fr F h1 h3:=f.trans g λ_ _ x=>x.elim
theorem Fr.mono{G:NP}(f:Fr F h h')(hs:∀ b,b<h.size->F b->G b):Fr G h h':=
 ⟨f.size,λb hb hG=>f.same b hb λx=>hG (hs b hb x)⟩
theorem dJ.lt(o:dJ h b):b<h.size:=by
 obtain⟨c,T,z,e,_⟩:=o
 rcases Nat.lt_or_ge b h.size with hl|hl
 ·exact hl
 ·rw[Array.getElem?_eq_none hl]at e;exact absurd e (by simp)
theorem gr{v:Value}(e:(rd h b)[o]?=some v):b<h.size:=by
 rcases Nat.lt_or_ge b h.size with hl|hl
 ·exact hl
 ·simp only[rd,Array.getElem?_eq_none hl]at e;simp at e
theorem wO(h:ad)(cs:LV)(t:Nat):(qT h cs t).size=h.size+1:=by simp[qT]
theorem tJ(h:ad)(cs:LV)(t b:Nat):(qT h cs t)[b]?=if b=h.size then some (.cells ⟨cs⟩ t)else h[b]?:=by
 simp[qT,Array.getElem?_push]
theorem U9(h:ad)(cs:LV)(t b:Nat):rd (qT h cs t) b=if b=h.size then cs else rd h b:=by
 by_cases hb:b=h.size
 ·simp only[rd,tJ,if_pos hb]
 ·simp only[rd,tJ,if_neg hb]
theorem pU(h:ad)(cs:LV)(t:Nat):rd (qT h cs t) h.size=cs:=by rw[U9,if_pos rfl]
theorem qA(h:ad)(cs:LV)(t:Nat):dJ (qT h cs t) h.size:=⟨_,_,_,by rw[tJ,if_pos rfl],.inl rfl⟩
theorem Fr.qT{F:NP}{h h':ad}(f:Fr F h h')(cs:LV)(t:Nat):Fr F h (qT h' cs t):=
 ⟨by rw[wO];have:=f.size;omega,λb hb hF=>by rw[tJ,if_neg (by have:=f.size;omega)];exact f.same b hb hF⟩
theorem wP(cs:LV)(t:Nat):Fr F h (Wx.qT h cs t):=(Fr.refl F h).qT cs t
theorem size_setOf(h:ad)(a:Addr)(v:Value):(setOf h a v).size=h.size:=by simp[setOf]
theorem oQ(h:ad)(b o:Nat)(v:Value)(c:Nat):(setOf h ⟨b,o,none⟩ v)[c]?=if c=b then(h[c]?).map (λx=>match x with| .cells cs e f=>.cells (cs.setIfInBounds o v) e f|x=>x)else h[c]?:=by
 simp only[setOf,Array.getElem?_modify,Option.isSome_none,Bool.false_eq_true,if_false]
 by_cases hc:c=b
 ·subst hc;simp;rfl
 ·simp[hc,Ne.symm hc]
theorem JC(h:ad)(b o:Nat)(v:Value)(c:Nat):rd (setOf h ⟨b,o,none⟩ v) c=if c=b then(rd h b).set o v else rd h c:=by
 simp only[rd,oQ]
 by_cases hc:c=b
 ·subst hc;simp only[if_pos];cases h[c]? with
  | none=>simp
  | some x=>cases x <;> simp
 ·simp only[if_neg hc]
theorem JD(h:ad)(b o:Nat)(v:Value):rd (setOf h ⟨b,o,none⟩ v) b=(rd h b).set o v:=by rw[JC,if_pos rfl]
theorem Ga{v:Value}(w:dJ h c):dJ (setOf h ⟨b,o,none⟩ v) c:=by
 obtain⟨cs,T,z,e,k⟩:=w
 by_cases hc:c=b
 ·exact⟨cs.setIfInBounds o v,T,z,by rw[oQ,if_pos hc,e];rfl,by rw[Array.size_setIfInBounds];exact k⟩
 ·exact⟨cs,T,z,by rw[oQ,if_neg hc];exact e,k⟩
theorem Fr.setOf{F:NP}{h h':ad}(f:Fr F h h'){b o:Nat}{v:Value}(hb:F b∨h.size<=b):Fr F h (setOf h' ⟨b,o,none⟩ v):=
 ⟨by rw[size_setOf];exact f.size,λc hc hF=>by
  rw[oQ,if_neg (by rintro rfl;rcases hb with hb|hb;exact hF hb;omega)];exact f.same c hc hF⟩
def put(xs:LV)(o:Nat):LV->LV
 | []=>xs
 | v::r=>put (xs.set o v) (o+1) r
theorem uD(cs:LV):∀(xs:LV) (o:Nat),(put xs o cs).length=xs.length:=by
 induction cs with
 | nil=>intros;rfl
 | cons v r ih=>intro xs o;simp[put,ih]
theorem zc(cs:LV):∀(xs:LV) (o i:Nat),o+cs.length<=xs.length->(put xs o cs)[i]?=if o<=i/\i<o+cs.length then cs[i-o]? else xs[i]?:=by
 induction cs with
 | nil=>intro xs o i h;rw[if_neg (by rw[List.length_nil];omega)];rfl
 | cons v r ih=>
  intro xs o i h;simp only[List.length_cons]at h;simp only[put];rw[ih (xs.set o v) (o+1) i (by simp;omega)]
  by_cases h1:i=o
  ·subst h1;rw[if_neg (by omega),if_pos ⟨nL0,by rw[List.length_cons];omega⟩,List.getElem?_set,if_pos rfl,if_pos (by omega),Nat.sub_self];rfl
  ·by_cases h2:o+1<=i/\i<o+1+r.length
   ·rw[if_pos h2,if_pos ⟨by omega,by rw[List.length_cons];omega⟩];obtain⟨j,rfl⟩:∃j,i=o+1+j:=⟨i-(o+1),by omega⟩;rw[show o+1+j-o=j+1 by omega,show o+1+j-(o+1)=j by omega];rfl
   ·rw[if_neg h2,if_neg (by simp only[List.length_cons];omega),List.getElem?_set_ne (by omega)]
theorem put_eq(cs xs:LV)(o:Nat)(h:o+cs.length<=xs.length):put xs o cs=xs.take o++cs++xs.drop (o+cs.length):=by
 apply List.ext_getElem?;intro i;rw[zc _ _ _ _ h]
 by_cases h1:i<o
 ·rw[if_neg (by omega),List.append_assoc,List.getElem?_append_left (by rw[lT0];omega),List.getElem?_take_of_lt h1]
 ·by_cases h2:i<o+cs.length
  ·rw[if_pos ⟨by omega,h2⟩,List.getElem?_append_left (by simp;omega),List.getElem?_append_right (by rw[lT0];omega),lT0,Nat.min_eq_left (by omega)]
  ·rw[if_neg (by omega),List.getElem?_append_right (by simp;omega),List.getElem?_drop];congr 1;simp;omega
theorem dC(cs xs:LV)(h:cs.length=xs.length):put xs 0 cs=cs:=by rw[put_eq _ _ _ (by omega)];simp[h]
theorem bm(b o n:Nat):Addr.add ⟨b,o,none⟩ n=⟨b,o+n,none⟩:=by
 by_cases hn:n=0
 ·subst hn;rfl
 ·simp[Addr.add,hn]
theorem size_setRow(a:Addr):∀(cs:LV) (h:ad) (i:Nat),(setRow h a cs i).size=h.size:=by
 intro cs;induction cs with
 | nil=>intros;rfl
 | cons v r ih=>intro h i;simp only[setRow,ih,size_setOf]
theorem Pa(b o:Nat):∀(cs:LV) (h:ad) (i c:Nat),rd (setRow h ⟨b,o,none⟩ cs i) c=if c=b then put (rd h b) (o+i) cs else rd h c:=by
 intro cs;induction cs with
 | nil=>intro h i c;simp only[setRow,put];split <;> simp_all
 | cons v r ih=>
  intro h i c;simp only[setRow,bm,ih,JC,put]
  by_cases hc:c=b
  ·subst hc;simp[Nat.add_assoc]
  ·simp[hc]
theorem jY(b o:Nat)(cs:LV)(h:ad)(i:Nat):rd (setRow h ⟨b,o,none⟩ cs i) b=put (rd h b) (o+i) cs:=by rw[Pa,if_pos rfl]
theorem pV:∀{cs:LV} {h:ad} {i:Nat},dJ h c->dJ (setRow h ⟨b,o,none⟩ cs i) c:=by
 intro cs;induction cs with
 | nil=>intro h i w;exact w
 | cons v r ih=>intro h i w;simp only[setRow,bm];exact ih (Ga w)
theorem Fr.setRow{F:NP}{h:ad}{b o:Nat}(hb:F b∨h.size<=b):∀{cs:LV} {h':ad} {i:Nat},Fr F h h'->Fr F h (setRow h' ⟨b,o,none⟩ cs i):=by
 intro cs;induction cs with
 | nil=>intro h' i f;exact f
 | cons v r ih=>intro h' i f;simp only[Wx.setRow,bm];exact ih (f.setOf hb)
theorem jX(h:ad)(b o:Nat):cellOf h ⟨b,o,none⟩=(rd h b)[o]?:=by
 simp only[cellOf,rd];cases h[b]? with
 | none=>simp
 | some x=>cases x <;> simp
theorem Bz{a:Addr}{v:Value}(e:cellOf h a=some v):a.spot=none/\(rd h a.block)[a.off]?=some v:=by
 obtain⟨b,o,s⟩:=a
 cases s with
 | none=>exact⟨rfl,by rw[jX]at e;exact e⟩
 | some s=>
  exfalso;revert e
  simp only[cellOf];cases h[b]? with
  | none=>simp
  | some x=>cases x <;> simp
theorem RK(w:dJ h b)(hl:o<(rd h b).length):Wr h ⟨b,o,none⟩:=by
 refine⟨⟨(rd h b)[o],by rw[jX];simp[hl]⟩,?_⟩;obtain⟨c,T,z,e,k⟩:=w;have hc:o<c.size:=by simpa[rd,e]using hl
 rcases k with rfl|k
 ·simp[rO,e]
 ·obtain⟨lo,hi⟩:=z;have k:c.size<=lo:=k;simp[rO,e];omega
theorem Au{n:Nat}(w:dJ h b)(hl:o+n<=(rd h b).length):WrN h ⟨b,o,none⟩ n:=by
 intro i hi;rw[bm];exact RK w (by omega)
theorem JE{cs:LV}{n:Nat}(w:dJ h b)(hn:cs.length=n)(h1:∀ v ∈ cs,v.oneCell'=true)(hl:o+n<=(rd h b).length):Ns h ⟨b,o,none⟩ cs n:=
 ⟨hn,h1,Au w hl⟩
theorem aal(e:((rd h b).drop o).take xs.length=xs):aj h ⟨b,o,none⟩ xs:=by
 intro i v hv;rw[bm,jX];rw[<-e,List.getElem?_take]at hv
 split at hv
 ·rw[List.getElem?_drop]at hv;exact hv
 ·exact absurd hv (by simp)
theorem aj.fr(f:Fr F h h'){a:Addr}{xs:LV}(c:aj h a xs)(hF:¬ F a.block):aj h' a xs:=by
 intro i v hv;have e:=c i v hv;obtain⟨h1,h2⟩:=Bz e;have hb:(a.add i).block=a.block:=by unfold Addr.add;split <;> rfl
 have hl:=gr h2;rw[hb]at hl;have:cellOf h' (a.add i)=cellOf h (a.add i):=by simp only[cellOf,hb,f.same _ hl hF]
 rw[this];exact e
theorem ak.fr{F:NP}{h h':ad}(f:Fr F h h'){a:OA}{xs:LV}(c:ak h a xs)(hF:∀ p,a=some p->¬ F p.block):ak h' a xs:=by
 cases a with
 | none=>exact c
 | some p=>exact aj.fr f c (hF p rfl)
theorem aw.fr{F:NP}{h h':ad}(f:Fr F h h'){a:OA}{l:Nat}{bs:LB}(c:aw h a l bs)(hF:∀ p,a=some p->¬ F p.block):aw h' a l bs:=
 ⟨c.1,ak.fr f c.2 hF⟩
theorem aj.take{h:ad}{a:Addr}{xs:LV}(c:aj h a xs)(n:Nat):aj h a (xs.take n):=by
 intro i v hv;rw[List.getElem?_take]at hv;split at hv
 ·exact c i v hv
 ·exact absurd hv (by simp)
theorem aj.nil(h:ad)(a:Addr):aj h a []:=by intro i v hv;simp at hv
theorem aj.drop{h:ad}{a:Addr}{xs:LV}(c:aj h a xs)(n:Nat):aj h (a.add n) (xs.drop n):=by
 intro i v hv;rw[List.getElem?_drop]at hv;have:=c (n+i) v hv
 by_cases hi:i=0
 ·subst hi;rw[Addr.add_zero];exact this
 ·by_cases hn:n=0
  ·subst hn;rw[Addr.add_zero];simpa using this
  ·rw[Addr.add_add];exact this
theorem ak.take{h:ad}{a:OA}{xs:LV}(c:ak h a xs)(n:Nat):ak h a (xs.take n):=by
 cases a with
 | none=>have c:xs=[]:=c;subst c;simp[ak]
 | some p=>exact aj.take c n
theorem ak.drop{h:ad}{a:OA}{xs:LV}(c:ak h a xs)(n:Nat):ak h (a.map (·.add n)) (xs.drop n):=by
 cases a with
 | none=>have c:xs=[]:=c;subst c;simp[ak]
 | some p=>exact aj.drop c n
theorem aw.take{h:ad}{a:OA}{l:Nat}{bs:LB}(c:aw h a l bs){n:Nat}(hn:n<=l):aw h a n (bs.take n):=
 ⟨by rw[lT0,c.1];omega,by rw[List.map_take];exact ak.take c.2 n⟩
theorem aw.drop{h:ad}{a:OA}{l:Nat}{bs:LB}(c:aw h a l bs)(n:Nat):aw h (a.map (·.add n)) (l-n) (bs.drop n):=
 ⟨by rw[lD0,c.1],by rw[List.map_drop];exact ak.drop c.2 n⟩
theorem aw.nil(h:ad)(a:OA):aw h a 0 []:=⟨rfl,by cases a with|none=>rfl|some p=>exact aj.nil h p⟩
theorem ij(bs:LB):∀v∈bs.map bv,v.oneCell'=true:=by
 intro v hv;obtain⟨b,_,rfl⟩:=List.mem_map.mp hv;rfl
theorem toList_mkStr(bs:LB):ByteArray.toList (mkStr bs)=bs:=by
 rw[mkStr,show(⟨⟨bs⟩⟩:ByteArray)=⟨bs.toArray⟩ from rfl];simp
theorem aae{n:Int}(h1 : -9223372036854775808<=n)(h2:n<=9223372036854775807):IntKind.wrap .i64 n=n:=by
 simp only[IntKind.wrap,IntKind.bits,IntKind.signed,Bool.true_and,ge_iff_le,decide_eq_true_eq,Nat.reduceSub,Int.reducePow]
 split <;> omega
abbrev _root_.Go.Proofs.YtjdcbblgaoogmaaGreatDoor.wI(n:Int):Int:=IntKind.wrap .i64 n
theorem wrap_i64{n:Int}(h1 : -9223372036854775808<=n)(h2:n<=9223372036854775807):wI n=n:=aae h1 h2
theorem wq(n:Int)(h1 : -9223372036854775808<=n:=by omega)(h2:n<=9223372036854775807:=by omega):wI n=n:=aae h1 h2
theorem pQ.mono{P:Program}{g:Nat}{args:LV}{h:ad}{k k':KT}(H:pQ P g args h k)(hk:∀ v h',k v h'->k' v h'):pQ P g args h k':=by
 obtain⟨c,H⟩:=H;refine⟨c,λw hw=>(H w hw).mono λe w' ⟨v,e1,e2,e3⟩=>⟨v,e1,e2,hk v _ e3⟩⟩
def Sl(h:ad)(ec:Nat)(a:OA)(l c:Nat)(xs:LV)(F:NP):Prop:=
 xs.length=l*ec/\match a with
  | none=>l=0/\c=0
  | some p=>p.spot=none/\F p.block/\dJ h p.block/\l<=c/\((rd h p.block).drop p.off).take xs.length=xs/\p.off+c*ec<=(rd h p.block).length
theorem Sl.nil(h:ad)(ec:Nat)(F:NP):Sl h ec none 0 0 [] F:=⟨by simp,rfl,rfl⟩
theorem Sl.mono{G:NP}(s:Sl h ec a l c xs F)(hs:∀ b,F b->G b):Sl h ec a l c xs G:=by
 obtain⟨h1,h2⟩:=s;refine⟨h1,?_⟩
 cases a with
 | none=>exact h2
 | some p=>obtain⟨a1,a2,a3⟩:=h2;exact⟨a1,hs _ a2,a3⟩
theorem Sl.fr{G:NP}(f:Fr G h h')(s:Sl h ec a l c xs F)(hs:∀ b,b<h.size->F b->¬ G b):Sl h' ec a l c xs F:=by
 obtain⟨h1,h2⟩:=s;refine⟨h1,?_⟩
 cases a with
 | none=>exact h2
 | some p=>
  obtain⟨a1,a2,a3,a4,a5,a6⟩:=h2;have hG:=hs _ a3.lt a2;refine⟨a1,a2,f.own a3.lt hG a3,a4,?_,?_⟩
  ·rw[f.rd a3.lt hG];exact a5
  ·rw[f.rd a3.lt hG];exact a6
theorem Sl.cells(s:Sl h ec a l c xs F):ak h a xs:=by
 obtain⟨h1,h2⟩:=s
 cases a with
 | none=>obtain⟨rfl,_⟩:=h2;rw[Nat.zero_mul]at h1;exact List.length_eq_zero_iff.mp h1
 | some p=>
  obtain⟨b,o,s⟩:=p;obtain⟨a1,a2,a3,a4,a5,a6⟩:=h2;have a1:s=none:=a1;subst a1;exact aal a5
theorem Sl.str(s:Sl h 1 a l c (bs.map bv) F):aw h a l bs:=
 ⟨by have:=s.1;rw[lM0]at this;omega,s.cells⟩
theorem Sl.le(s:Sl h ec a l c xs F):l<=c:=by
 obtain⟨_,h2⟩:=s
 cases a with
 | none=>omega
 | some p=>exact h2.2.2.2.1
theorem Sl.new(h:ad)(ec t l c:Nat)(xs zs:LV)(F:NP)(hF:F h.size)(hx:xs.length=l*ec)(hl:l<=c)(hz:zs.length=(c - l)*ec) :
  Sl (qT h (xs++zs) t) ec (some ⟨h.size,0,none⟩) l c xs F:=by
 refine⟨hx,rfl,hF,qA _ _ _,hl,?_,?_⟩
 ·simp only[pU,List.drop_zero,List.take_left]
 ·simp only[pU,lA0,hx,hz,Nat.zero_add];rw[<-Nat.add_mul];exact Nat.mul_le_mul_right _ (by omega)
theorem RL(X new:LV)(o m:Nat)(h:o+m+new.length<=X.length):((put X (o+m) new).drop o).take (m+new.length)=(X.drop o).take m++new:=by
 apply List.ext_getElem?;intro i;rw[List.getElem?_take];have hl:((X.drop o).take m).length=m:=by rw[lT0,lD0];omega
 by_cases h1:i<m
 ·rw[if_pos (by omega),List.getElem?_append_left (by omega),List.getElem?_drop,zc _ _ _ _ h,if_neg (by omega),List.getElem?_take,if_pos h1,List.getElem?_drop]
 ·by_cases h2:i<m+new.length
  ·rw[if_pos h2,List.getElem?_append_right (by omega),hl,List.getElem?_drop,zc _ _ _ _ h,if_pos (by omega)];congr 1;omega
  ·rw[if_neg h2,List.getElem?_eq_none (by rw[lA0];omega)]
theorem dh{elem:TI}{n:Nat}{new:LV}{k:OA->Nat->Nat->ad->Prop}
  (s:Sl h elem.cells a l c xs F) (hn:new.length=n*elem.cells) (hz:elem.zero.length=elem.cells) (hb:(l+n)*elem.bytes<=140737488355328) (wH:l+n<=140737488355328)
  (hk:∀a' c' h',Fr F h h'->Sl h' elem.cells a' (l+n) c' (xs++new) (λb=>F b∨h.size<=b)->k a' (l+n) c' h') :
  aH elem e a l c n new h k:=by
 refine⟨xs,s.1,s.cells,hb,wH,λhc=>?_,λhc cap xY=>?_⟩
 ·obtain⟨h1,h2⟩:=s
  cases a with
  | none=>
   obtain⟨rfl,rfl⟩:=h2;have:n=0:=(by omega);subst this;rw[Nat.zero_mul]at hn h1;have e1:=List.length_eq_zero_iff.mp hn;have e2:=List.length_eq_zero_iff.mp h1;subst e1;subst e2;exact⟨by simp[Lf],hk none 0 _ (Fr.refl _ _) (Sl.nil _ _ _)⟩
  | some p=>
   obtain⟨b,o,sp⟩:=p;obtain⟨a1,a2,a3,a4,a5,a6⟩:=h2;have a1:sp=none:=a1;subst a1;simp only at a2 a3 a5 a6;have hm:(l+n)*elem.cells<=c*elem.cells:=Nat.mul_le_mul_right _ hc;rw[Nat.add_mul]at hm;refine⟨?_,hk (some ⟨b,o,none⟩) c _ ?_ ?_⟩
   ·simp only[Lf,bm];exact Au a3 (by omega)
   ·simp only[uu,bm];exact(Fr.refl F h).setRow (Or.inl a2)
   ·simp only[uu,bm];refine⟨by rw[lA0,h1,hn,Nat.add_mul],rfl,Or.inl a2,pV a3,hc,?_,?_⟩
    ·simp only[jY,Nat.add_zero,lA0,<-h1]at a5 ⊢;rw[RL _ _ _ _ (by rw[h1];omega),a5]
    ·simp only[jY,uD];exact a6
 ·have hf:Fr F h (qT h (xs++new++aN elem.zero (cap-(l+n))) e):=wP _ _;refine hk _ _ _ hf (Sl.new h elem.cells e (l+n) cap (xs++new) _ _ (Or.inr nL0) (by rw[lA0,s.1,hn,Nat.add_mul]) xY ?_);rw[iO,hz]
theorem append_nil{elem:TI}{n:Nat}{new:LV}{k:OA->Nat->Nat->ad->Prop}
  (hn:new.length=n*elem.cells) (hz:elem.zero.length=elem.cells) (hb:n*elem.bytes<=140737488355328) (wH:n<=140737488355328)
  (hk:∀a' c' h',Fr No h h'->Sl h' elem.cells a' n c' new (dG h.size)->k a' n c' h') :
  aH elem e none 0 0 n new h k:=by
 refine dh (Sl.nil h _ No) hn hz (by simpa using hb) (by simpa using wH) λa' c' h' f s=>?_;simp only[Nat.zero_add,List.nil_append]at s ⊢;exact hk a' c' h' f (s.mono λb hb=>hb.elim (λx=>x.elim) id)
theorem aw.src(c:aw h a l bs):(bs.map bv).length=l*1/\ak h a (bs.map bv)/\∀v∈bs.map bv,v.oneCell'=true:=
 ⟨by rw[lM0,c.1,Nat.mul_one],c.2,ij bs⟩
end Hp
namespace Wx
open Go
def az(cs:LV)(t:Nat)(h:ad)(k:HP):Prop:=k (qT h cs t)
def aM(z:LV)(t:Nat)(cs:LV)(n:Nat)(h:ad)(k:HP):Prop:=
  Ns (qT h z t) ⟨h.size,0,none⟩ cs n/\k (setRow (qT h z t) ⟨h.size,0,none⟩ cs 0)
def Va(s:ByteArray)(t:Nat)(h:ad)(k:Nat->ad->Prop):Prop:=∀cap:Nat,s.size<=cap->k cap (vz h (s.toList.map bv++List.replicate (cap-s.size) (bv 0)) t)
def HU(p:Addr)(h:ad)(k:HP):Prop:=k (qZ h p.block)
def NewM(h:ad)(k:HP):Prop:=k (Ht h)
def aO(p:Addr)(v:Value)(h:ad)(k:HP):Prop:=Wr h p/\k (setOf h p v)
def ax(p:Addr)(cs:LV)(n:Nat)(h:ad)(k:HP):Prop:=Ns h p cs n/\k (setRow h p cs 0)
def yn(h:ad)(l:Nat)(R:Loop)(st:LoopState)(p:Option Code)(k:HP):Prop:=k (dr h l R st p)
def zd(b:Nat)(h:ad)(k:HP):Prop:=h[b]?=some (.deferred (some []))/\k (OT h b)
end Wx
namespace Hp
def On(ao:Nat->Nat)(k:Nat):Nat->Prop:=λb=>ao b=k
def oR(ao:Nat->Nat)(n k:Nat):Nat->Nat:=λb=>if b<n then ao b else k
def Ag(n:Nat)(ao ay:Nat->Nat):Prop:=∀b,b<n->ay b=ao b
def ZC(h:ad)(ao:Nat->Nat)(m:Nat):Prop:=∀b,b<h.size->m<=ao b->ao b<=m+5->False
theorem ZC.new(f:ZC h ao m)(g:Ag h.size ao ay)(h1:m<=ay b)(h2:ay b<=m+5):h.size<=b:=by
 rcases Nat.lt_or_ge b h.size with hb|hb
 ·rw[g b hb]at h1 h2;exact(f b hb h1 h2).elim
 ·exact hb
theorem pW(ao:Nat->Nat)(n k:Nat):Ag n ao (oR ao n k):=λb hb=>if_pos hb
theorem uE{n k:Nat}(h:n<=b):oR ao n k b=k:=if_neg (by omega)
theorem Dh{n k:Nat}(h:b<n):oR ao n k b=ao b:=if_pos h
theorem Ag.refl(n:Nat)(ao:Nat->Nat):Ag n ao ao:=λ_ _=>rfl
theorem Ag.trans{m n:Nat}{c1 c2 c3:Nat->Nat}(f:Ag m c1 c2)(g:Ag n c2 c3)(h:m<=n):Ag m c1 c3:=λb hb=>(g b (by omega)).trans (f b hb)
theorem Ag.le{n:Nat}(f:Ag n c1 c2)(h:m<=n):Ag m c1 c2:=λb hb=>f b (by omega)
theorem Sl.lt{h:ad}{ec l c:Nat}{p:Addr}{xs:LV}{F:NP}(s:Sl h ec (some p) l c xs F):p.block<h.size:=s.2.2.2.1.lt
theorem Sl.keep{k:Nat}(s:Sl h ec a l c xs (On ao k))(f:Fr F h h')(g:Ag h.size ao ay)(hF:∀ b,ao b=k->¬ F b):Sl h' ec a l c xs (On ay k):=by
 have s':=Sl.fr f s (λb _ hb=>hF b hb);obtain⟨h1,h2⟩:=s';refine⟨h1,?_⟩
 cases a with
 | none=>exact h2
 | some p=>obtain⟨a1,a2,a3,a4⟩:=h2;exact⟨a1,(g _ s.lt).trans a2,a3,a4⟩
theorem rV{elem:TI}{n k:Nat}{new:LV}{K:OA->Nat->Nat->ad->Prop}
  (s:Sl h elem.cells a l c xs (On ao k)) (hn:new.length=n*elem.cells) (hz:elem.zero.length=elem.cells) (hb:(l+n)*elem.bytes<=140737488355328) (wH:l+n<=140737488355328)
  (hk:∀a' c' h',Fr (On ao k) h h'->Sl h' elem.cells a' (l+n) c' (xs++new) (On (oR ao h.size k) k)->K a' (l+n) c' h') :
  aH elem e a l c n new h K:=by
 refine dh s hn hz hb wH λa' c' h' f s'=>hk a' c' h' f (s'.mono λb hb=>?_);unfold On oR
 split
 ·rcases hb with hb|hb
  ·exact hb
  ·omega
 ·rfl
theorem Sl.get(s:Sl h ec a l c xs F)(hl:0<l):∃p,a=some p/\aj h p xs:=by
 cases a with
 | none=>exact absurd s.2.1 (by omega)
 | some p=>exact⟨p,rfl,s.cells⟩
theorem m6{α:Type}(f:α->LV)(w:Nat):∀(xs:List α),(∀x∈xs,(f x).length=w)->∀(i:Nat) (hi:i<xs.length),((xs.flatMap f).drop (i*w)).take w=f xs[i]:=by
 intro xs
 induction xs with
 | nil=>intro _ i hi;exact absurd hi (by simp)
 | cons x r ih=>
  intro hw i hi;have hx:=hw x (List.mem_cons_self ..);rw[List.flatMap_cons]
  cases i with
  | zero=>rw[Nat.zero_mul,List.drop_zero,<-hx,List.take_left];rfl
  | succ i=>
   rw[Nat.add_mul,Nat.one_mul,Nat.add_comm,<-List.drop_drop,<-hx,List.drop_left,hx];exact ih (λy hy=>hw y (List.mem_cons_of_mem _ hy)) i (by simpa using hi)
theorem fW{α:Type}(f:α->LV)(w:Nat):∀(xs:List α),(∀x∈xs,(f x).length=w)->(xs.flatMap f).length=xs.length*w:=by
 intro xs
 induction xs with
 | nil=>intro _;simp
 | cons x r ih=>
  intro hw;rw[List.flatMap_cons,lA0,ih (λy hy=>hw y (List.mem_cons_of_mem _ hy)),hw x (List.mem_cons_self ..),List.length_cons,Nat.add_mul];omega
theorem aj.part(c:aj h p xs)(o n:Nat):aj h (p.add o) ((xs.drop o).take n):=aj.take (aj.drop c o) n
theorem aj.cell(c:aj h p xs){i:Nat}{v:Value}(hv:xs[i]?=some v):cellOf h (p.add i)=some v:=c i v hv
theorem JF{α:Type}(f:α->LV)(w:Nat)(xs:List α)(hw:∀ x ∈ xs,(f x).length=w)(i:Nat)(hi:i<xs.length)(y:α)(hy:(f y).length=w) :
  put (xs.flatMap f) (i*w) (f y)=(xs.set i y).flatMap f:=by
 have hl:=fW f w xs hw;have hm:(i+1)*w<=xs.length*w:=Nat.mul_le_mul_right _ hi;rw[Nat.add_mul,Nat.one_mul]at hm;rw[put_eq _ _ _ (by omega),hy]
 have h1:(xs.flatMap f).take (i*w)=(xs.take i).flatMap f:=by
  conv=>lhs;rw[<-List.take_append_drop i xs,List.flatMap_append]
  rw[List.take_append_of_le_length]
  ·rw[List.take_of_length_le];rw[fW f w _ (λx hx=>hw x (List.mem_of_mem_take hx)),lT0];exact Nat.mul_le_mul_right _ (by omega)
  ·rw[fW f w _ (λx hx=>hw x (List.mem_of_mem_take hx)),lT0,Nat.min_eq_left (by omega)];exact nL0
 have h2:(xs.flatMap f).drop (i*w+w)=(xs.drop (i+1)).flatMap f:=by
  conv=>lhs;rw[<-List.take_append_drop (i+1) xs,List.flatMap_append]
  have:((xs.take (i+1)).flatMap f).length=i*w+w:=by
   rw[fW f w _ (λx hx=>hw x (List.mem_of_mem_take hx)),lT0,Nat.min_eq_left (by omega),Nat.add_mul,Nat.one_mul]
  rw[<-this,List.drop_left]
 rw[h1,h2,List.set_eq_take_append_cons_drop,if_pos hi,List.flatMap_append,List.flatMap_cons,List.append_assoc]
theorem Vb{a b:Value}(ha:a.oneCell'=true)(hb:b.oneCell'=true):∀v∈[a,b],v.oneCell'=true:=by
 intro v hv;rcases List.mem_cons.mp hv with rfl|hv
 ·exact ha
 ·rw[List.mem_singleton.mp hv];exact hb
theorem os{α:Type}{a:α}{k:α->Prop}(h:k a):ae (some a) k:=h
theorem ct{c:Bool}(h:c=true)(a:A):bif c then A else B:=by subst h;exact a
theorem cf{c:Bool}(h:c=false)(b:B):bif c then A else B:=by subst h;exact b
theorem cs{c:Bool}(a:c=true->A)(b:c=false->B):bif c then A else B:=by
 cases c
 ·exact b rfl
 ·exact a rfl
theorem cd{p:Prop}[Decidable p]{A B:Prop}(a:p->A)(b:¬ p->B):bif decide p then A else B:=by
 by_cases h:p
 ·rw[decide_eq_true h];exact a h
 ·rw[decide_eq_false h];exact b h
theorem ce{x:Int}(a:x=y->A)(b:x≠y->B):bif x==y then A else B:=by
 by_cases h:x=y
 ·exact ct (by simpa using h) (a h)
 ·exact cf (by simpa using h) (b h)
theorem cn{x:Int}(a:x≠y->A)(b:x=y->B):bif x != y then A else B:=by
 by_cases h:x=y
 ·exact cf (by simpa using h) (b h)
 ·exact ct (by simpa using h) (a h)
theorem jV{c:Bool}(h:bif c then B else A):bif !c then A else B:=by cases c <;> exact h
structure sM(h h':ad)(cs:LV):Prop where
 size:h'.size=h.size+1
 fr:Fr No h h'
 own:dJ h' h.size
 rd:rd h' h.size=cs
theorem az.intro{cs:LV}{t:Nat}(H:∀ h',sM h h' cs->k h'):az cs t h k:=
 H _ ⟨wO _ _ _,wP _ _,qA _ _ _,pU _ _ _⟩
theorem aM.intro{z:LV}{t:Nat}{cs:LV}{n:Nat}(hl:cs.length=n)(h1:∀ v ∈ cs,v.oneCell'=true)(hz:z.length=n)
  (H:∀h',sM h h' cs->k h'):aM z t cs n h k:=
 ⟨JE (qA _ _ _) hl h1 (by rw[pU,hz];omega),
  H _ ⟨by rw[size_setRow,wO],Fr.setRow (Or.inr nL0) (wP _ _),pV (qA _ _ _),by rw[jY,pU,Nat.zero_add,dC _ _ (by rw[hl,hz])]⟩⟩
structure rW(b:Nat)(h h':ad)(cs:LV):Prop where
 size:h'.size=h.size
 fr:Fr (λx=>x=b) h h'
 own:dJ h' b
 rd:Hp.rd h' b=cs
theorem aO.intro{v:Value}(w:dJ h b)(hl:o<(rd h b).length)(H:∀ h',rW b h h' ((rd h b).set o v)->k h'):aO ⟨b,o,none⟩ v h k:=
 ⟨RK w hl,H _ ⟨size_setOf _ _ _,(Fr.refl _ h).setOf (Or.inl rfl),Ga w,JD _ _ _ _⟩⟩
theorem aO.add{b o n:Nat}{v:Value}{h:ad}{k:HP}(w:dJ h b)(hl:o+n<(rd h b).length)(H:∀ h',rW b h h' ((rd h b).set (o+n) v)->k h'):aO (Addr.add ⟨b,o,none⟩ n) v h k:=by
 rw[bm];exact aO.intro w hl H
theorem ax.intro{n:Nat}{cs:LV}(w:dJ h b)(hn:cs.length=n)(h1:∀ v ∈ cs,v.oneCell'=true)(hl:o+n<=(rd h b).length)
  (H:∀h',rW b h h' (put (rd h b) o cs)->k h'):ax ⟨b,o,none⟩ cs n h k:=
 ⟨JE w hn h1 hl,H _ ⟨size_setRow _ _ _ _,Fr.setRow (F:=λx=>x=b) (Or.inl rfl) (Fr.refl _ h),pV w,by rw[jY,Nat.add_zero]⟩⟩
theorem ax.add{b o m n:Nat}{cs:LV}{h:ad}{k:HP}(w:dJ h b)(hn:cs.length=n)(h1:∀ v ∈ cs,v.oneCell'=true)(hl:o+m+n<=(rd h b).length)
  (H:∀h',rW b h h' (put (rd h b) (o+m) cs)->k h'):ax (Addr.add ⟨b,o,none⟩ m) cs n h k:=by
 rw[bm];exact ax.intro w hn h1 hl H
theorem cI{v:Value}(e:rd h b=xs)(hv:xs[o]?=some v):cellOf h ⟨b,o,none⟩=some v:=by rw[jX,e];exact hv
theorem bJ{n:Nat}{v:Value}(e:rd h b=xs)(hv:xs[o+n]?=some v):cellOf h (Addr.add ⟨b,o,none⟩ n)=some v:=by rw[bm,jX,e];exact hv
theorem uF{n:Nat}(e:rd h b=xs)(hy:(xs.drop (o+n)).take ys.length=ys):aj h (Addr.add ⟨b,o,none⟩ n) ys:=by rw[bm];exact aal (by rw[e];exact hy)
theorem ah(e:rd h b=xs):aj h ⟨b,0,none⟩ xs:=aal (by rw[e,List.drop_zero,List.take_length])
theorem yo(e:rd h b=bs.map bv)(hl:bs.length=l):aw h (some ⟨b,0,none⟩) l bs:=⟨hl,ah e⟩
theorem rW.at_{cs:LV}(d:rW b h h' cs)(hc:c<h.size:=by omega)(hn:c≠b:=by omega):Hp.rd h' c=Hp.rd h c:=d.fr.rd hc hn
theorem rW.ow{cs:LV}(d:rW b h h' cs)(w:dJ h c):dJ h' c:=by
 by_cases e:c=b
 ·subst e;exact d.own
 ·exact d.fr.own w.lt e w
theorem Fr.r0(f:Fr No h h'){b:Nat}(hb:b<h.size:=by omega):Hp.rd h' b=Hp.rd h b:=f.rd hb λy=>y
theorem Fr.o0(f:Fr No h h'){b:Nat}(o:dJ h b)(hb:b<h.size:=by omega):dJ h' b:=f.own hb (λy=>y) o
theorem sM.at_{cs:LV}(d:sM h h' cs)(hc:c<h.size:=by omega):Hp.rd h' c=Hp.rd h c:=d.fr.rd hc (λx=>x)
theorem sM.ow{cs:LV}(d:sM h h' cs)(w:dJ h c):dJ h' c:=d.fr.own w.lt (λx=>x) w
theorem di{n:Int}(h:n<m):((m:Int)-(n+1)).toNat<((m:Int)-n).toNat:=by omega
theorem Fr.new{cs:LV}(f:Fr F h h1)(d:sM h1 h2 cs):Fr F h h2:=f.no d.fr
theorem Fr.did{cs:LV}(f:Fr F h h1)(d:rW b h1 h2 cs)(hb:b<h.size->F b):Fr F h h2:=f.trans d.fr (λ_ hl e=>e▸hb (e▸hl))
theorem RN(X new:LV)(o j n:Nat)(h1:j+new.length<=n)(h2:o+n<=X.length):((put X (o+j) new).drop o).take n=put ((X.drop o).take n) j new:=by
 apply List.ext_getElem?;intro i;have hl:((X.drop o).take n).length=n:=by rw[lT0,lD0];omega
 rw[zc _ _ _ _ (by rw[hl];exact h1),List.getElem?_take,List.getElem?_take,List.getElem?_drop,List.getElem?_drop]
 by_cases hi:i<n
 ·rw[if_pos hi,if_pos hi,zc _ _ _ _ (by omega)]
  by_cases hj:j<=i/\i<j+new.length
  ·rw[if_pos (by omega),if_pos hj];congr 1;omega
  ·rw[if_neg (by omega),if_neg hj]
 ·rw[if_neg hi,if_neg hi,if_neg (by omega)]
theorem Sl.putAt{new:LV}(s:Sl h ec (some ⟨b,o,none⟩) l c xs F)(hj:j+new.length<=l*ec)
  (d:rW b h h' (put (rd h b) (o+j) new)):Sl h' ec (some ⟨b,o,none⟩) l c (put xs j new) F:=by
 obtain⟨h1,a1,a2,a3,a4,a5,a6⟩:=s;have hm:l*ec<=c*ec:=Nat.mul_le_mul_right _ a4;simp only at a2 a3 a5 a6;refine⟨by rw[uD,h1],rfl,a2,d.own,a4,?_,?_⟩
 ·simp only[d.rd,uD,h1];rw[RN _ _ _ _ _ hj (by omega),<-h1,a5]
 ·simp only[d.rd,uD];exact a6
theorem Sl.Vc{α:Type}{f:α->LV}{xs:List α}{y:α}(s:Sl h w (some ⟨b,o,none⟩) l c (xs.flatMap f) F)
  (hw:∀x∈xs,(f x).length=w) (hi:i<xs.length) (hy:(f y).length=w) (d:rW b h h' (put (rd h b) (o+i*w) (f y))):Sl h' w (some ⟨b,o,none⟩) l c ((xs.set i y).flatMap f) F:=by
 have h1:=s.1;rw[fW f w xs hw]at h1;have:(i+1)*w<=xs.length*w:=Nat.mul_le_mul_right _ hi;rw[Nat.add_mul,Nat.one_mul]at this;rw[<-JF f w xs hw i hi y hy];exact s.putAt (by rw[hy];omega) d
theorem Sl.made{zs cs:LV}(n:sM h h' cs)(e:cs=xs++zs)(hF:F h.size)(hx:xs.length=l*ec)(hl:l<=c)(hz:zs.length=(c - l)*ec) :
  Sl h' ec (some ⟨h.size,0,none⟩) l c xs F:=by
 refine⟨hx,rfl,hF,n.own,hl,?_,?_⟩
 ·simp only[n.rd,e,List.drop_zero,List.take_left]
 ·simp only[n.rd,e,lA0,hx,hz,Nat.zero_add];rw[<-Nat.add_mul];exact Nat.mul_le_mul_right _ (by omega)
theorem Sl.wr(s:Sl h ec (some ⟨b,o,none⟩) l c xs F):dJ h b/\o+l*ec<=(rd h b).length:=by
 obtain⟨h1,a1,a2,a3,a4,a5,a6⟩:=s;have hm:l*ec<=c*ec:=Nat.mul_le_mul_right _ a4;simp only at a6;exact⟨a3,by omega⟩
theorem Sl.mk(s:Sl h ec (some p) l c xs F):p=⟨p.block,p.off,none⟩:=by
 obtain⟨b,o,sp⟩:=p;have:sp=none:=s.2.1;rw[this]
theorem rP.intro{elem:TI}{n:Nat}{src:OA}{new:LV}{k:Nat->ad->Prop}(hn:new.length=min m n*elem.cells)(hs:ak h src new)(h1:∀ v ∈ new,v.oneCell'=true)
  (w:dJ h b) (hl:o+new.length<=(rd h b).length) (H:∀h',rW b h h' (put (rd h b) o new)->k (min m n) h'):rP elem (some ⟨b,o,none⟩) n (.slice src m c) h k:=by
 refine⟨new,hn,hs,h1,?_,H _ ?_⟩
 ·simp only[Lf,Addr.add_zero];exact Au w (by omega)
 ·simp only[uu,Addr.add_zero];exact⟨size_setRow _ _ _ _,Fr.setRow (F:=λx=>x=b) (Or.inl rfl) (Fr.refl _ h),pV w,by rw[jY,Nat.add_zero]⟩
end Hp
namespace Gl
open Go Go.ChangeShapes Go.WideShapes Go.ChangeAt Go.RowKit Go.Proofs Wx Hp
theorem E0{H:Type}{enc:TypeId×Value->H}{P:Program}(hl:laidOutB P=true){W W':World}(hb:Below W.heap.size W W') :
  ∀{ts:List TypeId} {vs:LV} {ds:List (DataW H)} {ps:List MemPlace},(∀t∈ts,P.readableRec t=true/\t<P.types.size)->DataW.TrodAll enc P W 0 (λ_=>true) true ts vs ds ps->
   (∀x∈ps,x.block<W.heap.size)->DataW.TrodAll enc P W' 0 (λb=>decide (b<W.heap.size)) true ts vs ds ps:=by
 intro ts
 induction ts with
 | nil=>
  intro vs ds ps _ h _;obtain⟨rfl,rfl,rfl⟩:=trodAll_nil h;exact trodAll_mk0
 | cons t ts ih=>
  intro vs ds ps hts h bK
  match vs,ds,h with
  | v::vs,d::ds,⟨p,q,h1,h2,e⟩=>
   subst e;obtain⟨a1,a2⟩:=hts t (List.mem_cons_self ..);exact⟨p,q,Below.trod hl a1 a2 h1 hb (λx hx=>bK x (List.mem_append_left _ hx)),ih (λu hu=>hts u (List.mem_cons_of_mem _ hu)) h2 (λx hx=>bK x (List.mem_append_right _ hx)),rfl⟩
def XG(h:ad):Value->ad->Prop:=λv h'=>v = .bool true/\Fr No h h'
theorem Vd:∀h',Fr No h h'->XG h (.bool true) h':=λ_ f=>⟨rfl,f⟩
theorem Pb{n:Int}(h:(Lit.int .i64 n).wf=true) : -9223372036854775808<=n/\n<=9223372036854775807:=by
 have h1:IntKind.i64.min = -9223372036854775808:=rfl;have h2:IntKind.i64.max=9223372036854775807:=rfl;simp only[Lit.wf,Bool.and_eq_true,decide_eq_true_eq]at h;omega
def acA{H:Type}(d:DataW H)(c:Nat):Prop:=c=0∨∃es sp,d = .slice es sp/\es.length+sp.length=c
theorem aj.append{a:Addr}(c:aj h a xs)(d:aj h (a.add xs.length) ys):aj h a (xs++ys):=by
 intro i v hv
 rcases Nat.lt_or_ge i xs.length with hi|hi
 ·rw[List.getElem?_append_left hi]at hv;exact c i v hv
 ·rw[List.getElem?_append_right hi]at hv;have:=d (i-xs.length) v hv
  by_cases h0:i-xs.length=0
  ·rw[h0,Addr.add_zero]at this;rw[show i=xs.length by omega];exact this
  ·rw[Addr.add_add]at this;rw[show i=xs.length+(i-xs.length) by omega];exact this
theorem Di{w:World}{a:Addr}{n:Nat}{cs:LV}(h:w.cells? base a n=some cs):aj w.heap a cs:=by
 obtain⟨_,h2,h3⟩:=World.cells?_some h;intro i v hv;have hi:i<cs.length:=(List.getElem?_eq_some_iff.mp hv).1;have:=h3 i (by omega);rw[hv]at this;exact this
theorem LN{α:Type}{f:α->LV}:∀(xs:List α) (a:Addr) (k:Nat),(∀x∈xs,(f x).length=w)->(∀i (hi:i<xs.length),aj h (a.add ((k+i)*w)) (f xs[i]))->aj h (a.add (k*w)) (xs.flatMap f):=by
 intro xs
 induction xs with
 | nil=>intro a k _ _;exact aj.nil h _
 | cons x r ih=>
  intro a k hw hc;rw[List.flatMap_cons];refine aj.append (hc 0 (by simp)) ?_
  have:=ih a (k+1) (λy hy=>hw y (List.mem_cons_of_mem _ hy)) (λi hi=>by
   have:=hc (i+1) (by simpa using hi)
   rw[show k+1+i=k+(i+1) by omega];exact this)
  rw[hw x (List.mem_cons_self ..)];rw[Nat.add_mul,Nat.one_mul]at this
  have e:(a.add (k*w)).add w=a.add (k*w+w):=by
   by_cases h0:w=0
   ·subst h0;simp[Addr.add]
   ·rw[Addr.add_add]
  rw[e];exact this
theorem Gb{α:Type}{p:Nat->α->Prop}:∀n,(∀i,i<n->∃x,p i x)->∃xs:List α,xs.length=n/\∀i (hi:i<xs.length),p i xs[i]:=by
 intro n
 induction n with
 | zero=>intro _;exact⟨[],rfl,λi hi=>absurd hi (by simp)⟩
 | succ n ih=>
  intro h;obtain⟨xs,hl,hx⟩:=ih λi hi=>h i (by omega);obtain⟨y,hy⟩:=h n (by omega);refine⟨xs++[y],by simp[hl],λi hi=>?_⟩
  rcases Nat.lt_or_ge i xs.length with h1|h1
  ·rw[List.getElem_append_left h1];exact hx i h1
  ·have:i=n:=(by simp at hi;omega);subst this;rw[List.getElem_append_right (by omega)];simpa[hl]using hy
theorem LO{H:Type}{enc:TypeId×Value->H}{C:Checked}{P:Program}(hP:C.prog=P){os:Os}{f:FuncId}{fn:Func}{s:ChangeSpec}{tb:TypeId}{conds:List PathCond}{F:Stop.Interp}{laid:List (String×DataW Unit)}
  (own:ownKnob P.godebug=none) (started:os.Started) (ZD:P.inits.idxOf? f=none) (hfn:P.funcs[f]?=some fn)
  (witness:∃(w:World) (tape:Tape) (i:Input),w.os=os/\(w.forCall tape i).Shaped P/\i.vars=[]/\Input.okWide P (w.forCall tape i) .any w.heap.size f i/\
   (OpenSpec.ofChange s).preRow enc P fn conds false laid (w.forCall tape i).memory i.args/\Assume.holds {} P (lone (Frame.enter P f i.args .normal) [] (w.forCall tape i)))
  (hl:laidOutB P=true) (hts0:(fn.params.toList.all λt=>P.readableRec t && decide (t<P.types.size))=true) (hr:fn.resultTypes = #[tb]) (hb:P.underlying tb=some .bool) (RO:s.vars=[])
  (ZB:∀ds:List (DataW H),ds.length=fn.params.toList.length->(s.fn H (ds++[])).results=[.lit (.bool true)]/\(s.fn H (ds++[])).args=ds/\(s.fn H (ds++[])).vars=[])
  (law:∀(W:World) (base:Nat) (args:Array Value) (ds:List (DataW H)) (ps:List MemPlace),(∀(j:Nat) t v,fn.params[j]?=some t->args[j]?=some v->Value.okWide P W .any base t v)->
   DataW.TrodAll enc P W 0 (λ_=>true) true fn.params.toList args.toList ds ps->(DataW.weightsEach P fn.params.toList ds).all (· <=reachBytes)=true->laidMetH P laid W->
   pQ P f args.toList W.heap (XG W.heap)) :
  ReturnsInHanded {} C os f .any ((OpenSpec.ofChange s).preRow enc P fn conds false laid) (((OpenSpec.ofChange s).at F).post enc P fn false true false false):=by
 subst hP
 have hts:∀t∈fn.params.toList,C.prog.readableRec t=true/\t<C.prog.types.size:=by
  intro t ht;have:=List.all_eq_true.mp hts0 t ht;rw[Bool.and_eq_true]at this;exact⟨this.1,of_decide_eq_true this.2⟩
 refine returnsInHanded_of_row (C:=C) (s:=OpenSpec.ofChange s) own started ZD hfn witness ?_;intro W base args ds gs before yY hW _ _ mW hL _ _;have hW':DataW.Whole enc C.prog fn.params.toList s.vars false W args.toList ds gs before:=hW;obtain⟨p,q,hA,hV,rfl,_,_⟩:=hW;rw[show(OpenSpec.ofChange s).vars=[] from RO]at hV;obtain⟨rfl,rfl⟩:=trodVars_none hV
 have hvt:(OpenSpec.ofChange s).bare.plain.varTypes C.prog=[]:=by
  have:(OpenSpec.ofChange s).bare.plain.vars=[]:=RO;simp[DataSpec.varTypes,this]
 rw[hvt,List.append_nil,List.append_nil]at mW;obtain⟨_,hc⟩:=law W base args ds p yY hA mW hL;have hlen:=(trodAll_length hA).2;obtain⟨e1,e2,e3⟩:=ZB ds hlen;simp only[List.append_nil]at hW';refine(hc W rfl).mono λe W' ⟨v,he,hs,hv,hf⟩=>?_;subst hv;refine⟨_,he,ds,[],p,[],p,[],(by exact hW'),?_,?_,?_,?_,λh=>by cases h⟩
 ·show DataW.TrodAll _ _ _ _ _ _ _ _ (s.fn H (ds++[])).results _;rw[e1,hr];exact trodAll_mk1 (shut_bool hb true)
 ·show DataW.TrodAll _ _ _ _ _ _ _ _ (s.fn H (ds++[])).args _;rw[e2];exact E0 hl ⟨hs.1,hs.2.1,hs.2.2,hf.size,λk hk=>hf.same k hk (λx=>x)⟩ hts hA (λx hx=>by simpa using hW'.lt x (by simpa using hx))
 ·have e4:(((OpenSpec.ofChange s).at F).fn H (ds++[])).vars=[]:=e3;have e5:((OpenSpec.ofChange s).at F).vars=[]:=RO;rw[e4,e5];rfl
 ·exact(Below.frame (⟨hs.1,hs.2.1,hs.2.2,hf.size,λk hk=>hf.same k hk (λx=>x)⟩:Below W.heap.size W W') _)
theorem Dj{H:Type}{enc:TypeId×Value->H}{P:Program}{w:World}{sp:Nat->Bool}{held:Bool}{fuel:Nat}{e:TypeId}{n:Nat}{cs:LV}{zs:List Bool}{p:List MemPlace}
  (ht:P.underlying t=some (.array n e)) (he:P.underlying e=some .bool) (hce:P.cellsOf e=1) (hct:P.cellsOf t=n)
  (h:DataW.trod enc P w base sp held fuel t cs=some (.agg (zs.map λz=>.lit (.bool z)),p)):cs=zs.map λz=>Value.bool z:=by
 cases fuel with
 | zero=>simp[DataW.trod]at h
 | succ fuel=>
  simp only[DataW.trod,ht,hce,hct,Nat.mul_one]at h
  split at h
  ·rename_i hl;obtain⟨xs,hm,hx⟩:=Option.map_eq_some_iff.1 h
   have hxs:xs.map (·.1)=zs.map λz=>(DataW.lit (.bool z):DataW H):=by
    have:=congrArg Prod.fst hx;simpa using this
   have hxl:xs.length=n:=by simpa using Lib.mapM_length hm
   have hzl:zs.length=n:=by
    have:=congrArg List.length hxs;simp at this;omega
   apply List.ext_getElem?;intro i
   by_cases hi:i<n
   ·obtain⟨b,hb,hf⟩:=Lib.mapM_at hm i i (by simp[hi]);obtain⟨z,hc,rfl⟩:=DataW.trod_bool he hf
    have h1:cs[i]?=some (.bool z):=by
     have:=congrArg (·[0]?) hc;simpa[List.getElem?_take,List.getElem?_drop]using this
    have h2:(xs.map (·.1))[i]?=some (DataW.lit (.bool z):DataW H):=(by simp[hb]);rw[hxs]at h2;simp only[lG0,Option.map_eq_some_iff,DataW.lit.injEq,Lit.bool.injEq]at h2;obtain⟨z',Uo,rfl⟩:=h2;simp[h1,Uo]
   ·rw[List.getElem?_eq_none (by omega),List.getElem?_eq_none (by simp;omega)]
  ·cases h
theorem RP{P:Program}{name:String}{g:Nat}{cs:Array Value}(hg:P.globalNamed name=some g)(h:W.var? P name=some cs):rd W.heap g=cs.toList:=by
 unfold World.var? at h;rw[hg,Option.bind_some]at h
 cases hw:W.heap[g]? with
 | none=>rw[hw]at h;cases h
 | some o=>
  rw[hw]at h
  cases o with
  | cells c t z=>simp only[Option.some.injEq]at h;subst h;simp[rd,hw]
  | _=>cases h
theorem vT{H:Type}{P:Program}:∀{ts:List TypeId} {ds:List (DataW H)} {j:Nat} {t:TypeId} {d:DataW H} {w:Nat},ts[j]?=some t->ds[j]?=some d->w∈d.weights P t->w∈DataW.weightsEach P ts ds
 | [],_,_,_,_,_,h,_,_=>by simp at h
 | _::_,[],_,_,_,_,_,h,_=>by simp at h
 | t::ts,d::ds,0,_,_,w,h1,h2,h3=>by
  cases h1
  cases h2
  simp only[DataW.weightsEach];exact List.mem_append_left _ h3
 | t::ts,d::ds,j+1,_,_,w,h1,h2,h3=>by
  simp only[DataW.weightsEach];exact List.mem_append_right _ (vT h1 h2 h3)
theorem Dl{H:Type}{P:Program}{e:TypeId}{y:DataW H}{w:Nat}(hw:w ∈ y.weights P e):∀{ds:List (DataW H)},y∈ds->w∈DataW.weightsAll P e ds
 | [],h=>by cases h
 | d::r,h=>by
  simp only[DataW.weightsAll]
  rcases List.mem_cons.mp h with rfl|h
  ·exact List.mem_append_left _ hw
  ·exact List.mem_append_right _ (Dl hw h)
theorem JG{H:Type}{P:Program}{fs:Array Field}{parts:List (DataW H)}{u:TypeId}{d:DataW H}(ht:P.underlying t=some (.struct fs))(h1:(fs.toList.map (·.type))[j]?=some u)(h2:parts[j]?=some d)(hw:w ∈ d.weights P u) :
  w∈(DataW.agg parts).weights P t:=by
 simp only[DataW.weights,ht];exact vT h1 h2 hw
theorem JH{H:Type}{P:Program}{e:TypeId}{es sp:List (DataW H)}{y:DataW H}(ht:P.underlying t=some (.slice e))(hy:y ∈ es)(hw:w ∈ y.weights P e):w∈(DataW.slice es sp).weights P t:=by
 simp only[DataW.weights,ht];exact List.mem_cons_of_mem _ (List.mem_append_left _ (Dl hw hy))
def NV{H:Type}(P:Program)(t:TypeId)(d:DataW H):Prop:=∀w∈d.weights P t,w<=140737488351232
theorem Pc{H:Type}{P:Program}{ts:List TypeId}{ds:List (DataW H)}(h:(DataW.weightsEach P ts ds).all (· <= reachBytes)=true){j:Nat}{t:TypeId}{d:DataW H}(h1:ts[j]?=some t)(h2:ds[j]?=some d):NV P t d:=by
 intro w hw;have:=of_decide_eq_true (List.all_eq_true.mp h w (vT h1 h2 hw));have e:reachBytes=140737488351232:=by decide
 omega
theorem LP{H:Type}{P:Program}{e:TypeId}{d:DataW H}(L:NV P t d)(ht:P.underlying t=some (.slice e))(r:acA d c):c*P.bytesOf e<=140737488351232:=by
 rcases r with rfl|⟨es,sp,rfl,rfl⟩
 ·omega
 ·refine L _ ?_;simp only[DataW.weights,ht];exact List.mem_cons_self
theorem Dm{α H:Type}{enc:TypeId×Value->H}{P:Program}{t n:Nat}{cs:LV}{y:DataW H×List MemPlace}(f:α->LV)(Q:DataW H->α->Prop)(hw:∀ x,(f x).length=w)
  (ht:P.underlying t=some (.slice e)) (hc:P.cellsOf e=w) (h:DataW.trod enc P W 0 (λ_=>true) true n t cs=some y)
  (one:∀n cs y,DataW.trod enc P W 0 (λ_=>true) true n e cs=some y->∃x,cs=f x/\Q y.1 x) :
  ∃a l c,∃xs:List α,cs=[.slice a l c]/\ak W.heap a (xs.flatMap f)/\xs.length=l/\l<=c/\acA y.1 c/\∀i (hi:i<xs.length),∃z,(∀k∈z.weights P e,k∈y.1.weights P t)/\Q z xs[i]:=by
 rcases DataW.trod_slice ht h with⟨Bk,hx⟩|⟨a,len',Pd,elems,rest,n,_,Bk,hx,hb,hl,hm,hlen,ZE,hsp,hns⟩
 ·exact⟨none,0,0,[],Bk,rfl,rfl,nL0,Or.inl rfl,λi hi=>absurd hi (Nat.not_lt_zero _)⟩
 ·subst hx;obtain⟨hrl,_⟩:=hsp rfl
  obtain⟨xs,hxl,hxs⟩:=Gb (p:=λi x=>aj W.heap (a.add ((0+i)*w)) (f x)/\∃y∈elems.map (·.1),Q y x) len' λi hi=>by
   have h1:=ZE i hi;rw[List.getElem?_eq_getElem (by omega),hc,Option.bind_eq_some_iff]at h1;obtain⟨cs,h2,h3⟩:=h1;obtain⟨x,rfl,hq⟩:=one _ _ _ h3;exact⟨x,by rw[Nat.zero_add];exact Di h2,_,List.mem_map.mpr ⟨_,List.getElem_mem (by omega),rfl⟩,hq⟩
  refine⟨_,_,_,xs,Bk,?_,hxl,hl,Or.inr ⟨_,_,rfl,by rw[lM0,lM0];omega⟩,λi hi=>?_⟩
  ·have:=LN xs a 0 (λx _=>hw x) λi hi=>(hxs i hi).1;rw[Nat.zero_mul,Addr.add_zero]at this;exact this
  ·obtain⟨y,hy,hq⟩:=(hxs i hi).2;exact⟨y,λk hk=>JH ht hy hk,hq⟩
end Gl
namespace W
def z1 : LV:=[.nilFunc]
def ti1 : TI:=⟨true,.fn,1,8,z1,[]⟩
def z3 : LV:=[.int .i64 0]
def QH : TI:=⟨true,.int .i64,1,8,z3,[]⟩
def z4 : LV:=[.bool false]
def ti4 : TI:=⟨true,.bool,1,1,z4,[]⟩
def z5 : LV:=[.int .u8 0]
def tf : TI:=⟨true,.int .u8,1,1,z5,[]⟩
def z9 : LV:=[.string (mkStr [])]
def ti9 : TI:=⟨true,.str,1,16,z9,[]⟩
def z22 : LV:=[.slice none 0 0]
def acD : TI:=⟨true,.slice 46,1,24,z22,[]⟩
def z25 : LV:=[.pointer none]
def acE : TI:=⟨true,.ptr 112,1,8,z25,[]⟩
def z26 : LV:=[.int .i64 0]
def acF : TI:=⟨true,.int .i64,1,8,z26,[]⟩
def z29 : LV:=[.pointer none]
def acG : TI:=⟨true,.ptr 41,1,8,z29,[]⟩
def z33 : LV:=[.slice none 0 0]
def acH : TI:=⟨true,.slice 37,1,24,z33,[]⟩
def z34 : LV:=[.slice none 0 0]
def acI : TI:=⟨true,.slice 9,1,24,z34,[]⟩
def z36 : LV:=[.pointer none,.pointer none,.slice none 0 0,.slice none 0 0]
def acJ : TI:=⟨true,.struct [(0,25),(1,29),(2,33),(3,34)],4,64,z36,[]⟩
def z37 : LV:=[.slice none 0 0]
def B8 : TI:=⟨true,.slice 5,1,24,z37,[]⟩
def z38 : LV:=[.slice none 0 0]
def acK : TI:=⟨true,.slice 122,1,24,z38,[]⟩
def z39 : LV:=[.slice none 0 0]
def acL : TI:=⟨true,.slice 4,1,24,z39,[]⟩
def z41 : LV:=[.slice none 0 0,.slice none 0 0,.slice none 0 0,.int .i64 0,.bool false,.int .i64 0,.int .i64 0]
def acM : TI:=⟨true,.struct [(0,37),(1,38),(2,39),(3,3),(4,4),(5,3),(6,3)],7,104,z41,[]⟩
def z42 : LV:=[.slice none 0 0]
def acN : TI:=⟨true,.slice 103,1,24,z42,[]⟩
def z44 : LV:=[.int .i64 0,.slice none 0 0]
def acO : TI:=⟨true,.struct [(0,3),(1,39)],2,32,z44,[]⟩
def z46 : LV:=[.int .i64 0,.slice none 0 0,.int .i64 0,.int .u8 0,.slice none 0 0,.int .i64 0,.slice none 0 0]
def acP : TI:=⟨true,.struct [(0,3),(1,42),(2,3),(3,5),(4,37),(5,44)],7,104,z46,[]⟩
def z55 : LV:=[.slice none 0 0]
def acQ : TI:=⟨true,.slice 67,1,24,z55,[]⟩
def z57 : LV:=[.pointer none]
def acR : TI:=⟨true,.ptr 135,1,8,z57,[]⟩
def z58 : LV:=[.pointer none]
def acS : TI:=⟨true,.ptr 71,1,8,z58,[]⟩
def z60 : LV:=[.pointer none,.pointer none,.pointer none,.pointer none]
def acT : TI:=⟨true,.struct [(0,25),(1,29),(2,57),(3,58)],4,32,z60,[]⟩
def z62 : LV:=[.slice none 0 0]
def acU : TI:=⟨true,.slice 142,1,24,z62,[]⟩
def z63 : LV:=[.slice none 0 0]
def acV : TI:=⟨true,.slice 137,1,24,z63,[]⟩
def z65 : LV:=[.slice none 0 0,.slice none 0 0,.slice none 0 0]
def acW : TI:=⟨true,.struct [(0,62),(1,63),(2,63)],3,72,z65,[]⟩
def z67 : LV:=[.int .i64 0,.int .i64 0,.int .u8 0,.slice none 0 0,.slice none 0 0]
def acX : TI:=⟨true,.struct [(0,3),(1,3),(2,5),(3,37),(4,39)],5,72,z67,[]⟩
def z69 : LV:=[.slice none 0 0]
def acY : TI:=⟨true,.slice 190,1,24,z69,[]⟩
def z71 : LV:=[.pointer none,.slice none 0 0,.bool false]
def acZ : TI:=⟨true,.struct [(0,29),(1,69),(2,4)],3,40,z71,[]⟩
def z73 : LV:=[.slice none 0 0]
def ac0 : TI:=⟨true,.slice 87,1,24,z73,[]⟩
def z75 : LV:=[.int .i64 0,.slice none 0 0,.int .u8 0,.slice none 0 0]
def ac1 : TI:=⟨true,.struct [(0,3),(1,37),(2,5),(3,73)],4,64,z75,[]⟩
def z80 : LV:=[.int .i64 0,.int .i64 0,.int .i64 0,.int .i64 0,.int .i64 0]
def ac3 : TI:=⟨true,.struct [(0,3),(1,3),(2,3),(3,3),(4,3)],5,40,z80,[]⟩
def z84 : LV:=[.pointer none,.pointer none,.pointer none,.pointer none,.int .i64 0,.int .i64 0,.int .i64 0,.int .i64 0,.int .i64 0]
def ac4 : TI:=⟨true,.struct [(0,25),(1,29),(2,57),(3,58),(4,80)],9,72,z84,[]⟩
def z87 : LV:=[.int .i64 0,.int .i64 0,.int .u8 0]
def ac5 : TI:=⟨true,.struct [(0,3),(1,3),(2,5)],3,24,z87,[]⟩
def z89 : LV:=[.slice none 0 0]
def ac6 : TI:=⟨true,.slice 155,1,24,z89,[]⟩
def z90 : LV:=[.slice none 0 0]
def ac7 : TI:=⟨true,.slice 97,1,24,z90,[]⟩
def z92 : LV:=[.int .i64 0,.slice none 0 0,.slice none 0 0]
def ac8 : TI:=⟨true,.struct [(0,3),(1,89),(2,90)],3,56,z92,[]⟩
def z95 : LV:=[.pointer none,.pointer none,.pointer none,.pointer none,.int .i64 0,.int .i64 0,.int .i64 0,.int .i64 0,.int .i64 0]
def ac9 : TI:=⟨true,.struct [(0,25),(1,29),(2,57),(3,58),(4,80)],9,72,z95,[]⟩
def z97 : LV:=[.int .i64 0,.int .i64 0,.int .i64 0,.int .i64 0,.string (mkStr [])]
def ada : TI:=⟨true,.struct [(0,3),(1,3),(2,3),(3,3),(4,9)],5,48,z97,[]⟩
def JI : LV:=[.int .i64 0,.slice none 0 0]
def NW : TI:=⟨true,.struct [(0,3),(1,37)],2,32,JI,[]⟩
def z109 : LV:=[.slice none 0 0]
def XH : TI:=⟨true,.slice 125,1,24,z109,[]⟩
def z110 : LV:=[.slice none 0 0]
def XI : TI:=⟨true,.slice 174,1,24,z110,[]⟩
def z112 : LV:=[.slice none 0 0,.slice none 0 0,.int .i64 0,.slice none 0 0,.bool false,.int .i64 0,.int .i64 0,.slice none 0 0]
def XJ : TI:=⟨true,.struct [(0,109),(1,110),(2,3),(3,39),(4,4),(5,3),(6,3),(7,38)],8,128,z112,[]⟩
def Pe : LV:=[.int .i64 0,.int .i64 0,.slice none 0 0]
def vb : TI:=⟨true,.struct [(0,3),(1,3),(2,37)],3,40,Pe,[]⟩
def Ve : LV:=List.replicate 512 (.int .u8 0)
def XK : TI:=⟨true,.arr 512 5,512,512,Ve,[]⟩
def z132 : LV:=[.map none]
def XL : TI:=⟨true,.map 3 37,1,8,z132,[]⟩
def z133 : LV:=[.slice none 0 0]
def XM : TI:=⟨true,.slice 1,1,24,z133,[]⟩
def z135 : LV:=[.pointer none,.map none,.slice none 0 0,.bool false]
def XN : TI:=⟨true,.struct [(0,25),(1,132),(2,133),(3,4)],4,48,z135,[]⟩
def adb : LV:=[.slice none 0 0]
def XO : TI:=⟨true,.slice 3,1,24,adb,[]⟩
def z142 : LV:=[.slice none 0 0,.int .i64 0,.int .u8 0,.string (mkStr []),.bool false]
def XP : TI:=⟨true,.struct [(0,37),(1,3),(2,5),(3,9),(4,4)],5,64,z142,[]⟩
def z153 : LV:=[.int .i64 0,.int .i64 0,.int .i64 0,.int .i64 0,.int .i64 0,.int .i64 0,.int .i64 0,.int .i64 0,.int .i64 0,.int .i64 0]
def XQ : TI:=⟨true,.arr 10 3,10,80,z153,[]⟩
def gv : LV:=List.replicate 15 (.int .i64 0)
def XR : TI:=⟨true,.struct [(0,3),(1,3),(2,3),(3,153),(13,3),(14,3)],15,120,gv,[(.int .i64),(.int .i64),(.int .i64),(.int .i64),(.int .i64),(.int .i64),(.int .i64),(.int .i64),(.int .i64),(.int .i64),(.int .i64),(.int .i64),(.int .i64),(.int .i64),(.int .i64)]⟩
def ade : LV:=[.slice none 0 0]
def XS : TI:=⟨true,.slice 172,1,24,ade,[]⟩
def z172 : LV:=[.nilFunc]
def NX : TI:=⟨true,.fn,1,8,z172,[]⟩
def Vf : LV:=(.int .i64 0)::List.replicate 512 (.int .u8 0)
def RQ : TI:=⟨true,.struct [(0,3),(1,125)],513,520,Vf,[]⟩
def z190 : LV:=[.int .i64 0,.string (mkStr [])]
def Gc : TI:=⟨true,.struct [(0,3),(1,9)],2,24,z190,[]⟩
def z199 : LV:=[.nilFunc]
def XT : TI:=⟨true,.fn,1,8,z199,[]⟩
def z202 : LV:=[.pointer none]
def XU : TI:=⟨true,.ptr 26,1,8,z202,[]⟩
def z213 : LV:=[.pointer none,.slice none 0 0]
def XV : TI:=⟨true,.struct [(0,211),(1,37)],2,32,z213,[]⟩
def z218 : LV:=[.int .i64 0,.int .i64 0,.int .i64 0,.int .i64 0]
def XW : TI:=⟨true,.struct [(0,3),(1,3),(2,3),(3,3)],4,32,z218,[]⟩
def adf : LV:=[.slice none 0 0]
def XX : TI:=⟨true,.slice 291,1,24,adf,[]⟩
def z243 : LV:=[.int .u64 0]
def XY : TI:=⟨true,.int .u64,1,8,z243,[]⟩
def z244 : LV:=[.int .u32 0]
def XZ : TI:=⟨true,.int .u32,1,4,z244,[]⟩
def ZF : LV:=[.nilFunc]
def X0 : TI:=⟨true,.fn,1,8,ZF,[]⟩
def Vg : LV:=[.pointer none]
def X1 : TI:=⟨true,.ptr 279,1,8,Vg,[]⟩
def z279 : LV:=(.pointer none)::List.replicate 20 (.int .i64 0)
def Ya : TI:=⟨true,.struct [(0,57),(1,80),(6,155)],21,168,z279,[]⟩
def adg : LV:=[.int .i64 0,.int .i64 0]
def Yb : TI:=⟨true,.struct [(0,3),(1,3)],2,16,adg,[]⟩
def z291 : LV:=[.int .i64 0,.int .i64 0]
def Dn : TI:=⟨true,.arr 2 3,2,16,z291,[]⟩
def adh : LV:=[.nilFunc]
def Yc : TI:=⟨true,.fn,1,8,adh,[]⟩
def adi : LV:=[.nilFunc]
def Yd : TI:=⟨true,.fn,1,8,adi,[]⟩
def z298 : LV:=[.pointer none,.int .i64 0,.int .i64 0,.int .i64 0,.int .i64 0,.int .i64 0,.slice none 0 0,.slice none 0 0,.int .i64 0,.int .i64 0]
def Ye : TI:=⟨true,.struct [(0,58),(1,80),(6,235),(7,137),(8,3),(9,26)],10,112,z298,[]⟩
def z320 : LV:=[.slice none 0 0]
def Yf : TI:=⟨true,.slice 282,1,24,z320,[]⟩
def ZG : LV:=[.int .i64 0,.int .i64 0,.int .i64 0,.int .i64 0,.int .i64 0,.int .i64 0,.int .i64 0,.int .i64 0,.int .i64 0,.int .i64 0,.int .i64 0,.int .i64 0]
def Yg : TI:=⟨true,.arr 12 3,12,96,ZG,[]⟩
def z328 : LV:=[.bool false,.bool false,.bool false,.bool false,.bool false,.bool false,.bool false,.bool false,.bool false]
def Yh : TI:=⟨true,.arr 9 4,9,9,z328,[]⟩
def z346 : LV:=List.replicate 16 (.int .u32 0)
def Yi : TI:=⟨true,.arr 16 244,16,64,z346,[]⟩
def Vh : LV:=List.replicate 32 (.int .u32 0)
def Yj : TI:=⟨true,.arr 32 244,32,128,Vh,[]⟩
def NY : List (Nat×TI):=[(1,ti1),(3,QH),(4,ti4),(5,tf),(9,ti9),(22,acD),(25,acE),(26,acF),(29,acG),(33,acH),(34,acI),(36,acJ),(37,B8),(38,acK),(39,acL),(41,acM),(42,acN),(44,acO),(46,acP),(55,acQ),(57,acR),(58,acS),(60,acT),(62,acU),(63,acV),(65,acW),(67,acX),(69,acY),(71,acZ),(73,ac0),(75,ac1),(80,ac3),(84,ac4),(87,ac5),(89,ac6),(90,ac7),(92,ac8),(95,ac9),(97,ada),(103,NW),(109,XH),(110,XI),(112,XJ),(122,vb),(125,XK),(132,XL),(133,XM),(135,XN),(137,XO),(142,XP),(153,XQ),(155,XR),(169,XS),(172,NX),(174,RQ),(190,Gc),(199,XT),(202,XU),(213,XV),(218,XW),(235,XX),(243,XY),(244,XZ),(275,X0),(277,X1),(279,Ya),(282,Yb),(291,Dn),(292,Yc),(295,Yd),(298,Ye),(320,Yf),(326,Yg),(328,Yh),(346,Yi),(348,Yj)]
def ZH : List (Nat×List Ty):=[(0,[]),(1,[.QS]),(3,[.int .i64]),(4,[.bool]),(9,[.str]),(26,[.int .i64]),(27,[.ptr,.int .i64]),(30,[.ptr,.int .i64]),(37,[.slice]),(38,[.slice]),(39,[.slice]),(42,[.slice]),(48,[.int .i64,.int .i64]),(57,[.ptr]),(58,[.ptr]),(80,[.agg]),(104,[.slice,.int .i64]),(106,[.int .i64,.int .i64]),(122,[.agg]),(137,[.slice]),(142,[.agg]),(149,[.bool,.int .i64]),(155,[.agg]),(157,[.str,.int .i64]),(181,[.slice,.slice,.int .i64]),(195,[.any]),(204,[.int .i64,.slice,.int .i64,.int .i64]),(209,[.agg,.int .i64]),(215,[.any]),(222,[.int .i64,.any]),(228,[.agg,.int .i64,.int .i64]),(236,[.slice,.slice,.int .i64]),(244,[.int .u32]),(249,[.slice,.int .i64]),(252,[.slice,.slice]),(259,[.any]),(262,[.int .i64,.int .i64,.int .i64]),(270,[.int .i64,.slice]),(275,[.QS]),(293,[.slice,.slice,.int .i64]),(304,[.int .u32,.int .i64]),(307,[.int .u64,.int .i64]),(320,[.slice]),(322,[.int .i64,.slice,.int .i64]),(324,[.ptr]),(326,[.agg]),(348,[.agg])]
def LQ : List Nat:=[]
def ZI : List Nat:=[117,119,183]
noncomputable def cx(loops:Nat->List Nat×List (Nat×Ty))(td:Nat->Od):Ctx:=⟨Tryz.prog,QR NY,Xu ZH,loops,td,LQ,ZI⟩
theorem Pf : ∀g∈LQ,Xz Tryz.prog g:=by
 simp only[LQ,List.forall_mem_cons];exact λ_ h=>absurd h List.not_mem_nil
theorem adj : cA Tryz.prog 1 ti1:=tk
theorem adk : cA Tryz.prog 3 QH:=tk
theorem adl : cA Tryz.prog 4 ti4:=tk
theorem adm : cA Tryz.prog 5 tf:=tk
theorem adn : cA Tryz.prog 9 ti9:=tk
theorem ZJ : cA Tryz.prog 22 acD:=tk
theorem ZK : cA Tryz.prog 25 acE:=tk
theorem ZL : cA Tryz.prog 26 acF:=tk
theorem ZM : cA Tryz.prog 29 acG:=tk
theorem ZN : cA Tryz.prog 33 acH:=tk
theorem ZO : cA Tryz.prog 34 acI:=tk
theorem ZP : cA Tryz.prog 36 acJ:=tk
theorem ZQ : cA Tryz.prog 37 B8:=tk
theorem ZR : cA Tryz.prog 38 acK:=tk
theorem ZS : cA Tryz.prog 39 acL:=tk
theorem ZT : cA Tryz.prog 41 acM:=tk
theorem ZU : cA Tryz.prog 42 acN:=tk
theorem ZV : cA Tryz.prog 44 acO:=tk
theorem ZW : cA Tryz.prog 46 acP:=tk
theorem ZX : cA Tryz.prog 55 acQ:=tk
theorem ZY : cA Tryz.prog 57 acR:=tk
theorem ZZ : cA Tryz.prog 58 acS:=tk
theorem Z0 : cA Tryz.prog 60 acT:=tk
theorem Z1 : cA Tryz.prog 62 acU:=tk
theorem Z2 : cA Tryz.prog 63 acV:=tk
theorem Z3 : cA Tryz.prog 65 acW:=tk
theorem Z4 : cA Tryz.prog 67 acX:=tk
theorem Z5 : cA Tryz.prog 69 acY:=tk
theorem Z6 : cA Tryz.prog 71 acZ:=tk
theorem Z7 : cA Tryz.prog 73 ac0:=tk
theorem Z8 : cA Tryz.prog 75 ac1:=tk
theorem Z9 : cA Tryz.prog 80 ac3:=tk
theorem Z' : cA Tryz.prog 84 ac4:=tk
theorem γ : cA Tryz.prog 87 ac5:=tk
theorem δ : cA Tryz.prog 89 ac6:=tk
theorem ε : cA Tryz.prog 90 ac7:=tk
theorem ζ : cA Tryz.prog 92 ac8:=tk
theorem η : cA Tryz.prog 95 ac9:=tk
theorem θ : cA Tryz.prog 97 ada:=tk
theorem Vi : cA Tryz.prog 103 NW:=tk
theorem Vj : cA Tryz.prog 109 XH:=tk
theorem Vk : cA Tryz.prog 110 XI:=tk
theorem Vl : cA Tryz.prog 112 XJ:=tk
theorem Vm : cA Tryz.prog 122 vb:=tk
theorem Vn : cA Tryz.prog 125 XK:=tk
theorem Vo : cA Tryz.prog 132 XL:=tk
theorem Vp : cA Tryz.prog 133 XM:=tk
theorem Vq : cA Tryz.prog 135 XN:=tk
theorem Vr : cA Tryz.prog 137 XO:=tk
theorem Vs : cA Tryz.prog 142 XP:=tk
theorem Vt : cA Tryz.prog 153 XQ:=tk
theorem Vu : cA Tryz.prog 155 XR:=tk
theorem Vv : cA Tryz.prog 169 XS:=tk
theorem Vw : cA Tryz.prog 172 NX:=tk
theorem Vx : cA Tryz.prog 174 RQ:=tk
theorem Vy : cA Tryz.prog 190 Gc:=tk
theorem Vz : cA Tryz.prog 199 XT:=tk
theorem VA : cA Tryz.prog 202 XU:=tk
theorem VB : cA Tryz.prog 213 XV:=tk
theorem VC : cA Tryz.prog 218 XW:=tk
theorem VD : cA Tryz.prog 235 XX:=tk
theorem VE : cA Tryz.prog 243 XY:=tk
theorem VF : cA Tryz.prog 244 XZ:=tk
theorem VG : cA Tryz.prog 275 X0:=tk
theorem VH : cA Tryz.prog 277 X1:=tk
theorem VI : cA Tryz.prog 279 Ya:=tk
theorem VJ : cA Tryz.prog 282 Yb:=tk
theorem VK : cA Tryz.prog 291 Dn:=tk
theorem VL : cA Tryz.prog 292 Yc:=tk
theorem VM : cA Tryz.prog 295 Yd:=tk
theorem VN : cA Tryz.prog 298 Ye:=tk
theorem VO : cA Tryz.prog 320 Yf:=tk
theorem VP : cA Tryz.prog 326 Yg:=tk
theorem VQ : cA Tryz.prog 328 Yh:=tk
theorem VR : cA Tryz.prog 346 Yi:=tk
theorem VS : cA Tryz.prog 348 Yj:=tk
theorem RS : ∀x∈NY,cA Tryz.prog x.1 x.2:=by
 simp only[NY,List.forall_mem_cons];exact⟨adj,adk,adl,adm,adn,ZJ,ZK,ZL,ZM,ZN,ZO,ZP,ZQ,ZR,ZS,ZT,ZU,ZV,ZW,ZX,ZY,ZZ,Z0,Z1,Z2,Z3,Z4,Z5,Z6,Z7,Z8,Z9,Z',γ,δ,ε,ζ,η,θ,Vi,Vj,Vk,Vl,Vm,Vn,Vo,Vp,Vq,Vr,Vs,Vt,Vu,Vv,Vw,Vx,Vy,Vz,VA,VB,VC,VD,VE,VF,VG,VH,VI,VJ,VK,VL,VM,VN,VO,VP,VQ,VR,VS,λ_ h=>absurd h List.not_mem_nil⟩
theorem JJ(loops:Nat->List Nat×List (Nat×Ty))(td:Nat->Od):kN (cx loops td):=⟨Pf,Nz NY RS,by kernel_rfl⟩
abbrev aq(g:Nat)(a:LV)(h:ad)(k:KT):Prop:=pQ Tryz.prog g a h k
def C.aV(c1:LV):=aq 6 [.agg ⟨c1⟩]
def C.pX(n1:Int):=aq 9 [.int .i64 n1]
def C.gM(d1:OA):=aq 12 [.pointer d1]
def C.fX(d1:OA):=aq 18 [.pointer d1]
def C.dK(d1:OA):=aq 19 [.pointer d1]
def C.mC(fC:OA)(dR fD:Nat):=aq 28 [.slice fC dR fD]
def C.jZ(fC:OA)(dR fD:Nat):=aq 29 [.slice fC dR fD]
def C.jt(n1:Int):=aq 30 [.int .i64 n1]
def C.iB(v1 n1:Int):=aq 34 [.int .i64 v1,.int .i64 n1]
def C.dV(g1:LV)(rL:OA)(pY tK:Nat):=aq 35 [.agg ⟨g1⟩,.slice rL pY tK]
def C.cV(s1:OA):=aq 36 [.pointer s1]
def C.aE(s1:OA)(o1:LV):=aq 37 [.pointer s1,.agg ⟨o1⟩]
def C.cQ(s1:OA):=aq 38 [.pointer s1]
def C.oA(d1 ju:OA)(hQ kC:Nat):=aq 40 [.pointer d1,.slice ju hQ kC]
def C.gN(d1:OA)(i1:Int):=aq 41 [.pointer d1,.int .i64 i1]
def C.cW(d1:OA)(i1:Int)(aR:OA)(aX bf:Nat):=aq 49 [.pointer d1,.int .i64 i1,.slice aR aX bf]
def C.fY(d1:OA)(i1:Int)(aR:OA)(aX bf:Nat):=aq 50 [.pointer d1,.int .i64 i1,.slice aR aX bf]
def C.cX(d1:OA):=aq 51 [.pointer d1]
def C.fZ(d1:OA):=aq 52 [.pointer d1]
def C.cY(d1 eC:OA)(dH fM:Nat):=aq 55 [.pointer d1,.slice eC dH fM]
def C.fj(d1 eC:OA)(dH fM:Nat):=aq 56 [.pointer d1,.slice eC dH fM]
def C.bD(aI:OA)(aF aT:Nat):=aq 58 [.slice aI aF aT]
def C.dz(aR:OA)(aX bf:Nat):=aq 59 [.slice aR aX bf]
def C.fN(fC:OA)(dR fD:Nat)(oB:OA)(mD qX:Nat)(eC:OA)(dH fM:Nat):=aq 60 [.slice fC dR fD,.slice oB mD qX,.slice eC dH fM]
def C.pZ(d1:OA):=aq 61 [.pointer d1]
def C.gO(d1:OA):=aq 62 [.pointer d1]
def C.iC(t1:OA):=aq 64 [.pointer t1]
def C.ca(t1:OA):=aq 65 [.pointer t1]
def C.ft(t1:OA)(iL:Int):=aq 66 [.pointer t1,.int .i64 iL]
def C.bu(t1:OA)(iL:Int):=aq 67 [.pointer t1,.int .i64 iL]
def C.gH(t1:OA):=aq 68 [.pointer t1]
def C.dL(t1:OA):=aq 69 [.pointer t1]
def C.gy(t1:OA):=aq 70 [.pointer t1]
def C.dx(t1:OA):=aq 71 [.pointer t1]
def C.cF(t1:OA)(i1:Int):=aq 73 [.pointer t1,.int .i64 i1]
def C.aD(t1:OA)(i1:Int):=aq 74 [.pointer t1,.int .i64 i1]
def C.fR(t1:OA):=aq 76 [.pointer t1]
def C.bo(t1:OA):=aq 77 [.pointer t1]
def C.mE(t1:OA)(g1:LV):=aq 82 [.pointer t1,.agg ⟨g1⟩]
def C.bE(t1:OA)(g1:LV):=aq 83 [.pointer t1,.agg ⟨g1⟩]
def C.kr(t1:OA)(g1:LV)(i1:Int):=aq 85 [.pointer t1,.agg ⟨g1⟩,.int .i64 i1]
def C.eR(t1:OA)(g1:LV)(i1:Int):=aq 86 [.pointer t1,.agg ⟨g1⟩,.int .i64 i1]
def C.oC(t1:OA)(g1:LV)(i1:Int):=aq 87 [.pointer t1,.agg ⟨g1⟩,.int .i64 i1]
def C.aY(t1:OA)(i1:Int)(aR:OA)(aX bf:Nat):=aq 92 [.pointer t1,.int .i64 i1,.slice aR aX bf]
def C.aC(t1:OA)(i1:Int)(aR:OA)(aX bf:Nat):=aq 94 [.pointer t1,.int .i64 i1,.slice aR aX bf]
def C.fu(x1:LV):=aq 96 [.agg ⟨x1⟩]
def C.lW(t1:OA)(g1:LV)(n1 dI gY:Int):=aq 97 [.pointer t1,.agg ⟨g1⟩,.int .i64 n1,.int .i64 dI,.int .i64 gY]
def C.bh(t1:OA)(g1:LV)(n1 dI many1:Int):=aq 98 [.pointer t1,.agg ⟨g1⟩,.int .i64 n1,.int .i64 dI,.int .i64 many1]
def C.oD(t1:OA)(g1:LV)(n1 dI:Int)(s1:ByteArray):=aq 99 [.pointer t1,.agg ⟨g1⟩,.int .i64 n1,.int .i64 dI,.string s1]
def C.eW(t1:OA)(g1:LV)(n1 dI:Int)(s1:ByteArray):=aq 100 [.pointer t1,.agg ⟨g1⟩,.int .i64 n1,.int .i64 dI,.string s1]
def C.lN(t1:OA)(g1:LV)(n1 gY:Int):=aq 101 [.pointer t1,.agg ⟨g1⟩,.int .i64 n1,.int .i64 gY]
def C.ku(t1:OA)(g1:LV)(n1 many1:Int):=aq 102 [.pointer t1,.agg ⟨g1⟩,.int .i64 n1,.int .i64 many1]
def C.mF(t1:OA)(g1:LV)(n1:Int):=aq 103 [.pointer t1,.agg ⟨g1⟩,.int .i64 n1]
def C.ik(t1:OA)(g1:LV)(n1:Int):=aq 104 [.pointer t1,.agg ⟨g1⟩,.int .i64 n1]
def C.gP(x1:Int):=aq 105 [.int .u8 x1]
def C.fT(aA1:OA)(Yk aC1:Nat)(aR:OA)(aX bf:Nat):=aq 106 [.slice aA1 Yk aC1,.slice aR aX bf]
def C.uG(ju:OA)(hQ kC:Nat)(n1:Int):=aq 107 [.slice ju hQ kC,.int .i64 n1]
def C.dD(d1:OA):=aq 108 [.pointer d1]
def C.qc(lu:OA)(iP mG:Nat)(jg:OA)(im jW:Nat):=aq 109 [.slice lu iP mG,.slice jg im jW]
def C.eX(s1:OA)(i1:Int)(aR:OA)(aX bf:Nat):=aq 110 [.pointer s1,.int .i64 i1,.slice aR aX bf]
def C.eY(s1:OA):=aq 111 [.pointer s1]
def C.jJ(s1 ju:OA)(hQ kC:Nat):=aq 112 [.pointer s1,.slice ju hQ kC]
def C.j6(aI:OA)(aF aT:Nat)(d1:OA):=aq 113 [.slice aI aF aT,.pointer d1]
def C.iD(d1:OA)(i1:Int):=aq 114 [.pointer d1,.int .i64 i1]
def C.mH :=aq 120 []
def C.bp(d1:OA):=aq 121 [.pointer d1]
def C.iQ(blocks1:Int)(a1:LV):=aq 128 [.int .i64 blocks1,.agg ⟨a1⟩]
def C.eA(d1:OA):=aq 129 [.pointer d1]
def C.gQ(d1:OA)(vU:Value):=aq 130 [.pointer d1,vU]
def C.gK(x1:OA):=aq 131 [.pointer x1]
def C.iR(ju:OA)(hQ kC:Nat):=aq 132 [.slice ju hQ kC]
def C.iE(d1 eC:OA)(dH fM:Nat):=aq 134 [.pointer d1,.slice eC dH fM]
def C.dy(oB:OA)(mD qX:Nat)(i1:Int)(eC:OA)(dH fM:Nat):=aq 135 [.slice oB mD qX,.int .i64 i1,.slice eC dH fM]
def C.aZ(t1:OA):=aq 137 [.pointer t1]
def C.dE(t1:OA)(i1:Int):=aq 138 [.pointer t1,.int .i64 i1]
def C.iq(d1 ju:OA)(hQ kC:Nat):=aq 139 [.pointer d1,.slice ju hQ kC]
def C.bR(d1:OA)(i1:Int):=aq 141 [.pointer d1,.int .i64 i1]
def C.sN(seq1:Value):=aq 142 [seq1]
def C.cC(m1:Option Nat):=aq 143 [.map m1]
def C.oE(t1:OA)(g1:LV)(vm:Value):=aq 144 [.pointer t1,.agg ⟨g1⟩,vm]
def C.lX(qd:Int)(aR:OA)(aX bf:Nat)(x1 x2:OA):=aq 145 [.int .i64 qd,.slice aR aX bf,.pointer x1,.pointer x2]
def C.oF(g1:LV)(qd:Int)(aR:OA)(aX bf:Nat)(vm:Value):=aq 146 [.agg ⟨g1⟩,.int .i64 qd,.slice aR aX bf,vm]
def C.jH(kB x1:Int)(x2:OA):=aq 147 [.int .i64 kB,.int .i64 x1,.pointer x2]
def C.oG(t1:OA)(iL:Int)(e1:OA):=aq 149 [.pointer t1,.int .i64 iL,.pointer e1]
def C.oT(t1:OA)(g1:LV)(i1:Int)(on1:Bool):=aq 150 [.pointer t1,.agg ⟨g1⟩,.int .i64 i1,.bool on1]
def C.jv(t1:OA)(g1:LV)(i1:Int):=aq 151 [.pointer t1,.agg ⟨g1⟩,.int .i64 i1]
def C.jx(t1:OA)(g1:LV)(i1:Int):=aq 152 [.pointer t1,.agg ⟨g1⟩,.int .i64 i1]
def C.oU(t1:OA)(g1:LV)(i1:Int):=aq 153 [.pointer t1,.agg ⟨g1⟩,.int .i64 i1]
def C.rX(aR:OA)(aX bf:Nat)(i1:Int):=aq 154 [.slice aR aX bf,.int .i64 i1]
def C.jI(x1 x2 x3 x4:OA):=aq 157 [.pointer x1,.pointer x2,.pointer x3,.pointer x4]
def C.gz(x1:LV):=aq 158 [.agg ⟨x1⟩]
def C.jK(x1:LV):=aq 159 [.agg ⟨x1⟩]
def C.nW(t1:OA)(g1:LV)(n1:Int):=aq 160 [.pointer t1,.agg ⟨g1⟩,.int .i64 n1]
def C.mJ(dI n1:Int):=aq 161 [.int .i64 dI,.int .i64 n1]
def C.oH(t1:OA)(g1 x1:LV)(k1:Int):=aq 162 [.pointer t1,.agg ⟨g1⟩,.agg ⟨x1⟩,.int .i64 k1]
def C.eE(b1 pA1:OA)(Yl pC1:Nat):=aq 163 [.pointer b1,.slice pA1 Yl pC1]
def C.px(b1:OA):=aq 164 [.pointer b1]
def C.gA(t1:OA)(g1:LV)(n1:Int):=aq 165 [.pointer t1,.agg ⟨g1⟩,.int .i64 n1]
def C.cO(t1:OA)(g1 x1:LV)(k1:Int):=aq 166 [.pointer t1,.agg ⟨g1⟩,.agg ⟨x1⟩,.int .i64 k1]
def C.oV(t1 e1:OA):=aq 167 [.pointer t1,.pointer e1]
def C.mK(t1:OA)(g1 x1:LV)(k1:Int):=aq 168 [.pointer t1,.agg ⟨g1⟩,.agg ⟨x1⟩,.int .i64 k1]
def C.oW(t1:OA)(g1:LV)(n1:Int)(x1:LV):=aq 169 [.pointer t1,.agg ⟨g1⟩,.int .i64 n1,.agg ⟨x1⟩]
def C.iS(t1:OA)(g1:LV)(n1:Int)(x1:LV)(dI:Int)(s1:ByteArray):=aq 170 [.pointer t1,.agg ⟨g1⟩,.int .i64 n1,.agg ⟨x1⟩,.int .i64 dI,.string s1]
def C.gZ(t1:OA)(g1 x1:LV)(k1:Int):=aq 171 [.pointer t1,.agg ⟨g1⟩,.agg ⟨x1⟩,.int .i64 k1]
def C.lY(t1:OA)(g1 x1:LV)(gY:Int):=aq 172 [.pointer t1,.agg ⟨g1⟩,.agg ⟨x1⟩,.int .i64 gY]
def C.bZ(t1:OA)(g1:LV)(n1:Int)(x1:LV)(many1:Int):=aq 173 [.pointer t1,.agg ⟨g1⟩,.int .i64 n1,.agg ⟨x1⟩,.int .i64 many1]
def C.dW(t1:OA)(g1 x1:LV):=aq 174 [.pointer t1,.agg ⟨g1⟩,.agg ⟨x1⟩]
def C.aJ(t1:OA)(g1 x1:LV):=aq 175 [.pointer t1,.agg ⟨g1⟩,.agg ⟨x1⟩]
def C.rY(lu:OA)(iP mG:Nat)(n1:Int):=aq 176 [.slice lu iP mG,.int .i64 n1]
def C.jL(jg:OA)(im jW:Nat)(n1:Int):=aq 177 [.slice jg im jW,.int .i64 n1]
def C.mL(aR:OA)(aX bf:Nat)(fU n1:Int)(s1:ByteArray):=aq 178 [.slice aR aX bf,.int .i64 fU,.int .i64 n1,.string s1]
def C.jQ(aR:OA)(aX bf:Nat)(fU n1 v1:Int)(h:ad)(k:KT):=pQ Tryz.prog 179 [.slice aR aX bf,.int .i64 fU,.int .i64 n1,.int .u64 v1] h k
def C.oI(Ax:OA)(Ay Az:Nat)(tL:OA)(rZ vV:Nat):=aq 180 [.slice Ax Ay Az,.slice tL rZ vV]
def C.ir(d1 x1 x2:OA):=aq 181 [.pointer d1,.pointer x1,.pointer x2]
def C.iu(d1:OA):=aq 182 [.pointer d1]
def C.iw(ju:OA)(hQ kC:Nat):=aq 194 [.slice ju hQ kC]
def C.qe(aR:OA)(aX bf:Nat):=aq 199 [.slice aR aX bf]
def C.aab(aR:OA)(aX bf:Nat)(i1:Int)(is1:Bool):=aq 200 [.slice aR aX bf,.int .i64 i1,.bool is1]
def C.rD(g1:LV)(i1:Int):=aq 201 [.agg ⟨g1⟩,.int .i64 i1]
def C.nX(aR:OA)(aX bf:Nat)(i1:Int):=aq 202 [.slice aR aX bf,.int .i64 i1]
def C.qq(aR:OA)(aX bf:Nat)(i1:Int):=aq 203 [.slice aR aX bf,.int .i64 i1]
def C.bP(n1 AA tM:Int):=aq 204 [.int .i64 n1,.int .i64 AA,.int .i64 tM]
def C.eZ(n1 qf:Int):=aq 205 [.int .i64 n1,.int .i64 qf]
def C.qg(t1:OA)(g1:LV)(n1:Int):=aq 206 [.pointer t1,.agg ⟨g1⟩,.int .i64 n1]
def C.jy(lv:Value)(x1 x2:OA):=aq 207 [lv,.pointer x1,.pointer x2]
def C.kO(t1:OA)(g1 x1:LV)(k1:Int):=aq 208 [.pointer t1,.agg ⟨g1⟩,.agg ⟨x1⟩,.int .i64 k1]
def C.nw(b1:OA):=aq 209 [.pointer b1]
def C.kv(t1:OA)(g1:LV)(n1:Int):=aq 210 [.pointer t1,.agg ⟨g1⟩,.int .i64 n1]
def C.gf(k1:Int):=aq 211 [.int .i64 k1]
def C.gh(x1:LV)(i1:Int):=aq 212 [.agg ⟨x1⟩,.int .i64 i1]
def C.cZ(g1:LV)(n1:Int):=aq 213 [.agg ⟨g1⟩,.int .i64 n1]
def C.eT(t1:OA)(n1:Int):=aq 214 [.pointer t1,.int .i64 n1]
def C.mM(t1:OA):=aq 216 [.pointer t1]
def C.bG(f1:OA)(k1:Int)(Ge:Value):=aq 218 [.pointer f1,.int .i64 k1,Ge]
def C.oX(s1:LV)(fU:Int)(aR:OA)(aX bf:Nat)(x1 x2 x3:OA):=aq 219 [.agg ⟨s1⟩,.int .i64 fU,.slice aR aX bf,.pointer x1,.pointer x2,.pointer x3]
def C.kx(f1:OA)(s1:LV)(fU:Int)(aR:OA)(aX bf:Nat)(fK:Int):=aq 220 [.pointer f1,.agg ⟨s1⟩,.int .i64 fU,.slice aR aX bf,.int .i64 fK]
def C.jz(g1:LV)(n1:Int):=aq 221 [.agg ⟨g1⟩,.int .i64 n1]
def C.ly(x1:LV):=aq 222 [.agg ⟨x1⟩]
def C.kX(t1:OA)(g1:LV)(n1:Int):=aq 223 [.pointer t1,.agg ⟨g1⟩,.int .i64 n1]
def C.gB(t1:OA)(g1 x1:LV)(k1:Int):=aq 224 [.pointer t1,.agg ⟨g1⟩,.agg ⟨x1⟩,.int .i64 k1]
def C.gC(t1:OA)(g1:LV)(n1:Int)(x1:LV):=aq 225 [.pointer t1,.agg ⟨g1⟩,.int .i64 n1,.agg ⟨x1⟩]
def C.iF(f1:OA)(fK:Int):=aq 227 [.pointer f1,.int .i64 fK]
def C.dF(f1:OA)(fO kB:Int)(Gf:Value):=aq 228 [.pointer f1,.int .i64 fO,.int .i64 kB,Gf]
def C.kP(f1:OA)(x1 fK:Int):=aq 229 [.pointer f1,.int .i64 x1,.int .i64 fK]
def C.oY(i1 fK:Int)(x1 x2:OA):=aq 230 [.int .i64 i1,.int .i64 fK,.pointer x1,.pointer x2]
def C.gD(t1:OA)(g1 x1:LV)(k1:Int):=aq 231 [.pointer t1,.agg ⟨g1⟩,.agg ⟨x1⟩,.int .i64 k1]
def C.oZ(k1 fK:Int)(x1 x2:OA):=aq 232 [.int .i64 k1,.int .i64 fK,.pointer x1,.pointer x2]
def C.fP(f1:OA)(fK:Int):=aq 233 [.pointer f1,.int .i64 fK]
def C.j8(fO:Int)(vm:Value)(x1 x2:OA):=aq 234 [.int .i64 fO,vm,.pointer x1,.pointer x2]
def C.fE(f1:OA)(fO:Int):=aq 235 [.pointer f1,.int .i64 fO]
def C.o9(i1 fK:Int)(x1:OA):=aq 236 [.int .i64 i1,.int .i64 fK,.pointer x1]
def C.pd(i1 fO:Int)(x1 x2:OA):=aq 237 [.int .i64 i1,.int .i64 fO,.pointer x1,.pointer x2]
def C.kQ(j1 fK:Int)(x1 x2:OA):=aq 238 [.int .i64 j1,.int .i64 fK,.pointer x1,.pointer x2]
def C.bH(a1:OA)(n1:Int):=aq 239 [.pointer a1,.int .i64 n1]
def C.cP(a1:OA)(n1 kB:Int):=aq 240 [.pointer a1,.int .i64 n1,.int .i64 kB]
def C.bV(a1:OA)(n1:Int):=aq 241 [.pointer a1,.int .i64 n1]
def C.mN(i1:Int)(x1 x2:OA):=aq 242 [.int .i64 i1,.pointer x1,.pointer x2]
def C.qh(aR:OA)(aX bf:Nat):=aq 243 [.slice aR aX bf]
def C.py(aR:OA)(aX bf:Nat)(fU n1:Int):=aq 244 [.slice aR aX bf,.int .i64 fU,.int .i64 n1]
def C.jA(n1:Int):=aq 245 [.int .i64 n1]
def C.mO(aR:OA)(aX bf:Nat):=aq 246 [.slice aR aX bf]
def C.vW(aR:OA)(aX bf:Nat):=aq 247 [.slice aR aX bf]
def C.pz(a1 b1 n1:Int):=aq 248 [.int .u32 a1,.int .u32 b1,.int .i64 n1]
def C.qB(aR:OA)(aX bf:Nat)(fU n1:Int):=aq 249 [.slice aR aX bf,.int .i64 fU,.int .i64 n1]
def C.rE(aR:OA)(aX bf:Nat)(fU n1:Int):=aq 250 [.slice aR aX bf,.int .i64 fU,.int .i64 n1]
def C.gE(n1 qf:Int):=aq 256 [.int .i64 n1,.int .i64 qf]
def C.ky(aR:OA)(aX bf:Nat):=aq 257 [.slice aR aX bf]
def C.dS(lv:Value)(x1:OA):=aq 261 [lv,.pointer x1]
def C.lA(aR:OA)(aX bf:Nat):=aq 262 [.slice aR aX bf]
def C.m7(x1:LV)(x2:Int)(xA1:OA)(xL1 xC1:Nat):=aq 263 [.agg ⟨x1⟩,.int .i64 x2,.slice xA1 xL1 xC1]
def C.dA(g1:LV)(n1:Int):=aq 265 [.agg ⟨g1⟩,.int .i64 n1]
def C.cJ(aR:OA)(aX bf:Nat):=aq 266 [.slice aR aX bf]
def C.iT(aR:OA)(aX bf:Nat):=aq 267 [.slice aR aX bf]
def C.lZ(e1:Int)(x1 x2 x3:OA):=aq 268 [.int .i64 e1,.pointer x1,.pointer x2,.pointer x3]
def C.sd(k1:Int):=aq 269 [.int .i64 k1]
def C.ix(f1:OA)(s1:LV)(fU:Int):=aq 270 [.pointer f1,.agg ⟨s1⟩,.int .i64 fU]
def C.jB(f1:OA)(s1:LV):=aq 271 [.pointer f1,.agg ⟨s1⟩]
def C.eJ(v1 AA tM:Int):=aq 272 [.int .i64 v1,.int .i64 AA,.int .i64 tM]
def C.pf(x1:LV):=aq 273 [.agg ⟨x1⟩]
def C.jC(x1:LV):=aq 274 [.agg ⟨x1⟩]
def C.lB(g1:LV)(n1:Int):=aq 275 [.agg ⟨g1⟩,.int .i64 n1]
def C.fe(t1:OA)(g1 x1:LV)(k1:Int):=aq 276 [.pointer t1,.agg ⟨g1⟩,.agg ⟨x1⟩,.int .i64 k1]
def C.bS(t1:OA)(g1 x1:LV)(k1:Int):=aq 277 [.pointer t1,.agg ⟨g1⟩,.agg ⟨x1⟩,.int .i64 k1]
def C.qC(v1 b1:Int):=aq 278 [.int .u32 v1,.int .u8 b1]
def C.oJ(v1 n1:Int):=aq 279 [.int .u32 v1,.int .i64 n1]
def C.qi(aR:OA)(aX bf:Nat):=aq 280 [.slice aR aX bf]
def C.cK(fU n1:Int)(x1:OA):=aq 293 [.int .i64 fU,.int .i64 n1,.pointer x1]
def C.aU(aR:OA)(aX bf:Nat):=aq 294 [.slice aR aX bf]
def C.jM(x1:LV)(i1 n1:Int):=aq 295 [.agg ⟨x1⟩,.int .i64 i1,.int .i64 n1]
def C.gR(ju:OA)(hQ kC:Nat):=aq 296 [.slice ju hQ kC]
def C.iG(t1:OA)(g1:LV)(n1:Int):=aq 297 [.pointer t1,.agg ⟨g1⟩,.int .i64 n1]
def C.gS(t1:OA)(g1:LV)(n1 kB:Int):=aq 298 [.pointer t1,.agg ⟨g1⟩,.int .i64 n1,.int .i64 kB]
def C.gi(t1:OA)(g1:LV)(n1:Int)(ju:OA)(hQ kC:Nat)(eU:Bool):=aq 299 [.pointer t1,.agg ⟨g1⟩,.int .i64 n1,.slice ju hQ kC,.bool eU]
def C.gk(m1:OA)(v1:Int):=aq 300 [.pointer m1,.int .u32 v1]
def C.fG(m1:OA):=aq 301 [.pointer m1]
def C.jN(ju:OA)(hQ kC:Nat):=aq 309 [.slice ju hQ kC]
def D.aZ(t1:OA)(h:ad)(k:HP):Prop:=xU Tryz.prog 137 [.pointer t1] h k
def D.bC(x1:OA)(x2:OA)(x3:OA)(h:ad)(k:HP):Prop:=xU Tryz.prog 148 [.pointer x1,.pointer x2,.pointer x3] h k
def D.dN(x1:OA)(x2:OA)(x3:OA)(x4:OA)(h:ad)(k:HP):Prop:=xU Tryz.prog 217 [.pointer x1,.pointer x2,.pointer x3,.pointer x4] h k
def D.bN(x1:OA)(x2:OA)(x3:OA)(h:ad)(k:HP):Prop:=xU Tryz.prog 226 [.pointer x1,.pointer x2,.pointer x3] h k
def oS:Nat->Nat->Od->Od|_,0,t=>t|i,n+1,t=>.op i [] (oS (i+1) n t)
abbrev _root_.Go.Proofs.YtjdcbblgaoogmaaGreatDoor.vP(a:OA):Value:=.pointer a
abbrev _root_.Go.Proofs.YtjdcbblgaoogmaaGreatDoor.vS(a:OA)(l c:Nat):Value:=.slice a l c
abbrev _root_.Go.Proofs.YtjdcbblgaoogmaaGreatDoor.bA(h:ad):Addr:=⟨h.size,0,none⟩
abbrev _root_.Go.Proofs.YtjdcbblgaoogmaaGreatDoor.aS(h:ad)(n:Nat):Addr:=Addr.add (bA h) n
abbrev _root_.Go.Proofs.YtjdcbblgaoogmaaGreatDoor.vI(n:Int):Value:=.int .i64 n
def l0:Nat->List Nat×List (Nat×Ty):=fun|_=>([],[])
def o0:Nat->Od:=fun|_=>.nil
theorem fk(lo:Nat->List Nat×List (Nat×Ty))(od:Nat->Od){g:Nat}{fn:Func}{a:LV}{k:KT}{h:ad}{X:Prop}(hf:Tryz.prog.funcs[g]?=some fn)(x:X)(hb:fn.body=some (fn.body.getD .skip):=by kernel_rfl)(ok:LM (cx lo od) fn (fn.body.getD .skip) a.length=true:=by kernel_rfl)(e:UO (cx lo od) fn (fn.body.getD .skip) a k h=X:=by kernel_rfl):pQ Tryz.prog g a h k:=RJ (c:=fn.body.getD .skip) (JJ lo od) hf hb ok (Eq.mpr e x)
theorem fz{g:Nat}{fn:Func}{a:LV}{k:KT}{X:Prop}(hf:Tryz.prog.funcs[g]?=some fn)(x:X)(hb:fn.body=some (fn.body.getD .skip):=by kernel_rfl)(ok:LM (cx l0 o0) fn (fn.body.getD .skip) a.length=true:=by kernel_rfl)(e:UO (cx l0 o0) fn (fn.body.getD .skip) a k h=X:=by kernel_rfl):pQ Tryz.prog g a h k:=RJ (c:=fn.body.getD .skip) (JJ l0 o0) hf hb ok (Eq.mpr e x)
def aV.k2(h1 h9:ad)(i1:Int)(cG:ad)(I1:Int->ad->Prop)(M1:Int->ad->Nat)(K:KT):=
 ∃uo uq vn,cellOf cG (aS h1 2)=some (vS uo uq vn)/\
 (0<=i1/\i1<(uq:Int))/\
 ae uo λp1=>
 ∃s1,cellOf cG (Addr.add (p1.add ((Int.toNat i1)*5)) 4)=some (.string s1)/\
 bif(decide ((s1.size:Int)>32768))then(
 ∃AB Ab B',cellOf cG (aS h1 2)=some (vS AB Ab B')/\
 (0<=i1/\i1<(Ab:Int))/\
 ae AB λp2=>
 ∃s2,cellOf cG (Addr.add (p2.add ((Int.toNat i1)*5)) 4)=some (.string s2)/\
 K (.bool (decide ((s2.size:Int)>32768))) cG)else(
 ∃Ca BA Dq,cellOf cG (aS h1 2)=some (vS Ca BA Dq)/\
 (0<=i1/\i1<(BA:Int))/\
 ae Ca λp3=>
 ∃kR,List.length kR=5/\aj cG (p3.add ((Int.toNat i1)*5)) kR/\
 C.aE (some (bA h9)) kR cG λr7 cg=>
 ∃b2,r7 = .bool b2/\
 bif(!b2)then(
 ∃Gg Gi IP,cellOf cg (aS h1 2)=some (vS Gg Gi IP)/\
 (0<=i1/\i1<(Gi:Int))/\
 ae Gg λp4=>
 ∃s3,cellOf cg (Addr.add (p4.add ((Int.toNat i1)*5)) 4)=some (.string s3)/\
 K (.bool (decide ((s3.size:Int)>32768))) cg)else(
 I1 (wI (i1+1)) cg/\M1 (wI (i1+1)) cg<M1 i1 cG))
def aV.k3(h9 cM:ad)(K:KT):=
 C.cQ (some (bA h9)) cM λr8 fg=>
 ∃b3,r8 = .bool b3/\
 bif b3 then(
 ∃q3,cellOf fg (aS h9 0)=some (vP q3)/\
 ∃q4,cellOf fg (aS h9 1)=some (vP q4)/\
 C.fX q3 fg λr9 iY=>
 ∃Gj Gk IQ,r9 = vS Gj Gk IQ/\
 (cellOf iY (aS h9 1)=some (vP q4))/\
 ∃HV,aw iY Gj Gk HV/\
 C.dK q4 iY λIU fw=>
 ∃Ut RT Ym,IU = vS Ut RT Ym/\
 aw fw Gj Gk (ByteArray.toList (mkStr HV))/\
 ∃RU,aw fw Ut RT RU/\
 K (.bool ((mkStr HV).toList==(mkStr RU).toList)) fw)else(
 K (.bool false) fg)
def aV.k1(h1 h4:ad)(q1:OA)(h9:ad)(q2:OA)(K:KT):=
 ∃fV,List.length fV=5/\aj h9 (bA h4) fV/\
 List.length (fV:LV)=5/\
 az ([vP q1]++([vP q2]++([vP none]++([vP none]++fV)))) 95 h9 λcB=>
 C.cV (some (bA h9)) cB λr6 bQ=>
 ∃b1,r6 = .bool b1/\
 bif(!b1)then(
 K (.bool false) bQ)else(
 ∃(I1:Int->ad->Prop) (M1:Int->ad->Nat),I1 0 bQ/\
 ∀(i1:Int),∀cG:ad,I1 i1 cG->
 ∃kD j9 lD,cellOf cG (aS h1 2)=some (vS kD j9 lD)/\
 bif(decide (i1<(j9:Int)))then(
 bif(decide (i1<60))then(
 aV.k2 h1 h9 i1 cG I1 M1 K)else(
 aV.k3 h9 cG K))else(
 aV.k3 h9 cG K))
def aV(c1:LV)(K:KT)(h1:ad):=
 az c1 92 h1 λh2=>
 ∃n1,cellOf h2 (aS h1 0)=some (vI n1)/\
 C.iB n1 100 h2 λr1 h3=>
 ∃n2,r1 = vI n2/\
 C.jt (wI (128+n2)) h3 λr2 h4=>
 ∃aW,r2 = .agg ⟨aW⟩/\
 aM z80 80 aW 5 h4 λh6=>
 ∃cH,List.length cH=5/\aj h6 (bA h4) cH/\
 ∃aI aF aT,cellOf h6 (aS h1 1)=some (vS aI aF aT)/\
 C.dV cH aI aF aT h6 λr3 h7=>
 ∃dP dB ff,r3 = vS dP dB ff/\
 C.mC dP dB ff h7 λr4 h8=>
 ∃q1 n3,r4 = .tuple #[vP q1,vI n3]/\
 C.jZ dP dB ff h8 λr5 h9=>
 ∃q2 n4,r5 = .tuple #[vP q2,vI n4]/\
 bif(n3 != n4)then(
 K (.bool false) h9)else(
 bif(Option.isNone q1)then(
 K (.bool false) h9)else(
 bif(Option.isNone q2)then(
 K (.bool false) h9)else(
 aV.k1 h1 h4 q1 h9 q2 K)))
theorem aV.ok{c1 K h}(x:aV c1 K h):C.aV c1 h K:=fk (fun|11=>([1,9],[(10,.int .i64)])|_=>([],[])) (fun|15=>(oS 0 7 (oS 9 4 (.op 7 [12] (.op 8 [] (.op 13 [8] (.op 14 [] (.op 15 [] (.op 16 [] (.op 17 [] .nil)))))))))|_=>.nil) Tryz.func6 x
def pX(n1:Int)(K:KT)(h1:ad):=
 bif(decide (n1<1))then(
 K (.tuple #[vP none,vI 32]) h1)else(
 bif(decide (n1>16384))then(
 K (.tuple #[vP none,vI 32]) h1)else(
 (0<=n1/\n1<=n1/\(512:Int)*n1<=281474976710656/\n1<=281474976710656)/\
 az (aN Ve (Int.toNat n1)) 125 h1 λh2=>
 az [vS (some (bA h1)) (Int.toNat n1) (Int.toNat n1),vS none 0 0,vI 0,vS none 0 0,.bool false,vI 0,vI 0,vS none 0 0] 112 h2 λh3=>
 K (.tuple #[vP (some (bA h2)),vI 0]) h3))
set_option maxRecDepth 1000000 in
set_option maxRecDepth 1000000 in
theorem pX.ok{n1 K h}(x:pX n1 K h):C.pX n1 h K:=fz Tryz.func9 x
def gM(d1:OA)(K:KT)(h1:ad):=
 ae d1 λp1=>
 ∃b1,cellOf h1 (p1.add 4)=some (.bool b1)/\
 K (.bool b1) h1
theorem gM.ok{d1 K h}(x:gM d1 K h):C.gM d1 h K:=fz Tryz.func12 x
def fX(d1:OA)(K:KT)(h1:ad):=
 ae d1 λp1=>
 ∃aI aF aT,cellOf h1 (p1.add 0)=some (vS aI aF aT)/\
 (0<=(0:Int)/\(0:Int)<=(wI ((aF:Int)*512))/\(1:Int)*(wI ((aF:Int)*512))<=281474976710656/\(wI ((aF:Int)*512))<=281474976710656)/\
 az (aN z5 (Int.toNat (wI ((aF:Int)*512)))) 5 h1 λh2=>
 ae d1 λp2=>
 ∃dP dB ff,cellOf h2 (p2.add 0)=some (vS dP dB ff)/\
 ∃(I1:OA->Nat->Nat->Int->ad->Prop) (M1:OA->Nat->Nat->Int->ad->Nat),I1 (some (bA h1)) (Int.toNat 0) (Int.toNat (wI ((aF:Int)*512))) 0 h2/\
 ∀(fC:OA) (dR:Nat) (fD:Nat) (n1:Int),∀h3:ad,I1 fC dR fD n1 h3->
 bif(decide (n1<(dB:Int)))then(
 (0<=n1/\n1<(dB:Int))/\
 ae dP λp3=>
 ∃aW,List.length aW=512/\aj h3 (p3.add ((Int.toNat n1)*512)) aW/\
 aM Ve 125 aW 512 h3 λh5=>
 ∃aG,List.length aG=512*1/\ak h5 (some (bA h3)) aG/\(∀v∈aG,v.oneCell'=true)/\
 aH tf 5 fC dR fD 512 aG h5 λkD j9 lD h6=>
 I1 kD j9 lD (wI (n1+1)) h6/\M1 kD j9 lD (wI (n1+1)) h6<M1 fC dR fD n1 h3)else(
 K (vS fC dR fD) h3)
theorem fX.ok{d1 K h}(x:fX d1 K h):C.fX d1 h K:=fk (fun|3=>([16,17],[(3,.slice),(18,.int .i64)])|_=>([],[])) o0 Tryz.func18 x
def dK(d1:OA)(K:KT)(h1:ad):=
 ae d1 λp1=>
 ∃b1,cellOf h1 (p1.add 4)=some (.bool b1)/\
 bif b1 then(
 ae d1 λp2=>
 ∃aI aF aT,cellOf h1 (p2.add 0)=some (vS aI aF aT)/\
 ae d1 λp3=>
 ∃dP dB ff,cellOf h1 (p3.add 1)=some (vS dP dB ff)/\
 ae d1 λp4=>
 ∃kD j9 lD,cellOf h1 (p4.add 2)=some (vS kD j9 lD)/\
 C.fN aI aF aT dP dB ff kD j9 lD h1 λr1 h2=>
 ∃uo uq vn,r1 = vS uo uq vn/\
 K (vS uo uq vn) h2)else(
 ae d1 λp5=>
 ∃AB Ab B',cellOf h1 (p5.add 0)=some (vS AB Ab B')/\
 ae d1 λp6=>
 ∃Ca BA Dq,cellOf h1 (p6.add 1)=some (vS Ca BA Dq)/\
 C.fN AB Ab B' Ca BA Dq none 0 0 h1 λr2 h3=>
 ∃Gg Gi IP,r2 = vS Gg Gi IP/\
 K (vS Gg Gi IP) h3)
theorem dK.ok{d1 K h}(x:dK d1 K h):C.dK d1 h K:=fk l0 (fun|2=>(oS 0 13 (.op 13 [] .nil))|3=>(oS 0 9 (.op 9 [] .nil))|_=>.nil) Tryz.func19 x
def mC(fC:OA)(dR fD:Nat)(K:KT)(h1:ad):=
 bif((Int.tmod (dR:Int) 512) != 0)then(
 K (.tuple #[vP none,vI 32]) h1)else(
 C.pX (wI (Int.tdiv (dR:Int) 512)) h1 λr1 h2=>
 ∃q1 n1,r1 = .tuple #[vP q1,vI n1]/\
 bif(n1 != 0)then(
 K (.tuple #[vP none,vI n1]) h2)else(
 ae q1 λp1=>
 ∃aI aF aT,cellOf h2 (p1.add 0)=some (vS aI aF aT)/\
 ∃(I1:Int->ad->Prop) (M1:Int->ad->Nat),I1 0 h2/\
 ∀(n2:Int),∀h3:ad,I1 n2 h3->
 bif(decide (n2<(aF:Int)))then(
 ae q1 λp2=>
 ∃dP dB ff,cellOf h3 (p2.add 0)=some (vS dP dB ff)/\
 (0<=n2/\n2<(dB:Int))/\
 ae dP λp3=>
 (0<=(wI (n2*512))/\(wI (n2*512))<=(dR:Int))/\
 rP tf (some (p3.add ((Int.toNat n2)*512))) 512 (vS (if fD=(Int.toNat (wI (n2*512)))then fC else Option.map (Addr.add · (Int.toNat (wI (n2*512)))) fC) (dR-(Int.toNat (wI (n2*512)))) (fD-(Int.toNat (wI (n2*512))))) h3 λn3 h4=>
 I1 (wI (n2+1)) h4/\M1 (wI (n2+1)) h4<M1 n2 h3)else(
 K (.tuple #[vP q1,vI 0]) h3)))
theorem mC.ok{fC dR fD K h}(x:mC fC dR fD K h):C.mC fC dR fD h K:=fk (fun|7=>([0,4,25],[(26,.int .i64)])|_=>([],[])) (fun|9=>(oS 0 11 (.op 11 [] .nil))|_=>.nil) Tryz.func28 x
def jZ(fC:OA)(dR fD:Nat)(K:KT)(h1:ad):=
 bif((dR:Int)==0)then(
 K (.tuple #[vP none,vI 32]) h1)else(
 bif((Int.tmod (dR:Int) 512) != 0)then(
 K (.tuple #[vP none,vI 32]) h1)else(
 bif(decide ((wI (Int.tdiv (dR:Int) 512))>16384))then(
 K (.tuple #[vP none,vI 32]) h1)else(
 C.dz fC dR fD h1 λr1 h2=>
 ∃aI aF aT,r1 = vS aI aF aT/\
 az [vS aI aF aT,vS none 0 0,vS none 0 0,vI 0,.bool false,vI 0,vI 0] 41 h2 λh3=>
 K (.tuple #[vP (some (bA h2)),vI 0]) h3)))
set_option maxRecDepth 1000000 in
set_option maxRecDepth 1000000 in
theorem jZ.ok{fC dR fD K h}(x:jZ fC dR fD K h):C.jZ fC dR fD h K:=fz Tryz.func29 x
def jt(n1:Int)(K:KT)(h1:ad):=
 aM z80 80 [vI n1,vI 98,vI (wI (98+(wI (Int.tdiv (wI ((wI (n1+4096))-1)) 4096)))),vI (wI ((wI (98+(wI (Int.tdiv (wI ((wI (n1+4096))-1)) 4096))))+(wI (Int.tdiv n1 64)))),vI (wI (8*(wI (Int.tdiv n1 64))))] 5 h1 λh3=>
 ∃bL,List.length bL=5/\aj h3 (bA h1) bL/\
 K (.agg ⟨bL⟩) h3
theorem jt.ok{n1 K h}(x:jt n1 K h):C.jt n1 h K:=fz Tryz.func30 x
def iB(v1 n1:Int)(K:KT)(h1:ad):=
 if n1=0 then False else
 bif(decide ((Int.tmod v1 n1)<0))then(
 K (vI (wI ((Int.tmod v1 n1)+n1))) h1)else(
 K (vI (Int.tmod v1 n1)) h1)
theorem iB.ok{v1 n1 K h}(x:iB v1 n1 K h):C.iB v1 n1 h K:=fz Tryz.func34 x
def dV.k1(h1 h2:ad)(n1:Int)(h3:ad)(n2 n3 n7:Int)(h8:ad)(I2:Int->ad->Prop)(M2:Int->ad->Nat)(bQ:ad)(aI:OA)(aF:Nat)(K:KT):=
 ∃(I3:Int->ad->Prop) (M3:Int->ad->Nat),I3 0 bQ/\
 ∀(k1:Int),∀cG:ad,I3 k1 cG->
 bif(decide (k1<(aF:Int)))then(
 ∃n10,cellOf cG (aS h1 2)=some (vI n10)/\
 (0<=k1/\k1<(aF:Int))/\
 ae aI λp2=>
 ∃n11,cellOf cG (p2.add (Int.toNat k1))=some (.int .u8 n11)/\
 (0<=(wI ((wI ((wI (n10*512))+(wI (64*(wI (n7+1))))))+k1))/\(wI ((wI ((wI (n10*512))+(wI (64*(wI (n7+1))))))+k1))<((Int.toNat (wI (n1*512))):Int))/\
 aO (Addr.add (bA h2) (Int.toNat (wI ((wI ((wI (n10*512))+(wI (64*(wI (n7+1))))))+k1)))) (.int .u8 n11) cG λcg=>
 I3 (wI (k1+1)) cg/\M3 (wI (k1+1)) cg<M3 k1 cG)else(
 ∃fV,List.length fV=10/\aj cG (aS h8 3) fV/\
 ∃(I4:Int->ad->Prop) (M4:Int->ad->Nat),I4 0 cG/\
 ∀(n12:Int),∀cM:ad,I4 n12 cM->
 bif(decide (n12<10))then(
 (0<=n12/\n12<(10:Int))/\
 ∃n13,fV[(Int.toNat n12)]?=some (vI n13)/\
 ∃n14,cellOf cM (aS h1 3)=some (vI n14)/\
 bif(decide (n13>=n14))then(
 ∃n15,cellOf cM (aS h1 0)=some (vI n15)/\
 bif(decide (n13<n15))then(
 (0<=n13/\n13<(((Int.toNat (wI ((wI (n2-n3))*4096))):Nat):Int))/\
 aO (Addr.add (bA h3) (Int.toNat n13)) (.bool true) cM λfg=>
 I4 (wI (n12+1)) fg/\M4 (wI (n12+1)) fg<M4 n12 cM)else(
 I4 (wI (n12+1)) cM/\M4 (wI (n12+1)) cM<M4 n12 cM))else(
 I4 (wI (n12+1)) cM/\M4 (wI (n12+1)) cM<M4 n12 cM))else(
 I2 (wI (n7+1)) cM/\M2 (wI (n7+1)) cM<M2 n7 h8))
def dV(g1:LV)(rL:OA)(pY tK:Nat)(K:KT)(h1:ad):=
 az g1 80 h1 λh2=>
 ∃n1,cellOf h2 (aS h1 0)=some (vI n1)/\
 (0<=(wI (n1*512))/\(wI (n1*512))<=(wI (n1*512))/\(1:Int)*(wI (n1*512))<=281474976710656/\(wI (n1*512))<=281474976710656)/\
 az (aN z5 (Int.toNat (wI (n1*512)))) 5 h2 λh3=>
 ∃n2,cellOf h3 (aS h1 2)=some (vI n2)/\
 ∃n3,cellOf h3 (aS h1 1)=some (vI n3)/\
 (0<=(wI ((wI (n2-n3))*4096))/\(wI ((wI (n2-n3))*4096))<=(wI ((wI (n2-n3))*4096))/\(1:Int)*(wI ((wI (n2-n3))*4096))<=281474976710656/\(wI ((wI (n2-n3))*4096))<=281474976710656)/\
 az (aN z4 (Int.toNat (wI ((wI (n2-n3))*4096)))) 4 h3 λh4=>
 ∃(I1:Int->ad->Prop) (M1:Int->ad->Nat),I1 0 h4/\
 ∀(n4:Int),∀h5:ad,I1 n4 h5->
 bif(decide (n4<(((Int.toNat (wI ((wI (n2-n3))*4096))):Nat):Int)))then(
 ∃n5,cellOf h5 (aS h1 3)=some (vI n5)/\
 bif(decide (n4<n5))then(
 (0<=n4/\n4<(((Int.toNat (wI ((wI (n2-n3))*4096))):Nat):Int))/\
 aO (Addr.add (bA h3) (Int.toNat n4)) (.bool true) h5 λh6=>
 I1 (wI (n4+1)) h6/\M1 (wI (n4+1)) h6<M1 n4 h5)else(
 ∃n6,cellOf h5 (aS h1 0)=some (vI n6)/\
 (0<=n4/\n4<(((Int.toNat (wI ((wI (n2-n3))*4096))):Nat):Int))/\
 aO (Addr.add (bA h3) (Int.toNat n4)) (.bool (decide (n4>=n6))) h5 λh7=>
 I1 (wI (n4+1)) h7/\M1 (wI (n4+1)) h7<M1 n4 h5))else(
 ∃(I2:Int->ad->Prop) (M2:Int->ad->Nat),I2 0 h5/\
 ∀(n7:Int),∀h8:ad,I2 n7 h8->
 bif(decide (n7<(pY:Int)))then(
 (0<=n7/\n7<(pY:Int))/\
 ae rL λp1=>
 ∃aW,List.length aW=15/\aj h8 (p1.add ((Int.toNat n7)*15)) aW/\
 aM gv 155 aW 15 h8 λcB=>
 ∃cH,List.length cH=15/\aj cB (bA h8) cH/\
 C.fu cH cB λr1 bQ=>
 ∃aI aF aT n8,r1 = .tuple #[vS aI aF aT,vI n8]/\
 bif(n8 != 0)then(
 I2 (wI (n7+1)) bQ/\M2 (wI (n7+1)) bQ<M2 n7 h8)else(
 ∃n9,cellOf bQ (aS h1 4)=some (vI n9)/\
 bif(decide ((wI (n7+1))>=n9))then(
 I2 (wI (n7+1)) bQ/\M2 (wI (n7+1)) bQ<M2 n7 h8)else(
 dV.k1 h1 h2 n1 h3 n2 n3 n7 h8 I2 M2 bQ aI aF K)))else(
 ∃(I5:Int->ad->Prop) (M5:Int->ad->Nat),I5 0 h8/\
 ∀(n16:Int),∀iY:ad,I5 n16 iY->
 bif(decide (n16<(((Int.toNat (wI ((wI (n2-n3))*4096))):Nat):Int)))then(
 (0<=n16/\n16<(((Int.toNat (wI ((wI (n2-n3))*4096))):Nat):Int))/\
 ∃b1,cellOf iY (Addr.add (bA h3) (Int.toNat n16))=some (.bool b1)/\
 bif b1 then(
 ∃(I6:Int->Int->ad->Prop) (M6:Int->Int->ad->Nat),I6 1 0 iY/\
 ∀(v1:Int) (k2:Int),∀fw:ad,I6 v1 k2 fw->
 bif(decide (k2<(Int.tmod n16 8)))then(
 I6 (IntKind.wrap .u8 (v1*2)) (wI (k2+1)) fw/\M6 (IntKind.wrap .u8 (v1*2)) (wI (k2+1)) fw<M6 v1 k2 fw)else(
 ∃n17,cellOf fw (aS h1 1)=some (vI n17)/\
 ∃n18,cellOf fw (aS h1 1)=some (vI n18)/\
 (0<=(wI ((wI (n18*512))+(wI (Int.tdiv n16 8))))/\(wI ((wI (n18*512))+(wI (Int.tdiv n16 8))))<((Int.toNat (wI (n1*512))):Int))/\
 ∃n19,cellOf fw (Addr.add (bA h2) (Int.toNat (wI ((wI (n18*512))+(wI (Int.tdiv n16 8))))))=some (.int .u8 n19)/\
 (0<=(wI ((wI (n17*512))+(wI (Int.tdiv n16 8))))/\(wI ((wI (n17*512))+(wI (Int.tdiv n16 8))))<((Int.toNat (wI (n1*512))):Int))/\
 aO (Addr.add (bA h2) (Int.toNat (wI ((wI (n17*512))+(wI (Int.tdiv n16 8)))))) (.int .u8 (IntKind.wrap .u8 (n19+v1))) fw λma=>
 I5 (wI (n16+1)) ma/\M5 (wI (n16+1)) ma<M5 n16 iY))else(
 I5 (wI (n16+1)) iY/\M5 (wI (n16+1)) iY<M5 n16 iY))else(
 K (vS (some (bA h2)) (Int.toNat (wI (n1*512))) (Int.toNat (wI (n1*512)))) iY)))
theorem dV.ok{g1 rL pY tK K h}(x:dV g1 rL pY tK K h):C.dV g1 rL pY tK h K:=fk (fun|4=>([1,2,5,6,30],[(31,.int .i64)])|9=>([2,5,6,48,49],[(50,.int .i64)])|14=>([2,5,6,8,9,10,48,49,50],[(12,.int .i64)])|18=>([2,5,6,48,49,50,91],[(92,.int .i64)])|25=>([2,5,6,111],[(112,.int .i64)])|30=>([2,5,6,15,111,112],[(16,.int .u8),(17,.int .i64)])|_=>([],[])) (fun|16=>(oS 0 15 (.op 15 [] .nil))|33=>(oS 0 19 (.op 19 [] .nil))|_=>.nil) Tryz.func35 x
def cV(s1:OA)(K:KT)(h1:ad):=
 ae s1 λp1=>
 ∃q1,cellOf h1 (p1.add 0)=some (vP q1)/\
 C.pZ q1 h1 λr1 h2=>
 ∃q2,r1 = vP q2/\
 ae s1 λp2=>
 aO (p2.add 2) (vP q2) h2 λh3=>
 ae s1 λp3=>
 ∃q3,cellOf h3 (p3.add 1)=some (vP q3)/\
 C.gO q3 h3 λr2 h4=>
 ∃q4,r2 = vP q4/\
 ae s1 λp4=>
 aO (p4.add 3) (vP q4) h4 λh5=>
 ae s1 λp5=>
 ∃q5,cellOf h5 (p5.add 2)=some (vP q5)/\
 K (.bool (!(Option.isNone q5))) h5
theorem cV.ok{s1 K h}(x:cV s1 K h):C.cV s1 h K:=fz Tryz.func36 x
def aE.k1(s1:OA)(h1:ad)(aI:OA)(aF aT:Nat)(i1:Int)(cM:ad)(I1:Int->ad->Prop)(M1:Int->ad->Nat)(K:KT):=
 ae s1 λp17=>
 ∃q9,cellOf cM (p17.add 2)=some (vP q9)/\
 ∃n29,cellOf cM (Addr.add ⟨h1.size,0,none⟩ 1)=some (vI n29)/\
 ae s1 λp18=>
 ∃Gm,cellOf cM (p18.add 3)=some (vP Gm)/\
 ∃n30,cellOf cM (Addr.add ⟨h1.size,0,none⟩ 1)=some (vI n30)/\
 C.aY q9 (wI (n29+i1)) aI aF aT cM λPg fg=>
 ∃n31,Pg = vI n31/\
 (cellOf fg (p18.add 3)=some (vP Gm))/\
 (cellOf fg (Addr.add ⟨h1.size,0,none⟩ 1)=some (vI n30))/\
 C.aC Gm (wI (n30+i1)) aI aF aT fg λr13 iY=>
 ∃n32,r13 = vI n32/\
 bif(n31 != n32)then(
 K (.bool false) iY)else(
 I1 (wI (i1+1)) iY/\M1 (wI (i1+1)) iY<M1 i1 cM)
def aE.k2(s1:OA)(iK:ad)(K:KT):=
 ae s1 λp21=>
 ∃BB,cellOf iK (p21.add 2)=some (vP BB)/\
 C.gy BB iK λr17 nR=>
 r17 = .tuple #[]/\
 ae s1 λp22=>
 ∃Uu,cellOf nR (p22.add 3)=some (vP Uu)/\
 C.dx Uu nR λr18 nD=>
 r18 = .tuple #[]/\
 C.cV s1 nD λYn jR=>
 ∃b3,Yn = .bool b3/\
 K (.bool b3) jR
def aE(s1:OA)(o1:LV)(K:KT)(h1:ad):=
 az o1 97 h1 λh2=>
 ∃n1,cellOf h2 (Addr.add ⟨h1.size,0,none⟩ 0)=some (vI n1)/\
 bif(n1==1)then(
 ae s1 λp1=>
 ∃q1,cellOf h2 (p1.add 2)=some (vP q1)/\
 ae s1 λp2=>
 ∃aW,List.length aW=5/\aj h2 (p2.add 4) aW/\
 ∃n2,cellOf h2 (Addr.add ⟨h1.size,0,none⟩ 1)=some (vI n2)/\
 ∃n3,cellOf h2 (Addr.add ⟨h1.size,0,none⟩ 2)=some (vI n3)/\
 ∃n4,cellOf h2 (Addr.add ⟨h1.size,0,none⟩ 3)=some (vI n4)/\
 C.lW q1 aW n2 n3 n4 h2 λr1 h3=>
 ∃s2 n5,r1 = .tuple #[.string s2,vI n5]/\
 ae s1 λp3=>
 ∃q2,cellOf h3 (p3.add 3)=some (vP q2)/\
 ae s1 λp4=>
 ∃cH,List.length cH=5/\aj h3 (p4.add 4) cH/\
 ∃n6,cellOf h3 (Addr.add ⟨h1.size,0,none⟩ 1)=some (vI n6)/\
 ∃n7,cellOf h3 (Addr.add ⟨h1.size,0,none⟩ 2)=some (vI n7)/\
 ∃n8,cellOf h3 (Addr.add ⟨h1.size,0,none⟩ 3)=some (vI n8)/\
 C.bh q2 cH n6 n7 n8 h3 λr2 h4=>
 ∃s3 n9,r2 = .tuple #[.string s3,vI n9]/\
 bif(s2.toList==s3.toList)then(
 K (.bool (n5==n9)) h4)else(
 K (.bool false) h4))else(
 bif(n1==2)then(
 ae s1 λp5=>
 ∃q3,cellOf h2 (p5.add 2)=some (vP q3)/\
 ae s1 λp6=>
 ∃fV,List.length fV=5/\aj h2 (p6.add 4) fV/\
 ∃n10,cellOf h2 (Addr.add ⟨h1.size,0,none⟩ 1)=some (vI n10)/\
 ∃n11,cellOf h2 (Addr.add ⟨h1.size,0,none⟩ 2)=some (vI n11)/\
 ∃s4,cellOf h2 (Addr.add ⟨h1.size,0,none⟩ 4)=some (.string s4)/\
 ae s1 λp7=>
 ∃q4,cellOf h2 (p7.add 3)=some (vP q4)/\
 ae s1 λp8=>
 ∃kR,List.length kR=5/\aj h2 (p8.add 4) kR/\
 ∃n12,cellOf h2 (Addr.add ⟨h1.size,0,none⟩ 1)=some (vI n12)/\
 ∃n13,cellOf h2 (Addr.add ⟨h1.size,0,none⟩ 2)=some (vI n13)/\
 ∃s5,cellOf h2 (Addr.add ⟨h1.size,0,none⟩ 4)=some (.string s5)/\
 C.oD q3 fV n10 n11 s4 h2 λr3 h5=>
 ∃n14,r3 = vI n14/\
 (cellOf h5 (p7.add 3)=some (vP q4))/\
 (List.length (kR:LV)=5/\aj h5 (p8.add 4) kR)/\
 (cellOf h5 (Addr.add ⟨h1.size,0,none⟩ 1)=some (vI n12))/\
 (cellOf h5 (Addr.add ⟨h1.size,0,none⟩ 2)=some (vI n13))/\
 (cellOf h5 (Addr.add ⟨h1.size,0,none⟩ 4)=some (.string s5))/\
 C.eW q4 kR n12 n13 s5 h5 λr4 h6=>
 ∃n15,r4 = vI n15/\
 bif(n14==n15)then(
 C.cQ s1 h6 λr5 h7=>
 ∃b1,r5 = .bool b1/\
 K (.bool b1) h7)else(
 K (.bool false) h6))else(
 bif(n1==3)then(
 ae s1 λp9=>
 ∃q5,cellOf h2 (p9.add 2)=some (vP q5)/\
 ae s1 λVT=>
 ∃rh,List.length rh=5/\aj h2 (VT.add 4) rh/\
 ∃n16,cellOf h2 (Addr.add ⟨h1.size,0,none⟩ 1)=some (vI n16)/\
 ∃n17,cellOf h2 (Addr.add ⟨h1.size,0,none⟩ 3)=some (vI n17)/\
 ae s1 λUv=>
 ∃q6,cellOf h2 (Uv.add 3)=some (vP q6)/\
 ae s1 λp12=>
 ∃tg,List.length tg=5/\aj h2 (p12.add 4) tg/\
 ∃n18,cellOf h2 (Addr.add ⟨h1.size,0,none⟩ 1)=some (vI n18)/\
 ∃n19,cellOf h2 (Addr.add ⟨h1.size,0,none⟩ 3)=some (vI n19)/\
 C.lN q5 rh n16 n17 h2 λr6 h8=>
 ∃n20,r6 = vI n20/\
 (cellOf h8 (Uv.add 3)=some (vP q6))/\
 (List.length (tg:LV)=5/\aj h8 (p12.add 4) tg)/\
 (cellOf h8 (Addr.add ⟨h1.size,0,none⟩ 1)=some (vI n18))/\
 (cellOf h8 (Addr.add ⟨h1.size,0,none⟩ 3)=some (vI n19))/\
 C.ku q6 tg n18 n19 h8 λr7 h9=>
 ∃n21,r7 = vI n21/\
 bif(n20==n21)then(
 C.cQ s1 h9 λr8 cB=>
 ∃b2,r8 = .bool b2/\
 K (.bool b2) cB)else(
 K (.bool false) h9))else(
 bif(n1==4)then(
 ae s1 λp13=>
 ∃q7,cellOf h2 (p13.add 2)=some (vP q7)/\
 ae s1 λp14=>
 ∃vo,List.length vo=5/\aj h2 (p14.add 4) vo/\
 ∃n22,cellOf h2 (Addr.add ⟨h1.size,0,none⟩ 1)=some (vI n22)/\
 C.mF q7 vo n22 h2 λr9 bQ=>
 ∃n23 n24,r9 = .tuple #[vI n23,vI n24]/\
 ae s1 λp15=>
 ∃q8,cellOf bQ (p15.add 3)=some (vP q8)/\
 ae s1 λp16=>
 ∃vX,List.length vX=5/\aj bQ (p16.add 4) vX/\
 ∃n25,cellOf bQ (Addr.add ⟨h1.size,0,none⟩ 1)=some (vI n25)/\
 C.ik q8 vX n25 bQ λIU cG=>
 ∃n26 n27,IU = .tuple #[vI n26,vI n27]/\
 bif(n23==n26)then(
 K (.bool (n24==n27)) cG)else(
 K (.bool false) cG))else(
 bif(n1==5)then(
 ∃n28,cellOf h2 (Addr.add ⟨h1.size,0,none⟩ 3)=some (vI n28)/\
 C.gP (IntKind.wrap .u8 (n28)) h2 λYo cg=>
 ∃aI aF aT,Yo = vS aI aF aT/\
 ∃(I1:Int->ad->Prop) (M1:Int->ad->Nat),I1 0 cg/\
 ∀(i1:Int),∀cM:ad,I1 i1 cM->
 bif(i1==0)then(
 aE.k1 s1 h1 aI aF aT i1 cM I1 M1 K)else(
 ∃n33,cellOf cM (Addr.add ⟨h1.size,0,none⟩ 2)=some (vI n33)/\
 bif(decide (i1<n33))then(
 bif(decide (i1<96))then(
 aE.k1 s1 h1 aI aF aT i1 cM I1 M1 K)else(
 K (.bool true) cM))else(
 K (.bool true) cM)))else(
 bif(n1==6)then(
 ∃n34,cellOf h2 (Addr.add ⟨h1.size,0,none⟩ 3)=some (vI n34)/\
 C.iB n34 2 h2 λYp fw=>
 ∃n35,Yp = vI n35/\
 bif(n35==0)then(
 ae s1 λp19=>
 ∃VU,cellOf fw (p19.add 2)=some (vP VU)/\
 ae s1 λp20=>
 ∃Ph,cellOf fw (p20.add 3)=some (vP Ph)/\
 C.gH VU fw λι ma=>
 ∃n36,ι = vI n36/\
 (cellOf ma (p20.add 3)=some (vP Ph))/\
 C.dL Ph ma λr16 gm=>
 ∃n37,r16 = vI n37/\
 bif(n36 != n37)then(
 K (.bool false) gm)else(
 aE.k2 s1 gm K))else(
 aE.k2 s1 fw K))else(
 bif(n1==7)then(
 ae s1 λp23=>
 ∃q15,cellOf h2 (p23.add 2)=some (vP q15)/\
 C.gy q15 h2 λr20 mu=>
 r20 = .tuple #[]/\
 ae s1 λp24=>
 ∃Lj,cellOf mu (p24.add 3)=some (vP Lj)/\
 C.dx Lj mu λr21 uH=>
 r21 = .tuple #[]/\
 K (.bool true) uH)else(
 bif(n1==8)then(
 ae s1 λp25=>
 ∃BC,cellOf h2 (p25.add 0)=some (vP BC)/\
 C.fj BC none 0 0 h2 λr22 qu=>
 r22 = .tuple #[]/\
 ae s1 λp26=>
 ∃q18,cellOf qu (p26.add 1)=some (vP q18)/\
 C.cY q18 none 0 0 qu λNZ tx=>
 NZ = .tuple #[]/\
 K (.bool true) tx)else(
 K (.bool true) h2))))))))
set_option maxRecDepth 100000 in
set_option maxRecDepth 100000 in
set_option maxRecDepth 100000 in
theorem aE.ok{s1 o1 K h}(x:aE s1 o1 K h):C.aE s1 o1 h K:=fk (fun|17=>([0,3,13],[(14,.int .i64)])|_=>([],[])) (fun|3=>(oS 0 19 (.op 19 [] .nil))|4=>(oS 0 19 (.op 19 [] .nil))|7=>(oS 0 14 (oS 15 14 (.op 14 [18,22,24,26,28] (oS 29 6 (.op 35 [] .nil)))))|9=>(oS 0 12 (oS 13 12 (.op 12 [16,20,22,24] (oS 25 6 (.op 31 [] .nil)))))|11=>(oS 0 15 (.op 15 [] .nil))|12=>(oS 0 15 (.op 15 [] .nil))|19=>(oS 0 9 (oS 10 9 (.op 9 [13,15] (.op 19 [] (.op 20 [] .nil)))))|22=>(oS 0 9 (oS 10 4 (.op 9 [13] (.op 14 [] (.op 15 [] (.op 16 [] .nil))))))|_=>.nil) Tryz.func37 x
def cQ(s1:OA)(K:KT)(h1:ad):=
 ae s1 λp1=>
 ∃q1,cellOf h1 (p1.add 3)=some (vP q1)/\
 C.bo q1 h1 λr1 h2=>
 ∃aI aF aT,r1 = vS aI aF aT/\
 ae s1 λp2=>
 ∃q2,cellOf h2 (p2.add 2)=some (vP q2)/\
 C.fR q2 h2 λr2 h3=>
 ∃dP dB ff,r2 = vS dP dB ff/\
 C.fT dP dB ff aI aF aT h3 λr3 h4=>
 ∃b1,r3 = .bool b1/\
 bif(!b1)then(
 K (.bool false) h4)else(
 ∃(I1:Int->ad->Prop) (M1:Int->ad->Nat),I1 0 h4/\
 ∀(n1:Int),∀h5:ad,I1 n1 h5->
 bif(decide (n1<(aF:Int)))then(
 (0<=n1/\n1<(aF:Int))/\
 ae aI λp3=>
 ∃n2,cellOf h5 (p3.add (Int.toNat n1))=some (vI n2)/\
 ae s1 λp4=>
 ∃q3,cellOf h5 (p4.add 2)=some (vP q3)/\
 C.cF q3 n2 h5 λr4 h6=>
 ∃kD j9 lD n3,r4 = .tuple #[vS kD j9 lD,vI n3]/\
 ae s1 λp5=>
 ∃q4,cellOf h6 (p5.add 3)=some (vP q4)/\
 C.aD q4 n2 h6 λr5 h7=>
 ∃uo uq vn n4,r5 = .tuple #[vS uo uq vn,vI n4]/\
 bif(n3 != n4)then(
 K (.bool false) h7)else(
 ∃HV,aw h7 kD j9 HV/\
 ∃RU,aw h7 uo uq RU/\
 bif(!((mkStr HV).toList==(mkStr RU).toList))then(
 K (.bool false) h7)else(
 I1 (wI (n1+1)) h7/\M1 (wI (n1+1)) h7<M1 n1 h5)))else(
 K (.bool true) h5))
theorem cQ.ok{s1 K h}(x:cQ s1 K h):C.cQ s1 h K:=fk (fun|5=>([0,23,24],[(25,.int .i64)])|_=>([],[])) o0 Tryz.func38 x
def oA(d1 ju:OA)(hQ kC:Nat)(K:KT)(h1:ad):=
 bif((hQ:Int)==0)then(
 K (vI 0) h1)else(
 C.dD d1 h1 λr1 h2=>
 ∃n1,r1 = vI n1/\
 C.uG ju hQ kC n1 h2 λr2 h3=>
 ∃b1,r2 = .bool b1/\
 bif(!b1)then(
 K (vI 40) h3)else(
 ∃(I1:OA->Nat->Nat->OA->Nat->Nat->Int->ad->Prop) (M1:OA->Nat->Nat->OA->Nat->Nat->Int->ad->Nat),I1 none 0 0 none 0 0 0 h3/\
 ∀(lu:OA) (iP:Nat) (mG:Nat) (jg:OA) (im:Nat) (jW:Nat) (n2:Int),∀h4:ad,I1 lu iP mG jg im jW n2 h4->
 bif(decide (n2<(hQ:Int)))then(
 (0<=n2/\n2<(hQ:Int))/\
 ae ju λp1=>
 ∃aW,List.length aW=2/\aj h4 (p1.add ((Int.toNat n2)*2)) aW/\
 aM JI 103 aW 2 h4 λh6=>
 ∃n3,cellOf h6 (aS h4 0)=some (vI n3)/\
 az [vI n3] 3 h6 λh7=>
 ∃aG,List.length aG=1*1/\ak h7 (some (bA h6)) aG/\(∀v∈aG,v.oneCell'=true)/\
 aH QH 3 lu iP mG 1 aG h7 λaI aF aT h8=>
 ∃dP dB ff,cellOf h8 (aS h4 1)=some (vS dP dB ff)/\
 az [vS dP dB ff] 37 h8 λh9=>
 ∃pA,List.length pA=1*1/\ak h9 (some (bA h8)) pA/\(∀v∈pA,v.oneCell'=true)/\
 aH B8 37 jg im jW 1 pA h9 λkD j9 lD cB=>
 I1 aI aF aT kD j9 lD (wI (n2+1)) cB/\M1 aI aF aT kD j9 lD (wI (n2+1)) cB<M1 lu iP mG jg im jW n2 h4)else(
 C.qc lu iP mG jg im jW h4 λr3 bQ=>
 ∃uo uq vn n4,r3 = .tuple #[vS uo uq vn,vI n4]/\
 bif(n4 != 0)then(
 K (vI n4) bQ)else(
 C.gM d1 bQ λr4 cG=>
 ∃b2,r4 = .bool b2/\
 bif b2 then(
 K (vI 30) cG)else(
 az ade 169 cG λcg=>
 ∃(I2:Int->ad->Prop) (M2:Int->ad->Nat),I2 0 cg/\
 ∀(n5:Int),∀cM:ad,I2 n5 cM->
 bif(decide (n5<(hQ:Int)))then(
 (0<=n5/\n5<(hQ:Int))/\
 ae ju λp2=>
 ∃cH,List.length cH=2/\aj cM (p2.add ((Int.toNat n5)*2)) cH/\
 aM JI 103 cH 2 cM λiY=>
 ∃AB Ab B',cellOf iY (aS cM 1)=some (vS AB Ab B')/\
 C.eX (some (bA cG)) (wI (2+n5)) AB Ab B' iY λr5 fw=>
 r5 = .tuple #[]/\
 I2 (wI (n5+1)) fw/\M2 (wI (n5+1)) fw<M2 n5 cM)else(
 C.eY (some (bA cG)) cM λr6 ma=>
 r6 = .tuple #[]/\
 C.eX (some (bA cG)) 1 uo uq vn ma λr7 gm=>
 r7 = .tuple #[]/\
 C.eY (some (bA cG)) gm λr8 iK=>
 r8 = .tuple #[]/\
 C.jJ (some (bA cG)) ju hQ kC iK λr9 nR=>
 r9 = .tuple #[]/\
 ∃Ca BA Dq,cellOf nR (bA cG)=some (vS Ca BA Dq)/\
 C.j6 Ca BA Dq d1 nR λIU nD=>
 ∃n6,IU = vI n6/\
 K (vI n6) nD))))))
theorem oA.ok{d1 ju hQ kC K h}(x:oA d1 ju hQ kC K h):C.oA d1 ju hQ kC h K:=fk (fun|8=>([0,1,22,23],[(5,.slice),(6,.slice),(24,.int .i64)])|20=>([0,1,9,11,50,51],[(52,.int .i64)])|_=>([],[])) o0 Tryz.func40 x
def gN(d1:OA)(i1:Int)(K:KT)(h1:ad):=
 ae d1 λp1=>
 ∃b1,cellOf h1 (p1.add 4)=some (.bool b1)/\
 bif b1 then(
 K (.tuple #[vS none 0 0,vI 30]) h1)else(
 C.iD d1 i1 h1 λr1 h2=>
 ∃b2,r1 = .bool b2/\
 bif(!b2)then(
 K (.tuple #[vS none 0 0,vI 31]) h2)else(
 ae d1 λp2=>
 ∃aI aF aT,cellOf h2 (p2.add 0)=some (vS aI aF aT)/\
 (0<=i1/\i1<(aF:Int))/\
 ae aI λp3=>
 ∃aW,List.length aW=512/\aj h2 (p3.add ((Int.toNat i1)*512)) aW/\
 aM Ve 125 aW 512 h2 λh4=>
 ae d1 λp4=>
 ∃dP dB ff,cellOf h4 (p4.add 1)=some (vS dP dB ff)/\
 ∃(I1:Int->ad->Prop) (M1:Int->ad->Nat),I1 0 h4/\
 ∀(n1:Int),∀h5:ad,I1 n1 h5->
 bif(decide (n1<(dB:Int)))then(
 (0<=n1/\n1<(dB:Int))/\
 ae dP λp5=>
 ∃cH,List.length cH=513/\aj h5 (p5.add ((Int.toNat n1)*513)) cH/\
 aM Vf 174 cH 513 h5 λh7=>
 ∃n2,cellOf h7 (aS h5 0)=some (vI n2)/\
 bif(n2==i1)then(
 ∃fV,List.length fV=512/\aj h7 (aS h5 1) fV/\
 ax (bA h2) fV 512 h7 λh8=>
 I1 (wI (n1+1)) h8/\M1 (wI (n1+1)) h8<M1 n1 h5)else(
 I1 (wI (n1+1)) h7/\M1 (wI (n1+1)) h7<M1 n1 h5))else(
 K (.tuple #[vS (some (bA h2)) 512 512,vI 0]) h5)))
theorem gN.ok{d1 i1 K h}(x:gN d1 i1 K h):C.gN d1 i1 h K:=fk (fun|7=>([1,6,29,30],[(31,.int .i64)])|_=>([],[])) o0 Tryz.func41 x
def cW(d1:OA)(i1:Int)(aR:OA)(aX bf:Nat)(K:KT)(h1:ad):=
 ae d1 λp1=>
 ∃b1,cellOf h1 (p1.add 4)=some (.bool b1)/\
 bif b1 then(
 K (vI 30) h1)else(
 C.dz aR aX bf h1 λr1 h2=>
 ∃aI aF aT,r1 = vS aI aF aT/\
 aM Pe 122 [vI 1,vI i1,vS aI aF aT] 3 h2 λh4=>
 ∃aW,List.length aW=3/\aj h4 (bA h2) aW/\
 C.bp d1 h4 λr2 h5=>
 ∃n1,r2 = vI n1/\
 (List.length (aW:LV)=3/\aj h5 (bA h2) aW)/\
 C.iQ n1 aW h5 λr3 h6=>
 ∃n2,r3 = vI n2/\
 bif(n2 != 0)then(
 K (vI n2) h6)else(
 ae d1 λp2=>
 ∃n3,cellOf h6 (p2.add 5)=some (vI n3)/\
 ae d1 λp3=>
 aO (p3.add 5) (vI (wI (n3+1))) h6 λh7=>
 ae d1 λp4=>
 ∃dP dB ff,cellOf h7 (p4.add 1)=some (vS dP dB ff)/\
 ∃cH,List.length cH=3/\aj h7 (bA h2) cH/\
 List.length (cH:LV)=3/\
 az cH 122 h7 λh8=>
 (cellOf h8 (p4.add 1)=some (vS dP dB ff))/\
 ∃aG,List.length aG=1*3/\ak h8 (some (bA h7)) aG/\(∀v∈aG,v.oneCell'=true)/\
 aH vb 122 dP dB ff 1 aG h8 λkD j9 lD h9=>
 ae d1 λp5=>
 aO (p5.add 1) (vS kD j9 lD) h9 λcB=>
 C.eA d1 cB λr4 bQ=>
 ∃b2,r4 = .bool b2/\
 bif b2 then(
 K (vI 30) bQ)else(
 K (vI 0) bQ)))
theorem cW.ok{d1 i1 aR aX bf K h}(x:cW d1 i1 aR aX bf K h):C.cW d1 i1 aR aX bf h K:=fk l0 (fun|4=>(.op 0 [] (.op 2 [] (.op 1 [2] (.op 3 [] (.op 4 [] .nil)))))|8=>(oS 0 6 (.op 6 [4] (.op 7 [] (.op 8 [] (.op 9 [] (.op 10 [] .nil))))))|_=>.nil) Tryz.func49 x
def fY(d1:OA)(i1:Int)(aR:OA)(aX bf:Nat)(K:KT)(h1:ad):=
 ae d1 λp1=>
 ∃b1,cellOf h1 (p1.add 4)=some (.bool b1)/\
 bif b1 then(
 K (vI 30) h1)else(
 C.iD d1 i1 h1 λr1 h2=>
 ∃b2,r1 = .bool b2/\
 bif(!b2)then(
 K (vI 31) h2)else(
 bif((aX:Int) != 512)then(
 K (vI 32) h2)else(
 ae d1 λp2=>
 ∃aI aF aT,cellOf h2 (p2.add 1)=some (vS aI aF aT)/\
 512<=aX/\
 ae aR λp3=>
 ∃aW,List.length aW=512/\aj h2 p3 aW/\
 List.length (aW:LV)=512/\
 List.length (([vI i1]++aW):LV)=513/\
 az ([vI i1]++aW) 174 h2 λh3=>
 (cellOf h3 (p2.add 1)=some (vS aI aF aT))/\
 ∃aG,List.length aG=1*513/\ak h3 (some (bA h2)) aG/\(∀v∈aG,v.oneCell'=true)/\
 aH RQ 174 aI aF aT 1 aG h3 λdP dB ff h4=>
 ae d1 λp4=>
 aO (p4.add 1) (vS dP dB ff) h4 λh5=>
 ae d1 λp5=>
 ∃kD j9 lD,cellOf h5 (p5.add 7)=some (vS kD j9 lD)/\
 C.bD aR aX bf h5 λr2 h6=>
 ∃uo uq vn,r2 = vS uo uq vn/\
 (cellOf h6 (p5.add 7)=some (vS kD j9 lD))/\
 List.length ([vI 1,vI i1,vS uo uq vn]:LV)=3/\
 az [vI 1,vI i1,vS uo uq vn] 122 h6 λh7=>
 (cellOf h7 (p5.add 7)=some (vS kD j9 lD))/\
 ∃pA,List.length pA=1*3/\ak h7 (some (bA h6)) pA/\(∀v∈pA,v.oneCell'=true)/\
 aH vb 122 kD j9 lD 1 pA h7 λAB Ab B' h8=>
 ae d1 λp6=>
 aO (p6.add 7) (vS AB Ab B') h8 λh9=>
 ae d1 λp7=>
 ∃n1,cellOf h9 (p7.add 5)=some (vI n1)/\
 ae d1 λp8=>
 aO (p8.add 5) (vI (wI (n1+1))) h9 λcB=>
 C.gQ d1 (Value.nilFunc) cB λr3 bQ=>
 ∃n2,r3 = vI n2/\
 K (vI n2) bQ)))
theorem fY.ok{d1 i1 aR aX bf K h}(x:fY d1 i1 aR aX bf K h):C.fY d1 i1 aR aX bf h K:=fk l0 (fun|7=>(oS 0 10 (.op 10 [4] (.op 11 [] (.op 12 [] (.op 13 [] (.op 14 [] .nil))))))|8=>(oS 0 7 (.op 7 [4] (.op 8 [] (.op 9 [4] (.op 10 [] (.op 11 [] (.op 12 [] (.op 13 [] .nil))))))))|_=>.nil) Tryz.func50 x
def cX(d1:OA)(K:KT)(h1:ad):=
 ae d1 λp1=>
 ∃b1,cellOf h1 (p1.add 4)=some (.bool b1)/\
 bif b1 then(
 K (vI 30) h1)else(
 ae d1 λp2=>
 ∃n1,cellOf h1 (p2.add 6)=some (vI n1)/\
 ae d1 λp3=>
 aO (p3.add 6) (vI (wI (n1+1))) h1 λh2=>
 C.eA d1 h2 λr1 h3=>
 ∃b2,r1 = .bool b2/\
 bif b2 then(
 K (vI 30) h3)else(
 ae d1 λp4=>
 ∃aI aF aT,cellOf h3 (p4.add 1)=some (vS aI aF aT)/\
 List.length ([vI 2,vI 0,vS none 0 0]:LV)=3/\
 az [vI 2,vI 0,vS none 0 0] 122 h3 λh4=>
 ∃aG,List.length aG=1*3/\ak h4 (some (bA h3)) aG/\(∀v∈aG,v.oneCell'=true)/\
 aH vb 122 aI aF aT 1 aG h4 λdP dB ff h5=>
 ae d1 λp5=>
 aO (p5.add 1) (vS dP dB ff) h5 λh6=>
 K (vI 0) h6))
theorem cX.ok{d1 K h}(x:cX d1 K h):C.cX d1 h K:=fz Tryz.func51 x
def fZ(d1:OA)(K:KT)(h1:ad):=
 az [vP d1] 25 h1 λh2=>
 ∃q1,cellOf h2 (bA h1)=some (vP q1)/\
 ae q1 λp1=>
 ∃b1,cellOf h2 (p1.add 4)=some (.bool b1)/\
 bif b1 then(
 K (vI 30) h2)else(
 ∃q2,cellOf h2 (bA h1)=some (vP q2)/\
 ae q2 λp2=>
 ∃n1,cellOf h2 (p2.add 6)=some (vI n1)/\
 ae q2 λp3=>
 aO (p3.add 6) (vI (wI (n1+1))) h2 λh3=>
 ∃q3,cellOf h3 (bA h1)=some (vP q3)/\
 C.gQ q3 (Value.func (.func 131) #[] ⟨[vP (some ⟨h1.size,0,none⟩)]⟩) h3 λr1 h4=>
 ∃n2,r1 = vI n2/\
 K (vI n2) h4)
theorem fZ.ok{d1 K h}(x:fZ d1 K h):C.fZ d1 h K:=fz Tryz.func52 x
def cY(d1 eC:OA)(dH fM:Nat)(K:KT)(h1:ad):=
 ae d1 λp1=>
 ∃b1,cellOf h1 (p1.add 4)=some (.bool b1)/\
 bif b1 then(
 K (.tuple #[]) h1)else(
 ae d1 λp2=>
 aO (p2.add 4) (.bool true) h1 λh2=>
 C.iR eC dH fM h2 λr1 h3=>
 ∃aI aF aT,r1 = vS aI aF aT/\
 ae d1 λp3=>
 aO (p3.add 2) (vS aI aF aT) h3 λh4=>
 K (.tuple #[]) h4)
theorem cY.ok{d1 eC dH fM K h}(x:cY d1 eC dH fM K h):C.cY d1 eC dH fM h K:=fz Tryz.func55 x
def fj(d1 eC:OA)(dH fM:Nat)(K:KT)(h1:ad):=
 ae d1 λp1=>
 ∃b1,cellOf h1 (p1.add 4)=some (.bool b1)/\
 bif(!b1)then(
 C.iE d1 eC dH fM h1 λr1 h2=>
 r1 = .tuple #[]/\
 K (.tuple #[]) h2)else(
 K (.tuple #[]) h1)
theorem fj.ok{d1 eC dH fM K h}(x:fj d1 eC dH fM K h):C.fj d1 eC dH fM h K:=fz Tryz.func56 x
def bD(aI:OA)(aF aT:Nat)(K:KT)(h1:ad):=
 bif(Option.isNone aI)then(
 K (vS none 0 0) h1)else(
 az [] 5 h1 λh2=>
 ∃aG,List.length aG=aF*1/\ak h2 aI aG/\(∀v∈aG,v.oneCell'=true)/\
 aH tf 5 (some ⟨h1.size,0,none⟩) 0 0 aF aG h2 λdP dB ff h3=>
 K (vS dP dB ff) h3)
theorem bD.ok{aI aF aT K h}(x:bD aI aF aT K h):C.bD aI aF aT h K:=fz Tryz.func58 x
def dz(aR:OA)(aX bf:Nat)(K:KT)(h1:ad):=
 ∃aG,List.length aG=aX*1/\ak h1 aR aG/\(∀v∈aG,v.oneCell'=true)/\
 aH tf 5 none 0 0 aX aG h1 λaI aF aT h2=>
 K (vS aI aF aT) h2
theorem dz.ok{aR aX bf K h}(x:dz aR aX bf K h):C.dz aR aX bf h K:=fz Tryz.func59 x
def fN.k1(aI:OA)(aF:Nat)(h3:ad)(k1:Int)(h7:ad)(I2:Int->ad->Prop)(M2:Int->ad->Nat)(K:KT):=
 ∃n2,cellOf h7 (aS h3 1)=some (vI n2)/\
 ∃dP dB ff,cellOf h7 (aS h3 2)=some (vS dP dB ff)/\
 (0<=k1/\k1<(dB:Int))/\
 ae dP λp2=>
 ∃n3,cellOf h7 (p2.add (Int.toNat k1))=some (.int .u8 n3)/\
 (0<=(wI ((wI (n2*512))+k1))/\(wI ((wI (n2*512))+k1))<(aF:Int))/\
 ae aI λp3=>
 aO (p3.add (Int.toNat (wI ((wI (n2*512))+k1)))) (.int .u8 n3) h7 λh8=>
 I2 (wI (k1+1)) h8/\M2 (wI (k1+1)) h8<M2 k1 h7
def fN(fC:OA)(dR fD:Nat)(oB:OA)(mD qX:Nat)(eC:OA)(dH fM:Nat)(K:KT)(h1:ad):=
 C.dz fC dR fD h1 λr1 h2=>
 ∃aI aF aT,r1 = vS aI aF aT/\
 ∃(I1:Int->ad->Prop) (M1:Int->ad->Nat),I1 0 h2/\
 ∀(i1:Int),∀h3:ad,I1 i1 h3->
 bif(decide (i1<(mD:Int)))then(
 (0<=i1/\i1<(mD:Int))/\
 ae oB λp1=>
 ∃aW,List.length aW=3/\aj h3 (p1.add ((Int.toNat i1)*3)) aW/\
 aM Pe 122 aW 3 h3 λh5=>
 ∃n1,cellOf h5 (aS h3 0)=some (vI n1)/\
 bif(n1 != 1)then(
 I1 (wI (i1+1)) h5/\M1 (wI (i1+1)) h5<M1 i1 h3)else(
 C.dy oB mD qX i1 eC dH fM h5 λr2 h6=>
 ∃b1,r2 = .bool b1/\
 ∃(I2:Int->ad->Prop) (M2:Int->ad->Nat),I2 0 h6/\
 ∀(k1:Int),∀h7:ad,I2 k1 h7->
 bif(decide (k1<512))then(
 bif b1 then(
 fN.k1 aI aF h3 k1 h7 I2 M2 K)else(
 I1 (wI (i1+1)) h7/\M1 (wI (i1+1)) h7<M1 i1 h3))else(
 I1 (wI (i1+1)) h7/\M1 (wI (i1+1)) h7<M1 i1 h3)))else(
 K (vS aI aF aT) h3)
theorem fN.ok{fC dR fD oB mD qX eC dH fM K h}(x:fN fC dR fD oB mD qX eC dH fM K h):C.fN fC dR fD oB mD qX eC dH fM h K:=fk (fun|3=>([1,2,7],[(8,.int .i64)])|9=>([1,2,7,8,9,10],[(11,.int .i64)])|_=>([],[])) (fun|11=>(oS 0 12 (.op 12 [] .nil))|_=>.nil) Tryz.func60 x
def pZ(d1:OA)(K:KT)(h1:ad):=
 NewM h1 λh2=>
 az [vP d1,.map (some h1.size),vS none 0 0,.bool false] 135 h2 λh3=>
 K (vP (some (bA h2))) h3
theorem pZ.ok{d1 K h}(x:pZ d1 K h):C.pZ d1 h K:=fz Tryz.func61 x
def gO(d1:OA)(K:KT)(h1:ad):=
 az [vP d1,vS none 0 0,.bool false] 71 h1 λh2=>
 K (vP (some (bA h1))) h2
theorem gO.ok{d1 K h}(x:gO d1 K h):C.gO d1 h K:=fz Tryz.func62 x
def iC(t1:OA)(K:KT)(h1:ad):=
 ae t1 λp1=>
 ∃b1,cellOf h1 (p1.add 3)=some (.bool b1)/\
 bif b1 then(
 K (.tuple #[vI 0,vI 61]) h1)else(
 ae t1 λp2=>
 ∃aI aF aT,cellOf h1 (p2.add 2)=some (vS aI aF aT)/\
 K (.tuple #[vI (aF:Int),vI 0]) h1)
theorem iC.ok{t1 K h}(x:iC t1 K h):C.iC t1 h K:=fz Tryz.func64 x
def ca(t1:OA)(K:KT)(h1:ad):=
 ae t1 λp1=>
 ∃b1,cellOf h1 (p1.add 2)=some (.bool b1)/\
 bif b1 then(
 K (.tuple #[vI 0,vI 61]) h1)else(
 ae t1 λp2=>
 ∃aI aF aT,cellOf h1 (p2.add 1)=some (vS aI aF aT)/\
 K (.tuple #[vI (aF:Int),vI 0]) h1)
theorem ca.ok{t1 K h}(x:ca t1 K h):C.ca t1 h K:=fz Tryz.func65 x
def ft.k1(t1:OA)(iL:Int)(h1:ad)(K:KT):=
 ae t1 λp3=>
 ∃dP dB ff,cellOf h1 (p3.add 2)=some (vS dP dB ff)/\
 ∃(I1:Int->ad->Prop) (M1:Int->ad->Nat),I1 (wI ((dB:Int)-1)) h1/\
 ∀(k1:Int),∀h2:ad,I1 k1 h2->
 bif(decide (k1>=iL))then(
 ae t1 λp4=>
 ∃kD j9 lD,cellOf h2 (p4.add 2)=some (vS kD j9 lD)/\
 (0<=k1/\k1<(j9:Int))/\
 ae kD λp5=>
 ∃v1,cellOf h2 (p5.add (Int.toNat k1))=some (v1)/\
 cT Tryz.prog v1 [] h2 λr1 h3=>
 r1 = .tuple #[]/\
 I1 (wI (k1-1)) h3/\M1 (wI (k1-1)) h3<M1 k1 h2)else(
 ae t1 λp6=>
 ∃uo uq vn,cellOf h2 (p6.add 2)=some (vS uo uq vn)/\
 (0<=iL/\iL<=(vn:Int))/\
 ae t1 λp7=>
 aO (p7.add 2) (vS uo (Int.toNat iL) vn) h2 λh4=>
 K (vI 0) h4)
def ft(t1:OA)(iL:Int)(K:KT)(h1:ad):=
 ae t1 λp1=>
 ∃b1,cellOf h1 (p1.add 3)=some (.bool b1)/\
 bif b1 then(
 K (vI 61) h1)else(
 bif(decide (iL<0))then(
 K (vI 62) h1)else(
 ae t1 λp2=>
 ∃aI aF aT,cellOf h1 (p2.add 2)=some (vS aI aF aT)/\
 bif(decide (iL>(aF:Int)))then(
 K (vI 62) h1)else(
 ft.k1 t1 iL h1 K)))
theorem ft.ok{t1 iL K h}(x:ft t1 iL K h):C.ft t1 iL h K:=fk (fun|6=>([0,1],[(5,.int .i64)])|_=>([],[])) o0 Tryz.func66 x
def bu.k1(t1:OA)(iL:Int)(h1:ad)(K:KT):=
 ae t1 λp3=>
 ∃dP dB ff,cellOf h1 (p3.add 1)=some (vS dP dB ff)/\
 (0<=iL/\iL<=(ff:Int))/\
 ∃aG,List.length aG=(Int.toNat iL)*2/\ak h1 dP aG/\(∀v∈aG,v.oneCell'=true)/\
 aH Gc 190 none 0 0 (Int.toNat iL) aG h1 λkD j9 lD h2=>
 ae t1 λp4=>
 aO (p4.add 1) (vS kD j9 lD) h2 λh3=>
 K (vI 0) h3
def bu(t1:OA)(iL:Int)(K:KT)(h1:ad):=
 ae t1 λp1=>
 ∃b1,cellOf h1 (p1.add 2)=some (.bool b1)/\
 bif b1 then(
 K (vI 61) h1)else(
 bif(decide (iL<0))then(
 K (vI 62) h1)else(
 ae t1 λp2=>
 ∃aI aF aT,cellOf h1 (p2.add 1)=some (vS aI aF aT)/\
 bif(decide (iL>(aF:Int)))then(
 K (vI 62) h1)else(
 bu.k1 t1 iL h1 K)))
theorem bu.ok{t1 iL K h}(x:bu t1 iL K h):C.bu t1 iL h K:=fz Tryz.func67 x
def gH(t1:OA)(K:KT)(h1:ad):=
 ae t1 λp1=>
 ∃b1,cellOf h1 (p1.add 3)=some (.bool b1)/\
 bif b1 then(
 K (vI 61) h1)else(
 ae t1 λp2=>
 ∃m1,cellOf h1 (p2.add 1)=some (.map m1)/\
 tB (.int .i64) m1 h1 λYq=>
 bif((List.length Yq:Int)==0)then(
 D.aZ t1 h1 λh2=>
 K (vI 0) h2)else(
 C.fR t1 h1 λr1 h3=>
 ∃aI aF aT,r1 = vS aI aF aT/\
 ∃(I1:OA->Nat->Nat->Int->ad->Prop) (M1:OA->Nat->Nat->Int->ad->Nat),I1 none 0 0 0 h3/\
 ∀(ju:OA) (hQ:Nat) (kC:Nat) (n1:Int),∀h4:ad,I1 ju hQ kC n1 h4->
 bif(decide (n1<(aF:Int)))then(
 (0<=n1/\n1<(aF:Int))/\
 ae aI λp3=>
 ∃n2,cellOf h4 (p3.add (Int.toNat n1))=some (vI n2)/\
 ae t1 λp4=>
 ∃m2,cellOf h4 (p4.add 1)=some (.map m2)/\
 tB (.int .i64) m2 h4 λmm2=>
 ∃(dP:OA) (dB:Nat) (ff:Nat),Option.getD (mX mm2 (.i n2)) (zeroV B8) = vS dP dB ff/\
 List.length ([vI n2,vS dP dB ff]:LV)=2/\
 az [vI n2,vS dP dB ff] 103 h4 λh5=>
 ∃aG,List.length aG=1*2/\ak h5 (some (bA h4)) aG/\(∀v∈aG,v.oneCell'=true)/\
 aH NW 103 ju hQ kC 1 aG h5 λkD j9 lD h6=>
 I1 kD j9 lD (wI (n1+1)) h6/\M1 kD j9 lD (wI (n1+1)) h6<M1 ju hQ kC n1 h4)else(
 ae t1 λp5=>
 ∃q1,cellOf h4 (p5.add 0)=some (vP q1)/\
 C.oA q1 ju hQ kC h4 λr2 h7=>
 ∃n3,r2 = vI n3/\
 D.aZ t1 h7 λh8=>
 K (vI n3) h8)))
theorem gH.ok{t1 K h}(x:gH t1 K h):C.gH t1 h K:=fk (fun|8=>([0,18,19],[(3,.slice),(20,.int .i64)])|_=>([],[])) o0 Tryz.func68 x
def dL(t1:OA)(K:KT)(h1:ad):=
 ae t1 λp1=>
 ∃b1,cellOf h1 (p1.add 2)=some (.bool b1)/\
 bif b1 then(
 K (vI 61) h1)else(
 C.bo t1 h1 λr1 h2=>
 ∃aI aF aT,r1 = vS aI aF aT/\
 ∃(I1:OA->Nat->Nat->Int->ad->Prop) (M1:OA->Nat->Nat->Int->ad->Nat),I1 none 0 0 0 h2/\
 ∀(ju:OA) (hQ:Nat) (kC:Nat) (n1:Int),∀h3:ad,I1 ju hQ kC n1 h3->
 bif(decide (n1<(aF:Int)))then(
 (0<=n1/\n1<(aF:Int))/\
 ae aI λp2=>
 ∃n2,cellOf h3 (p2.add (Int.toNat n1))=some (vI n2)/\
 ae t1 λp3=>
 ∃dP dB ff,cellOf h3 (p3.add 1)=some (vS dP dB ff)/\
 C.dE t1 n2 h3 λr2 h4=>
 ∃n3,r2 = vI n3/\
 (cellOf h4 (p3.add 1)=some (vS dP dB ff))/\
 (0<=n3/\n3<(dB:Int))/\
 ae dP λp4=>
 ∃s1,cellOf h4 (Addr.add (p4.add ((Int.toNat n3)*2)) 1)=some (.string s1)/\
 Va s1 5 h4 λbj h5=>
 List.length ([vI n2,vS (some (bA h4)) s1.size bj]:LV)=2/\
 az [vI n2,vS (some (bA h4)) s1.size bj] 103 h5 λh6=>
 ∃aG,List.length aG=1*2/\ak h6 (some (bA h5)) aG/\(∀v∈aG,v.oneCell'=true)/\
 aH NW 103 ju hQ kC 1 aG h6 λkD j9 lD h7=>
 I1 kD j9 lD (wI (n1+1)) h7/\M1 kD j9 lD (wI (n1+1)) h7<M1 ju hQ kC n1 h3)else(
 ae t1 λp5=>
 aO (p5.add 2) (.bool true) h3 λh8=>
 ae t1 λp6=>
 ∃q1,cellOf h8 (p6.add 0)=some (vP q1)/\
 C.iq q1 ju hQ kC h8 λr3 h9=>
 ∃n4,r3 = vI n4/\
 K (vI n4) h9))
theorem dL.ok{t1 K h}(x:dL t1 K h):C.dL t1 h K:=fk (fun|5=>([0,11,12],[(3,.slice),(13,.int .i64)])|_=>([],[])) (fun|7=>(oS 0 8 (.op 8 [5] (oS 9 7 (.op 16 [] .nil))))|_=>.nil) Tryz.func69 x
def gy(t1:OA)(K:KT)(h1:ad):=
 C.aZ t1 h1 λr1 h2=>
 r1 = .tuple #[]/\
 K (.tuple #[]) h2
theorem gy.ok{t1 K h}(x:gy t1 K h):C.gy t1 h K:=fz Tryz.func70 x
def dx(t1:OA)(K:KT)(h1:ad):=
 ae t1 λp1=>
 aO (p1.add 2) (.bool true) h1 λh2=>
 K (.tuple #[]) h2
theorem dx.ok{t1 K h}(x:dx t1 K h):C.dx t1 h K:=fz Tryz.func71 x
def cF.k1(t1:OA)(i1:Int)(h3:ad)(K:KT):=
 ae t1 λp3=>
 ∃m1,cellOf h3 (p3.add 1)=some (.map m1)/\
 tB (.int .i64) m1 h3 λYq=>
 ∃(aI:OA) (aF:Nat) (aT:Nat),Option.getD (mX Yq (.i i1)) (zeroV B8) = vS aI aF aT/\
 bif(Option.isSome (mX Yq (.i i1)))then(
 C.bD aI aF aT h3 λr2 h4=>
 ∃dP dB ff,r2 = vS dP dB ff/\
 K (.tuple #[vS dP dB ff,vI 0]) h4)else(
 ae t1 λp4=>
 ∃q2,cellOf h3 (p4.add 0)=some (vP q2)/\
 C.gN q2 i1 h3 λr3 h5=>
 ∃kD j9 lD n2,r3 = .tuple #[vS kD j9 lD,vI n2]/\
 K (.tuple #[vS kD j9 lD,vI n2]) h5)
def cF(t1:OA)(i1:Int)(K:KT)(h1:ad):=
 ae t1 λp1=>
 ∃b1,cellOf h1 (p1.add 3)=some (.bool b1)/\
 bif b1 then(
 K (.tuple #[vS none 0 0,vI 61]) h1)else(
 bif(decide (i1<0))then(
 K (.tuple #[vS none 0 0,vI 31]) h1)else(
 ae t1 λp2=>
 ∃q1,cellOf h1 (p2.add 0)=some (vP q1)/\
 C.dD q1 h1 λr1 h2=>
 ∃n1,r1 = vI n1/\
 bif(decide (i1>=n1))then(
 K (.tuple #[vS none 0 0,vI 31]) h2)else(
 cF.k1 t1 i1 h2 K)))
theorem cF.ok{t1 i1 K h}(x:cF t1 i1 K h):C.cF t1 i1 h K:=fz Tryz.func73 x
def aD.k1(t1:OA)(i1:Int)(h3:ad)(K:KT):=
 C.dE t1 i1 h3 λr2 h4=>
 ∃n2,r2 = vI n2/\
 bif(decide (n2>=0))then(
 ae t1 λp3=>
 ∃aI aF aT,cellOf h4 (p3.add 1)=some (vS aI aF aT)/\
 (0<=n2/\n2<(aF:Int))/\
 ae aI λp4=>
 ∃s1,cellOf h4 (Addr.add (p4.add ((Int.toNat n2)*2)) 1)=some (.string s1)/\
 Va s1 5 h4 λbj h5=>
 K (.tuple #[vS (some (bA h4)) s1.size bj,vI 0]) h5)else(
 ae t1 λp5=>
 ∃q2,cellOf h4 (p5.add 0)=some (vP q2)/\
 C.bR q2 i1 h4 λr3 h6=>
 ∃dP dB ff n3,r3 = .tuple #[vS dP dB ff,vI n3]/\
 K (.tuple #[vS dP dB ff,vI n3]) h6)
def aD(t1:OA)(i1:Int)(K:KT)(h1:ad):=
 ae t1 λp1=>
 ∃b1,cellOf h1 (p1.add 2)=some (.bool b1)/\
 bif b1 then(
 K (.tuple #[vS none 0 0,vI 61]) h1)else(
 bif(decide (i1<0))then(
 K (.tuple #[vS none 0 0,vI 31]) h1)else(
 ae t1 λp2=>
 ∃q1,cellOf h1 (p2.add 0)=some (vP q1)/\
 C.bp q1 h1 λr1 h2=>
 ∃n1,r1 = vI n1/\
 bif(decide (i1>=n1))then(
 K (.tuple #[vS none 0 0,vI 31]) h2)else(
 aD.k1 t1 i1 h2 K)))
theorem aD.ok{t1 i1 K h}(x:aD t1 i1 K h):C.aD t1 i1 h K:=fz Tryz.func74 x
def fR(t1:OA)(K:KT)(h1:ad):=
 ae t1 λp1=>
 ∃b1,cellOf h1 (p1.add 3)=some (.bool b1)/\
 bif b1 then(
 K (vS none 0 0) h1)else(
 ae t1 λp2=>
 ∃m1,cellOf h1 (p2.add 1)=some (.map m1)/\
 C.cC m1 h1 λr1 h2=>
 ∃v1,r1=v1/\
 C.sN v1 h2 λr2 h3=>
 ∃aI aF aT,r2 = vS aI aF aT/\
 K (vS aI aF aT) h3)
theorem fR.ok{t1 K h}(x:fR t1 K h):C.fR t1 h K:=fz Tryz.func76 x
def bo.k1(t1 ju:OA)(hQ kC:Nat)(i1:Int)(h2:ad)(I1:OA->Nat->Nat->Int->ad->Prop)(M1:OA->Nat->Nat->Int->ad->Nat)(h4:ad)(K:KT):=
 C.dE t1 i1 h4 λr2 h5=>
 ∃n2,r2 = vI n2/\
 bif(decide (n2>=0))then(
 az [vI i1] 3 h5 λh6=>
 ∃aG,List.length aG=1*1/\ak h6 (some (bA h5)) aG/\(∀v∈aG,v.oneCell'=true)/\
 aH QH 3 ju hQ kC 1 aG h6 λdP dB ff h7=>
 I1 dP dB ff (wI (i1+1)) h7/\M1 dP dB ff (wI (i1+1)) h7<M1 ju hQ kC i1 h2)else(
 I1 ju hQ kC (wI (i1+1)) h5/\M1 ju hQ kC (wI (i1+1)) h5<M1 ju hQ kC i1 h2)
def bo(t1:OA)(K:KT)(h1:ad):=
 ∃(I1:OA->Nat->Nat->Int->ad->Prop) (M1:OA->Nat->Nat->Int->ad->Nat),I1 none 0 0 98 h1/\
 ∀(ju:OA) (hQ:Nat) (kC:Nat) (i1:Int),∀h2:ad,I1 ju hQ kC i1 h2->
 ae t1 λp1=>
 ∃q1,cellOf h2 (p1.add 0)=some (vP q1)/\
 C.bp q1 h2 λr1 h3=>
 ∃n1,r1 = vI n1/\
 bif(decide (i1<n1))then(
 ae t1 λp2=>
 ∃b1,cellOf h3 (p2.add 2)=some (.bool b1)/\
 bif(!b1)then(
 ae t1 λp3=>
 ∃aI aF aT,cellOf h3 (p3.add 1)=some (vS aI aF aT)/\
 bif(decide ((aF:Int)>0))then(
 bo.k1 t1 ju hQ kC i1 h2 I1 M1 h3 K)else(
 K (vS ju hQ kC) h3))else(
 K (vS ju hQ kC) h3))else(
 K (vS ju hQ kC) h3)
theorem bo.ok{t1 K h}(x:bo t1 K h):C.bo t1 h K:=fk (fun|3=>([0],[(3,.slice),(4,.int .i64)])|_=>([],[])) o0 Tryz.func77 x
def mE(t1:OA)(g1:LV)(K:KT)(h1:ad):=
 az [vP t1] 57 h1 λh2=>
 az g1 80 h2 λh3=>
 az z26 26 h3 λh4=>
 az z3 3 h4 λh5=>
 aO ⟨h4.size,0,none⟩ (vI 0) h5 λh6=>
 ∃q1,cellOf h6 ⟨h1.size,0,none⟩=some (vP q1)/\
 ∃aW,List.length aW=5/\aj h6 ⟨h2.size,0,none⟩ aW/\
 C.oE q1 aW (Value.func (.func 145) #[] ⟨[vP (some ⟨h2.size,0,none⟩),vP (some ⟨h4.size,0,none⟩)]⟩) h6 λr1 h7=>
 ∃n1,r1 = vI n1/\
 aO ⟨h3.size,0,none⟩ (vI n1) h7 λh8=>
 ∃n2,cellOf h8 ⟨h3.size,0,none⟩=some (vI n2)/\
 bif(n2 != 0)then(
 ∃n3,cellOf h8 ⟨h3.size,0,none⟩=some (vI n3)/\
 aO ⟨h3.size,0,none⟩ (vI n3) h8 λh9=>
 ∃bL,cellOf h9 ⟨h3.size,0,none⟩=some (vI bL)/\
 K (.tuple #[vI 0,vI bL]) h9)else(
 ∃n4,cellOf h8 ⟨h4.size,0,none⟩=some (vI n4)/\
 bif(n4==0)then(
 aO ⟨h3.size,0,none⟩ (vI 90) h8 λcB=>
 ∃dY,cellOf cB ⟨h3.size,0,none⟩=some (vI dY)/\
 K (.tuple #[vI 0,vI dY]) cB)else(
 ∃q2,cellOf h8 ⟨h1.size,0,none⟩=some (vP q2)/\
 C.iC q2 h8 λr2 bQ=>
 ∃n5 n6,r2 = .tuple #[vI n5,vI n6]/\
 az z3 3 bQ λcG=>
 aO ⟨bQ.size,0,none⟩ (vI n5) cG λcg=>
 aO ⟨h3.size,0,none⟩ (vI n6) cg λcM=>
 ∃n7,cellOf cM ⟨h3.size,0,none⟩=some (vI n7)/\
 bif(n7 != 0)then(
 ∃n8,cellOf cM ⟨h3.size,0,none⟩=some (vI n8)/\
 aO ⟨h3.size,0,none⟩ (vI n8) cM λfg=>
 ∃fv,cellOf fg ⟨h3.size,0,none⟩=some (vI fv)/\
 K (.tuple #[vI 0,vI fv]) fg)else(
 ∃q3,cellOf cM ⟨h1.size,0,none⟩=some (vP q3)/\
 ∃cH,List.length cH=5/\aj cM ⟨h2.size,0,none⟩ cH/\
 ∃n9,cellOf cM ⟨h4.size,0,none⟩=some (vI n9)/\
 C.oT q3 cH n9 true cM λr3 iY=>
 ∃n10,r3 = vI n10/\
 aO ⟨h3.size,0,none⟩ (vI n10) iY λfw=>
 ∃n11,cellOf fw ⟨h3.size,0,none⟩=some (vI n11)/\
 bif(n11 != 0)then(
 ∃n12,cellOf fw ⟨h3.size,0,none⟩=some (vI n12)/\
 aO ⟨h3.size,0,none⟩ (vI n12) fw λma=>
 D.bC (some ⟨h1.size,0,none⟩) (some ⟨bQ.size,0,none⟩) (some ⟨h3.size,0,none⟩) ma λgm=>
 ∃kE,cellOf gm ⟨h3.size,0,none⟩=some (vI kE)/\
 K (.tuple #[vI 0,vI kE]) gm)else(
 ∃q4,cellOf fw ⟨h1.size,0,none⟩=some (vP q4)/\
 ∃n13,cellOf fw ⟨h4.size,0,none⟩=some (vI n13)/\
 (0<=(512:Int)/\(512:Int)<=512/\(1:Int)*512<=281474976710656/\(512:Int)<=281474976710656)/\
 az (aN z5 (Int.toNat 512)) 5 fw λiK=>
 (cellOf iK ⟨h1.size,0,none⟩=some (vP q4))/\
 (cellOf iK ⟨h4.size,0,none⟩=some (vI n13))/\
 C.aY q4 n13 (some ⟨fw.size,0,none⟩) (Int.toNat 512) (Int.toNat 512) iK λr4 nR=>
 ∃n14,r4 = vI n14/\
 aO ⟨h3.size,0,none⟩ (vI n14) nR λnD=>
 ∃n15,cellOf nD ⟨h3.size,0,none⟩=some (vI n15)/\
 bif(n15 != 0)then(
 ∃n16,cellOf nD ⟨h3.size,0,none⟩=some (vI n16)/\
 aO ⟨h3.size,0,none⟩ (vI n16) nD λjR=>
 D.bC (some ⟨h1.size,0,none⟩) (some ⟨bQ.size,0,none⟩) (some ⟨h3.size,0,none⟩) jR λmu=>
 ∃lF,cellOf mu ⟨h3.size,0,none⟩=some (vI lF)/\
 K (.tuple #[vI 0,vI lF]) mu)else(
 ∃n17,cellOf nD ⟨h4.size,0,none⟩=some (vI n17)/\
 aO ⟨h3.size,0,none⟩ (vI 0) nD λuH=>
 D.bC (some ⟨h1.size,0,none⟩) (some ⟨bQ.size,0,none⟩) (some ⟨h3.size,0,none⟩) uH λqu=>
 ∃qY,cellOf qu ⟨h3.size,0,none⟩=some (vI qY)/\
 K (.tuple #[vI n17,vI qY]) qu)))))
theorem mE.ok{t1 g1 K h}(x:mE t1 g1 K h):C.mE t1 g1 h K:=fk l0 (fun|4=>(.op 0 [] (.op 1 [] (.op 2 [] .nil)))|9=>(.op 0 [] (.op 1 [] (.op 2 [] .nil)))|13=>(.op 0 [] (.op 1 [] (.op 2 [] .nil)))|14=>(.op 0 [] (.op 1 [] (.op 2 [0,1] (.op 3 [] (.op 4 [] .nil)))))|16=>(.op 0 [] (.op 1 [] (.op 2 [] .nil)))|_=>.nil) Tryz.func82 x
def bE.k2(t1:OA)(i1 n9 e1:Int)(cG:ad)(K:KT):=
 bif(e1 != 0)then(
 C.bu t1 n9 cG λr7 cg=>
 ∃n13,r7 = vI n13/\
 K (.tuple #[vI 0,vI e1]) cg)else(
 K (.tuple #[vI i1,vI 0]) cG)
def bE.k1(t1:OA)(h1:ad)(aR:OA)(aX bf:Nat)(i1:Int)(h4:ad)(I1:OA->Nat->Nat->Int->ad->Prop)(M1:OA->Nat->Nat->Int->ad->Nat)(VV:OA)(VW κ:Nat)(h6:ad)(K:KT):=
 (0<=(wI (Int.tdiv (Int.tmod i1 4096) 8))/\(wI (Int.tdiv (Int.tmod i1 4096) 8))<(VW:Int))/\
 ae VV λp1=>
 ∃n7,cellOf h6 (p1.add (Int.toNat (wI (Int.tdiv (Int.tmod i1 4096) 8))))=some (.int .u8 n7)/\
 bif(n7==255)then(
 I1 VV VW κ (wI (i1+1)) h6/\M1 VV VW κ (wI (i1+1)) h6<M1 aR aX bf i1 h4)else(
 ∃aW,List.length aW=5/\aj h6 (bA h1) aW/\
 C.jv t1 aW i1 h6 λr3 h7=>
 ∃b1 n8,r3 = .tuple #[.bool b1,vI n8]/\
 bif(n8 != 0)then(
 K (.tuple #[vI 0,vI n8]) h7)else(
 bif b1 then(
 I1 VV VW κ (wI (i1+1)) h7/\M1 VV VW κ (wI (i1+1)) h7<M1 aR aX bf i1 h4)else(
 C.ca t1 h7 λr4 h8=>
 ∃n9 n10,r4 = .tuple #[vI n9,vI n10]/\
 ∃cH,List.length cH=5/\aj h8 (bA h1) cH/\
 C.jx t1 cH i1 h8 λr5 h9=>
 ∃n11,r5 = vI n11/\
 bif(n11==0)then(
 (0<=(512:Int)/\(512:Int)<=512/\(1:Int)*512<=281474976710656/\(512:Int)<=281474976710656)/\
 az (aN z5 (Int.toNat 512)) 5 h9 λcB=>
 C.aC t1 i1 (some (bA h9)) (Int.toNat 512) (Int.toNat 512) cB λr6 bQ=>
 ∃n12,r6 = vI n12/\
 bE.k2 t1 i1 n9 n12 bQ K)else(
 bE.k2 t1 i1 n9 n11 h9 K))))
def bE(t1:OA)(g1:LV)(K:KT)(h1:ad):=
 az g1 80 h1 λh2=>
 ∃n1,cellOf h2 (aS h1 1)=some (vI n1)/\
 C.aD t1 n1 h2 λr1 h3=>
 ∃aI aF aT n2,r1 = .tuple #[vS aI aF aT,vI n2]/\
 bif(n2 != 0)then(
 K (.tuple #[vI 0,vI n2]) h3)else(
 ∃n3,cellOf h3 (aS h1 3)=some (vI n3)/\
 ∃(I1:OA->Nat->Nat->Int->ad->Prop) (M1:OA->Nat->Nat->Int->ad->Nat),I1 aI aF aT n3 h3/\
 ∀(aR:OA) (aX:Nat) (bf:Nat) (i1:Int),∀h4:ad,I1 aR aX bf i1 h4->
 ∃n4,cellOf h4 (aS h1 0)=some (vI n4)/\
 bif(decide (i1<n4))then(
 bif((Int.tmod i1 4096)==0)then(
 ∃n5,cellOf h4 (aS h1 1)=some (vI n5)/\
 C.aD t1 (wI (n5+(wI (Int.tdiv i1 4096)))) h4 λr2 h5=>
 ∃dP dB ff n6,r2 = .tuple #[vS dP dB ff,vI n6]/\
 bif(n6 != 0)then(
 K (.tuple #[vI 0,vI n6]) h5)else(
 bE.k1 t1 h1 aR aX bf i1 h4 I1 M1 dP dB ff h5 K))else(
 ∃n14,cellOf h4 (aS h1 3)=some (vI n14)/\
 bif(i1==n14)then(
 ∃n15,cellOf h4 (aS h1 1)=some (vI n15)/\
 C.aD t1 (wI (n15+(wI (Int.tdiv i1 4096)))) h4 λr8 cM=>
 ∃kD j9 lD n16,r8 = .tuple #[vS kD j9 lD,vI n16]/\
 bif(n16 != 0)then(
 K (.tuple #[vI 0,vI n16]) cM)else(
 bE.k1 t1 h1 aR aX bf i1 h4 I1 M1 kD j9 lD cM K))else(
 bE.k1 t1 h1 aR aX bf i1 h4 I1 M1 aR aX bf h4 K)))else(
 K (.tuple #[vI 0,vI 90]) h4))
theorem bE.ok{t1 g1 K h}(x:bE t1 g1 K h):C.bE t1 g1 h K:=fk (fun|5=>([0,3],[(6,.slice),(8,.int .i64)])|_=>([],[])) o0 Tryz.func83 x
def kr.k1(t1:OA)(i1:Int)(h1 h2:ad)(K:KT):=
 ∃aW,List.length aW=5/\aj h2 ⟨h1.size,0,none⟩ aW/\
 C.oC t1 aW i1 h2 λr1 h3=>
 ∃b1 n3,r1 = .tuple #[.bool b1,vI n3]/\
 bif(n3 != 0)then(
 K (vI n3) h3)else(
 bif(!b1)then(
 K (vI 91) h3)else(
 ∃cH,List.length cH=5/\aj h3 ⟨h1.size,0,none⟩ cH/\
 C.oT t1 cH i1 false h3 λr2 h4=>
 ∃n4,r2 = vI n4/\
 K (vI n4) h4))
def kr(t1:OA)(g1:LV)(i1:Int)(K:KT)(h1:ad):=
 az g1 80 h1 λh2=>
 ∃n1,cellOf h2 (Addr.add ⟨h1.size,0,none⟩ 3)=some (vI n1)/\
 bif(decide (i1<n1))then(
 K (vI 91) h2)else(
 ∃n2,cellOf h2 (Addr.add ⟨h1.size,0,none⟩ 0)=some (vI n2)/\
 bif(decide (i1>=n2))then(
 K (vI 91) h2)else(
 kr.k1 t1 i1 h1 h2 K))
theorem kr.ok{t1 g1 i1 K h}(x:kr t1 g1 i1 K h):C.kr t1 g1 i1 h K:=fz Tryz.func85 x
def eR.k1(t1:OA)(i1:Int)(h1 h2:ad)(K:KT):=
 ∃aW,List.length aW=5/\aj h2 (bA h1) aW/\
 C.jv t1 aW i1 h2 λr1 h3=>
 ∃b1 n3,r1 = .tuple #[.bool b1,vI n3]/\
 bif(n3 != 0)then(
 K (vI n3) h3)else(
 bif(!b1)then(
 K (vI 91) h3)else(
 ∃cH,List.length cH=5/\aj h3 (bA h1) cH/\
 C.jx t1 cH i1 h3 λr2 h4=>
 ∃n4,r2 = vI n4/\
 K (vI n4) h4))
def eR(t1:OA)(g1:LV)(i1:Int)(K:KT)(h1:ad):=
 az g1 80 h1 λh2=>
 ∃n1,cellOf h2 (aS h1 3)=some (vI n1)/\
 bif(decide (i1<n1))then(
 K (vI 91) h2)else(
 ∃n2,cellOf h2 (aS h1 0)=some (vI n2)/\
 bif(decide (i1>=n2))then(
 K (vI 91) h2)else(
 eR.k1 t1 i1 h1 h2 K))
theorem eR.ok{t1 g1 i1 K h}(x:eR t1 g1 i1 K h):C.eR t1 g1 i1 h K:=fz Tryz.func86 x
def oC(t1:OA)(g1:LV)(i1:Int)(K:KT)(h1:ad):=
 az g1 80 h1 λh2=>
 ∃aW,List.length aW=5/\aj h2 ⟨h1.size,0,none⟩ aW/\
 C.oU t1 aW i1 h2 λr1 h3=>
 ∃n1 aI aF aT n2 n3,r1 = .tuple #[vI n1,vS aI aF aT,vI n2,vI n3]/\
 bif(n3 != 0)then(
 K (.tuple #[.bool false,vI n3]) h3)else(
 C.rX aI aF aT n2 h3 λr2 h4=>
 ∃b1 n4,r2 = .tuple #[.bool b1,vI n4]/\
 K (.tuple #[.bool b1,vI n4]) h4)
theorem oC.ok{t1 g1 i1 K h}(x:oC t1 g1 i1 K h):C.oC t1 g1 i1 h K:=fz Tryz.func87 x
def aY.k1(aR:OA)(aX bf:Nat)(h1 h2:ad)(adx ν:OA)(h8:ad)(K:KT):=
 ∃q2,cellOf h8 (bA h1)=some (vP q2)/\
 ae q2 λp2=>
 ∃b1,cellOf h8 (p2.add 3)=some (.bool b1)/\
 bif b1 then(
 K (vI 61) h8)else(
 ∃n2,cellOf h8 (bA h2)=some (vI n2)/\
 bif(decide (n2<98))then(
 K (vI 31) h8)else(
 ∃n3,cellOf h8 (bA h2)=some (vI n3)/\
 ∃q3,cellOf h8 (bA h1)=some (vP q3)/\
 ae q3 λp3=>
 ∃q4,cellOf h8 (p3.add 0)=some (vP q4)/\
 C.dD q4 h8 λr1 h9=>
 ∃n4,r1 = vI n4/\
 (cellOf h9 (bA h2)=some (vI n3))/\
 bif(decide (n3>=n4))then(
 K (vI 31) h9)else(
 bif((aX:Int) != 512)then(
 K (vI 32) h9)else(
 ae ν λp4=>
 ∃b2,cellOf h9 p4=some (.bool b2)/\
 bif(!b2)then(
 ∃q5,cellOf h9 (bA h1)=some (vP q5)/\
 ae q5 λp5=>
 ∃m2,cellOf h9 (p5.add 1)=some (.map m2)/\
 tB (.int .i64) m2 h9 λmm2=>
 bif(decide ((List.length mm2:Int)>=96))then(
 K (vI 60) h9)else(
 ∃q6,cellOf h9 (bA h1)=some (vP q6)/\
 ∃q7,cellOf h9 (bA h1)=some (vP q7)/\
 ae q7 λp6=>
 ∃dP dB ff,cellOf h9 (p6.add 2)=some (vS dP dB ff)/\
 az [.func (.func 157) #[] ⟨[vP ν,vP adx,vP (some (bA h1)),vP (some (bA h2))]⟩] 1 h9 λcB=>
 (cellOf cB (bA h1)=some (vP q6))/\
 (cellOf cB (bA h1)=some (vP q7))/\
 (cellOf cB (p6.add 2)=some (vS dP dB ff))/\
 ∃aG,List.length aG=1*1/\ak cB (some (bA h9)) aG/\(∀v∈aG,v.oneCell'=true)/\
 aH ti1 1 dP dB ff 1 aG cB λkD j9 lD bQ=>
 (cellOf bQ (bA h1)=some (vP q6))/\
 ae q6 λp7=>
 aO (p7.add 2) (vS kD j9 lD) bQ λcG=>
 ∃q8,cellOf cG (bA h1)=some (vP q8)/\
 ae q8 λp8=>
 ∃m3,cellOf cG (p8.add 1)=some (.map m3)/\
 ∃n5,cellOf cG (bA h2)=some (vI n5)/\
 C.bD aR aX bf cG λr2 cg=>
 ∃uo uq vn,r2 = vS uo uq vn/\
 (cellOf cg (bA h1)=some (vP q8))/\
 (cellOf cg (p8.add 1)=some (.map m3))/\
 (cellOf cg (bA h2)=some (vI n5))/\
 ae m3 λr3=>
 CJ (.int .i64) r3 (.i n5) (vS uo uq vn) cg λcM=>
 K (vI 0) cM))else(
 ∃q9,cellOf h9 (bA h1)=some (vP q9)/\
 ∃Gm,cellOf h9 (bA h1)=some (vP Gm)/\
 ae Gm λp9=>
 ∃AB Ab B',cellOf h9 (p9.add 2)=some (vS AB Ab B')/\
 az [.func (.func 157) #[] ⟨[vP ν,vP adx,vP (some (bA h1)),vP (some (bA h2))]⟩] 1 h9 λfg=>
 (cellOf fg (bA h1)=some (vP q9))/\
 (cellOf fg (bA h1)=some (vP Gm))/\
 (cellOf fg (p9.add 2)=some (vS AB Ab B'))/\
 ∃pA,List.length pA=1*1/\ak fg (some (bA h9)) pA/\(∀v∈pA,v.oneCell'=true)/\
 aH ti1 1 AB Ab B' 1 pA fg λCa BA Dq iY=>
 (cellOf iY (bA h1)=some (vP q9))/\
 ae q9 λVT=>
 aO (VT.add 2) (vS Ca BA Dq) iY λfw=>
 ∃VU,cellOf fw (bA h1)=some (vP VU)/\
 ae VU λUv=>
 ∃m4,cellOf fw (Uv.add 1)=some (.map m4)/\
 ∃n6,cellOf fw (bA h2)=some (vI n6)/\
 C.bD aR aX bf fw λr4 ma=>
 ∃Gg Gi IP,r4 = vS Gg Gi IP/\
 (cellOf ma (bA h1)=some (vP VU))/\
 (cellOf ma (Uv.add 1)=some (.map m4))/\
 (cellOf ma (bA h2)=some (vI n6))/\
 ae m4 λr5=>
 CJ (.int .i64) r5 (.i n6) (vS Gg Gi IP) ma λgm=>
 K (vI 0) gm)))))
def aY(t1:OA)(i1:Int)(aR:OA)(aX bf:Nat)(K:KT)(h1:ad):=
 az [vP t1] 57 h1 λh2=>
 az [vI i1] 3 h2 λh3=>
 ∃q1,cellOf h3 (bA h1)=some (vP q1)/\
 ae q1 λp1=>
 ∃m1,cellOf h3 (p1.add 1)=some (.map m1)/\
 ∃n1,cellOf h3 (bA h2)=some (vI n1)/\
 (
 tB (.int .i64) m1 h3 λYq=>
 ∃(aI:OA) (aF:Nat) (aT:Nat),Option.getD (mX Yq (.i n1)) (zeroV B8) = vS aI aF aT/\
 (
 az z37 37 h3 λh4=>
 (cellOf h4 (bA h1)=some (vP q1))/\
 (cellOf h4 (p1.add 1)=some (.map m1))/\
 (cellOf h4 (bA h2)=some (vI n1))/\
 az z4 4 h4 λh5=>
 (cellOf h5 (bA h1)=some (vP q1))/\
 (cellOf h5 (p1.add 1)=some (.map m1))/\
 (cellOf h5 (bA h2)=some (vI n1))/\
 aO (bA h3) (vS aI aF aT) h5 λh6=>
 aO (bA h4) (.bool (Option.isSome (mX Yq (.i n1)))) h6 λh7=>
 aY.k1 aR aX bf h1 h2 (some (bA h3)) (some (bA h4)) h7 K)/\
 az z4 4 h3 λiK=>
 (cellOf iK (bA h1)=some (vP q1))/\
 (cellOf iK (p1.add 1)=some (.map m1))/\
 (cellOf iK (bA h2)=some (vI n1))/\
 az z37 37 iK λnR=>
 (cellOf nR (bA h1)=some (vP q1))/\
 (cellOf nR (p1.add 1)=some (.map m1))/\
 (cellOf nR (bA h2)=some (vI n1))/\
 aO (bA iK) (vS aI aF aT) nR λnD=>
 aO (bA h3) (.bool (Option.isSome (mX Yq (.i n1)))) nD λjR=>
 aY.k1 aR aX bf h1 h2 (some (bA iK)) (some (bA h3)) jR K)/\
 (
 az z37 37 h3 λmu=>
 (cellOf mu (bA h1)=some (vP q1))/\
 (cellOf mu (p1.add 1)=some (.map m1))/\
 (cellOf mu (bA h2)=some (vI n1))/\
 (
 tB (.int .i64) m1 mu λmm3=>
 ∃(Gj:OA) (Gk:Nat) (IQ:Nat),Option.getD (mX mm3 (.i n1)) (zeroV B8) = vS Gj Gk IQ/\
 az z4 4 mu λuH=>
 (cellOf uH (bA h1)=some (vP q1))/\
 (cellOf uH (p1.add 1)=some (.map m1))/\
 (cellOf uH (bA h2)=some (vI n1))/\
 aO (bA h3) (vS Gj Gk IQ) uH λqu=>
 aO (bA mu) (.bool (Option.isSome (mX mm3 (.i n1)))) qu λtx=>
 aY.k1 aR aX bf h1 h2 (some (bA h3)) (some (bA mu)) tx K)/\
 az z4 4 mu λAc=>
 (cellOf Ac (bA h1)=some (vP q1))/\
 (cellOf Ac (p1.add 1)=some (.map m1))/\
 (cellOf Ac (bA h2)=some (vI n1))/\
 tB (.int .i64) m1 Ac λmm4=>
 ∃(Ut:OA) (RT:Nat) (Ym:Nat),Option.getD (mX mm4 (.i n1)) (zeroV B8) = vS Ut RT Ym/\
 aO (bA h3) (vS Ut RT Ym) Ac λIV=>
 aO (bA mu) (.bool (Option.isSome (mX mm4 (.i n1)))) IV λEK=>
 aY.k1 aR aX bf h1 h2 (some (bA h3)) (some (bA mu)) EK K)/\
 az z4 4 h3 λwQ=>
 (cellOf wQ (bA h1)=some (vP q1))/\
 (cellOf wQ (p1.add 1)=some (.map m1))/\
 (cellOf wQ (bA h2)=some (vI n1))/\
 (
 tB (.int .i64) m1 wQ λmm5=>
 ∃(Pj:OA) (Pk:Nat) (Pl:Nat),Option.getD (mX mm5 (.i n1)) (zeroV B8) = vS Pj Pk Pl/\
 az z37 37 wQ λDr=>
 (cellOf Dr (bA h1)=some (vP q1))/\
 (cellOf Dr (p1.add 1)=some (.map m1))/\
 (cellOf Dr (bA h2)=some (vI n1))/\
 aO (bA wQ) (vS Pj Pk Pl) Dr λIW=>
 aO (bA h3) (.bool (Option.isSome (mX mm5 (.i n1)))) IW λE7=>
 aY.k1 aR aX bf h1 h2 (some (bA wQ)) (some (bA h3)) E7 K)/\
 az z37 37 wQ λBD=>
 (cellOf BD (bA h1)=some (vP q1))/\
 (cellOf BD (p1.add 1)=some (.map m1))/\
 (cellOf BD (bA h2)=some (vI n1))/\
 tB (.int .i64) m1 BD λmm6=>
 ∃(Pm:OA) (Po:Nat) (Pp:Nat),Option.getD (mX mm6 (.i n1)) (zeroV B8) = vS Pm Po Pp/\
 aO (bA wQ) (vS Pm Po Pp) BD λLR=>
 aO (bA h3) (.bool (Option.isSome (mX mm6 (.i n1)))) LR λRV=>
 aY.k1 aR aX bf h1 h2 (some (bA wQ)) (some (bA h3)) RV K
set_option maxRecDepth 100000 in
set_option maxRecDepth 100000 in
set_option maxRecDepth 100000 in
theorem aY.ok{t1 i1 aR aX bf K h}(x:aY t1 i1 aR aX bf K h):C.aY t1 i1 aR aX bf h K:=fk l0 (fun|1=>(oS 0 5 (.alt 5 [] (.op 6 [] (.op 7 [] (.op 8 [] (.alt 9 [0,3,4] (.op 10 [0,3,4] (.op 11 [] (.op 12 [] .nil))) (.op 10 [0,3,4] (.op 9 [0,3,4] (.op 11 [] (.op 12 [] .nil)))))))) (.alt 9 [0,3,4] (.alt 5 [] (.op 6 [] (.op 7 [] (.op 8 [] (.op 10 [0,3,4] (.op 11 [] (.op 12 [] .nil)))))) (.op 10 [0,3,4] (oS 5 4 (.op 11 [] (.op 12 [] .nil))))) (.op 10 [0,3,4] (.alt 5 [] (.op 6 [] (.op 7 [] (.op 8 [] (.op 9 [0,3,4] (.op 11 [] (.op 12 [] .nil)))))) (.op 9 [0,3,4] (oS 5 4 (.op 11 [] (.op 12 [] .nil)))))))))|4=>(oS 0 8 (.op 8 [3] (.op 9 [] (.op 10 [] (.op 11 [] .nil)))))|10=>(oS 0 6 (.op 6 [0,1,4] (.op 7 [0] (.op 8 [] (.op 9 [] (.op 10 [] .nil))))))|11=>(oS 0 6 (.op 6 [0,3,4] (.op 7 [] .nil)))|_=>.nil) Tryz.func92 x
def aC.k2(t1:OA)(i1:Int)(aR:OA)(aX:Nat)(h5:ad)(K:KT):=
 ae t1 λp3=>
 ∃dP dB ff,cellOf h5 (p3.add 1)=some (vS dP dB ff)/\
 ∃HV,aw h5 aR aX HV/\
 List.length ([vI i1,.string (mkStr HV)]:LV)=2/\
 az [vI i1,.string (mkStr HV)] 190 h5 λh6=>
 (cellOf h6 (p3.add 1)=some (vS dP dB ff))/\
 ∃aG,List.length aG=1*2/\ak h6 (some (bA h5)) aG/\(∀v∈aG,v.oneCell'=true)/\
 aH Gc 190 dP dB ff 1 aG h6 λkD j9 lD h7=>
 ae t1 λp4=>
 aO (p4.add 1) (vS kD j9 lD) h7 λh8=>
 K (vI 0) h8
def aC.k1(t1:OA)(i1:Int)(aR:OA)(aX:Nat)(h3:ad)(K:KT):=
 bif((aX:Int) != 512)then(
 K (vI 32) h3)else(
 C.dE t1 i1 h3 λr2 h4=>
 ∃n2,r2 = vI n2/\
 C.bo t1 h4 λr3 h5=>
 ∃aI aF aT,r3 = vS aI aF aT/\
 bif(decide (n2<0))then(
 bif(decide ((aF:Int)>=96))then(
 K (vI 60) h5)else(
 aC.k2 t1 i1 aR aX h5 K))else(
 aC.k2 t1 i1 aR aX h5 K))
def aC(t1:OA)(i1:Int)(aR:OA)(aX bf:Nat)(K:KT)(h1:ad):=
 ae t1 λp1=>
 ∃b1,cellOf h1 (p1.add 2)=some (.bool b1)/\
 bif b1 then(
 K (vI 61) h1)else(
 bif(decide (i1<98))then(
 K (vI 31) h1)else(
 ae t1 λp2=>
 ∃q1,cellOf h1 (p2.add 0)=some (vP q1)/\
 C.bp q1 h1 λr1 h2=>
 ∃n1,r1 = vI n1/\
 bif(decide (i1>=n1))then(
 K (vI 31) h2)else(
 aC.k1 t1 i1 aR aX h2 K)))
theorem aC.ok{t1 i1 aR aX bf K h}(x:aC t1 i1 aR aX bf K h):C.aC t1 i1 aR aX bf h K:=fk l0 (fun|11=>(oS 0 9 (.op 9 [4] (.op 10 [] (.op 11 [] (.op 12 [] (.op 13 [] .nil))))))|_=>.nil) Tryz.func94 x
def fu(x1:LV)(K:KT)(h1:ad):=
 az x1 155 h1 λh2=>
 ∃aW,List.length aW=15/\aj h2 (bA h1) aW/\
 C.gz aW h2 λr1 h3=>
 ∃b1,r1 = .bool b1/\
 bif(!b1)then(
 K (.tuple #[vS none 0 0,vI 111]) h3)else(
 ∃cH,List.length cH=15/\aj h3 (bA h1) cH/\
 C.jK cH h3 λr2 h4=>
 ∃aI aF aT,r2 = vS aI aF aT/\
 K (.tuple #[vS aI aF aT,vI 0]) h4)
theorem fu.ok{x1 K h}(x:fu x1 K h):C.fu x1 h K:=fz Tryz.func96 x
end W
end Go.Proofs.YtjdcbblgaoogmaaGreatDoor
