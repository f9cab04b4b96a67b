/- dirPlays_card -/
import Derived.Orders
import Derived.LoadGo3
import Derived.Test.YtlbckoblcdoceaaGreatDoorGp1
namespace Go.Proofs.YtlbckoblcdoceaaGreatDoor
open Go Go.Proofs Wx
variable{x o n j i b m c l ec e t:Nat}{w:World}{a:OA}{args xs:LV}{F:NP}{h h' h1 h2 h3:ad}{bs:LB}{k:HP}{ao aB c1 c2:Nat->Nat}{p:Addr}{A B:Prop}{y:Int}
open _root_.List renaming mem_of_getElem?->Fv,length_nil->FX,getElem?_eq_some_iff->adn,getElem?_eq_getElem->fg,contains_iff_mem->KQ,mem_cons_of_mem->gV,mem_cons->fO,mem_append->nB,mem_filter->H7,all_eq_true->oN,mem_cons_self->kj,mem_singleton->kU,isEmpty_iff->ado,mem_map->jc,mem_range->TJ,length_cons->pA,mapM_cons->agK,ext_getElem?->Kw,append_assoc->iW,getElem?_append_left->Tc,length_take->dL,getElem?_append_right->Te,getElem?_drop->FY,getElem?_take->KR,length_drop->jM,length_eq_zero_iff->TK,length_map->aP,drop_zero->mW,take_left->tL,length_append->bg,flatMap_cons->qO,drop_left->Ae,take_append_drop->qP,flatMap_append->iy,mem_of_mem_take->Jk,forall_mem_cons->aba,not_mem_nil->nT
open _root_.Nat renaming le_of_ble_eq_true->xS,eq_of_beq_eq_true->xP,beq_refl->vE,zero_add->wR,lt_or_ge->rI,lt_of_lt_of_le->mV,le_refl->bE,min_eq_left->xL,zero_mul->adp,add_mul->Mb,mul_le_mul_right->yi,add_zero->DV,one_mul->OU
open _root_.Bool renaming or_eq_true->BM,and_eq_true->dB,not_eq_true'->V8,true_and->yj,false_eq_true->Ay
open _root_.Array renaming getElem?_push->zT,getD_eq_getD_getElem?->TL,getElem?_eq_none->lw4
namespace Wx
open Go
def qQ(P:Program)(a:Act)(o:Oper)(w:World)(v:Value):Prop:=(execOp a.eval o).run P w = .ok (.value v) w
def tM(full:List Oper)(a:Act)(o:Oper):Bool:=Region.wanted o (yielded full.toArray a.tmps)
def KS(a:Act)(o:Oper):Value:=
  match o.dst with
  | some d=>a.tmps.getD d undef
  | none=>undef
def gv(D:Nat->Bool)(i:Nat):Nat->Bool:=λj=>Nat.beq j i || D j
theorem TN(D:Nat->Bool)(i j:Nat):gv (gv D i) j=gv (gv D j) i:=by
  funext k;simp only[gv];cases Nat.beq k i <;> cases Nat.beq k j <;> rfl
def Mz(C:Ctx)(full:List Oper)(st:List Nat)(D:Nat->Bool)(a:Act)(w:World):Prop:=
  ∀j∈st,D j=true->∀oj,full[j]?=some oj->tM full a oj=true->qQ C.P a oj w (KS a oj)
def xB(C:Ctx)(full:List Oper)(i:Nat)(st:List Nat)(D:Nat->Bool)(K:Act->World->Prop)(a:Act)(w:World):=
  ∃o,full[i]?=some o/\
    (if tM full a o=true then
      (if Pa C o.op=true then ∃v,qQ C.P a o w v/\(ft C o.op=false->∀w',qQ C.P a o w' v)/\K (a.put o.dst v) w
       else zQ C.P a.eval o w λv w'=>Mz C full st D a w'/\K (a.put o.dst v) w')
    else K (a.put o.dst undef) w)
def SW(C:Ctx)(full:List Oper):Od->(Nat->Bool)->(Act->World->Prop)->Act->World->Prop
  | .nil,_,N,a,w=>N a w
  | .op i st r,D,N,a,w=>xB C full i st D (λa w=>SW C full r (gv D i) N a w) a w
  | .alt i st r o,D,N,a,w=>xB C full i st D (λa w=>SW C full r (gv D i) N a w) a w/\SW C full o D N a w
def mh(o:Oper):List Nat:=(o.after.toList.filter λe=>Region.binds .any e).map (·.on)
def mask(acc:Array Nat):List Nat->Nat
  | []=>0
  | p::r=>(2 ^ p ||| acc.getD p 0) ||| mask acc r
def uw : List Oper->Array Nat->Array Nat
  | [],acc=>acc
  | o::r,acc=>uw r (acc.push (mask acc (mh o)))
def FZ(o:Oper):Bool:=
  match o.op with
  | .select _ _=>false
  | _=>true
def V9(full:List Oper)(o:Oper)(d:Nat):Bool:=(o.looksAt full.toArray).contains d
def gX(full:List Oper)(x o:Oper):Bool:=
  match x.dst with
  | some d=>V9 full o d
  | none=>false
def oP(x o:Oper):Bool:=
  match x.dst,o.dst with
  | some d,some e=>Nat.beq d e
  | _,_=>false
def Jl(C:Ctx)(full:List Oper)(M:Array Nat)(x i:Nat×List Nat):Bool:=
  match full[x.1]?,full[i.1]? with
  | some ox,some oi=>
    !(Nat.beq x.1 i.1) && !((mh ox).contains i.1) && !(oP ox oi) && !(ft C ox.op && gX full oi ox) &&
    ((M.getD i.1 0).testBit x.1 || (Pa C ox.op && !(gX full ox oi) && !(gX full oi ox) && (Pa C oi.op || !(ft C ox.op) || i.2.contains x.1)))
  | _,_=>false
def MA : Od->List (Nat×List Nat)
  | .nil=>[]
  | .op i st r=>(i,st)::MA r
  | .alt i st r o=>(i,st)::(MA r++MA o)
def yk : Od->List Nat
  | .nil=>[]
  | .op i _ _=>[i]
  | .alt i _ _ o=>i::yk o
def rJ(R:List Nat)(x:Nat):List Nat:=R.filter λj=>!Nat.beq j x
def oQ(full:List Oper)(x:Nat)(R:List Nat):Bool:=
  match full[x]? with
  | some o=>(mh o).all λp=>!R.contains p
  | none=>false
def zi(C:Ctx)(full:List Oper)(x:Nat):Bool:=
  match full[x]? with
  | some o=>!ft C o.op
  | none=>false
def okB(C:Ctx)(full:List Oper)(M:Array Nat):Bool->Od->List Nat->Bool
  | _,.nil,R=>R.isEmpty
  | b,.op x st r,R=>R.contains x && (oQ full x R && ((bif b then zi C full x else(MA r).all (Jl C full M (x,st))) && okB C full M false r (rJ R x)))
  | b,.alt x _ r o,R=>R.contains x && (oQ full x R && (zi C full x && (okB C full M false r (rJ R x) && (okB C full M true o R && (b || R.all λy=>Nat.beq y x || (yk o).contains y || (M.getD y 0).testBit x || (yk o).any λe=>(M.getD y 0).testBit e)))))
def Rt(C:Ctx)(full:List Oper)(L:Od):Bool:=
  (full.all FZ) && ((full.zipIdx.all λp=>(mh p.1).all λq=>Nat.blt q p.2) && ((full.all λo=>!(ft C o.op && (gX full o o || o.dst.isNone))) &&
  (((MA L).all λx=>Nat.blt x.1 full.length && x.2.all λj=>match full[j]? with|some o=>ft C o.op|none=>false) && okB C full (uw full #[]) false L (List.range full.length))))
theorem ym{full:List Oper}{x o:Oper}(h:gX full x o=false):∀d,x.dst=some d->d ∉ o.looksAt full.toArray:=by
  intro d hd;unfold gX at h;rw[hd]at h;simpa[V9]using h
theorem Af{x o:Oper}(h:oP x o=false):∀d,x.dst=some d->o.dst≠some d:=by
  intro d hd he;unfold oP at h;rw[hd,he]at h;simp at h
theorem yn{full:List Oper}{x o:Oper}(hs:FZ o=true)(a:Act)(v:Value)(h:gX full x o=false):execOp (a.put x.dst v).eval o=execOp a.eval o:=
  execOp_put (ops:=full.toArray) o (λcs b e=>by simp[FZ,e]at hs) a x.dst v (ym h)
theorem BN{full:List Oper}{x o:Oper}(a:Act)(v:Value)(h:gX full x o=false):tM full (a.put x.dst v) o=tM full a o:=
  wanted_put (ops:=full.toArray) o a x.dst v (ym h)
theorem MB{x o:Oper}(a:Act)(v:Value)(h:oP x o=false):KS (a.put x.dst v) o=KS a o:=by
  unfold KS
  cases ho:o.dst with
  | none=>rfl
  | some e=>
    cases hx:x.dst with
    | none=>rfl
    | some d=>
      have fP:d≠e:=λhh=>Af h d hx (by rw[ho,hh]);simp[Act.put,Array.getElem?_setIfInBounds_ne fP]
def Ga(C:Ctx)(full:List Oper)(D:Nat->Bool)(L:List (Nat×List Nat)):Prop:=
  ∀j oj,D j=true->full[j]?=some oj->ft C oj.op=true->∀x∈L,∀ox,full[x.1]?=some ox->gX full ox oj=false/\oP ox oj=false
structure agL(C:Ctx)(full:List Oper)(x i:Nat×List Nat):Prop where
  q:∀ox,full[x.1]?=some ox->Pa C ox.op=true
  a:∀ox oi,full[x.1]?=some ox->full[i.1]?=some oi->gX full ox oi=false/\gX full oi ox=false/\oP ox oi=false
  s:∀ox oi,full[x.1]?=some ox->full[i.1]?=some oi->Pa C oi.op=false->ft C ox.op=true->x.1∈i.2
theorem Mz.back{C:Ctx}{full:List Oper}(KU:∀ o ∈ full,FZ o=true){st:List Nat}{D:Nat->Bool}{x:Nat×List Nat}{ox:Oper}(hx:full[x.1]?=some ox){L:List (Nat×List Nat)}(Vh:Ga C full D (x::L))
    (hrd:∀j∈st,D j=true->∀oj,full[j]?=some oj->ft C oj.op=true) {a:Act} {v:Value} {w:World} (h:Mz C full st (gv D x.1) (a.put ox.dst v) w):Mz C full st D a w:=by
  intro j hj hD oj zh hw;have hr:=hrd j hj hD oj zh;obtain⟨h1,h2⟩:=Vh j oj hD zh hr x (by simp) ox hx;have:=h j hj (by simp[gv,hD]) oj zh (by rw[BN a v h1];exact hw);rw[MB a v h2]at this;unfold qQ at this ⊢;rwa[yn (KU oj (Fv zh)) a v h1]at this
theorem zQ.mono{P:Program}{ρ:Operand->Value}{o:Oper}{w:World}{k k':Value->World->Prop}(h:zQ P ρ o w k)(hk:∀ v w',k v w'->k' v w'):zQ P ρ o w k':=by
  rcases h with⟨v,w',h1,h2⟩|⟨w',h1,h2⟩|⟨g,args,h1,h2⟩|⟨l,fn,tmps,assign,body,h1,h2⟩
  · exact .inl ⟨v,w',h1,hk _ _ h2⟩
  · exact .inr (.inl ⟨w',h1,hk _ _ h2⟩)
  · exact .inr (.inr (.inl ⟨g,args,h1,h2.mono λe w'' ⟨v,he,hv⟩=>⟨v,he,hk _ _ hv⟩⟩))
  · exact .inr (.inr (.inr ⟨l,fn,tmps,assign,body,h1,h2.mono λe w'' ⟨v,he,hv⟩=>⟨v,he,hk _ _ hv⟩⟩))
theorem zQ.congr{P:Program}{ρ ρ':Operand->Value}{o:Oper}{k:Value->World->Prop}(he:execOp ρ o=execOp ρ' o)(h:zQ P ρ o w k):zQ P ρ' o w k:=by
  unfold zQ at h ⊢;rw[he]at h;exact h
theorem Ii{o:Oper}{a:Act}(hs:a.tmps.size=n)(hd:v7 n o=true)(hn:o.dst.isNone=false)(v:Value):KS (a.put o.dst v) o=v:=by
  unfold KS v7 at *
  cases ho:o.dst with
  | none=>rw[ho]at hn;cases hn
  | some d=>
    rw[ho]at hd;have bV:d<n:=xS hd;simp[Act.put,hs,bV]
theorem size_put(a:Act)(d:Option Nat)(v:Value):(a.put d v).tmps.size=a.tmps.size:=by cases d <;> simp[Act.put]
theorem KV(x o:Oper):oP x o=oP o x:=by
  unfold oP
  cases x.dst <;> cases o.dst <;> try rfl
  rename_i d e;simp only
  cases h:Nat.beq d e with
  | true=>have:=xP h;subst this;exact h.symm
  | false=>
    cases h':Nat.beq e d with
    | false=>rfl
    | true=>have:=xP h';subst this;rw[vE]at h;cases h
theorem TO{x o:Oper}(a:Act)(v u:Value)(h:oP x o=false):(a.put x.dst v).put o.dst u=(a.put o.dst u).put x.dst v:=
  Act.put_comm a v u (Af h)
def adq(C:Ctx)(full:List Oper)(x y:Nat×List Nat):Prop:=
  ∀ox oy,full[x.1]?=some ox->full[y.1]?=some oy->ft C ox.op=true->gX full oy ox=false/\oP oy ox=false
theorem Ph{C:Ctx}{full:List Oper}(uZ:∀ o ∈ full,v7 n o=true)(KU:∀ o ∈ full,FZ o=true)(MC:∀ o ∈ full,ft C o.op=true->gX full o o=false/\o.dst.isNone=false)(i:Nat)(st:List Nat)
    (tB:∀j∈st,∀oj,full[j]?=some oj->ft C oj.op=true) {x:Nat×List Nat} (hX:agL C full x (i,st)) {D:Nat->Bool} (Vh:Ga C full D [x]) {A:Act->World->Prop} {B:(Nat->Bool)->Act->World->Prop} {a:Act} {w:World} (lV:a.tmps.size=n)
    (IH:∀v,(∃ox,full[x.1]?=some ox/\A (a.put ox.dst v) w)->∃ox,full[x.1]?=some ox/\xB C full i st (gv D x.1) (B (gv (gv D x.1) i)) (a.put ox.dst v) w)
    (h:xB C full x.1 x.2 D A a w):xB C full i st D (λa w=>xB C full x.1 x.2 (gv D i) (B (gv (gv D i) x.1)) a w) a w:=by
    obtain⟨ox,Ij,h⟩:=h
    have IH:∀v,A (a.put ox.dst v) w->xB C full i st (gv D x.1) (B (gv (gv D x.1) i)) (a.put ox.dst v) w:=λv hv=>by
      obtain⟨ox',e,r⟩:=IH v ⟨ox,Ij,hv⟩;rw[Ij]at e;have:=Option.some.inj e;subst this;exact r
    have hq:=hX.q ox Ij
    -- what x Zq, v its value
    have core:∀v:Value,(tM full a ox=true->qQ C.P a ox w v/\(ft C ox.op=false->∀w',qQ C.P a ox w' v))->(tM full a ox=false->v=undef)->
        A (a.put ox.dst v) w->xB C full i st D (λa w=>xB C full x.1 x.2 (gv D i) (B (gv (gv D i) x.1)) a w) a w:=by
      intro v hv1 hv2 agM;obtain⟨oi,hoi,hf⟩:=IH v agM;obtain⟨a1,a2,a3⟩:=hX.a ox oi Ij hoi;have hsi:=KU oi (Fv hoi);have hsx:=KU ox (Fv Ij);have hwi:=BN (full:=full) a v a1;have hei:=yn (full:=full) hsi a v a1;refine⟨oi,hoi,?_⟩
      -- x behind i, at a world where it runs as it ran
      have V':∀(u:Value) (w':World),(tM full a ox=true->qQ C.P a ox w' v)->B (gv (gv D x.1) i) ((a.put ox.dst v).put oi.dst u) w'->
          xB C full x.1 x.2 (gv D i) (B (gv (gv D i) x.1)) (a.put oi.dst u) w':=by
        intro u w' hr hs;rw[TO a v u a3,TN]at hs;have hwx:=BN (full:=full) a u a2;refine⟨ox,Ij,?_⟩;rw[hwx]
        cases hw:tM full a ox with
        | true=>
          rw[if_pos rfl,if_pos hq];refine⟨v,?_,λhnr w2=>?_,hs⟩
          · unfold qQ;rw[yn hsx a u a2];exact hr hw
          · unfold qQ;rw[yn hsx a u a2];exact(hv1 hw).2 hnr w2
        | false=>
          rw[if_neg (by simp)];have:=hv2 hw;subst this;exact hs
      rw[hwi]at hf
      cases agN:tM full a oi with
      | false=>
        rw[agN,if_neg (by simp)]at hf;rw[if_neg (by simp)];exact V' undef w (λhw=>(hv1 hw).1) hf
      | true=>
        rw[agN,if_pos rfl]at hf;rw[if_pos rfl]
        cases hqi:Pa C oi.op with
        | true=>
          rw[hqi,if_pos rfl]at hf;rw[if_pos rfl];obtain⟨u,r1,r2,r3⟩:=hf;refine⟨u,?_,λhnr w2=>?_,V' u w (λhw=>(hv1 hw).1) r3⟩
          · unfold qQ at r1 ⊢;rwa[hei]at r1
          · have:=r2 hnr w2;unfold qQ at this ⊢;rwa[hei]at this
        | false=>
          rw[hqi,if_neg (by simp)]at hf;rw[if_neg (by simp)];refine(zQ.congr hei hf).mono λu w' ⟨Wa,hk⟩=>?_;refine⟨Mz.back KU Ij (L:=[]) (λj oj hD zh hr y hy oy Wb=>?_) (λj hj _ oj zh=>tB j hj oj zh) Wa,V' u w' (λhw=>?_) hk⟩
          · have:y=x:=by simpa using hy
            subst this;exact Vh j oj hD zh hr y (by simp) oy Wb
          · cases hr:ft C ox.op with
            | false=>exact(hv1 hw).2 hr w'
            | true=>
              have xK:=hX.s ox oi Ij hoi hqi hr;obtain⟨hsf,hsn⟩:=MC ox (Fv Ij) hr;have:=Wa x.1 xK (by simp[gv,vE]) ox Ij (by rw[BN a v hsf];exact hw);unfold qQ at this ⊢;rw[yn hsx a v hsf]at this;rw[Ii lV (uZ ox (Fv Ij)) hsn]at this;exact this
    cases hw:tM full a ox with
    | true=>
      rw[hw,if_pos rfl,if_pos hq]at h;obtain⟨v,r1,r2,r3⟩:=h;exact core v (λ_=>⟨r1,r2⟩) (λhf=>by rw[hw]at hf;cases hf) r3
    | false=>
      rw[hw,if_neg (by simp)]at h;exact core undef (λhf=>by rw[hw]at hf;cases hf) (λ_=>rfl) h
theorem MD(acc:Array Nat):∀(ps:List Nat) (j:Nat),(mask acc ps).testBit j=true->∃p∈ps,p=j∨(acc.getD p 0).testBit j=true
  | [],j,h=>by simp[mask]at h
  | p::r,j,h=>by
    simp only[mask,Nat.testBit_or,BM]at h
    rcases h with(h|h)|h
    · refine⟨p,by simp,.inl ?_⟩
      by_cases e:p=j
      · exact e
      · rw[Nat.testBit_two_pow_of_ne e]at h;cases h
    · exact⟨p,by simp,.inr h⟩
    · obtain⟨q,hq,hj⟩:=MD acc r j h
      exact⟨q,by simp[hq],hj⟩
theorem xc : ∀(l:List Oper) (acc:Array Nat) (p:Nat),p<acc.size->(uw l acc).getD p 0=acc.getD p 0
  | [],_,_,_=>rfl
  | o::r,acc,p,h=>by
    rw[uw,xc r _ p (by simp;omega)];simp[zT,show p≠acc.size by omega]
theorem ME : ∀(l:List Oper) (acc:Array Nat) (k:Nat) (o:Oper),l[k]?=some o->∃MF:Array Nat,MF.size=acc.size+k/\(uw l acc).getD (acc.size+k) 0=mask MF (mh o)/\
    ∀p,p<MF.size->MF.getD p 0=(uw l acc).getD p 0
  | [],_,_,_,h=>by simp at h
  | o::r,acc,0,o',h=>by
    have e:o=o':=(by simpa using h);subst e;refine⟨acc,rfl,?_,λp hp=>?_⟩
    · rw[uw,xc r _ _ (by simp)]
      simp
    · rw[uw,xc r _ _ (by simp;omega)]
      simp[zT,show p≠acc.size by omega]
  | o::r,acc,k+1,o',h=>by
    obtain⟨MF,h1,h2,h3⟩:=ME r (acc.push (mask acc (mh o))) k o' (by simpa using h);refine⟨MF,by rw[h1];simp;omega,?_,λp hp=>by rw[uw];exact h3 p hp⟩;rw[uw];have e:(acc.push (mask acc (mh o))).size+k=acc.size+(k+1):=(by simp;omega);rw[e]at h2;exact h2
theorem KW{full:List Oper}(agO:∀ i o,full[i]?=some o->∀ p ∈ mh o,p<i){listed:Nat->Bool}
    (Gb:∀i o,full[i]?=some o->listed i=true->∀p∈mh o,listed p=true) :
    ∀(i:Nat) (o:Oper),full[i]?=some o->(∀p∈mh o,listed p=true)->∀j,((uw full #[]).getD i 0).testBit j=true->listed j=true:=by
  intro i
  induction i using Nat.strongRecOn with
  | _ i ih=>
    intro o ho hp j hj;obtain⟨MF,h1,h2,h3⟩:=ME full #[] i o ho;simp only[List.size_toArray,FX,wR]at h1 h2;rw[h2]at hj;obtain⟨p,YJ,hpj⟩:=MD MF _ _ hj
    rcases hpj with rfl|hpj
    · exact hp p YJ
    · have bV:=agO i o ho p YJ
      rw[h3 p (by rw[h1];exact bV)]at hpj
      have hlen:p<full.length:=by
        have:=(adn.1 ho).1;omega
      have hop:full[p]?=some full[p]:=fg hlen;exact ih p bV _ hop (Gb p _ hop (hp p YJ)) j hpj
theorem Gc{C:Ctx}{full:List Oper}{M:Array Nat}{x i:Nat×List Nat}(h:Jl C full M x i=true) :
    ∃ox oi,full[x.1]?=some ox/\full[i.1]?=some oi/\x.1≠i.1/\i.1 ∉ mh ox/\oP ox oi=false/\(ft C ox.op=true->gX full oi ox=false)/\
      ((M.getD i.1 0).testBit x.1=true∨(Pa C ox.op=true/\gX full ox oi=false/\gX full oi ox=false/\(Pa C oi.op=true∨ft C ox.op=false∨x.1∈i.2))):=by
  unfold Jl at h
  cases hx:full[x.1]? with
  | none=>rw[hx]at h;cases h
  | some ox=>
    cases hi:full[i.1]? with
    | none=>rw[hx,hi]at h;cases h
    | some oi=>
      rw[hx,hi]at h;simp only[dB,V8,BM]at h;obtain⟨⟨⟨⟨h1,h2⟩,h3⟩,h4⟩,h5⟩:=h;refine⟨ox,oi,rfl,rfl,λe=>?_,λhm=>?_,h3,λhr=>?_,?_⟩
      · rw[e,vE]at h1;cases h1
      · rw[KQ.2 hm]at h2;cases h2
      · rw[hr,yj]at h4;exact h4
      · rcases h5 with h5|⟨⟨⟨h5,h6⟩,h7⟩,h8⟩
        · exact .inl h5
        · refine .inr ⟨h5,h6,h7,?_⟩
          rcases h8 with(h8|h8)|h8
          · exact .inl h8
          · exact .inr (.inl h8)
          · exact .inr (.inr (KQ.1 h8))
theorem DW{C:Ctx}{full:List Oper}{M:Array Nat}{x y:Nat×List Nat}(h:Jl C full M x y=true):adq C full x y:=by
  obtain⟨ox,oy,h1,h2,h3,h4,h5,h6,h7⟩:=Gc h;intro ox' oy' e1 e2 hr;rw[h1]at e1;rw[h2]at e2;have:=Option.some.inj e1;subst this;have:=Option.some.inj e2;subst this;exact⟨h6 hr,by rw[KV];exact h5⟩
def pull(i:Nat):Od->Od
  | .nil=>.nil
  | .op x st r=>if Nat.beq x i then r else .op x st (pull i r)
  | .alt x _ r o=>if Nat.beq x i then r else pull i o
def AP(i:Nat):Od->List Nat
  | .nil=>[]
  | .op x st r=>if Nat.beq x i then st else AP i r
  | .alt x st _ o=>if Nat.beq x i then st else AP i o
theorem yo(i:Nat):∀(T:Od),∀y∈MA (pull i T),y∈MA T
  | .nil,y,h=>h
  | .op x st r,y,h=>by
    unfold pull at h
    split at h
    · exact gV _ h
    · rcases fO.1 h with h|h
      · exact fO.2 (.inl h)
      · exact gV _ (yo i r y h)
  | .alt x st r o,y,h=>by
    unfold pull at h
    split at h
    · exact gV _ (nB.2 (.inl h))
    · exact gV _ (nB.2 (.inr (yo i o y h)))
theorem rT{R:List Nat}:j∈rJ R x↔j∈R/\j≠x:=by
  simp only[rJ,H7,V8,and_congr_right_iff];intro _
  constructor
  · intro h e;subst e;rw[vE]at h;cases h
  · intro h;cases e:Nat.beq j x with
    | false=>rfl
    | true=>exact absurd (xP e) h
theorem Pj(R:List Nat)(x i:Nat):rJ (rJ R x) i=rJ (rJ R i) x:=by
  simp only[rJ,List.filter_filter];congr 1;funext k;exact Bool.and_comm _ _
theorem KX{R:List Nat}(h:x ∈ R):(rJ R x).length<R.length:=by
  unfold rJ;have h1:=List.length_filter_le (λj=>!Nat.beq j x) R
  rcases rI (R.filter λj=>!Nat.beq j x).length R.length with h2|h2
  · exact h2
  · exfalso
    have:=List.length_filter_eq_length_iff.1 (Nat.le_antisymm h1 h2) x h;rw[vE]at this;cases this
theorem beq_false(h:x≠i):Nat.beq x i=false:=by
  cases e:Nat.beq x i with
  | false=>rfl
  | true=>exact absurd (xP e) h
theorem AQ(h:x≠i)(st:List Nat)(r:Od):pull i (.op x st r) = .op x st (pull i r):=by rw[pull,beq_false h];rfl
theorem AR(i:Nat)(st:List Nat)(r:Od):pull i (.op i st r)=r:=by rw[pull,vE];rfl
theorem yp(h:x≠i)(st:List Nat)(r o:Od):pull i (.alt x st r o)=pull i o:=by rw[pull,beq_false h];rfl
theorem DX(i:Nat)(st:List Nat)(r o:Od):pull i (.alt i st r o)=r:=by rw[pull,vE];rfl
theorem Ge(h:x≠i)(st:List Nat)(r:Od):AP i (.op x st r)=AP i r:=by rw[AP,beq_false h];rfl
theorem Gf(i:Nat)(st:List Nat)(r:Od):AP i (.op i st r)=st:=by rw[AP,vE];rfl
theorem DY(h:x≠i)(st:List Nat)(r o:Od):AP i (.alt x st r o)=AP i o:=by rw[AP,beq_false h];rfl
theorem DZ(i:Nat)(st:List Nat)(r o:Od):AP i (.alt i st r o)=st:=by rw[AP,vE];rfl
structure OkOp(C:Ctx)(full:List Oper)(M:Array Nat)(b:Bool)(x:Nat)(st:List Nat)(r:Od)(R:List Nat):Prop where
  mem:x∈R
  free:oQ full x R=true
  rest:okB C full M false r (rJ R x)=true
  pair:b=false->∀p∈MA r,Jl C full M (x,st) p=true
  alt:b=true->zi C full x=true
theorem yq{C:Ctx}{full:List Oper}{M:Array Nat}{b:Bool}{st:List Nat}{r:Od}{R:List Nat}(h:okB C full M b (.op x st r) R=true):OkOp C full M b x st r R:=by
  simp only[okB,dB]at h;obtain⟨h1,h2,h3,h4⟩:=h;refine⟨KQ.1 h1,h2,h4,λe=>?_,λe=>?_⟩
  · subst e;exact oN.1 h3
  · subst e;exact h3
structure agP(C:Ctx)(full:List Oper)(M:Array Nat)(b:Bool)(x:Nat)(r o:Od)(R:List Nat):Prop where
  mem:x∈R
  free:oQ full x R=true
  quiet:zi C full x=true
  rest:okB C full M false r (rJ R x)=true
  other:okB C full M true o R=true
  cover:b=false->∀y∈R,y∈yk (.alt x [] r o)∨∃e∈yk (.alt x [] r o),(M.getD y 0).testBit e=true
theorem qR{C:Ctx}{full:List Oper}{M:Array Nat}{b:Bool}{st:List Nat}{r o:Od}{R:List Nat}(h:okB C full M b (.alt x st r o) R=true):agP C full M b x r o R:=by
  simp only[okB,dB]at h;obtain⟨h1,h2,h3,h4,h5,h6⟩:=h;refine⟨KQ.1 h1,h2,h3,h4,h5,λe y hy=>?_⟩;subst e;have:=oN.1 (by simpa only[Bool.false_or]using h6) y hy;simp only[BM]at this
  rcases this with((h|h)|h)|h
  · exact .inl (fO.2 (.inl (xP h)))
  · exact .inl (gV _ (KQ.1 h))
  · exact .inr ⟨x,kj ..,h⟩
  · obtain⟨e,he,ht⟩:=List.any_eq_true.1 h
    exact .inr ⟨e,gV _ he,ht⟩
theorem Jm{C:Ctx}{full:List Oper}{M:Array Nat}:∀(T:Od) (b:Bool) (R:List Nat),okB C full M b T R=true->∀e∈yk T,e∈R
  | .nil,_,_,_,e,he=>absurd he (by simp[yk])
  | .op x st r,b,R,h,e,he=>by
    have:e=x:=(by simpa[yk]using he);rw[this];exact(yq h).mem
  | .alt x st r o,b,R,h,e,he=>by
    have:=qR h
    rcases fO.1 he with he|he
    · rw[he];exact this.mem
    · exact Jm o true R this.other e he
structure Can(full:List Oper)(M:Array Nat)(i:Nat)(b:Bool)(T:Od)(R:List Nat):Prop where
  mem:i∈R
  up:∀k,(M.getD i 0).testBit k=true->k ∉ R
  alt:b=true->i∈yk T
theorem Can.rest{full:List Oper}{M:Array Nat}{st:List Nat}{r:Od}{R:List Nat}(c:Can full M i false (.op x st r) R)(h:x≠i):Can full M i false r (rJ R x):=
  ⟨rT.2 ⟨c.mem,λe=>h e.symm⟩,λk hk hm=>c.up k hk (rT.1 hm).1,λe=>by cases e⟩
theorem Can.other{C:Ctx}{full:List Oper}{M:Array Nat}{b:Bool}{st:List Nat}{r o:Od}{R:List Nat}(c:Can full M i b (.alt x st r o) R)(hk:okB C full M b (.alt x st r o) R=true)(h:x≠i):Can full M i true o R:=by
  refine⟨c.mem,c.up,λ_=>?_⟩
  have hh:i∈yk (.alt x st r o):=by
    cases b with
    | true=>exact c.alt rfl
    | false=>
      rcases(qR hk).cover rfl i c.mem with h|⟨e,he,ht⟩
      · exact h
      · exact absurd (Jm _ _ _ hk e he) (c.up e ht)
  rcases fO.1 hh with hh|hh
  · exact absurd hh.symm h
  · exact hh
theorem Can.eq{full:List Oper}{M:Array Nat}{st:List Nat}{r:Od}{R:List Nat}(c:Can full M i true (.op x st r) R):x=i:=by
  have:=c.alt rfl;simp only[yk,kU]at this;exact this.symm
theorem BO{C:Ctx}{full:List Oper}{M:Array Nat}{i:Nat}:∀(T:Od) (b:Bool) (R:List Nat),okB C full M b T R=true->Can full M i b T R->(i,AP i T)∈MA T
  | .nil,b,R,h,c=>by
    simp only[okB,ado]at h;have:=c.mem;rw[h]at this;exact absurd this (by simp)
  | .op x st r,b,R,h,c=>by
    by_cases e:x=i
    · subst e;rw[Gf];exact kj ..
    · cases b with
      | true=>exact absurd c.eq e
      | false=>rw[Ge e];exact gV _ (BO r false _ (yq h).rest (c.rest e))
  | .alt x st r o,b,R,h,c=>by
    by_cases e:x=i
    · subst e;rw[DZ];exact kj ..
    · rw[DY e];exact gV _ (nB.2 (.inr (BO o true R (qR h).other (c.other h e))))
theorem Gg{full:List Oper}{R:List Nat}(h:oQ full x R=true):oQ full x (rJ R i)=true:=by
  unfold oQ at h ⊢
  cases ho:full[x]? with
  | none=>rw[ho]at h;cases h
  | some o=>
    rw[ho]at h;refine oN.2 λp hp=>?_;have:=oN.1 h p hp;rw[V8]at this ⊢
    cases hc:(rJ R i).contains p with
    | false=>rfl
    | true=>rw[KQ.2 (rT.1 (KQ.1 hc)).1]at this;cases this
theorem KY{C:Ctx}{full:List Oper}{M:Array Nat}{i:Nat}:∀(T:Od) (b:Bool) (R:List Nat),okB C full M b T R=true->Can full M i b T R->okB C full M false (pull i T) (rJ R i)=true
  | .nil,b,R,h,c=>by
    simp only[okB,ado]at h;have:=c.mem;rw[h]at this;exact absurd this (by simp)
  | .op x st r,b,R,h,c=>by
    have k:=yq h
    by_cases e:x=i
    · subst e;rw[AR];exact k.rest
    · cases b with
      | true=>exact absurd c.eq e
      | false=>
        rw[AQ e];simp only[okB,dB];refine⟨KQ.2 (rT.2 ⟨k.mem,e⟩),Gg k.free,?_,?_⟩
        · exact oN.2 λp hp=>k.pair rfl p (yo i r p hp)
        · rw[Pj];exact KY r false _ k.rest (c.rest e)
  | .alt x st r o,b,R,h,c=>by
    by_cases e:x=i
    · subst e;rw[DX];exact(qR h).rest
    · rw[yp e];exact KY o true R (qR h).other (c.other h e)
theorem Jn{C:Ctx}{full:List Oper}{M:Array Nat}{x i:Nat×List Nat}(h:Jl C full M x i=true)(Vi:(M.getD i.1 0).testBit x.1=false):agL C full x i:=by
  obtain⟨ox,oi,g1,g2,g3,g4,g5,g6,g7⟩:=Gc h
  rcases g7 with g7|⟨k1,k2,k3,k4⟩
  · rw[Vi]at g7;cases g7
  · refine⟨λo1 e1=>?_,λo1 o2 e1 e2=>?_,λo1 o2 e1 e2 hnq hr=>?_⟩
    · rw[g1]at e1;have:=Option.some.inj e1;subst this;exact k1
    · rw[g1]at e1;rw[g2]at e2;have:=Option.some.inj e1;subst this;have:=Option.some.inj e2;subst this;exact⟨k2,k3,g5⟩
    · rw[g1]at e1;rw[g2]at e2;have:=Option.some.inj e1;subst this;have:=Option.some.inj e2;subst this
      rcases k4 with k4|k4|k4
      · rw[hnq]at k4;cases k4
      · rw[hr]at k4;cases k4
      · exact k4
theorem Can.no{full:List Oper}{M:Array Nat}{b:Bool}{T:Od}{R:List Nat}(c:Can full M i b T R)(h:x ∈ R):(M.getD i 0).testBit x=false:=by
  cases e:(M.getD i 0).testBit x with
  | false=>rfl
  | true=>exact absurd h (c.up x e)
theorem yr{C:Ctx}{full:List Oper}{M:Array Nat}{i:Nat}{o:Oper}(ho:full[i]?=some o)(hr:ft C o.op=true):∀(T:Od) (b:Bool) (R:List Nat),okB C full M b T R=true->Can full M i b T R->
    ∀y∈MA (pull i T),∀oy,full[y.1]?=some oy->gX full oy o=false/\oP oy o=false
  | .nil,b,R,h,c,y,hy,oy,Wb=>absurd hy (by simp[pull,MA])
  | .op x st r,b,R,h,c,y,hy,oy,Wb=>by
    have k:=yq h
    by_cases e:x=i
    · subst e
      rw[AR]at hy
      cases b with
      | true=>
        have:=k.alt rfl;unfold zi at this;rw[ho]at this;simp[hr]at this
      | false=>exact DW (k.pair rfl y hy) o oy ho Wb hr
    · cases b with
      | true=>exact absurd c.eq e
      | false=>
        rw[AQ e]at hy
        rcases fO.1 hy with hy|hy
        · subst hy
          have hm:=BO r false _ k.rest (c.rest e);have sw:=Jn (k.pair rfl _ hm) (c.no k.mem);obtain⟨k1,_,k3⟩:=sw.a oy o Wb ho;exact⟨k1,k3⟩
        · exact yr ho hr r false _ k.rest (c.rest e) y hy oy Wb
  | .alt x st r o',b,R,h,c,y,hy,oy,Wb=>by
    by_cases e:x=i
    · subst e
      have:=(qR h).quiet;unfold zi at this;rw[ho]at this;simp[hr]at this
    · rw[yp e]at hy
      exact yr ho hr o' true R (qR h).other (c.other h e) y hy oy Wb
theorem Ga.sub{C:Ctx}{full:List Oper}{D:Nat->Bool}{L L':List (Nat×List Nat)}(h:Ga C full D L)(hs:∀ y ∈ L',y ∈ L):Ga C full D L':=
  λj oj hD zh hr x hx ox Ij=>h j oj hD zh hr x (hs x hx) ox Ij
theorem AU{C:Ctx}{full:List Oper}{n:Nat}{M:Array Nat}(uZ:∀ o ∈ full,v7 n o=true)(KU:∀ o ∈ full,FZ o=true)(MC:∀ o ∈ full,ft C o.op=true->gX full o o=false/\o.dst.isNone=false)(i:Nat)(N:Act->World->Prop) :
    ∀(T:Od) (b:Bool) (R:List Nat) (D:Nat->Bool) (a:Act) (w:World),okB C full M b T R=true->Can full M i b T R->(∀x∈MA T,∀j∈x.2,∀oj,full[j]?=some oj->ft C oj.op=true)->
      a.tmps.size=n->Ga C full D (MA T)->SW C full T D N a w->xB C full i (AP i T) D (λa w=>SW C full (pull i T) (gv D i) N a w) a w
  | .nil,b,R,D,a,w,h,c,_,_,_,_=>by
    simp only[okB,ado]at h;have:=c.mem;rw[h]at this;exact absurd this (by simp)
  | .op x st r,b,R,D,a,w,h,c,tB,lV,Vh,hs=>by
    have k:=yq h
    by_cases e:x=i
    · subst e;rw[AR,Gf];exact hs
    · cases b with
      | true=>exact absurd c.eq e
      | false=>
        rw[AQ e,Ge e];have hm:=BO r false _ k.rest (c.rest e);have sw:=Jn (k.pair rfl _ hm) (c.no k.mem);refine Ph uZ KU MC i (AP i r) (tB _ (gV _ hm)) (x:=(x,st)) sw (Vh.sub λy hy=>by rw[kU.1 hy];exact kj ..)
          (A:=λa w=>SW C full r (gv D x) N a w) (B:=λD a w=>SW C full (pull i r) D N a w) lV (λv hv=>?_) hs
        obtain⟨ox,Ij,hv⟩:=hv;refine⟨ox,Ij,?_⟩;refine AU uZ KU MC i N r false _ (gv D x) _ w k.rest (c.rest e) (λy hy=>tB y (gV _ hy)) (by rw[size_put];exact lV) ?_ hv;intro j oj hD zh hr y hy oy Wb;simp only[gv,BM]at hD
        rcases hD with hD|hD
        · have e:=xP hD
          subst e;exact DW (k.pair rfl y hy) oj oy zh Wb hr
        · exact Vh j oj hD zh hr y (gV _ hy) oy Wb
  | .alt x st r o,b,R,D,a,w,h,c,tB,lV,Vh,hs=>by
    by_cases e:x=i
    · subst e;rw[DX,DZ];exact hs.1
    · rw[yp e,DY e]
      exact AU uZ KU MC i N o true R D a w (qR h).other (c.other h e) (λy hy=>tB y (gV _ (nB.2 (.inr hy)))) lV
        (Vh.sub λy hy=>gV _ (nB.2 (.inr hy))) hs.2
structure agQ(C:Ctx)(full:List Oper)(L:Od):Prop where
  sel:∀o∈full,FZ o=true
  back:∀i o,full[i]?=some o->∀p∈mh o,p<i
  self:∀o∈full,ft C o.op=true->gX full o o=false/\o.dst.isNone=false
  st:∀x∈MA L,∀j∈x.2,∀oj,full[j]?=some oj->ft C oj.op=true
  ok:okB C full (uw full #[]) false L (List.range full.length)=true
theorem Pk{C:Ctx}{full:List Oper}{L:Od}(h:Rt C full L=true):agQ C full L:=by
  simp only[Rt,dB]at h;obtain⟨h1,h2,h3,h5,h6⟩:=h;refine⟨oN.1 h1,?_,?_,?_,h6⟩
  · intro i o ho p hp
    have hm:(o,i)∈full.zipIdx:=by
      rw[List.mem_iff_getElem?];exact⟨i,by simp[List.getElem?_zipIdx,ho]⟩
    have:=oN.1 (oN.1 h2 _ hm) p hp;exact xS this
  · intro o ho hr
    have:=oN.1 h3 o ho;rw[hr]at this;simpa using this
  · intro x hx j hj oj zh
    have:=oN.1 h5 x hx;simp only[dB]at this;have:=oN.1 this.2 j hj;rw[zh]at this;exact this
theorem adr{C:Ctx}{ro:Option Nat}{full:List Oper}(hnd:∀ o ∈ full,iX o.op=false)(uZ:∀ o ∈ full,v7 n o=true){L0:Od}(hp:agQ C full L0){Q:Exit->Act->World->Prop}{N:Act->World->Prop}(hN:∀ a w,N a w->Q .normal a w) :
    ∀(fuel:Nat) (listed:Array Bool) (T:Od) (R:List Nat) (D:Nat->Bool) (a:Act) (w:World),listed.size=full.length->okB C full (uw full #[]) false T R=true->(∀y∈MA T,y∈MA L0)->
      (∀i,i<full.length->(listed.getD i true=false↔i∈R))->(∀i∈R,i<full.length)->(∀i o,full[i]?=some o->listed.getD i false=true->∀p∈mh o,listed.getD p false=true)->
      Ga C full D (MA T)->a.tmps.size=n->R.length<=fuel->SW C full T D N a w->wpAnyIn (FW ro) 0 C.P .any full.toArray Q fuel listed a w:=by
  have pm:∀(o:Oper) (e:Edge),e∈o.after->Region.binds .any e=true->e.on∈mh o:=λo e he hb=>
    jc.2 ⟨e,H7.2 ⟨by simpa using he,hb⟩,rfl⟩
  have mp:∀(o:Oper) (p:Nat),p∈mh o->∃e∈o.after,Region.binds .any e=true/\e.on=p:=λo p h=>by
    obtain⟨e,he,rfl⟩:=jc.1 h;obtain⟨h1,h2⟩:=H7.1 he;exact⟨e,by simpa using h1,h2,rfl⟩
  have flip:∀(listed:Array Bool) (i:Nat),listed.size=full.length->i<full.length->listed.getD i true=listed.getD i false:=by
    intro listed i hs hi;have bV:i<listed.size:=oX;rw[TL,TL,Array.getElem?_eq_getElem bV];rfl
  -- where nothing is ready, nothing is left
  have TP:∀(listed:Array Bool) (T:Od) (R:List Nat),listed.size=full.length->okB C full (uw full #[]) false T R=true->(∀i,i<full.length->(listed.getD i true=false↔i∈R))->(∀i∈R,i<full.length)->
      Region.ready .any full.toArray listed=[]->T = .nil:=by
    intro listed T R hs ue EG Pl hr
    have go:∀x,x∈R->oQ full x R=true->False:=by
      intro x hxm MG;have bV:=Pl x hxm;have Ij:full[x]?=some full[x]:=fg bV
      have xK:x∈Region.ready .any full.toArray listed:=by
        refine mem_ready.2 ⟨(EG x bV).2 hxm,full[x],by simp,λe he hb=>?_⟩;have YJ:=pm _ e he hb;have hplt:=hp.back _ _ Ij _ YJ
        cases hl:listed.getD e.on false with
        | true=>rfl
        | false=>
          exfalso;rw[<-flip listed e.on hs oX]at hl;have hin:=(EG e.on oX).1 hl;unfold oQ at MG;rw[Ij]at MG;have:=oN.1 MG e.on YJ;rw[KQ.2 hin]at this;cases this
      rw[hr]at xK;exact absurd xK (by simp)
    cases T with
    | nil=>rfl
    | op x st r=>exact(go x (yq ue).mem (yq ue).free).elim
    | alt x st r o=>exact(go x (qR ue).mem (qR ue).free).elim
  intro fuel
  induction fuel with
  | zero=>
    intro listed T R D a w hs ue ads EG Pl Gb Vh lV hlen h;have hL:R=[]:=List.eq_nil_of_length_eq_zero oX;subst hL
    have hT:T = .nil:=by
      cases T with
      | nil=>rfl
      | op x st r=>exact absurd (yq ue).mem (by simp)
      | alt x st r o=>exact absurd (qR ue).mem (by simp)
    subst hT;refine⟨?_,hN _ _ h⟩
    cases hr:Region.ready .any full.toArray listed with
    | nil=>rfl
    | cons j r=>
      exfalso;have hj:j∈Region.ready .any full.toArray listed:=(by rw[hr];simp);obtain⟨h1,o,h2,_⟩:=mem_ready.1 hj
      have bV:j<full.length:=by
        have:=(Array.getElem?_eq_some_iff.1 h2).1;simpa using this
      exact absurd ((EG j bV).1 h1) (by simp)
  | succ fuel ih=>
    intro listed T R D a w hs ue ads EG Pl Gb Vh lV hlen h;refine⟨λhr=>?_,λi hi=>?_⟩
    · have:=TP listed T R hs ue EG Pl hr
      subst this;exact hN _ _ h
    · obtain⟨h1,o,h2,h3⟩:=mem_ready.1 hi
      have ho:full[i]?=some o:=(by simpa using h2);have bV:i<full.length:=(adn.1 ho).1;have hiR:=(EG i bV).1 h1
      have We:∀p∈mh o,listed.getD p false=true:=λp uY=>by
        obtain⟨e,he,hb,rfl⟩:=mp o p uY;exact h3 e he hb
      have adt:=KW hp.back (listed:=λk=>listed.getD k false) Gb i o ho We
      have can:Can full (uw full #[]) i false T R:=by
        refine⟨hiR,λk hk hm=>?_,λe=>by cases e⟩;have h4:=adt k hk;have h4:listed.getD k false=true:=h4;rw[<-flip listed k hs (Pl k hm),(EG k (Pl k hm)).2 hm]at h4
        cases h4
      obtain⟨o',Ro,hf⟩:=AU uZ hp.sel hp.self i N T false R D a w ue can (λx hx=>hp.st x (ads x hx)) lV Vh h;rw[ho]at Ro;have:=Option.some.inj Ro;subst this
      have next:∀(v:Value) (w':World),SW C full (pull i T) (gv D i) N (a.put o.dst v) w'->wpAnyIn (FW ro) 0 C.P .any full.toArray Q fuel (listed.setIfInBounds i true) (a.put o.dst v) w':=by
        intro v w' hsw;refine ih _ _ (rJ R i) _ _ _ (by simpa using hs) (KY T false R ue can) (λy hy=>ads y (yo i T y hy)) ?_ (λj hj=>Pl j (rT.1 hj).1) ?_ ?_ (by rw[size_put];exact lV) (by have:=KX hiR;omega) hsw
        · intro j hj
          by_cases e:i=j
          · subst e
            constructor
            · intro hh
              have:(listed.setIfInBounds i true).getD i true=true:=by
                rw[TL];simp[show i<listed.size by omega]
              rw[this]at hh;cases hh
            · intro hh;exact absurd rfl (rT.1 hh).2
          · rw[getD_set_ne true e,EG j hj,rT]
            exact⟨λhh=>⟨hh,λe'=>e e'.symm⟩,λhh=>hh.1⟩
        · intro j oj zh hl p uY
          by_cases e:i=j
          · subst e
            rw[ho]at zh;have:=Option.some.inj zh;subst this;exact getD_set_true (We p uY)
          · rw[getD_set_ne false e]at hl
            exact getD_set_true (Gb j oj zh hl p uY)
        · intro j oj hD zh hr x Zh ox Ij
          simp only[gv,BM]at hD
          rcases hD with hD|hD
          · have e:=xP hD
            subst e;exact yr zh hr T false R ue can x Zh ox Ij
          · exact Vh j oj hD zh hr x (yo i T x Zh) ox Ij
      have hd:ro=none∨iX o.op=false:=.inr (hnd o (Fv ho));unfold wpOpIn;simp only[h2]
      split
      · rename_i hw
        have VQ:tM full a o=true:=hw;rw[VQ,if_pos rfl]at hf
        cases hq:Pa C o.op with
        | true=>
          rw[hq,if_pos rfl]at hf;obtain⟨v,r1,_,r3⟩:=hf;exact tU hd (k:=λu w'=>u=v/\w'=w) (.inl ⟨v,w,r1,rfl,rfl⟩) λu w' ⟨e1,e2⟩=>by subst e1;subst e2;exact next _ _ r3
        | false=>
          rw[hq,if_neg (by simp)]at hf;exact tU hd hf λu w' ⟨_,hk⟩=>next _ _ hk
      · rename_i hw
        have VQ:tM full a o=false:=(by simpa[tM]using hw);rw[VQ,if_neg (by simp)]at hf;exact⟨λ_ _=>trivial,next _ _ hf⟩
theorem va{C:Ctx}{full:List Oper}{n:Nat}{a:Act}{f:Fr}(hA:wP n a f){h:ad}{K:Prop}:∀{js:List Nat},CX C full f h js K->
    (∀j∈js,∀oj,full[j]?=some oj->tM full a oj=true->KE C f h oj)/\K
  | [],hk=>⟨λj hj=>absurd hj (by simp),hk⟩
  | j::r,hk=>by
    obtain⟨o,ho,h1⟩:=bI (show ae (full[j]?) _ from hk);have h2:=xa hA h1
    cases hw:tM full a o with
    | true=>
      rw[show Region.wanted o (yielded full.toArray a.tmps)=true from hw]at h2;obtain⟨h3,h4⟩:=h2;obtain⟨i1,i2⟩:=va hA h4;refine⟨λk hk oj zh hwj=>?_,i2⟩
      rcases fO.1 hk with rfl|hk
      · rw[ho]at zh;have:=Option.some.inj zh;subst this;exact h3
      · exact i1 k hk oj zh hwj
    | false=>
      rw[show Region.wanted o (yielded full.toArray a.tmps)=false from hw]at h2;obtain⟨i1,i2⟩:=va hA (show CX C full f h r K from h2);refine⟨λk hk oj zh hwj=>?_,i2⟩
      rcases fO.1 hk with rfl|hk
      · rw[ho]at zh;have:=Option.some.inj zh;subst this;rw[hw]at hwj;cases hwj
      · exact i1 k hk oj zh hwj
theorem KZ(s:ByteArray):mkStr s.toList=s:=by
  rw[ByteArray.toList_eq];rfl
theorem TQ{C:Ctx}(hC:mo C){n:Nat}{a:Act}{f:Fr}(hA:wP n a f){o:Oper}{w:World}(h:KE C f w.heap o):qQ C.P a o w (KS a o):=by
  unfold KE at h
  cases hd:o.dst with
  | none=>rw[hd]at h;exact h.elim
  | some d=>
    rw[hd]at h;obtain⟨v,hv,h1⟩:=bI h;have hdv:KS a o=v:=(by unfold KS;rw[hd];exact hA.val d v hv);rw[hdv];unfold qQ
    cases ho:o.op with
    | load t x=>
      rw[ho]at h1;obtain⟨p,hp,h2⟩:=uu hA.fit h1;obtain⟨hx,h3⟩:=hC.uT h2;obtain⟨i,ds,z,hi,hu,AD,lV,_,_,_⟩:=hx.get;have xA:=qL hu w;have he:execOp a.eval o=(do Pure.pure (.value (<-Instr.loadAt t (a.eval x)))):=(by simp only[execOp,ho]);rw[he,hp]
      have key:(loadVar t p).run C.P w = .ok v w:=by
        unfold loadVar
        cases hq:jN (ar ds)with
        | true=>
          rw[hq]at xA;have hty:(C.ti t).d.ty = .agg:=(by rw[<-AD];revert hq;cases ar ds <;> simp[jN,D.ty]);rw[hty]at h3;obtain⟨cs,rfl,hl,hc⟩:=AK h3;have Za:=run_loadCells_list (P:=C.P) w p cs (λj v hv=>hc j v hv);simp only[Sem.run_bind,xA,Result.andThen_ok,if_true,cy hi,lV,<-hl,Za,Sem.run_pure]
        | false=>
          rw[hq]at xA;have hty:(C.ti t).d.ty≠.agg:=by rw[<-AD];revert hq;cases ar ds <;> simp[jN,D.ty]
          have h4:cellOf w.heap p=some v:=by
            cases hq2:(C.ti t).d.ty <;> rw[hq2]at h3 hty <;> first|exact h3|exact(hty rfl).elim
          simp[Sem.run_bind,xA,sM,h4]
      simp only[Instr.loadAt,Instr.sureAddr,Sem.run_bind,Sem.run_pure,Result.andThen_ok,key]
    | convert s t x=>
      rw[ho]at h1;simp only at h1;have hs:(C.ti s).d≠.other:=(by intro e;rw[e]at h1;exact h1.elim);have ht:(C.ti t).d≠.other:=(by intro e;rw[e]at h1;split at h1 <;> first|exact h1.elim|simp at *);obtain⟨_,dss,_,_,VZ,hds,_⟩:=(hC.FE hs).get;obtain⟨_,dt,_,_,TE,H0,_⟩:=(hC.FE ht).get;rw[<-hds,<-H0]at h1
      cases dss <;> cases dt <;> try exact h1.elim
      rename_i e;simp only[ar]at h1
      cases hb:zO (C.ti e).d with
      | false=>rw[hb]at h1;exact h1.elim
      | true=>
        rw[hb]at h1;obtain⟨al,l,c,hx,h2⟩:=mK (bM hA.fit (show px f x _ from h1));obtain⟨b,hvb,tB⟩:=wZ h2;have he:(C.ti e).d≠.other:=(by intro e';rw[e']at hb;simp[zO]at hb);obtain⟨_,de,_,_,hue,hde,_⟩:=(hC.FE he).get;rw[<-hde]at hb
        have adf:C.P.underlying e=some (.int .u8):=by
          cases de <;> simp[ar,zO]at hb
          rename_i kd
          cases kd <;> simp at hb
          exact hue
        have hr:(convert s t (.slice al l c)).run C.P w = .ok v w:=by
          rw[run_convert_bytes_string w s t e al l c VZ adf TE,DS tB,KZ,hvb]
        have Zr:execOp a.eval o=(do Pure.pure (.value (<-convert s t (a.eval x)))):=(by simp only[execOp,ho]);rw[Zr,hx,Sem.run_bind,hr];rfl
    | _=>rw[ho]at h1;exact h1.elim
theorem Jo{C:Ctx}(hC:mo C){full:List Oper}{n:Nat}(uZ:∀ o ∈ full,v7 n o=true){w0:World}{a0:Act}{i:Nat}{st:List Nat}{D:Nat->Bool}{K:Fr->ad->Prop}{A:Act->World->Prop}{f:Fr}{a:Act}{w:World}
    (h:doX C full i st K f w.heap) (hA:wP n a f) (hR:bh w0 w) (hM:jY (dstsOf full) a0 a)
    (hK:∀f a w,K f w.heap->wP n a f->bh w0 w->jY (dstsOf full) a0 a->A a w):xB C full i st D A a w:=by
    obtain⟨o,ho,h1⟩:=bI (show ae (full[i]?) _ from h);have xK:=Fv ho;have hd:=uZ o xK;have Vf:∀d,o.dst=some d->d∈dstsOf full:=λd hd=>AN xK hd;have h2:=xa hA h1;refine⟨o,ho,?_⟩
    cases hw:tM full a o with
    | false=>
      rw[show Region.wanted o (yielded full.toArray a.tmps)=false from hw]at h2;rw[if_neg (by simp)];exact hK _ _ _ h2 (hA.put hd undef) hR (hM.put Vf undef)
    | true=>
      rw[show Region.wanted o (yielded full.toArray a.tmps)=true from hw]at h2;rw[if_pos rfl];have h2:zY C f o.op o.type (λv h'=>CX C full f h' st (xX (guards full o) v λv=>K (mf f o.dst v) h')) w.heap:=h2
      cases hq:Pa C o.op with
      | true=>
        rw[if_pos rfl];obtain⟨v,r1,r2,r3⟩:=Mu hC hA.fit o hq h2;exact⟨v,r1,r3,hK _ _ _ (u9 (va hA r2).2) (hA.put hd v) hR (hM.put Vf v)⟩
      | false=>
        rw[if_neg (by simp)];refine(FR hC hA.fit o h2).mono λv w' ⟨hr,hk⟩=>?_;obtain⟨k1,k2⟩:=va hA hk;exact⟨λj hj _ oj zh hwj=>TQ hC hA (k1 j hj oj zh hwj),hK _ _ _ (u9 k2) (hA.put hd v) (hR.trans hr) (hM.put Vf v)⟩
theorem BP{C:Ctx}(hC:mo C){full:List Oper}{n:Nat}(uZ:∀ o ∈ full,v7 n o=true){w0:World}{a0:Act}{N:Fr->ad->Prop} :
    ∀(L:Od) (D:Nat->Bool) (f:Fr) (a:Act) (w:World),CY C full L N f w.heap->wP n a f->bh w0 w->jY (dstsOf full) a0 a->
      SW C full L D (λa w=>∃f,N f w.heap/\wP n a f/\bh w0 w/\jY (dstsOf full) a0 a) a w
  | .nil,D,f,a,w,h,hA,hR,hM=>⟨f,h,hA,hR,hM⟩
  | .op i st r,D,f,a,w,h,hA,hR,hM=>Jo hC uZ h hA hR hM λf a w h hA hR hM=>BP hC uZ r _ f a w h hA hR hM
  | .alt i st r o,D,f,a,w,h,hA,hR,hM=>⟨Jo hC uZ h.1 hA hR hM λf a w h hA hR hM=>BP hC uZ r _ f a w h hA hR hM,BP hC uZ o D f a w h.2 hA hR hM⟩
theorem MH{C:Ctx}(hC:mo C)(n:Nat):Mw C n λid full=>Rt C full (C.vF id):=by
  intro ro id ops N R f a w0 w agR uZ hnd h hA hR hN;have hp:=Pk agR;refine wpIn_region_any hC.mixed ?_;have hw:bh w0 { w with drawn:=w.drawn+1 }:=⟨hR.1,hR.2.1,hR.2.2⟩;have hsw:=BP hC (full:=ops.toList) uZ (w0:=w0) (a0:=a) (N:=N) (C.vF id) (λ_=>false) f a { w with drawn:=w.drawn+1 } h hA hw (.refl _ _);have hlen:(Array.replicate ops.size false).size=ops.toList.length:=by simp
  have:=adr (ro:=ro) (n:=n) hnd uZ hp (Q:=R) (λa w ⟨f,h1,h2,h3,h4⟩=>hN f a w h1 h2 h3 h4) ops.size (Array.replicate ops.size false) (C.vF id) (List.range ops.toList.length) (λ_=>false) a { w with drawn:=w.drawn+1 } hlen hp.ok (λ_ h=>h)
    (λi hi=>by
      have tK:i<ops.size:=by simpa using hi
      constructor
      · exact λ_=>TJ.2 hi
      · exact λ_=>by rw[TL];simp[tK])
    (λi hi=>TJ.1 hi)
    (λi o ho hl=>by
      exfalso;rw[TL]at hl
      by_cases hi:i<ops.size <;> simp[hi]at hl)
    (λj oj hD=>by cases hD) hA.size ?_ hsw
  · simpa using this
  · simp
theorem Jp : ∀(l:LV) (i:Nat),i+l.length<=iL->wS (DO l i)=[]
  | [],_,_=>rfl
  | x::r,i,h=>by
    rw[pA]at h;rw[DO,vZ _ _ _ (Nat.ne_of_lt (mV oX h)),Jp r (i+1) oX]
theorem Jq : ∀(l:LV) (i t:Nat) (v:Value),i+l.length<=iL->Fr.get (DO l i) t=some v->i<=t/\l[t-i]?=some v
  | [],_,t,_,_,h=>by rw[show DO [] _=[] from rfl,Fr.get_nil]at h;cases h
  | x::r,i,t,v,Zs,h=>by
    rw[pA]at Zs;rw[DO,Fr.uv _ _ _ _ (Nat.ne_of_lt (mV oX Zs))]at h
    by_cases e:i=t
    · subst e;rw[if_pos rfl]at h;exact⟨bE _,by simpa using h⟩
    · rw[if_neg e]at h
      obtain⟨h1,h2⟩:=Jq r (i+1) t v oX h;refine⟨oX,?_⟩;rw[show t-i=(t-(i+1))+1 by omega];simpa using h2
def K0(a:Act):ResultVar->Sem Value
  | .tmp t=>Pure.pure (a.tmps.getD t undef)
  | .cell s t=>do loadVar t (<-asAddr (a.tmps.getD s undef))
theorem K3{C:Ctx}(hC:mo C){n:Nat}{a:Act}{f:Fr}(hA:wP n a f){w:World}:∀(rs:List ResultVar) (acc:LV) (k:LV->Prop),Tr C rs f w.heap acc k->
    ∃vs,(rs.mapM (K0 a)).run C.P w = .ok vs w/\k (acc++vs)
  | [],acc,k,h=>⟨[],rfl,by simpa[Tr]using h⟩
  | .tmp t::r,acc,k,h=>by
    obtain⟨v,hv,h1⟩:=bI (show ae (Fr.get f t) _ from h);obtain⟨vs,h2,h3⟩:=K3 hC hA r _ k h1;refine⟨v::vs,?_,by simpa using h3⟩;rw[agK];simp only[K0,Sem.run_bind,Sem.run_pure,Result.andThen_ok,hA.val t v hv,h2]
  | .cell s t::r,acc,k,h=>by
    obtain⟨v,hv,h1⟩:=bI (show ae (Fr.get f s) _ from h);obtain⟨q,hq,h2⟩:=AJ h1;obtain⟨p,hp,h3⟩:=bI h2;obtain⟨hx,h4⟩:=hC.uT h3;obtain⟨u,hr,h5⟩:=FF hx h4;obtain⟨vs,h6,h7⟩:=K3 hC hA r _ k h5;refine⟨u::vs,?_,by simpa using h7⟩;have BI:=hA.val s v hv;rw[agK];simp only[K0,Sem.run_bind,Sem.run_pure,Result.andThen_ok,BI,hq,hp,asAddr,hr,h6]
def Pm(C:Ctx)(fn:Func)(c:Code)(Wf:Nat):Bool:=
  codeOk C fn.ntmps (fun id full => Rt C full (C.vF id)) c && Nat.ble Wf fn.ntmps && !(fn.name == "runtime.NumGoroutine") && Nat.ble fn.ntmps iL
theorem MI(hle:args.length<=m)(Zs:m<=iL):wP m { tmps:=⟨args⟩++Array.replicate (m-(⟨args⟩:Array Value).size) undef,defers:=[] } (DO args 0):=by
  refine⟨Zs,by simp;omega,by rw[Jp _ _ oX];rfl,λt v hv=>?_⟩;obtain⟨_,h5⟩:=Jq args 0 t v oX hv;simp only[Nat.sub_zero]at h5;have bV:=(adn.1 h5).1;rw[TL,Array.getElem?_append_left (by simpa using bV)];simp[h5]
theorem Gi{C:Ctx}(hC:mo C){n:Nat}{fn:Func}{a:Act}{f:Fr}(hA:wP n a f){w:World}{k:Value->Prop}(h:Tr C fn.results.toList f w.heap [] λvs=>k (acY vs)):∃v,(results fn a.tmps).run C.P w = .ok v w/\k v:=by
  obtain⟨vs,g1,g2⟩:=K3 hC hA _ _ _ h;refine⟨acY vs,?_,by simpa using g2⟩
  have adv:results fn a.tmps=(do let vs<-fn.results.mapM (K0 a);Pure.pure (if h:vs.size=1 then vs[0]else .tuple vs)):=by
    unfold results;congr 2
  rw[adv,Sem.run_bind,Array.mapM_eq_mapM_toList,Sem.run_map,g1];simp only[Result.andThen_ok,Sem.run_pure];congr 1
  cases vs with
  | nil=>rfl
  | cons v r=>cases r <;> rfl
theorem C9{C:Ctx}(hC:mo C){n:Nat}{fn:Func}{a:Act}{f:Fr}(hA:wP n a f){w0:World}{k:KT}:∀(ds:LV) (w:World),xZ C fn.results.toList f k ds w.heap->bh w0 w->
    LeavesInM Fence.wide 0 C.P fn a.tmps (λe w'=>∃u,e = .returned u/\bh w0 w'/\k u w'.heap) (ds.map toD) .returning w
  | [],w,h,hR=>by
    obtain⟨v,h1,h2⟩:=Gi hC hA (k:=λv=>k v w.heap) h;exact⟨v,h1,v,rfl,hR,h2⟩
  | d::ds,w,h,hR=>by
    unfold xZ at h
    split at h
    · rename_i e;cases e
    · rename_i a' ds' e
      cases e
      exact⟨(λx=>by cases x),.inl ⟨_,_,rfl,run_takeDeferred h.1,C9 hC hA ds _ h.2 ⟨hR.1,hR.2.1,hR.2.2⟩⟩⟩
    · rename_i v us ds' e
      cases e
      unfold QY at h
      split at h
      · rename_i g fs cs
        obtain⟨⟨fn',hf',nE,pV⟩,hc⟩:=h;refine⟨(λx=>by cases x),.inr ⟨(λx=>by cases x),.func g,cs,g,⟨fs.toList++us++cs.toList⟩,rfl,?_,λ_ _=>trivial,?_⟩⟩
        · show(callFunc g _).run C.P w=_
          simp only[callFunc,Sem.run_bind,run_program,Result.andThen_ok,hf',nE,pV,Ay,if_false,Sem.run_pure];congr 2;apply Array.ext';simp[toD]
        · refine(hc w rfl).mono λe u w' ⟨hu,⟨v,he⟩,hsr,hk⟩=>?_
          subst hu;subst he;exact C9 hC hA ds w' hk (hR.trans hsr)
      · exact h.elim
    · exact h.elim
theorem Wg{C:Ctx}(hC:mo C){g:Nat}{fn:Func}(hf:C.P.funcs[g]?=some fn){c:Code}(hb:fn.body=some c){args:LV}(ue:Pm C fn c args.length=true){k:KT}{h:ad}
    (hx:fnX C fn c args k h):qK C.P g args h k:=by
  simp only[Pm,dB,V8]at ue;obtain⟨⟨⟨h1,h2⟩,h3⟩,h4⟩:=ue;have hle:=xS h2;refine⟨⟨fn,hf,h3,by rw[hb];rfl⟩,λw hw=>?_⟩;subst hw;refine(callsIn_wide (n:=0)).1 (callsIn_of_wp_marks hf hb trivial ?_)
  have leave:∀(f:Fr) (a:Act) (w':World),xZ C fn.results.toList f k (wS f) w'.heap->wP fn.ntmps a f->bh w w'->LeavesInM Fence.wide 0 C.P fn a.tmps (λe w'=>∃u,e = .returned u/\bh w w'/\k u w'.heap) a.defers .returning w':=by
    intro f a w' hr hA hR;rw[hA.defers];exact C9 hC hA (wS f) w' hr hR
  exact V7 hC (MH hC fn.ntmps) c h1 none (.inl rfl) w _ _ _ _ _ w hx (MI hle (xS h4)) (.refl _) ⟨λf a w' hr hA hR _=>leave f a w' hr hA hR,λid f a w' hr=>hr.elim,λf a w' hr hA hR _=>leave f a w' hr hA hR,λ_ _ _ _ hr=>hr.elim⟩
def Jr(C:Ctx)(fn:Func)(c:Code)(Wf:Nat):Bool:=Pm C fn c Wf && (iV c).all λm=>!(Nat.beq m iL)
theorem K4{C:Ctx}(hC:mo C){g:Nat}{fn:Func}(hf:C.P.funcs[g]?=some fn){c:Code}(hb:fn.body=some c){args:LV}(ue:Jr C fn c args.length=true){k:HP}{h:ad}
    (hx:fnX C fn c args (λ_ h'=>k h') h):CV C.P g args h k:=by
  simp only[Jr,Pm,dB,V8]at ue;obtain⟨⟨⟨⟨h1,h2⟩,h3⟩,h4⟩,h5⟩:=ue;have hle:=xS h2
  have EH:iL ∉ iV c:=λhm=>by
    have:=oN.1 h5 _ hm;simp[vE]at this
  refine⟨⟨fn,hf,h3,by rw[hb];rfl⟩,λw hw=>?_⟩;subst hw;refine(callsDIn_of_wp (R:=λe w'=>(∃v,e = .returned v)/\bh w w'/\k w'.heap) hf hb trivial ?_).mono λe u w' ⟨h1,h2⟩=>⟨h1,h2⟩
  have leave:∀(f:Fr) (a:Act) (w':World),xZ C fn.results.toList f (λ_ h'=>k h') (wS f) w'.heap->wP fn.ntmps a f->bh w w'->a.defers=[]->a.defers=[]/\∃v,(results fn a.tmps).run C.P w' = .ok v w'/\(∃u,Ending.returned v = .returned u)/\bh w w'/\k w'.heap:=by
    intro f a w' hr hA hR hd
    have hdf:wS f=[]:=by
      have:=hA.defers;rw[hd]at this;exact List.map_eq_nil_iff.1 this.symm
    rw[hdf]at hr;obtain⟨v,g1,g2⟩:=Gi hC hA (k:=λ_=>k w'.heap) hr;exact⟨hd,v,g1,⟨v,rfl⟩,hR,g2⟩
  exact V7 hC (MH hC fn.ntmps) c h1 none (.inl rfl) w _ _ _ _ _ w hx (MI hle (xS h4)) (.refl _) ⟨λf a w' hr hA hR hM=>leave f a w' hr hA hR (hM.V4 EH),λid f a w' hr=>hr.elim,λf a w' hr hA hR hd=>leave f a w' hr hA hR (hd EH),λ_ _ _ _ hr=>hr.elim⟩
end Wx
namespace Hp
def rd(h:ad)(b:Nat):LV:=
 match h[b]? with
 | some (.cells c _ _)=>c.toList
 | _=>[]
def dA(h:ad)(b:Nat):Prop:=∃c T f,h[b]?=some (.cells c T f)/\(f=(0,0)∨c.size<=f.1)
structure Fr(F:NP)(h h':ad):Prop where
 size:h.size<=h'.size
 same:∀b,b<h.size->¬F b->h'[b]?=h[b]?
def No : Nat->Prop:=λ_=>False
def cW(n:Nat):Nat->Prop:=λb=>n<=b
theorem Fr.rd{F:NP}{h h':ad}(f:Fr F h h'){b:Nat}(hb:b<h.size)(hF:¬ F b):rd h' b=rd h b:=by
 simp only[Hp.rd,f.same b hb hF]
theorem Fr.own(f:Fr F h h'){b:Nat}(hb:b<h.size)(hF:¬ F b)(o:dA h b):dA h' b:=by
 obtain⟨c,T,z,e,k⟩:=o;exact⟨c,T,z,by rw[f.same b hb hF];exact e,k⟩
theorem Fr.refl(F:NP)(h:ad):Fr F h h:=⟨bE _,λ_ _ _=>rfl⟩
theorem Fr.trans{F G:NP}{h1 h2 h3:ad}(f:Fr F h1 h2)(g:Fr G h2 h3)(hs:∀ b,b<h1.size->G b->F b):Fr F h1 h3:=
 ⟨Nat.le_trans f.size g.size,λb hb hF=>(g.same b (mV hb f.size) (λx=>hF (hs b hb x))).trans (f.same b hb hF)⟩
theorem Fr.no(f:Fr F h1 h2)(g:Fr No h2 h3):Fr F h1 h3:=f.trans g λ_ _ x=>x.elim
theorem Fr.mono{G:NP}(f:Fr F h h')(hs:∀ b,b<h.size->F b->G b):Fr G h h':=
 ⟨f.size,λb hb hG=>f.same b hb λx=>hG (hs b hb x)⟩
theorem dA.lt(o:dA h b):b<h.size:=by
 obtain⟨c,T,z,e,_⟩:=o
 rcases rI b h.size with hl|hl
 ·exact hl
 ·rw[lw4 hl]at e;exact absurd e (by simp)
theorem pE{v:Value}(e:(rd h b)[o]?=some v):b<h.size:=by
 rcases rI b h.size with hl|hl
 ·exact hl
 ·simp only[rd,lw4 hl]at e;simp at e
theorem C'(h:ad)(cs:LV)(t:Nat):(uX h cs t).size=h.size+1:=by simp[uX]
theorem BQ(h:ad)(cs:LV)(t b:Nat):(uX h cs t)[b]?=if b=h.size then some (.cells ⟨cs⟩ t)else h[b]?:=by
 simp[uX,zT]
theorem Zt(h:ad)(cs:LV)(t b:Nat):rd (uX h cs t) b=if b=h.size then cs else rd h b:=by
 by_cases hb:b=h.size
 ·simp only[rd,BQ,if_pos hb]
 ·simp only[rd,BQ,if_neg hb]
theorem ux(h:ad)(cs:LV)(t:Nat):rd (uX h cs t) h.size=cs:=by rw[Zt,if_pos rfl]
theorem vb(h:ad)(cs:LV)(t:Nat):dA (uX h cs t) h.size:=⟨_,_,_,by rw[BQ,if_pos rfl],.inl rfl⟩
theorem Fr.uX{F:NP}{h h':ad}(f:Fr F h h')(cs:LV)(t:Nat):Fr F h (uX h' cs t):=
 ⟨by rw[C'];have:=f.size;omega,λb hb hF=>by rw[BQ,if_neg (by have:=f.size;omega)];exact f.same b hb hF⟩
theorem EY(cs:LV)(t:Nat):Fr F h (Wx.uX h cs t):=(Fr.refl F h).uX cs t
theorem size_setOf(h:ad)(a:Addr)(v:Value):(setOf h a v).size=h.size:=by simp[setOf]
theorem zj(h:ad)(b o:Nat)(v:Value)(c:Nat):(setOf h ⟨b,o,none⟩ v)[c]?=if c=b then(h[c]?).map (λx=>match x with| .cells cs e f=>.cells (cs.setIfInBounds o v) e f|x=>x)else h[c]?:=by
 simp only[setOf,Array.getElem?_modify,Option.isSome_none,Ay,if_false]
 by_cases hc:c=b
 ·subst hc;simp;rfl
 ·simp[hc,Ne.symm hc]
theorem MJ(h:ad)(b o:Nat)(v:Value)(c:Nat):rd (setOf h ⟨b,o,none⟩ v) c=if c=b then(rd h b).set o v else rd h c:=by
 simp only[rd,zj]
 by_cases hc:c=b
 ·subst hc;simp only[if_pos];cases h[c]? with
  | none=>simp
  | some x=>cases x <;> simp
 ·simp only[if_neg hc]
theorem MK(h:ad)(b o:Nat)(v:Value):rd (setOf h ⟨b,o,none⟩ v) b=(rd h b).set o v:=by rw[MJ,if_pos rfl]
theorem Js{v:Value}(w:dA h c):dA (setOf h ⟨b,o,none⟩ v) c:=by
 obtain⟨cs,T,z,e,k⟩:=w
 by_cases hc:c=b
 ·exact⟨cs.setIfInBounds o v,T,z,by rw[zj,if_pos hc,e];rfl,by rw[Array.size_setIfInBounds];exact k⟩
 ·exact⟨cs,T,z,by rw[zj,if_neg hc];exact e,k⟩
theorem Fr.setOf{F:NP}{h h':ad}(f:Fr F h h'){b o:Nat}{v:Value}(hb:F b∨h.size<=b):Fr F h (setOf h' ⟨b,o,none⟩ v):=
 ⟨by rw[size_setOf];exact f.size,λc hc hF=>by
  rw[zj,if_neg (by rintro rfl;rcases hb with hb|hb;exact hF hb;omega)];exact f.same c hc hF⟩
def put(xs:LV)(o:Nat):LV->LV
 | []=>xs
 | v::r=>put (xs.set o v) (o+1) r
theorem dQ(cs:LV):∀(xs:LV) (o:Nat),(put xs o cs).length=xs.length:=by
 induction cs with
 | nil=>intros;rfl
 | cons v r ih=>intro xs o;simp[put,ih]
theorem tV(cs:LV):∀(xs:LV) (o i:Nat),o+cs.length<=xs.length->(put xs o cs)[i]?=if o<=i/\i<o+cs.length then cs[i-o]? else xs[i]?:=by
 induction cs with
 | nil=>intro xs o i h;rw[if_neg (by rw[FX];omega)];rfl
 | cons v r ih=>
  intro xs o i h;simp only[pA]at h;simp only[put];rw[ih (xs.set o v) (o+1) i (by simp;omega)]
  by_cases h1:i=o
  ·subst h1;rw[if_neg oX,if_pos ⟨bE _,by rw[pA];omega⟩,List.getElem?_set,if_pos rfl,if_pos oX,Nat.sub_self];rfl
  ·by_cases h2:o+1<=i/\i<o+1+r.length
   ·rw[if_pos h2,if_pos ⟨oX,by rw[pA];omega⟩];obtain⟨j,rfl⟩:∃j,i=o+1+j:=⟨i-(o+1),oX⟩;rw[show o+1+j-o=j+1 by omega,show o+1+j-(o+1)=j by omega];rfl
   ·rw[if_neg h2,if_neg (by simp only[pA];omega),List.getElem?_set_ne oX]
theorem put_eq(cs xs:LV)(o:Nat)(h:o+cs.length<=xs.length):put xs o cs=xs.take o++cs++xs.drop (o+cs.length):=by
 apply Kw;intro i;rw[tV _ _ _ _ h]
 by_cases h1:i<o
 ·rw[if_neg oX,iW,Tc (by rw[dL];omega),List.getElem?_take_of_lt h1]
 ·by_cases h2:i<o+cs.length
  ·rw[if_pos ⟨oX,h2⟩,Tc (by simp;omega),Te (by rw[dL];omega),dL,xL oX]
  ·rw[if_neg oX,Te (by simp;omega),FY];congr 1;simp;omega
theorem fu(cs xs:LV)(h:cs.length=xs.length):put xs 0 cs=cs:=by rw[put_eq _ _ _ oX];simp[h]
theorem eA(b o n:Nat):Addr.add ⟨b,o,none⟩ n=⟨b,o+n,none⟩:=by
 by_cases hn:n=0
 ·subst hn;rfl
 ·simp[Addr.add,hn]
theorem size_setRow(a:Addr):∀(cs:LV) (h:ad) (i:Nat),(setRow h a cs i).size=h.size:=by
 intro cs;induction cs with
 | nil=>intros;rfl
 | cons v r ih=>intro h i;simp only[setRow,ih,size_setOf]
theorem TS(b o:Nat):∀(cs:LV) (h:ad) (i c:Nat),rd (setRow h ⟨b,o,none⟩ cs i) c=if c=b then put (rd h b) (o+i) cs else rd h c:=by
 intro cs;induction cs with
 | nil=>intro h i c;simp only[setRow,put];split <;> simp_all
 | cons v r ih=>
  intro h i c;simp only[setRow,eA,ih,MJ,put]
  by_cases hc:c=b
  ·subst hc;simp[Nat.add_assoc]
  ·simp[hc]
theorem jO(b o:Nat)(cs:LV)(h:ad)(i:Nat):rd (setRow h ⟨b,o,none⟩ cs i) b=put (rd h b) (o+i) cs:=by rw[TS,if_pos rfl]
theorem nU:∀{cs:LV} {h:ad} {i:Nat},dA h c->dA (setRow h ⟨b,o,none⟩ cs i) c:=by
 intro cs;induction cs with
 | nil=>intro h i w;exact w
 | cons v r ih=>intro h i w;simp only[setRow,eA];exact ih (Js w)
theorem Fr.setRow{F:NP}{h:ad}{b o:Nat}(hb:F b∨h.size<=b):∀{cs:LV} {h':ad} {i:Nat},Fr F h h'->Fr F h (setRow h' ⟨b,o,none⟩ cs i):=by
 intro cs;induction cs with
 | nil=>intro h' i f;exact f
 | cons v r ih=>intro h' i f;simp only[Wx.setRow,eA];exact ih (f.setOf hb)
theorem nj(h:ad)(b o:Nat):cellOf h ⟨b,o,none⟩=(rd h b)[o]?:=by
 simp only[cellOf,rd];cases h[b]? with
 | none=>simp
 | some x=>cases x <;> simp
theorem Ea{a:Addr}{v:Value}(e:cellOf h a=some v):a.spot=none/\(rd h a.block)[a.off]?=some v:=by
 obtain⟨b,o,s⟩:=a
 cases s with
 | none=>exact⟨rfl,by rw[nj]at e;exact e⟩
 | some s=>
  exfalso;revert e
  simp only[cellOf];cases h[b]? with
  | none=>simp
  | some x=>cases x <;> simp
theorem abb(w:dA h b)(hl:o<(rd h b).length):Wr h ⟨b,o,none⟩:=by
 refine⟨⟨(rd h b)[o],by rw[nj];simp[hl]⟩,?_⟩;obtain⟨c,T,z,e,k⟩:=w;have hc:o<c.size:=by simpa[rd,e]using hl
 rcases k with rfl|k
 ·simp[uo,e]
 ·obtain⟨lo,hi⟩:=z;have k:c.size<=lo:=k;simp[uo,e];omega
theorem AV(w:dA h b)(hl:o+n<=(rd h b).length):WrN h ⟨b,o,none⟩ n:=by
 intro i hi;rw[eA];exact abb w oX
theorem ML{cs:LV}(w:dA h b)(hn:cs.length=n)(h1:∀ v ∈ cs,v.oneCell'=true)(hl:o+n<=(rd h b).length):QW h ⟨b,o,none⟩ cs n:=
 ⟨hn,h1,AV w hl⟩
theorem yt(e:((rd h b).drop o).take xs.length=xs):ai h ⟨b,o,none⟩ xs:=by
 intro i v hv;rw[eA,nj];rw[<-e,KR]at hv
 split at hv
 ·rw[FY]at hv;exact hv
 ·exact absurd hv (by simp)
theorem ai.fr(f:Fr F h h'){a:Addr}{xs:LV}(c:ai h a xs)(hF:¬ F a.block):ai h' a xs:=by
 intro i v hv;have e:=c i v hv;obtain⟨h1,h2⟩:=Ea e;have hb:(a.add i).block=a.block:=by unfold Addr.add;split <;> rfl
 have hl:=pE h2;rw[hb]at hl;have:cellOf h' (a.add i)=cellOf h (a.add i):=by simp only[cellOf,hb,f.same _ hl hF]
 rw[this];exact e
theorem ak.fr{F:NP}{h h':ad}(f:Fr F h h'){a:OA}{xs:LV}(c:ak h a xs)(hF:∀ p,a=some p->¬ F p.block):ak h' a xs:=by
 cases a with
 | none=>exact c
 | some p=>exact ai.fr f c (hF p rfl)
theorem av.fr{F:NP}{h h':ad}(f:Fr F h h'){a:OA}{l:Nat}{bs:LB}(c:av h a l bs)(hF:∀ p,a=some p->¬ F p.block):av h' a l bs:=
 ⟨c.1,ak.fr f c.2 hF⟩
theorem ai.take{h:ad}{a:Addr}{xs:LV}(c:ai h a xs)(n:Nat):ai h a (xs.take n):=by
 intro i v hv;rw[KR]at hv;split at hv
 ·exact c i v hv
 ·exact absurd hv (by simp)
theorem ai.nil(h:ad)(a:Addr):ai h a []:=by intro i v hv;simp at hv
theorem ai.drop{h:ad}{a:Addr}{xs:LV}(c:ai h a xs)(n:Nat):ai h (a.add n) (xs.drop n):=by
 intro i v hv;rw[FY]at hv;have:=c (n+i) v hv
 by_cases hi:i=0
 ·subst hi;rw[Addr.add_zero];exact this
 ·by_cases hn:n=0
  ·subst hn;rw[Addr.add_zero];simpa using this
  ·rw[Addr.add_add];exact this
theorem ak.take{h:ad}{a:OA}{xs:LV}(c:ak h a xs)(n:Nat):ak h a (xs.take n):=by
 cases a with
 | none=>have c:xs=[]:=c;subst c;simp[ak]
 | some p=>exact ai.take c n
theorem ak.drop{h:ad}{a:OA}{xs:LV}(c:ak h a xs)(n:Nat):ak h (a.map (·.add n)) (xs.drop n):=by
 cases a with
 | none=>have c:xs=[]:=c;subst c;simp[ak]
 | some p=>exact ai.drop c n
theorem av.take{h:ad}{a:OA}{l:Nat}{bs:LB}(c:av h a l bs){n:Nat}(hn:n<=l):av h a n (bs.take n):=
 ⟨by rw[dL,c.1];omega,by rw[List.map_take];exact ak.take c.2 n⟩
theorem av.drop{h:ad}{a:OA}{l:Nat}{bs:LB}(c:av h a l bs)(n:Nat):av h (a.map (·.add n)) (l-n) (bs.drop n):=
 ⟨by rw[jM,c.1],by rw[List.map_drop];exact ak.drop c.2 n⟩
theorem av.nil(h:ad)(a:OA):av h a 0 []:=⟨rfl,by cases a with|none=>rfl|some p=>exact ai.nil h p⟩
theorem jA(bs:LB):∀v∈bs.map bv,v.oneCell'=true:=by
 intro v hv;obtain⟨b,_,rfl⟩:=jc.mp hv;rfl
theorem toList_mkStr(bs:LB):ByteArray.toList (mkStr bs)=bs:=by
 rw[mkStr,show(⟨⟨bs⟩⟩:ByteArray)=⟨bs.toArray⟩ from rfl];simp
theorem MM{n:Int}(h1 : -9223372036854775808<=n)(h2:n<=9223372036854775807):IntKind.wrap .i64 n=n:=by
 simp only[IntKind.wrap,IntKind.bits,IntKind.signed,yj,ge_iff_le,decide_eq_true_eq,Nat.reduceSub,Int.reducePow]
 split <;> omega
abbrev _root_.Go.Proofs.YtlbckoblcdoceaaGreatDoor.wI(n:Int):Int:=IntKind.wrap .i64 n
theorem wrap_i64{n:Int}(h1 : -9223372036854775808<=n)(h2:n<=9223372036854775807):wI n=n:=MM h1 h2
theorem wq(n:Int)(h1 : -9223372036854775808<=n:=by omega)(h2:n<=9223372036854775807:=by omega):wI n=n:=MM h1 h2
theorem wrap_u8{n:Int}(h1:0<=n)(h2:n<=255):IntKind.wrap .u8 n=n:=by
 simp only[IntKind.wrap,IntKind.bits,IntKind.signed,Bool.false_and,Ay,if_false,Int.reducePow];omega
theorem qK.mono{P:Program}{g:Nat}{args:LV}{h:ad}{k k':KT}(H:qK P g args h k)(hk:∀ v h',k v h'->k' v h'):qK P g args h k':=by
 obtain⟨c,H⟩:=H;refine⟨c,λw hw=>(H w hw).mono λe w' ⟨v,e1,e2,e3⟩=>⟨v,e1,e2,hk v _ e3⟩⟩
def Sl(h:ad)(ec:Nat)(a:OA)(l c:Nat)(xs:LV)(F:NP):Prop:=
 xs.length=l*ec/\match a with
  | none=>l=0/\c=0
  | some p=>p.spot=none/\F p.block/\dA h p.block/\l<=c/\((rd h p.block).drop p.off).take xs.length=xs/\p.off+c*ec<=(rd h p.block).length
theorem Sl.nil(h:ad)(ec:Nat)(F:NP):Sl h ec none 0 0 [] F:=⟨by simp,rfl,rfl⟩
theorem Sl.mono{G:NP}(s:Sl h ec a l c xs F)(hs:∀ b,F b->G b):Sl h ec a l c xs G:=by
 obtain⟨h1,h2⟩:=s;refine⟨h1,?_⟩
 cases a with
 | none=>exact h2
 | some p=>obtain⟨a1,a2,a3⟩:=h2;exact⟨a1,hs _ a2,a3⟩
theorem Sl.fr{G:NP}(f:Fr G h h')(s:Sl h ec a l c xs F)(hs:∀ b,b<h.size->F b->¬ G b):Sl h' ec a l c xs F:=by
 obtain⟨h1,h2⟩:=s;refine⟨h1,?_⟩
 cases a with
 | none=>exact h2
 | some p=>
  obtain⟨a1,a2,a3,a4,a5,a6⟩:=h2;have hG:=hs _ a3.lt a2;refine⟨a1,a2,f.own a3.lt hG a3,a4,?_,?_⟩
  ·rw[f.rd a3.lt hG];exact a5
  ·rw[f.rd a3.lt hG];exact a6
theorem Sl.cells(s:Sl h ec a l c xs F):ak h a xs:=by
 obtain⟨h1,h2⟩:=s
 cases a with
 | none=>obtain⟨rfl,_⟩:=h2;rw[adp]at h1;exact TK.mp h1
 | some p=>
  obtain⟨b,o,s⟩:=p;obtain⟨a1,a2,a3,a4,a5,a6⟩:=h2;have a1:s=none:=a1;subst a1;exact yt a5
theorem Sl.str(s:Sl h 1 a l c (bs.map bv) F):av h a l bs:=
 ⟨by have:=s.1;rw[aP]at this;omega,s.cells⟩
theorem Sl.le(s:Sl h ec a l c xs F):l<=c:=by
 obtain⟨_,h2⟩:=s
 cases a with
 | none=>omega
 | some p=>exact h2.2.2.2.1
theorem Sl.new(h:ad)(ec t l c:Nat)(xs zs:LV)(F:NP)(hF:F h.size)(hx:xs.length=l*ec)(hl:l<=c)(hz:zs.length=(c - l)*ec) :
  Sl (uX h (xs++zs) t) ec (some ⟨h.size,0,none⟩) l c xs F:=by
 refine⟨hx,rfl,hF,vb _ _ _,hl,?_,?_⟩
 ·simp only[ux,mW,tL]
 ·simp only[ux,bg,hx,hz,wR];rw[<-Mb];exact yi _ oX
theorem Wh(X new:LV)(o m:Nat)(h:o+m+new.length<=X.length):((put X (o+m) new).drop o).take (m+new.length)=(X.drop o).take m++new:=by
 apply Kw;intro i;rw[KR];have hl:((X.drop o).take m).length=m:=by rw[dL,jM];omega
 by_cases h1:i<m
 ·rw[if_pos oX,Tc oX,FY,tV _ _ _ _ h,if_neg oX,KR,if_pos h1,FY]
 ·by_cases h2:i<m+new.length
  ·rw[if_pos h2,Te oX,hl,FY,tV _ _ _ _ h,if_pos oX];congr 1;omega
  ·rw[if_neg h2,List.getElem?_eq_none (by rw[bg];omega)]
theorem cY{elem:TI}{new:LV}{k:OA->Nat->Nat->ad->Prop}
  (s:Sl h elem.cells a l c xs F) (hn:new.length=n*elem.cells) (hz:elem.zero.length=elem.cells) (hb:(l+n)*elem.bytes<=140737488355328) (pV:l+n<=140737488355328)
  (hk:∀a' c' h',Fr F h h'->Sl h' elem.cells a' (l+n) c' (xs++new) (λb=>F b∨h.size<=b)->k a' (l+n) c' h') :
  aJ elem e a l c n new h k:=by
 refine⟨xs,s.1,s.cells,hb,pV,λhc=>?_,λhc cap FH=>?_⟩
 ·obtain⟨h1,h2⟩:=s
  cases a with
  | none=>
   obtain⟨rfl,rfl⟩:=h2;have:n=0:=oX;subst this;rw[adp]at hn h1;have e1:=TK.mp hn;have e2:=TK.mp h1;subst e1;subst e2;exact⟨by simp[KB],hk none 0 _ (Fr.refl _ _) (Sl.nil _ _ _)⟩
  | some p=>
   obtain⟨b,o,sp⟩:=p;obtain⟨a1,a2,a3,a4,a5,a6⟩:=h2;have a1:sp=none:=a1;subst a1;simp only at a2 a3 a5 a6;have hm:(l+n)*elem.cells<=c*elem.cells:=yi _ hc;rw[Mb]at hm;refine⟨?_,hk (some ⟨b,o,none⟩) c _ ?_ ?_⟩
   ·simp only[KB,eA];exact AV a3 oX
   ·simp only[sS,eA];exact(Fr.refl F h).setRow (Or.inl a2)
   ·simp only[sS,eA];refine⟨by rw[bg,h1,hn,Mb],rfl,Or.inl a2,nU a3,hc,?_,?_⟩
    ·simp only[jO,DV,bg,<-h1]at a5 ⊢;rw[Wh _ _ _ _ (by rw[h1];omega),a5]
    ·simp only[jO,dQ];exact a6
 ·have hf:Fr F h (uX h (xs++new++aL elem.zero (cap-(l+n))) e):=EY _ _;refine hk _ _ _ hf (Sl.new h elem.cells e (l+n) cap (xs++new) _ _ (Or.inr (bE _)) (by rw[bg,s.1,hn,Mb]) FH ?_);rw[kY,hz]
theorem append_nil{elem:TI}{new:LV}{k:OA->Nat->Nat->ad->Prop}
  (hn:new.length=n*elem.cells) (hz:elem.zero.length=elem.cells) (hb:n*elem.bytes<=140737488355328) (pV:n<=140737488355328)
  (hk:∀a' c' h',Fr No h h'->Sl h' elem.cells a' n c' new (cW h.size)->k a' n c' h') :
  aJ elem e none 0 0 n new h k:=by
 refine cY (Sl.nil h _ No) hn hz (by simpa using hb) (by simpa using pV) λa' c' h' f s=>?_;simp only[wR,List.nil_append]at s ⊢;exact hk a' c' h' f (s.mono λb hb=>hb.elim (λx=>x.elim) id)
theorem av.src(c:av h a l bs):(bs.map bv).length=l*1/\ak h a (bs.map bv)/\∀v∈bs.map bv,v.oneCell'=true:=
 ⟨by rw[aP,c.1,Nat.mul_one],c.2,jA bs⟩
end Hp
namespace Wx
open Go
def aC(cs:LV)(t:Nat)(h:ad)(k:HP):Prop:=k (uX h cs t)
def aF(z:LV)(t:Nat)(cs:LV)(n:Nat)(h:ad)(k:HP):Prop:=
  QW (uX h z t) ⟨h.size,0,none⟩ cs n/\k (setRow (uX h z t) ⟨h.size,0,none⟩ cs 0)
def Zu(s:ByteArray)(t:Nat)(h:ad)(k:Nat->ad->Prop):Prop:=∀cap:Nat,s.size<=cap->k cap (vG h (s.toList.map bv++List.replicate (cap-s.size) (bv 0)) t)
def K5(p:Addr)(h:ad)(k:HP):Prop:=k (tJ h p.block)
def Wi(h:ad)(k:HP):Prop:=k (KC h)
def Po(s:ByteArray)(h:ad)(k:HP):Prop:=k (agp h s)
def bD(p:Addr)(v:Value)(h:ad)(k:HP):Prop:=Wr h p/\k (setOf h p v)
def az(p:Addr)(cs:LV)(n:Nat)(h:ad)(k:HP):Prop:=QW h p cs n/\k (setRow h p cs 0)
def xM(h:ad)(l:Nat)(R:Loop)(st:LoopState)(p:Option Code)(k:HP):Prop:=k (dz h l R st p)
def rU(b:Nat)(h:ad)(k:HP):Prop:=h[b]?=some (.deferred (some []))/\k (Tj h b)
end Wx
namespace Hp
def On(ao:Nat->Nat)(k:Nat):Nat->Prop:=λb=>ao b=k
def nV(ao:Nat->Nat)(n k:Nat):Nat->Nat:=λb=>if b<n then ao b else k
def Ag(n:Nat)(ao aB:Nat->Nat):Prop:=∀b,b<n->aB b=ao b
def adw(h:ad)(ao:Nat->Nat)(m:Nat):Prop:=∀b,b<h.size->m<=ao b->ao b<=m+5->False
theorem adw.new(f:adw h ao m)(g:Ag h.size ao aB)(h1:m<=aB b)(h2:aB b<=m+5):h.size<=b:=by
 rcases rI b h.size with hb|hb
 ·rw[g b hb]at h1 h2;exact(f b hb h1 h2).elim
 ·exact hb
theorem pX(ao:Nat->Nat)(n k:Nat):Ag n ao (nV ao n k):=λb hb=>if_pos hb
theorem yu{k:Nat}(h:n<=b):nV ao n k b=k:=if_neg oX
theorem Gj{k:Nat}(h:b<n):nV ao n k b=ao b:=if_pos h
theorem Ag.refl(n:Nat)(ao:Nat->Nat):Ag n ao ao:=λ_ _=>rfl
theorem Ag.trans{m n:Nat}{c1 c2 c3:Nat->Nat}(f:Ag m c1 c2)(g:Ag n c2 c3)(h:m<=n):Ag m c1 c3:=λb hb=>(g b oX).trans (f b hb)
theorem Ag.le(f:Ag n c1 c2)(h:m<=n):Ag m c1 c2:=λb hb=>f b oX
theorem Sl.lt{h:ad}{ec l c:Nat}{p:Addr}{xs:LV}{F:NP}(s:Sl h ec (some p) l c xs F):p.block<h.size:=s.2.2.2.1.lt
theorem Sl.keep{k:Nat}(s:Sl h ec a l c xs (On ao k))(f:Fr F h h')(g:Ag h.size ao aB)(hF:∀ b,ao b=k->¬ F b):Sl h' ec a l c xs (On aB k):=by
 have s':=Sl.fr f s (λb _ hb=>hF b hb);obtain⟨h1,h2⟩:=s';refine⟨h1,?_⟩
 cases a with
 | none=>exact h2
 | some p=>obtain⟨a1,a2,a3,a4⟩:=h2;exact⟨a1,(g _ s.lt).trans a2,a3,a4⟩
theorem nW{elem:TI}{k:Nat}{new:LV}{K:OA->Nat->Nat->ad->Prop}
  (s:Sl h elem.cells a l c xs (On ao k)) (hn:new.length=n*elem.cells) (hz:elem.zero.length=elem.cells) (hb:(l+n)*elem.bytes<=140737488355328) (pV:l+n<=140737488355328)
  (hk:∀a' c' h',Fr (On ao k) h h'->Sl h' elem.cells a' (l+n) c' (xs++new) (On (nV ao h.size k) k)->K a' (l+n) c' h') :
  aJ elem e a l c n new h K:=by
 refine cY s hn hz hb pV λa' c' h' f s'=>hk a' c' h' f (s'.mono λb hb=>?_);unfold On nV
 split
 ·rcases hb with hb|hb
  ·exact hb
  ·omega
 ·rfl
theorem Sl.get(s:Sl h ec a l c xs F)(hl:0<l):∃p,a=some p/\ai h p xs:=by
 cases a with
 | none=>exact absurd s.2.1 oX
 | some p=>exact⟨p,rfl,s.cells⟩
theorem kv{α:Type}(f:α->LV)(w:Nat):∀(xs:List α),(∀x∈xs,(f x).length=w)->∀(i:Nat) (hi:i<xs.length),((xs.flatMap f).drop (i*w)).take w=f xs[i]:=by
 intro xs
 induction xs with
 | nil=>intro _ i hi;exact absurd hi (by simp)
 | cons x r ih=>
  intro hw i hi;have hx:=hw x (kj ..);rw[qO]
  cases i with
  | zero=>rw[adp,mW,<-hx,tL];rfl
  | succ i=>
   rw[Mb,OU,Nat.add_comm,<-List.drop_drop,<-hx,Ae,hx];exact ih (λy hy=>hw y (gV _ hy)) i (by simpa using hi)
theorem bq{α:Type}(f:α->LV)(w:Nat):∀(xs:List α),(∀x∈xs,(f x).length=w)->(xs.flatMap f).length=xs.length*w:=by
 intro xs
 induction xs with
 | nil=>intro _;simp
 | cons x r ih=>
  intro hw;rw[qO,bg,ih (λy hy=>hw y (gV _ hy)),hw x (kj ..),pA,Mb];omega
theorem ai.part(c:ai h p xs)(o n:Nat):ai h (p.add o) ((xs.drop o).take n):=ai.take (ai.drop c o) n
theorem ai.cell(c:ai h p xs){i:Nat}{v:Value}(hv:xs[i]?=some v):cellOf h (p.add i)=some v:=c i v hv
theorem MN{α:Type}(f:α->LV)(w:Nat)(xs:List α)(hw:∀ x ∈ xs,(f x).length=w)(i:Nat)(hi:i<xs.length)(y:α)(hy:(f y).length=w) :
  put (xs.flatMap f) (i*w) (f y)=(xs.set i y).flatMap f:=by
 have hl:=bq f w xs hw;have hm:(i+1)*w<=xs.length*w:=yi _ hi;rw[Mb,OU]at hm;rw[put_eq _ _ _ oX,hy]
 have h1:(xs.flatMap f).take (i*w)=(xs.take i).flatMap f:=by
  conv=>lhs;rw[<-qP i xs,iy]
  rw[List.take_append_of_le_length]
  ·rw[List.take_of_length_le];rw[bq f w _ (λx hx=>hw x (Jk hx)),dL];exact yi _ oX
  ·rw[bq f w _ (λx hx=>hw x (Jk hx)),dL,xL oX];exact bE _
 have h2:(xs.flatMap f).drop (i*w+w)=(xs.drop (i+1)).flatMap f:=by
  conv=>lhs;rw[<-qP (i+1) xs,iy]
  have:((xs.take (i+1)).flatMap f).length=i*w+w:=by
   rw[bq f w _ (λx hx=>hw x (Jk hx)),dL,xL oX,Mb,OU]
  rw[<-this,Ae]
 rw[h1,h2,List.set_eq_take_append_cons_drop,if_pos hi,iy,qO,iW]
theorem agS{a b:Value}(ha:a.oneCell'=true)(hb:b.oneCell'=true):∀v∈[a,b],v.oneCell'=true:=by
 intro v hv;rcases fO.mp hv with rfl|hv
 ·exact ha
 ·rw[kU.mp hv];exact hb
theorem os{α:Type}{a:α}{k:α->Prop}(h:k a):ae (some a) k:=h
theorem ct{c:Bool}(h:c=true)(a:A):bif c then A else B:=by subst h;exact a
theorem cf{c:Bool}(h:c=false)(b:B):bif c then A else B:=by subst h;exact b
theorem cs{c:Bool}(a:c=true->A)(b:c=false->B):bif c then A else B:=by
 cases c
 ·exact b rfl
 ·exact a rfl
theorem cd{p:Prop}[Decidable p]{A B:Prop}(a:p->A)(b:¬ p->B):bif decide p then A else B:=by
 by_cases h:p
 ·rw[decide_eq_true h];exact a h
 ·rw[decide_eq_false h];exact b h
theorem ce{x:Int}(a:x=y->A)(b:x≠y->B):bif x==y then A else B:=by
 by_cases h:x=y
 ·exact ct (by simpa using h) (a h)
 ·exact cf (by simpa using h) (b h)
theorem cn{x:Int}(a:x≠y->A)(b:x=y->B):bif x != y then A else B:=by
 by_cases h:x=y
 ·exact cf (by simpa using h) (b h)
 ·exact ct (by simpa using h) (a h)
theorem iu{c:Bool}(h:bif c then B else A):bif !c then A else B:=by cases c <;> exact h
structure uy(h h':ad)(cs:LV):Prop where
 size:h'.size=h.size+1
 fr:Fr No h h'
 own:dA h' h.size
 rd:rd h' h.size=cs
theorem aC.intro{cs:LV}(H:∀ h',uy h h' cs->k h'):aC cs t h k:=
 H _ ⟨C' _ _ _,EY _ _,vb _ _ _,ux _ _ _⟩
theorem aF.intro{z:LV}{cs:LV}(hl:cs.length=n)(h1:∀ v ∈ cs,v.oneCell'=true)(hz:z.length=n)
  (H:∀h',uy h h' cs->k h'):aF z t cs n h k:=
 ⟨ML (vb _ _ _) hl h1 (by rw[ux,hz];omega),
  H _ ⟨by rw[size_setRow,C'],Fr.setRow (Or.inr (bE _)) (EY _ _),nU (vb _ _ _),by rw[jO,ux,wR,fu _ _ (by rw[hl,hz])]⟩⟩
structure xN(b:Nat)(h h':ad)(cs:LV):Prop where
 size:h'.size=h.size
 fr:Fr (λx=>x=b) h h'
 own:dA h' b
 rd:Hp.rd h' b=cs
theorem bD.intro{v:Value}(w:dA h b)(hl:o<(rd h b).length)(H:∀ h',xN b h h' ((rd h b).set o v)->k h'):bD ⟨b,o,none⟩ v h k:=
 ⟨abb w hl,H _ ⟨size_setOf _ _ _,(Fr.refl _ h).setOf (Or.inl rfl),Js w,MK _ _ _ _⟩⟩
theorem bD.add{b o n:Nat}{v:Value}{h:ad}{k:HP}(w:dA h b)(hl:o+n<(rd h b).length)(H:∀ h',xN b h h' ((rd h b).set (o+n) v)->k h'):bD (Addr.add ⟨b,o,none⟩ n) v h k:=by
 rw[eA];exact bD.intro w hl H
theorem az.intro{cs:LV}(w:dA h b)(hn:cs.length=n)(h1:∀ v ∈ cs,v.oneCell'=true)(hl:o+n<=(rd h b).length)
  (H:∀h',xN b h h' (put (rd h b) o cs)->k h'):az ⟨b,o,none⟩ cs n h k:=
 ⟨ML w hn h1 hl,H _ ⟨size_setRow _ _ _ _,Fr.setRow (F:=λx=>x=b) (Or.inl rfl) (Fr.refl _ h),nU w,by rw[jO,DV]⟩⟩
theorem az.add{b o m n:Nat}{cs:LV}{h:ad}{k:HP}(w:dA h b)(hn:cs.length=n)(h1:∀ v ∈ cs,v.oneCell'=true)(hl:o+m+n<=(rd h b).length)
  (H:∀h',xN b h h' (put (rd h b) (o+m) cs)->k h'):az (Addr.add ⟨b,o,none⟩ m) cs n h k:=by
 rw[eA];exact az.intro w hn h1 hl H
theorem dC{v:Value}(e:rd h b=xs)(hv:xs[o]?=some v):cellOf h ⟨b,o,none⟩=some v:=by rw[nj,e];exact hv
theorem aZ{v:Value}(e:rd h b=xs)(hv:xs[o+n]?=some v):cellOf h (Addr.add ⟨b,o,none⟩ n)=some v:=by rw[eA,nj,e];exact hv
theorem pY{ys:LV}(e:rd h b=xs)(hy:(xs.drop (o+n)).take ys.length=ys):ai h (Addr.add ⟨b,o,none⟩ n) ys:=by rw[eA];exact yt (by rw[e];exact hy)
theorem ah(e:rd h b=xs):ai h ⟨b,0,none⟩ xs:=yt (by rw[e,mW,List.take_length])
theorem yv(e:rd h b=bs.map bv)(hl:bs.length=l):av h (some ⟨b,0,none⟩) l bs:=⟨hl,ah e⟩
theorem xN.at_{cs:LV}(d:xN b h h' cs)(hc:c<h.size:=by omega)(hn:c≠b:=by omega):Hp.rd h' c=Hp.rd h c:=d.fr.rd hc hn
theorem xN.ow{cs:LV}(d:xN b h h' cs)(w:dA h c):dA h' c:=by
 by_cases e:c=b
 ·subst e;exact d.own
 ·exact d.fr.own w.lt e w
theorem Fr.r0(f:Fr No h h'){b:Nat}(hb:b<h.size:=by omega):Hp.rd h' b=Hp.rd h b:=f.rd hb λy=>y
theorem Fr.o0(f:Fr No h h'){b:Nat}(o:dA h b)(hb:b<h.size:=by omega):dA h' b:=f.own hb (λy=>y) o
theorem uy.at_{cs:LV}(d:uy h h' cs)(hc:c<h.size:=by omega):Hp.rd h' c=Hp.rd h c:=d.fr.rd hc (λx=>x)
theorem uy.ow{cs:LV}(d:uy h h' cs)(w:dA h c):dA h' c:=d.fr.own w.lt (λx=>x) w
theorem bW{n:Int}(h:n<m):((m:Int)-(n+1)).toNat<((m:Int)-n).toNat:=oX
theorem Fr.new{cs:LV}(f:Fr F h h1)(d:uy h1 h2 cs):Fr F h h2:=f.no d.fr
theorem Fr.did{cs:LV}(f:Fr F h h1)(d:xN b h1 h2 cs)(hb:b<h.size->F b):Fr F h h2:=f.trans d.fr (λ_ hl e=>e▸hb (e▸hl))
theorem MO(X new:LV)(o j n:Nat)(h1:j+new.length<=n)(h2:o+n<=X.length):((put X (o+j) new).drop o).take n=put ((X.drop o).take n) j new:=by
 apply Kw;intro i;have hl:((X.drop o).take n).length=n:=by rw[dL,jM];omega
 rw[tV _ _ _ _ (by rw[hl];exact h1),KR,KR,FY,FY]
 by_cases hi:i<n
 ·rw[if_pos hi,if_pos hi,tV _ _ _ _ oX]
  by_cases hj:j<=i/\i<j+new.length
  ·rw[if_pos oX,if_pos hj];congr 1;omega
  ·rw[if_neg oX,if_neg hj]
 ·rw[if_neg hi,if_neg hi,if_neg oX]
theorem Sl.putAt{new:LV}(s:Sl h ec (some ⟨b,o,none⟩) l c xs F)(hj:j+new.length<=l*ec)
  (d:xN b h h' (put (rd h b) (o+j) new)):Sl h' ec (some ⟨b,o,none⟩) l c (put xs j new) F:=by
 obtain⟨h1,a1,a2,a3,a4,a5,a6⟩:=s;have hm:l*ec<=c*ec:=yi _ a4;simp only at a2 a3 a5 a6;refine⟨by rw[dQ,h1],rfl,a2,d.own,a4,?_,?_⟩
 ·simp only[d.rd,dQ,h1];rw[MO _ _ _ _ _ hj oX,<-h1,a5]
 ·simp only[d.rd,dQ];exact a6
theorem Sl.K6{α:Type}{f:α->LV}{w:Nat}{xs:List α}{y:α}(s:Sl h w (some ⟨b,o,none⟩) l c (xs.flatMap f) F)
  (hw:∀x∈xs,(f x).length=w) (hi:i<xs.length) (hy:(f y).length=w) (d:xN b h h' (put (rd h b) (o+i*w) (f y))):Sl h' w (some ⟨b,o,none⟩) l c ((xs.set i y).flatMap f) F:=by
 have h1:=s.1;rw[bq f w xs hw]at h1;have:(i+1)*w<=xs.length*w:=yi _ hi;rw[Mb,OU]at this;rw[<-MN f w xs hw i hi y hy];exact s.putAt (by rw[hy];omega) d
theorem Sl.made{zs cs:LV}(n:uy h h' cs)(e:cs=xs++zs)(hF:F h.size)(hx:xs.length=l*ec)(hl:l<=c)(hz:zs.length=(c - l)*ec) :
  Sl h' ec (some ⟨h.size,0,none⟩) l c xs F:=by
 refine⟨hx,rfl,hF,n.own,hl,?_,?_⟩
 ·simp only[n.rd,e,mW,tL]
 ·simp only[n.rd,e,bg,hx,hz,wR];rw[<-Mb];exact yi _ oX
theorem Sl.wr(s:Sl h ec (some ⟨b,o,none⟩) l c xs F):dA h b/\o+l*ec<=(rd h b).length:=by
 obtain⟨h1,a1,a2,a3,a4,a5,a6⟩:=s;have hm:l*ec<=c*ec:=yi _ a4;simp only at a6;exact⟨a3,oX⟩
theorem Sl.mk(s:Sl h ec (some p) l c xs F):p=⟨p.block,p.off,none⟩:=by
 obtain⟨b,o,sp⟩:=p;have:sp=none:=s.2.1;rw[this]
theorem xw.intro{elem:TI}{src:OA}{new:LV}{k:Nat->ad->Prop}(hn:new.length=min m n*elem.cells)(hs:ak h src new)(h1:∀ v ∈ new,v.oneCell'=true)
  (w:dA h b) (hl:o+new.length<=(rd h b).length) (H:∀h',xN b h h' (put (rd h b) o new)->k (min m n) h'):xw elem (some ⟨b,o,none⟩) n (.slice src m c) h k:=by
 refine⟨new,hn,hs,h1,?_,H _ ?_⟩
 ·simp only[KB,Addr.add_zero];exact AV w oX
 ·simp only[sS,Addr.add_zero];exact⟨size_setRow _ _ _ _,Fr.setRow (F:=λx=>x=b) (Or.inl rfl) (Fr.refl _ h),nU w,by rw[jO,DV]⟩
end Hp
namespace W
def z1 : LV:=[.nilFunc]
def ti1 : TI:=⟨true,.fn,1,8,z1,[]⟩
def z3 : LV:=[.int .i64 0]
def ti3 : TI:=⟨true,.int .i64,1,8,z3,[]⟩
def z4 : LV:=[.bool false]
def ti4 : TI:=⟨true,.bool,1,1,z4,[]⟩
def z5 : LV:=[.int .u8 0]
def xd : TI:=⟨true,.int .u8,1,1,z5,[]⟩
def z9 : LV:=[.string (mkStr [])]
def ti9 : TI:=⟨true,.str,1,16,z9,[]⟩
def z21 : LV:=[.int .i32 0]
def agU : TI:=⟨true,.int .i32,1,4,z21,[]⟩
def z22 : LV:=[.slice none 0 0]
def agV : TI:=⟨true,.slice 32,1,24,z22,[]⟩
def z23 : LV:=[.slice none 0 0]
def agW : TI:=⟨true,.slice 50,1,24,z23,[]⟩
def z25 : LV:=[.int .i64 0,.slice none 0 0,.slice none 0 0]
def agX : TI:=⟨true,.struct [(0,3),(1,22),(2,23)],3,56,z25,[]⟩
def z27 : LV:=[.int .i64 0,.int .i64 0,.int .i64 0,.int .i64 0,.int .i64 0]
def agY : TI:=⟨true,.struct [(0,3),(1,3),(2,3),(3,3),(4,3)],5,40,z27,[]⟩
def z30 : LV:=[.int .i64 0,.int .i64 0,.int .i64 0,.int .i64 0,.int .i64 0,.int .i64 0,.int .i64 0,.int .i64 0,.int .i64 0,.int .i64 0]
def agZ : TI:=⟨true,.arr 10 3,10,80,z30,[]⟩
def z32 : LV:=List.replicate 15 (.int .i64 0)
def ag0 : TI:=⟨true,.struct [(0,3),(1,3),(2,3),(3,30),(13,3),(14,3)],15,120,z32,[(.int .i64),(.int .i64),(.int .i64),(.int .i64),(.int .i64),(.int .i64),(.int .i64),(.int .i64),(.int .i64),(.int .i64),(.int .i64),(.int .i64),(.int .i64),(.int .i64),(.int .i64)]⟩
def z33 : LV:=[.slice none 0 0]
def EK : TI:=⟨true,.slice 5,1,24,z33,[]⟩
def z35 : LV:=[.pointer none]
def ag1 : TI:=⟨true,.ptr 65,1,8,z35,[]⟩
def z36 : LV:=[.int .i64 0]
def ag3 : TI:=⟨true,.int .i64,1,8,z36,[]⟩
def z39 : LV:=[.pointer none]
def ag5 : TI:=⟨true,.ptr 70,1,8,z39,[]⟩
def z43 : LV:=[.pointer none]
def ag6 : TI:=⟨true,.ptr 100,1,8,z43,[]⟩
def z44 : LV:=[.pointer none]
def ag7 : TI:=⟨true,.ptr 103,1,8,z44,[]⟩
def z46 : LV:=[.pointer none,.pointer none,.pointer none,.pointer none,.int .i64 0,.int .i64 0,.int .i64 0,.int .i64 0,.int .i64 0]
def ag8 : TI:=⟨true,.struct [(0,35),(1,39),(2,43),(3,44),(4,27)],9,72,z46,[]⟩
def z48 : LV:=[.slice none 0 0]
def ag9 : TI:=⟨true,.slice 81,1,24,z48,[]⟩
def z50 : LV:=[.int .i64 0,.int .i64 0,.string (mkStr []),.int .i64 0]
def aha : TI:=⟨true,.struct [(0,3),(1,3),(2,9),(3,3)],4,40,z50,[]⟩
def z57 : LV:=[.slice none 0 0]
def ahb : TI:=⟨true,.slice 4,1,24,z57,[]⟩
def z61 : LV:=[.slice none 0 0]
def ahc : TI:=⟨true,.slice 67,1,24,z61,[]⟩
def z62 : LV:=[.slice none 0 0]
def ahd : TI:=⟨true,.slice 183,1,24,z62,[]⟩
def z63 : LV:=[.slice none 0 0]
def ahe : TI:=⟨true,.slice 146,1,24,z63,[]⟩
def z65 : LV:=[.slice none 0 0,.slice none 0 0,.int .i64 0,.slice none 0 0,.bool false,.int .i64 0,.int .i64 0,.slice none 0 0]
def ahf : TI:=⟨true,.struct [(0,61),(1,62),(2,3),(3,57),(4,4),(5,3),(6,3),(7,63)],8,128,z65,[]⟩
def z67 : LV:=List.replicate 512 (.int .u8 0)
def ahg : TI:=⟨true,.arr 512 5,512,512,z67,[]⟩
def z70 : LV:=[.slice none 0 0,.slice none 0 0,.slice none 0 0,.int .i64 0,.bool false,.int .i64 0,.int .i64 0]
def ahh : TI:=⟨true,.struct [(0,33),(1,63),(2,57),(3,3),(4,4),(5,3),(6,3)],7,104,z70,[]⟩
def z73 : LV:=[.slice none 0 0]
def TT : TI:=⟨true,.slice 79,1,24,z73,[]⟩
def z79 : LV:=[.int .i64 0,.string (mkStr []),.int .i64 0]
def rV : TI:=⟨true,.struct [(0,3),(1,9),(2,3)],3,32,z79,[(.int .i64),.str,(.int .i64)]⟩
def z81 : LV:=[.slice none 0 0,.slice none 0 0]
def Wj : TI:=⟨true,.struct [(0,73),(1,73)],2,48,z81,[]⟩
def z89 : LV:=[.slice none 0 0]
def ahi : TI:=⟨true,.slice 3,1,24,z89,[]⟩
def z94 : LV:=[.slice none 0 0]
def ahj : TI:=⟨true,.slice 73,1,24,z94,[]⟩
def z97 : LV:=[.map none]
def ahk : TI:=⟨true,.map 3 33,1,8,z97,[]⟩
def z98 : LV:=[.slice none 0 0]
def ahl : TI:=⟨true,.slice 1,1,24,z98,[]⟩
def z100 : LV:=[.pointer none,.map none,.slice none 0 0,.bool false]
def abc : TI:=⟨true,.struct [(0,35),(1,97),(2,98),(3,4)],4,48,z100,[]⟩
def z101 : LV:=[.slice none 0 0]
def abd : TI:=⟨true,.slice 130,1,24,z101,[]⟩
def z103 : LV:=[.pointer none,.slice none 0 0,.bool false]
def abe : TI:=⟨true,.struct [(0,39),(1,101),(2,4)],3,40,z103,[]⟩
def z105 : LV:=(.pointer none)::List.replicate 22 (.int .i64 0)
def abf : TI:=⟨true,.struct [(0,43),(1,27),(6,3),(7,32),(22,36)],23,184,z105,[]⟩
def Wk : LV:=[.int .i64 0,.int .i64 0,.slice none 0 0,.slice none 0 0]
def abg : TI:=⟨true,.struct [(0,3),(1,3),(2,33),(3,73)],4,64,Wk,[]⟩
def z119 : LV:=[.pointer none]
def abh : TI:=⟨true,.ptr 122,1,8,z119,[]⟩
def z122 : LV:=(.pointer none)::(List.replicate 24 (.int .i64 0)++(.slice none 0 0)::(.slice none 0 0)::(.int .i64 0)::(.string (mkStr []))::[.int .i64 0])
def abi : TI:=⟨true,.struct [(0,105),(23,111),(27,79)],30,280,z122,[]⟩
def z130 : LV:=[.int .i64 0,.string (mkStr [])]
def Jt : TI:=⟨true,.struct [(0,3),(1,9)],2,24,z130,[]⟩
def z131 : LV:=[.slice none 0 0]
def abj : TI:=⟨true,.slice 133,1,24,z131,[]⟩
def MP : LV:=[.int .i64 0,.slice none 0 0]
def Ru : TI:=⟨true,.struct [(0,3),(1,33)],2,32,MP,[]⟩
def z146 : LV:=[.int .i64 0,.int .i64 0,.slice none 0 0]
def xC : TI:=⟨true,.struct [(0,3),(1,3),(2,33)],3,40,z146,[]⟩
def z151 : LV:=[.pointer none]
def abk : TI:=⟨true,.ptr 105,1,8,z151,[]⟩
def z162 : LV:=[.slice none 0 0]
def abl : TI:=⟨true,.slice 33,1,24,z162,[]⟩
def ahm : LV:=[.slice none 0 0]
def abm : TI:=⟨true,.slice 168,1,24,ahm,[]⟩
def z168 : LV:=[.nilFunc]
def Rv : TI:=⟨true,.fn,1,8,z168,[]⟩
def z183 : LV:=(.int .i64 0)::List.replicate 512 (.int .u8 0)
def Wm : TI:=⟨true,.struct [(0,3),(1,67)],513,520,z183,[]⟩
def ahn : LV:=[.pointer none]
def abn : TI:=⟨true,.ptr 189,1,8,ahn,[]⟩
def z189 : LV:=(.pointer none)::List.replicate 20 (.int .i64 0)
def abo : TI:=⟨true,.struct [(0,43),(1,27),(6,32)],21,168,z189,[]⟩
def aho : LV:=[.int .i64 0,.int .i64 0]
def abp : TI:=⟨true,.struct [(0,3),(1,3)],2,16,aho,[]⟩
def z206 : LV:=[.int .u32 0]
def abq : TI:=⟨true,.int .u32,1,4,z206,[]⟩
def z208 : LV:=[.int .u64 0]
def abr : TI:=⟨true,.int .u64,1,8,z208,[]⟩
def z214 : LV:=[.nilFunc]
def Wn : TI:=⟨true,.fn,1,8,z214,[]⟩
def z239 : LV:=[.slice none 0 0]
def abt : TI:=⟨true,.slice 192,1,24,z239,[]⟩
def z256 : LV:=[.slice none 0 0]
def abu : TI:=⟨true,.slice 9,1,24,z256,[]⟩
def z257 : LV:=[.map none]
def abv : TI:=⟨true,.map 9 214,1,8,z257,[]⟩
def ahp : LV:=[.nilFunc]
def abw : TI:=⟨true,.fn,1,8,ahp,[]⟩
def z271 : LV:=[.nilFunc]
def abx : TI:=⟨true,.fn,1,8,z271,[]⟩
def adx : LV:=[.int .i64 0,.int .i64 0,.int .i64 0,.int .i64 0,.int .i64 0,.int .i64 0,.int .i64 0,.int .i64 0,.int .i64 0,.int .i64 0,.int .i64 0,.int .i64 0]
def aby : TI:=⟨true,.arr 12 3,12,96,adx,[]⟩
def ady : LV:=List.replicate 256 (.bool false)
def abz : TI:=⟨true,.arr 256 4,256,256,ady,[]⟩
def z289 : LV:=[.bool false,.bool false,.bool false,.bool false,.bool false,.bool false,.bool false,.bool false,.bool false]
def abA : TI:=⟨true,.arr 9 4,9,9,z289,[]⟩
def z308 : LV:=List.replicate 16 (.int .u32 0)
def abB : TI:=⟨true,.arr 16 206,16,64,z308,[]⟩
def Zv : LV:=List.replicate 32 (.int .u32 0)
def abC : TI:=⟨true,.arr 32 206,32,128,Zv,[]⟩
def RA : List (Nat×TI):=[(1,ti1),(3,ti3),(4,ti4),(5,xd),(9,ti9),(21,agU),(22,agV),(23,agW),(25,agX),(27,agY),(30,agZ),(32,ag0),(33,EK),(35,ag1),(36,ag3),(39,ag5),(43,ag6),(44,ag7),(46,ag8),(48,ag9),(50,aha),(57,ahb),(61,ahc),(62,ahd),(63,ahe),(65,ahf),(67,ahg),(70,ahh),(73,TT),(79,rV),(81,Wj),(89,ahi),(94,ahj),(97,ahk),(98,ahl),(100,abc),(101,abd),(103,abe),(105,abf),(111,abg),(119,abh),(122,abi),(130,Jt),(131,abj),(133,Ru),(146,xC),(151,abk),(162,abl),(165,abm),(168,Rv),(183,Wm),(187,abn),(189,abo),(192,abp),(206,abq),(208,abr),(214,Wn),(239,abt),(256,abu),(257,abv),(262,abw),(271,abx),(275,aby),(285,abz),(289,abA),(308,abB),(310,abC)]
def adz : List (Nat×List Ty):=[(0,[]),(3,[.int .i64]),(4,[.bool]),(9,[.str]),(27,[.agg]),(32,[.agg]),(33,[.slice]),(36,[.int .i64]),(37,[.ptr,.int .i64]),(40,[.ptr,.int .i64]),(43,[.ptr]),(44,[.ptr]),(51,[.slice,.bool]),(58,[.slice,.int .i64]),(74,[.slice,.int .i64]),(82,[.int .i64,.int .i64]),(89,[.slice]),(105,[.agg]),(108,[.any]),(116,[.agg,.int .i64]),(119,[.ptr]),(124,[.agg,.agg,.int .i64]),(143,[.any]),(184,[.int .i64,.slice,.int .i64,.int .i64]),(194,[.int .i64,.str,.bool]),(206,[.int .u32]),(209,[.int .i64,.int .i64,.int .i64]),(212,[.slice,.int .i64]),(215,[.any,.bool]),(227,[.agg,.int .i64,.int .i64]),(235,[.int .u64,.int .i64]),(237,[.bool,.int .i64]),(239,[.slice]),(241,[.int .i64,.slice,.int .i64]),(247,[.ptr]),(250,[.int .i64,.slice]),(254,[.slice,.int .i64]),(259,[.int .u32,.int .i64]),(262,[.clo]),(275,[.agg]),(286,[.agg,.bool]),(310,[.agg]),(314,[.any])]
def Pp : List Nat:=[261]
def adA : List Nat:=[]
noncomputable def cx(loops:Nat->List Nat×List (Nat×Ty))(vF:Nat->Od):Ctx:=⟨Tryz.prog,VC RA,aa0 adz,loops,vF,Pp,adA⟩
theorem Wo : Q4 Tryz.prog 261:=agy Tryz.func261 (by kernel_rfl) (by kernel_rfl) (by kernel_rfl) (by kernel_rfl)
theorem TU : ∀g∈Pp,Q4 Tryz.prog g:=by
 simp only[Pp,aba];exact⟨Wo,λ_ h=>absurd h nT⟩
theorem ahq : dy Tryz.prog 1 ti1:=tk
theorem ahr : dy Tryz.prog 3 ti3:=tk
theorem ahs : dy Tryz.prog 4 ti4:=tk
theorem aht : dy Tryz.prog 5 xd:=tk
theorem ahu : dy Tryz.prog 9 ti9:=tk
theorem adB : dy Tryz.prog 21 agU:=tk
theorem adC : dy Tryz.prog 22 agV:=tk
theorem adD : dy Tryz.prog 23 agW:=tk
theorem adE : dy Tryz.prog 25 agX:=tk
theorem adF : dy Tryz.prog 27 agY:=tk
theorem adG : dy Tryz.prog 30 agZ:=tk
theorem adH : dy Tryz.prog 32 ag0:=tk
theorem adI : dy Tryz.prog 33 EK:=tk
theorem adJ : dy Tryz.prog 35 ag1:=tk
theorem adK : dy Tryz.prog 36 ag3:=tk
theorem adL : dy Tryz.prog 39 ag5:=tk
theorem adM : dy Tryz.prog 43 ag6:=tk
theorem adN : dy Tryz.prog 44 ag7:=tk
theorem adO : dy Tryz.prog 46 ag8:=tk
theorem adP : dy Tryz.prog 48 ag9:=tk
theorem adQ : dy Tryz.prog 50 aha:=tk
theorem adR : dy Tryz.prog 57 ahb:=tk
theorem adS : dy Tryz.prog 61 ahc:=tk
theorem adT : dy Tryz.prog 62 ahd:=tk
theorem adU : dy Tryz.prog 63 ahe:=tk
theorem adV : dy Tryz.prog 65 ahf:=tk
theorem adW : dy Tryz.prog 67 ahg:=tk
theorem adX : dy Tryz.prog 70 ahh:=tk
theorem adY : dy Tryz.prog 73 TT:=tk
theorem adZ : dy Tryz.prog 79 rV:=tk
theorem ad0 : dy Tryz.prog 81 Wj:=tk
theorem ad1 : dy Tryz.prog 89 ahi:=tk
theorem ad2 : dy Tryz.prog 94 ahj:=tk
theorem ad3 : dy Tryz.prog 97 ahk:=tk
theorem ad4 : dy Tryz.prog 98 ahl:=tk
theorem Zw : dy Tryz.prog 100 abc:=tk
theorem Zx : dy Tryz.prog 101 abd:=tk
theorem Zy : dy Tryz.prog 103 abe:=tk
theorem Zz : dy Tryz.prog 105 abf:=tk
theorem ZA : dy Tryz.prog 111 abg:=tk
theorem ZB : dy Tryz.prog 119 abh:=tk
theorem ZC : dy Tryz.prog 122 abi:=tk
theorem ZD : dy Tryz.prog 130 Jt:=tk
theorem ZE : dy Tryz.prog 131 abj:=tk
theorem ZF : dy Tryz.prog 133 Ru:=tk
theorem ZG : dy Tryz.prog 146 xC:=tk
theorem ZH : dy Tryz.prog 151 abk:=tk
theorem ZI : dy Tryz.prog 162 abl:=tk
theorem ZJ : dy Tryz.prog 165 abm:=tk
theorem ZK : dy Tryz.prog 168 Rv:=tk
theorem ZL : dy Tryz.prog 183 Wm:=tk
theorem ZM : dy Tryz.prog 187 abn:=tk
theorem ZN : dy Tryz.prog 189 abo:=tk
theorem ZO : dy Tryz.prog 192 abp:=tk
theorem ZP : dy Tryz.prog 206 abq:=tk
theorem ZQ : dy Tryz.prog 208 abr:=tk
theorem ZR : dy Tryz.prog 214 Wn:=tk
theorem ZS : dy Tryz.prog 239 abt:=tk
theorem ZT : dy Tryz.prog 256 abu:=tk
theorem ZU : dy Tryz.prog 257 abv:=tk
theorem ZV : dy Tryz.prog 262 abw:=tk
theorem ZW : dy Tryz.prog 271 abx:=tk
theorem ZX : dy Tryz.prog 275 aby:=tk
theorem ZY : dy Tryz.prog 285 abz:=tk
theorem ZZ : dy Tryz.prog 289 abA:=tk
theorem Z0 : dy Tryz.prog 308 abB:=tk
theorem Z1 : dy Tryz.prog 310 abC:=tk
theorem Wp : ∀x∈RA,dy Tryz.prog x.1 x.2:=by
 simp only[RA,aba];exact⟨ahq,ahr,ahs,aht,ahu,adB,adC,adD,adE,adF,adG,adH,adI,adJ,adK,adL,adM,adN,adO,adP,adQ,adR,adS,adT,adU,adV,adW,adX,adY,adZ,ad0,ad1,ad2,ad3,ad4,Zw,Zx,Zy,Zz,ZA,ZB,ZC,ZD,ZE,ZF,ZG,ZH,ZI,ZJ,ZK,ZL,ZM,ZN,ZO,ZP,ZQ,ZR,ZS,ZT,ZU,ZV,ZW,ZX,ZY,ZZ,Z0,Z1,λ_ h=>absurd h nT⟩
theorem Pq(loops:Nat->List Nat×List (Nat×Ty))(vF:Nat->Od):mo (cx loops vF):=⟨TU,Q5 RA Wp,by kernel_rfl⟩
abbrev aq(g:Nat)(a:LV)(h:ad)(k:KT):Prop:=qK Tryz.prog g a h k
def C.bu(c1:LV):=aq 3 [.agg ⟨c1⟩]
def C.jZ(n1:Int):=aq 4 [.int .i64 n1]
def C.iY(v1 n1:Int):=aq 5 [.int .i64 v1,.int .i64 n1]
def C.eV(g1:LV)(uf:OA)(rW v8:Nat):=aq 6 [.agg ⟨g1⟩,.slice uf rW v8]
def C.nX(fZ:OA)(eJ ga:Nat):=aq 7 [.slice fZ eJ ga]
def C.k7(fZ:OA)(eJ ga:Nat):=aq 8 [.slice fZ eJ ga]
def C.dE(s1:OA):=aq 9 [.pointer s1]
def C.cD(s1:OA)(n1:Int)(gr:OA)(fQ gY:Nat):=aq 10 [.pointer s1,.int .i64 n1,.slice gr fQ gY]
def C.aY(s1:OA)(o1:LV):=aq 11 [.pointer s1,.agg ⟨o1⟩]
def C.bJ(s1:OA):=aq 12 [.pointer s1]
def C.gy(d1:OA):=aq 13 [.pointer d1]
def C.eD(d1:OA):=aq 14 [.pointer d1]
def C.jB(gr:OA)(fQ gY:Nat):=aq 15 [.slice gr fQ gY]
def C.fR(x1:LV):=aq 16 [.agg ⟨x1⟩]
def C.rX(n1:Int):=aq 17 [.int .i64 n1]
def C.dR(aH:OA)(aK aR:Nat):=aq 18 [.slice aH aK aR]
def C.rY(d1:OA):=aq 19 [.pointer d1]
def C.iz(d1:OA):=aq 20 [.pointer d1]
def C.qS(t1:OA)(g1:LV)(n1:Int):=aq 21 [.pointer t1,.agg ⟨g1⟩,.int .i64 n1]
def C.di(t1:OA)(g1:LV)(n1:Int):=aq 22 [.pointer t1,.agg ⟨g1⟩,.int .i64 n1]
def C.du(TV:OA)(MQ Wq:Nat)(aH:OA)(aK aR:Nat):=aq 23 [.slice TV MQ Wq,.slice aH aK aR]
def C.uz(t1:OA)(g1:LV)(n1:Int)(aW:ByteArray):=aq 24 [.pointer t1,.agg ⟨g1⟩,.int .i64 n1,.string aW]
def C.kB(t1:OA)(g1:LV)(n1:Int)(aW:ByteArray):=aq 25 [.pointer t1,.agg ⟨g1⟩,.int .i64 n1,.string aW]
def C.uA(t1:OA)(g1:LV)(n1:Int):=aq 26 [.pointer t1,.agg ⟨g1⟩,.int .i64 n1]
def C.kC(t1:OA)(g1:LV)(n1:Int):=aq 27 [.pointer t1,.agg ⟨g1⟩,.int .i64 n1]
def C.aX(t1:OA)(i1:Int)(aH:OA)(aK aR:Nat):=aq 28 [.pointer t1,.int .i64 i1,.slice aH aK aR]
def C.fE(o1:LV):=aq 29 [.agg ⟨o1⟩]
def C.aA(t1:OA)(i1:Int)(aH:OA)(aK aR:Nat):=aq 30 [.pointer t1,.int .i64 i1,.slice aH aK aR]
def C.gZ(t1:OA):=aq 31 [.pointer t1]
def C.eE(t1:OA):=aq 32 [.pointer t1]
def C.gQ(t1:OA):=aq 33 [.pointer t1]
def C.dO(t1:OA):=aq 34 [.pointer t1]
def C.bm(s1:OA)(o1:LV):=aq 35 [.pointer s1,.agg ⟨o1⟩]
def C.bK(t1:OA):=aq 36 [.pointer t1]
def C.gu(TV:OA)(MQ Wq:Nat)(aH:OA)(aK aR:Nat):=aq 37 [.slice TV MQ Wq,.slice aH aK aR]
def C.gp(t1:OA):=aq 38 [.pointer t1]
def C.dF(t1:OA)(i1:Int):=aq 39 [.pointer t1,.int .i64 i1]
def C.aT(t1:OA)(i1:Int):=aq 40 [.pointer t1,.int .i64 i1]
def C.gj(fZ:OA)(eJ ga:Nat)(pZ:OA)(nY tE:Nat)(kD:OA)(jd nH:Nat):=aq 41 [.slice fZ eJ ga,.slice pZ nY tE,.slice kD jd nH]
def C.gR(x1:LV):=aq 42 [.agg ⟨x1⟩]
def C.kE(x1:LV):=aq 43 [.agg ⟨x1⟩]
def C.qT(t1:OA)(g1:LV)(n1:Int):=aq 44 [.pointer t1,.agg ⟨g1⟩,.int .i64 n1]
def C.fv(r1:OA):=aq 45 [.pointer r1]
def C.gk(xA1:OA)(xL1 xC1:Nat)(cmp1:Value):=aq 46 [.slice xA1 xL1 xC1,cmp1]
def C.hQ(t1:OA)(g1:LV)(n1:Int):=aq 51 [.pointer t1,.agg ⟨g1⟩,.int .i64 n1]
def C.iZ(t1:OA)(g1 x1:LV)(aW:ByteArray):=aq 52 [.pointer t1,.agg ⟨g1⟩,.agg ⟨x1⟩,.string aW]
def C.qU(t1:OA)(g1:LV)(n1:Int)(aW:ByteArray):=aq 53 [.pointer t1,.agg ⟨g1⟩,.int .i64 n1,.string aW]
def C.cR(s1:ByteArray):=aq 54 [.string s1]
def C.jg(t1:OA)(g1:LV)(n1:Int)(aW:ByteArray):=aq 55 [.pointer t1,.agg ⟨g1⟩,.int .i64 n1,.string aW]
def C.dV(d1:OA):=aq 56 [.pointer d1]
def C.kx(x1 x2 x3 x4:OA):=aq 57 [.pointer x1,.pointer x2,.pointer x3,.pointer x4]
def C.bX(aU:OA)(aI bw:Nat):=aq 58 [.slice aU aI bw]
def C.bL(d1:OA):=aq 59 [.pointer d1]
def C.dW(t1:OA)(i1:Int):=aq 60 [.pointer t1,.int .i64 i1]
def C.bz(t1:OA):=aq 61 [.pointer t1]
def C.qa(d1 jx:OA)(iA kR:Nat):=aq 62 [.pointer d1,.slice jx iA kR]
def C.iN(d1 jx:OA)(iA kR:Nat):=aq 63 [.pointer d1,.slice jx iA kR]
def C.oR(t1:OA)(g1:LV)(n1:Int)(aW:ByteArray)(cN:Int):=aq 64 [.pointer t1,.agg ⟨g1⟩,.int .i64 n1,.string aW,.int .i64 cN]
def C.gm(t1:OA)(g1:LV)(n1:Int)(aW:ByteArray)(cN:Int):=aq 65 [.pointer t1,.agg ⟨g1⟩,.int .i64 n1,.string aW,.int .i64 cN]
def C.qc(t1:OA)(g1:LV)(n1:Int)(aW:ByteArray):=aq 66 [.pointer t1,.agg ⟨g1⟩,.int .i64 n1,.string aW]
def C.iO(t1:OA)(g1:LV)(n1:Int)(aW:ByteArray):=aq 67 [.pointer t1,.agg ⟨g1⟩,.int .i64 n1,.string aW]
def C.nZ(t1:OA)(g1:LV)(n1:Int)(aW:ByteArray)(cN:Int):=aq 68 [.pointer t1,.agg ⟨g1⟩,.int .i64 n1,.string aW,.int .i64 cN]
def C.dY(t1:OA)(g1:LV)(n1:Int)(aW:ByteArray)(cN:Int):=aq 69 [.pointer t1,.agg ⟨g1⟩,.int .i64 n1,.string aW,.int .i64 cN]
def C.iB(s1:ByteArray)(n1:Int):=aq 70 [.string s1,.int .i64 n1]
def C.vd(seq1:Value):=aq 71 [seq1]
def C.cV(m1:Option Nat):=aq 72 [.map m1]
def C.iC(d1:OA)(i1:Int):=aq 73 [.pointer d1,.int .i64 i1]
def C.cK(d1:OA)(i1:Int):=aq 74 [.pointer d1,.int .i64 i1]
def C.dP(pZ:OA)(nY tE:Nat)(i1:Int)(kD:OA)(jd nH:Nat):=aq 75 [.slice pZ nY tE,.int .i64 i1,.slice kD jd nH]
def C.cG(n1 Da we:Int):=aq 76 [.int .i64 n1,.int .i64 Da,.int .i64 we]
def C.fG(n1 rZ:Int):=aq 77 [.int .i64 n1,.int .i64 rZ]
def C.sd(t1:OA)(g1:LV)(n1:Int):=aq 78 [.pointer t1,.agg ⟨g1⟩,.int .i64 n1]
def C.aQ(jP:Value)(x1:OA):=aq 79 [jP,.pointer x1]
def C.nk(t1:OA)(g1 x1:LV)(k1:Int):=aq 80 [.pointer t1,.agg ⟨g1⟩,.agg ⟨x1⟩,.int .i64 k1]
def C.fw(r1:OA)(e1:Int):=aq 81 [.pointer r1,.int .i64 e1]
def C.n'(aH:OA)(aK aR:Nat):=aq 82 [.slice aH aK aR]
def C.lJ(t1:OA)(g1:LV)(n1:Int):=aq 87 [.pointer t1,.agg ⟨g1⟩,.int .i64 n1]
def C.fH(t1:OA)(g1 x1:LV)(k1:Int):=aq 88 [.pointer t1,.agg ⟨g1⟩,.agg ⟨x1⟩,.int .i64 k1]
def C.mq(s1:ByteArray):=aq 89 [.string s1]
def C.xe(jx:OA)(iA kR:Nat)(n1:Int):=aq 90 [.slice jx iA kR,.int .i64 n1]
def C.se(mL:OA)(jC og:Nat)(jQ:OA)(iP kW:Nat):=aq 91 [.slice mL jC og,.slice jQ iP kW]
def C.iD(d1:OA):=aq 92 [.pointer d1]
def C.fI(s1:OA)(i1:Int)(aH:OA)(aK aR:Nat):=aq 93 [.pointer s1,.int .i64 i1,.slice aH aK aR]
def C.fJ(s1:OA):=aq 94 [.pointer s1]
def C.kF(s1 jx:OA)(iA kR:Nat):=aq 95 [.pointer s1,.slice jx iA kR]
def C.k8(aU:OA)(aI bw:Nat)(d1:OA):=aq 96 [.slice aU aI bw,.pointer d1]
def C.iQ(jx:OA)(iA kR:Nat):=aq 97 [.slice jx iA kR]
def C.dG(d1:OA)(i1:Int)(aH:OA)(aK aR:Nat):=aq 98 [.pointer d1,.int .i64 i1,.slice aH aK aR]
def C.dH(d1:OA):=aq 99 [.pointer d1]
def C.ve(g1:LV)(n1:Int):=aq 100 [.agg ⟨g1⟩,.int .i64 n1]
def C.bB(aU:OA)(aI bw:Nat)(f1:Value):=aq 101 [.slice aU aI bw,f1]
def C.sf(c1:LV)(x1:OA):=aq 102 [.agg ⟨c1⟩,.pointer x1]
def C.mM(aH:OA)(aK aR:Nat):=aq 103 [.slice aH aK aR]
def C.hZ(t1:OA):=aq 104 [.pointer t1]
def C.fS(t1:OA)(jy:Int):=aq 106 [.pointer t1,.int .i64 jy]
def C.cE(r1:OA)(AW dp:Int)(c1:LV):=aq 107 [.pointer r1,.int .i64 AW,.int .i64 dp,.agg ⟨c1⟩]
def C.dM(t1:OA):=aq 108 [.pointer t1]
def C.fK(t1:OA)(g1:LV)(n1:Int)(x1 c1:LV):=aq 109 [.pointer t1,.agg ⟨g1⟩,.int .i64 n1,.agg ⟨x1⟩,.agg ⟨c1⟩]
def C.cH(t1:OA)(jy:Int):=aq 110 [.pointer t1,.int .i64 jy]
def C.dI(f1:OA)(e1:Int):=aq 111 [.pointer f1,.int .i64 e1]
def C.oh(aH:OA)(aK aR:Nat)(dp:Int):=aq 112 [.slice aH aK aR,.int .i64 dp]
def C.gz(t1:OA)(g1:LV)(n1:Int)(aW:ByteArray)(cN:Int):=aq 113 [.pointer t1,.agg ⟨g1⟩,.int .i64 n1,.string aW,.int .i64 cN]
def C.nv(aH:OA)(aK aR:Nat)(e1:LV):=aq 114 [.slice aH aK aR,.agg ⟨e1⟩]
def C.jh(d1:OA)(i1:Int):=aq 118 [.pointer d1,.int .i64 i1]
def C.j3(g1:LV)(n1:Int):=aq 119 [.agg ⟨g1⟩,.int .i64 n1]
def C.mF(t1:OA)(g1:LV)(n1:Int):=aq 120 [.pointer t1,.agg ⟨g1⟩,.int .i64 n1]
def C.mN(aH:OA)(aK aR:Nat):=aq 121 [.slice aH aK aR]
def C.bY(f1:OA)(k1:Int)(Ju:Value):=aq 122 [.pointer f1,.int .i64 k1,Ju]
def C.oT(x1:LV)(x2:Int)(xA1:OA)(xL1 xC1:Nat):=aq 123 [.agg ⟨x1⟩,.int .i64 x2,.slice xA1 xL1 xC1]
def C.lK(TW:OA)(Ws Vj:Nat):=aq 124 [.slice TW Ws Vj]
def C.lL(aH:OA)(aK aR:Nat)(k1:Int):=aq 125 [.slice aH aK aR,.int .i64 k1]
def C.dS(g1:LV)(n1:Int):=aq 136 [.agg ⟨g1⟩,.int .i64 n1]
def C.db(aH:OA)(aK aR:Nat):=aq 137 [.slice aH aK aR]
def C.dJ(t1:OA)(g1 x1:LV)(k1:Int):=aq 138 [.pointer t1,.agg ⟨g1⟩,.agg ⟨x1⟩,.int .i64 k1]
def C.kG(aH:OA)(aK aR:Nat):=aq 139 [.slice aH aK aR]
def C.qp(s1:ByteArray):=aq 140 [.string s1]
def C.fX(s1 gM:ByteArray):=aq 141 [.string s1,.string gM]
def C.uB(mL:OA)(jC og:Nat)(n1:Int):=aq 142 [.slice mL jC og,.int .i64 n1]
def C.kH(jQ:OA)(iP kW:Nat)(n1:Int):=aq 143 [.slice jQ iP kW,.int .i64 n1]
def C.oq :=aq 144 []
def C.j5(aH:OA)(aK aR:Nat)(fU n1:Int)(s1:ByteArray):=aq 145 [.slice aH aK aR,.int .i64 fU,.int .i64 n1,.string s1]
def C.ja(aH:OA)(aK aR:Nat)(fU n1 v1:Int)(h:ad)(k:KT):=qK Tryz.prog 146 [.slice aH aK aR,.int .i64 fU,.int .i64 n1,.int .u64 v1] h k
def C.qd(Db:OA)(Dc Dd:Nat)(wg:OA)(uC yw:Nat):=aq 147 [.slice Db Dc Dd,.slice wg uC yw]
def C.iR(d1 x1 x2:OA):=aq 148 [.pointer d1,.pointer x1,.pointer x2]
def C.gA(d1:OA)(i1:Int)(aH:OA)(aK aR:Nat):=aq 149 [.pointer d1,.int .i64 i1,.slice aH aK aR]
def C.iS(d1:OA):=aq 150 [.pointer d1]
def C.gC(d1:OA):=aq 151 [.pointer d1]
def C.gS(n1 rZ:Int):=aq 152 [.int .i64 n1,.int .i64 rZ]
def C.lM(aH:OA)(aK aR:Nat):=aq 153 [.slice aH aK aR]
def C.jD(blocks1:Int)(a1:LV):=aq 154 [.int .i64 blocks1,.agg ⟨a1⟩]
def C.fe(d1:OA):=aq 155 [.pointer d1]
def C.cj(aU:OA)(aI bw:Nat)(f1:Value):=aq 156 [.slice aU aI bw,f1]
def C.ou(t1:OA)(g1 x1:LV)(k1:Int):=aq 157 [.pointer t1,.agg ⟨g1⟩,.agg ⟨x1⟩,.int .i64 k1]
def C.si(t1:OA)(g1:LV)(n1:Int)(x1:LV):=aq 158 [.pointer t1,.agg ⟨g1⟩,.int .i64 n1,.agg ⟨x1⟩]
def C.gT(t1:OA)(g1 x1:LV)(k1:Int):=aq 159 [.pointer t1,.agg ⟨g1⟩,.agg ⟨x1⟩,.int .i64 k1]
def C.j6(t1:OA)(yx:Int)(c1:LV):=aq 160 [.pointer t1,.int .i64 yx,.agg ⟨c1⟩]
def C.lO(t1:OA)(g1:LV)(n1:Int)(x1:LV):=aq 161 [.pointer t1,.agg ⟨g1⟩,.int .i64 n1,.agg ⟨x1⟩]
def C.j8(k1:Int):=aq 162 [.int .i64 k1]
def C.fy(v1 Da we:Int):=aq 165 [.int .i64 v1,.int .i64 Da,.int .i64 we]
def C.mO(g1:LV)(n1:Int):=aq 166 [.agg ⟨g1⟩,.int .i64 n1]
def C.dg(fU n1:Int)(x1:OA):=aq 167 [.int .i64 fU,.int .i64 n1,.pointer x1]
def C.sN(aH:OA)(aK aR:Nat)(fU n1:Int):=aq 168 [.slice aH aK aR,.int .i64 fU,.int .i64 n1]
def C.pH(aH:OA)(aK aR:Nat)(fU n1:Int):=aq 169 [.slice aH aK aR,.int .i64 fU,.int .i64 n1]
def C.qq(x1:LV):=aq 170 [.agg ⟨x1⟩]
def C.uD(k1:Int):=aq 171 [.int .i64 k1]
def C.iT(f1:OA)(s1:LV)(fU:Int):=aq 172 [.pointer f1,.agg ⟨s1⟩,.int .i64 fU]
def C.kI(f1:OA)(wh:Int):=aq 173 [.pointer f1,.int .i64 wh]
def C.bp(aH:OA)(aK aR:Nat):=aq 179 [.slice aH aK aR]
def C.gD(k1:Int):=aq 180 [.int .i64 k1]
def C.gE(x1:LV)(i1:Int):=aq 181 [.agg ⟨x1⟩,.int .i64 i1]
def C.ig(g1:LV)(n1:Int):=aq 182 [.agg ⟨g1⟩,.int .i64 n1]
def C.ji(t1:OA)(n1:Int):=aq 183 [.pointer t1,.int .i64 n1]
def C.fL(aH:OA)(aK aR:Nat):=aq 184 [.slice aH aK aR]
def C.eW(s1 gM:ByteArray):=aq 187 [.string s1,.string gM]
def C.oz(i1:Int)(x1 x2:OA):=aq 188 [.int .i64 i1,.pointer x1,.pointer x2]
def C.sj(aH:OA)(aK aR:Nat):=aq 189 [.slice aH aK aR]
def C.qV(aH:OA)(aK aR:Nat)(fU n1:Int):=aq 190 [.slice aH aK aR,.int .i64 fU,.int .i64 n1]
def C.j9(n1:Int):=aq 191 [.int .i64 n1]
def C.oA(aH:OA)(aK aR:Nat):=aq 192 [.slice aH aK aR]
def C.yy(aH:OA)(aK aR:Nat):=aq 193 [.slice aH aK aR]
def C.qW(a1 b1 n1:Int):=aq 194 [.int .u32 a1,.int .u32 b1,.int .i64 n1]
def C.iE(d1:OA)(yz:Value):=aq 195 [.pointer d1,yz]
def C.ir(x1:OA):=aq 196 [.pointer x1]
def C.qe(t1:OA):=aq 197 [.pointer t1]
def C.qu(s1:LV)(fU:Int)(aH:OA)(aK aR:Nat)(x1 x2 x3:OA):=aq 199 [.agg ⟨s1⟩,.int .i64 fU,.slice aH aK aR,.pointer x1,.pointer x2,.pointer x3]
def C.oB(t1:OA)(g1:LV):=aq 200 [.pointer t1,.agg ⟨g1⟩]
def C.lP(f1:OA)(s1:LV)(fU:Int)(aH:OA)(aK aR:Nat)(wh:Int):=aq 201 [.pointer f1,.agg ⟨s1⟩,.int .i64 fU,.slice aH aK aR,.int .i64 wh]
def C.mP(x1:LV):=aq 202 [.agg ⟨x1⟩]
def C.fM(t1:OA)(g1 x1:LV)(k1:Int):=aq 203 [.pointer t1,.agg ⟨g1⟩,.agg ⟨x1⟩,.int .i64 k1]
def C.iF(aH:OA)(aK aR:Nat)(dp:Int):=aq 204 [.slice aH aK aR,.int .i64 dp]
def C.gU(aH:OA)(aK aR:Nat)(e1:LV):=aq 205 [.slice aH aK aR,.agg ⟨e1⟩]
def C.sk(aH:OA)(aK aR:Nat):=aq 215 [.slice aH aK aR]
def C.ke(x1:LV):=aq 216 [.agg ⟨x1⟩]
def C.kf(f1:OA)(s1:LV):=aq 217 [.pointer f1,.agg ⟨s1⟩]
def C.jE(aH:OA)(aK aR:Nat):=aq 219 [.slice aH aK aR]
def C.iU(aH:OA)(aK aR:Nat):=aq 220 [.slice aH aK aR]
def C.ij(cN:Int)(aW:ByteArray):=aq 221 [.int .i64 cN,.string aW]
def C.bZ(s1:ByteArray)(r1:Int):=aq 222 [.string s1,.int .i32 r1]
def C.eG(zk:Int):=aq 223 [.int .i64 zk]
def C.fF(gM:ByteArray):=aq 224 [.string gM]
def C.eI(as1:OA)(c1:Int):=aq 225 [.pointer as1,.int .u8 c1]
def C.sY(v1 b1:Int):=aq 226 [.int .u32 v1,.int .u8 b1]
def C.qf(v1 n1:Int):=aq 227 [.int .u32 v1,.int .i64 n1]
def C.kJ(d1 kD:OA)(jd nH:Nat):=aq 228 [.pointer d1,.slice kD jd nH]
def C.nw(e1:Int)(x1 x2 x3:OA):=aq 229 [.int .i64 e1,.pointer x1,.pointer x2,.pointer x3]
def C.qg(t1:OA)(g1:LV)(CR:Value):=aq 230 [.pointer t1,.agg ⟨g1⟩,CR]
def C.nA(su:Int)(aH:OA)(aK aR:Nat)(x1 x2:OA):=aq 231 [.int .i64 su,.slice aH aK aR,.pointer x1,.pointer x2]
def C.qh(g1:LV)(su:Int)(aH:OA)(aK aR:Nat)(CR:Value):=aq 232 [.agg ⟨g1⟩,.int .i64 su,.slice aH aK aR,CR]
def C.ky(Jv x1:Int)(x2:OA):=aq 233 [.int .i64 Jv,.int .i64 x1,.pointer x2]
def C.qi(t1:OA)(jy:Int)(e1:OA):=aq 235 [.pointer t1,.int .i64 jy,.pointer e1]
def C.sv(t1:OA)(g1:LV)(i1:Int)(on1:Bool):=aq 236 [.pointer t1,.agg ⟨g1⟩,.int .i64 i1,.bool on1]
def C.cg(t1:OA)(g1:LV):=aq 237 [.pointer t1,.agg ⟨g1⟩]
def C.kK(x1:LV)(i1 n1:Int):=aq 238 [.agg ⟨x1⟩,.int .i64 i1,.int .i64 n1]
def C.jF(jx:OA)(iA kR:Nat):=aq 239 [.slice jx iA kR]
def C.jj(aH:OA)(aK aR:Nat)(dp:Int)(jx:OA)(iA kR:Nat):=aq 240 [.slice aH aK aR,.int .i64 dp,.slice jx iA kR]
def C.fA(s1:ByteArray)(c1:Int):=aq 244 [.string s1,.int .u8 c1]
def C.dK(r1:Int):=aq 245 [.int .i32 r1]
def C.gF(m1:OA)(v1:Int):=aq 248 [.pointer m1,.int .u32 v1]
def C.gf(m1:OA):=aq 249 [.pointer m1]
def C.sx(aH:OA)(aK aR:Nat):=aq 250 [.slice aH aK aR]
def C.sy(t1:OA)(g1:LV)(i1:Int):=aq 251 [.pointer t1,.agg ⟨g1⟩,.int .i64 i1]
def C.uE(aH:OA)(aK aR:Nat)(i1:Int)(is1:Bool):=aq 252 [.slice aH aK aR,.int .i64 i1,.bool is1]
def C.lQ(t1:OA)(g1:LV)(i1:Int):=aq 253 [.pointer t1,.agg ⟨g1⟩,.int .i64 i1]
def C.lS(t1:OA)(g1:LV)(i1:Int):=aq 254 [.pointer t1,.agg ⟨g1⟩,.int .i64 i1]
def C.dd(s1:ByteArray)(c1:Int):=aq 256 [.string s1,.int .u8 c1]
def C.eM(jP:Value)(x1:OA):=aq 257 [jP,.pointer x1]
def C.qX(aH:OA)(aK aR:Nat)(i1:Int):=aq 258 [.slice aH aK aR,.int .i64 i1]
def C.tW(aH:OA)(aK aR:Nat)(i1:Int):=aq 259 [.slice aH aK aR,.int .i64 i1]
def C.tX(g1:LV)(i1:Int):=aq 260 [.agg ⟨g1⟩,.int .i64 i1]
def D.bz(t1:OA)(h:ad)(k:HP):Prop:=CV Tryz.prog 61 [.pointer t1] h k
def D.fj(x1:OA)(x2:OA)(x3:OA)(h:ad)(k:HP):Prop:=CV Tryz.prog 105 [.pointer x1,.pointer x2,.pointer x3] h k
def D.eF(x1:OA)(x2:OA)(x3:OA)(x4:OA)(h:ad)(k:HP):Prop:=CV Tryz.prog 198 [.pointer x1,.pointer x2,.pointer x3,.pointer x4] h k
def D.bU(x1:OA)(x2:OA)(x3:OA)(h:ad)(k:HP):Prop:=CV Tryz.prog 234 [.pointer x1,.pointer x2,.pointer x3] h k
def oS:Nat->Nat->Od->Od|_,0,t=>t|i,n+1,t=>.op i [] (oS (i+1) n t)
abbrev _root_.Go.Proofs.YtlbckoblcdoceaaGreatDoor.vP(a:OA):Value:=.pointer a
abbrev _root_.Go.Proofs.YtlbckoblcdoceaaGreatDoor.vS(a:OA)(l c:Nat):Value:=.slice a l c
abbrev _root_.Go.Proofs.YtlbckoblcdoceaaGreatDoor.bA(h:ad):Addr:=⟨h.size,0,none⟩
abbrev _root_.Go.Proofs.YtlbckoblcdoceaaGreatDoor.cI(h:ad)(a:Addr)(n:Int):Prop:=cellOf h a=some (.int .i64 n)
abbrev _root_.Go.Proofs.YtlbckoblcdoceaaGreatDoor.cP(h:ad)(a:Addr)(q:OA):Prop:=cellOf h a=some (.pointer q)
abbrev _root_.Go.Proofs.YtlbckoblcdoceaaGreatDoor.cS(h:ad)(a:Addr)(p:OA)(l c:Nat):Prop:=cellOf h a=some (.slice p l c)
abbrev _root_.Go.Proofs.YtlbckoblcdoceaaGreatDoor.aS(h:ad)(n:Nat):Addr:=Addr.add (bA h) n
abbrev _root_.Go.Proofs.YtlbckoblcdoceaaGreatDoor.vI(n:Int):Value:=.int .i64 n
def l0:Nat->List Nat×List (Nat×Ty):=fun|_=>([],[])
def o0:Nat->Od:=fun|_=>.nil
theorem fk(lo:Nat->List Nat×List (Nat×Ty))(od:Nat->Od){g:Nat}{fn:Func}{a:LV}{k:KT}{h:ad}{X:Prop}(hf:Tryz.prog.funcs[g]?=some fn)(x:X)(hb:fn.body=some (fn.body.getD .skip):=by kernel_rfl)(ok:Pm (cx lo od) fn (fn.body.getD .skip) a.length=true:=by kernel_rfl)(e:fnX (cx lo od) fn (fn.body.getD .skip) a k h=X:=by kernel_rfl):qK Tryz.prog g a h k:=Wg (c:=fn.body.getD .skip) (Pq lo od) hf hb ok (Eq.mpr e x)
theorem fz{g:Nat}{fn:Func}{a:LV}{k:KT}{X:Prop}(hf:Tryz.prog.funcs[g]?=some fn)(x:X)(hb:fn.body=some (fn.body.getD .skip):=by kernel_rfl)(ok:Pm (cx l0 o0) fn (fn.body.getD .skip) a.length=true:=by kernel_rfl)(e:fnX (cx l0 o0) fn (fn.body.getD .skip) a k h=X:=by kernel_rfl):qK Tryz.prog g a h k:=Wg (c:=fn.body.getD .skip) (Pq l0 o0) hf hb ok (Eq.mpr e x)
def bu.k2(h1 bf:ad)(gr:OA)(fQ gY:Nat)(i1:Int)(fN:ad)(I2:OA->Nat->Nat->Int->ad->Prop)(M2:OA->Nat->Nat->Int->ad->Nat)(K:KT):=
 ∃xD xf xQ,cS fN (aS h1 2) xD xf xQ/\
 (0<=i1/\i1<(xf:Int))/\
 ae xD λp2=>
 ∃n7,cI fN (Addr.add (p2.add ((Int.toNat i1)*4)) 0) n7/\
 bif(n7==5)then(
 ∃BR Bu De,cS fN (aS h1 2) BR Bu De/\
 (0<=i1/\i1<(Bu:Int))/\
 ae BR λp3=>
 ∃n8,cI fN (Addr.add (p3.add ((Int.toNat i1)*4)) 1) n8/\
 C.cD (some (bA bf)) n8 gr fQ gY fN λr7 gN=>
 ∃EZ E0 Gk b2,r7 = .tuple #[vS EZ E0 Gk,.bool b2]/\
 bif(!b2)then(
 K (.bool false) gN)else(
 I2 EZ E0 Gk (wI (i1+1)) gN/\M2 EZ E0 Gk (wI (i1+1)) gN<M2 gr fQ gY i1 fN))else(
 ∃EL Df H3,cS fN (aS h1 2) EL Df H3/\
 (0<=i1/\i1<(Df:Int))/\
 ae EL λp4=>
 ∃pI,List.length pI=4/\ai fN (p4.add ((Int.toNat i1)*4)) pI/\
 C.aY (some (bA bf)) pI fN λr8 gO=>
 ∃b3,r8 = .bool b3/\
 bif(!b3)then(
 K (.bool false) gO)else(
 I2 gr fQ gY (wI (i1+1)) gO/\M2 gr fQ gY (wI (i1+1)) gO<M2 gr fQ gY i1 fN))
def bu.k3(bf:ad)(ad8:OA)(ad9 aea:Nat)(jk:ad)(K:KT):=
 C.bJ (some (bA bf)) jk λr9 eX=>
 ∃b4,r9 = .bool b4/\
 bif b4 then(
 ∃q3,cP eX (aS bf 0) q3/\
 ∃q4,cP eX (aS bf 1) q4/\
 C.gy q3 eX λE1 iG=>
 ∃Wt Vk sC9,E1 = vS Wt Vk sC9/\
 (cP iG (aS bf 1) q4)/\
 ∃Eb,av iG Wt Vk Eb/\
 C.eD q4 iG λTX oM=>
 ∃K7 K8 MR,TX = vS K7 K8 MR/\
 av oM Wt Vk (ByteArray.toList (mkStr Eb))/\
 ∃bs2,av oM K7 K8 bs2/\
 bif((mkStr Eb).toList==(mkStr bs2).toList)then(
 C.jB ad8 ad9 aea oM λEM qD=>
 ∃b5,EM = .bool b5/\
 K (.bool b5) qD)else(
 K (.bool false) oM))else(
 K (.bool false) eX)
def bu.k1(h1 h4:ad)(q1:OA)(bf:ad)(q2:OA)(K:KT):=
 ∃nO,List.length nO=5/\ai bf (bA h4) nO/\
 List.length (nO:LV)=5/\
 aC ([vP q1]++([vP q2]++([vP none]++([vP none]++nO)))) 46 bf λbQ=>
 C.dE (some (bA bf)) bQ λr6 cX=>
 ∃b1,r6 = .bool b1/\
 bif(!b1)then(
 K (.bool false) cX)else(
 ∃(I2:OA->Nat->Nat->Int->ad->Prop) (M2:OA->Nat->Nat->Int->ad->Nat),I2 none 0 0 0 cX/\
 ∀(gr:OA) (fQ:Nat) (gY:Nat) (i1:Int),∀fN:ad,I2 gr fQ gY i1 fN->
 ∃tN tF uF,cS fN (aS h1 2) tN tF uF/\
 bif(decide (i1<(tF:Int)))then(
 bif(decide (i1<60))then(
 bu.k2 h1 bf gr fQ gY i1 fN I2 M2 K)else(
 bu.k3 bf gr fQ gY fN K))else(
 bu.k3 bf gr fQ gY fN K))
def bu(c1:LV)(K:KT)(h1:ad):=
 aC c1 25 h1 λh2=>
 ∃n1,cI h2 (aS h1 0) n1/\
 C.iY n1 100 h2 λr1 h3=>
 ∃n2,r1 = vI n2/\
 C.jZ (wI (128+n2)) h3 λr2 h4=>
 ∃br,r2 = .agg ⟨br⟩/\
 aF z27 27 br 5 h4 λh6=>
 ∃aU aI bw,cS h6 (aS h1 1) aU aI bw/\
 ∃(I1:IP) (M1:IM),I1 0 h6/\
 ∀(n3:Int),∀h7:ad,I1 n3 h7->
 bif(decide (n3<(aI:Int)))then(
 (0<=n3/\n3<(aI:Int))/\
 ae aU λp1=>
 ∃cT,List.length cT=15/\ai h7 (p1.add ((Int.toNat n3)*15)) cT/\
 aF z32 32 cT 15 h7 λh9=>
 ∃n4,cI h9 (aS h7 2) n4/\
 bif(decide (n4>131072))then(
 K (.bool true) h9)else(
 I1 (wI (n3+1)) h9/\M1 (wI (n3+1)) h9<M1 n3 h7))else(
 ∃gG,List.length gG=5/\ai h7 (bA h4) gG/\
 ∃eC dT fD,cS h7 (aS h1 1) eC dT fD/\
 C.eV gG eC dT fD h7 λr3 bG=>
 ∃kS kA lW,r3 = vS kS kA lW/\
 C.nX kS kA lW bG λr4 cu=>
 ∃q1 n5,r4 = .tuple #[vP q1,vI n5]/\
 C.k7 kS kA lW cu λr5 bf=>
 ∃q2 n6,r5 = .tuple #[vP q2,vI n6]/\
 bif(n5 != n6)then(
 K (.bool false) bf)else(
 bif(Option.isNone q1)then(
 K (.bool false) bf)else(
 bif(Option.isNone q2)then(
 K (.bool false) bf)else(
 bu.k1 h1 h4 q1 bf q2 K))))
set_option maxRecDepth 1000000 in
set_option maxRecDepth 1000000 in
theorem bu.ok{c1 K h}(x:bu c1 K h):C.bu c1 h K:=fk (fun|3=>([1,3,21,22],[(23,.int .i64)])|18=>([1,11],[(12,.slice),(13,.int .i64)])|_=>([],[])) (fun|26=>(oS 0 7 (oS 9 4 (.op 7 [12] (.op 8 [] (.op 13 [8] (oS 14 7 (.op 21 [] .nil)))))))|_=>.nil) Tryz.func3 x
def jZ(n1:Int)(K:KT)(h1:ad):=
 aF z27 27 [vI n1,vI 98,vI (wI (98+(wI (Int.tdiv (wI ((wI (n1+4096))-1)) 4096)))),vI (wI ((wI (98+(wI (Int.tdiv (wI ((wI (n1+4096))-1)) 4096))))+(wI (Int.tdiv n1 64)))),vI (wI (8*(wI (Int.tdiv n1 64))))] 5 h1 λh3=>
 ∃dq,List.length dq=5/\ai h3 (bA h1) dq/\
 K (.agg ⟨dq⟩) h3
theorem jZ.ok{n1 K h}(x:jZ n1 K h):C.jZ n1 h K:=fz Tryz.func4 x
def iY(v1 n1:Int)(K:KT)(h1:ad):=
 if n1=0 then False else
 bif(decide ((Int.tmod v1 n1)<0))then(
 K (vI (wI ((Int.tmod v1 n1)+n1))) h1)else(
 K (vI (Int.tmod v1 n1)) h1)
theorem iY.ok{v1 n1 K h}(x:iY v1 n1 K h):C.iY v1 n1 h K:=fz Tryz.func5 x
def eV.k1(h1 h2:ad)(n1:Int)(h3:ad)(n2 n3 n7:Int)(h8:ad)(I2:IP)(M2:IM)(cu:ad)(aU:OA)(aI:Nat)(K:KT):=
 ∃(I3:IP) (M3:IM),I3 0 cu/\
 ∀(k1:Int),∀bf:ad,I3 k1 bf->
 bif(decide (k1<(aI:Int)))then(
 ∃n10,cI bf (aS h1 2) n10/\
 (0<=k1/\k1<(aI:Int))/\
 ae aU λp2=>
 ∃n11,cellOf bf (p2.add (Int.toNat k1))=some (.int .u8 n11)/\
 (0<=(wI ((wI ((wI (n10*512))+(wI (64*(wI (n7+1))))))+k1))/\(wI ((wI ((wI (n10*512))+(wI (64*(wI (n7+1))))))+k1))<((Int.toNat (wI (n1*512))):Int))/\
 bD (Addr.add (bA h2) (Int.toNat (wI ((wI ((wI (n10*512))+(wI (64*(wI (n7+1))))))+k1)))) (.int .u8 n11) bf λbQ=>
 I3 (wI (k1+1)) bQ/\M3 (wI (k1+1)) bQ<M3 k1 bf)else(
 ∃gG,List.length gG=10/\ai bf (aS h8 3) gG/\
 ∃(I4:IP) (M4:IM),I4 0 bf/\
 ∀(n12:Int),∀cX:ad,I4 n12 cX->
 bif(decide (n12<10))then(
 (0<=n12/\n12<(10:Int))/\
 ∃n13,gG[(Int.toNat n12)]?=some (vI n13)/\
 ∃n14,cI cX (aS h1 3) n14/\
 bif(decide (n13>=n14))then(
 ∃n15,cI cX (aS h1 0) n15/\
 bif(decide (n13<n15))then(
 (0<=n13/\n13<(((Int.toNat (wI ((wI (n2-n3))*4096))):Nat):Int))/\
 bD (Addr.add (bA h3) (Int.toNat n13)) (.bool true) cX λfN=>
 I4 (wI (n12+1)) fN/\M4 (wI (n12+1)) fN<M4 n12 cX)else(
 I4 (wI (n12+1)) cX/\M4 (wI (n12+1)) cX<M4 n12 cX))else(
 I4 (wI (n12+1)) cX/\M4 (wI (n12+1)) cX<M4 n12 cX))else(
 I2 (wI (n7+1)) cX/\M2 (wI (n7+1)) cX<M2 n7 h8))
def eV(g1:LV)(uf:OA)(rW v8:Nat)(K:KT)(h1:ad):=
 aC g1 27 h1 λh2=>
 ∃n1,cI h2 (aS h1 0) n1/\
 (0<=(wI (n1*512))/\(wI (n1*512))<=(wI (n1*512))/\(1:Int)*(wI (n1*512))<=281474976710656/\(wI (n1*512))<=281474976710656)/\
 aC (aL z5 (Int.toNat (wI (n1*512)))) 5 h2 λh3=>
 ∃n2,cI h3 (aS h1 2) n2/\
 ∃n3,cI h3 (aS h1 1) n3/\
 (0<=(wI ((wI (n2-n3))*4096))/\(wI ((wI (n2-n3))*4096))<=(wI ((wI (n2-n3))*4096))/\(1:Int)*(wI ((wI (n2-n3))*4096))<=281474976710656/\(wI ((wI (n2-n3))*4096))<=281474976710656)/\
 aC (aL z4 (Int.toNat (wI ((wI (n2-n3))*4096)))) 4 h3 λh4=>
 ∃(I1:IP) (M1:IM),I1 0 h4/\
 ∀(n4:Int),∀h5:ad,I1 n4 h5->
 bif(decide (n4<(((Int.toNat (wI ((wI (n2-n3))*4096))):Nat):Int)))then(
 ∃n5,cI h5 (aS h1 3) n5/\
 bif(decide (n4<n5))then(
 (0<=n4/\n4<(((Int.toNat (wI ((wI (n2-n3))*4096))):Nat):Int))/\
 bD (Addr.add (bA h3) (Int.toNat n4)) (.bool true) h5 λh6=>
 I1 (wI (n4+1)) h6/\M1 (wI (n4+1)) h6<M1 n4 h5)else(
 ∃n6,cI h5 (aS h1 0) n6/\
 (0<=n4/\n4<(((Int.toNat (wI ((wI (n2-n3))*4096))):Nat):Int))/\
 bD (Addr.add (bA h3) (Int.toNat n4)) (.bool (decide (n4>=n6))) h5 λh7=>
 I1 (wI (n4+1)) h7/\M1 (wI (n4+1)) h7<M1 n4 h5))else(
 ∃(I2:IP) (M2:IM),I2 0 h5/\
 ∀(n7:Int),∀h8:ad,I2 n7 h8->
 bif(decide (n7<(rW:Int)))then(
 (0<=n7/\n7<(rW:Int))/\
 ae uf λp1=>
 ∃br,List.length br=15/\ai h8 (p1.add ((Int.toNat n7)*15)) br/\
 aF z32 32 br 15 h8 λbG=>
 ∃cT,List.length cT=15/\ai bG (bA h8) cT/\
 C.fR cT bG λr1 cu=>
 ∃aU aI bw n8,r1 = .tuple #[vS aU aI bw,vI n8]/\
 bif(n8 != 0)then(
 I2 (wI (n7+1)) cu/\M2 (wI (n7+1)) cu<M2 n7 h8)else(
 ∃n9,cI cu (aS h1 4) n9/\
 bif(decide ((wI (n7+1))>=n9))then(
 I2 (wI (n7+1)) cu/\M2 (wI (n7+1)) cu<M2 n7 h8)else(
 eV.k1 h1 h2 n1 h3 n2 n3 n7 h8 I2 M2 cu aU aI K)))else(
 ∃(I5:IP) (M5:IM),I5 0 h8/\
 ∀(n16:Int),∀gN:ad,I5 n16 gN->
 bif(decide (n16<(((Int.toNat (wI ((wI (n2-n3))*4096))):Nat):Int)))then(
 (0<=n16/\n16<(((Int.toNat (wI ((wI (n2-n3))*4096))):Nat):Int))/\
 ∃b1,cellOf gN (Addr.add (bA h3) (Int.toNat n16))=some (.bool b1)/\
 bif b1 then(
 ∃(I6:Int->Int->ad->Prop) (M6:Int->Int->ad->Nat),I6 1 0 gN/\
 ∀(v1:Int) (k2:Int),∀gO:ad,I6 v1 k2 gO->
 bif(decide (k2<(Int.tmod n16 8)))then(
 I6 (IntKind.wrap .u8 (v1*2)) (wI (k2+1)) gO/\M6 (IntKind.wrap .u8 (v1*2)) (wI (k2+1)) gO<M6 v1 k2 gO)else(
 ∃n17,cI gO (aS h1 1) n17/\
 ∃n18,cI gO (aS h1 1) n18/\
 (0<=(wI ((wI (n18*512))+(wI (Int.tdiv n16 8))))/\(wI ((wI (n18*512))+(wI (Int.tdiv n16 8))))<((Int.toNat (wI (n1*512))):Int))/\
 ∃n19,cellOf gO (Addr.add (bA h2) (Int.toNat (wI ((wI (n18*512))+(wI (Int.tdiv n16 8))))))=some (.int .u8 n19)/\
 (0<=(wI ((wI (n17*512))+(wI (Int.tdiv n16 8))))/\(wI ((wI (n17*512))+(wI (Int.tdiv n16 8))))<((Int.toNat (wI (n1*512))):Int))/\
 bD (Addr.add (bA h2) (Int.toNat (wI ((wI (n17*512))+(wI (Int.tdiv n16 8)))))) (.int .u8 (IntKind.wrap .u8 (n19+v1))) gO λjk=>
 I5 (wI (n16+1)) jk/\M5 (wI (n16+1)) jk<M5 n16 gN))else(
 I5 (wI (n16+1)) gN/\M5 (wI (n16+1)) gN<M5 n16 gN))else(
 K (vS (some (bA h2)) (Int.toNat (wI (n1*512))) (Int.toNat (wI (n1*512)))) gN)))
theorem eV.ok{g1 uf rW v8 K h}(x:eV g1 uf rW v8 K h):C.eV g1 uf rW v8 h K:=fk (fun|4=>([1,2,5,6,30],[(31,.int .i64)])|9=>([2,5,6,48,49],[(50,.int .i64)])|14=>([2,5,6,8,9,10,48,49,50],[(12,.int .i64)])|18=>([2,5,6,48,49,50,91],[(92,.int .i64)])|25=>([2,5,6,111],[(112,.int .i64)])|30=>([2,5,6,15,111,112],[(16,.int .u8),(17,.int .i64)])|_=>([],[])) (fun|16=>(oS 0 15 (.op 15 [] .nil))|33=>(oS 0 19 (.op 19 [] .nil))|_=>.nil) Tryz.func6 x
def nX(fZ:OA)(eJ ga:Nat)(K:KT)(h1:ad):=
 bif((Int.tmod (eJ:Int) 512) != 0)then(
 K (.tuple #[vP none,vI 32]) h1)else(
 C.rX (wI (Int.tdiv (eJ:Int) 512)) h1 λr1 h2=>
 ∃q1 n1,r1 = .tuple #[vP q1,vI n1]/\
 bif(n1 != 0)then(
 K (.tuple #[vP none,vI n1]) h2)else(
 ae q1 λp1=>
 ∃aU aI bw,cS h2 (p1.add 0) aU aI bw/\
 ∃(I1:IP) (M1:IM),I1 0 h2/\
 ∀(n2:Int),∀h3:ad,I1 n2 h3->
 bif(decide (n2<(aI:Int)))then(
 ae q1 λp2=>
 ∃eC dT fD,cS h3 (p2.add 0) eC dT fD/\
 (0<=n2/\n2<(dT:Int))/\
 ae eC λp3=>
 (0<=(wI (n2*512))/\(wI (n2*512))<=(eJ:Int))/\
 xw xd (some (p3.add ((Int.toNat n2)*512))) 512 (vS (if ga=(Int.toNat (wI (n2*512)))then fZ else Option.map (Addr.add · (Int.toNat (wI (n2*512)))) fZ) (eJ-(Int.toNat (wI (n2*512)))) (ga-(Int.toNat (wI (n2*512))))) h3 λn3 h4=>
 I1 (wI (n2+1)) h4/\M1 (wI (n2+1)) h4<M1 n2 h3)else(
 K (.tuple #[vP q1,vI 0]) h3)))
theorem nX.ok{fZ eJ ga K h}(x:nX fZ eJ ga K h):C.nX fZ eJ ga h K:=fk (fun|7=>([0,4,25],[(26,.int .i64)])|_=>([],[])) (fun|9=>(oS 0 11 (.op 11 [] .nil))|_=>.nil) Tryz.func7 x
def k7(fZ:OA)(eJ ga:Nat)(K:KT)(h1:ad):=
 bif((eJ:Int)==0)then(
 K (.tuple #[vP none,vI 32]) h1)else(
 bif((Int.tmod (eJ:Int) 512) != 0)then(
 K (.tuple #[vP none,vI 32]) h1)else(
 bif(decide ((wI (Int.tdiv (eJ:Int) 512))>16384))then(
 K (.tuple #[vP none,vI 32]) h1)else(
 C.dR fZ eJ ga h1 λr1 h2=>
 ∃aU aI bw,r1 = vS aU aI bw/\
 aC [vS aU aI bw,vS none 0 0,vS none 0 0,vI 0,.bool false,vI 0,vI 0] 70 h2 λh3=>
 K (.tuple #[vP (some (bA h2)),vI 0]) h3)))
set_option maxRecDepth 1000000 in
set_option maxRecDepth 1000000 in
theorem k7.ok{fZ eJ ga K h}(x:k7 fZ eJ ga K h):C.k7 fZ eJ ga h K:=fz Tryz.func8 x
def dE(s1:OA)(K:KT)(h1:ad):=
 ae s1 λp1=>
 ∃q1,cP h1 (p1.add 0) q1/\
 C.rY q1 h1 λr1 h2=>
 ∃q2,r1 = vP q2/\
 ae s1 λp2=>
 bD (p2.add 2) (vP q2) h2 λh3=>
 ae s1 λp3=>
 ∃q3,cP h3 (p3.add 1) q3/\
 C.iz q3 h3 λr2 h4=>
 ∃q4,r2 = vP q4/\
 ae s1 λp4=>
 bD (p4.add 3) (vP q4) h4 λh5=>
 ae s1 λp5=>
 ∃q5,cP h5 (p5.add 2) q5/\
 K (.bool (!(Option.isNone q5))) h5
theorem dE.ok{s1 K h}(x:dE s1 K h):C.dE s1 h K:=fz Tryz.func9 x
def cD.k1(gr:OA)(fQ gY:Nat)(aU:OA)(aI bw:Nat)(eC:OA)(dT fD:Nat)(kS:OA)(kA lW:Nat)(h7:ad)(K:KT):=
 ∃(I1:OA->Nat->Nat->Int->ad->Prop) (M1:OA->Nat->Nat->Int->ad->Nat),I1 none 0 0 0 h7/\
 ∀(Gm:OA) (Gn:Nat) (Gp:Nat) (n5:Int),∀h8:ad,I1 Gm Gn Gp n5 h8->
 bif(decide (n5<(dT:Int)))then(
 (0<=n5/\n5<(dT:Int))/\
 ae eC λp7=>
 az (p7.add ((Int.toNat n5)*3)) [vI (wI ((-5)-(fQ:Int))),.string (mkStr []),vI 0] 3 h8 λh9=>
 (0<=n5/\n5<(dT:Int))/\
 ae eC λp8=>
 ∃nO,List.length nO=3/\ai h9 (p8.add ((Int.toNat n5)*3)) nO/\
 List.length (nO:LV)=3/\
 aC nO 79 h9 λbG=>
 ∃aM,List.length aM=1*3/\ak bG (some (bA h9)) aM/\(∀v∈aM,v.oneCell'=true)/\
 aJ rV 79 Gm Gn Gp 1 aM bG λtN tF uF cu=>
 I1 tN tF uF (wI (n5+1)) cu/\M1 tN tF uF (wI (n5+1)) cu<M1 Gm Gn Gp n5 h8)else(
 List.length ([vS aU aI bw,vS kS kA lW]:LV)=2/\
 List.length ([vS eC dT fD,vS Gm Gn Gp]:LV)=2/\
 aC [vS aU aI bw,vS kS kA lW,vS eC dT fD,vS Gm Gn Gp] 81 h8 λbf=>
 ∃jR,List.length jR=2*2/\ak bf (some (bA h8)) jR/\(∀v∈jR,v.oneCell'=true)/\
 aJ Wj 81 gr fQ gY 2 jR bf λxD xf xQ bQ=>
 K (.tuple #[vS xD xf xQ,.bool true]) bQ)
def cD(s1:OA)(n1:Int)(gr:OA)(fQ gY:Nat)(K:KT)(h1:ad):=
 ae s1 λp1=>
 ∃q1,cP h1 (p1.add 2) q1/\
 ae s1 λp2=>
 ∃br,List.length br=5/\ai h1 (p2.add 4) br/\
 C.qS q1 br n1 h1 λr1 h2=>
 ∃aU aI bw n2,r1 = .tuple #[vS aU aI bw,vI n2]/\
 ae s1 λp3=>
 ∃q2,cP h2 (p3.add 2) q2/\
 ae s1 λp4=>
 ∃cT,List.length cT=5/\ai h2 (p4.add 4) cT/\
 C.qS q2 cT n1 h2 λr2 h3=>
 ∃eC dT fD n3,r2 = .tuple #[vS eC dT fD,vI n3]/\
 ae s1 λp5=>
 ∃q3,cP h3 (p5.add 3) q3/\
 ae s1 λp6=>
 ∃gG,List.length gG=5/\ai h3 (p6.add 4) gG/\
 C.di q3 gG n1 h3 λr3 h4=>
 ∃kS kA lW n4,r3 = .tuple #[vS kS kA lW,vI n4]/\
 C.du aU aI bw kS kA lW h4 λr4 h5=>
 ∃b1,r4 = .bool b1/\
 bif(!b1)then(
 K (.tuple #[vS gr fQ gY,.bool false]) h5)else(
 C.du eC dT fD kS kA lW h5 λr5 h6=>
 ∃b2,r5 = .bool b2/\
 bif(!b2)then(
 K (.tuple #[vS gr fQ gY,.bool false]) h6)else(
 bif(n2 != n4)then(
 K (.tuple #[vS gr fQ gY,.bool false]) h6)else(
 bif(n3 != n4)then(
 K (.tuple #[vS gr fQ gY,.bool false]) h6)else(
 cD.k1 gr fQ gY aU aI bw eC dT fD kS kA lW h6 K))))
theorem cD.ok{s1 n1 gr fQ gY K h}(x:cD s1 n1 gr fQ gY K h):C.cD s1 n1 gr fQ gY h K:=fk (fun|8=>([2,8,10,12,77],[(14,.slice),(78,.int .i64)])|_=>([],[])) (fun|1=>(oS 0 14 (.op 14 [] .nil))|2=>(oS 0 14 (.op 14 [] .nil))|3=>(oS 0 14 (.op 14 [] .nil))|_=>.nil) Tryz.func10 x
def aY.k1(s1:OA)(h1:ad)(i1:Int)(cu:ad)(I1:IP)(M1:IM)(K:KT):=
 ae s1 λIk=>
 ∃q7,cP cu (Ik.add 2) q7/\
 ∃n19,cI cu (aS h1 1) n19/\
 ae s1 λJw=>
 ∃q8,cP cu (Jw.add 3) q8/\
 ∃n20,cI cu (aS h1 1) n20/\
 (
 (0<=(512:Int)/\(512:Int)<=512/\(1:Int)*512<=281474976710656/\(512:Int)<=281474976710656)/\
 aC (aL z5 (Int.toNat 512)) 5 cu λbf=>
 (cP bf (Ik.add 2) q7)/\
 (cI bf (aS h1 1) n19)/\
 (cP bf (Jw.add 3) q8)/\
 (cI bf (aS h1 1) n20)/\
 (
 C.aX q7 (wI (n19+i1)) (some (bA cu)) (Int.toNat 512) (Int.toNat 512) bf λr9 bQ=>
 ∃n21,r9 = vI n21/\
 (cP bQ (Jw.add 3) q8)/\
 (cI bQ (aS h1 1) n20)/\
 (0<=(512:Int)/\(512:Int)<=512/\(1:Int)*512<=281474976710656/\(512:Int)<=281474976710656)/\
 aC (aL z5 (Int.toNat 512)) 5 bQ λcX=>
 (cP cX (Ik.add 2) q7)/\
 (cI cX (aS h1 1) n19)/\
 (cP cX (Jw.add 3) q8)/\
 (cI cX (aS h1 1) n20)/\
 C.aA q8 (wI (n20+i1)) (some (bA bQ)) (Int.toNat 512) (Int.toNat 512) cX λE1 fN=>
 ∃n22,E1 = vI n22/\
 bif(n21 != n22)then(
 K (.bool false) fN)else(
 I1 (wI (i1+1)) fN/\M1 (wI (i1+1)) fN<M1 i1 cu))/\
 (0<=(512:Int)/\(512:Int)<=512/\(1:Int)*512<=281474976710656/\(512:Int)<=281474976710656)/\
 aC (aL z5 (Int.toNat 512)) 5 bf λgN=>
 (cP gN (Ik.add 2) q7)/\
 (cI gN (aS h1 1) n19)/\
 (cP gN (Jw.add 3) q8)/\
 (cI gN (aS h1 1) n20)/\
 C.aX q7 (wI (n19+i1)) (some (bA cu)) (Int.toNat 512) (Int.toNat 512) gN λTX gO=>
 ∃n23,TX = vI n23/\
 (cP gO (Jw.add 3) q8)/\
 (cI gO (aS h1 1) n20)/\
 C.aA q8 (wI (n20+i1)) (some (bA bf)) (Int.toNat 512) (Int.toNat 512) gO λEM jk=>
 ∃n24,EM = vI n24/\
 bif(n23 != n24)then(
 K (.bool false) jk)else(
 I1 (wI (i1+1)) jk/\M1 (wI (i1+1)) jk<M1 i1 cu))/\
 (0<=(512:Int)/\(512:Int)<=512/\(1:Int)*512<=281474976710656/\(512:Int)<=281474976710656)/\
 aC (aL z5 (Int.toNat 512)) 5 cu λeX=>
 (cP eX (Ik.add 2) q7)/\
 (cI eX (aS h1 1) n19)/\
 (cP eX (Jw.add 3) q8)/\
 (cI eX (aS h1 1) n20)/\
 (0<=(512:Int)/\(512:Int)<=512/\(1:Int)*512<=281474976710656/\(512:Int)<=281474976710656)/\
 aC (aL z5 (Int.toNat 512)) 5 eX λiG=>
 (cP iG (Ik.add 2) q7)/\
 (cI iG (aS h1 1) n19)/\
 (cP iG (Jw.add 3) q8)/\
 (cI iG (aS h1 1) n20)/\
 C.aX q7 (wI (n19+i1)) (some (bA eX)) (Int.toNat 512) (Int.toNat 512) iG λr13 oM=>
 ∃n25,r13 = vI n25/\
 (cP oM (Jw.add 3) q8)/\
 (cI oM (aS h1 1) n20)/\
 C.aA q8 (wI (n20+i1)) (some (bA cu)) (Int.toNat 512) (Int.toNat 512) oM λYK qD=>
 ∃n26,YK = vI n26/\
 bif(n25 != n26)then(
 K (.bool false) qD)else(
 I1 (wI (i1+1)) qD/\M1 (wI (i1+1)) qD<M1 i1 cu)
def aY.k2(s1:OA)(wj:ad)(K:KT):=
 ae s1 λYL=>
 ∃Pr,cP wj (YL.add 2) Pr/\
 C.gQ Pr wj λr20 MS=>
 r20 = .tuple #[]/\
 ae s1 λp16=>
 ∃q12,cP MS (p16.add 3) q12/\
 C.dO q12 MS λr21 Ps=>
 r21 = .tuple #[]/\
 C.dE s1 Ps λr22 Il=>
 ∃b3,r22 = .bool b3/\
 K (.bool b3) Il
def aY(s1:OA)(o1:LV)(K:KT)(h1:ad):=
 aC o1 50 h1 λh2=>
 ∃n1,cI h2 (aS h1 0) n1/\
 bif(n1==1)then(
 ae s1 λp1=>
 ∃q1,cP h2 (p1.add 2) q1/\
 ae s1 λp2=>
 ∃br,List.length br=5/\ai h2 (p2.add 4) br/\
 ∃n2,cI h2 (aS h1 1) n2/\
 ∃s2,cellOf h2 (aS h1 2)=some (.string s2)/\
 C.uz q1 br n2 s2 h2 λr1 h3=>
 ∃n3 n4,r1 = .tuple #[vI n3,vI n4]/\
 ae s1 λp3=>
 ∃q2,cP h3 (p3.add 3) q2/\
 ae s1 λp4=>
 ∃cT,List.length cT=5/\ai h3 (p4.add 4) cT/\
 ∃n5,cI h3 (aS h1 1) n5/\
 ∃s3,cellOf h3 (aS h1 2)=some (.string s3)/\
 C.kB q2 cT n5 s3 h3 λr2 h4=>
 ∃n6 n7,r2 = .tuple #[vI n6,vI n7]/\
 bif(n3==n6)then(
 K (.bool (n4==n7)) h4)else(
 K (.bool false) h4))else(
 bif(n1==6)then(
 ae s1 λp5=>
 ∃q3,cP h2 (p5.add 2) q3/\
 ae s1 λp6=>
 ∃gG,List.length gG=5/\ai h2 (p6.add 4) gG/\
 ∃n8,cI h2 (aS h1 1) n8/\
 C.uA q3 gG n8 h2 λr3 h5=>
 ∃n9 n10,r3 = .tuple #[vI n9,vI n10]/\
 ae s1 λp7=>
 ∃q4,cP h5 (p7.add 3) q4/\
 ae s1 λp8=>
 ∃nO,List.length nO=5/\ai h5 (p8.add 4) nO/\
 ∃n11,cI h5 (aS h1 1) n11/\
 C.kC q4 nO n11 h5 λr4 h6=>
 ∃n12 n13,r4 = .tuple #[vI n12,vI n13]/\
 bif(n9==n12)then(
 K (.bool (n10==n13)) h6)else(
 K (.bool false) h6))else(
 bif(n1==8)then(
 ae s1 λp9=>
 ∃q5,cP h2 (p9.add 2) q5/\
 ∃n14,cI h2 (aS h1 1) n14/\
 ∃pI,List.length pI=4/\ai h2 (bA h1) pI/\
 ae s1 λOP=>
 ∃q6,cP h2 (OP.add 3) q6/\
 ∃n15,cI h2 (aS h1 1) n15/\
 ∃sB,List.length sB=4/\ai h2 (bA h1) sB/\
 C.fE pI h2 λr5 h7=>
 ∃aU aI bw,r5 = vS aU aI bw/\
 (cP h7 (p9.add 2) q5)/\
 (cI h7 (aS h1 1) n14)/\
 (cP h7 (OP.add 3) q6)/\
 (cI h7 (aS h1 1) n15)/\
 (List.length (sB:LV)=4/\ai h7 (bA h1) sB)/\
 C.aX q5 n14 aU aI bw h7 λr6 h8=>
 ∃n16,r6 = vI n16/\
 (cP h8 (OP.add 3) q6)/\
 (cI h8 (aS h1 1) n15)/\
 (List.length (sB:LV)=4/\ai h8 (bA h1) sB)/\
 C.fE sB h8 λr7 h9=>
 ∃eC dT fD,r7 = vS eC dT fD/\
 (cP h9 (OP.add 3) q6)/\
 (cI h9 (aS h1 1) n15)/\
 C.aA q6 n15 eC dT fD h9 λr8 bG=>
 ∃n17,r8 = vI n17/\
 K (.bool (n16==n17)) bG)else(
 bif(n1==11)then(
 ∃(I1:IP) (M1:IM),I1 0 h2/\
 ∀(i1:Int),∀cu:ad,I1 i1 cu->
 ∃n18,cI cu (aS h1 3) n18/\
 bif(decide (i1<n18))then(
 bif(decide (i1<96))then(
 aY.k1 s1 h1 i1 cu I1 M1 K)else(
 ∃wQ,List.length wQ=4/\ai cu (bA h1) wQ/\
 C.bm s1 wQ cu λr15 pg=>
 ∃b1,r15 = .bool b1/\
 K (.bool b1) pg))else(
 ∃zU,List.length zU=4/\ai cu (bA h1) zU/\
 C.bm s1 zU cu λZ3 sX=>
 ∃b2,Z3 = .bool b2/\
 K (.bool b2) sX))else(
 bif(n1==9)then(
 ∃n27,cI h2 (aS h1 3) n27/\
 C.iY n27 2 h2 λr17 qv=>
 ∃n28,r17 = vI n28/\
 bif(n28==0)then(
 ae s1 λYM=>
 ∃q9,cP qv (YM.add 2) q9/\
 ae s1 λZ4=>
 ∃OQ,cP qv (Z4.add 3) OQ/\
 C.gZ q9 qv λr18 pJ=>
 ∃n29,r18 = vI n29/\
 (cP pJ (Z4.add 3) OQ)/\
 C.eE OQ pJ λr19 Dg=>
 ∃n30,r19 = vI n30/\
 bif(n29 != n30)then(
 K (.bool false) Dg)else(
 aY.k2 s1 Dg K))else(
 aY.k2 s1 qv K))else(
 bif(n1==10)then(
 ae s1 λp17=>
 ∃q13,cP h2 (p17.add 2) q13/\
 C.gQ q13 h2 λZ5 uU=>
 Z5 = .tuple #[]/\
 ae s1 λp18=>
 ∃q14,cP uU (p18.add 3) q14/\
 C.dO q14 uU λr24 Vl=>
 r24 = .tuple #[]/\
 ∃OR,List.length OR=4/\ai Vl (bA h1) OR/\
 C.bm s1 OR Vl λZ6 L7=>
 ∃b4,Z6 = .bool b4/\
 K (.bool b4) L7)else(
 ∃Gq,List.length Gq=4/\ai h2 (bA h1) Gq/\
 C.bm s1 Gq h2 λYN Wu=>
 ∃b5,YN = .bool b5/\
 K (.bool b5) Wu))))))
set_option maxRecDepth 100000 in
set_option maxRecDepth 100000 in
set_option maxRecDepth 100000 in
theorem aY.ok{s1 o1 K h}(x:aY s1 o1 K h):C.aY s1 o1 h K:=fk (fun|14=>([0,3],[(13,.int .i64)])|_=>([],[])) (fun|3=>(oS 0 17 (.op 17 [] .nil))|4=>(oS 0 17 (.op 17 [] .nil))|7=>(oS 0 15 (.op 15 [] .nil))|8=>(oS 0 15 (.op 15 [] .nil))|11=>(oS 0 7 (oS 9 7 (.op 7 [3,5,12,14,15] (.op 8 [12,14,15] (.op 16 [12,14] (.op 17 [] (.op 18 [] (.op 19 [] .nil))))))))|16=>(oS 0 8 (oS 10 8 (.alt 8 [3,5,13,15] (.alt 9 [13,15] (.op 18 [3,5,13,15] (.op 19 [] (.op 20 [] .nil))) (.op 18 [3,5,13,15] (.op 9 [13,15] (.op 19 [] (.op 20 [] .nil))))) (.op 18 [3,5,13,15] (.op 8 [3,5,13,15] (.op 9 [13,15] (.op 19 [] (.op 20 [] .nil))))))))|19=>(oS 0 9 (oS 10 4 (.op 9 [13] (.op 14 [] (.op 15 [] (.op 16 [] .nil))))))|_=>.nil) Tryz.func11 x
def bJ(s1:OA)(K:KT)(h1:ad):=
 ae s1 λp1=>
 ∃q1,cP h1 (p1.add 3) q1/\
 C.bK q1 h1 λr1 h2=>
 ∃aU aI bw,r1 = vS aU aI bw/\
 ae s1 λp2=>
 ∃q2,cP h2 (p2.add 2) q2/\
 C.gp q2 h2 λr2 h3=>
 ∃eC dT fD,r2 = vS eC dT fD/\
 C.gu eC dT fD aU aI bw h3 λr3 h4=>
 ∃b1,r3 = .bool b1/\
 bif(!b1)then(
 K (.bool false) h4)else(
 ∃(I1:IP) (M1:IM),I1 0 h4/\
 ∀(n1:Int),∀h5:ad,I1 n1 h5->
 bif(decide (n1<(aI:Int)))then(
 (0<=n1/\n1<(aI:Int))/\
 ae aU λp3=>
 ∃n2,cI h5 (p3.add (Int.toNat n1)) n2/\
 ae s1 λp4=>
 ∃q3,cP h5 (p4.add 2) q3/\
 C.dF q3 n2 h5 λr4 h6=>
 ∃kS kA lW n3,r4 = .tuple #[vS kS kA lW,vI n3]/\
 ae s1 λp5=>
 ∃q4,cP h6 (p5.add 3) q4/\
 C.aT q4 n2 h6 λr5 h7=>
 ∃tN tF uF n4,r5 = .tuple #[vS tN tF uF,vI n4]/\
 bif(n3 != n4)then(
 K (.bool false) h7)else(
 ∃Eb,av h7 kS kA Eb/\
 ∃bs2,av h7 tN tF bs2/\
 bif(!((mkStr Eb).toList==(mkStr bs2).toList))then(
 K (.bool false) h7)else(
 I1 (wI (n1+1)) h7/\M1 (wI (n1+1)) h7<M1 n1 h5)))else(
 K (.bool true) h5))
theorem bJ.ok{s1 K h}(x:bJ s1 K h):C.bJ s1 h K:=fk (fun|5=>([0,23,24],[(25,.int .i64)])|_=>([],[])) o0 Tryz.func12 x
def gy(d1:OA)(K:KT)(h1:ad):=
 ae d1 λp1=>
 ∃aU aI bw,cS h1 (p1.add 0) aU aI bw/\
 (0<=(0:Int)/\(0:Int)<=(wI ((aI:Int)*512))/\(1:Int)*(wI ((aI:Int)*512))<=281474976710656/\(wI ((aI:Int)*512))<=281474976710656)/\
 aC (aL z5 (Int.toNat (wI ((aI:Int)*512)))) 5 h1 λh2=>
 ae d1 λp2=>
 ∃eC dT fD,cS h2 (p2.add 0) eC dT fD/\
 ∃(I1:OA->Nat->Nat->Int->ad->Prop) (M1:OA->Nat->Nat->Int->ad->Nat),I1 (some (bA h1)) (Int.toNat 0) (Int.toNat (wI ((aI:Int)*512))) 0 h2/\
 ∀(fZ:OA) (eJ:Nat) (ga:Nat) (n1:Int),∀h3:ad,I1 fZ eJ ga n1 h3->
 bif(decide (n1<(dT:Int)))then(
 (0<=n1/\n1<(dT:Int))/\
 ae eC λp3=>
 ∃br,List.length br=512/\ai h3 (p3.add ((Int.toNat n1)*512)) br/\
 aF z67 67 br 512 h3 λh5=>
 ∃aM,List.length aM=512*1/\ak h5 (some (bA h3)) aM/\(∀v∈aM,v.oneCell'=true)/\
 aJ xd 5 fZ eJ ga 512 aM h5 λkS kA lW h6=>
 I1 kS kA lW (wI (n1+1)) h6/\M1 kS kA lW (wI (n1+1)) h6<M1 fZ eJ ga n1 h3)else(
 K (vS fZ eJ ga) h3)
theorem gy.ok{d1 K h}(x:gy d1 K h):C.gy d1 h K:=fk (fun|3=>([16,17],[(3,.slice),(18,.int .i64)])|_=>([],[])) o0 Tryz.func13 x
def eD(d1:OA)(K:KT)(h1:ad):=
 ae d1 λp1=>
 ∃b1,cellOf h1 (p1.add 4)=some (.bool b1)/\
 bif b1 then(
 ae d1 λp2=>
 ∃aU aI bw,cS h1 (p2.add 0) aU aI bw/\
 ae d1 λp3=>
 ∃eC dT fD,cS h1 (p3.add 1) eC dT fD/\
 ae d1 λp4=>
 ∃kS kA lW,cS h1 (p4.add 2) kS kA lW/\
 C.gj aU aI bw eC dT fD kS kA lW h1 λr1 h2=>
 ∃tN tF uF,r1 = vS tN tF uF/\
 K (vS tN tF uF) h2)else(
 ae d1 λp5=>
 ∃xD xf xQ,cS h1 (p5.add 0) xD xf xQ/\
 ae d1 λp6=>
 ∃BR Bu De,cS h1 (p6.add 1) BR Bu De/\
 C.gj xD xf xQ BR Bu De none 0 0 h1 λr2 h3=>
 ∃EZ E0 Gk,r2 = vS EZ E0 Gk/\
 K (vS EZ E0 Gk) h3)
theorem eD.ok{d1 K h}(x:eD d1 K h):C.eD d1 h K:=fk l0 (fun|2=>(oS 0 13 (.op 13 [] .nil))|3=>(oS 0 9 (.op 9 [] .nil))|_=>.nil) Tryz.func14 x
def jB(gr:OA)(fQ gY:Nat)(K:KT)(h1:ad):=
 ∃(I1:IP) (M1:IM),I1 0 h1/\
 ∀(n1:Int),∀h2:ad,I1 n1 h2->
 bif(decide (n1<(fQ:Int)))then(
 (0<=n1/\n1<(fQ:Int))/\
 ae gr λp1=>
 ∃br,List.length br=2/\ai h2 (p1.add ((Int.toNat n1)*2)) br/\
 aF z81 81 br 2 h2 λh4=>
 ∃aU aI bw,cS h4 (aS h2 0) aU aI bw/\
 ∃eC dT fD,cS h4 (aS h2 1) eC dT fD/\
 C.du aU aI bw eC dT fD h4 λr1 h5=>
 ∃b1,r1 = .bool b1/\
 bif(!b1)then(
 K (.bool false) h5)else(
 I1 (wI (n1+1)) h5/\M1 (wI (n1+1)) h5<M1 n1 h2))else(
 ∃(I2:OA->Nat->Nat->Int->ad->Prop) (M2:OA->Nat->Nat->Int->ad->Nat),I2 none 0 0 0 h2/\
 ∀(K9:OA) (Gr:Nat) (Pt:Nat) (n2:Int),∀h6:ad,I2 K9 Gr Pt n2 h6->
 bif(decide (n2<(fQ:Int)))then(
 (0<=n2/\n2<(fQ:Int))/\
 ae gr λp2=>
 ∃cT,List.length cT=2/\ai h6 (p2.add ((Int.toNat n2)*2)) cT/\
 aF z81 81 cT 2 h6 λh8=>
 ∃kS kA lW,cS h8 (aS h6 0) kS kA lW/\
 ∃(I3:IP) (M3:IM),I3 0 h8/\
 ∀(n3:Int),∀h9:ad,I3 n3 h9->
 bif(decide (n3<(kA:Int)))then(
 ∃tN tF uF,cS h9 (aS h6 0) tN tF uF/\
 (0<=n3/\n3<(tF:Int))/\
 ae tN λp3=>
 az (p3.add ((Int.toNat n3)*3)) [vI (wI ((-1000)-n2)),.string (mkStr []),vI 0] 3 h9 λbG=>
 I3 (wI (n3+1)) bG/\M3 (wI (n3+1)) bG<M3 n3 h9)else(
 ∃xD xf xQ,cS h9 (aS h6 0) xD xf xQ/\
 List.length ([vI (wI ((-1000)-n2)),.string (mkStr []),vI 0]:LV)=3/\
 aC [vI (wI ((-1000)-n2)),.string (mkStr []),vI 0] 79 h9 λcu=>
 ∃aM,List.length aM=1*3/\ak cu (some (bA h9)) aM/\(∀v∈aM,v.oneCell'=true)/\
 aJ rV 79 xD xf xQ 1 aM cu λBR Bu De bf=>
 aC [vS BR Bu De] 73 bf λbQ=>
 ∃jR,List.length jR=1*1/\ak bQ (some (bA bf)) jR/\(∀v∈jR,v.oneCell'=true)/\
 aJ TT 73 K9 Gr Pt 1 jR bQ λEZ E0 Gk cX=>
 I2 EZ E0 Gk (wI (n2+1)) cX/\M2 EZ E0 Gk (wI (n2+1)) cX<M2 K9 Gr Pt n2 h6))else(
 ∃(I4:IP) (M4:IM),I4 0 h6/\
 ∀(n4:Int),∀fN:ad,I4 n4 fN->
 bif(decide (n4<(Gr:Int)))then(
 (0<=n4/\n4<(Gr:Int))/\
 ae K9 λp4=>
 ∃EL Df H3,cS fN (p4.add (Int.toNat n4)) EL Df H3/\
 ∃(I5:IP) (M5:IM),I5 0 fN/\
 ∀(n5:Int),∀gN:ad,I5 n5 gN->
 bif(decide (n5<(Df:Int)))then(
 (0<=n5/\n5<(Df:Int))/\
 ae EL λp5=>
 ∃gG,List.length gG=3/\ai gN (p5.add ((Int.toNat n5)*3)) gG/\
 aF z79 79 gG 3 gN λjk=>
 ∃n6,cI jk (aS gN 0) n6/\
 bif(n6 != (wI ((-1000)-n4)))then(
 K (.bool false) jk)else(
 I5 (wI (n5+1)) jk/\M5 (wI (n5+1)) jk<M5 n5 gN))else(
 I4 (wI (n4+1)) gN/\M4 (wI (n4+1)) gN<M4 n4 fN))else(
 K (.bool true) fN)))
theorem jB.ok{gr fQ gY K h}(x:jB gr fQ gY K h):C.jB gr fQ gY h K:=fk (fun|2=>([0,13,14],[(15,.int .i64)])|9=>([26,27],[(5,.slice),(28,.int .i64)])|12=>([5,6,7,26,27,28,35],[(36,.int .i64)])|19=>([58,59],[(60,.int .i64)])|22=>([9,58,59,60,65,66],[(67,.int .i64)])|_=>([],[])) o0 Tryz.func15 x
def fR(x1:LV)(K:KT)(h1:ad):=
 aC x1 32 h1 λh2=>
 ∃br,List.length br=15/\ai h2 (bA h1) br/\
 C.gR br h2 λr1 h3=>
 ∃b1,r1 = .bool b1/\
 bif(!b1)then(
 K (.tuple #[vS none 0 0,vI 111]) h3)else(
 ∃cT,List.length cT=15/\ai h3 (bA h1) cT/\
 C.kE cT h3 λr2 h4=>
 ∃aU aI bw,r2 = vS aU aI bw/\
 K (.tuple #[vS aU aI bw,vI 0]) h4)
theorem fR.ok{x1 K h}(x:fR x1 K h):C.fR x1 h K:=fz Tryz.func16 x
def rX(n1:Int)(K:KT)(h1:ad):=
 bif(decide (n1<1))then(
 K (.tuple #[vP none,vI 32]) h1)else(
 bif(decide (n1>16384))then(
 K (.tuple #[vP none,vI 32]) h1)else(
 (0<=n1/\n1<=n1/\(512:Int)*n1<=281474976710656/\n1<=281474976710656)/\
 aC (aL z67 (Int.toNat n1)) 67 h1 λh2=>
 aC [vS (some (bA h1)) (Int.toNat n1) (Int.toNat n1),vS none 0 0,vI 0,vS none 0 0,.bool false,vI 0,vI 0,vS none 0 0] 65 h2 λh3=>
 K (.tuple #[vP (some (bA h2)),vI 0]) h3))
set_option maxRecDepth 1000000 in
set_option maxRecDepth 1000000 in
theorem rX.ok{n1 K h}(x:rX n1 K h):C.rX n1 h K:=fz Tryz.func17 x
def dR(aH:OA)(aK aR:Nat)(K:KT)(h1:ad):=
 ∃aM,List.length aM=aK*1/\ak h1 aH aM/\(∀v∈aM,v.oneCell'=true)/\
 aJ xd 5 none 0 0 aK aM h1 λaU aI bw h2=>
 K (vS aU aI bw) h2
theorem dR.ok{aH aK aR K h}(x:dR aH aK aR K h):C.dR aH aK aR h K:=fz Tryz.func18 x
def rY(d1:OA)(K:KT)(h1:ad):=
 Wi h1 λh2=>
 aC [vP d1,.map (some h1.size),vS none 0 0,.bool false] 100 h2 λh3=>
 K (vP (some (bA h2))) h3
theorem rY.ok{d1 K h}(x:rY d1 K h):C.rY d1 h K:=fz Tryz.func19 x
def iz(d1:OA)(K:KT)(h1:ad):=
 aC [vP d1,vS none 0 0,.bool false] 103 h1 λh2=>
 K (vP (some (bA h1))) h2
theorem iz.ok{d1 K h}(x:iz d1 K h):C.iz d1 h K:=fz Tryz.func20 x
def qS(t1:OA)(g1:LV)(n1:Int)(K:KT)(h1:ad):=
 aC g1 27 h1 λh2=>
 ∃br,List.length br=5/\ai h2 (bA h1) br/\
 C.qT t1 br n1 h2 λr1 h3=>
 ∃cT,r1 = .agg ⟨cT⟩/\
 aF z105 105 cT 23 h3 λh5=>
 aC z73 73 h5 λh6=>
 C.fv (some (bA h3)) h6 λr2 h7=>
 ∃v1,r2=v1/\
 ∀(R1:Loop),
 (∀(gG:LV),∀(h8:ad) (k1:KT),bO h8 (h7.size+1) R1 .ready none->
 (
 aF Wk 111 gG 4 h8 λbG=>
 bO bG (h7.size+1) R1 .ready none/\
 xM bG (h7.size+1) R1 .busy none λcu=>
 ∃aU aI bw,cS cu (aS h8 3) aU aI bw/\
 ∃(I1:IP) (M1:IM),I1 0 cu/\
 ∀(n2:Int),∀bf:ad,I1 n2 bf->
 bif(decide (n2<(aI:Int)))then(
 (0<=n2/\n2<(aI:Int))/\
 ae aU λp1=>
 ∃nO,List.length nO=3/\ai bf (p1.add ((Int.toNat n2)*3)) nO/\
 aF z79 79 nO 3 bf λcX=>
 ∃n3,cI cX (aS bf 0) n3/\
 ∃n4,cI cX (aS h8 0) n4/\
 bD (aS bf 0) (vI (wI (n3+(wI (16*n4))))) cX λfN=>
 ∃eC dT fD,cS fN (bA h5) eC dT fD/\
 ∃pI,List.length pI=3/\ai fN (bA bf) pI/\
 List.length (pI:LV)=3/\
 aC pI 79 fN λgN=>
 ∃aM,List.length aM=1*3/\ak gN (some (bA fN)) aM/\(∀v∈aM,v.oneCell'=true)/\
 aJ rV 79 eC dT fD 1 aM gN λkS kA lW gO=>
 bD (bA h5) (vS kS kA lW) gO λjk=>
 I1 (wI (n2+1)) jk/\M1 (wI (n2+1)) jk<M1 n2 bf)else(
 bO bf (h7.size+1) R1 .busy none/\
 k1 (.bool true) (dz bf (h7.size+1) R1 .ready none)))->
 rQ Tryz.prog (h7.size+1) [.agg ⟨gG⟩] h8 k1)->
 za Tryz.prog v1 [.func (.yield (h7.size+1)) #[] #[]] (dw h7 R1) λ_ eX=>
 ∃(st1:LoopState) (jo:Option Code),bO eX (h7.size+1) R1 st1 jo/\st1≠.busy/\
 xU jo (
 xM eX (h7.size+1) R1 .exhausted jo λiG=>
 ∃n5,cI iG (aS h3 22) n5/\
 bif(n5 != 0)then(
 ∃n6,cI iG (aS h3 22) n6/\
 rU h7.size iG λoM=>
 K (.tuple #[vS none 0 0,vI n6]) oM)else(
 ∃tN tF uF,cS iG (bA h5) tN tF uF/\
 C.gk tN tF uF (Value.func (.func 47) #[] ⟨[]⟩) iG λr3 qD=>
 r3 = .tuple #[]/\
 ∃xD xf xQ,cS qD (bA h5) xD xf xQ/\
 rU h7.size qD λpg=>
 K (.tuple #[vS xD xf xQ,vI 0]) pg)) (
 False) (λ_=>False)
theorem qS.ok{t1 g1 n1 K h}(x:qS t1 g1 n1 K h):C.qS t1 g1 n1 h K:=fk (fun|6=>([9,10,20,21],[(22,.int .i64)])|1000004=>([],[(18,.agg)])|_=>([],[])) (fun|12=>(.op 0 [] (.op 1 [] (.op 2 [] (.op 3 [] .nil))))|_=>.nil) Tryz.func21 x
def di.k1(pK:OA)(oC rK:Nat)(n4:Int)(h7:ad)(I1:OA->Nat->Nat->Int->ad->Prop)(M1:OA->Nat->Nat->Int->ad->Nat)(YO:Int)(cu:ad)(K:KT):=
 (0<=YO/\YO<=(rK:Int))/\
 ∃aM,List.length aM=(Int.toNat YO)*3/\ak cu pK aM/\(∀v∈aM,v.oneCell'=true)/\
 aJ rV 79 none 0 0 (Int.toNat YO) aM cu λeC dT fD bf=>
 ∃sB,List.length sB=3/\ai bf (bA h7) sB/\
 List.length (sB:LV)=3/\
 aC sB 79 bf λbQ=>
 ∃jR,List.length jR=1*3/\ak bQ (some (bA bf)) jR/\(∀v∈jR,v.oneCell'=true)/\
 aJ rV 79 eC dT fD 1 jR bQ λkS kA lW cX=>
 (0<=YO/\YO<=(oC:Int))/\
 ∃xg,List.length xg=(oC-(Int.toNat YO))*3/\ak cX (if rK=(Int.toNat YO)then pK else Option.map (Addr.add · ((Int.toNat YO)*3)) pK) xg/\(∀v∈xg,v.oneCell'=true)/\
 aJ rV 79 kS kA lW (oC-(Int.toNat YO)) xg cX λtN tF uF fN=>
 I1 tN tF uF (wI (n4+1)) fN/\M1 tN tF uF (wI (n4+1)) fN<M1 pK oC rK n4 h7
def di(t1:OA)(g1:LV)(n1:Int)(K:KT)(h1:ad):=
 aC g1 27 h1 λh2=>
 ∃br,List.length br=5/\ai h2 (bA h1) br/\
 C.hQ t1 br n1 h2 λr1 h3=>
 ∃cT n2,r1 = .tuple #[.agg ⟨cT⟩,vI n2]/\
 aF z32 32 cT 15 h3 λh5=>
 bif(n2 != 0)then(
 K (.tuple #[vS none 0 0,vI n2]) h5)else(
 ∃gG,List.length gG=5/\ai h5 (bA h1) gG/\
 ∃nO,List.length nO=15/\ai h5 (bA h3) nO/\
 C.iZ t1 gG nO (mkStr []) h5 λr2 h6=>
 ∃aU aI bw n3,r2 = .tuple #[vS aU aI bw,vI n3]/\
 bif(n3 != 0)then(
 K (.tuple #[vS none 0 0,vI n3]) h6)else(
 ∃(I1:OA->Nat->Nat->Int->ad->Prop) (M1:OA->Nat->Nat->Int->ad->Nat),I1 none 0 0 0 h6/\
 ∀(pK:OA) (oC:Nat) (rK:Nat) (n4:Int),∀h7:ad,I1 pK oC rK n4 h7->
 bif(decide (n4<(aI:Int)))then(
 (0<=n4/\n4<(aI:Int))/\
 ae aU λp1=>
 ∃pI,List.length pI=3/\ai h7 (p1.add ((Int.toNat n4)*3)) pI/\
 aF z79 79 pI 3 h7 λh9=>
 ∃(I2:IP) (M2:IM),I2 0 h9/\
 ∀(fU:Int),∀bG:ad,I2 fU bG->
 bif(decide (fU<(oC:Int)))then(
 (0<=fU/\fU<(oC:Int))/\
 ae pK λp2=>
 ∃s1,cellOf bG (Addr.add (p2.add ((Int.toNat fU)*3)) 1)=some (.string s1)/\
 ∃s2,cellOf bG (aS h7 1)=some (.string s2)/\
 bif((Op.bytesLess s1.toList s2.toList) || (s1.toList==s2.toList))then(
 I2 (wI (fU+1)) bG/\M2 (wI (fU+1)) bG<M2 fU bG)else(
 di.k1 pK oC rK n4 h7 I1 M1 fU bG K))else(
 di.k1 pK oC rK n4 h7 I1 M1 fU bG K))else(
 K (.tuple #[vS pK oC rK,vI 0]) h7)))
theorem di.ok{t1 g1 n1 K h}(x:di t1 g1 n1 K h):C.di t1 g1 n1 h K:=fk (fun|9=>([36,37],[(11,.slice),(38,.int .i64)])|12=>([11,13,36,37,38],[(14,.int .i64)])|_=>([],[])) (fun|12=>(oS 0 13 (.op 13 [] .nil))|_=>.nil) Tryz.func22 x
def du(TV:OA)(MQ Wq:Nat)(aH:OA)(aK aR:Nat)(K:KT)(h1:ad):=
 bif((MQ:Int) != (aK:Int))then(
 K (.bool false) h1)else(
 ∃(I1:IP) (M1:IM),I1 0 h1/\
 ∀(n1:Int),∀h2:ad,I1 n1 h2->
 bif(decide (n1<(MQ:Int)))then(
 (0<=n1/\n1<(MQ:Int))/\
 ae TV λp1=>
 ∃br,List.length br=3/\ai h2 (p1.add ((Int.toNat n1)*3)) br/\
 (0<=n1/\n1<(aK:Int))/\
 ae aH λp2=>
 ∃cT,List.length cT=3/\ai h2 (p2.add ((Int.toNat n1)*3)) cT/\
 dr [(.int .i64),.str,(.int .i64)] br cT=true/\
 bif(!(cQ br cT))then(
 K (.bool false) h2)else(
 I1 (wI (n1+1)) h2/\M1 (wI (n1+1)) h2<M1 n1 h2))else(
 K (.bool true) h2))
theorem du.ok{TV MQ Wq aH aK aR K h}(x:du TV MQ Wq aH aK aR K h):C.du TV MQ Wq aH aK aR h K:=fk (fun|4=>([0,1,12],[(13,.int .i64)])|_=>([],[])) (fun|6=>(oS 0 8 (.op 8 [] .nil))|_=>.nil) Tryz.func23 x
def uz(t1:OA)(g1:LV)(n1:Int)(aW:ByteArray)(K:KT)(h1:ad):=
 aC g1 27 h1 λh2=>
 ∃br,List.length br=5/\ai h2 (bA h1) br/\
 C.qU t1 br n1 aW h2 λr1 h3=>
 ∃q1,r1 = vP q1/\
 ae q1 λp1=>
 ∃n2,cI h3 (Addr.add (p1.add 27) 2) n2/\
 ae q1 λp2=>
 ∃n3,cI h3 (Addr.add (p2.add 0) 22) n3/\
 K (.tuple #[vI n2,vI n3]) h3
theorem uz.ok{t1 g1 n1 aW K h}(x:uz t1 g1 n1 aW K h):C.uz t1 g1 n1 aW h K:=fk l0 (fun|2=>(oS 0 11 (.op 11 [] .nil))|_=>.nil) Tryz.func24 x
def kB(t1:OA)(g1:LV)(n1:Int)(aW:ByteArray)(K:KT)(h1:ad):=
 aC g1 27 h1 λh2=>
 C.cR aW h2 λr1 h3=>
 ∃b1,r1 = .bool b1/\
 bif(!b1)then(
 K (.tuple #[vI 0,vI 1]) h3)else(
 ∃br,List.length br=5/\ai h3 (bA h1) br/\
 C.jg t1 br n1 aW h3 λr2 h4=>
 ∃cT gG n2,r2 = .tuple #[.agg ⟨cT⟩,.agg ⟨gG⟩,vI n2]/\
 aC z32 32 h4 λh5=>
 aC z79 79 h5 λh6=>
 az (bA h4) cT 15 h6 λh7=>
 az (bA h5) gG 3 h7 λh8=>
 ∃n3,cI h8 (aS h5 2) n3/\
 K (.tuple #[vI n3,vI n2]) h8)
theorem kB.ok{t1 g1 n1 aW K h}(x:kB t1 g1 n1 aW K h):C.kB t1 g1 n1 aW h K:=fz Tryz.func25 x
def uA(t1:OA)(g1:LV)(n1:Int)(K:KT)(h1:ad):=
 aC g1 27 h1 λh2=>
 ∃br,List.length br=5/\ai h2 (bA h1) br/\
 C.qS t1 br n1 h2 λr1 h3=>
 ∃aU aI bw n2,r1 = .tuple #[vS aU aI bw,vI n2]/\
 K (.tuple #[vI (aI:Int),vI n2]) h3
theorem uA.ok{t1 g1 n1 K h}(x:uA t1 g1 n1 K h):C.uA t1 g1 n1 h K:=fz Tryz.func26 x
def kC(t1:OA)(g1:LV)(n1:Int)(K:KT)(h1:ad):=
 aC g1 27 h1 λh2=>
 ∃br,List.length br=5/\ai h2 (bA h1) br/\
 C.di t1 br n1 h2 λr1 h3=>
 ∃aU aI bw n2,r1 = .tuple #[vS aU aI bw,vI n2]/\
 K (.tuple #[vI (aI:Int),vI n2]) h3
theorem kC.ok{t1 g1 n1 K h}(x:kC t1 g1 n1 K h):C.kC t1 g1 n1 h K:=fz Tryz.func27 x
def aX.k1(aH:OA)(aK aR:Nat)(h1 h2:ad)(ahx ok1:OA)(h8:ad)(K:KT):=
 ∃q2,cP h8 (bA h1) q2/\
 ae q2 λp2=>
 ∃b1,cellOf h8 (p2.add 3)=some (.bool b1)/\
 bif b1 then(
 K (vI 61) h8)else(
 ∃n2,cI h8 (bA h2) n2/\
 bif(decide (n2<98))then(
 K (vI 31) h8)else(
 ∃n3,cI h8 (bA h2) n3/\
 ∃q3,cP h8 (bA h1) q3/\
 ae q3 λp3=>
 ∃q4,cP h8 (p3.add 0) q4/\
 C.dV q4 h8 λr1 h9=>
 ∃n4,r1 = vI n4/\
 (cI h9 (bA h2) n3)/\
 bif(decide (n3>=n4))then(
 K (vI 31) h9)else(
 bif((aK:Int) != 512)then(
 K (vI 32) h9)else(
 ae ok1 λp4=>
 ∃b2,cellOf h9 p4=some (.bool b2)/\
 bif(!b2)then(
 ∃q5,cP h9 (bA h1) q5/\
 ae q5 λp5=>
 ∃m2,cellOf h9 (p5.add 1)=some (.map m2)/\
 u7 (.int .i64) m2 h9 λmm2=>
 bif(decide ((List.length mm2:Int)>=96))then(
 K (vI 60) h9)else(
 ∃q6,cP h9 (bA h1) q6/\
 ∃q7,cP h9 (bA h1) q7/\
 ae q7 λp6=>
 ∃eC dT fD,cS h9 (p6.add 2) eC dT fD/\
 aC [.func (.func 57) #[] ⟨[vP ok1,vP ahx,vP (some (bA h1)),vP (some (bA h2))]⟩] 1 h9 λbG=>
 (cP bG (bA h1) q6)/\
 (cP bG (bA h1) q7)/\
 (cS bG (p6.add 2) eC dT fD)/\
 ∃aM,List.length aM=1*1/\ak bG (some (bA h9)) aM/\(∀v∈aM,v.oneCell'=true)/\
 aJ ti1 1 eC dT fD 1 aM bG λkS kA lW cu=>
 (cP cu (bA h1) q6)/\
 ae q6 λp7=>
 bD (p7.add 2) (vS kS kA lW) cu λbf=>
 ∃q8,cP bf (bA h1) q8/\
 ae q8 λp8=>
 ∃m3,cellOf bf (p8.add 1)=some (.map m3)/\
 ∃n5,cI bf (bA h2) n5/\
 C.bX aH aK aR bf λr2 bQ=>
 ∃tN tF uF,r2 = vS tN tF uF/\
 (cP bQ (bA h1) q8)/\
 (cellOf bQ (p8.add 1)=some (.map m3))/\
 (cI bQ (bA h2) n5)/\
 ae m3 λr3=>
 AA (.int .i64) r3 (.i n5) (vS tN tF uF) bQ λcX=>
 K (vI 0) cX))else(
 ∃q9,cP h9 (bA h1) q9/\
 ∃OQ,cP h9 (bA h1) OQ/\
 ae OQ λp9=>
 ∃xD xf xQ,cS h9 (p9.add 2) xD xf xQ/\
 aC [.func (.func 57) #[] ⟨[vP ok1,vP ahx,vP (some (bA h1)),vP (some (bA h2))]⟩] 1 h9 λfN=>
 (cP fN (bA h1) q9)/\
 (cP fN (bA h1) OQ)/\
 (cS fN (p9.add 2) xD xf xQ)/\
 ∃jR,List.length jR=1*1/\ak fN (some (bA h9)) jR/\(∀v∈jR,v.oneCell'=true)/\
 aJ ti1 1 xD xf xQ 1 jR fN λBR Bu De gN=>
 (cP gN (bA h1) q9)/\
 ae q9 λOP=>
 bD (OP.add 2) (vS BR Bu De) gN λgO=>
 ∃Pr,cP gO (bA h1) Pr/\
 ae Pr λIk=>
 ∃m4,cellOf gO (Ik.add 1)=some (.map m4)/\
 ∃n6,cI gO (bA h2) n6/\
 C.bX aH aK aR gO λr4 jk=>
 ∃EZ E0 Gk,r4 = vS EZ E0 Gk/\
 (cP jk (bA h1) Pr)/\
 (cellOf jk (Ik.add 1)=some (.map m4))/\
 (cI jk (bA h2) n6)/\
 ae m4 λr5=>
 AA (.int .i64) r5 (.i n6) (vS EZ E0 Gk) jk λeX=>
 K (vI 0) eX)))))
def aX(t1:OA)(i1:Int)(aH:OA)(aK aR:Nat)(K:KT)(h1:ad):=
 aC [vP t1] 43 h1 λh2=>
 aC [vI i1] 3 h2 λh3=>
 ∃q1,cP h3 (bA h1) q1/\
 ae q1 λp1=>
 ∃m1,cellOf h3 (p1.add 1)=some (.map m1)/\
 ∃n1,cI h3 (bA h2) n1/\
 (
 u7 (.int .i64) m1 h3 λWv=>
 ∃(aU:OA) (aI:Nat) (bw:Nat),Option.getD (nD Wv (.i n1)) (zeroV EK) = vS aU aI bw/\
 (
 aC z33 33 h3 λh4=>
 (cP h4 (bA h1) q1)/\
 (cellOf h4 (p1.add 1)=some (.map m1))/\
 (cI h4 (bA h2) n1)/\
 aC z4 4 h4 λh5=>
 (cP h5 (bA h1) q1)/\
 (cellOf h5 (p1.add 1)=some (.map m1))/\
 (cI h5 (bA h2) n1)/\
 bD (bA h3) (vS aU aI bw) h5 λh6=>
 bD (bA h4) (.bool (Option.isSome (nD Wv (.i n1)))) h6 λh7=>
 aX.k1 aH aK aR h1 h2 (some (bA h3)) (some (bA h4)) h7 K)/\
 aC z4 4 h3 λiG=>
 (cP iG (bA h1) q1)/\
 (cellOf iG (p1.add 1)=some (.map m1))/\
 (cI iG (bA h2) n1)/\
 aC z33 33 iG λoM=>
 (cP oM (bA h1) q1)/\
 (cellOf oM (p1.add 1)=some (.map m1))/\
 (cI oM (bA h2) n1)/\
 bD (bA iG) (vS aU aI bw) oM λqD=>
 bD (bA h3) (.bool (Option.isSome (nD Wv (.i n1)))) qD λpg=>
 aX.k1 aH aK aR h1 h2 (some (bA iG)) (some (bA h3)) pg K)/\
 (
 aC z33 33 h3 λsX=>
 (cP sX (bA h1) q1)/\
 (cellOf sX (p1.add 1)=some (.map m1))/\
 (cI sX (bA h2) n1)/\
 (
 u7 (.int .i64) m1 sX λmm3=>
 ∃(EL:OA) (Df:Nat) (H3:Nat),Option.getD (nD mm3 (.i n1)) (zeroV EK) = vS EL Df H3/\
 aC z4 4 sX λqv=>
 (cP qv (bA h1) q1)/\
 (cellOf qv (p1.add 1)=some (.map m1))/\
 (cI qv (bA h2) n1)/\
 bD (bA h3) (vS EL Df H3) qv λpJ=>
 bD (bA sX) (.bool (Option.isSome (nD mm3 (.i n1)))) pJ λDg=>
 aX.k1 aH aK aR h1 h2 (some (bA h3)) (some (bA sX)) Dg K)/\
 aC z4 4 sX λwj=>
 (cP wj (bA h1) q1)/\
 (cellOf wj (p1.add 1)=some (.map m1))/\
 (cI wj (bA h2) n1)/\
 u7 (.int .i64) m1 wj λmm4=>
 ∃(Wt:OA) (Vk:Nat) (sC9:Nat),Option.getD (nD mm4 (.i n1)) (zeroV EK) = vS Wt Vk sC9/\
 bD (bA h3) (vS Wt Vk sC9) wj λMS=>
 bD (bA sX) (.bool (Option.isSome (nD mm4 (.i n1)))) MS λPs=>
 aX.k1 aH aK aR h1 h2 (some (bA h3)) (some (bA sX)) Ps K)/\
 aC z4 4 h3 λIl=>
 (cP Il (bA h1) q1)/\
 (cellOf Il (p1.add 1)=some (.map m1))/\
 (cI Il (bA h2) n1)/\
 (
 u7 (.int .i64) m1 Il λmm5=>
 ∃(K7:OA) (K8:Nat) (MR:Nat),Option.getD (nD mm5 (.i n1)) (zeroV EK) = vS K7 K8 MR/\
 aC z33 33 Il λuU=>
 (cP uU (bA h1) q1)/\
 (cellOf uU (p1.add 1)=some (.map m1))/\
 (cI uU (bA h2) n1)/\
 bD (bA Il) (vS K7 K8 MR) uU λVl=>
 bD (bA h3) (.bool (Option.isSome (nD mm5 (.i n1)))) Vl λL7=>
 aX.k1 aH aK aR h1 h2 (some (bA Il)) (some (bA h3)) L7 K)/\
 aC z33 33 Il λWu=>
 (cP Wu (bA h1) q1)/\
 (cellOf Wu (p1.add 1)=some (.map m1))/\
 (cI Wu (bA h2) n1)/\
 u7 (.int .i64) m1 Wu λmm6=>
 ∃(TY:OA) (TZ:Nat) (T4:Nat),Option.getD (nD mm6 (.i n1)) (zeroV EK) = vS TY TZ T4/\
 bD (bA Il) (vS TY TZ T4) Wu λh36=>
 bD (bA h3) (.bool (Option.isSome (nD mm6 (.i n1)))) h36 λZ7=>
 aX.k1 aH aK aR h1 h2 (some (bA Il)) (some (bA h3)) Z7 K
set_option maxRecDepth 100000 in
set_option maxRecDepth 100000 in
set_option maxRecDepth 100000 in
theorem aX.ok{t1 i1 aH aK aR K h}(x:aX t1 i1 aH aK aR K h):C.aX t1 i1 aH aK aR h K:=fk l0 (fun|1=>(oS 0 5 (.alt 5 [] (.op 6 [] (.op 7 [] (.op 8 [] (.alt 9 [0,3,4] (.op 10 [0,3,4] (.op 11 [] (.op 12 [] .nil))) (.op 10 [0,3,4] (.op 9 [0,3,4] (.op 11 [] (.op 12 [] .nil)))))))) (.alt 9 [0,3,4] (.alt 5 [] (.op 6 [] (.op 7 [] (.op 8 [] (.op 10 [0,3,4] (.op 11 [] (.op 12 [] .nil)))))) (.op 10 [0,3,4] (oS 5 4 (.op 11 [] (.op 12 [] .nil))))) (.op 10 [0,3,4] (.alt 5 [] (.op 6 [] (.op 7 [] (.op 8 [] (.op 9 [0,3,4] (.op 11 [] (.op 12 [] .nil)))))) (.op 9 [0,3,4] (oS 5 4 (.op 11 [] (.op 12 [] .nil)))))))))|4=>(oS 0 8 (.op 8 [3] (.op 9 [] (.op 10 [] (.op 11 [] .nil)))))|10=>(oS 0 6 (.op 6 [0,1,4] (.op 7 [0] (.op 8 [] (.op 9 [] (.op 10 [] .nil))))))|11=>(oS 0 6 (.op 6 [0,3,4] (.op 7 [] .nil)))|_=>.nil) Tryz.func28 x
def fE(o1:LV)(K:KT)(h1:ad):=
 aC o1 50 h1 λh2=>
 (0<=(512:Int)/\(512:Int)<=512/\(1:Int)*512<=281474976710656/\(512:Int)<=281474976710656)/\
 aC (aL z5 (Int.toNat 512)) 5 h2 λh3=>
 ∃(I1:IP) (M1:IM),I1 0 h3/\
 ∀(n1:Int),∀h4:ad,I1 n1 h4->
 bif(decide (n1<((Int.toNat 512):Int)))then(
 ∃s1,cellOf h4 (aS h1 2)=some (.string s1)/\
 bif(s1.toList==(mkStr []).toList)then(
 ∃n2,cI h4 (aS h1 3) n2/\
 (0<=n1/\n1<((Int.toNat 512):Int))/\
 bD (Addr.add (bA h2) (Int.toNat n1)) (.int .u8 (IntKind.wrap .u8 (n2))) h4 λh5=>
 I1 (wI (n1+1)) h5/\M1 (wI (n1+1)) h5<M1 n1 h4)else(
 ∃s2,cellOf h4 (aS h1 2)=some (.string s2)/\
 bif(decide (n1<(s2.size:Int)))then(
 ∃s3,cellOf h4 (aS h1 2)=some (.string s3)/\
 (0<=n1/\n1<(s3.size:Int))/\
 ∃b1:UInt8,s3.toList[Int.toNat n1]?=some b1/\
 (0<=n1/\n1<((Int.toNat 512):Int))/\
 bD (Addr.add (bA h2) (Int.toNat n1)) (.int .u8 ((UInt8.toNat b1:Nat):Int)) h4 λh6=>
 I1 (wI (n1+1)) h6/\M1 (wI (n1+1)) h6<M1 n1 h4)else(
 I1 (wI (n1+1)) h4/\M1 (wI (n1+1)) h4<M1 n1 h4)))else(
 K (vS (some (bA h2)) (Int.toNat 512) (Int.toNat 512)) h4)
theorem fE.ok{o1 K h}(x:fE o1 K h):C.fE o1 h K:=fk (fun|3=>([1,3,7],[(8,.int .i64)])|_=>([],[])) o0 Tryz.func29 x
def aA.k2(t1:OA)(i1:Int)(aH:OA)(aK:Nat)(h5:ad)(K:KT):=
 ae t1 λp3=>
 ∃eC dT fD,cS h5 (p3.add 1) eC dT fD/\
 ∃Eb,av h5 aH aK Eb/\
 List.length ([vI i1,.string (mkStr Eb)]:LV)=2/\
 aC [vI i1,.string (mkStr Eb)] 130 h5 λh6=>
 (cS h6 (p3.add 1) eC dT fD)/\
 ∃aM,List.length aM=1*2/\ak h6 (some (bA h5)) aM/\(∀v∈aM,v.oneCell'=true)/\
 aJ Jt 130 eC dT fD 1 aM h6 λkS kA lW h7=>
 ae t1 λp4=>
 bD (p4.add 1) (vS kS kA lW) h7 λh8=>
 K (vI 0) h8
def aA.k1(t1:OA)(i1:Int)(aH:OA)(aK:Nat)(h3:ad)(K:KT):=
 bif((aK:Int) != 512)then(
 K (vI 32) h3)else(
 C.dW t1 i1 h3 λr2 h4=>
 ∃n2,r2 = vI n2/\
 C.bK t1 h4 λr3 h5=>
 ∃aU aI bw,r3 = vS aU aI bw/\
 bif(decide (n2<0))then(
 bif(decide ((aI:Int)>=96))then(
 K (vI 60) h5)else(
 aA.k2 t1 i1 aH aK h5 K))else(
 aA.k2 t1 i1 aH aK h5 K))
def aA(t1:OA)(i1:Int)(aH:OA)(aK aR:Nat)(K:KT)(h1:ad):=
 ae t1 λp1=>
 ∃b1,cellOf h1 (p1.add 2)=some (.bool b1)/\
 bif b1 then(
 K (vI 61) h1)else(
 bif(decide (i1<98))then(
 K (vI 31) h1)else(
 ae t1 λp2=>
 ∃q1,cP h1 (p2.add 0) q1/\
 C.bL q1 h1 λr1 h2=>
 ∃n1,r1 = vI n1/\
 bif(decide (i1>=n1))then(
 K (vI 31) h2)else(
 aA.k1 t1 i1 aH aK h2 K)))
theorem aA.ok{t1 i1 aH aK aR K h}(x:aA t1 i1 aH aK aR K h):C.aA t1 i1 aH aK aR h K:=fk l0 (fun|11=>(oS 0 9 (.op 9 [4] (.op 10 [] (.op 11 [] (.op 12 [] (.op 13 [] .nil))))))|_=>.nil) Tryz.func30 x
def gZ(t1:OA)(K:KT)(h1:ad):=
 ae t1 λp1=>
 ∃b1,cellOf h1 (p1.add 3)=some (.bool b1)/\
 bif b1 then(
 K (vI 61) h1)else(
 ae t1 λp2=>
 ∃m1,cellOf h1 (p2.add 1)=some (.map m1)/\
 u7 (.int .i64) m1 h1 λWv=>
 bif((List.length Wv:Int)==0)then(
 D.bz t1 h1 λh2=>
 K (vI 0) h2)else(
 C.gp t1 h1 λr1 h3=>
 ∃aU aI bw,r1 = vS aU aI bw/\
 ∃(I1:OA->Nat->Nat->Int->ad->Prop) (M1:OA->Nat->Nat->Int->ad->Nat),I1 none 0 0 0 h3/\
 ∀(jx:OA) (iA:Nat) (kR:Nat) (n1:Int),∀h4:ad,I1 jx iA kR n1 h4->
 bif(decide (n1<(aI:Int)))then(
 (0<=n1/\n1<(aI:Int))/\
 ae aU λp3=>
 ∃n2,cI h4 (p3.add (Int.toNat n1)) n2/\
 ae t1 λp4=>
 ∃m2,cellOf h4 (p4.add 1)=some (.map m2)/\
 u7 (.int .i64) m2 h4 λmm2=>
 ∃(eC:OA) (dT:Nat) (fD:Nat),Option.getD (nD mm2 (.i n2)) (zeroV EK) = vS eC dT fD/\
 List.length ([vI n2,vS eC dT fD]:LV)=2/\
 aC [vI n2,vS eC dT fD] 133 h4 λh5=>
 ∃aM,List.length aM=1*2/\ak h5 (some (bA h4)) aM/\(∀v∈aM,v.oneCell'=true)/\
 aJ Ru 133 jx iA kR 1 aM h5 λkS kA lW h6=>
 I1 kS kA lW (wI (n1+1)) h6/\M1 kS kA lW (wI (n1+1)) h6<M1 jx iA kR n1 h4)else(
 ae t1 λp5=>
 ∃q1,cP h4 (p5.add 0) q1/\
 C.qa q1 jx iA kR h4 λr2 h7=>
 ∃n3,r2 = vI n3/\
 D.bz t1 h7 λh8=>
 K (vI n3) h8)))
theorem gZ.ok{t1 K h}(x:gZ t1 K h):C.gZ t1 h K:=fk (fun|8=>([0,18,19],[(3,.slice),(20,.int .i64)])|_=>([],[])) o0 Tryz.func31 x
def eE(t1:OA)(K:KT)(h1:ad):=
 ae t1 λp1=>
 ∃b1,cellOf h1 (p1.add 2)=some (.bool b1)/\
 bif b1 then(
 K (vI 61) h1)else(
 C.bK t1 h1 λr1 h2=>
 ∃aU aI bw,r1 = vS aU aI bw/\
 ∃(I1:OA->Nat->Nat->Int->ad->Prop) (M1:OA->Nat->Nat->Int->ad->Nat),I1 none 0 0 0 h2/\
 ∀(jx:OA) (iA:Nat) (kR:Nat) (n1:Int),∀h3:ad,I1 jx iA kR n1 h3->
 bif(decide (n1<(aI:Int)))then(
 (0<=n1/\n1<(aI:Int))/\
 ae aU λp2=>
 ∃n2,cI h3 (p2.add (Int.toNat n1)) n2/\
 ae t1 λp3=>
 ∃eC dT fD,cS h3 (p3.add 1) eC dT fD/\
 C.dW t1 n2 h3 λr2 h4=>
 ∃n3,r2 = vI n3/\
 (cS h4 (p3.add 1) eC dT fD)/\
 (0<=n3/\n3<(dT:Int))/\
 ae eC λp4=>
 ∃s1,cellOf h4 (Addr.add (p4.add ((Int.toNat n3)*2)) 1)=some (.string s1)/\
 Zu s1 5 h4 λcw h5=>
 List.length ([vI n2,vS (some (bA h4)) s1.size cw]:LV)=2/\
 aC [vI n2,vS (some (bA h4)) s1.size cw] 133 h5 λh6=>
 ∃aM,List.length aM=1*2/\ak h6 (some (bA h5)) aM/\(∀v∈aM,v.oneCell'=true)/\
 aJ Ru 133 jx iA kR 1 aM h6 λkS kA lW h7=>
 I1 kS kA lW (wI (n1+1)) h7/\M1 kS kA lW (wI (n1+1)) h7<M1 jx iA kR n1 h3)else(
 ae t1 λp5=>
 bD (p5.add 2) (.bool true) h3 λh8=>
 ae t1 λp6=>
 ∃q1,cP h8 (p6.add 0) q1/\
 C.iN q1 jx iA kR h8 λr3 h9=>
 ∃n4,r3 = vI n4/\
 K (vI n4) h9))
theorem eE.ok{t1 K h}(x:eE t1 K h):C.eE t1 h K:=fk (fun|5=>([0,11,12],[(3,.slice),(13,.int .i64)])|_=>([],[])) (fun|7=>(oS 0 8 (.op 8 [5] (oS 9 7 (.op 16 [] .nil))))|_=>.nil) Tryz.func32 x
def gQ(t1:OA)(K:KT)(h1:ad):=
 C.bz t1 h1 λr1 h2=>
 r1 = .tuple #[]/\
 K (.tuple #[]) h2
theorem gQ.ok{t1 K h}(x:gQ t1 K h):C.gQ t1 h K:=fz Tryz.func33 x
def dO(t1:OA)(K:KT)(h1:ad):=
 ae t1 λp1=>
 bD (p1.add 2) (.bool true) h1 λh2=>
 K (.tuple #[]) h2
theorem dO.ok{t1 K h}(x:dO t1 K h):C.dO t1 h K:=fz Tryz.func34 x
def bm.k1(s1:OA)(h1:ad)(i1:Int)(bf:ad)(I1:IP)(M1:IM)(K:KT):=
 ae s1 λYM=>
 ∃q7,cP bf (YM.add 2) q7/\
 ae s1 λZ4=>
 ∃wQ,List.length wQ=5/\ai bf (Z4.add 4) wQ/\
 ∃n23,cI bf (aS h1 1) n23/\
 ∃s8,cellOf bf (aS h1 2)=some (.string s8)/\
 ae s1 λYL=>
 ∃q8,cP bf (YL.add 3) q8/\
 ae s1 λp16=>
 ∃zU,List.length zU=5/\ai bf (p16.add 4) zU/\
 ∃n24,cI bf (aS h1 1) n24/\
 ∃s9,cellOf bf (aS h1 2)=some (.string s9)/\
 C.iB s8 i1 bf λE1 bQ=>
 ∃Pu,E1 = .string Pu/\
 (cP bQ (YM.add 2) q7)/\
 (List.length (wQ:LV)=5/\ai bQ (Z4.add 4) wQ)/\
 (cI bQ (aS h1 1) n23)/\
 (cP bQ (YL.add 3) q8)/\
 (List.length (zU:LV)=5/\ai bQ (p16.add 4) zU)/\
 (cI bQ (aS h1 1) n24)/\
 (cellOf bQ (aS h1 2)=some (.string s9))/\
 C.oR q7 wQ n23 Pu 2 bQ λTX cX=>
 ∃n25,TX = vI n25/\
 (cP cX (YL.add 3) q8)/\
 (List.length (zU:LV)=5/\ai cX (p16.add 4) zU)/\
 (cI cX (aS h1 1) n24)/\
 (cellOf cX (aS h1 2)=some (.string s9))/\
 C.iB s9 i1 cX λEM fN=>
 ∃E2,EM = .string E2/\
 (cP fN (YL.add 3) q8)/\
 (List.length (zU:LV)=5/\ai fN (p16.add 4) zU)/\
 (cI fN (aS h1 1) n24)/\
 C.gm q8 zU n24 E2 2 fN λr13 gN=>
 ∃n26,r13 = vI n26/\
 bif(n25 != n26)then(
 K (.bool false) gN)else(
 I1 (wI (i1+1)) gN/\M1 (wI (i1+1)) gN<M1 i1 bf)
def bm(s1:OA)(o1:LV)(K:KT)(h1:ad):=
 aC o1 50 h1 λh2=>
 ∃n1,cI h2 (aS h1 0) n1/\
 bif(n1==2)then(
 ae s1 λp1=>
 ∃q1,cP h2 (p1.add 2) q1/\
 ae s1 λp2=>
 ∃br,List.length br=5/\ai h2 (p2.add 4) br/\
 ∃n2,cI h2 (aS h1 1) n2/\
 ∃s2,cellOf h2 (aS h1 2)=some (.string s2)/\
 ∃n3,cI h2 (aS h1 3) n3/\
 ae s1 λp3=>
 ∃q2,cP h2 (p3.add 3) q2/\
 ae s1 λp4=>
 ∃cT,List.length cT=5/\ai h2 (p4.add 4) cT/\
 ∃n4,cI h2 (aS h1 1) n4/\
 ∃s3,cellOf h2 (aS h1 2)=some (.string s3)/\
 ∃n5,cI h2 (aS h1 3) n5/\
 C.oR q1 br n2 s2 n3 h2 λr1 h3=>
 ∃n6,r1 = vI n6/\
 (cP h3 (p3.add 3) q2)/\
 (List.length (cT:LV)=5/\ai h3 (p4.add 4) cT)/\
 (cI h3 (aS h1 1) n4)/\
 (cellOf h3 (aS h1 2)=some (.string s3))/\
 (cI h3 (aS h1 3) n5)/\
 C.gm q2 cT n4 s3 n5 h3 λr2 h4=>
 ∃n7,r2 = vI n7/\
 bif(n6==n7)then(
 C.bJ s1 h4 λr3 h5=>
 ∃b1,r3 = .bool b1/\
 K (.bool b1) h5)else(
 K (.bool false) h4))else(
 bif(n1==3)then(
 ae s1 λp5=>
 ∃q3,cP h2 (p5.add 2) q3/\
 ae s1 λp6=>
 ∃gG,List.length gG=5/\ai h2 (p6.add 4) gG/\
 ∃n8,cI h2 (aS h1 1) n8/\
 ∃s4,cellOf h2 (aS h1 2)=some (.string s4)/\
 C.qc q3 gG n8 s4 h2 λr4 h6=>
 ∃n9 n10,r4 = .tuple #[vI n9,vI n10]/\
 ae s1 λp7=>
 ∃q4,cP h6 (p7.add 3) q4/\
 ae s1 λp8=>
 ∃nO,List.length nO=5/\ai h6 (p8.add 4) nO/\
 ∃n11,cI h6 (aS h1 1) n11/\
 ∃s5,cellOf h6 (aS h1 2)=some (.string s5)/\
 C.iO q4 nO n11 s5 h6 λr5 h7=>
 ∃n12 n13,r5 = .tuple #[vI n12,vI n13]/\
 bif(n9==n12)then(
 bif(n10==n13)then(
 C.bJ s1 h7 λr6 h8=>
 ∃b2,r6 = .bool b2/\
 K (.bool b2) h8)else(
 K (.bool false) h7))else(
 K (.bool false) h7))else(
 bif(n1==4)then(
 ae s1 λp9=>
 ∃q5,cP h2 (p9.add 2) q5/\
 ae s1 λOP=>
 ∃pI,List.length pI=5/\ai h2 (OP.add 4) pI/\
 ∃n14,cI h2 (aS h1 1) n14/\
 ∃s6,cellOf h2 (aS h1 2)=some (.string s6)/\
 ∃n15,cI h2 (aS h1 3) n15/\
 C.nZ q5 pI n14 s6 n15 h2 λr7 h9=>
 ∃n16 n17,r7 = .tuple #[vI n16,vI n17]/\
 ae s1 λIk=>
 ∃q6,cP h9 (Ik.add 3) q6/\
 ae s1 λJw=>
 ∃sB,List.length sB=5/\ai h9 (Jw.add 4) sB/\
 ∃n18,cI h9 (aS h1 1) n18/\
 ∃s7,cellOf h9 (aS h1 2)=some (.string s7)/\
 ∃n19,cI h9 (aS h1 3) n19/\
 C.dY q6 sB n18 s7 n19 h9 λr8 bG=>
 ∃n20 n21,r8 = .tuple #[vI n20,vI n21]/\
 bif(n16==n20)then(
 bif(n17==n21)then(
 C.bJ s1 bG λr9 cu=>
 ∃b3,r9 = .bool b3/\
 K (.bool b3) cu)else(
 K (.bool false) bG))else(
 K (.bool false) bG))else(
 bif(n1==7)then(
 ∃(I1:IP) (M1:IM),I1 0 h2/\
 ∀(i1:Int),∀bf:ad,I1 i1 bf->
 ∃n22,cI bf (aS h1 3) n22/\
 bif(decide (i1<n22))then(
 bif(decide (i1<40))then(
 bm.k1 s1 h1 i1 bf I1 M1 K)else(
 C.bJ s1 bf λYK gO=>
 ∃b4,YK = .bool b4/\
 K (.bool b4) gO))else(
 C.bJ s1 bf λr15 jk=>
 ∃b5,r15 = .bool b5/\
 K (.bool b5) jk))else(
 K (.bool true) h2))))
set_option maxRecDepth 100000 in
set_option maxRecDepth 100000 in
set_option maxRecDepth 100000 in
theorem bm.ok{s1 o1 K h}(x:bm s1 o1 K h):C.bm s1 o1 h K:=fk (fun|14=>([0,3],[(13,.int .i64)])|_=>([],[])) (fun|3=>(oS 0 14 (oS 15 14 (.op 14 [18,22,24,26,28] (oS 29 6 (.op 35 [] .nil)))))|5=>(oS 0 17 (.op 17 [] .nil))|6=>(oS 0 17 (.op 17 [] .nil))|9=>(oS 0 19 (.op 19 [] .nil))|10=>(oS 0 19 (.op 19 [] .nil))|16=>(oS 0 13 (oS 15 13 (.op 13 [3,7,9,18,22,24,26] (.op 14 [18,22,24,26] (.op 28 [18,22,24] (.op 29 [] (.op 30 [] .nil)))))))|_=>.nil) Tryz.func35 x
def bK.k1(t1 jx:OA)(iA kR:Nat)(i1:Int)(h2:ad)(I1:OA->Nat->Nat->Int->ad->Prop)(M1:OA->Nat->Nat->Int->ad->Nat)(h4:ad)(K:KT):=
 C.dW t1 i1 h4 λr2 h5=>
 ∃n2,r2 = vI n2/\
 bif(decide (n2>=0))then(
 aC [vI i1] 3 h5 λh6=>
 ∃aM,List.length aM=1*1/\ak h6 (some (bA h5)) aM/\(∀v∈aM,v.oneCell'=true)/\
 aJ ti3 3 jx iA kR 1 aM h6 λeC dT fD h7=>
 I1 eC dT fD (wI (i1+1)) h7/\M1 eC dT fD (wI (i1+1)) h7<M1 jx iA kR i1 h2)else(
 I1 jx iA kR (wI (i1+1)) h5/\M1 jx iA kR (wI (i1+1)) h5<M1 jx iA kR i1 h2)
def bK(t1:OA)(K:KT)(h1:ad):=
 ∃(I1:OA->Nat->Nat->Int->ad->Prop) (M1:OA->Nat->Nat->Int->ad->Nat),I1 none 0 0 98 h1/\
 ∀(jx:OA) (iA:Nat) (kR:Nat) (i1:Int),∀h2:ad,I1 jx iA kR i1 h2->
 ae t1 λp1=>
 ∃q1,cP h2 (p1.add 0) q1/\
 C.bL q1 h2 λr1 h3=>
 ∃n1,r1 = vI n1/\
 bif(decide (i1<n1))then(
 ae t1 λp2=>
 ∃b1,cellOf h3 (p2.add 2)=some (.bool b1)/\
 bif(!b1)then(
 ae t1 λp3=>
 ∃aU aI bw,cS h3 (p3.add 1) aU aI bw/\
 bif(decide ((aI:Int)>0))then(
 bK.k1 t1 jx iA kR i1 h2 I1 M1 h3 K)else(
 K (vS jx iA kR) h3))else(
 K (vS jx iA kR) h3))else(
 K (vS jx iA kR) h3)
theorem bK.ok{t1 K h}(x:bK t1 K h):C.bK t1 h K:=fk (fun|3=>([0],[(3,.slice),(4,.int .i64)])|_=>([],[])) o0 Tryz.func36 x
def gu(TV:OA)(MQ Wq:Nat)(aH:OA)(aK aR:Nat)(K:KT)(h1:ad):=
 bif((MQ:Int) != (aK:Int))then(
 K (.bool false) h1)else(
 ∃(I1:IP) (M1:IM),I1 0 h1/\
 ∀(n1:Int),∀h2:ad,I1 n1 h2->
 bif(decide (n1<(MQ:Int)))then(
 (0<=n1/\n1<(MQ:Int))/\
 ae TV λp1=>
 ∃n2,cI h2 (p1.add (Int.toNat n1)) n2/\
 (0<=n1/\n1<(aK:Int))/\
 ae aH λp2=>
 ∃n3,cI h2 (p2.add (Int.toNat n1)) n3/\
 bif(n2 != n3)then(
 K (.bool false) h2)else(
 I1 (wI (n1+1)) h2/\M1 (wI (n1+1)) h2<M1 n1 h2))else(
 K (.bool true) h2))
theorem gu.ok{TV MQ Wq aH aK aR K h}(x:gu TV MQ Wq aH aK aR K h):C.gu TV MQ Wq aH aK aR h K:=fk (fun|4=>([0,1,12],[(13,.int .i64)])|_=>([],[])) (fun|6=>(oS 0 8 (.op 8 [] .nil))|_=>.nil) Tryz.func37 x
end W
end Go.Proofs.YtlbckoblcdoceaaGreatDoor
