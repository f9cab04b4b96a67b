/- walkExact_card -/
import Derived.Orders
import Derived.LoadGo3
import Derived.Test.YtiapingedfnlnaaGreatDoorGp1
namespace Go.Proofs.YtiapingedfnlnaaGreatDoor
open Go Go.Proofs Wx
variable{x o n j i b m c l ec e t:Nat}{P:Program}{w:World}{a:OA}{F:NP}{h h' h1 h2 h3:ab}{xs:LV}{bs:LB}{az bT:Nat->Nat}{k:HP}{p:Addr}{A B:Prop}{y:Int}
namespace Wx
open Go
def mR(P:Program)(a:Act)(o:Oper)(w:World)(v:Value):Prop:=(execOp a.eval o).run P w = .ok (.value v) w
def oL(full:List Oper)(a:Act)(o:Oper):Bool:=Region.wanted o (yielded full.toArray a.tmps)
def EU(a:Act)(o:Oper):Value:=
  match o.dst with
  | some d=>a.tmps.getD d undef
  | none=>undef
def lQ(D:Nat->Bool)(i:Nat):Nat->Bool:=λj=>Nat.beq j i || D j
theorem Mu(D:Nat->Bool)(i j:Nat):lQ (lQ D i) j=lQ (lQ D j) i:=by
  funext k;simp only[lQ];cases Nat.beq k i <;> cases Nat.beq k j <;> rfl
def GI(C:Ctx)(full:List Oper)(st:List Nat)(D:Nat->Bool)(a:Act)(w:World):Prop:=
  ∀j∈st,D j=true->∀oj,full[j]?=some oj->oL full a oj=true->mR C.P a oj w (EU a oj)
def sR(C:Ctx)(full:List Oper)(i:Nat)(st:List Nat)(D:Nat->Bool)(K:Act->World->Prop)(a:Act)(w:World):Prop:=
  ∃o,full[i]?=some o/\
    (if oL full a o=true then
      (if IY C o.op=true then ∃v,mR C.P a o w v/\(dZ C o.op=false->∀w',mR C.P a o w' v)/\K (a.put o.dst v) w
       else vm C.P a.eval o w λv w'=>GI C full st D a w'/\K (a.put o.dst v) w')
    else K (a.put o.dst undef) w)
def SW(C:Ctx)(full:List Oper):Od->(Nat->Bool)->(Act->World->Prop)->Act->World->Prop
  | .nil,_,N,a,w=>N a w
  | .op i st r,D,N,a,w=>sR C full i st D (λa w=>SW C full r (lQ D i) N a w) a w
  | .alt i st r o,D,N,a,w=>sR C full i st D (λa w=>SW C full r (lQ D i) N a w) a w/\SW C full o D N a w
def jF(o:Oper):List Nat:=(o.after.toList.filter λe=>Region.binds .any e).map (·.on)
def mask(acc:Array Nat):List Nat->Nat
  | []=>0
  | p::r=>(2 ^ p ||| acc.getD p 0) ||| mask acc r
def pL : List Oper->Array Nat->Array Nat
  | [],acc=>acc
  | o::r,acc=>pL r (acc.push (mask acc (jF o)))
def A4(o:Oper):Bool:=
  match o.op with
  | .select _ _=>false
  | _=>true
def Pe(full:List Oper)(o:Oper)(d:Nat):Bool:=(o.looksAt full.toArray).contains d
def fS(full:List Oper)(x o:Oper):Bool:=
  match x.dst with
  | some d=>Pe full o d
  | none=>false
def lC(x o:Oper):Bool:=
  match x.dst,o.dst with
  | some d,some e=>Nat.beq d e
  | _,_=>false
def Dw(C:Ctx)(full:List Oper)(M:Array Nat)(x i:Nat×List Nat):Bool:=
  match full[x.1]?,full[i.1]? with
  | some ox,some oi=>
    !(Nat.beq x.1 i.1) && !((jF ox).contains i.1) && !(lC ox oi) && !(dZ C ox.op && fS full oi ox) &&
    ((M.getD i.1 0).testBit x.1 || (IY C ox.op && !(fS full ox oi) && !(fS full oi ox) && (IY C oi.op || !(dZ C ox.op) || i.2.contains x.1)))
  | _,_=>false
def GJ : Od->List (Nat×List Nat)
  | .nil=>[]
  | .op i st r=>(i,st)::GJ r
  | .alt i st r o=>(i,st)::(GJ r++GJ o)
def tF : Od->List Nat
  | .nil=>[]
  | .op i _ _=>[i]
  | .alt i _ _ o=>i::tF o
def ny(R:List Nat)(x:Nat):List Nat:=R.filter λj=>!Nat.beq j x
def lD(full:List Oper)(x:Nat)(R:List Nat):Bool:=
  match full[x]? with
  | some o=>(jF o).all λp=>!R.contains p
  | none=>false
def uI(C:Ctx)(full:List Oper)(x:Nat):Bool:=
  match full[x]? with
  | some o=>!dZ C o.op
  | none=>false
def okB(C:Ctx)(full:List Oper)(M:Array Nat):Bool->Od->List Nat->Bool
  | _,.nil,R=>R.isEmpty
  | b,.op x st r,R=>R.contains x && (lD full x R && ((bif b then uI C full x else(GJ r).all (Dw C full M (x,st))) && okB C full M false r (ny R x)))
  | b,.alt x _ r o,R=>R.contains x && (lD full x R && (uI C full x && (okB C full M false r (ny R x) && (okB C full M true o R && (b || R.all λy=>Nat.beq y x || (tF o).contains y || (M.getD y 0).testBit x || (tF o).any λe=>(M.getD y 0).testBit e)))))
def KR(C:Ctx)(full:List Oper)(L:Od):Bool:=
  (full.all A4) && ((full.zipIdx.all λp=>(jF p.1).all λq=>Nat.blt q p.2) && ((full.all λo=>!(dZ C o.op && (fS full o o || o.dst.isNone))) &&
  (((GJ L).all λx=>Nat.blt x.1 full.length && x.2.all λj=>match full[j]? with|some o=>dZ C o.op|none=>false) && okB C full (pL full #[]) false L (List.range full.length))))
theorem tG{full:List Oper}{x o:Oper}(h:fS full x o=false):∀d,x.dst=some d->d ∉ o.looksAt full.toArray:=by
  intro d hd;unfold fS at h;rw[hd]at h;simpa[Pe]using h
theorem vG{x o:Oper}(h:lC x o=false):∀d,x.dst=some d->o.dst≠some d:=by
  intro d hd he;unfold lC at h;rw[hd,he]at h;simp at h
theorem tH{full:List Oper}{x o:Oper}(hs:A4 o=true)(a:Act)(v:Value)(h:fS full x o=false):execOp (a.put x.dst v).eval o=execOp a.eval o:=
  execOp_put (ops:=full.toArray) o (λcs b e=>by simp[A4,e]at hs) a x.dst v (tG h)
theorem xj{full:List Oper}{x o:Oper}(a:Act)(v:Value)(h:fS full x o=false):oL full (a.put x.dst v) o=oL full a o:=
  wanted_put (ops:=full.toArray) o a x.dst v (tG h)
theorem GK{x o:Oper}(a:Act)(v:Value)(h:lC x o=false):EU (a.put x.dst v) o=EU a o:=by
  unfold EU
  cases ho:o.dst with
  | none=>rfl
  | some e=>
    cases hx:x.dst with
    | none=>rfl
    | some d=>
      have fB:d≠e:=λhh=>vG h d hx (by rw[ho,hh]);simp[Act.put,Array.getElem?_setIfInBounds_ne fB]
def A5(C:Ctx)(full:List Oper)(D:Nat->Bool)(L:List (Nat×List Nat)):Prop:=
  ∀j oj,D j=true->full[j]?=some oj->dZ C oj.op=true->∀x∈L,∀ox,full[x.1]?=some ox->fS full ox oj=false/\lC ox oj=false
structure abc(C:Ctx)(full:List Oper)(x i:Nat×List Nat):Prop where
  q:∀ox,full[x.1]?=some ox->IY C ox.op=true
  a:∀ox oi,full[x.1]?=some ox->full[i.1]?=some oi->fS full ox oi=false/\fS full oi ox=false/\lC ox oi=false
  s:∀ox oi,full[x.1]?=some ox->full[i.1]?=some oi->IY C oi.op=false->dZ C ox.op=true->x.1∈i.2
theorem GI.back{C:Ctx}{full:List Oper}(EV:∀ o ∈ full,A4 o=true){st:List Nat}{D:Nat->Bool}{x:Nat×List Nat}{ox:Oper}(hx:full[x.1]?=some ox){L:List (Nat×List Nat)}(Ov:A5 C full D (x::L))
    (hrd:∀j∈st,D j=true->∀oj,full[j]?=some oj->dZ C oj.op=true) {a:Act} {v:Value} {w:World} (h:GI C full st (lQ D x.1) (a.put ox.dst v) w):GI C full st D a w:=by
  intro j hj hD oj uH hw;have hr:=hrd j hj hD oj uH;obtain⟨h1,h2⟩:=Ov j oj hD uH hr x (by simp) ox hx;have:=h j hj (by simp[lQ,hD]) oj uH (by rw[xj a v h1];exact hw);rw[GK a v h2]at this;unfold mR at this ⊢;rwa[tH (EV oj (List.mem_of_getElem? uH)) a v h1]at this
theorem vm.mono{P:Program}{ρ:Operand->Value}{o:Oper}{w:World}{k k':Value->World->Prop}(h:vm P ρ o w k)(hk:∀ v w',k v w'->k' v w'):vm P ρ o w k':=by
  rcases h with⟨v,w',h1,h2⟩|⟨w',h1,h2⟩|⟨g,args,h1,h2⟩|⟨l,fn,tmps,assign,body,h1,h2⟩
  · exact .inl ⟨v,w',h1,hk _ _ h2⟩
  · exact .inr (.inl ⟨w',h1,hk _ _ h2⟩)
  · exact .inr (.inr (.inl ⟨g,args,h1,h2.mono λe X8 ⟨v,he,hv⟩=>⟨v,he,hk _ _ hv⟩⟩))
  · exact .inr (.inr (.inr ⟨l,fn,tmps,assign,body,h1,h2.mono λe X8 ⟨v,he,hv⟩=>⟨v,he,hk _ _ hv⟩⟩))
theorem vm.congr{ρ ρ':Operand->Value}{o:Oper}{k:Value->World->Prop}(he:execOp ρ o=execOp ρ' o)(h:vm P ρ o w k):vm P ρ' o w k:=by
  unfold vm at h ⊢;rw[he]at h;exact h
theorem CJ{o:Oper}{a:Act}(hs:a.tmps.size=n)(hd:rp n o=true)(hn:o.dst.isNone=false)(v:Value):EU (a.put o.dst v) o=v:=by
  unfold EU rp at *
  cases ho:o.dst with
  | none=>rw[ho]at hn;cases hn
  | some d=>
    rw[ho]at hd;have dh:d<n:=Nat.le_of_ble_eq_true hd;simp[Act.put,hs,dh]
theorem size_put(a:Act)(d:Option Nat)(v:Value):(a.put d v).tmps.size=a.tmps.size:=by cases d <;> simp[Act.put]
theorem EW(x o:Oper):lC x o=lC o x:=by
  unfold lC
  cases x.dst <;> cases o.dst <;> try rfl
  rename_i d e;simp only
  cases h:Nat.beq d e with
  | true=>have:=Nat.eq_of_beq_eq_true h;subst this;exact h.symm
  | false=>
    cases h':Nat.beq e d with
    | false=>rfl
    | true=>have:=Nat.eq_of_beq_eq_true h';subst this;rw[Nat.beq_refl]at h;cases h
theorem Mv{x o:Oper}(a:Act)(v u:Value)(h:lC x o=false):(a.put x.dst v).put o.dst u=(a.put o.dst u).put x.dst v:=
  Act.put_comm a v u (vG h)
def Yi(C:Ctx)(full:List Oper)(x y:Nat×List Nat):Prop:=
  ∀ox oy,full[x.1]?=some ox->full[y.1]?=some oy->dZ C ox.op=true->fS full oy ox=false/\lC oy ox=false
theorem Jc{C:Ctx}{full:List Oper}(qk:∀ o ∈ full,rp n o=true)(EV:∀ o ∈ full,A4 o=true)(GL:∀ o ∈ full,dZ C o.op=true->fS full o o=false/\o.dst.isNone=false)(i:Nat)(st:List Nat)
    (pH:∀j∈st,∀oj,full[j]?=some oj->dZ C oj.op=true) {x:Nat×List Nat} (hX:abc C full x (i,st)) {D:Nat->Bool} (Ov:A5 C full D [x]) {A:Act->World->Prop} {B:(Nat->Bool)->Act->World->Prop} {a:Act} {w:World} (iH:a.tmps.size=n)
    (IH:∀v,(∃ox,full[x.1]?=some ox/\A (a.put ox.dst v) w)->∃ox,full[x.1]?=some ox/\sR C full i st (lQ D x.1) (B (lQ (lQ D x.1) i)) (a.put ox.dst v) w)
    (h:sR C full x.1 x.2 D A a w):sR C full i st D (λa w=>sR C full x.1 x.2 (lQ D i) (B (lQ (lQ D i) x.1)) a w) a w:=by
    obtain⟨ox,CK,h⟩:=h
    have IH:∀v,A (a.put ox.dst v) w->sR C full i st (lQ D x.1) (B (lQ (lQ D x.1) i)) (a.put ox.dst v) w:=λv hv=>by
      obtain⟨ox',e,r⟩:=IH v ⟨ox,CK,hv⟩;rw[CK]at e;have:=Option.some.inj e;subst this;exact r
    have hq:=hX.q ox CK
    -- what x Yj, v its value
    have core:∀v:Value,(oL full a ox=true->mR C.P a ox w v/\(dZ C ox.op=false->∀w',mR C.P a ox w' v))->(oL full a ox=false->v=undef)->
        A (a.put ox.dst v) w->sR C full i st D (λa w=>sR C full x.1 x.2 (lQ D i) (B (lQ (lQ D i) x.1)) a w) a w:=by
      intro v hv1 hv2 abd;obtain⟨oi,hoi,hf⟩:=IH v abd;obtain⟨a1,a2,a3⟩:=hX.a ox oi CK hoi;have hsi:=EV oi (List.mem_of_getElem? hoi);have hsx:=EV ox (List.mem_of_getElem? CK);have hwi:=xj (full:=full) a v a1;have hei:=tH (full:=full) hsi a v a1;refine⟨oi,hoi,?_⟩
      -- x behind i, at a world where it runs as it ran
      have Pf:∀(u:Value) (w':World),(oL full a ox=true->mR C.P a ox w' v)->B (lQ (lQ D x.1) i) ((a.put ox.dst v).put oi.dst u) w'->
          sR C full x.1 x.2 (lQ D i) (B (lQ (lQ D i) x.1)) (a.put oi.dst u) w':=by
        intro u w' hr hs;rw[Mv a v u a3,Mu]at hs;have hwx:=xj (full:=full) a u a2;refine⟨ox,CK,?_⟩;rw[hwx]
        cases hw:oL full a ox with
        | true=>
          rw[if_pos rfl,if_pos hq];refine⟨v,?_,λhnr w2=>?_,hs⟩
          · unfold mR;rw[tH hsx a u a2];exact hr hw
          · unfold mR;rw[tH hsx a u a2];exact(hv1 hw).2 hnr w2
        | false=>
          rw[if_neg (by simp)];have:=hv2 hw;subst this;exact hs
      rw[hwi]at hf
      cases abe:oL full a oi with
      | false=>
        rw[abe,if_neg (by simp)]at hf;rw[if_neg (by simp)];exact Pf undef w (λhw=>(hv1 hw).1) hf
      | true=>
        rw[abe,if_pos rfl]at hf;rw[if_pos rfl]
        cases hqi:IY C oi.op with
        | true=>
          rw[hqi,if_pos rfl]at hf;rw[if_pos rfl];obtain⟨u,r1,r2,r3⟩:=hf;refine⟨u,?_,λhnr w2=>?_,Pf u w (λhw=>(hv1 hw).1) r3⟩
          · unfold mR at r1 ⊢;rwa[hei]at r1
          · have:=r2 hnr w2;unfold mR at this ⊢;rwa[hei]at this
        | false=>
          rw[hqi,if_neg (by simp)]at hf;rw[if_neg (by simp)];refine(vm.congr hei hf).mono λu w' ⟨Pg,hk⟩=>?_;refine⟨GI.back EV CK (L:=[]) (λj oj hD uH hr y hy oy Ph=>?_) (λj hj _ oj uH=>pH j hj oj uH) Pg,Pf u w' (λhw=>?_) hk⟩
          · have:y=x:=by simpa using hy
            subst this;exact Ov j oj hD uH hr y (by simp) oy Ph
          · cases hr:dZ C ox.op with
            | false=>exact(hv1 hw).2 hr w'
            | true=>
              have vj:=hX.s ox oi CK hoi hqi hr;obtain⟨hsf,hsn⟩:=GL ox (List.mem_of_getElem? CK) hr;have:=Pg x.1 vj (by simp[lQ,Nat.beq_refl]) ox CK (by rw[xj a v hsf];exact hw);unfold mR at this ⊢;rw[tH hsx a v hsf]at this;rw[CJ iH (qk ox (List.mem_of_getElem? CK)) hsn]at this;exact this
    cases hw:oL full a ox with
    | true=>
      rw[hw,if_pos rfl,if_pos hq]at h;obtain⟨v,r1,r2,r3⟩:=h;exact core v (λ_=>⟨r1,r2⟩) (λhf=>by rw[hw]at hf;cases hf) r3
    | false=>
      rw[hw,if_neg (by simp)]at h;exact core undef (λhf=>by rw[hw]at hf;cases hf) (λ_=>rfl) h
theorem GM(acc:Array Nat):∀(ps:List Nat) (j:Nat),(mask acc ps).testBit j=true->∃p∈ps,p=j∨(acc.getD p 0).testBit j=true
  | [],j,h=>by simp[mask]at h
  | p::r,j,h=>by
    simp only[mask,Nat.testBit_or,Bool.or_eq_true]at h
    rcases h with(h|h)|h
    · refine⟨p,by simp,.inl ?_⟩
      by_cases e:p=j
      · exact e
      · rw[Nat.testBit_two_pow_of_ne e]at h;cases h
    · exact⟨p,by simp,.inr h⟩
    · obtain⟨q,hq,hj⟩:=GM acc r j h
      exact⟨q,by simp[hq],hj⟩
theorem rZ : ∀(l:List Oper) (acc:Array Nat) (p:Nat),p<acc.size->(pL l acc).getD p 0=acc.getD p 0
  | [],_,_,_=>rfl
  | o::r,acc,p,h=>by
    rw[pL,rZ r _ p (by simp;omega)];simp[Array.getElem?_push,show p≠acc.size by omega]
theorem GN : ∀(l:List Oper) (acc:Array Nat) (k:Nat) (o:Oper),l[k]?=some o->∃GO:Array Nat,GO.size=acc.size+k/\(pL l acc).getD (acc.size+k) 0=mask GO (jF o)/\
    ∀p,p<GO.size->GO.getD p 0=(pL l acc).getD p 0
  | [],_,_,_,h=>by simp at h
  | o::r,acc,0,o',h=>by
    have e:o=o':=(by simpa using h);subst e;refine⟨acc,rfl,?_,λp hp=>?_⟩
    · rw[pL,rZ r _ _ (by simp)]
      simp
    · rw[pL,rZ r _ _ (by simp;omega)]
      simp[Array.getElem?_push,show p≠acc.size by omega]
  | o::r,acc,k+1,o',h=>by
    obtain⟨GO,h1,h2,h3⟩:=GN r (acc.push (mask acc (jF o))) k o' (by simpa using h);refine⟨GO,by rw[h1];simp;omega,?_,λp hp=>by rw[pL];exact h3 p hp⟩;rw[pL];have e:(acc.push (mask acc (jF o))).size+k=acc.size+(k+1):=(by simp;omega);rw[e]at h2;exact h2
theorem EX{full:List Oper}(abf:∀ i o,full[i]?=some o->∀ p ∈ jF o,p<i){listed:Nat->Bool}
    (Gg:∀i o,full[i]?=some o->listed i=true->∀p∈jF o,listed p=true) :
    ∀(i:Nat) (o:Oper),full[i]?=some o->(∀p∈jF o,listed p=true)->∀j,((pL full #[]).getD i 0).testBit j=true->listed j=true:=by
  intro i
  induction i using Nat.strongRecOn with
  | _ i ih=>
    intro o ho hp j hj;obtain⟨GO,h1,h2,h3⟩:=GN full #[] i o ho;simp only[List.size_toArray,List.length_nil,Nat.zero_add]at h1 h2;rw[h2]at hj;obtain⟨p,hpm,hpj⟩:=GM GO _ _ hj
    rcases hpj with rfl|hpj
    · exact hp p hpm
    · have dh:=abf i o ho p hpm
      rw[h3 p (by rw[h1];exact dh)]at hpj
      have hlen:p<full.length:=by
        have:=(List.getElem?_eq_some_iff.1 ho).1;omega
      have hop:full[p]?=some full[p]:=List.getElem?_eq_getElem hlen;exact ih p dh _ hop (Gg p _ hop (hp p hpm)) j hpj
theorem A6{C:Ctx}{full:List Oper}{M:Array Nat}{x i:Nat×List Nat}(h:Dw C full M x i=true) :
    ∃ox oi,full[x.1]?=some ox/\full[i.1]?=some oi/\x.1≠i.1/\i.1 ∉ jF ox/\lC ox oi=false/\(dZ C ox.op=true->fS full oi ox=false)/\
      ((M.getD i.1 0).testBit x.1=true∨(IY C ox.op=true/\fS full ox oi=false/\fS full oi ox=false/\(IY C oi.op=true∨dZ C ox.op=false∨x.1∈i.2))):=by
  unfold Dw at h
  cases hx:full[x.1]? with
  | none=>rw[hx]at h;cases h
  | some ox=>
    cases hi:full[i.1]? with
    | none=>rw[hx,hi]at h;cases h
    | some oi=>
      rw[hx,hi]at h;simp only[Bool.and_eq_true,Bool.not_eq_true',Bool.or_eq_true]at h;obtain⟨⟨⟨⟨h1,h2⟩,h3⟩,h4⟩,h5⟩:=h;refine⟨ox,oi,rfl,rfl,λe=>?_,λhm=>?_,h3,λhr=>?_,?_⟩
      · rw[e,Nat.beq_refl]at h1;cases h1
      · rw[List.contains_iff_mem.2 hm]at h2;cases h2
      · rw[hr,Bool.true_and]at h4;exact h4
      · rcases h5 with h5|⟨⟨⟨h5,h6⟩,h7⟩,h8⟩
        · exact .inl h5
        · refine .inr ⟨h5,h6,h7,?_⟩
          rcases h8 with(h8|h8)|h8
          · exact .inl h8
          · exact .inr (.inl h8)
          · exact .inr (.inr (List.contains_iff_mem.1 h8))
theorem ze{C:Ctx}{full:List Oper}{M:Array Nat}{x y:Nat×List Nat}(h:Dw C full M x y=true):Yi C full x y:=by
  obtain⟨ox,oy,h1,h2,h3,h4,h5,h6,h7⟩:=A6 h;intro ox' oy' e1 e2 hr;rw[h1]at e1;rw[h2]at e2;have:=Option.some.inj e1;subst this;have:=Option.some.inj e2;subst this;exact⟨h6 hr,by rw[EW];exact h5⟩
def pull(i:Nat):Od->Od
  | .nil=>.nil
  | .op x st r=>if Nat.beq x i then r else .op x st (pull i r)
  | .alt x _ r o=>if Nat.beq x i then r else pull i o
def wg(i:Nat):Od->List Nat
  | .nil=>[]
  | .op x st r=>if Nat.beq x i then st else wg i r
  | .alt x st _ o=>if Nat.beq x i then st else wg i o
theorem tI(i:Nat):∀(T:Od),∀y∈GJ (pull i T),y∈GJ T
  | .nil,y,h=>h
  | .op x st r,y,h=>by
    unfold pull at h
    split at h
    · exact List.mem_cons_of_mem _ h
    · rcases List.mem_cons.1 h with h|h
      · exact List.mem_cons.2 (.inl h)
      · exact List.mem_cons_of_mem _ (tI i r y h)
  | .alt x st r o,y,h=>by
    unfold pull at h
    split at h
    · exact List.mem_cons_of_mem _ (List.mem_append.2 (.inl h))
    · exact List.mem_cons_of_mem _ (List.mem_append.2 (.inr (tI i o y h)))
theorem nE{R:List Nat}:j∈ny R x↔j∈R/\j≠x:=by
  simp only[ny,List.mem_filter,Bool.not_eq_true',and_congr_right_iff];intro _
  constructor
  · intro h e;subst e;rw[Nat.beq_refl]at h;cases h
  · intro h;cases e:Nat.beq j x with
    | false=>rfl
    | true=>exact absurd (Nat.eq_of_beq_eq_true e) h
theorem Jd(R:List Nat)(x i:Nat):ny (ny R x) i=ny (ny R i) x:=by
  simp only[ny,List.filter_filter];congr 1;funext k;exact Bool.and_comm _ _
theorem EY{R:List Nat}(h:x ∈ R):(ny R x).length<R.length:=by
  unfold ny;have h1:=List.length_filter_le (λj=>!Nat.beq j x) R
  rcases Nat.lt_or_ge (R.filter λj=>!Nat.beq j x).length R.length with h2|h2
  · exact h2
  · exfalso
    have:=List.length_filter_eq_length_iff.1 (Nat.le_antisymm h1 h2) x h;rw[Nat.beq_refl]at this;cases this
theorem beq_false(h:x≠i):Nat.beq x i=false:=by
  cases e:Nat.beq x i with
  | false=>rfl
  | true=>exact absurd (Nat.eq_of_beq_eq_true e) h
theorem wh(h:x≠i)(st:List Nat)(r:Od):pull i (.op x st r) = .op x st (pull i r):=by rw[pull,beq_false h];rfl
theorem wi(i:Nat)(st:List Nat)(r:Od):pull i (.op i st r)=r:=by rw[pull,Nat.beq_refl];rfl
theorem tJ(h:x≠i)(st:List Nat)(r o:Od):pull i (.alt x st r o)=pull i o:=by rw[pull,beq_false h];rfl
theorem zg(i:Nat)(st:List Nat)(r o:Od):pull i (.alt i st r o)=r:=by rw[pull,Nat.beq_refl];rfl
theorem A7(h:x≠i)(st:List Nat)(r:Od):wg i (.op x st r)=wg i r:=by rw[wg,beq_false h];rfl
theorem A8(i:Nat)(st:List Nat)(r:Od):wg i (.op i st r)=st:=by rw[wg,Nat.beq_refl];rfl
theorem zh(h:x≠i)(st:List Nat)(r o:Od):wg i (.alt x st r o)=wg i o:=by rw[wg,beq_false h];rfl
theorem zi(i:Nat)(st:List Nat)(r o:Od):wg i (.alt i st r o)=st:=by rw[wg,Nat.beq_refl];rfl
structure OkOp(C:Ctx)(full:List Oper)(M:Array Nat)(b:Bool)(x:Nat)(st:List Nat)(r:Od)(R:List Nat):Prop where
  mem:x∈R
  free:lD full x R=true
  rest:okB C full M false r (ny R x)=true
  pair:b=false->∀p∈GJ r,Dw C full M (x,st) p=true
  alt:b=true->uI C full x=true
theorem tK{C:Ctx}{full:List Oper}{M:Array Nat}{b:Bool}{st:List Nat}{r:Od}{R:List Nat}(h:okB C full M b (.op x st r) R=true):OkOp C full M b x st r R:=by
  simp only[okB,Bool.and_eq_true]at h;obtain⟨h1,h2,h3,h4⟩:=h;refine⟨List.contains_iff_mem.1 h1,h2,h4,λe=>?_,λe=>?_⟩
  · subst e;exact List.all_eq_true.1 h3
  · subst e;exact h3
structure abg(C:Ctx)(full:List Oper)(M:Array Nat)(b:Bool)(x:Nat)(r o:Od)(R:List Nat):Prop where
  mem:x∈R
  free:lD full x R=true
  quiet:uI C full x=true
  rest:okB C full M false r (ny R x)=true
  other:okB C full M true o R=true
  cover:b=false->∀y∈R,y∈tF (.alt x [] r o)∨∃e∈tF (.alt x [] r o),(M.getD y 0).testBit e=true
theorem mS{C:Ctx}{full:List Oper}{M:Array Nat}{b:Bool}{st:List Nat}{r o:Od}{R:List Nat}(h:okB C full M b (.alt x st r o) R=true):abg C full M b x r o R:=by
  simp only[okB,Bool.and_eq_true]at h;obtain⟨h1,h2,h3,h4,h5,h6⟩:=h;refine⟨List.contains_iff_mem.1 h1,h2,h3,h4,h5,λe y hy=>?_⟩;subst e;have:=List.all_eq_true.1 (by simpa only[Bool.false_or]using h6) y hy;simp only[Bool.or_eq_true]at this
  rcases this with((h|h)|h)|h
  · exact .inl (List.mem_cons.2 (.inl (Nat.eq_of_beq_eq_true h)))
  · exact .inl (List.mem_cons_of_mem _ (List.contains_iff_mem.1 h))
  · exact .inr ⟨x,List.mem_cons_self ..,h⟩
  · obtain⟨e,he,ht⟩:=List.any_eq_true.1 h
    exact .inr ⟨e,List.mem_cons_of_mem _ he,ht⟩
theorem Dx{C:Ctx}{full:List Oper}{M:Array Nat}:∀(T:Od) (b:Bool) (R:List Nat),okB C full M b T R=true->∀e∈tF T,e∈R
  | .nil,_,_,_,e,he=>absurd he (by simp[tF])
  | .op x st r,b,R,h,e,he=>by
    have:e=x:=(by simpa[tF]using he);rw[this];exact(tK h).mem
  | .alt x st r o,b,R,h,e,he=>by
    have:=mS h
    rcases List.mem_cons.1 he with he|he
    · rw[he];exact this.mem
    · exact Dx o true R this.other e he
structure Can(full:List Oper)(M:Array Nat)(i:Nat)(b:Bool)(T:Od)(R:List Nat):Prop where
  mem:i∈R
  up:∀k,(M.getD i 0).testBit k=true->k ∉ R
  alt:b=true->i∈tF T
theorem Can.rest{full:List Oper}{M:Array Nat}{st:List Nat}{r:Od}{R:List Nat}(c:Can full M i false (.op x st r) R)(h:x≠i):Can full M i false r (ny R x):=
  ⟨nE.2 ⟨c.mem,λe=>h e.symm⟩,λk hk hm=>c.up k hk (nE.1 hm).1,λe=>by cases e⟩
theorem Can.other{C:Ctx}{full:List Oper}{M:Array Nat}{b:Bool}{st:List Nat}{r o:Od}{R:List Nat}(c:Can full M i b (.alt x st r o) R)(hk:okB C full M b (.alt x st r o) R=true)(h:x≠i):Can full M i true o R:=by
  refine⟨c.mem,c.up,λ_=>?_⟩
  have hh:i∈tF (.alt x st r o):=by
    cases b with
    | true=>exact c.alt rfl
    | false=>
      rcases(mS hk).cover rfl i c.mem with h|⟨e,he,ht⟩
      · exact h
      · exact absurd (Dx _ _ _ hk e he) (c.up e ht)
  rcases List.mem_cons.1 hh with hh|hh
  · exact absurd hh.symm h
  · exact hh
theorem Can.eq{full:List Oper}{M:Array Nat}{st:List Nat}{r:Od}{R:List Nat}(c:Can full M i true (.op x st r) R):x=i:=by
  have:=c.alt rfl;simp only[tF,List.mem_singleton]at this;exact this.symm
theorem xk{C:Ctx}{full:List Oper}{M:Array Nat}{i:Nat}:∀(T:Od) (b:Bool) (R:List Nat),okB C full M b T R=true->Can full M i b T R->(i,wg i T)∈GJ T
  | .nil,b,R,h,c=>by
    simp only[okB,List.isEmpty_iff]at h;have:=c.mem;rw[h]at this;exact absurd this (by simp)
  | .op x st r,b,R,h,c=>by
    by_cases e:x=i
    · subst e;rw[A8];exact List.mem_cons_self ..
    · cases b with
      | true=>exact absurd c.eq e
      | false=>rw[A7 e];exact List.mem_cons_of_mem _ (xk r false _ (tK h).rest (c.rest e))
  | .alt x st r o,b,R,h,c=>by
    by_cases e:x=i
    · subst e;rw[zi];exact List.mem_cons_self ..
    · rw[zh e];exact List.mem_cons_of_mem _ (List.mem_append.2 (.inr (xk o true R (mS h).other (c.other h e))))
theorem A9{full:List Oper}{R:List Nat}(h:lD full x R=true):lD full x (ny R i)=true:=by
  unfold lD at h ⊢
  cases ho:full[x]? with
  | none=>rw[ho]at h;cases h
  | some o=>
    rw[ho]at h;refine List.all_eq_true.2 λp hp=>?_;have:=List.all_eq_true.1 h p hp;rw[Bool.not_eq_true']at this ⊢
    cases hc:(ny R i).contains p with
    | false=>rfl
    | true=>rw[List.contains_iff_mem.2 (nE.1 (List.contains_iff_mem.1 hc)).1]at this;cases this
theorem EZ{C:Ctx}{full:List Oper}{M:Array Nat}{i:Nat}:∀(T:Od) (b:Bool) (R:List Nat),okB C full M b T R=true->Can full M i b T R->okB C full M false (pull i T) (ny R i)=true
  | .nil,b,R,h,c=>by
    simp only[okB,List.isEmpty_iff]at h;have:=c.mem;rw[h]at this;exact absurd this (by simp)
  | .op x st r,b,R,h,c=>by
    have k:=tK h
    by_cases e:x=i
    · subst e;rw[wi];exact k.rest
    · cases b with
      | true=>exact absurd c.eq e
      | false=>
        rw[wh e];simp only[okB,Bool.and_eq_true];refine⟨List.contains_iff_mem.2 (nE.2 ⟨k.mem,e⟩),A9 k.free,?_,?_⟩
        · exact List.all_eq_true.2 λp hp=>k.pair rfl p (tI i r p hp)
        · rw[Jd];exact EZ r false _ k.rest (c.rest e)
  | .alt x st r o,b,R,h,c=>by
    by_cases e:x=i
    · subst e;rw[zg];exact(mS h).rest
    · rw[tJ e];exact EZ o true R (mS h).other (c.other h e)
theorem Dy{C:Ctx}{full:List Oper}{M:Array Nat}{x i:Nat×List Nat}(h:Dw C full M x i=true)(Yk:(M.getD i.1 0).testBit x.1=false):abc C full x i:=by
  obtain⟨ox,oi,g1,g2,g3,g4,g5,g6,g7⟩:=A6 h
  rcases g7 with g7|⟨k1,k2,k3,k4⟩
  · rw[Yk]at g7;cases g7
  · refine⟨λo1 e1=>?_,λo1 o2 e1 e2=>?_,λo1 o2 e1 e2 hnq hr=>?_⟩
    · rw[g1]at e1;have:=Option.some.inj e1;subst this;exact k1
    · rw[g1]at e1;rw[g2]at e2;have:=Option.some.inj e1;subst this;have:=Option.some.inj e2;subst this;exact⟨k2,k3,g5⟩
    · rw[g1]at e1;rw[g2]at e2;have:=Option.some.inj e1;subst this;have:=Option.some.inj e2;subst this
      rcases k4 with k4|k4|k4
      · rw[hnq]at k4;cases k4
      · rw[hr]at k4;cases k4
      · exact k4
theorem Can.no{full:List Oper}{M:Array Nat}{b:Bool}{T:Od}{R:List Nat}(c:Can full M i b T R)(h:x ∈ R):(M.getD i 0).testBit x=false:=by
  cases e:(M.getD i 0).testBit x with
  | false=>rfl
  | true=>exact absurd h (c.up x e)
theorem tL{C:Ctx}{full:List Oper}{M:Array Nat}{i:Nat}{o:Oper}(ho:full[i]?=some o)(hr:dZ C o.op=true):∀(T:Od) (b:Bool) (R:List Nat),okB C full M b T R=true->Can full M i b T R->
    ∀y∈GJ (pull i T),∀oy,full[y.1]?=some oy->fS full oy o=false/\lC oy o=false
  | .nil,b,R,h,c,y,hy,oy,Ph=>absurd hy (by simp[pull,GJ])
  | .op x st r,b,R,h,c,y,hy,oy,Ph=>by
    have k:=tK h
    by_cases e:x=i
    · subst e
      rw[wi]at hy
      cases b with
      | true=>
        have:=k.alt rfl;unfold uI at this;rw[ho]at this;simp[hr]at this
      | false=>exact ze (k.pair rfl y hy) o oy ho Ph hr
    · cases b with
      | true=>exact absurd c.eq e
      | false=>
        rw[wh e]at hy
        rcases List.mem_cons.1 hy with hy|hy
        · subst hy
          have hm:=xk r false _ k.rest (c.rest e);have sw:=Dy (k.pair rfl _ hm) (c.no k.mem);obtain⟨k1,_,k3⟩:=sw.a oy o Ph ho;exact⟨k1,k3⟩
        · exact tL ho hr r false _ k.rest (c.rest e) y hy oy Ph
  | .alt x st r o',b,R,h,c,y,hy,oy,Ph=>by
    by_cases e:x=i
    · subst e
      have:=(mS h).quiet;unfold uI at this;rw[ho]at this;simp[hr]at this
    · rw[tJ e]at hy
      exact tL ho hr o' true R (mS h).other (c.other h e) y hy oy Ph
theorem A5.sub{C:Ctx}{full:List Oper}{D:Nat->Bool}{L L':List (Nat×List Nat)}(h:A5 C full D L)(hs:∀ y ∈ L',y ∈ L):A5 C full D L':=
  λj oj hD uH hr x hx ox CK=>h j oj hD uH hr x (hs x hx) ox CK
theorem wj{C:Ctx}{full:List Oper}{n:Nat}{M:Array Nat}(qk:∀ o ∈ full,rp n o=true)(EV:∀ o ∈ full,A4 o=true)(GL:∀ o ∈ full,dZ C o.op=true->fS full o o=false/\o.dst.isNone=false)(i:Nat)(N:Act->World->Prop) :
    ∀(T:Od) (b:Bool) (R:List Nat) (D:Nat->Bool) (a:Act) (w:World),okB C full M b T R=true->Can full M i b T R->(∀x∈GJ T,∀j∈x.2,∀oj,full[j]?=some oj->dZ C oj.op=true)->
      a.tmps.size=n->A5 C full D (GJ T)->SW C full T D N a w->sR C full i (wg i T) D (λa w=>SW C full (pull i T) (lQ D i) N a w) a w
  | .nil,b,R,D,a,w,h,c,_,_,_,_=>by
    simp only[okB,List.isEmpty_iff]at h;have:=c.mem;rw[h]at this;exact absurd this (by simp)
  | .op x st r,b,R,D,a,w,h,c,pH,iH,Ov,hs=>by
    have k:=tK h
    by_cases e:x=i
    · subst e;rw[wi,A8];exact hs
    · cases b with
      | true=>exact absurd c.eq e
      | false=>
        rw[wh e,A7 e];have hm:=xk r false _ k.rest (c.rest e);have sw:=Dy (k.pair rfl _ hm) (c.no k.mem);refine Jc qk EV GL i (wg i r) (pH _ (List.mem_cons_of_mem _ hm)) (x:=(x,st)) sw (Ov.sub λy hy=>by rw[List.mem_singleton.1 hy];exact List.mem_cons_self ..)
          (A:=λa w=>SW C full r (lQ D x) N a w) (B:=λD a w=>SW C full (pull i r) D N a w) iH (λv hv=>?_) hs
        obtain⟨ox,CK,hv⟩:=hv;refine⟨ox,CK,?_⟩;refine wj qk EV GL i N r false _ (lQ D x) _ w k.rest (c.rest e) (λy hy=>pH y (List.mem_cons_of_mem _ hy)) (by rw[size_put];exact iH) ?_ hv;intro j oj hD uH hr y hy oy Ph;simp only[lQ,Bool.or_eq_true]at hD
        rcases hD with hD|hD
        · have e:=Nat.eq_of_beq_eq_true hD
          subst e;exact ze (k.pair rfl y hy) oj oy uH Ph hr
        · exact Ov j oj hD uH hr y (List.mem_cons_of_mem _ hy) oy Ph
  | .alt x st r o,b,R,D,a,w,h,c,pH,iH,Ov,hs=>by
    by_cases e:x=i
    · subst e;rw[zg,zi];exact hs.1
    · rw[tJ e,zh e]
      exact wj qk EV GL i N o true R D a w (mS h).other (c.other h e) (λy hy=>pH y (List.mem_cons_of_mem _ (List.mem_append.2 (.inr hy)))) iH
        (Ov.sub λy hy=>List.mem_cons_of_mem _ (List.mem_append.2 (.inr hy))) hs.2
structure abh(C:Ctx)(full:List Oper)(L:Od):Prop where
  sel:∀o∈full,A4 o=true
  back:∀i o,full[i]?=some o->∀p∈jF o,p<i
  self:∀o∈full,dZ C o.op=true->fS full o o=false/\o.dst.isNone=false
  st:∀x∈GJ L,∀j∈x.2,∀oj,full[j]?=some oj->dZ C oj.op=true
  ok:okB C full (pL full #[]) false L (List.range full.length)=true
theorem Je{C:Ctx}{full:List Oper}{L:Od}(h:KR C full L=true):abh C full L:=by
  simp only[KR,Bool.and_eq_true]at h;obtain⟨h1,h2,h3,h5,h6⟩:=h;refine⟨List.all_eq_true.1 h1,?_,?_,?_,h6⟩
  · intro i o ho p hp
    have hm:(o,i)∈full.zipIdx:=by
      rw[List.mem_iff_getElem?];exact⟨i,by simp[List.getElem?_zipIdx,ho]⟩
    have:=List.all_eq_true.1 (List.all_eq_true.1 h2 _ hm) p hp;exact Nat.le_of_ble_eq_true this
  · intro o ho hr
    have:=List.all_eq_true.1 h3 o ho;rw[hr]at this;simpa using this
  · intro x hx j hj oj uH
    have:=List.all_eq_true.1 h5 x hx;simp only[Bool.and_eq_true]at this;have:=List.all_eq_true.1 this.2 j hj;rw[uH]at this;exact this
theorem Yl{C:Ctx}{ro:Option Nat}{full:List Oper}(Yd:∀ o ∈ full,gK o.op=false)(qk:∀ o ∈ full,rp n o=true){L0:Od}(hp:abh C full L0){Q:Exit->Act->World->Prop}{N:Act->World->Prop}(hN:∀ a w,N a w->Q .normal a w) :
    ∀(fuel:Nat) (listed:Array Bool) (T:Od) (R:List Nat) (D:Nat->Bool) (a:Act) (w:World),listed.size=full.length->okB C full (pL full #[]) false T R=true->(∀y∈GJ T,y∈GJ L0)->
      (∀i,i<full.length->(listed.getD i true=false↔i∈R))->(∀i∈R,i<full.length)->(∀i o,full[i]?=some o->listed.getD i false=true->∀p∈jF o,listed.getD p false=true)->
      A5 C full D (GJ T)->a.tmps.size=n->R.length<=fuel->SW C full T D N a w->wpAnyIn (FW ro) 0 C.P .any full.toArray Q fuel listed a w:=by
  have pm:∀(o:Oper) (e:Edge),e∈o.after->Region.binds .any e=true->e.on∈jF o:=λo e he hb=>
    List.mem_map.2 ⟨e,List.mem_filter.2 ⟨by simpa using he,hb⟩,rfl⟩
  have mp:∀(o:Oper) (p:Nat),p∈jF o->∃e∈o.after,Region.binds .any e=true/\e.on=p:=λo p h=>by
    obtain⟨e,he,rfl⟩:=List.mem_map.1 h;obtain⟨h1,h2⟩:=List.mem_filter.1 he;exact⟨e,by simpa using h1,h2,rfl⟩
  have flip:∀(listed:Array Bool) (i:Nat),listed.size=full.length->i<full.length->listed.getD i true=listed.getD i false:=by
    intro listed i hs hi;have dh:i<listed.size:=(by omega);rw[Array.getD_eq_getD_getElem?,Array.getD_eq_getD_getElem?,Array.getElem?_eq_getElem dh];rfl
  -- where nothing is ready, nothing is left
  have Mw:∀(listed:Array Bool) (T:Od) (R:List Nat),listed.size=full.length->okB C full (pL full #[]) false T R=true->(∀i,i<full.length->(listed.getD i true=false↔i∈R))->(∀i∈R,i<full.length)->
      Region.ready .any full.toArray listed=[]->T = .nil:=by
    intro listed T R hs qO zM Jf hr
    have go:∀x,x∈R->lD full x R=true->False:=by
      intro x hxm KS;have dh:=Jf x hxm;have CK:full[x]?=some full[x]:=List.getElem?_eq_getElem dh
      have vj:x∈Region.ready .any full.toArray listed:=by
        refine mem_ready.2 ⟨(zM x dh).2 hxm,full[x],by simp,λe he hb=>?_⟩;have hpm:=pm _ e he hb;have hplt:=hp.back _ _ CK _ hpm
        cases hl:listed.getD e.on false with
        | true=>rfl
        | false=>
          exfalso;rw[<-flip listed e.on hs (by omega)]at hl;have xm:=(zM e.on (by omega)).1 hl;unfold lD at KS;rw[CK]at KS;have:=List.all_eq_true.1 KS e.on hpm;rw[List.contains_iff_mem.2 xm]at this;cases this
      rw[hr]at vj;exact absurd vj (by simp)
    cases T with
    | nil=>rfl
    | op x st r=>exact(go x (tK qO).mem (tK qO).free).elim
    | alt x st r o=>exact(go x (mS qO).mem (mS qO).free).elim
  intro fuel
  induction fuel with
  | zero=>
    intro listed T R D a w hs qO Ym zM Jf Gg Ov iH hlen h;have hL:R=[]:=List.eq_nil_of_length_eq_zero (by omega);subst hL
    have hT:T = .nil:=by
      cases T with
      | nil=>rfl
      | op x st r=>exact absurd (tK qO).mem (by simp)
      | alt x st r o=>exact absurd (mS qO).mem (by simp)
    subst hT;refine⟨?_,hN _ _ h⟩
    cases hr:Region.ready .any full.toArray listed with
    | nil=>rfl
    | cons j r=>
      exfalso;have hj:j∈Region.ready .any full.toArray listed:=(by rw[hr];simp);obtain⟨h1,o,h2,_⟩:=mem_ready.1 hj
      have dh:j<full.length:=by
        have:=(Array.getElem?_eq_some_iff.1 h2).1;simpa using this
      exact absurd ((zM j dh).1 h1) (by simp)
  | succ fuel ih=>
    intro listed T R D a w hs qO Ym zM Jf Gg Ov iH hlen h;refine⟨λhr=>?_,λi hi=>?_⟩
    · have:=Mw listed T R hs qO zM Jf hr
      subst this;exact hN _ _ h
    · obtain⟨h1,o,h2,h3⟩:=mem_ready.1 hi
      have ho:full[i]?=some o:=(by simpa using h2);have dh:i<full.length:=(List.getElem?_eq_some_iff.1 ho).1;have hiR:=(zM i dh).1 h1
      have Pj:∀p∈jF o,listed.getD p false=true:=λp kA=>by
        obtain⟨e,he,hb,rfl⟩:=mp o p kA;exact h3 e he hb
      have Yn:=EX hp.back (listed:=λk=>listed.getD k false) Gg i o ho Pj
      have can:Can full (pL full #[]) i false T R:=by
        refine⟨hiR,λk hk hm=>?_,λe=>by cases e⟩;have h4:=Yn k hk;have h4:listed.getD k false=true:=h4;rw[<-flip listed k hs (Jf k hm),(zM k (Jf k hm)).2 hm]at h4
        cases h4
      obtain⟨o',CH,hf⟩:=wj qk hp.sel hp.self i N T false R D a w qO can (λx hx=>hp.st x (Ym x hx)) iH Ov h;rw[ho]at CH;have:=Option.some.inj CH;subst this
      have next:∀(v:Value) (w':World),SW C full (pull i T) (lQ D i) N (a.put o.dst v) w'->wpAnyIn (FW ro) 0 C.P .any full.toArray Q fuel (listed.setIfInBounds i true) (a.put o.dst v) w':=by
        intro v w' hsw;refine ih _ _ (ny R i) _ _ _ (by simpa using hs) (EZ T false R qO can) (λy hy=>Ym y (tI i T y hy)) ?_ (λj hj=>Jf j (nE.1 hj).1) ?_ ?_ (by rw[size_put];exact iH) (by have:=EY hiR;omega) hsw
        · intro j hj
          by_cases e:i=j
          · subst e
            constructor
            · intro hh
              have:(listed.setIfInBounds i true).getD i true=true:=by
                rw[Array.getD_eq_getD_getElem?];simp[show i<listed.size by omega]
              rw[this]at hh;cases hh
            · intro hh;exact absurd rfl (nE.1 hh).2
          · rw[getD_set_ne true e,zM j hj,nE]
            exact⟨λhh=>⟨hh,λe'=>e e'.symm⟩,λhh=>hh.1⟩
        · intro j oj uH hl p kA
          by_cases e:i=j
          · subst e
            rw[ho]at uH;have:=Option.some.inj uH;subst this;exact getD_set_true (Pj p kA)
          · rw[getD_set_ne false e]at hl
            exact getD_set_true (Gg j oj uH hl p kA)
        · intro j oj hD uH hr x Mq ox CK
          simp only[lQ,Bool.or_eq_true]at hD
          rcases hD with hD|hD
          · have e:=Nat.eq_of_beq_eq_true hD
            subst e;exact tL uH hr T false R qO can x Mq ox CK
          · exact Ov j oj hD uH hr x (tI i T x Mq) ox CK
      have hd:ro=none∨gK o.op=false:=.inr (Yd o (List.mem_of_getElem? ho));unfold wpOpIn;simp only[h2]
      split
      · rename_i hw
        have Df:oL full a o=true:=hw;rw[Df,if_pos rfl]at hf
        cases hq:IY C o.op with
        | true=>
          rw[hq,if_pos rfl]at hf;obtain⟨v,r1,_,r3⟩:=hf;exact oZ hd (k:=λu w'=>u=v/\w'=w) (.inl ⟨v,w,r1,rfl,rfl⟩) λu w' ⟨e1,e2⟩=>by subst e1;subst e2;exact next _ _ r3
        | false=>
          rw[hq,if_neg (by simp)]at hf;exact oZ hd hf λu w' ⟨_,hk⟩=>next _ _ hk
      · rename_i hw
        have Df:oL full a o=false:=(by simpa[oL]using hw);rw[Df,if_neg (by simp)]at hf;exact⟨λ_ _=>trivial,next _ _ hf⟩
theorem qp{C:Ctx}{full:List Oper}{n:Nat}{a:Act}{f:Fr}(hA:rX n a f){h:ab}{K:Prop}:∀{js:List Nat},yj C full f h js K->
    (∀j∈js,∀oj,full[j]?=some oj->oL full a oj=true->EG C f h oj)/\K
  | [],hk=>⟨λj hj=>absurd hj (by simp),hk⟩
  | j::r,hk=>by
    obtain⟨o,ho,h1⟩:=aV (show ae (full[j]?) _ from hk);have h2:=rY hA h1
    cases hw:oL full a o with
    | true=>
      rw[show Region.wanted o (yielded full.toArray a.tmps)=true from hw]at h2;obtain⟨h3,h4⟩:=h2;obtain⟨i1,i2⟩:=qp hA h4;refine⟨λk hk oj uH Yo=>?_,i2⟩
      rcases List.mem_cons.1 hk with rfl|hk
      · rw[ho]at uH;have:=Option.some.inj uH;subst this;exact h3
      · exact i1 k hk oj uH Yo
    | false=>
      rw[show Region.wanted o (yielded full.toArray a.tmps)=false from hw]at h2;obtain⟨i1,i2⟩:=qp hA (show yj C full f h r K from h2);refine⟨λk hk oj uH Yo=>?_,i2⟩
      rcases List.mem_cons.1 hk with rfl|hk
      · rw[ho]at uH;have:=Option.some.inj uH;subst this;rw[hw]at Yo;cases Yo
      · exact i1 k hk oj uH Yo
theorem E0(s:ByteArray):mkStr s.toList=s:=by
  rw[ByteArray.toList_eq];rfl
theorem Mx{C:Ctx}(hC:jQ C){n:Nat}{a:Act}{f:Fr}(hA:rX n a f){o:Oper}{w:World}(h:EG C f w.heap o):mR C.P a o w (EU a o):=by
  unfold EG at h
  cases hd:o.dst with
  | none=>rw[hd]at h;exact h.elim
  | some d=>
    rw[hd]at h;obtain⟨v,hv,h1⟩:=aV h;have hdv:EU a o=v:=(by unfold EU;rw[hd];exact hA.val d v hv);rw[hdv];unfold mR
    cases ho:o.op with
    | load t x=>
      rw[ho]at h1;obtain⟨p,hp,h2⟩:=pJ hA.fit h1;obtain⟨hx,h3⟩:=hC.qi h2;obtain⟨i,ds,z,hi,hu,vT,iH,_,_,_⟩:=hx.get;have sQ:=mN hu w;have he:execOp a.eval o=(do Pure.pure (.value (<-Instr.loadAt t (a.eval x)))):=(by simp only[execOp,ho]);rw[he,hp]
      have key:(loadVar t p).run C.P w = .ok v w:=by
        unfold loadVar
        cases hq:ir (aq ds)with
        | true=>
          rw[hq]at sQ;have hty:(C.ti t).d.ty = .agg:=(by rw[<-vT];revert hq;cases aq ds <;> simp[ir,D.ty]);rw[hty]at h3;obtain⟨cs,rfl,hl,hc⟩:=vY h3;have VK:=run_loadCells_list (P:=C.P) w p cs (λj v hv=>hc j v hv);simp only[Sem.run_bind,sQ,Result.andThen_ok,if_true,bI hi,iH,<-hl,VK,Sem.run_pure]
        | false=>
          rw[hq]at sQ;have hty:(C.ti t).d.ty≠.agg:=by rw[<-vT];revert hq;cases aq ds <;> simp[ir,D.ty]
          have h4:cellOf w.heap p=some v:=by
            cases hq2:(C.ti t).d.ty <;> rw[hq2]at h3 hty <;> first|exact h3|exact(hty rfl).elim
          simp[Sem.run_bind,sQ,nZ,h4]
      simp only[Instr.loadAt,Instr.sureAddr,Sem.run_bind,Sem.run_pure,Result.andThen_ok,key]
    | convert s t x=>
      rw[ho]at h1;simp only at h1;have hs:(C.ti s).d≠.other:=(by intro e;rw[e]at h1;exact h1.elim);have ht:(C.ti t).d≠.other:=(by intro e;rw[e]at h1;split at h1 <;> first|exact h1.elim|simp at *);obtain⟨_,dss,_,_,O9,hds,_⟩:=(hC.Mi hs).get;obtain⟨_,dt,_,_,Mr,AN,_⟩:=(hC.Mi ht).get;rw[<-hds,<-AN]at h1
      cases dss <;> cases dt <;> try exact h1.elim
      rename_i e;simp only[aq]at h1
      cases hb:vi (C.ti e).d with
      | false=>rw[hb]at h1;exact h1.elim
      | true=>
        rw[hb]at h1;obtain⟨al,l,c,hx,h2⟩:=jY (bm hA.fit (show lW f x _ from h1));obtain⟨b,hvb,pH⟩:=rW h2;have he:(C.ti e).d≠.other:=(by intro e';rw[e']at hb;simp[vi]at hb);obtain⟨_,de,_,_,X',Ya,_⟩:=(hC.Mi he).get;rw[<-Ya]at hb
        have Yb:C.P.underlying e=some (.int .u8):=by
          cases de <;> simp[aq,vi]at hb
          rename_i kd
          cases kd <;> simp at hb
          exact X'
        have hr:(convert s t (.slice al l c)).run C.P w = .ok v w:=by
          rw[run_convert_bytes_string w s t e al l c O9 Yb Mr,za pH,E0,hvb]
        have Cv:execOp a.eval o=(do Pure.pure (.value (<-convert s t (a.eval x)))):=(by simp only[execOp,ho]);rw[Cv,hx,Sem.run_bind,hr];rfl
    | _=>rw[ho]at h1;exact h1.elim
theorem Dz{C:Ctx}(hC:jQ C){full:List Oper}{n:Nat}(qk:∀ o ∈ full,rp n o=true){w0:World}{a0:Act}{i:Nat}{st:List Nat}{D:Nat->Bool}{K:Fr->ab->Prop}{A:Act->World->Prop}{f:Fr}{a:Act}{w:World}
    (h:doX C full i st K f w.heap) (hA:rX n a f) (hR:aP w0 w) (hM:iz (dstsOf full) a0 a)
    (hK:∀f a w,K f w.heap->rX n a f->aP w0 w->iz (dstsOf full) a0 a->A a w):sR C full i st D A a w:=by
    obtain⟨o,ho,h1⟩:=aV (show ae (full[i]?) _ from h);have vj:=List.mem_of_getElem? ho;have hd:=qk o vj;have Ot:∀d,o.dst=some d->d∈dstsOf full:=λd hd=>wa vj hd;have h2:=rY hA h1;refine⟨o,ho,?_⟩
    cases hw:oL full a o with
    | false=>
      rw[show Region.wanted o (yielded full.toArray a.tmps)=false from hw]at h2;rw[if_neg (by simp)];exact hK _ _ _ h2 (hA.put hd undef) hR (hM.put Ot undef)
    | true=>
      rw[show Region.wanted o (yielded full.toArray a.tmps)=true from hw]at h2;rw[if_pos rfl];have h2:vA C f o.op o.type (λv h'=>yj C full f h' st (tq (guards full o) v λv=>K (sZ f o.dst v) h')) w.heap:=h2
      cases hq:IY C o.op with
      | true=>
        rw[if_pos rfl];obtain⟨v,r1,r2,r3⟩:=GD hC hA.fit o hq h2;exact⟨v,r1,r3,hK _ _ _ (qo (qp hA r2).2) (hA.put hd v) hR (hM.put Ot v)⟩
      | false=>
        rw[if_neg (by simp)];refine(A0 hC hA.fit o h2).mono λv w' ⟨hr,hk⟩=>?_;obtain⟨k1,k2⟩:=qp hA hk;exact⟨λj hj _ oj uH Yo=>Mx hC hA (k1 j hj oj uH Yo),hK _ _ _ (qo k2) (hA.put hd v) (hR.trans hr) (hM.put Ot v)⟩
theorem xn{C:Ctx}(hC:jQ C){full:List Oper}{n:Nat}(qk:∀ o ∈ full,rp n o=true){w0:World}{a0:Act}{N:Fr->ab->Prop} :
    ∀(L:Od) (D:Nat->Bool) (f:Fr) (a:Act) (w:World),yk C full L N f w.heap->rX n a f->aP w0 w->iz (dstsOf full) a0 a->
      SW C full L D (λa w=>∃f,N f w.heap/\rX n a f/\aP w0 w/\iz (dstsOf full) a0 a) a w
  | .nil,D,f,a,w,h,hA,hR,hM=>⟨f,h,hA,hR,hM⟩
  | .op i st r,D,f,a,w,h,hA,hR,hM=>Dz hC qk h hA hR hM λf a w h hA hR hM=>xn hC qk r _ f a w h hA hR hM
  | .alt i st r o,D,f,a,w,h,hA,hR,hM=>⟨Dz hC qk h.1 hA hR hM λf a w h hA hR hM=>xn hC qk r _ f a w h hA hR hM,xn hC qk o D f a w h.2 hA hR hM⟩
theorem Pk{C:Ctx}(hC:jQ C)(n:Nat):GF C n λid full=>KR C full (C.qE id):=by
  intro ro id ops N R f a w0 w abj qk Yd h hA hR hN;have hp:=Je abj;refine wpIn_region_any hC.mixed ?_;have hw:aP w0 { w with drawn:=w.drawn+1 }:=⟨hR.1,hR.2.1,hR.2.2⟩;have hsw:=xn hC (full:=ops.toList) qk (w0:=w0) (a0:=a) (N:=N) (C.qE id) (λ_=>false) f a { w with drawn:=w.drawn+1 } h hA hw (.refl _ _);have hlen:(Array.replicate ops.size false).size=ops.toList.length:=by simp
  have:=Yl (ro:=ro) (n:=n) Yd qk hp (Q:=R) (λa w ⟨f,h1,h2,h3,h4⟩=>hN f a w h1 h2 h3 h4) ops.size (Array.replicate ops.size false) (C.qE id) (List.range ops.toList.length) (λ_=>false) a { w with drawn:=w.drawn+1 } hlen hp.ok (λ_ h=>h)
    (λi hi=>by
      have oK:i<ops.size:=by simpa using hi
      constructor
      · exact λ_=>List.mem_range.2 hi
      · exact λ_=>by rw[Array.getD_eq_getD_getElem?];simp[oK])
    (λi hi=>List.mem_range.1 hi)
    (λi o ho hl=>by
      exfalso;rw[Array.getD_eq_getD_getElem?]at hl
      by_cases hi:i<ops.size <;> simp[hi]at hl)
    (λj oj hD=>by cases hD) hA.size ?_ hsw
  · simpa using this
  · simp
theorem DA : ∀(l:LV) (i:Nat),i+l.length<=gN->sY (y9 l i)=[]
  | [],_,_=>rfl
  | x::r,i,h=>by
    rw[List.length_cons]at h;rw[y9,rj _ _ _ (Nat.ne_of_lt (Nat.lt_of_lt_of_le (by omega) h)),DA r (i+1) (by omega)]
theorem DB : ∀(l:LV) (i t:Nat) (v:Value),i+l.length<=gN->Fr.get (y9 l i) t=some v->i<=t/\l[t-i]?=some v
  | [],_,t,_,_,h=>by rw[show y9 [] _=[] from rfl,Fr.get_nil]at h;cases h
  | x::r,i,t,v,SE,h=>by
    rw[List.length_cons]at SE;rw[y9,Fr.pK _ _ _ _ (Nat.ne_of_lt (Nat.lt_of_lt_of_le (by omega) SE))]at h
    by_cases e:i=t
    · subst e;rw[if_pos rfl]at h;exact⟨Nat.le_refl _,by simpa using h⟩
    · rw[if_neg e]at h
      obtain⟨h1,h2⟩:=DB r (i+1) t v (by omega) h;refine⟨by omega,?_⟩;rw[show t-i=(t-(i+1))+1 by omega];simpa using h2
def E1(a:Act):ResultVar->Sem Value
  | .tmp t=>Pure.pure (a.tmps.getD t undef)
  | .cell s t=>do loadVar t (<-asAddr (a.tmps.getD s undef))
theorem E2{C:Ctx}(hC:jQ C){n:Nat}{a:Act}{f:Fr}(hA:rX n a f){w:World}:∀(rs:List ResultVar) (acc:LV) (k:LV->Prop),Mh C rs f w.heap acc k->
    ∃vs,(rs.mapM (E1 a)).run C.P w = .ok vs w/\k (acc++vs)
  | [],acc,k,h=>⟨[],rfl,by simpa[Mh]using h⟩
  | .tmp t::r,acc,k,h=>by
    obtain⟨v,hv,h1⟩:=aV (show ae (Fr.get f t) _ from h);obtain⟨vs,h2,h3⟩:=E2 hC hA r _ k h1;refine⟨v::vs,?_,by simpa using h3⟩;rw[List.mapM_cons];simp only[E1,Sem.run_bind,Sem.run_pure,Result.andThen_ok,hA.val t v hv,h2]
  | .cell s t::r,acc,k,h=>by
    obtain⟨v,hv,h1⟩:=aV (show ae (Fr.get f s) _ from h);obtain⟨q,hq,h2⟩:=vX h1;obtain⟨p,hp,h3⟩:=aV h2;obtain⟨hx,h4⟩:=hC.qi h3;obtain⟨u,hr,h5⟩:=AL hx h4;obtain⟨vs,h6,h7⟩:=E2 hC hA r _ k h5;refine⟨u::vs,?_,by simpa using h7⟩;have tE:=hA.val s v hv;rw[List.mapM_cons];simp only[E1,Sem.run_bind,Sem.run_pure,Result.andThen_ok,tE,hq,hp,asAddr,hr,h6]
def SF(C:Ctx)(fn:Func)(c:Code)(abk:Nat):Bool:=
  codeOk C fn.ntmps (fun id full => KR C full (C.qE id)) c && Nat.ble abk fn.ntmps && !(fn.name == "runtime.NumGoroutine") && Nat.ble fn.ntmps gN
theorem Pm{args:LV}(hle:args.length<=m)(SE:m<=gN):rX m { tmps:=⟨args⟩++Array.replicate (m-(⟨args⟩:Array Value).size) undef,defers:=[] } (y9 args 0):=by
  refine⟨SE,by simp;omega,by rw[DA _ _ (by omega)];rfl,λt v hv=>?_⟩;obtain⟨_,h5⟩:=DB args 0 t v (by omega) hv;simp only[Nat.sub_zero]at h5;have dh:=(List.getElem?_eq_some_iff.1 h5).1;rw[Array.getD_eq_getD_getElem?,Array.getElem?_append_left (by simpa using dh)];simp[h5]
theorem Jg{C:Ctx}(hC:jQ C){n:Nat}{fn:Func}{a:Act}{f:Fr}(hA:rX n a f){w:World}{k:Value->Prop}(h:Mh C fn.results.toList f w.heap [] λvs=>k (XY vs)):∃v,(results fn a.tmps).run C.P w = .ok v w/\k v:=by
  obtain⟨vs,g1,g2⟩:=E2 hC hA _ _ _ h;refine⟨XY vs,?_,by simpa using g2⟩
  have Yp:results fn a.tmps=(do let vs<-fn.results.mapM (E1 a);Pure.pure (if h:vs.size=1 then vs[0]else .tuple vs)):=by
    unfold results;congr 2
  rw[Yp,Sem.run_bind,Array.mapM_eq_mapM_toList,Sem.run_map,g1];simp only[Result.andThen_ok,Sem.run_pure];congr 1
  cases vs with
  | nil=>rfl
  | cons v r=>cases r <;> rfl
theorem yu{C:Ctx}(hC:jQ C){n:Nat}{fn:Func}{a:Act}{f:Fr}(hA:rX n a f){w0:World}{k:KT}:∀(ds:LV) (w:World),vS C fn.results.toList f k ds w.heap->aP w0 w->
    LeavesInM Fence.wide 0 C.P fn a.tmps (λe w'=>∃u,e = .returned u/\aP w0 w'/\k u w'.heap) (ds.map toD) .returning w
  | [],w,h,hR=>by
    obtain⟨v,h1,h2⟩:=Jg hC hA (k:=λv=>k v w.heap) h;exact⟨v,h1,v,rfl,hR,h2⟩
  | d::ds,w,h,hR=>by
    unfold vS at h
    split at h
    · rename_i e;cases e
    · rename_i a' ds' e
      cases e
      exact⟨(λx=>by cases x),.inl ⟨_,_,rfl,run_takeDeferred h.1,yu hC hA ds _ h.2 ⟨hR.1,hR.2.1,hR.2.2⟩⟩⟩
    · rename_i v us ds' e
      cases e
      unfold Kq at h
      split at h
      · rename_i g fs cs
        obtain⟨⟨fn',hf',Gf,mQ⟩,hc⟩:=h;refine⟨(λx=>by cases x),.inr ⟨(λx=>by cases x),.func g,cs,g,⟨fs.toList++us++cs.toList⟩,rfl,?_,λ_ _=>trivial,?_⟩⟩
        · show(callFunc g _).run C.P w=_
          simp only[callFunc,Sem.run_bind,run_program,Result.andThen_ok,hf',Gf,mQ,Bool.false_eq_true,if_false,Sem.run_pure];congr 2;apply Array.ext';simp[toD]
        · refine(hc w rfl).mono λe u w' ⟨hu,⟨v,he⟩,hsr,hk⟩=>?_
          subst hu;subst he;exact yu hC hA ds w' hk (hR.trans hsr)
      · exact h.elim
    · exact h.elim
theorem VP{C:Ctx}(hC:jQ C){g:Nat}{fn:Func}(hf:C.P.funcs[g]?=some fn){c:Code}(hb:fn.body=some c){args:LV}(qO:SF C fn c args.length=true){k:KT}{h:ab}
    (hx:fnX C fn c args k h):ao C.P g args h k:=by
  simp only[SF,Bool.and_eq_true,Bool.not_eq_true']at qO;obtain⟨⟨⟨h1,h2⟩,h3⟩,h4⟩:=qO;have hle:=Nat.le_of_ble_eq_true h2;refine⟨⟨fn,hf,h3,by rw[hb];rfl⟩,λw hw=>?_⟩;subst hw;refine(callsIn_wide (n:=0)).1 (callsIn_of_wp_marks hf hb trivial ?_)
  have leave:∀(f:Fr) (a:Act) (w':World),vS C fn.results.toList f k (sY f) w'.heap->rX fn.ntmps a f->aP w w'->LeavesInM Fence.wide 0 C.P fn a.tmps (λe w'=>∃u,e = .returned u/\aP w w'/\k u w'.heap) a.defers .returning w':=by
    intro f a w' hr hA hR;rw[hA.defers];exact yu hC hA (sY f) w' hr hR
  exact Ye hC (Pk hC fn.ntmps) c h1 none (.inl rfl) w _ _ _ _ _ w hx (Pm hle (Nat.le_of_ble_eq_true h4)) (.refl _) ⟨λf a w' hr hA hR _=>leave f a w' hr hA hR,λid f a w' hr=>hr.elim,λf a w' hr hA hR _=>leave f a w' hr hA hR,λ_ _ _ _ hr=>hr.elim⟩
end Wx
namespace Hp
def rd(h:ab)(b:Nat):LV:=
 match h[b]? with
 | some (.cells c _ _)=>c.toList
 | _=>[]
def du(h:ab)(b:Nat):Prop:=∃c T f,h[b]?=some (.cells c T f)/\(f=(0,0)∨c.size<=f.1)
structure Fr(F:NP)(h h':ab):Prop where
 size:h.size<=h'.size
 same:∀b,b<h.size->¬F b->h'[b]?=h[b]?
def No : Nat->Prop:=λ_=>False
def bZ(n:Nat):Nat->Prop:=λb=>n<=b
theorem Fr.rd{F:NP}{h h':ab}(f:Fr F h h'){b:Nat}(hb:b<h.size)(hF:¬ F b):rd h' b=rd h b:=by
 simp only[Hp.rd,f.same b hb hF]
theorem Fr.own(f:Fr F h h'){b:Nat}(hb:b<h.size)(hF:¬ F b)(o:du h b):du h' b:=by
 obtain⟨c,T,z,e,k⟩:=o;exact⟨c,T,z,by rw[f.same b hb hF];exact e,k⟩
theorem Fr.refl(F:NP)(h:ab):Fr F h h:=⟨Nat.le_refl _,λ_ _ _=>rfl⟩
theorem Fr.trans{F G:NP}{h1 h2 h3:ab}(f:Fr F h1 h2)(g:Fr G h2 h3)(hs:∀ b,b<h1.size->G b->F b):Fr F h1 h3:=
 ⟨Nat.le_trans f.size g.size,λb hb hF=>(g.same b (Nat.lt_of_lt_of_le hb f.size) (λx=>hF (hs b hb x))).trans (f.same b hb hF)⟩
theorem Fr.no(f:Fr F h1 h2)(g:Fr No h2 h3):Fr F h1 h3:=f.trans g λ_ _ x=>x.elim
theorem Fr.mono{G:NP}(f:Fr F h h')(hs:∀ b,b<h.size->F b->G b):Fr G h h':=
 ⟨f.size,λb hb hG=>f.same b hb λx=>hG (hs b hb x)⟩
theorem du.lt(o:du h b):b<h.size:=by
 obtain⟨c,T,z,e,_⟩:=o
 rcases Nat.lt_or_ge b h.size with hl|hl
 ·exact hl
 ·rw[Array.getElem?_eq_none hl]at e;exact absurd e (by simp)
theorem vH{v:Value}(e:(rd h b)[o]?=some v):b<h.size:=by
 rcases Nat.lt_or_ge b h.size with hl|hl
 ·exact hl
 ·simp only[rd,Array.getElem?_eq_none hl]at e;simp at e
theorem uJ(h:ab)(cs:LV)(t:Nat):(oF h cs t).size=h.size+1:=by simp[oF]
theorem rq(h:ab)(cs:LV)(t b:Nat):(oF h cs t)[b]?=if b=h.size then some (.cells ⟨cs⟩ t)else h[b]?:=by
 simp[oF,Array.getElem?_push]
theorem SG(h:ab)(cs:LV)(t b:Nat):rd (oF h cs t) b=if b=h.size then cs else rd h b:=by
 by_cases hb:b=h.size
 ·simp only[rd,rq,if_pos hb]
 ·simp only[rd,rq,if_neg hb]
theorem nF(h:ab)(cs:LV)(t:Nat):rd (oF h cs t) h.size=cs:=by rw[SG,if_pos rfl]
theorem ov(h:ab)(cs:LV)(t:Nat):du (oF h cs t) h.size:=⟨_,_,_,by rw[rq,if_pos rfl],.inl rfl⟩
theorem Fr.oF{F:NP}{h h':ab}(f:Fr F h h')(cs:LV)(t:Nat):Fr F h (oF h' cs t):=
 ⟨by rw[uJ];have:=f.size;omega,λb hb hF=>by rw[rq,if_neg (by have:=f.size;omega)];exact f.same b hb hF⟩
theorem xo(cs:LV)(t:Nat):Fr F h (Wx.oF h cs t):=(Fr.refl F h).oF cs t
theorem size_setOf(h:ab)(a:Addr)(v:Value):(setOf h a v).size=h.size:=by simp[setOf]
theorem mA(h:ab)(b o:Nat)(v:Value)(c:Nat):(setOf h ⟨b,o,none⟩ v)[c]?=if c=b then(h[c]?).map (λx=>match x with| .cells cs e f=>.cells (cs.setIfInBounds o v) e f|x=>x)else h[c]?:=by
 simp only[setOf,Array.getElem?_modify,Option.isSome_none,Bool.false_eq_true,if_false]
 by_cases hc:c=b
 ·subst hc;simp;rfl
 ·simp[hc,Ne.symm hc]
theorem GP(h:ab)(b o:Nat)(v:Value)(c:Nat):rd (setOf h ⟨b,o,none⟩ v) c=if c=b then(rd h b).set o v else rd h c:=by
 simp only[rd,mA]
 by_cases hc:c=b
 ·subst hc;simp only[if_pos];cases h[c]? with
  | none=>simp
  | some x=>cases x <;> simp
 ·simp only[if_neg hc]
theorem GQ(h:ab)(b o:Nat)(v:Value):rd (setOf h ⟨b,o,none⟩ v) b=(rd h b).set o v:=by rw[GP,if_pos rfl]
theorem DC{v:Value}(w:du h c):du (setOf h ⟨b,o,none⟩ v) c:=by
 obtain⟨cs,T,z,e,k⟩:=w
 by_cases hc:c=b
 ·exact⟨cs.setIfInBounds o v,T,z,by rw[mA,if_pos hc,e];rfl,by rw[Array.size_setIfInBounds];exact k⟩
 ·exact⟨cs,T,z,by rw[mA,if_neg hc];exact e,k⟩
theorem Fr.setOf{F:NP}{h h':ab}(f:Fr F h h'){b o:Nat}{v:Value}(hb:F b∨h.size<=b):Fr F h (setOf h' ⟨b,o,none⟩ v):=
 ⟨by rw[size_setOf];exact f.size,λc hc hF=>by
  rw[mA,if_neg (by rintro rfl;rcases hb with hb|hb;exact hF hb;omega)];exact f.same c hc hF⟩
def put(xs:LV)(o:Nat):LV->LV
 | []=>xs
 | v::r=>put (xs.set o v) (o+1) r
theorem eE(cs:LV):∀(xs:LV) (o:Nat),(put xs o cs).length=xs.length:=by
 induction cs with
 | nil=>intros;rfl
 | cons v r ih=>intro xs o;simp[put,ih]
theorem pf(cs:LV):∀(xs:LV) (o i:Nat),o+cs.length<=xs.length->(put xs o cs)[i]?=if o<=i/\i<o+cs.length then cs[i-o]? else xs[i]?:=by
 induction cs with
 | nil=>intro xs o i h;rw[if_neg (by rw[List.length_nil];omega)];rfl
 | cons v r ih=>
  intro xs o i h;simp only[List.length_cons]at h;simp only[put];rw[ih (xs.set o v) (o+1) i (by simp;omega)]
  by_cases h1:i=o
  ·subst h1;rw[if_neg (by omega),if_pos ⟨Nat.le_refl _,by rw[List.length_cons];omega⟩,List.getElem?_set,if_pos rfl,if_pos (by omega),Nat.sub_self];rfl
  ·by_cases h2:o+1<=i/\i<o+1+r.length
   ·rw[if_pos h2,if_pos ⟨by omega,by rw[List.length_cons];omega⟩];obtain⟨j,rfl⟩:∃j,i=o+1+j:=⟨i-(o+1),by omega⟩;rw[show o+1+j-o=j+1 by omega,show o+1+j-(o+1)=j by omega];rfl
   ·rw[if_neg h2,if_neg (by simp only[List.length_cons];omega),List.getElem?_set_ne (by omega)]
theorem put_eq(cs xs:LV)(o:Nat)(h:o+cs.length<=xs.length):put xs o cs=xs.take o++cs++xs.drop (o+cs.length):=by
 apply List.ext_getElem?;intro i;rw[pf _ _ _ _ h]
 by_cases h1:i<o
 ·rw[if_neg (by omega),List.append_assoc,List.getElem?_append_left (by rw[List.length_take];omega),List.getElem?_take_of_lt h1]
 ·by_cases h2:i<o+cs.length
  ·rw[if_pos ⟨by omega,h2⟩,List.getElem?_append_left (by simp;omega),List.getElem?_append_right (by rw[List.length_take];omega),List.length_take,Nat.min_eq_left (by omega)]
  ·rw[if_neg (by omega),List.getElem?_append_right (by simp;omega),List.getElem?_drop];congr 1;simp;omega
theorem cM(cs xs:LV)(h:cs.length=xs.length):put xs 0 cs=cs:=by rw[put_eq _ _ _ (by omega)];simp[h]
theorem cI(b o n:Nat):Addr.add ⟨b,o,none⟩ n=⟨b,o+n,none⟩:=by
 by_cases hn:n=0
 ·subst hn;rfl
 ·simp[Addr.add,hn]
theorem size_setRow(a:Addr):∀(cs:LV) (h:ab) (i:Nat),(setRow h a cs i).size=h.size:=by
 intro cs;induction cs with
 | nil=>intros;rfl
 | cons v r ih=>intro h i;simp only[setRow,ih,size_setOf]
theorem My(b o:Nat):∀(cs:LV) (h:ab) (i c:Nat),rd (setRow h ⟨b,o,none⟩ cs i) c=if c=b then put (rd h b) (o+i) cs else rd h c:=by
 intro cs;induction cs with
 | nil=>intro h i c;simp only[setRow,put];split <;> simp_all
 | cons v r ih=>
  intro h i c;simp only[setRow,cI,ih,GP,put]
  by_cases hc:c=b
  ·subst hc;simp[Nat.add_assoc]
  ·simp[hc]
theorem jd(b o:Nat)(cs:LV)(h:ab)(i:Nat):rd (setRow h ⟨b,o,none⟩ cs i) b=put (rd h b) (o+i) cs:=by rw[My,if_pos rfl]
theorem nG:∀{cs:LV} {h:ab} {i:Nat},du h c->du (setRow h ⟨b,o,none⟩ cs i) c:=by
 intro cs;induction cs with
 | nil=>intro h i w;exact w
 | cons v r ih=>intro h i w;simp only[setRow,cI];exact ih (DC w)
theorem Fr.setRow{F:NP}{h:ab}{b o:Nat}(hb:F b∨h.size<=b):∀{cs:LV} {h':ab} {i:Nat},Fr F h h'->Fr F h (setRow h' ⟨b,o,none⟩ cs i):=by
 intro cs;induction cs with
 | nil=>intro h' i f;exact f
 | cons v r ih=>intro h' i f;simp only[Wx.setRow,cI];exact ih (f.setOf hb)
theorem ko(h:ab)(b o:Nat):cellOf h ⟨b,o,none⟩=(rd h b)[o]?:=by
 simp only[cellOf,rd];cases h[b]? with
 | none=>simp
 | some x=>cases x <;> simp
theorem zj{a:Addr}{v:Value}(e:cellOf h a=some v):a.spot=none/\(rd h a.block)[a.off]?=some v:=by
 obtain⟨b,o,s⟩:=a
 cases s with
 | none=>exact⟨rfl,by rw[ko]at e;exact e⟩
 | some s=>
  exfalso;revert e
  simp only[cellOf];cases h[b]? with
  | none=>simp
  | some x=>cases x <;> simp
theorem Pn(w:du h b)(hl:o<(rd h b).length):Wr h ⟨b,o,none⟩:=by
 refine⟨⟨(rd h b)[o],by rw[ko];simp[hl]⟩,?_⟩;obtain⟨c,T,z,e,k⟩:=w;have hc:o<c.size:=by simpa[rd,e]using hl
 rcases k with rfl|k
 ·simp[pF,e]
 ·obtain⟨lo,hi⟩:=z;have k:c.size<=lo:=k;simp[pF,e];omega
theorem yv(w:du h b)(hl:o+n<=(rd h b).length):WrN h ⟨b,o,none⟩ n:=by
 intro i hi;rw[cI];exact Pn w (by omega)
theorem GR{cs:LV}(w:du h b)(hn:cs.length=n)(h1:∀ v ∈ cs,v.oneCell'=true)(hl:o+n<=(rd h b).length):Ko h ⟨b,o,none⟩ cs n:=
 ⟨hn,h1,yv w hl⟩
theorem tM(e:((rd h b).drop o).take xs.length=xs):ai h ⟨b,o,none⟩ xs:=by
 intro i v hv;rw[cI,ko];rw[<-e,List.getElem?_take]at hv
 split at hv
 ·rw[List.getElem?_drop]at hv;exact hv
 ·exact absurd hv (by simp)
theorem ai.fr(f:Fr F h h'){a:Addr}{xs:LV}(c:ai h a xs)(hF:¬ F a.block):ai h' a xs:=by
 intro i v hv;have e:=c i v hv;obtain⟨h1,h2⟩:=zj e;have hb:(a.add i).block=a.block:=by unfold Addr.add;split <;> rfl
 have hl:=vH h2;rw[hb]at hl;have:cellOf h' (a.add i)=cellOf h (a.add i):=by simp only[cellOf,hb,f.same _ hl hF]
 rw[this];exact e
theorem ag.fr{F:NP}{h h':ab}(f:Fr F h h'){a:OA}{xs:LV}(c:ag h a xs)(hF:∀ p,a=some p->¬ F p.block):ag h' a xs:=by
 cases a with
 | none=>exact c
 | some p=>exact ai.fr f c (hF p rfl)
theorem aJ.fr{F:NP}{h h':ab}(f:Fr F h h'){a:OA}{l:Nat}{bs:LB}(c:aJ h a l bs)(hF:∀ p,a=some p->¬ F p.block):aJ h' a l bs:=
 ⟨c.1,ag.fr f c.2 hF⟩
theorem ai.take{h:ab}{a:Addr}{xs:LV}(c:ai h a xs)(n:Nat):ai h a (xs.take n):=by
 intro i v hv;rw[List.getElem?_take]at hv;split at hv
 ·exact c i v hv
 ·exact absurd hv (by simp)
theorem ai.nil(h:ab)(a:Addr):ai h a []:=by intro i v hv;simp at hv
theorem ai.drop{h:ab}{a:Addr}{xs:LV}(c:ai h a xs)(n:Nat):ai h (a.add n) (xs.drop n):=by
 intro i v hv;rw[List.getElem?_drop]at hv;have:=c (n+i) v hv
 by_cases hi:i=0
 ·subst hi;rw[Addr.add_zero];exact this
 ·by_cases hn:n=0
  ·subst hn;rw[Addr.add_zero];simpa using this
  ·rw[Addr.add_add];exact this
theorem ag.take{h:ab}{a:OA}{xs:LV}(c:ag h a xs)(n:Nat):ag h a (xs.take n):=by
 cases a with
 | none=>have c:xs=[]:=c;subst c;simp[ag]
 | some p=>exact ai.take c n
theorem ag.drop{h:ab}{a:OA}{xs:LV}(c:ag h a xs)(n:Nat):ag h (a.map (·.add n)) (xs.drop n):=by
 cases a with
 | none=>have c:xs=[]:=c;subst c;simp[ag]
 | some p=>exact ai.drop c n
theorem aJ.take{h:ab}{a:OA}{l:Nat}{bs:LB}(c:aJ h a l bs){n:Nat}(hn:n<=l):aJ h a n (bs.take n):=
 ⟨by rw[List.length_take,c.1];omega,by rw[List.map_take];exact ag.take c.2 n⟩
theorem aJ.drop{h:ab}{a:OA}{l:Nat}{bs:LB}(c:aJ h a l bs)(n:Nat):aJ h (a.map (·.add n)) (l-n) (bs.drop n):=
 ⟨by rw[List.length_drop,c.1],by rw[List.map_drop];exact ag.drop c.2 n⟩
theorem aJ.nil(h:ab)(a:OA):aJ h a 0 []:=⟨rfl,by cases a with|none=>rfl|some p=>exact ai.nil h p⟩
theorem pM(bs:LB):∀v∈bs.map bv,v.oneCell'=true:=by
 intro v hv;obtain⟨b,_,rfl⟩:=List.mem_map.mp hv;rfl
theorem toList_mkStr(bs:LB):ByteArray.toList (mkStr bs)=bs:=by
 rw[mkStr,show(⟨⟨bs⟩⟩:ByteArray)=⟨bs.toArray⟩ from rfl];simp
theorem wrap_i64{n:Int}(h1 : -9223372036854775808<=n)(h2:n<=9223372036854775807):IntKind.wrap .i64 n=n:=by
 simp only[IntKind.wrap,IntKind.bits,IntKind.signed,Bool.true_and,ge_iff_le,decide_eq_true_eq,Nat.reduceSub,Int.reducePow]
 split <;> omega
theorem wrap_u8{n:Int}(h1:0<=n)(h2:n<=255):IntKind.wrap .u8 n=n:=by
 simp only[IntKind.wrap,IntKind.bits,IntKind.signed,Bool.false_and,Bool.false_eq_true,if_false,Int.reducePow];omega
def Sl(h:ab)(ec:Nat)(a:OA)(l c:Nat)(xs:LV)(F:NP):Prop:=
 xs.length=l*ec/\match a with
  | none=>l=0/\c=0
  | some p=>p.spot=none/\F p.block/\du h p.block/\l<=c/\((rd h p.block).drop p.off).take xs.length=xs/\p.off+c*ec<=(rd h p.block).length
theorem Sl.nil(h:ab)(ec:Nat)(F:NP):Sl h ec none 0 0 [] F:=⟨by simp,rfl,rfl⟩
theorem Sl.mono{G:NP}(s:Sl h ec a l c xs F)(hs:∀ b,F b->G b):Sl h ec a l c xs G:=by
 obtain⟨h1,h2⟩:=s;refine⟨h1,?_⟩
 cases a with
 | none=>exact h2
 | some p=>obtain⟨a1,a2,a3⟩:=h2;exact⟨a1,hs _ a2,a3⟩
theorem Sl.fr{G:NP}(f:Fr G h h')(s:Sl h ec a l c xs F)(hs:∀ b,b<h.size->F b->¬ G b):Sl h' ec a l c xs F:=by
 obtain⟨h1,h2⟩:=s;refine⟨h1,?_⟩
 cases a with
 | none=>exact h2
 | some p=>
  obtain⟨a1,a2,a3,a4,a5,a6⟩:=h2;have hG:=hs _ a3.lt a2;refine⟨a1,a2,f.own a3.lt hG a3,a4,?_,?_⟩
  ·rw[f.rd a3.lt hG];exact a5
  ·rw[f.rd a3.lt hG];exact a6
theorem Sl.cells(s:Sl h ec a l c xs F):ag h a xs:=by
 obtain⟨h1,h2⟩:=s
 cases a with
 | none=>obtain⟨rfl,_⟩:=h2;rw[Nat.zero_mul]at h1;exact List.length_eq_zero_iff.mp h1
 | some p=>
  obtain⟨b,o,s⟩:=p;obtain⟨a1,a2,a3,a4,a5,a6⟩:=h2;have a1:s=none:=a1;subst a1;exact tM a5
theorem Sl.str(s:Sl h 1 a l c (bs.map bv) F):aJ h a l bs:=
 ⟨by have:=s.1;rw[List.length_map]at this;omega,s.cells⟩
theorem Sl.le(s:Sl h ec a l c xs F):l<=c:=by
 obtain⟨_,h2⟩:=s
 cases a with
 | none=>omega
 | some p=>exact h2.2.2.2.1
theorem Sl.new(h:ab)(ec t l c:Nat)(xs zs:LV)(F:NP)(hF:F h.size)(hx:xs.length=l*ec)(hl:l<=c)(hz:zs.length=(c - l)*ec) :
  Sl (oF h (xs++zs) t) ec (some ⟨h.size,0,none⟩) l c xs F:=by
 refine⟨hx,rfl,hF,ov _ _ _,hl,?_,?_⟩
 ·simp only[nF,List.drop_zero,List.take_left]
 ·simp only[nF,List.length_append,hx,hz,Nat.zero_add];rw[<-Nat.add_mul];exact Nat.mul_le_mul_right _ (by omega)
theorem Po(X new:LV)(o m:Nat)(h:o+m+new.length<=X.length):((put X (o+m) new).drop o).take (m+new.length)=(X.drop o).take m++new:=by
 apply List.ext_getElem?;intro i;rw[List.getElem?_take];have hl:((X.drop o).take m).length=m:=by rw[List.length_take,List.length_drop];omega
 by_cases h1:i<m
 ·rw[if_pos (by omega),List.getElem?_append_left (by omega),List.getElem?_drop,pf _ _ _ _ h,if_neg (by omega),List.getElem?_take,if_pos h1,List.getElem?_drop]
 ·by_cases h2:i<m+new.length
  ·rw[if_pos h2,List.getElem?_append_right (by omega),hl,List.getElem?_drop,pf _ _ _ _ h,if_pos (by omega)];congr 1;omega
  ·rw[if_neg h2,List.getElem?_eq_none (by rw[List.length_append];omega)]
theorem aT{elem:TI}{new:LV}{k:OA->Nat->Nat->ab->Prop}
  (s:Sl h elem.cells a l c xs F) (hn:new.length=n*elem.cells) (hz:elem.zero.length=elem.cells) (hb:(l+n)*elem.bytes<=140737488355328) (mQ:l+n<=140737488355328)
  (hk:∀a' c' h',Fr F h h'->Sl h' elem.cells a' (l+n) c' (xs++new) (λb=>F b∨h.size<=b)->k a' (l+n) c' h') :
  aw elem e a l c n new h k:=by
 refine⟨xs,s.1,s.cells,hb,mQ,λhc=>?_,λhc cap qW=>?_⟩
 ·obtain⟨h1,h2⟩:=s
  cases a with
  | none=>
   obtain⟨rfl,rfl⟩:=h2;have:n=0:=(by omega);subst this;rw[Nat.zero_mul]at hn h1;have e1:=List.length_eq_zero_iff.mp hn;have e2:=List.length_eq_zero_iff.mp h1;subst e1;subst e2;exact⟨by simp[Om],hk none 0 _ (Fr.refl _ _) (Sl.nil _ _ _)⟩
  | some p=>
   obtain⟨b,o,sp⟩:=p;obtain⟨a1,a2,a3,a4,a5,a6⟩:=h2;have a1:sp=none:=a1;subst a1;simp only at a2 a3 a5 a6;have hm:(l+n)*elem.cells<=c*elem.cells:=Nat.mul_le_mul_right _ hc;rw[Nat.add_mul]at hm;refine⟨?_,hk (some ⟨b,o,none⟩) c _ ?_ ?_⟩
   ·simp only[Om,cI];exact yv a3 (by omega)
   ·simp only[wW,cI];exact(Fr.refl F h).setRow (Or.inl a2)
   ·simp only[wW,cI];refine⟨by rw[List.length_append,h1,hn,Nat.add_mul],rfl,Or.inl a2,nG a3,hc,?_,?_⟩
    ·simp only[jd,Nat.add_zero,List.length_append,<-h1]at a5 ⊢;rw[Po _ _ _ _ (by rw[h1];omega),a5]
    ·simp only[jd,eE];exact a6
 ·have hf:Fr F h (oF h (xs++new++aW elem.zero (cap-(l+n))) e):=xo _ _;refine hk _ _ _ hf (Sl.new h elem.cells e (l+n) cap (xs++new) _ _ (Or.inr (Nat.le_refl _)) (by rw[List.length_append,s.1,hn,Nat.add_mul]) qW ?_);rw[j6,hz]
theorem append_nil{elem:TI}{new:LV}{k:OA->Nat->Nat->ab->Prop}
  (hn:new.length=n*elem.cells) (hz:elem.zero.length=elem.cells) (hb:n*elem.bytes<=140737488355328) (mQ:n<=140737488355328)
  (hk:∀a' c' h',Fr No h h'->Sl h' elem.cells a' n c' new (bZ h.size)->k a' n c' h') :
  aw elem e none 0 0 n new h k:=by
 refine aT (Sl.nil h _ No) hn hz (by simpa using hb) (by simpa using mQ) λa' c' h' f s=>?_;simp only[Nat.zero_add,List.nil_append]at s ⊢;exact hk a' c' h' f (s.mono λb hb=>hb.elim (λx=>x.elim) id)
theorem aJ.src(c:aJ h a l bs):(bs.map bv).length=l*1/\ag h a (bs.map bv)/\∀v∈bs.map bv,v.oneCell'=true:=
 ⟨by rw[List.length_map,c.1,Nat.mul_one],c.2,pM bs⟩
end Hp
namespace Wx
open Go
def aC(cs:LV)(t:Nat)(h:ab)(k:HP):Prop:=k (oF h cs t)
def ax(z:LV)(t:Nat)(cs:LV)(n:Nat)(h:ab)(k:HP):Prop:=
  Ko (oF h z t) ⟨h.size,0,none⟩ cs n/\k (setRow (oF h z t) ⟨h.size,0,none⟩ cs 0)
def SH(s:ByteArray)(t:Nat)(h:ab)(k:Nat->ab->Prop):Prop:=∀cap:Nat,s.size<=cap->k cap (tp h (s.toList.map bv++List.replicate (cap-s.size) (bv 0)) t)
def Mz(h:ab)(k:HP):Prop:=k (EE h)
def Jh(s:ByteArray)(h:ab)(k:HP):Prop:=k (aaP h s)
def bQ(p:Addr)(v:Value)(h:ab)(k:HP):Prop:=Wr h p/\k (setOf h p v)
def ar(p:Addr)(cs:LV)(n:Nat)(h:ab)(k:HP):Prop:=Ko h p cs n/\k (setRow h p cs 0)
def td(h:ab)(l:Nat)(R:Loop)(st:LoopState)(p:Option Code)(k:HP):Prop:=k (cZ h l R st p)
def qm(b:Nat)(h:ab)(k:HP):Prop:=h[b]?=some (.deferred (some []))/\k (Me h b)
end Wx
namespace Hp
def On(az:Nat->Nat)(k:Nat):Nat->Prop:=λb=>az b=k
def RJ(az:Nat->Nat)(n k:Nat):Nat->Nat:=λb=>if b<n then az b else k
def Ag(n:Nat)(az bT:Nat->Nat):Prop:=∀b,b<n->bT b=az b
def Yq(h:ab)(az:Nat->Nat)(m:Nat):Prop:=∀b,b<h.size->m<=az b->az b<=m+5->False
theorem Yq.new(f:Yq h az m)(g:Ag h.size az bT)(h1:m<=bT b)(h2:bT b<=m+5):h.size<=b:=by
 rcases Nat.lt_or_ge b h.size with hb|hb
 ·rw[g b hb]at h1 h2;exact(f b hb h1 h2).elim
 ·exact hb
theorem A'(az:Nat->Nat)(n k:Nat):Ag n az (RJ az n k):=λb hb=>if_pos hb
theorem E3{k:Nat}(h:n<=b):RJ az n k b=k:=if_neg (by omega)
theorem Yr{k:Nat}(h:b<n):RJ az n k b=az b:=if_pos h
theorem Ag.refl(n:Nat)(az:Nat->Nat):Ag n az az:=λ_ _=>rfl
theorem Ag.trans{m n:Nat}{c1 c2 c3:Nat->Nat}(f:Ag m c1 c2)(g:Ag n c2 c3)(h:m<=n):Ag m c1 c3:=λb hb=>(g b (by omega)).trans (f b hb)
theorem Sl.lt{h:ab}{ec l c:Nat}{p:Addr}{xs:LV}{F:NP}(s:Sl h ec (some p) l c xs F):p.block<h.size:=s.2.2.2.1.lt
theorem Sl.gL{k:Nat}(s:Sl h ec a l c xs (On az k))(f:Fr F h h')(g:Ag h.size az bT)(hF:∀ b,az b=k->¬ F b):Sl h' ec a l c xs (On bT k):=by
 have s':=Sl.fr f s (λb _ hb=>hF b hb);obtain⟨h1,h2⟩:=s';refine⟨h1,?_⟩
 cases a with
 | none=>exact h2
 | some p=>obtain⟨a1,a2,a3,a4⟩:=h2;exact⟨a1,(g _ s.lt).trans a2,a3,a4⟩
theorem Sl.get(s:Sl h ec a l c xs F)(hl:0<l):∃p,a=some p/\ai h p xs:=by
 cases a with
 | none=>exact absurd s.2.1 (by omega)
 | some p=>exact⟨p,rfl,s.cells⟩
theorem kq{α:Type}(f:α->LV)(w:Nat):∀(xs:List α),(∀x∈xs,(f x).length=w)->∀(i:Nat) (hi:i<xs.length),((xs.flatMap f).drop (i*w)).take w=f xs[i]:=by
 intro xs
 induction xs with
 | nil=>intro _ i hi;exact absurd hi (by simp)
 | cons x r ih=>
  intro hw i hi;have hx:=hw x (List.mem_cons_self ..);rw[List.flatMap_cons]
  cases i with
  | zero=>rw[Nat.zero_mul,List.drop_zero,<-hx,List.take_left];rfl
  | succ i=>
   rw[Nat.add_mul,Nat.one_mul,Nat.add_comm,<-List.drop_drop,<-hx,List.drop_left,hx];exact ih (λy hy=>hw y (List.mem_cons_of_mem _ hy)) i (by simpa using hi)
theorem bw{α:Type}(f:α->LV)(w:Nat):∀(xs:List α),(∀x∈xs,(f x).length=w)->(xs.flatMap f).length=xs.length*w:=by
 intro xs
 induction xs with
 | nil=>intro _;simp
 | cons x r ih=>
  intro hw;rw[List.flatMap_cons,List.length_append,ih (λy hy=>hw y (List.mem_cons_of_mem _ hy)),hw x (List.mem_cons_self ..),List.length_cons,Nat.add_mul];omega
theorem ai.part(c:ai h p xs)(o n:Nat):ai h (p.add o) ((xs.drop o).take n):=ai.take (ai.drop c o) n
theorem ai.cell(c:ai h p xs){i:Nat}{v:Value}(hv:xs[i]?=some v):cellOf h (p.add i)=some v:=c i v hv
theorem Pp{α:Type}(f:α->LV)(w:Nat)(xs:List α)(hw:∀ x ∈ xs,(f x).length=w)(i:Nat)(hi:i<xs.length)(y:α)(hy:(f y).length=w) :
  put (xs.flatMap f) (i*w) (f y)=(xs.set i y).flatMap f:=by
 have hl:=bw f w xs hw;have hm:(i+1)*w<=xs.length*w:=Nat.mul_le_mul_right _ hi;rw[Nat.add_mul,Nat.one_mul]at hm;rw[put_eq _ _ _ (by omega),hy]
 have h1:(xs.flatMap f).take (i*w)=(xs.take i).flatMap f:=by
  conv=>lhs;rw[<-List.take_append_drop i xs,List.flatMap_append]
  rw[List.take_append_of_le_length]
  ·rw[List.take_of_length_le];rw[bw f w _ (λx hx=>hw x (List.mem_of_mem_take hx)),List.length_take];exact Nat.mul_le_mul_right _ (by omega)
  ·rw[bw f w _ (λx hx=>hw x (List.mem_of_mem_take hx)),List.length_take,Nat.min_eq_left (by omega)];exact Nat.le_refl _
 have h2:(xs.flatMap f).drop (i*w+w)=(xs.drop (i+1)).flatMap f:=by
  conv=>lhs;rw[<-List.take_append_drop (i+1) xs,List.flatMap_append]
  have:((xs.take (i+1)).flatMap f).length=i*w+w:=by
   rw[bw f w _ (λx hx=>hw x (List.mem_of_mem_take hx)),List.length_take,Nat.min_eq_left (by omega),Nat.add_mul,Nat.one_mul]
  rw[<-this,List.drop_left]
 rw[h1,h2,List.set_eq_take_append_cons_drop,if_pos hi,List.flatMap_append,List.flatMap_cons,List.append_assoc]
theorem abl{a b:Value}(ha:a.oneCell'=true)(hb:b.oneCell'=true):∀v∈[a,b],v.oneCell'=true:=by
 intro v hv;rcases List.mem_cons.mp hv with rfl|hv
 ·exact ha
 ·rw[List.mem_singleton.mp hv];exact hb
theorem os{α:Type}{a:α}{k:α->Prop}(h:k a):ae (some a) k:=h
theorem ct{c:Bool}(h:c=true)(a:A):bif c then A else B:=by subst h;exact a
theorem cf{c:Bool}(h:c=false)(b:B):bif c then A else B:=by subst h;exact b
theorem cs{c:Bool}(a:c=true->A)(b:c=false->B):bif c then A else B:=by
 cases c
 ·exact b rfl
 ·exact a rfl
theorem cd{p:Prop}[Decidable p]{A B:Prop}(a:p->A)(b:¬ p->B):bif decide p then A else B:=by
 by_cases h:p
 ·rw[decide_eq_true h];exact a h
 ·rw[decide_eq_false h];exact b h
theorem ce{x:Int}(a:x=y->A)(b:x≠y->B):bif x==y then A else B:=by
 by_cases h:x=y
 ·exact ct (by simpa using h) (a h)
 ·exact cf (by simpa using h) (b h)
theorem cn{x:Int}(a:x≠y->A)(b:x=y->B):bif x != y then A else B:=by
 by_cases h:x=y
 ·exact cf (by simpa using h) (b h)
 ·exact ct (by simpa using h) (a h)
theorem jj{c:Bool}(h:bif c then B else A):bif !c then A else B:=by cases c <;> exact h
structure oM(h h':ab)(cs:LV):Prop where
 size:h'.size=h.size+1
 fr:Fr No h h'
 own:du h' h.size
 rd:rd h' h.size=cs
theorem aC.intro{cs:LV}(H:∀ h',oM h h' cs->k h'):aC cs t h k:=
 H _ ⟨uJ _ _ _,xo _ _,ov _ _ _,nF _ _ _⟩
theorem ax.intro{z:LV}{cs:LV}(hl:cs.length=n)(h1:∀ v ∈ cs,v.oneCell'=true)(hz:z.length=n)
  (H:∀h',oM h h' cs->k h'):ax z t cs n h k:=
 ⟨GR (ov _ _ _) hl h1 (by rw[nF,hz];omega),
  H _ ⟨by rw[size_setRow,uJ],Fr.setRow (Or.inr (Nat.le_refl _)) (xo _ _),nG (ov _ _ _),by rw[jd,nF,Nat.zero_add,cM _ _ (by rw[hl,hz])]⟩⟩
structure yw(b:Nat)(h h':ab)(cs:LV):Prop where
 size:h'.size=h.size
 fr:Fr (λx=>x=b) h h'
 own:du h' b
 rd:Hp.rd h' b=cs
theorem bQ.intro{v:Value}(w:du h b)(hl:o<(rd h b).length)(H:∀ h',yw b h h' ((rd h b).set o v)->k h'):bQ ⟨b,o,none⟩ v h k:=
 ⟨Pn w hl,H _ ⟨size_setOf _ _ _,(Fr.refl _ h).setOf (Or.inl rfl),DC w,GQ _ _ _ _⟩⟩
theorem bQ.add{b o n:Nat}{v:Value}{h:ab}{k:HP}(w:du h b)(hl:o+n<(rd h b).length)(H:∀ h',yw b h h' ((rd h b).set (o+n) v)->k h'):bQ (Addr.add ⟨b,o,none⟩ n) v h k:=by
 rw[cI];exact bQ.intro w hl H
theorem ar.intro{cs:LV}(w:du h b)(hn:cs.length=n)(h1:∀ v ∈ cs,v.oneCell'=true)(hl:o+n<=(rd h b).length)
  (H:∀h',yw b h h' (put (rd h b) o cs)->k h'):ar ⟨b,o,none⟩ cs n h k:=
 ⟨GR w hn h1 hl,H _ ⟨size_setRow _ _ _ _,Fr.setRow (F:=λx=>x=b) (Or.inl rfl) (Fr.refl _ h),nG w,by rw[jd,Nat.add_zero]⟩⟩
theorem ar.add{b o m n:Nat}{cs:LV}{h:ab}{k:HP}(w:du h b)(hn:cs.length=n)(h1:∀ v ∈ cs,v.oneCell'=true)(hl:o+m+n<=(rd h b).length)
  (H:∀h',yw b h h' (put (rd h b) (o+m) cs)->k h'):ar (Addr.add ⟨b,o,none⟩ m) cs n h k:=by
 rw[cI];exact ar.intro w hn h1 hl H
theorem nt{v:Value}(e:rd h b=xs)(hv:xs[o]?=some v):cellOf h ⟨b,o,none⟩=some v:=by rw[ko,e];exact hv
theorem bW{v:Value}(e:rd h b=xs)(hv:xs[o+n]?=some v):cellOf h (Addr.add ⟨b,o,none⟩ n)=some v:=by rw[cI,ko,e];exact hv
theorem lS{ys:LV}(e:rd h b=xs)(hy:(xs.drop (o+n)).take ys.length=ys):ai h (Addr.add ⟨b,o,none⟩ n) ys:=by rw[cI];exact tM (by rw[e];exact hy)
theorem aj(e:rd h b=xs):ai h ⟨b,0,none⟩ xs:=tM (by rw[e,List.drop_zero,List.take_length])
theorem E4(e:rd h b=bs.map bv)(hl:bs.length=l):aJ h (some ⟨b,0,none⟩) l bs:=⟨hl,aj e⟩
theorem yw.at_{cs:LV}(d:yw b h h' cs)(hc:c<h.size)(hn:c≠b):Hp.rd h' c=Hp.rd h c:=d.fr.rd hc hn
theorem yw.ow{cs:LV}(d:yw b h h' cs)(w:du h c):du h' c:=by
 by_cases e:c=b
 ·subst e;exact d.own
 ·exact d.fr.own w.lt e w
theorem oM.at_{cs:LV}(d:oM h h' cs)(hc:c<h.size):Hp.rd h' c=Hp.rd h c:=d.fr.rd hc (λx=>x)
theorem oM.ow{cs:LV}(d:oM h h' cs)(w:du h c):du h' c:=d.fr.own w.lt (λx=>x) w
theorem j8{n:Int}(h:n<m):((m:Int)-(n+1)).toNat<((m:Int)-n).toNat:=by omega
theorem Fr.new{cs:LV}(f:Fr F h h1)(d:oM h1 h2 cs):Fr F h h2:=f.no d.fr
theorem Fr.did{cs:LV}(f:Fr F h h1)(d:yw b h1 h2 cs)(hb:b<h.size->F b):Fr F h h2:=f.trans d.fr (λ_ hl e=>e▸hb (e▸hl))
theorem Pq(X new:LV)(o j n:Nat)(h1:j+new.length<=n)(h2:o+n<=X.length):((put X (o+j) new).drop o).take n=put ((X.drop o).take n) j new:=by
 apply List.ext_getElem?;intro i;have hl:((X.drop o).take n).length=n:=by rw[List.length_take,List.length_drop];omega
 rw[pf _ _ _ _ (by rw[hl];exact h1),List.getElem?_take,List.getElem?_take,List.getElem?_drop,List.getElem?_drop]
 by_cases hi:i<n
 ·rw[if_pos hi,if_pos hi,pf _ _ _ _ (by omega)]
  by_cases hj:j<=i/\i<j+new.length
  ·rw[if_pos (by omega),if_pos hj];congr 1;omega
  ·rw[if_neg (by omega),if_neg hj]
 ·rw[if_neg hi,if_neg hi,if_neg (by omega)]
theorem Sl.putAt{new:LV}(s:Sl h ec (some ⟨b,o,none⟩) l c xs F)(hj:j+new.length<=l*ec)
  (d:yw b h h' (put (rd h b) (o+j) new)):Sl h' ec (some ⟨b,o,none⟩) l c (put xs j new) F:=by
 obtain⟨h1,a1,a2,a3,a4,a5,a6⟩:=s;have hm:l*ec<=c*ec:=Nat.mul_le_mul_right _ a4;simp only at a2 a3 a5 a6;refine⟨by rw[eE,h1],rfl,a2,d.own,a4,?_,?_⟩
 ·simp only[d.rd,eE,h1];rw[Pq _ _ _ _ _ hj (by omega),<-h1,a5]
 ·simp only[d.rd,eE];exact a6
theorem Sl.SI{α:Type}{f:α->LV}{w:Nat}{xs:List α}{y:α}(s:Sl h w (some ⟨b,o,none⟩) l c (xs.flatMap f) F)
  (hw:∀x∈xs,(f x).length=w) (hi:i<xs.length) (hy:(f y).length=w) (d:yw b h h' (put (rd h b) (o+i*w) (f y))):Sl h' w (some ⟨b,o,none⟩) l c ((xs.set i y).flatMap f) F:=by
 have h1:=s.1;rw[bw f w xs hw]at h1;have:(i+1)*w<=xs.length*w:=Nat.mul_le_mul_right _ hi;rw[Nat.add_mul,Nat.one_mul]at this;rw[<-Pp f w xs hw i hi y hy];exact s.putAt (by rw[hy];omega) d
theorem Sl.made{zs cs:LV}(n:oM h h' cs)(e:cs=xs++zs)(hF:F h.size)(hx:xs.length=l*ec)(hl:l<=c)(hz:zs.length=(c - l)*ec) :
  Sl h' ec (some ⟨h.size,0,none⟩) l c xs F:=by
 refine⟨hx,rfl,hF,n.own,hl,?_,?_⟩
 ·simp only[n.rd,e,List.drop_zero,List.take_left]
 ·simp only[n.rd,e,List.length_append,hx,hz,Nat.zero_add];rw[<-Nat.add_mul];exact Nat.mul_le_mul_right _ (by omega)
theorem Sl.wr(s:Sl h ec (some ⟨b,o,none⟩) l c xs F):du h b/\o+l*ec<=(rd h b).length:=by
 obtain⟨h1,a1,a2,a3,a4,a5,a6⟩:=s;have hm:l*ec<=c*ec:=Nat.mul_le_mul_right _ a4;simp only at a6;exact⟨a3,by omega⟩
theorem qU.intro{elem:TI}{src:OA}{new:LV}{k:Nat->ab->Prop}(hn:new.length=min m n*elem.cells)(hs:ag h src new)(h1:∀ v ∈ new,v.oneCell'=true)
  (w:du h b) (hl:o+new.length<=(rd h b).length) (H:∀h',yw b h h' (put (rd h b) o new)->k (min m n) h'):qU elem (some ⟨b,o,none⟩) n (.slice src m c) h k:=by
 refine⟨new,hn,hs,h1,?_,H _ ?_⟩
 ·simp only[Om,Addr.add_zero];exact yv w (by omega)
 ·simp only[wW,Addr.add_zero];exact⟨size_setRow _ _ _ _,Fr.setRow (F:=λx=>x=b) (Or.inl rfl) (Fr.refl _ h),nG w,by rw[jd,Nat.add_zero]⟩
end Hp
namespace W
def z1 : LV:=[.nilFunc]
def ti1 : TI:=⟨true,.fn,1,8,z1,[]⟩
def z3 : LV:=[.int .i64 0]
def qP : TI:=⟨true,.int .i64,1,8,z3,[]⟩
def z4 : LV:=[.bool false]
def ti4 : TI:=⟨true,.bool,1,1,z4,[]⟩
def z5 : LV:=[.int .u8 0]
def yx : TI:=⟨true,.int .u8,1,1,z5,[]⟩
def z9 : LV:=[.string (mkStr [])]
def tN : TI:=⟨true,.str,1,16,z9,[]⟩
def z21 : LV:=[.int .i32 0]
def abm : TI:=⟨true,.int .i32,1,4,z21,[]⟩
def z22 : LV:=[.slice none 0 0]
def abn : TI:=⟨true,.slice 31,1,24,z22,[]⟩
def z23 : LV:=[.pointer none]
def abo : TI:=⟨true,.ptr 210,1,8,z23,[]⟩
def z25 : LV:=[.int .i64 0,.int .i64 0,.int .i64 0,.int .i64 0,.int .i64 0]
def abp : TI:=⟨true,.struct [(0,3),(1,3),(2,3),(3,3),(4,3)],5,40,z25,[]⟩
def z28 : LV:=[.slice none 0 0]
def abq : TI:=⟨true,.slice 49,1,24,z28,[]⟩
def z29 : LV:=[.slice none 0 0,.slice none 0 0]
def abr : TI:=⟨true,.arr 2 28,2,48,z29,[]⟩
def z31 : LV:=[.bool false,.int .i64 0,.int .i64 0,.int .i64 0]
def abt : TI:=⟨true,.struct [(0,4),(1,3),(2,3),(3,3)],4,32,z31,[]⟩
def z34 : LV:=[.int .i64 0]
def abu : TI:=⟨true,.int .i64,1,8,z34,[]⟩
def z41 : LV:=[.slice none 0 0]
def abv : TI:=⟨true,.slice 113,1,24,z41,[]⟩
def z49 : LV:=[.string (mkStr []),.int .i64 0]
def abw : TI:=⟨true,.struct [(0,9),(1,3)],2,24,z49,[]⟩
def z51 : LV:=[.slice none 0 0]
def abx : TI:=⟨true,.slice 175,1,24,z51,[]⟩
def z52 : LV:=[.slice none 0 0]
def aby : TI:=⟨true,.slice 191,1,24,z52,[]⟩
def z54 : LV:=[.int .i64 0,.slice none 0 0,.slice none 0 0]
def abz : TI:=⟨true,.struct [(0,3),(1,51),(2,52)],3,56,z54,[]⟩
def z55 : LV:=[.slice none 0 0]
def abA : TI:=⟨true,.slice 59,1,24,z55,[]⟩
def z59 : LV:=[.pointer none]
def GS : TI:=⟨true,.ptr 63,1,8,z59,[]⟩
def z60 : LV:=[.slice none 0 0]
def abB : TI:=⟨true,.slice 9,1,24,z60,[]⟩
def z61 : LV:=[.slice none 0 0]
def abC : TI:=⟨true,.slice 3,1,24,z61,[]⟩
def z63 : LV:=[.int .i64 0,.int .i64 0,.int .i64 0,.string (mkStr []),.slice none 0 0,.slice none 0 0,.int .i64 0]
def abD : TI:=⟨true,.struct [(0,3),(1,3),(2,3),(3,9),(4,60),(5,61),(6,3)],7,96,z63,[]⟩
def z66 : LV:=[.slice none 0 0,.string (mkStr []),.int .i64 0]
def abE : TI:=⟨true,.struct [(0,61),(1,9),(2,3)],3,48,z66,[]⟩
def z72 : LV:=[.slice none 0 0,.string (mkStr []),.int .i64 0,.int .i64 0]
def abF : TI:=⟨true,.struct [(0,61),(1,9),(2,3),(3,3)],4,56,z72,[]⟩
def z78 : LV:=[.int .u64 0]
def abG : TI:=⟨true,.int .u64,1,8,z78,[]⟩
def z83 : LV:=[.slice none 0 0]
def abH : TI:=⟨true,.slice 61,1,24,z83,[]⟩
def z85 : LV:=[.slice none 0 0]
def abI : TI:=⟨true,.slice 97,1,24,z85,[]⟩
def z86 : LV:=[.slice none 0 0]
def Ys : TI:=⟨true,.slice 5,1,24,z86,[]⟩
def z91 : LV:=[.pointer none]
def abJ : TI:=⟨true,.ptr 195,1,8,z91,[]⟩
def z94 : LV:=[.pointer none]
def abK : TI:=⟨true,.ptr 198,1,8,z94,[]⟩
def z97 : LV:=[.string (mkStr []),.bool false,.int .i64 0]
def abL : TI:=⟨true,.struct [(0,9),(1,4),(2,3)],3,32,z97,[]⟩
def VQ : LV:=[.slice none 0 0,.string (mkStr []),.int .i64 0]
def abM : TI:=⟨true,.struct [(0,61),(1,9),(2,3)],3,48,VQ,[]⟩
def z105 : LV:=[.slice none 0 0]
def VR : TI:=⟨true,.slice 4,1,24,z105,[]⟩
def zP : LV:=[.int .i64 0,.string (mkStr []),.int .i64 0]
def mB : TI:=⟨true,.struct [(0,3),(1,9),(2,3)],3,32,zP,[(.int .i64),.str,(.int .i64)]⟩
def z114 : LV:=[.nilFunc]
def VS : TI:=⟨true,.fn,1,8,z114,[]⟩
def z116 : LV:=[.slice none 0 0]
def VT : TI:=⟨true,.slice 123,1,24,z116,[]⟩
def z117 : LV:=[.slice none 0 0]
def VU : TI:=⟨true,.slice 133,1,24,z117,[]⟩
def z119 : LV:=[.int .i64 0,.slice none 0 0,.slice none 0 0]
def VV : TI:=⟨true,.struct [(0,3),(1,116),(2,117)],3,56,z119,[]⟩
def z121 : LV:=[.int .i64 0,.int .i64 0,.int .i64 0,.int .i64 0,.int .i64 0,.int .i64 0,.int .i64 0,.int .i64 0,.int .i64 0,.int .i64 0]
def VW : TI:=⟨true,.arr 10 3,10,80,z121,[]⟩
def gC : LV:=List.replicate 15 (.int .i64 0)
def VX : TI:=⟨true,.struct [(0,3),(1,3),(2,3),(3,121),(13,3),(14,3)],15,120,gC,[(.int .i64),(.int .i64),(.int .i64),(.int .i64),(.int .i64),(.int .i64),(.int .i64),(.int .i64),(.int .i64),(.int .i64),(.int .i64),(.int .i64),(.int .i64),(.int .i64),(.int .i64)]⟩
def z125 : LV:=[.pointer none]
def VY : TI:=⟨true,.ptr 235,1,8,z125,[]⟩
def z130 : LV:=[.pointer none,.pointer none,.pointer none,.pointer none,.int .i64 0,.int .i64 0,.int .i64 0,.int .i64 0,.int .i64 0]
def VZ : TI:=⟨true,.struct [(0,125),(1,91),(2,23),(3,94),(4,25)],9,72,z130,[]⟩
def z131 : LV:=[.slice none 0 0]
def V0 : TI:=⟨true,.slice 239,1,24,z131,[]⟩
def z133 : LV:=[.int .i64 0,.int .i64 0,.string (mkStr []),.int .i64 0]
def V1 : TI:=⟨true,.struct [(0,3),(1,3),(2,9),(3,3)],4,40,z133,[]⟩
def GU : LV:=(.pointer none)::List.replicate 22 (.int .i64 0)
def V2 : TI:=⟨true,.struct [(0,23),(1,25),(6,3),(7,123),(22,34)],23,184,GU,[]⟩
def SJ : LV:=[.int .i64 0,.int .i64 0,.slice none 0 0,.slice none 0 0]
def V3 : TI:=⟨true,.struct [(0,3),(1,3),(2,86),(3,41)],4,64,SJ,[]⟩
def z157 : LV:=[.pointer none]
def V4 : TI:=⟨true,.ptr 160,1,8,z157,[]⟩
def z160 : LV:=(.pointer none)::(List.replicate 24 (.int .i64 0)++(.slice none 0 0)::(.slice none 0 0)::(.int .i64 0)::(.string (mkStr []))::[.int .i64 0])
def V5 : TI:=⟨true,.struct [(0,144),(23,150),(27,113)],30,280,z160,[]⟩
def z170 : LV:=[.slice none 0 0]
def V6 : TI:=⟨true,.slice 264,1,24,z170,[]⟩
def z175 : LV:=[.int .i64 0,.int .i64 0,.int .i64 0,.string (mkStr []),.string (mkStr [])]
def V7 : TI:=⟨true,.struct [(0,3),(1,3),(2,3),(3,9),(4,9)],5,56,z175,[]⟩
def z179 : LV:=[.slice none 0 0]
def V8 : TI:=⟨true,.struct [(0,61)],1,24,z179,[]⟩
def z181 : LV:=[.slice none 0 0,.pointer none,.int .i64 0,.int .i64 0,.int .i64 0,.int .i64 0,.int .i64 0,.slice none 0 0,.int .i64 0,.bool false,.bool false]
def V9 : TI:=⟨true,.struct [(0,179),(1,23),(2,25),(7,60),(8,3),(9,4),(10,4)],11,112,z181,[]⟩
def abN : LV:=[.int .i64 0,.int .u8 0]
def V' : TI:=⟨true,.struct [(0,3),(1,5)],2,16,abN,[]⟩
def z193 : LV:=[.slice none 0 0]
def Wa : TI:=⟨true,.slice 303,1,24,z193,[]⟩
def z195 : LV:=[.slice none 0 0,.slice none 0 0,.slice none 0 0,.int .i64 0,.bool false,.int .i64 0,.int .i64 0]
def Wb : TI:=⟨true,.struct [(0,86),(1,193),(2,105),(3,3),(4,4),(5,3),(6,3)],7,104,z195,[]⟩
def z196 : LV:=[.slice none 0 0]
def We : TI:=⟨true,.slice 294,1,24,z196,[]⟩
def z198 : LV:=[.pointer none,.slice none 0 0,.bool false]
def Wg : TI:=⟨true,.struct [(0,91),(1,196),(2,4)],3,40,z198,[]⟩
def z201 : LV:=[.pointer none,.int .i64 0,.int .i64 0,.int .i64 0,.int .i64 0,.int .i64 0,.slice none 0 0,.slice none 0 0,.bool false,.bool false,.int .i64 0]
def Wh : TI:=⟨true,.struct [(0,94),(1,25),(6,61),(7,60),(8,4),(9,4),(10,3)],11,112,z201,[]⟩
def z207 : LV:=[.map none]
def Wi : TI:=⟨true,.map 3 86,1,8,z207,[]⟩
def z208 : LV:=[.slice none 0 0]
def Wj : TI:=⟨true,.slice 1,1,24,z208,[]⟩
def z210 : LV:=[.pointer none,.map none,.slice none 0 0,.bool false]
def Wm : TI:=⟨true,.struct [(0,125),(1,207),(2,208),(3,4)],4,48,z210,[]⟩
def z219 : LV:=[.nilFunc]
def KU : TI:=⟨true,.fn,1,8,z219,[]⟩
def z232 : LV:=[.slice none 0 0]
def Wn : TI:=⟨true,.slice 237,1,24,z232,[]⟩
def z233 : LV:=[.slice none 0 0]
def Wp : TI:=⟨true,.slice 358,1,24,z233,[]⟩
def z235 : LV:=[.slice none 0 0,.slice none 0 0,.int .i64 0,.slice none 0 0,.bool false,.int .i64 0,.int .i64 0,.slice none 0 0]
def Wq : TI:=⟨true,.struct [(0,232),(1,233),(2,3),(3,105),(4,4),(5,3),(6,3),(7,193)],8,128,z235,[]⟩
def Yt : LV:=List.replicate 512 (.int .u8 0)
def Wt : TI:=⟨true,.arr 512 5,512,512,Yt,[]⟩
def z239 : LV:=[.slice none 0 0,.slice none 0 0]
def Wu : TI:=⟨true,.struct [(0,41),(1,41)],2,48,z239,[]⟩
def z243 : LV:=[.slice none 0 0]
def Wv : TI:=⟨true,.slice 41,1,24,z243,[]⟩
def z245 : LV:=[.pointer none]
def Ww : TI:=⟨true,.ptr 144,1,8,z245,[]⟩
def z257 : LV:=[.int .u64 0]
def Wy : TI:=⟨true,.int .u64,1,8,z257,[]⟩
def z261 : LV:=[.pointer none]
def Wz : TI:=⟨true,.ptr 263,1,8,z261,[]⟩
def z263 : LV:=(.pointer none)::List.replicate 20 (.int .i64 0)
def WA : TI:=⟨true,.struct [(0,23),(1,25),(6,123)],21,168,z263,[]⟩
def z264 : LV:=[.int .i64 0,.int .i64 0]
def WB : TI:=⟨true,.arr 2 3,2,16,z264,[]⟩
def z265 : LV:=[.nilFunc]
def WC : TI:=⟨true,.fn,1,8,z265,[]⟩
def z268 : LV:=[.nilFunc]
def WD : TI:=⟨true,.fn,1,8,z268,[]⟩
def z284 : LV:=[.map none]
def WE : TI:=⟨true,.map 9 219,1,8,z284,[]⟩
def z294 : LV:=[.int .i64 0,.string (mkStr [])]
def WG : TI:=⟨true,.struct [(0,3),(1,9)],2,24,z294,[]⟩
def z295 : LV:=[.slice none 0 0]
def WH : TI:=⟨true,.slice 297,1,24,z295,[]⟩
def z297 : LV:=[.int .i64 0,.slice none 0 0]
def WI : TI:=⟨true,.struct [(0,3),(1,86)],2,32,z297,[]⟩
def z303 : LV:=[.int .i64 0,.int .i64 0,.slice none 0 0]
def WJ : TI:=⟨true,.struct [(0,3),(1,3),(2,86)],3,40,z303,[]⟩
def abO : LV:=[.int .i64 0,.int .i64 0]
def WK : TI:=⟨true,.struct [(0,3),(1,3)],2,16,abO,[]⟩
def z311 : LV:=[.nilFunc]
def WL : TI:=⟨true,.fn,1,8,z311,[]⟩
def z325 : LV:=[.int .u32 0]
def WM : TI:=⟨true,.int .u32,1,4,z325,[]⟩
def z329 : LV:=[.nilFunc]
def WN : TI:=⟨true,.fn,1,8,z329,[]⟩
def abP : LV:=[.nilFunc,.nilFunc,.nilFunc,.nilFunc]
def WO : TI:=⟨true,.arr 4 329,4,32,abP,[]⟩
def z348 : LV:=[.slice none 0 0]
def WQ : TI:=⟨true,.slice 86,1,24,z348,[]⟩
def z351 : LV:=[.slice none 0 0]
def WR : TI:=⟨true,.slice 354,1,24,z351,[]⟩
def z354 : LV:=[.nilFunc]
def WS : TI:=⟨true,.fn,1,8,z354,[]⟩
def abQ : LV:=(.int .i64 0)::List.replicate 512 (.int .u8 0)
def WT : TI:=⟨true,.struct [(0,3),(1,237)],513,520,abQ,[]⟩
def Yu : LV:=List.replicate 256 (.bool false)
def WU : TI:=⟨true,.arr 256 4,256,256,Yu,[]⟩
def z365 : LV:=[.slice none 0 0]
def WV : TI:=⟨true,.slice 307,1,24,z365,[]⟩
def Yv : LV:=[.int .i64 0,.int .i64 0,.int .i64 0,.int .i64 0,.int .i64 0,.int .i64 0,.int .i64 0,.int .i64 0,.int .i64 0,.int .i64 0,.int .i64 0,.int .i64 0]
def WW : TI:=⟨true,.arr 12 3,12,96,Yv,[]⟩
def z373 : LV:=[.bool false,.bool false,.bool false,.bool false,.bool false,.bool false,.bool false,.bool false,.bool false]
def WX : TI:=⟨true,.arr 9 4,9,9,z373,[]⟩
def abR : LV:=[.pointer none,.slice none 0 0]
def WY : TI:=⟨true,.struct [(0,401),(1,86)],2,32,abR,[]⟩
def Yw : LV:=[.int .i64 0,.int .i64 0,.int .i64 0,.int .i64 0]
def WZ : TI:=⟨true,.struct [(0,3),(1,3),(2,3),(3,3)],4,32,Yw,[]⟩
def z440 : LV:=List.replicate 16 (.int .u32 0)
def W0 : TI:=⟨true,.arr 16 325,16,64,z440,[]⟩
def z442 : LV:=List.replicate 32 (.int .u32 0)
def W1 : TI:=⟨true,.arr 32 325,32,128,z442,[]⟩
def KV : List (Nat×TI):=[(1,ti1),(3,qP),(4,ti4),(5,yx),(9,tN),(21,abm),(22,abn),(23,abo),(25,abp),(28,abq),(29,abr),(31,abt),(34,abu),(41,abv),(49,abw),(51,abx),(52,aby),(54,abz),(55,abA),(59,GS),(60,abB),(61,abC),(63,abD),(66,abE),(72,abF),(78,abG),(83,abH),(85,abI),(86,Ys),(91,abJ),(94,abK),(97,abL),(98,abM),(105,VR),(113,mB),(114,VS),(116,VT),(117,VU),(119,VV),(121,VW),(123,VX),(125,VY),(130,VZ),(131,V0),(133,V1),(144,V2),(150,V3),(157,V4),(160,V5),(170,V6),(175,V7),(179,V8),(181,V9),(191,V'),(193,Wa),(195,Wb),(196,We),(198,Wg),(201,Wh),(207,Wi),(208,Wj),(210,Wm),(219,KU),(232,Wn),(233,Wp),(235,Wq),(237,Wt),(239,Wu),(243,Wv),(245,Ww),(257,Wy),(261,Wz),(263,WA),(264,WB),(265,WC),(268,WD),(284,WE),(294,WG),(295,WH),(297,WI),(303,WJ),(307,WK),(311,WL),(325,WM),(329,WN),(331,WO),(348,WQ),(351,WR),(354,WS),(358,WT),(361,WU),(365,WV),(371,WW),(373,WX),(403,WY),(408,WZ),(440,W0),(442,W1)]
def Yx : List (Nat×List Ty):=[(0,[]),(3,[.int .i64]),(4,[.bool]),(9,[.str]),(23,[.ptr]),(25,[.agg]),(26,[.ptr,.agg]),(34,[.int .i64]),(35,[.slice,.int .i64,.int .i64]),(38,[.int .i64,.int .i64]),(41,[.slice]),(42,[.slice,.int .i64]),(55,[.slice]),(56,[.ptr,.agg,.slice,.bool]),(60,[.slice]),(61,[.slice]),(66,[.agg]),(67,[.agg,.int .i64]),(72,[.agg]),(76,[.slice,.int .i64]),(86,[.slice]),(87,[.slice,.agg]),(89,[.ptr,.bool]),(92,[.ptr,.int .i64]),(94,[.ptr]),(98,[.agg]),(99,[.agg,.int .i64]),(107,[.slice,.str,.int .i64]),(123,[.agg]),(126,[.ptr,.int .i64]),(134,[.slice,.bool]),(144,[.agg]),(147,[.any]),(157,[.ptr]),(168,[.agg,.int .i64]),(171,[.slice,.slice,.int .i64]),(176,[.ptr]),(213,[.any]),(217,[.any]),(220,[.any,.bool]),(229,[.slice,.int .i64]),(251,[.agg,.int .i64,.int .i64]),(266,[.slice,.slice,.int .i64]),(269,[.bool,.int .i64]),(273,[.int .i64,.slice,.int .i64,.int .i64]),(277,[.slice,.bool]),(279,[.agg,.agg,.int .i64]),(281,[.int .i64,.int .i64,.int .i64]),(286,[.any]),(309,[.int .i64,.str,.bool]),(311,[.clo]),(325,[.int .u32]),(327,[.int .u64,.int .i64]),(339,[.str,.int .i64]),(341,[.slice,.bool,.int .i64]),(362,[.agg,.bool]),(365,[.slice]),(367,[.int .i64,.slice,.int .i64]),(369,[.ptr]),(371,[.agg]),(385,[.slice,.int .i64]),(405,[.any]),(412,[.int .i64,.any]),(416,[.int .i64,.slice]),(420,[.slice,.int .i64]),(422,[.int .u32,.int .i64]),(442,[.agg])]
def Ji : List Nat:=[288]
def Yy : List Nat:=[]
noncomputable def cx(loops:Nat->List Nat×List (Nat×Ty))(qE:Nat->Od):Ctx:=⟨Tryz.prog,OT KV,VD Yx,loops,qE,Ji,Yy⟩
theorem Pr : KA Tryz.prog 288:=aa1 Tryz.func288 (by kernel_rfl) (by kernel_rfl) (by kernel_rfl) (by kernel_rfl)
theorem MA : ∀g∈Ji,KA Tryz.prog g:=by
 simp only[Ji,List.forall_mem_cons];exact⟨Pr,λ_ h=>absurd h List.not_mem_nil⟩
theorem abS : bA Tryz.prog 1 ti1:=⟨by kernel_rfl,by kernel_rfl,by kernel_rfl,by kernel_rfl,by kernel_rfl⟩
theorem abT : bA Tryz.prog 3 qP:=⟨by kernel_rfl,by kernel_rfl,by kernel_rfl,by kernel_rfl,by kernel_rfl⟩
theorem abU : bA Tryz.prog 4 ti4:=⟨by kernel_rfl,by kernel_rfl,by kernel_rfl,by kernel_rfl,by kernel_rfl⟩
theorem abV : bA Tryz.prog 5 yx:=⟨by kernel_rfl,by kernel_rfl,by kernel_rfl,by kernel_rfl,by kernel_rfl⟩
theorem abW : bA Tryz.prog 9 tN:=⟨by kernel_rfl,by kernel_rfl,by kernel_rfl,by kernel_rfl,by kernel_rfl⟩
theorem Yz : bA Tryz.prog 21 abm:=⟨by kernel_rfl,by kernel_rfl,by kernel_rfl,by kernel_rfl,by kernel_rfl⟩
theorem YA : bA Tryz.prog 22 abn:=⟨by kernel_rfl,by kernel_rfl,by kernel_rfl,by kernel_rfl,by kernel_rfl⟩
theorem YB : bA Tryz.prog 23 abo:=⟨by kernel_rfl,by kernel_rfl,by kernel_rfl,by kernel_rfl,by kernel_rfl⟩
theorem YC : bA Tryz.prog 25 abp:=⟨by kernel_rfl,by kernel_rfl,by kernel_rfl,by kernel_rfl,by kernel_rfl⟩
theorem YD : bA Tryz.prog 28 abq:=⟨by kernel_rfl,by kernel_rfl,by kernel_rfl,by kernel_rfl,by kernel_rfl⟩
theorem YE : bA Tryz.prog 29 abr:=⟨by kernel_rfl,by kernel_rfl,by kernel_rfl,by kernel_rfl,by kernel_rfl⟩
theorem YF : bA Tryz.prog 31 abt:=⟨by kernel_rfl,by kernel_rfl,by kernel_rfl,by kernel_rfl,by kernel_rfl⟩
theorem YG : bA Tryz.prog 34 abu:=⟨by kernel_rfl,by kernel_rfl,by kernel_rfl,by kernel_rfl,by kernel_rfl⟩
theorem YH : bA Tryz.prog 41 abv:=⟨by kernel_rfl,by kernel_rfl,by kernel_rfl,by kernel_rfl,by kernel_rfl⟩
theorem YI : bA Tryz.prog 49 abw:=⟨by kernel_rfl,by kernel_rfl,by kernel_rfl,by kernel_rfl,by kernel_rfl⟩
theorem YJ : bA Tryz.prog 51 abx:=⟨by kernel_rfl,by kernel_rfl,by kernel_rfl,by kernel_rfl,by kernel_rfl⟩
theorem YK : bA Tryz.prog 52 aby:=⟨by kernel_rfl,by kernel_rfl,by kernel_rfl,by kernel_rfl,by kernel_rfl⟩
theorem YL : bA Tryz.prog 54 abz:=⟨by kernel_rfl,by kernel_rfl,by kernel_rfl,by kernel_rfl,by kernel_rfl⟩
theorem YM : bA Tryz.prog 55 abA:=⟨by kernel_rfl,by kernel_rfl,by kernel_rfl,by kernel_rfl,by kernel_rfl⟩
theorem YN : bA Tryz.prog 59 GS:=⟨by kernel_rfl,by kernel_rfl,by kernel_rfl,by kernel_rfl,by kernel_rfl⟩
theorem YO : bA Tryz.prog 60 abB:=⟨by kernel_rfl,by kernel_rfl,by kernel_rfl,by kernel_rfl,by kernel_rfl⟩
theorem YP : bA Tryz.prog 61 abC:=⟨by kernel_rfl,by kernel_rfl,by kernel_rfl,by kernel_rfl,by kernel_rfl⟩
theorem YQ : bA Tryz.prog 63 abD:=⟨by kernel_rfl,by kernel_rfl,by kernel_rfl,by kernel_rfl,by kernel_rfl⟩
theorem YR : bA Tryz.prog 66 abE:=⟨by kernel_rfl,by kernel_rfl,by kernel_rfl,by kernel_rfl,by kernel_rfl⟩
theorem YS : bA Tryz.prog 72 abF:=⟨by kernel_rfl,by kernel_rfl,by kernel_rfl,by kernel_rfl,by kernel_rfl⟩
theorem YT : bA Tryz.prog 78 abG:=⟨by kernel_rfl,by kernel_rfl,by kernel_rfl,by kernel_rfl,by kernel_rfl⟩
theorem YU : bA Tryz.prog 83 abH:=⟨by kernel_rfl,by kernel_rfl,by kernel_rfl,by kernel_rfl,by kernel_rfl⟩
theorem YV : bA Tryz.prog 85 abI:=⟨by kernel_rfl,by kernel_rfl,by kernel_rfl,by kernel_rfl,by kernel_rfl⟩
theorem YW : bA Tryz.prog 86 Ys:=⟨by kernel_rfl,by kernel_rfl,by kernel_rfl,by kernel_rfl,by kernel_rfl⟩
theorem YX : bA Tryz.prog 91 abJ:=⟨by kernel_rfl,by kernel_rfl,by kernel_rfl,by kernel_rfl,by kernel_rfl⟩
theorem YY : bA Tryz.prog 94 abK:=⟨by kernel_rfl,by kernel_rfl,by kernel_rfl,by kernel_rfl,by kernel_rfl⟩
theorem YZ : bA Tryz.prog 97 abL:=⟨by kernel_rfl,by kernel_rfl,by kernel_rfl,by kernel_rfl,by kernel_rfl⟩
theorem Y0 : bA Tryz.prog 98 abM:=⟨by kernel_rfl,by kernel_rfl,by kernel_rfl,by kernel_rfl,by kernel_rfl⟩
theorem SK : bA Tryz.prog 105 VR:=⟨by kernel_rfl,by kernel_rfl,by kernel_rfl,by kernel_rfl,by kernel_rfl⟩
theorem SL : bA Tryz.prog 113 mB:=⟨by kernel_rfl,by kernel_rfl,by kernel_rfl,by kernel_rfl,by kernel_rfl⟩
theorem SM : bA Tryz.prog 114 VS:=⟨by kernel_rfl,by kernel_rfl,by kernel_rfl,by kernel_rfl,by kernel_rfl⟩
theorem SN : bA Tryz.prog 116 VT:=⟨by kernel_rfl,by kernel_rfl,by kernel_rfl,by kernel_rfl,by kernel_rfl⟩
theorem SO : bA Tryz.prog 117 VU:=⟨by kernel_rfl,by kernel_rfl,by kernel_rfl,by kernel_rfl,by kernel_rfl⟩
theorem SP : bA Tryz.prog 119 VV:=⟨by kernel_rfl,by kernel_rfl,by kernel_rfl,by kernel_rfl,by kernel_rfl⟩
theorem SQ : bA Tryz.prog 121 VW:=⟨by kernel_rfl,by kernel_rfl,by kernel_rfl,by kernel_rfl,by kernel_rfl⟩
theorem SR : bA Tryz.prog 123 VX:=⟨by kernel_rfl,by kernel_rfl,by kernel_rfl,by kernel_rfl,by kernel_rfl⟩
theorem SS : bA Tryz.prog 125 VY:=⟨by kernel_rfl,by kernel_rfl,by kernel_rfl,by kernel_rfl,by kernel_rfl⟩
theorem SU : bA Tryz.prog 130 VZ:=⟨by kernel_rfl,by kernel_rfl,by kernel_rfl,by kernel_rfl,by kernel_rfl⟩
theorem SV : bA Tryz.prog 131 V0:=⟨by kernel_rfl,by kernel_rfl,by kernel_rfl,by kernel_rfl,by kernel_rfl⟩
theorem SX : bA Tryz.prog 133 V1:=⟨by kernel_rfl,by kernel_rfl,by kernel_rfl,by kernel_rfl,by kernel_rfl⟩
theorem SY : bA Tryz.prog 144 V2:=⟨by kernel_rfl,by kernel_rfl,by kernel_rfl,by kernel_rfl,by kernel_rfl⟩
theorem SZ : bA Tryz.prog 150 V3:=⟨by kernel_rfl,by kernel_rfl,by kernel_rfl,by kernel_rfl,by kernel_rfl⟩
theorem S0 : bA Tryz.prog 157 V4:=⟨by kernel_rfl,by kernel_rfl,by kernel_rfl,by kernel_rfl,by kernel_rfl⟩
theorem S' : bA Tryz.prog 160 V5:=⟨by kernel_rfl,by kernel_rfl,by kernel_rfl,by kernel_rfl,by kernel_rfl⟩
theorem Ta : bA Tryz.prog 170 V6:=⟨by kernel_rfl,by kernel_rfl,by kernel_rfl,by kernel_rfl,by kernel_rfl⟩
theorem Tb : bA Tryz.prog 175 V7:=⟨by kernel_rfl,by kernel_rfl,by kernel_rfl,by kernel_rfl,by kernel_rfl⟩
theorem Tc : bA Tryz.prog 179 V8:=⟨by kernel_rfl,by kernel_rfl,by kernel_rfl,by kernel_rfl,by kernel_rfl⟩
theorem Td : bA Tryz.prog 181 V9:=⟨by kernel_rfl,by kernel_rfl,by kernel_rfl,by kernel_rfl,by kernel_rfl⟩
theorem Te : bA Tryz.prog 191 V':=⟨by kernel_rfl,by kernel_rfl,by kernel_rfl,by kernel_rfl,by kernel_rfl⟩
theorem Tf : bA Tryz.prog 193 Wa:=⟨by kernel_rfl,by kernel_rfl,by kernel_rfl,by kernel_rfl,by kernel_rfl⟩
theorem Tg : bA Tryz.prog 195 Wb:=⟨by kernel_rfl,by kernel_rfl,by kernel_rfl,by kernel_rfl,by kernel_rfl⟩
theorem Ti : bA Tryz.prog 196 We:=⟨by kernel_rfl,by kernel_rfl,by kernel_rfl,by kernel_rfl,by kernel_rfl⟩
theorem Tj : bA Tryz.prog 198 Wg:=⟨by kernel_rfl,by kernel_rfl,by kernel_rfl,by kernel_rfl,by kernel_rfl⟩
theorem Tk : bA Tryz.prog 201 Wh:=⟨by kernel_rfl,by kernel_rfl,by kernel_rfl,by kernel_rfl,by kernel_rfl⟩
theorem Tl : bA Tryz.prog 207 Wi:=⟨by kernel_rfl,by kernel_rfl,by kernel_rfl,by kernel_rfl,by kernel_rfl⟩
theorem Tn : bA Tryz.prog 208 Wj:=⟨by kernel_rfl,by kernel_rfl,by kernel_rfl,by kernel_rfl,by kernel_rfl⟩
theorem Tp : bA Tryz.prog 210 Wm:=⟨by kernel_rfl,by kernel_rfl,by kernel_rfl,by kernel_rfl,by kernel_rfl⟩
theorem Tq : bA Tryz.prog 219 KU:=⟨by kernel_rfl,by kernel_rfl,by kernel_rfl,by kernel_rfl,by kernel_rfl⟩
theorem Tu : bA Tryz.prog 232 Wn:=⟨by kernel_rfl,by kernel_rfl,by kernel_rfl,by kernel_rfl,by kernel_rfl⟩
theorem Tv : bA Tryz.prog 233 Wp:=⟨by kernel_rfl,by kernel_rfl,by kernel_rfl,by kernel_rfl,by kernel_rfl⟩
theorem Tw : bA Tryz.prog 235 Wq:=⟨by kernel_rfl,by kernel_rfl,by kernel_rfl,by kernel_rfl,by kernel_rfl⟩
theorem Tz : bA Tryz.prog 237 Wt:=⟨by kernel_rfl,by kernel_rfl,by kernel_rfl,by kernel_rfl,by kernel_rfl⟩
theorem TA : bA Tryz.prog 239 Wu:=⟨by kernel_rfl,by kernel_rfl,by kernel_rfl,by kernel_rfl,by kernel_rfl⟩
theorem TB : bA Tryz.prog 243 Wv:=⟨by kernel_rfl,by kernel_rfl,by kernel_rfl,by kernel_rfl,by kernel_rfl⟩
theorem TC : bA Tryz.prog 245 Ww:=⟨by kernel_rfl,by kernel_rfl,by kernel_rfl,by kernel_rfl,by kernel_rfl⟩
theorem TD : bA Tryz.prog 257 Wy:=⟨by kernel_rfl,by kernel_rfl,by kernel_rfl,by kernel_rfl,by kernel_rfl⟩
theorem TE : bA Tryz.prog 261 Wz:=⟨by kernel_rfl,by kernel_rfl,by kernel_rfl,by kernel_rfl,by kernel_rfl⟩
theorem TF : bA Tryz.prog 263 WA:=⟨by kernel_rfl,by kernel_rfl,by kernel_rfl,by kernel_rfl,by kernel_rfl⟩
theorem TG : bA Tryz.prog 264 WB:=⟨by kernel_rfl,by kernel_rfl,by kernel_rfl,by kernel_rfl,by kernel_rfl⟩
theorem TH : bA Tryz.prog 265 WC:=⟨by kernel_rfl,by kernel_rfl,by kernel_rfl,by kernel_rfl,by kernel_rfl⟩
theorem TJ : bA Tryz.prog 268 WD:=⟨by kernel_rfl,by kernel_rfl,by kernel_rfl,by kernel_rfl,by kernel_rfl⟩
theorem TK : bA Tryz.prog 284 WE:=⟨by kernel_rfl,by kernel_rfl,by kernel_rfl,by kernel_rfl,by kernel_rfl⟩
theorem TL : bA Tryz.prog 294 WG:=⟨by kernel_rfl,by kernel_rfl,by kernel_rfl,by kernel_rfl,by kernel_rfl⟩
theorem TN : bA Tryz.prog 295 WH:=⟨by kernel_rfl,by kernel_rfl,by kernel_rfl,by kernel_rfl,by kernel_rfl⟩
theorem TO : bA Tryz.prog 297 WI:=⟨by kernel_rfl,by kernel_rfl,by kernel_rfl,by kernel_rfl,by kernel_rfl⟩
theorem TP : bA Tryz.prog 303 WJ:=⟨by kernel_rfl,by kernel_rfl,by kernel_rfl,by kernel_rfl,by kernel_rfl⟩
theorem TQ : bA Tryz.prog 307 WK:=⟨by kernel_rfl,by kernel_rfl,by kernel_rfl,by kernel_rfl,by kernel_rfl⟩
theorem TT : bA Tryz.prog 311 WL:=⟨by kernel_rfl,by kernel_rfl,by kernel_rfl,by kernel_rfl,by kernel_rfl⟩
theorem TU : bA Tryz.prog 325 WM:=⟨by kernel_rfl,by kernel_rfl,by kernel_rfl,by kernel_rfl,by kernel_rfl⟩
theorem TV : bA Tryz.prog 329 WN:=⟨by kernel_rfl,by kernel_rfl,by kernel_rfl,by kernel_rfl,by kernel_rfl⟩
theorem TW : bA Tryz.prog 331 WO:=⟨by kernel_rfl,by kernel_rfl,by kernel_rfl,by kernel_rfl,by kernel_rfl⟩
theorem TX : bA Tryz.prog 348 WQ:=⟨by kernel_rfl,by kernel_rfl,by kernel_rfl,by kernel_rfl,by kernel_rfl⟩
theorem TY : bA Tryz.prog 351 WR:=⟨by kernel_rfl,by kernel_rfl,by kernel_rfl,by kernel_rfl,by kernel_rfl⟩
theorem TZ : bA Tryz.prog 354 WS:=⟨by kernel_rfl,by kernel_rfl,by kernel_rfl,by kernel_rfl,by kernel_rfl⟩
theorem T0 : bA Tryz.prog 358 WT:=⟨by kernel_rfl,by kernel_rfl,by kernel_rfl,by kernel_rfl,by kernel_rfl⟩
theorem T1 : bA Tryz.prog 361 WU:=⟨by kernel_rfl,by kernel_rfl,by kernel_rfl,by kernel_rfl,by kernel_rfl⟩
theorem T3 : bA Tryz.prog 365 WV:=⟨by kernel_rfl,by kernel_rfl,by kernel_rfl,by kernel_rfl,by kernel_rfl⟩
theorem T4 : bA Tryz.prog 371 WW:=⟨by kernel_rfl,by kernel_rfl,by kernel_rfl,by kernel_rfl,by kernel_rfl⟩
theorem T5 : bA Tryz.prog 373 WX:=⟨by kernel_rfl,by kernel_rfl,by kernel_rfl,by kernel_rfl,by kernel_rfl⟩
theorem T6 : bA Tryz.prog 403 WY:=⟨by kernel_rfl,by kernel_rfl,by kernel_rfl,by kernel_rfl,by kernel_rfl⟩
theorem T7 : bA Tryz.prog 408 WZ:=⟨by kernel_rfl,by kernel_rfl,by kernel_rfl,by kernel_rfl,by kernel_rfl⟩
theorem T8 : bA Tryz.prog 440 W0:=⟨by kernel_rfl,by kernel_rfl,by kernel_rfl,by kernel_rfl,by kernel_rfl⟩
theorem Ua : bA Tryz.prog 442 W1:=⟨by kernel_rfl,by kernel_rfl,by kernel_rfl,by kernel_rfl,by kernel_rfl⟩
theorem Ps : ∀x∈KV,bA Tryz.prog x.1 x.2:=by
 simp only[KV,List.forall_mem_cons];exact⟨abS,abT,abU,abV,abW,Yz,YA,YB,YC,YD,YE,YF,YG,YH,YI,YJ,YK,YL,YM,YN,YO,YP,YQ,YR,YS,YT,YU,YV,YW,YX,YY,YZ,Y0,SK,SL,SM,SN,SO,SP,SQ,SR,SS,SU,SV,SX,SY,SZ,S0,S',Ta,Tb,Tc,Td,Te,Tf,Tg,Ti,Tj,Tk,Tl,Tn,Tp,Tq,Tu,Tv,Tw,Tz,TA,TB,TC,TD,TE,TF,TG,TH,TJ,TK,TL,TN,TO,TP,TQ,TT,TU,TV,TW,TX,TY,TZ,T0,T1,T3,T4,T5,T6,T7,T8,Ua,λ_ h=>absurd h List.not_mem_nil⟩
theorem abX(loops:Nat->List Nat×List (Nat×Ty))(qE:Nat->Od):jQ (cx loops qE):=⟨MA,KB KV Ps,by kernel_rfl⟩
def C.aQ(s1:LV)(kF:OA)(jN:Nat)(kG:Nat)(h:ab)(k:KT):Prop:=ao Tryz.prog 8 [.agg ⟨s1⟩,.slice kF jN kG] h k
def C.pN(t1:OA)(g1:LV)(n1:Int)(h:ab)(k:KT):Prop:=ao Tryz.prog 20 [.pointer t1,.agg ⟨g1⟩,.int .i64 n1] h k
def C.oz(t1:OA)(g1:LV)(n1:Int)(aZ:ByteArray)(h:ab)(k:KT):Prop:=ao Tryz.prog 26 [.pointer t1,.agg ⟨g1⟩,.int .i64 n1,.string aZ] h k
def C.eU (h:ab)(k:KT):Prop:=ao Tryz.prog 28 [] h k
def C.pg(t1:OA)(g1:LV)(s1:ByteArray)(lE:Bool)(h:ab)(k:KT):Prop:=ao Tryz.prog 30 [.pointer t1,.agg ⟨g1⟩,.string s1,.bool lE] h k
def C.mC(t1:OA)(g1:LV)(s1:ByteArray)(h:ab)(k:KT):Prop:=ao Tryz.prog 31 [.pointer t1,.agg ⟨g1⟩,.string s1] h k
def C.eV(e1:Int)(h:ab)(k:KT):Prop:=ao Tryz.prog 32 [.int .i64 e1] h k
def C.mr(s1:ByteArray)(h:ab)(k:KT):Prop:=ao Tryz.prog 35 [.string s1] h k
def C.eG(aA1:OA)(W2:Nat)(aC1:Nat)(cJ:OA)(dE:Nat)(df:Nat)(h:ab)(k:KT):Prop:=ao Tryz.prog 36 [.slice aA1 W2 aC1,.slice cJ dE df] h k
def C.fK(t1:OA)(g1:LV)(n1:Int)(h:ab)(k:KT):Prop:=ao Tryz.prog 37 [.pointer t1,.agg ⟨g1⟩,.int .i64 n1] h k
def C.bg(s1:LV)(h:ab)(k:KT):Prop:=ao Tryz.prog 39 [.agg ⟨s1⟩] h k
def C.dO(cJ:OA)(dE:Nat)(df:Nat)(h:ab)(k:KT):Prop:=ao Tryz.prog 40 [.slice cJ dE df] h k
def C.je(kC:OA)(iu:Nat)(kD:Nat)(h:ab)(k:KT):Prop:=ao Tryz.prog 41 [.slice kC iu kD] h k
def C.gm(d1:OA)(h:ab)(k:KT):Prop:=ao Tryz.prog 42 [.pointer d1] h k
def C.jZ(t1:OA)(g1:LV)(s1:ByteArray)(lE:Bool)(h:ab)(k:KT):Prop:=ao Tryz.prog 43 [.pointer t1,.agg ⟨g1⟩,.string s1,.bool lE] h k
def C.dP(t1:OA)(g1:LV)(s1:ByteArray)(h:ab)(k:KT):Prop:=ao Tryz.prog 44 [.pointer t1,.agg ⟨g1⟩,.string s1] h k
def C.cv(t1:OA)(g1:LV)(n1:Int)(h:ab)(k:KT):Prop:=ao Tryz.prog 45 [.pointer t1,.agg ⟨g1⟩,.int .i64 n1] h k
def C.gn(t1:OA)(h:ab)(k:KT):Prop:=ao Tryz.prog 46 [.pointer t1] h k
def C.ku(s1:ByteArray)(h:ab)(k:KT):Prop:=ao Tryz.prog 48 [.string s1] h k
def C.cY(n1:OA)(aZ:ByteArray)(h:ab)(k:KT):Prop:=ao Tryz.prog 49 [.pointer n1,.string aZ] h k
def C.gM(n1:Int)(h:ab)(k:KT):Prop:=ao Tryz.prog 51 [.int .i64 n1] h k
def C.kN(kC:OA)(iu:Nat)(kD:Nat)(h:ab)(k:KT):Prop:=ao Tryz.prog 53 [.slice kC iu kD] h k
def C.nH(d1:OA)(h:ab)(k:KT):Prop:=ao Tryz.prog 61 [.pointer d1] h k
def C.mD(s1:ByteArray)(h:ab)(k:KT):Prop:=ao Tryz.prog 63 [.string s1] h k
def C.oA(t1:OA)(g1:LV)(n1:Int)(h:ab)(k:KT):Prop:=ao Tryz.prog 65 [.pointer t1,.agg ⟨g1⟩,.int .i64 n1] h k
def C.fw(r1:OA)(h:ab)(k:KT):Prop:=ao Tryz.prog 66 [.pointer r1] h k
def C.pO(t1:OA)(g1:LV)(n1:Int)(aZ:ByteArray)(h:ab)(k:KT):Prop:=ao Tryz.prog 74 [.pointer t1,.agg ⟨g1⟩,.int .i64 n1,.string aZ] h k
def C.fC(Ub:OA)(Uc:Nat)(Ud:Nat)(cmp1:Value)(h:ab)(k:KT):Prop:=ao Tryz.prog 78 [.slice Ub Uc Ud,cmp1] h k
def C.pP(t1:OA)(g1:LV)(n1:Int)(h:ab)(k:KT):Prop:=ao Tryz.prog 83 [.pointer t1,.agg ⟨g1⟩,.int .i64 n1] h k
def C.ak(s1:LV)(h:ab)(k:KT):Prop:=ao Tryz.prog 85 [.agg ⟨s1⟩] h k
def C.kO(t1:OA)(g1:LV)(uK:OA)(uL:Nat)(uM:Nat)(h:ab)(k:KT):Prop:=ao Tryz.prog 86 [.pointer t1,.agg ⟨g1⟩,.slice uK uL uM] h k
def C.eW(w1:OA)(h:ab)(k:KT):Prop:=ao Tryz.prog 87 [.pointer w1] h k
def C.dz(w1:OA)(aZ:ByteArray)(n1:Int)(h:ab)(k:KT):Prop:=ao Tryz.prog 88 [.pointer w1,.string aZ,.int .i64 n1] h k
def C.eX(r1:OA)(h:ab)(k:KT):Prop:=ao Tryz.prog 89 [.pointer r1] h k
def C.jk(s1:ByteArray)(uN:Bool)(h:ab)(k:KT):Prop:=ao Tryz.prog 90 [.string s1,.bool uN] h k
def C.fH(s1:ByteArray)(DD:Int)(h:ab)(k:KT):Prop:=ao Tryz.prog 91 [.string s1,.int .i64 DD] h k
def C.ja(t1:OA)(g1:LV)(n1:Int)(h:ab)(k:KT):Prop:=ao Tryz.prog 92 [.pointer t1,.agg ⟨g1⟩,.int .i64 n1] h k
def C.oN(Ub:OA)(Uc:Nat)(Ud:Nat)(h:ab)(k:KT):Prop:=ao Tryz.prog 93 [.slice Ub Uc Ud] h k
def C.dM(aX:OA)(aK:Nat)(bJ:Nat)(h:ab)(k:KT):Prop:=ao Tryz.prog 94 [.slice aX aK bJ] h k
def C.cO(s1:LV)(h:ab)(k:KT):Prop:=ao Tryz.prog 95 [.agg ⟨s1⟩] h k
def C.fD(cJ:OA)(dE:Nat)(df:Nat)(n1:Int)(h:ab)(k:KT):Prop:=ao Tryz.prog 96 [.slice cJ dE df,.int .i64 n1] h k
def C.fh(cJ:OA)(dE:Nat)(df:Nat)(h:ab)(k:KT):Prop:=ao Tryz.prog 97 [.slice cJ dE df] h k
def C.dA(s1:ByteArray)(h:ab)(k:KT):Prop:=ao Tryz.prog 98 [.string s1] h k
def C.au(w1:OA)(h:ab)(k:KT):Prop:=ao Tryz.prog 99 [.pointer w1] h k
def C.dQ(s1:ByteArray)(h:ab)(k:KT):Prop:=ao Tryz.prog 100 [.string s1] h k
def C.dx(w1:OA)(h:ab)(k:KT):Prop:=ao Tryz.prog 101 [.pointer w1] h k
def C.gO(t1:OA)(g1:LV)(n1:Int)(aZ:ByteArray)(h:ab)(k:KT):Prop:=ao Tryz.prog 102 [.pointer t1,.agg ⟨g1⟩,.int .i64 n1,.string aZ] h k
def C.ey(w1:OA)(h:ab)(k:KT):Prop:=ao Tryz.prog 103 [.pointer w1] h k
def C.eY(t1:OA)(g1:LV)(n1:Int)(h:ab)(k:KT):Prop:=ao Tryz.prog 104 [.pointer t1,.agg ⟨g1⟩,.int .i64 n1] h k
def C.cQ(t1:OA)(g1:LV)(n1:Int)(h:ab)(k:KT):Prop:=ao Tryz.prog 105 [.pointer t1,.agg ⟨g1⟩,.int .i64 n1] h k
def C.qq(seq1:Value)(h:ab)(k:KT):Prop:=ao Tryz.prog 106 [seq1] h k
def C.bX(m1:Option Nat)(h:ab)(k:KT):Prop:=ao Tryz.prog 107 [.map m1] h k
def C.cL(s1:ByteArray)(h:ab)(k:KT):Prop:=ao Tryz.prog 108 [.string s1] h k
def C.jR(s1:ByteArray)(h:ab)(k:KT):Prop:=ao Tryz.prog 109 [.string s1] h k
def C.jb(s1:ByteArray)(h:ab)(k:KT):Prop:=ao Tryz.prog 110 [.string s1] h k
def C.gD(x1:LV)(h:ab)(k:KT):Prop:=ao Tryz.prog 119 [.agg ⟨x1⟩] h k
def C.nI(n1:Int)(h:ab)(k:KT):Prop:=ao Tryz.prog 120 [.int .i64 n1] h k
def C.eA(t1:OA)(i1:Int)(h:ab)(k:KT):Prop:=ao Tryz.prog 130 [.pointer t1,.int .i64 i1] h k
def C.bu(t1:OA)(i1:Int)(h:ab)(k:KT):Prop:=ao Tryz.prog 131 [.pointer t1,.int .i64 i1] h k
def C.fv(s1:ByteArray)(fN:ByteArray)(h:ab)(k:KT):Prop:=ao Tryz.prog 134 [.string s1,.string fN] h k
def C.aD(gu:Value)(x1:OA)(h:ab)(k:KT):Prop:=ao Tryz.prog 135 [gu,.pointer x1] h k
def C.jK(t1:OA)(g1:LV)(x1:LV)(k1:Int)(h:ab)(k:KT):Prop:=ao Tryz.prog 136 [.pointer t1,.agg ⟨g1⟩,.agg ⟨x1⟩,.int .i64 k1] h k
def C.eB(r1:OA)(e1:Int)(h:ab)(k:KT):Prop:=ao Tryz.prog 137 [.pointer r1,.int .i64 e1] h k
def C.mv(cJ:OA)(dE:Nat)(df:Nat)(h:ab)(k:KT):Prop:=ao Tryz.prog 138 [.slice cJ dE df] h k
def C.kP(cJ:OA)(dE:Nat)(df:Nat)(k1:Int)(h:ab)(k:KT):Prop:=ao Tryz.prog 143 [.slice cJ dE df,.int .i64 k1] h k
def C.iI(f1:OA)(te:Int)(h:ab)(k:KT):Prop:=ao Tryz.prog 151 [.pointer f1,.int .i64 te] h k
def C.iA(s1:ByteArray)(h:ab)(k:KT):Prop:=ao Tryz.prog 157 [.string s1] h k
def C.cR(i1:Int)(h:ab)(k:KT):Prop:=ao Tryz.prog 158 [.int .i64 i1] h k
def C.gP(s1:ByteArray)(h:ab)(k:KT):Prop:=ao Tryz.prog 159 [.string s1] h k
def C.fT(r1:OA)(h:ab)(k:KT):Prop:=ao Tryz.prog 160 [.pointer r1] h k
def C.jS(r1:OA)(h:ab)(k:KT):Prop:=ao Tryz.prog 161 [.pointer r1] h k
def C.jl(w1:OA)(zk:Int)(n1:Int)(h:ab)(k:KT):Prop:=ao Tryz.prog 162 [.pointer w1,.int .i64 zk,.int .i64 n1] h k
def C.eI(aX:OA)(aK:Nat)(bJ:Nat)(h:ab)(k:KT):Prop:=ao Tryz.prog 163 [.slice aX aK bJ] h k
def C.dF(s1:ByteArray)(c1:Int)(h:ab)(k:KT):Prop:=ao Tryz.prog 164 [.string s1,.int .u8 c1] h k
def C.jm(g1:LV)(n1:Int)(h:ab)(k:KT):Prop:=ao Tryz.prog 165 [.agg ⟨g1⟩,.int .i64 n1] h k
def C.kQ(t1:OA)(g1:LV)(n1:Int)(h:ab)(k:KT):Prop:=ao Tryz.prog 166 [.pointer t1,.agg ⟨g1⟩,.int .i64 n1] h k
def C.j3(cJ:OA)(dE:Nat)(df:Nat)(h:ab)(k:KT):Prop:=ao Tryz.prog 167 [.slice cJ dE df] h k
def C.gQ(s1:ByteArray)(h:ab)(k:KT):Prop:=ao Tryz.prog 169 [.string s1] h k
def C.cT(s1:ByteArray)(h:ab)(k:KT):Prop:=ao Tryz.prog 170 [.string s1] h k
def C.dy(w1:OA)(n1:Int)(h:ab)(k:KT):Prop:=ao Tryz.prog 171 [.pointer w1,.int .i64 n1] h k
def C.cw(s1:ByteArray)(h:ab)(k:KT):Prop:=ao Tryz.prog 172 [.string s1] h k
def C.dR(s1:ByteArray)(h:ab)(k:KT):Prop:=ao Tryz.prog 173 [.string s1] h k
def C.iJ(t1:OA)(g1:LV)(n1:Int)(aZ:ByteArray)(h:ab)(k:KT):Prop:=ao Tryz.prog 174 [.pointer t1,.agg ⟨g1⟩,.int .i64 n1,.string aZ] h k
def C.dU(g1:LV)(n1:Int)(h:ab)(k:KT):Prop:=ao Tryz.prog 175 [.agg ⟨g1⟩,.int .i64 n1] h k
def C.cy(cJ:OA)(dE:Nat)(df:Nat)(h:ab)(k:KT):Prop:=ao Tryz.prog 176 [.slice cJ dE df] h k
def C.gR(t1:OA)(g1:LV)(n1:Int)(h:ab)(k:KT):Prop:=ao Tryz.prog 177 [.pointer t1,.agg ⟨g1⟩,.int .i64 n1] h k
def C.iB(t1:OA)(g1:LV)(x1:LV)(aZ:ByteArray)(h:ab)(k:KT):Prop:=ao Tryz.prog 178 [.pointer t1,.agg ⟨g1⟩,.agg ⟨x1⟩,.string aZ] h k
def C.dS(gu:Value)(x1:OA)(h:ab)(k:KT):Prop:=ao Tryz.prog 181 [gu,.pointer x1] h k
def C.fy(d1:OA)(h:ab)(k:KT):Prop:=ao Tryz.prog 187 [.pointer d1] h k
def C.cU(aX:OA)(aK:Nat)(bJ:Nat)(h:ab)(k:KT):Prop:=ao Tryz.prog 189 [.slice aX aK bJ] h k
def C.fP(x1:LV)(h:ab)(k:KT):Prop:=ao Tryz.prog 190 [.agg ⟨x1⟩] h k
def C.iK(x1:LV)(h:ab)(k:KT):Prop:=ao Tryz.prog 191 [.agg ⟨x1⟩] h k
def C.bS(d1:OA)(h:ab)(k:KT):Prop:=ao Tryz.prog 192 [.pointer d1] h k
def C.fU(t1:OA)(i1:Int)(h:ab)(k:KT):Prop:=ao Tryz.prog 193 [.pointer t1,.int .i64 i1] h k
def C.gp(d1:OA)(i1:Int)(h:ab)(k:KT):Prop:=ao Tryz.prog 199 [.pointer d1,.int .i64 i1] h k
def C.bM(d1:OA)(i1:Int)(h:ab)(k:KT):Prop:=ao Tryz.prog 200 [.pointer d1,.int .i64 i1] h k
def C.dV(s1:ByteArray)(fN:ByteArray)(h:ab)(k:KT):Prop:=ao Tryz.prog 202 [.string s1,.string fN] h k
def C.dB(f1:OA)(k1:Int)(DE:Value)(h:ab)(k:KT):Prop:=ao Tryz.prog 203 [.pointer f1,.int .i64 k1,DE] h k
def C.lF(x1:LV)(x2:Int)(Ub:OA)(Uc:Nat)(Ud:Nat)(h:ab)(k:KT):Prop:=ao Tryz.prog 204 [.agg ⟨x1⟩,.int .i64 x2,.slice Ub Uc Ud] h k
def C.jn(MB:OA)(Pt:Nat)(Ow:Nat)(h:ab)(k:KT):Prop:=ao Tryz.prog 205 [.slice MB Pt Ow] h k
def C.kR(n1:Int)(h:ab)(k:KT):Prop:=ao Tryz.prog 211 [.int .i64 n1] h k
def C.qu(cJ:OA)(dE:Nat)(df:Nat)(gv:Int)(n1:Int)(h:ab)(k:KT):Prop:=ao Tryz.prog 212 [.slice cJ dE df,.int .i64 gv,.int .i64 n1] h k
def C.n'(cJ:OA)(dE:Nat)(df:Nat)(gv:Int)(n1:Int)(h:ab)(k:KT):Prop:=ao Tryz.prog 224 [.slice cJ dE df,.int .i64 gv,.int .i64 n1] h k
def C.jc(w1:OA)(x1:Int)(h:ab)(k:KT):Prop:=ao Tryz.prog 225 [.pointer w1,.int .i64 x1] h k
def C.ga(w1:OA)(n1:Int)(h:ab)(k:KT):Prop:=ao Tryz.prog 226 [.pointer w1,.int .i64 n1] h k
def C.fE(w1:OA)(n1:Int)(h:ab)(k:KT):Prop:=ao Tryz.prog 227 [.pointer w1,.int .i64 n1] h k
def C.cA(s1:ByteArray)(c1:Int)(h:ab)(k:KT):Prop:=ao Tryz.prog 228 [.string s1,.int .u8 c1] h k
def C.eC(v1:Int)(yy:Int)(rv:Int)(h:ab)(k:KT):Prop:=ao Tryz.prog 229 [.int .i64 v1,.int .i64 yy,.int .i64 rv] h k
def C.j4(g1:LV)(n1:Int)(h:ab)(k:KT):Prop:=ao Tryz.prog 230 [.agg ⟨g1⟩,.int .i64 n1] h k
def C.cB(gv:Int)(n1:Int)(x1:OA)(h:ab)(k:KT):Prop:=ao Tryz.prog 231 [.int .i64 gv,.int .i64 n1,.pointer x1] h k
def C.mf(cJ:OA)(dE:Nat)(df:Nat)(gv:Int)(n1:Int)(h:ab)(k:KT):Prop:=ao Tryz.prog 232 [.slice cJ dE df,.int .i64 gv,.int .i64 n1] h k
def C.nJ(x1:LV)(h:ab)(k:KT):Prop:=ao Tryz.prog 233 [.agg ⟨x1⟩] h k
def C.aY(t1:OA)(g1:LV)(n1:Int)(jo:Int)(many1:Int)(h:ab)(k:KT):Prop:=ao Tryz.prog 243 [.pointer t1,.agg ⟨g1⟩,.int .i64 n1,.int .i64 jo,.int .i64 many1] h k
def C.cV(s1:ByteArray)(h:ab)(k:KT):Prop:=ao Tryz.prog 244 [.string s1] h k
def C.aO(cJ:OA)(dE:Nat)(df:Nat)(h:ab)(k:KT):Prop:=ao Tryz.prog 245 [.slice cJ dE df] h k
def C.eZ(t1:OA)(g1:LV)(x1:LV)(k1:Int)(h:ab)(k:KT):Prop:=ao Tryz.prog 246 [.pointer t1,.agg ⟨g1⟩,.agg ⟨x1⟩,.int .i64 k1] h k
def C.bK(n1:Int)(yy:Int)(rv:Int)(h:ab)(k:KT):Prop:=ao Tryz.prog 252 [.int .i64 n1,.int .i64 yy,.int .i64 rv] h k
def C.fe(n1:Int)(yz:Int)(h:ab)(k:KT):Prop:=ao Tryz.prog 253 [.int .i64 n1,.int .i64 yz] h k
def C.iL(d1:OA)(i1:Int)(h:ab)(k:KT):Prop:=ao Tryz.prog 268 [.pointer d1,.int .i64 i1] h k
def C.bE(s1:ByteArray)(r1:Int)(h:ab)(k:KT):Prop:=ao Tryz.prog 269 [.string s1,.int .i32 r1] h k
def C.dK(uO:Int)(h:ab)(k:KT):Prop:=ao Tryz.prog 270 [.int .i64 uO] h k
def C.eJ(fN:ByteArray)(h:ab)(k:KT):Prop:=ao Tryz.prog 271 [.string fN] h k
def C.dL(as1:OA)(c1:Int)(h:ab)(k:KT):Prop:=ao Tryz.prog 272 [.pointer as1,.int .u8 c1] h k
def C.pQ(k1:Int)(h:ab)(k:KT):Prop:=ao Tryz.prog 273 [.int .i64 k1] h k
def C.gE(f1:OA)(s1:LV)(gv:Int)(h:ab)(k:KT):Prop:=ao Tryz.prog 274 [.pointer f1,.agg ⟨s1⟩,.int .i64 gv] h k
def C.jq(f1:OA)(s1:LV)(h:ab)(k:KT):Prop:=ao Tryz.prog 276 [.pointer f1,.agg ⟨s1⟩] h k
def C.jr(x1:LV)(h:ab)(k:KT):Prop:=ao Tryz.prog 277 [.agg ⟨x1⟩] h k
def C.fV(w1:OA)(h:ab)(k:KT):Prop:=ao Tryz.prog 283 [.pointer w1] h k
def C.iC(r1:OA)(n1:Int)(h:ab)(k:KT):Prop:=ao Tryz.prog 284 [.pointer r1,.int .i64 n1] h k
def C.kv(t1:OA)(g1:LV)(n1:Int)(jo:Int)(sS:Int)(h:ab)(k:KT):Prop:=ao Tryz.prog 285 [.pointer t1,.agg ⟨g1⟩,.int .i64 n1,.int .i64 jo,.int .i64 sS] h k
def C.nK(s1:ByteArray)(h:ab)(k:KT):Prop:=ao Tryz.prog 286 [.string s1] h k
def C.cC(aX:OA)(aK:Nat)(bJ:Nat)(h:ab)(k:KT):Prop:=ao Tryz.prog 287 [.slice aX aK bJ] h k
def C.nL(cJ:OA)(dE:Nat)(df:Nat)(h:ab)(k:KT):Prop:=ao Tryz.prog 289 [.slice cJ dE df] h k
def C.jt(t1:OA)(g1:LV)(n1:Int)(h:ab)(k:KT):Prop:=ao Tryz.prog 293 [.pointer t1,.agg ⟨g1⟩,.int .i64 n1] h k
def C.cE(t1:OA)(g1:LV)(x1:LV)(k1:Int)(h:ab)(k:KT):Prop:=ao Tryz.prog 294 [.pointer t1,.agg ⟨g1⟩,.agg ⟨x1⟩,.int .i64 k1] h k
def C.iM(cJ:OA)(dE:Nat)(df:Nat)(h:ab)(k:KT):Prop:=ao Tryz.prog 295 [.slice cJ dE df] h k
def C.cW(r1:Int)(h:ab)(k:KT):Prop:=ao Tryz.prog 311 [.int .i32 r1] h k
def C.nM(jo:Int)(n1:Int)(h:ab)(k:KT):Prop:=ao Tryz.prog 315 [.int .i64 jo,.int .i64 n1] h k
def C.mw(t1:OA)(g1:LV)(x1:LV)(k1:Int)(h:ab)(k:KT):Prop:=ao Tryz.prog 316 [.pointer t1,.agg ⟨g1⟩,.agg ⟨x1⟩,.int .i64 k1] h k
def C.dX(b1:OA)(pA1:OA)(W3:Nat)(pC1:Nat)(h:ab)(k:KT):Prop:=ao Tryz.prog 317 [.pointer b1,.slice pA1 W3 pC1] h k
def C.mT(b1:OA)(h:ab)(k:KT):Prop:=ao Tryz.prog 318 [.pointer b1] h k
def C.gF(k1:Int)(h:ab)(k:KT):Prop:=ao Tryz.prog 320 [.int .i64 k1] h k
def C.gG(x1:LV)(i1:Int)(h:ab)(k:KT):Prop:=ao Tryz.prog 321 [.agg ⟨x1⟩,.int .i64 i1] h k
def C.iN(g1:LV)(n1:Int)(h:ab)(k:KT):Prop:=ao Tryz.prog 322 [.agg ⟨g1⟩,.int .i64 n1] h k
def C.iO(t1:OA)(n1:Int)(h:ab)(k:KT):Prop:=ao Tryz.prog 323 [.pointer t1,.int .i64 n1] h k
def C.ff(cJ:OA)(dE:Nat)(df:Nat)(h:ab)(k:KT):Prop:=ao Tryz.prog 324 [.slice cJ dE df] h k
def C.ju(gu:Value)(x1:OA)(x2:OA)(h:ab)(k:KT):Prop:=ao Tryz.prog 334 [gu,.pointer x1,.pointer x2] h k
def C.lM(b1:OA)(h:ab)(k:KT):Prop:=ao Tryz.prog 335 [.pointer b1] h k
def C.hZ(cJ:OA)(dE:Nat)(df:Nat)(h:ab)(k:KT):Prop:=ao Tryz.prog 336 [.slice cJ dE df] h k
def C.gH(cJ:OA)(dE:Nat)(df:Nat)(h:ab)(k:KT):Prop:=ao Tryz.prog 337 [.slice cJ dE df] h k
def C.gS(wk:Int)(aZ:ByteArray)(h:ab)(k:KT):Prop:=ao Tryz.prog 338 [.int .i64 wk,.string aZ] h k
abbrev _root_.Go.Proofs.YtiapingedfnlnaaGreatDoor.aS(h:ab)(n:Nat):Addr:=Addr.add ⟨h.size,0,none⟩ n
abbrev _root_.Go.Proofs.YtiapingedfnlnaaGreatDoor.vI(n:Int):Value:=.int .i64 n
def l0:Nat->List Nat×List (Nat×Ty):=fun|_=>([],[])
def o0:Nat->Od:=fun|_=>.nil
theorem fk(lo:Nat->List Nat×List (Nat×Ty))(od:Nat->Od){g:Nat}{fn:Func}{a:LV}{k:KT}{h:ab}{X:Prop}(hf:Tryz.prog.funcs[g]?=some fn)(x:X)(hb:fn.body=some (fn.body.getD .skip):=by kernel_rfl)(ok:SF (cx lo od) fn (fn.body.getD .skip) a.length=true:=by kernel_rfl)(e:fnX (cx lo od) fn (fn.body.getD .skip) a k h=X:=by kernel_rfl):ao Tryz.prog g a h k:=VP (c:=fn.body.getD .skip) (abX lo od) hf hb ok (Eq.mpr e x)
theorem fz{g:Nat}{fn:Func}{a:LV}{k:KT}{X:Prop}(hf:Tryz.prog.funcs[g]?=some fn)(x:X)(hb:fn.body=some (fn.body.getD .skip):=by kernel_rfl)(ok:SF (cx l0 o0) fn (fn.body.getD .skip) a.length=true:=by kernel_rfl)(e:fnX (cx l0 o0) fn (fn.body.getD .skip) a k h=X:=by kernel_rfl):ao Tryz.prog g a h k:=VP (c:=fn.body.getD .skip) (abX l0 o0) hf hb ok (Eq.mpr e x)
def aQ.k3(h3:ab)(q1:OA)(q3:OA)(n3:Int)(bb:ab)(I1:Int->ab->Prop)(M1:Int->ab->Nat)(og:ab)(K:KT):Prop:=
 ∃Y1,List.length Y1=5/\ai og ⟨h3.size,0,none⟩ Y1/\
 ∃n12,cellOf og (aS bb 2)=some (vI n12)/\
 C.fK q1 Y1 n12 og λr13 Al=>
 ∃n13 n14,r13 = .tuple #[vI n13,vI n14]/\
 ∃Y2,List.length Y2=5/\ai Al ⟨h3.size,0,none⟩ Y2/\
 ∃n15,cellOf Al (aS bb 2)=some (vI n15)/\
 C.cv q3 Y2 n15 Al λr14 nz=>
 ∃n16 n17,r14 = .tuple #[vI n16,vI n17]/\
 bif(n13 != n16)then(
 K (.bool false) nz)else(
 bif(n14 != n17)then(
 K (.bool false) nz)else(
 I1 (IntKind.wrap .i64 (n3+1)) nz/\M1 (IntKind.wrap .i64 (n3+1)) nz<M1 n3 bb))
def aQ.k2(h3:ab)(q1:OA)(q3:OA)(n3:Int)(bb:ab)(I1:Int->ab->Prop)(M1:Int->ab->Nat)(fg:ab)(h18:ab)(jC:ab)(K:KT):Prop:=
 ∃RK,List.length RK=5/\ai jC ⟨h3.size,0,none⟩ RK/\
 ∃s6,cellOf jC (aS bb 0)=some (.string s6)/\
 C.mC q1 RK s6 jC λCL lu=>
 ∃Ox n8,CL = .tuple #[.agg ⟨Ox⟩,vI n8]/\
 ar ⟨fg.size,0,none⟩ Ox 3 lu λpz=>
 ∃Jj,List.length Jj=5/\ai pz ⟨h3.size,0,none⟩ Jj/\
 ∃s7,cellOf pz (aS bb 0)=some (.string s7)/\
 C.dP q3 Jj s7 pz λPu jv=>
 ∃ab2 n9,Pu = .tuple #[.agg ⟨ab2⟩,vI n9]/\
 ar ⟨h18.size,0,none⟩ ab2 3 jv λjG=>
 bif(n8 != n9)then(
 K (.bool false) jG)else(
 ∃s8,cellOf jG (aS fg 1)=some (.string s8)/\
 ∃s9,cellOf jG (aS h18 1)=some (.string s9)/\
 bif(!(s8.toList==s9.toList))then(
 K (.bool false) jG)else(
 ∃n10,cellOf jG (aS fg 2)=some (vI n10)/\
 ∃n11,cellOf jG (aS h18 2)=some (vI n11)/\
 bif(n10 != n11)then(
 K (.bool false) jG)else(
 ∃mL mJ mU,cellOf jG (aS fg 0)=some (.slice mL mJ mU)/\
 ∃Am zQ Ba,cellOf jG (aS h18 0)=some (.slice Am zQ Ba)/\
 C.eG mL mJ mU Am zQ Ba jG λwm sb=>
 ∃b6,wm = .bool b6/\
 bif(!b6)then(
 K (.bool false) sb)else(
 aQ.k3 h3 q1 q3 n3 bb I1 M1 sb K))))
def aQ.k1(kF:OA)(jN:Nat)(kG:Nat)(h3:ab)(q1:OA)(q2:OA)(h10:ab)(K:KT):Prop:=
 C.gm q2 h10 λr6 cg=>
 ∃q3,r6 = .pointer q3/\
 (0<=(if(60:Int)<(jN:Int)then 60 else(jN:Int))/\(if(60:Int)<(jN:Int)then 60 else(jN:Int))<=(kG:Int))/\
 ∃(I1:Int->ab->Prop) (M1:Int->ab->Nat),I1 0 cg/\
 ∀(n3:Int),∀bb:ab,I1 n3 bb->
 bif(decide (n3<((Int.toNat (if(60:Int)<(jN:Int)then 60 else(jN:Int))):Int)))then(
 (0<=n3/\n3<((Int.toNat (if(60:Int)<(jN:Int)then 60 else(jN:Int))):Int))/\
 ae kF λp1=>
 ∃gV,List.length gV=3/\ai bb (p1.add ((Int.toNat n3)*3)) gV/\
 ax z97 97 gV 3 bb λgh=>
 ∃lN,List.length lN=5/\ai gh ⟨h3.size,0,none⟩ lN/\
 ∃s2,cellOf gh (aS bb 0)=some (.string s2)/\
 ∃b3,cellOf gh (aS bb 1)=some (.bool b3)/\
 C.pg q1 lN s2 b3 gh λr7 fg=>
 ∃kx n4,r7 = .tuple #[.agg ⟨kx⟩,vI n4]/\
 ax z66 66 kx 3 fg λeM=>
 ∃pB,List.length pB=5/\ai eM ⟨h3.size,0,none⟩ pB/\
 ∃s3,cellOf eM (aS bb 0)=some (.string s3)/\
 ∃b4,cellOf eM (aS bb 1)=some (.bool b4)/\
 C.jZ q3 pB s3 b4 eM λr8 h18=>
 ∃GV n5,r8 = .tuple #[.agg ⟨GV⟩,vI n5]/\
 ax VQ 98 GV 3 h18 λgY=>
 bif(n4 != n5)then(
 K (.bool false) gY)else(
 ∃s4,cellOf gY (aS fg 1)=some (.string s4)/\
 ∃s5,cellOf gY (aS h18 1)=some (.string s5)/\
 bif(!(s4.toList==s5.toList))then(
 K (.bool false) gY)else(
 ∃n6,cellOf gY (aS fg 2)=some (vI n6)/\
 ∃n7,cellOf gY (aS h18 2)=some (vI n7)/\
 bif(n6 != n7)then(
 K (.bool false) gY)else(
 ∃fQ fj gT,cellOf gY (aS fg 0)=some (.slice fQ fj gT)/\
 ∃j9 jO kH,cellOf gY (aS h18 0)=some (.slice j9 jO kH)/\
 C.eG fQ fj gT j9 jO kH gY λr9 lx=>
 ∃b5,r9 = .bool b5/\
 bif(!b5)then(
 K (.bool false) lx)else(
 aQ.k2 h3 q1 q3 n3 bb I1 M1 fg h18 lx K)))))else(
 C.gn q1 bb λMC sT=>
 ∃MD GW ME,MC = .slice MD GW ME/\
 K (.bool ((GW:Int)==0)) sT)
def aQ(s1:LV)(kF:OA)(jN:Nat)(kG:Nat)(K:KT)(h1:ab):Prop:=
 aC s1 54 h1 λh2=>
 ∃bV,List.length bV=3/\ai h2 ⟨h1.size,0,none⟩ bV/\
 C.bg bV h2 λr1 h3=>
 ∃aX aK bJ eO,r1 = .tuple #[.slice aX aK bJ,.agg ⟨eO⟩]/\
 ax z25 25 eO 5 h3 λh5=>
 C.dO aX aK bJ h5 λr2 h6=>
 ∃q1 b1,r2 = .tuple #[.pointer q1,.bool b1]/\
 C.je aX aK bJ h6 λr3 h7=>
 ∃q2 n1,r3 = .tuple #[.pointer q2,vI n1]/\
 bif(!b1)then(
 K (.bool false) h7)else(
 C.eV n1 h7 λr4 h8=>
 ∃n2,r4 = vI n2/\
 bif(n2 != 0)then(
 K (.bool false) h8)else(
 C.eU  h8 λr5 h9=>
 ∃b2,r5 = .bool b2/\
 bif(!b2)then(
 K (.bool false) h9)else(
 aQ.k1 kF jN kG h3 q1 q2 h9 K)))
theorem aQ.ok{s1 kF jN kG K h}(x:aQ s1 kF jN kG K h):C.aQ s1 kF jN kG h K:=fk (fun|8=>([6,7,11,52,53],[(54,.int .i64)])|_=>([],[])) o0 Tryz.func8 x
def pN(t1:OA)(g1:LV)(n1:Int)(K:KT)(h1:ab):Prop:=
 aC g1 25 h1 λh2=>
 ∃bV,List.length bV=5/\ai h2 ⟨h1.size,0,none⟩ bV/\
 C.oA t1 bV n1 h2 λr1 h3=>
 ∃eO,r1 = .agg ⟨eO⟩/\
 ax GU 144 eO 23 h3 λh5=>
 aC z41 41 h5 λh6=>
 C.fw (some ⟨h3.size,0,none⟩) h6 λr2 h7=>
 ∃v1,r2=v1/\
 ∀(R1:Loop),
 (∀(gV:LV),∀(h8:ab) (k1:KT),br h8 (h7.size+1) R1 .ready none->
 (
 ax SJ 150 gV 4 h8 λh10=>
 br h10 (h7.size+1) R1 .ready none/\
 td h10 (h7.size+1) R1 .busy none λcg=>
 ∃aX aK bJ,cellOf cg (aS h8 3)=some (.slice aX aK bJ)/\
 ∃(I1:Int->ab->Prop) (M1:Int->ab->Nat),I1 0 cg/\
 ∀(n2:Int),∀bb:ab,I1 n2 bb->
 bif(decide (n2<(aK:Int)))then(
 (0<=n2/\n2<(aK:Int))/\
 ae aX λp1=>
 ∃lN,List.length lN=3/\ai bb (p1.add ((Int.toNat n2)*3)) lN/\
 ax zP 113 lN 3 bb λgh=>
 ∃n3,cellOf gh (aS bb 0)=some (vI n3)/\
 ∃n4,cellOf gh (aS h8 0)=some (vI n4)/\
 bQ (aS bb 0) (vI (IntKind.wrap .i64 (n3+(IntKind.wrap .i64 (16*n4))))) gh λfg=>
 ∃fQ fj gT,cellOf fg ⟨h5.size,0,none⟩=some (.slice fQ fj gT)/\
 ∃kx,List.length kx=3/\ai fg ⟨bb.size,0,none⟩ kx/\
 List.length (kx:LV)=3/\
 aC kx 113 fg λiS=>
 ∃aR,List.length aR=1*3/\ag iS (some ⟨fg.size,0,none⟩) aR/\(∀v∈aR,v.oneCell'=true)/\
 aw mB 113 fQ fj gT 1 aR iS λj9 jO kH eM=>
 bQ ⟨h5.size,0,none⟩ (.slice j9 jO kH) eM λh18=>
 I1 (IntKind.wrap .i64 (n2+1)) h18/\M1 (IntKind.wrap .i64 (n2+1)) h18<M1 n2 bb)else(
 br bb (h7.size+1) R1 .busy none/\
 k1 (.bool true) (cZ bb (h7.size+1) R1 .ready none)))->
 mj Tryz.prog (h7.size+1) [.agg ⟨gV⟩] h8 k1)->
 rP Tryz.prog v1 [.func (.yield (h7.size+1)) #[] #[]] (bN h7 R1) λ_ fO=>
 ∃(st1:LoopState) (iP:Option Code),br fO (h7.size+1) R1 st1 iP/\st1≠.busy/\
 vz iP (
 td fO (h7.size+1) R1 .exhausted iP λgY=>
 ∃n5,cellOf gY (aS h3 22)=some (vI n5)/\
 bif(n5 != 0)then(
 ∃n6,cellOf gY (aS h3 22)=some (vI n6)/\
 qm h7.size gY λlx=>
 K (.tuple #[.slice none 0 0,vI n6]) lx)else(
 ∃mL mJ mU,cellOf gY ⟨h5.size,0,none⟩=some (.slice mL mJ mU)/\
 C.fC mL mJ mU (Value.func (.func 79) #[] ⟨[]⟩) gY λr3 jC=>
 r3 = .tuple #[]/\
 ∃Am zQ Ba,cellOf jC ⟨h5.size,0,none⟩=some (.slice Am zQ Ba)/\
 qm h7.size jC λlu=>
 K (.tuple #[.slice Am zQ Ba,vI 0]) lu)) (
 False) (λ_=>False)
theorem pN.ok{t1 g1 n1 K h}(x:pN t1 g1 n1 K h):C.pN t1 g1 n1 h K:=fk (fun|6=>([9,10,20,21],[(22,.int .i64)])|1000004=>([],[(18,.agg)])|_=>([],[])) (fun|12=>(.op 0 [] (.op 1 [] (.op 2 [] (.op 3 [] .nil))))|_=>.nil) Tryz.func20 x
def oz(t1:OA)(g1:LV)(n1:Int)(aZ:ByteArray)(K:KT)(h1:ab):Prop:=
 aC g1 25 h1 λh2=>
 ∃bV,List.length bV=5/\ai h2 ⟨h1.size,0,none⟩ bV/\
 C.pO t1 bV n1 aZ h2 λr1 h3=>
 ∃q1,r1 = .pointer q1/\
 ae q1 λp1=>
 ∃n2,cellOf h3 (Addr.add (p1.add 27) 2)=some (vI n2)/\
 ae q1 λp2=>
 ∃n3,cellOf h3 (Addr.add (p2.add 0) 22)=some (vI n3)/\
 K (.tuple #[vI n2,vI n3]) h3
theorem oz.ok{t1 g1 n1 aZ K h}(x:oz t1 g1 n1 aZ K h):C.oz t1 g1 n1 aZ h K:=fk l0 (fun|2=>(.op 0 [] (.op 1 [] (.op 2 [] (.op 3 [] (.op 4 [] (.op 5 [] (.op 6 [] (.op 7 [] (.op 8 [] (.op 9 [] (.op 10 [] (.op 11 [] .nil))))))))))))|_=>.nil) Tryz.func26 x
def eU.k1(h9:ab)(bb:ab)(fg:ab)(lu:ab)(K:KT):Prop:=
 ∃fQ fj gT,cellOf lu (aS h9 0)=some (.slice fQ fj gT)/\
 aC [vI 1,vI 2,vI 3] 3 lu λpz=>
 C.eG fQ fj gT (some ⟨lu.size,0,none⟩) 3 3 pz λPu jv=>
 ∃b2,Pu = .bool b2/\
 bif b2 then(
 ∃j9 jO kH,cellOf jv (aS bb 0)=some (.slice j9 jO kH)/\
 aC [vI 1,vI 2,vI 3] 3 jv λjG=>
 C.eG j9 jO kH (some ⟨jv.size,0,none⟩) 3 3 jG λwm sb=>
 ∃b3,wm = .bool b3/\
 bif b3 then(
 ∃mL mJ mU,cellOf sb (aS fg 0)=some (.slice mL mJ mU)/\
 aC [vI 1] 3 sb λog=>
 C.eG mL mJ mU (some ⟨sb.size,0,none⟩) 1 1 og λr13 Al=>
 ∃b4,r13 = .bool b4/\
 K (.bool b4) Al)else(
 K (.bool false) sb))else(
 K (.bool false) jv)
def eU (K:KT)(h1:ab):Prop:=
 List.length ([.int .i64 0,.int .i64 2,.int .i64 0,.string (mkStr [97]),.string (mkStr [])]:LV)=5/\
 List.length ([.int .i64 1,.int .i64 2,.int .i64 0,.string (mkStr [98]),.string (mkStr [])]:LV)=5/\
 List.length ([.int .i64 2,.int .i64 1,.int .i64 0,.string (mkStr [102]),.string (mkStr [])]:LV)=5/\
 List.length ([.int .i64 0,.int .i64 3,.int .i64 0,.string (mkStr [108]),.string (mkStr [97,47,98])]:LV)=5/\
 List.length ([.int .i64 1,.int .i64 3,.int .i64 0,.string (mkStr [117,112]),.string (mkStr [46,46])]:LV)=5/\
 aC [.int .i64 0,.int .i64 2,.int .i64 0,.string (mkStr [97]),.string (mkStr []),.int .i64 1,.int .i64 2,.int .i64 0,.string (mkStr [98]),.string (mkStr []),.int .i64 2,.int .i64 1,.int .i64 0,.string (mkStr [102]),.string (mkStr []),.int .i64 0,.int .i64 3,.int .i64 0,.string (mkStr [108]),.string (mkStr [97,47,98]),.int .i64 1,.int .i64 3,.int .i64 0,.string (mkStr [117,112]),.string (mkStr [46,46])] 175 h1 λh2=>
 ax z54 54 [.int .i64 0,.slice (some ⟨h1.size,0,none⟩) 5 5,.slice none 0 0] 3 h2 λh4=>
 ∃bV:LV,List.length bV=3/\ai h4 ⟨h2.size,0,none⟩ bV/\
 C.bg bV h4 λr1 h5=>
 ∃(aX:OA) (aK:Nat) (bJ:Nat) (eO:LV),r1 = .tuple #[.slice aX aK bJ,.agg ⟨eO⟩]/\
 ax z25 25 eO 5 h5 λh7=>
 C.dO aX aK bJ h7 λr2 h8=>
 ∃(q1:OA) (b1:Bool),r2 = .tuple #[.pointer q1,.bool b1]/\
 bif(!b1)then(
 K (.bool false) h8)else(
 ∃gV:LV,List.length gV=5/\ai h8 ⟨h5.size,0,none⟩ gV/\
 C.pg q1 gV (mkStr [47,108,47,102]) false h8 λr3 h9=>
 ∃(lN:LV) (n1:Int),r3 = .tuple #[.agg ⟨lN⟩,.int .i64 n1]/\
 ax z66 66 lN 3 h9 λcg=>
 ∃kx:LV,List.length kx=5/\ai cg ⟨h5.size,0,none⟩ kx/\
 C.mC q1 kx (mkStr [47,108,47,120]) cg λr4 bb=>
 ∃(pB:LV) (n2:Int),r4 = .tuple #[.agg ⟨pB⟩,.int .i64 n2]/\
 ax z66 66 pB 3 bb λgh=>
 ∃GV:LV,List.length GV=5/\ai gh ⟨h5.size,0,none⟩ GV/\
 C.pg q1 GV (mkStr [47,97,47,117,112]) true gh λr5 fg=>
 ∃(RK:LV) (n3:Int),r5 = .tuple #[.agg ⟨RK⟩,.int .i64 n3]/\
 ax z66 66 RK 3 fg λeM=>
 ∃Ox:LV,List.length Ox=5/\ai eM ⟨h5.size,0,none⟩ Ox/\
 C.fK q1 Ox 1 eM λr6 h18=>
 ∃(n4:Int) (n5:Int),r6 = .tuple #[.int .i64 n4,.int .i64 n5]/\
 C.eV n1 h18 λr7 fO=>
 ∃(n6:Int),r7 = .int .i64 n6/\
 bif(n6 != 0)then(
 K (.bool false) fO)else(
 C.eV n2 fO λr8 gY=>
 ∃(n7:Int),r8 = .int .i64 n7/\
 bif(n7 != 0)then(
 K (.bool false) gY)else(
 C.eV n3 gY λr9 lx=>
 ∃(n8:Int),r9 = .int .i64 n8/\
 bif(n8 != 0)then(
 K (.bool false) lx)else(
 C.eV n5 lx λCL jC=>
 ∃(n9:Int),CL = .int .i64 n9/\
 bif(n9 != 0)then(
 K (.bool false) jC)else(
 bif(n4 != 3)then(
 K (.bool false) jC)else(
 ∃(s1:ByteArray),cellOf jC (Addr.add ⟨h9.size,0,none⟩ 1)=some (.string s1)/\
 bif(!(s1.toList==(mkStr [102]).toList))then(
 K (.bool false) jC)else(
 ∃(n10:Int),cellOf jC (Addr.add ⟨h9.size,0,none⟩ 2)=some (.int .i64 n10)/\
 bif(n10 != 4)then(
 K (.bool false) jC)else(
 ∃(s2:ByteArray),cellOf jC (Addr.add ⟨bb.size,0,none⟩ 1)=some (.string s2)/\
 bif(!(s2.toList==(mkStr [120]).toList))then(
 K (.bool false) jC)else(
 ∃(n11:Int),cellOf jC (Addr.add ⟨bb.size,0,none⟩ 2)=some (.int .i64 n11)/\
 bif(n11 != 0)then(
 K (.bool false) jC)else(
 ∃(s3:ByteArray),cellOf jC (Addr.add ⟨fg.size,0,none⟩ 1)=some (.string s3)/\
 bif(!(s3.toList==(mkStr []).toList))then(
 K (.bool false) jC)else(
 ∃(n12:Int),cellOf jC (Addr.add ⟨fg.size,0,none⟩ 2)=some (.int .i64 n12)/\
 bif(n12 != 1)then(
 K (.bool false) jC)else(
 eU.k1 h9 bb fg jC K))))))))))))
theorem eU.ok{K h}(x:eU  K h):C.eU  h K:=fz Tryz.func28 x
def pg(t1:OA)(g1:LV)(s1:ByteArray)(lE:Bool)(K:KT)(h1:ab):Prop:=
 aC g1 25 h1 λh2=>
 aC z66 66 h2 λh3=>
 C.mr s1 h3 λr1 h4=>
 ∃aX aK bJ n1,r1 = .tuple #[.slice aX aK bJ,vI n1]/\
 bif(n1 != 0)then(
 ar ⟨h2.size,0,none⟩ [.slice none 0 0,.string (mkStr []),vI 0] 3 h4 λh5=>
 ∃bL,List.length bL=3/\ai h5 ⟨h2.size,0,none⟩ bL/\
 K (.tuple #[.agg ⟨bL⟩,vI n1]) h5)else(
 ∃bV,List.length bV=5/\ai h4 ⟨h1.size,0,none⟩ bV/\
 C.kO t1 bV aX aK bJ h4 λr2 h6=>
 ∃q1,r2 = .pointer q1/\
 ae q1 λp1=>
 bQ (p1.add 9) (.bool lE) h6 λh7=>
 C.eW q1 h7 λr3 h8=>
 ∃eO n2,r3 = .tuple #[.agg ⟨eO⟩,vI n2]/\
 ar ⟨h2.size,0,none⟩ eO 3 h8 λh9=>
 ∃di,List.length di=3/\ai h9 ⟨h2.size,0,none⟩ di/\
 K (.tuple #[.agg ⟨di⟩,vI n2]) h9)
theorem pg.ok{t1 g1 s1 lE K h}(x:pg t1 g1 s1 lE K h):C.pg t1 g1 s1 lE h K:=fz Tryz.func30 x
def mC(t1:OA)(g1:LV)(s1:ByteArray)(K:KT)(h1:ab):Prop:=
 aC g1 25 h1 λh2=>
 aC z66 66 h2 λh3=>
 C.ku s1 h3 λr1 h4=>
 ∃aX aK bJ s2 n1,r1 = .tuple #[.slice aX aK bJ,.string s2,vI n1]/\
 bif(n1 != 0)then(
 ar ⟨h2.size,0,none⟩ [.slice none 0 0,.string (mkStr []),vI 0] 3 h4 λh5=>
 ∃bL,List.length bL=3/\ai h5 ⟨h2.size,0,none⟩ bL/\
 K (.tuple #[.agg ⟨bL⟩,vI n1]) h5)else(
 ∃bV,List.length bV=5/\ai h4 ⟨h1.size,0,none⟩ bV/\
 C.kO t1 bV aX aK bJ h4 λr2 h6=>
 ∃q1,r2 = .pointer q1/\
 bif(s2.toList==(mkStr []).toList)then(
 C.dz q1 (mkStr []) 1 h6 λr3 h7=>
 ∃eO,r3 = .agg ⟨eO⟩/\
 ar ⟨h2.size,0,none⟩ eO 3 h7 λh8=>
 ∃di,List.length di=3/\ai h8 ⟨h2.size,0,none⟩ di/\
 K (.tuple #[.agg ⟨di⟩,vI 0]) h8)else(
 ae q1 λp1=>
 bQ (p1.add 10) (.bool true) h6 λh9=>
 C.eW q1 h9 λr4 h10=>
 ∃gV n2,r4 = .tuple #[.agg ⟨gV⟩,vI n2]/\
 ax z66 66 gV 3 h10 λbb=>
 bif(n2 != 0)then(
 ar ⟨h2.size,0,none⟩ [.slice none 0 0,.string (mkStr []),vI 0] 3 bb λbU=>
 ∃fA,List.length fA=3/\ai bU ⟨h2.size,0,none⟩ fA/\
 K (.tuple #[.agg ⟨fA⟩,vI n2]) bU)else(
 ∃lN,List.length lN=5/\ai bb ⟨h1.size,0,none⟩ lN/\
 ae q1 λp2=>
 C.eX (some (p2.add 0)) bb λr5 gh=>
 ∃n3,r5 = vI n3/\
 (List.length (lN:LV)=5/\ai gh ⟨h1.size,0,none⟩ lN)/\
 C.oz t1 lN n3 s2 gh λr6 fg=>
 ∃n4 n5,r6 = .tuple #[vI n4,vI n5]/\
 bif(n5 != 0)then(
 bif(n5 != 160)then(
 ar ⟨h2.size,0,none⟩ [.slice none 0 0,.string (mkStr []),vI 0] 3 fg λiS=>
 ∃jf,List.length jf=3/\ai iS ⟨h2.size,0,none⟩ jf/\
 K (.tuple #[.agg ⟨jf⟩,vI n5]) iS)else(
 C.dz q1 s2 n4 fg λr7 eM=>
 ∃kx,r7 = .agg ⟨kx⟩/\
 ar ⟨h2.size,0,none⟩ kx 3 eM λh18=>
 ∃lG,List.length lG=3/\ai h18 ⟨h2.size,0,none⟩ lG/\
 K (.tuple #[.agg ⟨lG⟩,vI 0]) h18))else(
 C.dz q1 s2 n4 fg λr8 fO=>
 ∃pB,r8 = .agg ⟨pB⟩/\
 ar ⟨h2.size,0,none⟩ pB 3 fO λgY=>
 ∃tf,List.length tf=3/\ai gY ⟨h2.size,0,none⟩ tf/\
 K (.tuple #[.agg ⟨tf⟩,vI 0]) gY))))
theorem mC.ok{t1 g1 s1 K h}(x:mC t1 g1 s1 K h):C.mC t1 g1 s1 h K:=fk l0 (fun|11=>(.op 0 [] (.op 1 [] (.op 2 [] (.op 3 [] (.op 4 [] (.op 6 [] (.op 5 [1] (.op 7 [] (.op 8 [] (.op 9 [] (.op 10 [] (.op 11 [] (.op 12 [] .nil)))))))))))))|_=>.nil) Tryz.func31 x
def eV(e1:Int)(K:KT)(h1:ab):Prop:=
 K (vI e1) h1
theorem eV.ok{e1 K h}(x:eV e1 K h):C.eV e1 h K:=fz Tryz.func32 x
def mr(s1:ByteArray)(K:KT)(h1:ab):Prop:=
 C.jk s1 true h1 λr1 h2=>
 ∃b1,r1 = .bool b1/\
 bif b1 then(
 K (.tuple #[.slice none 0 0,vI 1]) h2)else(
 C.fH s1 1024 h2 λr2 h3=>
 ∃aX aK bJ n1,r2 = .tuple #[.slice aX aK bJ,vI n1]/\
 K (.tuple #[.slice aX aK bJ,vI n1]) h3)
theorem mr.ok{s1 K h}(x:mr s1 K h):C.mr s1 h K:=fz Tryz.func35 x
def eG(aA1:OA)(W2:Nat)(aC1:Nat)(cJ:OA)(dE:Nat)(df:Nat)(K:KT)(h1:ab):Prop:=
 bif((W2:Int) != (dE:Int))then(
 K (.bool false) h1)else(
 ∃(I1:Int->ab->Prop) (M1:Int->ab->Nat),I1 0 h1/\
 ∀(n1:Int),∀h2:ab,I1 n1 h2->
 bif(decide (n1<(W2:Int)))then(
 (0<=n1/\n1<(W2:Int))/\
 ae aA1 λp1=>
 ∃n2,cellOf h2 (p1.add (Int.toNat n1))=some (vI n2)/\
 (0<=n1/\n1<(dE:Int))/\
 ae cJ λp2=>
 ∃n3,cellOf h2 (p2.add (Int.toNat n1))=some (vI n3)/\
 bif(n2 != n3)then(
 K (.bool false) h2)else(
 I1 (IntKind.wrap .i64 (n1+1)) h2/\M1 (IntKind.wrap .i64 (n1+1)) h2<M1 n1 h2))else(
 K (.bool true) h2))
theorem eG.ok{aA1 W2 aC1 cJ dE df K h}(x:eG aA1 W2 aC1 cJ dE df K h):C.eG aA1 W2 aC1 cJ dE df h K:=fk (fun|4=>([0,1,12],[(13,.int .i64)])|_=>([],[])) (fun|6=>(.op 0 [] (.op 1 [] (.op 2 [] (.op 3 [] (.op 4 [] (.op 5 [] (.op 6 [] (.op 7 [] (.op 8 [] .nil)))))))))|_=>.nil) Tryz.func36 x
def fK.k1(t1:OA)(h1:ab)(mV:Int)(tO:OA)(tP:Nat)(tQ:Nat)(n4:Int)(h9:ab)(I2:Int->OA->Nat->Nat->Int->ab->Prop)(M2:Int->OA->Nat->Nat->Int->ab->Nat)(h10:ab)(aX:OA)(aK:Nat)(An:Int)(K:KT):Prop:=
 bif(decide (An>32))then(
 K (.tuple #[vI An,vI 0]) h10)else(
 ∃(I3:OA->Nat->Nat->Int->ab->Prop) (M3:OA->Nat->Nat->Int->ab->Nat),I3 tO tP tQ 0 h10/\
 ∀(tR:OA) (tS:Nat) (tT:Nat) (n7:Int),∀cg:ab,I3 tR tS tT n7 cg->
 bif(decide (n7<(aK:Int)))then(
 (0<=n7/\n7<(aK:Int))/\
 ae aX λp2=>
 ∃lN,List.length lN=3/\ai cg (p2.add ((Int.toNat n7)*3)) lN/\
 ax zP 113 lN 3 cg λbU=>
 ∃kx,List.length kx=5/\ai bU ⟨h1.size,0,none⟩ kx/\
 ∃n8,cellOf bU (aS cg 2)=some (vI n8)/\
 C.ja t1 kx n8 bU λr3 gh=>
 ∃pB n9,r3 = .tuple #[.agg ⟨pB⟩,vI n9]/\
 ax gC 123 pB 15 gh λiS=>
 bif(n9 != 0)then(
 K (.tuple #[vI 0,vI n9]) iS)else(
 ∃n10,cellOf iS (aS gh 0)=some (vI n10)/\
 bif(n10==2)then(
 ∃n11,cellOf iS (aS cg 2)=some (vI n11)/\
 aC [vI n11] 3 iS λeM=>
 ∃aR,List.length aR=1*1/\ag eM (some ⟨iS.size,0,none⟩) aR/\(∀v∈aR,v.oneCell'=true)/\
 aw qP 3 tR tS tT 1 aR eM λfQ fj gT h18=>
 I3 fQ fj gT (IntKind.wrap .i64 (n7+1)) h18/\M3 fQ fj gT (IntKind.wrap .i64 (n7+1)) h18<M3 tR tS tT n7 cg)else(
 I3 tR tS tT (IntKind.wrap .i64 (n7+1)) iS/\M3 tR tS tT (IntKind.wrap .i64 (n7+1)) iS<M3 tR tS tT n7 cg)))else(
 I2 An tR tS tT (IntKind.wrap .i64 (n4+1)) cg/\M2 An tR tS tT (IntKind.wrap .i64 (n4+1)) cg<M2 mV tO tP tQ n4 h9))
def fK(t1:OA)(g1:LV)(n1:Int)(K:KT)(h1:ab):Prop:=
 aC g1 25 h1 λh2=>
 ∃bV,List.length bV=5/\ai h2 ⟨h1.size,0,none⟩ bV/\
 C.ja t1 bV n1 h2 λr1 h3=>
 ∃eO n2,r1 = .tuple #[.agg ⟨eO⟩,vI n2]/\
 ax gC 123 eO 15 h3 λh5=>
 bif(n2 != 0)then(
 K (.tuple #[vI 0,vI n2]) h5)else(
 ∃n3,cellOf h5 (aS h3 0)=some (vI n3)/\
 bif(n3 != 2)then(
 K (.tuple #[vI 0,vI 161]) h5)else(
 aC [vI n1] 3 h5 λh6=>
 ∃(I1:OA->Nat->Nat->Int->Int->ab->Prop) (M1:OA->Nat->Nat->Int->Int->ab->Nat),I1 (some ⟨h5.size,0,none⟩) 1 1 0 1 h6/\
 ∀(sd:OA) (ph:Nat) (xp:Nat) (Ao:Int) (h7:Int),∀h8:ab,I1 sd ph xp Ao h7 h8->
 bif(decide ((ph:Int)>0))then(
 ∃(I2:Int->OA->Nat->Nat->Int->ab->Prop) (M2:Int->OA->Nat->Nat->Int->ab->Nat),I2 Ao none 0 0 0 h8/\
 ∀(mV:Int) (tO:OA) (tP:Nat) (tQ:Nat) (n4:Int),∀h9:ab,I2 mV tO tP tQ n4 h9->
 bif(decide (n4<(ph:Int)))then(
 (0<=n4/\n4<(ph:Int))/\
 ae sd λp1=>
 ∃n5,cellOf h9 (p1.add (Int.toNat n4))=some (vI n5)/\
 ∃gV,List.length gV=5/\ai h9 ⟨h1.size,0,none⟩ gV/\
 C.pN t1 gV n5 h9 λr2 h10=>
 ∃aX aK bJ n6,r2 = .tuple #[.slice aX aK bJ,vI n6]/\
 bif(n6 != 0)then(
 K (.tuple #[vI 0,vI n6]) h10)else(
 bif(decide ((aK:Int)>0))then(
 fK.k1 t1 h1 mV tO tP tQ n4 h9 I2 M2 h10 aX aK h7 K)else(
 fK.k1 t1 h1 mV tO tP tQ n4 h9 I2 M2 h10 aX aK mV K)))else(
 C.oN tO tP tQ h9 λr4 fO=>
 r4 = .tuple #[]/\
 C.dM tO tP tQ fO λr5 gY=>
 ∃j9 jO kH,r5 = .slice j9 jO kH/\
 I1 j9 jO kH mV (IntKind.wrap .i64 (h7+1)) gY/\M1 j9 jO kH mV (IntKind.wrap .i64 (h7+1)) gY<M1 sd ph xp Ao h7 h8))else(
 K (.tuple #[vI Ao,vI 0]) h8)))
theorem fK.ok{t1 g1 n1 K h}(x:fK t1 g1 n1 K h):C.fK t1 g1 n1 h K:=fk (fun|8=>([0,4],[(10,.slice),(11,.int .i64),(12,.int .i64)])|12=>([0,4,12,42,43],[(11,.int .i64),(13,.slice),(44,.int .i64)])|22=>([0,4,11,12,42,43,44,65,66],[(13,.slice),(67,.int .i64)])|_=>([],[])) o0 Tryz.func37 x
def bg.k1(n1:Int)(h5:ab)(h7:ab)(vJ:Int)(n3:Int)(h10:ab)(I1:Int->Int->ab->Prop)(M1:Int->Int->ab->Nat)(q1:OA)(Pv:OA)(Jk:Nat)(Pw:Nat)(sS:Int)(h18:ab)(K:KT):Prop:=
 ∃n8,cellOf h18 (aS h5 2)=some (vI n8)/\
 ∃n9,cellOf h18 (aS h5 2)=some (vI n9)/\
 (0<=(IntKind.wrap .i64 ((IntKind.wrap .i64 (512*n8))+(IntKind.wrap .i64 (64*n3))))/\(IntKind.wrap .i64 ((IntKind.wrap .i64 (512*n8))+(IntKind.wrap .i64 (64*n3))))<=(IntKind.wrap .i64 ((IntKind.wrap .i64 ((IntKind.wrap .i64 (512*n9))+(IntKind.wrap .i64 (64*n3))))+64))/\(IntKind.wrap .i64 ((IntKind.wrap .i64 ((IntKind.wrap .i64 (512*n9))+(IntKind.wrap .i64 (64*n3))))+64))<=((Int.toNat (IntKind.wrap .i64 (512*n1))):Int))/\
 ae q1 λp9=>
 ∃n10,cellOf h18 (p9.add 0)=some (vI n10)/\
 (0<=(0:Int)/\0<((((Int.toNat (IntKind.wrap .i64 ((IntKind.wrap .i64 ((IntKind.wrap .i64 (512*n9))+(IntKind.wrap .i64 (64*n3))))+64)))-(Int.toNat (IntKind.wrap .i64 ((IntKind.wrap .i64 (512*n8))+(IntKind.wrap .i64 (64*n3)))))):Nat):Int))/\
 ae (if(Int.toNat (IntKind.wrap .i64 (512*n1)))=(Int.toNat (IntKind.wrap .i64 ((IntKind.wrap .i64 (512*n8))+(IntKind.wrap .i64 (64*n3)))))then(some ⟨h7.size,0,none⟩)else Option.map (Addr.add · (Int.toNat (IntKind.wrap .i64 ((IntKind.wrap .i64 (512*n8))+(IntKind.wrap .i64 (64*n3)))))) (some ⟨h7.size,0,none⟩)) λOy=>
 bQ (Oy.add (Int.toNat 0)) (.int .u8 (IntKind.wrap .u8 (n10))) h18 λfO=>
 (0<=(2:Int)/\(2:Int)<=(4:Int)/\(4:Int)<=((((Int.toNat (IntKind.wrap .i64 (512*n1)))-(Int.toNat (IntKind.wrap .i64 ((IntKind.wrap .i64 (512*n8))+(IntKind.wrap .i64 (64*n3)))))):Nat):Int))/\
 ae q1 λJl=>
 ∃n11,cellOf fO (Jl.add 2)=some (vI n11)/\
 C.fD (if((Int.toNat (IntKind.wrap .i64 (512*n1)))-(Int.toNat (IntKind.wrap .i64 ((IntKind.wrap .i64 (512*n8))+(IntKind.wrap .i64 (64*n3))))))=(Int.toNat 2)then(if(Int.toNat (IntKind.wrap .i64 (512*n1)))=(Int.toNat (IntKind.wrap .i64 ((IntKind.wrap .i64 (512*n8))+(IntKind.wrap .i64 (64*n3)))))then(some ⟨h7.size,0,none⟩)else Option.map (Addr.add · (Int.toNat (IntKind.wrap .i64 ((IntKind.wrap .i64 (512*n8))+(IntKind.wrap .i64 (64*n3)))))) (some ⟨h7.size,0,none⟩))else Option.map (Addr.add · (Int.toNat 2)) (if(Int.toNat (IntKind.wrap .i64 (512*n1)))=(Int.toNat (IntKind.wrap .i64 ((IntKind.wrap .i64 (512*n8))+(IntKind.wrap .i64 (64*n3)))))then(some ⟨h7.size,0,none⟩)else Option.map (Addr.add · (Int.toNat (IntKind.wrap .i64 ((IntKind.wrap .i64 (512*n8))+(IntKind.wrap .i64 (64*n3)))))) (some ⟨h7.size,0,none⟩))) ((Int.toNat 4)-(Int.toNat 2)) (((Int.toNat (IntKind.wrap .i64 (512*n1)))-(Int.toNat (IntKind.wrap .i64 ((IntKind.wrap .i64 (512*n8))+(IntKind.wrap .i64 (64*n3))))))-(Int.toNat 2)) n11 fO λr5 gY=>
 r5 = .tuple #[]/\
 (0<=(4:Int)/\(4:Int)<=(8:Int)/\(8:Int)<=((((Int.toNat (IntKind.wrap .i64 (512*n1)))-(Int.toNat (IntKind.wrap .i64 ((IntKind.wrap .i64 (512*n8))+(IntKind.wrap .i64 (64*n3)))))):Nat):Int))/\
 C.fD (if((Int.toNat (IntKind.wrap .i64 (512*n1)))-(Int.toNat (IntKind.wrap .i64 ((IntKind.wrap .i64 (512*n8))+(IntKind.wrap .i64 (64*n3))))))=(Int.toNat 4)then(if(Int.toNat (IntKind.wrap .i64 (512*n1)))=(Int.toNat (IntKind.wrap .i64 ((IntKind.wrap .i64 (512*n8))+(IntKind.wrap .i64 (64*n3)))))then(some ⟨h7.size,0,none⟩)else Option.map (Addr.add · (Int.toNat (IntKind.wrap .i64 ((IntKind.wrap .i64 (512*n8))+(IntKind.wrap .i64 (64*n3)))))) (some ⟨h7.size,0,none⟩))else Option.map (Addr.add · (Int.toNat 4)) (if(Int.toNat (IntKind.wrap .i64 (512*n1)))=(Int.toNat (IntKind.wrap .i64 ((IntKind.wrap .i64 (512*n8))+(IntKind.wrap .i64 (64*n3)))))then(some ⟨h7.size,0,none⟩)else Option.map (Addr.add · (Int.toNat (IntKind.wrap .i64 ((IntKind.wrap .i64 (512*n8))+(IntKind.wrap .i64 (64*n3)))))) (some ⟨h7.size,0,none⟩))) ((Int.toNat 8)-(Int.toNat 4)) (((Int.toNat (IntKind.wrap .i64 (512*n1)))-(Int.toNat (IntKind.wrap .i64 ((IntKind.wrap .i64 (512*n8))+(IntKind.wrap .i64 (64*n3))))))-(Int.toNat 4)) sS gY λr6 lx=>
 r6 = .tuple #[]/\
 ∃(I3:Int->Int->ab->Prop) (M3:Int->Int->ab->Nat),I3 vJ 0 lx/\
 ∀(pR:Int) (k1:Int),∀jC:ab,I3 pR k1 jC->
 bif(decide ((IntKind.wrap .i64 (512*k1))<(Jk:Int)))then(
 (0<=(IntKind.wrap .i64 (8+(IntKind.wrap .i64 (4*k1))))/\(IntKind.wrap .i64 (8+(IntKind.wrap .i64 (4*k1))))<=(IntKind.wrap .i64 (12+(IntKind.wrap .i64 (4*k1))))/\(IntKind.wrap .i64 (12+(IntKind.wrap .i64 (4*k1))))<=((((Int.toNat (IntKind.wrap .i64 (512*n1)))-(Int.toNat (IntKind.wrap .i64 ((IntKind.wrap .i64 (512*n8))+(IntKind.wrap .i64 (64*n3)))))):Nat):Int))/\
 C.fD (if((Int.toNat (IntKind.wrap .i64 (512*n1)))-(Int.toNat (IntKind.wrap .i64 ((IntKind.wrap .i64 (512*n8))+(IntKind.wrap .i64 (64*n3))))))=(Int.toNat (IntKind.wrap .i64 (8+(IntKind.wrap .i64 (4*k1)))))then(if(Int.toNat (IntKind.wrap .i64 (512*n1)))=(Int.toNat (IntKind.wrap .i64 ((IntKind.wrap .i64 (512*n8))+(IntKind.wrap .i64 (64*n3)))))then(some ⟨h7.size,0,none⟩)else Option.map (Addr.add · (Int.toNat (IntKind.wrap .i64 ((IntKind.wrap .i64 (512*n8))+(IntKind.wrap .i64 (64*n3)))))) (some ⟨h7.size,0,none⟩))else Option.map (Addr.add · (Int.toNat (IntKind.wrap .i64 (8+(IntKind.wrap .i64 (4*k1)))))) (if(Int.toNat (IntKind.wrap .i64 (512*n1)))=(Int.toNat (IntKind.wrap .i64 ((IntKind.wrap .i64 (512*n8))+(IntKind.wrap .i64 (64*n3)))))then(some ⟨h7.size,0,none⟩)else Option.map (Addr.add · (Int.toNat (IntKind.wrap .i64 ((IntKind.wrap .i64 (512*n8))+(IntKind.wrap .i64 (64*n3)))))) (some ⟨h7.size,0,none⟩))) ((Int.toNat (IntKind.wrap .i64 (12+(IntKind.wrap .i64 (4*k1)))))-(Int.toNat (IntKind.wrap .i64 (8+(IntKind.wrap .i64 (4*k1)))))) (((Int.toNat (IntKind.wrap .i64 (512*n1)))-(Int.toNat (IntKind.wrap .i64 ((IntKind.wrap .i64 (512*n8))+(IntKind.wrap .i64 (64*n3))))))-(Int.toNat (IntKind.wrap .i64 (8+(IntKind.wrap .i64 (4*k1)))))) pR jC λr7 lu=>
 r7 = .tuple #[]/\
 (0<=(IntKind.wrap .i64 (512*pR))/\(IntKind.wrap .i64 (512*pR))<=(IntKind.wrap .i64 ((IntKind.wrap .i64 (512*pR))+512))/\(IntKind.wrap .i64 ((IntKind.wrap .i64 (512*pR))+512))<=((Int.toNat (IntKind.wrap .i64 (512*n1))):Int))/\
 (0<=(IntKind.wrap .i64 (512*k1))/\(IntKind.wrap .i64 (512*k1))<=(Jk:Int))/\
 qU yx (if(Int.toNat (IntKind.wrap .i64 (512*n1)))=(Int.toNat (IntKind.wrap .i64 (512*pR)))then(some ⟨h7.size,0,none⟩)else Option.map (Addr.add · (Int.toNat (IntKind.wrap .i64 (512*pR)))) (some ⟨h7.size,0,none⟩)) ((Int.toNat (IntKind.wrap .i64 ((IntKind.wrap .i64 (512*pR))+512)))-(Int.toNat (IntKind.wrap .i64 (512*pR)))) (.slice (if Pw=(Int.toNat (IntKind.wrap .i64 (512*k1)))then Pv else Option.map (Addr.add · (Int.toNat (IntKind.wrap .i64 (512*k1)))) Pv) (Jk-(Int.toNat (IntKind.wrap .i64 (512*k1)))) (Pw-(Int.toNat (IntKind.wrap .i64 (512*k1))))) lu λn12 pz=>
 I3 (IntKind.wrap .i64 (pR+1)) (IntKind.wrap .i64 (k1+1)) pz/\M3 (IntKind.wrap .i64 (pR+1)) (IntKind.wrap .i64 (k1+1)) pz<M3 pR k1 jC)else(
 I1 pR (IntKind.wrap .i64 (n3+1)) jC/\M1 pR (IntKind.wrap .i64 (n3+1)) jC<M1 vJ n3 h10)
def bg(s1:LV)(K:KT)(h1:ab):Prop:=
 aC s1 54 h1 λh2=>
 aC z25 25 h2 λh3=>
 ∃bV,List.length bV=3/\ai h3 ⟨h1.size,0,none⟩ bV/\
 C.cO bV h3 λr1 h4=>
 ∃n1,r1 = vI n1/\
 C.gM n1 h4 λr2 h5=>
 ∃eO,r2 = .agg ⟨eO⟩/\
 ax z25 25 eO 5 h5 λh7=>
 (0<=(IntKind.wrap .i64 (512*n1))/\(IntKind.wrap .i64 (512*n1))<=(IntKind.wrap .i64 (512*n1))/\(1:Int)*(IntKind.wrap .i64 (512*n1))<=281474976710656/\(IntKind.wrap .i64 (512*n1))<=281474976710656)/\
 aC (aW z5 (Int.toNat (IntKind.wrap .i64 (512*n1)))) 5 h7 λh8=>
 ∃n2,cellOf h8 (aS h5 3)=some (vI n2)/\
 ∃gV,List.length gV=3/\ai h8 ⟨h1.size,0,none⟩ gV/\
 C.ak gV h8 λr3 h9=>
 ∃aX aK bJ,r3 = .slice aX aK bJ/\
 ∃(I1:Int->Int->ab->Prop) (M1:Int->Int->ab->Nat),I1 n2 0 h9/\
 ∀(vJ:Int) (n3:Int),∀h10:ab,I1 vJ n3 h10->
 bif(decide (n3<(aK:Int)))then(
 (0<=n3/\n3<(aK:Int))/\
 ae aX λp1=>
 ∃q1,cellOf h10 (p1.add (Int.toNat n3))=some (.pointer q1)/\
 bif(Option.isNone q1)then(
 I1 vJ (IntKind.wrap .i64 (n3+1)) h10/\M1 vJ (IntKind.wrap .i64 (n3+1)) h10<M1 vJ n3 h10)else(
 ae q1 λp2=>
 ∃fQ fj gT,cellOf h10 (p2.add 4)=some (.slice fQ fj gT)/\
 ∃(I2:OA->Nat->Nat->Int->ab->Prop) (M2:OA->Nat->Nat->Int->ab->Nat),I2 none 0 0 0 h10/\
 ∀(se:OA) (qG:Nat) (sf:Nat) (n4:Int),∀cg:ab,I2 se qG sf n4 cg->
 bif(decide (n4<(fj:Int)))then(
 (0<=n4/\n4<(fj:Int))/\
 ae fQ λp3=>
 ∃s2,cellOf cg (p3.add (Int.toNat n4))=some (.string s2)/\
 (0<=(32:Int)/\(32:Int)<=32/\(1:Int)*32<=281474976710656/\(32:Int)<=281474976710656)/\
 aC (aW z5 (Int.toNat 32)) 5 cg λbb=>
 (0<=(4:Int)/\(4:Int)<=((Int.toNat 32):Int))/\
 ae q1 λp4=>
 ∃j9 jO kH,cellOf bb (p4.add 5)=some (.slice j9 jO kH)/\
 (0<=n4/\n4<(jO:Int))/\
 ae j9 λp5=>
 ∃n5,cellOf bb (p5.add (Int.toNat n4))=some (vI n5)/\
 C.fD (some ⟨cg.size,0,none⟩) (Int.toNat 4) (Int.toNat 32) n5 bb λr4 bU=>
 r4 = .tuple #[]/\
 (0<=(4:Int)/\4<((Int.toNat 32):Int))/\
 bQ (Addr.add ⟨cg.size,0,none⟩ (Int.toNat 4)) (.int .u8 (IntKind.wrap .u8 ((s2.size:Int)))) bU λgh=>
 (0<=(5:Int)/\5<=((Int.toNat 32):Int))/\
 qU yx (if(Int.toNat 32)=(Int.toNat 5)then(some ⟨cg.size,0,none⟩)else Option.map (Addr.add · (Int.toNat 5)) (some ⟨cg.size,0,none⟩)) ((Int.toNat 32)-(Int.toNat 5)) (.string s2) gh λn6 fg=>
 ∃aR,List.length aR=(Int.toNat 32)*1/\ag fg (some ⟨cg.size,0,none⟩) aR/\(∀v∈aR,v.oneCell'=true)/\
 aw yx 5 se qG sf (Int.toNat 32) aR fg λmL mJ mU iS=>
 I2 mL mJ mU (IntKind.wrap .i64 (n4+1)) iS/\M2 mL mJ mU (IntKind.wrap .i64 (n4+1)) iS<M2 se qG sf n4 cg)else(
 ae q1 λp6=>
 ∃n7,cellOf cg (p6.add 0)=some (vI n7)/\
 bif(n7==3)then(
 ae q1 λp7=>
 ∃s3,cellOf cg (p7.add 3)=some (.string s3)/\
 ae q1 λp8=>
 ∃s4,cellOf cg (p8.add 3)=some (.string s4)/\
 SH s3 5 cg λiY eM=>
 (cellOf eM (p8.add 3)=some (.string s4))/\
 bg.k1 n1 h5 h7 vJ n3 h10 I1 M1 q1 (some ⟨cg.size,0,none⟩) s3.size iY (s4.size:Int) eM K)else(
 bg.k1 n1 h5 h7 vJ n3 h10 I1 M1 q1 se qG sf (IntKind.wrap .i64 ((IntKind.wrap .i64 (Int.tdiv (IntKind.wrap .i64 ((qG:Int)+511)) 512))*512)) cg K))))else(
 ∃(I4:Int->ab->Prop) (M4:Int->ab->Nat),I4 0 h10/\
 ∀(i1:Int),∀jv:ab,I4 i1 jv->
 ∃n13,cellOf jv (aS h5 2)=some (vI n13)/\
 ∃n14,cellOf jv (aS h5 1)=some (vI n14)/\
 bif(decide (i1<(IntKind.wrap .i64 (4096*(IntKind.wrap .i64 (n13-n14))))))then(
 bif(decide (i1<vJ))then(
 ∃n15,cellOf jv (aS h5 1)=some (vI n15)/\
 ∃n16,cellOf jv (aS h5 1)=some (vI n16)/\
 (0<=(IntKind.wrap .i64 ((IntKind.wrap .i64 (512*n16))+(IntKind.wrap .i64 (Int.tdiv i1 8))))/\(IntKind.wrap .i64 ((IntKind.wrap .i64 (512*n16))+(IntKind.wrap .i64 (Int.tdiv i1 8))))<((Int.toNat (IntKind.wrap .i64 (512*n1))):Int))/\
 ∃n17,cellOf jv (Addr.add ⟨h7.size,0,none⟩ (Int.toNat (IntKind.wrap .i64 ((IntKind.wrap .i64 (512*n16))+(IntKind.wrap .i64 (Int.tdiv i1 8))))))=some (.int .u8 n17)/\
 if(Int.tmod i1 8)<0 then False else
 (0<=(IntKind.wrap .i64 ((IntKind.wrap .i64 (512*n15))+(IntKind.wrap .i64 (Int.tdiv i1 8))))/\(IntKind.wrap .i64 ((IntKind.wrap .i64 (512*n15))+(IntKind.wrap .i64 (Int.tdiv i1 8))))<((Int.toNat (IntKind.wrap .i64 (512*n1))):Int))/\
 bQ (Addr.add ⟨h7.size,0,none⟩ (Int.toNat (IntKind.wrap .i64 ((IntKind.wrap .i64 (512*n15))+(IntKind.wrap .i64 (Int.tdiv i1 8)))))) (.int .u8 (oo .or .u8 n17 (IntKind.wrap .u8 ((1*2 ^ min (Int.toNat (Int.tmod i1 8)) 8))))) jv λjG=>
 I4 (IntKind.wrap .i64 (i1+1)) jG/\M4 (IntKind.wrap .i64 (i1+1)) jG<M4 i1 jv)else(
 bif(decide (i1>=n1))then(
 ∃n18,cellOf jv (aS h5 1)=some (vI n18)/\
 ∃n19,cellOf jv (aS h5 1)=some (vI n19)/\
 (0<=(IntKind.wrap .i64 ((IntKind.wrap .i64 (512*n19))+(IntKind.wrap .i64 (Int.tdiv i1 8))))/\(IntKind.wrap .i64 ((IntKind.wrap .i64 (512*n19))+(IntKind.wrap .i64 (Int.tdiv i1 8))))<((Int.toNat (IntKind.wrap .i64 (512*n1))):Int))/\
 ∃n20,cellOf jv (Addr.add ⟨h7.size,0,none⟩ (Int.toNat (IntKind.wrap .i64 ((IntKind.wrap .i64 (512*n19))+(IntKind.wrap .i64 (Int.tdiv i1 8))))))=some (.int .u8 n20)/\
 if(Int.tmod i1 8)<0 then False else
 (0<=(IntKind.wrap .i64 ((IntKind.wrap .i64 (512*n18))+(IntKind.wrap .i64 (Int.tdiv i1 8))))/\(IntKind.wrap .i64 ((IntKind.wrap .i64 (512*n18))+(IntKind.wrap .i64 (Int.tdiv i1 8))))<((Int.toNat (IntKind.wrap .i64 (512*n1))):Int))/\
 bQ (Addr.add ⟨h7.size,0,none⟩ (Int.toNat (IntKind.wrap .i64 ((IntKind.wrap .i64 (512*n18))+(IntKind.wrap .i64 (Int.tdiv i1 8)))))) (.int .u8 (oo .or .u8 n20 (IntKind.wrap .u8 ((1*2 ^ min (Int.toNat (Int.tmod i1 8)) 8))))) jv λsb=>
 I4 (IntKind.wrap .i64 (i1+1)) sb/\M4 (IntKind.wrap .i64 (i1+1)) sb<M4 i1 jv)else(
 I4 (IntKind.wrap .i64 (i1+1)) jv/\M4 (IntKind.wrap .i64 (i1+1)) jv<M4 i1 jv)))else(
 ∃Am zQ Ba,cellOf jv (aS h1 2)=some (.slice Am zQ Ba)/\
 ∃(I5:Int->ab->Prop) (M5:Int->ab->Nat),I5 0 jv/\
 ∀(n21:Int),∀og:ab,I5 n21 og->
 bif(decide (n21<(zQ:Int)))then(
 (0<=n21/\n21<(zQ:Int))/\
 ae Am λsU=>
 ∃lN,List.length lN=2/\ai og (sU.add ((Int.toNat n21)*2)) lN/\
 ax abN 191 lN 2 og λnz=>
 ∃n22,cellOf nz (aS og 0)=some (vI n22)/\
 if(IntKind.wrap .u64 ((IntKind.wrap .i64 (512*(IntKind.wrap .i64 (n1-98))))))=0 then False else
 ∃n23,cellOf nz (aS og 1)=some (.int .u8 n23)/\
 (0<=(IntKind.wrap .i64 (50176+(IntKind.wrap .i64 ((Int.tmod (IntKind.wrap .u64 (n22)) (IntKind.wrap .u64 ((IntKind.wrap .i64 (512*(IntKind.wrap .i64 (n1-98)))))))))))/\(IntKind.wrap .i64 (50176+(IntKind.wrap .i64 ((Int.tmod (IntKind.wrap .u64 (n22)) (IntKind.wrap .u64 ((IntKind.wrap .i64 (512*(IntKind.wrap .i64 (n1-98)))))))))))<((Int.toNat (IntKind.wrap .i64 (512*n1))):Int))/\
 bQ (Addr.add ⟨h7.size,0,none⟩ (Int.toNat (IntKind.wrap .i64 (50176+(IntKind.wrap .i64 ((Int.tmod (IntKind.wrap .u64 (n22)) (IntKind.wrap .u64 ((IntKind.wrap .i64 (512*(IntKind.wrap .i64 (n1-98))))))))))))) (.int .u8 n23) nz λsT=>
 I5 (IntKind.wrap .i64 (n21+1)) sT/\M5 (IntKind.wrap .i64 (n21+1)) sT<M5 n21 og)else(
 ∃kx,List.length kx=5/\ai og ⟨h5.size,0,none⟩ kx/\
 ar ⟨h2.size,0,none⟩ kx 5 og λpj=>
 ∃bL,List.length bL=5/\ai pj ⟨h2.size,0,none⟩ bL/\
 K (.tuple #[.slice (some ⟨h7.size,0,none⟩) (Int.toNat (IntKind.wrap .i64 (512*n1))) (Int.toNat (IntKind.wrap .i64 (512*n1))),.agg ⟨bL⟩]) pj)))
set_option maxRecDepth 100000 in
set_option maxRecDepth 1000000 in
set_option maxRecDepth 1000000 in
theorem bg.ok{s1 K h}(x:bg s1 K h):C.bg s1 h K:=fk (fun|6=>([1,3,4,5,6,30,31],[(7,.int .i64),(32,.int .i64)])|11=>([1,3,4,5,6,7,8,9,30,31,32,42,43],[(10,.slice),(44,.int .i64)])|27=>([1,3,4,5,6,10,15,30,31,32],[(7,.int .i64),(16,.int .i64)])|34=>([1,3,4,5,6,7],[(17,.int .i64)])|39=>([3,4,5,6,198,199],[(200,.int .i64)])|_=>([],[])) (fun|14=>(.op 0 [] (.op 1 [] (.op 2 [] (.op 3 [] (.op 4 [] (.op 5 [] (.op 6 [] (.op 7 [] (.op 8 [] (.op 9 [] .nil))))))))))|21=>(.op 0 [] (.op 1 [] (.op 2 [] (.op 3 [] (.op 5 [] (.op 6 [] (.op 7 [] (.op 8 [] (.op 9 [] (.op 4 [8] (.op 10 [] (.op 11 [] .nil))))))))))))|24=>(.op 0 [] (.op 1 [] (.op 2 [] (.op 3 [] (.op 4 [] (.op 5 [] (.op 6 [] .nil)))))))|30=>(.op 0 [] (.op 1 [] (.op 2 [] (.op 3 [] (.op 4 [] (.op 5 [] (.op 6 [] (.op 7 [] (.op 8 [] (.op 9 [] (.op 10 [] (.op 11 [] .nil))))))))))))|37=>(.op 0 [] (.op 1 [] (.op 2 [] (.op 3 [] (.op 4 [] (.op 5 [] (.op 6 [] (.op 7 [] (.op 8 [] (.op 9 [] (.op 10 [] (.op 11 [] (.op 12 [] (.op 13 [] (.op 14 [] (.op 15 [] (.op 16 [] (.op 17 [] (.op 18 [] (.op 19 [] (.op 20 [] (.op 21 [] .nil))))))))))))))))))))))|41=>(.op 0 [] (.op 1 [] (.op 2 [] (.op 3 [] (.op 4 [] (.op 5 [] (.op 6 [] (.op 7 [] (.op 8 [] (.op 9 [] (.op 10 [] (.op 11 [] (.op 12 [] (.op 13 [] (.op 14 [] .nil)))))))))))))))|43=>(.op 0 [] (.op 1 [] (.op 2 [] (.op 3 [] .nil))))|_=>.nil) Tryz.func39 x
def dO.k1(q1:OA)(h4:ab)(K:KT):Prop:=
 C.nH q1 h4 λr3 h5=>
 ∃q2,r3 = .pointer q2/\
 K (.tuple #[.pointer q2,.bool (!(Option.isNone q2))]) h5
def dO(cJ:OA)(dE:Nat)(df:Nat)(K:KT)(h1:ab):Prop:=
 C.kN cJ dE df h1 λr1 h2=>
 ∃q1 n1,r1 = .tuple #[.pointer q1,vI n1]/\
 C.eV n1 h2 λr2 h3=>
 ∃n2,r2 = vI n2/\
 bif(n2 != 0)then(
 K (.tuple #[.pointer none,.bool false]) h3)else(
 bif(Option.isNone q1)then(
 K (.tuple #[.pointer none,.bool false]) h3)else(
 dO.k1 q1 h3 K))
theorem dO.ok{cJ dE df K h}(x:dO cJ dE df K h):C.dO cJ dE df h K:=fz Tryz.func40 x
def je(kC:OA)(iu:Nat)(kD:Nat)(K:KT)(h1:ab):Prop:=
 bif((iu:Int)==0)then(
 K (.tuple #[.pointer none,vI 32]) h1)else(
 bif((Int.tmod (iu:Int) 512) != 0)then(
 K (.tuple #[.pointer none,vI 32]) h1)else(
 bif(decide ((IntKind.wrap .i64 (Int.tdiv (iu:Int) 512))>16384))then(
 K (.tuple #[.pointer none,vI 32]) h1)else(
 C.fh kC iu kD h1 λr1 h2=>
 ∃aX aK bJ,r1 = .slice aX aK bJ/\
 aC [.slice aX aK bJ,.slice none 0 0,.slice none 0 0,vI 0,.bool false,vI 0,vI 0] 195 h2 λh3=>
 K (.tuple #[.pointer (some ⟨h2.size,0,none⟩),vI 0]) h3)))
set_option maxRecDepth 1000000 in
set_option maxRecDepth 1000000 in
theorem je.ok{kC iu kD K h}(x:je kC iu kD K h):C.je kC iu kD h K:=fz Tryz.func41 x
def gm(d1:OA)(K:KT)(h1:ab):Prop:=
 aC [.pointer d1,.slice none 0 0,.bool false] 198 h1 λh2=>
 K (.pointer (some ⟨h1.size,0,none⟩)) h2
theorem gm.ok{d1 K h}(x:gm d1 K h):C.gm d1 h K:=fz Tryz.func42 x
def jZ(t1:OA)(g1:LV)(s1:ByteArray)(lE:Bool)(K:KT)(h1:ab):Prop:=
 aC g1 25 h1 λh2=>
 aC VQ 98 h2 λh3=>
 C.dA s1 h3 λr1 h4=>
 ∃aX aK bJ n1,r1 = .tuple #[.slice aX aK bJ,vI n1]/\
 bif(n1 != 0)then(
 ar ⟨h2.size,0,none⟩ [.slice none 0 0,.string (mkStr []),vI 0] 3 h4 λh5=>
 ∃bL,List.length bL=3/\ai h5 ⟨h2.size,0,none⟩ bL/\
 K (.tuple #[.agg ⟨bL⟩,vI n1]) h5)else(
 ∃bV,List.length bV=5/\ai h4 ⟨h1.size,0,none⟩ bV/\
 aC [vI 1] 3 h4 λh6=>
 List.length (bV:LV)=5/\
 aC ([.pointer t1]++(bV++[.slice (some ⟨h4.size,0,none⟩) 1 1,.slice aX aK bJ,.bool false,.bool lE,vI 0])) 201 h6 λh7=>
 C.au (some ⟨h6.size,0,none⟩) h7 λr2 h8=>
 ∃eO n2,r2 = .tuple #[.agg ⟨eO⟩,vI n2]/\
 ar ⟨h2.size,0,none⟩ eO 3 h8 λh9=>
 ∃di,List.length di=3/\ai h9 ⟨h2.size,0,none⟩ di/\
 K (.tuple #[.agg ⟨di⟩,vI n2]) h9)
theorem jZ.ok{t1 g1 s1 lE K h}(x:jZ t1 g1 s1 lE K h):C.jZ t1 g1 s1 lE h K:=fz Tryz.func43 x
def dP.k1(h2:ab)(s2:ByteArray)(h10:ab)(n4:Int)(n5:Int)(eM:ab)(K:KT):Prop:=
 bQ (aS h10 1) (.string s2) eM λh18=>
 bQ (aS h10 2) (vI 0) h18 λfO=>
 bif(n5==0)then(
 bQ (aS h10 2) (vI n4) fO λgY=>
 ∃kx,List.length kx=3/\ai gY ⟨h10.size,0,none⟩ kx/\
 ar ⟨h2.size,0,none⟩ kx 3 gY λlx=>
 ∃lG,List.length lG=3/\ai lx ⟨h2.size,0,none⟩ lG/\
 K (.tuple #[.agg ⟨lG⟩,vI 0]) lx)else(
 ∃pB,List.length pB=3/\ai fO ⟨h10.size,0,none⟩ pB/\
 ar ⟨h2.size,0,none⟩ pB 3 fO λjC=>
 ∃tf,List.length tf=3/\ai jC ⟨h2.size,0,none⟩ tf/\
 K (.tuple #[.agg ⟨tf⟩,vI 0]) jC)
def dP(t1:OA)(g1:LV)(s1:ByteArray)(K:KT)(h1:ab):Prop:=
 aC g1 25 h1 λh2=>
 aC VQ 98 h2 λh3=>
 C.dQ s1 h3 λr1 h4=>
 ∃aX aK bJ s2 n1,r1 = .tuple #[.slice aX aK bJ,.string s2,vI n1]/\
 bif(n1 != 0)then(
 ar ⟨h2.size,0,none⟩ [.slice none 0 0,.string (mkStr []),vI 0] 3 h4 λh5=>
 ∃bL,List.length bL=3/\ai h5 ⟨h2.size,0,none⟩ bL/\
 K (.tuple #[.agg ⟨bL⟩,vI n1]) h5)else(
 ∃bV,List.length bV=5/\ai h4 ⟨h1.size,0,none⟩ bV/\
 aC [vI 1] 3 h4 λh6=>
 List.length (bV:LV)=5/\
 aC ([.pointer t1]++(bV++[.slice (some ⟨h4.size,0,none⟩) 1 1,.slice aX aK bJ,.bool true,.bool false,vI 0])) 201 h6 λh7=>
 bif(s2.toList==(mkStr []).toList)then(
 C.dx (some ⟨h6.size,0,none⟩) h7 λr2 h8=>
 ∃eO,r2 = .agg ⟨eO⟩/\
 ar ⟨h2.size,0,none⟩ eO 3 h8 λh9=>
 ∃di,List.length di=3/\ai h9 ⟨h2.size,0,none⟩ di/\
 K (.tuple #[.agg ⟨di⟩,vI 0]) h9)else(
 C.au (some ⟨h6.size,0,none⟩) h7 λr3 h10=>
 ∃gV n2,r3 = .tuple #[.agg ⟨gV⟩,vI n2]/\
 ax VQ 98 gV 3 h10 λbb=>
 bif(n2 != 0)then(
 ar ⟨h2.size,0,none⟩ [.slice none 0 0,.string (mkStr []),vI 0] 3 bb λbU=>
 ∃fA,List.length fA=3/\ai bU ⟨h2.size,0,none⟩ fA/\
 K (.tuple #[.agg ⟨fA⟩,vI n2]) bU)else(
 ∃lN,List.length lN=5/\ai bb ⟨h1.size,0,none⟩ lN/\
 C.ey (some ⟨h6.size,0,none⟩) bb λr4 gh=>
 ∃n3,r4 = vI n3/\
 (List.length (lN:LV)=5/\ai gh ⟨h1.size,0,none⟩ lN)/\
 C.gO t1 lN n3 s2 gh λr5 fg=>
 ∃n4 n5,r5 = .tuple #[vI n4,vI n5]/\
 bif(n5 != 0)then(
 bif(n5 != 160)then(
 ar ⟨h2.size,0,none⟩ [.slice none 0 0,.string (mkStr []),vI 0] 3 fg λiS=>
 ∃jf,List.length jf=3/\ai iS ⟨h2.size,0,none⟩ jf/\
 K (.tuple #[.agg ⟨jf⟩,vI n5]) iS)else(
 dP.k1 h2 s2 h10 n4 n5 fg K))else(
 dP.k1 h2 s2 h10 n4 n5 fg K))))
theorem dP.ok{t1 g1 s1 K h}(x:dP t1 g1 s1 K h):C.dP t1 g1 s1 h K:=fk l0 (fun|10=>(.op 0 [] (.op 1 [] (.op 2 [] (.op 4 [] (.op 3 [1] (.op 5 [] (.op 6 [] (.op 7 [] (.op 8 [] (.op 9 [] (.op 10 [] .nil)))))))))))|_=>.nil) Tryz.func44 x
def cv.k1(t1:OA)(h1:ab)(h8:ab)(n5:Int)(kS:Bool)(kT:Bool)(i1:Int)(h10:ab)(I2:Bool->Bool->Int->ab->Prop)(M2:Bool->Bool->Int->ab->Nat)(cg:ab)(aX:OA)(aK:Nat)(K:KT):Prop:=
 ∃(I3:Bool->Bool->Int->ab->Prop) (M3:Bool->Bool->Int->ab->Nat),I3 kS kT 0 cg/\
 ∀(Bc:Bool) (wo:Bool) (n8:Int),∀bb:ab,I3 Bc wo n8 bb->
 bif(decide (n8<(aK:Int)))then(
 (0<=n8/\n8<(aK:Int))/\
 ae aX λp2=>
 ∃lN,List.length lN=3/\ai bb (p2.add ((Int.toNat n8)*3)) lN/\
 ax zP 113 lN 3 bb λgh=>
 ∃kx,List.length kx=5/\ai gh ⟨h1.size,0,none⟩ kx/\
 ∃n9,cellOf gh (aS bb 2)=some (vI n9)/\
 C.eY t1 kx n9 gh λr3 fg=>
 ∃pB n10,r3 = .tuple #[.agg ⟨pB⟩,vI n10]/\
 ax gC 123 pB 15 fg λeM=>
 bif(n10 != 0)then(
 K (.tuple #[vI 0,vI n10]) eM)else(
 ∃n11,cellOf eM (aS fg 0)=some (vI n11)/\
 bif(n11==2)then(
 ∃n12,cellOf eM (aS bb 2)=some (vI n12)/\
 (0<=n12/\n12<((Int.toNat n5):Int))/\
 bQ (Addr.add ⟨h8.size,0,none⟩ (Int.toNat n12)) (.bool true) eM λh18=>
 I3 true true (IntKind.wrap .i64 (n8+1)) h18/\M3 true true (IntKind.wrap .i64 (n8+1)) h18<M3 Bc wo n8 bb)else(
 I3 true wo (IntKind.wrap .i64 (n8+1)) eM/\M3 true wo (IntKind.wrap .i64 (n8+1)) eM<M3 Bc wo n8 bb)))else(
 I2 Bc wo (IntKind.wrap .i64 (i1+1)) bb/\M2 Bc wo (IntKind.wrap .i64 (i1+1)) bb<M2 kS kT i1 h10)
def cv(t1:OA)(g1:LV)(n1:Int)(K:KT)(h1:ab):Prop:=
 aC g1 25 h1 λh2=>
 ∃bV,List.length bV=5/\ai h2 ⟨h1.size,0,none⟩ bV/\
 C.eY t1 bV n1 h2 λr1 h3=>
 ∃eO n2,r1 = .tuple #[.agg ⟨eO⟩,vI n2]/\
 ax gC 123 eO 15 h3 λh5=>
 bif(n2 != 0)then(
 K (.tuple #[vI 0,vI n2]) h5)else(
 ∃n3,cellOf h5 (aS h3 0)=some (vI n3)/\
 bif(n3 != 2)then(
 K (.tuple #[vI 0,vI 161]) h5)else(
 ∃n4,cellOf h5 (aS h1 4)=some (vI n4)/\
 (0<=n4/\n4<=n4/\(1:Int)*n4<=281474976710656/\n4<=281474976710656)/\
 aC (aW z4 (Int.toNat n4)) 4 h5 λh6=>
 (0<=n1/\n1<((Int.toNat n4):Int))/\
 bQ (Addr.add ⟨h5.size,0,none⟩ (Int.toNat n1)) (.bool true) h6 λh7=>
 ∃(I1:OA->Nat->Nat->Int->ab->Prop) (M1:OA->Nat->Nat->Int->ab->Nat),I1 (some ⟨h5.size,0,none⟩) (Int.toNat n4) (Int.toNat n4) 1 h7/\
 ∀(sd:OA) (ph:Nat) (xp:Nat) (Bd:Int),∀h8:ab,I1 sd ph xp Bd h8->
 ∃n5,cellOf h8 (aS h1 4)=some (vI n5)/\
 (0<=n5/\n5<=n5/\(1:Int)*n5<=281474976710656/\n5<=281474976710656)/\
 aC (aW z4 (Int.toNat n5)) 4 h8 λh9=>
 ∃(I2:Bool->Bool->Int->ab->Prop) (M2:Bool->Bool->Int->ab->Nat),I2 false false 1 h9/\
 ∀(kS:Bool) (kT:Bool) (i1:Int),∀h10:ab,I2 kS kT i1 h10->
 ∃n6,cellOf h10 (aS h1 4)=some (vI n6)/\
 bif(decide (i1<n6))then(
 (0<=i1/\i1<(ph:Int))/\
 ae sd λp1=>
 ∃b1,cellOf h10 (p1.add (Int.toNat i1))=some (.bool b1)/\
 bif(!b1)then(
 I2 kS kT (IntKind.wrap .i64 (i1+1)) h10/\M2 kS kT (IntKind.wrap .i64 (i1+1)) h10<M2 kS kT i1 h10)else(
 ∃gV,List.length gV=5/\ai h10 ⟨h1.size,0,none⟩ gV/\
 C.cQ t1 gV i1 h10 λr2 cg=>
 ∃aX aK bJ n7,r2 = .tuple #[.slice aX aK bJ,vI n7]/\
 bif(n7 != 0)then(
 K (.tuple #[vI 0,vI n7]) cg)else(
 bif(decide ((aK:Int)>0))then(
 bif(Bd==33)then(
 K (.tuple #[vI 33,vI 0]) cg)else(
 cv.k1 t1 h1 h8 n5 kS kT i1 h10 I2 M2 cg aX aK K))else(
 cv.k1 t1 h1 h8 n5 kS kT i1 h10 I2 M2 cg aX aK K))))else(
 bif(!kS)then(
 K (.tuple #[vI (IntKind.wrap .i64 (Bd-1)),vI 0]) h10)else(
 bif(!kT)then(
 K (.tuple #[vI Bd,vI 0]) h10)else(
 I1 (some ⟨h8.size,0,none⟩) (Int.toNat n5) (Int.toNat n5) (IntKind.wrap .i64 (Bd+1)) h10/\M1 (some ⟨h8.size,0,none⟩) (Int.toNat n5) (Int.toNat n5) (IntKind.wrap .i64 (Bd+1)) h10<M1 sd ph xp Bd h8)))))
theorem cv.ok{t1 g1 n1 K h}(x:cv t1 g1 n1 K h):C.cv t1 g1 n1 h K:=fk (fun|10=>([0,4],[(10,.slice),(11,.int .i64)])|13=>([0,4,10,11,12],[(13,.bool),(14,.bool),(15,.int .i64)])|22=>([0,4,10,11,12,15,74,75],[(13,.bool),(14,.bool),(76,.int .i64)])|_=>([],[])) o0 Tryz.func45 x
def gn(t1:OA)(K:KT)(h1:ab):Prop:=
 ae t1 λp1=>
 ∃b1,cellOf h1 (p1.add 3)=some (.bool b1)/\
 bif b1 then(
 K (.slice none 0 0) h1)else(
 ae t1 λp2=>
 ∃m1,cellOf h1 (p2.add 1)=some (.map m1)/\
 C.bX m1 h1 λr1 h2=>
 ∃v1,r1=v1/\
 C.qq v1 h2 λr2 h3=>
 ∃aX aK bJ,r2 = .slice aX aK bJ/\
 K (.slice aX aK bJ) h3)
theorem gn.ok{t1 K h}(x:gn t1 K h):C.gn t1 h K:=fz Tryz.func46 x
def ku.k1(h5:ab)(bU:ab)(aX:OA)(aK:Nat)(bJ:Nat)(K:KT):Prop:=
 (0<=(IntKind.wrap .i64 ((aK:Int)-1))/\(IntKind.wrap .i64 ((aK:Int)-1))<=(IntKind.wrap .i64 ((aK:Int)-1))/\(IntKind.wrap .i64 ((aK:Int)-1))<=(bJ:Int))/\
 (0<=(IntKind.wrap .i64 ((aK:Int)-1))/\(IntKind.wrap .i64 ((aK:Int)-1))<(aK:Int))/\
 ae aX λp1=>
 ∃s4,cellOf bU (p1.add (Int.toNat (IntKind.wrap .i64 ((aK:Int)-1))))=some (.string s4)/\
 qm h5.size bU λiS=>
 K (.tuple #[.slice aX (Int.toNat (IntKind.wrap .i64 ((aK:Int)-1))) (Int.toNat (IntKind.wrap .i64 ((aK:Int)-1))),.string s4,vI 0]) iS
def ku(s1:ByteArray)(K:KT)(h1:ab):Prop:=
 C.jk s1 true h1 λr1 h2=>
 ∃b1,r1 = .bool b1/\
 bif b1 then(
 K (.tuple #[.slice none 0 0,.string (mkStr []),vI 1]) h2)else(
 aC z9 9 h2 λh3=>
 bQ ⟨h2.size,0,none⟩ (.string (mkStr [])) h3 λh4=>
 C.jR s1 h4 λr2 h5=>
 ∃v1,r2=v1/\
 ∀(R1:Loop),
 (∀(s2:ByteArray),∀(h6:ab) (k1:KT),br h6 (h5.size+1) R1 .ready none->
 (
 br h6 (h5.size+1) R1 .ready none/\
 td h6 (h5.size+1) R1 .busy none λh7=>
 bQ ⟨h2.size,0,none⟩ (.string s2) h7 λh8=>
 br h8 (h5.size+1) R1 .busy none/\
 k1 (.bool true) (cZ h8 (h5.size+1) R1 .ready none))->
 mj Tryz.prog (h5.size+1) [.string s2] h6 k1)->
 rP Tryz.prog v1 [.func (.yield (h5.size+1)) #[] #[]] (bN h5 R1) λ_ h9=>
 ∃(st1:LoopState) (iP:Option Code),br h9 (h5.size+1) R1 st1 iP/\st1≠.busy/\
 vz iP (
 td h9 (h5.size+1) R1 .exhausted iP λh10=>
 ∃s3,cellOf h10 ⟨h2.size,0,none⟩=some (.string s3)/\
 C.jb s3 h10 λr3 cg=>
 ∃v2 b2,r3 = .tuple #[v2,.bool b2]/\
 bif b2 then(
 qm h5.size cg λbb=>
 K (.tuple #[.slice none 0 0,.string (mkStr []),vI 1]) bb)else(
 C.fH s1 1024 cg λr4 bU=>
 ∃aX aK bJ n1,r4 = .tuple #[.slice aX aK bJ,vI n1]/\
 bif(n1 != 0)then(
 qm h5.size bU λgh=>
 K (.tuple #[.slice none 0 0,.string (mkStr []),vI n1]) gh)else(
 bif((aK:Int)==0)then(
 qm h5.size bU λfg=>
 K (.tuple #[.slice none 0 0,.string (mkStr []),vI n1]) fg)else(
 ku.k1 h5 bU aX aK bJ K)))) (
 False) (λ_=>False))
theorem ku.ok{s1 K h}(x:ku s1 K h):C.ku s1 h K:=fk (fun|1000005=>([],[(15,.str)])|_=>([],[])) (fun|13=>(.op 0 [] (.op 1 [] (.op 2 [] (.op 3 [] (.op 4 [] (.op 5 [] (.op 6 [] (.op 7 [] (.op 8 [] (.op 9 [] (.op 10 [] (.op 11 [] (.op 12 [] (.op 13 [] (.op 14 [] (.op 15 [] (.op 16 [] .nil)))))))))))))))))|_=>.nil) Tryz.func48 x
def cY(n1:OA)(aZ:ByteArray)(K:KT)(h1:ab):Prop:=
 ae n1 λp1=>
 ∃aX aK bJ,cellOf h1 (p1.add 4)=some (.slice aX aK bJ)/\
 ∃(I1:Int->ab->Prop) (M1:Int->ab->Nat),I1 0 h1/\
 ∀(n2:Int),∀h2:ab,I1 n2 h2->
 bif(decide (n2<(aK:Int)))then(
 (0<=n2/\n2<(aK:Int))/\
 ae aX λp2=>
 ∃s1,cellOf h2 (p2.add (Int.toNat n2))=some (.string s1)/\
 bif(s1.toList==aZ.toList)then(
 ae n1 λp3=>
 ∃fQ fj gT,cellOf h2 (p3.add 5)=some (.slice fQ fj gT)/\
 (0<=n2/\n2<(fj:Int))/\
 ae fQ λp4=>
 ∃n3,cellOf h2 (p4.add (Int.toNat n2))=some (vI n3)/\
 K (vI n3) h2)else(
 I1 (IntKind.wrap .i64 (n2+1)) h2/\M1 (IntKind.wrap .i64 (n2+1)) h2<M1 n2 h2))else(
 K (vI 0) h2)
theorem cY.ok{n1 aZ K h}(x:cY n1 aZ K h):C.cY n1 aZ h K:=fk (fun|2=>([0,1,10,11],[(12,.int .i64)])|_=>([],[])) o0 Tryz.func49 x
def gM(n1:Int)(K:KT)(h1:ab):Prop:=
 ax z25 25 [vI n1,vI 98,vI (IntKind.wrap .i64 (98+(IntKind.wrap .i64 (Int.tdiv (IntKind.wrap .i64 ((IntKind.wrap .i64 (n1+4096))-1)) 4096)))),vI (IntKind.wrap .i64 ((IntKind.wrap .i64 (98+(IntKind.wrap .i64 (Int.tdiv (IntKind.wrap .i64 ((IntKind.wrap .i64 (n1+4096))-1)) 4096))))+(IntKind.wrap .i64 (Int.tdiv n1 64)))),vI (IntKind.wrap .i64 (8*(IntKind.wrap .i64 (Int.tdiv n1 64))))] 5 h1 λh3=>
 ∃bL,List.length bL=5/\ai h3 ⟨h1.size,0,none⟩ bL/\
 K (.agg ⟨bL⟩) h3
theorem gM.ok{n1 K h}(x:gM n1 K h):C.gM n1 h K:=fz Tryz.func51 x
def kN(kC:OA)(iu:Nat)(kD:Nat)(K:KT)(h1:ab):Prop:=
 bif((Int.tmod (iu:Int) 512) != 0)then(
 K (.tuple #[.pointer none,vI 32]) h1)else(
 C.nI (IntKind.wrap .i64 (Int.tdiv (iu:Int) 512)) h1 λr1 h2=>
 ∃q1 n1,r1 = .tuple #[.pointer q1,vI n1]/\
 bif(n1 != 0)then(
 K (.tuple #[.pointer none,vI n1]) h2)else(
 ae q1 λp1=>
 ∃aX aK bJ,cellOf h2 (p1.add 0)=some (.slice aX aK bJ)/\
 ∃(I1:Int->ab->Prop) (M1:Int->ab->Nat),I1 0 h2/\
 ∀(n2:Int),∀h3:ab,I1 n2 h3->
 bif(decide (n2<(aK:Int)))then(
 ae q1 λp2=>
 ∃fQ fj gT,cellOf h3 (p2.add 0)=some (.slice fQ fj gT)/\
 (0<=n2/\n2<(fj:Int))/\
 ae fQ λp3=>
 (0<=(IntKind.wrap .i64 (n2*512))/\(IntKind.wrap .i64 (n2*512))<=(iu:Int))/\
 qU yx (some (p3.add ((Int.toNat n2)*512))) 512 (.slice (if kD=(Int.toNat (IntKind.wrap .i64 (n2*512)))then kC else Option.map (Addr.add · (Int.toNat (IntKind.wrap .i64 (n2*512)))) kC) (iu-(Int.toNat (IntKind.wrap .i64 (n2*512)))) (kD-(Int.toNat (IntKind.wrap .i64 (n2*512))))) h3 λn3 h4=>
 I1 (IntKind.wrap .i64 (n2+1)) h4/\M1 (IntKind.wrap .i64 (n2+1)) h4<M1 n2 h3)else(
 K (.tuple #[.pointer q1,vI 0]) h3)))
theorem kN.ok{kC iu kD K h}(x:kN kC iu kD K h):C.kN kC iu kD h K:=fk (fun|7=>([0,4,25],[(26,.int .i64)])|_=>([],[])) (fun|9=>(.op 0 [] (.op 1 [] (.op 2 [] (.op 3 [] (.op 4 [] (.op 5 [] (.op 6 [] (.op 7 [] (.op 8 [] (.op 9 [] (.op 10 [] (.op 11 [] .nil))))))))))))|_=>.nil) Tryz.func53 x
def nH(d1:OA)(K:KT)(h1:ab):Prop:=
 Mz h1 λh2=>
 aC [.pointer d1,.map (some h1.size),.slice none 0 0,.bool false] 210 h2 λh3=>
 K (.pointer (some ⟨h2.size,0,none⟩)) h3
theorem nH.ok{d1 K h}(x:nH d1 K h):C.nH d1 h K:=fz Tryz.func61 x
def mD(s1:ByteArray)(K:KT)(h1:ab):Prop:=
 C.jb s1 h1 λr1 h2=>
 ∃v1 b1,r1 = .tuple #[v1,.bool b1]/\
 bif(decide ((s1.size:Int)>=1))then(
 bif(decide ((s1.size:Int)<=27))then(
 bif(!b1)then(
 C.fv s1 (mkStr [47,0]) h2 λr2 h3=>
 ∃b2,r2 = .bool b2/\
 K (.bool (!b2)) h3)else(
 K (.bool false) h2))else(
 K (.bool false) h2))else(
 K (.bool false) h2)
theorem mD.ok{s1 K h}(x:mD s1 K h):C.mD s1 h K:=fz Tryz.func63 x
def oA(t1:OA)(g1:LV)(n1:Int)(K:KT)(h1:ab):Prop:=
 aC g1 25 h1 λh2=>
 aC GU 144 h2 λh3=>
 ∃bV,List.length bV=5/\ai h3 ⟨h1.size,0,none⟩ bV/\
 List.length (bV:LV)=5/\
 ax GU 144 ([.pointer t1]++(bV++([vI n1]++(gC++[vI 0])))) 23 h3 λh5=>
 ∃eO,List.length eO=5/\ai h5 ⟨h1.size,0,none⟩ eO/\
 C.ja t1 eO n1 h5 λr1 h6=>
 ∃gV n2,r1 = .tuple #[.agg ⟨gV⟩,vI n2]/\
 ar (aS h3 7) gV 15 h6 λh7=>
 bQ (aS h3 22) (vI n2) h7 λh8=>
 ∃n3,cellOf h8 (aS h3 22)=some (vI n3)/\
 bif(n3 != 0)then(
 ∃lN,List.length lN=23/\ai h8 ⟨h3.size,0,none⟩ lN/\
 ar ⟨h2.size,0,none⟩ lN 23 h8 λh9=>
 ∃bL,List.length bL=23/\ai h9 ⟨h2.size,0,none⟩ bL/\
 K (.agg ⟨bL⟩) h9)else(
 ∃n4,cellOf h8 (Addr.add (Addr.add ⟨h3.size,0,none⟩ 7) 0)=some (vI n4)/\
 bif(n4==0)then(
 bQ (aS h3 22) (vI 110) h8 λh10=>
 ∃kx,List.length kx=23/\ai h10 ⟨h3.size,0,none⟩ kx/\
 ar ⟨h2.size,0,none⟩ kx 23 h10 λcg=>
 ∃di,List.length di=23/\ai cg ⟨h2.size,0,none⟩ di/\
 K (.agg ⟨di⟩) cg)else(
 ∃n5,cellOf h8 (Addr.add (Addr.add ⟨h3.size,0,none⟩ 7) 0)=some (vI n5)/\
 bif(n5 != 2)then(
 bQ (aS h3 22) (vI 161) h8 λbb=>
 ∃pB,List.length pB=23/\ai bb ⟨h3.size,0,none⟩ pB/\
 ar ⟨h2.size,0,none⟩ pB 23 bb λbU=>
 ∃fA,List.length fA=23/\ai bU ⟨h2.size,0,none⟩ fA/\
 K (.agg ⟨fA⟩) bU)else(
 ∃GV,List.length GV=23/\ai h8 ⟨h3.size,0,none⟩ GV/\
 ar ⟨h2.size,0,none⟩ GV 23 h8 λgh=>
 ∃jf,List.length jf=23/\ai gh ⟨h2.size,0,none⟩ jf/\
 K (.agg ⟨jf⟩) gh)))
theorem oA.ok{t1 g1 n1 K h}(x:oA t1 g1 n1 K h):C.oA t1 g1 n1 h K:=fz Tryz.func65 x
def fw(r1:OA)(K:KT)(h1:ab):Prop:=
 aC [.pointer r1] 245 h1 λh2=>
 K (.func (.func 135) #[] ⟨[.pointer (some ⟨h1.size,0,none⟩)]⟩) h2
theorem fw.ok{r1 K h}(x:fw r1 K h):C.fw r1 h K:=fz Tryz.func66 x
def pO(t1:OA)(g1:LV)(n1:Int)(aZ:ByteArray)(K:KT)(h1:ab):Prop:=
 aC g1 25 h1 λh2=>
 aC [.string aZ] 9 h2 λh3=>
 aC z157 157 h3 λh4=>
 aC (GU++[vI 0,vI 0,.slice none 0 0,.slice none 0 0,vI 0,.string (mkStr []),vI 0]) 160 h4 λh5=>
 aC z157 157 h5 λh6=>
 bQ ⟨h5.size,0,none⟩ (.pointer (some ⟨h4.size,0,none⟩)) h6 λh7=>
 ∃s1,cellOf h7 ⟨h2.size,0,none⟩=some (.string s1)/\
 C.mD s1 h7 λr1 h8=>
 ∃b1,r1 = .bool b1/\
 bif(!b1)then(
 ∃q1,cellOf h8 ⟨h5.size,0,none⟩=some (.pointer q1)/\
 ae q1 λp1=>
 bQ (Addr.add (p1.add 0) 22) (vI 1) h8 λh9=>
 ∃q2,cellOf h9 ⟨h5.size,0,none⟩=some (.pointer q2)/\
 bQ ⟨h3.size,0,none⟩ (.pointer q2) h9 λh10=>
 ∃bL,cellOf h10 ⟨h3.size,0,none⟩=some (.pointer bL)/\
 K (.pointer bL) h10)else(
 ∃q3,cellOf h8 ⟨h5.size,0,none⟩=some (.pointer q3)/\
 ∃bV,List.length bV=5/\ai h8 ⟨h1.size,0,none⟩ bV/\
 C.oA t1 bV n1 h8 λr2 cg=>
 ∃eO,r2 = .agg ⟨eO⟩/\
 (cellOf cg ⟨h5.size,0,none⟩=some (.pointer q3))/\
 ae q3 λp2=>
 ar (p2.add 0) eO 23 cg λbb=>
 ∃q4,cellOf bb ⟨h5.size,0,none⟩=some (.pointer q4)/\
 ae q4 λp3=>
 C.fw (some (p3.add 0)) bb λr3 bU=>
 ∃v1,r3=v1/\
 ∀(R1:Loop),
 (∀(gV:LV),∀(gh:ab) (k1:KT),br gh (bU.size+1) R1 .ready none->
 (
 ax SJ 150 gV 4 gh λiS=>
 br iS (bU.size+1) R1 .ready none/\
 td iS (bU.size+1) R1 .busy none λeM=>
 ∃aX aK bJ,cellOf eM (aS gh 3)=some (.slice aX aK bJ)/\
 ∃(I1:Int->ab->Prop) (M1:Int->ab->Nat),I1 0 eM/\
 ∀(n2:Int),∀h18:ab,I1 n2 h18->
 bif(decide (n2<(aK:Int)))then(
 (0<=n2/\n2<(aK:Int))/\
 ae aX λp4=>
 ∃lN,List.length lN=3/\ai h18 (p4.add ((Int.toNat n2)*3)) lN/\
 ax zP 113 lN 3 h18 λgY=>
 ∃s2,cellOf gY (aS h18 1)=some (.string s2)/\
 ∃s3,cellOf gY ⟨h2.size,0,none⟩=some (.string s3)/\
 bif(s2.toList==s3.toList)then(
 ∃q5,cellOf gY ⟨h5.size,0,none⟩=some (.pointer q5)/\
 ∃q6,cellOf gY ⟨h5.size,0,none⟩=some (.pointer q6)/\
 ∃kx,List.length kx=4/\ai gY ⟨gh.size,0,none⟩ kx/\
 ∃pB,List.length pB=3/\ai gY ⟨h18.size,0,none⟩ pB/\
 ae q5 λp5=>
 ar (p5.add 23) kx 4 gY λlx=>
 (cellOf lx ⟨h5.size,0,none⟩=some (.pointer q6))/\
 (List.length (pB:LV)=3/\ai lx ⟨h18.size,0,none⟩ pB)/\
 ae q6 λp6=>
 ar (p6.add 27) pB 3 lx λjC=>
 ∃q7,cellOf jC ⟨h5.size,0,none⟩=some (.pointer q7)/\
 bQ ⟨h3.size,0,none⟩ (.pointer q7) jC λlu=>
 br lu (bU.size+1) R1 .busy none/\
 k1 (.bool false) (cZ lu (bU.size+1) R1 .done (some .ret)))else(
 I1 (IntKind.wrap .i64 (n2+1)) gY/\M1 (IntKind.wrap .i64 (n2+1)) gY<M1 n2 h18))else(
 br h18 (bU.size+1) R1 .busy none/\
 k1 (.bool true) (cZ h18 (bU.size+1) R1 .ready none)))->
 mj Tryz.prog (bU.size+1) [.agg ⟨gV⟩] gh k1)->
 rP Tryz.prog v1 [.func (.yield (bU.size+1)) #[] #[]] (bN bU R1) λ_ pz=>
 ∃(st1:LoopState) (iP:Option Code),br pz (bU.size+1) R1 st1 iP/\st1≠.busy/\
 vz iP (
 td pz (bU.size+1) R1 .exhausted iP λjv=>
 ∃q8,cellOf jv ⟨h5.size,0,none⟩=some (.pointer q8)/\
 ae q8 λp7=>
 ∃n3,cellOf jv (Addr.add (p7.add 0) 22)=some (vI n3)/\
 bif(n3==0)then(
 ∃q9,cellOf jv ⟨h5.size,0,none⟩=some (.pointer q9)/\
 ae q9 λp8=>
 bQ (Addr.add (p8.add 0) 22) (vI 160) jv λjG=>
 ∃Oz,cellOf jG ⟨h5.size,0,none⟩=some (.pointer Oz)/\
 bQ ⟨h3.size,0,none⟩ (.pointer Oz) jG λsb=>
 qm bU.size sb λog=>
 ∃di,cellOf og ⟨h3.size,0,none⟩=some (.pointer di)/\
 K (.pointer di) og)else(
 ∃Ap,cellOf jv ⟨h5.size,0,none⟩=some (.pointer Ap)/\
 bQ ⟨h3.size,0,none⟩ (.pointer Ap) jv λAl=>
 qm bU.size Al λnz=>
 ∃fA,cellOf nz ⟨h3.size,0,none⟩=some (.pointer fA)/\
 K (.pointer fA) nz)) (
 td pz (bU.size+1) R1 .exhausted iP λsT=>
 qm bU.size sT λpj=>
 ∃jf,cellOf pj ⟨h3.size,0,none⟩=some (.pointer jf)/\
 K (.pointer jf) pj) (λ_=>False))
theorem pO.ok{t1 g1 n1 aZ K h}(x:pO t1 g1 n1 aZ K h):C.pO t1 g1 n1 aZ h K:=fk (fun|9=>([7,8,9,10,36,37],[(38,.int .i64)])|1000007=>([],[(34,.agg)])|_=>([],[])) (fun|5=>(.op 0 [] (.op 1 [] (.op 2 [] (.op 3 [] (.op 4 [0] (.op 5 [] (.op 6 [] (.op 7 [] .nil))))))))|12=>(.op 0 [] (.op 1 [] (.op 2 [] (.op 3 [] (.op 4 [] (.op 5 [] (.op 6 [1,3] (.op 7 [] (.op 8 [] (.op 9 [] .nil))))))))))|_=>.nil) Tryz.func74 x
def pP(t1:OA)(g1:LV)(n1:Int)(K:KT)(h1:ab):Prop:=
 aC g1 25 h1 λh2=>
 aC gC 123 h2 λh3=>
 ∃bV,List.length bV=5/\ai h3 ⟨h1.size,0,none⟩ bV/\
 C.ja t1 bV n1 h3 λr1 h4=>
 ∃eO n2,r1 = .tuple #[.agg ⟨eO⟩,vI n2]/\
 ax gC 123 eO 15 h4 λh6=>
 bif(n2==0)then(
 ∃n3,cellOf h6 (Addr.add ⟨h4.size,0,none⟩ 0)=some (vI n3)/\
 bif(n3==0)then(
 ∃gV,List.length gV=15/\ai h6 ⟨h4.size,0,none⟩ gV/\
 ar ⟨h2.size,0,none⟩ gV 15 h6 λh7=>
 ∃bL,List.length bL=15/\ai h7 ⟨h2.size,0,none⟩ bL/\
 K (.tuple #[.agg ⟨bL⟩,vI 110]) h7)else(
 ∃lN,List.length lN=15/\ai h6 ⟨h4.size,0,none⟩ lN/\
 ar ⟨h2.size,0,none⟩ lN 15 h6 λh8=>
 ∃di,List.length di=15/\ai h8 ⟨h2.size,0,none⟩ di/\
 K (.tuple #[.agg ⟨di⟩,vI n2]) h8))else(
 ∃kx,List.length kx=15/\ai h6 ⟨h4.size,0,none⟩ kx/\
 ar ⟨h2.size,0,none⟩ kx 15 h6 λh9=>
 ∃fA,List.length fA=15/\ai h9 ⟨h2.size,0,none⟩ fA/\
 K (.tuple #[.agg ⟨fA⟩,vI n2]) h9)
theorem pP.ok{t1 g1 n1 K h}(x:pP t1 g1 n1 K h):C.pP t1 g1 n1 h K:=fz Tryz.func83 x
def ak.k6(h4:ab)(cG:Int)(aL:OA)(aA:Nat)(bh:Nat)(bz:OA)(bo:Nat)(bB:Nat)(aE:OA)(aB:Nat)(aG:Nat)(n4:Int)(h10:ab)(I1:Int->OA->Nat->Nat->OA->Nat->Nat->OA->Nat->Nat->Int->ab->Prop)(M1:Int->OA->Nat->Nat->OA->Nat->Nat->OA->Nat->Nat->Int->ab->Nat)(be:Int)(aZ:ByteArray)(n9:Int)(tU:ByteArray)(jA:Int)(mE:Int)(zm:ab)(K:KT):Prop:=
 ∃n13,cellOf zm (aS h4 4)=some (vI n13)/\
 bif(decide ((aA:Int)>=n13))then(
 I1 mE aL aA bh bz bo bB aE aB aG (IntKind.wrap .i64 (n4+1)) zm/\M1 mE aL aA bh bz bo bB aE aB aG (IntKind.wrap .i64 (n4+1)) zm<M1 cG aL aA bh bz bo bB aE aB aG n4 h10)else(
 (0<=be/\be<(aA:Int))/\
 ae aL λp24=>
 ∃q9,cellOf zm (p24.add (Int.toNat be))=some (.pointer q9)/\
 ae q9 λp25=>
 ∃n14,cellOf zm (p25.add 1)=some (vI n14)/\
 aC [vI (IntKind.wrap .i64 (1+(IntKind.wrap .i64 ((Int.tmod (IntKind.wrap .u64 ((IntKind.wrap .i64 (n9-1)))) 4))))),vI (IntKind.wrap .i64 (n14+1)),vI 1,.string (mkStr []),.slice none 0 0,.slice none 0 0,vI 0] 63 zm λh37=>
 bif((IntKind.wrap .i64 (1+(IntKind.wrap .i64 ((Int.tmod (IntKind.wrap .u64 ((IntKind.wrap .i64 (n9-1)))) 4)))))==2)then(
 bQ (aS zm 2) (vI 2) h37 λUe=>
 bQ (aS zm 6) (vI be) Ue λh39=>
 (0<=be/\be<(aA:Int))/\
 ae aL λp26=>
 ∃Oz,cellOf h39 (p26.add (Int.toNat be))=some (.pointer Oz)/\
 ae Oz λp27=>
 ∃n15,cellOf h39 (p27.add 2)=some (vI n15)/\
 ae Oz λp28=>
 bQ (p28.add 2) (vI (IntKind.wrap .i64 (n15+1))) h39 λGX=>
 aC [vI (aA:Int)] 3 GX λY3=>
 ∃E5,List.length E5=1*1/\ag Y3 (some ⟨GX.size,0,none⟩) E5/\(∀v∈E5,v.oneCell'=true)/\
 aw qP 3 bz bo bB 1 E5 Y3 λCM CN CO Y4=>
 aC [.pointer (some ⟨zm.size,0,none⟩)] 59 Y4 λUf=>
 ∃E6,List.length E6=1*1/\ag Uf (some ⟨Y4.size,0,none⟩) E6/\(∀v∈E6,v.oneCell'=true)/\
 aw GS 59 aL aA bh 1 E6 Uf λyA yB GY E7=>
 (0<=be/\be<(yB:Int))/\
 ae yA λOB=>
 ∃Ap,cellOf E7 (OB.add (Int.toNat be))=some (.pointer Ap)/\
 (0<=be/\be<(yB:Int))/\
 ae yA λOC=>
 ∃Jm,cellOf E7 (OC.add (Int.toNat be))=some (.pointer Jm)/\
 (0<=be/\be<(yB:Int))/\
 ae yA λp31=>
 ∃Iy,cellOf E7 (p31.add (Int.toNat be))=some (.pointer Iy)/\
 ae Iy λW4=>
 ∃E8 E9 Fa,cellOf E7 (W4.add 4)=some (.slice E8 E9 Fa)/\
 (0<=be/\be<(yB:Int))/\
 ae yA λUg=>
 ∃RL,cellOf E7 (Ug.add (Int.toNat be))=some (.pointer RL)/\
 ae RL λUh=>
 ∃zR zS zT,cellOf E7 (Uh.add 5)=some (.slice zR zS zT)/\
 (
 aC [.string aZ] 9 E7 λRN=>
 (cellOf RN (OB.add (Int.toNat be))=some (.pointer Ap))/\
 (cellOf RN (OC.add (Int.toNat be))=some (.pointer Jm))/\
 (cellOf RN (p31.add (Int.toNat be))=some (.pointer Iy))/\
 (cellOf RN (W4.add 4)=some (.slice E8 E9 Fa))/\
 (cellOf RN (Ug.add (Int.toNat be))=some (.pointer RL))/\
 (cellOf RN (Uh.add 5)=some (.slice zR zS zT))/\
 (
 ∃Ui,List.length Ui=1*1/\ag RN (some ⟨E7.size,0,none⟩) Ui/\(∀v∈Ui,v.oneCell'=true)/\
 aw tN 9 E8 E9 Fa 1 Ui RN λsA15 sL15 sC15 W5=>
 (cellOf W5 (OB.add (Int.toNat be))=some (.pointer Ap))/\
 (cellOf W5 (OC.add (Int.toNat be))=some (.pointer Jm))/\
 (cellOf W5 (Ug.add (Int.toNat be))=some (.pointer RL))/\
 (cellOf W5 (Uh.add 5)=some (.slice zR zS zT))/\
 aC [vI (aA:Int)] 3 W5 λFc=>
 (cellOf Fc (OB.add (Int.toNat be))=some (.pointer Ap))/\
 (cellOf Fc (OC.add (Int.toNat be))=some (.pointer Jm))/\
 (cellOf Fc (p31.add (Int.toNat be))=some (.pointer Iy))/\
 (cellOf Fc (W4.add 4)=some (.slice E8 E9 Fa))/\
 (cellOf Fc (Ug.add (Int.toNat be))=some (.pointer RL))/\
 (cellOf Fc (Uh.add 5)=some (.slice zR zS zT))/\
 ∃KW,List.length KW=1*1/\ag Fc (some ⟨W5.size,0,none⟩) KW/\(∀v∈KW,v.oneCell'=true)/\
 aw qP 3 zR zS zT 1 KW Fc λsA16 sL16 sC16 h48=>
 (cellOf h48 (OB.add (Int.toNat be))=some (.pointer Ap))/\
 (cellOf h48 (OC.add (Int.toNat be))=some (.pointer Jm))/\
 ae Ap λp35=>
 bQ (p35.add 4) (.slice sA15 sL15 sC15) h48 λh49=>
 ae Jm λp36=>
 bQ (p36.add 5) (.slice sA16 sL16 sC16) h49 λh50=>
 I1 (IntKind.wrap .i64 (mE-jA)) yA yB GY CM CN CO aE aB aG (IntKind.wrap .i64 (n4+1)) h50/\M1 (IntKind.wrap .i64 (mE-jA)) yA yB GY CM CN CO aE aB aG (IntKind.wrap .i64 (n4+1)) h50<M1 cG aL aA bh bz bo bB aE aB aG n4 h10)/\
 aC [vI (aA:Int)] 3 RN λW6=>
 (cellOf W6 (OB.add (Int.toNat be))=some (.pointer Ap))/\
 (cellOf W6 (OC.add (Int.toNat be))=some (.pointer Jm))/\
 (cellOf W6 (p31.add (Int.toNat be))=some (.pointer Iy))/\
 (cellOf W6 (W4.add 4)=some (.slice E8 E9 Fa))/\
 (cellOf W6 (Ug.add (Int.toNat be))=some (.pointer RL))/\
 (cellOf W6 (Uh.add 5)=some (.slice zR zS zT))/\
 ∃KX,List.length KX=1*1/\ag W6 (some ⟨E7.size,0,none⟩) KX/\(∀v∈KX,v.oneCell'=true)/\
 aw tN 9 E8 E9 Fa 1 KX W6 λsA17 sL17 sC17 h52=>
 (cellOf h52 (OB.add (Int.toNat be))=some (.pointer Ap))/\
 (cellOf h52 (OC.add (Int.toNat be))=some (.pointer Jm))/\
 (cellOf h52 (Ug.add (Int.toNat be))=some (.pointer RL))/\
 (cellOf h52 (Uh.add 5)=some (.slice zR zS zT))/\
 ∃KY,List.length KY=1*1/\ag h52 (some ⟨RN.size,0,none⟩) KY/\(∀v∈KY,v.oneCell'=true)/\
 aw qP 3 zR zS zT 1 KY h52 λsA18 sL18 sC18 h53=>
 (cellOf h53 (OB.add (Int.toNat be))=some (.pointer Ap))/\
 (cellOf h53 (OC.add (Int.toNat be))=some (.pointer Jm))/\
 ae Ap λp37=>
 bQ (p37.add 4) (.slice sA17 sL17 sC17) h53 λh54=>
 ae Jm λp38=>
 bQ (p38.add 5) (.slice sA18 sL18 sC18) h54 λh55=>
 I1 (IntKind.wrap .i64 (mE-jA)) yA yB GY CM CN CO aE aB aG (IntKind.wrap .i64 (n4+1)) h55/\M1 (IntKind.wrap .i64 (mE-jA)) yA yB GY CM CN CO aE aB aG (IntKind.wrap .i64 (n4+1)) h55<M1 cG aL aA bh bz bo bB aE aB aG n4 h10)/\
 aC [vI (aA:Int)] 3 E7 λW7=>
 (cellOf W7 (OB.add (Int.toNat be))=some (.pointer Ap))/\
 (cellOf W7 (OC.add (Int.toNat be))=some (.pointer Jm))/\
 (cellOf W7 (p31.add (Int.toNat be))=some (.pointer Iy))/\
 (cellOf W7 (W4.add 4)=some (.slice E8 E9 Fa))/\
 (cellOf W7 (Ug.add (Int.toNat be))=some (.pointer RL))/\
 (cellOf W7 (Uh.add 5)=some (.slice zR zS zT))/\
 aC [.string aZ] 9 W7 λW8=>
 (cellOf W8 (OB.add (Int.toNat be))=some (.pointer Ap))/\
 (cellOf W8 (OC.add (Int.toNat be))=some (.pointer Jm))/\
 (cellOf W8 (p31.add (Int.toNat be))=some (.pointer Iy))/\
 (cellOf W8 (W4.add 4)=some (.slice E8 E9 Fa))/\
 (cellOf W8 (Ug.add (Int.toNat be))=some (.pointer RL))/\
 (cellOf W8 (Uh.add 5)=some (.slice zR zS zT))/\
 ∃KZ,List.length KZ=1*1/\ag W8 (some ⟨W7.size,0,none⟩) KZ/\(∀v∈KZ,v.oneCell'=true)/\
 aw tN 9 E8 E9 Fa 1 KZ W8 λsA19 sL19 sC19 h58=>
 (cellOf h58 (OB.add (Int.toNat be))=some (.pointer Ap))/\
 (cellOf h58 (OC.add (Int.toNat be))=some (.pointer Jm))/\
 (cellOf h58 (Ug.add (Int.toNat be))=some (.pointer RL))/\
 (cellOf h58 (Uh.add 5)=some (.slice zR zS zT))/\
 ∃K0,List.length K0=1*1/\ag h58 (some ⟨E7.size,0,none⟩) K0/\(∀v∈K0,v.oneCell'=true)/\
 aw qP 3 zR zS zT 1 K0 h58 λsA20 sL20 sC20 h59=>
 (cellOf h59 (OB.add (Int.toNat be))=some (.pointer Ap))/\
 (cellOf h59 (OC.add (Int.toNat be))=some (.pointer Jm))/\
 ae Ap λp39=>
 bQ (p39.add 4) (.slice sA19 sL19 sC19) h59 λh60=>
 ae Jm λp40=>
 bQ (p40.add 5) (.slice sA20 sL20 sC20) h60 λh61=>
 I1 (IntKind.wrap .i64 (mE-jA)) yA yB GY CM CN CO aE aB aG (IntKind.wrap .i64 (n4+1)) h61/\M1 (IntKind.wrap .i64 (mE-jA)) yA yB GY CM CN CO aE aB aG (IntKind.wrap .i64 (n4+1)) h61<M1 cG aL aA bh bz bo bB aE aB aG n4 h10)else(
 bif((IntKind.wrap .i64 (1+(IntKind.wrap .i64 ((Int.tmod (IntKind.wrap .u64 ((IntKind.wrap .i64 (n9-1)))) 4)))))==3)then(
 bQ (aS zm 3) (.string tU) h37 λh62=>
 aC [vI (aA:Int)] 3 h62 λh63=>
 ∃K3,List.length K3=1*1/\ag h63 (some ⟨h62.size,0,none⟩) K3/\(∀v∈K3,v.oneCell'=true)/\
 aw qP 3 aE aB aG 1 K3 h63 λMF MG MH h64=>
 aC [.pointer (some ⟨zm.size,0,none⟩)] 59 h64 λh65=>
 ∃K4,List.length K4=1*1/\ag h65 (some ⟨h64.size,0,none⟩) K4/\(∀v∈K4,v.oneCell'=true)/\
 aw GS 59 aL aA bh 1 K4 h65 λCP CQ MI Px=>
 (0<=be/\be<(CQ:Int))/\
 ae CP λOD=>
 ∃Jn,cellOf Px (OD.add (Int.toNat be))=some (.pointer Jn)/\
 (0<=be/\be<(CQ:Int))/\
 ae CP λOE=>
 ∃Jo,cellOf Px (OE.add (Int.toNat be))=some (.pointer Jo)/\
 (0<=be/\be<(CQ:Int))/\
 ae CP λp43=>
 ∃Y5,cellOf Px (p43.add (Int.toNat be))=some (.pointer Y5)/\
 ae Y5 λp44=>
 ∃Fe Ff Fg,cellOf Px (p44.add 4)=some (.slice Fe Ff Fg)/\
 (0<=be/\be<(CQ:Int))/\
 ae CP λUj=>
 ∃RO,cellOf Px (Uj.add (Int.toNat be))=some (.pointer RO)/\
 ae RO λUk=>
 ∃zU zV zW,cellOf Px (Uk.add 5)=some (.slice zU zV zW)/\
 (
 aC [.string aZ] 9 Px λRP=>
 (cellOf RP (OD.add (Int.toNat be))=some (.pointer Jn))/\
 (cellOf RP (OE.add (Int.toNat be))=some (.pointer Jo))/\
 (cellOf RP (p43.add (Int.toNat be))=some (.pointer Y5))/\
 (cellOf RP (p44.add 4)=some (.slice Fe Ff Fg))/\
 (cellOf RP (Uj.add (Int.toNat be))=some (.pointer RO))/\
 (cellOf RP (Uk.add 5)=some (.slice zU zV zW))/\
 (
 ∃K7,List.length K7=1*1/\ag RP (some ⟨Px.size,0,none⟩) K7/\(∀v∈K7,v.oneCell'=true)/\
 aw tN 9 Fe Ff Fg 1 K7 RP λsA25 sL25 sC25 h68=>
 (cellOf h68 (OD.add (Int.toNat be))=some (.pointer Jn))/\
 (cellOf h68 (OE.add (Int.toNat be))=some (.pointer Jo))/\
 (cellOf h68 (Uj.add (Int.toNat be))=some (.pointer RO))/\
 (cellOf h68 (Uk.add 5)=some (.slice zU zV zW))/\
 aC [vI (aA:Int)] 3 h68 λW9=>
 (cellOf W9 (OD.add (Int.toNat be))=some (.pointer Jn))/\
 (cellOf W9 (OE.add (Int.toNat be))=some (.pointer Jo))/\
 (cellOf W9 (p43.add (Int.toNat be))=some (.pointer Y5))/\
 (cellOf W9 (p44.add 4)=some (.slice Fe Ff Fg))/\
 (cellOf W9 (Uj.add (Int.toNat be))=some (.pointer RO))/\
 (cellOf W9 (Uk.add 5)=some (.slice zU zV zW))/\
 ∃K8,List.length K8=1*1/\ag W9 (some ⟨h68.size,0,none⟩) K8/\(∀v∈K8,v.oneCell'=true)/\
 aw qP 3 zU zV zW 1 K8 W9 λsA26 sL26 sC26 h70=>
 (cellOf h70 (OD.add (Int.toNat be))=some (.pointer Jn))/\
 (cellOf h70 (OE.add (Int.toNat be))=some (.pointer Jo))/\
 ae Jn λp47=>
 bQ (p47.add 4) (.slice sA25 sL25 sC25) h70 λh71=>
 ae Jo λp48=>
 bQ (p48.add 5) (.slice sA26 sL26 sC26) h71 λh72=>
 I1 (IntKind.wrap .i64 (mE-jA)) CP CQ MI bz bo bB MF MG MH (IntKind.wrap .i64 (n4+1)) h72/\M1 (IntKind.wrap .i64 (mE-jA)) CP CQ MI bz bo bB MF MG MH (IntKind.wrap .i64 (n4+1)) h72<M1 cG aL aA bh bz bo bB aE aB aG n4 h10)/\
 aC [vI (aA:Int)] 3 RP λXa=>
 (cellOf Xa (OD.add (Int.toNat be))=some (.pointer Jn))/\
 (cellOf Xa (OE.add (Int.toNat be))=some (.pointer Jo))/\
 (cellOf Xa (p43.add (Int.toNat be))=some (.pointer Y5))/\
 (cellOf Xa (p44.add 4)=some (.slice Fe Ff Fg))/\
 (cellOf Xa (Uj.add (Int.toNat be))=some (.pointer RO))/\
 (cellOf Xa (Uk.add 5)=some (.slice zU zV zW))/\
 ∃K9,List.length K9=1*1/\ag Xa (some ⟨Px.size,0,none⟩) K9/\(∀v∈K9,v.oneCell'=true)/\
 aw tN 9 Fe Ff Fg 1 K9 Xa λsA27 sL27 sC27 h74=>
 (cellOf h74 (OD.add (Int.toNat be))=some (.pointer Jn))/\
 (cellOf h74 (OE.add (Int.toNat be))=some (.pointer Jo))/\
 (cellOf h74 (Uj.add (Int.toNat be))=some (.pointer RO))/\
 (cellOf h74 (Uk.add 5)=some (.slice zU zV zW))/\
 ∃La,List.length La=1*1/\ag h74 (some ⟨RP.size,0,none⟩) La/\(∀v∈La,v.oneCell'=true)/\
 aw qP 3 zU zV zW 1 La h74 λsA28 sL28 sC28 h75=>
 (cellOf h75 (OD.add (Int.toNat be))=some (.pointer Jn))/\
 (cellOf h75 (OE.add (Int.toNat be))=some (.pointer Jo))/\
 ae Jn λp49=>
 bQ (p49.add 4) (.slice sA27 sL27 sC27) h75 λh76=>
 ae Jo λp50=>
 bQ (p50.add 5) (.slice sA28 sL28 sC28) h76 λh77=>
 I1 (IntKind.wrap .i64 (mE-jA)) CP CQ MI bz bo bB MF MG MH (IntKind.wrap .i64 (n4+1)) h77/\M1 (IntKind.wrap .i64 (mE-jA)) CP CQ MI bz bo bB MF MG MH (IntKind.wrap .i64 (n4+1)) h77<M1 cG aL aA bh bz bo bB aE aB aG n4 h10)/\
 aC [vI (aA:Int)] 3 Px λXb=>
 (cellOf Xb (OD.add (Int.toNat be))=some (.pointer Jn))/\
 (cellOf Xb (OE.add (Int.toNat be))=some (.pointer Jo))/\
 (cellOf Xb (p43.add (Int.toNat be))=some (.pointer Y5))/\
 (cellOf Xb (p44.add 4)=some (.slice Fe Ff Fg))/\
 (cellOf Xb (Uj.add (Int.toNat be))=some (.pointer RO))/\
 (cellOf Xb (Uk.add 5)=some (.slice zU zV zW))/\
 aC [.string aZ] 9 Xb λXc=>
 (cellOf Xc (OD.add (Int.toNat be))=some (.pointer Jn))/\
 (cellOf Xc (OE.add (Int.toNat be))=some (.pointer Jo))/\
 (cellOf Xc (p43.add (Int.toNat be))=some (.pointer Y5))/\
 (cellOf Xc (p44.add 4)=some (.slice Fe Ff Fg))/\
 (cellOf Xc (Uj.add (Int.toNat be))=some (.pointer RO))/\
 (cellOf Xc (Uk.add 5)=some (.slice zU zV zW))/\
 ∃Lb,List.length Lb=1*1/\ag Xc (some ⟨Xb.size,0,none⟩) Lb/\(∀v∈Lb,v.oneCell'=true)/\
 aw tN 9 Fe Ff Fg 1 Lb Xc λsA29 sL29 sC29 h80=>
 (cellOf h80 (OD.add (Int.toNat be))=some (.pointer Jn))/\
 (cellOf h80 (OE.add (Int.toNat be))=some (.pointer Jo))/\
 (cellOf h80 (Uj.add (Int.toNat be))=some (.pointer RO))/\
 (cellOf h80 (Uk.add 5)=some (.slice zU zV zW))/\
 ∃Lc,List.length Lc=1*1/\ag h80 (some ⟨Px.size,0,none⟩) Lc/\(∀v∈Lc,v.oneCell'=true)/\
 aw qP 3 zU zV zW 1 Lc h80 λsA30 sL30 sC30 h81=>
 (cellOf h81 (OD.add (Int.toNat be))=some (.pointer Jn))/\
 (cellOf h81 (OE.add (Int.toNat be))=some (.pointer Jo))/\
 ae Jn λp51=>
 bQ (p51.add 4) (.slice sA29 sL29 sC29) h81 λh82=>
 ae Jo λp52=>
 bQ (p52.add 5) (.slice sA30 sL30 sC30) h82 λh83=>
 I1 (IntKind.wrap .i64 (mE-jA)) CP CQ MI bz bo bB MF MG MH (IntKind.wrap .i64 (n4+1)) h83/\M1 (IntKind.wrap .i64 (mE-jA)) CP CQ MI bz bo bB MF MG MH (IntKind.wrap .i64 (n4+1)) h83<M1 cG aL aA bh bz bo bB aE aB aG n4 h10)else(
 bQ (aS zm 0) (vI 1) h37 λh84=>
 aC [vI (aA:Int)] 3 h84 λh85=>
 ∃Ld,List.length Ld=1*1/\ag h85 (some ⟨h84.size,0,none⟩) Ld/\(∀v∈Ld,v.oneCell'=true)/\
 aw qP 3 aE aB aG 1 Ld h85 λMJ MK ML h86=>
 aC [.pointer (some ⟨zm.size,0,none⟩)] 59 h86 λh87=>
 ∃Le,List.length Le=1*1/\ag h87 (some ⟨h86.size,0,none⟩) Le/\(∀v∈Le,v.oneCell'=true)/\
 aw GS 59 aL aA bh 1 Le h87 λCR CS MM Py=>
 (0<=be/\be<(CS:Int))/\
 ae CR λOG=>
 ∃Jp,cellOf Py (OG.add (Int.toNat be))=some (.pointer Jp)/\
 (0<=be/\be<(CS:Int))/\
 ae CR λOH=>
 ∃Jq,cellOf Py (OH.add (Int.toNat be))=some (.pointer Jq)/\
 (0<=be/\be<(CS:Int))/\
 ae CR λp55=>
 ∃Y6,cellOf Py (p55.add (Int.toNat be))=some (.pointer Y6)/\
 ae Y6 λp56=>
 ∃Fh Fj Fk,cellOf Py (p56.add 4)=some (.slice Fh Fj Fk)/\
 (0<=be/\be<(CS:Int))/\
 ae CR λUl=>
 ∃MN,cellOf Py (Ul.add (Int.toNat be))=some (.pointer MN)/\
 ae MN λUm=>
 ∃zX zY zZ,cellOf Py (Um.add 5)=some (.slice zX zY zZ)/\
 (
 aC [.string aZ] 9 Py λRQ=>
 (cellOf RQ (OG.add (Int.toNat be))=some (.pointer Jp))/\
 (cellOf RQ (OH.add (Int.toNat be))=some (.pointer Jq))/\
 (cellOf RQ (p55.add (Int.toNat be))=some (.pointer Y6))/\
 (cellOf RQ (p56.add 4)=some (.slice Fh Fj Fk))/\
 (cellOf RQ (Ul.add (Int.toNat be))=some (.pointer MN))/\
 (cellOf RQ (Um.add 5)=some (.slice zX zY zZ))/\
 (
 ∃Lg,List.length Lg=1*1/\ag RQ (some ⟨Py.size,0,none⟩) Lg/\(∀v∈Lg,v.oneCell'=true)/\
 aw tN 9 Fh Fj Fk 1 Lg RQ λsA35 sL35 sC35 h90=>
 (cellOf h90 (OG.add (Int.toNat be))=some (.pointer Jp))/\
 (cellOf h90 (OH.add (Int.toNat be))=some (.pointer Jq))/\
 (cellOf h90 (Ul.add (Int.toNat be))=some (.pointer MN))/\
 (cellOf h90 (Um.add 5)=some (.slice zX zY zZ))/\
 aC [vI (aA:Int)] 3 h90 λXd=>
 (cellOf Xd (OG.add (Int.toNat be))=some (.pointer Jp))/\
 (cellOf Xd (OH.add (Int.toNat be))=some (.pointer Jq))/\
 (cellOf Xd (p55.add (Int.toNat be))=some (.pointer Y6))/\
 (cellOf Xd (p56.add 4)=some (.slice Fh Fj Fk))/\
 (cellOf Xd (Ul.add (Int.toNat be))=some (.pointer MN))/\
 (cellOf Xd (Um.add 5)=some (.slice zX zY zZ))/\
 ∃Lh,List.length Lh=1*1/\ag Xd (some ⟨h90.size,0,none⟩) Lh/\(∀v∈Lh,v.oneCell'=true)/\
 aw qP 3 zX zY zZ 1 Lh Xd λsA36 sL36 sC36 h92=>
 (cellOf h92 (OG.add (Int.toNat be))=some (.pointer Jp))/\
 (cellOf h92 (OH.add (Int.toNat be))=some (.pointer Jq))/\
 ae Jp λp59=>
 bQ (p59.add 4) (.slice sA35 sL35 sC35) h92 λh93=>
 ae Jq λp60=>
 bQ (p60.add 5) (.slice sA36 sL36 sC36) h93 λh94=>
 I1 (IntKind.wrap .i64 (mE-jA)) CR CS MM bz bo bB MJ MK ML (IntKind.wrap .i64 (n4+1)) h94/\M1 (IntKind.wrap .i64 (mE-jA)) CR CS MM bz bo bB MJ MK ML (IntKind.wrap .i64 (n4+1)) h94<M1 cG aL aA bh bz bo bB aE aB aG n4 h10)/\
 aC [vI (aA:Int)] 3 RQ λXe=>
 (cellOf Xe (OG.add (Int.toNat be))=some (.pointer Jp))/\
 (cellOf Xe (OH.add (Int.toNat be))=some (.pointer Jq))/\
 (cellOf Xe (p55.add (Int.toNat be))=some (.pointer Y6))/\
 (cellOf Xe (p56.add 4)=some (.slice Fh Fj Fk))/\
 (cellOf Xe (Ul.add (Int.toNat be))=some (.pointer MN))/\
 (cellOf Xe (Um.add 5)=some (.slice zX zY zZ))/\
 ∃Li,List.length Li=1*1/\ag Xe (some ⟨Py.size,0,none⟩) Li/\(∀v∈Li,v.oneCell'=true)/\
 aw tN 9 Fh Fj Fk 1 Li Xe λsA37 sL37 sC37 h96=>
 (cellOf h96 (OG.add (Int.toNat be))=some (.pointer Jp))/\
 (cellOf h96 (OH.add (Int.toNat be))=some (.pointer Jq))/\
 (cellOf h96 (Ul.add (Int.toNat be))=some (.pointer MN))/\
 (cellOf h96 (Um.add 5)=some (.slice zX zY zZ))/\
 ∃Lj,List.length Lj=1*1/\ag h96 (some ⟨RQ.size,0,none⟩) Lj/\(∀v∈Lj,v.oneCell'=true)/\
 aw qP 3 zX zY zZ 1 Lj h96 λsA38 sL38 sC38 h97=>
 (cellOf h97 (OG.add (Int.toNat be))=some (.pointer Jp))/\
 (cellOf h97 (OH.add (Int.toNat be))=some (.pointer Jq))/\
 ae Jp λp61=>
 bQ (p61.add 4) (.slice sA37 sL37 sC37) h97 λh98=>
 ae Jq λp62=>
 bQ (p62.add 5) (.slice sA38 sL38 sC38) h98 λh99=>
 I1 (IntKind.wrap .i64 (mE-jA)) CR CS MM bz bo bB MJ MK ML (IntKind.wrap .i64 (n4+1)) h99/\M1 (IntKind.wrap .i64 (mE-jA)) CR CS MM bz bo bB MJ MK ML (IntKind.wrap .i64 (n4+1)) h99<M1 cG aL aA bh bz bo bB aE aB aG n4 h10)/\
 aC [vI (aA:Int)] 3 Py λGZ=>
 (cellOf GZ (OG.add (Int.toNat be))=some (.pointer Jp))/\
 (cellOf GZ (OH.add (Int.toNat be))=some (.pointer Jq))/\
 (cellOf GZ (p55.add (Int.toNat be))=some (.pointer Y6))/\
 (cellOf GZ (p56.add 4)=some (.slice Fh Fj Fk))/\
 (cellOf GZ (Ul.add (Int.toNat be))=some (.pointer MN))/\
 (cellOf GZ (Um.add 5)=some (.slice zX zY zZ))/\
 aC [.string aZ] 9 GZ λG0=>
 (cellOf G0 (OG.add (Int.toNat be))=some (.pointer Jp))/\
 (cellOf G0 (OH.add (Int.toNat be))=some (.pointer Jq))/\
 (cellOf G0 (p55.add (Int.toNat be))=some (.pointer Y6))/\
 (cellOf G0 (p56.add 4)=some (.slice Fh Fj Fk))/\
 (cellOf G0 (Ul.add (Int.toNat be))=some (.pointer MN))/\
 (cellOf G0 (Um.add 5)=some (.slice zX zY zZ))/\
 ∃Lk,List.length Lk=1*1/\ag G0 (some ⟨GZ.size,0,none⟩) Lk/\(∀v∈Lk,v.oneCell'=true)/\
 aw tN 9 Fh Fj Fk 1 Lk G0 λsA39 sL39 sC39 MO=>
 (cellOf MO (OG.add (Int.toNat be))=some (.pointer Jp))/\
 (cellOf MO (OH.add (Int.toNat be))=some (.pointer Jq))/\
 (cellOf MO (Ul.add (Int.toNat be))=some (.pointer MN))/\
 (cellOf MO (Um.add 5)=some (.slice zX zY zZ))/\
 ∃Ll,List.length Ll=1*1/\ag MO (some ⟨Py.size,0,none⟩) Ll/\(∀v∈Ll,v.oneCell'=true)/\
 aw qP 3 zX zY zZ 1 Ll MO λsA40 sL40 sC40 Y7=>
 (cellOf Y7 (OG.add (Int.toNat be))=some (.pointer Jp))/\
 (cellOf Y7 (OH.add (Int.toNat be))=some (.pointer Jq))/\
 ae Jp λp63=>
 bQ (p63.add 4) (.slice sA39 sL39 sC39) Y7 λh104=>
 ae Jq λp64=>
 bQ (p64.add 5) (.slice sA40 sL40 sC40) h104 λab5=>
 I1 (IntKind.wrap .i64 (mE-jA)) CR CS MM bz bo bB MJ MK ML (IntKind.wrap .i64 (n4+1)) ab5/\M1 (IntKind.wrap .i64 (mE-jA)) CR CS MM bz bo bB MJ MK ML (IntKind.wrap .i64 (n4+1)) ab5<M1 cG aL aA bh bz bo bB aE aB aG n4 h10)))
def ak.k5(h4:ab)(cG:Int)(aL:OA)(aA:Nat)(bh:Nat)(bz:OA)(bo:Nat)(bB:Nat)(aE:OA)(aB:Nat)(aG:Nat)(n4:Int)(h10:ab)(I1:Int->OA->Nat->Nat->OA->Nat->Nat->OA->Nat->Nat->Int->ab->Prop)(M1:Int->OA->Nat->Nat->OA->Nat->Nat->OA->Nat->Nat->Int->ab->Nat)(be:Int)(aZ:ByteArray)(n9:Int)(eM:ab)(tU:ByteArray)(jA:Int)(K:KT):Prop:=
 bif(decide (jA>cG))then(
 I1 cG aL aA bh bz bo bB aE aB aG (IntKind.wrap .i64 (n4+1)) eM/\M1 cG aL aA bh bz bo bB aE aB aG (IntKind.wrap .i64 (n4+1)) eM<M1 cG aL aA bh bz bo bB aE aB aG n4 h10)else(
 bif((IntKind.wrap .i64 (1+(IntKind.wrap .i64 ((Int.tmod (IntKind.wrap .u64 ((IntKind.wrap .i64 (n9-1)))) 4)))))==4)then(
 bif(decide ((aB:Int)>0))then(
 ∃n10,cellOf eM (aS h10 2)=some (vI n10)/\
 if(IntKind.wrap .u64 ((aB:Int)))=0 then False else
 (0<=(IntKind.wrap .i64 ((Int.tmod (IntKind.wrap .u64 (n10)) (IntKind.wrap .u64 ((aB:Int))))))/\(IntKind.wrap .i64 ((Int.tmod (IntKind.wrap .u64 (n10)) (IntKind.wrap .u64 ((aB:Int))))))<(aB:Int))/\
 ae aE λp8=>
 ∃n11,cellOf eM (p8.add (Int.toNat (IntKind.wrap .i64 ((Int.tmod (IntKind.wrap .u64 (n10)) (IntKind.wrap .u64 ((aB:Int))))))))=some (vI n11)/\
 (0<=n11/\n11<(aA:Int))/\
 ae aL λp9=>
 ∃q4,cellOf eM (p9.add (Int.toNat n11))=some (.pointer q4)/\
 ae q4 λOy=>
 ∃n12,cellOf eM (Oy.add 2)=some (vI n12)/\
 ae q4 λJl=>
 bQ (Jl.add 2) (vI (IntKind.wrap .i64 (n12+1))) eM λh18=>
 (0<=be/\be<(aA:Int))/\
 ae aL λsU=>
 ∃q5,cellOf h18 (sU.add (Int.toNat be))=some (.pointer q5)/\
 (0<=be/\be<(aA:Int))/\
 ae aL λvq=>
 ∃q6,cellOf h18 (vq.add (Int.toNat be))=some (.pointer q6)/\
 (0<=be/\be<(aA:Int))/\
 ae aL λG1=>
 ∃q7,cellOf h18 (G1.add (Int.toNat be))=some (.pointer q7)/\
 ae q7 λG2=>
 ∃j9 jO kH,cellOf h18 (G2.add 4)=some (.slice j9 jO kH)/\
 (0<=be/\be<(aA:Int))/\
 ae aL λCT=>
 ∃q8,cellOf h18 (CT.add (Int.toNat be))=some (.pointer q8)/\
 ae q8 λCU=>
 ∃mL mJ mU,cellOf h18 (CU.add 5)=some (.slice mL mJ mU)/\
 (
 aC [.string aZ] 9 h18 λfO=>
 (cellOf fO (sU.add (Int.toNat be))=some (.pointer q5))/\
 (cellOf fO (vq.add (Int.toNat be))=some (.pointer q6))/\
 (cellOf fO (G1.add (Int.toNat be))=some (.pointer q7))/\
 (cellOf fO (G2.add 4)=some (.slice j9 jO kH))/\
 (cellOf fO (CT.add (Int.toNat be))=some (.pointer q8))/\
 (cellOf fO (CU.add 5)=some (.slice mL mJ mU))/\
 (
 ∃aR,List.length aR=1*1/\ag fO (some ⟨h18.size,0,none⟩) aR/\(∀v∈aR,v.oneCell'=true)/\
 aw tN 9 j9 jO kH 1 aR fO λAm zQ Ba gY=>
 (cellOf gY (sU.add (Int.toNat be))=some (.pointer q5))/\
 (cellOf gY (vq.add (Int.toNat be))=some (.pointer q6))/\
 (cellOf gY (CT.add (Int.toNat be))=some (.pointer q8))/\
 (cellOf gY (CU.add 5)=some (.slice mL mJ mU))/\
 aC [vI n11] 3 gY λlx=>
 (cellOf lx (sU.add (Int.toNat be))=some (.pointer q5))/\
 (cellOf lx (vq.add (Int.toNat be))=some (.pointer q6))/\
 (cellOf lx (G1.add (Int.toNat be))=some (.pointer q7))/\
 (cellOf lx (G2.add 4)=some (.slice j9 jO kH))/\
 (cellOf lx (CT.add (Int.toNat be))=some (.pointer q8))/\
 (cellOf lx (CU.add 5)=some (.slice mL mJ mU))/\
 ∃mW,List.length mW=1*1/\ag lx (some ⟨gY.size,0,none⟩) mW/\(∀v∈mW,v.oneCell'=true)/\
 aw qP 3 mL mJ mU 1 mW lx λMD GW ME jC=>
 (cellOf jC (sU.add (Int.toNat be))=some (.pointer q5))/\
 (cellOf jC (vq.add (Int.toNat be))=some (.pointer q6))/\
 ae q5 λY8=>
 bQ (Y8.add 4) (.slice Am zQ Ba) jC λlu=>
 ae q6 λY9=>
 bQ (Y9.add 5) (.slice MD GW ME) lu λpz=>
 I1 (IntKind.wrap .i64 (cG-jA)) aL aA bh bz bo bB aE aB aG (IntKind.wrap .i64 (n4+1)) pz/\M1 (IntKind.wrap .i64 (cG-jA)) aL aA bh bz bo bB aE aB aG (IntKind.wrap .i64 (n4+1)) pz<M1 cG aL aA bh bz bo bB aE aB aG n4 h10)/\
 aC [vI n11] 3 fO λjv=>
 (cellOf jv (sU.add (Int.toNat be))=some (.pointer q5))/\
 (cellOf jv (vq.add (Int.toNat be))=some (.pointer q6))/\
 (cellOf jv (G1.add (Int.toNat be))=some (.pointer q7))/\
 (cellOf jv (G2.add 4)=some (.slice j9 jO kH))/\
 (cellOf jv (CT.add (Int.toNat be))=some (.pointer q8))/\
 (cellOf jv (CU.add 5)=some (.slice mL mJ mU))/\
 ∃sg,List.length sg=1*1/\ag jv (some ⟨h18.size,0,none⟩) sg/\(∀v∈sg,v.oneCell'=true)/\
 aw tN 9 j9 jO kH 1 sg jv λMP MQ OI jG=>
 (cellOf jG (sU.add (Int.toNat be))=some (.pointer q5))/\
 (cellOf jG (vq.add (Int.toNat be))=some (.pointer q6))/\
 (cellOf jG (CT.add (Int.toNat be))=some (.pointer q8))/\
 (cellOf jG (CU.add 5)=some (.slice mL mJ mU))/\
 ∃xq,List.length xq=1*1/\ag jG (some ⟨fO.size,0,none⟩) xq/\(∀v∈xq,v.oneCell'=true)/\
 aw qP 3 mL mJ mU 1 xq jG λRS RT RU sb=>
 (cellOf sb (sU.add (Int.toNat be))=some (.pointer q5))/\
 (cellOf sb (vq.add (Int.toNat be))=some (.pointer q6))/\
 ae q5 λp20=>
 bQ (p20.add 4) (.slice MP MQ OI) sb λog=>
 ae q6 λp21=>
 bQ (p21.add 5) (.slice RS RT RU) og λAl=>
 I1 (IntKind.wrap .i64 (cG-jA)) aL aA bh bz bo bB aE aB aG (IntKind.wrap .i64 (n4+1)) Al/\M1 (IntKind.wrap .i64 (cG-jA)) aL aA bh bz bo bB aE aB aG (IntKind.wrap .i64 (n4+1)) Al<M1 cG aL aA bh bz bo bB aE aB aG n4 h10)/\
 aC [vI n11] 3 h18 λnz=>
 (cellOf nz (sU.add (Int.toNat be))=some (.pointer q5))/\
 (cellOf nz (vq.add (Int.toNat be))=some (.pointer q6))/\
 (cellOf nz (G1.add (Int.toNat be))=some (.pointer q7))/\
 (cellOf nz (G2.add 4)=some (.slice j9 jO kH))/\
 (cellOf nz (CT.add (Int.toNat be))=some (.pointer q8))/\
 (cellOf nz (CU.add 5)=some (.slice mL mJ mU))/\
 aC [.string aZ] 9 nz λsT=>
 (cellOf sT (sU.add (Int.toNat be))=some (.pointer q5))/\
 (cellOf sT (vq.add (Int.toNat be))=some (.pointer q6))/\
 (cellOf sT (G1.add (Int.toNat be))=some (.pointer q7))/\
 (cellOf sT (G2.add 4)=some (.slice j9 jO kH))/\
 (cellOf sT (CT.add (Int.toNat be))=some (.pointer q8))/\
 (cellOf sT (CU.add 5)=some (.slice mL mJ mU))/\
 ∃xr,List.length xr=1*1/\ag sT (some ⟨nz.size,0,none⟩) xr/\(∀v∈xr,v.oneCell'=true)/\
 aw tN 9 j9 jO kH 1 xr sT λXf Un Y' pj=>
 (cellOf pj (sU.add (Int.toNat be))=some (.pointer q5))/\
 (cellOf pj (vq.add (Int.toNat be))=some (.pointer q6))/\
 (cellOf pj (CT.add (Int.toNat be))=some (.pointer q8))/\
 (cellOf pj (CU.add 5)=some (.slice mL mJ mU))/\
 ∃xt,List.length xt=1*1/\ag pj (some ⟨h18.size,0,none⟩) xt/\(∀v∈xt,v.oneCell'=true)/\
 aw qP 3 mL mJ mU 1 xt pj λJr G3 Jt Aq=>
 (cellOf Aq (sU.add (Int.toNat be))=some (.pointer q5))/\
 (cellOf Aq (vq.add (Int.toNat be))=some (.pointer q6))/\
 ae q5 λp22=>
 bQ (p22.add 4) (.slice Xf Un Y') Aq λPz=>
 ae q6 λp23=>
 bQ (p23.add 5) (.slice Jr G3 Jt) Pz λOJ=>
 I1 (IntKind.wrap .i64 (cG-jA)) aL aA bh bz bo bB aE aB aG (IntKind.wrap .i64 (n4+1)) OJ/\M1 (IntKind.wrap .i64 (cG-jA)) aL aA bh bz bo bB aE aB aG (IntKind.wrap .i64 (n4+1)) OJ<M1 cG aL aA bh bz bo bB aE aB aG n4 h10)else(
 ak.k6 h4 cG aL aA bh bz bo bB aE aB aG n4 h10 I1 M1 be aZ n9 tU jA cG eM K))else(
 ak.k6 h4 cG aL aA bh bz bo bB aE aB aG n4 h10 I1 M1 be aZ n9 tU jA cG eM K))
def ak.k4(h4:ab)(cG:Int)(aL:OA)(aA:Nat)(bh:Nat)(bz:OA)(bo:Nat)(bB:Nat)(aE:OA)(aB:Nat)(aG:Nat)(n4:Int)(h10:ab)(I1:Int->OA->Nat->Nat->OA->Nat->Nat->OA->Nat->Nat->Int->ab->Prop)(M1:Int->OA->Nat->Nat->OA->Nat->Nat->OA->Nat->Nat->Int->ab->Nat)(be:Int)(aZ:ByteArray)(n9:Int)(eM:ab)(tU:ByteArray)(Xg:Int)(K:KT):Prop:=
 bif((IntKind.wrap .i64 (1+(IntKind.wrap .i64 ((Int.tmod (IntKind.wrap .u64 ((IntKind.wrap .i64 (n9-1)))) 4)))))==3)then(
 ak.k5 h4 cG aL aA bh bz bo bB aE aB aG n4 h10 I1 M1 be aZ n9 eM tU (IntKind.wrap .i64 (Xg+(IntKind.wrap .i64 (Int.tdiv (IntKind.wrap .i64 ((tU.size:Int)+511)) 512)))) K)else(
 ak.k5 h4 cG aL aA bh bz bo bB aE aB aG n4 h10 I1 M1 be aZ n9 eM tU Xg K)
def ak.k3(h4:ab)(cG:Int)(aL:OA)(aA:Nat)(bh:Nat)(bz:OA)(bo:Nat)(bB:Nat)(aE:OA)(aB:Nat)(aG:Nat)(n4:Int)(h10:ab)(I1:Int->OA->Nat->Nat->OA->Nat->Nat->OA->Nat->Nat->Int->ab->Prop)(M1:Int->OA->Nat->Nat->OA->Nat->Nat->OA->Nat->Nat->Int->ab->Nat)(be:Int)(aZ:ByteArray)(n9:Int)(eM:ab)(tU:ByteArray)(K:KT):Prop:=
 (0<=be/\be<(aA:Int))/\
 ae aL λp6=>
 ∃q3,cellOf eM (p6.add (Int.toNat be))=some (.pointer q3)/\
 ae q3 λp7=>
 ∃fQ fj gT,cellOf eM (p7.add 4)=some (.slice fQ fj gT)/\
 bif((Int.tmod (fj:Int) 16)==0)then(
 ak.k4 h4 cG aL aA bh bz bo bB aE aB aG n4 h10 I1 M1 be aZ n9 eM tU (IntKind.wrap .i64 (0+1)) K)else(
 ak.k4 h4 cG aL aA bh bz bo bB aE aB aG n4 h10 I1 M1 be aZ n9 eM tU 0 K)
def ak.k2(h4:ab)(cG:Int)(aL:OA)(aA:Nat)(bh:Nat)(bz:OA)(bo:Nat)(bB:Nat)(aE:OA)(aB:Nat)(aG:Nat)(n4:Int)(h10:ab)(I1:Int->OA->Nat->Nat->OA->Nat->Nat->OA->Nat->Nat->Int->ab->Prop)(M1:Int->OA->Nat->Nat->OA->Nat->Nat->OA->Nat->Nat->Int->ab->Nat)(be:Int)(aZ:ByteArray)(fg:ab)(K:KT):Prop:=
 (0<=be/\be<(aA:Int))/\
 ae aL λp5=>
 ∃q2,cellOf fg (p5.add (Int.toNat be))=some (.pointer q2)/\
 C.cY q2 aZ fg λr5 iS=>
 ∃n8,r5 = vI n8/\
 bif(n8 != 0)then(
 I1 cG aL aA bh bz bo bB aE aB aG (IntKind.wrap .i64 (n4+1)) iS/\M1 cG aL aA bh bz bo bB aE aB aG (IntKind.wrap .i64 (n4+1)) iS<M1 cG aL aA bh bz bo bB aE aB aG n4 h10)else(
 ∃n9,cellOf iS (aS h10 1)=some (vI n9)/\
 ∃s4,cellOf iS (aS h10 4)=some (.string s4)/\
 C.gP s4 iS λr6 eM=>
 ∃b2,r6 = .bool b2/\
 bif(!b2)then(
 ak.k3 h4 cG aL aA bh bz bo bB aE aB aG n4 h10 I1 M1 be aZ n9 eM (mkStr [120]) K)else(
 ak.k3 h4 cG aL aA bh bz bo bB aE aB aG n4 h10 I1 M1 be aZ n9 eM s4 K))
def ak.k1(h4:ab)(cG:Int)(aL:OA)(aA:Nat)(bh:Nat)(bz:OA)(bo:Nat)(bB:Nat)(aE:OA)(aB:Nat)(aG:Nat)(n4:Int)(h10:ab)(I1:Int->OA->Nat->Nat->OA->Nat->Nat->OA->Nat->Nat->Int->ab->Prop)(M1:Int->OA->Nat->Nat->OA->Nat->Nat->OA->Nat->Nat->Int->ab->Nat)(bb:ab)(be:Int)(K:KT):Prop:=
 ∃s2,cellOf bb (aS h10 3)=some (.string s2)/\
 C.iA s2 bb λr3 bU=>
 ∃b1,r3 = .bool b1/\
 bif(!b1)then(
 C.cR n4 bU λr4 gh=>
 ∃s3,r4 = .string s3/\
 ak.k2 h4 cG aL aA bh bz bo bB aE aB aG n4 h10 I1 M1 be s3 gh K)else(
 (0<=be/\be<(aA:Int))/\
 ae aL λp65=>
 ∃q23,cellOf bU (p65.add (Int.toNat be))=some (.pointer q23)/\
 C.cY q23 s2 bU λr7 PA=>
 ∃n16,r7 = vI n16/\
 bif(n16 != 0)then(
 C.cR n4 PA λr8 Za=>
 ∃s5,r8 = .string s5/\
 ak.k2 h4 cG aL aA bh bz bo bB aE aB aG n4 h10 I1 M1 be s5 Za K)else(
 ak.k2 h4 cG aL aA bh bz bo bB aE aB aG n4 h10 I1 M1 be s2 PA K))
def ak(s1:LV)(K:KT)(h1:ab):Prop:=
 aC s1 54 h1 λh2=>
 ∃bV,List.length bV=3/\ai h2 ⟨h1.size,0,none⟩ bV/\
 C.cO bV h2 λr1 h3=>
 ∃n1,r1 = vI n1/\
 C.gM n1 h3 λr2 h4=>
 ∃eO,r2 = .agg ⟨eO⟩/\
 ax z25 25 eO 5 h4 λh6=>
 ∃n2,cellOf h6 (aS h4 0)=some (vI n2)/\
 ∃n3,cellOf h6 (aS h4 3)=some (vI n3)/\
 aC [vI 2,vI 0,vI 2,.string (mkStr []),.slice none 0 0,.slice none 0 0,vI 1] 63 h6 λh7=>
 aC [.pointer none,.pointer (some ⟨h6.size,0,none⟩)] 59 h7 λh8=>
 aC [vI 1] 3 h8 λh9=>
 ∃aX aK bJ,cellOf h9 (aS h1 1)=some (.slice aX aK bJ)/\
 ∃(I1:Int->OA->Nat->Nat->OA->Nat->Nat->OA->Nat->Nat->Int->ab->Prop) (M1:Int->OA->Nat->Nat->OA->Nat->Nat->OA->Nat->Nat->Int->ab->Nat),I1 (IntKind.wrap .i64 (n2-n3)) (some ⟨h7.size,0,none⟩) 2 2 (some ⟨h8.size,0,none⟩) 1 1 none 0 0 0 h9/\
 ∀(cG:Int) (aL:OA) (aA:Nat) (bh:Nat) (bz:OA) (bo:Nat) (bB:Nat) (aE:OA) (aB:Nat) (aG:Nat) (n4:Int),∀h10:ab,I1 cG aL aA bh bz bo bB aE aB aG n4 h10->
 bif(decide (n4<(aK:Int)))then(
 (0<=n4/\n4<(aK:Int))/\
 ae aX λp1=>
 ∃gV,List.length gV=5/\ai h10 (p1.add ((Int.toNat n4)*5)) gV/\
 ax z175 175 gV 5 h10 λbb=>
 bif(decide (n4>=40))then(
 K (.slice aL aA bh) bb)else(
 ∃n5,cellOf bb (aS h10 0)=some (vI n5)/\
 if(IntKind.wrap .u64 ((bo:Int)))=0 then False else
 (0<=(IntKind.wrap .i64 ((Int.tmod (IntKind.wrap .u64 (n5)) (IntKind.wrap .u64 ((bo:Int))))))/\(IntKind.wrap .i64 ((Int.tmod (IntKind.wrap .u64 (n5)) (IntKind.wrap .u64 ((bo:Int))))))<(bo:Int))/\
 ae bz λp2=>
 ∃n6,cellOf bb (p2.add (Int.toNat (IntKind.wrap .i64 ((Int.tmod (IntKind.wrap .u64 (n5)) (IntKind.wrap .u64 ((bo:Int))))))))=some (vI n6)/\
 (0<=n6/\n6<(aA:Int))/\
 ae aL λp3=>
 ∃q1,cellOf bb (p3.add (Int.toNat n6))=some (.pointer q1)/\
 ae q1 λp4=>
 ∃n7,cellOf bb (p4.add 1)=some (vI n7)/\
 bif(decide (n7>=32))then(
 ak.k1 h4 cG aL aA bh bz bo bB aE aB aG n4 h10 I1 M1 bb 1 K)else(
 ak.k1 h4 cG aL aA bh bz bo bB aE aB aG n4 h10 I1 M1 bb n6 K)))else(
 K (.slice aL aA bh) h10)
set_option maxRecDepth 100000 in
set_option maxRecDepth 100000 in
set_option maxRecDepth 100000 in
theorem ak.ok{s1 K h}(x:ak s1 K h):C.ak s1 h K:=fk (fun|7=>([3,31,32],[(4,.int .i64),(5,.slice),(6,.slice),(7,.slice),(33,.int .i64)])|_=>([],[])) (fun|31=>(.op 0 [] (.op 1 [] (.op 2 [] (.op 3 [] (.op 4 [] (.op 5 [] (.op 6 [] (.op 7 [] (.op 8 [] (.op 9 [] (.op 10 [] (.op 11 [] (.op 12 [] (.op 13 [] (.op 14 [] (.op 15 [] (.op 18 [] (.op 19 [] (.op 20 [] (.op 21 [] (.op 22 [] (.op 23 [] (.op 24 [] (.op 25 [] (.alt 16 [3,7,11,14,21,24] (.alt 17 [3,7,21,24] (.op 26 [3,7,11,14,21,24] (.op 27 [3,7] (.op 28 [] (.op 29 [] (.op 30 [] (.op 31 [] (.op 32 [] (.op 33 [] .nil)))))))) (.op 26 [3,7,11,14,21,24] (.op 17 [3,7,21,24] (.op 27 [3,7] (.op 28 [] (.op 29 [] (.op 30 [] (.op 31 [] (.op 32 [] (.op 33 [] .nil)))))))))) (.op 26 [3,7,11,14,21,24] (.op 16 [3,7,11,14,21,24] (.op 17 [3,7,21,24] (.op 27 [3,7] (.op 28 [] (.op 29 [] (.op 30 [] (.op 31 [] (.op 32 [] (.op 33 [] .nil)))))))))))))))))))))))))))))))))))|47=>(.op 0 [] (.op 1 [] (.op 2 [] (.op 3 [] (.op 4 [] (.op 5 [] (.op 6 [] (.op 7 [] (.op 8 [] (.op 9 [] (.op 10 [] (.op 11 [] (.op 12 [] (.op 13 [] (.op 14 [] (.op 15 [] (.op 18 [] (.op 19 [] (.op 20 [] (.op 21 [] (.op 22 [] (.op 23 [] (.op 24 [] (.op 25 [] (.alt 16 [3,7,11,14,21,24] (.alt 17 [3,7,21,24] (.op 26 [3,7,11,14,21,24] (.op 27 [3,7] (.op 28 [] (.op 29 [] (.op 30 [] (.op 31 [] (.op 32 [] (.op 33 [] .nil)))))))) (.op 26 [3,7,11,14,21,24] (.op 17 [3,7,21,24] (.op 27 [3,7] (.op 28 [] (.op 29 [] (.op 30 [] (.op 31 [] (.op 32 [] (.op 33 [] .nil)))))))))) (.op 26 [3,7,11,14,21,24] (.op 16 [3,7,11,14,21,24] (.op 17 [3,7,21,24] (.op 27 [3,7] (.op 28 [] (.op 29 [] (.op 30 [] (.op 31 [] (.op 32 [] (.op 33 [] .nil)))))))))))))))))))))))))))))))))))|_=>.nil) Tryz.func85 x
def kO(t1:OA)(g1:LV)(uK:OA)(uL:Nat)(uM:Nat)(K:KT)(h1:ab):Prop:=
 aC g1 25 h1 λh2=>
 ∃bV,List.length bV=5/\ai h2 ⟨h1.size,0,none⟩ bV/\
 List.length (bV:LV)=5/\
 aC ([.slice none 0 0]++([.pointer t1]++(bV++[.slice uK uL uM,vI 0,.bool false,.bool false]))) 181 h2 λh3=>
 C.fT (some (aS h2 0)) h3 λr1 h4=>
 r1 = .tuple #[]/\
 K (.pointer (some ⟨h2.size,0,none⟩)) h4
theorem kO.ok{t1 g1 uK uL uM K h}(x:kO t1 g1 uK uL uM K h):C.kO t1 g1 uK uL uM h K:=fz Tryz.func86 x
def eW.k1(w1:OA)(h1:ab)(h3:ab)(I1:HP)(M1:ab->Nat)(s1:ByteArray)(n2:Int)(e1:Int)(x1:OA)(bb:ab)(K:KT):Prop:=
 bif(e1 != 0)then(
 ar ⟨h1.size,0,none⟩ [.slice none 0 0,.string (mkStr []),vI 0] 3 bb λbU=>
 ∃di,List.length di=3/\ai bU ⟨h1.size,0,none⟩ di/\
 K (.tuple #[.agg ⟨di⟩,vI e1]) bU)else(
 ae x1 λsU=>
 ∃n5,cellOf bb (sU.add 0)=some (vI n5)/\
 C.jl w1 n5 n2 bb λr5 gh=>
 ∃b1 n6,r5 = .tuple #[.bool b1,vI n6]/\
 bif(n6 != 0)then(
 ar ⟨h1.size,0,none⟩ [.slice none 0 0,.string (mkStr []),vI 0] 3 gh λfg=>
 ∃fA,List.length fA=3/\ai fg ⟨h1.size,0,none⟩ fA/\
 K (.tuple #[.agg ⟨fA⟩,vI n6]) fg)else(
 bif b1 then(
 C.dz w1 s1 n2 gh λr6 iS=>
 ∃lN,r6 = .agg ⟨lN⟩/\
 ar ⟨h1.size,0,none⟩ lN 3 iS λeM=>
 ∃jf,List.length jf=3/\ai eM ⟨h1.size,0,none⟩ jf/\
 K (.tuple #[.agg ⟨jf⟩,vI 0]) eM)else(
 I1  gh/\M1  gh<M1  h3)))
def eW(w1:OA)(K:KT)(h1:ab):Prop:=
 aC z66 66 h1 λh2=>
 ∃(I1:HP) (M1:ab->Nat),I1  h2/\
 ∀h3:ab,I1  h3->
 ae w1 λp1=>
 ∃aX aK bJ,cellOf h3 (p1.add 7)=some (.slice aX aK bJ)/\
 bif(decide ((aK:Int)>0))then(
 ae w1 λp2=>
 ∃fQ fj gT,cellOf h3 (p2.add 7)=some (.slice fQ fj gT)/\
 (0<=(0:Int)/\0<(fj:Int))/\
 ae fQ λp3=>
 ∃s1,cellOf h3 (p3.add (Int.toNat 0))=some (.string s1)/\
 ae w1 λp4=>
 ∃j9 jO kH,cellOf h3 (p4.add 7)=some (.slice j9 jO kH)/\
 (0<=(1:Int)/\1<=(jO:Int))/\
 ae w1 λp5=>
 bQ (p5.add 7) (.slice (if kH=(Int.toNat 1)then j9 else Option.map (Addr.add · (Int.toNat 1)) j9) (jO-(Int.toNat 1)) (kH-(Int.toNat 1))) h3 λh4=>
 bif(s1.toList==(mkStr [46,46]).toList)then(
 ae w1 λp6=>
 C.jS (some (p6.add 0)) h4 λr1 h5=>
 r1 = .tuple #[]/\
 I1  h5/\M1  h5<M1  h3)else(
 ae w1 λp7=>
 ∃q1,cellOf h4 (p7.add 1)=some (.pointer q1)/\
 ae w1 λp8=>
 ∃bV,List.length bV=5/\ai h4 (p8.add 2) bV/\
 ae w1 λp9=>
 C.eX (some (p9.add 0)) h4 λr2 h6=>
 ∃n1,r2 = vI n1/\
 (cellOf h6 (p7.add 1)=some (.pointer q1))/\
 (List.length (bV:LV)=5/\ai h6 (p8.add 2) bV)/\
 C.oz q1 bV n1 s1 h6 λr3 h7=>
 ∃n2 n3,r3 = .tuple #[vI n2,vI n3]/\
 bif(n3 != 0)then(
 ar ⟨h1.size,0,none⟩ [.slice none 0 0,.string (mkStr []),vI 0] 3 h7 λh8=>
 ∃bL,List.length bL=3/\ai h8 ⟨h1.size,0,none⟩ bL/\
 K (.tuple #[.agg ⟨bL⟩,vI n3]) h8)else(
 ae w1 λOy=>
 ∃q2,cellOf h7 (Oy.add 1)=some (.pointer q2)/\
 ae w1 λJl=>
 ∃eO,List.length eO=5/\ai h7 (Jl.add 2) eO/\
 (
 C.ja q2 eO n2 h7 λr4 h9=>
 ∃gV n4,r4 = .tuple #[.agg ⟨gV⟩,vI n4]/\
 aC gC 123 h9 λh10=>
 (cellOf h10 (Oy.add 1)=some (.pointer q2))/\
 (List.length (eO:LV)=5/\ai h10 (Jl.add 2) eO)/\
 ar ⟨h9.size,0,none⟩ gV 15 h10 λcg=>
 eW.k1 w1 h1 h3 I1 M1 s1 n2 n4 (some ⟨h9.size,0,none⟩) cg K)/\
 aC gC 123 h7 λh18=>
 (cellOf h18 (Oy.add 1)=some (.pointer q2))/\
 (List.length (eO:LV)=5/\ai h18 (Jl.add 2) eO)/\
 C.ja q2 eO n2 h18 λr7 fO=>
 ∃kx n7,r7 = .tuple #[.agg ⟨kx⟩,vI n7]/\
 ar ⟨h7.size,0,none⟩ kx 15 fO λgY=>
 eW.k1 w1 h1 h3 I1 M1 s1 n2 n7 (some ⟨h7.size,0,none⟩) gY K)))else(
 ae w1 λvq=>
 C.eX (some (vq.add 0)) h3 λr8 lx=>
 ∃n8,r8 = vI n8/\
 C.dz w1 (mkStr []) n8 lx λr9 jC=>
 ∃pB,r9 = .agg ⟨pB⟩/\
 ar ⟨h1.size,0,none⟩ pB 3 jC λlu=>
 ∃lG,List.length lG=3/\ai lu ⟨h1.size,0,none⟩ lG/\
 K (.tuple #[.agg ⟨lG⟩,vI 0]) lu)
theorem eW.ok{w1 K h}(x:eW w1 K h):C.eW w1 h K:=fk (fun|1=>([0,2],[])|_=>([],[])) (fun|6=>(.op 0 [] (.op 1 [] (.op 2 [] (.op 3 [] (.op 4 [] (.op 5 [] (.op 6 [] (.op 7 [] (.op 8 [] (.op 9 [] (.op 10 [] (.op 12 [] (.op 11 [3,7] (.op 13 [] (.op 14 [] (.op 15 [] (.op 16 [] (.op 17 [] (.op 18 [] .nil)))))))))))))))))))|9=>(.op 0 [] (.op 1 [] (.op 2 [] (.op 3 [] (.op 4 [] (.op 5 [] (.op 6 [] (.op 7 [] (.op 8 [] (.alt 9 [] (.op 10 [] (.op 11 [] (.op 12 [] (.op 13 [3,7] (.op 14 [] (.op 15 [] .nil)))))) (.op 13 [3,7] (.op 9 [] (.op 10 [] (.op 11 [] (.op 12 [] (.op 14 [] (.op 15 [] .nil)))))))))))))))))|_=>.nil) Tryz.func87 x
def dz(w1:OA)(aZ:ByteArray)(n1:Int)(K:KT)(h1:ab):Prop:=
 aC z66 66 h1 λh2=>
 ae w1 λp1=>
 ∃aX aK bJ,cellOf h2 (Addr.add (p1.add 0) 0)=some (.slice aX aK bJ)/\
 C.eI aX aK bJ h2 λr1 h3=>
 ∃fQ fj gT,r1 = .slice fQ fj gT/\
 ar ⟨h1.size,0,none⟩ [.slice fQ fj gT,.string aZ,vI n1] 3 h3 λh4=>
 ∃bL,List.length bL=3/\ai h4 ⟨h1.size,0,none⟩ bL/\
 K (.agg ⟨bL⟩) h4
theorem dz.ok{w1 aZ n1 K h}(x:dz w1 aZ n1 K h):C.dz w1 aZ n1 h K:=fz Tryz.func88 x
def eX(r1:OA)(K:KT)(h1:ab):Prop:=
 ae r1 λp1=>
 ∃aX aK bJ,cellOf h1 (p1.add 0)=some (.slice aX aK bJ)/\
 ae r1 λp2=>
 ∃fQ fj gT,cellOf h1 (p2.add 0)=some (.slice fQ fj gT)/\
 (0<=(IntKind.wrap .i64 ((fj:Int)-1))/\(IntKind.wrap .i64 ((fj:Int)-1))<(aK:Int))/\
 ae aX λp3=>
 ∃n1,cellOf h1 (p3.add (Int.toNat (IntKind.wrap .i64 ((fj:Int)-1))))=some (vI n1)/\
 K (vI n1) h1
theorem eX.ok{r1 K h}(x:eX r1 K h):C.eX r1 h K:=fk l0 (fun|1=>(.op 0 [] (.op 1 [] (.op 2 [] (.op 3 [] (.op 4 [] (.op 5 [] (.op 6 [] (.op 7 [] (.op 8 [] (.op 9 [] (.op 10 [] (.op 11 [] (.op 12 [] .nil)))))))))))))|_=>.nil) Tryz.func89 x
def jk(s1:ByteArray)(uN:Bool)(K:KT)(h1:ab):Prop:=
 bif(s1.toList==(mkStr []).toList)then(
 K (.bool true) h1)else(
 C.dF s1 0 h1 λr1 h2=>
 ∃n1,r1 = vI n1/\
 bif(decide (n1>=0))then(
 K (.bool true) h2)else(
 bif uN then(
 (0<=(0:Int)/\0<(s1.size:Int))/\
 ∃b1:UInt8,s1.toList[Int.toNat 0]?=some b1/\
 K (.bool (((UInt8.toNat b1:Nat):Int) != 47)) h2)else(
 K (.bool false) h2)))
theorem jk.ok{s1 uN K h}(x:jk s1 uN K h):C.jk s1 uN h K:=fz Tryz.func90 x
end W
end Go.Proofs.YtiapingedfnlnaaGreatDoor
