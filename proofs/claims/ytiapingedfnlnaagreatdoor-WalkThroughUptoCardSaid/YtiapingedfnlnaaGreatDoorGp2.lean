/-
  TEXTS FOR walkThrough_card: WxK HpB WxP HpE Tab FormsA FormsB FormsC FormsD FormsE FormsF FormsG FormsH FormsI.
-/
import Derived.Orders
import Derived.LoadGo3
import Derived.Test.YtiapingedfnlnaaGreatDoorGp1
namespace Go.Proofs.YtiapingedfnlnaaGreatDoor.Wx
open Go
def RunsAt (P:Program) (a:Act) (o:Oper) (w:World) (v:Value):Prop:=(execOp a.eval o).run P w = .ok (.value v) w
def wantB (full:List Oper) (a:Act) (o:Oper):Bool:=Region.wanted o (yielded full.toArray a.tmps)
def dstV (a:Act) (o:Oper):Value :=
  match o.dst with
  | some d=>a.tmps.getD d undef
  | none=>undef
def addD (D:Nat→Bool) (i:Nat):Nat→Bool:=fun j=>Nat.beq j i || D j
theorem addD_comm (D:Nat→Bool) (i j:Nat):addD (addD D i) j=addD (addD D j) i:=by
  funext k; simp only [addD]; cases Nat.beq k i <;> cases Nat.beq k j <;> rfl
def Still (C:Ctx) (full:List Oper) (st:List Nat) (D:Nat→Bool) (a:Act) (w:World):Prop :=
  ∀ j ∈ st,D j=true→∀ oj,full[j]?=some oj→wantB full a oj=true→RunsAt C.P a oj w (dstV a oj)
def Front (C:Ctx) (full:List Oper) (i:Nat) (st:List Nat) (D:Nat→Bool) (K:Act→World→Prop) (a:Act) (w:World):Prop :=
  ∃ o,full[i]?=some o ∧
    (if wantB full a o=true then
      (if isQ C o.op=true then ∃ v,RunsAt C.P a o w v∧(isReadOp C o.op=false→∀ w',RunsAt C.P a o w' v)∧K (a.put o.dst v) w
       else OpTo C.P a.eval o w fun v w'=>Still C full st D a w'∧K (a.put o.dst v) w')
    else K (a.put o.dst undef) w)
def SW (C:Ctx) (full:List Oper):Od→(Nat→Bool)→(Act→World→Prop)→Act→World→Prop
  | .nil,_,N,a,w=>N a w
  | .op i st r,D,N,a,w=>Front C full i st D (fun a w=>SW C full r (addD D i) N a w) a w
  | .alt i st r o,D,N,a,w=>Front C full i st D (fun a w=>SW C full r (addD D i) N a w) a w∧SW C full o D N a w
def predsOf (o:Oper):List Nat:=(o.after.toList.filter fun e=>Region.binds .any e).map (·.on)
def mask (acc:Array Nat):List Nat→Nat
  | []=>0
  | p::r=>(2 ^ p ||| acc.getD p 0) ||| mask acc r
def masks : List Oper→Array Nat→Array Nat
  | [],acc=>acc
  | o::r,acc=>masks r (acc.push (mask acc (predsOf o)))
def noSel (o:Oper):Bool :=
  match o.op with
  | .select _ _=>false
  | _=>true
def looksB (full:List Oper) (o:Oper) (d:Nat):Bool:=(o.looksAt full.toArray).contains d
def dstLooks (full:List Oper) (x o:Oper):Bool :=
  match x.dst with
  | some d=>looksB full o d
  | none=>false
def sameDst (x o:Oper):Bool :=
  match x.dst,o.dst with
  | some d,some e=>Nat.beq d e
  | _,_=>false
def pairB (C:Ctx) (full:List Oper) (M:Array Nat) (x i:Nat×List Nat):Bool :=
  match full[x.1]?,full[i.1]? with
  | some ox,some oi =>
    !(Nat.beq x.1 i.1) && !((predsOf ox).contains i.1) && !(sameDst ox oi) && !(isReadOp C ox.op && dstLooks full oi ox) &&
    ((M.getD i.1 0).testBit x.1 || (isQ C ox.op && !(dstLooks full ox oi) && !(dstLooks full oi ox) && (isQ C oi.op || !(isReadOp C ox.op) || i.2.contains x.1)))
  | _,_=>false
def occ : Od→List (Nat×List Nat)
  | .nil=>[]
  | .op i st r=>(i,st)::occ r
  | .alt i st r o=>(i,st)::(occ r++occ o)
def heads : Od→List Nat
  | .nil=>[]
  | .op i _ _=>[i]
  | .alt i _ _ o=>i::heads o
def lessR (R:List Nat) (x:Nat):List Nat:=R.filter fun j => !Nat.beq j x
def predsFree (full:List Oper) (x:Nat) (R:List Nat):Bool :=
  match full[x]? with
  | some o=>(predsOf o).all fun p => !R.contains p
  | none=>false
def notRead (C:Ctx) (full:List Oper) (x:Nat):Bool :=
  match full[x]? with
  | some o => !isReadOp C o.op
  | none=>false
def okB (C:Ctx) (full:List Oper) (M:Array Nat):Bool→Od→List Nat→Bool
  | _,.nil,R=>R.isEmpty
  | b,.op x st r,R=>R.contains x && (predsFree full x R && ((bif b then notRead C full x else (occ r).all (pairB C full M (x,st))) && okB C full M false r (lessR R x)))
  | b,.alt x _ r o,R=>R.contains x && (predsFree full x R && (notRead C full x && (okB C full M false r (lessR R x) && (okB C full M true o R && (b || R.all fun y=>Nat.beq y x || (heads o).contains y || (M.getD y 0).testBit x || (heads o).any fun e=>(M.getD y 0).testBit e)))))
def planB (C:Ctx) (full:List Oper) (L:Od):Bool :=
  (full.all noSel) && ((full.zipIdx.all fun p=>(predsOf p.1).all fun q=>Nat.blt q p.2) && ((full.all fun o => !(isReadOp C o.op && (dstLooks full o o || o.dst.isNone))) &&
  (((occ L).all fun x=>Nat.blt x.1 full.length && x.2.all fun j=>match full[j]? with|some o=>isReadOp C o.op|none=>false) && okB C full (masks full #[]) false L (List.range full.length))))
theorem dstLooks_false {full:List Oper} {x o:Oper} (h:dstLooks full x o=false):∀ d,x.dst=some d→d ∉ o.looksAt full.toArray:=by
  intro d hd
  unfold dstLooks at h
  rw [hd] at h
  simpa [looksB] using h
theorem sameDst_false {x o:Oper} (h:sameDst x o=false):∀ d,x.dst=some d→o.dst≠some d:=by
  intro d hd he
  unfold sameDst at h
  rw [hd,he] at h
  simp at h
theorem exec_put {full:List Oper} {x o:Oper} (hs:noSel o=true) (a:Act) (v:Value) (h:dstLooks full x o=false):execOp (a.put x.dst v).eval o=execOp a.eval o :=
  execOp_put (ops:=full.toArray) o (fun cs b e=>by simp [noSel,e] at hs) a x.dst v (dstLooks_false h)
theorem want_put {full:List Oper} {x o:Oper} (a:Act) (v:Value) (h:dstLooks full x o=false):wantB full (a.put x.dst v) o=wantB full a o :=
  wanted_put (ops:=full.toArray) o a x.dst v (dstLooks_false h)
theorem dstV_put_ne {x o:Oper} (a:Act) (v:Value) (h:sameDst x o=false):dstV (a.put x.dst v) o=dstV a o:=by
  unfold dstV
  cases ho:o.dst with
  | none=>rfl
  | some e =>
    cases hx:x.dst with
    | none=>rfl
    | some d =>
      have hne:d≠e:=fun hh=>sameDst_false h d hx (by rw [ho,hh])
      simp [Act.put,Array.getElem?_setIfInBounds_ne hne]
def Apart (C:Ctx) (full:List Oper) (D:Nat→Bool) (L:List (Nat×List Nat)):Prop :=
  ∀ j oj,D j=true→full[j]?=some oj→isReadOp C oj.op=true→∀ x ∈ L,∀ ox,full[x.1]?=some ox→dstLooks full ox oj=false∧sameDst ox oj=false
structure Swap (C:Ctx) (full:List Oper) (x i:Nat×List Nat):Prop where
  q:∀ ox,full[x.1]?=some ox→isQ C ox.op=true
  a:∀ ox oi,full[x.1]?=some ox→full[i.1]?=some oi→dstLooks full ox oi=false∧dstLooks full oi ox=false∧sameDst ox oi=false
  s:∀ ox oi,full[x.1]?=some ox→full[i.1]?=some oi→isQ C oi.op=false→isReadOp C ox.op=true→x.1 ∈ i.2
theorem Still.back {C:Ctx} {full:List Oper} (hsel:∀ o ∈ full,noSel o=true) {st:List Nat} {D:Nat→Bool} {x:Nat×List Nat} {ox:Oper} (hx:full[x.1]?=some ox) {L:List (Nat×List Nat)} (hap:Apart C full D (x::L))
    (hrd:∀ j ∈ st,D j=true→∀ oj,full[j]?=some oj→isReadOp C oj.op=true) {a:Act} {v:Value} {w:World} (h:Still C full st (addD D x.1) (a.put ox.dst v) w):Still C full st D a w:=by
  intro j hj hD oj hoj hw
  have hr:=hrd j hj hD oj hoj
  obtain ⟨h1,h2⟩:=hap j oj hD hoj hr x (by simp) ox hx
  have:=h j hj (by simp [addD,hD]) oj hoj (by rw [want_put a v h1]; exact hw)
  rw [dstV_put_ne a v h2] at this
  unfold RunsAt at this ⊢
  rwa [exec_put (hsel oj (List.mem_of_getElem? hoj)) a v h1] at this
theorem OpTo.mono {P:Program} {ρ:Operand→Value} {o:Oper} {w:World} {k k':Value→World→Prop} (h:OpTo P ρ o w k) (hk:∀ v w',k v w'→k' v w'):OpTo P ρ o w k':=by
  rcases h with ⟨v,w',h1,h2⟩|⟨w',h1,h2⟩|⟨g,args,h1,h2⟩|⟨l,fn,tmps,assign,body,h1,h2⟩
  · exact .inl ⟨v,w',h1,hk _ _ h2⟩
  · exact .inr (.inl ⟨w',h1,hk _ _ h2⟩)
  · exact .inr (.inr (.inl ⟨g,args,h1,h2.mono fun e w'' ⟨v,he,hv⟩=>⟨v,he,hk _ _ hv⟩⟩))
  · exact .inr (.inr (.inr ⟨l,fn,tmps,assign,body,h1,h2.mono fun e w'' ⟨v,he,hv⟩=>⟨v,he,hk _ _ hv⟩⟩))
theorem OpTo.congr {P:Program} {ρ ρ':Operand→Value} {o:Oper} {w:World} {k:Value→World→Prop} (he:execOp ρ o=execOp ρ' o) (h:OpTo P ρ o w k):OpTo P ρ' o w k:=by
  unfold OpTo at h ⊢; rw [he] at h; exact h
theorem dstV_put_self {n:Nat} {o:Oper} {a:Act} (hs:a.tmps.size=n) (hd:dstOk n o=true) (hn:o.dst.isNone=false) (v:Value):dstV (a.put o.dst v) o=v:=by
  unfold dstV dstOk at *
  cases ho:o.dst with
  | none=>rw [ho] at hn; cases hn
  | some d =>
    rw [ho] at hd
    have hlt:d<n:=Nat.le_of_ble_eq_true hd
    simp [Act.put,hs,hlt]
theorem size_put (a:Act) (d:Option Nat) (v:Value):(a.put d v).tmps.size=a.tmps.size:=by cases d <;> simp [Act.put]
theorem sameDst_comm (x o:Oper):sameDst x o=sameDst o x:=by
  unfold sameDst
  cases x.dst <;> cases o.dst <;> try rfl
  rename_i d e
  simp only
  cases h:Nat.beq d e with
  | true=>have:=Nat.eq_of_beq_eq_true h; subst this; exact h.symm
  | false =>
    cases h':Nat.beq e d with
    | false=>rfl
    | true=>have:=Nat.eq_of_beq_eq_true h'; subst this; rw [Nat.beq_refl] at h; cases h
theorem put_comm' {x o:Oper} (a:Act) (v u:Value) (h:sameDst x o=false):(a.put x.dst v).put o.dst u=(a.put o.dst u).put x.dst v :=
  Act.put_comm a v u (sameDst_false h)
def Behind (C:Ctx) (full:List Oper) (x y:Nat×List Nat):Prop :=
  ∀ ox oy,full[x.1]?=some ox→full[y.1]?=some oy→isReadOp C ox.op=true→dstLooks full oy ox=false∧sameDst oy ox=false
theorem front_swap {C:Ctx} {full:List Oper} {n:Nat} (hdst:∀ o ∈ full,dstOk n o=true) (hsel:∀ o ∈ full,noSel o=true) (hself:∀ o ∈ full,isReadOp C o.op=true→dstLooks full o o=false∧o.dst.isNone=false) (i:Nat) (st:List Nat)
    (hst:∀ j ∈ st,∀ oj,full[j]?=some oj→isReadOp C oj.op=true) {x:Nat×List Nat} (hX:Swap C full x (i,st)) {D:Nat→Bool} (hap:Apart C full D [x]) {A:Act→World→Prop} {B:(Nat→Bool)→Act→World→Prop} {a:Act} {w:World} (hsz:a.tmps.size=n)
    (IH:∀ v,(∃ ox,full[x.1]?=some ox∧A (a.put ox.dst v) w)→∃ ox,full[x.1]?=some ox∧Front C full i st (addD D x.1) (B (addD (addD D x.1) i)) (a.put ox.dst v) w)
    (h:Front C full x.1 x.2 D A a w):Front C full i st D (fun a w=>Front C full x.1 x.2 (addD D i) (B (addD (addD D i) x.1)) a w) a w:=by
    obtain ⟨ox,hox,h⟩:=h
    have IH:∀ v,A (a.put ox.dst v) w→Front C full i st (addD D x.1) (B (addD (addD D x.1) i)) (a.put ox.dst v) w:=fun v hv=>by
      obtain ⟨ox',e,r⟩:=IH v ⟨ox,hox,hv⟩
      rw [hox] at e
      have:=Option.some.inj e; subst this; exact r
    have hq:=hX.q ox hox
    -- what x does, v its value
    have core:∀ v:Value,(wantB full a ox=true→RunsAt C.P a ox w v∧(isReadOp C ox.op=false→∀ w',RunsAt C.P a ox w' v))→(wantB full a ox=false→v=undef) →
        A (a.put ox.dst v) w→Front C full i st D (fun a w=>Front C full x.1 x.2 (addD D i) (B (addD (addD D i) x.1)) a w) a w:=by
      intro v hv1 hv2 hrest
      obtain ⟨oi,hoi,hf⟩:=IH v hrest
      obtain ⟨a1,a2,a3⟩:=hX.a ox oi hox hoi
      have hsi:=hsel oi (List.mem_of_getElem? hoi)
      have hsx:=hsel ox (List.mem_of_getElem? hox)
      have hwi:=want_put (full:=full) a v a1
      have hei:=exec_put (full:=full) hsi a v a1
      refine ⟨oi,hoi,?_⟩
      -- x behind i, at a world where it runs as it ran
      have xback:∀ (u:Value) (w':World),(wantB full a ox=true→RunsAt C.P a ox w' v)→B (addD (addD D x.1) i) ((a.put ox.dst v).put oi.dst u) w' →
          Front C full x.1 x.2 (addD D i) (B (addD (addD D i) x.1)) (a.put oi.dst u) w':=by
        intro u w' hr hs
        rw [put_comm' a v u a3,addD_comm] at hs
        have hwx:=want_put (full:=full) a u a2
        refine ⟨ox,hox,?_⟩
        rw [hwx]
        cases hw:wantB full a ox with
        | true =>
          rw [if_pos rfl,if_pos hq]
          refine ⟨v,?_,fun hnr w2=>?_,hs⟩
          · unfold RunsAt; rw [exec_put hsx a u a2]; exact hr hw
          · unfold RunsAt; rw [exec_put hsx a u a2]; exact (hv1 hw).2 hnr w2
        | false =>
          rw [if_neg (by simp)]
          have:=hv2 hw
          subst this
          exact hs
      rw [hwi] at hf
      cases hwiB:wantB full a oi with
      | false =>
        rw [hwiB,if_neg (by simp)] at hf
        rw [if_neg (by simp)]
        exact xback undef w (fun hw=>(hv1 hw).1) hf
      | true =>
        rw [hwiB,if_pos rfl] at hf
        rw [if_pos rfl]
        cases hqi:isQ C oi.op with
        | true =>
          rw [hqi,if_pos rfl] at hf
          rw [if_pos rfl]
          obtain ⟨u,r1,r2,r3⟩:=hf
          refine ⟨u,?_,fun hnr w2=>?_,xback u w (fun hw=>(hv1 hw).1) r3⟩
          · unfold RunsAt at r1 ⊢; rwa [hei] at r1
          · have:=r2 hnr w2; unfold RunsAt at this ⊢; rwa [hei] at this
        | false =>
          rw [hqi,if_neg (by simp)] at hf
          rw [if_neg (by simp)]
          refine (OpTo.congr hei hf).mono fun u w' ⟨hstill,hk⟩=>?_
          refine ⟨Still.back hsel hox (L:=[]) (fun j oj hD hoj hr y hy oy hoy=>?_) (fun j hj _ oj hoj=>hst j hj oj hoj) hstill,xback u w' (fun hw=>?_) hk⟩
          · have:y=x:=by simpa using hy
            subst this
            exact hap j oj hD hoj hr y (by simp) oy hoy
          · cases hr:isReadOp C ox.op with
            | false=>exact (hv1 hw).2 hr w'
            | true =>
              have hmem:=hX.s ox oi hox hoi hqi hr
              obtain ⟨hsf,hsn⟩:=hself ox (List.mem_of_getElem? hox) hr
              have:=hstill x.1 hmem (by simp [addD,Nat.beq_refl]) ox hox (by rw [want_put a v hsf]; exact hw)
              unfold RunsAt at this ⊢
              rw [exec_put hsx a v hsf] at this
              rw [dstV_put_self hsz (hdst ox (List.mem_of_getElem? hox)) hsn] at this
              exact this
    cases hw:wantB full a ox with
    | true =>
      rw [hw,if_pos rfl,if_pos hq] at h
      obtain ⟨v,r1,r2,r3⟩:=h
      exact core v (fun _=>⟨r1,r2⟩) (fun hf=>by rw [hw] at hf; cases hf) r3
    | false =>
      rw [hw,if_neg (by simp)] at h
      exact core undef (fun hf=>by rw [hw] at hf; cases hf) (fun _=>rfl) h
end Go.Proofs.YtiapingedfnlnaaGreatDoor.Wx
namespace Go.Proofs.YtiapingedfnlnaaGreatDoor.Wx
open Go
theorem mask_bit (acc:Array Nat):∀ (ps:List Nat) (j:Nat),(mask acc ps).testBit j=true→∃ p ∈ ps,p=j∨(acc.getD p 0).testBit j=true
  | [],j,h=>by simp [mask] at h
  | p::r,j,h=>by
    simp only [mask,Nat.testBit_or,Bool.or_eq_true] at h
    rcases h with (h|h)|h
    · refine ⟨p,by simp,.inl ?_⟩
      by_cases e:p=j
      · exact e
      · rw [Nat.testBit_two_pow_of_ne e] at h; cases h
    · exact ⟨p,by simp,.inr h⟩
    · obtain ⟨q,hq,hj⟩:=mask_bit acc r j h
      exact ⟨q,by simp [hq],hj⟩
theorem masks_prefix : ∀ (l:List Oper) (acc:Array Nat) (p:Nat),p<acc.size→(masks l acc).getD p 0=acc.getD p 0
  | [],_,_,_=>rfl
  | o::r,acc,p,h=>by
    rw [masks,masks_prefix r _ p (by simp; omega)]
    simp [Array.getElem?_push,show p≠acc.size by omega]
theorem masks_at : ∀ (l:List Oper) (acc:Array Nat) (k:Nat) (o:Oper),l[k]?=some o→∃ acc':Array Nat,acc'.size=acc.size+k∧(masks l acc).getD (acc.size+k) 0=mask acc' (predsOf o) ∧
    ∀ p,p<acc'.size→acc'.getD p 0=(masks l acc).getD p 0
  | [],_,_,_,h=>by simp at h
  | o::r,acc,0,o',h=>by
    have e:o=o':=by simpa using h
    subst e
    refine ⟨acc,rfl,?_,fun p hp=>?_⟩
    · rw [masks,masks_prefix r _ _ (by simp)]
      simp
    · rw [masks,masks_prefix r _ _ (by simp; omega)]
      simp [Array.getElem?_push,show p≠acc.size by omega]
  | o::r,acc,k+1,o',h=>by
    obtain ⟨acc',h1,h2,h3⟩:=masks_at r (acc.push (mask acc (predsOf o))) k o' (by simpa using h)
    refine ⟨acc',by rw [h1]; simp; omega,?_,fun p hp=>by rw [masks]; exact h3 p hp⟩
    rw [masks]
    have e:(acc.push (mask acc (predsOf o))).size+k=acc.size+(k+1):=by simp; omega
    rw [e] at h2
    exact h2
theorem reach_listed {full:List Oper} (hback:∀ i o,full[i]?=some o→∀ p ∈ predsOf o,p<i) {listed:Nat→Bool}
    (hcl:∀ i o,full[i]?=some o→listed i=true→∀ p ∈ predsOf o,listed p=true) :
    ∀ (i:Nat) (o:Oper),full[i]?=some o→(∀ p ∈ predsOf o,listed p=true)→∀ j,((masks full #[]).getD i 0).testBit j=true→listed j=true:=by
  intro i
  induction i using Nat.strongRecOn with
  | _ i ih =>
    intro o ho hp j hj
    obtain ⟨acc',h1,h2,h3⟩:=masks_at full #[] i o ho
    simp only [List.size_toArray,List.length_nil,Nat.zero_add] at h1 h2
    rw [h2] at hj
    obtain ⟨p,hpm,hpj⟩:=mask_bit acc' _ _ hj
    rcases hpj with rfl|hpj
    · exact hp p hpm
    · have hlt:=hback i o ho p hpm
      rw [h3 p (by rw [h1]; exact hlt)] at hpj
      have hlen:p<full.length:=by
        have:=(List.getElem?_eq_some_iff.1 ho).1
        omega
      have hop:full[p]?=some full[p]:=List.getElem?_eq_getElem hlen
      exact ih p hlt _ hop (hcl p _ hop (hp p hpm)) j hpj
theorem pairB_spec {C:Ctx} {full:List Oper} {M:Array Nat} {x i:Nat×List Nat} (h:pairB C full M x i=true) :
    ∃ ox oi,full[x.1]?=some ox∧full[i.1]?=some oi∧x.1≠i.1∧i.1 ∉ predsOf ox∧sameDst ox oi=false∧(isReadOp C ox.op=true→dstLooks full oi ox=false) ∧
      ((M.getD i.1 0).testBit x.1=true∨(isQ C ox.op=true∧dstLooks full ox oi=false∧dstLooks full oi ox=false∧(isQ C oi.op=true∨isReadOp C ox.op=false∨x.1 ∈ i.2))):=by
  unfold pairB at h
  cases hx:full[x.1]? with
  | none=>rw [hx] at h; cases h
  | some ox =>
    cases hi:full[i.1]? with
    | none=>rw [hx,hi] at h; cases h
    | some oi =>
      rw [hx,hi] at h
      simp only [Bool.and_eq_true,Bool.not_eq_true',Bool.or_eq_true] at h
      obtain ⟨⟨⟨⟨h1,h2⟩,h3⟩,h4⟩,h5⟩:=h
      refine ⟨ox,oi,rfl,rfl,fun e=>?_,fun hm=>?_,h3,fun hr=>?_,?_⟩
      · rw [e,Nat.beq_refl] at h1; cases h1
      · rw [List.contains_iff_mem.2 hm] at h2; cases h2
      · rw [hr,Bool.true_and] at h4; exact h4
      · rcases h5 with h5|⟨⟨⟨h5,h6⟩,h7⟩,h8⟩
        · exact .inl h5
        · refine .inr ⟨h5,h6,h7,?_⟩
          rcases h8 with (h8|h8)|h8
          · exact .inl h8
          · exact .inr (.inl h8)
          · exact .inr (.inr (List.contains_iff_mem.1 h8))
theorem pair_behind {C:Ctx} {full:List Oper} {M:Array Nat} {x y:Nat×List Nat} (h:pairB C full M x y=true):Behind C full x y:=by
  obtain ⟨ox,oy,h1,h2,h3,h4,h5,h6,h7⟩:=pairB_spec h
  intro ox' oy' e1 e2 hr
  rw [h1] at e1; rw [h2] at e2
  have:=Option.some.inj e1; subst this
  have:=Option.some.inj e2; subst this
  exact ⟨h6 hr,by rw [sameDst_comm]; exact h5⟩
def pull (i:Nat):Od→Od
  | .nil => .nil
  | .op x st r=>if Nat.beq x i then r else .op x st (pull i r)
  | .alt x _ r o=>if Nat.beq x i then r else pull i o
def stOf (i:Nat):Od→List Nat
  | .nil=>[]
  | .op x st r=>if Nat.beq x i then st else stOf i r
  | .alt x st _ o=>if Nat.beq x i then st else stOf i o
theorem occ_pull (i:Nat):∀ (T:Od),∀ y ∈ occ (pull i T),y ∈ occ T
  | .nil,y,h=>h
  | .op x st r,y,h=>by
    unfold pull at h
    split at h
    · exact List.mem_cons_of_mem _ h
    · rcases List.mem_cons.1 h with h|h
      · exact List.mem_cons.2 (.inl h)
      · exact List.mem_cons_of_mem _ (occ_pull i r y h)
  | .alt x st r o,y,h=>by
    unfold pull at h
    split at h
    · exact List.mem_cons_of_mem _ (List.mem_append.2 (.inl h))
    · exact List.mem_cons_of_mem _ (List.mem_append.2 (.inr (occ_pull i o y h)))
theorem mem_lessR {R:List Nat} {x j:Nat}:j ∈ lessR R x↔j ∈ R∧j≠x:=by
  simp only [lessR,List.mem_filter,Bool.not_eq_true',and_congr_right_iff]
  intro _
  constructor
  · intro h e; subst e; rw [Nat.beq_refl] at h; cases h
  · intro h; cases e:Nat.beq j x with
    | false=>rfl
    | true=>exact absurd (Nat.eq_of_beq_eq_true e) h
theorem lessR_comm (R:List Nat) (x i:Nat):lessR (lessR R x) i=lessR (lessR R i) x:=by
  simp only [lessR,List.filter_filter]
  congr 1; funext k; exact Bool.and_comm _ _
theorem lessR_length {R:List Nat} {x:Nat} (h:x ∈ R):(lessR R x).length<R.length:=by
  unfold lessR
  have h1:=List.length_filter_le (fun j => !Nat.beq j x) R
  rcases Nat.lt_or_ge (R.filter fun j => !Nat.beq j x).length R.length with h2|h2
  · exact h2
  · exfalso
    have:=List.length_filter_eq_length_iff.1 (Nat.le_antisymm h1 h2) x h
    rw [Nat.beq_refl] at this; cases this
theorem beq_false {x i:Nat} (h:x≠i):Nat.beq x i=false:=by
  cases e:Nat.beq x i with
  | false=>rfl
  | true=>exact absurd (Nat.eq_of_beq_eq_true e) h
theorem pull_op_ne {x i:Nat} (h:x≠i) (st:List Nat) (r:Od):pull i (.op x st r) = .op x st (pull i r):=by rw [pull,beq_false h]; rfl
theorem pull_op_eq (i:Nat) (st:List Nat) (r:Od):pull i (.op i st r)=r:=by rw [pull,Nat.beq_refl]; rfl
theorem pull_alt_ne {x i:Nat} (h:x≠i) (st:List Nat) (r o:Od):pull i (.alt x st r o)=pull i o:=by rw [pull,beq_false h]; rfl
theorem pull_alt_eq (i:Nat) (st:List Nat) (r o:Od):pull i (.alt i st r o)=r:=by rw [pull,Nat.beq_refl]; rfl
theorem stOf_op_ne {x i:Nat} (h:x≠i) (st:List Nat) (r:Od):stOf i (.op x st r)=stOf i r:=by rw [stOf,beq_false h]; rfl
theorem stOf_op_eq (i:Nat) (st:List Nat) (r:Od):stOf i (.op i st r)=st:=by rw [stOf,Nat.beq_refl]; rfl
theorem stOf_alt_ne {x i:Nat} (h:x≠i) (st:List Nat) (r o:Od):stOf i (.alt x st r o)=stOf i o:=by rw [stOf,beq_false h]; rfl
theorem stOf_alt_eq (i:Nat) (st:List Nat) (r o:Od):stOf i (.alt i st r o)=st:=by rw [stOf,Nat.beq_refl]; rfl
structure OkOp (C:Ctx) (full:List Oper) (M:Array Nat) (b:Bool) (x:Nat) (st:List Nat) (r:Od) (R:List Nat):Prop where
  mem:x ∈ R
  free:predsFree full x R=true
  rest:okB C full M false r (lessR R x)=true
  pair:b=false→∀ p ∈ occ r,pairB C full M (x,st) p=true
  alt:b=true→notRead C full x=true
theorem okB_op {C:Ctx} {full:List Oper} {M:Array Nat} {b:Bool} {x:Nat} {st:List Nat} {r:Od} {R:List Nat} (h:okB C full M b (.op x st r) R=true):OkOp C full M b x st r R:=by
  simp only [okB,Bool.and_eq_true] at h
  obtain ⟨h1,h2,h3,h4⟩:=h
  refine ⟨List.contains_iff_mem.1 h1,h2,h4,fun e=>?_,fun e=>?_⟩
  · subst e; exact List.all_eq_true.1 h3
  · subst e; exact h3
structure OkAlt (C:Ctx) (full:List Oper) (M:Array Nat) (b:Bool) (x:Nat) (r o:Od) (R:List Nat):Prop where
  mem:x ∈ R
  free:predsFree full x R=true
  quiet:notRead C full x=true
  rest:okB C full M false r (lessR R x)=true
  other:okB C full M true o R=true
  cover:b=false→∀ y ∈ R,y ∈ heads (.alt x [] r o)∨∃ e ∈ heads (.alt x [] r o),(M.getD y 0).testBit e=true
theorem okB_alt {C:Ctx} {full:List Oper} {M:Array Nat} {b:Bool} {x:Nat} {st:List Nat} {r o:Od} {R:List Nat} (h:okB C full M b (.alt x st r o) R=true):OkAlt C full M b x r o R:=by
  simp only [okB,Bool.and_eq_true] at h
  obtain ⟨h1,h2,h3,h4,h5,h6⟩:=h
  refine ⟨List.contains_iff_mem.1 h1,h2,h3,h4,h5,fun e y hy=>?_⟩
  subst e
  have:=List.all_eq_true.1 (by simpa only [Bool.false_or] using h6) y hy
  simp only [Bool.or_eq_true] at this
  rcases this with ((h|h)|h)|h
  · exact .inl (List.mem_cons.2 (.inl (Nat.eq_of_beq_eq_true h)))
  · exact .inl (List.mem_cons_of_mem _ (List.contains_iff_mem.1 h))
  · exact .inr ⟨x,List.mem_cons_self ..,h⟩
  · obtain ⟨e,he,ht⟩:=List.any_eq_true.1 h
    exact .inr ⟨e,List.mem_cons_of_mem _ he,ht⟩
theorem heads_mem {C:Ctx} {full:List Oper} {M:Array Nat}:∀ (T:Od) (b:Bool) (R:List Nat),okB C full M b T R=true→∀ e ∈ heads T,e ∈ R
  | .nil,_,_,_,e,he=>absurd he (by simp [heads])
  | .op x st r,b,R,h,e,he=>by
    have:e=x:=by simpa [heads] using he
    rw [this]; exact (okB_op h).mem
  | .alt x st r o,b,R,h,e,he=>by
    have:=okB_alt h
    rcases List.mem_cons.1 he with he|he
    · rw [he]; exact this.mem
    · exact heads_mem o true R this.other e he
structure Can (full:List Oper) (M:Array Nat) (i:Nat) (b:Bool) (T:Od) (R:List Nat):Prop where
  mem:i ∈ R
  up:∀ k,(M.getD i 0).testBit k=true→k ∉ R
  alt:b=true→i ∈ heads T
theorem Can.rest {full:List Oper} {M:Array Nat} {i x:Nat} {st:List Nat} {r:Od} {R:List Nat} (c:Can full M i false (.op x st r) R) (h:x≠i):Can full M i false r (lessR R x) :=
  ⟨mem_lessR.2 ⟨c.mem,fun e=>h e.symm⟩,fun k hk hm=>c.up k hk (mem_lessR.1 hm).1,fun e=>by cases e⟩
theorem Can.other {C:Ctx} {full:List Oper} {M:Array Nat} {i x:Nat} {b:Bool} {st:List Nat} {r o:Od} {R:List Nat} (c:Can full M i b (.alt x st r o) R) (hk:okB C full M b (.alt x st r o) R=true) (h:x≠i):Can full M i true o R:=by
  refine ⟨c.mem,c.up,fun _=>?_⟩
  have hh:i ∈ heads (.alt x st r o):=by
    cases b with
    | true=>exact c.alt rfl
    | false =>
      rcases (okB_alt hk).cover rfl i c.mem with h|⟨e,he,ht⟩
      · exact h
      · exact absurd (heads_mem _ _ _ hk e he) (c.up e ht)
  rcases List.mem_cons.1 hh with hh|hh
  · exact absurd hh.symm h
  · exact hh
theorem Can.eq {full:List Oper} {M:Array Nat} {i x:Nat} {st:List Nat} {r:Od} {R:List Nat} (c:Can full M i true (.op x st r) R):x=i:=by
  have:=c.alt rfl
  simp only [heads,List.mem_singleton] at this; exact this.symm
theorem stOf_occ {C:Ctx} {full:List Oper} {M:Array Nat} {i:Nat}:∀ (T:Od) (b:Bool) (R:List Nat),okB C full M b T R=true→Can full M i b T R→(i,stOf i T) ∈ occ T
  | .nil,b,R,h,c=>by
    simp only [okB,List.isEmpty_iff] at h
    have:=c.mem; rw [h] at this; exact absurd this (by simp)
  | .op x st r,b,R,h,c=>by
    by_cases e:x=i
    · subst e; rw [stOf_op_eq]; exact List.mem_cons_self ..
    · cases b with
      | true=>exact absurd c.eq e
      | false=>rw [stOf_op_ne e]; exact List.mem_cons_of_mem _ (stOf_occ r false _ (okB_op h).rest (c.rest e))
  | .alt x st r o,b,R,h,c=>by
    by_cases e:x=i
    · subst e; rw [stOf_alt_eq]; exact List.mem_cons_self ..
    · rw [stOf_alt_ne e]; exact List.mem_cons_of_mem _ (List.mem_append.2 (.inr (stOf_occ o true R (okB_alt h).other (c.other h e))))
theorem predsFree_less {full:List Oper} {x i:Nat} {R:List Nat} (h:predsFree full x R=true):predsFree full x (lessR R i)=true:=by
  unfold predsFree at h ⊢
  cases ho:full[x]? with
  | none=>rw [ho] at h; cases h
  | some o =>
    rw [ho] at h
    refine List.all_eq_true.2 fun p hp=>?_
    have:=List.all_eq_true.1 h p hp
    rw [Bool.not_eq_true'] at this ⊢
    cases hc:(lessR R i).contains p with
    | false=>rfl
    | true=>rw [List.contains_iff_mem.2 (mem_lessR.1 (List.contains_iff_mem.1 hc)).1] at this; cases this
theorem pull_ok {C:Ctx} {full:List Oper} {M:Array Nat} {i:Nat}:∀ (T:Od) (b:Bool) (R:List Nat),okB C full M b T R=true→Can full M i b T R→okB C full M false (pull i T) (lessR R i)=true
  | .nil,b,R,h,c=>by
    simp only [okB,List.isEmpty_iff] at h
    have:=c.mem; rw [h] at this; exact absurd this (by simp)
  | .op x st r,b,R,h,c=>by
    have k:=okB_op h
    by_cases e:x=i
    · subst e; rw [pull_op_eq]; exact k.rest
    · cases b with
      | true=>exact absurd c.eq e
      | false =>
        rw [pull_op_ne e]
        simp only [okB,Bool.and_eq_true]
        refine ⟨List.contains_iff_mem.2 (mem_lessR.2 ⟨k.mem,e⟩),predsFree_less k.free,?_,?_⟩
        · exact List.all_eq_true.2 fun p hp=>k.pair rfl p (occ_pull i r p hp)
        · rw [lessR_comm]; exact pull_ok r false _ k.rest (c.rest e)
  | .alt x st r o,b,R,h,c=>by
    by_cases e:x=i
    · subst e; rw [pull_alt_eq]; exact (okB_alt h).rest
    · rw [pull_alt_ne e]; exact pull_ok o true R (okB_alt h).other (c.other h e)
theorem pair_swap {C:Ctx} {full:List Oper} {M:Array Nat} {x i:Nat×List Nat} (h:pairB C full M x i=true) (hno:(M.getD i.1 0).testBit x.1=false):Swap C full x i:=by
  obtain ⟨ox,oi,g1,g2,g3,g4,g5,g6,g7⟩:=pairB_spec h
  rcases g7 with g7|⟨k1,k2,k3,k4⟩
  · rw [hno] at g7; cases g7
  · refine ⟨fun o1 e1=>?_,fun o1 o2 e1 e2=>?_,fun o1 o2 e1 e2 hnq hr=>?_⟩
    · rw [g1] at e1; have:=Option.some.inj e1; subst this; exact k1
    · rw [g1] at e1; rw [g2] at e2; have:=Option.some.inj e1; subst this; have:=Option.some.inj e2; subst this; exact ⟨k2,k3,g5⟩
    · rw [g1] at e1; rw [g2] at e2; have:=Option.some.inj e1; subst this; have:=Option.some.inj e2; subst this
      rcases k4 with k4|k4|k4
      · rw [hnq] at k4; cases k4
      · rw [hr] at k4; cases k4
      · exact k4
theorem Can.no {full:List Oper} {M:Array Nat} {i x:Nat} {b:Bool} {T:Od} {R:List Nat} (c:Can full M i b T R) (h:x ∈ R):(M.getD i 0).testBit x=false:=by
  cases e:(M.getD i 0).testBit x with
  | false=>rfl
  | true=>exact absurd h (c.up x e)
theorem pull_behind {C:Ctx} {full:List Oper} {M:Array Nat} {i:Nat} {o:Oper} (ho:full[i]?=some o) (hr:isReadOp C o.op=true):∀ (T:Od) (b:Bool) (R:List Nat),okB C full M b T R=true→Can full M i b T R →
    ∀ y ∈ occ (pull i T),∀ oy,full[y.1]?=some oy→dstLooks full oy o=false∧sameDst oy o=false
  | .nil,b,R,h,c,y,hy,oy,hoy=>absurd hy (by simp [pull,occ])
  | .op x st r,b,R,h,c,y,hy,oy,hoy=>by
    have k:=okB_op h
    by_cases e:x=i
    · subst e
      rw [pull_op_eq] at hy
      cases b with
      | true =>
        have:=k.alt rfl
        unfold notRead at this
        rw [ho] at this
        simp [hr] at this
      | false=>exact pair_behind (k.pair rfl y hy) o oy ho hoy hr
    · cases b with
      | true=>exact absurd c.eq e
      | false =>
        rw [pull_op_ne e] at hy
        rcases List.mem_cons.1 hy with hy|hy
        · subst hy
          have hm:=stOf_occ r false _ k.rest (c.rest e)
          have sw:=pair_swap (k.pair rfl _ hm) (c.no k.mem)
          obtain ⟨k1,_,k3⟩:=sw.a oy o hoy ho
          exact ⟨k1,k3⟩
        · exact pull_behind ho hr r false _ k.rest (c.rest e) y hy oy hoy
  | .alt x st r o',b,R,h,c,y,hy,oy,hoy=>by
    by_cases e:x=i
    · subst e
      have:=(okB_alt h).quiet
      unfold notRead at this
      rw [ho] at this
      simp [hr] at this
    · rw [pull_alt_ne e] at hy
      exact pull_behind ho hr o' true R (okB_alt h).other (c.other h e) y hy oy hoy
theorem Apart.sub {C:Ctx} {full:List Oper} {D:Nat→Bool} {L L':List (Nat×List Nat)} (h:Apart C full D L) (hs:∀ y ∈ L',y ∈ L):Apart C full D L' :=
  fun j oj hD hoj hr x hx ox hox=>h j oj hD hoj hr x (hs x hx) ox hox
theorem front_tree {C:Ctx} {full:List Oper} {n:Nat} {M:Array Nat} (hdst:∀ o ∈ full,dstOk n o=true) (hsel:∀ o ∈ full,noSel o=true) (hself:∀ o ∈ full,isReadOp C o.op=true→dstLooks full o o=false∧o.dst.isNone=false) (i:Nat) (N:Act→World→Prop) :
    ∀ (T:Od) (b:Bool) (R:List Nat) (D:Nat→Bool) (a:Act) (w:World),okB C full M b T R=true→Can full M i b T R→(∀ x ∈ occ T,∀ j ∈ x.2,∀ oj,full[j]?=some oj→isReadOp C oj.op=true) →
      a.tmps.size=n→Apart C full D (occ T)→SW C full T D N a w→Front C full i (stOf i T) D (fun a w=>SW C full (pull i T) (addD D i) N a w) a w
  | .nil,b,R,D,a,w,h,c,_,_,_,_=>by
    simp only [okB,List.isEmpty_iff] at h
    have:=c.mem; rw [h] at this; exact absurd this (by simp)
  | .op x st r,b,R,D,a,w,h,c,hst,hsz,hap,hs=>by
    have k:=okB_op h
    by_cases e:x=i
    · subst e; rw [pull_op_eq,stOf_op_eq]; exact hs
    · cases b with
      | true=>exact absurd c.eq e
      | false =>
        rw [pull_op_ne e,stOf_op_ne e]
        have hm:=stOf_occ r false _ k.rest (c.rest e)
        have sw:=pair_swap (k.pair rfl _ hm) (c.no k.mem)
        refine front_swap hdst hsel hself i (stOf i r) (hst _ (List.mem_cons_of_mem _ hm)) (x:=(x,st)) sw (hap.sub fun y hy=>by rw [List.mem_singleton.1 hy]; exact List.mem_cons_self ..)
          (A:=fun a w=>SW C full r (addD D x) N a w) (B:=fun D a w=>SW C full (pull i r) D N a w) hsz (fun v hv=>?_) hs
        obtain ⟨ox,hox,hv⟩:=hv
        refine ⟨ox,hox,?_⟩
        refine front_tree hdst hsel hself i N r false _ (addD D x) _ w k.rest (c.rest e) (fun y hy=>hst y (List.mem_cons_of_mem _ hy)) (by rw [size_put]; exact hsz) ?_ hv
        intro j oj hD hoj hr y hy oy hoy
        simp only [addD,Bool.or_eq_true] at hD
        rcases hD with hD|hD
        · have e:=Nat.eq_of_beq_eq_true hD
          subst e
          exact pair_behind (k.pair rfl y hy) oj oy hoj hoy hr
        · exact hap j oj hD hoj hr y (List.mem_cons_of_mem _ hy) oy hoy
  | .alt x st r o,b,R,D,a,w,h,c,hst,hsz,hap,hs=>by
    by_cases e:x=i
    · subst e; rw [pull_alt_eq,stOf_alt_eq]; exact hs.1
    · rw [pull_alt_ne e,stOf_alt_ne e]
      exact front_tree hdst hsel hself i N o true R D a w (okB_alt h).other (c.other h e) (fun y hy=>hst y (List.mem_cons_of_mem _ (List.mem_append.2 (.inr hy)))) hsz
        (hap.sub fun y hy=>List.mem_cons_of_mem _ (List.mem_append.2 (.inr hy))) hs.2
structure Plan (C:Ctx) (full:List Oper) (L:Od):Prop where
  sel:∀ o ∈ full,noSel o=true
  back:∀ i o,full[i]?=some o→∀ p ∈ predsOf o,p<i
  self:∀ o ∈ full,isReadOp C o.op=true→dstLooks full o o=false∧o.dst.isNone=false
  st:∀ x ∈ occ L,∀ j ∈ x.2,∀ oj,full[j]?=some oj→isReadOp C oj.op=true
  ok:okB C full (masks full #[]) false L (List.range full.length)=true
theorem planB_plan {C:Ctx} {full:List Oper} {L:Od} (h:planB C full L=true):Plan C full L:=by
  simp only [planB,Bool.and_eq_true] at h
  obtain ⟨h1,h2,h3,h5,h6⟩:=h
  refine ⟨List.all_eq_true.1 h1,?_,?_,?_,h6⟩
  · intro i o ho p hp
    have hm:(o,i) ∈ full.zipIdx:=by
      rw [List.mem_iff_getElem?]
      exact ⟨i,by simp [List.getElem?_zipIdx,ho]⟩
    have:=List.all_eq_true.1 (List.all_eq_true.1 h2 _ hm) p hp
    exact Nat.le_of_ble_eq_true this
  · intro o ho hr
    have:=List.all_eq_true.1 h3 o ho
    rw [hr] at this
    simpa using this
  · intro x hx j hj oj hoj
    have:=List.all_eq_true.1 h5 x hx
    simp only [Bool.and_eq_true] at this
    have:=List.all_eq_true.1 this.2 j hj
    rw [hoj] at this
    exact this
theorem sw_any {C:Ctx} {ro:Option Nat} {full:List Oper} {n:Nat} (hnd:∀ o ∈ full,isDefer o.op=false) (hdst:∀ o ∈ full,dstOk n o=true) {L0:Od} (hp:Plan C full L0) {Q:Exit→Act→World→Prop} {N:Act→World→Prop} (hN:∀ a w,N a w→Q .normal a w) :
    ∀ (fuel:Nat) (listed:Array Bool) (T:Od) (R:List Nat) (D:Nat→Bool) (a:Act) (w:World),listed.size=full.length→okB C full (masks full #[]) false T R=true→(∀ y ∈ occ T,y ∈ occ L0) →
      (∀ i,i<full.length→(listed.getD i true=false↔i ∈ R))→(∀ i ∈ R,i<full.length)→(∀ i o,full[i]?=some o→listed.getD i false=true→∀ p ∈ predsOf o,listed.getD p false=true) →
      Apart C full D (occ T)→a.tmps.size=n→R.length≤fuel→SW C full T D N a w→wpAnyIn (FW ro) 0 C.P .any full.toArray Q fuel listed a w:=by
  have pm:∀ (o:Oper) (e:Edge),e ∈ o.after→Region.binds .any e=true→e.on ∈ predsOf o:=fun o e he hb =>
    List.mem_map.2 ⟨e,List.mem_filter.2 ⟨by simpa using he,hb⟩,rfl⟩
  have mp:∀ (o:Oper) (p:Nat),p ∈ predsOf o→∃ e ∈ o.after,Region.binds .any e=true∧e.on=p:=fun o p h=>by
    obtain ⟨e,he,rfl⟩:=List.mem_map.1 h
    obtain ⟨h1,h2⟩:=List.mem_filter.1 he
    exact ⟨e,by simpa using h1,h2,rfl⟩
  have flip:∀ (listed:Array Bool) (i:Nat),listed.size=full.length→i<full.length→listed.getD i true=listed.getD i false:=by
    intro listed i hs hi
    have hlt:i<listed.size:=by omega
    rw [Array.getD_eq_getD_getElem?,Array.getD_eq_getD_getElem?,Array.getElem?_eq_getElem hlt]
    rfl
  -- where nothing is ready, nothing is left
  have none_left:∀ (listed:Array Bool) (T:Od) (R:List Nat),listed.size=full.length→okB C full (masks full #[]) false T R=true→(∀ i,i<full.length→(listed.getD i true=false↔i ∈ R))→(∀ i ∈ R,i<full.length) →
      Region.ready .any full.toArray listed=[]→T = .nil:=by
    intro listed T R hs hok hiff hlt0 hr
    have go:∀ x,x ∈ R→predsFree full x R=true→False:=by
      intro x hxm hfree
      have hlt:=hlt0 x hxm
      have hox:full[x]?=some full[x]:=List.getElem?_eq_getElem hlt
      have hmem:x ∈ Region.ready .any full.toArray listed:=by
        refine mem_ready.2 ⟨(hiff x hlt).2 hxm,full[x],by simp,fun e he hb=>?_⟩
        have hpm:=pm _ e he hb
        have hplt:=hp.back _ _ hox _ hpm
        cases hl:listed.getD e.on false with
        | true=>rfl
        | false =>
          exfalso
          rw [← flip listed e.on hs (by omega)] at hl
          have hin:=(hiff e.on (by omega)).1 hl
          unfold predsFree at hfree
          rw [hox] at hfree
          have:=List.all_eq_true.1 hfree e.on hpm
          rw [List.contains_iff_mem.2 hin] at this; cases this
      rw [hr] at hmem
      exact absurd hmem (by simp)
    cases T with
    | nil=>rfl
    | op x st r=>exact (go x (okB_op hok).mem (okB_op hok).free).elim
    | alt x st r o=>exact (go x (okB_alt hok).mem (okB_alt hok).free).elim
  intro fuel
  induction fuel with
  | zero =>
    intro listed T R D a w hs hok hsub hiff hlt0 hcl hap hsz hlen h
    have hL:R=[]:=List.eq_nil_of_length_eq_zero (by omega)
    subst hL
    have hT:T = .nil:=by
      cases T with
      | nil=>rfl
      | op x st r=>exact absurd (okB_op hok).mem (by simp)
      | alt x st r o=>exact absurd (okB_alt hok).mem (by simp)
    subst hT
    refine ⟨?_,hN _ _ h⟩
    cases hr:Region.ready .any full.toArray listed with
    | nil=>rfl
    | cons j r =>
      exfalso
      have hj:j ∈ Region.ready .any full.toArray listed:=by rw [hr]; simp
      obtain ⟨h1,o,h2,_⟩:=mem_ready.1 hj
      have hlt:j<full.length:=by
        have:=(Array.getElem?_eq_some_iff.1 h2).1
        simpa using this
      exact absurd ((hiff j hlt).1 h1) (by simp)
  | succ fuel ih =>
    intro listed T R D a w hs hok hsub hiff hlt0 hcl hap hsz hlen h
    refine ⟨fun hr=>?_,fun i hi=>?_⟩
    · have:=none_left listed T R hs hok hiff hlt0 hr
      subst this
      exact hN _ _ h
    · obtain ⟨h1,o,h2,h3⟩:=mem_ready.1 hi
      have ho:full[i]?=some o:=by simpa using h2
      have hlt:i<full.length:=(List.getElem?_eq_some_iff.1 ho).1
      have hiR:=(hiff i hlt).1 h1
      have hpreds:∀ p ∈ predsOf o,listed.getD p false=true:=fun p hp'=>by
        obtain ⟨e,he,hb,rfl⟩:=mp o p hp'
        exact h3 e he hb
      have hreach:=reach_listed hp.back (listed:=fun k=>listed.getD k false) hcl i o ho hpreds
      have can:Can full (masks full #[]) i false T R:=by
        refine ⟨hiR,fun k hk hm=>?_,fun e=>by cases e⟩
        have h4:=hreach k hk
        have h4:listed.getD k false=true:=h4
        rw [← flip listed k hs (hlt0 k hm),(hiff k (hlt0 k hm)).2 hm] at h4
        cases h4
      obtain ⟨o',ho',hf⟩:=front_tree hdst hp.sel hp.self i N T false R D a w hok can (fun x hx=>hp.st x (hsub x hx)) hsz hap h
      rw [ho] at ho'
      have:=Option.some.inj ho'
      subst this
      have next:∀ (v:Value) (w':World),SW C full (pull i T) (addD D i) N (a.put o.dst v) w'→wpAnyIn (FW ro) 0 C.P .any full.toArray Q fuel (listed.setIfInBounds i true) (a.put o.dst v) w':=by
        intro v w' hsw
        refine ih _ _ (lessR R i) _ _ _ (by simpa using hs) (pull_ok T false R hok can) (fun y hy=>hsub y (occ_pull i T y hy)) ?_ (fun j hj=>hlt0 j (mem_lessR.1 hj).1) ?_ ?_ (by rw [size_put]; exact hsz) (by have:=lessR_length hiR; omega) hsw
        · intro j hj
          by_cases e:i=j
          · subst e
            constructor
            · intro hh
              have:(listed.setIfInBounds i true).getD i true=true:=by
                rw [Array.getD_eq_getD_getElem?]
                simp [show i<listed.size by omega]
              rw [this] at hh; cases hh
            · intro hh; exact absurd rfl (mem_lessR.1 hh).2
          · rw [getD_set_ne true e,hiff j hj,mem_lessR]
            exact ⟨fun hh=>⟨hh,fun e'=>e e'.symm⟩,fun hh=>hh.1⟩
        · intro j oj hoj hl p hp'
          by_cases e:i=j
          · subst e
            rw [ho] at hoj
            have:=Option.some.inj hoj
            subst this
            exact getD_set_true (hpreds p hp')
          · rw [getD_set_ne false e] at hl
            exact getD_set_true (hcl j oj hoj hl p hp')
        · intro j oj hD hoj hr x hx' ox hox
          simp only [addD,Bool.or_eq_true] at hD
          rcases hD with hD|hD
          · have e:=Nat.eq_of_beq_eq_true hD
            subst e
            exact pull_behind hoj hr T false R hok can x hx' ox hox
          · exact hap j oj hD hoj hr x (occ_pull i T x hx') ox hox
      have hd:ro=none∨isDefer o.op=false := .inr (hnd o (List.mem_of_getElem? ho))
      unfold wpOpIn
      simp only [h2]
      split
      · rename_i hw
        have hw':wantB full a o=true:=hw
        rw [hw',if_pos rfl] at hf
        cases hq:isQ C o.op with
        | true =>
          rw [hq,if_pos rfl] at hf
          obtain ⟨v,r1,_,r3⟩:=hf
          exact wpIn_of_OpTo hd (k:=fun u w'=>u=v∧w'=w) (.inl ⟨v,w,r1,rfl,rfl⟩) fun u w' ⟨e1,e2⟩=>by subst e1; subst e2; exact next _ _ r3
        | false =>
          rw [hq,if_neg (by simp)] at hf
          exact wpIn_of_OpTo hd hf fun u w' ⟨_,hk⟩=>next _ _ hk
      · rename_i hw
        have hw':wantB full a o=false:=by simpa [wantB] using hw
        rw [hw',if_neg (by simp)] at hf
        exact ⟨fun _ _=>trivial,next _ _ hf⟩
end Go.Proofs.YtiapingedfnlnaaGreatDoor.Wx
namespace Go.Proofs.YtiapingedfnlnaaGreatDoor.Wx
open Go
theorem stills_elim {C:Ctx} {full:List Oper} {n:Nat} {a:Act} {f:Fr} (hA:Agr n a f) {h:Heap} {K:Prop}:∀ {js:List Nat},stills C full f h js K →
    (∀ j ∈ js,∀ oj,full[j]?=some oj→wantB full a oj=true→stillX C f h oj)∧K
  | [],hk=>⟨fun j hj=>absurd hj (by simp),hk⟩
  | j::r,hk=>by
    obtain ⟨o,ho,h1⟩:=onSome_elim (show onSome (full[j]?) _ from hk)
    have h2:=wantX_elim hA h1
    cases hw:wantB full a o with
    | true =>
      rw [show Region.wanted o (yielded full.toArray a.tmps)=true from hw] at h2
      obtain ⟨h3,h4⟩:=h2
      obtain ⟨i1,i2⟩:=stills_elim hA h4
      refine ⟨fun k hk oj hoj hwj=>?_,i2⟩
      rcases List.mem_cons.1 hk with rfl|hk
      · rw [ho] at hoj; have:=Option.some.inj hoj; subst this; exact h3
      · exact i1 k hk oj hoj hwj
    | false =>
      rw [show Region.wanted o (yielded full.toArray a.tmps)=false from hw] at h2
      obtain ⟨i1,i2⟩:=stills_elim hA (show stills C full f h r K from h2)
      refine ⟨fun k hk oj hoj hwj=>?_,i2⟩
      rcases List.mem_cons.1 hk with rfl|hk
      · rw [ho] at hoj; have:=Option.some.inj hoj; subst this; rw [hw] at hwj; cases hwj
      · exact i1 k hk oj hoj hwj
theorem mkStr_toList (s:ByteArray):mkStr s.toList=s:=by
  rw [ByteArray.toList_eq]; rfl
theorem still_run {C:Ctx} (hC:CtxOk C) {n:Nat} {a:Act} {f:Fr} (hA:Agr n a f) {o:Oper} {w:World} (h:stillX C f w.heap o):RunsAt C.P a o w (dstV a o):=by
  unfold stillX at h
  cases hd:o.dst with
  | none=>rw [hd] at h; exact h.elim
  | some d =>
    rw [hd] at h
    obtain ⟨v,hv,h1⟩:=onSome_elim h
    have hdv:dstV a o=v:=by unfold dstV; rw [hd]; exact hA.val d v hv
    rw [hdv]
    unfold RunsAt
    cases ho:o.op with
    | load t x =>
      rw [ho] at h1
      obtain ⟨p,hp,h2⟩:=ptr_elim hA.fit h1
      obtain ⟨hx,h3⟩:=hC.okX h2
      obtain ⟨i,ds,z,hi,hu,hdx,hsz,_,_,_⟩:=hx.get
      have hag:=run_isAgg_ok hu w
      have he:execOp a.eval o=(do Pure.pure (.value (← Instr.loadAt t (a.eval x)))):=by simp only [execOp,ho]
      rw [he,hp]
      have key:(loadVar t p).run C.P w = .ok v w:=by
        unfold loadVar
        cases hq:isAggD (descSum ds) with
        | true =>
          rw [hq] at hag
          have hty:(C.ti t).d.ty = .agg:=by rw [← hdx]; revert hq; cases descSum ds <;> simp [isAggD,D.ty]
          rw [hty] at h3
          obtain ⟨cs,rfl,hl,hc⟩:=onAgg_elim h3
          have hlo:=run_loadCells_list (P:=C.P) w p cs (fun j v hv=>hc j v hv)
          simp only [Sem.run_bind,hag,Result.andThen_ok,if_true,run_sizeOf_ok hi,hsz,← hl,hlo,Sem.run_pure]
        | false =>
          rw [hq] at hag
          have hty:(C.ti t).d.ty ≠ .agg:=by rw [← hdx]; revert hq; cases descSum ds <;> simp [isAggD,D.ty]
          have h4:cellOf w.heap p=some v:=by
            cases hq2:(C.ti t).d.ty <;> rw [hq2] at h3 hty <;> first|exact h3|exact (hty rfl).elim
          simp [Sem.run_bind,hag,cell_eq,h4]
      simp only [Instr.loadAt,Instr.sureAddr,Sem.run_bind,Sem.run_pure,Result.andThen_ok,key]
    | convert s t x =>
      rw [ho] at h1
      simp only at h1
      have hs:(C.ti s).d ≠ .other:=by intro e; rw [e] at h1; exact h1.elim
      have ht:(C.ti t).d ≠ .other:=by intro e; rw [e] at h1; split at h1 <;> first|exact h1.elim|simp at *
      obtain ⟨_,dss,_,_,hus,hds,_⟩:=(hC.okD hs).get
      obtain ⟨_,dt,_,_,hut,hdt,_⟩:=(hC.okD ht).get
      rw [← hds,← hdt] at h1
      cases dss <;> cases dt <;> try exact h1.elim
      rename_i e
      simp only [descSum] at h1
      cases hb:isU8 (C.ti e).d with
      | false=>rw [hb] at h1; exact h1.elim
      | true =>
        rw [hb] at h1
        obtain ⟨al,l,c,hx,h2⟩:=onSlice_elim (onV_elim hA.fit (show onV f x _ from h1))
        obtain ⟨b,hvb,hst⟩:=onStr_elim h2
        have he:(C.ti e).d ≠ .other:=by intro e'; rw [e'] at hb; simp [isU8] at hb
        obtain ⟨_,de,_,_,hue,hde,_⟩:=(hC.okD he).get
        rw [← hde] at hb
        have hue':C.P.underlying e=some (.int .u8):=by
          cases de <;> simp [descSum,isU8] at hb
          rename_i kd
          cases kd <;> simp at hb
          exact hue
        have hr:(convert s t (.slice al l c)).run C.P w = .ok v w:=by
          rw [run_convert_bytes_string w s t e al l c hus hue' hut,bytesStr_to hst,mkStr_toList,hvb]
        have he2:execOp a.eval o=(do Pure.pure (.value (← convert s t (a.eval x)))):=by simp only [execOp,ho]
        rw [he2,hx,Sem.run_bind,hr]
        rfl
    | _=>rw [ho] at h1; exact h1.elim
theorem early_one {C:Ctx} (hC:CtxOk C) {full:List Oper} {n:Nat} (hdst:∀ o ∈ full,dstOk n o=true) {w0:World} {a0:Act} {i:Nat} {st:List Nat} {D:Nat→Bool} {K:Fr→Heap→Prop} {A:Act→World→Prop} {f:Fr} {a:Act} {w:World}
    (h:doX C full i st K f w.heap) (hA:Agr n a f) (hR:SameRest w0 w) (hM:Keeps (dstsOf full) a0 a)
    (hK:∀ f a w,K f w.heap→Agr n a f→SameRest w0 w→Keeps (dstsOf full) a0 a→A a w):Front C full i st D A a w:=by
    obtain ⟨o,ho,h1⟩:=onSome_elim (show onSome (full[i]?) _ from h)
    have hmem:=List.mem_of_getElem? ho
    have hd:=hdst o hmem
    have hmo:∀ d,o.dst=some d→d ∈ dstsOf full:=fun d hd=>mem_dstsOf hmem hd
    have h2:=wantX_elim hA h1
    refine ⟨o,ho,?_⟩
    cases hw:wantB full a o with
    | false =>
      rw [show Region.wanted o (yielded full.toArray a.tmps)=false from hw] at h2
      rw [if_neg (by simp)]
      exact hK _ _ _ h2 (hA.put hd undef) hR (hM.put hmo undef)
    | true =>
      rw [show Region.wanted o (yielded full.toArray a.tmps)=true from hw] at h2
      rw [if_pos rfl]
      have h2:stepX C f o.op o.type (fun v h'=>stills C full f h' st (splitX (guards full o) v fun v=>K (putD f o.dst v) h')) w.heap:=h2
      cases hq:isQ C o.op with
      | true =>
        rw [if_pos rfl]
        obtain ⟨v,r1,r2,r3⟩:=stepQ_to hC hA.fit o hq h2
        exact ⟨v,r1,r3,hK _ _ _ (splitX_elim (stills_elim hA r2).2) (hA.put hd v) hR (hM.put hmo v)⟩
      | false =>
        rw [if_neg (by simp)]
        refine (stepX_to hC hA.fit o h2).mono fun v w' ⟨hr,hk⟩=>?_
        obtain ⟨k1,k2⟩:=stills_elim hA hk
        exact ⟨fun j hj _ oj hoj hwj=>still_run hC hA (k1 j hj oj hoj hwj),hK _ _ _ (splitX_elim k2) (hA.put hd v) (hR.trans hr) (hM.put hmo v)⟩
theorem early_sw {C:Ctx} (hC:CtxOk C) {full:List Oper} {n:Nat} (hdst:∀ o ∈ full,dstOk n o=true) {w0:World} {a0:Act} {N:Fr→Heap→Prop} :
    ∀ (L:Od) (D:Nat→Bool) (f:Fr) (a:Act) (w:World),earlyX C full L N f w.heap→Agr n a f→SameRest w0 w→Keeps (dstsOf full) a0 a →
      SW C full L D (fun a w=>∃ f,N f w.heap∧Agr n a f∧SameRest w0 w∧Keeps (dstsOf full) a0 a) a w
  | .nil,D,f,a,w,h,hA,hR,hM=>⟨f,h,hA,hR,hM⟩
  | .op i st r,D,f,a,w,h,hA,hR,hM=>early_one hC hdst h hA hR hM fun f a w h hA hR hM=>early_sw hC hdst r _ f a w h hA hR hM
  | .alt i st r o,D,f,a,w,h,hA,hR,hM=>⟨early_one hC hdst h.1 hA hR hM fun f a w h hA hR hM=>early_sw hC hdst r _ f a w h hA hR hM,early_sw hC hdst o D f a w h.2 hA hR hM⟩
theorem drawnLaw {C:Ctx} (hC:CtxOk C) (n:Nat):DrawnLaw C n fun id full=>planB C full (C.orders id):=by
  intro ro id ops N R f a w0 w hplan hdst hnd h hA hR hN
  have hp:=planB_plan hplan
  refine wpIn_region_any hC.mixed ?_
  have hw:SameRest w0 { w with drawn:=w.drawn+1 }:=⟨hR.1,hR.2.1,hR.2.2⟩
  have hsw:=early_sw hC (full:=ops.toList) hdst (w0:=w0) (a0:=a) (N:=N) (C.orders id) (fun _=>false) f a { w with drawn:=w.drawn+1 } h hA hw (.refl _ _)
  have hlen:(Array.replicate ops.size false).size=ops.toList.length:=by simp
  have:=sw_any (ro:=ro) (n:=n) hnd hdst hp (Q:=R) (fun a w ⟨f,h1,h2,h3,h4⟩=>hN f a w h1 h2 h3 h4) ops.size (Array.replicate ops.size false) (C.orders id) (List.range ops.toList.length) (fun _=>false) a { w with drawn:=w.drawn+1 } hlen hp.ok (fun _ h=>h)
    (fun i hi=>by
      have hi':i<ops.size:=by simpa using hi
      constructor
      · exact fun _=>List.mem_range.2 hi
      · exact fun _=>by rw [Array.getD_eq_getD_getElem?]; simp [hi'])
    (fun i hi=>List.mem_range.1 hi)
    (fun i o ho hl=>by
      exfalso
      rw [Array.getD_eq_getD_getElem?] at hl
      by_cases hi:i<ops.size <;> simp [hi] at hl)
    (fun j oj hD=>by cases hD) hA.size ?_ hsw
  · simpa using this
  · simp
theorem argsF_dfs : ∀ (l:List Value) (i:Nat),i+l.length≤dKey→dfs (argsF l i)=[]
  | [],_,_=>rfl
  | x::r,i,h=>by
    rw [List.length_cons] at h
    rw [argsF,dfs_cons _ _ _ (Nat.ne_of_lt (Nat.lt_of_lt_of_le (by omega) h)),argsF_dfs r (i+1) (by omega)]
theorem argsF_get : ∀ (l:List Value) (i t:Nat) (v:Value),i+l.length≤dKey→Fr.get (argsF l i) t=some v→i≤t∧l[t - i]?=some v
  | [],_,t,_,_,h=>by rw [show argsF [] _=[] from rfl,Fr.get_nil] at h; cases h
  | x::r,i,t,v,hlim,h=>by
    rw [List.length_cons] at hlim
    rw [argsF,Fr.get_cons _ _ _ _ (Nat.ne_of_lt (Nat.lt_of_lt_of_le (by omega) hlim))] at h
    by_cases e:i=t
    · subst e; rw [if_pos rfl] at h; exact ⟨Nat.le_refl _,by simpa using h⟩
    · rw [if_neg e] at h
      obtain ⟨h1,h2⟩:=argsF_get r (i+1) t v (by omega) h
      refine ⟨by omega,?_⟩
      rw [show t - i=(t - (i+1))+1 by omega]
      simpa using h2
def resSem (a:Act):ResultVar→Sem Value
  | .tmp t=>Pure.pure (a.tmps.getD t undef)
  | .cell s t=>do loadVar t (← asAddr (a.tmps.getD s undef))
theorem resX_to {C:Ctx} (hC:CtxOk C) {n:Nat} {a:Act} {f:Fr} (hA:Agr n a f) {w:World}:∀ (rs:List ResultVar) (acc:List Value) (k:List Value→Prop),resX C rs f w.heap acc k →
    ∃ vs,(rs.mapM (resSem a)).run C.P w = .ok vs w∧k (acc++vs)
  | [],acc,k,h=>⟨[],rfl,by simpa [resX] using h⟩
  | .tmp t::r,acc,k,h=>by
    obtain ⟨v,hv,h1⟩:=onSome_elim (show onSome (Fr.get f t) _ from h)
    obtain ⟨vs,h2,h3⟩:=resX_to hC hA r _ k h1
    refine ⟨v::vs,?_,by simpa using h3⟩
    rw [List.mapM_cons]
    simp only [resSem,Sem.run_bind,Sem.run_pure,Result.andThen_ok,hA.val t v hv,h2]
  | .cell s t::r,acc,k,h=>by
    obtain ⟨v,hv,h1⟩:=onSome_elim (show onSome (Fr.get f s) _ from h)
    obtain ⟨q,hq,h2⟩:=onPtr_elim h1
    obtain ⟨p,hp,h3⟩:=onSome_elim h2
    obtain ⟨hx,h4⟩:=hC.okX h3
    obtain ⟨u,hr,h5⟩:=loadVar_to hx h4
    obtain ⟨vs,h6,h7⟩:=resX_to hC hA r _ k h5
    refine ⟨u::vs,?_,by simpa using h7⟩
    have hval:=hA.val s v hv
    rw [List.mapM_cons]
    simp only [resSem,Sem.run_bind,Sem.run_pure,Result.andThen_ok,hval,hq,hp,asAddr,hr,h6]
def fnOk (C:Ctx) (fn:Func) (c:Code) (nargs:Nat):Bool :=
  codeOk C fn.ntmps (fun id full => planB C full (C.orders id)) c && Nat.ble nargs fn.ntmps && !(fn.name == "runtime.NumGoroutine") && Nat.ble fn.ntmps dKey
theorem args_agr {m:Nat} {args:List Value} (hle:args.length≤m) (hlim:m≤dKey):Agr m { tmps:=⟨args⟩++Array.replicate (m - (⟨args⟩:Array Value).size) undef,defers:=[] } (argsF args 0):=by
  refine ⟨hlim,by simp; omega,by rw [argsF_dfs _ _ (by omega)]; rfl,fun t v hv=>?_⟩
  obtain ⟨_,h5⟩:=argsF_get args 0 t v (by omega) hv
  simp only [Nat.sub_zero] at h5
  have hlt:=(List.getElem?_eq_some_iff.1 h5).1
  rw [Array.getD_eq_getD_getElem?,Array.getElem?_append_left (by simpa using hlt)]
  simp [h5]
theorem results_to {C:Ctx} (hC:CtxOk C) {n:Nat} {fn:Func} {a:Act} {f:Fr} (hA:Agr n a f) {w:World} {k:Value→Prop} (h:resX C fn.results.toList f w.heap [] fun vs=>k (retV vs)):∃ v,(results fn a.tmps).run C.P w = .ok v w∧k v:=by
  obtain ⟨vs,g1,g2⟩:=resX_to hC hA _ _ _ h
  refine ⟨retV vs,?_,by simpa using g2⟩
  have hres:results fn a.tmps=(do let vs←fn.results.mapM (resSem a); Pure.pure (if h:vs.size=1 then vs[0] else .tuple vs)):=by
    unfold results
    congr 2
  rw [hres,Sem.run_bind,Array.mapM_eq_mapM_toList,Sem.run_map,g1]
  simp only [Result.andThen_ok,Sem.run_pure]
  congr 1
  cases vs with
  | nil=>rfl
  | cons v r=>cases r <;> rfl
theorem leaveX_to {C:Ctx} (hC:CtxOk C) {n:Nat} {fn:Func} {a:Act} {f:Fr} (hA:Agr n a f) {w0:World} {k:Value→Heap→Prop}:∀ (ds:List Value) (w:World),leaveX C fn.results.toList f k ds w.heap→SameRest w0 w →
    LeavesInM Fence.wide 0 C.P fn a.tmps (fun e w'=>∃ u,e = .returned u∧SameRest w0 w'∧k u w'.heap) (ds.map toD) .returning w
  | [],w,h,hR=>by
    obtain ⟨v,h1,h2⟩:=results_to hC hA (k:=fun v=>k v w.heap) h
    exact ⟨v,h1,v,rfl,hR,h2⟩
  | d::ds,w,h,hR=>by
    unfold leaveX at h
    split at h
    · rename_i e; cases e
    · rename_i a' ds' e
      cases e
      exact ⟨(fun x=>by cases x),.inl ⟨_,_,rfl,run_takeDeferred h.1,leaveX_to hC hA ds _ h.2 ⟨hR.1,hR.2.1,hR.2.2⟩⟩⟩
    · rename_i v us ds' e
      cases e
      unfold DCallsV at h
      split at h
      · rename_i g fs cs
        obtain ⟨⟨fn',hf',hn',hb'⟩,hc⟩:=h
        refine ⟨(fun x=>by cases x),.inr ⟨(fun x=>by cases x),.func g,cs,g,⟨fs.toList++us++cs.toList⟩,rfl,?_,fun _ _=>trivial,?_⟩⟩
        · show (callFunc g _).run C.P w=_
          simp only [callFunc,Sem.run_bind,run_program,Result.andThen_ok,hf',hn',hb',Bool.false_eq_true,if_false,Sem.run_pure]
          congr 2
          apply Array.ext'
          simp [toD]
        · refine (hc w rfl).mono fun e u w' ⟨hu,⟨v,he⟩,hsr,hk⟩=>?_
          subst hu
          subst he
          exact leaveX_to hC hA ds w' hk (hR.trans hsr)
      · exact h.elim
    · exact h.elim
theorem fn_to {C:Ctx} (hC:CtxOk C) {g:Nat} {fn:Func} (hf:C.P.funcs[g]?=some fn) {c:Code} (hb:fn.body=some c) {args:List Value} (hok:fnOk C fn c args.length=true) {k:Value→Heap→Prop} {h:Heap}
    (hx:fnX C fn c args k h):HCalls C.P g args h k:=by
  simp only [fnOk,Bool.and_eq_true,Bool.not_eq_true'] at hok
  obtain ⟨⟨⟨h1,h2⟩,h3⟩,h4⟩:=hok
  have hle:=Nat.le_of_ble_eq_true h2
  refine ⟨⟨fn,hf,h3,by rw [hb]; rfl⟩,fun w hw=>?_⟩
  subst hw
  refine (callsIn_wide (n:=0)).1 (callsIn_of_wp_marks hf hb trivial ?_)
  have leave:∀ (f:Fr) (a:Act) (w':World),leaveX C fn.results.toList f k (dfs f) w'.heap→Agr fn.ntmps a f→SameRest w w'→LeavesInM Fence.wide 0 C.P fn a.tmps (fun e w'=>∃ u,e = .returned u∧SameRest w w'∧k u w'.heap) a.defers .returning w':=by
    intro f a w' hr hA hR
    rw [hA.defers]
    exact leaveX_to hC hA (dfs f) w' hr hR
  exact wpx_to hC (drawnLaw hC fn.ntmps) c h1 none (.inl rfl) w _ _ _ _ _ w hx (args_agr hle (Nat.le_of_ble_eq_true h4)) (.refl _) ⟨fun f a w' hr hA hR _=>leave f a w' hr hA hR,fun id f a w' hr=>hr.elim,fun f a w' hr hA hR _=>leave f a w' hr hA hR,fun _ _ _ _ hr=>hr.elim⟩
end Go.Proofs.YtiapingedfnlnaaGreatDoor.Wx
namespace Go.Proofs.YtiapingedfnlnaaGreatDoor.Hp
open Go Go.Proofs Wx
def rd (h:Heap) (b:Nat):List Value :=
 match h[b]? with
 | some (.cells c _ _)=>c.toList
 | _=>[]
def Own (h:Heap) (b:Nat):Prop:=∃ c T f,h[b]?=some (.cells c T f)∧(f=(0,0)∨c.size≤f.1)
structure Fr (F:Nat→Prop) (h h':Heap):Prop where
 size:h.size≤h'.size
 same:∀ b,b<h.size→¬ F b→h'[b]?=h[b]?
def No : Nat→Prop:=fun _=>False
def From (n:Nat):Nat→Prop:=fun b=>n≤b
theorem Fr.rd {F:Nat→Prop} {h h':Heap} (f:Fr F h h') {b:Nat} (hb:b<h.size) (hF:¬ F b):rd h' b=rd h b:=by
 simp only [Hp.rd,f.same b hb hF]
theorem Fr.own {F:Nat→Prop} {h h':Heap} (f:Fr F h h') {b:Nat} (hb:b<h.size) (hF:¬ F b) (o:Own h b):Own h' b:=by
 obtain ⟨c,T,z,e,k⟩:=o; exact ⟨c,T,z,by rw [f.same b hb hF]; exact e,k⟩
theorem Fr.refl (F:Nat→Prop) (h:Heap):Fr F h h:=⟨Nat.le_refl _,fun _ _ _=>rfl⟩
theorem Fr.trans {F G:Nat→Prop} {h1 h2 h3:Heap} (f:Fr F h1 h2) (g:Fr G h2 h3) (hs:∀ b,b<h1.size→G b→F b):Fr F h1 h3 :=
 ⟨Nat.le_trans f.size g.size,fun b hb hF=>(g.same b (Nat.lt_of_lt_of_le hb f.size) (fun x=>hF (hs b hb x))).trans (f.same b hb hF)⟩
theorem Fr.no {F:Nat→Prop} {h1 h2 h3:Heap} (f:Fr F h1 h2) (g:Fr No h2 h3):Fr F h1 h3:=f.trans g fun _ _ x=>x.elim
theorem Fr.mono {F G:Nat→Prop} {h h':Heap} (f:Fr F h h') (hs:∀ b,b<h.size→F b→G b):Fr G h h' :=
 ⟨f.size,fun b hb hG=>f.same b hb fun x=>hG (hs b hb x)⟩
theorem Own.lt {h:Heap} {b:Nat} (o:Own h b):b<h.size:=by
 obtain ⟨c,T,z,e,_⟩:=o
 rcases Nat.lt_or_ge b h.size with hl|hl
 ·exact hl
 ·rw [Array.getElem?_eq_none hl] at e; exact absurd e (by simp)
theorem rd_lt {h:Heap} {b o:Nat} {v:Value} (e:(rd h b)[o]?=some v):b<h.size:=by
 rcases Nat.lt_or_ge b h.size with hl|hl
 ·exact hl
 ·simp only [rd,Array.getElem?_eq_none hl] at e; simp at e
theorem size_newO (h:Heap) (cs:List Value) (t:Nat):(newO h cs t).size=h.size+1:=by simp [newO]
theorem get_newO (h:Heap) (cs:List Value) (t b:Nat):(newO h cs t)[b]?=if b=h.size then some (.cells ⟨cs⟩ t) else h[b]?:=by
 simp [newO,Array.getElem?_push]
theorem rd_newO (h:Heap) (cs:List Value) (t b:Nat):rd (newO h cs t) b=if b=h.size then cs else rd h b:=by
 by_cases hb:b=h.size
 ·simp only [rd,get_newO,if_pos hb]
 ·simp only [rd,get_newO,if_neg hb]
theorem rd_newO_at (h:Heap) (cs:List Value) (t:Nat):rd (newO h cs t) h.size=cs:=by rw [rd_newO,if_pos rfl]
theorem own_newO_at (h:Heap) (cs:List Value) (t:Nat):Own (newO h cs t) h.size:=⟨_,_,_,by rw [get_newO,if_pos rfl],.inl rfl⟩
theorem Fr.newO {F:Nat→Prop} {h h':Heap} (f:Fr F h h') (cs:List Value) (t:Nat):Fr F h (newO h' cs t) :=
 ⟨by rw [size_newO]; have:=f.size; omega,fun b hb hF=>by rw [get_newO,if_neg (by have:=f.size; omega)]; exact f.same b hb hF⟩
theorem fr_newO {F:Nat→Prop} {h:Heap} (cs:List Value) (t:Nat):Fr F h (Wx.newO h cs t):=(Fr.refl F h).newO cs t
theorem size_setOf (h:Heap) (a:Addr) (v:Value):(setOf h a v).size=h.size:=by simp [setOf]
theorem get_setOf (h:Heap) (b o:Nat) (v:Value) (c:Nat):(setOf h ⟨b,o,none⟩ v)[c]?=if c=b then (h[c]?).map (fun x=>match x with | .cells cs e f => .cells (cs.setIfInBounds o v) e f|x=>x) else h[c]?:=by
 simp only [setOf,Array.getElem?_modify,Option.isSome_none,Bool.false_eq_true,if_false]
 by_cases hc:c=b
 ·subst hc; simp; rfl
 ·simp [hc,Ne.symm hc]
theorem rd_setOf (h:Heap) (b o:Nat) (v:Value) (c:Nat):rd (setOf h ⟨b,o,none⟩ v) c=if c=b then (rd h b).set o v else rd h c:=by
 simp only [rd,get_setOf]
 by_cases hc:c=b
 ·subst hc; simp only [if_pos]; cases h[c]? with
  | none=>simp
  | some x=>cases x <;> simp
 ·simp only [if_neg hc]
theorem rd_setOf_at (h:Heap) (b o:Nat) (v:Value):rd (setOf h ⟨b,o,none⟩ v) b=(rd h b).set o v:=by rw [rd_setOf,if_pos rfl]
theorem own_setOf {h:Heap} {b o:Nat} {v:Value} {c:Nat} (w:Own h c):Own (setOf h ⟨b,o,none⟩ v) c:=by
 obtain ⟨cs,T,z,e,k⟩:=w
 by_cases hc:c=b
 ·exact ⟨cs.setIfInBounds o v,T,z,by rw [get_setOf,if_pos hc,e]; rfl,by rw [Array.size_setIfInBounds]; exact k⟩
 ·exact ⟨cs,T,z,by rw [get_setOf,if_neg hc]; exact e,k⟩
theorem Fr.setOf {F:Nat→Prop} {h h':Heap} (f:Fr F h h') {b o:Nat} {v:Value} (hb:F b∨h.size≤b):Fr F h (setOf h' ⟨b,o,none⟩ v) :=
 ⟨by rw [size_setOf]; exact f.size,fun c hc hF=>by
  rw [get_setOf,if_neg (by rintro rfl; rcases hb with hb|hb; exact hF hb; omega)]; exact f.same c hc hF⟩
def put (xs:List Value) (o:Nat):List Value→List Value
 | []=>xs
 | v::r=>put (xs.set o v) (o+1) r
theorem put_length (cs:List Value):∀ (xs:List Value) (o:Nat),(put xs o cs).length=xs.length:=by
 induction cs with
 | nil=>intros; rfl
 | cons v r ih=>intro xs o; simp [put,ih]
theorem put_get (cs:List Value):∀ (xs:List Value) (o i:Nat),o+cs.length≤xs.length→(put xs o cs)[i]?=if o≤i∧i<o+cs.length then cs[i - o]? else xs[i]?:=by
 induction cs with
 | nil=>intro xs o i h; rw [if_neg (by rw [List.length_nil]; omega)]; rfl
 | cons v r ih =>
  intro xs o i h
  simp only [List.length_cons] at h
  simp only [put]
  rw [ih (xs.set o v) (o+1) i (by simp; omega)]
  by_cases h1:i=o
  ·subst h1
   rw [if_neg (by omega),if_pos ⟨Nat.le_refl _,by rw [List.length_cons]; omega⟩,List.getElem?_set,if_pos rfl,if_pos (by omega),Nat.sub_self]; rfl
  ·by_cases h2:o+1≤i∧i<o+1+r.length
   ·rw [if_pos h2,if_pos ⟨by omega,by rw [List.length_cons]; omega⟩]
    obtain ⟨j,rfl⟩:∃ j,i=o+1+j:=⟨i - (o+1),by omega⟩
    rw [show o+1+j - o=j+1 by omega,show o+1+j - (o+1)=j by omega]; rfl
   ·rw [if_neg h2,if_neg (by simp only [List.length_cons]; omega),List.getElem?_set_ne (by omega)]
theorem put_eq (cs xs:List Value) (o:Nat) (h:o+cs.length≤xs.length):put xs o cs=xs.take o++cs++xs.drop (o+cs.length):=by
 apply List.ext_getElem?
 intro i
 rw [put_get _ _ _ _ h]
 by_cases h1:i<o
 ·rw [if_neg (by omega),List.append_assoc,List.getElem?_append_left (by rw [List.length_take]; omega),List.getElem?_take_of_lt h1]
 ·by_cases h2:i<o+cs.length
  ·rw [if_pos ⟨by omega,h2⟩,List.getElem?_append_left (by simp; omega),List.getElem?_append_right (by rw [List.length_take]; omega),List.length_take,Nat.min_eq_left (by omega)]
  ·rw [if_neg (by omega),List.getElem?_append_right (by simp; omega),List.getElem?_drop]
   congr 1; simp; omega
theorem put_all (cs xs:List Value) (h:cs.length=xs.length):put xs 0 cs=cs:=by rw [put_eq _ _ _ (by omega)]; simp [h]
theorem add_mk (b o n:Nat):Addr.add ⟨b,o,none⟩ n=⟨b,o+n,none⟩:=by
 by_cases hn:n=0
 ·subst hn; rfl
 ·simp [Addr.add,hn]
theorem size_setRow (a:Addr):∀ (cs:List Value) (h:Heap) (i:Nat),(setRow h a cs i).size=h.size:=by
 intro cs; induction cs with
 | nil=>intros; rfl
 | cons v r ih=>intro h i; simp only [setRow,ih,size_setOf]
theorem rd_setRow (b o:Nat):∀ (cs:List Value) (h:Heap) (i c:Nat),rd (setRow h ⟨b,o,none⟩ cs i) c=if c=b then put (rd h b) (o+i) cs else rd h c:=by
 intro cs; induction cs with
 | nil=>intro h i c; simp only [setRow,put]; split <;> simp_all
 | cons v r ih =>
  intro h i c
  simp only [setRow,add_mk,ih,rd_setOf,put]
  by_cases hc:c=b
  ·subst hc; simp [Nat.add_assoc]
  ·simp [hc]
theorem rd_setRow_at (b o:Nat) (cs:List Value) (h:Heap) (i:Nat):rd (setRow h ⟨b,o,none⟩ cs i) b=put (rd h b) (o+i) cs:=by rw [rd_setRow,if_pos rfl]
theorem own_setRow {b o c:Nat}:∀ {cs:List Value} {h:Heap} {i:Nat},Own h c→Own (setRow h ⟨b,o,none⟩ cs i) c:=by
 intro cs; induction cs with
 | nil=>intro h i w; exact w
 | cons v r ih=>intro h i w; simp only [setRow,add_mk]; exact ih (own_setOf w)
theorem Fr.setRow {F:Nat→Prop} {h:Heap} {b o:Nat} (hb:F b∨h.size≤b):∀ {cs:List Value} {h':Heap} {i:Nat},Fr F h h'→Fr F h (setRow h' ⟨b,o,none⟩ cs i):=by
 intro cs; induction cs with
 | nil=>intro h' i f; exact f
 | cons v r ih=>intro h' i f; simp only [Wx.setRow,add_mk]; exact ih (f.setOf hb)
theorem cellOf_rd (h:Heap) (b o:Nat):cellOf h ⟨b,o,none⟩=(rd h b)[o]?:=by
 simp only [cellOf,rd]; cases h[b]? with
 | none=>simp
 | some x=>cases x <;> simp
theorem cellOf_some {h:Heap} {a:Addr} {v:Value} (e:cellOf h a=some v):a.spot=none∧(rd h a.block)[a.off]?=some v:=by
 obtain ⟨b,o,s⟩:=a
 cases s with
 | none=>exact ⟨rfl,by rw [cellOf_rd] at e; exact e⟩
 | some s =>
  exfalso; revert e
  simp only [cellOf]; cases h[b]? with
  | none=>simp
  | some x=>cases x <;> simp
theorem wr_rd {h:Heap} {b o:Nat} (w:Own h b) (hl:o<(rd h b).length):Wr h ⟨b,o,none⟩:=by
 refine ⟨⟨(rd h b)[o],by rw [cellOf_rd]; simp [hl]⟩,?_⟩
 obtain ⟨c,T,z,e,k⟩:=w
 have hc:o<c.size:=by simpa [rd,e] using hl
 rcases k with rfl|k
 ·simp [frozenOf,e]
 ·obtain ⟨lo,hi⟩:=z
  have k:c.size≤lo:=k
  simp [frozenOf,e]; omega
theorem wrN_rd {h:Heap} {b o n:Nat} (w:Own h b) (hl:o+n≤(rd h b).length):WrN h ⟨b,o,none⟩ n:=by
 intro i hi; rw [add_mk]; exact wr_rd w (by omega)
theorem stRow_rd {h:Heap} {b o:Nat} {cs:List Value} {n:Nat} (w:Own h b) (hn:cs.length=n) (h1:∀ v ∈ cs,v.oneCell'=true) (hl:o+n≤(rd h b).length):StRow h ⟨b,o,none⟩ cs n :=
 ⟨hn,h1,wrN_rd w hl⟩
theorem cells_rd {h:Heap} {b o:Nat} {xs:List Value} (e:((rd h b).drop o).take xs.length=xs):Cells h ⟨b,o,none⟩ xs:=by
 intro i v hv
 rw [add_mk,cellOf_rd]
 rw [← e,List.getElem?_take] at hv
 split at hv
 ·rw [List.getElem?_drop] at hv; exact hv
 ·exact absurd hv (by simp)
theorem Cells.fr {F:Nat→Prop} {h h':Heap} (f:Fr F h h') {a:Addr} {xs:List Value} (c:Cells h a xs) (hF:¬ F a.block):Cells h' a xs:=by
 intro i v hv
 have e:=c i v hv
 obtain ⟨h1,h2⟩:=cellOf_some e
 have hb:(a.add i).block=a.block:=by unfold Addr.add; split <;> rfl
 have hl:=rd_lt h2
 rw [hb] at hl
 have:cellOf h' (a.add i)=cellOf h (a.add i):=by simp only [cellOf,hb,f.same _ hl hF]
 rw [this]; exact e
theorem SlCells.fr {F:Nat→Prop} {h h':Heap} (f:Fr F h h') {a:Option Addr} {xs:List Value} (c:SlCells h a xs) (hF:∀ p,a=some p→¬ F p.block):SlCells h' a xs:=by
 cases a with
 | none=>exact c
 | some p=>exact Cells.fr f c (hF p rfl)
theorem StrAt.fr {F:Nat→Prop} {h h':Heap} (f:Fr F h h') {a:Option Addr} {l:Nat} {bs:List UInt8} (c:StrAt h a l bs) (hF:∀ p,a=some p→¬ F p.block):StrAt h' a l bs :=
 ⟨c.1,SlCells.fr f c.2 hF⟩
theorem Cells.take {h:Heap} {a:Addr} {xs:List Value} (c:Cells h a xs) (n:Nat):Cells h a (xs.take n):=by
 intro i v hv; rw [List.getElem?_take] at hv; split at hv
 ·exact c i v hv
 ·exact absurd hv (by simp)
theorem Cells.nil (h:Heap) (a:Addr):Cells h a []:=by intro i v hv; simp at hv
theorem Cells.drop {h:Heap} {a:Addr} {xs:List Value} (c:Cells h a xs) (n:Nat):Cells h (a.add n) (xs.drop n):=by
 intro i v hv
 rw [List.getElem?_drop] at hv
 have:=c (n+i) v hv
 by_cases hi:i=0
 ·subst hi; rw [Addr.add_zero]; exact this
 ·by_cases hn:n=0
  ·subst hn; rw [Addr.add_zero]; simpa using this
  ·rw [Addr.add_add]; exact this
theorem SlCells.take {h:Heap} {a:Option Addr} {xs:List Value} (c:SlCells h a xs) (n:Nat):SlCells h a (xs.take n):=by
 cases a with
 | none=>have c:xs=[]:=c; subst c; simp [SlCells]
 | some p=>exact Cells.take c n
theorem SlCells.drop {h:Heap} {a:Option Addr} {xs:List Value} (c:SlCells h a xs) (n:Nat):SlCells h (a.map (·.add n)) (xs.drop n):=by
 cases a with
 | none=>have c:xs=[]:=c; subst c; simp [SlCells]
 | some p=>exact Cells.drop c n
theorem StrAt.take {h:Heap} {a:Option Addr} {l:Nat} {bs:List UInt8} (c:StrAt h a l bs) {n:Nat} (hn:n≤l):StrAt h a n (bs.take n) :=
 ⟨by rw [List.length_take,c.1]; omega,by rw [List.map_take]; exact SlCells.take c.2 n⟩
theorem StrAt.drop {h:Heap} {a:Option Addr} {l:Nat} {bs:List UInt8} (c:StrAt h a l bs) (n:Nat):StrAt h (a.map (·.add n)) (l - n) (bs.drop n) :=
 ⟨by rw [List.length_drop,c.1],by rw [List.map_drop]; exact SlCells.drop c.2 n⟩
theorem StrAt.nil (h:Heap) (a:Option Addr):StrAt h a 0 []:=⟨rfl,by cases a with|none=>rfl|some p=>exact Cells.nil h p⟩
theorem bv_one (bs:List UInt8):∀ v ∈ bs.map bv,v.oneCell'=true:=by
 intro v hv; obtain ⟨b,_,rfl⟩:=List.mem_map.mp hv; rfl
theorem toList_mkStr (bs:List UInt8):ByteArray.toList (mkStr bs)=bs:=by
 rw [mkStr,show (⟨⟨bs⟩⟩:ByteArray)=⟨bs.toArray⟩ from rfl]
 simp
end Go.Proofs.YtiapingedfnlnaaGreatDoor.Hp
namespace Go.Proofs.YtiapingedfnlnaaGreatDoor.Hp
open Go Go.Proofs Wx
theorem wrap_i64 {n:Int} (h1 : -9223372036854775808≤n) (h2:n≤9223372036854775807):IntKind.wrap .i64 n=n:=by
 simp only [IntKind.wrap,IntKind.bits,IntKind.signed,Bool.true_and,ge_iff_le,decide_eq_true_eq,Nat.reduceSub,Int.reducePow]
 split <;> omega
theorem wrap_u8 {n:Int} (h1:0≤n) (h2:n≤255):IntKind.wrap .u8 n=n:=by
 simp only [IntKind.wrap,IntKind.bits,IntKind.signed,Bool.false_and,Bool.false_eq_true,if_false,Int.reducePow]
 omega
def Sl (h:Heap) (ec:Nat) (a:Option Addr) (l c:Nat) (xs:List Value) (F:Nat→Prop):Prop :=
 xs.length=l*ec∧match a with
  | none=>l=0∧c=0
  | some p=>p.spot=none∧F p.block∧Own h p.block∧l≤c∧((rd h p.block).drop p.off).take xs.length=xs∧p.off+c*ec≤(rd h p.block).length
theorem Sl.nil (h:Heap) (ec:Nat) (F:Nat→Prop):Sl h ec none 0 0 [] F:=⟨by simp,rfl,rfl⟩
theorem Sl.mono {h:Heap} {ec:Nat} {a:Option Addr} {l c:Nat} {xs:List Value} {F G:Nat→Prop} (s:Sl h ec a l c xs F) (hs:∀ b,F b→G b):Sl h ec a l c xs G:=by
 obtain ⟨h1,h2⟩:=s
 refine ⟨h1,?_⟩
 cases a with
 | none=>exact h2
 | some p=>obtain ⟨a1,a2,a3⟩:=h2; exact ⟨a1,hs _ a2,a3⟩
theorem Sl.fr {h h':Heap} {ec:Nat} {a:Option Addr} {l c:Nat} {xs:List Value} {F G:Nat→Prop} (f:Fr G h h') (s:Sl h ec a l c xs F) (hs:∀ b,b<h.size→F b→¬ G b):Sl h' ec a l c xs F:=by
 obtain ⟨h1,h2⟩:=s
 refine ⟨h1,?_⟩
 cases a with
 | none=>exact h2
 | some p =>
  obtain ⟨a1,a2,a3,a4,a5,a6⟩:=h2
  have hG:=hs _ a3.lt a2
  refine ⟨a1,a2,f.own a3.lt hG a3,a4,?_,?_⟩
  ·rw [f.rd a3.lt hG]; exact a5
  ·rw [f.rd a3.lt hG]; exact a6
theorem Sl.cells {h:Heap} {ec:Nat} {a:Option Addr} {l c:Nat} {xs:List Value} {F:Nat→Prop} (s:Sl h ec a l c xs F):SlCells h a xs:=by
 obtain ⟨h1,h2⟩:=s
 cases a with
 | none=>obtain ⟨rfl,_⟩:=h2; rw [Nat.zero_mul] at h1; exact List.length_eq_zero_iff.mp h1
 | some p =>
  obtain ⟨b,o,s⟩:=p
  obtain ⟨a1,a2,a3,a4,a5,a6⟩:=h2
  have a1:s=none:=a1
  subst a1
  exact cells_rd a5
theorem Sl.str {h:Heap} {a:Option Addr} {l c:Nat} {bs:List UInt8} {F:Nat→Prop} (s:Sl h 1 a l c (bs.map bv) F):StrAt h a l bs :=
 ⟨by have:=s.1; rw [List.length_map] at this; omega,s.cells⟩
theorem Sl.le {h:Heap} {ec:Nat} {a:Option Addr} {l c:Nat} {xs:List Value} {F:Nat→Prop} (s:Sl h ec a l c xs F):l≤c:=by
 obtain ⟨_,h2⟩:=s
 cases a with
 | none=>omega
 | some p=>exact h2.2.2.2.1
theorem Sl.new (h:Heap) (ec t l c:Nat) (xs zs:List Value) (F:Nat→Prop) (hF:F h.size) (hx:xs.length=l*ec) (hl:l≤c) (hz:zs.length=(c - l)*ec) :
  Sl (newO h (xs++zs) t) ec (some ⟨h.size,0,none⟩) l c xs F:=by
 refine ⟨hx,rfl,hF,own_newO_at _ _ _,hl,?_,?_⟩
 ·simp only [rd_newO_at,List.drop_zero,List.take_left]
 ·simp only [rd_newO_at,List.length_append,hx,hz,Nat.zero_add]
  rw [← Nat.add_mul]; exact Nat.mul_le_mul_right _ (by omega)
theorem take_put (X new:List Value) (o m:Nat) (h:o+m+new.length≤X.length):((put X (o+m) new).drop o).take (m+new.length)=(X.drop o).take m++new:=by
 apply List.ext_getElem?
 intro i
 rw [List.getElem?_take]
 have hl:((X.drop o).take m).length=m:=by rw [List.length_take,List.length_drop]; omega
 by_cases h1:i<m
 ·rw [if_pos (by omega),List.getElem?_append_left (by omega),List.getElem?_drop,put_get _ _ _ _ h,if_neg (by omega),List.getElem?_take,if_pos h1,List.getElem?_drop]
 ·by_cases h2:i<m+new.length
  ·rw [if_pos h2,List.getElem?_append_right (by omega),hl,List.getElem?_drop,put_get _ _ _ _ h,if_pos (by omega)]
   congr 1; omega
  ·rw [if_neg h2,List.getElem?_eq_none (by rw [List.length_append]; omega)]
theorem append_own {elem:TI} {e:Nat} {a:Option Addr} {l c n:Nat} {xs new:List Value} {h:Heap} {F:Nat→Prop} {k:Option Addr→Nat→Nat→Heap→Prop}
  (s:Sl h elem.cells a l c xs F) (hn:new.length=n*elem.cells) (hz:elem.zero.length=elem.cells) (hb:(l+n)*elem.bytes≤140737488355328) (hb':l+n≤140737488355328)
  (hk:∀ a' c' h',Fr F h h'→Sl h' elem.cells a' (l+n) c' (xs++new) (fun b=>F b∨h.size≤b)→k a' (l+n) c' h') :
  AppendP elem e a l c n new h k:=by
 refine ⟨xs,s.1,s.cells,hb,hb',fun hc=>?_,fun hc cap hcap=>?_⟩
 ·obtain ⟨h1,h2⟩:=s
  cases a with
  | none =>
   obtain ⟨rfl,rfl⟩:=h2
   have:n=0:=by omega
   subst this
   rw [Nat.zero_mul] at hn h1
   have e1:=List.length_eq_zero_iff.mp hn
   have e2:=List.length_eq_zero_iff.mp h1
   subst e1; subst e2
   exact ⟨by simp [WrS],hk none 0 _ (Fr.refl _ _) (Sl.nil _ _ _)⟩
  | some p =>
   obtain ⟨b,o,sp⟩:=p
   obtain ⟨a1,a2,a3,a4,a5,a6⟩:=h2
   have a1:sp=none:=a1
   subst a1
   simp only at a2 a3 a5 a6
   have hm:(l+n)*elem.cells≤c*elem.cells:=Nat.mul_le_mul_right _ hc
   rw [Nat.add_mul] at hm
   refine ⟨?_,hk (some ⟨b,o,none⟩) c _ ?_ ?_⟩
   ·simp only [WrS,add_mk]; exact wrN_rd a3 (by omega)
   ·simp only [setS,add_mk]; exact (Fr.refl F h).setRow (Or.inl a2)
   ·simp only [setS,add_mk]
    refine ⟨by rw [List.length_append,h1,hn,Nat.add_mul],rfl,Or.inl a2,own_setRow a3,hc,?_,?_⟩
    ·simp only [rd_setRow_at,Nat.add_zero,List.length_append,← h1] at a5 ⊢
     rw [take_put _ _ _ _ (by rw [h1]; omega),a5]
    ·simp only [rd_setRow_at,put_length]; exact a6
 ·have hf:Fr F h (newO h (xs++new++repCells elem.zero (cap - (l+n))) e):=fr_newO _ _
  refine hk _ _ _ hf (Sl.new h elem.cells e (l+n) cap (xs++new) _ _ (Or.inr (Nat.le_refl _)) (by rw [List.length_append,s.1,hn,Nat.add_mul]) hcap ?_)
  rw [length_repCells,hz]
theorem StrAt.src {h:Heap} {a:Option Addr} {l:Nat} {bs:List UInt8} (c:StrAt h a l bs):(bs.map bv).length=l*1∧SlCells h a (bs.map bv)∧∀ v ∈ bs.map bv,v.oneCell'=true :=
 ⟨by rw [List.length_map,c.1,Nat.mul_one],c.2,bv_one bs⟩
end Go.Proofs.YtiapingedfnlnaaGreatDoor.Hp
namespace Go.Proofs.YtiapingedfnlnaaGreatDoor.Wx
open Go
def New (cs:List Value) (t:Nat) (h:Heap) (k:Heap→Prop):Prop:=k (newO h cs t)
def NewRow (z:List Value) (t:Nat) (cs:List Value) (n:Nat) (h:Heap) (k:Heap→Prop):Prop :=
  StRow (newO h z t) ⟨h.size,0,none⟩ cs n∧k (setRow (newO h z t) ⟨h.size,0,none⟩ cs 0)
def NewS (s:ByteArray) (t:Nat) (h:Heap) (k:Nat→Heap→Prop):Prop:=∀ cap:Nat,s.size≤cap→k cap (newS h (s.toList.map bv++List.replicate (cap - s.size) (bv 0)) t)
def NewM (h:Heap) (k:Heap→Prop):Prop:=k (newM h)
def NewI (s:ByteArray) (h:Heap) (k:Heap→Prop):Prop:=k (newI h s)
def Put (p:Addr) (v:Value) (h:Heap) (k:Heap→Prop):Prop:=Wr h p∧k (setOf h p v)
def PutRow (p:Addr) (cs:List Value) (n:Nat) (h:Heap) (k:Heap→Prop):Prop:=StRow h p cs n∧k (setRow h p cs 0)
def SetL (h:Heap) (l:Nat) (R:Loop) (st:LoopState) (p:Option Code) (k:Heap→Prop):Prop:=k (setLoop h l R st p)
def EndD (b:Nat) (h:Heap) (k:Heap→Prop):Prop:=h[b]?=some (.deferred (some []))∧k (endD h b)
end Go.Proofs.YtiapingedfnlnaaGreatDoor.Wx
namespace Go.Proofs.YtiapingedfnlnaaGreatDoor.Hp
open Go Go.Proofs Wx
def On (col:Nat→Nat) (k:Nat):Nat→Prop:=fun b=>col b=k
def upd (col:Nat→Nat) (n k:Nat):Nat→Nat:=fun b=>if b<n then col b else k
def Ag (n:Nat) (col col':Nat→Nat):Prop:=∀ b,b<n→col' b=col b
def Free (h:Heap) (col:Nat→Nat) (m:Nat):Prop:=∀ b,b<h.size→m≤col b→col b≤m+5→False
theorem Free.new {h:Heap} {col col':Nat→Nat} {m b:Nat} (f:Free h col m) (g:Ag h.size col col') (h1:m≤col' b) (h2:col' b≤m+5):h.size≤b:=by
 rcases Nat.lt_or_ge b h.size with hb|hb
 ·rw [g b hb] at h1 h2; exact (f b hb h1 h2).elim
 ·exact hb
theorem ag_upd (col:Nat→Nat) (n k:Nat):Ag n col (upd col n k):=fun b hb=>if_pos hb
theorem upd_ge {col:Nat→Nat} {n k b:Nat} (h:n≤b):upd col n k b=k:=if_neg (by omega)
theorem upd_lt {col:Nat→Nat} {n k b:Nat} (h:b<n):upd col n k b=col b:=if_pos h
theorem Ag.refl (n:Nat) (col:Nat→Nat):Ag n col col:=fun _ _=>rfl
theorem Ag.trans {m n:Nat} {c1 c2 c3:Nat→Nat} (f:Ag m c1 c2) (g:Ag n c2 c3) (h:m≤n):Ag m c1 c3:=fun b hb=>(g b (by omega)).trans (f b hb)
theorem Sl.lt {h:Heap} {ec l c:Nat} {p:Addr} {xs:List Value} {F:Nat→Prop} (s:Sl h ec (some p) l c xs F):p.block<h.size:=s.2.2.2.1.lt
theorem Sl.keep {h h':Heap} {ec l c k:Nat} {a:Option Addr} {xs:List Value} {F:Nat→Prop} {col col':Nat→Nat} (s:Sl h ec a l c xs (On col k)) (f:Fr F h h') (g:Ag h.size col col') (hF:∀ b,col b=k→¬ F b):Sl h' ec a l c xs (On col' k):=by
 have s':=Sl.fr f s (fun b _ hb=>hF b hb)
 obtain ⟨h1,h2⟩:=s'
 refine ⟨h1,?_⟩
 cases a with
 | none=>exact h2
 | some p=>obtain ⟨a1,a2,a3,a4⟩:=h2; exact ⟨a1,(g _ s.lt).trans a2,a3,a4⟩
theorem Sl.get {h:Heap} {ec l c:Nat} {a:Option Addr} {xs:List Value} {F:Nat→Prop} (s:Sl h ec a l c xs F) (hl:0<l):∃ p,a=some p∧Cells h p xs:=by
 cases a with
 | none=>exact absurd s.2.1 (by omega)
 | some p=>exact ⟨p,rfl,s.cells⟩
theorem flat_part {α:Type} (f:α→List Value) (w:Nat):∀ (xs:List α),(∀ x ∈ xs,(f x).length=w)→∀ (i:Nat) (hi:i<xs.length),((xs.flatMap f).drop (i*w)).take w=f xs[i]:=by
 intro xs
 induction xs with
 | nil=>intro _ i hi; exact absurd hi (by simp)
 | cons x r ih =>
  intro hw i hi
  have hx:=hw x (List.mem_cons_self ..)
  rw [List.flatMap_cons]
  cases i with
  | zero=>rw [Nat.zero_mul,List.drop_zero,← hx,List.take_left]; rfl
  | succ i =>
   rw [Nat.add_mul,Nat.one_mul,Nat.add_comm,← List.drop_drop,← hx,List.drop_left,hx]
   exact ih (fun y hy=>hw y (List.mem_cons_of_mem _ hy)) i (by simpa using hi)
theorem flat_length {α:Type} (f:α→List Value) (w:Nat):∀ (xs:List α),(∀ x ∈ xs,(f x).length=w)→(xs.flatMap f).length=xs.length*w:=by
 intro xs
 induction xs with
 | nil=>intro _; simp
 | cons x r ih =>
  intro hw
  rw [List.flatMap_cons,List.length_append,ih (fun y hy=>hw y (List.mem_cons_of_mem _ hy)),hw x (List.mem_cons_self ..),List.length_cons,Nat.add_mul]; omega
theorem Cells.part {h:Heap} {p:Addr} {xs:List Value} (c:Cells h p xs) (o n:Nat):Cells h (p.add o) ((xs.drop o).take n):=Cells.take (Cells.drop c o) n
theorem put_part {α:Type} (f:α→List Value) (w:Nat) (xs:List α) (hw:∀ x ∈ xs,(f x).length=w) (i:Nat) (hi:i<xs.length) (y:α) (hy:(f y).length=w) :
  put (xs.flatMap f) (i*w) (f y)=(xs.set i y).flatMap f:=by
 have hl:=flat_length f w xs hw
 have hm:(i+1)*w≤xs.length*w:=Nat.mul_le_mul_right _ hi
 rw [Nat.add_mul,Nat.one_mul] at hm
 rw [put_eq _ _ _ (by omega),hy]
 have h1:(xs.flatMap f).take (i*w)=(xs.take i).flatMap f:=by
  conv=>lhs; rw [← List.take_append_drop i xs,List.flatMap_append]
  rw [List.take_append_of_le_length]
  ·rw [List.take_of_length_le]
   rw [flat_length f w _ (fun x hx=>hw x (List.mem_of_mem_take hx)),List.length_take]
   exact Nat.mul_le_mul_right _ (by omega)
  ·rw [flat_length f w _ (fun x hx=>hw x (List.mem_of_mem_take hx)),List.length_take,Nat.min_eq_left (by omega)]; exact Nat.le_refl _
 have h2:(xs.flatMap f).drop (i*w+w)=(xs.drop (i+1)).flatMap f:=by
  conv=>lhs; rw [← List.take_append_drop (i+1) xs,List.flatMap_append]
  have:((xs.take (i+1)).flatMap f).length=i*w+w:=by
   rw [flat_length f w _ (fun x hx=>hw x (List.mem_of_mem_take hx)),List.length_take,Nat.min_eq_left (by omega),Nat.add_mul,Nat.one_mul]
  rw [← this,List.drop_left]
 rw [h1,h2,List.set_eq_take_append_cons_drop,if_pos hi,List.flatMap_append,List.flatMap_cons,List.append_assoc]
end Go.Proofs.YtiapingedfnlnaaGreatDoor.Hp
namespace Go.Proofs.YtiapingedfnlnaaGreatDoor.Hp
open Go Go.Proofs Wx
theorem one2 {a b:Value} (ha:a.oneCell'=true) (hb:b.oneCell'=true):∀ v ∈ [a,b],v.oneCell'=true:=by
 intro v hv; rcases List.mem_cons.mp hv with rfl|hv
 ·exact ha
 ·rw [List.mem_singleton.mp hv]; exact hb
theorem os {α:Type} {a:α} {k:α→Prop} (h:k a):onSome (some a) k:=h
theorem ct {c:Bool} {A B:Prop} (h:c=true) (a:A):bif c then A else B:=by subst h; exact a
theorem cf {c:Bool} {A B:Prop} (h:c=false) (b:B):bif c then A else B:=by subst h; exact b
theorem cs {c:Bool} {A B:Prop} (a:c=true→A) (b:c=false→B):bif c then A else B:=by
 cases c
 ·exact b rfl
 ·exact a rfl
theorem cd {p:Prop} [Decidable p] {A B:Prop} (a:p→A) (b:¬ p→B):bif decide p then A else B:=by
 by_cases h:p
 ·rw [decide_eq_true h]; exact a h
 ·rw [decide_eq_false h]; exact b h
theorem ce {x y:Int} {A B:Prop} (a:x=y→A) (b:x≠y→B):bif x == y then A else B:=by
 by_cases h:x=y
 ·exact ct (by simpa using h) (a h)
 ·exact cf (by simpa using h) (b h)
theorem cn {x y:Int} {A B:Prop} (a:x≠y→A) (b:x=y→B):bif x != y then A else B:=by
 by_cases h:x=y
 ·exact cf (by simpa using h) (b h)
 ·exact ct (by simpa using h) (a h)
theorem cnot {c:Bool} {A B:Prop} (h:bif c then B else A):bif !c then A else B:=by cases c <;> exact h
structure Newly (h h':Heap) (cs:List Value):Prop where
 size:h'.size=h.size+1
 fr:Fr No h h'
 own:Own h' h.size
 rd:rd h' h.size=cs
theorem New.intro {cs:List Value} {t:Nat} {h:Heap} {k:Heap→Prop} (H:∀ h',Newly h h' cs→k h'):New cs t h k :=
 H _ ⟨size_newO _ _ _,fr_newO _ _,own_newO_at _ _ _,rd_newO_at _ _ _⟩
theorem NewRow.intro {z:List Value} {t:Nat} {cs:List Value} {n:Nat} {h:Heap} {k:Heap→Prop} (hl:cs.length=n) (h1:∀ v ∈ cs,v.oneCell'=true) (hz:z.length=n)
  (H:∀ h',Newly h h' cs→k h'):NewRow z t cs n h k :=
 ⟨stRow_rd (own_newO_at _ _ _) hl h1 (by rw [rd_newO_at,hz]; omega),
  H _ ⟨by rw [size_setRow,size_newO],Fr.setRow (Or.inr (Nat.le_refl _)) (fr_newO _ _),own_setRow (own_newO_at _ _ _),by rw [rd_setRow_at,rd_newO_at,Nat.zero_add,put_all _ _ (by rw [hl,hz])]⟩⟩
structure Did (b:Nat) (h h':Heap) (cs:List Value):Prop where
 size:h'.size=h.size
 fr:Fr (fun x=>x=b) h h'
 own:Own h' b
 rd:Hp.rd h' b=cs
theorem Put.intro {b o:Nat} {v:Value} {h:Heap} {k:Heap→Prop} (w:Own h b) (hl:o<(rd h b).length) (H:∀ h',Did b h h' ((rd h b).set o v)→k h'):Put ⟨b,o,none⟩ v h k :=
 ⟨wr_rd w hl,H _ ⟨size_setOf _ _ _,(Fr.refl _ h).setOf (Or.inl rfl),own_setOf w,rd_setOf_at _ _ _ _⟩⟩
theorem Put.add {b o n:Nat} {v:Value} {h:Heap} {k:Heap→Prop} (w:Own h b) (hl:o+n<(rd h b).length) (H:∀ h',Did b h h' ((rd h b).set (o+n) v)→k h'):Put (Addr.add ⟨b,o,none⟩ n) v h k:=by
 rw [add_mk]; exact Put.intro w hl H
theorem PutRow.intro {b o n:Nat} {cs:List Value} {h:Heap} {k:Heap→Prop} (w:Own h b) (hn:cs.length=n) (h1:∀ v ∈ cs,v.oneCell'=true) (hl:o+n≤(rd h b).length)
  (H:∀ h',Did b h h' (put (rd h b) o cs)→k h'):PutRow ⟨b,o,none⟩ cs n h k :=
 ⟨stRow_rd w hn h1 hl,H _ ⟨size_setRow _ _ _ _,Fr.setRow (F:=fun x=>x=b) (Or.inl rfl) (Fr.refl _ h),own_setRow w,by rw [rd_setRow_at,Nat.add_zero]⟩⟩
theorem PutRow.add {b o m n:Nat} {cs:List Value} {h:Heap} {k:Heap→Prop} (w:Own h b) (hn:cs.length=n) (h1:∀ v ∈ cs,v.oneCell'=true) (hl:o+m+n≤(rd h b).length)
  (H:∀ h',Did b h h' (put (rd h b) (o+m) cs)→k h'):PutRow (Addr.add ⟨b,o,none⟩ m) cs n h k:=by
 rw [add_mk]; exact PutRow.intro w hn h1 hl H
theorem rdc {h:Heap} {b o:Nat} {xs:List Value} {v:Value} (e:rd h b=xs) (hv:xs[o]?=some v):cellOf h ⟨b,o,none⟩=some v:=by rw [cellOf_rd,e]; exact hv
theorem rda {h:Heap} {b o n:Nat} {xs:List Value} {v:Value} (e:rd h b=xs) (hv:xs[o+n]?=some v):cellOf h (Addr.add ⟨b,o,none⟩ n)=some v:=by rw [add_mk,cellOf_rd,e]; exact hv
theorem cellsa {h:Heap} {b o n:Nat} {xs ys:List Value} (e:rd h b=xs) (hy:(xs.drop (o+n)).take ys.length=ys):Cells h (Addr.add ⟨b,o,none⟩ n) ys:=by rw [add_mk]; exact cells_rd (by rw [e]; exact hy)
theorem cellsAll {h:Heap} {b:Nat} {xs:List Value} (e:rd h b=xs):Cells h ⟨b,0,none⟩ xs:=cells_rd (by rw [e,List.drop_zero,List.take_length])
theorem strAll {h:Heap} {b l:Nat} {bs:List UInt8} (e:rd h b=bs.map bv) (hl:bs.length=l):StrAt h (some ⟨b,0,none⟩) l bs:=⟨hl,cellsAll e⟩
theorem Did.at_ {b c:Nat} {h h':Heap} {cs:List Value} (d:Did b h h' cs) (hc:c<h.size) (hn:c≠b):Hp.rd h' c=Hp.rd h c:=d.fr.rd hc hn
theorem Did.ow {b c:Nat} {h h':Heap} {cs:List Value} (d:Did b h h' cs) (w:Own h c):Own h' c:=by
 by_cases e:c=b
 ·subst e; exact d.own
 ·exact d.fr.own w.lt e w
theorem Newly.at_ {c:Nat} {h h':Heap} {cs:List Value} (d:Newly h h' cs) (hc:c<h.size):Hp.rd h' c=Hp.rd h c:=d.fr.rd hc (fun x=>x)
theorem Newly.ow {c:Nat} {h h':Heap} {cs:List Value} (d:Newly h h' cs) (w:Own h c):Own h' c:=d.fr.own w.lt (fun x=>x) w
theorem falls {n:Int} {m:Nat} (h:n<m):((m:Int) - (n+1)).toNat<((m:Int) - n).toNat:=by omega
theorem Fr.new {F:Nat→Prop} {h h1 h2:Heap} {cs:List Value} (f:Fr F h h1) (d:Newly h1 h2 cs):Fr F h h2:=f.no d.fr
theorem Fr.did {F:Nat→Prop} {h h1 h2:Heap} {cs:List Value} {b:Nat} (f:Fr F h h1) (d:Did b h1 h2 cs) (hb:b<h.size→F b):Fr F h h2:=f.trans d.fr (fun _ hl e=>e▸hb (e▸hl))
end Go.Proofs.YtiapingedfnlnaaGreatDoor.Hp
namespace Go.Proofs.YtiapingedfnlnaaGreatDoor.Hp
open Go Go.Proofs Wx
theorem drop_put (X new:List Value) (o j n:Nat) (h1:j+new.length≤n) (h2:o+n≤X.length):((put X (o+j) new).drop o).take n=put ((X.drop o).take n) j new:=by
 apply List.ext_getElem?
 intro i
 have hl:((X.drop o).take n).length=n:=by rw [List.length_take,List.length_drop]; omega
 rw [put_get _ _ _ _ (by rw [hl]; exact h1),List.getElem?_take,List.getElem?_take,List.getElem?_drop,List.getElem?_drop]
 by_cases hi:i<n
 ·rw [if_pos hi,if_pos hi,put_get _ _ _ _ (by omega)]
  by_cases hj:j≤i∧i<j+new.length
  ·rw [if_pos (by omega),if_pos hj]; congr 1; omega
  ·rw [if_neg (by omega),if_neg hj]
 ·rw [if_neg hi,if_neg hi,if_neg (by omega)]
theorem Sl.putAt {h h':Heap} {ec l c b o j:Nat} {xs new:List Value} {F:Nat→Prop} (s:Sl h ec (some ⟨b,o,none⟩) l c xs F) (hj:j+new.length≤l*ec)
  (d:Did b h h' (put (rd h b) (o+j) new)):Sl h' ec (some ⟨b,o,none⟩) l c (put xs j new) F:=by
 obtain ⟨h1,a1,a2,a3,a4,a5,a6⟩:=s
 have hm:l*ec≤c*ec:=Nat.mul_le_mul_right _ a4
 simp only at a2 a3 a5 a6
 refine ⟨by rw [put_length,h1],rfl,a2,d.own,a4,?_,?_⟩
 ·simp only [d.rd,put_length,h1]
  rw [drop_put _ _ _ _ _ hj (by omega),← h1,a5]
 ·simp only [d.rd,put_length]; exact a6
theorem Sl.putPart {α:Type} {f:α→List Value} {w:Nat} {h h':Heap} {l c b o i:Nat} {xs:List α} {y:α} {F:Nat→Prop} (s:Sl h w (some ⟨b,o,none⟩) l c (xs.flatMap f) F)
  (hw:∀ x ∈ xs,(f x).length=w) (hi:i<xs.length) (hy:(f y).length=w) (d:Did b h h' (put (rd h b) (o+i*w) (f y))):Sl h' w (some ⟨b,o,none⟩) l c ((xs.set i y).flatMap f) F:=by
 have h1:=s.1
 rw [flat_length f w xs hw] at h1
 have:(i+1)*w≤xs.length*w:=Nat.mul_le_mul_right _ hi
 rw [Nat.add_mul,Nat.one_mul] at this
 rw [← put_part f w xs hw i hi y hy]
 exact s.putAt (by rw [hy]; omega) d
theorem Sl.made {h h':Heap} {ec l c:Nat} {xs zs cs:List Value} {F:Nat→Prop} (n:Newly h h' cs) (e:cs=xs++zs) (hF:F h.size) (hx:xs.length=l*ec) (hl:l≤c) (hz:zs.length=(c - l)*ec) :
  Sl h' ec (some ⟨h.size,0,none⟩) l c xs F:=by
 refine ⟨hx,rfl,hF,n.own,hl,?_,?_⟩
 ·simp only [n.rd,e,List.drop_zero,List.take_left]
 ·simp only [n.rd,e,List.length_append,hx,hz,Nat.zero_add]
  rw [← Nat.add_mul]; exact Nat.mul_le_mul_right _ (by omega)
theorem Sl.wr {h:Heap} {ec l c b o:Nat} {xs:List Value} {F:Nat→Prop} (s:Sl h ec (some ⟨b,o,none⟩) l c xs F):Own h b∧o+l*ec≤(rd h b).length:=by
 obtain ⟨h1,a1,a2,a3,a4,a5,a6⟩:=s
 have hm:l*ec≤c*ec:=Nat.mul_le_mul_right _ a4
 simp only at a6
 exact ⟨a3,by omega⟩
theorem CopyP.intro {elem:TI} {b o n m c:Nat} {src:Option Addr} {new:List Value} {h:Heap} {k:Nat→Heap→Prop} (hn:new.length=min m n*elem.cells) (hs:SlCells h src new) (h1:∀ v ∈ new,v.oneCell'=true)
  (w:Own h b) (hl:o+new.length≤(rd h b).length) (H:∀ h',Did b h h' (put (rd h b) o new)→k (min m n) h'):CopyP elem (some ⟨b,o,none⟩) n (.slice src m c) h k:=by
 refine ⟨new,hn,hs,h1,?_,H _ ?_⟩
 ·simp only [WrS,Addr.add_zero]; exact wrN_rd w (by omega)
 ·simp only [setS,Addr.add_zero]
  exact ⟨size_setRow _ _ _ _,Fr.setRow (F:=fun x=>x=b) (Or.inl rfl) (Fr.refl _ h),own_setRow w,by rw [rd_setRow_at,Nat.add_zero]⟩
end Go.Proofs.YtiapingedfnlnaaGreatDoor.Hp
namespace Go.Proofs.YtiapingedfnlnaaGreatDoor.W
open Go Go.Proofs Wx
def z1 : List Value:=[.nilFunc]
def ti1 : TI:=⟨true,.fn,1,8,z1,[]⟩
def z3 : List Value:=[.int .i64 0]
def ti3 : TI:=⟨true,.int .i64,1,8,z3,[]⟩
def z4 : List Value:=[.bool false]
def ti4 : TI:=⟨true,.bool,1,1,z4,[]⟩
def z5 : List Value:=[.int .u8 0]
def ti5 : TI:=⟨true,.int .u8,1,1,z5,[]⟩
def z9 : List Value:=[.string (mkStr [])]
def ti9 : TI:=⟨true,.str,1,16,z9,[]⟩
def z21 : List Value:=[.int .i32 0]
def ti21 : TI:=⟨true,.int .i32,1,4,z21,[]⟩
def z22 : List Value:=[.slice none 0 0]
def ti22 : TI:=⟨true,.slice 31,1,24,z22,[]⟩
def z23 : List Value:=[.pointer none]
def ti23 : TI:=⟨true,.ptr 210,1,8,z23,[]⟩
def z25 : List Value:=[.int .i64 0,.int .i64 0,.int .i64 0,.int .i64 0,.int .i64 0]
def ti25 : TI:=⟨true,.struct [(0,3),(1,3),(2,3),(3,3),(4,3)],5,40,z25,[]⟩
def z28 : List Value:=[.slice none 0 0]
def ti28 : TI:=⟨true,.slice 49,1,24,z28,[]⟩
def z29 : List Value:=[.slice none 0 0,.slice none 0 0]
def ti29 : TI:=⟨true,.arr 2 28,2,48,z29,[]⟩
def z31 : List Value:=[.bool false,.int .i64 0,.int .i64 0,.int .i64 0]
def ti31 : TI:=⟨true,.struct [(0,4),(1,3),(2,3),(3,3)],4,32,z31,[]⟩
def z34 : List Value:=[.int .i64 0]
def ti34 : TI:=⟨true,.int .i64,1,8,z34,[]⟩
def z41 : List Value:=[.slice none 0 0]
def ti41 : TI:=⟨true,.slice 113,1,24,z41,[]⟩
def z49 : List Value:=[.string (mkStr []),.int .i64 0]
def ti49 : TI:=⟨true,.struct [(0,9),(1,3)],2,24,z49,[]⟩
def z51 : List Value:=[.slice none 0 0]
def ti51 : TI:=⟨true,.slice 175,1,24,z51,[]⟩
def z52 : List Value:=[.slice none 0 0]
def ti52 : TI:=⟨true,.slice 191,1,24,z52,[]⟩
def z54 : List Value:=[.int .i64 0,.slice none 0 0,.slice none 0 0]
def ti54 : TI:=⟨true,.struct [(0,3),(1,51),(2,52)],3,56,z54,[]⟩
def z55 : List Value:=[.slice none 0 0]
def ti55 : TI:=⟨true,.slice 59,1,24,z55,[]⟩
def z59 : List Value:=[.pointer none]
def ti59 : TI:=⟨true,.ptr 63,1,8,z59,[]⟩
def z60 : List Value:=[.slice none 0 0]
def ti60 : TI:=⟨true,.slice 9,1,24,z60,[]⟩
def z61 : List Value:=[.slice none 0 0]
def ti61 : TI:=⟨true,.slice 3,1,24,z61,[]⟩
def z63 : List Value:=[.int .i64 0,.int .i64 0,.int .i64 0,.string (mkStr []),.slice none 0 0,.slice none 0 0,.int .i64 0]
def ti63 : TI:=⟨true,.struct [(0,3),(1,3),(2,3),(3,9),(4,60),(5,61),(6,3)],7,96,z63,[]⟩
def z66 : List Value:=[.slice none 0 0,.string (mkStr []),.int .i64 0]
def ti66 : TI:=⟨true,.struct [(0,61),(1,9),(2,3)],3,48,z66,[]⟩
def z72 : List Value:=[.slice none 0 0,.string (mkStr []),.int .i64 0,.int .i64 0]
def ti72 : TI:=⟨true,.struct [(0,61),(1,9),(2,3),(3,3)],4,56,z72,[]⟩
def z78 : List Value:=[.int .u64 0]
def ti78 : TI:=⟨true,.int .u64,1,8,z78,[]⟩
def z83 : List Value:=[.slice none 0 0]
def ti83 : TI:=⟨true,.slice 61,1,24,z83,[]⟩
def z85 : List Value:=[.slice none 0 0]
def ti85 : TI:=⟨true,.slice 97,1,24,z85,[]⟩
def z86 : List Value:=[.slice none 0 0]
def ti86 : TI:=⟨true,.slice 5,1,24,z86,[]⟩
def z91 : List Value:=[.pointer none]
def ti91 : TI:=⟨true,.ptr 195,1,8,z91,[]⟩
def z94 : List Value:=[.pointer none]
def ti94 : TI:=⟨true,.ptr 198,1,8,z94,[]⟩
def z97 : List Value:=[.string (mkStr []),.bool false,.int .i64 0]
def ti97 : TI:=⟨true,.struct [(0,9),(1,4),(2,3)],3,32,z97,[]⟩
def z98 : List Value:=[.slice none 0 0,.string (mkStr []),.int .i64 0]
def ti98 : TI:=⟨true,.struct [(0,61),(1,9),(2,3)],3,48,z98,[]⟩
def z105 : List Value:=[.slice none 0 0]
def ti105 : TI:=⟨true,.slice 4,1,24,z105,[]⟩
def z113 : List Value:=[.int .i64 0,.string (mkStr []),.int .i64 0]
def ti113 : TI:=⟨true,.struct [(0,3),(1,9),(2,3)],3,32,z113,[(.int .i64),.str,(.int .i64)]⟩
def z114 : List Value:=[.nilFunc]
def ti114 : TI:=⟨true,.fn,1,8,z114,[]⟩
def z116 : List Value:=[.slice none 0 0]
def ti116 : TI:=⟨true,.slice 123,1,24,z116,[]⟩
def z117 : List Value:=[.slice none 0 0]
def ti117 : TI:=⟨true,.slice 133,1,24,z117,[]⟩
def z119 : List Value:=[.int .i64 0,.slice none 0 0,.slice none 0 0]
def ti119 : TI:=⟨true,.struct [(0,3),(1,116),(2,117)],3,56,z119,[]⟩
def z121 : List Value:=[.int .i64 0,.int .i64 0,.int .i64 0,.int .i64 0,.int .i64 0,.int .i64 0,.int .i64 0,.int .i64 0,.int .i64 0,.int .i64 0]
def ti121 : TI:=⟨true,.arr 10 3,10,80,z121,[]⟩
def z123 : List Value:=List.replicate 15 (.int .i64 0)
def ti123 : TI:=⟨true,.struct [(0,3),(1,3),(2,3),(3,121),(13,3),(14,3)],15,120,z123,[(.int .i64),(.int .i64),(.int .i64),(.int .i64),(.int .i64),(.int .i64),(.int .i64),(.int .i64),(.int .i64),(.int .i64),(.int .i64),(.int .i64),(.int .i64),(.int .i64),(.int .i64)]⟩
def z125 : List Value:=[.pointer none]
def ti125 : TI:=⟨true,.ptr 235,1,8,z125,[]⟩
def z130 : List Value:=[.pointer none,.pointer none,.pointer none,.pointer none,.int .i64 0,.int .i64 0,.int .i64 0,.int .i64 0,.int .i64 0]
def ti130 : TI:=⟨true,.struct [(0,125),(1,91),(2,23),(3,94),(4,25)],9,72,z130,[]⟩
def z131 : List Value:=[.slice none 0 0]
def ti131 : TI:=⟨true,.slice 239,1,24,z131,[]⟩
def z133 : List Value:=[.int .i64 0,.int .i64 0,.string (mkStr []),.int .i64 0]
def ti133 : TI:=⟨true,.struct [(0,3),(1,3),(2,9),(3,3)],4,40,z133,[]⟩
def z144 : List Value:=(.pointer none)::List.replicate 22 (.int .i64 0)
def ti144 : TI:=⟨true,.struct [(0,23),(1,25),(6,3),(7,123),(22,34)],23,184,z144,[]⟩
def z150 : List Value:=[.int .i64 0,.int .i64 0,.slice none 0 0,.slice none 0 0]
def ti150 : TI:=⟨true,.struct [(0,3),(1,3),(2,86),(3,41)],4,64,z150,[]⟩
def z157 : List Value:=[.pointer none]
def ti157 : TI:=⟨true,.ptr 160,1,8,z157,[]⟩
def z160 : List Value:=(.pointer none)::(List.replicate 24 (.int .i64 0)++(.slice none 0 0)::(.slice none 0 0)::(.int .i64 0)::(.string (mkStr []))::[.int .i64 0])
def ti160 : TI:=⟨true,.struct [(0,144),(23,150),(27,113)],30,280,z160,[]⟩
def z170 : List Value:=[.slice none 0 0]
def ti170 : TI:=⟨true,.slice 264,1,24,z170,[]⟩
def z175 : List Value:=[.int .i64 0,.int .i64 0,.int .i64 0,.string (mkStr []),.string (mkStr [])]
def ti175 : TI:=⟨true,.struct [(0,3),(1,3),(2,3),(3,9),(4,9)],5,56,z175,[]⟩
def z179 : List Value:=[.slice none 0 0]
def ti179 : TI:=⟨true,.struct [(0,61)],1,24,z179,[]⟩
def z181 : List Value:=[.slice none 0 0,.pointer none,.int .i64 0,.int .i64 0,.int .i64 0,.int .i64 0,.int .i64 0,.slice none 0 0,.int .i64 0,.bool false,.bool false]
def ti181 : TI:=⟨true,.struct [(0,179),(1,23),(2,25),(7,60),(8,3),(9,4),(10,4)],11,112,z181,[]⟩
def z191 : List Value:=[.int .i64 0,.int .u8 0]
def ti191 : TI:=⟨true,.struct [(0,3),(1,5)],2,16,z191,[]⟩
def z193 : List Value:=[.slice none 0 0]
def ti193 : TI:=⟨true,.slice 303,1,24,z193,[]⟩
def z195 : List Value:=[.slice none 0 0,.slice none 0 0,.slice none 0 0,.int .i64 0,.bool false,.int .i64 0,.int .i64 0]
def ti195 : TI:=⟨true,.struct [(0,86),(1,193),(2,105),(3,3),(4,4),(5,3),(6,3)],7,104,z195,[]⟩
def z196 : List Value:=[.slice none 0 0]
def ti196 : TI:=⟨true,.slice 294,1,24,z196,[]⟩
def z198 : List Value:=[.pointer none,.slice none 0 0,.bool false]
def ti198 : TI:=⟨true,.struct [(0,91),(1,196),(2,4)],3,40,z198,[]⟩
def z201 : List Value:=[.pointer none,.int .i64 0,.int .i64 0,.int .i64 0,.int .i64 0,.int .i64 0,.slice none 0 0,.slice none 0 0,.bool false,.bool false,.int .i64 0]
def ti201 : TI:=⟨true,.struct [(0,94),(1,25),(6,61),(7,60),(8,4),(9,4),(10,3)],11,112,z201,[]⟩
def z207 : List Value:=[.map none]
def ti207 : TI:=⟨true,.map 3 86,1,8,z207,[]⟩
def z208 : List Value:=[.slice none 0 0]
def ti208 : TI:=⟨true,.slice 1,1,24,z208,[]⟩
def z210 : List Value:=[.pointer none,.map none,.slice none 0 0,.bool false]
def ti210 : TI:=⟨true,.struct [(0,125),(1,207),(2,208),(3,4)],4,48,z210,[]⟩
def z219 : List Value:=[.nilFunc]
def ti219 : TI:=⟨true,.fn,1,8,z219,[]⟩
def z232 : List Value:=[.slice none 0 0]
def ti232 : TI:=⟨true,.slice 237,1,24,z232,[]⟩
def z233 : List Value:=[.slice none 0 0]
def ti233 : TI:=⟨true,.slice 358,1,24,z233,[]⟩
def z235 : List Value:=[.slice none 0 0,.slice none 0 0,.int .i64 0,.slice none 0 0,.bool false,.int .i64 0,.int .i64 0,.slice none 0 0]
def ti235 : TI:=⟨true,.struct [(0,232),(1,233),(2,3),(3,105),(4,4),(5,3),(6,3),(7,193)],8,128,z235,[]⟩
def z237 : List Value:=List.replicate 512 (.int .u8 0)
def ti237 : TI:=⟨true,.arr 512 5,512,512,z237,[]⟩
def z239 : List Value:=[.slice none 0 0,.slice none 0 0]
def ti239 : TI:=⟨true,.struct [(0,41),(1,41)],2,48,z239,[]⟩
def z243 : List Value:=[.slice none 0 0]
def ti243 : TI:=⟨true,.slice 41,1,24,z243,[]⟩
def z245 : List Value:=[.pointer none]
def ti245 : TI:=⟨true,.ptr 144,1,8,z245,[]⟩
def z257 : List Value:=[.int .u64 0]
def ti257 : TI:=⟨true,.int .u64,1,8,z257,[]⟩
def z261 : List Value:=[.pointer none]
def ti261 : TI:=⟨true,.ptr 263,1,8,z261,[]⟩
def z263 : List Value:=(.pointer none)::List.replicate 20 (.int .i64 0)
def ti263 : TI:=⟨true,.struct [(0,23),(1,25),(6,123)],21,168,z263,[]⟩
def z264 : List Value:=[.int .i64 0,.int .i64 0]
def ti264 : TI:=⟨true,.arr 2 3,2,16,z264,[]⟩
def z265 : List Value:=[.nilFunc]
def ti265 : TI:=⟨true,.fn,1,8,z265,[]⟩
def z268 : List Value:=[.nilFunc]
def ti268 : TI:=⟨true,.fn,1,8,z268,[]⟩
def z284 : List Value:=[.map none]
def ti284 : TI:=⟨true,.map 9 219,1,8,z284,[]⟩
def z294 : List Value:=[.int .i64 0,.string (mkStr [])]
def ti294 : TI:=⟨true,.struct [(0,3),(1,9)],2,24,z294,[]⟩
def z295 : List Value:=[.slice none 0 0]
def ti295 : TI:=⟨true,.slice 297,1,24,z295,[]⟩
def z297 : List Value:=[.int .i64 0,.slice none 0 0]
def ti297 : TI:=⟨true,.struct [(0,3),(1,86)],2,32,z297,[]⟩
def z303 : List Value:=[.int .i64 0,.int .i64 0,.slice none 0 0]
def ti303 : TI:=⟨true,.struct [(0,3),(1,3),(2,86)],3,40,z303,[]⟩
def z307 : List Value:=[.int .i64 0,.int .i64 0]
def ti307 : TI:=⟨true,.struct [(0,3),(1,3)],2,16,z307,[]⟩
def z311 : List Value:=[.nilFunc]
def ti311 : TI:=⟨true,.fn,1,8,z311,[]⟩
def z325 : List Value:=[.int .u32 0]
def ti325 : TI:=⟨true,.int .u32,1,4,z325,[]⟩
def z329 : List Value:=[.nilFunc]
def ti329 : TI:=⟨true,.fn,1,8,z329,[]⟩
def z331 : List Value:=[.nilFunc,.nilFunc,.nilFunc,.nilFunc]
def ti331 : TI:=⟨true,.arr 4 329,4,32,z331,[]⟩
def z348 : List Value:=[.slice none 0 0]
def ti348 : TI:=⟨true,.slice 86,1,24,z348,[]⟩
def z351 : List Value:=[.slice none 0 0]
def ti351 : TI:=⟨true,.slice 354,1,24,z351,[]⟩
def z354 : List Value:=[.nilFunc]
def ti354 : TI:=⟨true,.fn,1,8,z354,[]⟩
def z358 : List Value:=(.int .i64 0)::List.replicate 512 (.int .u8 0)
def ti358 : TI:=⟨true,.struct [(0,3),(1,237)],513,520,z358,[]⟩
def z361 : List Value:=List.replicate 256 (.bool false)
def ti361 : TI:=⟨true,.arr 256 4,256,256,z361,[]⟩
def z365 : List Value:=[.slice none 0 0]
def ti365 : TI:=⟨true,.slice 307,1,24,z365,[]⟩
def z371 : List Value:=[.int .i64 0,.int .i64 0,.int .i64 0,.int .i64 0,.int .i64 0,.int .i64 0,.int .i64 0,.int .i64 0,.int .i64 0,.int .i64 0,.int .i64 0,.int .i64 0]
def ti371 : TI:=⟨true,.arr 12 3,12,96,z371,[]⟩
def z373 : List Value:=[.bool false,.bool false,.bool false,.bool false,.bool false,.bool false,.bool false,.bool false,.bool false]
def ti373 : TI:=⟨true,.arr 9 4,9,9,z373,[]⟩
def z403 : List Value:=[.pointer none,.slice none 0 0]
def ti403 : TI:=⟨true,.struct [(0,401),(1,86)],2,32,z403,[]⟩
def z408 : List Value:=[.int .i64 0,.int .i64 0,.int .i64 0,.int .i64 0]
def ti408 : TI:=⟨true,.struct [(0,3),(1,3),(2,3),(3,3)],4,32,z408,[]⟩
def z440 : List Value:=List.replicate 16 (.int .u32 0)
def ti440 : TI:=⟨true,.arr 16 325,16,64,z440,[]⟩
def z442 : List Value:=List.replicate 32 (.int .u32 0)
def ti442 : TI:=⟨true,.arr 32 325,32,128,z442,[]⟩
def tiTab : List (Nat×TI):=[(1,ti1),(3,ti3),(4,ti4),(5,ti5),(9,ti9),(21,ti21),(22,ti22),(23,ti23),(25,ti25),(28,ti28),(29,ti29),(31,ti31),(34,ti34),(41,ti41),(49,ti49),(51,ti51),(52,ti52),(54,ti54),(55,ti55),(59,ti59),(60,ti60),(61,ti61),(63,ti63),(66,ti66),(72,ti72),(78,ti78),(83,ti83),(85,ti85),(86,ti86),(91,ti91),(94,ti94),(97,ti97),(98,ti98),(105,ti105),(113,ti113),(114,ti114),(116,ti116),(117,ti117),(119,ti119),(121,ti121),(123,ti123),(125,ti125),(130,ti130),(131,ti131),(133,ti133),(144,ti144),(150,ti150),(157,ti157),(160,ti160),(170,ti170),(175,ti175),(179,ti179),(181,ti181),(191,ti191),(193,ti193),(195,ti195),(196,ti196),(198,ti198),(201,ti201),(207,ti207),(208,ti208),(210,ti210),(219,ti219),(232,ti232),(233,ti233),(235,ti235),(237,ti237),(239,ti239),(243,ti243),(245,ti245),(257,ti257),(261,ti261),(263,ti263),(264,ti264),(265,ti265),(268,ti268),(284,ti284),(294,ti294),(295,ti295),(297,ti297),(303,ti303),(307,ti307),(311,ti311),(325,ti325),(329,ti329),(331,ti331),(348,ti348),(351,ti351),(354,ti354),(358,ti358),(361,ti361),(365,ti365),(371,ti371),(373,ti373),(403,ti403),(408,ti408),(440,ti440),(442,ti442)]
def sigTab : List (Nat×List Ty):=[(0,[]),(3,[.int .i64]),(4,[.bool]),(9,[.str]),(23,[.ptr]),(25,[.agg]),(26,[.ptr,.agg]),(34,[.int .i64]),(35,[.slice,.int .i64,.int .i64]),(38,[.int .i64,.int .i64]),(41,[.slice]),(42,[.slice,.int .i64]),(55,[.slice]),(56,[.ptr,.agg,.slice,.bool]),(60,[.slice]),(61,[.slice]),(66,[.agg]),(67,[.agg,.int .i64]),(72,[.agg]),(76,[.slice,.int .i64]),(86,[.slice]),(87,[.slice,.agg]),(89,[.ptr,.bool]),(92,[.ptr,.int .i64]),(94,[.ptr]),(98,[.agg]),(99,[.agg,.int .i64]),(107,[.slice,.str,.int .i64]),(123,[.agg]),(126,[.ptr,.int .i64]),(134,[.slice,.bool]),(144,[.agg]),(147,[.any]),(157,[.ptr]),(168,[.agg,.int .i64]),(171,[.slice,.slice,.int .i64]),(176,[.ptr]),(213,[.any]),(217,[.any]),(220,[.any,.bool]),(229,[.slice,.int .i64]),(251,[.agg,.int .i64,.int .i64]),(266,[.slice,.slice,.int .i64]),(269,[.bool,.int .i64]),(273,[.int .i64,.slice,.int .i64,.int .i64]),(277,[.slice,.bool]),(279,[.agg,.agg,.int .i64]),(281,[.int .i64,.int .i64,.int .i64]),(286,[.any]),(309,[.int .i64,.str,.bool]),(311,[.clo]),(325,[.int .u32]),(327,[.int .u64,.int .i64]),(339,[.str,.int .i64]),(341,[.slice,.bool,.int .i64]),(362,[.agg,.bool]),(365,[.slice]),(367,[.int .i64,.slice,.int .i64]),(369,[.ptr]),(371,[.agg]),(385,[.slice,.int .i64]),(405,[.any]),(412,[.int .i64,.any]),(416,[.int .i64,.slice]),(420,[.slice,.int .i64]),(422,[.int .u32,.int .i64]),(442,[.agg])]
def natTab : List Nat:=[288]
def panTab : List Nat:=[]
noncomputable def cx (loops:Nat→List Nat×List (Nat×Ty)) (orders:Nat→Od):Ctx:=⟨Tryz.prog,tiOf tiTab,sigOf sigTab,loops,orders,natTab,panTab⟩
theorem natok288 : NatOk Tryz.prog 288:=natOk Tryz.func288 (by kernel_rfl) (by kernel_rfl) (by kernel_rfl) (by kernel_rfl)
theorem natTab_ok : ∀ g ∈ natTab,NatOk Tryz.prog g:=by
 simp only [natTab,List.forall_mem_cons]
 exact ⟨natok288,fun _ h=>absurd h List.not_mem_nil⟩
theorem tiok1 : TIok Tryz.prog 1 ti1:=⟨by kernel_rfl,by kernel_rfl,by kernel_rfl,by kernel_rfl,by kernel_rfl⟩
theorem tiok3 : TIok Tryz.prog 3 ti3:=⟨by kernel_rfl,by kernel_rfl,by kernel_rfl,by kernel_rfl,by kernel_rfl⟩
theorem tiok4 : TIok Tryz.prog 4 ti4:=⟨by kernel_rfl,by kernel_rfl,by kernel_rfl,by kernel_rfl,by kernel_rfl⟩
theorem tiok5 : TIok Tryz.prog 5 ti5:=⟨by kernel_rfl,by kernel_rfl,by kernel_rfl,by kernel_rfl,by kernel_rfl⟩
theorem tiok9 : TIok Tryz.prog 9 ti9:=⟨by kernel_rfl,by kernel_rfl,by kernel_rfl,by kernel_rfl,by kernel_rfl⟩
theorem tiok21 : TIok Tryz.prog 21 ti21:=⟨by kernel_rfl,by kernel_rfl,by kernel_rfl,by kernel_rfl,by kernel_rfl⟩
theorem tiok22 : TIok Tryz.prog 22 ti22:=⟨by kernel_rfl,by kernel_rfl,by kernel_rfl,by kernel_rfl,by kernel_rfl⟩
theorem tiok23 : TIok Tryz.prog 23 ti23:=⟨by kernel_rfl,by kernel_rfl,by kernel_rfl,by kernel_rfl,by kernel_rfl⟩
theorem tiok25 : TIok Tryz.prog 25 ti25:=⟨by kernel_rfl,by kernel_rfl,by kernel_rfl,by kernel_rfl,by kernel_rfl⟩
theorem tiok28 : TIok Tryz.prog 28 ti28:=⟨by kernel_rfl,by kernel_rfl,by kernel_rfl,by kernel_rfl,by kernel_rfl⟩
theorem tiok29 : TIok Tryz.prog 29 ti29:=⟨by kernel_rfl,by kernel_rfl,by kernel_rfl,by kernel_rfl,by kernel_rfl⟩
theorem tiok31 : TIok Tryz.prog 31 ti31:=⟨by kernel_rfl,by kernel_rfl,by kernel_rfl,by kernel_rfl,by kernel_rfl⟩
theorem tiok34 : TIok Tryz.prog 34 ti34:=⟨by kernel_rfl,by kernel_rfl,by kernel_rfl,by kernel_rfl,by kernel_rfl⟩
theorem tiok41 : TIok Tryz.prog 41 ti41:=⟨by kernel_rfl,by kernel_rfl,by kernel_rfl,by kernel_rfl,by kernel_rfl⟩
theorem tiok49 : TIok Tryz.prog 49 ti49:=⟨by kernel_rfl,by kernel_rfl,by kernel_rfl,by kernel_rfl,by kernel_rfl⟩
theorem tiok51 : TIok Tryz.prog 51 ti51:=⟨by kernel_rfl,by kernel_rfl,by kernel_rfl,by kernel_rfl,by kernel_rfl⟩
theorem tiok52 : TIok Tryz.prog 52 ti52:=⟨by kernel_rfl,by kernel_rfl,by kernel_rfl,by kernel_rfl,by kernel_rfl⟩
theorem tiok54 : TIok Tryz.prog 54 ti54:=⟨by kernel_rfl,by kernel_rfl,by kernel_rfl,by kernel_rfl,by kernel_rfl⟩
theorem tiok55 : TIok Tryz.prog 55 ti55:=⟨by kernel_rfl,by kernel_rfl,by kernel_rfl,by kernel_rfl,by kernel_rfl⟩
theorem tiok59 : TIok Tryz.prog 59 ti59:=⟨by kernel_rfl,by kernel_rfl,by kernel_rfl,by kernel_rfl,by kernel_rfl⟩
theorem tiok60 : TIok Tryz.prog 60 ti60:=⟨by kernel_rfl,by kernel_rfl,by kernel_rfl,by kernel_rfl,by kernel_rfl⟩
theorem tiok61 : TIok Tryz.prog 61 ti61:=⟨by kernel_rfl,by kernel_rfl,by kernel_rfl,by kernel_rfl,by kernel_rfl⟩
theorem tiok63 : TIok Tryz.prog 63 ti63:=⟨by kernel_rfl,by kernel_rfl,by kernel_rfl,by kernel_rfl,by kernel_rfl⟩
theorem tiok66 : TIok Tryz.prog 66 ti66:=⟨by kernel_rfl,by kernel_rfl,by kernel_rfl,by kernel_rfl,by kernel_rfl⟩
theorem tiok72 : TIok Tryz.prog 72 ti72:=⟨by kernel_rfl,by kernel_rfl,by kernel_rfl,by kernel_rfl,by kernel_rfl⟩
theorem tiok78 : TIok Tryz.prog 78 ti78:=⟨by kernel_rfl,by kernel_rfl,by kernel_rfl,by kernel_rfl,by kernel_rfl⟩
theorem tiok83 : TIok Tryz.prog 83 ti83:=⟨by kernel_rfl,by kernel_rfl,by kernel_rfl,by kernel_rfl,by kernel_rfl⟩
theorem tiok85 : TIok Tryz.prog 85 ti85:=⟨by kernel_rfl,by kernel_rfl,by kernel_rfl,by kernel_rfl,by kernel_rfl⟩
theorem tiok86 : TIok Tryz.prog 86 ti86:=⟨by kernel_rfl,by kernel_rfl,by kernel_rfl,by kernel_rfl,by kernel_rfl⟩
theorem tiok91 : TIok Tryz.prog 91 ti91:=⟨by kernel_rfl,by kernel_rfl,by kernel_rfl,by kernel_rfl,by kernel_rfl⟩
theorem tiok94 : TIok Tryz.prog 94 ti94:=⟨by kernel_rfl,by kernel_rfl,by kernel_rfl,by kernel_rfl,by kernel_rfl⟩
theorem tiok97 : TIok Tryz.prog 97 ti97:=⟨by kernel_rfl,by kernel_rfl,by kernel_rfl,by kernel_rfl,by kernel_rfl⟩
theorem tiok98 : TIok Tryz.prog 98 ti98:=⟨by kernel_rfl,by kernel_rfl,by kernel_rfl,by kernel_rfl,by kernel_rfl⟩
theorem tiok105 : TIok Tryz.prog 105 ti105:=⟨by kernel_rfl,by kernel_rfl,by kernel_rfl,by kernel_rfl,by kernel_rfl⟩
theorem tiok113 : TIok Tryz.prog 113 ti113:=⟨by kernel_rfl,by kernel_rfl,by kernel_rfl,by kernel_rfl,by kernel_rfl⟩
theorem tiok114 : TIok Tryz.prog 114 ti114:=⟨by kernel_rfl,by kernel_rfl,by kernel_rfl,by kernel_rfl,by kernel_rfl⟩
theorem tiok116 : TIok Tryz.prog 116 ti116:=⟨by kernel_rfl,by kernel_rfl,by kernel_rfl,by kernel_rfl,by kernel_rfl⟩
theorem tiok117 : TIok Tryz.prog 117 ti117:=⟨by kernel_rfl,by kernel_rfl,by kernel_rfl,by kernel_rfl,by kernel_rfl⟩
theorem tiok119 : TIok Tryz.prog 119 ti119:=⟨by kernel_rfl,by kernel_rfl,by kernel_rfl,by kernel_rfl,by kernel_rfl⟩
theorem tiok121 : TIok Tryz.prog 121 ti121:=⟨by kernel_rfl,by kernel_rfl,by kernel_rfl,by kernel_rfl,by kernel_rfl⟩
theorem tiok123 : TIok Tryz.prog 123 ti123:=⟨by kernel_rfl,by kernel_rfl,by kernel_rfl,by kernel_rfl,by kernel_rfl⟩
theorem tiok125 : TIok Tryz.prog 125 ti125:=⟨by kernel_rfl,by kernel_rfl,by kernel_rfl,by kernel_rfl,by kernel_rfl⟩
theorem tiok130 : TIok Tryz.prog 130 ti130:=⟨by kernel_rfl,by kernel_rfl,by kernel_rfl,by kernel_rfl,by kernel_rfl⟩
theorem tiok131 : TIok Tryz.prog 131 ti131:=⟨by kernel_rfl,by kernel_rfl,by kernel_rfl,by kernel_rfl,by kernel_rfl⟩
theorem tiok133 : TIok Tryz.prog 133 ti133:=⟨by kernel_rfl,by kernel_rfl,by kernel_rfl,by kernel_rfl,by kernel_rfl⟩
theorem tiok144 : TIok Tryz.prog 144 ti144:=⟨by kernel_rfl,by kernel_rfl,by kernel_rfl,by kernel_rfl,by kernel_rfl⟩
theorem tiok150 : TIok Tryz.prog 150 ti150:=⟨by kernel_rfl,by kernel_rfl,by kernel_rfl,by kernel_rfl,by kernel_rfl⟩
theorem tiok157 : TIok Tryz.prog 157 ti157:=⟨by kernel_rfl,by kernel_rfl,by kernel_rfl,by kernel_rfl,by kernel_rfl⟩
theorem tiok160 : TIok Tryz.prog 160 ti160:=⟨by kernel_rfl,by kernel_rfl,by kernel_rfl,by kernel_rfl,by kernel_rfl⟩
theorem tiok170 : TIok Tryz.prog 170 ti170:=⟨by kernel_rfl,by kernel_rfl,by kernel_rfl,by kernel_rfl,by kernel_rfl⟩
theorem tiok175 : TIok Tryz.prog 175 ti175:=⟨by kernel_rfl,by kernel_rfl,by kernel_rfl,by kernel_rfl,by kernel_rfl⟩
theorem tiok179 : TIok Tryz.prog 179 ti179:=⟨by kernel_rfl,by kernel_rfl,by kernel_rfl,by kernel_rfl,by kernel_rfl⟩
theorem tiok181 : TIok Tryz.prog 181 ti181:=⟨by kernel_rfl,by kernel_rfl,by kernel_rfl,by kernel_rfl,by kernel_rfl⟩
theorem tiok191 : TIok Tryz.prog 191 ti191:=⟨by kernel_rfl,by kernel_rfl,by kernel_rfl,by kernel_rfl,by kernel_rfl⟩
theorem tiok193 : TIok Tryz.prog 193 ti193:=⟨by kernel_rfl,by kernel_rfl,by kernel_rfl,by kernel_rfl,by kernel_rfl⟩
theorem tiok195 : TIok Tryz.prog 195 ti195:=⟨by kernel_rfl,by kernel_rfl,by kernel_rfl,by kernel_rfl,by kernel_rfl⟩
theorem tiok196 : TIok Tryz.prog 196 ti196:=⟨by kernel_rfl,by kernel_rfl,by kernel_rfl,by kernel_rfl,by kernel_rfl⟩
theorem tiok198 : TIok Tryz.prog 198 ti198:=⟨by kernel_rfl,by kernel_rfl,by kernel_rfl,by kernel_rfl,by kernel_rfl⟩
theorem tiok201 : TIok Tryz.prog 201 ti201:=⟨by kernel_rfl,by kernel_rfl,by kernel_rfl,by kernel_rfl,by kernel_rfl⟩
theorem tiok207 : TIok Tryz.prog 207 ti207:=⟨by kernel_rfl,by kernel_rfl,by kernel_rfl,by kernel_rfl,by kernel_rfl⟩
theorem tiok208 : TIok Tryz.prog 208 ti208:=⟨by kernel_rfl,by kernel_rfl,by kernel_rfl,by kernel_rfl,by kernel_rfl⟩
theorem tiok210 : TIok Tryz.prog 210 ti210:=⟨by kernel_rfl,by kernel_rfl,by kernel_rfl,by kernel_rfl,by kernel_rfl⟩
theorem tiok219 : TIok Tryz.prog 219 ti219:=⟨by kernel_rfl,by kernel_rfl,by kernel_rfl,by kernel_rfl,by kernel_rfl⟩
theorem tiok232 : TIok Tryz.prog 232 ti232:=⟨by kernel_rfl,by kernel_rfl,by kernel_rfl,by kernel_rfl,by kernel_rfl⟩
theorem tiok233 : TIok Tryz.prog 233 ti233:=⟨by kernel_rfl,by kernel_rfl,by kernel_rfl,by kernel_rfl,by kernel_rfl⟩
theorem tiok235 : TIok Tryz.prog 235 ti235:=⟨by kernel_rfl,by kernel_rfl,by kernel_rfl,by kernel_rfl,by kernel_rfl⟩
theorem tiok237 : TIok Tryz.prog 237 ti237:=⟨by kernel_rfl,by kernel_rfl,by kernel_rfl,by kernel_rfl,by kernel_rfl⟩
theorem tiok239 : TIok Tryz.prog 239 ti239:=⟨by kernel_rfl,by kernel_rfl,by kernel_rfl,by kernel_rfl,by kernel_rfl⟩
theorem tiok243 : TIok Tryz.prog 243 ti243:=⟨by kernel_rfl,by kernel_rfl,by kernel_rfl,by kernel_rfl,by kernel_rfl⟩
theorem tiok245 : TIok Tryz.prog 245 ti245:=⟨by kernel_rfl,by kernel_rfl,by kernel_rfl,by kernel_rfl,by kernel_rfl⟩
theorem tiok257 : TIok Tryz.prog 257 ti257:=⟨by kernel_rfl,by kernel_rfl,by kernel_rfl,by kernel_rfl,by kernel_rfl⟩
theorem tiok261 : TIok Tryz.prog 261 ti261:=⟨by kernel_rfl,by kernel_rfl,by kernel_rfl,by kernel_rfl,by kernel_rfl⟩
theorem tiok263 : TIok Tryz.prog 263 ti263:=⟨by kernel_rfl,by kernel_rfl,by kernel_rfl,by kernel_rfl,by kernel_rfl⟩
theorem tiok264 : TIok Tryz.prog 264 ti264:=⟨by kernel_rfl,by kernel_rfl,by kernel_rfl,by kernel_rfl,by kernel_rfl⟩
theorem tiok265 : TIok Tryz.prog 265 ti265:=⟨by kernel_rfl,by kernel_rfl,by kernel_rfl,by kernel_rfl,by kernel_rfl⟩
theorem tiok268 : TIok Tryz.prog 268 ti268:=⟨by kernel_rfl,by kernel_rfl,by kernel_rfl,by kernel_rfl,by kernel_rfl⟩
theorem tiok284 : TIok Tryz.prog 284 ti284:=⟨by kernel_rfl,by kernel_rfl,by kernel_rfl,by kernel_rfl,by kernel_rfl⟩
theorem tiok294 : TIok Tryz.prog 294 ti294:=⟨by kernel_rfl,by kernel_rfl,by kernel_rfl,by kernel_rfl,by kernel_rfl⟩
theorem tiok295 : TIok Tryz.prog 295 ti295:=⟨by kernel_rfl,by kernel_rfl,by kernel_rfl,by kernel_rfl,by kernel_rfl⟩
theorem tiok297 : TIok Tryz.prog 297 ti297:=⟨by kernel_rfl,by kernel_rfl,by kernel_rfl,by kernel_rfl,by kernel_rfl⟩
theorem tiok303 : TIok Tryz.prog 303 ti303:=⟨by kernel_rfl,by kernel_rfl,by kernel_rfl,by kernel_rfl,by kernel_rfl⟩
theorem tiok307 : TIok Tryz.prog 307 ti307:=⟨by kernel_rfl,by kernel_rfl,by kernel_rfl,by kernel_rfl,by kernel_rfl⟩
theorem tiok311 : TIok Tryz.prog 311 ti311:=⟨by kernel_rfl,by kernel_rfl,by kernel_rfl,by kernel_rfl,by kernel_rfl⟩
theorem tiok325 : TIok Tryz.prog 325 ti325:=⟨by kernel_rfl,by kernel_rfl,by kernel_rfl,by kernel_rfl,by kernel_rfl⟩
theorem tiok329 : TIok Tryz.prog 329 ti329:=⟨by kernel_rfl,by kernel_rfl,by kernel_rfl,by kernel_rfl,by kernel_rfl⟩
theorem tiok331 : TIok Tryz.prog 331 ti331:=⟨by kernel_rfl,by kernel_rfl,by kernel_rfl,by kernel_rfl,by kernel_rfl⟩
theorem tiok348 : TIok Tryz.prog 348 ti348:=⟨by kernel_rfl,by kernel_rfl,by kernel_rfl,by kernel_rfl,by kernel_rfl⟩
theorem tiok351 : TIok Tryz.prog 351 ti351:=⟨by kernel_rfl,by kernel_rfl,by kernel_rfl,by kernel_rfl,by kernel_rfl⟩
theorem tiok354 : TIok Tryz.prog 354 ti354:=⟨by kernel_rfl,by kernel_rfl,by kernel_rfl,by kernel_rfl,by kernel_rfl⟩
theorem tiok358 : TIok Tryz.prog 358 ti358:=⟨by kernel_rfl,by kernel_rfl,by kernel_rfl,by kernel_rfl,by kernel_rfl⟩
theorem tiok361 : TIok Tryz.prog 361 ti361:=⟨by kernel_rfl,by kernel_rfl,by kernel_rfl,by kernel_rfl,by kernel_rfl⟩
theorem tiok365 : TIok Tryz.prog 365 ti365:=⟨by kernel_rfl,by kernel_rfl,by kernel_rfl,by kernel_rfl,by kernel_rfl⟩
theorem tiok371 : TIok Tryz.prog 371 ti371:=⟨by kernel_rfl,by kernel_rfl,by kernel_rfl,by kernel_rfl,by kernel_rfl⟩
theorem tiok373 : TIok Tryz.prog 373 ti373:=⟨by kernel_rfl,by kernel_rfl,by kernel_rfl,by kernel_rfl,by kernel_rfl⟩
theorem tiok403 : TIok Tryz.prog 403 ti403:=⟨by kernel_rfl,by kernel_rfl,by kernel_rfl,by kernel_rfl,by kernel_rfl⟩
theorem tiok408 : TIok Tryz.prog 408 ti408:=⟨by kernel_rfl,by kernel_rfl,by kernel_rfl,by kernel_rfl,by kernel_rfl⟩
theorem tiok440 : TIok Tryz.prog 440 ti440:=⟨by kernel_rfl,by kernel_rfl,by kernel_rfl,by kernel_rfl,by kernel_rfl⟩
theorem tiok442 : TIok Tryz.prog 442 ti442:=⟨by kernel_rfl,by kernel_rfl,by kernel_rfl,by kernel_rfl,by kernel_rfl⟩
theorem tiTab_ok : ∀ x ∈ tiTab,TIok Tryz.prog x.1 x.2:=by
 simp only [tiTab,List.forall_mem_cons]
 exact ⟨tiok1,tiok3,tiok4,tiok5,tiok9,tiok21,tiok22,tiok23,tiok25,tiok28,tiok29,tiok31,tiok34,tiok41,tiok49,tiok51,tiok52,tiok54,tiok55,tiok59,tiok60,tiok61,tiok63,tiok66,tiok72,tiok78,tiok83,tiok85,tiok86,tiok91,tiok94,tiok97,tiok98,tiok105,tiok113,tiok114,tiok116,tiok117,tiok119,tiok121,tiok123,tiok125,tiok130,tiok131,tiok133,tiok144,tiok150,tiok157,tiok160,tiok170,tiok175,tiok179,tiok181,tiok191,tiok193,tiok195,tiok196,tiok198,tiok201,tiok207,tiok208,tiok210,tiok219,tiok232,tiok233,tiok235,tiok237,tiok239,tiok243,tiok245,tiok257,tiok261,tiok263,tiok264,tiok265,tiok268,tiok284,tiok294,tiok295,tiok297,tiok303,tiok307,tiok311,tiok325,tiok329,tiok331,tiok348,tiok351,tiok354,tiok358,tiok361,tiok365,tiok371,tiok373,tiok403,tiok408,tiok440,tiok442,fun _ h=>absurd h List.not_mem_nil⟩
theorem cxOk (loops:Nat→List Nat×List (Nat×Ty)) (orders:Nat→Od):CtxOk (cx loops orders):=⟨natTab_ok,tiOf_ok tiTab tiTab_ok,by kernel_rfl⟩
def C.bolelaw16_WalkThrough (s1:List Value) (rest1:ByteArray) (which1:Int) (h:Heap) (k:Value→Heap→Prop):Prop:=HCalls Tryz.prog 5 [.agg ⟨s1⟩,.string rest1,.int .i64 which1] h k
def C.dir_List (t1:Option Addr) (g1:List Value) (n1:Int) (h:Heap) (k:Value→Heap→Prop):Prop:=HCalls Tryz.prog 20 [.pointer t1,.agg ⟨g1⟩,.int .i64 n1] h k
def C.dir_Find (t1:Option Addr) (g1:List Value) (n1:Int) (name1:ByteArray) (h:Heap) (k:Value→Heap→Prop):Prop:=HCalls Tryz.prog 26 [.pointer t1,.agg ⟨g1⟩,.int .i64 n1,.string name1] h k
def C.bolelaw16_Setup_right (s1:List Value) (h:Heap) (k:Value→Heap→Prop):Prop:=HCalls Tryz.prog 27 [.agg ⟨s1⟩] h k
def C.bolelaw16_known  (h:Heap) (k:Value→Heap→Prop):Prop:=HCalls Tryz.prog 28 [] h k
def C.walk_To (t1:Option Addr) (g1:List Value) (s1:ByteArray) (follow1:Bool) (h:Heap) (k:Value→Heap→Prop):Prop:=HCalls Tryz.prog 30 [.pointer t1,.agg ⟨g1⟩,.string s1,.bool follow1] h k
def C.walk_Make (t1:Option Addr) (g1:List Value) (s1:ByteArray) (h:Heap) (k:Value→Heap→Prop):Prop:=HCalls Tryz.prog 31 [.pointer t1,.agg ⟨g1⟩,.string s1] h k
def C.bolelaw16_num (e1:Int) (h:Heap) (k:Value→Heap→Prop):Prop:=HCalls Tryz.prog 32 [.int .i64 e1] h k
def C.bolelaw16_Node_nameOf (n1:Option Addr) (inode1:Int) (h:Heap) (k:Value→Heap→Prop):Prop:=HCalls Tryz.prog 34 [.pointer n1,.int .i64 inode1] h k
def C.path_Parse (s1:ByteArray) (h:Heap) (k:Value→Heap→Prop):Prop:=HCalls Tryz.prog 35 [.string s1] h k
def C.bolelaw16_same (aA1:Option Addr) (aL1:Nat) (aC1:Nat) (bA1:Option Addr) (bL1:Nat) (bC1:Nat) (h:Heap) (k:Value→Heap→Prop):Prop:=HCalls Tryz.prog 36 [.slice aA1 aL1 aC1,.slice bA1 bL1 bC1] h k
def C.walk_Height (t1:Option Addr) (g1:List Value) (n1:Int) (h:Heap) (k:Value→Heap→Prop):Prop:=HCalls Tryz.prog 37 [.pointer t1,.agg ⟨g1⟩,.int .i64 n1] h k
def C.bolelaw16_Setup_image (s1:List Value) (h:Heap) (k:Value→Heap→Prop):Prop:=HCalls Tryz.prog 39 [.agg ⟨s1⟩] h k
def C.bolelaw16_begin (bA1:Option Addr) (bL1:Nat) (bC1:Nat) (h:Heap) (k:Value→Heap→Prop):Prop:=HCalls Tryz.prog 40 [.slice bA1 bL1 bC1] h k
def C.path_Make (s1:ByteArray) (h:Heap) (k:Value→Heap→Prop):Prop:=HCalls Tryz.prog 48 [.string s1] h k
def C.bolelaw16_Node_has (n1:Option Addr) (name1:ByteArray) (h:Heap) (k:Value→Heap→Prop):Prop:=HCalls Tryz.prog 49 [.pointer n1,.string name1] h k
def C.boleref09_Geo (n1:Int) (h:Heap) (k:Value→Heap→Prop):Prop:=HCalls Tryz.prog 51 [.int .i64 n1] h k
def C.adisk_Open (imageA1:Option Addr) (imageL1:Nat) (imageC1:Nat) (h:Heap) (k:Value→Heap→Prop):Prop:=HCalls Tryz.prog 53 [.slice imageA1 imageL1 imageC1] h k
def C.txn_Begin (d1:Option Addr) (h:Heap) (k:Value→Heap→Prop):Prop:=HCalls Tryz.prog 61 [.pointer d1] h k
def C.path_Name (s1:ByteArray) (h:Heap) (k:Value→Heap→Prop):Prop:=HCalls Tryz.prog 63 [.string s1] h k
def C.dir_open (t1:Option Addr) (g1:List Value) (n1:Int) (h:Heap) (k:Value→Heap→Prop):Prop:=HCalls Tryz.prog 65 [.pointer t1,.agg ⟨g1⟩,.int .i64 n1] h k
def C.dir_reader_leaves (r1:Option Addr) (h:Heap) (k:Value→Heap→Prop):Prop:=HCalls Tryz.prog 66 [.pointer r1] h k
def C.dir_find (t1:Option Addr) (g1:List Value) (n1:Int) (name1:ByteArray) (h:Heap) (k:Value→Heap→Prop):Prop:=HCalls Tryz.prog 74 [.pointer t1,.agg ⟨g1⟩,.int .i64 n1,.string name1] h k
def C.slices_SortFunc_api_Entry_api_Entry (xA1:Option Addr) (xL1:Nat) (xC1:Nat) (cmp1:Value) (h:Heap) (k:Value→Heap→Prop):Prop:=HCalls Tryz.prog 78 [.slice xA1 xL1 xC1,cmp1] h k
def C.file_get (t1:Option Addr) (g1:List Value) (n1:Int) (h:Heap) (k:Value→Heap→Prop):Prop:=HCalls Tryz.prog 83 [.pointer t1,.agg ⟨g1⟩,.int .i64 n1] h k
def C.bolelaw16_Setup_tree (s1:List Value) (h:Heap) (k:Value→Heap→Prop):Prop:=HCalls Tryz.prog 85 [.agg ⟨s1⟩] h k
def C.walk_begin (t1:Option Addr) (g1:List Value) (partsA1:Option Addr) (partsL1:Nat) (partsC1:Nat) (h:Heap) (k:Value→Heap→Prop):Prop:=HCalls Tryz.prog 86 [.pointer t1,.agg ⟨g1⟩,.slice partsA1 partsL1 partsC1] h k
def C.walk_walk_end (w1:Option Addr) (h:Heap) (k:Value→Heap→Prop):Prop:=HCalls Tryz.prog 87 [.pointer w1] h k
def C.walk_walk_place (w1:Option Addr) (name1:ByteArray) (n1:Int) (h:Heap) (k:Value→Heap→Prop):Prop:=HCalls Tryz.prog 88 [.pointer w1,.string name1,.int .i64 n1] h k
def C.walk_row_here (r1:Option Addr) (h:Heap) (k:Value→Heap→Prop):Prop:=HCalls Tryz.prog 89 [.pointer r1] h k
def C.path_wrong (s1:ByteArray) (isPath1:Bool) (h:Heap) (k:Value→Heap→Prop):Prop:=HCalls Tryz.prog 90 [.string s1,.bool isPath1] h k
def C.path_components (s1:ByteArray) (most1:Int) (h:Heap) (k:Value→Heap→Prop):Prop:=HCalls Tryz.prog 91 [.string s1,.int .i64 most1] h k
def C.inode_Get (t1:Option Addr) (g1:List Value) (n1:Int) (h:Heap) (k:Value→Heap→Prop):Prop:=HCalls Tryz.prog 92 [.pointer t1,.agg ⟨g1⟩,.int .i64 n1] h k
def C.slices_Sort_int_int (xA1:Option Addr) (xL1:Nat) (xC1:Nat) (h:Heap) (k:Value→Heap→Prop):Prop:=HCalls Tryz.prog 93 [.slice xA1 xL1 xC1] h k
def C.slices_Compact_int_int (sA1:Option Addr) (sL1:Nat) (sC1:Nat) (h:Heap) (k:Value→Heap→Prop):Prop:=HCalls Tryz.prog 94 [.slice sA1 sL1 sC1] h k
def C.bolelaw16_Setup_blocks (s1:List Value) (h:Heap) (k:Value→Heap→Prop):Prop:=HCalls Tryz.prog 95 [.agg ⟨s1⟩] h k
def C.bolelaw16_low (bA1:Option Addr) (bL1:Nat) (bC1:Nat) (n1:Int) (h:Heap) (k:Value→Heap→Prop):Prop:=HCalls Tryz.prog 96 [.slice bA1 bL1 bC1,.int .i64 n1] h k
def C.bolelaw16_pieces (s1:ByteArray) (h:Heap) (k:Value→Heap→Prop):Prop:=HCalls Tryz.prog 108 [.string s1] h k
def C.path_pieces (s1:ByteArray) (h:Heap) (k:Value→Heap→Prop):Prop:=HCalls Tryz.prog 109 [.string s1] h k
def C.path_does (s1:ByteArray) (h:Heap) (k:Value→Heap→Prop):Prop:=HCalls Tryz.prog 110 [.string s1] h k
def C.adisk_New (n1:Int) (h:Heap) (k:Value→Heap→Prop):Prop:=HCalls Tryz.prog 120 [.int .i64 n1] h k
def C.txn_Txn_Read (t1:Option Addr) (i1:Int) (h:Heap) (k:Value→Heap→Prop):Prop:=HCalls Tryz.prog 130 [.pointer t1,.int .i64 i1] h k
def C.strings_ContainsAny (s1:ByteArray) (chars1:ByteArray) (h:Heap) (k:Value→Heap→Prop):Prop:=HCalls Tryz.prog 134 [.string s1,.string chars1] h k
def C.dir_reader_leaves_c1 (yield1:Value) (x1:Option Addr) (h:Heap) (k:Value→Heap→Prop):Prop:=HCalls Tryz.prog 135 [yield1,.pointer x1] h k
def C.bmap_Find (t1:Option Addr) (g1:List Value) (x1:List Value) (k1:Int) (h:Heap) (k:Value→Heap→Prop):Prop:=HCalls Tryz.prog 136 [.pointer t1,.agg ⟨g1⟩,.agg ⟨x1⟩,.int .i64 k1] h k
def C.dir_reader_failed (r1:Option Addr) (e1:Int) (h:Heap) (k:Value→Heap→Prop):Prop:=HCalls Tryz.prog 137 [.pointer r1,.int .i64 e1] h k
def C.slots_Read (bA1:Option Addr) (bL1:Nat) (bC1:Nat) (h:Heap) (k:Value→Heap→Prop):Prop:=HCalls Tryz.prog 138 [.slice bA1 bL1 bC1] h k
def C.slots_cell (bA1:Option Addr) (bL1:Nat) (bC1:Nat) (k1:Int) (h:Heap) (k:Value→Heap→Prop):Prop:=HCalls Tryz.prog 143 [.slice bA1 bL1 bC1,.int .i64 k1] h k
def C.bmap_file_look (f1:Option Addr) (num1:Int) (h:Heap) (k:Value→Heap→Prop):Prop:=HCalls Tryz.prog 151 [.pointer f1,.int .i64 num1] h k
def C.bolelaw16_may (s1:ByteArray) (h:Heap) (k:Value→Heap→Prop):Prop:=HCalls Tryz.prog 157 [.string s1] h k
def C.bolelaw16_letters (i1:Int) (h:Heap) (k:Value→Heap→Prop):Prop:=HCalls Tryz.prog 158 [.int .i64 i1] h k
def C.bolelaw16_text (s1:ByteArray) (h:Heap) (k:Value→Heap→Prop):Prop:=HCalls Tryz.prog 159 [.string s1] h k
def C.walk_row_top (r1:Option Addr) (h:Heap) (k:Value→Heap→Prop):Prop:=HCalls Tryz.prog 160 [.pointer r1] h k
def C.walk_row_up (r1:Option Addr) (h:Heap) (k:Value→Heap→Prop):Prop:=HCalls Tryz.prog 161 [.pointer r1] h k
def C.walk_walk_met (w1:Option Addr) (kind1:Int) (n1:Int) (h:Heap) (k:Value→Heap→Prop):Prop:=HCalls Tryz.prog 162 [.pointer w1,.int .i64 kind1,.int .i64 n1] h k
def C.slices_Clone_int_int (sA1:Option Addr) (sL1:Nat) (sC1:Nat) (h:Heap) (k:Value→Heap→Prop):Prop:=HCalls Tryz.prog 163 [.slice sA1 sL1 sC1] h k
def C.strings_IndexByte (s1:ByteArray) (c1:Int) (h:Heap) (k:Value→Heap→Prop):Prop:=HCalls Tryz.prog 164 [.string s1,.int .u8 c1] h k
def C.inode_isInode (g1:List Value) (n1:Int) (h:Heap) (k:Value→Heap→Prop):Prop:=HCalls Tryz.prog 165 [.agg ⟨g1⟩,.int .i64 n1] h k
def C.inode_place (t1:Option Addr) (g1:List Value) (n1:Int) (h:Heap) (k:Value→Heap→Prop):Prop:=HCalls Tryz.prog 166 [.pointer t1,.agg ⟨g1⟩,.int .i64 n1] h k
def C.inode_Decode (bA1:Option Addr) (bL1:Nat) (bC1:Nat) (h:Heap) (k:Value→Heap→Prop):Prop:=HCalls Tryz.prog 167 [.slice bA1 bL1 bC1] h k
def C.path_pieces_c1 (yield1:Value) (x1:Option Addr) (h:Heap) (k:Value→Heap→Prop):Prop:=HCalls Tryz.prog 181 [yield1,.pointer x1] h k
def C.adisk_Disk_Blocks (d1:Option Addr) (h:Heap) (k:Value→Heap→Prop):Prop:=HCalls Tryz.prog 187 [.pointer d1] h k
def C.slices_Clone_byte_byte (sA1:Option Addr) (sL1:Nat) (sC1:Nat) (h:Heap) (k:Value→Heap→Prop):Prop:=HCalls Tryz.prog 189 [.slice sA1 sL1 sC1] h k
def C.adisk_Disk_Read (d1:Option Addr) (i1:Int) (h:Heap) (k:Value→Heap→Prop):Prop:=HCalls Tryz.prog 199 [.pointer d1,.int .i64 i1] h k
def C.strings_IndexAny (s1:ByteArray) (chars1:ByteArray) (h:Heap) (k:Value→Heap→Prop):Prop:=HCalls Tryz.prog 202 [.string s1,.string chars1] h k
def C.bmap_file_walk (f1:Option Addr) (k1:Int) (hole1:Value) (h:Heap) (k:Value→Heap→Prop):Prop:=HCalls Tryz.prog 203 [.pointer f1,.int .i64 k1,hole1] h k
def C.bmap_Find_c1 (x1:List Value) (x2:Int) (xA1:Option Addr) (xL1:Nat) (xC1:Nat) (h:Heap) (k:Value→Heap→Prop):Prop:=HCalls Tryz.prog 204 [.agg ⟨x1⟩,.int .i64 x2,.slice xA1 xL1 xC1] h k
def C.slots_read (cA1:Option Addr) (cL1:Nat) (cC1:Nat) (h:Heap) (k:Value→Heap→Prop):Prop:=HCalls Tryz.prog 205 [.slice cA1 cL1 cC1] h k
def C.rec_isWidth (n1:Int) (h:Heap) (k:Value→Heap→Prop):Prop:=HCalls Tryz.prog 211 [.int .i64 n1] h k
def C.rec_lie (bA1:Option Addr) (bL1:Nat) (bC1:Nat) (at1:Int) (n1:Int) (h:Heap) (k:Value→Heap→Prop):Prop:=HCalls Tryz.prog 212 [.slice bA1 bL1 bC1,.int .i64 at1,.int .i64 n1] h k
def C.rec_Get (bA1:Option Addr) (bL1:Nat) (bC1:Nat) (at1:Int) (n1:Int) (h:Heap) (k:Value→Heap→Prop):Prop:=HCalls Tryz.prog 224 [.slice bA1 bL1 bC1,.int .i64 at1,.int .i64 n1] h k
def C.walk_walk_thing (w1:Option Addr) (x1:Int) (h:Heap) (k:Value→Heap→Prop):Prop:=HCalls Tryz.prog 225 [.pointer w1,.int .i64 x1] h k
def C.walk_walk_directory (w1:Option Addr) (n1:Int) (h:Heap) (k:Value→Heap→Prop):Prop:=HCalls Tryz.prog 226 [.pointer w1,.int .i64 n1] h k
def C.walk_walk_link (w1:Option Addr) (n1:Int) (h:Heap) (k:Value→Heap→Prop):Prop:=HCalls Tryz.prog 227 [.pointer w1,.int .i64 n1] h k
def C.internal_stringslite_IndexByte (s1:ByteArray) (c1:Int) (h:Heap) (k:Value→Heap→Prop):Prop:=HCalls Tryz.prog 228 [.string s1,.int .u8 c1] h k
def C.inode_within (v1:Int) (low1:Int) (high1:Int) (h:Heap) (k:Value→Heap→Prop):Prop:=HCalls Tryz.prog 229 [.int .i64 v1,.int .i64 low1,.int .i64 high1] h k
def C.geo_Record (g1:List Value) (n1:Int) (h:Heap) (k:Value→Heap→Prop):Prop:=HCalls Tryz.prog 230 [.agg ⟨g1⟩,.int .i64 n1] h k
def C.inode_Decode_c1 (at1:Int) (n1:Int) (x1:Option Addr) (h:Heap) (k:Value→Heap→Prop):Prop:=HCalls Tryz.prog 231 [.int .i64 at1,.int .i64 n1,.pointer x1] h k
def C.rec_Zero (bA1:Option Addr) (bL1:Nat) (bC1:Nat) (at1:Int) (n1:Int) (h:Heap) (k:Value→Heap→Prop):Prop:=HCalls Tryz.prog 232 [.slice bA1 bL1 bC1,.int .i64 at1,.int .i64 n1] h k
def C.inode_may (x1:List Value) (h:Heap) (k:Value→Heap→Prop):Prop:=HCalls Tryz.prog 233 [.agg ⟨x1⟩] h k
def C.adisk_Disk_has (d1:Option Addr) (i1:Int) (h:Heap) (k:Value→Heap→Prop):Prop:=HCalls Tryz.prog 268 [.pointer d1,.int .i64 i1] h k
def C.strings_IndexRune (s1:ByteArray) (r1:Int) (h:Heap) (k:Value→Heap→Prop):Prop:=HCalls Tryz.prog 269 [.string s1,.int .i32 r1] h k
def C.strings_shouldUseASCIISet (bufLen1:Int) (h:Heap) (k:Value→Heap→Prop):Prop:=HCalls Tryz.prog 270 [.int .i64 bufLen1] h k
def C.strings_makeASCIISet (chars1:ByteArray) (h:Heap) (k:Value→Heap→Prop):Prop:=HCalls Tryz.prog 271 [.string chars1] h k
def C.strings_asciiSet_contains (as1:Option Addr) (c1:Int) (h:Heap) (k:Value→Heap→Prop):Prop:=HCalls Tryz.prog 272 [.pointer as1,.int .u8 c1] h k
def C.bmap_way (k1:Int) (h:Heap) (k:Value→Heap→Prop):Prop:=HCalls Tryz.prog 273 [.int .i64 k1] h k
def C.bmap_file_number (f1:Option Addr) (s1:List Value) (at1:Int) (h:Heap) (k:Value→Heap→Prop):Prop:=HCalls Tryz.prog 274 [.pointer f1,.agg ⟨s1⟩,.int .i64 at1] h k
def C.bmap_file_own (f1:Option Addr) (s1:List Value) (h:Heap) (k:Value→Heap→Prop):Prop:=HCalls Tryz.prog 276 [.pointer f1,.agg ⟨s1⟩] h k
def C.inode_numbers (x1:List Value) (h:Heap) (k:Value→Heap→Prop):Prop:=HCalls Tryz.prog 277 [.agg ⟨x1⟩] h k
def C.walk_walk_more (w1:Option Addr) (h:Heap) (k:Value→Heap→Prop):Prop:=HCalls Tryz.prog 283 [.pointer w1] h k
def C.walk_row_down (r1:Option Addr) (n1:Int) (h:Heap) (k:Value→Heap→Prop):Prop:=HCalls Tryz.prog 284 [.pointer r1,.int .i64 n1] h k
def C.file_Read (t1:Option Addr) (g1:List Value) (n1:Int) (off1:Int) (size1:Int) (h:Heap) (k:Value→Heap→Prop):Prop:=HCalls Tryz.prog 285 [.pointer t1,.agg ⟨g1⟩,.int .i64 n1,.int .i64 off1,.int .i64 size1] h k
def C.path_Text (s1:ByteArray) (h:Heap) (k:Value→Heap→Prop):Prop:=HCalls Tryz.prog 286 [.string s1] h k
def C.slices_Clone_string_string (sA1:Option Addr) (sL1:Nat) (sC1:Nat) (h:Heap) (k:Value→Heap→Prop):Prop:=HCalls Tryz.prog 287 [.slice sA1 sL1 sC1] h k
def C.rec_zeros (bA1:Option Addr) (bL1:Nat) (bC1:Nat) (h:Heap) (k:Value→Heap→Prop):Prop:=HCalls Tryz.prog 289 [.slice bA1 bL1 bC1] h k
def C.unicode_utf8_ValidRune (r1:Int) (h:Heap) (k:Value→Heap→Prop):Prop:=HCalls Tryz.prog 311 [.int .i32 r1] h k
def C.file_parts (off1:Int) (n1:Int) (h:Heap) (k:Value→Heap→Prop):Prop:=HCalls Tryz.prog 315 [.int .i64 off1,.int .i64 n1] h k
def C.file_block (t1:Option Addr) (g1:List Value) (x1:List Value) (k1:Int) (h:Heap) (k:Value→Heap→Prop):Prop:=HCalls Tryz.prog 316 [.pointer t1,.agg ⟨g1⟩,.agg ⟨x1⟩,.int .i64 k1] h k
def C.strings_Builder_Write (b1:Option Addr) (pA1:Option Addr) (pL1:Nat) (pC1:Nat) (h:Heap) (k:Value→Heap→Prop):Prop:=HCalls Tryz.prog 317 [.pointer b1,.slice pA1 pL1 pC1] h k
def C.strings_Builder_String (b1:Option Addr) (h:Heap) (k:Value→Heap→Prop):Prop:=HCalls Tryz.prog 318 [.pointer b1] h k
def C.file_parts_c1 (yield1:Value) (x1:Option Addr) (x2:Option Addr) (h:Heap) (k:Value→Heap→Prop):Prop:=HCalls Tryz.prog 334 [yield1,.pointer x1,.pointer x2] h k
def C.strings_Builder_copyCheck (b1:Option Addr) (h:Heap) (k:Value→Heap→Prop):Prop:=HCalls Tryz.prog 335 [.pointer b1] h k
end Go.Proofs.YtiapingedfnlnaaGreatDoor.W
namespace Go.Proofs.YtiapingedfnlnaaGreatDoor.W
open Go Go.Proofs Wx
def bolelaw16_WalkThrough.k5 (h21:Heap) (n10:Int) (f1:Int) (b3:Option Addr) (h32:Heap) (K:Value→Heap→Prop):Prop :=
 C.bolelaw16_num n10 h32 fun r15 h33 =>
 ∃ (n15:Int),r15 = .int .i64 n15 ∧
 bif (n15 == 162) then (
 K (.bool true) h33) else (
 bif (n10 == f1) then (
 ∃ (s8:ByteArray),cellOf h33 (Addr.add ⟨h21.size,0,none⟩ 1)=some (.string s8) ∧
 onSome b3 fun p10 =>
 ∃ (s9:ByteArray),cellOf h33 (Addr.add p10 1)=some (.string s9) ∧
 bif (s8.toList == s9.toList) then (
 ∃ (n16:Int),cellOf h33 (Addr.add ⟨h21.size,0,none⟩ 2)=some (.int .i64 n16) ∧
 onSome b3 fun p11 =>
 ∃ (n17:Int),cellOf h33 (Addr.add p11 2)=some (.int .i64 n17) ∧
 bif (n16 == n17) then (
 ∃ (sA8:Option Addr) (sL8:Nat) (sC8:Nat),cellOf h33 (Addr.add ⟨h21.size,0,none⟩ 0)=some (.slice sA8 sL8 sC8) ∧
 onSome b3 fun p12 =>
 ∃ (sA9:Option Addr) (sL9:Nat) (sC9:Nat),cellOf h33 (Addr.add p12 0)=some (.slice sA9 sL9 sC9) ∧
 C.bolelaw16_same sA8 sL8 sC8 sA9 sL9 sC9 h33 fun r16 h34 =>
 ∃ (b5:Bool),r16 = .bool b5 ∧
 K (.bool b5) h34) else (
 K (.bool false) h33)) else (
 K (.bool false) h33)) else (
 K (.bool false) h33))
def bolelaw16_WalkThrough.k4 (rest1:ByteArray) (h3:Heap) (q1:Option Addr) (s4:ByteArray) (h21:Heap) (n10:Int) (f1:Int) (b3:Option Addr) (h27:Heap) (K:Value→Heap→Prop):Prop :=
 ∃ cs7:List Value,List.length cs7=5∧Cells h27 ⟨h3.size,0,none⟩ cs7 ∧
 (((mkStr [47,46,47]).size+((((mkStr [47])++s4)++(mkStr [47]))++rest1).size:Nat):Int)≤9223372036854775807 ∧
 C.walk_To q1 cs7 ((mkStr [47,46,47])++((((mkStr [47])++s4)++(mkStr [47]))++rest1)) false h27 fun r13 h28 =>
 ∃ (cs8:List Value) (n12:Int),r13 = .tuple #[.agg ⟨cs8⟩,.int .i64 n12] ∧
 NewRow z66 66 cs8 3 h28 fun h30 =>
 bif (decide ((IntKind.wrap .i64 ((((((mkStr [47])++s4)++(mkStr [47]))++rest1).size:Int)+3))≤1024)) then (
 bif (n10 != n12) then (
 K (.bool false) h30) else (
 ∃ (s6:ByteArray),cellOf h30 (Addr.add ⟨h21.size,0,none⟩ 1)=some (.string s6) ∧
 ∃ (s7:ByteArray),cellOf h30 (Addr.add ⟨h28.size,0,none⟩ 1)=some (.string s7) ∧
 bif (!(s6.toList == s7.toList)) then (
 K (.bool false) h30) else (
 ∃ (n13:Int),cellOf h30 (Addr.add ⟨h21.size,0,none⟩ 2)=some (.int .i64 n13) ∧
 ∃ (n14:Int),cellOf h30 (Addr.add ⟨h28.size,0,none⟩ 2)=some (.int .i64 n14) ∧
 bif (n13 != n14) then (
 K (.bool false) h30) else (
 ∃ (sA6:Option Addr) (sL6:Nat) (sC6:Nat),cellOf h30 (Addr.add ⟨h21.size,0,none⟩ 0)=some (.slice sA6 sL6 sC6) ∧
 ∃ (sA7:Option Addr) (sL7:Nat) (sC7:Nat),cellOf h30 (Addr.add ⟨h28.size,0,none⟩ 0)=some (.slice sA7 sL7 sC7) ∧
 C.bolelaw16_same sA6 sL6 sC6 sA7 sL7 sC7 h30 fun r14 h31 =>
 ∃ (b4:Bool),r14 = .bool b4 ∧
 bif (!b4) then (
 K (.bool false) h31) else (
 bolelaw16_WalkThrough.k5 h21 n10 f1 b3 h31 K))))) else (
 bolelaw16_WalkThrough.k5 h21 n10 f1 b3 h30 K)
def bolelaw16_WalkThrough.k3 (rest1:ByteArray) (h3:Heap) (q1:Option Addr) (sA1:Option Addr) (sL1:Nat) (n5:Int) (s4:ByteArray) (h20:Heap) (K:Value→Heap→Prop):Prop :=
 ∃ cs3:List Value,List.length cs3=5∧Cells h20 ⟨h3.size,0,none⟩ cs3 ∧
 C.walk_To q1 cs3 ((((mkStr [47])++s4)++(mkStr [47]))++rest1) false h20 fun r11 h21 =>
 ∃ (cs4:List Value) (n10:Int),r11 = .tuple #[.agg ⟨cs4⟩,.int .i64 n10] ∧
 NewRow z66 66 cs4 3 h21 fun h23 =>
 ∃ cs5:List Value,List.length cs5=5∧Cells h23 ⟨h3.size,0,none⟩ cs5 ∧
 (0≤n5∧n5<(sL1:Int)) ∧
 onSome sA1 fun p8 =>
 ∃ (q6:Option Addr),cellOf h23 (Addr.add p8 (Int.toNat n5))=some (.pointer q6) ∧
 onSome q6 fun p9 =>
 ∃ (s5:ByteArray),cellOf h23 (Addr.add p9 3)=some (.string s5) ∧
 (((mkStr [47]).size+s5.size:Nat):Int)≤9223372036854775807 ∧
 ((((mkStr [47])++s5).size+(mkStr [47]).size:Nat):Int)≤9223372036854775807 ∧
 (((((mkStr [47])++s5)++(mkStr [47])).size+rest1.size:Nat):Int)≤9223372036854775807 ∧
 (
 C.walk_To q1 cs5 ((((mkStr [47])++s5)++(mkStr [47]))++rest1) false h23 fun r12 h24 =>
 ∃ (cs6:List Value) (n11:Int),r12 = .tuple #[.agg ⟨cs6⟩,.int .i64 n11] ∧
 New z66 66 h24 fun h25 =>
 (List.length (cs5:List Value)=5∧Cells h25 ⟨h3.size,0,none⟩ cs5) ∧
 (cellOf h25 (Addr.add p8 (Int.toNat n5))=some (.pointer q6)) ∧
 (cellOf h25 (Addr.add p9 3)=some (.string s5)) ∧
 PutRow ⟨h24.size,0,none⟩ cs6 3 h25 fun h26 =>
 bolelaw16_WalkThrough.k4 rest1 h3 q1 s4 h21 n10 n11 (some ⟨h24.size,0,none⟩) h26 K) ∧
 New z66 66 h23 fun h35 =>
 (List.length (cs5:List Value)=5∧Cells h35 ⟨h3.size,0,none⟩ cs5) ∧
 (cellOf h35 (Addr.add p8 (Int.toNat n5))=some (.pointer q6)) ∧
 (cellOf h35 (Addr.add p9 3)=some (.string s5)) ∧
 C.walk_To q1 cs5 ((((mkStr [47])++s5)++(mkStr [47]))++rest1) false h35 fun r17 h36 =>
 ∃ (cs9:List Value) (n18:Int),r17 = .tuple #[.agg ⟨cs9⟩,.int .i64 n18] ∧
 PutRow ⟨h23.size,0,none⟩ cs9 3 h36 fun h37 =>
 bolelaw16_WalkThrough.k4 rest1 h3 q1 s4 h21 n10 n18 (some ⟨h23.size,0,none⟩) h37 K
def bolelaw16_WalkThrough.k2 (rest1:ByteArray) (which1:Int) (h3:Heap) (q1:Option Addr) (sA1:Option Addr) (sL1:Nat) (linksA1:Option Addr) (linksL1:Nat) (h14:Heap) (K:Value→Heap→Prop):Prop :=
 if (IntKind.wrap .u64 ((linksL1:Int)))=0 then False else
 (0≤(IntKind.wrap .i64 ((Int.tmod (IntKind.wrap .u64 (which1)) (IntKind.wrap .u64 ((linksL1:Int))))))∧(IntKind.wrap .i64 ((Int.tmod (IntKind.wrap .u64 (which1)) (IntKind.wrap .u64 ((linksL1:Int))))))<(linksL1:Int)) ∧
 onSome linksA1 fun p4 =>
 ∃ (n5:Int),cellOf h14 (Addr.add p4 (Int.toNat (IntKind.wrap .i64 ((Int.tmod (IntKind.wrap .u64 (which1)) (IntKind.wrap .u64 ((linksL1:Int))))))))=some (.int .i64 n5) ∧
 (0≤n5∧n5<(sL1:Int)) ∧
 onSome sA1 fun p5 =>
 ∃ (q4:Option Addr),cellOf h14 (Addr.add p5 (Int.toNat n5))=some (.pointer q4) ∧
 onSome q4 fun p6 =>
 ∃ (s3:ByteArray),cellOf h14 (Addr.add p6 3)=some (.string s3) ∧
 (((mkStr [47]).size+s3.size:Nat):Int)≤9223372036854775807 ∧
 ((((mkStr [47])++s3).size+(mkStr [47]).size:Nat):Int)≤9223372036854775807 ∧
 (((((mkStr [47])++s3)++(mkStr [47])).size+rest1.size:Nat):Int)≤9223372036854775807 ∧
 C.path_Parse ((((mkStr [47])++s3)++(mkStr [47]))++rest1) h14 fun r6 h15 =>
 ∃ (sA4:Option Addr) (sL4:Nat) (sC4:Nat) (n6:Int),r6 = .tuple #[.slice sA4 sL4 sC4,.int .i64 n6] ∧
 (0≤(1:Int)∧1<(sL1:Int)) ∧
 onSome sA1 fun p7 =>
 ∃ (q5:Option Addr),cellOf h15 (Addr.add p7 (Int.toNat 1))=some (.pointer q5) ∧
 C.bolelaw16_Node_nameOf q5 n5 h15 fun r7 h16 =>
 ∃ (s4:ByteArray),r7 = .string s4 ∧
 (((mkStr [47]).size+s4.size:Nat):Int)≤9223372036854775807 ∧
 ((((mkStr [47])++s4).size+(mkStr [47]).size:Nat):Int)≤9223372036854775807 ∧
 (((((mkStr [47])++s4)++(mkStr [47])).size+rest1.size:Nat):Int)≤9223372036854775807 ∧
 C.path_Parse ((((mkStr [47])++s4)++(mkStr [47]))++rest1) h16 fun r8 h17 =>
 ∃ (sA5:Option Addr) (sL5:Nat) (sC5:Nat) (n7:Int),r8 = .tuple #[.slice sA5 sL5 sC5,.int .i64 n7] ∧
 C.bolelaw16_num n6 h17 fun r9 h18 =>
 ∃ (n8:Int),r9 = .int .i64 n8 ∧
 bif (n8 != 0) then (
 K (.bool true) h18) else (
 C.bolelaw16_num n7 h18 fun r10 h19 =>
 ∃ (n9:Int),r10 = .int .i64 n9 ∧
 bif (n9 != 0) then (
 K (.bool true) h19) else (
 bif ((sL4:Int) == 0) then (
 K (.bool true) h19) else (
 bolelaw16_WalkThrough.k3 rest1 h3 q1 sA1 sL1 n5 s4 h19 K)))
def bolelaw16_WalkThrough.k1 (rest1:ByteArray) (which1:Int) (h3:Heap) (q1:Option Addr) (sA1:Option Addr) (sL1:Nat) (h7:Heap) (K:Value→Heap→Prop):Prop :=
 ∃ (I1:Option Addr→Nat→Nat→Int→Heap→Prop) (M1:Option Addr→Nat→Nat→Int→Heap→Nat),I1 none 0 0 0 h7 ∧
 ∀ (linksA1:Option Addr) (linksL1:Nat) (linksC1:Nat) (n1:Int),∀ h8:Heap,I1 linksA1 linksL1 linksC1 n1 h8 →
 bif (decide (n1<(sL1:Int))) then (
 (0≤n1∧n1<(sL1:Int)) ∧
 onSome sA1 fun p1 =>
 ∃ (q2:Option Addr),cellOf h8 (Addr.add p1 (Int.toNat n1))=some (.pointer q2) ∧
 bif (decide (n1>0)) then (
 onSome q2 fun p2 =>
 ∃ (n2:Int),cellOf h8 (Addr.add p2 0)=some (.int .i64 n2) ∧
 bif (n2 == 3) then (
 (0≤(1:Int)∧1<(sL1:Int)) ∧
 onSome sA1 fun p3 =>
 ∃ (q3:Option Addr),cellOf h8 (Addr.add p3 (Int.toNat 1))=some (.pointer q3) ∧
 C.bolelaw16_Node_nameOf q3 n1 h8 fun r3 h9 =>
 ∃ (s2:ByteArray),r3 = .string s2 ∧
 bif (!(s2.toList == (mkStr []).toList)) then (
 New [.int .i64 n1] 3 h9 fun h10 =>
 ∃ new1:List Value,List.length new1=1*1∧SlCells h10 (some ⟨h9.size,0,none⟩) new1∧(∀ v ∈ new1,v.oneCell'=true) ∧
 AppendP ti3 3 linksA1 linksL1 linksC1 1 new1 h10 fun sA2 sL2 sC2 h11 =>
 I1 sA2 sL2 sC2 (IntKind.wrap .i64 (n1+1)) h11∧M1 sA2 sL2 sC2 (IntKind.wrap .i64 (n1+1)) h11<M1 linksA1 linksL1 linksC1 n1 h8) else (
 I1 linksA1 linksL1 linksC1 (IntKind.wrap .i64 (n1+1)) h9∧M1 linksA1 linksL1 linksC1 (IntKind.wrap .i64 (n1+1)) h9<M1 linksA1 linksL1 linksC1 n1 h8)) else (
 I1 linksA1 linksL1 linksC1 (IntKind.wrap .i64 (n1+1)) h8∧M1 linksA1 linksL1 linksC1 (IntKind.wrap .i64 (n1+1)) h8<M1 linksA1 linksL1 linksC1 n1 h8)) else (
 I1 linksA1 linksL1 linksC1 (IntKind.wrap .i64 (n1+1)) h8∧M1 linksA1 linksL1 linksC1 (IntKind.wrap .i64 (n1+1)) h8<M1 linksA1 linksL1 linksC1 n1 h8)) else (
 (((mkStr [47]).size+rest1.size:Nat):Int)≤9223372036854775807 ∧
 C.path_Parse ((mkStr [47])++rest1) h8 fun r4 h12 =>
 ∃ (sA3:Option Addr) (sL3:Nat) (sC3:Nat) (n3:Int),r4 = .tuple #[.slice sA3 sL3 sC3,.int .i64 n3] ∧
 bif ((linksL1:Int) == 0) then (
 K (.bool true) h12) else (
 C.bolelaw16_num n3 h12 fun r5 h13 =>
 ∃ (n4:Int),r5 = .int .i64 n4 ∧
 bif (n4 != 0) then (
 K (.bool true) h13) else (
 bif ((sL3:Int) == 0) then (
 K (.bool true) h13) else (
 bolelaw16_WalkThrough.k2 rest1 which1 h3 q1 sA1 sL1 linksA1 linksL1 h13 K))))
def bolelaw16_WalkThrough (s1:List Value) (rest1:ByteArray) (which1:Int) (K:Value→Heap→Prop) (h1:Heap):Prop :=
 New s1 54 h1 fun h2 =>
 ∃ cs1:List Value,List.length cs1=3∧Cells h2 ⟨h1.size,0,none⟩ cs1 ∧
 C.bolelaw16_Setup_right cs1 h2 fun r1 h3 =>
 ∃ (q1:Option Addr) (cs2:List Value) (sA1:Option Addr) (sL1:Nat) (sC1:Nat) (b1:Bool),r1 = .tuple #[.pointer q1,.agg ⟨cs2⟩,.slice sA1 sL1 sC1,.bool b1] ∧
 NewRow z25 25 cs2 5 h3 fun h5 =>
 bif (!b1) then (
 K (.bool false) h5) else (
 C.bolelaw16_known  h5 fun r2 h6 =>
 ∃ (b2:Bool),r2 = .bool b2 ∧
 bif (!b2) then (
 K (.bool false) h6) else (
 bolelaw16_WalkThrough.k1 rest1 which1 h3 q1 sA1 sL1 h6 K))
def bolelaw16_WalkThrough.lo : Nat→List Nat×List (Nat×Ty):=fun n=>match n with|6=>([1,2,7,8,9,38,39],[(11,.slice),(40,.int .i64)])|_=>([],[])
def bolelaw16_WalkThrough.od : Nat→Od:=fun n=>match n with|21=>(.op 0 [] (.op 1 [] (.op 2 [] (.op 3 [] (.op 4 [] (.op 5 [] (.op 6 [] (.op 7 [] (.op 8 [] (.op 9 [] (.op 10 [] (.op 11 [] (.op 12 [] (.alt 13 [] (.op 14 [] (.op 15 [] (.op 16 [] (.op 17 [1,5,8] (.op 18 [] (.op 19 [] .nil)))))) (.op 17 [1,5,8] (.op 13 [] (.op 14 [] (.op 15 [] (.op 16 [] (.op 18 [] (.op 19 [] .nil)))))))))))))))))))))|_ => .nil
theorem bolelaw16_WalkThrough.ok {s1:List Value} {rest1:ByteArray} {which1:Int} {K:Value→Heap→Prop} {h:Heap} (hx:bolelaw16_WalkThrough s1 rest1 which1 K h):C.bolelaw16_WalkThrough s1 rest1 which1 h K :=
 fn_to (c:=Tryz.f5.body.getD .skip) (cxOk bolelaw16_WalkThrough.lo bolelaw16_WalkThrough.od) Tryz.func5 (by kernel_rfl) (by kernel_rfl) (Eq.mpr (by kernel_rfl) hx)
end Go.Proofs.YtiapingedfnlnaaGreatDoor.W
namespace Go.Proofs.YtiapingedfnlnaaGreatDoor.W
open Go Go.Proofs Wx
def dir_List (t1:Option Addr) (g1:List Value) (n1:Int) (K:Value→Heap→Prop) (h1:Heap):Prop :=
 New g1 25 h1 fun h2 =>
 ∃ cs1:List Value,List.length cs1=5∧Cells h2 ⟨h1.size,0,none⟩ cs1 ∧
 C.dir_open t1 cs1 n1 h2 fun r1 h3 =>
 ∃ (cs2:List Value),r1 = .agg ⟨cs2⟩ ∧
 NewRow z144 144 cs2 23 h3 fun h5 =>
 New z41 41 h5 fun h6 =>
 C.dir_reader_leaves (some ⟨h3.size,0,none⟩) h6 fun r2 h7 =>
 ∃ (v1:Value),r2=v1 ∧
 ∀ (R1:Loop),
 (∀ (cs3:List Value),∀ (h8:Heap) (k1:Value→Heap→Prop),LoopOn h8 (h7.size+1) R1 .ready none →
 (
 NewRow z150 150 cs3 4 h8 fun h10 =>
 LoopOn h10 (h7.size+1) R1 .ready none ∧
 SetL h10 (h7.size+1) R1 .busy none fun h11 =>
 ∃ (sA1:Option Addr) (sL1:Nat) (sC1:Nat),cellOf h11 (Addr.add ⟨h8.size,0,none⟩ 3)=some (.slice sA1 sL1 sC1) ∧
 ∃ (I1:Int→Heap→Prop) (M1:Int→Heap→Nat),I1 0 h11 ∧
 ∀ (n2:Int),∀ h12:Heap,I1 n2 h12 →
 bif (decide (n2<(sL1:Int))) then (
 (0≤n2∧n2<(sL1:Int)) ∧
 onSome sA1 fun p1 =>
 ∃ cs4:List Value,List.length cs4=3∧Cells h12 (Addr.add p1 ((Int.toNat n2)*3)) cs4 ∧
 NewRow z113 113 cs4 3 h12 fun h14 =>
 ∃ (n3:Int),cellOf h14 (Addr.add ⟨h12.size,0,none⟩ 0)=some (.int .i64 n3) ∧
 ∃ (n4:Int),cellOf h14 (Addr.add ⟨h8.size,0,none⟩ 0)=some (.int .i64 n4) ∧
 Put (Addr.add ⟨h12.size,0,none⟩ 0) (.int .i64 (IntKind.wrap .i64 (n3+(IntKind.wrap .i64 (16*n4))))) h14 fun h15 =>
 ∃ (sA2:Option Addr) (sL2:Nat) (sC2:Nat),cellOf h15 ⟨h5.size,0,none⟩=some (.slice sA2 sL2 sC2) ∧
 ∃ cs5:List Value,List.length cs5=3∧Cells h15 ⟨h12.size,0,none⟩ cs5 ∧
 List.length (cs5:List Value)=3 ∧
 New cs5 113 h15 fun h16 =>
 ∃ new1:List Value,List.length new1=1*3∧SlCells h16 (some ⟨h15.size,0,none⟩) new1∧(∀ v ∈ new1,v.oneCell'=true) ∧
 AppendP ti113 113 sA2 sL2 sC2 1 new1 h16 fun sA3 sL3 sC3 h17 =>
 Put ⟨h5.size,0,none⟩ (.slice sA3 sL3 sC3) h17 fun h18 =>
 I1 (IntKind.wrap .i64 (n2+1)) h18∧M1 (IntKind.wrap .i64 (n2+1)) h18<M1 n2 h12) else (
 LoopOn h12 (h7.size+1) R1 .busy none ∧
 k1 (.bool true) (setLoop h12 (h7.size+1) R1 .ready none))) →
 YCalls Tryz.prog (h7.size+1) [.agg ⟨cs3⟩] h8 k1) →
 HCallsF Tryz.prog v1 [.func (.yield (h7.size+1)) #[] #[]] (beginL h7 R1) fun _ h19 =>
 ∃ (st1:LoopState) (pend1:Option Code),LoopOn h19 (h7.size+1) R1 st1 pend1∧st1 ≠ .busy ∧
 pendX pend1 (
 SetL h19 (h7.size+1) R1 .exhausted pend1 fun h20 =>
 ∃ (n5:Int),cellOf h20 (Addr.add ⟨h3.size,0,none⟩ 22)=some (.int .i64 n5) ∧
 bif (n5 != 0) then (
 ∃ (n6:Int),cellOf h20 (Addr.add ⟨h3.size,0,none⟩ 22)=some (.int .i64 n6) ∧
 EndD h7.size h20 fun h21 =>
 K (.tuple #[.slice none 0 0,.int .i64 n6]) h21) else (
 ∃ (sA4:Option Addr) (sL4:Nat) (sC4:Nat),cellOf h20 ⟨h5.size,0,none⟩=some (.slice sA4 sL4 sC4) ∧
 C.slices_SortFunc_api_Entry_api_Entry sA4 sL4 sC4 (Value.func (.func 79) #[] ⟨[]⟩) h20 fun r3 h22 =>
 r3 = .tuple #[] ∧
 ∃ (sA5:Option Addr) (sL5:Nat) (sC5:Nat),cellOf h22 ⟨h5.size,0,none⟩=some (.slice sA5 sL5 sC5) ∧
 EndD h7.size h22 fun h23 =>
 K (.tuple #[.slice sA5 sL5 sC5,.int .i64 0]) h23)) (
 False) (fun _=>False)
def dir_List.lo : Nat→List Nat×List (Nat×Ty):=fun n=>match n with|6=>([9,10,20,21],[(22,.int .i64)])|1000004=>([],[(18,.agg)])|_=>([],[])
def dir_List.od : Nat→Od:=fun n=>match n with|12=>(.op 0 [] (.op 1 [] (.op 2 [] (.op 3 [] .nil))))|_ => .nil
theorem dir_List.ok {t1:Option Addr} {g1:List Value} {n1:Int} {K:Value→Heap→Prop} {h:Heap} (hx:dir_List t1 g1 n1 K h):C.dir_List t1 g1 n1 h K :=
 fn_to (c:=Tryz.f20.body.getD .skip) (cxOk dir_List.lo dir_List.od) Tryz.func20 (by kernel_rfl) (by kernel_rfl) (Eq.mpr (by kernel_rfl) hx)
end Go.Proofs.YtiapingedfnlnaaGreatDoor.W
namespace Go.Proofs.YtiapingedfnlnaaGreatDoor.W
open Go Go.Proofs Wx
def dir_Find (t1:Option Addr) (g1:List Value) (n1:Int) (name1:ByteArray) (K:Value→Heap→Prop) (h1:Heap):Prop :=
 New g1 25 h1 fun h2 =>
 ∃ cs1:List Value,List.length cs1=5∧Cells h2 ⟨h1.size,0,none⟩ cs1 ∧
 C.dir_find t1 cs1 n1 name1 h2 fun r1 h3 =>
 ∃ (q1:Option Addr),r1 = .pointer q1 ∧
 onSome q1 fun p1 =>
 ∃ (n2:Int),cellOf h3 (Addr.add (Addr.add p1 27) 2)=some (.int .i64 n2) ∧
 onSome q1 fun p2 =>
 ∃ (n3:Int),cellOf h3 (Addr.add (Addr.add p2 0) 22)=some (.int .i64 n3) ∧
 K (.tuple #[.int .i64 n2,.int .i64 n3]) h3
def dir_Find.lo : Nat→List Nat×List (Nat×Ty):=fun n=>match n with|_=>([],[])
def dir_Find.od : Nat→Od:=fun n=>match n with|2=>(.op 0 [] (.op 1 [] (.op 2 [] (.op 3 [] (.op 4 [] (.op 5 [] (.op 6 [] (.op 7 [] (.op 8 [] (.op 9 [] (.op 10 [] (.op 11 [] .nil))))))))))))|_ => .nil
theorem dir_Find.ok {t1:Option Addr} {g1:List Value} {n1:Int} {name1:ByteArray} {K:Value→Heap→Prop} {h:Heap} (hx:dir_Find t1 g1 n1 name1 K h):C.dir_Find t1 g1 n1 name1 h K :=
 fn_to (c:=Tryz.f26.body.getD .skip) (cxOk dir_Find.lo dir_Find.od) Tryz.func26 (by kernel_rfl) (by kernel_rfl) (Eq.mpr (by kernel_rfl) hx)
def bolelaw16_Setup_right (s1:List Value) (K:Value→Heap→Prop) (h1:Heap):Prop :=
 New s1 54 h1 fun h2 =>
 New z25 25 h2 fun h3 =>
 Put (Addr.add ⟨h1.size,0,none⟩ 2) (.slice none 0 0) h3 fun h4 =>
 ∃ cs1:List Value,List.length cs1=3∧Cells h4 ⟨h1.size,0,none⟩ cs1 ∧
 C.bolelaw16_Setup_image cs1 h4 fun r1 h5 =>
 ∃ (sA1:Option Addr) (sL1:Nat) (sC1:Nat) (cs2:List Value),r1 = .tuple #[.slice sA1 sL1 sC1,.agg ⟨cs2⟩] ∧
 NewRow z25 25 cs2 5 h5 fun h7 =>
 C.bolelaw16_begin sA1 sL1 sC1 h7 fun r2 h8 =>
 ∃ (q1:Option Addr) (b1:Bool),r2 = .tuple #[.pointer q1,.bool b1] ∧
 ∃ cs3:List Value,List.length cs3=5∧Cells h8 ⟨h5.size,0,none⟩ cs3 ∧
 ∃ cs4:List Value,List.length cs4=3∧Cells h8 ⟨h1.size,0,none⟩ cs4 ∧
 C.bolelaw16_Setup_tree cs4 h8 fun r3 h9 =>
 ∃ (sA2:Option Addr) (sL2:Nat) (sC2:Nat),r3 = .slice sA2 sL2 sC2 ∧
 (List.length (cs3:List Value)=5∧Cells h9 ⟨h5.size,0,none⟩ cs3) ∧
 PutRow ⟨h2.size,0,none⟩ cs3 5 h9 fun h10 =>
 ∃ res1:List Value,List.length res1=5∧Cells h10 ⟨h2.size,0,none⟩ res1 ∧
 K (.tuple #[.pointer q1,.agg ⟨res1⟩,.slice sA2 sL2 sC2,.bool b1]) h10
def bolelaw16_Setup_right.lo : Nat→List Nat×List (Nat×Ty):=fun n=>match n with|_=>([],[])
def bolelaw16_Setup_right.od : Nat→Od:=fun n=>match n with|4=>(.op 0 [] (.op 1 [] (.op 2 [] (.op 4 [] (.op 3 [1] (.op 5 [] (.op 6 [] (.op 7 [] (.op 8 [] .nil)))))))))|_ => .nil
theorem bolelaw16_Setup_right.ok {s1:List Value} {K:Value→Heap→Prop} {h:Heap} (hx:bolelaw16_Setup_right s1 K h):C.bolelaw16_Setup_right s1 h K :=
 fn_to (c:=Tryz.f27.body.getD .skip) (cxOk bolelaw16_Setup_right.lo bolelaw16_Setup_right.od) Tryz.func27 (by kernel_rfl) (by kernel_rfl) (Eq.mpr (by kernel_rfl) hx)
def bolelaw16_known.k1 (h9:Heap) (h12:Heap) (h15:Heap) (h23:Heap) (K:Value→Heap→Prop):Prop :=
 ∃ (sA2:Option Addr) (sL2:Nat) (sC2:Nat),cellOf h23 (Addr.add ⟨h9.size,0,none⟩ 0)=some (.slice sA2 sL2 sC2) ∧
 New [.int .i64 1,.int .i64 2,.int .i64 3] 3 h23 fun h24 =>
 C.bolelaw16_same sA2 sL2 sC2 (some ⟨h23.size,0,none⟩) 3 3 h24 fun r11 h25 =>
 ∃ (b2:Bool),r11 = .bool b2 ∧
 bif b2 then (
 ∃ (sA3:Option Addr) (sL3:Nat) (sC3:Nat),cellOf h25 (Addr.add ⟨h12.size,0,none⟩ 0)=some (.slice sA3 sL3 sC3) ∧
 New [.int .i64 1,.int .i64 2,.int .i64 3] 3 h25 fun h26 =>
 C.bolelaw16_same sA3 sL3 sC3 (some ⟨h25.size,0,none⟩) 3 3 h26 fun r12 h27 =>
 ∃ (b3:Bool),r12 = .bool b3 ∧
 bif b3 then (
 ∃ (sA4:Option Addr) (sL4:Nat) (sC4:Nat),cellOf h27 (Addr.add ⟨h15.size,0,none⟩ 0)=some (.slice sA4 sL4 sC4) ∧
 New [.int .i64 1] 3 h27 fun h28 =>
 C.bolelaw16_same sA4 sL4 sC4 (some ⟨h27.size,0,none⟩) 1 1 h28 fun r13 h29 =>
 ∃ (b4:Bool),r13 = .bool b4 ∧
 K (.bool b4) h29) else (
 K (.bool false) h27)) else (
 K (.bool false) h25)
def bolelaw16_known  (K:Value→Heap→Prop) (h1:Heap):Prop :=
 List.length ([.int .i64 0,.int .i64 2,.int .i64 0,.string (mkStr [97]),.string (mkStr [])]:List Value)=5 ∧
 List.length ([.int .i64 1,.int .i64 2,.int .i64 0,.string (mkStr [98]),.string (mkStr [])]:List Value)=5 ∧
 List.length ([.int .i64 2,.int .i64 1,.int .i64 0,.string (mkStr [102]),.string (mkStr [])]:List Value)=5 ∧
 List.length ([.int .i64 0,.int .i64 3,.int .i64 0,.string (mkStr [108]),.string (mkStr [97,47,98])]:List Value)=5 ∧
 List.length ([.int .i64 1,.int .i64 3,.int .i64 0,.string (mkStr [117,112]),.string (mkStr [46,46])]:List Value)=5 ∧
 New [.int .i64 0,.int .i64 2,.int .i64 0,.string (mkStr [97]),.string (mkStr []),.int .i64 1,.int .i64 2,.int .i64 0,.string (mkStr [98]),.string (mkStr []),.int .i64 2,.int .i64 1,.int .i64 0,.string (mkStr [102]),.string (mkStr []),.int .i64 0,.int .i64 3,.int .i64 0,.string (mkStr [108]),.string (mkStr [97,47,98]),.int .i64 1,.int .i64 3,.int .i64 0,.string (mkStr [117,112]),.string (mkStr [46,46])] 175 h1 fun h2 =>
 NewRow z54 54 [.int .i64 0,.slice (some ⟨h1.size,0,none⟩) 5 5,.slice none 0 0] 3 h2 fun h4 =>
 ∃ cs1:List Value,List.length cs1=3∧Cells h4 ⟨h2.size,0,none⟩ cs1 ∧
 C.bolelaw16_Setup_image cs1 h4 fun r1 h5 =>
 ∃ (sA1:Option Addr) (sL1:Nat) (sC1:Nat) (cs2:List Value),r1 = .tuple #[.slice sA1 sL1 sC1,.agg ⟨cs2⟩] ∧
 NewRow z25 25 cs2 5 h5 fun h7 =>
 C.bolelaw16_begin sA1 sL1 sC1 h7 fun r2 h8 =>
 ∃ (q1:Option Addr) (b1:Bool),r2 = .tuple #[.pointer q1,.bool b1] ∧
 bif (!b1) then (
 K (.bool false) h8) else (
 ∃ cs3:List Value,List.length cs3=5∧Cells h8 ⟨h5.size,0,none⟩ cs3 ∧
 C.walk_To q1 cs3 (mkStr [47,108,47,102]) false h8 fun r3 h9 =>
 ∃ (cs4:List Value) (n1:Int),r3 = .tuple #[.agg ⟨cs4⟩,.int .i64 n1] ∧
 NewRow z66 66 cs4 3 h9 fun h11 =>
 ∃ cs5:List Value,List.length cs5=5∧Cells h11 ⟨h5.size,0,none⟩ cs5 ∧
 C.walk_Make q1 cs5 (mkStr [47,108,47,120]) h11 fun r4 h12 =>
 ∃ (cs6:List Value) (n2:Int),r4 = .tuple #[.agg ⟨cs6⟩,.int .i64 n2] ∧
 NewRow z66 66 cs6 3 h12 fun h14 =>
 ∃ cs7:List Value,List.length cs7=5∧Cells h14 ⟨h5.size,0,none⟩ cs7 ∧
 C.walk_To q1 cs7 (mkStr [47,97,47,117,112]) true h14 fun r5 h15 =>
 ∃ (cs8:List Value) (n3:Int),r5 = .tuple #[.agg ⟨cs8⟩,.int .i64 n3] ∧
 NewRow z66 66 cs8 3 h15 fun h17 =>
 ∃ cs9:List Value,List.length cs9=5∧Cells h17 ⟨h5.size,0,none⟩ cs9 ∧
 C.walk_Height q1 cs9 1 h17 fun r6 h18 =>
 ∃ (n4:Int) (n5:Int),r6 = .tuple #[.int .i64 n4,.int .i64 n5] ∧
 C.bolelaw16_num n1 h18 fun r7 h19 =>
 ∃ (n6:Int),r7 = .int .i64 n6 ∧
 bif (n6 != 0) then (
 K (.bool false) h19) else (
 C.bolelaw16_num n2 h19 fun r8 h20 =>
 ∃ (n7:Int),r8 = .int .i64 n7 ∧
 bif (n7 != 0) then (
 K (.bool false) h20) else (
 C.bolelaw16_num n3 h20 fun r9 h21 =>
 ∃ (n8:Int),r9 = .int .i64 n8 ∧
 bif (n8 != 0) then (
 K (.bool false) h21) else (
 C.bolelaw16_num n5 h21 fun r10 h22 =>
 ∃ (n9:Int),r10 = .int .i64 n9 ∧
 bif (n9 != 0) then (
 K (.bool false) h22) else (
 bif (n4 != 3) then (
 K (.bool false) h22) else (
 ∃ (s1:ByteArray),cellOf h22 (Addr.add ⟨h9.size,0,none⟩ 1)=some (.string s1) ∧
 bif (!(s1.toList == (mkStr [102]).toList)) then (
 K (.bool false) h22) else (
 ∃ (n10:Int),cellOf h22 (Addr.add ⟨h9.size,0,none⟩ 2)=some (.int .i64 n10) ∧
 bif (n10 != 4) then (
 K (.bool false) h22) else (
 ∃ (s2:ByteArray),cellOf h22 (Addr.add ⟨h12.size,0,none⟩ 1)=some (.string s2) ∧
 bif (!(s2.toList == (mkStr [120]).toList)) then (
 K (.bool false) h22) else (
 ∃ (n11:Int),cellOf h22 (Addr.add ⟨h12.size,0,none⟩ 2)=some (.int .i64 n11) ∧
 bif (n11 != 0) then (
 K (.bool false) h22) else (
 ∃ (s3:ByteArray),cellOf h22 (Addr.add ⟨h15.size,0,none⟩ 1)=some (.string s3) ∧
 bif (!(s3.toList == (mkStr []).toList)) then (
 K (.bool false) h22) else (
 ∃ (n12:Int),cellOf h22 (Addr.add ⟨h15.size,0,none⟩ 2)=some (.int .i64 n12) ∧
 bif (n12 != 1) then (
 K (.bool false) h22) else (
 bolelaw16_known.k1 h9 h12 h15 h22 K))))))))))))
def bolelaw16_known.lo : Nat→List Nat×List (Nat×Ty):=fun n=>match n with|_=>([],[])
def bolelaw16_known.od : Nat→Od:=fun n=>match n with|_ => .nil
theorem bolelaw16_known.ok  {K:Value→Heap→Prop} {h:Heap} (hx:bolelaw16_known  K h):C.bolelaw16_known  h K :=
 fn_to (c:=Tryz.f28.body.getD .skip) (cxOk bolelaw16_known.lo bolelaw16_known.od) Tryz.func28 (by kernel_rfl) (by kernel_rfl) (Eq.mpr (by kernel_rfl) hx)
def walk_To (t1:Option Addr) (g1:List Value) (s1:ByteArray) (follow1:Bool) (K:Value→Heap→Prop) (h1:Heap):Prop :=
 New g1 25 h1 fun h2 =>
 New z66 66 h2 fun h3 =>
 C.path_Parse s1 h3 fun r1 h4 =>
 ∃ (sA1:Option Addr) (sL1:Nat) (sC1:Nat) (n1:Int),r1 = .tuple #[.slice sA1 sL1 sC1,.int .i64 n1] ∧
 bif (n1 != 0) then (
 PutRow ⟨h2.size,0,none⟩ [.slice none 0 0,.string (mkStr []),.int .i64 0] 3 h4 fun h5 =>
 ∃ res1:List Value,List.length res1=3∧Cells h5 ⟨h2.size,0,none⟩ res1 ∧
 K (.tuple #[.agg ⟨res1⟩,.int .i64 n1]) h5) else (
 ∃ cs1:List Value,List.length cs1=5∧Cells h4 ⟨h1.size,0,none⟩ cs1 ∧
 C.walk_begin t1 cs1 sA1 sL1 sC1 h4 fun r2 h6 =>
 ∃ (q1:Option Addr),r2 = .pointer q1 ∧
 onSome q1 fun p1 =>
 Put (Addr.add p1 9) (.bool follow1) h6 fun h7 =>
 C.walk_walk_end q1 h7 fun r3 h8 =>
 ∃ (cs2:List Value) (n2:Int),r3 = .tuple #[.agg ⟨cs2⟩,.int .i64 n2] ∧
 PutRow ⟨h2.size,0,none⟩ cs2 3 h8 fun h9 =>
 ∃ res2:List Value,List.length res2=3∧Cells h9 ⟨h2.size,0,none⟩ res2 ∧
 K (.tuple #[.agg ⟨res2⟩,.int .i64 n2]) h9)
def walk_To.lo : Nat→List Nat×List (Nat×Ty):=fun n=>match n with|_=>([],[])
def walk_To.od : Nat→Od:=fun n=>match n with|_ => .nil
theorem walk_To.ok {t1:Option Addr} {g1:List Value} {s1:ByteArray} {follow1:Bool} {K:Value→Heap→Prop} {h:Heap} (hx:walk_To t1 g1 s1 follow1 K h):C.walk_To t1 g1 s1 follow1 h K :=
 fn_to (c:=Tryz.f30.body.getD .skip) (cxOk walk_To.lo walk_To.od) Tryz.func30 (by kernel_rfl) (by kernel_rfl) (Eq.mpr (by kernel_rfl) hx)
def walk_Make (t1:Option Addr) (g1:List Value) (s1:ByteArray) (K:Value→Heap→Prop) (h1:Heap):Prop :=
 New g1 25 h1 fun h2 =>
 New z66 66 h2 fun h3 =>
 C.path_Make s1 h3 fun r1 h4 =>
 ∃ (sA1:Option Addr) (sL1:Nat) (sC1:Nat) (s2:ByteArray) (n1:Int),r1 = .tuple #[.slice sA1 sL1 sC1,.string s2,.int .i64 n1] ∧
 bif (n1 != 0) then (
 PutRow ⟨h2.size,0,none⟩ [.slice none 0 0,.string (mkStr []),.int .i64 0] 3 h4 fun h5 =>
 ∃ res1:List Value,List.length res1=3∧Cells h5 ⟨h2.size,0,none⟩ res1 ∧
 K (.tuple #[.agg ⟨res1⟩,.int .i64 n1]) h5) else (
 ∃ cs1:List Value,List.length cs1=5∧Cells h4 ⟨h1.size,0,none⟩ cs1 ∧
 C.walk_begin t1 cs1 sA1 sL1 sC1 h4 fun r2 h6 =>
 ∃ (q1:Option Addr),r2 = .pointer q1 ∧
 bif (s2.toList == (mkStr []).toList) then (
 C.walk_walk_place q1 (mkStr []) 1 h6 fun r3 h7 =>
 ∃ (cs2:List Value),r3 = .agg ⟨cs2⟩ ∧
 PutRow ⟨h2.size,0,none⟩ cs2 3 h7 fun h8 =>
 ∃ res2:List Value,List.length res2=3∧Cells h8 ⟨h2.size,0,none⟩ res2 ∧
 K (.tuple #[.agg ⟨res2⟩,.int .i64 0]) h8) else (
 onSome q1 fun p1 =>
 Put (Addr.add p1 10) (.bool true) h6 fun h9 =>
 C.walk_walk_end q1 h9 fun r4 h10 =>
 ∃ (cs3:List Value) (n2:Int),r4 = .tuple #[.agg ⟨cs3⟩,.int .i64 n2] ∧
 NewRow z66 66 cs3 3 h10 fun h12 =>
 bif (n2 != 0) then (
 PutRow ⟨h2.size,0,none⟩ [.slice none 0 0,.string (mkStr []),.int .i64 0] 3 h12 fun h13 =>
 ∃ res3:List Value,List.length res3=3∧Cells h13 ⟨h2.size,0,none⟩ res3 ∧
 K (.tuple #[.agg ⟨res3⟩,.int .i64 n2]) h13) else (
 ∃ cs4:List Value,List.length cs4=5∧Cells h12 ⟨h1.size,0,none⟩ cs4 ∧
 onSome q1 fun p2 =>
 C.walk_row_here (some (Addr.add p2 0)) h12 fun r5 h14 =>
 ∃ (n3:Int),r5 = .int .i64 n3 ∧
 (List.length (cs4:List Value)=5∧Cells h14 ⟨h1.size,0,none⟩ cs4) ∧
 C.dir_Find t1 cs4 n3 s2 h14 fun r6 h15 =>
 ∃ (n4:Int) (n5:Int),r6 = .tuple #[.int .i64 n4,.int .i64 n5] ∧
 bif (n5 != 0) then (
 bif (n5 != 160) then (
 PutRow ⟨h2.size,0,none⟩ [.slice none 0 0,.string (mkStr []),.int .i64 0] 3 h15 fun h16 =>
 ∃ res4:List Value,List.length res4=3∧Cells h16 ⟨h2.size,0,none⟩ res4 ∧
 K (.tuple #[.agg ⟨res4⟩,.int .i64 n5]) h16) else (
 C.walk_walk_place q1 s2 n4 h15 fun r7 h17 =>
 ∃ (cs5:List Value),r7 = .agg ⟨cs5⟩ ∧
 PutRow ⟨h2.size,0,none⟩ cs5 3 h17 fun h18 =>
 ∃ res5:List Value,List.length res5=3∧Cells h18 ⟨h2.size,0,none⟩ res5 ∧
 K (.tuple #[.agg ⟨res5⟩,.int .i64 0]) h18)) else (
 C.walk_walk_place q1 s2 n4 h15 fun r8 h19 =>
 ∃ (cs6:List Value),r8 = .agg ⟨cs6⟩ ∧
 PutRow ⟨h2.size,0,none⟩ cs6 3 h19 fun h20 =>
 ∃ res6:List Value,List.length res6=3∧Cells h20 ⟨h2.size,0,none⟩ res6 ∧
 K (.tuple #[.agg ⟨res6⟩,.int .i64 0]) h20))))
def walk_Make.lo : Nat→List Nat×List (Nat×Ty):=fun n=>match n with|_=>([],[])
def walk_Make.od : Nat→Od:=fun n=>match n with|11=>(.op 0 [] (.op 1 [] (.op 2 [] (.op 3 [] (.op 4 [] (.op 6 [] (.op 5 [1] (.op 7 [] (.op 8 [] (.op 9 [] (.op 10 [] (.op 11 [] (.op 12 [] .nil)))))))))))))|_ => .nil
theorem walk_Make.ok {t1:Option Addr} {g1:List Value} {s1:ByteArray} {K:Value→Heap→Prop} {h:Heap} (hx:walk_Make t1 g1 s1 K h):C.walk_Make t1 g1 s1 h K :=
 fn_to (c:=Tryz.f31.body.getD .skip) (cxOk walk_Make.lo walk_Make.od) Tryz.func31 (by kernel_rfl) (by kernel_rfl) (Eq.mpr (by kernel_rfl) hx)
def bolelaw16_num (e1:Int) (K:Value→Heap→Prop) (h1:Heap):Prop :=
 K (.int .i64 e1) h1
def bolelaw16_num.lo : Nat→List Nat×List (Nat×Ty):=fun n=>match n with|_=>([],[])
def bolelaw16_num.od : Nat→Od:=fun n=>match n with|_ => .nil
theorem bolelaw16_num.ok {e1:Int} {K:Value→Heap→Prop} {h:Heap} (hx:bolelaw16_num e1 K h):C.bolelaw16_num e1 h K :=
 fn_to (c:=Tryz.f32.body.getD .skip) (cxOk bolelaw16_num.lo bolelaw16_num.od) Tryz.func32 (by kernel_rfl) (by kernel_rfl) (Eq.mpr (by kernel_rfl) hx)
def bolelaw16_Node_nameOf (n1:Option Addr) (inode1:Int) (K:Value→Heap→Prop) (h1:Heap):Prop :=
 onSome n1 fun p1 =>
 ∃ (sA1:Option Addr) (sL1:Nat) (sC1:Nat),cellOf h1 (Addr.add p1 5)=some (.slice sA1 sL1 sC1) ∧
 ∃ (I1:Int→Heap→Prop) (M1:Int→Heap→Nat),I1 0 h1 ∧
 ∀ (n2:Int),∀ h2:Heap,I1 n2 h2 →
 bif (decide (n2<(sL1:Int))) then (
 (0≤n2∧n2<(sL1:Int)) ∧
 onSome sA1 fun p2 =>
 ∃ (n3:Int),cellOf h2 (Addr.add p2 (Int.toNat n2))=some (.int .i64 n3) ∧
 bif (n3 == inode1) then (
 onSome n1 fun p3 =>
 ∃ (sA2:Option Addr) (sL2:Nat) (sC2:Nat),cellOf h2 (Addr.add p3 4)=some (.slice sA2 sL2 sC2) ∧
 (0≤n2∧n2<(sL2:Int)) ∧
 onSome sA2 fun p4 =>
 ∃ (s1:ByteArray),cellOf h2 (Addr.add p4 (Int.toNat n2))=some (.string s1) ∧
 K (.string s1) h2) else (
 I1 (IntKind.wrap .i64 (n2+1)) h2∧M1 (IntKind.wrap .i64 (n2+1)) h2<M1 n2 h2)) else (
 K (.string (mkStr [])) h2)
def bolelaw16_Node_nameOf.lo : Nat→List Nat×List (Nat×Ty):=fun n=>match n with|2=>([0,1,10,11],[(12,.int .i64)])|_=>([],[])
def bolelaw16_Node_nameOf.od : Nat→Od:=fun n=>match n with|_ => .nil
theorem bolelaw16_Node_nameOf.ok {n1:Option Addr} {inode1:Int} {K:Value→Heap→Prop} {h:Heap} (hx:bolelaw16_Node_nameOf n1 inode1 K h):C.bolelaw16_Node_nameOf n1 inode1 h K :=
 fn_to (c:=Tryz.f34.body.getD .skip) (cxOk bolelaw16_Node_nameOf.lo bolelaw16_Node_nameOf.od) Tryz.func34 (by kernel_rfl) (by kernel_rfl) (Eq.mpr (by kernel_rfl) hx)
def path_Parse (s1:ByteArray) (K:Value→Heap→Prop) (h1:Heap):Prop :=
 C.path_wrong s1 true h1 fun r1 h2 =>
 ∃ (b1:Bool),r1 = .bool b1 ∧
 bif b1 then (
 K (.tuple #[.slice none 0 0,.int .i64 1]) h2) else (
 C.path_components s1 1024 h2 fun r2 h3 =>
 ∃ (sA1:Option Addr) (sL1:Nat) (sC1:Nat) (n1:Int),r2 = .tuple #[.slice sA1 sL1 sC1,.int .i64 n1] ∧
 K (.tuple #[.slice sA1 sL1 sC1,.int .i64 n1]) h3)
def path_Parse.lo : Nat→List Nat×List (Nat×Ty):=fun n=>match n with|_=>([],[])
def path_Parse.od : Nat→Od:=fun n=>match n with|_ => .nil
theorem path_Parse.ok {s1:ByteArray} {K:Value→Heap→Prop} {h:Heap} (hx:path_Parse s1 K h):C.path_Parse s1 h K :=
 fn_to (c:=Tryz.f35.body.getD .skip) (cxOk path_Parse.lo path_Parse.od) Tryz.func35 (by kernel_rfl) (by kernel_rfl) (Eq.mpr (by kernel_rfl) hx)
def bolelaw16_same (aA1:Option Addr) (aL1:Nat) (aC1:Nat) (bA1:Option Addr) (bL1:Nat) (bC1:Nat) (K:Value→Heap→Prop) (h1:Heap):Prop :=
 bif ((aL1:Int) != (bL1:Int)) then (
 K (.bool false) h1) else (
 ∃ (I1:Int→Heap→Prop) (M1:Int→Heap→Nat),I1 0 h1 ∧
 ∀ (n1:Int),∀ h2:Heap,I1 n1 h2 →
 bif (decide (n1<(aL1:Int))) then (
 (0≤n1∧n1<(aL1:Int)) ∧
 onSome aA1 fun p1 =>
 ∃ (n2:Int),cellOf h2 (Addr.add p1 (Int.toNat n1))=some (.int .i64 n2) ∧
 (0≤n1∧n1<(bL1:Int)) ∧
 onSome bA1 fun p2 =>
 ∃ (n3:Int),cellOf h2 (Addr.add p2 (Int.toNat n1))=some (.int .i64 n3) ∧
 bif (n2 != n3) then (
 K (.bool false) h2) else (
 I1 (IntKind.wrap .i64 (n1+1)) h2∧M1 (IntKind.wrap .i64 (n1+1)) h2<M1 n1 h2)) else (
 K (.bool true) h2))
def bolelaw16_same.lo : Nat→List Nat×List (Nat×Ty):=fun n=>match n with|4=>([0,1,12],[(13,.int .i64)])|_=>([],[])
def bolelaw16_same.od : Nat→Od:=fun n=>match n with|6=>(.op 0 [] (.op 1 [] (.op 2 [] (.op 3 [] (.op 4 [] (.op 5 [] (.op 6 [] (.op 7 [] (.op 8 [] .nil)))))))))|_ => .nil
theorem bolelaw16_same.ok {aA1:Option Addr} {aL1:Nat} {aC1:Nat} {bA1:Option Addr} {bL1:Nat} {bC1:Nat} {K:Value→Heap→Prop} {h:Heap} (hx:bolelaw16_same aA1 aL1 aC1 bA1 bL1 bC1 K h):C.bolelaw16_same aA1 aL1 aC1 bA1 bL1 bC1 h K :=
 fn_to (c:=Tryz.f36.body.getD .skip) (cxOk bolelaw16_same.lo bolelaw16_same.od) Tryz.func36 (by kernel_rfl) (by kernel_rfl) (Eq.mpr (by kernel_rfl) hx)
def walk_Height.k1 (t1:Option Addr) (h1:Heap) (height2:Int) (nextA1:Option Addr) (nextL1:Nat) (nextC1:Nat) (n4:Int) (h9:Heap) (I2:Int→Option Addr→Nat→Nat→Int→Heap→Prop) (M2:Int→Option Addr→Nat→Nat→Int→Heap→Nat) (h10:Heap) (sA1:Option Addr) (sL1:Nat) (height3:Int) (K:Value→Heap→Prop):Prop :=
 bif (decide (height3>32)) then (
 K (.tuple #[.int .i64 height3,.int .i64 0]) h10) else (
 ∃ (I3:Option Addr→Nat→Nat→Int→Heap→Prop) (M3:Option Addr→Nat→Nat→Int→Heap→Nat),I3 nextA1 nextL1 nextC1 0 h10 ∧
 ∀ (nextA2:Option Addr) (nextL2:Nat) (nextC2:Nat) (n7:Int),∀ h11:Heap,I3 nextA2 nextL2 nextC2 n7 h11 →
 bif (decide (n7<(sL1:Int))) then (
 (0≤n7∧n7<(sL1:Int)) ∧
 onSome sA1 fun p2 =>
 ∃ cs4:List Value,List.length cs4=3∧Cells h11 (Addr.add p2 ((Int.toNat n7)*3)) cs4 ∧
 NewRow z113 113 cs4 3 h11 fun h13 =>
 ∃ cs5:List Value,List.length cs5=5∧Cells h13 ⟨h1.size,0,none⟩ cs5 ∧
 ∃ (n8:Int),cellOf h13 (Addr.add ⟨h11.size,0,none⟩ 2)=some (.int .i64 n8) ∧
 C.inode_Get t1 cs5 n8 h13 fun r3 h14 =>
 ∃ (cs6:List Value) (n9:Int),r3 = .tuple #[.agg ⟨cs6⟩,.int .i64 n9] ∧
 NewRow z123 123 cs6 15 h14 fun h16 =>
 bif (n9 != 0) then (
 K (.tuple #[.int .i64 0,.int .i64 n9]) h16) else (
 ∃ (n10:Int),cellOf h16 (Addr.add ⟨h14.size,0,none⟩ 0)=some (.int .i64 n10) ∧
 bif (n10 == 2) then (
 ∃ (n11:Int),cellOf h16 (Addr.add ⟨h11.size,0,none⟩ 2)=some (.int .i64 n11) ∧
 New [.int .i64 n11] 3 h16 fun h17 =>
 ∃ new1:List Value,List.length new1=1*1∧SlCells h17 (some ⟨h16.size,0,none⟩) new1∧(∀ v ∈ new1,v.oneCell'=true) ∧
 AppendP ti3 3 nextA2 nextL2 nextC2 1 new1 h17 fun sA2 sL2 sC2 h18 =>
 I3 sA2 sL2 sC2 (IntKind.wrap .i64 (n7+1)) h18∧M3 sA2 sL2 sC2 (IntKind.wrap .i64 (n7+1)) h18<M3 nextA2 nextL2 nextC2 n7 h11) else (
 I3 nextA2 nextL2 nextC2 (IntKind.wrap .i64 (n7+1)) h16∧M3 nextA2 nextL2 nextC2 (IntKind.wrap .i64 (n7+1)) h16<M3 nextA2 nextL2 nextC2 n7 h11))) else (
 I2 height3 nextA2 nextL2 nextC2 (IntKind.wrap .i64 (n4+1)) h11∧M2 height3 nextA2 nextL2 nextC2 (IntKind.wrap .i64 (n4+1)) h11<M2 height2 nextA1 nextL1 nextC1 n4 h9))
def walk_Height (t1:Option Addr) (g1:List Value) (n1:Int) (K:Value→Heap→Prop) (h1:Heap):Prop :=
 New g1 25 h1 fun h2 =>
 ∃ cs1:List Value,List.length cs1=5∧Cells h2 ⟨h1.size,0,none⟩ cs1 ∧
 C.inode_Get t1 cs1 n1 h2 fun r1 h3 =>
 ∃ (cs2:List Value) (n2:Int),r1 = .tuple #[.agg ⟨cs2⟩,.int .i64 n2] ∧
 NewRow z123 123 cs2 15 h3 fun h5 =>
 bif (n2 != 0) then (
 K (.tuple #[.int .i64 0,.int .i64 n2]) h5) else (
 ∃ (n3:Int),cellOf h5 (Addr.add ⟨h3.size,0,none⟩ 0)=some (.int .i64 n3) ∧
 bif (n3 != 2) then (
 K (.tuple #[.int .i64 0,.int .i64 161]) h5) else (
 New [.int .i64 n1] 3 h5 fun h6 =>
 ∃ (I1:Option Addr→Nat→Nat→Int→Int→Heap→Prop) (M1:Option Addr→Nat→Nat→Int→Int→Heap→Nat),I1 (some ⟨h5.size,0,none⟩) 1 1 0 1 h6 ∧
 ∀ (levelA1:Option Addr) (levelL1:Nat) (levelC1:Nat) (height1:Int) (h7:Int),∀ h8:Heap,I1 levelA1 levelL1 levelC1 height1 h7 h8 →
 bif (decide ((levelL1:Int)>0)) then (
 ∃ (I2:Int→Option Addr→Nat→Nat→Int→Heap→Prop) (M2:Int→Option Addr→Nat→Nat→Int→Heap→Nat),I2 height1 none 0 0 0 h8 ∧
 ∀ (height2:Int) (nextA1:Option Addr) (nextL1:Nat) (nextC1:Nat) (n4:Int),∀ h9:Heap,I2 height2 nextA1 nextL1 nextC1 n4 h9 →
 bif (decide (n4<(levelL1:Int))) then (
 (0≤n4∧n4<(levelL1:Int)) ∧
 onSome levelA1 fun p1 =>
 ∃ (n5:Int),cellOf h9 (Addr.add p1 (Int.toNat n4))=some (.int .i64 n5) ∧
 ∃ cs3:List Value,List.length cs3=5∧Cells h9 ⟨h1.size,0,none⟩ cs3 ∧
 C.dir_List t1 cs3 n5 h9 fun r2 h10 =>
 ∃ (sA1:Option Addr) (sL1:Nat) (sC1:Nat) (n6:Int),r2 = .tuple #[.slice sA1 sL1 sC1,.int .i64 n6] ∧
 bif (n6 != 0) then (
 K (.tuple #[.int .i64 0,.int .i64 n6]) h10) else (
 bif (decide ((sL1:Int)>0)) then (
 walk_Height.k1 t1 h1 height2 nextA1 nextL1 nextC1 n4 h9 I2 M2 h10 sA1 sL1 h7 K) else (
 walk_Height.k1 t1 h1 height2 nextA1 nextL1 nextC1 n4 h9 I2 M2 h10 sA1 sL1 height2 K))) else (
 C.slices_Sort_int_int nextA1 nextL1 nextC1 h9 fun r4 h19 =>
 r4 = .tuple #[] ∧
 C.slices_Compact_int_int nextA1 nextL1 nextC1 h19 fun r5 h20 =>
 ∃ (sA3:Option Addr) (sL3:Nat) (sC3:Nat),r5 = .slice sA3 sL3 sC3 ∧
 I1 sA3 sL3 sC3 height2 (IntKind.wrap .i64 (h7+1)) h20∧M1 sA3 sL3 sC3 height2 (IntKind.wrap .i64 (h7+1)) h20<M1 levelA1 levelL1 levelC1 height1 h7 h8)) else (
 K (.tuple #[.int .i64 height1,.int .i64 0]) h8)))
def walk_Height.lo : Nat→List Nat×List (Nat×Ty):=fun n=>match n with|8=>([0,4],[(10,.slice),(11,.int .i64),(12,.int .i64)])|12=>([0,4,12,42,43],[(11,.int .i64),(13,.slice),(44,.int .i64)])|22=>([0,4,11,12,42,43,44,65,66],[(13,.slice),(67,.int .i64)])|_=>([],[])
def walk_Height.od : Nat→Od:=fun n=>match n with|_ => .nil
theorem walk_Height.ok {t1:Option Addr} {g1:List Value} {n1:Int} {K:Value→Heap→Prop} {h:Heap} (hx:walk_Height t1 g1 n1 K h):C.walk_Height t1 g1 n1 h K :=
 fn_to (c:=Tryz.f37.body.getD .skip) (cxOk walk_Height.lo walk_Height.od) Tryz.func37 (by kernel_rfl) (by kernel_rfl) (Eq.mpr (by kernel_rfl) hx)
end Go.Proofs.YtiapingedfnlnaaGreatDoor.W
namespace Go.Proofs.YtiapingedfnlnaaGreatDoor.W
open Go Go.Proofs Wx
def bolelaw16_Setup_image.k1 (n1:Int) (h5:Heap) (h7:Heap) (free1:Int) (n3:Int) (h10:Heap) (I1:Int→Int→Heap→Prop) (M1:Int→Int→Heap→Nat) (q1:Option Addr) (dataA2:Option Addr) (dataL2:Nat) (dataC2:Nat) (size1:Int) (h18:Heap) (K:Value→Heap→Prop):Prop :=
 ∃ (n8:Int),cellOf h18 (Addr.add ⟨h5.size,0,none⟩ 2)=some (.int .i64 n8) ∧
 ∃ (n9:Int),cellOf h18 (Addr.add ⟨h5.size,0,none⟩ 2)=some (.int .i64 n9) ∧
 (0≤(IntKind.wrap .i64 ((IntKind.wrap .i64 (512*n8))+(IntKind.wrap .i64 (64*n3))))∧(IntKind.wrap .i64 ((IntKind.wrap .i64 (512*n8))+(IntKind.wrap .i64 (64*n3))))≤(IntKind.wrap .i64 ((IntKind.wrap .i64 ((IntKind.wrap .i64 (512*n9))+(IntKind.wrap .i64 (64*n3))))+64))∧(IntKind.wrap .i64 ((IntKind.wrap .i64 ((IntKind.wrap .i64 (512*n9))+(IntKind.wrap .i64 (64*n3))))+64))≤((Int.toNat (IntKind.wrap .i64 (512*n1))):Int)) ∧
 onSome q1 fun p9 =>
 ∃ (n10:Int),cellOf h18 (Addr.add p9 0)=some (.int .i64 n10) ∧
 (0≤(0:Int)∧0<((((Int.toNat (IntKind.wrap .i64 ((IntKind.wrap .i64 ((IntKind.wrap .i64 (512*n9))+(IntKind.wrap .i64 (64*n3))))+64))) - (Int.toNat (IntKind.wrap .i64 ((IntKind.wrap .i64 (512*n8))+(IntKind.wrap .i64 (64*n3)))))):Nat):Int)) ∧
 onSome (if (Int.toNat (IntKind.wrap .i64 (512*n1)))=(Int.toNat (IntKind.wrap .i64 ((IntKind.wrap .i64 (512*n8))+(IntKind.wrap .i64 (64*n3))))) then (some ⟨h7.size,0,none⟩) else Option.map (Addr.add · (Int.toNat (IntKind.wrap .i64 ((IntKind.wrap .i64 (512*n8))+(IntKind.wrap .i64 (64*n3)))))) (some ⟨h7.size,0,none⟩)) fun p10 =>
 Put (Addr.add p10 (Int.toNat 0)) (.int .u8 (IntKind.wrap .u8 (n10))) h18 fun h19 =>
 (0≤(2:Int)∧(2:Int)≤(4:Int)∧(4:Int)≤((((Int.toNat (IntKind.wrap .i64 (512*n1))) - (Int.toNat (IntKind.wrap .i64 ((IntKind.wrap .i64 (512*n8))+(IntKind.wrap .i64 (64*n3)))))):Nat):Int)) ∧
 onSome q1 fun p11 =>
 ∃ (n11:Int),cellOf h19 (Addr.add p11 2)=some (.int .i64 n11) ∧
 C.bolelaw16_low (if ((Int.toNat (IntKind.wrap .i64 (512*n1))) - (Int.toNat (IntKind.wrap .i64 ((IntKind.wrap .i64 (512*n8))+(IntKind.wrap .i64 (64*n3))))))=(Int.toNat 2) then (if (Int.toNat (IntKind.wrap .i64 (512*n1)))=(Int.toNat (IntKind.wrap .i64 ((IntKind.wrap .i64 (512*n8))+(IntKind.wrap .i64 (64*n3))))) then (some ⟨h7.size,0,none⟩) else Option.map (Addr.add · (Int.toNat (IntKind.wrap .i64 ((IntKind.wrap .i64 (512*n8))+(IntKind.wrap .i64 (64*n3)))))) (some ⟨h7.size,0,none⟩)) else Option.map (Addr.add · (Int.toNat 2)) (if (Int.toNat (IntKind.wrap .i64 (512*n1)))=(Int.toNat (IntKind.wrap .i64 ((IntKind.wrap .i64 (512*n8))+(IntKind.wrap .i64 (64*n3))))) then (some ⟨h7.size,0,none⟩) else Option.map (Addr.add · (Int.toNat (IntKind.wrap .i64 ((IntKind.wrap .i64 (512*n8))+(IntKind.wrap .i64 (64*n3)))))) (some ⟨h7.size,0,none⟩))) ((Int.toNat 4) - (Int.toNat 2)) (((Int.toNat (IntKind.wrap .i64 (512*n1))) - (Int.toNat (IntKind.wrap .i64 ((IntKind.wrap .i64 (512*n8))+(IntKind.wrap .i64 (64*n3)))))) - (Int.toNat 2)) n11 h19 fun r5 h20 =>
 r5 = .tuple #[] ∧
 (0≤(4:Int)∧(4:Int)≤(8:Int)∧(8:Int)≤((((Int.toNat (IntKind.wrap .i64 (512*n1))) - (Int.toNat (IntKind.wrap .i64 ((IntKind.wrap .i64 (512*n8))+(IntKind.wrap .i64 (64*n3)))))):Nat):Int)) ∧
 C.bolelaw16_low (if ((Int.toNat (IntKind.wrap .i64 (512*n1))) - (Int.toNat (IntKind.wrap .i64 ((IntKind.wrap .i64 (512*n8))+(IntKind.wrap .i64 (64*n3))))))=(Int.toNat 4) then (if (Int.toNat (IntKind.wrap .i64 (512*n1)))=(Int.toNat (IntKind.wrap .i64 ((IntKind.wrap .i64 (512*n8))+(IntKind.wrap .i64 (64*n3))))) then (some ⟨h7.size,0,none⟩) else Option.map (Addr.add · (Int.toNat (IntKind.wrap .i64 ((IntKind.wrap .i64 (512*n8))+(IntKind.wrap .i64 (64*n3)))))) (some ⟨h7.size,0,none⟩)) else Option.map (Addr.add · (Int.toNat 4)) (if (Int.toNat (IntKind.wrap .i64 (512*n1)))=(Int.toNat (IntKind.wrap .i64 ((IntKind.wrap .i64 (512*n8))+(IntKind.wrap .i64 (64*n3))))) then (some ⟨h7.size,0,none⟩) else Option.map (Addr.add · (Int.toNat (IntKind.wrap .i64 ((IntKind.wrap .i64 (512*n8))+(IntKind.wrap .i64 (64*n3)))))) (some ⟨h7.size,0,none⟩))) ((Int.toNat 8) - (Int.toNat 4)) (((Int.toNat (IntKind.wrap .i64 (512*n1))) - (Int.toNat (IntKind.wrap .i64 ((IntKind.wrap .i64 (512*n8))+(IntKind.wrap .i64 (64*n3)))))) - (Int.toNat 4)) size1 h20 fun r6 h21 =>
 r6 = .tuple #[] ∧
 ∃ (I3:Int→Int→Heap→Prop) (M3:Int→Int→Heap→Nat),I3 free1 0 h21 ∧
 ∀ (free2:Int) (k1:Int),∀ h22:Heap,I3 free2 k1 h22 →
 bif (decide ((IntKind.wrap .i64 (512*k1))<(dataL2:Int))) then (
 (0≤(IntKind.wrap .i64 (8+(IntKind.wrap .i64 (4*k1))))∧(IntKind.wrap .i64 (8+(IntKind.wrap .i64 (4*k1))))≤(IntKind.wrap .i64 (12+(IntKind.wrap .i64 (4*k1))))∧(IntKind.wrap .i64 (12+(IntKind.wrap .i64 (4*k1))))≤((((Int.toNat (IntKind.wrap .i64 (512*n1))) - (Int.toNat (IntKind.wrap .i64 ((IntKind.wrap .i64 (512*n8))+(IntKind.wrap .i64 (64*n3)))))):Nat):Int)) ∧
 C.bolelaw16_low (if ((Int.toNat (IntKind.wrap .i64 (512*n1))) - (Int.toNat (IntKind.wrap .i64 ((IntKind.wrap .i64 (512*n8))+(IntKind.wrap .i64 (64*n3))))))=(Int.toNat (IntKind.wrap .i64 (8+(IntKind.wrap .i64 (4*k1))))) then (if (Int.toNat (IntKind.wrap .i64 (512*n1)))=(Int.toNat (IntKind.wrap .i64 ((IntKind.wrap .i64 (512*n8))+(IntKind.wrap .i64 (64*n3))))) then (some ⟨h7.size,0,none⟩) else Option.map (Addr.add · (Int.toNat (IntKind.wrap .i64 ((IntKind.wrap .i64 (512*n8))+(IntKind.wrap .i64 (64*n3)))))) (some ⟨h7.size,0,none⟩)) else Option.map (Addr.add · (Int.toNat (IntKind.wrap .i64 (8+(IntKind.wrap .i64 (4*k1)))))) (if (Int.toNat (IntKind.wrap .i64 (512*n1)))=(Int.toNat (IntKind.wrap .i64 ((IntKind.wrap .i64 (512*n8))+(IntKind.wrap .i64 (64*n3))))) then (some ⟨h7.size,0,none⟩) else Option.map (Addr.add · (Int.toNat (IntKind.wrap .i64 ((IntKind.wrap .i64 (512*n8))+(IntKind.wrap .i64 (64*n3)))))) (some ⟨h7.size,0,none⟩))) ((Int.toNat (IntKind.wrap .i64 (12+(IntKind.wrap .i64 (4*k1))))) - (Int.toNat (IntKind.wrap .i64 (8+(IntKind.wrap .i64 (4*k1)))))) (((Int.toNat (IntKind.wrap .i64 (512*n1))) - (Int.toNat (IntKind.wrap .i64 ((IntKind.wrap .i64 (512*n8))+(IntKind.wrap .i64 (64*n3)))))) - (Int.toNat (IntKind.wrap .i64 (8+(IntKind.wrap .i64 (4*k1)))))) free2 h22 fun r7 h23 =>
 r7 = .tuple #[] ∧
 (0≤(IntKind.wrap .i64 (512*free2))∧(IntKind.wrap .i64 (512*free2))≤(IntKind.wrap .i64 ((IntKind.wrap .i64 (512*free2))+512))∧(IntKind.wrap .i64 ((IntKind.wrap .i64 (512*free2))+512))≤((Int.toNat (IntKind.wrap .i64 (512*n1))):Int)) ∧
 (0≤(IntKind.wrap .i64 (512*k1))∧(IntKind.wrap .i64 (512*k1))≤(dataL2:Int)) ∧
 CopyP ti5 (if (Int.toNat (IntKind.wrap .i64 (512*n1)))=(Int.toNat (IntKind.wrap .i64 (512*free2))) then (some ⟨h7.size,0,none⟩) else Option.map (Addr.add · (Int.toNat (IntKind.wrap .i64 (512*free2)))) (some ⟨h7.size,0,none⟩)) ((Int.toNat (IntKind.wrap .i64 ((IntKind.wrap .i64 (512*free2))+512))) - (Int.toNat (IntKind.wrap .i64 (512*free2)))) (.slice (if dataC2=(Int.toNat (IntKind.wrap .i64 (512*k1))) then dataA2 else Option.map (Addr.add · (Int.toNat (IntKind.wrap .i64 (512*k1)))) dataA2) (dataL2 - (Int.toNat (IntKind.wrap .i64 (512*k1)))) (dataC2 - (Int.toNat (IntKind.wrap .i64 (512*k1))))) h23 fun n12 h24 =>
 I3 (IntKind.wrap .i64 (free2+1)) (IntKind.wrap .i64 (k1+1)) h24∧M3 (IntKind.wrap .i64 (free2+1)) (IntKind.wrap .i64 (k1+1)) h24<M3 free2 k1 h22) else (
 I1 free2 (IntKind.wrap .i64 (n3+1)) h22∧M1 free2 (IntKind.wrap .i64 (n3+1)) h22<M1 free1 n3 h10)
def bolelaw16_Setup_image (s1:List Value) (K:Value→Heap→Prop) (h1:Heap):Prop :=
 New s1 54 h1 fun h2 =>
 New z25 25 h2 fun h3 =>
 ∃ cs1:List Value,List.length cs1=3∧Cells h3 ⟨h1.size,0,none⟩ cs1 ∧
 C.bolelaw16_Setup_blocks cs1 h3 fun r1 h4 =>
 ∃ (n1:Int),r1 = .int .i64 n1 ∧
 C.boleref09_Geo n1 h4 fun r2 h5 =>
 ∃ (cs2:List Value),r2 = .agg ⟨cs2⟩ ∧
 NewRow z25 25 cs2 5 h5 fun h7 =>
 (0≤(IntKind.wrap .i64 (512*n1))∧(IntKind.wrap .i64 (512*n1))≤(IntKind.wrap .i64 (512*n1))∧(1:Int)*(IntKind.wrap .i64 (512*n1))≤281474976710656∧(IntKind.wrap .i64 (512*n1))≤281474976710656) ∧
 New (repCells z5 (Int.toNat (IntKind.wrap .i64 (512*n1)))) 5 h7 fun h8 =>
 ∃ (n2:Int),cellOf h8 (Addr.add ⟨h5.size,0,none⟩ 3)=some (.int .i64 n2) ∧
 ∃ cs3:List Value,List.length cs3=3∧Cells h8 ⟨h1.size,0,none⟩ cs3 ∧
 C.bolelaw16_Setup_tree cs3 h8 fun r3 h9 =>
 ∃ (sA1:Option Addr) (sL1:Nat) (sC1:Nat),r3 = .slice sA1 sL1 sC1 ∧
 ∃ (I1:Int→Int→Heap→Prop) (M1:Int→Int→Heap→Nat),I1 n2 0 h9 ∧
 ∀ (free1:Int) (n3:Int),∀ h10:Heap,I1 free1 n3 h10 →
 bif (decide (n3<(sL1:Int))) then (
 (0≤n3∧n3<(sL1:Int)) ∧
 onSome sA1 fun p1 =>
 ∃ (q1:Option Addr),cellOf h10 (Addr.add p1 (Int.toNat n3))=some (.pointer q1) ∧
 bif (Option.isNone q1) then (
 I1 free1 (IntKind.wrap .i64 (n3+1)) h10∧M1 free1 (IntKind.wrap .i64 (n3+1)) h10<M1 free1 n3 h10) else (
 onSome q1 fun p2 =>
 ∃ (sA2:Option Addr) (sL2:Nat) (sC2:Nat),cellOf h10 (Addr.add p2 4)=some (.slice sA2 sL2 sC2) ∧
 ∃ (I2:Option Addr→Nat→Nat→Int→Heap→Prop) (M2:Option Addr→Nat→Nat→Int→Heap→Nat),I2 none 0 0 0 h10 ∧
 ∀ (dataA1:Option Addr) (dataL1:Nat) (dataC1:Nat) (n4:Int),∀ h11:Heap,I2 dataA1 dataL1 dataC1 n4 h11 →
 bif (decide (n4<(sL2:Int))) then (
 (0≤n4∧n4<(sL2:Int)) ∧
 onSome sA2 fun p3 =>
 ∃ (s2:ByteArray),cellOf h11 (Addr.add p3 (Int.toNat n4))=some (.string s2) ∧
 (0≤(32:Int)∧(32:Int)≤32∧(1:Int)*32≤281474976710656∧(32:Int)≤281474976710656) ∧
 New (repCells z5 (Int.toNat 32)) 5 h11 fun h12 =>
 (0≤(4:Int)∧(4:Int)≤((Int.toNat 32):Int)) ∧
 onSome q1 fun p4 =>
 ∃ (sA3:Option Addr) (sL3:Nat) (sC3:Nat),cellOf h12 (Addr.add p4 5)=some (.slice sA3 sL3 sC3) ∧
 (0≤n4∧n4<(sL3:Int)) ∧
 onSome sA3 fun p5 =>
 ∃ (n5:Int),cellOf h12 (Addr.add p5 (Int.toNat n4))=some (.int .i64 n5) ∧
 C.bolelaw16_low (some ⟨h11.size,0,none⟩) (Int.toNat 4) (Int.toNat 32) n5 h12 fun r4 h13 =>
 r4 = .tuple #[] ∧
 (0≤(4:Int)∧4<((Int.toNat 32):Int)) ∧
 Put (Addr.add ⟨h11.size,0,none⟩ (Int.toNat 4)) (.int .u8 (IntKind.wrap .u8 ((s2.size:Int)))) h13 fun h14 =>
 (0≤(5:Int)∧5≤((Int.toNat 32):Int)) ∧
 CopyP ti5 (if (Int.toNat 32)=(Int.toNat 5) then (some ⟨h11.size,0,none⟩) else Option.map (Addr.add · (Int.toNat 5)) (some ⟨h11.size,0,none⟩)) ((Int.toNat 32) - (Int.toNat 5)) (.string s2) h14 fun n6 h15 =>
 ∃ new1:List Value,List.length new1=(Int.toNat 32)*1∧SlCells h15 (some ⟨h11.size,0,none⟩) new1∧(∀ v ∈ new1,v.oneCell'=true) ∧
 AppendP ti5 5 dataA1 dataL1 dataC1 (Int.toNat 32) new1 h15 fun sA4 sL4 sC4 h16 =>
 I2 sA4 sL4 sC4 (IntKind.wrap .i64 (n4+1)) h16∧M2 sA4 sL4 sC4 (IntKind.wrap .i64 (n4+1)) h16<M2 dataA1 dataL1 dataC1 n4 h11) else (
 onSome q1 fun p6 =>
 ∃ (n7:Int),cellOf h11 (Addr.add p6 0)=some (.int .i64 n7) ∧
 bif (n7 == 3) then (
 onSome q1 fun p7 =>
 ∃ (s3:ByteArray),cellOf h11 (Addr.add p7 3)=some (.string s3) ∧
 onSome q1 fun p8 =>
 ∃ (s4:ByteArray),cellOf h11 (Addr.add p8 3)=some (.string s4) ∧
 NewS s3 5 h11 fun cap1 h17 =>
 (cellOf h17 (Addr.add p8 3)=some (.string s4)) ∧
 bolelaw16_Setup_image.k1 n1 h5 h7 free1 n3 h10 I1 M1 q1 (some ⟨h11.size,0,none⟩) s3.size cap1 (s4.size:Int) h17 K) else (
 bolelaw16_Setup_image.k1 n1 h5 h7 free1 n3 h10 I1 M1 q1 dataA1 dataL1 dataC1 (IntKind.wrap .i64 ((IntKind.wrap .i64 (Int.tdiv (IntKind.wrap .i64 ((dataL1:Int)+511)) 512))*512)) h11 K)))) else (
 ∃ (I4:Int→Heap→Prop) (M4:Int→Heap→Nat),I4 0 h10 ∧
 ∀ (i1:Int),∀ h25:Heap,I4 i1 h25 →
 ∃ (n13:Int),cellOf h25 (Addr.add ⟨h5.size,0,none⟩ 2)=some (.int .i64 n13) ∧
 ∃ (n14:Int),cellOf h25 (Addr.add ⟨h5.size,0,none⟩ 1)=some (.int .i64 n14) ∧
 bif (decide (i1<(IntKind.wrap .i64 (4096*(IntKind.wrap .i64 (n13 - n14)))))) then (
 bif (decide (i1<free1)) then (
 ∃ (n15:Int),cellOf h25 (Addr.add ⟨h5.size,0,none⟩ 1)=some (.int .i64 n15) ∧
 ∃ (n16:Int),cellOf h25 (Addr.add ⟨h5.size,0,none⟩ 1)=some (.int .i64 n16) ∧
 (0≤(IntKind.wrap .i64 ((IntKind.wrap .i64 (512*n16))+(IntKind.wrap .i64 (Int.tdiv i1 8))))∧(IntKind.wrap .i64 ((IntKind.wrap .i64 (512*n16))+(IntKind.wrap .i64 (Int.tdiv i1 8))))<((Int.toNat (IntKind.wrap .i64 (512*n1))):Int)) ∧
 ∃ (n17:Int),cellOf h25 (Addr.add ⟨h7.size,0,none⟩ (Int.toNat (IntKind.wrap .i64 ((IntKind.wrap .i64 (512*n16))+(IntKind.wrap .i64 (Int.tdiv i1 8))))))=some (.int .u8 n17) ∧
 if (Int.tmod i1 8)<0 then False else
 (0≤(IntKind.wrap .i64 ((IntKind.wrap .i64 (512*n15))+(IntKind.wrap .i64 (Int.tdiv i1 8))))∧(IntKind.wrap .i64 ((IntKind.wrap .i64 (512*n15))+(IntKind.wrap .i64 (Int.tdiv i1 8))))<((Int.toNat (IntKind.wrap .i64 (512*n1))):Int)) ∧
 Put (Addr.add ⟨h7.size,0,none⟩ (Int.toNat (IntKind.wrap .i64 ((IntKind.wrap .i64 (512*n15))+(IntKind.wrap .i64 (Int.tdiv i1 8)))))) (.int .u8 (bitsI .or .u8 n17 (IntKind.wrap .u8 ((1*2 ^ min (Int.toNat (Int.tmod i1 8)) 8))))) h25 fun h26 =>
 I4 (IntKind.wrap .i64 (i1+1)) h26∧M4 (IntKind.wrap .i64 (i1+1)) h26<M4 i1 h25) else (
 bif (decide (i1≥n1)) then (
 ∃ (n18:Int),cellOf h25 (Addr.add ⟨h5.size,0,none⟩ 1)=some (.int .i64 n18) ∧
 ∃ (n19:Int),cellOf h25 (Addr.add ⟨h5.size,0,none⟩ 1)=some (.int .i64 n19) ∧
 (0≤(IntKind.wrap .i64 ((IntKind.wrap .i64 (512*n19))+(IntKind.wrap .i64 (Int.tdiv i1 8))))∧(IntKind.wrap .i64 ((IntKind.wrap .i64 (512*n19))+(IntKind.wrap .i64 (Int.tdiv i1 8))))<((Int.toNat (IntKind.wrap .i64 (512*n1))):Int)) ∧
 ∃ (n20:Int),cellOf h25 (Addr.add ⟨h7.size,0,none⟩ (Int.toNat (IntKind.wrap .i64 ((IntKind.wrap .i64 (512*n19))+(IntKind.wrap .i64 (Int.tdiv i1 8))))))=some (.int .u8 n20) ∧
 if (Int.tmod i1 8)<0 then False else
 (0≤(IntKind.wrap .i64 ((IntKind.wrap .i64 (512*n18))+(IntKind.wrap .i64 (Int.tdiv i1 8))))∧(IntKind.wrap .i64 ((IntKind.wrap .i64 (512*n18))+(IntKind.wrap .i64 (Int.tdiv i1 8))))<((Int.toNat (IntKind.wrap .i64 (512*n1))):Int)) ∧
 Put (Addr.add ⟨h7.size,0,none⟩ (Int.toNat (IntKind.wrap .i64 ((IntKind.wrap .i64 (512*n18))+(IntKind.wrap .i64 (Int.tdiv i1 8)))))) (.int .u8 (bitsI .or .u8 n20 (IntKind.wrap .u8 ((1*2 ^ min (Int.toNat (Int.tmod i1 8)) 8))))) h25 fun h27 =>
 I4 (IntKind.wrap .i64 (i1+1)) h27∧M4 (IntKind.wrap .i64 (i1+1)) h27<M4 i1 h25) else (
 I4 (IntKind.wrap .i64 (i1+1)) h25∧M4 (IntKind.wrap .i64 (i1+1)) h25<M4 i1 h25))) else (
 ∃ (sA5:Option Addr) (sL5:Nat) (sC5:Nat),cellOf h25 (Addr.add ⟨h1.size,0,none⟩ 2)=some (.slice sA5 sL5 sC5) ∧
 ∃ (I5:Int→Heap→Prop) (M5:Int→Heap→Nat),I5 0 h25 ∧
 ∀ (n21:Int),∀ h28:Heap,I5 n21 h28 →
 bif (decide (n21<(sL5:Int))) then (
 (0≤n21∧n21<(sL5:Int)) ∧
 onSome sA5 fun p12 =>
 ∃ cs4:List Value,List.length cs4=2∧Cells h28 (Addr.add p12 ((Int.toNat n21)*2)) cs4 ∧
 NewRow z191 191 cs4 2 h28 fun h30 =>
 ∃ (n22:Int),cellOf h30 (Addr.add ⟨h28.size,0,none⟩ 0)=some (.int .i64 n22) ∧
 if (IntKind.wrap .u64 ((IntKind.wrap .i64 (512*(IntKind.wrap .i64 (n1 - 98))))))=0 then False else
 ∃ (n23:Int),cellOf h30 (Addr.add ⟨h28.size,0,none⟩ 1)=some (.int .u8 n23) ∧
 (0≤(IntKind.wrap .i64 (50176+(IntKind.wrap .i64 ((Int.tmod (IntKind.wrap .u64 (n22)) (IntKind.wrap .u64 ((IntKind.wrap .i64 (512*(IntKind.wrap .i64 (n1 - 98)))))))))))∧(IntKind.wrap .i64 (50176+(IntKind.wrap .i64 ((Int.tmod (IntKind.wrap .u64 (n22)) (IntKind.wrap .u64 ((IntKind.wrap .i64 (512*(IntKind.wrap .i64 (n1 - 98)))))))))))<((Int.toNat (IntKind.wrap .i64 (512*n1))):Int)) ∧
 Put (Addr.add ⟨h7.size,0,none⟩ (Int.toNat (IntKind.wrap .i64 (50176+(IntKind.wrap .i64 ((Int.tmod (IntKind.wrap .u64 (n22)) (IntKind.wrap .u64 ((IntKind.wrap .i64 (512*(IntKind.wrap .i64 (n1 - 98))))))))))))) (.int .u8 n23) h30 fun h31 =>
 I5 (IntKind.wrap .i64 (n21+1)) h31∧M5 (IntKind.wrap .i64 (n21+1)) h31<M5 n21 h28) else (
 ∃ cs5:List Value,List.length cs5=5∧Cells h28 ⟨h5.size,0,none⟩ cs5 ∧
 PutRow ⟨h2.size,0,none⟩ cs5 5 h28 fun h32 =>
 ∃ res1:List Value,List.length res1=5∧Cells h32 ⟨h2.size,0,none⟩ res1 ∧
 K (.tuple #[.slice (some ⟨h7.size,0,none⟩) (Int.toNat (IntKind.wrap .i64 (512*n1))) (Int.toNat (IntKind.wrap .i64 (512*n1))),.agg ⟨res1⟩]) h32)))
def bolelaw16_Setup_image.lo : Nat→List Nat×List (Nat×Ty):=fun n=>match n with|6=>([1,3,4,5,6,30,31],[(7,.int .i64),(32,.int .i64)])|11=>([1,3,4,5,6,7,8,9,30,31,32,42,43],[(10,.slice),(44,.int .i64)])|27=>([1,3,4,5,6,10,15,30,31,32],[(7,.int .i64),(16,.int .i64)])|34=>([1,3,4,5,6,7],[(17,.int .i64)])|39=>([3,4,5,6,198,199],[(200,.int .i64)])|_=>([],[])
set_option maxRecDepth 100000 in
def bolelaw16_Setup_image.od : Nat→Od:=fun n=>match n with|14=>(.op 0 [] (.op 1 [] (.op 2 [] (.op 3 [] (.op 4 [] (.op 5 [] (.op 6 [] (.op 7 [] (.op 8 [] (.op 9 [] .nil))))))))))|21=>(.op 0 [] (.op 1 [] (.op 2 [] (.op 3 [] (.op 5 [] (.op 6 [] (.op 7 [] (.op 8 [] (.op 9 [] (.op 4 [8] (.op 10 [] (.op 11 [] .nil))))))))))))|24=>(.op 0 [] (.op 1 [] (.op 2 [] (.op 3 [] (.op 4 [] (.op 5 [] (.op 6 [] .nil)))))))|30=>(.op 0 [] (.op 1 [] (.op 2 [] (.op 3 [] (.op 4 [] (.op 5 [] (.op 6 [] (.op 7 [] (.op 8 [] (.op 9 [] (.op 10 [] (.op 11 [] .nil))))))))))))|37=>(.op 0 [] (.op 1 [] (.op 2 [] (.op 3 [] (.op 4 [] (.op 5 [] (.op 6 [] (.op 7 [] (.op 8 [] (.op 9 [] (.op 10 [] (.op 11 [] (.op 12 [] (.op 13 [] (.op 14 [] (.op 15 [] (.op 16 [] (.op 17 [] (.op 18 [] (.op 19 [] (.op 20 [] (.op 21 [] .nil))))))))))))))))))))))|41=>(.op 0 [] (.op 1 [] (.op 2 [] (.op 3 [] (.op 4 [] (.op 5 [] (.op 6 [] (.op 7 [] (.op 8 [] (.op 9 [] (.op 10 [] (.op 11 [] (.op 12 [] (.op 13 [] (.op 14 [] .nil)))))))))))))))|43=>(.op 0 [] (.op 1 [] (.op 2 [] (.op 3 [] .nil))))|_ => .nil
set_option maxRecDepth 1000000 in
set_option maxRecDepth 1000000 in
theorem bolelaw16_Setup_image.ok {s1:List Value} {K:Value→Heap→Prop} {h:Heap} (hx:bolelaw16_Setup_image s1 K h):C.bolelaw16_Setup_image s1 h K :=
 fn_to (c:=Tryz.f39.body.getD .skip) (cxOk bolelaw16_Setup_image.lo bolelaw16_Setup_image.od) Tryz.func39 (by kernel_rfl) (by kernel_rfl) (Eq.mpr (by kernel_rfl) hx)
def bolelaw16_begin.k1 (q1:Option Addr) (h4:Heap) (K:Value→Heap→Prop):Prop :=
 C.txn_Begin q1 h4 fun r3 h5 =>
 ∃ (q2:Option Addr),r3 = .pointer q2 ∧
 K (.tuple #[.pointer q2,.bool (!(Option.isNone q2))]) h5
def bolelaw16_begin (bA1:Option Addr) (bL1:Nat) (bC1:Nat) (K:Value→Heap→Prop) (h1:Heap):Prop :=
 C.adisk_Open bA1 bL1 bC1 h1 fun r1 h2 =>
 ∃ (q1:Option Addr) (n1:Int),r1 = .tuple #[.pointer q1,.int .i64 n1] ∧
 C.bolelaw16_num n1 h2 fun r2 h3 =>
 ∃ (n2:Int),r2 = .int .i64 n2 ∧
 bif (n2 != 0) then (
 K (.tuple #[.pointer none,.bool false]) h3) else (
 bif (Option.isNone q1) then (
 K (.tuple #[.pointer none,.bool false]) h3) else (
 bolelaw16_begin.k1 q1 h3 K))
def bolelaw16_begin.lo : Nat→List Nat×List (Nat×Ty):=fun n=>match n with|_=>([],[])
def bolelaw16_begin.od : Nat→Od:=fun n=>match n with|_ => .nil
theorem bolelaw16_begin.ok {bA1:Option Addr} {bL1:Nat} {bC1:Nat} {K:Value→Heap→Prop} {h:Heap} (hx:bolelaw16_begin bA1 bL1 bC1 K h):C.bolelaw16_begin bA1 bL1 bC1 h K :=
 fn_to (c:=Tryz.f40.body.getD .skip) (cxOk bolelaw16_begin.lo bolelaw16_begin.od) Tryz.func40 (by kernel_rfl) (by kernel_rfl) (Eq.mpr (by kernel_rfl) hx)
def path_Make.k1 (h5:Heap) (h13:Heap) (sA1:Option Addr) (sL1:Nat) (sC1:Nat) (K:Value→Heap→Prop):Prop :=
 (0≤(IntKind.wrap .i64 ((sL1:Int) - 1))∧(IntKind.wrap .i64 ((sL1:Int) - 1))≤(IntKind.wrap .i64 ((sL1:Int) - 1))∧(IntKind.wrap .i64 ((sL1:Int) - 1))≤(sC1:Int)) ∧
 (0≤(IntKind.wrap .i64 ((sL1:Int) - 1))∧(IntKind.wrap .i64 ((sL1:Int) - 1))<(sL1:Int)) ∧
 onSome sA1 fun p1 =>
 ∃ (s4:ByteArray),cellOf h13 (Addr.add p1 (Int.toNat (IntKind.wrap .i64 ((sL1:Int) - 1))))=some (.string s4) ∧
 EndD h5.size h13 fun h16 =>
 K (.tuple #[.slice sA1 (Int.toNat (IntKind.wrap .i64 ((sL1:Int) - 1))) (Int.toNat (IntKind.wrap .i64 ((sL1:Int) - 1))),.string s4,.int .i64 0]) h16
def path_Make (s1:ByteArray) (K:Value→Heap→Prop) (h1:Heap):Prop :=
 C.path_wrong s1 true h1 fun r1 h2 =>
 ∃ (b1:Bool),r1 = .bool b1 ∧
 bif b1 then (
 K (.tuple #[.slice none 0 0,.string (mkStr []),.int .i64 1]) h2) else (
 New z9 9 h2 fun h3 =>
 Put ⟨h2.size,0,none⟩ (.string (mkStr [])) h3 fun h4 =>
 C.path_pieces s1 h4 fun r2 h5 =>
 ∃ (v1:Value),r2=v1 ∧
 ∀ (R1:Loop),
 (∀ (s2:ByteArray),∀ (h6:Heap) (k1:Value→Heap→Prop),LoopOn h6 (h5.size+1) R1 .ready none →
 (
 LoopOn h6 (h5.size+1) R1 .ready none ∧
 SetL h6 (h5.size+1) R1 .busy none fun h7 =>
 Put ⟨h2.size,0,none⟩ (.string s2) h7 fun h8 =>
 LoopOn h8 (h5.size+1) R1 .busy none ∧
 k1 (.bool true) (setLoop h8 (h5.size+1) R1 .ready none)) →
 YCalls Tryz.prog (h5.size+1) [.string s2] h6 k1) →
 HCallsF Tryz.prog v1 [.func (.yield (h5.size+1)) #[] #[]] (beginL h5 R1) fun _ h9 =>
 ∃ (st1:LoopState) (pend1:Option Code),LoopOn h9 (h5.size+1) R1 st1 pend1∧st1 ≠ .busy ∧
 pendX pend1 (
 SetL h9 (h5.size+1) R1 .exhausted pend1 fun h10 =>
 ∃ (s3:ByteArray),cellOf h10 ⟨h2.size,0,none⟩=some (.string s3) ∧
 C.path_does s3 h10 fun r3 h11 =>
 ∃ (v2:Value) (b2:Bool),r3 = .tuple #[v2,.bool b2] ∧
 bif b2 then (
 EndD h5.size h11 fun h12 =>
 K (.tuple #[.slice none 0 0,.string (mkStr []),.int .i64 1]) h12) else (
 C.path_components s1 1024 h11 fun r4 h13 =>
 ∃ (sA1:Option Addr) (sL1:Nat) (sC1:Nat) (n1:Int),r4 = .tuple #[.slice sA1 sL1 sC1,.int .i64 n1] ∧
 bif (n1 != 0) then (
 EndD h5.size h13 fun h14 =>
 K (.tuple #[.slice none 0 0,.string (mkStr []),.int .i64 n1]) h14) else (
 bif ((sL1:Int) == 0) then (
 EndD h5.size h13 fun h15 =>
 K (.tuple #[.slice none 0 0,.string (mkStr []),.int .i64 n1]) h15) else (
 path_Make.k1 h5 h13 sA1 sL1 sC1 K)))) (
 False) (fun _=>False))
def path_Make.lo : Nat→List Nat×List (Nat×Ty):=fun n=>match n with|1000005=>([],[(15,.str)])|_=>([],[])
def path_Make.od : Nat→Od:=fun n=>match n with|13=>(.op 0 [] (.op 1 [] (.op 2 [] (.op 3 [] (.op 4 [] (.op 5 [] (.op 6 [] (.op 7 [] (.op 8 [] (.op 9 [] (.op 10 [] (.op 11 [] (.op 12 [] (.op 13 [] (.op 14 [] (.op 15 [] (.op 16 [] .nil)))))))))))))))))|_ => .nil
theorem path_Make.ok {s1:ByteArray} {K:Value→Heap→Prop} {h:Heap} (hx:path_Make s1 K h):C.path_Make s1 h K :=
 fn_to (c:=Tryz.f48.body.getD .skip) (cxOk path_Make.lo path_Make.od) Tryz.func48 (by kernel_rfl) (by kernel_rfl) (Eq.mpr (by kernel_rfl) hx)
def bolelaw16_Node_has (n1:Option Addr) (name1:ByteArray) (K:Value→Heap→Prop) (h1:Heap):Prop :=
 onSome n1 fun p1 =>
 ∃ (sA1:Option Addr) (sL1:Nat) (sC1:Nat),cellOf h1 (Addr.add p1 4)=some (.slice sA1 sL1 sC1) ∧
 ∃ (I1:Int→Heap→Prop) (M1:Int→Heap→Nat),I1 0 h1 ∧
 ∀ (n2:Int),∀ h2:Heap,I1 n2 h2 →
 bif (decide (n2<(sL1:Int))) then (
 (0≤n2∧n2<(sL1:Int)) ∧
 onSome sA1 fun p2 =>
 ∃ (s1:ByteArray),cellOf h2 (Addr.add p2 (Int.toNat n2))=some (.string s1) ∧
 bif (s1.toList == name1.toList) then (
 onSome n1 fun p3 =>
 ∃ (sA2:Option Addr) (sL2:Nat) (sC2:Nat),cellOf h2 (Addr.add p3 5)=some (.slice sA2 sL2 sC2) ∧
 (0≤n2∧n2<(sL2:Int)) ∧
 onSome sA2 fun p4 =>
 ∃ (n3:Int),cellOf h2 (Addr.add p4 (Int.toNat n2))=some (.int .i64 n3) ∧
 K (.int .i64 n3) h2) else (
 I1 (IntKind.wrap .i64 (n2+1)) h2∧M1 (IntKind.wrap .i64 (n2+1)) h2<M1 n2 h2)) else (
 K (.int .i64 0) h2)
def bolelaw16_Node_has.lo : Nat→List Nat×List (Nat×Ty):=fun n=>match n with|2=>([0,1,10,11],[(12,.int .i64)])|_=>([],[])
def bolelaw16_Node_has.od : Nat→Od:=fun n=>match n with|_ => .nil
theorem bolelaw16_Node_has.ok {n1:Option Addr} {name1:ByteArray} {K:Value→Heap→Prop} {h:Heap} (hx:bolelaw16_Node_has n1 name1 K h):C.bolelaw16_Node_has n1 name1 h K :=
 fn_to (c:=Tryz.f49.body.getD .skip) (cxOk bolelaw16_Node_has.lo bolelaw16_Node_has.od) Tryz.func49 (by kernel_rfl) (by kernel_rfl) (Eq.mpr (by kernel_rfl) hx)
end Go.Proofs.YtiapingedfnlnaaGreatDoor.W
namespace Go.Proofs.YtiapingedfnlnaaGreatDoor.W
open Go Go.Proofs Wx
def boleref09_Geo (n1:Int) (K:Value→Heap→Prop) (h1:Heap):Prop :=
 NewRow z25 25 [.int .i64 n1,.int .i64 98,.int .i64 (IntKind.wrap .i64 (98+(IntKind.wrap .i64 (Int.tdiv (IntKind.wrap .i64 ((IntKind.wrap .i64 (n1+4096)) - 1)) 4096)))),.int .i64 (IntKind.wrap .i64 ((IntKind.wrap .i64 (98+(IntKind.wrap .i64 (Int.tdiv (IntKind.wrap .i64 ((IntKind.wrap .i64 (n1+4096)) - 1)) 4096))))+(IntKind.wrap .i64 (Int.tdiv n1 64)))),.int .i64 (IntKind.wrap .i64 (8*(IntKind.wrap .i64 (Int.tdiv n1 64))))] 5 h1 fun h3 =>
 ∃ res1:List Value,List.length res1=5∧Cells h3 ⟨h1.size,0,none⟩ res1 ∧
 K (.agg ⟨res1⟩) h3
def boleref09_Geo.lo : Nat→List Nat×List (Nat×Ty):=fun n=>match n with|_=>([],[])
def boleref09_Geo.od : Nat→Od:=fun n=>match n with|_ => .nil
theorem boleref09_Geo.ok {n1:Int} {K:Value→Heap→Prop} {h:Heap} (hx:boleref09_Geo n1 K h):C.boleref09_Geo n1 h K :=
 fn_to (c:=Tryz.f51.body.getD .skip) (cxOk boleref09_Geo.lo boleref09_Geo.od) Tryz.func51 (by kernel_rfl) (by kernel_rfl) (Eq.mpr (by kernel_rfl) hx)
def adisk_Open (imageA1:Option Addr) (imageL1:Nat) (imageC1:Nat) (K:Value→Heap→Prop) (h1:Heap):Prop :=
 bif ((Int.tmod (imageL1:Int) 512) != 0) then (
 K (.tuple #[.pointer none,.int .i64 32]) h1) else (
 C.adisk_New (IntKind.wrap .i64 (Int.tdiv (imageL1:Int) 512)) h1 fun r1 h2 =>
 ∃ (q1:Option Addr) (n1:Int),r1 = .tuple #[.pointer q1,.int .i64 n1] ∧
 bif (n1 != 0) then (
 K (.tuple #[.pointer none,.int .i64 n1]) h2) else (
 onSome q1 fun p1 =>
 ∃ (sA1:Option Addr) (sL1:Nat) (sC1:Nat),cellOf h2 (Addr.add p1 0)=some (.slice sA1 sL1 sC1) ∧
 ∃ (I1:Int→Heap→Prop) (M1:Int→Heap→Nat),I1 0 h2 ∧
 ∀ (n2:Int),∀ h3:Heap,I1 n2 h3 →
 bif (decide (n2<(sL1:Int))) then (
 onSome q1 fun p2 =>
 ∃ (sA2:Option Addr) (sL2:Nat) (sC2:Nat),cellOf h3 (Addr.add p2 0)=some (.slice sA2 sL2 sC2) ∧
 (0≤n2∧n2<(sL2:Int)) ∧
 onSome sA2 fun p3 =>
 (0≤(IntKind.wrap .i64 (n2*512))∧(IntKind.wrap .i64 (n2*512))≤(imageL1:Int)) ∧
 CopyP ti5 (some (Addr.add p3 ((Int.toNat n2)*512))) 512 (.slice (if imageC1=(Int.toNat (IntKind.wrap .i64 (n2*512))) then imageA1 else Option.map (Addr.add · (Int.toNat (IntKind.wrap .i64 (n2*512)))) imageA1) (imageL1 - (Int.toNat (IntKind.wrap .i64 (n2*512)))) (imageC1 - (Int.toNat (IntKind.wrap .i64 (n2*512))))) h3 fun n3 h4 =>
 I1 (IntKind.wrap .i64 (n2+1)) h4∧M1 (IntKind.wrap .i64 (n2+1)) h4<M1 n2 h3) else (
 K (.tuple #[.pointer q1,.int .i64 0]) h3)))
def adisk_Open.lo : Nat→List Nat×List (Nat×Ty):=fun n=>match n with|7=>([0,4,25],[(26,.int .i64)])|_=>([],[])
def adisk_Open.od : Nat→Od:=fun n=>match n with|9=>(.op 0 [] (.op 1 [] (.op 2 [] (.op 3 [] (.op 4 [] (.op 5 [] (.op 6 [] (.op 7 [] (.op 8 [] (.op 9 [] (.op 10 [] (.op 11 [] .nil))))))))))))|_ => .nil
theorem adisk_Open.ok {imageA1:Option Addr} {imageL1:Nat} {imageC1:Nat} {K:Value→Heap→Prop} {h:Heap} (hx:adisk_Open imageA1 imageL1 imageC1 K h):C.adisk_Open imageA1 imageL1 imageC1 h K :=
 fn_to (c:=Tryz.f53.body.getD .skip) (cxOk adisk_Open.lo adisk_Open.od) Tryz.func53 (by kernel_rfl) (by kernel_rfl) (Eq.mpr (by kernel_rfl) hx)
def txn_Begin (d1:Option Addr) (K:Value→Heap→Prop) (h1:Heap):Prop :=
 NewM h1 fun h2 =>
 New [.pointer d1,.map (some h1.size),.slice none 0 0,.bool false] 210 h2 fun h3 =>
 K (.pointer (some ⟨h2.size,0,none⟩)) h3
def txn_Begin.lo : Nat→List Nat×List (Nat×Ty):=fun n=>match n with|_=>([],[])
def txn_Begin.od : Nat→Od:=fun n=>match n with|_ => .nil
theorem txn_Begin.ok {d1:Option Addr} {K:Value→Heap→Prop} {h:Heap} (hx:txn_Begin d1 K h):C.txn_Begin d1 h K :=
 fn_to (c:=Tryz.f61.body.getD .skip) (cxOk txn_Begin.lo txn_Begin.od) Tryz.func61 (by kernel_rfl) (by kernel_rfl) (Eq.mpr (by kernel_rfl) hx)
def path_Name (s1:ByteArray) (K:Value→Heap→Prop) (h1:Heap):Prop :=
 C.path_does s1 h1 fun r1 h2 =>
 ∃ (v1:Value) (b1:Bool),r1 = .tuple #[v1,.bool b1] ∧
 bif (decide ((s1.size:Int)≥1)) then (
 bif (decide ((s1.size:Int)≤27)) then (
 bif (!b1) then (
 C.strings_ContainsAny s1 (mkStr [47,0]) h2 fun r2 h3 =>
 ∃ (b2:Bool),r2 = .bool b2 ∧
 K (.bool (!b2)) h3) else (
 K (.bool false) h2)) else (
 K (.bool false) h2)) else (
 K (.bool false) h2)
def path_Name.lo : Nat→List Nat×List (Nat×Ty):=fun n=>match n with|_=>([],[])
def path_Name.od : Nat→Od:=fun n=>match n with|_ => .nil
theorem path_Name.ok {s1:ByteArray} {K:Value→Heap→Prop} {h:Heap} (hx:path_Name s1 K h):C.path_Name s1 h K :=
 fn_to (c:=Tryz.f63.body.getD .skip) (cxOk path_Name.lo path_Name.od) Tryz.func63 (by kernel_rfl) (by kernel_rfl) (Eq.mpr (by kernel_rfl) hx)
def dir_open (t1:Option Addr) (g1:List Value) (n1:Int) (K:Value→Heap→Prop) (h1:Heap):Prop :=
 New g1 25 h1 fun h2 =>
 New z144 144 h2 fun h3 =>
 ∃ cs1:List Value,List.length cs1=5∧Cells h3 ⟨h1.size,0,none⟩ cs1 ∧
 List.length (cs1:List Value)=5 ∧
 NewRow z144 144 ([.pointer t1]++(cs1++([.int .i64 n1]++(z123++[.int .i64 0])))) 23 h3 fun h5 =>
 ∃ cs2:List Value,List.length cs2=5∧Cells h5 ⟨h1.size,0,none⟩ cs2 ∧
 C.inode_Get t1 cs2 n1 h5 fun r1 h6 =>
 ∃ (cs3:List Value) (n2:Int),r1 = .tuple #[.agg ⟨cs3⟩,.int .i64 n2] ∧
 PutRow (Addr.add ⟨h3.size,0,none⟩ 7) cs3 15 h6 fun h7 =>
 Put (Addr.add ⟨h3.size,0,none⟩ 22) (.int .i64 n2) h7 fun h8 =>
 ∃ (n3:Int),cellOf h8 (Addr.add ⟨h3.size,0,none⟩ 22)=some (.int .i64 n3) ∧
 bif (n3 != 0) then (
 ∃ cs4:List Value,List.length cs4=23∧Cells h8 ⟨h3.size,0,none⟩ cs4 ∧
 PutRow ⟨h2.size,0,none⟩ cs4 23 h8 fun h9 =>
 ∃ res1:List Value,List.length res1=23∧Cells h9 ⟨h2.size,0,none⟩ res1 ∧
 K (.agg ⟨res1⟩) h9) else (
 ∃ (n4:Int),cellOf h8 (Addr.add (Addr.add ⟨h3.size,0,none⟩ 7) 0)=some (.int .i64 n4) ∧
 bif (n4 == 0) then (
 Put (Addr.add ⟨h3.size,0,none⟩ 22) (.int .i64 110) h8 fun h10 =>
 ∃ cs5:List Value,List.length cs5=23∧Cells h10 ⟨h3.size,0,none⟩ cs5 ∧
 PutRow ⟨h2.size,0,none⟩ cs5 23 h10 fun h11 =>
 ∃ res2:List Value,List.length res2=23∧Cells h11 ⟨h2.size,0,none⟩ res2 ∧
 K (.agg ⟨res2⟩) h11) else (
 ∃ (n5:Int),cellOf h8 (Addr.add (Addr.add ⟨h3.size,0,none⟩ 7) 0)=some (.int .i64 n5) ∧
 bif (n5 != 2) then (
 Put (Addr.add ⟨h3.size,0,none⟩ 22) (.int .i64 161) h8 fun h12 =>
 ∃ cs6:List Value,List.length cs6=23∧Cells h12 ⟨h3.size,0,none⟩ cs6 ∧
 PutRow ⟨h2.size,0,none⟩ cs6 23 h12 fun h13 =>
 ∃ res3:List Value,List.length res3=23∧Cells h13 ⟨h2.size,0,none⟩ res3 ∧
 K (.agg ⟨res3⟩) h13) else (
 ∃ cs7:List Value,List.length cs7=23∧Cells h8 ⟨h3.size,0,none⟩ cs7 ∧
 PutRow ⟨h2.size,0,none⟩ cs7 23 h8 fun h14 =>
 ∃ res4:List Value,List.length res4=23∧Cells h14 ⟨h2.size,0,none⟩ res4 ∧
 K (.agg ⟨res4⟩) h14)))
def dir_open.lo : Nat→List Nat×List (Nat×Ty):=fun n=>match n with|_=>([],[])
def dir_open.od : Nat→Od:=fun n=>match n with|_ => .nil
theorem dir_open.ok {t1:Option Addr} {g1:List Value} {n1:Int} {K:Value→Heap→Prop} {h:Heap} (hx:dir_open t1 g1 n1 K h):C.dir_open t1 g1 n1 h K :=
 fn_to (c:=Tryz.f65.body.getD .skip) (cxOk dir_open.lo dir_open.od) Tryz.func65 (by kernel_rfl) (by kernel_rfl) (Eq.mpr (by kernel_rfl) hx)
end Go.Proofs.YtiapingedfnlnaaGreatDoor.W
namespace Go.Proofs.YtiapingedfnlnaaGreatDoor.W
open Go Go.Proofs Wx
def dir_reader_leaves (r1:Option Addr) (K:Value→Heap→Prop) (h1:Heap):Prop :=
 New [.pointer r1] 245 h1 fun h2 =>
 K (.func (.func 135) #[] ⟨[.pointer (some ⟨h1.size,0,none⟩)]⟩) h2
def dir_reader_leaves.lo : Nat→List Nat×List (Nat×Ty):=fun n=>match n with|_=>([],[])
def dir_reader_leaves.od : Nat→Od:=fun n=>match n with|_ => .nil
theorem dir_reader_leaves.ok {r1:Option Addr} {K:Value→Heap→Prop} {h:Heap} (hx:dir_reader_leaves r1 K h):C.dir_reader_leaves r1 h K :=
 fn_to (c:=Tryz.f66.body.getD .skip) (cxOk dir_reader_leaves.lo dir_reader_leaves.od) Tryz.func66 (by kernel_rfl) (by kernel_rfl) (Eq.mpr (by kernel_rfl) hx)
def dir_find (t1:Option Addr) (g1:List Value) (n1:Int) (name1:ByteArray) (K:Value→Heap→Prop) (h1:Heap):Prop :=
 New g1 25 h1 fun h2 =>
 New [.string name1] 9 h2 fun h3 =>
 New z157 157 h3 fun h4 =>
 New (z144++[.int .i64 0,.int .i64 0,.slice none 0 0,.slice none 0 0,.int .i64 0,.string (mkStr []),.int .i64 0]) 160 h4 fun h5 =>
 New z157 157 h5 fun h6 =>
 Put ⟨h5.size,0,none⟩ (.pointer (some ⟨h4.size,0,none⟩)) h6 fun h7 =>
 ∃ (s1:ByteArray),cellOf h7 ⟨h2.size,0,none⟩=some (.string s1) ∧
 C.path_Name s1 h7 fun r1 h8 =>
 ∃ (b1:Bool),r1 = .bool b1 ∧
 bif (!b1) then (
 ∃ (q1:Option Addr),cellOf h8 ⟨h5.size,0,none⟩=some (.pointer q1) ∧
 onSome q1 fun p1 =>
 Put (Addr.add (Addr.add p1 0) 22) (.int .i64 1) h8 fun h9 =>
 ∃ (q2:Option Addr),cellOf h9 ⟨h5.size,0,none⟩=some (.pointer q2) ∧
 Put ⟨h3.size,0,none⟩ (.pointer q2) h9 fun h10 =>
 ∃ (res1:Option Addr),cellOf h10 ⟨h3.size,0,none⟩=some (.pointer res1) ∧
 K (.pointer res1) h10) else (
 ∃ (q3:Option Addr),cellOf h8 ⟨h5.size,0,none⟩=some (.pointer q3) ∧
 ∃ cs1:List Value,List.length cs1=5∧Cells h8 ⟨h1.size,0,none⟩ cs1 ∧
 C.dir_open t1 cs1 n1 h8 fun r2 h11 =>
 ∃ (cs2:List Value),r2 = .agg ⟨cs2⟩ ∧
 (cellOf h11 ⟨h5.size,0,none⟩=some (.pointer q3)) ∧
 onSome q3 fun p2 =>
 PutRow (Addr.add p2 0) cs2 23 h11 fun h12 =>
 ∃ (q4:Option Addr),cellOf h12 ⟨h5.size,0,none⟩=some (.pointer q4) ∧
 onSome q4 fun p3 =>
 C.dir_reader_leaves (some (Addr.add p3 0)) h12 fun r3 h13 =>
 ∃ (v1:Value),r3=v1 ∧
 ∀ (R1:Loop),
 (∀ (cs3:List Value),∀ (h14:Heap) (k1:Value→Heap→Prop),LoopOn h14 (h13.size+1) R1 .ready none →
 (
 NewRow z150 150 cs3 4 h14 fun h16 =>
 LoopOn h16 (h13.size+1) R1 .ready none ∧
 SetL h16 (h13.size+1) R1 .busy none fun h17 =>
 ∃ (sA1:Option Addr) (sL1:Nat) (sC1:Nat),cellOf h17 (Addr.add ⟨h14.size,0,none⟩ 3)=some (.slice sA1 sL1 sC1) ∧
 ∃ (I1:Int→Heap→Prop) (M1:Int→Heap→Nat),I1 0 h17 ∧
 ∀ (n2:Int),∀ h18:Heap,I1 n2 h18 →
 bif (decide (n2<(sL1:Int))) then (
 (0≤n2∧n2<(sL1:Int)) ∧
 onSome sA1 fun p4 =>
 ∃ cs4:List Value,List.length cs4=3∧Cells h18 (Addr.add p4 ((Int.toNat n2)*3)) cs4 ∧
 NewRow z113 113 cs4 3 h18 fun h20 =>
 ∃ (s2:ByteArray),cellOf h20 (Addr.add ⟨h18.size,0,none⟩ 1)=some (.string s2) ∧
 ∃ (s3:ByteArray),cellOf h20 ⟨h2.size,0,none⟩=some (.string s3) ∧
 bif (s2.toList == s3.toList) then (
 ∃ (q5:Option Addr),cellOf h20 ⟨h5.size,0,none⟩=some (.pointer q5) ∧
 ∃ (q6:Option Addr),cellOf h20 ⟨h5.size,0,none⟩=some (.pointer q6) ∧
 ∃ cs5:List Value,List.length cs5=4∧Cells h20 ⟨h14.size,0,none⟩ cs5 ∧
 ∃ cs6:List Value,List.length cs6=3∧Cells h20 ⟨h18.size,0,none⟩ cs6 ∧
 onSome q5 fun p5 =>
 PutRow (Addr.add p5 23) cs5 4 h20 fun h21 =>
 (cellOf h21 ⟨h5.size,0,none⟩=some (.pointer q6)) ∧
 (List.length (cs6:List Value)=3∧Cells h21 ⟨h18.size,0,none⟩ cs6) ∧
 onSome q6 fun p6 =>
 PutRow (Addr.add p6 27) cs6 3 h21 fun h22 =>
 ∃ (q7:Option Addr),cellOf h22 ⟨h5.size,0,none⟩=some (.pointer q7) ∧
 Put ⟨h3.size,0,none⟩ (.pointer q7) h22 fun h23 =>
 LoopOn h23 (h13.size+1) R1 .busy none ∧
 k1 (.bool false) (setLoop h23 (h13.size+1) R1 .done (some .ret))) else (
 I1 (IntKind.wrap .i64 (n2+1)) h20∧M1 (IntKind.wrap .i64 (n2+1)) h20<M1 n2 h18)) else (
 LoopOn h18 (h13.size+1) R1 .busy none ∧
 k1 (.bool true) (setLoop h18 (h13.size+1) R1 .ready none))) →
 YCalls Tryz.prog (h13.size+1) [.agg ⟨cs3⟩] h14 k1) →
 HCallsF Tryz.prog v1 [.func (.yield (h13.size+1)) #[] #[]] (beginL h13 R1) fun _ h24 =>
 ∃ (st1:LoopState) (pend1:Option Code),LoopOn h24 (h13.size+1) R1 st1 pend1∧st1 ≠ .busy ∧
 pendX pend1 (
 SetL h24 (h13.size+1) R1 .exhausted pend1 fun h25 =>
 ∃ (q8:Option Addr),cellOf h25 ⟨h5.size,0,none⟩=some (.pointer q8) ∧
 onSome q8 fun p7 =>
 ∃ (n3:Int),cellOf h25 (Addr.add (Addr.add p7 0) 22)=some (.int .i64 n3) ∧
 bif (n3 == 0) then (
 ∃ (q9:Option Addr),cellOf h25 ⟨h5.size,0,none⟩=some (.pointer q9) ∧
 onSome q9 fun p8 =>
 Put (Addr.add (Addr.add p8 0) 22) (.int .i64 160) h25 fun h26 =>
 ∃ (q10:Option Addr),cellOf h26 ⟨h5.size,0,none⟩=some (.pointer q10) ∧
 Put ⟨h3.size,0,none⟩ (.pointer q10) h26 fun h27 =>
 EndD h13.size h27 fun h28 =>
 ∃ (res2:Option Addr),cellOf h28 ⟨h3.size,0,none⟩=some (.pointer res2) ∧
 K (.pointer res2) h28) else (
 ∃ (q11:Option Addr),cellOf h25 ⟨h5.size,0,none⟩=some (.pointer q11) ∧
 Put ⟨h3.size,0,none⟩ (.pointer q11) h25 fun h29 =>
 EndD h13.size h29 fun h30 =>
 ∃ (res3:Option Addr),cellOf h30 ⟨h3.size,0,none⟩=some (.pointer res3) ∧
 K (.pointer res3) h30)) (
 SetL h24 (h13.size+1) R1 .exhausted pend1 fun h31 =>
 EndD h13.size h31 fun h32 =>
 ∃ (res4:Option Addr),cellOf h32 ⟨h3.size,0,none⟩=some (.pointer res4) ∧
 K (.pointer res4) h32) (fun _=>False))
def dir_find.lo : Nat→List Nat×List (Nat×Ty):=fun n=>match n with|9=>([7,8,9,10,36,37],[(38,.int .i64)])|1000007=>([],[(34,.agg)])|_=>([],[])
def dir_find.od : Nat→Od:=fun n=>match n with|5=>(.op 0 [] (.op 1 [] (.op 2 [] (.op 3 [] (.op 4 [0] (.op 5 [] (.op 6 [] (.op 7 [] .nil))))))))|12=>(.op 0 [] (.op 1 [] (.op 2 [] (.op 3 [] (.op 4 [] (.op 5 [] (.op 6 [1,3] (.op 7 [] (.op 8 [] (.op 9 [] .nil))))))))))|_ => .nil
theorem dir_find.ok {t1:Option Addr} {g1:List Value} {n1:Int} {name1:ByteArray} {K:Value→Heap→Prop} {h:Heap} (hx:dir_find t1 g1 n1 name1 K h):C.dir_find t1 g1 n1 name1 h K :=
 fn_to (c:=Tryz.f74.body.getD .skip) (cxOk dir_find.lo dir_find.od) Tryz.func74 (by kernel_rfl) (by kernel_rfl) (Eq.mpr (by kernel_rfl) hx)
def file_get (t1:Option Addr) (g1:List Value) (n1:Int) (K:Value→Heap→Prop) (h1:Heap):Prop :=
 New g1 25 h1 fun h2 =>
 New z123 123 h2 fun h3 =>
 ∃ cs1:List Value,List.length cs1=5∧Cells h3 ⟨h1.size,0,none⟩ cs1 ∧
 C.inode_Get t1 cs1 n1 h3 fun r1 h4 =>
 ∃ (cs2:List Value) (n2:Int),r1 = .tuple #[.agg ⟨cs2⟩,.int .i64 n2] ∧
 NewRow z123 123 cs2 15 h4 fun h6 =>
 bif (n2 == 0) then (
 ∃ (n3:Int),cellOf h6 (Addr.add ⟨h4.size,0,none⟩ 0)=some (.int .i64 n3) ∧
 bif (n3 == 0) then (
 ∃ cs3:List Value,List.length cs3=15∧Cells h6 ⟨h4.size,0,none⟩ cs3 ∧
 PutRow ⟨h2.size,0,none⟩ cs3 15 h6 fun h7 =>
 ∃ res1:List Value,List.length res1=15∧Cells h7 ⟨h2.size,0,none⟩ res1 ∧
 K (.tuple #[.agg ⟨res1⟩,.int .i64 110]) h7) else (
 ∃ cs4:List Value,List.length cs4=15∧Cells h6 ⟨h4.size,0,none⟩ cs4 ∧
 PutRow ⟨h2.size,0,none⟩ cs4 15 h6 fun h8 =>
 ∃ res2:List Value,List.length res2=15∧Cells h8 ⟨h2.size,0,none⟩ res2 ∧
 K (.tuple #[.agg ⟨res2⟩,.int .i64 n2]) h8)) else (
 ∃ cs5:List Value,List.length cs5=15∧Cells h6 ⟨h4.size,0,none⟩ cs5 ∧
 PutRow ⟨h2.size,0,none⟩ cs5 15 h6 fun h9 =>
 ∃ res3:List Value,List.length res3=15∧Cells h9 ⟨h2.size,0,none⟩ res3 ∧
 K (.tuple #[.agg ⟨res3⟩,.int .i64 n2]) h9)
def file_get.lo : Nat→List Nat×List (Nat×Ty):=fun n=>match n with|_=>([],[])
def file_get.od : Nat→Od:=fun n=>match n with|_ => .nil
theorem file_get.ok {t1:Option Addr} {g1:List Value} {n1:Int} {K:Value→Heap→Prop} {h:Heap} (hx:file_get t1 g1 n1 K h):C.file_get t1 g1 n1 h K :=
 fn_to (c:=Tryz.f83.body.getD .skip) (cxOk file_get.lo file_get.od) Tryz.func83 (by kernel_rfl) (by kernel_rfl) (Eq.mpr (by kernel_rfl) hx)
end Go.Proofs.YtiapingedfnlnaaGreatDoor.W
namespace Go.Proofs.YtiapingedfnlnaaGreatDoor.W
open Go Go.Proofs Wx
def bolelaw16_Setup_tree.k6 (h4:Heap) (left1:Int) (nodesA1:Option Addr) (nodesL1:Nat) (nodesC1:Nat) (dirsA1:Option Addr) (dirsL1:Nat) (dirsC1:Nat) (othersA1:Option Addr) (othersL1:Nat) (othersC1:Nat) (n4:Int) (h10:Heap) (I1:Int→Option Addr→Nat→Nat→Option Addr→Nat→Nat→Option Addr→Nat→Nat→Int→Heap→Prop) (M1:Int→Option Addr→Nat→Nat→Option Addr→Nat→Nat→Option Addr→Nat→Nat→Int→Heap→Nat) (in1:Int) (name1:ByteArray) (n9:Int) (said1:ByteArray) (need2:Int) (left2:Int) (h36:Heap) (K:Value→Heap→Prop):Prop :=
 ∃ (n13:Int),cellOf h36 (Addr.add ⟨h4.size,0,none⟩ 4)=some (.int .i64 n13) ∧
 bif (decide ((nodesL1:Int)≥n13)) then (
 I1 left2 nodesA1 nodesL1 nodesC1 dirsA1 dirsL1 dirsC1 othersA1 othersL1 othersC1 (IntKind.wrap .i64 (n4+1)) h36∧M1 left2 nodesA1 nodesL1 nodesC1 dirsA1 dirsL1 dirsC1 othersA1 othersL1 othersC1 (IntKind.wrap .i64 (n4+1)) h36<M1 left1 nodesA1 nodesL1 nodesC1 dirsA1 dirsL1 dirsC1 othersA1 othersL1 othersC1 n4 h10) else (
 (0≤in1∧in1<(nodesL1:Int)) ∧
 onSome nodesA1 fun p24 =>
 ∃ (q9:Option Addr),cellOf h36 (Addr.add p24 (Int.toNat in1))=some (.pointer q9) ∧
 onSome q9 fun p25 =>
 ∃ (n14:Int),cellOf h36 (Addr.add p25 1)=some (.int .i64 n14) ∧
 New [.int .i64 (IntKind.wrap .i64 (1+(IntKind.wrap .i64 ((Int.tmod (IntKind.wrap .u64 ((IntKind.wrap .i64 (n9 - 1)))) 4))))),.int .i64 (IntKind.wrap .i64 (n14+1)),.int .i64 1,.string (mkStr []),.slice none 0 0,.slice none 0 0,.int .i64 0] 63 h36 fun h37 =>
 bif ((IntKind.wrap .i64 (1+(IntKind.wrap .i64 ((Int.tmod (IntKind.wrap .u64 ((IntKind.wrap .i64 (n9 - 1)))) 4))))) == 2) then (
 Put (Addr.add ⟨h36.size,0,none⟩ 2) (.int .i64 2) h37 fun h38 =>
 Put (Addr.add ⟨h36.size,0,none⟩ 6) (.int .i64 in1) h38 fun h39 =>
 (0≤in1∧in1<(nodesL1:Int)) ∧
 onSome nodesA1 fun p26 =>
 ∃ (q10:Option Addr),cellOf h39 (Addr.add p26 (Int.toNat in1))=some (.pointer q10) ∧
 onSome q10 fun p27 =>
 ∃ (n15:Int),cellOf h39 (Addr.add p27 2)=some (.int .i64 n15) ∧
 onSome q10 fun p28 =>
 Put (Addr.add p28 2) (.int .i64 (IntKind.wrap .i64 (n15+1))) h39 fun h40 =>
 New [.int .i64 (nodesL1:Int)] 3 h40 fun h41 =>
 ∃ new7:List Value,List.length new7=1*1∧SlCells h41 (some ⟨h40.size,0,none⟩) new7∧(∀ v ∈ new7,v.oneCell'=true) ∧
 AppendP ti3 3 dirsA1 dirsL1 dirsC1 1 new7 h41 fun sA11 sL11 sC11 h42 =>
 New [.pointer (some ⟨h36.size,0,none⟩)] 59 h42 fun h43 =>
 ∃ new8:List Value,List.length new8=1*1∧SlCells h43 (some ⟨h42.size,0,none⟩) new8∧(∀ v ∈ new8,v.oneCell'=true) ∧
 AppendP ti59 59 nodesA1 nodesL1 nodesC1 1 new8 h43 fun sA12 sL12 sC12 h44 =>
 (0≤in1∧in1<(sL12:Int)) ∧
 onSome sA12 fun p29 =>
 ∃ (q11:Option Addr),cellOf h44 (Addr.add p29 (Int.toNat in1))=some (.pointer q11) ∧
 (0≤in1∧in1<(sL12:Int)) ∧
 onSome sA12 fun p30 =>
 ∃ (q12:Option Addr),cellOf h44 (Addr.add p30 (Int.toNat in1))=some (.pointer q12) ∧
 (0≤in1∧in1<(sL12:Int)) ∧
 onSome sA12 fun p31 =>
 ∃ (q13:Option Addr),cellOf h44 (Addr.add p31 (Int.toNat in1))=some (.pointer q13) ∧
 onSome q13 fun p32 =>
 ∃ (sA13:Option Addr) (sL13:Nat) (sC13:Nat),cellOf h44 (Addr.add p32 4)=some (.slice sA13 sL13 sC13) ∧
 (0≤in1∧in1<(sL12:Int)) ∧
 onSome sA12 fun p33 =>
 ∃ (q14:Option Addr),cellOf h44 (Addr.add p33 (Int.toNat in1))=some (.pointer q14) ∧
 onSome q14 fun p34 =>
 ∃ (sA14:Option Addr) (sL14:Nat) (sC14:Nat),cellOf h44 (Addr.add p34 5)=some (.slice sA14 sL14 sC14) ∧
 (
 New [.string name1] 9 h44 fun h45 =>
 (cellOf h45 (Addr.add p29 (Int.toNat in1))=some (.pointer q11)) ∧
 (cellOf h45 (Addr.add p30 (Int.toNat in1))=some (.pointer q12)) ∧
 (cellOf h45 (Addr.add p31 (Int.toNat in1))=some (.pointer q13)) ∧
 (cellOf h45 (Addr.add p32 4)=some (.slice sA13 sL13 sC13)) ∧
 (cellOf h45 (Addr.add p33 (Int.toNat in1))=some (.pointer q14)) ∧
 (cellOf h45 (Addr.add p34 5)=some (.slice sA14 sL14 sC14)) ∧
 (
 ∃ new9:List Value,List.length new9=1*1∧SlCells h45 (some ⟨h44.size,0,none⟩) new9∧(∀ v ∈ new9,v.oneCell'=true) ∧
 AppendP ti9 9 sA13 sL13 sC13 1 new9 h45 fun sA15 sL15 sC15 h46 =>
 (cellOf h46 (Addr.add p29 (Int.toNat in1))=some (.pointer q11)) ∧
 (cellOf h46 (Addr.add p30 (Int.toNat in1))=some (.pointer q12)) ∧
 (cellOf h46 (Addr.add p33 (Int.toNat in1))=some (.pointer q14)) ∧
 (cellOf h46 (Addr.add p34 5)=some (.slice sA14 sL14 sC14)) ∧
 New [.int .i64 (nodesL1:Int)] 3 h46 fun h47 =>
 (cellOf h47 (Addr.add p29 (Int.toNat in1))=some (.pointer q11)) ∧
 (cellOf h47 (Addr.add p30 (Int.toNat in1))=some (.pointer q12)) ∧
 (cellOf h47 (Addr.add p31 (Int.toNat in1))=some (.pointer q13)) ∧
 (cellOf h47 (Addr.add p32 4)=some (.slice sA13 sL13 sC13)) ∧
 (cellOf h47 (Addr.add p33 (Int.toNat in1))=some (.pointer q14)) ∧
 (cellOf h47 (Addr.add p34 5)=some (.slice sA14 sL14 sC14)) ∧
 ∃ new10:List Value,List.length new10=1*1∧SlCells h47 (some ⟨h46.size,0,none⟩) new10∧(∀ v ∈ new10,v.oneCell'=true) ∧
 AppendP ti3 3 sA14 sL14 sC14 1 new10 h47 fun sA16 sL16 sC16 h48 =>
 (cellOf h48 (Addr.add p29 (Int.toNat in1))=some (.pointer q11)) ∧
 (cellOf h48 (Addr.add p30 (Int.toNat in1))=some (.pointer q12)) ∧
 onSome q11 fun p35 =>
 Put (Addr.add p35 4) (.slice sA15 sL15 sC15) h48 fun h49 =>
 onSome q12 fun p36 =>
 Put (Addr.add p36 5) (.slice sA16 sL16 sC16) h49 fun h50 =>
 I1 (IntKind.wrap .i64 (left2 - need2)) sA12 sL12 sC12 sA11 sL11 sC11 othersA1 othersL1 othersC1 (IntKind.wrap .i64 (n4+1)) h50∧M1 (IntKind.wrap .i64 (left2 - need2)) sA12 sL12 sC12 sA11 sL11 sC11 othersA1 othersL1 othersC1 (IntKind.wrap .i64 (n4+1)) h50<M1 left1 nodesA1 nodesL1 nodesC1 dirsA1 dirsL1 dirsC1 othersA1 othersL1 othersC1 n4 h10) ∧
 New [.int .i64 (nodesL1:Int)] 3 h45 fun h51 =>
 (cellOf h51 (Addr.add p29 (Int.toNat in1))=some (.pointer q11)) ∧
 (cellOf h51 (Addr.add p30 (Int.toNat in1))=some (.pointer q12)) ∧
 (cellOf h51 (Addr.add p31 (Int.toNat in1))=some (.pointer q13)) ∧
 (cellOf h51 (Addr.add p32 4)=some (.slice sA13 sL13 sC13)) ∧
 (cellOf h51 (Addr.add p33 (Int.toNat in1))=some (.pointer q14)) ∧
 (cellOf h51 (Addr.add p34 5)=some (.slice sA14 sL14 sC14)) ∧
 ∃ new11:List Value,List.length new11=1*1∧SlCells h51 (some ⟨h44.size,0,none⟩) new11∧(∀ v ∈ new11,v.oneCell'=true) ∧
 AppendP ti9 9 sA13 sL13 sC13 1 new11 h51 fun sA17 sL17 sC17 h52 =>
 (cellOf h52 (Addr.add p29 (Int.toNat in1))=some (.pointer q11)) ∧
 (cellOf h52 (Addr.add p30 (Int.toNat in1))=some (.pointer q12)) ∧
 (cellOf h52 (Addr.add p33 (Int.toNat in1))=some (.pointer q14)) ∧
 (cellOf h52 (Addr.add p34 5)=some (.slice sA14 sL14 sC14)) ∧
 ∃ new12:List Value,List.length new12=1*1∧SlCells h52 (some ⟨h45.size,0,none⟩) new12∧(∀ v ∈ new12,v.oneCell'=true) ∧
 AppendP ti3 3 sA14 sL14 sC14 1 new12 h52 fun sA18 sL18 sC18 h53 =>
 (cellOf h53 (Addr.add p29 (Int.toNat in1))=some (.pointer q11)) ∧
 (cellOf h53 (Addr.add p30 (Int.toNat in1))=some (.pointer q12)) ∧
 onSome q11 fun p37 =>
 Put (Addr.add p37 4) (.slice sA17 sL17 sC17) h53 fun h54 =>
 onSome q12 fun p38 =>
 Put (Addr.add p38 5) (.slice sA18 sL18 sC18) h54 fun h55 =>
 I1 (IntKind.wrap .i64 (left2 - need2)) sA12 sL12 sC12 sA11 sL11 sC11 othersA1 othersL1 othersC1 (IntKind.wrap .i64 (n4+1)) h55∧M1 (IntKind.wrap .i64 (left2 - need2)) sA12 sL12 sC12 sA11 sL11 sC11 othersA1 othersL1 othersC1 (IntKind.wrap .i64 (n4+1)) h55<M1 left1 nodesA1 nodesL1 nodesC1 dirsA1 dirsL1 dirsC1 othersA1 othersL1 othersC1 n4 h10) ∧
 New [.int .i64 (nodesL1:Int)] 3 h44 fun h56 =>
 (cellOf h56 (Addr.add p29 (Int.toNat in1))=some (.pointer q11)) ∧
 (cellOf h56 (Addr.add p30 (Int.toNat in1))=some (.pointer q12)) ∧
 (cellOf h56 (Addr.add p31 (Int.toNat in1))=some (.pointer q13)) ∧
 (cellOf h56 (Addr.add p32 4)=some (.slice sA13 sL13 sC13)) ∧
 (cellOf h56 (Addr.add p33 (Int.toNat in1))=some (.pointer q14)) ∧
 (cellOf h56 (Addr.add p34 5)=some (.slice sA14 sL14 sC14)) ∧
 New [.string name1] 9 h56 fun h57 =>
 (cellOf h57 (Addr.add p29 (Int.toNat in1))=some (.pointer q11)) ∧
 (cellOf h57 (Addr.add p30 (Int.toNat in1))=some (.pointer q12)) ∧
 (cellOf h57 (Addr.add p31 (Int.toNat in1))=some (.pointer q13)) ∧
 (cellOf h57 (Addr.add p32 4)=some (.slice sA13 sL13 sC13)) ∧
 (cellOf h57 (Addr.add p33 (Int.toNat in1))=some (.pointer q14)) ∧
 (cellOf h57 (Addr.add p34 5)=some (.slice sA14 sL14 sC14)) ∧
 ∃ new13:List Value,List.length new13=1*1∧SlCells h57 (some ⟨h56.size,0,none⟩) new13∧(∀ v ∈ new13,v.oneCell'=true) ∧
 AppendP ti9 9 sA13 sL13 sC13 1 new13 h57 fun sA19 sL19 sC19 h58 =>
 (cellOf h58 (Addr.add p29 (Int.toNat in1))=some (.pointer q11)) ∧
 (cellOf h58 (Addr.add p30 (Int.toNat in1))=some (.pointer q12)) ∧
 (cellOf h58 (Addr.add p33 (Int.toNat in1))=some (.pointer q14)) ∧
 (cellOf h58 (Addr.add p34 5)=some (.slice sA14 sL14 sC14)) ∧
 ∃ new14:List Value,List.length new14=1*1∧SlCells h58 (some ⟨h44.size,0,none⟩) new14∧(∀ v ∈ new14,v.oneCell'=true) ∧
 AppendP ti3 3 sA14 sL14 sC14 1 new14 h58 fun sA20 sL20 sC20 h59 =>
 (cellOf h59 (Addr.add p29 (Int.toNat in1))=some (.pointer q11)) ∧
 (cellOf h59 (Addr.add p30 (Int.toNat in1))=some (.pointer q12)) ∧
 onSome q11 fun p39 =>
 Put (Addr.add p39 4) (.slice sA19 sL19 sC19) h59 fun h60 =>
 onSome q12 fun p40 =>
 Put (Addr.add p40 5) (.slice sA20 sL20 sC20) h60 fun h61 =>
 I1 (IntKind.wrap .i64 (left2 - need2)) sA12 sL12 sC12 sA11 sL11 sC11 othersA1 othersL1 othersC1 (IntKind.wrap .i64 (n4+1)) h61∧M1 (IntKind.wrap .i64 (left2 - need2)) sA12 sL12 sC12 sA11 sL11 sC11 othersA1 othersL1 othersC1 (IntKind.wrap .i64 (n4+1)) h61<M1 left1 nodesA1 nodesL1 nodesC1 dirsA1 dirsL1 dirsC1 othersA1 othersL1 othersC1 n4 h10) else (
 bif ((IntKind.wrap .i64 (1+(IntKind.wrap .i64 ((Int.tmod (IntKind.wrap .u64 ((IntKind.wrap .i64 (n9 - 1)))) 4))))) == 3) then (
 Put (Addr.add ⟨h36.size,0,none⟩ 3) (.string said1) h37 fun h62 =>
 New [.int .i64 (nodesL1:Int)] 3 h62 fun h63 =>
 ∃ new15:List Value,List.length new15=1*1∧SlCells h63 (some ⟨h62.size,0,none⟩) new15∧(∀ v ∈ new15,v.oneCell'=true) ∧
 AppendP ti3 3 othersA1 othersL1 othersC1 1 new15 h63 fun sA21 sL21 sC21 h64 =>
 New [.pointer (some ⟨h36.size,0,none⟩)] 59 h64 fun h65 =>
 ∃ new16:List Value,List.length new16=1*1∧SlCells h65 (some ⟨h64.size,0,none⟩) new16∧(∀ v ∈ new16,v.oneCell'=true) ∧
 AppendP ti59 59 nodesA1 nodesL1 nodesC1 1 new16 h65 fun sA22 sL22 sC22 h66 =>
 (0≤in1∧in1<(sL22:Int)) ∧
 onSome sA22 fun p41 =>
 ∃ (q15:Option Addr),cellOf h66 (Addr.add p41 (Int.toNat in1))=some (.pointer q15) ∧
 (0≤in1∧in1<(sL22:Int)) ∧
 onSome sA22 fun p42 =>
 ∃ (q16:Option Addr),cellOf h66 (Addr.add p42 (Int.toNat in1))=some (.pointer q16) ∧
 (0≤in1∧in1<(sL22:Int)) ∧
 onSome sA22 fun p43 =>
 ∃ (q17:Option Addr),cellOf h66 (Addr.add p43 (Int.toNat in1))=some (.pointer q17) ∧
 onSome q17 fun p44 =>
 ∃ (sA23:Option Addr) (sL23:Nat) (sC23:Nat),cellOf h66 (Addr.add p44 4)=some (.slice sA23 sL23 sC23) ∧
 (0≤in1∧in1<(sL22:Int)) ∧
 onSome sA22 fun p45 =>
 ∃ (q18:Option Addr),cellOf h66 (Addr.add p45 (Int.toNat in1))=some (.pointer q18) ∧
 onSome q18 fun p46 =>
 ∃ (sA24:Option Addr) (sL24:Nat) (sC24:Nat),cellOf h66 (Addr.add p46 5)=some (.slice sA24 sL24 sC24) ∧
 (
 New [.string name1] 9 h66 fun h67 =>
 (cellOf h67 (Addr.add p41 (Int.toNat in1))=some (.pointer q15)) ∧
 (cellOf h67 (Addr.add p42 (Int.toNat in1))=some (.pointer q16)) ∧
 (cellOf h67 (Addr.add p43 (Int.toNat in1))=some (.pointer q17)) ∧
 (cellOf h67 (Addr.add p44 4)=some (.slice sA23 sL23 sC23)) ∧
 (cellOf h67 (Addr.add p45 (Int.toNat in1))=some (.pointer q18)) ∧
 (cellOf h67 (Addr.add p46 5)=some (.slice sA24 sL24 sC24)) ∧
 (
 ∃ new17:List Value,List.length new17=1*1∧SlCells h67 (some ⟨h66.size,0,none⟩) new17∧(∀ v ∈ new17,v.oneCell'=true) ∧
 AppendP ti9 9 sA23 sL23 sC23 1 new17 h67 fun sA25 sL25 sC25 h68 =>
 (cellOf h68 (Addr.add p41 (Int.toNat in1))=some (.pointer q15)) ∧
 (cellOf h68 (Addr.add p42 (Int.toNat in1))=some (.pointer q16)) ∧
 (cellOf h68 (Addr.add p45 (Int.toNat in1))=some (.pointer q18)) ∧
 (cellOf h68 (Addr.add p46 5)=some (.slice sA24 sL24 sC24)) ∧
 New [.int .i64 (nodesL1:Int)] 3 h68 fun h69 =>
 (cellOf h69 (Addr.add p41 (Int.toNat in1))=some (.pointer q15)) ∧
 (cellOf h69 (Addr.add p42 (Int.toNat in1))=some (.pointer q16)) ∧
 (cellOf h69 (Addr.add p43 (Int.toNat in1))=some (.pointer q17)) ∧
 (cellOf h69 (Addr.add p44 4)=some (.slice sA23 sL23 sC23)) ∧
 (cellOf h69 (Addr.add p45 (Int.toNat in1))=some (.pointer q18)) ∧
 (cellOf h69 (Addr.add p46 5)=some (.slice sA24 sL24 sC24)) ∧
 ∃ new18:List Value,List.length new18=1*1∧SlCells h69 (some ⟨h68.size,0,none⟩) new18∧(∀ v ∈ new18,v.oneCell'=true) ∧
 AppendP ti3 3 sA24 sL24 sC24 1 new18 h69 fun sA26 sL26 sC26 h70 =>
 (cellOf h70 (Addr.add p41 (Int.toNat in1))=some (.pointer q15)) ∧
 (cellOf h70 (Addr.add p42 (Int.toNat in1))=some (.pointer q16)) ∧
 onSome q15 fun p47 =>
 Put (Addr.add p47 4) (.slice sA25 sL25 sC25) h70 fun h71 =>
 onSome q16 fun p48 =>
 Put (Addr.add p48 5) (.slice sA26 sL26 sC26) h71 fun h72 =>
 I1 (IntKind.wrap .i64 (left2 - need2)) sA22 sL22 sC22 dirsA1 dirsL1 dirsC1 sA21 sL21 sC21 (IntKind.wrap .i64 (n4+1)) h72∧M1 (IntKind.wrap .i64 (left2 - need2)) sA22 sL22 sC22 dirsA1 dirsL1 dirsC1 sA21 sL21 sC21 (IntKind.wrap .i64 (n4+1)) h72<M1 left1 nodesA1 nodesL1 nodesC1 dirsA1 dirsL1 dirsC1 othersA1 othersL1 othersC1 n4 h10) ∧
 New [.int .i64 (nodesL1:Int)] 3 h67 fun h73 =>
 (cellOf h73 (Addr.add p41 (Int.toNat in1))=some (.pointer q15)) ∧
 (cellOf h73 (Addr.add p42 (Int.toNat in1))=some (.pointer q16)) ∧
 (cellOf h73 (Addr.add p43 (Int.toNat in1))=some (.pointer q17)) ∧
 (cellOf h73 (Addr.add p44 4)=some (.slice sA23 sL23 sC23)) ∧
 (cellOf h73 (Addr.add p45 (Int.toNat in1))=some (.pointer q18)) ∧
 (cellOf h73 (Addr.add p46 5)=some (.slice sA24 sL24 sC24)) ∧
 ∃ new19:List Value,List.length new19=1*1∧SlCells h73 (some ⟨h66.size,0,none⟩) new19∧(∀ v ∈ new19,v.oneCell'=true) ∧
 AppendP ti9 9 sA23 sL23 sC23 1 new19 h73 fun sA27 sL27 sC27 h74 =>
 (cellOf h74 (Addr.add p41 (Int.toNat in1))=some (.pointer q15)) ∧
 (cellOf h74 (Addr.add p42 (Int.toNat in1))=some (.pointer q16)) ∧
 (cellOf h74 (Addr.add p45 (Int.toNat in1))=some (.pointer q18)) ∧
 (cellOf h74 (Addr.add p46 5)=some (.slice sA24 sL24 sC24)) ∧
 ∃ new20:List Value,List.length new20=1*1∧SlCells h74 (some ⟨h67.size,0,none⟩) new20∧(∀ v ∈ new20,v.oneCell'=true) ∧
 AppendP ti3 3 sA24 sL24 sC24 1 new20 h74 fun sA28 sL28 sC28 h75 =>
 (cellOf h75 (Addr.add p41 (Int.toNat in1))=some (.pointer q15)) ∧
 (cellOf h75 (Addr.add p42 (Int.toNat in1))=some (.pointer q16)) ∧
 onSome q15 fun p49 =>
 Put (Addr.add p49 4) (.slice sA27 sL27 sC27) h75 fun h76 =>
 onSome q16 fun p50 =>
 Put (Addr.add p50 5) (.slice sA28 sL28 sC28) h76 fun h77 =>
 I1 (IntKind.wrap .i64 (left2 - need2)) sA22 sL22 sC22 dirsA1 dirsL1 dirsC1 sA21 sL21 sC21 (IntKind.wrap .i64 (n4+1)) h77∧M1 (IntKind.wrap .i64 (left2 - need2)) sA22 sL22 sC22 dirsA1 dirsL1 dirsC1 sA21 sL21 sC21 (IntKind.wrap .i64 (n4+1)) h77<M1 left1 nodesA1 nodesL1 nodesC1 dirsA1 dirsL1 dirsC1 othersA1 othersL1 othersC1 n4 h10) ∧
 New [.int .i64 (nodesL1:Int)] 3 h66 fun h78 =>
 (cellOf h78 (Addr.add p41 (Int.toNat in1))=some (.pointer q15)) ∧
 (cellOf h78 (Addr.add p42 (Int.toNat in1))=some (.pointer q16)) ∧
 (cellOf h78 (Addr.add p43 (Int.toNat in1))=some (.pointer q17)) ∧
 (cellOf h78 (Addr.add p44 4)=some (.slice sA23 sL23 sC23)) ∧
 (cellOf h78 (Addr.add p45 (Int.toNat in1))=some (.pointer q18)) ∧
 (cellOf h78 (Addr.add p46 5)=some (.slice sA24 sL24 sC24)) ∧
 New [.string name1] 9 h78 fun h79 =>
 (cellOf h79 (Addr.add p41 (Int.toNat in1))=some (.pointer q15)) ∧
 (cellOf h79 (Addr.add p42 (Int.toNat in1))=some (.pointer q16)) ∧
 (cellOf h79 (Addr.add p43 (Int.toNat in1))=some (.pointer q17)) ∧
 (cellOf h79 (Addr.add p44 4)=some (.slice sA23 sL23 sC23)) ∧
 (cellOf h79 (Addr.add p45 (Int.toNat in1))=some (.pointer q18)) ∧
 (cellOf h79 (Addr.add p46 5)=some (.slice sA24 sL24 sC24)) ∧
 ∃ new21:List Value,List.length new21=1*1∧SlCells h79 (some ⟨h78.size,0,none⟩) new21∧(∀ v ∈ new21,v.oneCell'=true) ∧
 AppendP ti9 9 sA23 sL23 sC23 1 new21 h79 fun sA29 sL29 sC29 h80 =>
 (cellOf h80 (Addr.add p41 (Int.toNat in1))=some (.pointer q15)) ∧
 (cellOf h80 (Addr.add p42 (Int.toNat in1))=some (.pointer q16)) ∧
 (cellOf h80 (Addr.add p45 (Int.toNat in1))=some (.pointer q18)) ∧
 (cellOf h80 (Addr.add p46 5)=some (.slice sA24 sL24 sC24)) ∧
 ∃ new22:List Value,List.length new22=1*1∧SlCells h80 (some ⟨h66.size,0,none⟩) new22∧(∀ v ∈ new22,v.oneCell'=true) ∧
 AppendP ti3 3 sA24 sL24 sC24 1 new22 h80 fun sA30 sL30 sC30 h81 =>
 (cellOf h81 (Addr.add p41 (Int.toNat in1))=some (.pointer q15)) ∧
 (cellOf h81 (Addr.add p42 (Int.toNat in1))=some (.pointer q16)) ∧
 onSome q15 fun p51 =>
 Put (Addr.add p51 4) (.slice sA29 sL29 sC29) h81 fun h82 =>
 onSome q16 fun p52 =>
 Put (Addr.add p52 5) (.slice sA30 sL30 sC30) h82 fun h83 =>
 I1 (IntKind.wrap .i64 (left2 - need2)) sA22 sL22 sC22 dirsA1 dirsL1 dirsC1 sA21 sL21 sC21 (IntKind.wrap .i64 (n4+1)) h83∧M1 (IntKind.wrap .i64 (left2 - need2)) sA22 sL22 sC22 dirsA1 dirsL1 dirsC1 sA21 sL21 sC21 (IntKind.wrap .i64 (n4+1)) h83<M1 left1 nodesA1 nodesL1 nodesC1 dirsA1 dirsL1 dirsC1 othersA1 othersL1 othersC1 n4 h10) else (
 Put (Addr.add ⟨h36.size,0,none⟩ 0) (.int .i64 1) h37 fun h84 =>
 New [.int .i64 (nodesL1:Int)] 3 h84 fun h85 =>
 ∃ new23:List Value,List.length new23=1*1∧SlCells h85 (some ⟨h84.size,0,none⟩) new23∧(∀ v ∈ new23,v.oneCell'=true) ∧
 AppendP ti3 3 othersA1 othersL1 othersC1 1 new23 h85 fun sA31 sL31 sC31 h86 =>
 New [.pointer (some ⟨h36.size,0,none⟩)] 59 h86 fun h87 =>
 ∃ new24:List Value,List.length new24=1*1∧SlCells h87 (some ⟨h86.size,0,none⟩) new24∧(∀ v ∈ new24,v.oneCell'=true) ∧
 AppendP ti59 59 nodesA1 nodesL1 nodesC1 1 new24 h87 fun sA32 sL32 sC32 h88 =>
 (0≤in1∧in1<(sL32:Int)) ∧
 onSome sA32 fun p53 =>
 ∃ (q19:Option Addr),cellOf h88 (Addr.add p53 (Int.toNat in1))=some (.pointer q19) ∧
 (0≤in1∧in1<(sL32:Int)) ∧
 onSome sA32 fun p54 =>
 ∃ (q20:Option Addr),cellOf h88 (Addr.add p54 (Int.toNat in1))=some (.pointer q20) ∧
 (0≤in1∧in1<(sL32:Int)) ∧
 onSome sA32 fun p55 =>
 ∃ (q21:Option Addr),cellOf h88 (Addr.add p55 (Int.toNat in1))=some (.pointer q21) ∧
 onSome q21 fun p56 =>
 ∃ (sA33:Option Addr) (sL33:Nat) (sC33:Nat),cellOf h88 (Addr.add p56 4)=some (.slice sA33 sL33 sC33) ∧
 (0≤in1∧in1<(sL32:Int)) ∧
 onSome sA32 fun p57 =>
 ∃ (q22:Option Addr),cellOf h88 (Addr.add p57 (Int.toNat in1))=some (.pointer q22) ∧
 onSome q22 fun p58 =>
 ∃ (sA34:Option Addr) (sL34:Nat) (sC34:Nat),cellOf h88 (Addr.add p58 5)=some (.slice sA34 sL34 sC34) ∧
 (
 New [.string name1] 9 h88 fun h89 =>
 (cellOf h89 (Addr.add p53 (Int.toNat in1))=some (.pointer q19)) ∧
 (cellOf h89 (Addr.add p54 (Int.toNat in1))=some (.pointer q20)) ∧
 (cellOf h89 (Addr.add p55 (Int.toNat in1))=some (.pointer q21)) ∧
 (cellOf h89 (Addr.add p56 4)=some (.slice sA33 sL33 sC33)) ∧
 (cellOf h89 (Addr.add p57 (Int.toNat in1))=some (.pointer q22)) ∧
 (cellOf h89 (Addr.add p58 5)=some (.slice sA34 sL34 sC34)) ∧
 (
 ∃ new25:List Value,List.length new25=1*1∧SlCells h89 (some ⟨h88.size,0,none⟩) new25∧(∀ v ∈ new25,v.oneCell'=true) ∧
 AppendP ti9 9 sA33 sL33 sC33 1 new25 h89 fun sA35 sL35 sC35 h90 =>
 (cellOf h90 (Addr.add p53 (Int.toNat in1))=some (.pointer q19)) ∧
 (cellOf h90 (Addr.add p54 (Int.toNat in1))=some (.pointer q20)) ∧
 (cellOf h90 (Addr.add p57 (Int.toNat in1))=some (.pointer q22)) ∧
 (cellOf h90 (Addr.add p58 5)=some (.slice sA34 sL34 sC34)) ∧
 New [.int .i64 (nodesL1:Int)] 3 h90 fun h91 =>
 (cellOf h91 (Addr.add p53 (Int.toNat in1))=some (.pointer q19)) ∧
 (cellOf h91 (Addr.add p54 (Int.toNat in1))=some (.pointer q20)) ∧
 (cellOf h91 (Addr.add p55 (Int.toNat in1))=some (.pointer q21)) ∧
 (cellOf h91 (Addr.add p56 4)=some (.slice sA33 sL33 sC33)) ∧
 (cellOf h91 (Addr.add p57 (Int.toNat in1))=some (.pointer q22)) ∧
 (cellOf h91 (Addr.add p58 5)=some (.slice sA34 sL34 sC34)) ∧
 ∃ new26:List Value,List.length new26=1*1∧SlCells h91 (some ⟨h90.size,0,none⟩) new26∧(∀ v ∈ new26,v.oneCell'=true) ∧
 AppendP ti3 3 sA34 sL34 sC34 1 new26 h91 fun sA36 sL36 sC36 h92 =>
 (cellOf h92 (Addr.add p53 (Int.toNat in1))=some (.pointer q19)) ∧
 (cellOf h92 (Addr.add p54 (Int.toNat in1))=some (.pointer q20)) ∧
 onSome q19 fun p59 =>
 Put (Addr.add p59 4) (.slice sA35 sL35 sC35) h92 fun h93 =>
 onSome q20 fun p60 =>
 Put (Addr.add p60 5) (.slice sA36 sL36 sC36) h93 fun h94 =>
 I1 (IntKind.wrap .i64 (left2 - need2)) sA32 sL32 sC32 dirsA1 dirsL1 dirsC1 sA31 sL31 sC31 (IntKind.wrap .i64 (n4+1)) h94∧M1 (IntKind.wrap .i64 (left2 - need2)) sA32 sL32 sC32 dirsA1 dirsL1 dirsC1 sA31 sL31 sC31 (IntKind.wrap .i64 (n4+1)) h94<M1 left1 nodesA1 nodesL1 nodesC1 dirsA1 dirsL1 dirsC1 othersA1 othersL1 othersC1 n4 h10) ∧
 New [.int .i64 (nodesL1:Int)] 3 h89 fun h95 =>
 (cellOf h95 (Addr.add p53 (Int.toNat in1))=some (.pointer q19)) ∧
 (cellOf h95 (Addr.add p54 (Int.toNat in1))=some (.pointer q20)) ∧
 (cellOf h95 (Addr.add p55 (Int.toNat in1))=some (.pointer q21)) ∧
 (cellOf h95 (Addr.add p56 4)=some (.slice sA33 sL33 sC33)) ∧
 (cellOf h95 (Addr.add p57 (Int.toNat in1))=some (.pointer q22)) ∧
 (cellOf h95 (Addr.add p58 5)=some (.slice sA34 sL34 sC34)) ∧
 ∃ new27:List Value,List.length new27=1*1∧SlCells h95 (some ⟨h88.size,0,none⟩) new27∧(∀ v ∈ new27,v.oneCell'=true) ∧
 AppendP ti9 9 sA33 sL33 sC33 1 new27 h95 fun sA37 sL37 sC37 h96 =>
 (cellOf h96 (Addr.add p53 (Int.toNat in1))=some (.pointer q19)) ∧
 (cellOf h96 (Addr.add p54 (Int.toNat in1))=some (.pointer q20)) ∧
 (cellOf h96 (Addr.add p57 (Int.toNat in1))=some (.pointer q22)) ∧
 (cellOf h96 (Addr.add p58 5)=some (.slice sA34 sL34 sC34)) ∧
 ∃ new28:List Value,List.length new28=1*1∧SlCells h96 (some ⟨h89.size,0,none⟩) new28∧(∀ v ∈ new28,v.oneCell'=true) ∧
 AppendP ti3 3 sA34 sL34 sC34 1 new28 h96 fun sA38 sL38 sC38 h97 =>
 (cellOf h97 (Addr.add p53 (Int.toNat in1))=some (.pointer q19)) ∧
 (cellOf h97 (Addr.add p54 (Int.toNat in1))=some (.pointer q20)) ∧
 onSome q19 fun p61 =>
 Put (Addr.add p61 4) (.slice sA37 sL37 sC37) h97 fun h98 =>
 onSome q20 fun p62 =>
 Put (Addr.add p62 5) (.slice sA38 sL38 sC38) h98 fun h99 =>
 I1 (IntKind.wrap .i64 (left2 - need2)) sA32 sL32 sC32 dirsA1 dirsL1 dirsC1 sA31 sL31 sC31 (IntKind.wrap .i64 (n4+1)) h99∧M1 (IntKind.wrap .i64 (left2 - need2)) sA32 sL32 sC32 dirsA1 dirsL1 dirsC1 sA31 sL31 sC31 (IntKind.wrap .i64 (n4+1)) h99<M1 left1 nodesA1 nodesL1 nodesC1 dirsA1 dirsL1 dirsC1 othersA1 othersL1 othersC1 n4 h10) ∧
 New [.int .i64 (nodesL1:Int)] 3 h88 fun h100 =>
 (cellOf h100 (Addr.add p53 (Int.toNat in1))=some (.pointer q19)) ∧
 (cellOf h100 (Addr.add p54 (Int.toNat in1))=some (.pointer q20)) ∧
 (cellOf h100 (Addr.add p55 (Int.toNat in1))=some (.pointer q21)) ∧
 (cellOf h100 (Addr.add p56 4)=some (.slice sA33 sL33 sC33)) ∧
 (cellOf h100 (Addr.add p57 (Int.toNat in1))=some (.pointer q22)) ∧
 (cellOf h100 (Addr.add p58 5)=some (.slice sA34 sL34 sC34)) ∧
 New [.string name1] 9 h100 fun h101 =>
 (cellOf h101 (Addr.add p53 (Int.toNat in1))=some (.pointer q19)) ∧
 (cellOf h101 (Addr.add p54 (Int.toNat in1))=some (.pointer q20)) ∧
 (cellOf h101 (Addr.add p55 (Int.toNat in1))=some (.pointer q21)) ∧
 (cellOf h101 (Addr.add p56 4)=some (.slice sA33 sL33 sC33)) ∧
 (cellOf h101 (Addr.add p57 (Int.toNat in1))=some (.pointer q22)) ∧
 (cellOf h101 (Addr.add p58 5)=some (.slice sA34 sL34 sC34)) ∧
 ∃ new29:List Value,List.length new29=1*1∧SlCells h101 (some ⟨h100.size,0,none⟩) new29∧(∀ v ∈ new29,v.oneCell'=true) ∧
 AppendP ti9 9 sA33 sL33 sC33 1 new29 h101 fun sA39 sL39 sC39 h102 =>
 (cellOf h102 (Addr.add p53 (Int.toNat in1))=some (.pointer q19)) ∧
 (cellOf h102 (Addr.add p54 (Int.toNat in1))=some (.pointer q20)) ∧
 (cellOf h102 (Addr.add p57 (Int.toNat in1))=some (.pointer q22)) ∧
 (cellOf h102 (Addr.add p58 5)=some (.slice sA34 sL34 sC34)) ∧
 ∃ new30:List Value,List.length new30=1*1∧SlCells h102 (some ⟨h88.size,0,none⟩) new30∧(∀ v ∈ new30,v.oneCell'=true) ∧
 AppendP ti3 3 sA34 sL34 sC34 1 new30 h102 fun sA40 sL40 sC40 h103 =>
 (cellOf h103 (Addr.add p53 (Int.toNat in1))=some (.pointer q19)) ∧
 (cellOf h103 (Addr.add p54 (Int.toNat in1))=some (.pointer q20)) ∧
 onSome q19 fun p63 =>
 Put (Addr.add p63 4) (.slice sA39 sL39 sC39) h103 fun h104 =>
 onSome q20 fun p64 =>
 Put (Addr.add p64 5) (.slice sA40 sL40 sC40) h104 fun h105 =>
 I1 (IntKind.wrap .i64 (left2 - need2)) sA32 sL32 sC32 dirsA1 dirsL1 dirsC1 sA31 sL31 sC31 (IntKind.wrap .i64 (n4+1)) h105∧M1 (IntKind.wrap .i64 (left2 - need2)) sA32 sL32 sC32 dirsA1 dirsL1 dirsC1 sA31 sL31 sC31 (IntKind.wrap .i64 (n4+1)) h105<M1 left1 nodesA1 nodesL1 nodesC1 dirsA1 dirsL1 dirsC1 othersA1 othersL1 othersC1 n4 h10)))
def bolelaw16_Setup_tree.k5 (h4:Heap) (left1:Int) (nodesA1:Option Addr) (nodesL1:Nat) (nodesC1:Nat) (dirsA1:Option Addr) (dirsL1:Nat) (dirsC1:Nat) (othersA1:Option Addr) (othersL1:Nat) (othersC1:Nat) (n4:Int) (h10:Heap) (I1:Int→Option Addr→Nat→Nat→Option Addr→Nat→Nat→Option Addr→Nat→Nat→Int→Heap→Prop) (M1:Int→Option Addr→Nat→Nat→Option Addr→Nat→Nat→Option Addr→Nat→Nat→Int→Heap→Nat) (in1:Int) (name1:ByteArray) (n9:Int) (h17:Heap) (said1:ByteArray) (need2:Int) (K:Value→Heap→Prop):Prop :=
 bif (decide (need2>left1)) then (
 I1 left1 nodesA1 nodesL1 nodesC1 dirsA1 dirsL1 dirsC1 othersA1 othersL1 othersC1 (IntKind.wrap .i64 (n4+1)) h17∧M1 left1 nodesA1 nodesL1 nodesC1 dirsA1 dirsL1 dirsC1 othersA1 othersL1 othersC1 (IntKind.wrap .i64 (n4+1)) h17<M1 left1 nodesA1 nodesL1 nodesC1 dirsA1 dirsL1 dirsC1 othersA1 othersL1 othersC1 n4 h10) else (
 bif ((IntKind.wrap .i64 (1+(IntKind.wrap .i64 ((Int.tmod (IntKind.wrap .u64 ((IntKind.wrap .i64 (n9 - 1)))) 4))))) == 4) then (
 bif (decide ((othersL1:Int)>0)) then (
 ∃ (n10:Int),cellOf h17 (Addr.add ⟨h10.size,0,none⟩ 2)=some (.int .i64 n10) ∧
 if (IntKind.wrap .u64 ((othersL1:Int)))=0 then False else
 (0≤(IntKind.wrap .i64 ((Int.tmod (IntKind.wrap .u64 (n10)) (IntKind.wrap .u64 ((othersL1:Int))))))∧(IntKind.wrap .i64 ((Int.tmod (IntKind.wrap .u64 (n10)) (IntKind.wrap .u64 ((othersL1:Int))))))<(othersL1:Int)) ∧
 onSome othersA1 fun p8 =>
 ∃ (n11:Int),cellOf h17 (Addr.add p8 (Int.toNat (IntKind.wrap .i64 ((Int.tmod (IntKind.wrap .u64 (n10)) (IntKind.wrap .u64 ((othersL1:Int))))))))=some (.int .i64 n11) ∧
 (0≤n11∧n11<(nodesL1:Int)) ∧
 onSome nodesA1 fun p9 =>
 ∃ (q4:Option Addr),cellOf h17 (Addr.add p9 (Int.toNat n11))=some (.pointer q4) ∧
 onSome q4 fun p10 =>
 ∃ (n12:Int),cellOf h17 (Addr.add p10 2)=some (.int .i64 n12) ∧
 onSome q4 fun p11 =>
 Put (Addr.add p11 2) (.int .i64 (IntKind.wrap .i64 (n12+1))) h17 fun h18 =>
 (0≤in1∧in1<(nodesL1:Int)) ∧
 onSome nodesA1 fun p12 =>
 ∃ (q5:Option Addr),cellOf h18 (Addr.add p12 (Int.toNat in1))=some (.pointer q5) ∧
 (0≤in1∧in1<(nodesL1:Int)) ∧
 onSome nodesA1 fun p13 =>
 ∃ (q6:Option Addr),cellOf h18 (Addr.add p13 (Int.toNat in1))=some (.pointer q6) ∧
 (0≤in1∧in1<(nodesL1:Int)) ∧
 onSome nodesA1 fun p14 =>
 ∃ (q7:Option Addr),cellOf h18 (Addr.add p14 (Int.toNat in1))=some (.pointer q7) ∧
 onSome q7 fun p15 =>
 ∃ (sA3:Option Addr) (sL3:Nat) (sC3:Nat),cellOf h18 (Addr.add p15 4)=some (.slice sA3 sL3 sC3) ∧
 (0≤in1∧in1<(nodesL1:Int)) ∧
 onSome nodesA1 fun p16 =>
 ∃ (q8:Option Addr),cellOf h18 (Addr.add p16 (Int.toNat in1))=some (.pointer q8) ∧
 onSome q8 fun p17 =>
 ∃ (sA4:Option Addr) (sL4:Nat) (sC4:Nat),cellOf h18 (Addr.add p17 5)=some (.slice sA4 sL4 sC4) ∧
 (
 New [.string name1] 9 h18 fun h19 =>
 (cellOf h19 (Addr.add p12 (Int.toNat in1))=some (.pointer q5)) ∧
 (cellOf h19 (Addr.add p13 (Int.toNat in1))=some (.pointer q6)) ∧
 (cellOf h19 (Addr.add p14 (Int.toNat in1))=some (.pointer q7)) ∧
 (cellOf h19 (Addr.add p15 4)=some (.slice sA3 sL3 sC3)) ∧
 (cellOf h19 (Addr.add p16 (Int.toNat in1))=some (.pointer q8)) ∧
 (cellOf h19 (Addr.add p17 5)=some (.slice sA4 sL4 sC4)) ∧
 (
 ∃ new1:List Value,List.length new1=1*1∧SlCells h19 (some ⟨h18.size,0,none⟩) new1∧(∀ v ∈ new1,v.oneCell'=true) ∧
 AppendP ti9 9 sA3 sL3 sC3 1 new1 h19 fun sA5 sL5 sC5 h20 =>
 (cellOf h20 (Addr.add p12 (Int.toNat in1))=some (.pointer q5)) ∧
 (cellOf h20 (Addr.add p13 (Int.toNat in1))=some (.pointer q6)) ∧
 (cellOf h20 (Addr.add p16 (Int.toNat in1))=some (.pointer q8)) ∧
 (cellOf h20 (Addr.add p17 5)=some (.slice sA4 sL4 sC4)) ∧
 New [.int .i64 n11] 3 h20 fun h21 =>
 (cellOf h21 (Addr.add p12 (Int.toNat in1))=some (.pointer q5)) ∧
 (cellOf h21 (Addr.add p13 (Int.toNat in1))=some (.pointer q6)) ∧
 (cellOf h21 (Addr.add p14 (Int.toNat in1))=some (.pointer q7)) ∧
 (cellOf h21 (Addr.add p15 4)=some (.slice sA3 sL3 sC3)) ∧
 (cellOf h21 (Addr.add p16 (Int.toNat in1))=some (.pointer q8)) ∧
 (cellOf h21 (Addr.add p17 5)=some (.slice sA4 sL4 sC4)) ∧
 ∃ new2:List Value,List.length new2=1*1∧SlCells h21 (some ⟨h20.size,0,none⟩) new2∧(∀ v ∈ new2,v.oneCell'=true) ∧
 AppendP ti3 3 sA4 sL4 sC4 1 new2 h21 fun sA6 sL6 sC6 h22 =>
 (cellOf h22 (Addr.add p12 (Int.toNat in1))=some (.pointer q5)) ∧
 (cellOf h22 (Addr.add p13 (Int.toNat in1))=some (.pointer q6)) ∧
 onSome q5 fun p18 =>
 Put (Addr.add p18 4) (.slice sA5 sL5 sC5) h22 fun h23 =>
 onSome q6 fun p19 =>
 Put (Addr.add p19 5) (.slice sA6 sL6 sC6) h23 fun h24 =>
 I1 (IntKind.wrap .i64 (left1 - need2)) nodesA1 nodesL1 nodesC1 dirsA1 dirsL1 dirsC1 othersA1 othersL1 othersC1 (IntKind.wrap .i64 (n4+1)) h24∧M1 (IntKind.wrap .i64 (left1 - need2)) nodesA1 nodesL1 nodesC1 dirsA1 dirsL1 dirsC1 othersA1 othersL1 othersC1 (IntKind.wrap .i64 (n4+1)) h24<M1 left1 nodesA1 nodesL1 nodesC1 dirsA1 dirsL1 dirsC1 othersA1 othersL1 othersC1 n4 h10) ∧
 New [.int .i64 n11] 3 h19 fun h25 =>
 (cellOf h25 (Addr.add p12 (Int.toNat in1))=some (.pointer q5)) ∧
 (cellOf h25 (Addr.add p13 (Int.toNat in1))=some (.pointer q6)) ∧
 (cellOf h25 (Addr.add p14 (Int.toNat in1))=some (.pointer q7)) ∧
 (cellOf h25 (Addr.add p15 4)=some (.slice sA3 sL3 sC3)) ∧
 (cellOf h25 (Addr.add p16 (Int.toNat in1))=some (.pointer q8)) ∧
 (cellOf h25 (Addr.add p17 5)=some (.slice sA4 sL4 sC4)) ∧
 ∃ new3:List Value,List.length new3=1*1∧SlCells h25 (some ⟨h18.size,0,none⟩) new3∧(∀ v ∈ new3,v.oneCell'=true) ∧
 AppendP ti9 9 sA3 sL3 sC3 1 new3 h25 fun sA7 sL7 sC7 h26 =>
 (cellOf h26 (Addr.add p12 (Int.toNat in1))=some (.pointer q5)) ∧
 (cellOf h26 (Addr.add p13 (Int.toNat in1))=some (.pointer q6)) ∧
 (cellOf h26 (Addr.add p16 (Int.toNat in1))=some (.pointer q8)) ∧
 (cellOf h26 (Addr.add p17 5)=some (.slice sA4 sL4 sC4)) ∧
 ∃ new4:List Value,List.length new4=1*1∧SlCells h26 (some ⟨h19.size,0,none⟩) new4∧(∀ v ∈ new4,v.oneCell'=true) ∧
 AppendP ti3 3 sA4 sL4 sC4 1 new4 h26 fun sA8 sL8 sC8 h27 =>
 (cellOf h27 (Addr.add p12 (Int.toNat in1))=some (.pointer q5)) ∧
 (cellOf h27 (Addr.add p13 (Int.toNat in1))=some (.pointer q6)) ∧
 onSome q5 fun p20 =>
 Put (Addr.add p20 4) (.slice sA7 sL7 sC7) h27 fun h28 =>
 onSome q6 fun p21 =>
 Put (Addr.add p21 5) (.slice sA8 sL8 sC8) h28 fun h29 =>
 I1 (IntKind.wrap .i64 (left1 - need2)) nodesA1 nodesL1 nodesC1 dirsA1 dirsL1 dirsC1 othersA1 othersL1 othersC1 (IntKind.wrap .i64 (n4+1)) h29∧M1 (IntKind.wrap .i64 (left1 - need2)) nodesA1 nodesL1 nodesC1 dirsA1 dirsL1 dirsC1 othersA1 othersL1 othersC1 (IntKind.wrap .i64 (n4+1)) h29<M1 left1 nodesA1 nodesL1 nodesC1 dirsA1 dirsL1 dirsC1 othersA1 othersL1 othersC1 n4 h10) ∧
 New [.int .i64 n11] 3 h18 fun h30 =>
 (cellOf h30 (Addr.add p12 (Int.toNat in1))=some (.pointer q5)) ∧
 (cellOf h30 (Addr.add p13 (Int.toNat in1))=some (.pointer q6)) ∧
 (cellOf h30 (Addr.add p14 (Int.toNat in1))=some (.pointer q7)) ∧
 (cellOf h30 (Addr.add p15 4)=some (.slice sA3 sL3 sC3)) ∧
 (cellOf h30 (Addr.add p16 (Int.toNat in1))=some (.pointer q8)) ∧
 (cellOf h30 (Addr.add p17 5)=some (.slice sA4 sL4 sC4)) ∧
 New [.string name1] 9 h30 fun h31 =>
 (cellOf h31 (Addr.add p12 (Int.toNat in1))=some (.pointer q5)) ∧
 (cellOf h31 (Addr.add p13 (Int.toNat in1))=some (.pointer q6)) ∧
 (cellOf h31 (Addr.add p14 (Int.toNat in1))=some (.pointer q7)) ∧
 (cellOf h31 (Addr.add p15 4)=some (.slice sA3 sL3 sC3)) ∧
 (cellOf h31 (Addr.add p16 (Int.toNat in1))=some (.pointer q8)) ∧
 (cellOf h31 (Addr.add p17 5)=some (.slice sA4 sL4 sC4)) ∧
 ∃ new5:List Value,List.length new5=1*1∧SlCells h31 (some ⟨h30.size,0,none⟩) new5∧(∀ v ∈ new5,v.oneCell'=true) ∧
 AppendP ti9 9 sA3 sL3 sC3 1 new5 h31 fun sA9 sL9 sC9 h32 =>
 (cellOf h32 (Addr.add p12 (Int.toNat in1))=some (.pointer q5)) ∧
 (cellOf h32 (Addr.add p13 (Int.toNat in1))=some (.pointer q6)) ∧
 (cellOf h32 (Addr.add p16 (Int.toNat in1))=some (.pointer q8)) ∧
 (cellOf h32 (Addr.add p17 5)=some (.slice sA4 sL4 sC4)) ∧
 ∃ new6:List Value,List.length new6=1*1∧SlCells h32 (some ⟨h18.size,0,none⟩) new6∧(∀ v ∈ new6,v.oneCell'=true) ∧
 AppendP ti3 3 sA4 sL4 sC4 1 new6 h32 fun sA10 sL10 sC10 h33 =>
 (cellOf h33 (Addr.add p12 (Int.toNat in1))=some (.pointer q5)) ∧
 (cellOf h33 (Addr.add p13 (Int.toNat in1))=some (.pointer q6)) ∧
 onSome q5 fun p22 =>
 Put (Addr.add p22 4) (.slice sA9 sL9 sC9) h33 fun h34 =>
 onSome q6 fun p23 =>
 Put (Addr.add p23 5) (.slice sA10 sL10 sC10) h34 fun h35 =>
 I1 (IntKind.wrap .i64 (left1 - need2)) nodesA1 nodesL1 nodesC1 dirsA1 dirsL1 dirsC1 othersA1 othersL1 othersC1 (IntKind.wrap .i64 (n4+1)) h35∧M1 (IntKind.wrap .i64 (left1 - need2)) nodesA1 nodesL1 nodesC1 dirsA1 dirsL1 dirsC1 othersA1 othersL1 othersC1 (IntKind.wrap .i64 (n4+1)) h35<M1 left1 nodesA1 nodesL1 nodesC1 dirsA1 dirsL1 dirsC1 othersA1 othersL1 othersC1 n4 h10) else (
 bolelaw16_Setup_tree.k6 h4 left1 nodesA1 nodesL1 nodesC1 dirsA1 dirsL1 dirsC1 othersA1 othersL1 othersC1 n4 h10 I1 M1 in1 name1 n9 said1 need2 left1 h17 K)) else (
 bolelaw16_Setup_tree.k6 h4 left1 nodesA1 nodesL1 nodesC1 dirsA1 dirsL1 dirsC1 othersA1 othersL1 othersC1 n4 h10 I1 M1 in1 name1 n9 said1 need2 left1 h17 K))
def bolelaw16_Setup_tree.k4 (h4:Heap) (left1:Int) (nodesA1:Option Addr) (nodesL1:Nat) (nodesC1:Nat) (dirsA1:Option Addr) (dirsL1:Nat) (dirsC1:Nat) (othersA1:Option Addr) (othersL1:Nat) (othersC1:Nat) (n4:Int) (h10:Heap) (I1:Int→Option Addr→Nat→Nat→Option Addr→Nat→Nat→Option Addr→Nat→Nat→Int→Heap→Prop) (M1:Int→Option Addr→Nat→Nat→Option Addr→Nat→Nat→Option Addr→Nat→Nat→Int→Heap→Nat) (in1:Int) (name1:ByteArray) (n9:Int) (h17:Heap) (said1:ByteArray) (need1:Int) (K:Value→Heap→Prop):Prop :=
 bif ((IntKind.wrap .i64 (1+(IntKind.wrap .i64 ((Int.tmod (IntKind.wrap .u64 ((IntKind.wrap .i64 (n9 - 1)))) 4))))) == 3) then (
 bolelaw16_Setup_tree.k5 h4 left1 nodesA1 nodesL1 nodesC1 dirsA1 dirsL1 dirsC1 othersA1 othersL1 othersC1 n4 h10 I1 M1 in1 name1 n9 h17 said1 (IntKind.wrap .i64 (need1+(IntKind.wrap .i64 (Int.tdiv (IntKind.wrap .i64 ((said1.size:Int)+511)) 512)))) K) else (
 bolelaw16_Setup_tree.k5 h4 left1 nodesA1 nodesL1 nodesC1 dirsA1 dirsL1 dirsC1 othersA1 othersL1 othersC1 n4 h10 I1 M1 in1 name1 n9 h17 said1 need1 K)
def bolelaw16_Setup_tree.k3 (h4:Heap) (left1:Int) (nodesA1:Option Addr) (nodesL1:Nat) (nodesC1:Nat) (dirsA1:Option Addr) (dirsL1:Nat) (dirsC1:Nat) (othersA1:Option Addr) (othersL1:Nat) (othersC1:Nat) (n4:Int) (h10:Heap) (I1:Int→Option Addr→Nat→Nat→Option Addr→Nat→Nat→Option Addr→Nat→Nat→Int→Heap→Prop) (M1:Int→Option Addr→Nat→Nat→Option Addr→Nat→Nat→Option Addr→Nat→Nat→Int→Heap→Nat) (in1:Int) (name1:ByteArray) (n9:Int) (h17:Heap) (said1:ByteArray) (K:Value→Heap→Prop):Prop :=
 (0≤in1∧in1<(nodesL1:Int)) ∧
 onSome nodesA1 fun p6 =>
 ∃ (q3:Option Addr),cellOf h17 (Addr.add p6 (Int.toNat in1))=some (.pointer q3) ∧
 onSome q3 fun p7 =>
 ∃ (sA2:Option Addr) (sL2:Nat) (sC2:Nat),cellOf h17 (Addr.add p7 4)=some (.slice sA2 sL2 sC2) ∧
 bif ((Int.tmod (sL2:Int) 16) == 0) then (
 bolelaw16_Setup_tree.k4 h4 left1 nodesA1 nodesL1 nodesC1 dirsA1 dirsL1 dirsC1 othersA1 othersL1 othersC1 n4 h10 I1 M1 in1 name1 n9 h17 said1 (IntKind.wrap .i64 (0+1)) K) else (
 bolelaw16_Setup_tree.k4 h4 left1 nodesA1 nodesL1 nodesC1 dirsA1 dirsL1 dirsC1 othersA1 othersL1 othersC1 n4 h10 I1 M1 in1 name1 n9 h17 said1 0 K)
def bolelaw16_Setup_tree.k2 (h4:Heap) (left1:Int) (nodesA1:Option Addr) (nodesL1:Nat) (nodesC1:Nat) (dirsA1:Option Addr) (dirsL1:Nat) (dirsC1:Nat) (othersA1:Option Addr) (othersL1:Nat) (othersC1:Nat) (n4:Int) (h10:Heap) (I1:Int→Option Addr→Nat→Nat→Option Addr→Nat→Nat→Option Addr→Nat→Nat→Int→Heap→Prop) (M1:Int→Option Addr→Nat→Nat→Option Addr→Nat→Nat→Option Addr→Nat→Nat→Int→Heap→Nat) (in1:Int) (name1:ByteArray) (h15:Heap) (K:Value→Heap→Prop):Prop :=
 (0≤in1∧in1<(nodesL1:Int)) ∧
 onSome nodesA1 fun p5 =>
 ∃ (q2:Option Addr),cellOf h15 (Addr.add p5 (Int.toNat in1))=some (.pointer q2) ∧
 C.bolelaw16_Node_has q2 name1 h15 fun r5 h16 =>
 ∃ (n8:Int),r5 = .int .i64 n8 ∧
 bif (n8 != 0) then (
 I1 left1 nodesA1 nodesL1 nodesC1 dirsA1 dirsL1 dirsC1 othersA1 othersL1 othersC1 (IntKind.wrap .i64 (n4+1)) h16∧M1 left1 nodesA1 nodesL1 nodesC1 dirsA1 dirsL1 dirsC1 othersA1 othersL1 othersC1 (IntKind.wrap .i64 (n4+1)) h16<M1 left1 nodesA1 nodesL1 nodesC1 dirsA1 dirsL1 dirsC1 othersA1 othersL1 othersC1 n4 h10) else (
 ∃ (n9:Int),cellOf h16 (Addr.add ⟨h10.size,0,none⟩ 1)=some (.int .i64 n9) ∧
 ∃ (s4:ByteArray),cellOf h16 (Addr.add ⟨h10.size,0,none⟩ 4)=some (.string s4) ∧
 C.bolelaw16_text s4 h16 fun r6 h17 =>
 ∃ (b2:Bool),r6 = .bool b2 ∧
 bif (!b2) then (
 bolelaw16_Setup_tree.k3 h4 left1 nodesA1 nodesL1 nodesC1 dirsA1 dirsL1 dirsC1 othersA1 othersL1 othersC1 n4 h10 I1 M1 in1 name1 n9 h17 (mkStr [120]) K) else (
 bolelaw16_Setup_tree.k3 h4 left1 nodesA1 nodesL1 nodesC1 dirsA1 dirsL1 dirsC1 othersA1 othersL1 othersC1 n4 h10 I1 M1 in1 name1 n9 h17 s4 K))
def bolelaw16_Setup_tree.k1 (h4:Heap) (left1:Int) (nodesA1:Option Addr) (nodesL1:Nat) (nodesC1:Nat) (dirsA1:Option Addr) (dirsL1:Nat) (dirsC1:Nat) (othersA1:Option Addr) (othersL1:Nat) (othersC1:Nat) (n4:Int) (h10:Heap) (I1:Int→Option Addr→Nat→Nat→Option Addr→Nat→Nat→Option Addr→Nat→Nat→Int→Heap→Prop) (M1:Int→Option Addr→Nat→Nat→Option Addr→Nat→Nat→Option Addr→Nat→Nat→Int→Heap→Nat) (h12:Heap) (in1:Int) (K:Value→Heap→Prop):Prop :=
 ∃ (s2:ByteArray),cellOf h12 (Addr.add ⟨h10.size,0,none⟩ 3)=some (.string s2) ∧
 C.bolelaw16_may s2 h12 fun r3 h13 =>
 ∃ (b1:Bool),r3 = .bool b1 ∧
 bif (!b1) then (
 C.bolelaw16_letters n4 h13 fun r4 h14 =>
 ∃ (s3:ByteArray),r4 = .string s3 ∧
 bolelaw16_Setup_tree.k2 h4 left1 nodesA1 nodesL1 nodesC1 dirsA1 dirsL1 dirsC1 othersA1 othersL1 othersC1 n4 h10 I1 M1 in1 s3 h14 K) else (
 (0≤in1∧in1<(nodesL1:Int)) ∧
 onSome nodesA1 fun p65 =>
 ∃ (q23:Option Addr),cellOf h13 (Addr.add p65 (Int.toNat in1))=some (.pointer q23) ∧
 C.bolelaw16_Node_has q23 s2 h13 fun r7 h106 =>
 ∃ (n16:Int),r7 = .int .i64 n16 ∧
 bif (n16 != 0) then (
 C.bolelaw16_letters n4 h106 fun r8 h107 =>
 ∃ (s5:ByteArray),r8 = .string s5 ∧
 bolelaw16_Setup_tree.k2 h4 left1 nodesA1 nodesL1 nodesC1 dirsA1 dirsL1 dirsC1 othersA1 othersL1 othersC1 n4 h10 I1 M1 in1 s5 h107 K) else (
 bolelaw16_Setup_tree.k2 h4 left1 nodesA1 nodesL1 nodesC1 dirsA1 dirsL1 dirsC1 othersA1 othersL1 othersC1 n4 h10 I1 M1 in1 s2 h106 K))
def bolelaw16_Setup_tree (s1:List Value) (K:Value→Heap→Prop) (h1:Heap):Prop :=
 New s1 54 h1 fun h2 =>
 ∃ cs1:List Value,List.length cs1=3∧Cells h2 ⟨h1.size,0,none⟩ cs1 ∧
 C.bolelaw16_Setup_blocks cs1 h2 fun r1 h3 =>
 ∃ (n1:Int),r1 = .int .i64 n1 ∧
 C.boleref09_Geo n1 h3 fun r2 h4 =>
 ∃ (cs2:List Value),r2 = .agg ⟨cs2⟩ ∧
 NewRow z25 25 cs2 5 h4 fun h6 =>
 ∃ (n2:Int),cellOf h6 (Addr.add ⟨h4.size,0,none⟩ 0)=some (.int .i64 n2) ∧
 ∃ (n3:Int),cellOf h6 (Addr.add ⟨h4.size,0,none⟩ 3)=some (.int .i64 n3) ∧
 New [.int .i64 2,.int .i64 0,.int .i64 2,.string (mkStr []),.slice none 0 0,.slice none 0 0,.int .i64 1] 63 h6 fun h7 =>
 New [.pointer none,.pointer (some ⟨h6.size,0,none⟩)] 59 h7 fun h8 =>
 New [.int .i64 1] 3 h8 fun h9 =>
 ∃ (sA1:Option Addr) (sL1:Nat) (sC1:Nat),cellOf h9 (Addr.add ⟨h1.size,0,none⟩ 1)=some (.slice sA1 sL1 sC1) ∧
 ∃ (I1:Int→Option Addr→Nat→Nat→Option Addr→Nat→Nat→Option Addr→Nat→Nat→Int→Heap→Prop) (M1:Int→Option Addr→Nat→Nat→Option Addr→Nat→Nat→Option Addr→Nat→Nat→Int→Heap→Nat),I1 (IntKind.wrap .i64 (n2 - n3)) (some ⟨h7.size,0,none⟩) 2 2 (some ⟨h8.size,0,none⟩) 1 1 none 0 0 0 h9 ∧
 ∀ (left1:Int) (nodesA1:Option Addr) (nodesL1:Nat) (nodesC1:Nat) (dirsA1:Option Addr) (dirsL1:Nat) (dirsC1:Nat) (othersA1:Option Addr) (othersL1:Nat) (othersC1:Nat) (n4:Int),∀ h10:Heap,I1 left1 nodesA1 nodesL1 nodesC1 dirsA1 dirsL1 dirsC1 othersA1 othersL1 othersC1 n4 h10 →
 bif (decide (n4<(sL1:Int))) then (
 (0≤n4∧n4<(sL1:Int)) ∧
 onSome sA1 fun p1 =>
 ∃ cs3:List Value,List.length cs3=5∧Cells h10 (Addr.add p1 ((Int.toNat n4)*5)) cs3 ∧
 NewRow z175 175 cs3 5 h10 fun h12 =>
 bif (decide (n4≥40)) then (
 K (.slice nodesA1 nodesL1 nodesC1) h12) else (
 ∃ (n5:Int),cellOf h12 (Addr.add ⟨h10.size,0,none⟩ 0)=some (.int .i64 n5) ∧
 if (IntKind.wrap .u64 ((dirsL1:Int)))=0 then False else
 (0≤(IntKind.wrap .i64 ((Int.tmod (IntKind.wrap .u64 (n5)) (IntKind.wrap .u64 ((dirsL1:Int))))))∧(IntKind.wrap .i64 ((Int.tmod (IntKind.wrap .u64 (n5)) (IntKind.wrap .u64 ((dirsL1:Int))))))<(dirsL1:Int)) ∧
 onSome dirsA1 fun p2 =>
 ∃ (n6:Int),cellOf h12 (Addr.add p2 (Int.toNat (IntKind.wrap .i64 ((Int.tmod (IntKind.wrap .u64 (n5)) (IntKind.wrap .u64 ((dirsL1:Int))))))))=some (.int .i64 n6) ∧
 (0≤n6∧n6<(nodesL1:Int)) ∧
 onSome nodesA1 fun p3 =>
 ∃ (q1:Option Addr),cellOf h12 (Addr.add p3 (Int.toNat n6))=some (.pointer q1) ∧
 onSome q1 fun p4 =>
 ∃ (n7:Int),cellOf h12 (Addr.add p4 1)=some (.int .i64 n7) ∧
 bif (decide (n7≥32)) then (
 bolelaw16_Setup_tree.k1 h4 left1 nodesA1 nodesL1 nodesC1 dirsA1 dirsL1 dirsC1 othersA1 othersL1 othersC1 n4 h10 I1 M1 h12 1 K) else (
 bolelaw16_Setup_tree.k1 h4 left1 nodesA1 nodesL1 nodesC1 dirsA1 dirsL1 dirsC1 othersA1 othersL1 othersC1 n4 h10 I1 M1 h12 n6 K))) else (
 K (.slice nodesA1 nodesL1 nodesC1) h10)
def bolelaw16_Setup_tree.lo : Nat→List Nat×List (Nat×Ty):=fun n=>match n with|7=>([3,31,32],[(4,.int .i64),(5,.slice),(6,.slice),(7,.slice),(33,.int .i64)])|_=>([],[])
set_option maxRecDepth 100000 in
def bolelaw16_Setup_tree.od : Nat→Od:=fun n=>match n with|31=>(.op 0 [] (.op 1 [] (.op 2 [] (.op 3 [] (.op 4 [] (.op 5 [] (.op 6 [] (.op 7 [] (.op 8 [] (.op 9 [] (.op 10 [] (.op 11 [] (.op 12 [] (.op 13 [] (.op 14 [] (.op 15 [] (.op 18 [] (.op 19 [] (.op 20 [] (.op 21 [] (.op 22 [] (.op 23 [] (.op 24 [] (.op 25 [] (.alt 16 [3,7,11,14,21,24] (.alt 17 [3,7,21,24] (.op 26 [3,7,11,14,21,24] (.op 27 [3,7] (.op 28 [] (.op 29 [] (.op 30 [] (.op 31 [] (.op 32 [] (.op 33 [] .nil)))))))) (.op 26 [3,7,11,14,21,24] (.op 17 [3,7,21,24] (.op 27 [3,7] (.op 28 [] (.op 29 [] (.op 30 [] (.op 31 [] (.op 32 [] (.op 33 [] .nil)))))))))) (.op 26 [3,7,11,14,21,24] (.op 16 [3,7,11,14,21,24] (.op 17 [3,7,21,24] (.op 27 [3,7] (.op 28 [] (.op 29 [] (.op 30 [] (.op 31 [] (.op 32 [] (.op 33 [] .nil)))))))))))))))))))))))))))))))))))|47=>(.op 0 [] (.op 1 [] (.op 2 [] (.op 3 [] (.op 4 [] (.op 5 [] (.op 6 [] (.op 7 [] (.op 8 [] (.op 9 [] (.op 10 [] (.op 11 [] (.op 12 [] (.op 13 [] (.op 14 [] (.op 15 [] (.op 18 [] (.op 19 [] (.op 20 [] (.op 21 [] (.op 22 [] (.op 23 [] (.op 24 [] (.op 25 [] (.alt 16 [3,7,11,14,21,24] (.alt 17 [3,7,21,24] (.op 26 [3,7,11,14,21,24] (.op 27 [3,7] (.op 28 [] (.op 29 [] (.op 30 [] (.op 31 [] (.op 32 [] (.op 33 [] .nil)))))))) (.op 26 [3,7,11,14,21,24] (.op 17 [3,7,21,24] (.op 27 [3,7] (.op 28 [] (.op 29 [] (.op 30 [] (.op 31 [] (.op 32 [] (.op 33 [] .nil)))))))))) (.op 26 [3,7,11,14,21,24] (.op 16 [3,7,11,14,21,24] (.op 17 [3,7,21,24] (.op 27 [3,7] (.op 28 [] (.op 29 [] (.op 30 [] (.op 31 [] (.op 32 [] (.op 33 [] .nil)))))))))))))))))))))))))))))))))))|_ => .nil
set_option maxRecDepth 100000 in
set_option maxRecDepth 100000 in
theorem bolelaw16_Setup_tree.ok {s1:List Value} {K:Value→Heap→Prop} {h:Heap} (hx:bolelaw16_Setup_tree s1 K h):C.bolelaw16_Setup_tree s1 h K :=
 fn_to (c:=Tryz.f85.body.getD .skip) (cxOk bolelaw16_Setup_tree.lo bolelaw16_Setup_tree.od) Tryz.func85 (by kernel_rfl) (by kernel_rfl) (Eq.mpr (by kernel_rfl) hx)
def walk_begin (t1:Option Addr) (g1:List Value) (partsA1:Option Addr) (partsL1:Nat) (partsC1:Nat) (K:Value→Heap→Prop) (h1:Heap):Prop :=
 New g1 25 h1 fun h2 =>
 ∃ cs1:List Value,List.length cs1=5∧Cells h2 ⟨h1.size,0,none⟩ cs1 ∧
 List.length (cs1:List Value)=5 ∧
 New ([.slice none 0 0]++([.pointer t1]++(cs1++[.slice partsA1 partsL1 partsC1,.int .i64 0,.bool false,.bool false]))) 181 h2 fun h3 =>
 C.walk_row_top (some (Addr.add ⟨h2.size,0,none⟩ 0)) h3 fun r1 h4 =>
 r1 = .tuple #[] ∧
 K (.pointer (some ⟨h2.size,0,none⟩)) h4
def walk_begin.lo : Nat→List Nat×List (Nat×Ty):=fun n=>match n with|_=>([],[])
def walk_begin.od : Nat→Od:=fun n=>match n with|_ => .nil
theorem walk_begin.ok {t1:Option Addr} {g1:List Value} {partsA1:Option Addr} {partsL1:Nat} {partsC1:Nat} {K:Value→Heap→Prop} {h:Heap} (hx:walk_begin t1 g1 partsA1 partsL1 partsC1 K h):C.walk_begin t1 g1 partsA1 partsL1 partsC1 h K :=
 fn_to (c:=Tryz.f86.body.getD .skip) (cxOk walk_begin.lo walk_begin.od) Tryz.func86 (by kernel_rfl) (by kernel_rfl) (Eq.mpr (by kernel_rfl) hx)
def walk_walk_end.k1 (w1:Option Addr) (h1:Heap) (h3:Heap) (I1:Heap→Prop) (M1:Heap→Nat) (s1:ByteArray) (n2:Int) (e1:Int) (x1:Option Addr) (h12:Heap) (K:Value→Heap→Prop):Prop :=
 bif (e1 != 0) then (
 PutRow ⟨h1.size,0,none⟩ [.slice none 0 0,.string (mkStr []),.int .i64 0] 3 h12 fun h13 =>
 ∃ res2:List Value,List.length res2=3∧Cells h13 ⟨h1.size,0,none⟩ res2 ∧
 K (.tuple #[.agg ⟨res2⟩,.int .i64 e1]) h13) else (
 onSome x1 fun p12 =>
 ∃ (n5:Int),cellOf h12 (Addr.add p12 0)=some (.int .i64 n5) ∧
 C.walk_walk_met w1 n5 n2 h12 fun r5 h14 =>
 ∃ (b1:Bool) (n6:Int),r5 = .tuple #[.bool b1,.int .i64 n6] ∧
 bif (n6 != 0) then (
 PutRow ⟨h1.size,0,none⟩ [.slice none 0 0,.string (mkStr []),.int .i64 0] 3 h14 fun h15 =>
 ∃ res3:List Value,List.length res3=3∧Cells h15 ⟨h1.size,0,none⟩ res3 ∧
 K (.tuple #[.agg ⟨res3⟩,.int .i64 n6]) h15) else (
 bif b1 then (
 C.walk_walk_place w1 s1 n2 h14 fun r6 h16 =>
 ∃ (cs4:List Value),r6 = .agg ⟨cs4⟩ ∧
 PutRow ⟨h1.size,0,none⟩ cs4 3 h16 fun h17 =>
 ∃ res4:List Value,List.length res4=3∧Cells h17 ⟨h1.size,0,none⟩ res4 ∧
 K (.tuple #[.agg ⟨res4⟩,.int .i64 0]) h17) else (
 I1  h14∧M1  h14<M1  h3)))
def walk_walk_end (w1:Option Addr) (K:Value→Heap→Prop) (h1:Heap):Prop :=
 New z66 66 h1 fun h2 =>
 ∃ (I1:Heap→Prop) (M1:Heap→Nat),I1  h2 ∧
 ∀ h3:Heap,I1  h3 →
 onSome w1 fun p1 =>
 ∃ (sA1:Option Addr) (sL1:Nat) (sC1:Nat),cellOf h3 (Addr.add p1 7)=some (.slice sA1 sL1 sC1) ∧
 bif (decide ((sL1:Int)>0)) then (
 onSome w1 fun p2 =>
 ∃ (sA2:Option Addr) (sL2:Nat) (sC2:Nat),cellOf h3 (Addr.add p2 7)=some (.slice sA2 sL2 sC2) ∧
 (0≤(0:Int)∧0<(sL2:Int)) ∧
 onSome sA2 fun p3 =>
 ∃ (s1:ByteArray),cellOf h3 (Addr.add p3 (Int.toNat 0))=some (.string s1) ∧
 onSome w1 fun p4 =>
 ∃ (sA3:Option Addr) (sL3:Nat) (sC3:Nat),cellOf h3 (Addr.add p4 7)=some (.slice sA3 sL3 sC3) ∧
 (0≤(1:Int)∧1≤(sL3:Int)) ∧
 onSome w1 fun p5 =>
 Put (Addr.add p5 7) (.slice (if sC3=(Int.toNat 1) then sA3 else Option.map (Addr.add · (Int.toNat 1)) sA3) (sL3 - (Int.toNat 1)) (sC3 - (Int.toNat 1))) h3 fun h4 =>
 bif (s1.toList == (mkStr [46,46]).toList) then (
 onSome w1 fun p6 =>
 C.walk_row_up (some (Addr.add p6 0)) h4 fun r1 h5 =>
 r1 = .tuple #[] ∧
 I1  h5∧M1  h5<M1  h3) else (
 onSome w1 fun p7 =>
 ∃ (q1:Option Addr),cellOf h4 (Addr.add p7 1)=some (.pointer q1) ∧
 onSome w1 fun p8 =>
 ∃ cs1:List Value,List.length cs1=5∧Cells h4 (Addr.add p8 2) cs1 ∧
 onSome w1 fun p9 =>
 C.walk_row_here (some (Addr.add p9 0)) h4 fun r2 h6 =>
 ∃ (n1:Int),r2 = .int .i64 n1 ∧
 (cellOf h6 (Addr.add p7 1)=some (.pointer q1)) ∧
 (List.length (cs1:List Value)=5∧Cells h6 (Addr.add p8 2) cs1) ∧
 C.dir_Find q1 cs1 n1 s1 h6 fun r3 h7 =>
 ∃ (n2:Int) (n3:Int),r3 = .tuple #[.int .i64 n2,.int .i64 n3] ∧
 bif (n3 != 0) then (
 PutRow ⟨h1.size,0,none⟩ [.slice none 0 0,.string (mkStr []),.int .i64 0] 3 h7 fun h8 =>
 ∃ res1:List Value,List.length res1=3∧Cells h8 ⟨h1.size,0,none⟩ res1 ∧
 K (.tuple #[.agg ⟨res1⟩,.int .i64 n3]) h8) else (
 onSome w1 fun p10 =>
 ∃ (q2:Option Addr),cellOf h7 (Addr.add p10 1)=some (.pointer q2) ∧
 onSome w1 fun p11 =>
 ∃ cs2:List Value,List.length cs2=5∧Cells h7 (Addr.add p11 2) cs2 ∧
 (
 C.inode_Get q2 cs2 n2 h7 fun r4 h9 =>
 ∃ (cs3:List Value) (n4:Int),r4 = .tuple #[.agg ⟨cs3⟩,.int .i64 n4] ∧
 New z123 123 h9 fun h10 =>
 (cellOf h10 (Addr.add p10 1)=some (.pointer q2)) ∧
 (List.length (cs2:List Value)=5∧Cells h10 (Addr.add p11 2) cs2) ∧
 PutRow ⟨h9.size,0,none⟩ cs3 15 h10 fun h11 =>
 walk_walk_end.k1 w1 h1 h3 I1 M1 s1 n2 n4 (some ⟨h9.size,0,none⟩) h11 K) ∧
 New z123 123 h7 fun h18 =>
 (cellOf h18 (Addr.add p10 1)=some (.pointer q2)) ∧
 (List.length (cs2:List Value)=5∧Cells h18 (Addr.add p11 2) cs2) ∧
 C.inode_Get q2 cs2 n2 h18 fun r7 h19 =>
 ∃ (cs5:List Value) (n7:Int),r7 = .tuple #[.agg ⟨cs5⟩,.int .i64 n7] ∧
 PutRow ⟨h7.size,0,none⟩ cs5 15 h19 fun h20 =>
 walk_walk_end.k1 w1 h1 h3 I1 M1 s1 n2 n7 (some ⟨h7.size,0,none⟩) h20 K))) else (
 onSome w1 fun p13 =>
 C.walk_row_here (some (Addr.add p13 0)) h3 fun r8 h21 =>
 ∃ (n8:Int),r8 = .int .i64 n8 ∧
 C.walk_walk_place w1 (mkStr []) n8 h21 fun r9 h22 =>
 ∃ (cs6:List Value),r9 = .agg ⟨cs6⟩ ∧
 PutRow ⟨h1.size,0,none⟩ cs6 3 h22 fun h23 =>
 ∃ res5:List Value,List.length res5=3∧Cells h23 ⟨h1.size,0,none⟩ res5 ∧
 K (.tuple #[.agg ⟨res5⟩,.int .i64 0]) h23)
def walk_walk_end.lo : Nat→List Nat×List (Nat×Ty):=fun n=>match n with|1=>([0,2],[])|_=>([],[])
def walk_walk_end.od : Nat→Od:=fun n=>match n with|6=>(.op 0 [] (.op 1 [] (.op 2 [] (.op 3 [] (.op 4 [] (.op 5 [] (.op 6 [] (.op 7 [] (.op 8 [] (.op 9 [] (.op 10 [] (.op 12 [] (.op 11 [3,7] (.op 13 [] (.op 14 [] (.op 15 [] (.op 16 [] (.op 17 [] (.op 18 [] .nil)))))))))))))))))))|9=>(.op 0 [] (.op 1 [] (.op 2 [] (.op 3 [] (.op 4 [] (.op 5 [] (.op 6 [] (.op 7 [] (.op 8 [] (.alt 9 [] (.op 10 [] (.op 11 [] (.op 12 [] (.op 13 [3,7] (.op 14 [] (.op 15 [] .nil)))))) (.op 13 [3,7] (.op 9 [] (.op 10 [] (.op 11 [] (.op 12 [] (.op 14 [] (.op 15 [] .nil)))))))))))))))))|_ => .nil
theorem walk_walk_end.ok {w1:Option Addr} {K:Value→Heap→Prop} {h:Heap} (hx:walk_walk_end w1 K h):C.walk_walk_end w1 h K :=
 fn_to (c:=Tryz.f87.body.getD .skip) (cxOk walk_walk_end.lo walk_walk_end.od) Tryz.func87 (by kernel_rfl) (by kernel_rfl) (Eq.mpr (by kernel_rfl) hx)
def walk_walk_place (w1:Option Addr) (name1:ByteArray) (n1:Int) (K:Value→Heap→Prop) (h1:Heap):Prop :=
 New z66 66 h1 fun h2 =>
 onSome w1 fun p1 =>
 ∃ (sA1:Option Addr) (sL1:Nat) (sC1:Nat),cellOf h2 (Addr.add (Addr.add p1 0) 0)=some (.slice sA1 sL1 sC1) ∧
 C.slices_Clone_int_int sA1 sL1 sC1 h2 fun r1 h3 =>
 ∃ (sA2:Option Addr) (sL2:Nat) (sC2:Nat),r1 = .slice sA2 sL2 sC2 ∧
 PutRow ⟨h1.size,0,none⟩ [.slice sA2 sL2 sC2,.string name1,.int .i64 n1] 3 h3 fun h4 =>
 ∃ res1:List Value,List.length res1=3∧Cells h4 ⟨h1.size,0,none⟩ res1 ∧
 K (.agg ⟨res1⟩) h4
def walk_walk_place.lo : Nat→List Nat×List (Nat×Ty):=fun n=>match n with|_=>([],[])
def walk_walk_place.od : Nat→Od:=fun n=>match n with|_ => .nil
theorem walk_walk_place.ok {w1:Option Addr} {name1:ByteArray} {n1:Int} {K:Value→Heap→Prop} {h:Heap} (hx:walk_walk_place w1 name1 n1 K h):C.walk_walk_place w1 name1 n1 h K :=
 fn_to (c:=Tryz.f88.body.getD .skip) (cxOk walk_walk_place.lo walk_walk_place.od) Tryz.func88 (by kernel_rfl) (by kernel_rfl) (Eq.mpr (by kernel_rfl) hx)
def walk_row_here (r1:Option Addr) (K:Value→Heap→Prop) (h1:Heap):Prop :=
 onSome r1 fun p1 =>
 ∃ (sA1:Option Addr) (sL1:Nat) (sC1:Nat),cellOf h1 (Addr.add p1 0)=some (.slice sA1 sL1 sC1) ∧
 onSome r1 fun p2 =>
 ∃ (sA2:Option Addr) (sL2:Nat) (sC2:Nat),cellOf h1 (Addr.add p2 0)=some (.slice sA2 sL2 sC2) ∧
 (0≤(IntKind.wrap .i64 ((sL2:Int) - 1))∧(IntKind.wrap .i64 ((sL2:Int) - 1))<(sL1:Int)) ∧
 onSome sA1 fun p3 =>
 ∃ (n1:Int),cellOf h1 (Addr.add p3 (Int.toNat (IntKind.wrap .i64 ((sL2:Int) - 1))))=some (.int .i64 n1) ∧
 K (.int .i64 n1) h1
def walk_row_here.lo : Nat→List Nat×List (Nat×Ty):=fun n=>match n with|_=>([],[])
def walk_row_here.od : Nat→Od:=fun n=>match n with|1=>(.op 0 [] (.op 1 [] (.op 2 [] (.op 3 [] (.op 4 [] (.op 5 [] (.op 6 [] (.op 7 [] (.op 8 [] (.op 9 [] (.op 10 [] (.op 11 [] (.op 12 [] .nil)))))))))))))|_ => .nil
theorem walk_row_here.ok {r1:Option Addr} {K:Value→Heap→Prop} {h:Heap} (hx:walk_row_here r1 K h):C.walk_row_here r1 h K :=
 fn_to (c:=Tryz.f89.body.getD .skip) (cxOk walk_row_here.lo walk_row_here.od) Tryz.func89 (by kernel_rfl) (by kernel_rfl) (Eq.mpr (by kernel_rfl) hx)
def path_wrong (s1:ByteArray) (isPath1:Bool) (K:Value→Heap→Prop) (h1:Heap):Prop :=
 bif (s1.toList == (mkStr []).toList) then (
 K (.bool true) h1) else (
 C.strings_IndexByte s1 0 h1 fun r1 h2 =>
 ∃ (n1:Int),r1 = .int .i64 n1 ∧
 bif (decide (n1≥0)) then (
 K (.bool true) h2) else (
 bif isPath1 then (
 (0≤(0:Int)∧0<(s1.size:Int)) ∧
 ∃ b1:UInt8,s1.toList[Int.toNat 0]?=some b1 ∧
 K (.bool (((UInt8.toNat b1:Nat):Int) != 47)) h2) else (
 K (.bool false) h2)))
def path_wrong.lo : Nat→List Nat×List (Nat×Ty):=fun n=>match n with|_=>([],[])
def path_wrong.od : Nat→Od:=fun n=>match n with|_ => .nil
theorem path_wrong.ok {s1:ByteArray} {isPath1:Bool} {K:Value→Heap→Prop} {h:Heap} (hx:path_wrong s1 isPath1 K h):C.path_wrong s1 isPath1 h K :=
 fn_to (c:=Tryz.f90.body.getD .skip) (cxOk path_wrong.lo path_wrong.od) Tryz.func90 (by kernel_rfl) (by kernel_rfl) (Eq.mpr (by kernel_rfl) hx)
end Go.Proofs.YtiapingedfnlnaaGreatDoor.W
namespace Go.Proofs.YtiapingedfnlnaaGreatDoor.W
open Go Go.Proofs Wx
def path_components (s1:ByteArray) (most1:Int) (K:Value→Heap→Prop) (h1:Heap):Prop :=
 New z60 60 h1 fun h2 =>
 New z34 34 h2 fun h3 =>
 bif (decide ((s1.size:Int)>most1)) then (
 Put ⟨h1.size,0,none⟩ (.slice none 0 0) h3 fun h4 =>
 Put ⟨h2.size,0,none⟩ (.int .i64 130) h4 fun h5 =>
 ∃ (resA1:Option Addr) (resL1:Nat) (resC1:Nat),cellOf h5 ⟨h1.size,0,none⟩=some (.slice resA1 resL1 resC1) ∧
 ∃ (res1:Int),cellOf h5 ⟨h2.size,0,none⟩=some (.int .i64 res1) ∧
 K (.tuple #[.slice resA1 resL1 resC1,.int .i64 res1]) h5) else (
 New z60 60 h3 fun h6 =>
 C.path_pieces s1 h6 fun r1 h7 =>
 ∃ (v1:Value),r1=v1 ∧
 ∀ (R1:Loop),
 (∀ (s2:ByteArray),∀ (h8:Heap) (k1:Value→Heap→Prop),LoopOn h8 (h7.size+1) R1 .ready none →
 (
 LoopOn h8 (h7.size+1) R1 .ready none ∧
 SetL h8 (h7.size+1) R1 .busy none fun h9 =>
 bif (s2.toList == (mkStr [46]).toList) then (
 LoopOn h9 (h7.size+1) R1 .busy none ∧
 k1 (.bool true) (setLoop h9 (h7.size+1) R1 .ready none)) else (
 bif (decide ((s2.size:Int)>27)) then (
 Put ⟨h1.size,0,none⟩ (.slice none 0 0) h9 fun h10 =>
 Put ⟨h2.size,0,none⟩ (.int .i64 130) h10 fun h11 =>
 LoopOn h11 (h7.size+1) R1 .busy none ∧
 k1 (.bool false) (setLoop h11 (h7.size+1) R1 .done (some .ret))) else (
 ∃ (sA1:Option Addr) (sL1:Nat) (sC1:Nat),cellOf h9 ⟨h3.size,0,none⟩=some (.slice sA1 sL1 sC1) ∧
 bif ((sL1:Int) == 32) then (
 Put ⟨h1.size,0,none⟩ (.slice none 0 0) h9 fun h12 =>
 Put ⟨h2.size,0,none⟩ (.int .i64 130) h12 fun h13 =>
 LoopOn h13 (h7.size+1) R1 .busy none ∧
 k1 (.bool false) (setLoop h13 (h7.size+1) R1 .done (some .ret))) else (
 ∃ (sA2:Option Addr) (sL2:Nat) (sC2:Nat),cellOf h9 ⟨h3.size,0,none⟩=some (.slice sA2 sL2 sC2) ∧
 New [.string s2] 9 h9 fun h14 =>
 ∃ new1:List Value,List.length new1=1*1∧SlCells h14 (some ⟨h9.size,0,none⟩) new1∧(∀ v ∈ new1,v.oneCell'=true) ∧
 AppendP ti9 9 sA2 sL2 sC2 1 new1 h14 fun sA3 sL3 sC3 h15 =>
 Put ⟨h3.size,0,none⟩ (.slice sA3 sL3 sC3) h15 fun h16 =>
 LoopOn h16 (h7.size+1) R1 .busy none ∧
 k1 (.bool true) (setLoop h16 (h7.size+1) R1 .ready none))))) →
 YCalls Tryz.prog (h7.size+1) [.string s2] h8 k1) →
 HCallsF Tryz.prog v1 [.func (.yield (h7.size+1)) #[] #[]] (beginL h7 R1) fun _ h17 =>
 ∃ (st1:LoopState) (pend1:Option Code),LoopOn h17 (h7.size+1) R1 st1 pend1∧st1 ≠ .busy ∧
 pendX pend1 (
 SetL h17 (h7.size+1) R1 .exhausted pend1 fun h18 =>
 ∃ (sA4:Option Addr) (sL4:Nat) (sC4:Nat),cellOf h18 ⟨h3.size,0,none⟩=some (.slice sA4 sL4 sC4) ∧
 Put ⟨h1.size,0,none⟩ (.slice sA4 sL4 sC4) h18 fun h19 =>
 Put ⟨h2.size,0,none⟩ (.int .i64 0) h19 fun h20 =>
 EndD h7.size h20 fun h21 =>
 ∃ (resA2:Option Addr) (resL2:Nat) (resC2:Nat),cellOf h21 ⟨h1.size,0,none⟩=some (.slice resA2 resL2 resC2) ∧
 ∃ (res2:Int),cellOf h21 ⟨h2.size,0,none⟩=some (.int .i64 res2) ∧
 K (.tuple #[.slice resA2 resL2 resC2,.int .i64 res2]) h21) (
 SetL h17 (h7.size+1) R1 .exhausted pend1 fun h22 =>
 EndD h7.size h22 fun h23 =>
 ∃ (resA3:Option Addr) (resL3:Nat) (resC3:Nat),cellOf h23 ⟨h1.size,0,none⟩=some (.slice resA3 resL3 resC3) ∧
 ∃ (res3:Int),cellOf h23 ⟨h2.size,0,none⟩=some (.int .i64 res3) ∧
 K (.tuple #[.slice resA3 resL3 resC3,.int .i64 res3]) h23) (fun _=>False))
def path_components.lo : Nat→List Nat×List (Nat×Ty):=fun n=>match n with|1000005=>([],[(14,.str)])|_=>([],[])
def path_components.od : Nat→Od:=fun n=>match n with|_ => .nil
theorem path_components.ok {s1:ByteArray} {most1:Int} {K:Value→Heap→Prop} {h:Heap} (hx:path_components s1 most1 K h):C.path_components s1 most1 h K :=
 fn_to (c:=Tryz.f91.body.getD .skip) (cxOk path_components.lo path_components.od) Tryz.func91 (by kernel_rfl) (by kernel_rfl) (Eq.mpr (by kernel_rfl) hx)
def inode_Get (t1:Option Addr) (g1:List Value) (n1:Int) (K:Value→Heap→Prop) (h1:Heap):Prop :=
 New g1 25 h1 fun h2 =>
 New z123 123 h2 fun h3 =>
 ∃ cs1:List Value,List.length cs1=5∧Cells h3 ⟨h1.size,0,none⟩ cs1 ∧
 C.inode_isInode cs1 n1 h3 fun r1 h4 =>
 ∃ (b1:Bool),r1 = .bool b1 ∧
 bif (!b1) then (
 PutRow ⟨h2.size,0,none⟩ [.int .i64 0,.int .i64 0,.int .i64 0,.int .i64 0,.int .i64 0,.int .i64 0,.int .i64 0,.int .i64 0,.int .i64 0,.int .i64 0,.int .i64 0,.int .i64 0,.int .i64 0,.int .i64 0,.int .i64 0] 15 h4 fun h5 =>
 ∃ res1:List Value,List.length res1=15∧Cells h5 ⟨h2.size,0,none⟩ res1 ∧
 K (.tuple #[.agg ⟨res1⟩,.int .i64 110]) h5) else (
 ∃ cs2:List Value,List.length cs2=5∧Cells h4 ⟨h1.size,0,none⟩ cs2 ∧
 C.inode_place t1 cs2 n1 h4 fun r2 h6 =>
 ∃ (n2:Int) (sA1:Option Addr) (sL1:Nat) (sC1:Nat) (n3:Int) (n4:Int),r2 = .tuple #[.int .i64 n2,.slice sA1 sL1 sC1,.int .i64 n3,.int .i64 n4] ∧
 bif (n4 != 0) then (
 PutRow ⟨h2.size,0,none⟩ [.int .i64 0,.int .i64 0,.int .i64 0,.int .i64 0,.int .i64 0,.int .i64 0,.int .i64 0,.int .i64 0,.int .i64 0,.int .i64 0,.int .i64 0,.int .i64 0,.int .i64 0,.int .i64 0,.int .i64 0] 15 h6 fun h7 =>
 ∃ res2:List Value,List.length res2=15∧Cells h7 ⟨h2.size,0,none⟩ res2 ∧
 K (.tuple #[.agg ⟨res2⟩,.int .i64 n4]) h7) else (
 (0≤n3∧n3≤(IntKind.wrap .i64 (n3+64))∧(IntKind.wrap .i64 (n3+64))≤(sC1:Int)) ∧
 C.inode_Decode (if sC1=(Int.toNat n3) then sA1 else Option.map (Addr.add · (Int.toNat n3)) sA1) ((Int.toNat (IntKind.wrap .i64 (n3+64))) - (Int.toNat n3)) (sC1 - (Int.toNat n3)) h6 fun r3 h8 =>
 ∃ (cs3:List Value) (n5:Int),r3 = .tuple #[.agg ⟨cs3⟩,.int .i64 n5] ∧
 PutRow ⟨h2.size,0,none⟩ cs3 15 h8 fun h9 =>
 ∃ res3:List Value,List.length res3=15∧Cells h9 ⟨h2.size,0,none⟩ res3 ∧
 K (.tuple #[.agg ⟨res3⟩,.int .i64 n5]) h9))
def inode_Get.lo : Nat→List Nat×List (Nat×Ty):=fun n=>match n with|_=>([],[])
def inode_Get.od : Nat→Od:=fun n=>match n with|_ => .nil
theorem inode_Get.ok {t1:Option Addr} {g1:List Value} {n1:Int} {K:Value→Heap→Prop} {h:Heap} (hx:inode_Get t1 g1 n1 K h):C.inode_Get t1 g1 n1 h K :=
 fn_to (c:=Tryz.f92.body.getD .skip) (cxOk inode_Get.lo inode_Get.od) Tryz.func92 (by kernel_rfl) (by kernel_rfl) (Eq.mpr (by kernel_rfl) hx)
def slices_Compact_int_int (sA1:Option Addr) (sL1:Nat) (sC1:Nat) (K:Value→Heap→Prop) (h1:Heap):Prop :=
 bif (decide ((sL1:Int)<2)) then (
 K (.slice sA1 sL1 sC1) h1) else (
 ∃ (I1:Int→Heap→Prop) (M1:Int→Heap→Nat),I1 1 h1 ∧
 ∀ (k1:Int),∀ h2:Heap,I1 k1 h2 →
 bif (decide (k1<(sL1:Int))) then (
 (0≤k1∧k1<(sL1:Int)) ∧
 onSome sA1 fun p1 =>
 ∃ (n1:Int),cellOf h2 (Addr.add p1 (Int.toNat k1))=some (.int .i64 n1) ∧
 (0≤(IntKind.wrap .i64 (k1 - 1))∧(IntKind.wrap .i64 (k1 - 1))<(sL1:Int)) ∧
 onSome sA1 fun p2 =>
 ∃ (n2:Int),cellOf h2 (Addr.add p2 (Int.toNat (IntKind.wrap .i64 (k1 - 1))))=some (.int .i64 n2) ∧
 bif (n1 == n2) then (
 (0≤k1∧k1≤(sL1:Int)) ∧
 ∃ (I2:Int→Int→Heap→Prop) (M2:Int→Int→Heap→Nat),I2 k1 1 h2 ∧
 ∀ (k2:Int) (k3:Int),∀ h3:Heap,I2 k2 k3 h3 →
 bif (decide (k3<(((sL1 - (Int.toNat k1)):Nat):Int))) then (
 (0≤k3∧k3<(((sL1 - (Int.toNat k1)):Nat):Int)) ∧
 onSome (if sC1=(Int.toNat k1) then sA1 else Option.map (Addr.add · (Int.toNat k1)) sA1) fun p3 =>
 ∃ (n3:Int),cellOf h3 (Addr.add p3 (Int.toNat k3))=some (.int .i64 n3) ∧
 (0≤(IntKind.wrap .i64 (k3 - 1))∧(IntKind.wrap .i64 (k3 - 1))<(((sL1 - (Int.toNat k1)):Nat):Int)) ∧
 onSome (if sC1=(Int.toNat k1) then sA1 else Option.map (Addr.add · (Int.toNat k1)) sA1) fun p4 =>
 ∃ (n4:Int),cellOf h3 (Addr.add p4 (Int.toNat (IntKind.wrap .i64 (k3 - 1))))=some (.int .i64 n4) ∧
 bif (n3 != n4) then (
 (0≤k3∧k3<(((sL1 - (Int.toNat k1)):Nat):Int)) ∧
 onSome (if sC1=(Int.toNat k1) then sA1 else Option.map (Addr.add · (Int.toNat k1)) sA1) fun p5 =>
 ∃ (n5:Int),cellOf h3 (Addr.add p5 (Int.toNat k3))=some (.int .i64 n5) ∧
 (0≤k2∧k2<(sL1:Int)) ∧
 onSome sA1 fun p6 =>
 Put (Addr.add p6 (Int.toNat k2)) (.int .i64 n5) h3 fun h4 =>
 I2 (IntKind.wrap .i64 (k2+1)) (IntKind.wrap .i64 (k3+1)) h4∧M2 (IntKind.wrap .i64 (k2+1)) (IntKind.wrap .i64 (k3+1)) h4<M2 k2 k3 h3) else (
 I2 k2 (IntKind.wrap .i64 (k3+1)) h3∧M2 k2 (IntKind.wrap .i64 (k3+1)) h3<M2 k2 k3 h3)) else (
 (0≤k2∧k2≤(sL1:Int)) ∧
 ClearP ti3 (if sC1=(Int.toNat k2) then sA1 else Option.map (Addr.add · (Int.toNat k2)) sA1) (sL1 - (Int.toNat k2)) h3 fun h5 =>
 (0≤k2∧k2≤(sC1:Int)) ∧
 K (.slice sA1 (Int.toNat k2) sC1) h5)) else (
 I1 (IntKind.wrap .i64 (k1+1)) h2∧M1 (IntKind.wrap .i64 (k1+1)) h2<M1 k1 h2)) else (
 K (.slice sA1 sL1 sC1) h2))
def slices_Compact_int_int.lo : Nat→List Nat×List (Nat×Ty):=fun n=>match n with|4=>([0],[(3,.int .i64)])|9=>([0,4],[(3,.int .i64),(5,.int .i64)])|_=>([],[])
def slices_Compact_int_int.od : Nat→Od:=fun n=>match n with|6=>(.op 0 [] (.op 1 [] (.op 2 [] (.op 3 [] (.op 4 [] (.op 5 [] (.op 6 [] (.op 7 [] (.op 8 [] (.op 9 [] .nil))))))))))|11=>(.op 0 [] (.op 1 [] (.op 2 [] (.op 3 [] (.op 4 [] (.op 5 [] (.op 6 [] (.op 7 [] (.op 8 [] (.op 9 [] .nil))))))))))|_ => .nil
theorem slices_Compact_int_int.ok {sA1:Option Addr} {sL1:Nat} {sC1:Nat} {K:Value→Heap→Prop} {h:Heap} (hx:slices_Compact_int_int sA1 sL1 sC1 K h):C.slices_Compact_int_int sA1 sL1 sC1 h K :=
 fn_to (c:=Tryz.f94.body.getD .skip) (cxOk slices_Compact_int_int.lo slices_Compact_int_int.od) Tryz.func94 (by kernel_rfl) (by kernel_rfl) (Eq.mpr (by kernel_rfl) hx)
def bolelaw16_Setup_blocks (s1:List Value) (K:Value→Heap→Prop) (h1:Heap):Prop :=
 New s1 54 h1 fun h2 =>
 ∃ (n1:Int),cellOf h2 (Addr.add ⟨h1.size,0,none⟩ 0)=some (.int .i64 n1) ∧
 K (.int .i64 (IntKind.wrap .i64 (128+(IntKind.wrap .i64 ((Int.tmod (IntKind.wrap .u64 (n1)) 1000)))))) h2
def bolelaw16_Setup_blocks.lo : Nat→List Nat×List (Nat×Ty):=fun n=>match n with|_=>([],[])
def bolelaw16_Setup_blocks.od : Nat→Od:=fun n=>match n with|_ => .nil
theorem bolelaw16_Setup_blocks.ok {s1:List Value} {K:Value→Heap→Prop} {h:Heap} (hx:bolelaw16_Setup_blocks s1 K h):C.bolelaw16_Setup_blocks s1 h K :=
 fn_to (c:=Tryz.f95.body.getD .skip) (cxOk bolelaw16_Setup_blocks.lo bolelaw16_Setup_blocks.od) Tryz.func95 (by kernel_rfl) (by kernel_rfl) (Eq.mpr (by kernel_rfl) hx)
def bolelaw16_low (bA1:Option Addr) (bL1:Nat) (bC1:Nat) (n1:Int) (K:Value→Heap→Prop) (h1:Heap):Prop :=
 ∃ (I1:Int→Int→Heap→Prop) (M1:Int→Int→Heap→Nat),I1 n1 0 h1 ∧
 ∀ (n2:Int) (n3:Int),∀ h2:Heap,I1 n2 n3 h2 →
 bif (decide (n3<(bL1:Int))) then (
 (0≤n3∧n3<(bL1:Int)) ∧
 onSome bA1 fun p1 =>
 Put (Addr.add p1 (Int.toNat n3)) (.int .u8 (IntKind.wrap .u8 (n2))) h2 fun h3 =>
 I1 (IntKind.wrap .i64 (Int.tdiv n2 256)) (IntKind.wrap .i64 (n3+1)) h3∧M1 (IntKind.wrap .i64 (Int.tdiv n2 256)) (IntKind.wrap .i64 (n3+1)) h3<M1 n2 n3 h2) else (
 K (.tuple #[]) h2)
def bolelaw16_low.lo : Nat→List Nat×List (Nat×Ty):=fun n=>match n with|1=>([0,6],[(1,.int .i64),(7,.int .i64)])|_=>([],[])
def bolelaw16_low.od : Nat→Od:=fun n=>match n with|_ => .nil
theorem bolelaw16_low.ok {bA1:Option Addr} {bL1:Nat} {bC1:Nat} {n1:Int} {K:Value→Heap→Prop} {h:Heap} (hx:bolelaw16_low bA1 bL1 bC1 n1 K h):C.bolelaw16_low bA1 bL1 bC1 n1 h K :=
 fn_to (c:=Tryz.f96.body.getD .skip) (cxOk bolelaw16_low.lo bolelaw16_low.od) Tryz.func96 (by kernel_rfl) (by kernel_rfl) (Eq.mpr (by kernel_rfl) hx)
def bolelaw16_pieces.k1 (s1:ByteArray) (lA1:Option Addr) (lL1:Nat) (lC1:Nat) (from1:Int) (i1:Int) (h2:Heap) (I1:Option Addr→Nat→Nat→Int→Int→Heap→Prop) (M1:Option Addr→Nat→Nat→Int→Int→Heap→Nat) (K:Value→Heap→Prop):Prop :=
 bif (decide (i1>from1)) then (
 (0≤from1∧from1≤i1∧i1≤(s1.size:Int)) ∧
 bif (!((ByteArray.extract s1 (Int.toNat from1) (Int.toNat i1)).toList == (mkStr [46]).toList)) then (
 (0≤from1∧from1≤i1∧i1≤(s1.size:Int)) ∧
 New [.string (ByteArray.extract s1 (Int.toNat from1) (Int.toNat i1))] 9 h2 fun h3 =>
 ∃ new1:List Value,List.length new1=1*1∧SlCells h3 (some ⟨h2.size,0,none⟩) new1∧(∀ v ∈ new1,v.oneCell'=true) ∧
 AppendP ti9 9 lA1 lL1 lC1 1 new1 h3 fun sA1 sL1 sC1 h4 =>
 I1 sA1 sL1 sC1 (IntKind.wrap .i64 (i1+1)) (IntKind.wrap .i64 (i1+1)) h4∧M1 sA1 sL1 sC1 (IntKind.wrap .i64 (i1+1)) (IntKind.wrap .i64 (i1+1)) h4<M1 lA1 lL1 lC1 from1 i1 h2) else (
 I1 lA1 lL1 lC1 (IntKind.wrap .i64 (i1+1)) (IntKind.wrap .i64 (i1+1)) h2∧M1 lA1 lL1 lC1 (IntKind.wrap .i64 (i1+1)) (IntKind.wrap .i64 (i1+1)) h2<M1 lA1 lL1 lC1 from1 i1 h2)) else (
 I1 lA1 lL1 lC1 (IntKind.wrap .i64 (i1+1)) (IntKind.wrap .i64 (i1+1)) h2∧M1 lA1 lL1 lC1 (IntKind.wrap .i64 (i1+1)) (IntKind.wrap .i64 (i1+1)) h2<M1 lA1 lL1 lC1 from1 i1 h2)
def bolelaw16_pieces (s1:ByteArray) (K:Value→Heap→Prop) (h1:Heap):Prop :=
 ∃ (I1:Option Addr→Nat→Nat→Int→Int→Heap→Prop) (M1:Option Addr→Nat→Nat→Int→Int→Heap→Nat),I1 none 0 0 0 0 h1 ∧
 ∀ (lA1:Option Addr) (lL1:Nat) (lC1:Nat) (from1:Int) (i1:Int),∀ h2:Heap,I1 lA1 lL1 lC1 from1 i1 h2 →
 bif (decide (i1≤(s1.size:Int))) then (
 bif (decide (i1<(s1.size:Int))) then (
 (0≤i1∧i1<(s1.size:Int)) ∧
 ∃ b1:UInt8,s1.toList[Int.toNat i1]?=some b1 ∧
 bif (((UInt8.toNat b1:Nat):Int) != 47) then (
 I1 lA1 lL1 lC1 from1 (IntKind.wrap .i64 (i1+1)) h2∧M1 lA1 lL1 lC1 from1 (IntKind.wrap .i64 (i1+1)) h2<M1 lA1 lL1 lC1 from1 i1 h2) else (
 bolelaw16_pieces.k1 s1 lA1 lL1 lC1 from1 i1 h2 I1 M1 K)) else (
 bolelaw16_pieces.k1 s1 lA1 lL1 lC1 from1 i1 h2 I1 M1 K)) else (
 K (.slice lA1 lL1 lC1) h2)
def bolelaw16_pieces.lo : Nat→List Nat×List (Nat×Ty):=fun n=>match n with|4=>([0],[(3,.slice),(4,.int .i64),(5,.int .i64)])|_=>([],[])
def bolelaw16_pieces.od : Nat→Od:=fun n=>match n with|_ => .nil
theorem bolelaw16_pieces.ok {s1:ByteArray} {K:Value→Heap→Prop} {h:Heap} (hx:bolelaw16_pieces s1 K h):C.bolelaw16_pieces s1 h K :=
 fn_to (c:=Tryz.f108.body.getD .skip) (cxOk bolelaw16_pieces.lo bolelaw16_pieces.od) Tryz.func108 (by kernel_rfl) (by kernel_rfl) (Eq.mpr (by kernel_rfl) hx)
def path_pieces (s1:ByteArray) (K:Value→Heap→Prop) (h1:Heap):Prop :=
 New [.string s1] 9 h1 fun h2 =>
 K (.func (.func 181) #[] ⟨[.pointer (some ⟨h1.size,0,none⟩)]⟩) h2
def path_pieces.lo : Nat→List Nat×List (Nat×Ty):=fun n=>match n with|_=>([],[])
def path_pieces.od : Nat→Od:=fun n=>match n with|_ => .nil
theorem path_pieces.ok {s1:ByteArray} {K:Value→Heap→Prop} {h:Heap} (hx:path_pieces s1 K h):C.path_pieces s1 h K :=
 fn_to (c:=Tryz.f109.body.getD .skip) (cxOk path_pieces.lo path_pieces.od) Tryz.func109 (by kernel_rfl) (by kernel_rfl) (Eq.mpr (by kernel_rfl) hx)
def path_does (s1:ByteArray) (K:Value→Heap→Prop) (h1:Heap):Prop :=
 NewM h1 fun h2 =>
 MapPut .str h1.size (.s (ByteArray.toList (mkStr [46]))) (.func (.func 182) #[] ⟨[]⟩) h2 fun h3 =>
 MapPut .str h1.size (.s (ByteArray.toList (mkStr [46,46]))) (.func (.func 183) #[] ⟨[]⟩) h3 fun h4 =>
 MapIn .str (some h1.size) h4 fun mm1 =>
 ∃ (v1:Value),Option.getD (mget mm1 (.s (ByteArray.toList s1))) (zeroV ti219)=v1 ∧
 K (.tuple #[v1,.bool (Option.isSome (mget mm1 (.s (ByteArray.toList s1))))]) h4
def path_does.lo : Nat→List Nat×List (Nat×Ty):=fun n=>match n with|_=>([],[])
def path_does.od : Nat→Od:=fun n=>match n with|_ => .nil
theorem path_does.ok {s1:ByteArray} {K:Value→Heap→Prop} {h:Heap} (hx:path_does s1 K h):C.path_does s1 h K :=
 fn_to (c:=Tryz.f110.body.getD .skip) (cxOk path_does.lo path_does.od) Tryz.func110 (by kernel_rfl) (by kernel_rfl) (Eq.mpr (by kernel_rfl) hx)
end Go.Proofs.YtiapingedfnlnaaGreatDoor.W
namespace Go.Proofs.YtiapingedfnlnaaGreatDoor.W
open Go Go.Proofs Wx
def adisk_New (n1:Int) (K:Value→Heap→Prop) (h1:Heap):Prop :=
 bif (decide (n1<1)) then (
 K (.tuple #[.pointer none,.int .i64 32]) h1) else (
 bif (decide (n1>16384)) then (
 K (.tuple #[.pointer none,.int .i64 32]) h1) else (
 (0≤n1∧n1≤n1∧(512:Int)*n1≤281474976710656∧n1≤281474976710656) ∧
 New (repCells z237 (Int.toNat n1)) 237 h1 fun h2 =>
 New [.slice (some ⟨h1.size,0,none⟩) (Int.toNat n1) (Int.toNat n1),.slice none 0 0,.int .i64 0,.slice none 0 0,.bool false,.int .i64 0,.int .i64 0,.slice none 0 0] 235 h2 fun h3 =>
 K (.tuple #[.pointer (some ⟨h2.size,0,none⟩),.int .i64 0]) h3))
def adisk_New.lo : Nat→List Nat×List (Nat×Ty):=fun n=>match n with|_=>([],[])
def adisk_New.od : Nat→Od:=fun n=>match n with|_ => .nil
set_option maxRecDepth 1000000 in
set_option maxRecDepth 1000000 in
theorem adisk_New.ok {n1:Int} {K:Value→Heap→Prop} {h:Heap} (hx:adisk_New n1 K h):C.adisk_New n1 h K :=
 fn_to (c:=Tryz.f120.body.getD .skip) (cxOk adisk_New.lo adisk_New.od) Tryz.func120 (by kernel_rfl) (by kernel_rfl) (Eq.mpr (by kernel_rfl) hx)
def txn_Txn_Read.k1 (t1:Option Addr) (i1:Int) (h3:Heap) (K:Value→Heap→Prop):Prop :=
 onSome t1 fun p3 =>
 ∃ (m1:Option Nat),cellOf h3 (Addr.add p3 1)=some (.map m1) ∧
 MapIn (.int .i64) m1 h3 fun mm1 =>
 ∃ (sA1:Option Addr) (sL1:Nat) (sC1:Nat),Option.getD (mget mm1 (.i i1)) (zeroV ti86) = .slice sA1 sL1 sC1 ∧
 bif (Option.isSome (mget mm1 (.i i1))) then (
 C.slices_Clone_byte_byte sA1 sL1 sC1 h3 fun r2 h4 =>
 ∃ (sA2:Option Addr) (sL2:Nat) (sC2:Nat),r2 = .slice sA2 sL2 sC2 ∧
 K (.tuple #[.slice sA2 sL2 sC2,.int .i64 0]) h4) else (
 onSome t1 fun p4 =>
 ∃ (q2:Option Addr),cellOf h3 (Addr.add p4 0)=some (.pointer q2) ∧
 C.adisk_Disk_Read q2 i1 h3 fun r3 h5 =>
 ∃ (sA3:Option Addr) (sL3:Nat) (sC3:Nat) (n2:Int),r3 = .tuple #[.slice sA3 sL3 sC3,.int .i64 n2] ∧
 K (.tuple #[.slice sA3 sL3 sC3,.int .i64 n2]) h5)
def txn_Txn_Read (t1:Option Addr) (i1:Int) (K:Value→Heap→Prop) (h1:Heap):Prop :=
 onSome t1 fun p1 =>
 ∃ (b1:Bool),cellOf h1 (Addr.add p1 3)=some (.bool b1) ∧
 bif b1 then (
 K (.tuple #[.slice none 0 0,.int .i64 61]) h1) else (
 bif (decide (i1<0)) then (
 K (.tuple #[.slice none 0 0,.int .i64 31]) h1) else (
 onSome t1 fun p2 =>
 ∃ (q1:Option Addr),cellOf h1 (Addr.add p2 0)=some (.pointer q1) ∧
 C.adisk_Disk_Blocks q1 h1 fun r1 h2 =>
 ∃ (n1:Int),r1 = .int .i64 n1 ∧
 bif (decide (i1≥n1)) then (
 K (.tuple #[.slice none 0 0,.int .i64 31]) h2) else (
 txn_Txn_Read.k1 t1 i1 h2 K)))
def txn_Txn_Read.lo : Nat→List Nat×List (Nat×Ty):=fun n=>match n with|_=>([],[])
def txn_Txn_Read.od : Nat→Od:=fun n=>match n with|_ => .nil
theorem txn_Txn_Read.ok {t1:Option Addr} {i1:Int} {K:Value→Heap→Prop} {h:Heap} (hx:txn_Txn_Read t1 i1 K h):C.txn_Txn_Read t1 i1 h K :=
 fn_to (c:=Tryz.f130.body.getD .skip) (cxOk txn_Txn_Read.lo txn_Txn_Read.od) Tryz.func130 (by kernel_rfl) (by kernel_rfl) (Eq.mpr (by kernel_rfl) hx)
def strings_ContainsAny (s1:ByteArray) (chars1:ByteArray) (K:Value→Heap→Prop) (h1:Heap):Prop :=
 C.strings_IndexAny s1 chars1 h1 fun r1 h2 =>
 ∃ (n1:Int),r1 = .int .i64 n1 ∧
 K (.bool (decide (n1≥0))) h2
def strings_ContainsAny.lo : Nat→List Nat×List (Nat×Ty):=fun n=>match n with|_=>([],[])
def strings_ContainsAny.od : Nat→Od:=fun n=>match n with|_ => .nil
theorem strings_ContainsAny.ok {s1:ByteArray} {chars1:ByteArray} {K:Value→Heap→Prop} {h:Heap} (hx:strings_ContainsAny s1 chars1 K h):C.strings_ContainsAny s1 chars1 h K :=
 fn_to (c:=Tryz.f134.body.getD .skip) (cxOk strings_ContainsAny.lo strings_ContainsAny.od) Tryz.func134 (by kernel_rfl) (by kernel_rfl) (Eq.mpr (by kernel_rfl) hx)
end Go.Proofs.YtiapingedfnlnaaGreatDoor.W
