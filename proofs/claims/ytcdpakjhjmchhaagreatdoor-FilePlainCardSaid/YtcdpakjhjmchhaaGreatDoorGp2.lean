/-
  TEXTS FOR filePlain_card: WxK HpB WxP HpE GlG Tab FormsC FormsD FormsE.
-/
import Derived.Orders
import Derived.ProofKit
import Derived.SizedLaws
import Derived.ChangeCalls
import Derived.Deep.Strs
import Derived.Test.YtcdpakjhjmchhaaGreatDoorRows
import Derived.JoinedCond
import Derived.OpenShut
import Derived.Deep.DeepHandedRow
import Derived.Lib.LaidTab
import Derived.Test.YtcdpakjhjmchhaaGreatDoorProg
import Derived.Test.YtcdpakjhjmchhaaGreatDoorGp1
namespace Go.Proofs.YtcdpakjhjmchhaaGreatDoor.Wx
open Go
def RunsAt (P:Program) (a:Act) (o:Oper) (w:World) (v:Value):Prop:=(execOp a.eval o).run P w = .ok (.value v) w
def wantB (full:List Oper) (a:Act) (o:Oper):Bool:=Region.wanted o (yielded full.toArray a.tmps)
def dstV (a:Act) (o:Oper):Value :=
  match o.dst with
  | some d=>a.tmps.getD d undef
  | none=>undef
def addD (D:Nat→Bool) (i:Nat):Nat→Bool:=fun j=>Nat.beq j i || D j
theorem addD_comm (D:Nat→Bool) (i j:Nat):addD (addD D i) j=addD (addD D j) i:=by
  funext k; simp only [addD]; cases Nat.beq k i <;> cases Nat.beq k j <;> rfl
def Still (C:Ctx) (full:List Oper) (st:List Nat) (D:Nat→Bool) (a:Act) (w:World):Prop :=
  ∀ j ∈ st,D j=true→∀ oj,full[j]?=some oj→wantB full a oj=true→RunsAt C.P a oj w (dstV a oj)
def Front (C:Ctx) (full:List Oper) (i:Nat) (st:List Nat) (D:Nat→Bool) (K:Act→World→Prop) (a:Act) (w:World):Prop :=
  ∃ o,full[i]?=some o ∧
    (if wantB full a o=true then
      (if isQ C o.op=true then ∃ v,RunsAt C.P a o w v∧(isReadOp C o.op=false→∀ w',RunsAt C.P a o w' v)∧K (a.put o.dst v) w
       else OpTo C.P a.eval o w fun v w'=>Still C full st D a w'∧K (a.put o.dst v) w')
    else K (a.put o.dst undef) w)
def SW (C:Ctx) (full:List Oper):Od→(Nat→Bool)→(Act→World→Prop)→Act→World→Prop
  | .nil,_,N,a,w=>N a w
  | .op i st r,D,N,a,w=>Front C full i st D (fun a w=>SW C full r (addD D i) N a w) a w
  | .alt i st r o,D,N,a,w=>Front C full i st D (fun a w=>SW C full r (addD D i) N a w) a w∧SW C full o D N a w
def predsOf (o:Oper):List Nat:=(o.after.toList.filter fun e=>Region.binds .any e).map (·.on)
def mask (acc:Array Nat):List Nat→Nat
  | []=>0
  | p::r=>(2 ^ p ||| acc.getD p 0) ||| mask acc r
def masks : List Oper→Array Nat→Array Nat
  | [],acc=>acc
  | o::r,acc=>masks r (acc.push (mask acc (predsOf o)))
def noSel (o:Oper):Bool :=
  match o.op with
  | .select _ _=>false
  | _=>true
def looksB (full:List Oper) (o:Oper) (d:Nat):Bool:=(o.looksAt full.toArray).contains d
def dstLooks (full:List Oper) (x o:Oper):Bool :=
  match x.dst with
  | some d=>looksB full o d
  | none=>false
def sameDst (x o:Oper):Bool :=
  match x.dst,o.dst with
  | some d,some e=>Nat.beq d e
  | _,_=>false
def pairB (C:Ctx) (full:List Oper) (M:Array Nat) (x i:Nat×List Nat):Bool :=
  match full[x.1]?,full[i.1]? with
  | some ox,some oi =>
    !(Nat.beq x.1 i.1) && !((predsOf ox).contains i.1) && !(sameDst ox oi) && !(isReadOp C ox.op && dstLooks full oi ox) &&
    ((M.getD i.1 0).testBit x.1 || (isQ C ox.op && !(dstLooks full ox oi) && !(dstLooks full oi ox) && (isQ C oi.op || !(isReadOp C ox.op) || i.2.contains x.1)))
  | _,_=>false
def occ : Od→List (Nat×List Nat)
  | .nil=>[]
  | .op i st r=>(i,st)::occ r
  | .alt i st r o=>(i,st)::(occ r++occ o)
def heads : Od→List Nat
  | .nil=>[]
  | .op i _ _=>[i]
  | .alt i _ _ o=>i::heads o
def lessR (R:List Nat) (x:Nat):List Nat:=R.filter fun j => !Nat.beq j x
def predsFree (full:List Oper) (x:Nat) (R:List Nat):Bool :=
  match full[x]? with
  | some o=>(predsOf o).all fun p => !R.contains p
  | none=>false
def notRead (C:Ctx) (full:List Oper) (x:Nat):Bool :=
  match full[x]? with
  | some o => !isReadOp C o.op
  | none=>false
def okB (C:Ctx) (full:List Oper) (M:Array Nat):Bool→Od→List Nat→Bool
  | _,.nil,R=>R.isEmpty
  | b,.op x st r,R=>R.contains x && (predsFree full x R && ((bif b then notRead C full x else (occ r).all (pairB C full M (x,st))) && okB C full M false r (lessR R x)))
  | b,.alt x _ r o,R=>R.contains x && (predsFree full x R && (notRead C full x && (okB C full M false r (lessR R x) && (okB C full M true o R && (b || R.all fun y=>Nat.beq y x || (heads o).contains y || (M.getD y 0).testBit x || (heads o).any fun e=>(M.getD y 0).testBit e)))))
def planB (C:Ctx) (full:List Oper) (L:Od):Bool :=
  (full.all noSel) && ((full.zipIdx.all fun p=>(predsOf p.1).all fun q=>Nat.blt q p.2) && ((full.all fun o => !(isReadOp C o.op && (dstLooks full o o || o.dst.isNone))) &&
  (((occ L).all fun x=>Nat.blt x.1 full.length && x.2.all fun j=>match full[j]? with|some o=>isReadOp C o.op|none=>false) && okB C full (masks full #[]) false L (List.range full.length))))
theorem dstLooks_false {full:List Oper} {x o:Oper} (h:dstLooks full x o=false):∀ d,x.dst=some d→d ∉ o.looksAt full.toArray:=by
  intro d hd
  unfold dstLooks at h
  rw [hd] at h
  simpa [looksB] using h
theorem sameDst_false {x o:Oper} (h:sameDst x o=false):∀ d,x.dst=some d→o.dst≠some d:=by
  intro d hd he
  unfold sameDst at h
  rw [hd,he] at h
  simp at h
theorem exec_put {full:List Oper} {x o:Oper} (hs:noSel o=true) (a:Act) (v:Value) (h:dstLooks full x o=false):execOp (a.put x.dst v).eval o=execOp a.eval o :=
  execOp_put (ops:=full.toArray) o (fun cs b e=>by simp [noSel,e] at hs) a x.dst v (dstLooks_false h)
theorem want_put {full:List Oper} {x o:Oper} (a:Act) (v:Value) (h:dstLooks full x o=false):wantB full (a.put x.dst v) o=wantB full a o :=
  wanted_put (ops:=full.toArray) o a x.dst v (dstLooks_false h)
theorem dstV_put_ne {x o:Oper} (a:Act) (v:Value) (h:sameDst x o=false):dstV (a.put x.dst v) o=dstV a o:=by
  unfold dstV
  cases ho:o.dst with
  | none=>rfl
  | some e =>
    cases hx:x.dst with
    | none=>rfl
    | some d =>
      have hne:d≠e:=fun hh=>sameDst_false h d hx (by rw [ho,hh])
      simp [Act.put,Array.getElem?_setIfInBounds_ne hne]
def Apart (C:Ctx) (full:List Oper) (D:Nat→Bool) (L:List (Nat×List Nat)):Prop :=
  ∀ j oj,D j=true→full[j]?=some oj→isReadOp C oj.op=true→∀ x ∈ L,∀ ox,full[x.1]?=some ox→dstLooks full ox oj=false∧sameDst ox oj=false
structure Swap (C:Ctx) (full:List Oper) (x i:Nat×List Nat):Prop where
  q:∀ ox,full[x.1]?=some ox→isQ C ox.op=true
  a:∀ ox oi,full[x.1]?=some ox→full[i.1]?=some oi→dstLooks full ox oi=false∧dstLooks full oi ox=false∧sameDst ox oi=false
  s:∀ ox oi,full[x.1]?=some ox→full[i.1]?=some oi→isQ C oi.op=false→isReadOp C ox.op=true→x.1 ∈ i.2
theorem Still.back {C:Ctx} {full:List Oper} (hsel:∀ o ∈ full,noSel o=true) {st:List Nat} {D:Nat→Bool} {x:Nat×List Nat} {ox:Oper} (hx:full[x.1]?=some ox) {L:List (Nat×List Nat)} (hap:Apart C full D (x::L))
    (hrd:∀ j ∈ st,D j=true→∀ oj,full[j]?=some oj→isReadOp C oj.op=true) {a:Act} {v:Value} {w:World} (h:Still C full st (addD D x.1) (a.put ox.dst v) w):Still C full st D a w:=by
  intro j hj hD oj hoj hw
  have hr:=hrd j hj hD oj hoj
  obtain ⟨h1,h2⟩:=hap j oj hD hoj hr x (by simp) ox hx
  have:=h j hj (by simp [addD,hD]) oj hoj (by rw [want_put a v h1]; exact hw)
  rw [dstV_put_ne a v h2] at this
  unfold RunsAt at this ⊢
  rwa [exec_put (hsel oj (List.mem_of_getElem? hoj)) a v h1] at this
theorem OpTo.mono {P:Program} {ρ:Operand→Value} {o:Oper} {w:World} {k k':Value→World→Prop} (h:OpTo P ρ o w k) (hk:∀ v w',k v w'→k' v w'):OpTo P ρ o w k':=by
  rcases h with ⟨v,w',h1,h2⟩|⟨w',h1,h2⟩|⟨g,args,h1,h2⟩|⟨l,fn,tmps,assign,body,h1,h2⟩
  · exact .inl ⟨v,w',h1,hk _ _ h2⟩
  · exact .inr (.inl ⟨w',h1,hk _ _ h2⟩)
  · exact .inr (.inr (.inl ⟨g,args,h1,h2.mono fun e w'' ⟨v,he,hv⟩=>⟨v,he,hk _ _ hv⟩⟩))
  · exact .inr (.inr (.inr ⟨l,fn,tmps,assign,body,h1,h2.mono fun e w'' ⟨v,he,hv⟩=>⟨v,he,hk _ _ hv⟩⟩))
theorem OpTo.congr {P:Program} {ρ ρ':Operand→Value} {o:Oper} {w:World} {k:Value→World→Prop} (he:execOp ρ o=execOp ρ' o) (h:OpTo P ρ o w k):OpTo P ρ' o w k:=by
  unfold OpTo at h ⊢; rw [he] at h; exact h
theorem dstV_put_self {n:Nat} {o:Oper} {a:Act} (hs:a.tmps.size=n) (hd:dstOk n o=true) (hn:o.dst.isNone=false) (v:Value):dstV (a.put o.dst v) o=v:=by
  unfold dstV dstOk at *
  cases ho:o.dst with
  | none=>rw [ho] at hn; cases hn
  | some d =>
    rw [ho] at hd
    have hlt:d<n:=Nat.le_of_ble_eq_true hd
    simp [Act.put,hs,hlt]
theorem size_put (a:Act) (d:Option Nat) (v:Value):(a.put d v).tmps.size=a.tmps.size:=by cases d <;> simp [Act.put]
theorem sameDst_comm (x o:Oper):sameDst x o=sameDst o x:=by
  unfold sameDst
  cases x.dst <;> cases o.dst <;> try rfl
  rename_i d e
  simp only
  cases h:Nat.beq d e with
  | true=>have:=Nat.eq_of_beq_eq_true h; subst this; exact h.symm
  | false =>
    cases h':Nat.beq e d with
    | false=>rfl
    | true=>have:=Nat.eq_of_beq_eq_true h'; subst this; rw [Nat.beq_refl] at h; cases h
theorem put_comm' {x o:Oper} (a:Act) (v u:Value) (h:sameDst x o=false):(a.put x.dst v).put o.dst u=(a.put o.dst u).put x.dst v :=
  Act.put_comm a v u (sameDst_false h)
def Behind (C:Ctx) (full:List Oper) (x y:Nat×List Nat):Prop :=
  ∀ ox oy,full[x.1]?=some ox→full[y.1]?=some oy→isReadOp C ox.op=true→dstLooks full oy ox=false∧sameDst oy ox=false
theorem front_swap {C:Ctx} {full:List Oper} {n:Nat} (hdst:∀ o ∈ full,dstOk n o=true) (hsel:∀ o ∈ full,noSel o=true) (hself:∀ o ∈ full,isReadOp C o.op=true→dstLooks full o o=false∧o.dst.isNone=false) (i:Nat) (st:List Nat)
    (hst:∀ j ∈ st,∀ oj,full[j]?=some oj→isReadOp C oj.op=true) {x:Nat×List Nat} (hX:Swap C full x (i,st)) {D:Nat→Bool} (hap:Apart C full D [x]) {A:Act→World→Prop} {B:(Nat→Bool)→Act→World→Prop} {a:Act} {w:World} (hsz:a.tmps.size=n)
    (IH:∀ v,(∃ ox,full[x.1]?=some ox∧A (a.put ox.dst v) w)→∃ ox,full[x.1]?=some ox∧Front C full i st (addD D x.1) (B (addD (addD D x.1) i)) (a.put ox.dst v) w)
    (h:Front C full x.1 x.2 D A a w):Front C full i st D (fun a w=>Front C full x.1 x.2 (addD D i) (B (addD (addD D i) x.1)) a w) a w:=by
    obtain ⟨ox,hox,h⟩:=h
    have IH:∀ v,A (a.put ox.dst v) w→Front C full i st (addD D x.1) (B (addD (addD D x.1) i)) (a.put ox.dst v) w:=fun v hv=>by
      obtain ⟨ox',e,r⟩:=IH v ⟨ox,hox,hv⟩
      rw [hox] at e
      have:=Option.some.inj e; subst this; exact r
    have hq:=hX.q ox hox
    -- what x does, v its value
    have core:∀ v:Value,(wantB full a ox=true→RunsAt C.P a ox w v∧(isReadOp C ox.op=false→∀ w',RunsAt C.P a ox w' v))→(wantB full a ox=false→v=undef) →
        A (a.put ox.dst v) w→Front C full i st D (fun a w=>Front C full x.1 x.2 (addD D i) (B (addD (addD D i) x.1)) a w) a w:=by
      intro v hv1 hv2 hrest
      obtain ⟨oi,hoi,hf⟩:=IH v hrest
      obtain ⟨a1,a2,a3⟩:=hX.a ox oi hox hoi
      have hsi:=hsel oi (List.mem_of_getElem? hoi)
      have hsx:=hsel ox (List.mem_of_getElem? hox)
      have hwi:=want_put (full:=full) a v a1
      have hei:=exec_put (full:=full) hsi a v a1
      refine ⟨oi,hoi,?_⟩
      -- x behind i, at a world where it runs as it ran
      have xback:∀ (u:Value) (w':World),(wantB full a ox=true→RunsAt C.P a ox w' v)→B (addD (addD D x.1) i) ((a.put ox.dst v).put oi.dst u) w' →
          Front C full x.1 x.2 (addD D i) (B (addD (addD D i) x.1)) (a.put oi.dst u) w':=by
        intro u w' hr hs
        rw [put_comm' a v u a3,addD_comm] at hs
        have hwx:=want_put (full:=full) a u a2
        refine ⟨ox,hox,?_⟩
        rw [hwx]
        cases hw:wantB full a ox with
        | true =>
          rw [if_pos rfl,if_pos hq]
          refine ⟨v,?_,fun hnr w2=>?_,hs⟩
          · unfold RunsAt; rw [exec_put hsx a u a2]; exact hr hw
          · unfold RunsAt; rw [exec_put hsx a u a2]; exact (hv1 hw).2 hnr w2
        | false =>
          rw [if_neg (by simp)]
          have:=hv2 hw
          subst this
          exact hs
      rw [hwi] at hf
      cases hwiB:wantB full a oi with
      | false =>
        rw [hwiB,if_neg (by simp)] at hf
        rw [if_neg (by simp)]
        exact xback undef w (fun hw=>(hv1 hw).1) hf
      | true =>
        rw [hwiB,if_pos rfl] at hf
        rw [if_pos rfl]
        cases hqi:isQ C oi.op with
        | true =>
          rw [hqi,if_pos rfl] at hf
          rw [if_pos rfl]
          obtain ⟨u,r1,r2,r3⟩:=hf
          refine ⟨u,?_,fun hnr w2=>?_,xback u w (fun hw=>(hv1 hw).1) r3⟩
          · unfold RunsAt at r1 ⊢; rwa [hei] at r1
          · have:=r2 hnr w2; unfold RunsAt at this ⊢; rwa [hei] at this
        | false =>
          rw [hqi,if_neg (by simp)] at hf
          rw [if_neg (by simp)]
          refine (OpTo.congr hei hf).mono fun u w' ⟨hstill,hk⟩=>?_
          refine ⟨Still.back hsel hox (L:=[]) (fun j oj hD hoj hr y hy oy hoy=>?_) (fun j hj _ oj hoj=>hst j hj oj hoj) hstill,xback u w' (fun hw=>?_) hk⟩
          · have:y=x:=by simpa using hy
            subst this
            exact hap j oj hD hoj hr y (by simp) oy hoy
          · cases hr:isReadOp C ox.op with
            | false=>exact (hv1 hw).2 hr w'
            | true =>
              have hmem:=hX.s ox oi hox hoi hqi hr
              obtain ⟨hsf,hsn⟩:=hself ox (List.mem_of_getElem? hox) hr
              have:=hstill x.1 hmem (by simp [addD,Nat.beq_refl]) ox hox (by rw [want_put a v hsf]; exact hw)
              unfold RunsAt at this ⊢
              rw [exec_put hsx a v hsf] at this
              rw [dstV_put_self hsz (hdst ox (List.mem_of_getElem? hox)) hsn] at this
              exact this
    cases hw:wantB full a ox with
    | true =>
      rw [hw,if_pos rfl,if_pos hq] at h
      obtain ⟨v,r1,r2,r3⟩:=h
      exact core v (fun _=>⟨r1,r2⟩) (fun hf=>by rw [hw] at hf; cases hf) r3
    | false =>
      rw [hw,if_neg (by simp)] at h
      exact core undef (fun hf=>by rw [hw] at hf; cases hf) (fun _=>rfl) h
end Go.Proofs.YtcdpakjhjmchhaaGreatDoor.Wx
namespace Go.Proofs.YtcdpakjhjmchhaaGreatDoor.Wx
open Go
theorem mask_bit (acc:Array Nat):∀ (ps:List Nat) (j:Nat),(mask acc ps).testBit j=true→∃ p ∈ ps,p=j∨(acc.getD p 0).testBit j=true
  | [],j,h=>by simp [mask] at h
  | p::r,j,h=>by
    simp only [mask,Nat.testBit_or,Bool.or_eq_true] at h
    rcases h with (h|h)|h
    · refine ⟨p,by simp,.inl ?_⟩
      by_cases e:p=j
      · exact e
      · rw [Nat.testBit_two_pow_of_ne e] at h; cases h
    · exact ⟨p,by simp,.inr h⟩
    · obtain ⟨q,hq,hj⟩:=mask_bit acc r j h
      exact ⟨q,by simp [hq],hj⟩
theorem masks_prefix : ∀ (l:List Oper) (acc:Array Nat) (p:Nat),p<acc.size→(masks l acc).getD p 0=acc.getD p 0
  | [],_,_,_=>rfl
  | o::r,acc,p,h=>by
    rw [masks,masks_prefix r _ p (by simp; omega)]
    simp [Array.getElem?_push,show p≠acc.size by omega]
theorem masks_at : ∀ (l:List Oper) (acc:Array Nat) (k:Nat) (o:Oper),l[k]?=some o→∃ acc':Array Nat,acc'.size=acc.size+k∧(masks l acc).getD (acc.size+k) 0=mask acc' (predsOf o) ∧
    ∀ p,p<acc'.size→acc'.getD p 0=(masks l acc).getD p 0
  | [],_,_,_,h=>by simp at h
  | o::r,acc,0,o',h=>by
    have e:o=o':=by simpa using h
    subst e
    refine ⟨acc,rfl,?_,fun p hp=>?_⟩
    · rw [masks,masks_prefix r _ _ (by simp)]
      simp
    · rw [masks,masks_prefix r _ _ (by simp; omega)]
      simp [Array.getElem?_push,show p≠acc.size by omega]
  | o::r,acc,k+1,o',h=>by
    obtain ⟨acc',h1,h2,h3⟩:=masks_at r (acc.push (mask acc (predsOf o))) k o' (by simpa using h)
    refine ⟨acc',by rw [h1]; simp; omega,?_,fun p hp=>by rw [masks]; exact h3 p hp⟩
    rw [masks]
    have e:(acc.push (mask acc (predsOf o))).size+k=acc.size+(k+1):=by simp; omega
    rw [e] at h2
    exact h2
theorem reach_listed {full:List Oper} (hback:∀ i o,full[i]?=some o→∀ p ∈ predsOf o,p<i) {listed:Nat→Bool}
    (hcl:∀ i o,full[i]?=some o→listed i=true→∀ p ∈ predsOf o,listed p=true) :
    ∀ (i:Nat) (o:Oper),full[i]?=some o→(∀ p ∈ predsOf o,listed p=true)→∀ j,((masks full #[]).getD i 0).testBit j=true→listed j=true:=by
  intro i
  induction i using Nat.strongRecOn with
  | _ i ih =>
    intro o ho hp j hj
    obtain ⟨acc',h1,h2,h3⟩:=masks_at full #[] i o ho
    simp only [List.size_toArray,List.length_nil,Nat.zero_add] at h1 h2
    rw [h2] at hj
    obtain ⟨p,hpm,hpj⟩:=mask_bit acc' _ _ hj
    rcases hpj with rfl|hpj
    · exact hp p hpm
    · have hlt:=hback i o ho p hpm
      rw [h3 p (by rw [h1]; exact hlt)] at hpj
      have hlen:p<full.length:=by
        have:=(List.getElem?_eq_some_iff.1 ho).1
        omega
      have hop:full[p]?=some full[p]:=List.getElem?_eq_getElem hlen
      exact ih p hlt _ hop (hcl p _ hop (hp p hpm)) j hpj
theorem pairB_spec {C:Ctx} {full:List Oper} {M:Array Nat} {x i:Nat×List Nat} (h:pairB C full M x i=true) :
    ∃ ox oi,full[x.1]?=some ox∧full[i.1]?=some oi∧x.1≠i.1∧i.1 ∉ predsOf ox∧sameDst ox oi=false∧(isReadOp C ox.op=true→dstLooks full oi ox=false) ∧
      ((M.getD i.1 0).testBit x.1=true∨(isQ C ox.op=true∧dstLooks full ox oi=false∧dstLooks full oi ox=false∧(isQ C oi.op=true∨isReadOp C ox.op=false∨x.1 ∈ i.2))):=by
  unfold pairB at h
  cases hx:full[x.1]? with
  | none=>rw [hx] at h; cases h
  | some ox =>
    cases hi:full[i.1]? with
    | none=>rw [hx,hi] at h; cases h
    | some oi =>
      rw [hx,hi] at h
      simp only [Bool.and_eq_true,Bool.not_eq_true',Bool.or_eq_true] at h
      obtain ⟨⟨⟨⟨h1,h2⟩,h3⟩,h4⟩,h5⟩:=h
      refine ⟨ox,oi,rfl,rfl,fun e=>?_,fun hm=>?_,h3,fun hr=>?_,?_⟩
      · rw [e,Nat.beq_refl] at h1; cases h1
      · rw [List.contains_iff_mem.2 hm] at h2; cases h2
      · rw [hr,Bool.true_and] at h4; exact h4
      · rcases h5 with h5|⟨⟨⟨h5,h6⟩,h7⟩,h8⟩
        · exact .inl h5
        · refine .inr ⟨h5,h6,h7,?_⟩
          rcases h8 with (h8|h8)|h8
          · exact .inl h8
          · exact .inr (.inl h8)
          · exact .inr (.inr (List.contains_iff_mem.1 h8))
theorem pair_behind {C:Ctx} {full:List Oper} {M:Array Nat} {x y:Nat×List Nat} (h:pairB C full M x y=true):Behind C full x y:=by
  obtain ⟨ox,oy,h1,h2,h3,h4,h5,h6,h7⟩:=pairB_spec h
  intro ox' oy' e1 e2 hr
  rw [h1] at e1; rw [h2] at e2
  have:=Option.some.inj e1; subst this
  have:=Option.some.inj e2; subst this
  exact ⟨h6 hr,by rw [sameDst_comm]; exact h5⟩
def pull (i:Nat):Od→Od
  | .nil => .nil
  | .op x st r=>if Nat.beq x i then r else .op x st (pull i r)
  | .alt x _ r o=>if Nat.beq x i then r else pull i o
def stOf (i:Nat):Od→List Nat
  | .nil=>[]
  | .op x st r=>if Nat.beq x i then st else stOf i r
  | .alt x st _ o=>if Nat.beq x i then st else stOf i o
theorem occ_pull (i:Nat):∀ (T:Od),∀ y ∈ occ (pull i T),y ∈ occ T
  | .nil,y,h=>h
  | .op x st r,y,h=>by
    unfold pull at h
    split at h
    · exact List.mem_cons_of_mem _ h
    · rcases List.mem_cons.1 h with h|h
      · exact List.mem_cons.2 (.inl h)
      · exact List.mem_cons_of_mem _ (occ_pull i r y h)
  | .alt x st r o,y,h=>by
    unfold pull at h
    split at h
    · exact List.mem_cons_of_mem _ (List.mem_append.2 (.inl h))
    · exact List.mem_cons_of_mem _ (List.mem_append.2 (.inr (occ_pull i o y h)))
theorem mem_lessR {R:List Nat} {x j:Nat}:j ∈ lessR R x↔j ∈ R∧j≠x:=by
  simp only [lessR,List.mem_filter,Bool.not_eq_true',and_congr_right_iff]
  intro _
  constructor
  · intro h e; subst e; rw [Nat.beq_refl] at h; cases h
  · intro h; cases e:Nat.beq j x with
    | false=>rfl
    | true=>exact absurd (Nat.eq_of_beq_eq_true e) h
theorem lessR_comm (R:List Nat) (x i:Nat):lessR (lessR R x) i=lessR (lessR R i) x:=by
  simp only [lessR,List.filter_filter]
  congr 1; funext k; exact Bool.and_comm _ _
theorem lessR_length {R:List Nat} {x:Nat} (h:x ∈ R):(lessR R x).length<R.length:=by
  unfold lessR
  have h1:=List.length_filter_le (fun j => !Nat.beq j x) R
  rcases Nat.lt_or_ge (R.filter fun j => !Nat.beq j x).length R.length with h2|h2
  · exact h2
  · exfalso
    have:=List.length_filter_eq_length_iff.1 (Nat.le_antisymm h1 h2) x h
    rw [Nat.beq_refl] at this; cases this
theorem beq_false {x i:Nat} (h:x≠i):Nat.beq x i=false:=by
  cases e:Nat.beq x i with
  | false=>rfl
  | true=>exact absurd (Nat.eq_of_beq_eq_true e) h
theorem pull_op_ne {x i:Nat} (h:x≠i) (st:List Nat) (r:Od):pull i (.op x st r) = .op x st (pull i r):=by rw [pull,beq_false h]; rfl
theorem pull_op_eq (i:Nat) (st:List Nat) (r:Od):pull i (.op i st r)=r:=by rw [pull,Nat.beq_refl]; rfl
theorem pull_alt_ne {x i:Nat} (h:x≠i) (st:List Nat) (r o:Od):pull i (.alt x st r o)=pull i o:=by rw [pull,beq_false h]; rfl
theorem pull_alt_eq (i:Nat) (st:List Nat) (r o:Od):pull i (.alt i st r o)=r:=by rw [pull,Nat.beq_refl]; rfl
theorem stOf_op_ne {x i:Nat} (h:x≠i) (st:List Nat) (r:Od):stOf i (.op x st r)=stOf i r:=by rw [stOf,beq_false h]; rfl
theorem stOf_op_eq (i:Nat) (st:List Nat) (r:Od):stOf i (.op i st r)=st:=by rw [stOf,Nat.beq_refl]; rfl
theorem stOf_alt_ne {x i:Nat} (h:x≠i) (st:List Nat) (r o:Od):stOf i (.alt x st r o)=stOf i o:=by rw [stOf,beq_false h]; rfl
theorem stOf_alt_eq (i:Nat) (st:List Nat) (r o:Od):stOf i (.alt i st r o)=st:=by rw [stOf,Nat.beq_refl]; rfl
structure OkOp (C:Ctx) (full:List Oper) (M:Array Nat) (b:Bool) (x:Nat) (st:List Nat) (r:Od) (R:List Nat):Prop where
  mem:x ∈ R
  free:predsFree full x R=true
  rest:okB C full M false r (lessR R x)=true
  pair:b=false→∀ p ∈ occ r,pairB C full M (x,st) p=true
  alt:b=true→notRead C full x=true
theorem okB_op {C:Ctx} {full:List Oper} {M:Array Nat} {b:Bool} {x:Nat} {st:List Nat} {r:Od} {R:List Nat} (h:okB C full M b (.op x st r) R=true):OkOp C full M b x st r R:=by
  simp only [okB,Bool.and_eq_true] at h
  obtain ⟨h1,h2,h3,h4⟩:=h
  refine ⟨List.contains_iff_mem.1 h1,h2,h4,fun e=>?_,fun e=>?_⟩
  · subst e; exact List.all_eq_true.1 h3
  · subst e; exact h3
structure OkAlt (C:Ctx) (full:List Oper) (M:Array Nat) (b:Bool) (x:Nat) (r o:Od) (R:List Nat):Prop where
  mem:x ∈ R
  free:predsFree full x R=true
  quiet:notRead C full x=true
  rest:okB C full M false r (lessR R x)=true
  other:okB C full M true o R=true
  cover:b=false→∀ y ∈ R,y ∈ heads (.alt x [] r o)∨∃ e ∈ heads (.alt x [] r o),(M.getD y 0).testBit e=true
theorem okB_alt {C:Ctx} {full:List Oper} {M:Array Nat} {b:Bool} {x:Nat} {st:List Nat} {r o:Od} {R:List Nat} (h:okB C full M b (.alt x st r o) R=true):OkAlt C full M b x r o R:=by
  simp only [okB,Bool.and_eq_true] at h
  obtain ⟨h1,h2,h3,h4,h5,h6⟩:=h
  refine ⟨List.contains_iff_mem.1 h1,h2,h3,h4,h5,fun e y hy=>?_⟩
  subst e
  have:=List.all_eq_true.1 (by simpa only [Bool.false_or] using h6) y hy
  simp only [Bool.or_eq_true] at this
  rcases this with ((h|h)|h)|h
  · exact .inl (List.mem_cons.2 (.inl (Nat.eq_of_beq_eq_true h)))
  · exact .inl (List.mem_cons_of_mem _ (List.contains_iff_mem.1 h))
  · exact .inr ⟨x,List.mem_cons_self ..,h⟩
  · obtain ⟨e,he,ht⟩:=List.any_eq_true.1 h
    exact .inr ⟨e,List.mem_cons_of_mem _ he,ht⟩
theorem heads_mem {C:Ctx} {full:List Oper} {M:Array Nat}:∀ (T:Od) (b:Bool) (R:List Nat),okB C full M b T R=true→∀ e ∈ heads T,e ∈ R
  | .nil,_,_,_,e,he=>absurd he (by simp [heads])
  | .op x st r,b,R,h,e,he=>by
    have:e=x:=by simpa [heads] using he
    rw [this]; exact (okB_op h).mem
  | .alt x st r o,b,R,h,e,he=>by
    have:=okB_alt h
    rcases List.mem_cons.1 he with he|he
    · rw [he]; exact this.mem
    · exact heads_mem o true R this.other e he
structure Can (full:List Oper) (M:Array Nat) (i:Nat) (b:Bool) (T:Od) (R:List Nat):Prop where
  mem:i ∈ R
  up:∀ k,(M.getD i 0).testBit k=true→k ∉ R
  alt:b=true→i ∈ heads T
theorem Can.rest {full:List Oper} {M:Array Nat} {i x:Nat} {st:List Nat} {r:Od} {R:List Nat} (c:Can full M i false (.op x st r) R) (h:x≠i):Can full M i false r (lessR R x) :=
  ⟨mem_lessR.2 ⟨c.mem,fun e=>h e.symm⟩,fun k hk hm=>c.up k hk (mem_lessR.1 hm).1,fun e=>by cases e⟩
theorem Can.other {C:Ctx} {full:List Oper} {M:Array Nat} {i x:Nat} {b:Bool} {st:List Nat} {r o:Od} {R:List Nat} (c:Can full M i b (.alt x st r o) R) (hk:okB C full M b (.alt x st r o) R=true) (h:x≠i):Can full M i true o R:=by
  refine ⟨c.mem,c.up,fun _=>?_⟩
  have hh:i ∈ heads (.alt x st r o):=by
    cases b with
    | true=>exact c.alt rfl
    | false =>
      rcases (okB_alt hk).cover rfl i c.mem with h|⟨e,he,ht⟩
      · exact h
      · exact absurd (heads_mem _ _ _ hk e he) (c.up e ht)
  rcases List.mem_cons.1 hh with hh|hh
  · exact absurd hh.symm h
  · exact hh
theorem Can.eq {full:List Oper} {M:Array Nat} {i x:Nat} {st:List Nat} {r:Od} {R:List Nat} (c:Can full M i true (.op x st r) R):x=i:=by
  have:=c.alt rfl
  simp only [heads,List.mem_singleton] at this; exact this.symm
theorem stOf_occ {C:Ctx} {full:List Oper} {M:Array Nat} {i:Nat}:∀ (T:Od) (b:Bool) (R:List Nat),okB C full M b T R=true→Can full M i b T R→(i,stOf i T) ∈ occ T
  | .nil,b,R,h,c=>by
    simp only [okB,List.isEmpty_iff] at h
    have:=c.mem; rw [h] at this; exact absurd this (by simp)
  | .op x st r,b,R,h,c=>by
    by_cases e:x=i
    · subst e; rw [stOf_op_eq]; exact List.mem_cons_self ..
    · cases b with
      | true=>exact absurd c.eq e
      | false=>rw [stOf_op_ne e]; exact List.mem_cons_of_mem _ (stOf_occ r false _ (okB_op h).rest (c.rest e))
  | .alt x st r o,b,R,h,c=>by
    by_cases e:x=i
    · subst e; rw [stOf_alt_eq]; exact List.mem_cons_self ..
    · rw [stOf_alt_ne e]; exact List.mem_cons_of_mem _ (List.mem_append.2 (.inr (stOf_occ o true R (okB_alt h).other (c.other h e))))
theorem predsFree_less {full:List Oper} {x i:Nat} {R:List Nat} (h:predsFree full x R=true):predsFree full x (lessR R i)=true:=by
  unfold predsFree at h ⊢
  cases ho:full[x]? with
  | none=>rw [ho] at h; cases h
  | some o =>
    rw [ho] at h
    refine List.all_eq_true.2 fun p hp=>?_
    have:=List.all_eq_true.1 h p hp
    rw [Bool.not_eq_true'] at this ⊢
    cases hc:(lessR R i).contains p with
    | false=>rfl
    | true=>rw [List.contains_iff_mem.2 (mem_lessR.1 (List.contains_iff_mem.1 hc)).1] at this; cases this
theorem pull_ok {C:Ctx} {full:List Oper} {M:Array Nat} {i:Nat}:∀ (T:Od) (b:Bool) (R:List Nat),okB C full M b T R=true→Can full M i b T R→okB C full M false (pull i T) (lessR R i)=true
  | .nil,b,R,h,c=>by
    simp only [okB,List.isEmpty_iff] at h
    have:=c.mem; rw [h] at this; exact absurd this (by simp)
  | .op x st r,b,R,h,c=>by
    have k:=okB_op h
    by_cases e:x=i
    · subst e; rw [pull_op_eq]; exact k.rest
    · cases b with
      | true=>exact absurd c.eq e
      | false =>
        rw [pull_op_ne e]
        simp only [okB,Bool.and_eq_true]
        refine ⟨List.contains_iff_mem.2 (mem_lessR.2 ⟨k.mem,e⟩),predsFree_less k.free,?_,?_⟩
        · exact List.all_eq_true.2 fun p hp=>k.pair rfl p (occ_pull i r p hp)
        · rw [lessR_comm]; exact pull_ok r false _ k.rest (c.rest e)
  | .alt x st r o,b,R,h,c=>by
    by_cases e:x=i
    · subst e; rw [pull_alt_eq]; exact (okB_alt h).rest
    · rw [pull_alt_ne e]; exact pull_ok o true R (okB_alt h).other (c.other h e)
theorem pair_swap {C:Ctx} {full:List Oper} {M:Array Nat} {x i:Nat×List Nat} (h:pairB C full M x i=true) (hno:(M.getD i.1 0).testBit x.1=false):Swap C full x i:=by
  obtain ⟨ox,oi,g1,g2,g3,g4,g5,g6,g7⟩:=pairB_spec h
  rcases g7 with g7|⟨k1,k2,k3,k4⟩
  · rw [hno] at g7; cases g7
  · refine ⟨fun o1 e1=>?_,fun o1 o2 e1 e2=>?_,fun o1 o2 e1 e2 hnq hr=>?_⟩
    · rw [g1] at e1; have:=Option.some.inj e1; subst this; exact k1
    · rw [g1] at e1; rw [g2] at e2; have:=Option.some.inj e1; subst this; have:=Option.some.inj e2; subst this; exact ⟨k2,k3,g5⟩
    · rw [g1] at e1; rw [g2] at e2; have:=Option.some.inj e1; subst this; have:=Option.some.inj e2; subst this
      rcases k4 with k4|k4|k4
      · rw [hnq] at k4; cases k4
      · rw [hr] at k4; cases k4
      · exact k4
theorem Can.no {full:List Oper} {M:Array Nat} {i x:Nat} {b:Bool} {T:Od} {R:List Nat} (c:Can full M i b T R) (h:x ∈ R):(M.getD i 0).testBit x=false:=by
  cases e:(M.getD i 0).testBit x with
  | false=>rfl
  | true=>exact absurd h (c.up x e)
theorem pull_behind {C:Ctx} {full:List Oper} {M:Array Nat} {i:Nat} {o:Oper} (ho:full[i]?=some o) (hr:isReadOp C o.op=true):∀ (T:Od) (b:Bool) (R:List Nat),okB C full M b T R=true→Can full M i b T R →
    ∀ y ∈ occ (pull i T),∀ oy,full[y.1]?=some oy→dstLooks full oy o=false∧sameDst oy o=false
  | .nil,b,R,h,c,y,hy,oy,hoy=>absurd hy (by simp [pull,occ])
  | .op x st r,b,R,h,c,y,hy,oy,hoy=>by
    have k:=okB_op h
    by_cases e:x=i
    · subst e
      rw [pull_op_eq] at hy
      cases b with
      | true =>
        have:=k.alt rfl
        unfold notRead at this
        rw [ho] at this
        simp [hr] at this
      | false=>exact pair_behind (k.pair rfl y hy) o oy ho hoy hr
    · cases b with
      | true=>exact absurd c.eq e
      | false =>
        rw [pull_op_ne e] at hy
        rcases List.mem_cons.1 hy with hy|hy
        · subst hy
          have hm:=stOf_occ r false _ k.rest (c.rest e)
          have sw:=pair_swap (k.pair rfl _ hm) (c.no k.mem)
          obtain ⟨k1,_,k3⟩:=sw.a oy o hoy ho
          exact ⟨k1,k3⟩
        · exact pull_behind ho hr r false _ k.rest (c.rest e) y hy oy hoy
  | .alt x st r o',b,R,h,c,y,hy,oy,hoy=>by
    by_cases e:x=i
    · subst e
      have:=(okB_alt h).quiet
      unfold notRead at this
      rw [ho] at this
      simp [hr] at this
    · rw [pull_alt_ne e] at hy
      exact pull_behind ho hr o' true R (okB_alt h).other (c.other h e) y hy oy hoy
theorem Apart.sub {C:Ctx} {full:List Oper} {D:Nat→Bool} {L L':List (Nat×List Nat)} (h:Apart C full D L) (hs:∀ y ∈ L',y ∈ L):Apart C full D L' :=
  fun j oj hD hoj hr x hx ox hox=>h j oj hD hoj hr x (hs x hx) ox hox
theorem front_tree {C:Ctx} {full:List Oper} {n:Nat} {M:Array Nat} (hdst:∀ o ∈ full,dstOk n o=true) (hsel:∀ o ∈ full,noSel o=true) (hself:∀ o ∈ full,isReadOp C o.op=true→dstLooks full o o=false∧o.dst.isNone=false) (i:Nat) (N:Act→World→Prop) :
    ∀ (T:Od) (b:Bool) (R:List Nat) (D:Nat→Bool) (a:Act) (w:World),okB C full M b T R=true→Can full M i b T R→(∀ x ∈ occ T,∀ j ∈ x.2,∀ oj,full[j]?=some oj→isReadOp C oj.op=true) →
      a.tmps.size=n→Apart C full D (occ T)→SW C full T D N a w→Front C full i (stOf i T) D (fun a w=>SW C full (pull i T) (addD D i) N a w) a w
  | .nil,b,R,D,a,w,h,c,_,_,_,_=>by
    simp only [okB,List.isEmpty_iff] at h
    have:=c.mem; rw [h] at this; exact absurd this (by simp)
  | .op x st r,b,R,D,a,w,h,c,hst,hsz,hap,hs=>by
    have k:=okB_op h
    by_cases e:x=i
    · subst e; rw [pull_op_eq,stOf_op_eq]; exact hs
    · cases b with
      | true=>exact absurd c.eq e
      | false =>
        rw [pull_op_ne e,stOf_op_ne e]
        have hm:=stOf_occ r false _ k.rest (c.rest e)
        have sw:=pair_swap (k.pair rfl _ hm) (c.no k.mem)
        refine front_swap hdst hsel hself i (stOf i r) (hst _ (List.mem_cons_of_mem _ hm)) (x:=(x,st)) sw (hap.sub fun y hy=>by rw [List.mem_singleton.1 hy]; exact List.mem_cons_self ..)
          (A:=fun a w=>SW C full r (addD D x) N a w) (B:=fun D a w=>SW C full (pull i r) D N a w) hsz (fun v hv=>?_) hs
        obtain ⟨ox,hox,hv⟩:=hv
        refine ⟨ox,hox,?_⟩
        refine front_tree hdst hsel hself i N r false _ (addD D x) _ w k.rest (c.rest e) (fun y hy=>hst y (List.mem_cons_of_mem _ hy)) (by rw [size_put]; exact hsz) ?_ hv
        intro j oj hD hoj hr y hy oy hoy
        simp only [addD,Bool.or_eq_true] at hD
        rcases hD with hD|hD
        · have e:=Nat.eq_of_beq_eq_true hD
          subst e
          exact pair_behind (k.pair rfl y hy) oj oy hoj hoy hr
        · exact hap j oj hD hoj hr y (List.mem_cons_of_mem _ hy) oy hoy
  | .alt x st r o,b,R,D,a,w,h,c,hst,hsz,hap,hs=>by
    by_cases e:x=i
    · subst e; rw [pull_alt_eq,stOf_alt_eq]; exact hs.1
    · rw [pull_alt_ne e,stOf_alt_ne e]
      exact front_tree hdst hsel hself i N o true R D a w (okB_alt h).other (c.other h e) (fun y hy=>hst y (List.mem_cons_of_mem _ (List.mem_append.2 (.inr hy)))) hsz
        (hap.sub fun y hy=>List.mem_cons_of_mem _ (List.mem_append.2 (.inr hy))) hs.2
structure Plan (C:Ctx) (full:List Oper) (L:Od):Prop where
  sel:∀ o ∈ full,noSel o=true
  back:∀ i o,full[i]?=some o→∀ p ∈ predsOf o,p<i
  self:∀ o ∈ full,isReadOp C o.op=true→dstLooks full o o=false∧o.dst.isNone=false
  st:∀ x ∈ occ L,∀ j ∈ x.2,∀ oj,full[j]?=some oj→isReadOp C oj.op=true
  ok:okB C full (masks full #[]) false L (List.range full.length)=true
theorem planB_plan {C:Ctx} {full:List Oper} {L:Od} (h:planB C full L=true):Plan C full L:=by
  simp only [planB,Bool.and_eq_true] at h
  obtain ⟨h1,h2,h3,h5,h6⟩:=h
  refine ⟨List.all_eq_true.1 h1,?_,?_,?_,h6⟩
  · intro i o ho p hp
    have hm:(o,i) ∈ full.zipIdx:=by
      rw [List.mem_iff_getElem?]
      exact ⟨i,by simp [List.getElem?_zipIdx,ho]⟩
    have:=List.all_eq_true.1 (List.all_eq_true.1 h2 _ hm) p hp
    exact Nat.le_of_ble_eq_true this
  · intro o ho hr
    have:=List.all_eq_true.1 h3 o ho
    rw [hr] at this
    simpa using this
  · intro x hx j hj oj hoj
    have:=List.all_eq_true.1 h5 x hx
    simp only [Bool.and_eq_true] at this
    have:=List.all_eq_true.1 this.2 j hj
    rw [hoj] at this
    exact this
theorem sw_any {C:Ctx} {ro:Option Nat} {full:List Oper} {n:Nat} (hnd:∀ o ∈ full,isDefer o.op=false) (hdst:∀ o ∈ full,dstOk n o=true) {L0:Od} (hp:Plan C full L0) {Q:Exit→Act→World→Prop} {N:Act→World→Prop} (hN:∀ a w,N a w→Q .normal a w) :
    ∀ (fuel:Nat) (listed:Array Bool) (T:Od) (R:List Nat) (D:Nat→Bool) (a:Act) (w:World),listed.size=full.length→okB C full (masks full #[]) false T R=true→(∀ y ∈ occ T,y ∈ occ L0) →
      (∀ i,i<full.length→(listed.getD i true=false↔i ∈ R))→(∀ i ∈ R,i<full.length)→(∀ i o,full[i]?=some o→listed.getD i false=true→∀ p ∈ predsOf o,listed.getD p false=true) →
      Apart C full D (occ T)→a.tmps.size=n→R.length≤fuel→SW C full T D N a w→wpAnyIn (FW ro) 0 C.P .any full.toArray Q fuel listed a w:=by
  have pm:∀ (o:Oper) (e:Edge),e ∈ o.after→Region.binds .any e=true→e.on ∈ predsOf o:=fun o e he hb =>
    List.mem_map.2 ⟨e,List.mem_filter.2 ⟨by simpa using he,hb⟩,rfl⟩
  have mp:∀ (o:Oper) (p:Nat),p ∈ predsOf o→∃ e ∈ o.after,Region.binds .any e=true∧e.on=p:=fun o p h=>by
    obtain ⟨e,he,rfl⟩:=List.mem_map.1 h
    obtain ⟨h1,h2⟩:=List.mem_filter.1 he
    exact ⟨e,by simpa using h1,h2,rfl⟩
  have flip:∀ (listed:Array Bool) (i:Nat),listed.size=full.length→i<full.length→listed.getD i true=listed.getD i false:=by
    intro listed i hs hi
    have hlt:i<listed.size:=by omega
    rw [Array.getD_eq_getD_getElem?,Array.getD_eq_getD_getElem?,Array.getElem?_eq_getElem hlt]
    rfl
  -- where nothing is ready, nothing is left
  have none_left:∀ (listed:Array Bool) (T:Od) (R:List Nat),listed.size=full.length→okB C full (masks full #[]) false T R=true→(∀ i,i<full.length→(listed.getD i true=false↔i ∈ R))→(∀ i ∈ R,i<full.length) →
      Region.ready .any full.toArray listed=[]→T = .nil:=by
    intro listed T R hs hok hiff hlt0 hr
    have go:∀ x,x ∈ R→predsFree full x R=true→False:=by
      intro x hxm hfree
      have hlt:=hlt0 x hxm
      have hox:full[x]?=some full[x]:=List.getElem?_eq_getElem hlt
      have hmem:x ∈ Region.ready .any full.toArray listed:=by
        refine mem_ready.2 ⟨(hiff x hlt).2 hxm,full[x],by simp,fun e he hb=>?_⟩
        have hpm:=pm _ e he hb
        have hplt:=hp.back _ _ hox _ hpm
        cases hl:listed.getD e.on false with
        | true=>rfl
        | false =>
          exfalso
          rw [← flip listed e.on hs (by omega)] at hl
          have hin:=(hiff e.on (by omega)).1 hl
          unfold predsFree at hfree
          rw [hox] at hfree
          have:=List.all_eq_true.1 hfree e.on hpm
          rw [List.contains_iff_mem.2 hin] at this; cases this
      rw [hr] at hmem
      exact absurd hmem (by simp)
    cases T with
    | nil=>rfl
    | op x st r=>exact (go x (okB_op hok).mem (okB_op hok).free).elim
    | alt x st r o=>exact (go x (okB_alt hok).mem (okB_alt hok).free).elim
  intro fuel
  induction fuel with
  | zero =>
    intro listed T R D a w hs hok hsub hiff hlt0 hcl hap hsz hlen h
    have hL:R=[]:=List.eq_nil_of_length_eq_zero (by omega)
    subst hL
    have hT:T = .nil:=by
      cases T with
      | nil=>rfl
      | op x st r=>exact absurd (okB_op hok).mem (by simp)
      | alt x st r o=>exact absurd (okB_alt hok).mem (by simp)
    subst hT
    refine ⟨?_,hN _ _ h⟩
    cases hr:Region.ready .any full.toArray listed with
    | nil=>rfl
    | cons j r =>
      exfalso
      have hj:j ∈ Region.ready .any full.toArray listed:=by rw [hr]; simp
      obtain ⟨h1,o,h2,_⟩:=mem_ready.1 hj
      have hlt:j<full.length:=by
        have:=(Array.getElem?_eq_some_iff.1 h2).1
        simpa using this
      exact absurd ((hiff j hlt).1 h1) (by simp)
  | succ fuel ih =>
    intro listed T R D a w hs hok hsub hiff hlt0 hcl hap hsz hlen h
    refine ⟨fun hr=>?_,fun i hi=>?_⟩
    · have:=none_left listed T R hs hok hiff hlt0 hr
      subst this
      exact hN _ _ h
    · obtain ⟨h1,o,h2,h3⟩:=mem_ready.1 hi
      have ho:full[i]?=some o:=by simpa using h2
      have hlt:i<full.length:=(List.getElem?_eq_some_iff.1 ho).1
      have hiR:=(hiff i hlt).1 h1
      have hpreds:∀ p ∈ predsOf o,listed.getD p false=true:=fun p hp'=>by
        obtain ⟨e,he,hb,rfl⟩:=mp o p hp'
        exact h3 e he hb
      have hreach:=reach_listed hp.back (listed:=fun k=>listed.getD k false) hcl i o ho hpreds
      have can:Can full (masks full #[]) i false T R:=by
        refine ⟨hiR,fun k hk hm=>?_,fun e=>by cases e⟩
        have h4:=hreach k hk
        have h4:listed.getD k false=true:=h4
        rw [← flip listed k hs (hlt0 k hm),(hiff k (hlt0 k hm)).2 hm] at h4
        cases h4
      obtain ⟨o',ho',hf⟩:=front_tree hdst hp.sel hp.self i N T false R D a w hok can (fun x hx=>hp.st x (hsub x hx)) hsz hap h
      rw [ho] at ho'
      have:=Option.some.inj ho'
      subst this
      have next:∀ (v:Value) (w':World),SW C full (pull i T) (addD D i) N (a.put o.dst v) w'→wpAnyIn (FW ro) 0 C.P .any full.toArray Q fuel (listed.setIfInBounds i true) (a.put o.dst v) w':=by
        intro v w' hsw
        refine ih _ _ (lessR R i) _ _ _ (by simpa using hs) (pull_ok T false R hok can) (fun y hy=>hsub y (occ_pull i T y hy)) ?_ (fun j hj=>hlt0 j (mem_lessR.1 hj).1) ?_ ?_ (by rw [size_put]; exact hsz) (by have:=lessR_length hiR; omega) hsw
        · intro j hj
          by_cases e:i=j
          · subst e
            constructor
            · intro hh
              have:(listed.setIfInBounds i true).getD i true=true:=by
                rw [Array.getD_eq_getD_getElem?]
                simp [show i<listed.size by omega]
              rw [this] at hh; cases hh
            · intro hh; exact absurd rfl (mem_lessR.1 hh).2
          · rw [getD_set_ne true e,hiff j hj,mem_lessR]
            exact ⟨fun hh=>⟨hh,fun e'=>e e'.symm⟩,fun hh=>hh.1⟩
        · intro j oj hoj hl p hp'
          by_cases e:i=j
          · subst e
            rw [ho] at hoj
            have:=Option.some.inj hoj
            subst this
            exact getD_set_true (hpreds p hp')
          · rw [getD_set_ne false e] at hl
            exact getD_set_true (hcl j oj hoj hl p hp')
        · intro j oj hD hoj hr x hx' ox hox
          simp only [addD,Bool.or_eq_true] at hD
          rcases hD with hD|hD
          · have e:=Nat.eq_of_beq_eq_true hD
            subst e
            exact pull_behind hoj hr T false R hok can x hx' ox hox
          · exact hap j oj hD hoj hr x (occ_pull i T x hx') ox hox
      have hd:ro=none∨isDefer o.op=false := .inr (hnd o (List.mem_of_getElem? ho))
      unfold wpOpIn
      simp only [h2]
      split
      · rename_i hw
        have hw':wantB full a o=true:=hw
        rw [hw',if_pos rfl] at hf
        cases hq:isQ C o.op with
        | true =>
          rw [hq,if_pos rfl] at hf
          obtain ⟨v,r1,_,r3⟩:=hf
          exact wpIn_of_OpTo hd (k:=fun u w'=>u=v∧w'=w) (.inl ⟨v,w,r1,rfl,rfl⟩) fun u w' ⟨e1,e2⟩=>by subst e1; subst e2; exact next _ _ r3
        | false =>
          rw [hq,if_neg (by simp)] at hf
          exact wpIn_of_OpTo hd hf fun u w' ⟨_,hk⟩=>next _ _ hk
      · rename_i hw
        have hw':wantB full a o=false:=by simpa [wantB] using hw
        rw [hw',if_neg (by simp)] at hf
        exact ⟨fun _ _=>trivial,next _ _ hf⟩
end Go.Proofs.YtcdpakjhjmchhaaGreatDoor.Wx
namespace Go.Proofs.YtcdpakjhjmchhaaGreatDoor.Wx
open Go
theorem stills_elim {C:Ctx} {full:List Oper} {n:Nat} {a:Act} {f:Fr} (hA:Agr n a f) {h:Heap} {K:Prop}:∀ {js:List Nat},stills C full f h js K →
    (∀ j ∈ js,∀ oj,full[j]?=some oj→wantB full a oj=true→stillX C f h oj)∧K
  | [],hk=>⟨fun j hj=>absurd hj (by simp),hk⟩
  | j::r,hk=>by
    obtain ⟨o,ho,h1⟩:=onSome_elim (show onSome (full[j]?) _ from hk)
    have h2:=wantX_elim hA h1
    cases hw:wantB full a o with
    | true =>
      rw [show Region.wanted o (yielded full.toArray a.tmps)=true from hw] at h2
      obtain ⟨h3,h4⟩:=h2
      obtain ⟨i1,i2⟩:=stills_elim hA h4
      refine ⟨fun k hk oj hoj hwj=>?_,i2⟩
      rcases List.mem_cons.1 hk with rfl|hk
      · rw [ho] at hoj; have:=Option.some.inj hoj; subst this; exact h3
      · exact i1 k hk oj hoj hwj
    | false =>
      rw [show Region.wanted o (yielded full.toArray a.tmps)=false from hw] at h2
      obtain ⟨i1,i2⟩:=stills_elim hA (show stills C full f h r K from h2)
      refine ⟨fun k hk oj hoj hwj=>?_,i2⟩
      rcases List.mem_cons.1 hk with rfl|hk
      · rw [ho] at hoj; have:=Option.some.inj hoj; subst this; rw [hw] at hwj; cases hwj
      · exact i1 k hk oj hoj hwj
theorem mkStr_toList (s:ByteArray):mkStr s.toList=s:=by
  rw [ByteArray.toList_eq]; rfl
theorem still_run {C:Ctx} (hC:CtxOk C) {n:Nat} {a:Act} {f:Fr} (hA:Agr n a f) {o:Oper} {w:World} (h:stillX C f w.heap o):RunsAt C.P a o w (dstV a o):=by
  unfold stillX at h
  cases hd:o.dst with
  | none=>rw [hd] at h; exact h.elim
  | some d =>
    rw [hd] at h
    obtain ⟨v,hv,h1⟩:=onSome_elim h
    have hdv:dstV a o=v:=by unfold dstV; rw [hd]; exact hA.val d v hv
    rw [hdv]
    unfold RunsAt
    cases ho:o.op with
    | load t x =>
      rw [ho] at h1
      obtain ⟨p,hp,h2⟩:=ptr_elim hA.fit h1
      obtain ⟨hx,h3⟩:=hC.okX h2
      obtain ⟨i,ds,z,hi,hu,hdx,hsz,_,_,_⟩:=hx.get
      have hag:=run_isAgg_ok hu w
      have he:execOp a.eval o=(do Pure.pure (.value (← Instr.loadAt t (a.eval x)))):=by simp only [execOp,ho]
      rw [he,hp]
      have key:(loadVar t p).run C.P w = .ok v w:=by
        unfold loadVar
        cases hq:isAggD (descSum ds) with
        | true =>
          rw [hq] at hag
          have hty:(C.ti t).d.ty = .agg:=by rw [← hdx]; revert hq; cases descSum ds <;> simp [isAggD,D.ty]
          rw [hty] at h3
          obtain ⟨cs,rfl,hl,hc⟩:=onAgg_elim h3
          have hlo:=run_loadCells_list (P:=C.P) w p cs (fun j v hv=>hc j v hv)
          simp only [Sem.run_bind,hag,Result.andThen_ok,if_true,run_sizeOf_ok hi,hsz,← hl,hlo,Sem.run_pure]
        | false =>
          rw [hq] at hag
          have hty:(C.ti t).d.ty ≠ .agg:=by rw [← hdx]; revert hq; cases descSum ds <;> simp [isAggD,D.ty]
          have h4:cellOf w.heap p=some v:=by
            cases hq2:(C.ti t).d.ty <;> rw [hq2] at h3 hty <;> first|exact h3|exact (hty rfl).elim
          simp [Sem.run_bind,hag,cell_eq,h4]
      simp only [Instr.loadAt,Instr.sureAddr,Sem.run_bind,Sem.run_pure,Result.andThen_ok,key]
    | convert s t x =>
      rw [ho] at h1
      simp only at h1
      have hs:(C.ti s).d ≠ .other:=by intro e; rw [e] at h1; exact h1.elim
      have ht:(C.ti t).d ≠ .other:=by intro e; rw [e] at h1; split at h1 <;> first|exact h1.elim|simp at *
      obtain ⟨_,dss,_,_,hus,hds,_⟩:=(hC.okD hs).get
      obtain ⟨_,dt,_,_,hut,hdt,_⟩:=(hC.okD ht).get
      rw [← hds,← hdt] at h1
      cases dss <;> cases dt <;> try exact h1.elim
      rename_i e
      simp only [descSum] at h1
      cases hb:isU8 (C.ti e).d with
      | false=>rw [hb] at h1; exact h1.elim
      | true =>
        rw [hb] at h1
        obtain ⟨al,l,c,hx,h2⟩:=onSlice_elim (onV_elim hA.fit (show onV f x _ from h1))
        obtain ⟨b,hvb,hst⟩:=onStr_elim h2
        have he:(C.ti e).d ≠ .other:=by intro e'; rw [e'] at hb; simp [isU8] at hb
        obtain ⟨_,de,_,_,hue,hde,_⟩:=(hC.okD he).get
        rw [← hde] at hb
        have hue':C.P.underlying e=some (.int .u8):=by
          cases de <;> simp [descSum,isU8] at hb
          rename_i kd
          cases kd <;> simp at hb
          exact hue
        have hr:(convert s t (.slice al l c)).run C.P w = .ok v w:=by
          rw [run_convert_bytes_string w s t e al l c hus hue' hut,bytesStr_to hst,mkStr_toList,hvb]
        have he2:execOp a.eval o=(do Pure.pure (.value (← convert s t (a.eval x)))):=by simp only [execOp,ho]
        rw [he2,hx,Sem.run_bind,hr]
        rfl
    | _=>rw [ho] at h1; exact h1.elim
theorem early_one {C:Ctx} (hC:CtxOk C) {full:List Oper} {n:Nat} (hdst:∀ o ∈ full,dstOk n o=true) {w0:World} {a0:Act} {i:Nat} {st:List Nat} {D:Nat→Bool} {K:Fr→Heap→Prop} {A:Act→World→Prop} {f:Fr} {a:Act} {w:World}
    (h:doX C full i st K f w.heap) (hA:Agr n a f) (hR:SameRest w0 w) (hM:Keeps (dstsOf full) a0 a)
    (hK:∀ f a w,K f w.heap→Agr n a f→SameRest w0 w→Keeps (dstsOf full) a0 a→A a w):Front C full i st D A a w:=by
    obtain ⟨o,ho,h1⟩:=onSome_elim (show onSome (full[i]?) _ from h)
    have hmem:=List.mem_of_getElem? ho
    have hd:=hdst o hmem
    have hmo:∀ d,o.dst=some d→d ∈ dstsOf full:=fun d hd=>mem_dstsOf hmem hd
    have h2:=wantX_elim hA h1
    refine ⟨o,ho,?_⟩
    cases hw:wantB full a o with
    | false =>
      rw [show Region.wanted o (yielded full.toArray a.tmps)=false from hw] at h2
      rw [if_neg (by simp)]
      exact hK _ _ _ h2 (hA.put hd undef) hR (hM.put hmo undef)
    | true =>
      rw [show Region.wanted o (yielded full.toArray a.tmps)=true from hw] at h2
      rw [if_pos rfl]
      have h2:stepX C f o.op o.type (fun v h'=>stills C full f h' st (splitX (guards full o) v fun v=>K (putD f o.dst v) h')) w.heap:=h2
      cases hq:isQ C o.op with
      | true =>
        rw [if_pos rfl]
        obtain ⟨v,r1,r2,r3⟩:=stepQ_to hC hA.fit o hq h2
        exact ⟨v,r1,r3,hK _ _ _ (splitX_elim (stills_elim hA r2).2) (hA.put hd v) hR (hM.put hmo v)⟩
      | false =>
        rw [if_neg (by simp)]
        refine (stepX_to hC hA.fit o h2).mono fun v w' ⟨hr,hk⟩=>?_
        obtain ⟨k1,k2⟩:=stills_elim hA hk
        exact ⟨fun j hj _ oj hoj hwj=>still_run hC hA (k1 j hj oj hoj hwj),hK _ _ _ (splitX_elim k2) (hA.put hd v) (hR.trans hr) (hM.put hmo v)⟩
theorem early_sw {C:Ctx} (hC:CtxOk C) {full:List Oper} {n:Nat} (hdst:∀ o ∈ full,dstOk n o=true) {w0:World} {a0:Act} {N:Fr→Heap→Prop} :
    ∀ (L:Od) (D:Nat→Bool) (f:Fr) (a:Act) (w:World),earlyX C full L N f w.heap→Agr n a f→SameRest w0 w→Keeps (dstsOf full) a0 a →
      SW C full L D (fun a w=>∃ f,N f w.heap∧Agr n a f∧SameRest w0 w∧Keeps (dstsOf full) a0 a) a w
  | .nil,_,f,_,_,h,hA,hR,hM=>⟨f,h,hA,hR,hM⟩
  | .op _ _ r,_,_,_,_,h,hA,hR,hM=>early_one hC hdst h hA hR hM fun f a w h hA hR hM=>early_sw hC hdst r _ f a w h hA hR hM
  | .alt _ _ r o,D,f,a,w,h,hA,hR,hM=>⟨early_one hC hdst h.1 hA hR hM fun f a w h hA hR hM=>early_sw hC hdst r _ f a w h hA hR hM,early_sw hC hdst o D f a w h.2 hA hR hM⟩
theorem drawnLaw {C:Ctx} (hC:CtxOk C) (n:Nat):DrawnLaw C n fun id full=>planB C full (C.orders id):=by
  intro ro id ops N R f a w0 w hplan hdst hnd h hA hR hN
  have hp:=planB_plan hplan
  refine wpIn_region_any hC.mixed ?_
  have hw:SameRest w0 { w with drawn:=w.drawn+1 }:=⟨hR.1,hR.2.1,hR.2.2⟩
  have hsw:=early_sw hC (full:=ops.toList) hdst (w0:=w0) (a0:=a) (N:=N) (C.orders id) (fun _=>false) f a { w with drawn:=w.drawn+1 } h hA hw (.refl _ _)
  have hlen:(Array.replicate ops.size false).size=ops.toList.length:=by simp
  have:=sw_any (ro:=ro) (n:=n) hnd hdst hp (Q:=R) (fun a w ⟨f,h1,h2,h3,h4⟩=>hN f a w h1 h2 h3 h4) ops.size (Array.replicate ops.size false) (C.orders id) (List.range ops.toList.length) (fun _=>false) a { w with drawn:=w.drawn+1 } hlen hp.ok (fun _ h=>h)
    (fun i hi=>by
      have hi':i<ops.size:=by simpa using hi
      constructor
      · exact fun _=>List.mem_range.2 hi
      · exact fun _=>by rw [Array.getD_eq_getD_getElem?]; simp [hi'])
    (fun i hi=>List.mem_range.1 hi)
    (fun i o ho hl=>by
      exfalso
      rw [Array.getD_eq_getD_getElem?] at hl
      by_cases hi:i<ops.size <;> simp [hi] at hl)
    (fun j oj hD=>by cases hD) hA.size ?_ hsw
  · simpa using this
  · simp
theorem argsF_dfs : ∀ (l:List Value) (i:Nat),i+l.length≤dKey→dfs (argsF l i)=[]
  | [],_,_=>rfl
  | x::r,i,h=>by
    rw [List.length_cons] at h
    rw [argsF,dfs_cons _ _ _ (Nat.ne_of_lt (Nat.lt_of_lt_of_le (by omega) h)),argsF_dfs r (i+1) (by omega)]
theorem argsF_get : ∀ (l:List Value) (i t:Nat) (v:Value),i+l.length≤dKey→Fr.get (argsF l i) t=some v→i≤t∧l[t - i]?=some v
  | [],_,t,_,_,h=>by rw [show argsF [] _=[] from rfl,Fr.get_nil] at h; cases h
  | x::r,i,t,v,hlim,h=>by
    rw [List.length_cons] at hlim
    rw [argsF,Fr.get_cons _ _ _ _ (Nat.ne_of_lt (Nat.lt_of_lt_of_le (by omega) hlim))] at h
    by_cases e:i=t
    · subst e; rw [if_pos rfl] at h; exact ⟨Nat.le_refl _,by simpa using h⟩
    · rw [if_neg e] at h
      obtain ⟨h1,h2⟩:=argsF_get r (i+1) t v (by omega) h
      refine ⟨by omega,?_⟩
      rw [show t - i=(t - (i+1))+1 by omega]
      simpa using h2
def resSem (a:Act):ResultVar→Sem Value
  | .tmp t=>Pure.pure (a.tmps.getD t undef)
  | .cell s t=>do loadVar t (← asAddr (a.tmps.getD s undef))
theorem resX_to {C:Ctx} (hC:CtxOk C) {n:Nat} {a:Act} {f:Fr} (hA:Agr n a f) {w:World}:∀ (rs:List ResultVar) (acc:List Value) (k:List Value→Prop),resX C rs f w.heap acc k →
    ∃ vs,(rs.mapM (resSem a)).run C.P w = .ok vs w∧k (acc++vs)
  | [],acc,k,h=>⟨[],rfl,by simpa [resX] using h⟩
  | .tmp t::r,acc,k,h=>by
    obtain ⟨v,hv,h1⟩:=onSome_elim (show onSome (Fr.get f t) _ from h)
    obtain ⟨vs,h2,h3⟩:=resX_to hC hA r _ k h1
    refine ⟨v::vs,?_,by simpa using h3⟩
    rw [List.mapM_cons]
    simp only [resSem,Sem.run_bind,Sem.run_pure,Result.andThen_ok,hA.val t v hv,h2]
  | .cell s t::r,acc,k,h=>by
    obtain ⟨v,hv,h1⟩:=onSome_elim (show onSome (Fr.get f s) _ from h)
    obtain ⟨q,hq,h2⟩:=onPtr_elim h1
    obtain ⟨p,hp,h3⟩:=onSome_elim h2
    obtain ⟨hx,h4⟩:=hC.okX h3
    obtain ⟨u,hr,h5⟩:=loadVar_to hx h4
    obtain ⟨vs,h6,h7⟩:=resX_to hC hA r _ k h5
    refine ⟨u::vs,?_,by simpa using h7⟩
    have hval:=hA.val s v hv
    rw [List.mapM_cons]
    simp only [resSem,Sem.run_bind,Sem.run_pure,Result.andThen_ok,hval,hq,hp,asAddr,hr,h6]
def fnOk (C:Ctx) (fn:Func) (c:Code) (nargs:Nat):Bool :=
  codeOk C fn.ntmps (fun id full => planB C full (C.orders id)) c && Nat.ble nargs fn.ntmps && !(fn.name == "runtime.NumGoroutine") && Nat.ble fn.ntmps dKey
theorem args_agr {m:Nat} {args:List Value} (hle:args.length≤m) (hlim:m≤dKey):Agr m { tmps:=⟨args⟩++Array.replicate (m - (⟨args⟩:Array Value).size) undef,defers:=[] } (argsF args 0):=by
  refine ⟨hlim,by simp; omega,by rw [argsF_dfs _ _ (by omega)]; rfl,fun t v hv=>?_⟩
  obtain ⟨_,h5⟩:=argsF_get args 0 t v (by omega) hv
  simp only [Nat.sub_zero] at h5
  have hlt:=(List.getElem?_eq_some_iff.1 h5).1
  rw [Array.getD_eq_getD_getElem?,Array.getElem?_append_left (by simpa using hlt)]
  simp [h5]
theorem results_to {C:Ctx} (hC:CtxOk C) {n:Nat} {fn:Func} {a:Act} {f:Fr} (hA:Agr n a f) {w:World} {k:Value→Prop} (h:resX C fn.results.toList f w.heap [] fun vs=>k (retV vs)):∃ v,(results fn a.tmps).run C.P w = .ok v w∧k v:=by
  obtain ⟨vs,g1,g2⟩:=resX_to hC hA _ _ _ h
  refine ⟨retV vs,?_,by simpa using g2⟩
  have hres:results fn a.tmps=(do let vs←fn.results.mapM (resSem a); Pure.pure (if h:vs.size=1 then vs[0] else .tuple vs)):=by
    unfold results
    congr 2
  rw [hres,Sem.run_bind,Array.mapM_eq_mapM_toList,Sem.run_map,g1]
  simp only [Result.andThen_ok,Sem.run_pure]
  congr 1
  cases vs with
  | nil=>rfl
  | cons v r=>cases r <;> rfl
theorem leaveX_to {C:Ctx} (hC:CtxOk C) {n:Nat} {fn:Func} {a:Act} {f:Fr} (hA:Agr n a f) {w0:World} {k:Value→Heap→Prop}:∀ (ds:List Value) (w:World),leaveX C fn.results.toList f k ds w.heap→SameRest w0 w →
    LeavesInM Fence.wide 0 C.P fn a.tmps (fun e w'=>∃ u,e = .returned u∧SameRest w0 w'∧k u w'.heap) (ds.map toD) .returning w
  | [],w,h,hR=>by
    obtain ⟨v,h1,h2⟩:=results_to hC hA (k:=fun v=>k v w.heap) h
    exact ⟨v,h1,v,rfl,hR,h2⟩
  | d::ds,w,h,hR=>by
    unfold leaveX at h
    split at h
    · rename_i e; cases e
    · rename_i a' ds' e
      cases e
      exact ⟨(fun x=>by cases x),.inl ⟨_,_,rfl,run_takeDeferred h.1,leaveX_to hC hA ds _ h.2 ⟨hR.1,hR.2.1,hR.2.2⟩⟩⟩
    · rename_i v us ds' e
      cases e
      unfold DCallsV at h
      split at h
      · rename_i g fs cs
        obtain ⟨⟨fn',hf',hn',hb'⟩,hc⟩:=h
        refine ⟨(fun x=>by cases x),.inr ⟨(fun x=>by cases x),.func g,cs,g,⟨fs.toList++us++cs.toList⟩,rfl,?_,fun _ _=>trivial,?_⟩⟩
        · show (callFunc g _).run C.P w=_
          simp only [callFunc,Sem.run_bind,run_program,Result.andThen_ok,hf',hn',hb',Bool.false_eq_true,if_false,Sem.run_pure]
          congr 2
          apply Array.ext'
          simp [toD]
        · refine (hc w rfl).mono fun e u w' ⟨hu,⟨v,he⟩,hsr,hk⟩=>?_
          subst hu
          subst he
          exact leaveX_to hC hA ds w' hk (hR.trans hsr)
      · exact h.elim
    · exact h.elim
theorem fn_to {C:Ctx} (hC:CtxOk C) {g:Nat} {fn:Func} (hf:C.P.funcs[g]?=some fn) {c:Code} (hb:fn.body=some c) {args:List Value} (hok:fnOk C fn c args.length=true) {k:Value→Heap→Prop} {h:Heap}
    (hx:fnX C fn c args k h):HCalls C.P g args h k:=by
  simp only [fnOk,Bool.and_eq_true,Bool.not_eq_true'] at hok
  obtain ⟨⟨⟨h1,h2⟩,h3⟩,h4⟩:=hok
  have hle:=Nat.le_of_ble_eq_true h2
  refine ⟨⟨fn,hf,h3,by rw [hb]; rfl⟩,fun w hw=>?_⟩
  subst hw
  refine (callsIn_wide (n:=0)).1 (callsIn_of_wp_marks hf hb trivial ?_)
  have leave:∀ (f:Fr) (a:Act) (w':World),leaveX C fn.results.toList f k (dfs f) w'.heap→Agr fn.ntmps a f→SameRest w w'→LeavesInM Fence.wide 0 C.P fn a.tmps (fun e w'=>∃ u,e = .returned u∧SameRest w w'∧k u w'.heap) a.defers .returning w':=by
    intro f a w' hr hA hR
    rw [hA.defers]
    exact leaveX_to hC hA (dfs f) w' hr hR
  exact wpx_to hC (drawnLaw hC fn.ntmps) c h1 none (.inl rfl) w _ _ _ _ _ w hx (args_agr hle (Nat.le_of_ble_eq_true h4)) (.refl _) ⟨fun f a w' hr hA hR _=>leave f a w' hr hA hR,fun id f a w' hr=>hr.elim,fun f a w' hr hA hR _=>leave f a w' hr hA hR,fun _ _ _ _ hr=>hr.elim⟩
def fnOkD (C:Ctx) (fn:Func) (c:Code) (nargs:Nat):Bool:=fnOk C fn c nargs && (modsC c).all fun m => !(Nat.beq m dKey)
theorem fnD_to {C:Ctx} (hC:CtxOk C) {g:Nat} {fn:Func} (hf:C.P.funcs[g]?=some fn) {c:Code} (hb:fn.body=some c) {args:List Value} (hok:fnOkD C fn c args.length=true) {k:Heap→Prop} {h:Heap}
    (hx:fnX C fn c args (fun _ h'=>k h') h):DCalls C.P g args h k:=by
  simp only [fnOkD,fnOk,Bool.and_eq_true,Bool.not_eq_true'] at hok
  obtain ⟨⟨⟨⟨h1,h2⟩,h3⟩,h4⟩,h5⟩:=hok
  have hle:=Nat.le_of_ble_eq_true h2
  have hkey:dKey ∉ modsC c:=fun hm=>by
    have:=List.all_eq_true.1 h5 _ hm
    simp [Nat.beq_refl] at this
  refine ⟨⟨fn,hf,h3,by rw [hb]; rfl⟩,fun w hw=>?_⟩
  subst hw
  refine (callsDIn_of_wp (R:=fun e w'=>(∃ v,e = .returned v)∧SameRest w w'∧k w'.heap) hf hb trivial ?_).mono fun e u w' ⟨h1,h2⟩=>⟨h1,h2⟩
  have leave:∀ (f:Fr) (a:Act) (w':World),leaveX C fn.results.toList f (fun _ h'=>k h') (dfs f) w'.heap→Agr fn.ntmps a f→SameRest w w'→a.defers=[]→a.defers=[]∧∃ v,(results fn a.tmps).run C.P w' = .ok v w'∧(∃ u,Ending.returned v = .returned u)∧SameRest w w'∧k w'.heap:=by
    intro f a w' hr hA hR hd
    have hdf:dfs f=[]:=by
      have:=hA.defers
      rw [hd] at this
      exact List.map_eq_nil_iff.1 this.symm
    rw [hdf] at hr
    obtain ⟨v,g1,g2⟩:=results_to hC hA (k:=fun _=>k w'.heap) hr
    exact ⟨hd,v,g1,⟨v,rfl⟩,hR,g2⟩
  exact wpx_to hC (drawnLaw hC fn.ntmps) c h1 none (.inl rfl) w _ _ _ _ _ w hx (args_agr hle (Nat.le_of_ble_eq_true h4)) (.refl _) ⟨fun f a w' hr hA hR hM=>leave f a w' hr hA hR (hM.dfr hkey),fun id f a w' hr=>hr.elim,fun f a w' hr hA hR hd=>leave f a w' hr hA hR (hd hkey),fun _ _ _ _ hr=>hr.elim⟩
end Go.Proofs.YtcdpakjhjmchhaaGreatDoor.Wx
namespace Go.Proofs.YtcdpakjhjmchhaaGreatDoor.Hp
open Go Go.Proofs Wx
def rd (h:Heap) (b:Nat):List Value :=
 match h[b]? with
 | some (.cells c _ _)=>c.toList
 | _=>[]
def Own (h:Heap) (b:Nat):Prop:=∃ c T f,h[b]?=some (.cells c T f)∧(f=(0,0)∨c.size≤f.1)
structure Fr (F:Nat→Prop) (h h':Heap):Prop where
 size:h.size≤h'.size
 same:∀ b,b<h.size→¬ F b→h'[b]?=h[b]?
def No : Nat→Prop:=fun _=>False
def From (n:Nat):Nat→Prop:=fun b=>n≤b
theorem Fr.rd {F:Nat→Prop} {h h':Heap} (f:Fr F h h') {b:Nat} (hb:b<h.size) (hF:¬ F b):rd h' b=rd h b:=by
 simp only [Hp.rd,f.same b hb hF]
theorem Fr.own {F:Nat→Prop} {h h':Heap} (f:Fr F h h') {b:Nat} (hb:b<h.size) (hF:¬ F b) (o:Own h b):Own h' b:=by
 obtain ⟨c,T,z,e,k⟩:=o; exact ⟨c,T,z,by rw [f.same b hb hF]; exact e,k⟩
theorem Fr.refl (F:Nat→Prop) (h:Heap):Fr F h h:=⟨Nat.le_refl _,fun _ _ _=>rfl⟩
theorem Fr.trans {F G:Nat→Prop} {h1 h2 h3:Heap} (f:Fr F h1 h2) (g:Fr G h2 h3) (hs:∀ b,b<h1.size→G b→F b):Fr F h1 h3 :=
 ⟨Nat.le_trans f.size g.size,fun b hb hF=>(g.same b (Nat.lt_of_lt_of_le hb f.size) (fun x=>hF (hs b hb x))).trans (f.same b hb hF)⟩
theorem Fr.no {F:Nat→Prop} {h1 h2 h3:Heap} (f:Fr F h1 h2) (g:Fr No h2 h3):Fr F h1 h3:=f.trans g fun _ _ x=>x.elim
theorem Fr.mono {F G:Nat→Prop} {h h':Heap} (f:Fr F h h') (hs:∀ b,b<h.size→F b→G b):Fr G h h' :=
 ⟨f.size,fun b hb hG=>f.same b hb fun x=>hG (hs b hb x)⟩
theorem Own.lt {h:Heap} {b:Nat} (o:Own h b):b<h.size:=by
 obtain ⟨c,T,z,e,_⟩:=o
 rcases Nat.lt_or_ge b h.size with hl|hl
 ·exact hl
 ·rw [Array.getElem?_eq_none hl] at e; exact absurd e (by simp)
theorem rd_lt {h:Heap} {b o:Nat} {v:Value} (e:(rd h b)[o]?=some v):b<h.size:=by
 rcases Nat.lt_or_ge b h.size with hl|hl
 ·exact hl
 ·simp only [rd,Array.getElem?_eq_none hl] at e; simp at e
theorem size_newO (h:Heap) (cs:List Value) (t:Nat):(newO h cs t).size=h.size+1:=by simp [newO]
theorem get_newO (h:Heap) (cs:List Value) (t b:Nat):(newO h cs t)[b]?=if b=h.size then some (.cells ⟨cs⟩ t) else h[b]?:=by
 simp [newO,Array.getElem?_push]
theorem rd_newO (h:Heap) (cs:List Value) (t b:Nat):rd (newO h cs t) b=if b=h.size then cs else rd h b:=by
 by_cases hb:b=h.size
 ·simp only [rd,get_newO,if_pos hb]
 ·simp only [rd,get_newO,if_neg hb]
theorem rd_newO_at (h:Heap) (cs:List Value) (t:Nat):rd (newO h cs t) h.size=cs:=by rw [rd_newO,if_pos rfl]
theorem own_newO_at (h:Heap) (cs:List Value) (t:Nat):Own (newO h cs t) h.size:=⟨_,_,_,by rw [get_newO,if_pos rfl],.inl rfl⟩
theorem Fr.newO {F:Nat→Prop} {h h':Heap} (f:Fr F h h') (cs:List Value) (t:Nat):Fr F h (newO h' cs t) :=
 ⟨by rw [size_newO]; have:=f.size; omega,fun b hb hF=>by rw [get_newO,if_neg (by have:=f.size; omega)]; exact f.same b hb hF⟩
theorem fr_newO {F:Nat→Prop} {h:Heap} (cs:List Value) (t:Nat):Fr F h (Wx.newO h cs t):=(Fr.refl F h).newO cs t
theorem size_setOf (h:Heap) (a:Addr) (v:Value):(setOf h a v).size=h.size:=by simp [setOf]
theorem get_setOf (h:Heap) (b o:Nat) (v:Value) (c:Nat):(setOf h ⟨b,o,none⟩ v)[c]?=if c=b then (h[c]?).map (fun x=>match x with | .cells cs e f => .cells (cs.setIfInBounds o v) e f|x=>x) else h[c]?:=by
 simp only [setOf,Array.getElem?_modify,Option.isSome_none,Bool.false_eq_true,if_false]
 by_cases hc:c=b
 ·subst hc; simp; rfl
 ·simp [hc,Ne.symm hc]
theorem rd_setOf (h:Heap) (b o:Nat) (v:Value) (c:Nat):rd (setOf h ⟨b,o,none⟩ v) c=if c=b then (rd h b).set o v else rd h c:=by
 simp only [rd,get_setOf]
 by_cases hc:c=b
 ·subst hc; simp only [if_pos]; cases h[c]? with
  | none=>simp
  | some x=>cases x <;> simp
 ·simp only [if_neg hc]
theorem rd_setOf_at (h:Heap) (b o:Nat) (v:Value):rd (setOf h ⟨b,o,none⟩ v) b=(rd h b).set o v:=by rw [rd_setOf,if_pos rfl]
theorem own_setOf {h:Heap} {b o:Nat} {v:Value} {c:Nat} (w:Own h c):Own (setOf h ⟨b,o,none⟩ v) c:=by
 obtain ⟨cs,T,z,e,k⟩:=w
 by_cases hc:c=b
 ·exact ⟨cs.setIfInBounds o v,T,z,by rw [get_setOf,if_pos hc,e]; rfl,by rw [Array.size_setIfInBounds]; exact k⟩
 ·exact ⟨cs,T,z,by rw [get_setOf,if_neg hc]; exact e,k⟩
theorem Fr.setOf {F:Nat→Prop} {h h':Heap} (f:Fr F h h') {b o:Nat} {v:Value} (hb:F b∨h.size≤b):Fr F h (setOf h' ⟨b,o,none⟩ v) :=
 ⟨by rw [size_setOf]; exact f.size,fun c hc hF=>by
  rw [get_setOf,if_neg (by rintro rfl; rcases hb with hb|hb; exact hF hb; omega)]; exact f.same c hc hF⟩
def put (xs:List Value) (o:Nat):List Value→List Value
 | []=>xs
 | v::r=>put (xs.set o v) (o+1) r
theorem put_length (cs:List Value):∀ (xs:List Value) (o:Nat),(put xs o cs).length=xs.length:=by
 induction cs with
 | nil=>intros; rfl
 | cons v r ih=>intro xs o; simp [put,ih]
theorem put_get (cs:List Value):∀ (xs:List Value) (o i:Nat),o+cs.length≤xs.length→(put xs o cs)[i]?=if o≤i∧i<o+cs.length then cs[i - o]? else xs[i]?:=by
 induction cs with
 | nil=>intro xs o i h; rw [if_neg (by rw [List.length_nil]; omega)]; rfl
 | cons v r ih =>
  intro xs o i h
  simp only [List.length_cons] at h
  simp only [put]
  rw [ih (xs.set o v) (o+1) i (by simp; omega)]
  by_cases h1:i=o
  ·subst h1
   rw [if_neg (by omega),if_pos ⟨Nat.le_refl _,by rw [List.length_cons]; omega⟩,List.getElem?_set,if_pos rfl,if_pos (by omega),Nat.sub_self]; rfl
  ·by_cases h2:o+1≤i∧i<o+1+r.length
   ·rw [if_pos h2,if_pos ⟨by omega,by rw [List.length_cons]; omega⟩]
    obtain ⟨j,rfl⟩:∃ j,i=o+1+j:=⟨i - (o+1),by omega⟩
    rw [show o+1+j - o=j+1 by omega,show o+1+j - (o+1)=j by omega]; rfl
   ·rw [if_neg h2,if_neg (by simp only [List.length_cons]; omega),List.getElem?_set_ne (by omega)]
theorem put_eq (cs xs:List Value) (o:Nat) (h:o+cs.length≤xs.length):put xs o cs=xs.take o++cs++xs.drop (o+cs.length):=by
 apply List.ext_getElem?
 intro i
 rw [put_get _ _ _ _ h]
 by_cases h1:i<o
 ·rw [if_neg (by omega),List.append_assoc,List.getElem?_append_left (by rw [List.length_take]; omega),List.getElem?_take_of_lt h1]
 ·by_cases h2:i<o+cs.length
  ·rw [if_pos ⟨by omega,h2⟩,List.getElem?_append_left (by simp; omega),List.getElem?_append_right (by rw [List.length_take]; omega),List.length_take,Nat.min_eq_left (by omega)]
  ·rw [if_neg (by omega),List.getElem?_append_right (by simp; omega),List.getElem?_drop]
   congr 1; simp; omega
theorem put_all (cs xs:List Value) (h:cs.length=xs.length):put xs 0 cs=cs:=by rw [put_eq _ _ _ (by omega)]; simp [h]
theorem add_mk (b o n:Nat):Addr.add ⟨b,o,none⟩ n=⟨b,o+n,none⟩:=by
 by_cases hn:n=0
 ·subst hn; rfl
 ·simp [Addr.add,hn]
theorem size_setRow (a:Addr):∀ (cs:List Value) (h:Heap) (i:Nat),(setRow h a cs i).size=h.size:=by
 intro cs; induction cs with
 | nil=>intros; rfl
 | cons v r ih=>intro h i; simp only [setRow,ih,size_setOf]
theorem rd_setRow (b o:Nat):∀ (cs:List Value) (h:Heap) (i c:Nat),rd (setRow h ⟨b,o,none⟩ cs i) c=if c=b then put (rd h b) (o+i) cs else rd h c:=by
 intro cs; induction cs with
 | nil=>intro h i c; simp only [setRow,put]; split <;> simp_all
 | cons v r ih =>
  intro h i c
  simp only [setRow,add_mk,ih,rd_setOf,put]
  by_cases hc:c=b
  ·subst hc; simp [Nat.add_assoc]
  ·simp [hc]
theorem rd_setRow_at (b o:Nat) (cs:List Value) (h:Heap) (i:Nat):rd (setRow h ⟨b,o,none⟩ cs i) b=put (rd h b) (o+i) cs:=by rw [rd_setRow,if_pos rfl]
theorem own_setRow {b o c:Nat}:∀ {cs:List Value} {h:Heap} {i:Nat},Own h c→Own (setRow h ⟨b,o,none⟩ cs i) c:=by
 intro cs; induction cs with
 | nil=>intro h i w; exact w
 | cons v r ih=>intro h i w; simp only [setRow,add_mk]; exact ih (own_setOf w)
theorem Fr.setRow {F:Nat→Prop} {h:Heap} {b o:Nat} (hb:F b∨h.size≤b):∀ {cs:List Value} {h':Heap} {i:Nat},Fr F h h'→Fr F h (setRow h' ⟨b,o,none⟩ cs i):=by
 intro cs; induction cs with
 | nil=>intro h' i f; exact f
 | cons v r ih=>intro h' i f; simp only [Wx.setRow,add_mk]; exact ih (f.setOf hb)
theorem cellOf_rd (h:Heap) (b o:Nat):cellOf h ⟨b,o,none⟩=(rd h b)[o]?:=by
 simp only [cellOf,rd]; cases h[b]? with
 | none=>simp
 | some x=>cases x <;> simp
theorem cellOf_some {h:Heap} {a:Addr} {v:Value} (e:cellOf h a=some v):a.spot=none∧(rd h a.block)[a.off]?=some v:=by
 obtain ⟨b,o,s⟩:=a
 cases s with
 | none=>exact ⟨rfl,by rw [cellOf_rd] at e; exact e⟩
 | some s =>
  exfalso; revert e
  simp only [cellOf]; cases h[b]? with
  | none=>simp
  | some x=>cases x <;> simp
theorem wr_rd {h:Heap} {b o:Nat} (w:Own h b) (hl:o<(rd h b).length):Wr h ⟨b,o,none⟩:=by
 refine ⟨⟨(rd h b)[o],by rw [cellOf_rd]; simp [hl]⟩,?_⟩
 obtain ⟨c,T,z,e,k⟩:=w
 have hc:o<c.size:=by simpa [rd,e] using hl
 rcases k with rfl|k
 ·simp [frozenOf,e]
 ·obtain ⟨lo,hi⟩:=z
  have k:c.size≤lo:=k
  simp [frozenOf,e]; omega
theorem wrN_rd {h:Heap} {b o n:Nat} (w:Own h b) (hl:o+n≤(rd h b).length):WrN h ⟨b,o,none⟩ n:=by
 intro i hi; rw [add_mk]; exact wr_rd w (by omega)
theorem stRow_rd {h:Heap} {b o:Nat} {cs:List Value} {n:Nat} (w:Own h b) (hn:cs.length=n) (h1:∀ v ∈ cs,v.oneCell'=true) (hl:o+n≤(rd h b).length):StRow h ⟨b,o,none⟩ cs n :=
 ⟨hn,h1,wrN_rd w hl⟩
theorem cells_rd {h:Heap} {b o:Nat} {xs:List Value} (e:((rd h b).drop o).take xs.length=xs):Cells h ⟨b,o,none⟩ xs:=by
 intro i v hv
 rw [add_mk,cellOf_rd]
 rw [← e,List.getElem?_take] at hv
 split at hv
 ·rw [List.getElem?_drop] at hv; exact hv
 ·exact absurd hv (by simp)
theorem Cells.fr {F:Nat→Prop} {h h':Heap} (f:Fr F h h') {a:Addr} {xs:List Value} (c:Cells h a xs) (hF:¬ F a.block):Cells h' a xs:=by
 intro i v hv
 have e:=c i v hv
 obtain ⟨h1,h2⟩:=cellOf_some e
 have hb:(a.add i).block=a.block:=by unfold Addr.add; split <;> rfl
 have hl:=rd_lt h2
 rw [hb] at hl
 have:cellOf h' (a.add i)=cellOf h (a.add i):=by simp only [cellOf,hb,f.same _ hl hF]
 rw [this]; exact e
theorem SlCells.fr {F:Nat→Prop} {h h':Heap} (f:Fr F h h') {a:Option Addr} {xs:List Value} (c:SlCells h a xs) (hF:∀ p,a=some p→¬ F p.block):SlCells h' a xs:=by
 cases a with
 | none=>exact c
 | some p=>exact Cells.fr f c (hF p rfl)
theorem StrAt.fr {F:Nat→Prop} {h h':Heap} (f:Fr F h h') {a:Option Addr} {l:Nat} {bs:List UInt8} (c:StrAt h a l bs) (hF:∀ p,a=some p→¬ F p.block):StrAt h' a l bs :=
 ⟨c.1,SlCells.fr f c.2 hF⟩
theorem Cells.take {h:Heap} {a:Addr} {xs:List Value} (c:Cells h a xs) (n:Nat):Cells h a (xs.take n):=by
 intro i v hv; rw [List.getElem?_take] at hv; split at hv
 ·exact c i v hv
 ·exact absurd hv (by simp)
theorem Cells.nil (h:Heap) (a:Addr):Cells h a []:=by intro i v hv; simp at hv
theorem Cells.drop {h:Heap} {a:Addr} {xs:List Value} (c:Cells h a xs) (n:Nat):Cells h (a.add n) (xs.drop n):=by
 intro i v hv
 rw [List.getElem?_drop] at hv
 have:=c (n+i) v hv
 by_cases hi:i=0
 ·subst hi; rw [Addr.add_zero]; exact this
 ·by_cases hn:n=0
  ·subst hn; rw [Addr.add_zero]; simpa using this
  ·rw [Addr.add_add]; exact this
theorem SlCells.take {h:Heap} {a:Option Addr} {xs:List Value} (c:SlCells h a xs) (n:Nat):SlCells h a (xs.take n):=by
 cases a with
 | none=>have c:xs=[]:=c; subst c; simp [SlCells]
 | some p=>exact Cells.take c n
theorem SlCells.drop {h:Heap} {a:Option Addr} {xs:List Value} (c:SlCells h a xs) (n:Nat):SlCells h (a.map (·.add n)) (xs.drop n):=by
 cases a with
 | none=>have c:xs=[]:=c; subst c; simp [SlCells]
 | some p=>exact Cells.drop c n
theorem StrAt.take {h:Heap} {a:Option Addr} {l:Nat} {bs:List UInt8} (c:StrAt h a l bs) {n:Nat} (hn:n≤l):StrAt h a n (bs.take n) :=
 ⟨by rw [List.length_take,c.1]; omega,by rw [List.map_take]; exact SlCells.take c.2 n⟩
theorem StrAt.drop {h:Heap} {a:Option Addr} {l:Nat} {bs:List UInt8} (c:StrAt h a l bs) (n:Nat):StrAt h (a.map (·.add n)) (l - n) (bs.drop n) :=
 ⟨by rw [List.length_drop,c.1],by rw [List.map_drop]; exact SlCells.drop c.2 n⟩
theorem StrAt.nil (h:Heap) (a:Option Addr):StrAt h a 0 []:=⟨rfl,by cases a with|none=>rfl|some p=>exact Cells.nil h p⟩
theorem bv_one (bs:List UInt8):∀ v ∈ bs.map bv,v.oneCell'=true:=by
 intro v hv; obtain ⟨b,_,rfl⟩:=List.mem_map.mp hv; rfl
theorem toList_mkStr (bs:List UInt8):ByteArray.toList (mkStr bs)=bs:=by
 rw [mkStr,show (⟨⟨bs⟩⟩:ByteArray)=⟨bs.toArray⟩ from rfl]
 simp
end Go.Proofs.YtcdpakjhjmchhaaGreatDoor.Hp
namespace Go.Proofs.YtcdpakjhjmchhaaGreatDoor.Hp
open Go Go.Proofs Wx
theorem wrap_i64 {n:Int} (h1 : -9223372036854775808≤n) (h2:n≤9223372036854775807):IntKind.wrap .i64 n=n:=by
 simp only [IntKind.wrap,IntKind.bits,IntKind.signed,Bool.true_and,ge_iff_le,decide_eq_true_eq,Nat.reduceSub,Int.reducePow]
 split <;> omega
theorem HCalls.mono {P:Program} {g:Nat} {args:List Value} {h:Heap} {k k':Value→Heap→Prop} (H:HCalls P g args h k) (hk:∀ v h',k v h'→k' v h'):HCalls P g args h k':=by
 obtain ⟨c,H⟩:=H
 refine ⟨c,fun w hw=>(H w hw).mono fun e w' ⟨v,e1,e2,e3⟩=>⟨v,e1,e2,hk v _ e3⟩⟩
def Sl (h:Heap) (ec:Nat) (a:Option Addr) (l c:Nat) (xs:List Value) (F:Nat→Prop):Prop :=
 xs.length=l*ec∧match a with
  | none=>l=0∧c=0
  | some p=>p.spot=none∧F p.block∧Own h p.block∧l≤c∧((rd h p.block).drop p.off).take xs.length=xs∧p.off+c*ec≤(rd h p.block).length
theorem Sl.nil (h:Heap) (ec:Nat) (F:Nat→Prop):Sl h ec none 0 0 [] F:=⟨by simp,rfl,rfl⟩
theorem Sl.mono {h:Heap} {ec:Nat} {a:Option Addr} {l c:Nat} {xs:List Value} {F G:Nat→Prop} (s:Sl h ec a l c xs F) (hs:∀ b,F b→G b):Sl h ec a l c xs G:=by
 obtain ⟨h1,h2⟩:=s
 refine ⟨h1,?_⟩
 cases a with
 | none=>exact h2
 | some p=>obtain ⟨a1,a2,a3⟩:=h2; exact ⟨a1,hs _ a2,a3⟩
theorem Sl.fr {h h':Heap} {ec:Nat} {a:Option Addr} {l c:Nat} {xs:List Value} {F G:Nat→Prop} (f:Fr G h h') (s:Sl h ec a l c xs F) (hs:∀ b,b<h.size→F b→¬ G b):Sl h' ec a l c xs F:=by
 obtain ⟨h1,h2⟩:=s
 refine ⟨h1,?_⟩
 cases a with
 | none=>exact h2
 | some p =>
  obtain ⟨a1,a2,a3,a4,a5,a6⟩:=h2
  have hG:=hs _ a3.lt a2
  refine ⟨a1,a2,f.own a3.lt hG a3,a4,?_,?_⟩
  ·rw [f.rd a3.lt hG]; exact a5
  ·rw [f.rd a3.lt hG]; exact a6
theorem Sl.cells {h:Heap} {ec:Nat} {a:Option Addr} {l c:Nat} {xs:List Value} {F:Nat→Prop} (s:Sl h ec a l c xs F):SlCells h a xs:=by
 obtain ⟨h1,h2⟩:=s
 cases a with
 | none=>obtain ⟨rfl,_⟩:=h2; rw [Nat.zero_mul] at h1; exact List.length_eq_zero_iff.mp h1
 | some p =>
  obtain ⟨b,o,s⟩:=p
  obtain ⟨a1,a2,a3,a4,a5,a6⟩:=h2
  have a1:s=none:=a1
  subst a1
  exact cells_rd a5
theorem Sl.str {h:Heap} {a:Option Addr} {l c:Nat} {bs:List UInt8} {F:Nat→Prop} (s:Sl h 1 a l c (bs.map bv) F):StrAt h a l bs :=
 ⟨by have:=s.1; rw [List.length_map] at this; omega,s.cells⟩
theorem Sl.le {h:Heap} {ec:Nat} {a:Option Addr} {l c:Nat} {xs:List Value} {F:Nat→Prop} (s:Sl h ec a l c xs F):l≤c:=by
 obtain ⟨_,h2⟩:=s
 cases a with
 | none=>omega
 | some p=>exact h2.2.2.2.1
theorem Sl.new (h:Heap) (ec t l c:Nat) (xs zs:List Value) (F:Nat→Prop) (hF:F h.size) (hx:xs.length=l*ec) (hl:l≤c) (hz:zs.length=(c - l)*ec) :
  Sl (newO h (xs++zs) t) ec (some ⟨h.size,0,none⟩) l c xs F:=by
 refine ⟨hx,rfl,hF,own_newO_at _ _ _,hl,?_,?_⟩
 ·simp only [rd_newO_at,List.drop_zero,List.take_left]
 ·simp only [rd_newO_at,List.length_append,hx,hz,Nat.zero_add]
  rw [← Nat.add_mul]; exact Nat.mul_le_mul_right _ (by omega)
theorem take_put (X new:List Value) (o m:Nat) (h:o+m+new.length≤X.length):((put X (o+m) new).drop o).take (m+new.length)=(X.drop o).take m++new:=by
 apply List.ext_getElem?
 intro i
 rw [List.getElem?_take]
 have hl:((X.drop o).take m).length=m:=by rw [List.length_take,List.length_drop]; omega
 by_cases h1:i<m
 ·rw [if_pos (by omega),List.getElem?_append_left (by omega),List.getElem?_drop,put_get _ _ _ _ h,if_neg (by omega),List.getElem?_take,if_pos h1,List.getElem?_drop]
 ·by_cases h2:i<m+new.length
  ·rw [if_pos h2,List.getElem?_append_right (by omega),hl,List.getElem?_drop,put_get _ _ _ _ h,if_pos (by omega)]
   congr 1; omega
  ·rw [if_neg h2,List.getElem?_eq_none (by rw [List.length_append]; omega)]
theorem append_own {elem:TI} {e:Nat} {a:Option Addr} {l c n:Nat} {xs new:List Value} {h:Heap} {F:Nat→Prop} {k:Option Addr→Nat→Nat→Heap→Prop}
  (s:Sl h elem.cells a l c xs F) (hn:new.length=n*elem.cells) (hz:elem.zero.length=elem.cells) (hb:(l+n)*elem.bytes≤140737488355328) (hb':l+n≤140737488355328)
  (hk:∀ a' c' h',Fr F h h'→Sl h' elem.cells a' (l+n) c' (xs++new) (fun b=>F b∨h.size≤b)→k a' (l+n) c' h') :
  AppendP elem e a l c n new h k:=by
 refine ⟨xs,s.1,s.cells,hb,hb',fun hc=>?_,fun hc cap hcap=>?_⟩
 ·obtain ⟨h1,h2⟩:=s
  cases a with
  | none =>
   obtain ⟨rfl,rfl⟩:=h2
   have:n=0:=by omega
   subst this
   rw [Nat.zero_mul] at hn h1
   have e1:=List.length_eq_zero_iff.mp hn
   have e2:=List.length_eq_zero_iff.mp h1
   subst e1; subst e2
   exact ⟨by simp [WrS],hk none 0 _ (Fr.refl _ _) (Sl.nil _ _ _)⟩
  | some p =>
   obtain ⟨b,o,sp⟩:=p
   obtain ⟨a1,a2,a3,a4,a5,a6⟩:=h2
   have a1:sp=none:=a1
   subst a1
   simp only at a2 a3 a5 a6
   have hm:(l+n)*elem.cells≤c*elem.cells:=Nat.mul_le_mul_right _ hc
   rw [Nat.add_mul] at hm
   refine ⟨?_,hk (some ⟨b,o,none⟩) c _ ?_ ?_⟩
   ·simp only [WrS,add_mk]; exact wrN_rd a3 (by omega)
   ·simp only [setS,add_mk]; exact (Fr.refl F h).setRow (Or.inl a2)
   ·simp only [setS,add_mk]
    refine ⟨by rw [List.length_append,h1,hn,Nat.add_mul],rfl,Or.inl a2,own_setRow a3,hc,?_,?_⟩
    ·simp only [rd_setRow_at,Nat.add_zero,List.length_append,← h1] at a5 ⊢
     rw [take_put _ _ _ _ (by rw [h1]; omega),a5]
    ·simp only [rd_setRow_at,put_length]; exact a6
 ·have hf:Fr F h (newO h (xs++new++repCells elem.zero (cap - (l+n))) e):=fr_newO _ _
  refine hk _ _ _ hf (Sl.new h elem.cells e (l+n) cap (xs++new) _ _ (Or.inr (Nat.le_refl _)) (by rw [List.length_append,s.1,hn,Nat.add_mul]) hcap ?_)
  rw [length_repCells,hz]
theorem StrAt.src {h:Heap} {a:Option Addr} {l:Nat} {bs:List UInt8} (c:StrAt h a l bs):(bs.map bv).length=l*1∧SlCells h a (bs.map bv)∧∀ v ∈ bs.map bv,v.oneCell'=true :=
 ⟨by rw [List.length_map,c.1,Nat.mul_one],c.2,bv_one bs⟩
end Go.Proofs.YtcdpakjhjmchhaaGreatDoor.Hp
namespace Go.Proofs.YtcdpakjhjmchhaaGreatDoor.Wx
open Go
def New (cs:List Value) (t:Nat) (h:Heap) (k:Heap→Prop):Prop:=k (newO h cs t)
def NewRow (z:List Value) (t:Nat) (cs:List Value) (n:Nat) (h:Heap) (k:Heap→Prop):Prop :=
  StRow (newO h z t) ⟨h.size,0,none⟩ cs n∧k (setRow (newO h z t) ⟨h.size,0,none⟩ cs 0)
def NewM (h:Heap) (k:Heap→Prop):Prop:=k (newM h)
def Put (p:Addr) (v:Value) (h:Heap) (k:Heap→Prop):Prop:=Wr h p∧k (setOf h p v)
def PutRow (p:Addr) (cs:List Value) (n:Nat) (h:Heap) (k:Heap→Prop):Prop:=StRow h p cs n∧k (setRow h p cs 0)
def SetL (h:Heap) (l:Nat) (R:Loop) (st:LoopState) (p:Option Code) (k:Heap→Prop):Prop:=k (setLoop h l R st p)
def EndD (b:Nat) (h:Heap) (k:Heap→Prop):Prop:=h[b]?=some (.deferred (some []))∧k (endD h b)
end Go.Proofs.YtcdpakjhjmchhaaGreatDoor.Wx
namespace Go.Proofs.YtcdpakjhjmchhaaGreatDoor.Hp
open Go Go.Proofs Wx
def On (col:Nat→Nat) (k:Nat):Nat→Prop:=fun b=>col b=k
def upd (col:Nat→Nat) (n k:Nat):Nat→Nat:=fun b=>if b<n then col b else k
def Ag (n:Nat) (col col':Nat→Nat):Prop:=∀ b,b<n→col' b=col b
def Free (h:Heap) (col:Nat→Nat) (m:Nat):Prop:=∀ b,b<h.size→m≤col b→col b≤m+5→False
theorem Free.new {h:Heap} {col col':Nat→Nat} {m b:Nat} (f:Free h col m) (g:Ag h.size col col') (h1:m≤col' b) (h2:col' b≤m+5):h.size≤b:=by
 rcases Nat.lt_or_ge b h.size with hb|hb
 ·rw [g b hb] at h1 h2; exact (f b hb h1 h2).elim
 ·exact hb
theorem ag_upd (col:Nat→Nat) (n k:Nat):Ag n col (upd col n k):=fun _ hb=>if_pos hb
theorem upd_ge {col:Nat→Nat} {n k b:Nat} (h:n≤b):upd col n k b=k:=if_neg (by omega)
theorem upd_lt {col:Nat→Nat} {n k b:Nat} (h:b<n):upd col n k b=col b:=if_pos h
theorem Ag.refl (n:Nat) (col:Nat→Nat):Ag n col col:=fun _ _=>rfl
theorem Ag.trans {m n:Nat} {c1 c2 c3:Nat→Nat} (f:Ag m c1 c2) (g:Ag n c2 c3) (h:m≤n):Ag m c1 c3:=fun b hb=>(g b (by omega)).trans (f b hb)
theorem Sl.lt {h:Heap} {ec l c:Nat} {p:Addr} {xs:List Value} {F:Nat→Prop} (s:Sl h ec (some p) l c xs F):p.block<h.size:=s.2.2.2.1.lt
theorem Sl.keep {h h':Heap} {ec l c k:Nat} {a:Option Addr} {xs:List Value} {F:Nat→Prop} {col col':Nat→Nat} (s:Sl h ec a l c xs (On col k)) (f:Fr F h h') (g:Ag h.size col col') (hF:∀ b,col b=k→¬ F b):Sl h' ec a l c xs (On col' k):=by
 have s':=Sl.fr f s (fun b _ hb=>hF b hb)
 obtain ⟨h1,h2⟩:=s'
 refine ⟨h1,?_⟩
 cases a with
 | none=>exact h2
 | some p=>obtain ⟨a1,a2,a3,a4⟩:=h2; exact ⟨a1,(g _ s.lt).trans a2,a3,a4⟩
theorem Sl.get {h:Heap} {ec l c:Nat} {a:Option Addr} {xs:List Value} {F:Nat→Prop} (s:Sl h ec a l c xs F) (hl:0<l):∃ p,a=some p∧Cells h p xs:=by
 cases a with
 | none=>exact absurd s.2.1 (by omega)
 | some p=>exact ⟨p,rfl,s.cells⟩
theorem flat_part {α:Type} (f:α→List Value) (w:Nat):∀ (xs:List α),(∀ x ∈ xs,(f x).length=w)→∀ (i:Nat) (hi:i<xs.length),((xs.flatMap f).drop (i*w)).take w=f xs[i]:=by
 intro xs
 induction xs with
 | nil=>intro _ i hi; exact absurd hi (by simp)
 | cons x r ih =>
  intro hw i hi
  have hx:=hw x (List.mem_cons_self ..)
  rw [List.flatMap_cons]
  cases i with
  | zero=>rw [Nat.zero_mul,List.drop_zero,← hx,List.take_left]; rfl
  | succ i =>
   rw [Nat.add_mul,Nat.one_mul,Nat.add_comm,← List.drop_drop,← hx,List.drop_left,hx]
   exact ih (fun y hy=>hw y (List.mem_cons_of_mem _ hy)) i (by simpa using hi)
theorem flat_length {α:Type} (f:α→List Value) (w:Nat):∀ (xs:List α),(∀ x ∈ xs,(f x).length=w)→(xs.flatMap f).length=xs.length*w:=by
 intro xs
 induction xs with
 | nil=>intro _; simp
 | cons x r ih =>
  intro hw
  rw [List.flatMap_cons,List.length_append,ih (fun y hy=>hw y (List.mem_cons_of_mem _ hy)),hw x (List.mem_cons_self ..),List.length_cons,Nat.add_mul]; omega
theorem Cells.part {h:Heap} {p:Addr} {xs:List Value} (c:Cells h p xs) (o n:Nat):Cells h (p.add o) ((xs.drop o).take n):=Cells.take (Cells.drop c o) n
theorem Cells.cell {h:Heap} {p:Addr} {xs:List Value} (c:Cells h p xs) {i:Nat} {v:Value} (hv:xs[i]?=some v):cellOf h (p.add i)=some v:=c i v hv
theorem put_part {α:Type} (f:α→List Value) (w:Nat) (xs:List α) (hw:∀ x ∈ xs,(f x).length=w) (i:Nat) (hi:i<xs.length) (y:α) (hy:(f y).length=w) :
  put (xs.flatMap f) (i*w) (f y)=(xs.set i y).flatMap f:=by
 have hl:=flat_length f w xs hw
 have hm:(i+1)*w≤xs.length*w:=Nat.mul_le_mul_right _ hi
 rw [Nat.add_mul,Nat.one_mul] at hm
 rw [put_eq _ _ _ (by omega),hy]
 have h1:(xs.flatMap f).take (i*w)=(xs.take i).flatMap f:=by
  conv=>lhs; rw [← List.take_append_drop i xs,List.flatMap_append]
  rw [List.take_append_of_le_length]
  ·rw [List.take_of_length_le]
   rw [flat_length f w _ (fun x hx=>hw x (List.mem_of_mem_take hx)),List.length_take]
   exact Nat.mul_le_mul_right _ (by omega)
  ·rw [flat_length f w _ (fun x hx=>hw x (List.mem_of_mem_take hx)),List.length_take,Nat.min_eq_left (by omega)]; exact Nat.le_refl _
 have h2:(xs.flatMap f).drop (i*w+w)=(xs.drop (i+1)).flatMap f:=by
  conv=>lhs; rw [← List.take_append_drop (i+1) xs,List.flatMap_append]
  have:((xs.take (i+1)).flatMap f).length=i*w+w:=by
   rw [flat_length f w _ (fun x hx=>hw x (List.mem_of_mem_take hx)),List.length_take,Nat.min_eq_left (by omega),Nat.add_mul,Nat.one_mul]
  rw [← this,List.drop_left]
 rw [h1,h2,List.set_eq_take_append_cons_drop,if_pos hi,List.flatMap_append,List.flatMap_cons,List.append_assoc]
end Go.Proofs.YtcdpakjhjmchhaaGreatDoor.Hp
namespace Go.Proofs.YtcdpakjhjmchhaaGreatDoor.Hp
open Go Go.Proofs Wx
theorem one2 {a b:Value} (ha:a.oneCell'=true) (hb:b.oneCell'=true):∀ v ∈ [a,b],v.oneCell'=true:=by
 intro v hv; rcases List.mem_cons.mp hv with rfl|hv
 ·exact ha
 ·rw [List.mem_singleton.mp hv]; exact hb
theorem os {α:Type} {a:α} {k:α→Prop} (h:k a):onSome (some a) k:=h
theorem ct {c:Bool} {A B:Prop} (h:c=true) (a:A):bif c then A else B:=by subst h; exact a
theorem cf {c:Bool} {A B:Prop} (h:c=false) (b:B):bif c then A else B:=by subst h; exact b
theorem cs {c:Bool} {A B:Prop} (a:c=true→A) (b:c=false→B):bif c then A else B:=by
 cases c
 ·exact b rfl
 ·exact a rfl
theorem cd {p:Prop} [Decidable p] {A B:Prop} (a:p→A) (b:¬ p→B):bif decide p then A else B:=by
 by_cases h:p
 ·rw [decide_eq_true h]; exact a h
 ·rw [decide_eq_false h]; exact b h
theorem ce {x y:Int} {A B:Prop} (a:x=y→A) (b:x≠y→B):bif x == y then A else B:=by
 by_cases h:x=y
 ·exact ct (by simpa using h) (a h)
 ·exact cf (by simpa using h) (b h)
theorem cn {x y:Int} {A B:Prop} (a:x≠y→A) (b:x=y→B):bif x != y then A else B:=by
 by_cases h:x=y
 ·exact cf (by simpa using h) (b h)
 ·exact ct (by simpa using h) (a h)
theorem cnot {c:Bool} {A B:Prop} (h:bif c then B else A):bif !c then A else B:=by cases c <;> exact h
structure Newly (h h':Heap) (cs:List Value):Prop where
 size:h'.size=h.size+1
 fr:Fr No h h'
 own:Own h' h.size
 rd:rd h' h.size=cs
theorem New.intro {cs:List Value} {t:Nat} {h:Heap} {k:Heap→Prop} (H:∀ h',Newly h h' cs→k h'):New cs t h k :=
 H _ ⟨size_newO _ _ _,fr_newO _ _,own_newO_at _ _ _,rd_newO_at _ _ _⟩
theorem NewRow.intro {z:List Value} {t:Nat} {cs:List Value} {n:Nat} {h:Heap} {k:Heap→Prop} (hl:cs.length=n) (h1:∀ v ∈ cs,v.oneCell'=true) (hz:z.length=n)
  (H:∀ h',Newly h h' cs→k h'):NewRow z t cs n h k :=
 ⟨stRow_rd (own_newO_at _ _ _) hl h1 (by rw [rd_newO_at,hz]; omega),
  H _ ⟨by rw [size_setRow,size_newO],Fr.setRow (Or.inr (Nat.le_refl _)) (fr_newO _ _),own_setRow (own_newO_at _ _ _),by rw [rd_setRow_at,rd_newO_at,Nat.zero_add,put_all _ _ (by rw [hl,hz])]⟩⟩
structure Did (b:Nat) (h h':Heap) (cs:List Value):Prop where
 size:h'.size=h.size
 fr:Fr (fun x=>x=b) h h'
 own:Own h' b
 rd:Hp.rd h' b=cs
theorem Put.intro {b o:Nat} {v:Value} {h:Heap} {k:Heap→Prop} (w:Own h b) (hl:o<(rd h b).length) (H:∀ h',Did b h h' ((rd h b).set o v)→k h'):Put ⟨b,o,none⟩ v h k :=
 ⟨wr_rd w hl,H _ ⟨size_setOf _ _ _,(Fr.refl _ h).setOf (Or.inl rfl),own_setOf w,rd_setOf_at _ _ _ _⟩⟩
theorem Put.add {b o n:Nat} {v:Value} {h:Heap} {k:Heap→Prop} (w:Own h b) (hl:o+n<(rd h b).length) (H:∀ h',Did b h h' ((rd h b).set (o+n) v)→k h'):Put (Addr.add ⟨b,o,none⟩ n) v h k:=by
 rw [add_mk]; exact Put.intro w hl H
theorem PutRow.intro {b o n:Nat} {cs:List Value} {h:Heap} {k:Heap→Prop} (w:Own h b) (hn:cs.length=n) (h1:∀ v ∈ cs,v.oneCell'=true) (hl:o+n≤(rd h b).length)
  (H:∀ h',Did b h h' (put (rd h b) o cs)→k h'):PutRow ⟨b,o,none⟩ cs n h k :=
 ⟨stRow_rd w hn h1 hl,H _ ⟨size_setRow _ _ _ _,Fr.setRow (F:=fun x=>x=b) (Or.inl rfl) (Fr.refl _ h),own_setRow w,by rw [rd_setRow_at,Nat.add_zero]⟩⟩
theorem PutRow.add {b o m n:Nat} {cs:List Value} {h:Heap} {k:Heap→Prop} (w:Own h b) (hn:cs.length=n) (h1:∀ v ∈ cs,v.oneCell'=true) (hl:o+m+n≤(rd h b).length)
  (H:∀ h',Did b h h' (put (rd h b) (o+m) cs)→k h'):PutRow (Addr.add ⟨b,o,none⟩ m) cs n h k:=by
 rw [add_mk]; exact PutRow.intro w hn h1 hl H
theorem rdc {h:Heap} {b o:Nat} {xs:List Value} {v:Value} (e:rd h b=xs) (hv:xs[o]?=some v):cellOf h ⟨b,o,none⟩=some v:=by rw [cellOf_rd,e]; exact hv
theorem rda {h:Heap} {b o n:Nat} {xs:List Value} {v:Value} (e:rd h b=xs) (hv:xs[o+n]?=some v):cellOf h (Addr.add ⟨b,o,none⟩ n)=some v:=by rw [add_mk,cellOf_rd,e]; exact hv
theorem cellsa {h:Heap} {b o n:Nat} {xs ys:List Value} (e:rd h b=xs) (hy:(xs.drop (o+n)).take ys.length=ys):Cells h (Addr.add ⟨b,o,none⟩ n) ys:=by rw [add_mk]; exact cells_rd (by rw [e]; exact hy)
theorem cellsAll {h:Heap} {b:Nat} {xs:List Value} (e:rd h b=xs):Cells h ⟨b,0,none⟩ xs:=cells_rd (by rw [e,List.drop_zero,List.take_length])
theorem strAll {h:Heap} {b l:Nat} {bs:List UInt8} (e:rd h b=bs.map bv) (hl:bs.length=l):StrAt h (some ⟨b,0,none⟩) l bs:=⟨hl,cellsAll e⟩
theorem Did.at_ {b c:Nat} {h h':Heap} {cs:List Value} (d:Did b h h' cs) (hc:c<h.size) (hn:c≠b):Hp.rd h' c=Hp.rd h c:=d.fr.rd hc hn
theorem Did.ow {b c:Nat} {h h':Heap} {cs:List Value} (d:Did b h h' cs) (w:Own h c):Own h' c:=by
 by_cases e:c=b
 ·subst e; exact d.own
 ·exact d.fr.own w.lt e w
theorem Newly.at_ {c:Nat} {h h':Heap} {cs:List Value} (d:Newly h h' cs) (hc:c<h.size):Hp.rd h' c=Hp.rd h c:=d.fr.rd hc (fun x=>x)
theorem Newly.ow {c:Nat} {h h':Heap} {cs:List Value} (d:Newly h h' cs) (w:Own h c):Own h' c:=d.fr.own w.lt (fun x=>x) w
theorem falls {n:Int} {m:Nat} (h:n<m):((m:Int) - (n+1)).toNat<((m:Int) - n).toNat:=by omega
theorem Fr.new {F:Nat→Prop} {h h1 h2:Heap} {cs:List Value} (f:Fr F h h1) (d:Newly h1 h2 cs):Fr F h h2:=f.no d.fr
theorem Fr.did {F:Nat→Prop} {h h1 h2:Heap} {cs:List Value} {b:Nat} (f:Fr F h h1) (d:Did b h1 h2 cs) (hb:b<h.size→F b):Fr F h h2:=f.trans d.fr (fun _ hl e=>e▸hb (e▸hl))
end Go.Proofs.YtcdpakjhjmchhaaGreatDoor.Hp
namespace Go.Proofs.YtcdpakjhjmchhaaGreatDoor.Hp
open Go Go.Proofs Wx
theorem drop_put (X new:List Value) (o j n:Nat) (h1:j+new.length≤n) (h2:o+n≤X.length):((put X (o+j) new).drop o).take n=put ((X.drop o).take n) j new:=by
 apply List.ext_getElem?
 intro i
 have hl:((X.drop o).take n).length=n:=by rw [List.length_take,List.length_drop]; omega
 rw [put_get _ _ _ _ (by rw [hl]; exact h1),List.getElem?_take,List.getElem?_take,List.getElem?_drop,List.getElem?_drop]
 by_cases hi:i<n
 ·rw [if_pos hi,if_pos hi,put_get _ _ _ _ (by omega)]
  by_cases hj:j≤i∧i<j+new.length
  ·rw [if_pos (by omega),if_pos hj]; congr 1; omega
  ·rw [if_neg (by omega),if_neg hj]
 ·rw [if_neg hi,if_neg hi,if_neg (by omega)]
theorem Sl.putAt {h h':Heap} {ec l c b o j:Nat} {xs new:List Value} {F:Nat→Prop} (s:Sl h ec (some ⟨b,o,none⟩) l c xs F) (hj:j+new.length≤l*ec)
  (d:Did b h h' (put (rd h b) (o+j) new)):Sl h' ec (some ⟨b,o,none⟩) l c (put xs j new) F:=by
 obtain ⟨h1,a1,a2,a3,a4,a5,a6⟩:=s
 have hm:l*ec≤c*ec:=Nat.mul_le_mul_right _ a4
 simp only at a2 a3 a5 a6
 refine ⟨by rw [put_length,h1],rfl,a2,d.own,a4,?_,?_⟩
 ·simp only [d.rd,put_length,h1]
  rw [drop_put _ _ _ _ _ hj (by omega),← h1,a5]
 ·simp only [d.rd,put_length]; exact a6
theorem Sl.putPart {α:Type} {f:α→List Value} {w:Nat} {h h':Heap} {l c b o i:Nat} {xs:List α} {y:α} {F:Nat→Prop} (s:Sl h w (some ⟨b,o,none⟩) l c (xs.flatMap f) F)
  (hw:∀ x ∈ xs,(f x).length=w) (hi:i<xs.length) (hy:(f y).length=w) (d:Did b h h' (put (rd h b) (o+i*w) (f y))):Sl h' w (some ⟨b,o,none⟩) l c ((xs.set i y).flatMap f) F:=by
 have h1:=s.1
 rw [flat_length f w xs hw] at h1
 have:(i+1)*w≤xs.length*w:=Nat.mul_le_mul_right _ hi
 rw [Nat.add_mul,Nat.one_mul] at this
 rw [← put_part f w xs hw i hi y hy]
 exact s.putAt (by rw [hy]; omega) d
theorem Sl.made {h h':Heap} {ec l c:Nat} {xs zs cs:List Value} {F:Nat→Prop} (n:Newly h h' cs) (e:cs=xs++zs) (hF:F h.size) (hx:xs.length=l*ec) (hl:l≤c) (hz:zs.length=(c - l)*ec) :
  Sl h' ec (some ⟨h.size,0,none⟩) l c xs F:=by
 refine ⟨hx,rfl,hF,n.own,hl,?_,?_⟩
 ·simp only [n.rd,e,List.drop_zero,List.take_left]
 ·simp only [n.rd,e,List.length_append,hx,hz,Nat.zero_add]
  rw [← Nat.add_mul]; exact Nat.mul_le_mul_right _ (by omega)
theorem Sl.wr {h:Heap} {ec l c b o:Nat} {xs:List Value} {F:Nat→Prop} (s:Sl h ec (some ⟨b,o,none⟩) l c xs F):Own h b∧o+l*ec≤(rd h b).length:=by
 obtain ⟨h1,a1,a2,a3,a4,a5,a6⟩:=s
 have hm:l*ec≤c*ec:=Nat.mul_le_mul_right _ a4
 simp only at a6
 exact ⟨a3,by omega⟩
theorem CopyP.intro {elem:TI} {b o n m c:Nat} {src:Option Addr} {new:List Value} {h:Heap} {k:Nat→Heap→Prop} (hn:new.length=min m n*elem.cells) (hs:SlCells h src new) (h1:∀ v ∈ new,v.oneCell'=true)
  (w:Own h b) (hl:o+new.length≤(rd h b).length) (H:∀ h',Did b h h' (put (rd h b) o new)→k (min m n) h'):CopyP elem (some ⟨b,o,none⟩) n (.slice src m c) h k:=by
 refine ⟨new,hn,hs,h1,?_,H _ ?_⟩
 ·simp only [WrS,Addr.add_zero]; exact wrN_rd w (by omega)
 ·simp only [setS,Addr.add_zero]
  exact ⟨size_setRow _ _ _ _,Fr.setRow (F:=fun x=>x=b) (Or.inl rfl) (Fr.refl _ h),own_setRow w,by rw [rd_setRow_at,Nat.add_zero]⟩
end Go.Proofs.YtcdpakjhjmchhaaGreatDoor.Hp
namespace Go.Proofs.YtcdpakjhjmchhaaGreatDoor.Gl
open Go Go.ChangeShapes Go.WideShapes Go.ChangeAt Go.RowKit Go.Proofs Wx Hp
theorem trodAll_below {H:Type} {enc:TypeId×Value→H} {P:Program} (hl:laidOutB P=true) {W W':World} (hb:Below W.heap.size W W') :
  ∀ {ts:List TypeId} {vs:List Value} {ds:List (DataW H)} {ps:List MemPlace},(∀ t ∈ ts,P.readableRec t=true∧t<P.types.size)→DataW.TrodAll enc P W 0 (fun _=>true) true ts vs ds ps →
   (∀ x ∈ ps,x.block<W.heap.size)→DataW.TrodAll enc P W' 0 (fun b=>decide (b<W.heap.size)) true ts vs ds ps:=by
 intro ts
 induction ts with
 | nil =>
  intro vs ds ps _ h _
  obtain ⟨rfl,rfl,rfl⟩:=trodAll_nil h
  exact trodAll_mk0
 | cons t ts ih =>
  intro vs ds ps hts h hlt
  match vs,ds,h with
  | v::vs,d::ds,⟨p,q,h1,h2,e⟩ =>
   subst e
   obtain ⟨a1,a2⟩:=hts t (List.mem_cons_self ..)
   exact ⟨p,q,Below.trod hl a1 a2 h1 hb (fun x hx=>hlt x (List.mem_append_left _ hx)),ih (fun u hu=>hts u (List.mem_cons_of_mem _ hu)) h2 (fun x hx=>hlt x (List.mem_append_right _ hx)),rfl⟩
def True_ (h:Heap):Value→Heap→Prop:=fun v h'=>v = .bool true∧Fr No h h'
theorem true_mk {h:Heap}:∀ h',Fr No h h'→True_ h (.bool true) h':=fun _ f=>⟨rfl,f⟩
end Go.Proofs.YtcdpakjhjmchhaaGreatDoor.Gl
namespace Go.Proofs.YtcdpakjhjmchhaaGreatDoor.Gl
open Go Go.ChangeShapes Go.WideShapes Go.ChangeAt Go.RowKit Go.Proofs Wx Hp
def Room {H:Type} (d:DataW H) (c:Nat):Prop:=c=0∨∃ es sp,d = .slice es sp∧es.length+sp.length=c
end Go.Proofs.YtcdpakjhjmchhaaGreatDoor.Gl
namespace Go.Proofs.YtcdpakjhjmchhaaGreatDoor.Gl
open Go Go.ChangeShapes Go.WideShapes Go.ChangeAt Go.RowKit Go.Proofs Wx Hp
theorem Cells.append {h:Heap} {a:Addr} {xs ys:List Value} (c:Cells h a xs) (d:Cells h (a.add xs.length) ys):Cells h a (xs++ys):=by
 intro i v hv
 rcases Nat.lt_or_ge i xs.length with hi|hi
 ·rw [List.getElem?_append_left hi] at hv; exact c i v hv
 ·rw [List.getElem?_append_right hi] at hv
  have:=d (i - xs.length) v hv
  by_cases h0:i - xs.length=0
  ·rw [h0,Addr.add_zero] at this
   rw [show i=xs.length by omega]; exact this
  ·rw [Addr.add_add] at this
   rw [show i=xs.length+(i - xs.length) by omega]; exact this
theorem cells_of_world {w:World} {base:Nat} {a:Addr} {n:Nat} {cs:List Value} (h:w.cells? base a n=some cs):Cells w.heap a cs:=by
 obtain ⟨_,h2,h3⟩:=World.cells?_some h
 intro i v hv
 have hi:i<cs.length:=(List.getElem?_eq_some_iff.mp hv).1
 have:=h3 i (by omega)
 rw [hv] at this
 exact this
theorem cells_flat {α:Type} {h:Heap} {f:α→List Value} {w:Nat}:∀ (xs:List α) (a:Addr) (k:Nat),(∀ x ∈ xs,(f x).length=w)→(∀ i (hi:i<xs.length),Cells h (a.add ((k+i)*w)) (f xs[i]))→Cells h (a.add (k*w)) (xs.flatMap f):=by
 intro xs
 induction xs with
 | nil=>intro a k _ _; exact Cells.nil h _
 | cons x r ih =>
  intro a k hw hc
  rw [List.flatMap_cons]
  refine Cells.append (hc 0 (by simp)) ?_
  have:=ih a (k+1) (fun y hy=>hw y (List.mem_cons_of_mem _ hy)) (fun i hi=>by
   have:=hc (i+1) (by simpa using hi)
   rw [show k+1+i=k+(i+1) by omega]; exact this)
  rw [hw x (List.mem_cons_self ..)]
  rw [Nat.add_mul,Nat.one_mul] at this
  have e:(a.add (k*w)).add w=a.add (k*w+w):=by
   by_cases h0:w=0
   ·subst h0; simp [Addr.add]
   ·rw [Addr.add_add]
  rw [e]; exact this
theorem pick_list {α:Type} {p:Nat→α→Prop}:∀ n,(∀ i,i<n→∃ x,p i x)→∃ xs:List α,xs.length=n∧∀ i (hi:i<xs.length),p i xs[i]:=by
 intro n
 induction n with
 | zero=>intro _; exact ⟨[],rfl,fun i hi=>absurd hi (by simp)⟩
 | succ n ih =>
  intro h
  obtain ⟨xs,hl,hx⟩:=ih fun i hi=>h i (by omega)
  obtain ⟨y,hy⟩:=h n (by omega)
  refine ⟨xs++[y],by simp [hl],fun i hi=>?_⟩
  rcases Nat.lt_or_ge i xs.length with h1|h1
  ·rw [List.getElem_append_left h1]; exact hx i h1
  ·have:i=n:=by simp at hi; omega
   subst this
   rw [List.getElem_append_right (by omega)]
   simpa [hl] using hy
theorem open_row {α H:Type} {enc:TypeId×Value→H} {P:Program} {W:World} {base:Nat} {t e w:Nat} {v:Value} {d:DataW H} {p:List MemPlace} (f:α→List Value) (hw:∀ x,(f x).length=w)
  (ht:P.underlying t=some (.slice e)) (hc:P.cellsOf e=w) (hval:Value.okWide P W .any base t v) (h:DataW.Trod enc P W 0 (fun _=>true) true t v d p)
  (one:∀ n cs y,DataW.trod enc P W 0 (fun _=>true) true n e cs=some y→∃ x,cs=f x) :
  ∃ a l c,∃ xs:List α,v = .slice a l c∧SlCells W.heap a (xs.flatMap f)∧xs.length=l∧l≤c∧Room d c:=by
 obtain ⟨a1,len,cap,rfl⟩:=okWide_slice ht hval
 obtain ⟨fuel,hf⟩:=h
 rcases DataW.trod_slice ht hf with ⟨hcs,hx⟩|⟨a,len',cap',elems,rest,n,_,hcs,hx,hb,hl,hm,hlen,hel,hsp,hns⟩
 ·simp [Value.cells] at hcs
  obtain ⟨rfl,rfl,rfl⟩:=hcs
  exact ⟨none,0,0,[],rfl,rfl,rfl,Nat.le_refl _,Or.inl rfl⟩
 ·simp [Value.cells] at hcs
  obtain ⟨rfl,rfl,rfl⟩:=hcs
  simp only [Prod.mk.injEq] at hx
  obtain ⟨rfl,rfl⟩:=hx
  obtain ⟨hrl,_⟩:=hsp rfl
  obtain ⟨xs,hxl,hxs⟩:=pick_list (p:=fun i x=>Cells W.heap (a.add ((0+i)*w)) (f x)) len fun i hi=>by
   have h1:=hel i hi
   rw [List.getElem?_eq_getElem (by omega),hc,Option.bind_eq_some_iff] at h1
   obtain ⟨cs,h2,h3⟩:=h1
   obtain ⟨x,rfl⟩:=one _ _ _ h3
   exact ⟨x,by rw [Nat.zero_add]; exact cells_of_world h2⟩
  refine ⟨_,_,_,xs,rfl,?_,hxl,hl,Or.inr ⟨_,_,rfl,by rw [List.length_map,List.length_map]; omega⟩⟩
  have:=cells_flat xs a 0 (fun x _=>hw x) hxs
  rw [Nat.zero_mul,Addr.add_zero] at this
  exact this
end Go.Proofs.YtcdpakjhjmchhaaGreatDoor.Gl
namespace Go.Proofs.YtcdpakjhjmchhaaGreatDoor.Gl
open Go Go.ChangeShapes Go.WideShapes Go.ChangeAt Go.RowKit Go.Proofs Wx Hp
end Go.Proofs.YtcdpakjhjmchhaaGreatDoor.Gl
namespace Go.Proofs.YtcdpakjhjmchhaaGreatDoor.Gl
open Go Go.ChangeShapes Go.WideShapes Go.ChangeAt Go.RowKit Go.Proofs Wx Hp
theorem lifted_row {H:Type} {enc:TypeId×Value→H} {C:Checked} {P:Program} (hP:C.prog=P) {os:Os} {f:FuncId} {fn:Func} {s:ChangeSpec} {tb:TypeId} {conds:List PathCond} {F:Stop.Interp} {laid:List (String×DataW Unit)}
  (own:ownKnob P.godebug=none) (started:os.Started) (noInit:P.inits.idxOf? f=none) (hfn:P.funcs[f]?=some fn)
  (witness:∃ (w:World) (tape:Tape) (i:Input),w.os=os∧(w.forCall tape i).Shaped P∧i.vars=[]∧Input.okWide P (w.forCall tape i) .any w.heap.size f i ∧
   (OpenSpec.ofChange s).preRow enc P fn conds false laid (w.forCall tape i).memory i.args∧Assume.holds {} P (lone (Frame.enter P f i.args .normal) [] (w.forCall tape i)))
  (hl:laidOutB P=true) (hts0:(fn.params.toList.all fun t=>P.readableRec t && decide (t<P.types.size))=true) (hr:fn.resultTypes = #[tb]) (hb:P.underlying tb=some .bool) (hvars:s.vars=[])
  (hres:∀ ds:List (DataW H),ds.length=fn.params.toList.length→(s.fn H (ds++[])).results=[.lit (.bool true)]∧(s.fn H (ds++[])).args=ds∧(s.fn H (ds++[])).vars=[])
  (law:∀ (W:World) (base:Nat) (args:Array Value) (ds:List (DataW H)) (ps:List MemPlace),(∀ (j:Nat) t v,fn.params[j]?=some t→args[j]?=some v→Value.okWide P W .any base t v) →
   DataW.TrodAll enc P W 0 (fun _=>true) true fn.params.toList args.toList ds ps→(DataW.weightsEach P fn.params.toList ds).all (· ≤ reachBytes)=true→laidMetH P laid W →
   HCalls P f args.toList W.heap (True_ W.heap)) :
  ReturnsInHanded {} C os f .any ((OpenSpec.ofChange s).preRow enc P fn conds false laid) (((OpenSpec.ofChange s).at F).post enc P fn false true false false):=by
 subst hP
 have hts:∀ t ∈ fn.params.toList,C.prog.readableRec t=true∧t<C.prog.types.size:=by
  intro t ht
  have:=List.all_eq_true.mp hts0 t ht
  rw [Bool.and_eq_true] at this
  exact ⟨this.1,of_decide_eq_true this.2⟩
 refine returnsInHanded_of_row (C:=C) (s:=OpenSpec.ofChange s) own started noInit hfn witness ?_
 intro W base args ds gs before hval hW _ _ hsz hL _ _
 have hW':DataW.Whole enc C.prog fn.params.toList s.vars false W args.toList ds gs before:=hW
 obtain ⟨p,q,hA,hV,rfl,_,_⟩:=hW
 rw [show (OpenSpec.ofChange s).vars=[] from hvars] at hV
 obtain ⟨rfl,rfl⟩:=trodVars_none hV
 have hvt:(OpenSpec.ofChange s).bare.plain.varTypes C.prog=[]:=by
  have:(OpenSpec.ofChange s).bare.plain.vars=[]:=hvars
  simp [DataSpec.varTypes,this]
 rw [hvt,List.append_nil,List.append_nil] at hsz
 obtain ⟨_,hc⟩:=law W base args ds p hval hA hsz hL
 have hlen:=(trodAll_length hA).2
 obtain ⟨e1,e2,e3⟩:=hres ds hlen
 simp only [List.append_nil] at hW'
 refine (hc W rfl).mono fun e W' ⟨v,he,hs,hv,hf⟩=>?_
 subst hv
 refine ⟨_,he,ds,[],p,[],p,[],(by exact hW'),?_,?_,?_,?_,fun h=>by cases h⟩
 ·show DataW.TrodAll _ _ _ _ _ _ _ _ (s.fn H (ds++[])).results _
  rw [e1,hr]; exact trodAll_mk1 (shut_bool hb true)
 ·show DataW.TrodAll _ _ _ _ _ _ _ _ (s.fn H (ds++[])).args _
  rw [e2]
  exact trodAll_below hl ⟨hs.1,hs.2.1,hs.2.2,hf.size,fun k hk=>hf.same k hk (fun x=>x)⟩ hts hA (fun x hx=>by simpa using hW'.lt x (by simpa using hx))
 ·have e4:(((OpenSpec.ofChange s).at F).fn H (ds++[])).vars=[]:=e3
  have e5:((OpenSpec.ofChange s).at F).vars=[]:=hvars
  rw [e4,e5]; rfl
 ·exact (Below.frame (⟨hs.1,hs.2.1,hs.2.2,hf.size,fun k hk=>hf.same k hk (fun x=>x)⟩:Below W.heap.size W W') _)
theorem cells_of_bools {H:Type} {enc:TypeId×Value→H} {P:Program} {w:World} {base:Nat} {sp:Nat→Bool} {held:Bool} {fuel:Nat} {t e:TypeId} {n:Nat} {cs:List Value} {zs:List Bool} {p:List MemPlace}
  (ht:P.underlying t=some (.array n e)) (he:P.underlying e=some .bool) (hce:P.cellsOf e=1) (hct:P.cellsOf t=n)
  (h:DataW.trod enc P w base sp held fuel t cs=some (.agg (zs.map fun z => .lit (.bool z)),p)):cs=zs.map fun z=>Value.bool z:=by
 cases fuel with
 | zero=>simp [DataW.trod] at h
 | succ fuel =>
  simp only [DataW.trod,ht,hce,hct,Nat.mul_one] at h
  split at h
  ·rename_i hl
   obtain ⟨xs,hm,hx⟩:=Option.map_eq_some_iff.1 h
   have hxs:xs.map (·.1)=zs.map fun z=>(DataW.lit (.bool z):DataW H):=by
    have:=congrArg Prod.fst hx
    simpa using this
   have hxl:xs.length=n:=by simpa using Lib.mapM_length hm
   have hzl:zs.length=n:=by
    have:=congrArg List.length hxs
    simp at this
    omega
   apply List.ext_getElem?
   intro i
   by_cases hi:i<n
   ·obtain ⟨b,hb,hf⟩:=Lib.mapM_at hm i i (by simp [hi])
    obtain ⟨z,hc,rfl⟩:=DataW.trod_bool he hf
    have h1:cs[i]?=some (.bool z):=by
     have:=congrArg (·[0]?) hc
     simpa [List.getElem?_take,List.getElem?_drop] using this
    have h2:(xs.map (·.1))[i]?=some (DataW.lit (.bool z):DataW H):=by simp [hb]
    rw [hxs] at h2
    simp only [List.getElem?_map,Option.map_eq_some_iff,DataW.lit.injEq,Lit.bool.injEq] at h2
    obtain ⟨z',hz',rfl⟩:=h2
    simp [h1,hz']
   ·rw [List.getElem?_eq_none (by omega),List.getElem?_eq_none (by simp; omega)]
  ·cases h
theorem rd_var {P:Program} {W:World} {name:String} {g:Nat} {cs:Array Value} (hg:P.globalNamed name=some g) (h:W.var? P name=some cs):rd W.heap g=cs.toList:=by
 unfold World.var? at h
 rw [hg,Option.bind_some] at h
 cases hw:W.heap[g]? with
 | none=>rw [hw] at h; cases h
 | some o =>
  rw [hw] at h
  cases o with
  | cells c t z=>simp only [Option.some.injEq] at h; subst h; simp [rd,hw]
  | _=>cases h
end Go.Proofs.YtcdpakjhjmchhaaGreatDoor.Gl
namespace Go.Proofs.YtcdpakjhjmchhaaGreatDoor.Gl
open Go Go.ChangeShapes Go.WideShapes Go.ChangeAt Go.RowKit Go.Proofs Wx Hp
end Go.Proofs.YtcdpakjhjmchhaaGreatDoor.Gl
namespace Go.Proofs.YtcdpakjhjmchhaaGreatDoor.Gl
open Go Go.ChangeShapes Go.WideShapes Go.ChangeAt Go.RowKit Go.Proofs Wx Hp
theorem weight_each {H:Type} {P:Program}:∀ {ts:List TypeId} {ds:List (DataW H)} {j:Nat} {t:TypeId} {d:DataW H} {w:Nat},ts[j]?=some t→ds[j]?=some d→w ∈ d.weights P t→w ∈ DataW.weightsEach P ts ds
 | [],_,_,_,_,_,h,_,_=>by simp at h
 | _::_,[],_,_,_,_,_,h,_=>by simp at h
 | t::ts,d::ds,0,_,_,w,h1,h2,h3=>by
  cases h1
  cases h2
  simp only [DataW.weightsEach]
  exact List.mem_append_left _ h3
 | t::ts,d::ds,j+1,_,_,w,h1,h2,h3=>by
  simp only [DataW.weightsEach]
  exact List.mem_append_right _ (weight_each h1 h2 h3)
def Light {H:Type} (P:Program) (t:TypeId) (d:DataW H):Prop:=∀ w ∈ d.weights P t,w≤140737488351232
theorem light_arg {H:Type} {P:Program} {ts:List TypeId} {ds:List (DataW H)} (h:(DataW.weightsEach P ts ds).all (· ≤ reachBytes)=true) {j:Nat} {t:TypeId} {d:DataW H} (h1:ts[j]?=some t) (h2:ds[j]?=some d):Light P t d:=by
 intro w hw
 have:=of_decide_eq_true (List.all_eq_true.mp h w (weight_each h1 h2 hw))
 have e:reachBytes=140737488351232:=by decide
 omega
theorem light_room {H:Type} {P:Program} {t e:TypeId} {d:DataW H} {c:Nat} (L:Light P t d) (ht:P.underlying t=some (.slice e)) (r:Room d c):c*P.bytesOf e≤140737488351232:=by
 rcases r with rfl|⟨es,sp,rfl,rfl⟩
 ·omega
 ·refine L _ ?_
  simp only [DataW.weights,ht]
  exact List.mem_cons_self
end Go.Proofs.YtcdpakjhjmchhaaGreatDoor.Gl
namespace Go.Proofs.YtcdpakjhjmchhaaGreatDoor.W
open Go Go.Proofs Wx
def z1 : List Value:=[.nilFunc]
def ti1 : TI:=⟨true,.fn,1,8,z1,[]⟩
def z3 : List Value:=[.int .i64 0]
def ti3 : TI:=⟨true,.int .i64,1,8,z3,[]⟩
def z4 : List Value:=[.bool false]
def ti4 : TI:=⟨true,.bool,1,1,z4,[]⟩
def z5 : List Value:=[.int .u8 0]
def ti5 : TI:=⟨true,.int .u8,1,1,z5,[]⟩
def z9 : List Value:=[.string (mkStr [])]
def ti9 : TI:=⟨true,.str,1,16,z9,[]⟩
def z22 : List Value:=[.slice none 0 0]
def ti22 : TI:=⟨true,.slice 3,1,24,z22,[]⟩
def z23 : List Value:=[.pointer none]
def ti23 : TI:=⟨true,.ptr 140,1,8,z23,[]⟩
def z25 : List Value:=[.int .i64 0,.int .i64 0,.int .i64 0,.int .i64 0,.int .i64 0]
def ti25 : TI:=⟨true,.struct [(0,3),(1,3),(2,3),(3,3),(4,3)],5,40,z25,[]⟩
def z28 : List Value:=[.int .i64 0]
def ti28 : TI:=⟨true,.int .i64,1,8,z28,[]⟩
def z33 : List Value:=[.slice none 0 0]
def ti33 : TI:=⟨true,.slice 5,1,24,z33,[]⟩
def z39 : List Value:=[.slice none 0 0]
def ti39 : TI:=⟨true,.slice 202,1,24,z39,[]⟩
def z41 : List Value:=[.int .i64 0,.slice none 0 0,.slice none 0 0]
def ti41 : TI:=⟨true,.struct [(0,3),(1,22),(2,39)],3,56,z41,[]⟩
def z42 : List Value:=[.int .i64 0,.int .i64 0,.int .i64 0,.int .i64 0,.int .i64 0,.int .i64 0,.int .i64 0,.int .i64 0,.int .i64 0,.int .i64 0]
def ti42 : TI:=⟨true,.arr 10 3,10,80,z42,[]⟩
def z44 : List Value:=List.replicate 15 (.int .i64 0)
def ti44 : TI:=⟨true,.struct [(0,3),(1,3),(2,3),(3,42),(13,3),(14,3)],15,120,z44,[(.int .i64),(.int .i64),(.int .i64),(.int .i64),(.int .i64),(.int .i64),(.int .i64),(.int .i64),(.int .i64),(.int .i64),(.int .i64),(.int .i64),(.int .i64),(.int .i64),(.int .i64)]⟩
def z45 : List Value:=[.slice none 0 0]
def ti45 : TI:=⟨true,.slice 53,1,24,z45,[]⟩
def z46 : List Value:=[.pointer none]
def ti46 : TI:=⟨true,.ptr 143,1,8,z46,[]⟩
def z50 : List Value:=[.slice none 0 0]
def ti50 : TI:=⟨true,.slice 56,1,24,z50,[]⟩
def z51 : List Value:=[.slice none 0 0]
def ti51 : TI:=⟨true,.slice 57,1,24,z51,[]⟩
def z53 : List Value:=[.int .i64 0,.int .i64 0]
def ti53 : TI:=⟨true,.struct [(0,3),(1,3)],2,16,z53,[]⟩
def z56 : List Value:=[.int .i64 0,.int .i64 0]
def ti56 : TI:=⟨true,.arr 2 3,2,16,z56,[(.int .i64),(.int .i64)]⟩
def z57 : List Value:=List.replicate 30 (.int .i64 0)
def ti57 : TI:=⟨true,.arr 2 44,30,240,z57,[]⟩
def z71 : List Value:=[.int .u64 0]
def ti71 : TI:=⟨true,.int .u64,1,8,z71,[]⟩
def z75 : List Value:=[.map none]
def ti75 : TI:=⟨true,.map 3 3,1,8,z75,[]⟩
def z82 : List Value:=[.slice none 0 0]
def ti82 : TI:=⟨true,.slice 9,1,24,z82,[]⟩
def z89 : List Value:=[.slice none 0 0]
def ti89 : TI:=⟨true,.slice 95,1,24,z89,[]⟩
def z90 : List Value:=[.slice none 0 0]
def ti90 : TI:=⟨true,.slice 182,1,24,z90,[]⟩
def z92 : List Value:=[.int .i64 0,.slice none 0 0]
def ti92 : TI:=⟨true,.struct [(0,3),(1,90)],2,32,z92,[]⟩
def z93 : List Value:=[.int .i64 0,.slice none 0 0,.int .i64 0,.slice none 0 0]
def ti93 : TI:=⟨true,.arr 2 92,4,64,z93,[]⟩
def z95 : List Value:=[.bool false,.bool false,.int .i64 0,.string (mkStr [])]
def ti95 : TI:=⟨true,.struct [(0,4),(1,4),(2,3),(3,9)],4,32,z95,[]⟩
def z102 : List Value:=[.slice none 0 0]
def ti102 : TI:=⟨true,.slice 44,1,24,z102,[]⟩
def z103 : List Value:=[.pointer none]
def ti103 : TI:=⟨true,.ptr 192,1,8,z103,[]⟩
def z109 : List Value:=[.nilFunc]
def ti109 : TI:=⟨true,.fn,1,8,z109,[]⟩
def z113 : List Value:=[.pointer none]
def ti113 : TI:=⟨true,.ptr 28,1,8,z113,[]⟩
def z118 : List Value:=[.int .i64 0,.int .i64 0,.int .i64 0,.int .i64 0]
def ti118 : TI:=⟨true,.struct [(0,3),(1,3),(2,3),(3,3)],4,32,z118,[]⟩
def z123 : List Value:=[.pointer none,.slice none 0 0]
def ti123 : TI:=⟨true,.struct [(0,121),(1,33)],2,32,z123,[]⟩
def z133 : List Value:=[.pointer none]
def ti133 : TI:=⟨true,.ptr 204,1,8,z133,[]⟩
def z137 : List Value:=[.map none]
def ti137 : TI:=⟨true,.map 3 33,1,8,z137,[]⟩
def z138 : List Value:=[.slice none 0 0]
def ti138 : TI:=⟨true,.slice 1,1,24,z138,[]⟩
def z140 : List Value:=[.pointer none,.map none,.slice none 0 0,.bool false]
def ti140 : TI:=⟨true,.struct [(0,103),(1,137),(2,138),(3,4)],4,48,z140,[]⟩
def z141 : List Value:=[.slice none 0 0]
def ti141 : TI:=⟨true,.slice 226,1,24,z141,[]⟩
def z143 : List Value:=[.pointer none,.slice none 0 0,.bool false]
def ti143 : TI:=⟨true,.struct [(0,133),(1,141),(2,4)],3,40,z143,[]⟩
def z144 : List Value:=[.pointer none]
def ti144 : TI:=⟨true,.ptr 146,1,8,z144,[]⟩
def z146 : List Value:=(.pointer none)::List.replicate 20 (.int .i64 0)
def ti146 : TI:=⟨true,.struct [(0,23),(1,25),(6,44)],21,168,z146,[]⟩
def z149 : List Value:=[.int .i64 0,.int .i64 0]
def ti149 : TI:=⟨true,.struct [(0,3),(1,3)],2,16,z149,[]⟩
def z157 : List Value:=[.nilFunc]
def ti157 : TI:=⟨true,.fn,1,8,z157,[]⟩
def z162 : List Value:=[.nilFunc]
def ti162 : TI:=⟨true,.fn,1,8,z162,[]⟩
def z165 : List Value:=[.nilFunc]
def ti165 : TI:=⟨true,.fn,1,8,z165,[]⟩
def z168 : List Value:=[.pointer none,.int .i64 0,.int .i64 0,.int .i64 0,.int .i64 0,.int .i64 0,.slice none 0 0,.slice none 0 0,.int .i64 0,.int .i64 0]
def ti168 : TI:=⟨true,.struct [(0,46),(1,25),(6,50),(7,22),(8,3),(9,28)],10,112,z168,[]⟩
def z182 : List Value:=[.int .i64 0,.string (mkStr [])]
def ti182 : TI:=⟨true,.struct [(0,3),(1,9)],2,24,z182,[]⟩
def z185 : List Value:=[.slice none 0 0]
def ti185 : TI:=⟨true,.slice 4,1,24,z185,[]⟩
def z188 : List Value:=[.slice none 0 0]
def ti188 : TI:=⟨true,.slice 194,1,24,z188,[]⟩
def z189 : List Value:=[.slice none 0 0]
def ti189 : TI:=⟨true,.slice 230,1,24,z189,[]⟩
def z190 : List Value:=[.slice none 0 0]
def ti190 : TI:=⟨true,.slice 247,1,24,z190,[]⟩
def z192 : List Value:=[.slice none 0 0,.slice none 0 0,.int .i64 0,.slice none 0 0,.bool false,.int .i64 0,.int .i64 0,.slice none 0 0]
def ti192 : TI:=⟨true,.struct [(0,188),(1,189),(2,3),(3,185),(4,4),(5,3),(6,3),(7,190)],8,128,z192,[]⟩
def z194 : List Value:=List.replicate 512 (.int .u8 0)
def ti194 : TI:=⟨true,.arr 512 5,512,512,z194,[]⟩
def z202 : List Value:=[.int .i64 0,.slice none 0 0]
def ti202 : TI:=⟨true,.struct [(0,3),(1,33)],2,32,z202,[]⟩
def z204 : List Value:=[.slice none 0 0,.slice none 0 0,.slice none 0 0,.int .i64 0,.bool false,.int .i64 0,.int .i64 0]
def ti204 : TI:=⟨true,.struct [(0,33),(1,190),(2,185),(3,3),(4,4),(5,3),(6,3)],7,104,z204,[]⟩
def z205 : List Value:=[.slice none 0 0]
def ti205 : TI:=⟨true,.slice 149,1,24,z205,[]⟩
def z215 : List Value:=[.int .u64 0]
def ti215 : TI:=⟨true,.int .u64,1,8,z215,[]⟩
def z226 : List Value:=[.int .i64 0,.string (mkStr [])]
def ti226 : TI:=⟨true,.struct [(0,3),(1,9)],2,24,z226,[]⟩
def z230 : List Value:=(.int .i64 0)::List.replicate 512 (.int .u8 0)
def ti230 : TI:=⟨true,.struct [(0,3),(1,194)],513,520,z230,[]⟩
def z238 : List Value:=[.int .i64 0,.int .i64 0,.int .i64 0,.int .i64 0,.int .i64 0,.int .i64 0,.int .i64 0,.int .i64 0,.int .i64 0,.int .i64 0,.int .i64 0,.int .i64 0]
def ti238 : TI:=⟨true,.arr 12 3,12,96,z238,[]⟩
def z247 : List Value:=[.int .i64 0,.int .i64 0,.slice none 0 0]
def ti247 : TI:=⟨true,.struct [(0,3),(1,3),(2,33)],3,40,z247,[]⟩
def z253 : List Value:=[.bool false,.bool false,.bool false,.bool false,.bool false,.bool false,.bool false,.bool false,.bool false]
def ti253 : TI:=⟨true,.arr 9 4,9,9,z253,[]⟩
def tiTab : List (Nat×TI):=[(1,ti1),(3,ti3),(4,ti4),(5,ti5),(9,ti9),(22,ti22),(23,ti23),(25,ti25),(28,ti28),(33,ti33),(39,ti39),(41,ti41),(42,ti42),(44,ti44),(45,ti45),(46,ti46),(50,ti50),(51,ti51),(53,ti53),(56,ti56),(57,ti57),(71,ti71),(75,ti75),(82,ti82),(89,ti89),(90,ti90),(92,ti92),(93,ti93),(95,ti95),(102,ti102),(103,ti103),(109,ti109),(113,ti113),(118,ti118),(123,ti123),(133,ti133),(137,ti137),(138,ti138),(140,ti140),(141,ti141),(143,ti143),(144,ti144),(146,ti146),(149,ti149),(157,ti157),(162,ti162),(165,ti165),(168,ti168),(182,ti182),(185,ti185),(188,ti188),(189,ti189),(190,ti190),(192,ti192),(194,ti194),(202,ti202),(204,ti204),(205,ti205),(215,ti215),(226,ti226),(230,ti230),(238,ti238),(247,ti247),(253,ti253)]
def sigTab : List (Nat×List Ty):=[(0,[]),(1,[.clo]),(3,[.int .i64]),(4,[.bool]),(9,[.str]),(22,[.slice]),(23,[.ptr]),(25,[.agg]),(26,[.ptr,.agg]),(28,[.int .i64]),(29,[.int .i64,.int .i64]),(33,[.slice]),(34,[.str,.int .i64]),(44,[.agg]),(46,[.ptr]),(47,[.ptr,.ptr,.agg,.bool]),(60,[.agg,.int .i64,.int .i64]),(63,[.agg,.int .i64]),(66,[.slice,.slice,.int .i64]),(83,[.slice,.int .i64]),(85,[.bool,.int .i64]),(92,[.agg]),(104,[.ptr,.int .i64]),(115,[.any]),(127,[.int .i64,.any]),(131,[.slice,.agg]),(134,[.ptr,.int .i64]),(151,[.int .i64,.slice]),(155,[.slice,.int .i64]),(157,[.clo]),(163,[.slice,.slice,.int .i64]),(174,[.any]),(178,[.int .i64,.slice,.int .i64,.int .i64]),(196,[.any]),(205,[.slice]),(207,[.int .i64,.slice,.int .i64]),(212,[.ptr]),(223,[.int .u64,.int .i64]),(231,[.int .i64,.int .i64,.int .i64]),(238,[.agg])]
def natTab : List Nat:=[]
def panTab : List Nat:=[]
noncomputable def cx (loops:Nat→List Nat×List (Nat×Ty)) (orders:Nat→Od):Ctx:=⟨Tryz.prog,tiOf tiTab,sigOf sigTab,loops,orders,natTab,panTab⟩
theorem natTab_ok : ∀ g ∈ natTab,NatOk Tryz.prog g:=by
 simp only [natTab,List.forall_mem_cons]
 exact fun _ h=>absurd h List.not_mem_nil
theorem tiok1 : TIok Tryz.prog 1 ti1:=⟨by kernel_rfl,by kernel_rfl,by kernel_rfl,by kernel_rfl,by kernel_rfl⟩
theorem tiok3 : TIok Tryz.prog 3 ti3:=⟨by kernel_rfl,by kernel_rfl,by kernel_rfl,by kernel_rfl,by kernel_rfl⟩
theorem tiok4 : TIok Tryz.prog 4 ti4:=⟨by kernel_rfl,by kernel_rfl,by kernel_rfl,by kernel_rfl,by kernel_rfl⟩
theorem tiok5 : TIok Tryz.prog 5 ti5:=⟨by kernel_rfl,by kernel_rfl,by kernel_rfl,by kernel_rfl,by kernel_rfl⟩
theorem tiok9 : TIok Tryz.prog 9 ti9:=⟨by kernel_rfl,by kernel_rfl,by kernel_rfl,by kernel_rfl,by kernel_rfl⟩
theorem tiok22 : TIok Tryz.prog 22 ti22:=⟨by kernel_rfl,by kernel_rfl,by kernel_rfl,by kernel_rfl,by kernel_rfl⟩
theorem tiok23 : TIok Tryz.prog 23 ti23:=⟨by kernel_rfl,by kernel_rfl,by kernel_rfl,by kernel_rfl,by kernel_rfl⟩
theorem tiok25 : TIok Tryz.prog 25 ti25:=⟨by kernel_rfl,by kernel_rfl,by kernel_rfl,by kernel_rfl,by kernel_rfl⟩
theorem tiok28 : TIok Tryz.prog 28 ti28:=⟨by kernel_rfl,by kernel_rfl,by kernel_rfl,by kernel_rfl,by kernel_rfl⟩
theorem tiok33 : TIok Tryz.prog 33 ti33:=⟨by kernel_rfl,by kernel_rfl,by kernel_rfl,by kernel_rfl,by kernel_rfl⟩
theorem tiok39 : TIok Tryz.prog 39 ti39:=⟨by kernel_rfl,by kernel_rfl,by kernel_rfl,by kernel_rfl,by kernel_rfl⟩
theorem tiok41 : TIok Tryz.prog 41 ti41:=⟨by kernel_rfl,by kernel_rfl,by kernel_rfl,by kernel_rfl,by kernel_rfl⟩
theorem tiok42 : TIok Tryz.prog 42 ti42:=⟨by kernel_rfl,by kernel_rfl,by kernel_rfl,by kernel_rfl,by kernel_rfl⟩
theorem tiok44 : TIok Tryz.prog 44 ti44:=⟨by kernel_rfl,by kernel_rfl,by kernel_rfl,by kernel_rfl,by kernel_rfl⟩
theorem tiok45 : TIok Tryz.prog 45 ti45:=⟨by kernel_rfl,by kernel_rfl,by kernel_rfl,by kernel_rfl,by kernel_rfl⟩
theorem tiok46 : TIok Tryz.prog 46 ti46:=⟨by kernel_rfl,by kernel_rfl,by kernel_rfl,by kernel_rfl,by kernel_rfl⟩
theorem tiok50 : TIok Tryz.prog 50 ti50:=⟨by kernel_rfl,by kernel_rfl,by kernel_rfl,by kernel_rfl,by kernel_rfl⟩
theorem tiok51 : TIok Tryz.prog 51 ti51:=⟨by kernel_rfl,by kernel_rfl,by kernel_rfl,by kernel_rfl,by kernel_rfl⟩
theorem tiok53 : TIok Tryz.prog 53 ti53:=⟨by kernel_rfl,by kernel_rfl,by kernel_rfl,by kernel_rfl,by kernel_rfl⟩
theorem tiok56 : TIok Tryz.prog 56 ti56:=⟨by kernel_rfl,by kernel_rfl,by kernel_rfl,by kernel_rfl,by kernel_rfl⟩
theorem tiok57 : TIok Tryz.prog 57 ti57:=⟨by kernel_rfl,by kernel_rfl,by kernel_rfl,by kernel_rfl,by kernel_rfl⟩
theorem tiok71 : TIok Tryz.prog 71 ti71:=⟨by kernel_rfl,by kernel_rfl,by kernel_rfl,by kernel_rfl,by kernel_rfl⟩
theorem tiok75 : TIok Tryz.prog 75 ti75:=⟨by kernel_rfl,by kernel_rfl,by kernel_rfl,by kernel_rfl,by kernel_rfl⟩
theorem tiok82 : TIok Tryz.prog 82 ti82:=⟨by kernel_rfl,by kernel_rfl,by kernel_rfl,by kernel_rfl,by kernel_rfl⟩
theorem tiok89 : TIok Tryz.prog 89 ti89:=⟨by kernel_rfl,by kernel_rfl,by kernel_rfl,by kernel_rfl,by kernel_rfl⟩
theorem tiok90 : TIok Tryz.prog 90 ti90:=⟨by kernel_rfl,by kernel_rfl,by kernel_rfl,by kernel_rfl,by kernel_rfl⟩
theorem tiok92 : TIok Tryz.prog 92 ti92:=⟨by kernel_rfl,by kernel_rfl,by kernel_rfl,by kernel_rfl,by kernel_rfl⟩
theorem tiok93 : TIok Tryz.prog 93 ti93:=⟨by kernel_rfl,by kernel_rfl,by kernel_rfl,by kernel_rfl,by kernel_rfl⟩
theorem tiok95 : TIok Tryz.prog 95 ti95:=⟨by kernel_rfl,by kernel_rfl,by kernel_rfl,by kernel_rfl,by kernel_rfl⟩
theorem tiok102 : TIok Tryz.prog 102 ti102:=⟨by kernel_rfl,by kernel_rfl,by kernel_rfl,by kernel_rfl,by kernel_rfl⟩
theorem tiok103 : TIok Tryz.prog 103 ti103:=⟨by kernel_rfl,by kernel_rfl,by kernel_rfl,by kernel_rfl,by kernel_rfl⟩
theorem tiok109 : TIok Tryz.prog 109 ti109:=⟨by kernel_rfl,by kernel_rfl,by kernel_rfl,by kernel_rfl,by kernel_rfl⟩
theorem tiok113 : TIok Tryz.prog 113 ti113:=⟨by kernel_rfl,by kernel_rfl,by kernel_rfl,by kernel_rfl,by kernel_rfl⟩
theorem tiok118 : TIok Tryz.prog 118 ti118:=⟨by kernel_rfl,by kernel_rfl,by kernel_rfl,by kernel_rfl,by kernel_rfl⟩
theorem tiok123 : TIok Tryz.prog 123 ti123:=⟨by kernel_rfl,by kernel_rfl,by kernel_rfl,by kernel_rfl,by kernel_rfl⟩
theorem tiok133 : TIok Tryz.prog 133 ti133:=⟨by kernel_rfl,by kernel_rfl,by kernel_rfl,by kernel_rfl,by kernel_rfl⟩
theorem tiok137 : TIok Tryz.prog 137 ti137:=⟨by kernel_rfl,by kernel_rfl,by kernel_rfl,by kernel_rfl,by kernel_rfl⟩
theorem tiok138 : TIok Tryz.prog 138 ti138:=⟨by kernel_rfl,by kernel_rfl,by kernel_rfl,by kernel_rfl,by kernel_rfl⟩
theorem tiok140 : TIok Tryz.prog 140 ti140:=⟨by kernel_rfl,by kernel_rfl,by kernel_rfl,by kernel_rfl,by kernel_rfl⟩
theorem tiok141 : TIok Tryz.prog 141 ti141:=⟨by kernel_rfl,by kernel_rfl,by kernel_rfl,by kernel_rfl,by kernel_rfl⟩
theorem tiok143 : TIok Tryz.prog 143 ti143:=⟨by kernel_rfl,by kernel_rfl,by kernel_rfl,by kernel_rfl,by kernel_rfl⟩
theorem tiok144 : TIok Tryz.prog 144 ti144:=⟨by kernel_rfl,by kernel_rfl,by kernel_rfl,by kernel_rfl,by kernel_rfl⟩
theorem tiok146 : TIok Tryz.prog 146 ti146:=⟨by kernel_rfl,by kernel_rfl,by kernel_rfl,by kernel_rfl,by kernel_rfl⟩
theorem tiok149 : TIok Tryz.prog 149 ti149:=⟨by kernel_rfl,by kernel_rfl,by kernel_rfl,by kernel_rfl,by kernel_rfl⟩
theorem tiok157 : TIok Tryz.prog 157 ti157:=⟨by kernel_rfl,by kernel_rfl,by kernel_rfl,by kernel_rfl,by kernel_rfl⟩
theorem tiok162 : TIok Tryz.prog 162 ti162:=⟨by kernel_rfl,by kernel_rfl,by kernel_rfl,by kernel_rfl,by kernel_rfl⟩
theorem tiok165 : TIok Tryz.prog 165 ti165:=⟨by kernel_rfl,by kernel_rfl,by kernel_rfl,by kernel_rfl,by kernel_rfl⟩
theorem tiok168 : TIok Tryz.prog 168 ti168:=⟨by kernel_rfl,by kernel_rfl,by kernel_rfl,by kernel_rfl,by kernel_rfl⟩
theorem tiok182 : TIok Tryz.prog 182 ti182:=⟨by kernel_rfl,by kernel_rfl,by kernel_rfl,by kernel_rfl,by kernel_rfl⟩
theorem tiok185 : TIok Tryz.prog 185 ti185:=⟨by kernel_rfl,by kernel_rfl,by kernel_rfl,by kernel_rfl,by kernel_rfl⟩
theorem tiok188 : TIok Tryz.prog 188 ti188:=⟨by kernel_rfl,by kernel_rfl,by kernel_rfl,by kernel_rfl,by kernel_rfl⟩
theorem tiok189 : TIok Tryz.prog 189 ti189:=⟨by kernel_rfl,by kernel_rfl,by kernel_rfl,by kernel_rfl,by kernel_rfl⟩
theorem tiok190 : TIok Tryz.prog 190 ti190:=⟨by kernel_rfl,by kernel_rfl,by kernel_rfl,by kernel_rfl,by kernel_rfl⟩
theorem tiok192 : TIok Tryz.prog 192 ti192:=⟨by kernel_rfl,by kernel_rfl,by kernel_rfl,by kernel_rfl,by kernel_rfl⟩
theorem tiok194 : TIok Tryz.prog 194 ti194:=⟨by kernel_rfl,by kernel_rfl,by kernel_rfl,by kernel_rfl,by kernel_rfl⟩
theorem tiok202 : TIok Tryz.prog 202 ti202:=⟨by kernel_rfl,by kernel_rfl,by kernel_rfl,by kernel_rfl,by kernel_rfl⟩
theorem tiok204 : TIok Tryz.prog 204 ti204:=⟨by kernel_rfl,by kernel_rfl,by kernel_rfl,by kernel_rfl,by kernel_rfl⟩
theorem tiok205 : TIok Tryz.prog 205 ti205:=⟨by kernel_rfl,by kernel_rfl,by kernel_rfl,by kernel_rfl,by kernel_rfl⟩
theorem tiok215 : TIok Tryz.prog 215 ti215:=⟨by kernel_rfl,by kernel_rfl,by kernel_rfl,by kernel_rfl,by kernel_rfl⟩
theorem tiok226 : TIok Tryz.prog 226 ti226:=⟨by kernel_rfl,by kernel_rfl,by kernel_rfl,by kernel_rfl,by kernel_rfl⟩
theorem tiok230 : TIok Tryz.prog 230 ti230:=⟨by kernel_rfl,by kernel_rfl,by kernel_rfl,by kernel_rfl,by kernel_rfl⟩
theorem tiok238 : TIok Tryz.prog 238 ti238:=⟨by kernel_rfl,by kernel_rfl,by kernel_rfl,by kernel_rfl,by kernel_rfl⟩
theorem tiok247 : TIok Tryz.prog 247 ti247:=⟨by kernel_rfl,by kernel_rfl,by kernel_rfl,by kernel_rfl,by kernel_rfl⟩
theorem tiok253 : TIok Tryz.prog 253 ti253:=⟨by kernel_rfl,by kernel_rfl,by kernel_rfl,by kernel_rfl,by kernel_rfl⟩
theorem tiTab_ok : ∀ x ∈ tiTab,TIok Tryz.prog x.1 x.2:=by
 simp only [tiTab,List.forall_mem_cons]
 exact ⟨tiok1,tiok3,tiok4,tiok5,tiok9,tiok22,tiok23,tiok25,tiok28,tiok33,tiok39,tiok41,tiok42,tiok44,tiok45,tiok46,tiok50,tiok51,tiok53,tiok56,tiok57,tiok71,tiok75,tiok82,tiok89,tiok90,tiok92,tiok93,tiok95,tiok102,tiok103,tiok109,tiok113,tiok118,tiok123,tiok133,tiok137,tiok138,tiok140,tiok141,tiok143,tiok144,tiok146,tiok149,tiok157,tiok162,tiok165,tiok168,tiok182,tiok185,tiok188,tiok189,tiok190,tiok192,tiok194,tiok202,tiok204,tiok205,tiok215,tiok226,tiok230,tiok238,tiok247,tiok253,fun _ h=>absurd h List.not_mem_nil⟩
theorem cxOk (loops:Nat→List Nat×List (Nat×Ty)) (orders:Nat→Od):CtxOk (cx loops orders):=⟨natTab_ok,tiOf_ok tiTab tiTab_ok,by kernel_rfl⟩
def C.bolelaw12_FilePlain (n1:Int) (editsA1:Option Addr) (editsL1:Nat) (editsC1:Nat) (off1:Int) (size1:Int) (h:Heap) (k:Value→Heap→Prop):Prop:=HCalls Tryz.prog 9 [.int .i64 n1,.slice editsA1 editsL1 editsC1,.int .i64 off1,.int .i64 size1] h k
def C.bolelaw12_fresh (n1:Int) (h:Heap) (k:Value→Heap→Prop):Prop:=HCalls Tryz.prog 10 [.int .i64 n1] h k
def C.space_Free (t1:Option Addr) (g1:List Value) (h:Heap) (k:Value→Heap→Prop):Prop:=HCalls Tryz.prog 11 [.pointer t1,.agg ⟨g1⟩] h k
def C.file_Write (t1:Option Addr) (g1:List Value) (n1:Int) (off1:Int) (s1:ByteArray) (h:Heap) (k:Value→Heap→Prop):Prop:=HCalls Tryz.prog 12 [.pointer t1,.agg ⟨g1⟩,.int .i64 n1,.int .i64 off1,.string s1] h k
def C.bolelaw12_mod (v1:Int) (n1:Int) (h:Heap) (k:Value→Heap→Prop):Prop:=HCalls Tryz.prog 13 [.int .i64 v1,.int .i64 n1] h k
def C.file_Read (t1:Option Addr) (g1:List Value) (n1:Int) (off1:Int) (size1:Int) (h:Heap) (k:Value→Heap→Prop):Prop:=HCalls Tryz.prog 14 [.pointer t1,.agg ⟨g1⟩,.int .i64 n1,.int .i64 off1,.int .i64 size1] h k
def C.file_Cut (t1:Option Addr) (g1:List Value) (n1:Int) (size1:Int) (h:Heap) (k:Value→Heap→Prop):Prop:=HCalls Tryz.prog 15 [.pointer t1,.agg ⟨g1⟩,.int .i64 n1,.int .i64 size1] h k
def C.file_Blocks (t1:Option Addr) (g1:List Value) (n1:Int) (h:Heap) (k:Value→Heap→Prop):Prop:=HCalls Tryz.prog 16 [.pointer t1,.agg ⟨g1⟩,.int .i64 n1] h k
def C.txn_Txn_Mark (t1:Option Addr) (h:Heap) (k:Value→Heap→Prop):Prop:=HCalls Tryz.prog 19 [.pointer t1] h k
def C.bmap_Find (t1:Option Addr) (g1:List Value) (x1:List Value) (k1:Int) (h:Heap) (k:Value→Heap→Prop):Prop:=HCalls Tryz.prog 22 [.pointer t1,.agg ⟨g1⟩,.agg ⟨x1⟩,.int .i64 k1] h k
def C.bmap_Add (t1:Option Addr) (g1:List Value) (x1:List Value) (k1:Int) (h:Heap) (k:Value→Heap→Prop):Prop:=HCalls Tryz.prog 24 [.pointer t1,.agg ⟨g1⟩,.agg ⟨x1⟩,.int .i64 k1] h k
def C.bmap_Cut (t1:Option Addr) (g1:List Value) (x1:List Value) (k1:Int) (h:Heap) (k:Value→Heap→Prop):Prop:=HCalls Tryz.prog 26 [.pointer t1,.agg ⟨g1⟩,.agg ⟨x1⟩,.int .i64 k1] h k
def C.bmap_All (t1:Option Addr) (g1:List Value) (x1:List Value) (h:Heap) (k:Value→Heap→Prop):Prop:=HCalls Tryz.prog 28 [.pointer t1,.agg ⟨g1⟩,.agg ⟨x1⟩] h k
def C.txn_Txn_Back (t1:Option Addr) (mark1:Int) (h:Heap) (k:Value→Heap→Prop):Prop:=HCalls Tryz.prog 32 [.pointer t1,.int .i64 mark1] h k
def C.txn_Txn_Written (t1:Option Addr) (h:Heap) (k:Value→Heap→Prop):Prop:=HCalls Tryz.prog 36 [.pointer t1] h k
def C.txn_Txn_Read (t1:Option Addr) (i1:Int) (h:Heap) (k:Value→Heap→Prop):Prop:=HCalls Tryz.prog 39 [.pointer t1,.int .i64 i1] h k
def C.space_Used (t1:Option Addr) (g1:List Value) (i1:Int) (h:Heap) (k:Value→Heap→Prop):Prop:=HCalls Tryz.prog 40 [.pointer t1,.agg ⟨g1⟩,.int .i64 i1] h k
def C.bolelaw12_Plain_with (p1:List Value) (e1:List Value) (h:Heap) (k:Value→Heap→Prop):Prop:=HCalls Tryz.prog 41 [.agg ⟨p1⟩,.agg ⟨e1⟩] h k
def C.bolelaw12_Plain_blocks (p1:List Value) (h:Heap) (k:Value→Heap→Prop):Prop:=HCalls Tryz.prog 42 [.agg ⟨p1⟩] h k
def C.bolelaw12_Plain_bytes (p1:List Value) (off1:Int) (n1:Int) (h:Heap) (k:Value→Heap→Prop):Prop:=HCalls Tryz.prog 43 [.agg ⟨p1⟩,.int .i64 off1,.int .i64 n1] h k
def C.boleref09_Geo (n1:Int) (h:Heap) (k:Value→Heap→Prop):Prop:=HCalls Tryz.prog 44 [.int .i64 n1] h k
def C.boleref12_Image (g1:List Value) (recordsA1:Option Addr) (recordsL1:Nat) (recordsC1:Nat) (h:Heap) (k:Value→Heap→Prop):Prop:=HCalls Tryz.prog 45 [.agg ⟨g1⟩,.slice recordsA1 recordsL1 recordsC1] h k
def C.adisk_Open (imageA1:Option Addr) (imageL1:Nat) (imageC1:Nat) (h:Heap) (k:Value→Heap→Prop):Prop:=HCalls Tryz.prog 46 [.slice imageA1 imageL1 imageC1] h k
def C.txn_Begin (d1:Option Addr) (h:Heap) (k:Value→Heap→Prop):Prop:=HCalls Tryz.prog 47 [.pointer d1] h k
def C.txn_Txn_Abort (t1:Option Addr) (h:Heap) (k:Value→Heap→Prop):Prop:=HCalls Tryz.prog 48 [.pointer t1] h k
def C.space_each (t1:Option Addr) (g1:List Value) (do1:Value) (h:Heap) (k:Value→Heap→Prop):Prop:=HCalls Tryz.prog 49 [.pointer t1,.agg ⟨g1⟩,do1] h k
def C.space_Free_c1 (first1:Int) (bA1:Option Addr) (bL1:Nat) (bC1:Nat) (x1:Option Addr) (x2:Option Addr) (h:Heap) (k:Value→Heap→Prop):Prop:=HCalls Tryz.prog 50 [.int .i64 first1,.slice bA1 bL1 bC1,.pointer x1,.pointer x2] h k
def C.space_rows (g1:List Value) (first1:Int) (bA1:Option Addr) (bL1:Nat) (bC1:Nat) (do1:Value) (h:Heap) (k:Value→Heap→Prop):Prop:=HCalls Tryz.prog 51 [.agg ⟨g1⟩,.int .i64 first1,.slice bA1 bL1 bC1,do1] h k
def C.space_Free_c1_c1 (from1:Int) (to1:Int) (x1:Option Addr) (h:Heap) (k:Value→Heap→Prop):Prop:=HCalls Tryz.prog 52 [.int .i64 from1,.int .i64 to1,.pointer x1] h k
def C.file_get (t1:Option Addr) (g1:List Value) (n1:Int) (h:Heap) (k:Value→Heap→Prop):Prop:=HCalls Tryz.prog 53 [.pointer t1,.agg ⟨g1⟩,.int .i64 n1] h k
def C.file_undo (t1:Option Addr) (e1:Option Addr) (h:Heap) (k:Value→Heap→Prop):Prop:=HCalls Tryz.prog 54 [.pointer t1,.pointer e1] h k
def C.file_parts (off1:Int) (n1:Int) (h:Heap) (k:Value→Heap→Prop):Prop:=HCalls Tryz.prog 55 [.int .i64 off1,.int .i64 n1] h k
def C.txn_Txn_Write (t1:Option Addr) (i1:Int) (bA1:Option Addr) (bL1:Nat) (bC1:Nat) (h:Heap) (k:Value→Heap→Prop):Prop:=HCalls Tryz.prog 56 [.pointer t1,.int .i64 i1,.slice bA1 bL1 bC1] h k
def C.inode_Put (t1:Option Addr) (g1:List Value) (n1:Int) (x1:List Value) (h:Heap) (k:Value→Heap→Prop):Prop:=HCalls Tryz.prog 57 [.pointer t1,.agg ⟨g1⟩,.int .i64 n1,.agg ⟨x1⟩] h k
def C.file_block (t1:Option Addr) (g1:List Value) (x1:List Value) (k1:Int) (h:Heap) (k:Value→Heap→Prop):Prop:=HCalls Tryz.prog 58 [.pointer t1,.agg ⟨g1⟩,.agg ⟨x1⟩,.int .i64 k1] h k
def C.strings_Builder_Write (b1:Option Addr) (pA1:Option Addr) (pL1:Nat) (pC1:Nat) (h:Heap) (k:Value→Heap→Prop):Prop:=HCalls Tryz.prog 59 [.pointer b1,.slice pA1 pL1 pC1] h k
def C.strings_Builder_String (b1:Option Addr) (h:Heap) (k:Value→Heap→Prop):Prop:=HCalls Tryz.prog 60 [.pointer b1] h k
def C.file_wipe (t1:Option Addr) (g1:List Value) (x1:List Value) (size1:Int) (h:Heap) (k:Value→Heap→Prop):Prop:=HCalls Tryz.prog 61 [.pointer t1,.agg ⟨g1⟩,.agg ⟨x1⟩,.int .i64 size1] h k
def C.bmap_file_walk (f1:Option Addr) (k1:Int) (hole1:Value) (h:Heap) (k:Value→Heap→Prop):Prop:=HCalls Tryz.prog 65 [.pointer f1,.int .i64 k1,hole1] h k
def C.bmap_Find_c1 (x1:List Value) (x2:Int) (xA1:Option Addr) (xL1:Nat) (xC1:Nat) (h:Heap) (k:Value→Heap→Prop):Prop:=HCalls Tryz.prog 66 [.agg ⟨x1⟩,.int .i64 x2,.slice xA1 xL1 xC1] h k
def C.bmap_guard (t1:Option Addr) (h:Heap) (k:Value→Heap→Prop):Prop:=HCalls Tryz.prog 71 [.pointer t1] h k
def C.bmap_Add_c2 (s1:List Value) (at1:Int) (bA1:Option Addr) (bL1:Nat) (bC1:Nat) (x1:Option Addr) (x2:Option Addr) (x3:Option Addr) (h:Heap) (k:Value→Heap→Prop):Prop:=HCalls Tryz.prog 73 [.agg ⟨s1⟩,.int .i64 at1,.slice bA1 bL1 bC1,.pointer x1,.pointer x2,.pointer x3] h k
def C.space_Take (t1:Option Addr) (g1:List Value) (h:Heap) (k:Value→Heap→Prop):Prop:=HCalls Tryz.prog 74 [.pointer t1,.agg ⟨g1⟩] h k
def C.bmap_file_set (f1:Option Addr) (s1:List Value) (at1:Int) (bA1:Option Addr) (bL1:Nat) (bC1:Nat) (num1:Int) (h:Heap) (k:Value→Heap→Prop):Prop:=HCalls Tryz.prog 75 [.pointer f1,.agg ⟨s1⟩,.int .i64 at1,.slice bA1 bL1 bC1,.int .i64 num1] h k
def C.bmap_file_give (f1:Option Addr) (num1:Int) (h:Heap) (k:Value→Heap→Prop):Prop:=HCalls Tryz.prog 78 [.pointer f1,.int .i64 num1] h k
def C.bmap_file_cut (f1:Option Addr) (table1:Int) (from1:Int) (drop1:Value) (h:Heap) (k:Value→Heap→Prop):Prop:=HCalls Tryz.prog 79 [.pointer f1,.int .i64 table1,.int .i64 from1,drop1] h k
def C.bmap_file_leaf (f1:Option Addr) (x1:Int) (num1:Int) (h:Heap) (k:Value→Heap→Prop):Prop:=HCalls Tryz.prog 80 [.pointer f1,.int .i64 x1,.int .i64 num1] h k
def C.bmap_Cut_c2 (i1:Int) (num1:Int) (x1:Option Addr) (x2:Option Addr) (h:Heap) (k:Value→Heap→Prop):Prop:=HCalls Tryz.prog 81 [.int .i64 i1,.int .i64 num1,.pointer x1,.pointer x2] h k
def C.bmap_All_c1 (k1:Int) (num1:Int) (x1:Option Addr) (x2:Option Addr) (h:Heap) (k:Value→Heap→Prop):Prop:=HCalls Tryz.prog 83 [.int .i64 k1,.int .i64 num1,.pointer x1,.pointer x2] h k
def C.bmap_file_look (f1:Option Addr) (num1:Int) (h:Heap) (k:Value→Heap→Prop):Prop:=HCalls Tryz.prog 84 [.pointer f1,.int .i64 num1] h k
def C.bmap_All_c2 (table1:Int) (do1:Value) (x1:Option Addr) (x2:Option Addr) (h:Heap) (k:Value→Heap→Prop):Prop:=HCalls Tryz.prog 85 [.int .i64 table1,do1,.pointer x1,.pointer x2] h k
def C.bmap_file_numbers (f1:Option Addr) (table1:Int) (h:Heap) (k:Value→Heap→Prop):Prop:=HCalls Tryz.prog 86 [.pointer f1,.int .i64 table1] h k
def C.bmap_All_c3 (i1:Int) (num1:Int) (x1:Option Addr) (h:Heap) (k:Value→Heap→Prop):Prop:=HCalls Tryz.prog 87 [.int .i64 i1,.int .i64 num1,.pointer x1] h k
def C.bmap_All_c4 (i1:Int) (table1:Int) (x1:Option Addr) (x2:Option Addr) (h:Heap) (k:Value→Heap→Prop):Prop:=HCalls Tryz.prog 88 [.int .i64 i1,.int .i64 table1,.pointer x1,.pointer x2] h k
def C.bmap_All_c4_c1 (j1:Int) (num1:Int) (x1:Option Addr) (x2:Option Addr) (h:Heap) (k:Value→Heap→Prop):Prop:=HCalls Tryz.prog 89 [.int .i64 j1,.int .i64 num1,.pointer x1,.pointer x2] h k
def C.slices_Sorted_int (seq1:Value) (h:Heap) (k:Value→Heap→Prop):Prop:=HCalls Tryz.prog 95 [seq1] h k
def C.maps_Keys_map_int_byte_int_byte (m1:Option Nat) (h:Heap) (k:Value→Heap→Prop):Prop:=HCalls Tryz.prog 96 [.map m1] h k
def C.adisk_Disk_Blocks (d1:Option Addr) (h:Heap) (k:Value→Heap→Prop):Prop:=HCalls Tryz.prog 97 [.pointer d1] h k
def C.slices_Clone_byte_byte (sA1:Option Addr) (sL1:Nat) (sC1:Nat) (h:Heap) (k:Value→Heap→Prop):Prop:=HCalls Tryz.prog 98 [.slice sA1 sL1 sC1] h k
def C.adisk_Disk_Read (d1:Option Addr) (i1:Int) (h:Heap) (k:Value→Heap→Prop):Prop:=HCalls Tryz.prog 99 [.pointer d1,.int .i64 i1] h k
def C.space_bit (t1:Option Addr) (g1:List Value) (i1:Int) (h:Heap) (k:Value→Heap→Prop):Prop:=HCalls Tryz.prog 100 [.pointer t1,.agg ⟨g1⟩,.int .i64 i1] h k
def C.bits_Get (bA1:Option Addr) (bL1:Nat) (bC1:Nat) (i1:Int) (h:Heap) (k:Value→Heap→Prop):Prop:=HCalls Tryz.prog 101 [.slice bA1 bL1 bC1,.int .i64 i1] h k
def C.bolelaw12_Plain_at (p1:List Value) (k1:Int) (h:Heap) (k:Value→Heap→Prop):Prop:=HCalls Tryz.prog 102 [.agg ⟨p1⟩,.int .i64 k1] h k
def C.bolelaw12_Plain_put (p1:List Value) (k1:Int) (s1:ByteArray) (h:Heap) (k:Value→Heap→Prop):Prop:=HCalls Tryz.prog 103 [.agg ⟨p1⟩,.int .i64 k1,.string s1] h k
def C.boleref11_Encode (x1:List Value) (h:Heap) (k:Value→Heap→Prop):Prop:=HCalls Tryz.prog 104 [.agg ⟨x1⟩] h k
def C.adisk_New (n1:Int) (h:Heap) (k:Value→Heap→Prop):Prop:=HCalls Tryz.prog 105 [.int .i64 n1] h k
def C.txn_Txn_end (t1:Option Addr) (h:Heap) (k:Value→Heap→Prop):Prop:=HCalls Tryz.prog 106 [.pointer t1] h k
def C.bits_Runs (bA1:Option Addr) (bL1:Nat) (bC1:Nat) (h:Heap) (k:Value→Heap→Prop):Prop:=HCalls Tryz.prog 107 [.slice bA1 bL1 bC1] h k
def C.inode_Get (t1:Option Addr) (g1:List Value) (n1:Int) (h:Heap) (k:Value→Heap→Prop):Prop:=HCalls Tryz.prog 108 [.pointer t1,.agg ⟨g1⟩,.int .i64 n1] h k
def C.file_parts_c1 (yield1:Value) (x1:Option Addr) (x2:Option Addr) (h:Heap) (k:Value→Heap→Prop):Prop:=HCalls Tryz.prog 110 [yield1,.pointer x1,.pointer x2] h k
def C.txn_Txn_Write_c1 (x1:Option Addr) (x2:Option Addr) (x3:Option Addr) (x4:Option Addr) (h:Heap) (k:Value→Heap→Prop):Prop:=HCalls Tryz.prog 111 [.pointer x1,.pointer x2,.pointer x3,.pointer x4] h k
def C.inode_isInode (g1:List Value) (n1:Int) (h:Heap) (k:Value→Heap→Prop):Prop:=HCalls Tryz.prog 112 [.agg ⟨g1⟩,.int .i64 n1] h k
def C.inode_Encode (x1:List Value) (h:Heap) (k:Value→Heap→Prop):Prop:=HCalls Tryz.prog 113 [.agg ⟨x1⟩] h k
def C.inode_place (t1:Option Addr) (g1:List Value) (n1:Int) (h:Heap) (k:Value→Heap→Prop):Prop:=HCalls Tryz.prog 114 [.pointer t1,.agg ⟨g1⟩,.int .i64 n1] h k
def C.strings_Builder_copyCheck (b1:Option Addr) (h:Heap) (k:Value→Heap→Prop):Prop:=HCalls Tryz.prog 115 [.pointer b1] h k
def C.bmap_way (k1:Int) (h:Heap) (k:Value→Heap→Prop):Prop:=HCalls Tryz.prog 118 [.int .i64 k1] h k
def C.bmap_file_number (f1:Option Addr) (s1:List Value) (at1:Int) (h:Heap) (k:Value→Heap→Prop):Prop:=HCalls Tryz.prog 119 [.pointer f1,.agg ⟨s1⟩,.int .i64 at1] h k
def C.bmap_guard_c1 (e1:Int) (x1:Option Addr) (x2:Option Addr) (x3:Option Addr) (h:Heap) (k:Value→Heap→Prop):Prop:=HCalls Tryz.prog 121 [.int .i64 e1,.pointer x1,.pointer x2,.pointer x3] h k
def C.space_Take_c1 (first1:Int) (bA1:Option Addr) (bL1:Nat) (bC1:Nat) (x1:Option Addr) (x2:Option Addr) (h:Heap) (k:Value→Heap→Prop):Prop:=HCalls Tryz.prog 122 [.int .i64 first1,.slice bA1 bL1 bC1,.pointer x1,.pointer x2] h k
def C.space_Take_c1_c1 (from1:Int) (x1:Int) (x2:Option Addr) (h:Heap) (k:Value→Heap→Prop):Prop:=HCalls Tryz.prog 123 [.int .i64 from1,.int .i64 x1,.pointer x2] h k
def C.space_back (t1:Option Addr) (mark1:Int) (e1:Option Addr) (h:Heap) (k:Value→Heap→Prop):Prop:=HCalls Tryz.prog 125 [.pointer t1,.int .i64 mark1,.pointer e1] h k
def C.space_set (t1:Option Addr) (g1:List Value) (i1:Int) (on1:Bool) (h:Heap) (k:Value→Heap→Prop):Prop:=HCalls Tryz.prog 126 [.pointer t1,.agg ⟨g1⟩,.int .i64 i1,.bool on1] h k
def C.bmap_file_own (f1:Option Addr) (s1:List Value) (h:Heap) (k:Value→Heap→Prop):Prop:=HCalls Tryz.prog 127 [.pointer f1,.agg ⟨s1⟩] h k
def C.rec_Put (bA1:Option Addr) (bL1:Nat) (bC1:Nat) (at1:Int) (n1:Int) (v1:Int) (h:Heap) (k:Value→Heap→Prop):Prop:=HCalls Tryz.prog 128 [.slice bA1 bL1 bC1,.int .i64 at1,.int .i64 n1,.int .u64 v1] h k
def C.space_Give (t1:Option Addr) (g1:List Value) (i1:Int) (h:Heap) (k:Value→Heap→Prop):Prop:=HCalls Tryz.prog 133 [.pointer t1,.agg ⟨g1⟩,.int .i64 i1] h k
def C.rec_Get (bA1:Option Addr) (bL1:Nat) (bC1:Nat) (at1:Int) (n1:Int) (h:Heap) (k:Value→Heap→Prop):Prop:=HCalls Tryz.prog 137 [.slice bA1 bL1 bC1,.int .i64 at1,.int .i64 n1] h k
def C.adisk_Disk_has (d1:Option Addr) (i1:Int) (h:Heap) (k:Value→Heap→Prop):Prop:=HCalls Tryz.prog 144 [.pointer d1,.int .i64 i1] h k
def C.geo_Bit (g1:List Value) (i1:Int) (h:Heap) (k:Value→Heap→Prop):Prop:=HCalls Tryz.prog 145 [.agg ⟨g1⟩,.int .i64 i1] h k
def C.bits_has (bA1:Option Addr) (bL1:Nat) (bC1:Nat) (i1:Int) (h:Heap) (k:Value→Heap→Prop):Prop:=HCalls Tryz.prog 146 [.slice bA1 bL1 bC1,.int .i64 i1] h k
def C.bits_on (bA1:Option Addr) (bL1:Nat) (bC1:Nat) (i1:Int) (h:Heap) (k:Value→Heap→Prop):Prop:=HCalls Tryz.prog 147 [.slice bA1 bL1 bC1,.int .i64 i1] h k
def C.boleref11_May (x1:List Value) (h:Heap) (k:Value→Heap→Prop):Prop:=HCalls Tryz.prog 148 [.agg ⟨x1⟩] h k
def C.boleref11_laid (x1:List Value) (h:Heap) (k:Value→Heap→Prop):Prop:=HCalls Tryz.prog 149 [.agg ⟨x1⟩] h k
def C.bits_Runs_c1 (yield1:Value) (x1:Option Addr) (h:Heap) (k:Value→Heap→Prop):Prop:=HCalls Tryz.prog 150 [yield1,.pointer x1] h k
def C.inode_Decode (bA1:Option Addr) (bL1:Nat) (bC1:Nat) (h:Heap) (k:Value→Heap→Prop):Prop:=HCalls Tryz.prog 151 [.slice bA1 bL1 bC1] h k
def C.inode_within (v1:Int) (low1:Int) (high1:Int) (h:Heap) (k:Value→Heap→Prop):Prop:=HCalls Tryz.prog 152 [.int .i64 v1,.int .i64 low1,.int .i64 high1] h k
def C.inode_may (x1:List Value) (h:Heap) (k:Value→Heap→Prop):Prop:=HCalls Tryz.prog 153 [.agg ⟨x1⟩] h k
def C.inode_numbers (x1:List Value) (h:Heap) (k:Value→Heap→Prop):Prop:=HCalls Tryz.prog 154 [.agg ⟨x1⟩] h k
def C.geo_Record (g1:List Value) (n1:Int) (h:Heap) (k:Value→Heap→Prop):Prop:=HCalls Tryz.prog 155 [.agg ⟨g1⟩,.int .i64 n1] h k
def C.bits_Put (bA1:Option Addr) (bL1:Nat) (bC1:Nat) (i1:Int) (is1:Bool) (h:Heap) (k:Value→Heap→Prop):Prop:=HCalls Tryz.prog 157 [.slice bA1 bL1 bC1,.int .i64 i1,.bool is1] h k
def C.rec_isWidth (n1:Int) (h:Heap) (k:Value→Heap→Prop):Prop:=HCalls Tryz.prog 158 [.int .i64 n1] h k
def C.rec_lie (bA1:Option Addr) (bL1:Nat) (bC1:Nat) (at1:Int) (n1:Int) (h:Heap) (k:Value→Heap→Prop):Prop:=HCalls Tryz.prog 159 [.slice bA1 bL1 bC1,.int .i64 at1,.int .i64 n1] h k
def C.boleref11_within (n1:Int) (low1:Int) (high1:Int) (h:Heap) (k:Value→Heap→Prop):Prop:=HCalls Tryz.prog 167 [.int .i64 n1,.int .i64 low1,.int .i64 high1] h k
def C.boleref11_low (n1:Int) (bytes1:Int) (h:Heap) (k:Value→Heap→Prop):Prop:=HCalls Tryz.prog 168 [.int .i64 n1,.int .i64 bytes1] h k
def C.inode_Decode_c1 (at1:Int) (n1:Int) (x1:Option Addr) (h:Heap) (k:Value→Heap→Prop):Prop:=HCalls Tryz.prog 169 [.int .i64 at1,.int .i64 n1,.pointer x1] h k
def C.rec_Zero (bA1:Option Addr) (bL1:Nat) (bC1:Nat) (at1:Int) (n1:Int) (h:Heap) (k:Value→Heap→Prop):Prop:=HCalls Tryz.prog 170 [.slice bA1 bL1 bC1,.int .i64 at1,.int .i64 n1] h k
def C.rec_zeros (bA1:Option Addr) (bL1:Nat) (bC1:Nat) (h:Heap) (k:Value→Heap→Prop):Prop:=HCalls Tryz.prog 182 [.slice bA1 bL1 bC1] h k
def D.bmap_Add_c1 (x1:Option Addr) (x2:Option Addr) (x3:Option Addr) (x4:Option Addr) (h:Heap) (k:Heap→Prop):Prop:=DCalls Tryz.prog 72 [.pointer x1,.pointer x2,.pointer x3,.pointer x4] h k
def D.bmap_Cut_c1 (x1:Option Addr) (x2:Option Addr) (x3:Option Addr) (h:Heap) (k:Heap→Prop):Prop:=DCalls Tryz.prog 77 [.pointer x1,.pointer x2,.pointer x3] h k
def D.space_Take_c2 (x1:Option Addr) (x2:Option Addr) (x3:Option Addr) (h:Heap) (k:Heap→Prop):Prop:=DCalls Tryz.prog 124 [.pointer x1,.pointer x2,.pointer x3] h k
end Go.Proofs.YtcdpakjhjmchhaaGreatDoor.W
namespace Go.Proofs.YtcdpakjhjmchhaaGreatDoor.W
open Go Go.Proofs Wx
def bolelaw12_FilePlain.k1 (off1:Int) (size1:Int) (h3:Heap) (q1:Option Addr) (h5:Heap) (h10:Heap) (K:Value→Heap→Prop):Prop :=
 C.bolelaw12_mod off1 300000 h10 fun r3 h11 =>
 ∃ (n6:Int),r3 = .int .i64 n6 ∧
 C.bolelaw12_mod size1 6000 h11 fun r4 h12 =>
 ∃ (n7:Int),r4 = .int .i64 n7 ∧
 ∃ (I2:Int→Heap→Prop) (M2:Int→Heap→Nat),I2 0 h12 ∧
 ∀ (k1:Int),∀ h13:Heap,I2 k1 h13 →
 bif (decide (k1<2)) then (
 ∃ cs3:List Value,List.length cs3=5∧Cells h13 ⟨h3.size,0,none⟩ cs3 ∧
 C.file_Read q1 cs3 (IntKind.wrap .i64 (2+k1)) n6 n7 h13 fun r5 h14 =>
 ∃ (s1:ByteArray) (n8:Int),r5 = .tuple #[.string s1,.int .i64 n8] ∧
 ∃ cs4:List Value,List.length cs4=5∧Cells h14 ⟨h3.size,0,none⟩ cs4 ∧
 C.file_Read q1 cs4 (IntKind.wrap .i64 (2+k1)) 0 3000 h14 fun r6 h15 =>
 ∃ (s2:ByteArray) (n9:Int),r6 = .tuple #[.string s2,.int .i64 n9] ∧
 bif (n8 != 0) then (
 K (.bool false) h15) else (
 bif (n9 != 0) then (
 K (.bool false) h15) else (
 (0≤k1∧k1<(2:Int)) ∧
 ∃ cs5:List Value,List.length cs5=2∧Cells h15 (Addr.add ⟨h5.size,0,none⟩ ((Int.toNat k1)*2)) cs5 ∧
 C.bolelaw12_Plain_bytes cs5 n6 n7 h15 fun r7 h16 =>
 ∃ (s3:ByteArray),r7 = .string s3 ∧
 bif (!(s1.toList == s3.toList)) then (
 K (.bool false) h16) else (
 (0≤k1∧k1<(2:Int)) ∧
 ∃ cs6:List Value,List.length cs6=2∧Cells h16 (Addr.add ⟨h5.size,0,none⟩ ((Int.toNat k1)*2)) cs6 ∧
 C.bolelaw12_Plain_bytes cs6 0 3000 h16 fun r8 h17 =>
 ∃ (s4:ByteArray),r8 = .string s4 ∧
 bif (!(s2.toList == s4.toList)) then (
 K (.bool false) h17) else (
 I2 (IntKind.wrap .i64 (k1+1)) h17∧M2 (IntKind.wrap .i64 (k1+1)) h17<M2 k1 h13))))) else (
 K (.bool true) h13)
def bolelaw12_FilePlain.k5 (h3:Heap) (q1:Option Addr) (h5:Heap) (n3:Int) (n4:Int) (n5:Int) (h7:Heap) (I1:Int→Heap→Prop) (M1:Int→Heap→Nat) (k2:Int) (next1:Option Addr) (f1:Int) (h27:Heap) (K:Value→Heap→Prop):Prop :=
 onSome next1 fun p2 =>
 ∃ cs11:List Value,List.length cs11=2∧Cells h27 p2 cs11 ∧
 (0≤(IntKind.wrap .i64 (1 - k2))∧(IntKind.wrap .i64 (1 - k2))<(2:Int)) ∧
 ∃ cs12:List Value,List.length cs12=2∧Cells h27 (Addr.add ⟨h5.size,0,none⟩ ((Int.toNat (IntKind.wrap .i64 (1 - k2)))*2)) cs12 ∧
 C.bolelaw12_Plain_blocks cs11 h27 fun r12 h28 =>
 ∃ (n14:Int),r12 = .int .i64 n14 ∧
 (List.length (cs12:List Value)=2∧Cells h28 (Addr.add ⟨h5.size,0,none⟩ ((Int.toNat (IntKind.wrap .i64 (1 - k2)))*2)) cs12) ∧
 C.bolelaw12_Plain_blocks cs12 h28 fun r13 h29 =>
 ∃ (n15:Int),r13 = .int .i64 n15 ∧
 bif (decide ((IntKind.wrap .i64 (n14+n15))≤(IntKind.wrap .i64 (n3 - n4)))) then (
 bif (f1 == 0) then (
 onSome next1 fun p3 =>
 ∃ cs13:List Value,List.length cs13=2∧Cells h29 p3 cs13 ∧
 (0≤k2∧k2<(2:Int)) ∧
 PutRow (Addr.add ⟨h5.size,0,none⟩ ((Int.toNat k2)*2)) cs13 2 h29 fun h30 =>
 ∃ cs14:List Value,List.length cs14=5∧Cells h30 ⟨h3.size,0,none⟩ cs14 ∧
 C.file_Blocks q1 cs14 2 h30 fun r14 h31 =>
 ∃ (n16:Int) (n17:Int),r14 = .tuple #[.int .i64 n16,.int .i64 n17] ∧
 ∃ cs15:List Value,List.length cs15=5∧Cells h31 ⟨h3.size,0,none⟩ cs15 ∧
 C.file_Blocks q1 cs15 3 h31 fun r15 h32 =>
 ∃ (n18:Int) (n19:Int),r15 = .tuple #[.int .i64 n18,.int .i64 n19] ∧
 ∃ cs16:List Value,List.length cs16=5∧Cells h32 ⟨h3.size,0,none⟩ cs16 ∧
 C.space_Free q1 cs16 h32 fun r16 h33 =>
 ∃ (n20:Int) (n21:Int),r16 = .tuple #[.int .i64 n20,.int .i64 n21] ∧
 bif (n17 != 0) then (
 K (.bool false) h33) else (
 bif (n19 != 0) then (
 K (.bool false) h33) else (
 bif (n21 != 0) then (
 K (.bool false) h33) else (
 (0≤(0:Int)∧0<(2:Int)) ∧
 ∃ cs17:List Value,List.length cs17=2∧Cells h33 (Addr.add ⟨h5.size,0,none⟩ ((Int.toNat 0)*2)) cs17 ∧
 C.bolelaw12_Plain_blocks cs17 h33 fun r17 h34 =>
 ∃ (n22:Int),r17 = .int .i64 n22 ∧
 bif (n16 != n22) then (
 K (.bool false) h34) else (
 (0≤(1:Int)∧1<(2:Int)) ∧
 ∃ cs18:List Value,List.length cs18=2∧Cells h34 (Addr.add ⟨h5.size,0,none⟩ ((Int.toNat 1)*2)) cs18 ∧
 C.bolelaw12_Plain_blocks cs18 h34 fun r18 h35 =>
 ∃ (n23:Int),r18 = .int .i64 n23 ∧
 bif (n18 != n23) then (
 K (.bool false) h35) else (
 bif (n20 != (IntKind.wrap .i64 ((IntKind.wrap .i64 ((IntKind.wrap .i64 (n3 - n4)) - n16)) - n18))) then (
 K (.bool false) h35) else (
 I1 (IntKind.wrap .i64 (n5+1)) h35∧M1 (IntKind.wrap .i64 (n5+1)) h35<M1 n5 h7))))))) else (
 bif (decide ((IntKind.wrap .i64 (n14+n15))≤(IntKind.wrap .i64 (n3 - n4)))) then (
 bif (f1 == 60) then (
 C.txn_Txn_Written q1 h29 fun r19 h36 =>
 ∃ (sA1:Option Addr) (sL1:Nat) (sC1:Nat),r19 = .slice sA1 sL1 sC1 ∧
 bif (decide ((sL1:Int)>60)) then (
 ∃ cs19:List Value,List.length cs19=5∧Cells h36 ⟨h3.size,0,none⟩ cs19 ∧
 C.file_Blocks q1 cs19 2 h36 fun r20 h37 =>
 ∃ (n24:Int) (n25:Int),r20 = .tuple #[.int .i64 n24,.int .i64 n25] ∧
 ∃ cs20:List Value,List.length cs20=5∧Cells h37 ⟨h3.size,0,none⟩ cs20 ∧
 C.file_Blocks q1 cs20 3 h37 fun r21 h38 =>
 ∃ (n26:Int) (n27:Int),r21 = .tuple #[.int .i64 n26,.int .i64 n27] ∧
 ∃ cs21:List Value,List.length cs21=5∧Cells h38 ⟨h3.size,0,none⟩ cs21 ∧
 C.space_Free q1 cs21 h38 fun r22 h39 =>
 ∃ (n28:Int) (n29:Int),r22 = .tuple #[.int .i64 n28,.int .i64 n29] ∧
 bif (n25 != 0) then (
 K (.bool false) h39) else (
 bif (n27 != 0) then (
 K (.bool false) h39) else (
 bif (n29 != 0) then (
 K (.bool false) h39) else (
 (0≤(0:Int)∧0<(2:Int)) ∧
 ∃ cs22:List Value,List.length cs22=2∧Cells h39 (Addr.add ⟨h5.size,0,none⟩ ((Int.toNat 0)*2)) cs22 ∧
 C.bolelaw12_Plain_blocks cs22 h39 fun r23 h40 =>
 ∃ (n30:Int),r23 = .int .i64 n30 ∧
 bif (n24 != n30) then (
 K (.bool false) h40) else (
 (0≤(1:Int)∧1<(2:Int)) ∧
 ∃ cs23:List Value,List.length cs23=2∧Cells h40 (Addr.add ⟨h5.size,0,none⟩ ((Int.toNat 1)*2)) cs23 ∧
 C.bolelaw12_Plain_blocks cs23 h40 fun r24 h41 =>
 ∃ (n31:Int),r24 = .int .i64 n31 ∧
 bif (n26 != n31) then (
 K (.bool false) h41) else (
 bif (n28 != (IntKind.wrap .i64 ((IntKind.wrap .i64 ((IntKind.wrap .i64 (n3 - n4)) - n24)) - n26))) then (
 K (.bool false) h41) else (
 I1 (IntKind.wrap .i64 (n5+1)) h41∧M1 (IntKind.wrap .i64 (n5+1)) h41<M1 n5 h7))))))) else (
 bif (decide ((IntKind.wrap .i64 (n14+n15))≤(IntKind.wrap .i64 (n3 - n4)))) then (
 K (.bool false) h36) else (
 bif (f1 != 90) then (
 bif (f1 != 60) then (
 K (.bool false) h36) else (
 C.txn_Txn_Written q1 h36 fun r25 h42 =>
 ∃ (sA2:Option Addr) (sL2:Nat) (sC2:Nat),r25 = .slice sA2 sL2 sC2 ∧
 bif (decide ((sL2:Int)≤60)) then (
 K (.bool false) h42) else (
 ∃ cs24:List Value,List.length cs24=5∧Cells h42 ⟨h3.size,0,none⟩ cs24 ∧
 C.file_Blocks q1 cs24 2 h42 fun r26 h43 =>
 ∃ (n32:Int) (n33:Int),r26 = .tuple #[.int .i64 n32,.int .i64 n33] ∧
 ∃ cs25:List Value,List.length cs25=5∧Cells h43 ⟨h3.size,0,none⟩ cs25 ∧
 C.file_Blocks q1 cs25 3 h43 fun r27 h44 =>
 ∃ (n34:Int) (n35:Int),r27 = .tuple #[.int .i64 n34,.int .i64 n35] ∧
 ∃ cs26:List Value,List.length cs26=5∧Cells h44 ⟨h3.size,0,none⟩ cs26 ∧
 C.space_Free q1 cs26 h44 fun r28 h45 =>
 ∃ (n36:Int) (n37:Int),r28 = .tuple #[.int .i64 n36,.int .i64 n37] ∧
 bif (n33 != 0) then (
 K (.bool false) h45) else (
 bif (n35 != 0) then (
 K (.bool false) h45) else (
 bif (n37 != 0) then (
 K (.bool false) h45) else (
 (0≤(0:Int)∧0<(2:Int)) ∧
 ∃ cs27:List Value,List.length cs27=2∧Cells h45 (Addr.add ⟨h5.size,0,none⟩ ((Int.toNat 0)*2)) cs27 ∧
 C.bolelaw12_Plain_blocks cs27 h45 fun r29 h46 =>
 ∃ (n38:Int),r29 = .int .i64 n38 ∧
 bif (n32 != n38) then (
 K (.bool false) h46) else (
 (0≤(1:Int)∧1<(2:Int)) ∧
 ∃ cs28:List Value,List.length cs28=2∧Cells h46 (Addr.add ⟨h5.size,0,none⟩ ((Int.toNat 1)*2)) cs28 ∧
 C.bolelaw12_Plain_blocks cs28 h46 fun r30 h47 =>
 ∃ (n39:Int),r30 = .int .i64 n39 ∧
 bif (n34 != n39) then (
 K (.bool false) h47) else (
 bif (n36 != (IntKind.wrap .i64 ((IntKind.wrap .i64 ((IntKind.wrap .i64 (n3 - n4)) - n32)) - n34))) then (
 K (.bool false) h47) else (
 I1 (IntKind.wrap .i64 (n5+1)) h47∧M1 (IntKind.wrap .i64 (n5+1)) h47<M1 n5 h7))))))))) else (
 ∃ cs29:List Value,List.length cs29=5∧Cells h36 ⟨h3.size,0,none⟩ cs29 ∧
 C.file_Blocks q1 cs29 2 h36 fun r31 h48 =>
 ∃ (n40:Int) (n41:Int),r31 = .tuple #[.int .i64 n40,.int .i64 n41] ∧
 ∃ cs30:List Value,List.length cs30=5∧Cells h48 ⟨h3.size,0,none⟩ cs30 ∧
 C.file_Blocks q1 cs30 3 h48 fun r32 h49 =>
 ∃ (n42:Int) (n43:Int),r32 = .tuple #[.int .i64 n42,.int .i64 n43] ∧
 ∃ cs31:List Value,List.length cs31=5∧Cells h49 ⟨h3.size,0,none⟩ cs31 ∧
 C.space_Free q1 cs31 h49 fun r33 h50 =>
 ∃ (n44:Int) (n45:Int),r33 = .tuple #[.int .i64 n44,.int .i64 n45] ∧
 bif (n41 != 0) then (
 K (.bool false) h50) else (
 bif (n43 != 0) then (
 K (.bool false) h50) else (
 bif (n45 != 0) then (
 K (.bool false) h50) else (
 (0≤(0:Int)∧0<(2:Int)) ∧
 ∃ cs32:List Value,List.length cs32=2∧Cells h50 (Addr.add ⟨h5.size,0,none⟩ ((Int.toNat 0)*2)) cs32 ∧
 C.bolelaw12_Plain_blocks cs32 h50 fun r34 h51 =>
 ∃ (n46:Int),r34 = .int .i64 n46 ∧
 bif (n40 != n46) then (
 K (.bool false) h51) else (
 (0≤(1:Int)∧1<(2:Int)) ∧
 ∃ cs33:List Value,List.length cs33=2∧Cells h51 (Addr.add ⟨h5.size,0,none⟩ ((Int.toNat 1)*2)) cs33 ∧
 C.bolelaw12_Plain_blocks cs33 h51 fun r35 h52 =>
 ∃ (n47:Int),r35 = .int .i64 n47 ∧
 bif (n42 != n47) then (
 K (.bool false) h52) else (
 bif (n44 != (IntKind.wrap .i64 ((IntKind.wrap .i64 ((IntKind.wrap .i64 (n3 - n4)) - n40)) - n42))) then (
 K (.bool false) h52) else (
 I1 (IntKind.wrap .i64 (n5+1)) h52∧M1 (IntKind.wrap .i64 (n5+1)) h52<M1 n5 h7)))))))))) else (
 bif (decide ((IntKind.wrap .i64 (n14+n15))≤(IntKind.wrap .i64 (n3 - n4)))) then (
 K (.bool false) h29) else (
 bif (f1 != 90) then (
 bif (f1 != 60) then (
 K (.bool false) h29) else (
 C.txn_Txn_Written q1 h29 fun r36 h53 =>
 ∃ (sA3:Option Addr) (sL3:Nat) (sC3:Nat),r36 = .slice sA3 sL3 sC3 ∧
 bif (decide ((sL3:Int)≤60)) then (
 K (.bool false) h53) else (
 ∃ cs34:List Value,List.length cs34=5∧Cells h53 ⟨h3.size,0,none⟩ cs34 ∧
 C.file_Blocks q1 cs34 2 h53 fun r37 h54 =>
 ∃ (n48:Int) (n49:Int),r37 = .tuple #[.int .i64 n48,.int .i64 n49] ∧
 ∃ cs35:List Value,List.length cs35=5∧Cells h54 ⟨h3.size,0,none⟩ cs35 ∧
 C.file_Blocks q1 cs35 3 h54 fun r38 h55 =>
 ∃ (n50:Int) (n51:Int),r38 = .tuple #[.int .i64 n50,.int .i64 n51] ∧
 ∃ cs36:List Value,List.length cs36=5∧Cells h55 ⟨h3.size,0,none⟩ cs36 ∧
 C.space_Free q1 cs36 h55 fun r39 h56 =>
 ∃ (n52:Int) (n53:Int),r39 = .tuple #[.int .i64 n52,.int .i64 n53] ∧
 bif (n49 != 0) then (
 K (.bool false) h56) else (
 bif (n51 != 0) then (
 K (.bool false) h56) else (
 bif (n53 != 0) then (
 K (.bool false) h56) else (
 (0≤(0:Int)∧0<(2:Int)) ∧
 ∃ cs37:List Value,List.length cs37=2∧Cells h56 (Addr.add ⟨h5.size,0,none⟩ ((Int.toNat 0)*2)) cs37 ∧
 C.bolelaw12_Plain_blocks cs37 h56 fun r40 h57 =>
 ∃ (n54:Int),r40 = .int .i64 n54 ∧
 bif (n48 != n54) then (
 K (.bool false) h57) else (
 (0≤(1:Int)∧1<(2:Int)) ∧
 ∃ cs38:List Value,List.length cs38=2∧Cells h57 (Addr.add ⟨h5.size,0,none⟩ ((Int.toNat 1)*2)) cs38 ∧
 C.bolelaw12_Plain_blocks cs38 h57 fun r41 h58 =>
 ∃ (n55:Int),r41 = .int .i64 n55 ∧
 bif (n50 != n55) then (
 K (.bool false) h58) else (
 bif (n52 != (IntKind.wrap .i64 ((IntKind.wrap .i64 ((IntKind.wrap .i64 (n3 - n4)) - n48)) - n50))) then (
 K (.bool false) h58) else (
 I1 (IntKind.wrap .i64 (n5+1)) h58∧M1 (IntKind.wrap .i64 (n5+1)) h58<M1 n5 h7))))))))) else (
 ∃ cs39:List Value,List.length cs39=5∧Cells h29 ⟨h3.size,0,none⟩ cs39 ∧
 C.file_Blocks q1 cs39 2 h29 fun r42 h59 =>
 ∃ (n56:Int) (n57:Int),r42 = .tuple #[.int .i64 n56,.int .i64 n57] ∧
 ∃ cs40:List Value,List.length cs40=5∧Cells h59 ⟨h3.size,0,none⟩ cs40 ∧
 C.file_Blocks q1 cs40 3 h59 fun r43 h60 =>
 ∃ (n58:Int) (n59:Int),r43 = .tuple #[.int .i64 n58,.int .i64 n59] ∧
 ∃ cs41:List Value,List.length cs41=5∧Cells h60 ⟨h3.size,0,none⟩ cs41 ∧
 C.space_Free q1 cs41 h60 fun r44 h61 =>
 ∃ (n60:Int) (n61:Int),r44 = .tuple #[.int .i64 n60,.int .i64 n61] ∧
 bif (n57 != 0) then (
 K (.bool false) h61) else (
 bif (n59 != 0) then (
 K (.bool false) h61) else (
 bif (n61 != 0) then (
 K (.bool false) h61) else (
 (0≤(0:Int)∧0<(2:Int)) ∧
 ∃ cs42:List Value,List.length cs42=2∧Cells h61 (Addr.add ⟨h5.size,0,none⟩ ((Int.toNat 0)*2)) cs42 ∧
 C.bolelaw12_Plain_blocks cs42 h61 fun r45 h62 =>
 ∃ (n62:Int),r45 = .int .i64 n62 ∧
 bif (n56 != n62) then (
 K (.bool false) h62) else (
 (0≤(1:Int)∧1<(2:Int)) ∧
 ∃ cs43:List Value,List.length cs43=2∧Cells h62 (Addr.add ⟨h5.size,0,none⟩ ((Int.toNat 1)*2)) cs43 ∧
 C.bolelaw12_Plain_blocks cs43 h62 fun r46 h63 =>
 ∃ (n63:Int),r46 = .int .i64 n63 ∧
 bif (n58 != n63) then (
 K (.bool false) h63) else (
 bif (n60 != (IntKind.wrap .i64 ((IntKind.wrap .i64 ((IntKind.wrap .i64 (n3 - n4)) - n56)) - n58))) then (
 K (.bool false) h63) else (
 I1 (IntKind.wrap .i64 (n5+1)) h63∧M1 (IntKind.wrap .i64 (n5+1)) h63<M1 n5 h7)))))))))) else (
 bif (decide ((IntKind.wrap .i64 (n14+n15))≤(IntKind.wrap .i64 (n3 - n4)))) then (
 K (.bool false) h29) else (
 bif (f1 != 90) then (
 bif (f1 != 60) then (
 K (.bool false) h29) else (
 C.txn_Txn_Written q1 h29 fun r47 h64 =>
 ∃ (sA4:Option Addr) (sL4:Nat) (sC4:Nat),r47 = .slice sA4 sL4 sC4 ∧
 bif (decide ((sL4:Int)≤60)) then (
 K (.bool false) h64) else (
 ∃ cs44:List Value,List.length cs44=5∧Cells h64 ⟨h3.size,0,none⟩ cs44 ∧
 C.file_Blocks q1 cs44 2 h64 fun r48 h65 =>
 ∃ (n64:Int) (n65:Int),r48 = .tuple #[.int .i64 n64,.int .i64 n65] ∧
 ∃ cs45:List Value,List.length cs45=5∧Cells h65 ⟨h3.size,0,none⟩ cs45 ∧
 C.file_Blocks q1 cs45 3 h65 fun r49 h66 =>
 ∃ (n66:Int) (n67:Int),r49 = .tuple #[.int .i64 n66,.int .i64 n67] ∧
 ∃ cs46:List Value,List.length cs46=5∧Cells h66 ⟨h3.size,0,none⟩ cs46 ∧
 C.space_Free q1 cs46 h66 fun r50 h67 =>
 ∃ (n68:Int) (n69:Int),r50 = .tuple #[.int .i64 n68,.int .i64 n69] ∧
 bif (n65 != 0) then (
 K (.bool false) h67) else (
 bif (n67 != 0) then (
 K (.bool false) h67) else (
 bif (n69 != 0) then (
 K (.bool false) h67) else (
 (0≤(0:Int)∧0<(2:Int)) ∧
 ∃ cs47:List Value,List.length cs47=2∧Cells h67 (Addr.add ⟨h5.size,0,none⟩ ((Int.toNat 0)*2)) cs47 ∧
 C.bolelaw12_Plain_blocks cs47 h67 fun r51 h68 =>
 ∃ (n70:Int),r51 = .int .i64 n70 ∧
 bif (n64 != n70) then (
 K (.bool false) h68) else (
 (0≤(1:Int)∧1<(2:Int)) ∧
 ∃ cs48:List Value,List.length cs48=2∧Cells h68 (Addr.add ⟨h5.size,0,none⟩ ((Int.toNat 1)*2)) cs48 ∧
 C.bolelaw12_Plain_blocks cs48 h68 fun r52 h69 =>
 ∃ (n71:Int),r52 = .int .i64 n71 ∧
 bif (n66 != n71) then (
 K (.bool false) h69) else (
 bif (n68 != (IntKind.wrap .i64 ((IntKind.wrap .i64 ((IntKind.wrap .i64 (n3 - n4)) - n64)) - n66))) then (
 K (.bool false) h69) else (
 I1 (IntKind.wrap .i64 (n5+1)) h69∧M1 (IntKind.wrap .i64 (n5+1)) h69<M1 n5 h7))))))))) else (
 ∃ cs49:List Value,List.length cs49=5∧Cells h29 ⟨h3.size,0,none⟩ cs49 ∧
 C.file_Blocks q1 cs49 2 h29 fun r53 h70 =>
 ∃ (n72:Int) (n73:Int),r53 = .tuple #[.int .i64 n72,.int .i64 n73] ∧
 ∃ cs50:List Value,List.length cs50=5∧Cells h70 ⟨h3.size,0,none⟩ cs50 ∧
 C.file_Blocks q1 cs50 3 h70 fun r54 h71 =>
 ∃ (n74:Int) (n75:Int),r54 = .tuple #[.int .i64 n74,.int .i64 n75] ∧
 ∃ cs51:List Value,List.length cs51=5∧Cells h71 ⟨h3.size,0,none⟩ cs51 ∧
 C.space_Free q1 cs51 h71 fun r55 h72 =>
 ∃ (n76:Int) (n77:Int),r55 = .tuple #[.int .i64 n76,.int .i64 n77] ∧
 bif (n73 != 0) then (
 K (.bool false) h72) else (
 bif (n75 != 0) then (
 K (.bool false) h72) else (
 bif (n77 != 0) then (
 K (.bool false) h72) else (
 (0≤(0:Int)∧0<(2:Int)) ∧
 ∃ cs52:List Value,List.length cs52=2∧Cells h72 (Addr.add ⟨h5.size,0,none⟩ ((Int.toNat 0)*2)) cs52 ∧
 C.bolelaw12_Plain_blocks cs52 h72 fun r56 h73 =>
 ∃ (n78:Int),r56 = .int .i64 n78 ∧
 bif (n72 != n78) then (
 K (.bool false) h73) else (
 (0≤(1:Int)∧1<(2:Int)) ∧
 ∃ cs53:List Value,List.length cs53=2∧Cells h73 (Addr.add ⟨h5.size,0,none⟩ ((Int.toNat 1)*2)) cs53 ∧
 C.bolelaw12_Plain_blocks cs53 h73 fun r57 h74 =>
 ∃ (n79:Int),r57 = .int .i64 n79 ∧
 bif (n74 != n79) then (
 K (.bool false) h74) else (
 bif (n76 != (IntKind.wrap .i64 ((IntKind.wrap .i64 ((IntKind.wrap .i64 (n3 - n4)) - n72)) - n74))) then (
 K (.bool false) h74) else (
 I1 (IntKind.wrap .i64 (n5+1)) h74∧M1 (IntKind.wrap .i64 (n5+1)) h74<M1 n5 h7))))))))))) else (
 bif (decide ((IntKind.wrap .i64 (n14+n15))≤(IntKind.wrap .i64 (n3 - n4)))) then (
 bif (f1 == 60) then (
 C.txn_Txn_Written q1 h29 fun r58 h75 =>
 ∃ (sA5:Option Addr) (sL5:Nat) (sC5:Nat),r58 = .slice sA5 sL5 sC5 ∧
 bif (decide ((sL5:Int)>60)) then (
 ∃ cs54:List Value,List.length cs54=5∧Cells h75 ⟨h3.size,0,none⟩ cs54 ∧
 C.file_Blocks q1 cs54 2 h75 fun r59 h76 =>
 ∃ (n80:Int) (n81:Int),r59 = .tuple #[.int .i64 n80,.int .i64 n81] ∧
 ∃ cs55:List Value,List.length cs55=5∧Cells h76 ⟨h3.size,0,none⟩ cs55 ∧
 C.file_Blocks q1 cs55 3 h76 fun r60 h77 =>
 ∃ (n82:Int) (n83:Int),r60 = .tuple #[.int .i64 n82,.int .i64 n83] ∧
 ∃ cs56:List Value,List.length cs56=5∧Cells h77 ⟨h3.size,0,none⟩ cs56 ∧
 C.space_Free q1 cs56 h77 fun r61 h78 =>
 ∃ (n84:Int) (n85:Int),r61 = .tuple #[.int .i64 n84,.int .i64 n85] ∧
 bif (n81 != 0) then (
 K (.bool false) h78) else (
 bif (n83 != 0) then (
 K (.bool false) h78) else (
 bif (n85 != 0) then (
 K (.bool false) h78) else (
 (0≤(0:Int)∧0<(2:Int)) ∧
 ∃ cs57:List Value,List.length cs57=2∧Cells h78 (Addr.add ⟨h5.size,0,none⟩ ((Int.toNat 0)*2)) cs57 ∧
 C.bolelaw12_Plain_blocks cs57 h78 fun r62 h79 =>
 ∃ (n86:Int),r62 = .int .i64 n86 ∧
 bif (n80 != n86) then (
 K (.bool false) h79) else (
 (0≤(1:Int)∧1<(2:Int)) ∧
 ∃ cs58:List Value,List.length cs58=2∧Cells h79 (Addr.add ⟨h5.size,0,none⟩ ((Int.toNat 1)*2)) cs58 ∧
 C.bolelaw12_Plain_blocks cs58 h79 fun r63 h80 =>
 ∃ (n87:Int),r63 = .int .i64 n87 ∧
 bif (n82 != n87) then (
 K (.bool false) h80) else (
 bif (n84 != (IntKind.wrap .i64 ((IntKind.wrap .i64 ((IntKind.wrap .i64 (n3 - n4)) - n80)) - n82))) then (
 K (.bool false) h80) else (
 I1 (IntKind.wrap .i64 (n5+1)) h80∧M1 (IntKind.wrap .i64 (n5+1)) h80<M1 n5 h7))))))) else (
 bif (decide ((IntKind.wrap .i64 (n14+n15))≤(IntKind.wrap .i64 (n3 - n4)))) then (
 K (.bool false) h75) else (
 bif (f1 != 90) then (
 bif (f1 != 60) then (
 K (.bool false) h75) else (
 C.txn_Txn_Written q1 h75 fun r64 h81 =>
 ∃ (sA6:Option Addr) (sL6:Nat) (sC6:Nat),r64 = .slice sA6 sL6 sC6 ∧
 bif (decide ((sL6:Int)≤60)) then (
 K (.bool false) h81) else (
 ∃ cs59:List Value,List.length cs59=5∧Cells h81 ⟨h3.size,0,none⟩ cs59 ∧
 C.file_Blocks q1 cs59 2 h81 fun r65 h82 =>
 ∃ (n88:Int) (n89:Int),r65 = .tuple #[.int .i64 n88,.int .i64 n89] ∧
 ∃ cs60:List Value,List.length cs60=5∧Cells h82 ⟨h3.size,0,none⟩ cs60 ∧
 C.file_Blocks q1 cs60 3 h82 fun r66 h83 =>
 ∃ (n90:Int) (n91:Int),r66 = .tuple #[.int .i64 n90,.int .i64 n91] ∧
 ∃ cs61:List Value,List.length cs61=5∧Cells h83 ⟨h3.size,0,none⟩ cs61 ∧
 C.space_Free q1 cs61 h83 fun r67 h84 =>
 ∃ (n92:Int) (n93:Int),r67 = .tuple #[.int .i64 n92,.int .i64 n93] ∧
 bif (n89 != 0) then (
 K (.bool false) h84) else (
 bif (n91 != 0) then (
 K (.bool false) h84) else (
 bif (n93 != 0) then (
 K (.bool false) h84) else (
 (0≤(0:Int)∧0<(2:Int)) ∧
 ∃ cs62:List Value,List.length cs62=2∧Cells h84 (Addr.add ⟨h5.size,0,none⟩ ((Int.toNat 0)*2)) cs62 ∧
 C.bolelaw12_Plain_blocks cs62 h84 fun r68 h85 =>
 ∃ (n94:Int),r68 = .int .i64 n94 ∧
 bif (n88 != n94) then (
 K (.bool false) h85) else (
 (0≤(1:Int)∧1<(2:Int)) ∧
 ∃ cs63:List Value,List.length cs63=2∧Cells h85 (Addr.add ⟨h5.size,0,none⟩ ((Int.toNat 1)*2)) cs63 ∧
 C.bolelaw12_Plain_blocks cs63 h85 fun r69 h86 =>
 ∃ (n95:Int),r69 = .int .i64 n95 ∧
 bif (n90 != n95) then (
 K (.bool false) h86) else (
 bif (n92 != (IntKind.wrap .i64 ((IntKind.wrap .i64 ((IntKind.wrap .i64 (n3 - n4)) - n88)) - n90))) then (
 K (.bool false) h86) else (
 I1 (IntKind.wrap .i64 (n5+1)) h86∧M1 (IntKind.wrap .i64 (n5+1)) h86<M1 n5 h7))))))))) else (
 ∃ cs64:List Value,List.length cs64=5∧Cells h75 ⟨h3.size,0,none⟩ cs64 ∧
 C.file_Blocks q1 cs64 2 h75 fun r70 h87 =>
 ∃ (n96:Int) (n97:Int),r70 = .tuple #[.int .i64 n96,.int .i64 n97] ∧
 ∃ cs65:List Value,List.length cs65=5∧Cells h87 ⟨h3.size,0,none⟩ cs65 ∧
 C.file_Blocks q1 cs65 3 h87 fun r71 h88 =>
 ∃ (n98:Int) (n99:Int),r71 = .tuple #[.int .i64 n98,.int .i64 n99] ∧
 ∃ cs66:List Value,List.length cs66=5∧Cells h88 ⟨h3.size,0,none⟩ cs66 ∧
 C.space_Free q1 cs66 h88 fun r72 h89 =>
 ∃ (n100:Int) (n101:Int),r72 = .tuple #[.int .i64 n100,.int .i64 n101] ∧
 bif (n97 != 0) then (
 K (.bool false) h89) else (
 bif (n99 != 0) then (
 K (.bool false) h89) else (
 bif (n101 != 0) then (
 K (.bool false) h89) else (
 (0≤(0:Int)∧0<(2:Int)) ∧
 ∃ cs67:List Value,List.length cs67=2∧Cells h89 (Addr.add ⟨h5.size,0,none⟩ ((Int.toNat 0)*2)) cs67 ∧
 C.bolelaw12_Plain_blocks cs67 h89 fun r73 h90 =>
 ∃ (n102:Int),r73 = .int .i64 n102 ∧
 bif (n96 != n102) then (
 K (.bool false) h90) else (
 (0≤(1:Int)∧1<(2:Int)) ∧
 ∃ cs68:List Value,List.length cs68=2∧Cells h90 (Addr.add ⟨h5.size,0,none⟩ ((Int.toNat 1)*2)) cs68 ∧
 C.bolelaw12_Plain_blocks cs68 h90 fun r74 h91 =>
 ∃ (n103:Int),r74 = .int .i64 n103 ∧
 bif (n98 != n103) then (
 K (.bool false) h91) else (
 bif (n100 != (IntKind.wrap .i64 ((IntKind.wrap .i64 ((IntKind.wrap .i64 (n3 - n4)) - n96)) - n98))) then (
 K (.bool false) h91) else (
 I1 (IntKind.wrap .i64 (n5+1)) h91∧M1 (IntKind.wrap .i64 (n5+1)) h91<M1 n5 h7)))))))))) else (
 bif (decide ((IntKind.wrap .i64 (n14+n15))≤(IntKind.wrap .i64 (n3 - n4)))) then (
 K (.bool false) h29) else (
 bif (f1 != 90) then (
 bif (f1 != 60) then (
 K (.bool false) h29) else (
 C.txn_Txn_Written q1 h29 fun r75 h92 =>
 ∃ (sA7:Option Addr) (sL7:Nat) (sC7:Nat),r75 = .slice sA7 sL7 sC7 ∧
 bif (decide ((sL7:Int)≤60)) then (
 K (.bool false) h92) else (
 ∃ cs69:List Value,List.length cs69=5∧Cells h92 ⟨h3.size,0,none⟩ cs69 ∧
 C.file_Blocks q1 cs69 2 h92 fun r76 h93 =>
 ∃ (n104:Int) (n105:Int),r76 = .tuple #[.int .i64 n104,.int .i64 n105] ∧
 ∃ cs70:List Value,List.length cs70=5∧Cells h93 ⟨h3.size,0,none⟩ cs70 ∧
 C.file_Blocks q1 cs70 3 h93 fun r77 h94 =>
 ∃ (n106:Int) (n107:Int),r77 = .tuple #[.int .i64 n106,.int .i64 n107] ∧
 ∃ cs71:List Value,List.length cs71=5∧Cells h94 ⟨h3.size,0,none⟩ cs71 ∧
 C.space_Free q1 cs71 h94 fun r78 h95 =>
 ∃ (n108:Int) (n109:Int),r78 = .tuple #[.int .i64 n108,.int .i64 n109] ∧
 bif (n105 != 0) then (
 K (.bool false) h95) else (
 bif (n107 != 0) then (
 K (.bool false) h95) else (
 bif (n109 != 0) then (
 K (.bool false) h95) else (
 (0≤(0:Int)∧0<(2:Int)) ∧
 ∃ cs72:List Value,List.length cs72=2∧Cells h95 (Addr.add ⟨h5.size,0,none⟩ ((Int.toNat 0)*2)) cs72 ∧
 C.bolelaw12_Plain_blocks cs72 h95 fun r79 h96 =>
 ∃ (n110:Int),r79 = .int .i64 n110 ∧
 bif (n104 != n110) then (
 K (.bool false) h96) else (
 (0≤(1:Int)∧1<(2:Int)) ∧
 ∃ cs73:List Value,List.length cs73=2∧Cells h96 (Addr.add ⟨h5.size,0,none⟩ ((Int.toNat 1)*2)) cs73 ∧
 C.bolelaw12_Plain_blocks cs73 h96 fun r80 h97 =>
 ∃ (n111:Int),r80 = .int .i64 n111 ∧
 bif (n106 != n111) then (
 K (.bool false) h97) else (
 bif (n108 != (IntKind.wrap .i64 ((IntKind.wrap .i64 ((IntKind.wrap .i64 (n3 - n4)) - n104)) - n106))) then (
 K (.bool false) h97) else (
 I1 (IntKind.wrap .i64 (n5+1)) h97∧M1 (IntKind.wrap .i64 (n5+1)) h97<M1 n5 h7))))))))) else (
 ∃ cs74:List Value,List.length cs74=5∧Cells h29 ⟨h3.size,0,none⟩ cs74 ∧
 C.file_Blocks q1 cs74 2 h29 fun r81 h98 =>
 ∃ (n112:Int) (n113:Int),r81 = .tuple #[.int .i64 n112,.int .i64 n113] ∧
 ∃ cs75:List Value,List.length cs75=5∧Cells h98 ⟨h3.size,0,none⟩ cs75 ∧
 C.file_Blocks q1 cs75 3 h98 fun r82 h99 =>
 ∃ (n114:Int) (n115:Int),r82 = .tuple #[.int .i64 n114,.int .i64 n115] ∧
 ∃ cs76:List Value,List.length cs76=5∧Cells h99 ⟨h3.size,0,none⟩ cs76 ∧
 C.space_Free q1 cs76 h99 fun r83 h100 =>
 ∃ (n116:Int) (n117:Int),r83 = .tuple #[.int .i64 n116,.int .i64 n117] ∧
 bif (n113 != 0) then (
 K (.bool false) h100) else (
 bif (n115 != 0) then (
 K (.bool false) h100) else (
 bif (n117 != 0) then (
 K (.bool false) h100) else (
 (0≤(0:Int)∧0<(2:Int)) ∧
 ∃ cs77:List Value,List.length cs77=2∧Cells h100 (Addr.add ⟨h5.size,0,none⟩ ((Int.toNat 0)*2)) cs77 ∧
 C.bolelaw12_Plain_blocks cs77 h100 fun r84 h101 =>
 ∃ (n118:Int),r84 = .int .i64 n118 ∧
 bif (n112 != n118) then (
 K (.bool false) h101) else (
 (0≤(1:Int)∧1<(2:Int)) ∧
 ∃ cs78:List Value,List.length cs78=2∧Cells h101 (Addr.add ⟨h5.size,0,none⟩ ((Int.toNat 1)*2)) cs78 ∧
 C.bolelaw12_Plain_blocks cs78 h101 fun r85 h102 =>
 ∃ (n119:Int),r85 = .int .i64 n119 ∧
 bif (n114 != n119) then (
 K (.bool false) h102) else (
 bif (n116 != (IntKind.wrap .i64 ((IntKind.wrap .i64 ((IntKind.wrap .i64 (n3 - n4)) - n112)) - n114))) then (
 K (.bool false) h102) else (
 I1 (IntKind.wrap .i64 (n5+1)) h102∧M1 (IntKind.wrap .i64 (n5+1)) h102<M1 n5 h7)))))))))) else (
 bif (decide ((IntKind.wrap .i64 (n14+n15))≤(IntKind.wrap .i64 (n3 - n4)))) then (
 K (.bool false) h29) else (
 bif (f1 != 90) then (
 bif (f1 != 60) then (
 K (.bool false) h29) else (
 C.txn_Txn_Written q1 h29 fun r86 h103 =>
 ∃ (sA8:Option Addr) (sL8:Nat) (sC8:Nat),r86 = .slice sA8 sL8 sC8 ∧
 bif (decide ((sL8:Int)≤60)) then (
 K (.bool false) h103) else (
 ∃ cs79:List Value,List.length cs79=5∧Cells h103 ⟨h3.size,0,none⟩ cs79 ∧
 C.file_Blocks q1 cs79 2 h103 fun r87 h104 =>
 ∃ (n120:Int) (n121:Int),r87 = .tuple #[.int .i64 n120,.int .i64 n121] ∧
 ∃ cs80:List Value,List.length cs80=5∧Cells h104 ⟨h3.size,0,none⟩ cs80 ∧
 C.file_Blocks q1 cs80 3 h104 fun r88 h105 =>
 ∃ (n122:Int) (n123:Int),r88 = .tuple #[.int .i64 n122,.int .i64 n123] ∧
 ∃ cs81:List Value,List.length cs81=5∧Cells h105 ⟨h3.size,0,none⟩ cs81 ∧
 C.space_Free q1 cs81 h105 fun r89 h106 =>
 ∃ (n124:Int) (n125:Int),r89 = .tuple #[.int .i64 n124,.int .i64 n125] ∧
 bif (n121 != 0) then (
 K (.bool false) h106) else (
 bif (n123 != 0) then (
 K (.bool false) h106) else (
 bif (n125 != 0) then (
 K (.bool false) h106) else (
 (0≤(0:Int)∧0<(2:Int)) ∧
 ∃ cs82:List Value,List.length cs82=2∧Cells h106 (Addr.add ⟨h5.size,0,none⟩ ((Int.toNat 0)*2)) cs82 ∧
 C.bolelaw12_Plain_blocks cs82 h106 fun r90 h107 =>
 ∃ (n126:Int),r90 = .int .i64 n126 ∧
 bif (n120 != n126) then (
 K (.bool false) h107) else (
 (0≤(1:Int)∧1<(2:Int)) ∧
 ∃ cs83:List Value,List.length cs83=2∧Cells h107 (Addr.add ⟨h5.size,0,none⟩ ((Int.toNat 1)*2)) cs83 ∧
 C.bolelaw12_Plain_blocks cs83 h107 fun r91 h108 =>
 ∃ (n127:Int),r91 = .int .i64 n127 ∧
 bif (n122 != n127) then (
 K (.bool false) h108) else (
 bif (n124 != (IntKind.wrap .i64 ((IntKind.wrap .i64 ((IntKind.wrap .i64 (n3 - n4)) - n120)) - n122))) then (
 K (.bool false) h108) else (
 I1 (IntKind.wrap .i64 (n5+1)) h108∧M1 (IntKind.wrap .i64 (n5+1)) h108<M1 n5 h7))))))))) else (
 ∃ cs84:List Value,List.length cs84=5∧Cells h29 ⟨h3.size,0,none⟩ cs84 ∧
 C.file_Blocks q1 cs84 2 h29 fun r92 h109 =>
 ∃ (n128:Int) (n129:Int),r92 = .tuple #[.int .i64 n128,.int .i64 n129] ∧
 ∃ cs85:List Value,List.length cs85=5∧Cells h109 ⟨h3.size,0,none⟩ cs85 ∧
 C.file_Blocks q1 cs85 3 h109 fun r93 h110 =>
 ∃ (n130:Int) (n131:Int),r93 = .tuple #[.int .i64 n130,.int .i64 n131] ∧
 ∃ cs86:List Value,List.length cs86=5∧Cells h110 ⟨h3.size,0,none⟩ cs86 ∧
 C.space_Free q1 cs86 h110 fun r94 h111 =>
 ∃ (n132:Int) (n133:Int),r94 = .tuple #[.int .i64 n132,.int .i64 n133] ∧
 bif (n129 != 0) then (
 K (.bool false) h111) else (
 bif (n131 != 0) then (
 K (.bool false) h111) else (
 bif (n133 != 0) then (
 K (.bool false) h111) else (
 (0≤(0:Int)∧0<(2:Int)) ∧
 ∃ cs87:List Value,List.length cs87=2∧Cells h111 (Addr.add ⟨h5.size,0,none⟩ ((Int.toNat 0)*2)) cs87 ∧
 C.bolelaw12_Plain_blocks cs87 h111 fun r95 h112 =>
 ∃ (n134:Int),r95 = .int .i64 n134 ∧
 bif (n128 != n134) then (
 K (.bool false) h112) else (
 (0≤(1:Int)∧1<(2:Int)) ∧
 ∃ cs88:List Value,List.length cs88=2∧Cells h112 (Addr.add ⟨h5.size,0,none⟩ ((Int.toNat 1)*2)) cs88 ∧
 C.bolelaw12_Plain_blocks cs88 h112 fun r96 h113 =>
 ∃ (n135:Int),r96 = .int .i64 n135 ∧
 bif (n130 != n135) then (
 K (.bool false) h113) else (
 bif (n132 != (IntKind.wrap .i64 ((IntKind.wrap .i64 ((IntKind.wrap .i64 (n3 - n4)) - n128)) - n130))) then (
 K (.bool false) h113) else (
 I1 (IntKind.wrap .i64 (n5+1)) h113∧M1 (IntKind.wrap .i64 (n5+1)) h113<M1 n5 h7))))))))))
def bolelaw12_FilePlain.k4 (h3:Heap) (q1:Option Addr) (h5:Heap) (n3:Int) (n4:Int) (n5:Int) (h7:Heap) (I1:Int→Heap→Prop) (M1:Int→Heap→Nat) (k2:Int) (next1:Option Addr) (h25:Heap) (K:Value→Heap→Prop):Prop :=
 ∃ (b2:Bool),cellOf h25 (Addr.add ⟨h7.size,0,none⟩ 1)=some (.bool b2) ∧
 bif b2 then (
 ∃ cs10:List Value,List.length cs10=5∧Cells h25 ⟨h3.size,0,none⟩ cs10 ∧
 ∃ (n12:Int),cellOf h25 (Addr.add ⟨h7.size,0,none⟩ 2)=some (.int .i64 n12) ∧
 C.file_Cut q1 cs10 (IntKind.wrap .i64 (2+k2)) n12 h25 fun r11 h26 =>
 ∃ (n13:Int),r11 = .int .i64 n13 ∧
 bolelaw12_FilePlain.k5 h3 q1 h5 n3 n4 n5 h7 I1 M1 k2 next1 n13 h26 K) else (
 ∃ cs89:List Value,List.length cs89=5∧Cells h25 ⟨h3.size,0,none⟩ cs89 ∧
 ∃ (n136:Int),cellOf h25 (Addr.add ⟨h7.size,0,none⟩ 2)=some (.int .i64 n136) ∧
 ∃ (s7:ByteArray),cellOf h25 (Addr.add ⟨h7.size,0,none⟩ 3)=some (.string s7) ∧
 C.file_Write q1 cs89 (IntKind.wrap .i64 (2+k2)) n136 s7 h25 fun r97 h114 =>
 ∃ (n137:Int),r97 = .int .i64 n137 ∧
 bolelaw12_FilePlain.k5 h3 q1 h5 n3 n4 n5 h7 I1 M1 k2 next1 n137 h114 K)
def bolelaw12_FilePlain.k3 (h3:Heap) (q1:Option Addr) (h5:Heap) (n3:Int) (n4:Int) (n5:Int) (h7:Heap) (I1:Int→Heap→Prop) (M1:Int→Heap→Nat) (h21:Heap) (k2:Int) (K:Value→Heap→Prop):Prop :=
 (0≤k2∧k2<(2:Int)) ∧
 ∃ cs7:List Value,List.length cs7=2∧Cells h21 (Addr.add ⟨h5.size,0,none⟩ ((Int.toNat k2)*2)) cs7 ∧
 ∃ cs8:List Value,List.length cs8=4∧Cells h21 ⟨h7.size,0,none⟩ cs8 ∧
 (
 C.bolelaw12_Plain_with cs7 cs8 h21 fun r10 h22 =>
 ∃ (cs9:List Value),r10 = .agg ⟨cs9⟩ ∧
 New z92 92 h22 fun h23 =>
 (List.length (cs7:List Value)=2∧Cells h23 (Addr.add ⟨h5.size,0,none⟩ ((Int.toNat k2)*2)) cs7) ∧
 (List.length (cs8:List Value)=4∧Cells h23 ⟨h7.size,0,none⟩ cs8) ∧
 PutRow ⟨h22.size,0,none⟩ cs9 2 h23 fun h24 =>
 bolelaw12_FilePlain.k4 h3 q1 h5 n3 n4 n5 h7 I1 M1 k2 (some ⟨h22.size,0,none⟩) h24 K) ∧
 New z92 92 h21 fun h115 =>
 (List.length (cs7:List Value)=2∧Cells h115 (Addr.add ⟨h5.size,0,none⟩ ((Int.toNat k2)*2)) cs7) ∧
 (List.length (cs8:List Value)=4∧Cells h115 ⟨h7.size,0,none⟩ cs8) ∧
 C.bolelaw12_Plain_with cs7 cs8 h115 fun r98 h116 =>
 ∃ (cs90:List Value),r98 = .agg ⟨cs90⟩ ∧
 PutRow ⟨h21.size,0,none⟩ cs90 2 h116 fun h117 =>
 bolelaw12_FilePlain.k4 h3 q1 h5 n3 n4 n5 h7 I1 M1 k2 (some ⟨h21.size,0,none⟩) h117 K
def bolelaw12_FilePlain.k2 (h3:Heap) (q1:Option Addr) (h5:Heap) (n3:Int) (n4:Int) (n5:Int) (h7:Heap) (I1:Int→Heap→Prop) (M1:Int→Heap→Nat) (h21:Heap) (K:Value→Heap→Prop):Prop :=
 ∃ (b1:Bool),cellOf h21 (Addr.add ⟨h7.size,0,none⟩ 0)=some (.bool b1) ∧
 bif b1 then (
 bolelaw12_FilePlain.k3 h3 q1 h5 n3 n4 n5 h7 I1 M1 h21 1 K) else (
 bolelaw12_FilePlain.k3 h3 q1 h5 n3 n4 n5 h7 I1 M1 h21 0 K)
def bolelaw12_FilePlain (n1:Int) (editsA1:Option Addr) (editsL1:Nat) (_:Nat) (off1:Int) (size1:Int) (K:Value→Heap→Prop) (h1:Heap):Prop :=
 C.bolelaw12_mod n1 60 h1 fun r1 h2 =>
 ∃ (n2:Int),r1 = .int .i64 n2 ∧
 C.bolelaw12_fresh (IntKind.wrap .i64 (128+n2)) h2 fun r2 h3 =>
 ∃ (q1:Option Addr) (cs1:List Value),r2 = .tuple #[.pointer q1,.agg ⟨cs1⟩] ∧
 NewRow z25 25 cs1 5 h3 fun h5 =>
 bif (Option.isNone q1) then (
 K (.bool false) h5) else (
 New z93 93 h5 fun h6 =>
 ∃ (n3:Int),cellOf h6 (Addr.add ⟨h3.size,0,none⟩ 0)=some (.int .i64 n3) ∧
 ∃ (n4:Int),cellOf h6 (Addr.add ⟨h3.size,0,none⟩ 3)=some (.int .i64 n4) ∧
 ∃ (I1:Int→Heap→Prop) (M1:Int→Heap→Nat),I1 0 h6 ∧
 ∀ (n5:Int),∀ h7:Heap,I1 n5 h7 →
 bif (decide (n5<(editsL1:Int))) then (
 (0≤n5∧n5<(editsL1:Int)) ∧
 onSome editsA1 fun p1 =>
 ∃ cs2:List Value,List.length cs2=4∧Cells h7 (Addr.add p1 ((Int.toNat n5)*4)) cs2 ∧
 NewRow z95 95 cs2 4 h7 fun h9 =>
 bif (decide (n5≥24)) then (
 bolelaw12_FilePlain.k1 off1 size1 h3 q1 h5 h9 K) else (
 ∃ (n10:Int),cellOf h9 (Addr.add ⟨h7.size,0,none⟩ 2)=some (.int .i64 n10) ∧
 C.bolelaw12_mod n10 300000 h9 fun r9 h18 =>
 ∃ (n11:Int),r9 = .int .i64 n11 ∧
 Put (Addr.add ⟨h7.size,0,none⟩ 2) (.int .i64 n11) h18 fun h19 =>
 ∃ (s5:ByteArray),cellOf h19 (Addr.add ⟨h7.size,0,none⟩ 3)=some (.string s5) ∧
 bif (decide ((s5.size:Int)>4000)) then (
 ∃ (s6:ByteArray),cellOf h19 (Addr.add ⟨h7.size,0,none⟩ 3)=some (.string s6) ∧
 (0≤(4000:Int)∧4000≤(s6.size:Int)) ∧
 Put (Addr.add ⟨h7.size,0,none⟩ 3) (.string (ByteArray.extract s6 0 (Int.toNat 4000))) h19 fun h20 =>
 bolelaw12_FilePlain.k2 h3 q1 h5 n3 n4 n5 h7 I1 M1 h20 K) else (
 bolelaw12_FilePlain.k2 h3 q1 h5 n3 n4 n5 h7 I1 M1 h19 K))) else (
 bolelaw12_FilePlain.k1 off1 size1 h3 q1 h5 h7 K))
def bolelaw12_FilePlain.lo : Nat→List Nat×List (Nat×Ty):=fun n=>match n with|7=>([2,3,9,10,11,12,44,45],[(46,.int .i64)])|36=>([2,3,9,10,11],[(25,.int .i64)])|_=>([],[])
def bolelaw12_FilePlain.od : Nat→Od:=fun n=>match n with|16=>(.op 0 [] (.op 1 [] (.op 2 [] (.op 3 [] (.alt 4 [] (.op 5 [2,3] (.op 6 [] .nil)) (.op 5 [2,3] (.op 4 [] (.op 6 [] .nil))))))))|21=>(.op 0 [] (.op 2 [] (.op 3 [] (.op 4 [] (.op 5 [] (.op 8 [] (.op 1 [5] (.op 6 [] (.op 7 [] (.op 9 [] (.op 10 [] .nil)))))))))))|_ => .nil
set_option maxRecDepth 1000000 in
set_option maxRecDepth 1000000 in
theorem bolelaw12_FilePlain.ok {n1:Int} {editsA1:Option Addr} {editsL1:Nat} {editsC1:Nat} {off1:Int} {size1:Int} {K:Value→Heap→Prop} {h:Heap} (hx:bolelaw12_FilePlain n1 editsA1 editsL1 editsC1 off1 size1 K h):C.bolelaw12_FilePlain n1 editsA1 editsL1 editsC1 off1 size1 h K :=
 fn_to (c:=Tryz.f9.body.getD .skip) (cxOk bolelaw12_FilePlain.lo bolelaw12_FilePlain.od) Tryz.func9 (by kernel_rfl) (by kernel_rfl) (Eq.mpr (by kernel_rfl) hx)
def bolelaw12_fresh.k3 (h1:Heap) (h3:Heap) (q1:Option Addr) (q2:Option Addr) (h23:Heap) (K:Value→Heap→Prop):Prop :=
 C.txn_Txn_Abort q2 h23 fun r8 h24 =>
 r8 = .tuple #[] ∧
 ∃ cs14:List Value,List.length cs14=5∧Cells h24 ⟨h3.size,0,none⟩ cs14 ∧
 C.txn_Begin q1 h24 fun r9 h25 =>
 ∃ (q3:Option Addr),r9 = .pointer q3 ∧
 (List.length (cs14:List Value)=5∧Cells h25 ⟨h3.size,0,none⟩ cs14) ∧
 PutRow ⟨h1.size,0,none⟩ cs14 5 h25 fun h26 =>
 ∃ res9:List Value,List.length res9=5∧Cells h26 ⟨h1.size,0,none⟩ res9 ∧
 K (.tuple #[.pointer q3,.agg ⟨res9⟩]) h26
def bolelaw12_fresh.k2 (h1:Heap) (h3:Heap) (q1:Option Addr) (q2:Option Addr) (h16:Heap) (K:Value→Heap→Prop):Prop :=
 ∃ cs8:List Value,List.length cs8=5∧Cells h16 ⟨h3.size,0,none⟩ cs8 ∧
 C.file_Read q2 cs8 2 0 100 h16 fun r6 h17 =>
 ∃ (s1:ByteArray) (n4:Int),r6 = .tuple #[.string s1,.int .i64 n4] ∧
 ∃ cs9:List Value,List.length cs9=5∧Cells h17 ⟨h3.size,0,none⟩ cs9 ∧
 C.file_Blocks q2 cs9 2 h17 fun r7 h18 =>
 ∃ (n5:Int) (n6:Int),r7 = .tuple #[.int .i64 n5,.int .i64 n6] ∧
 bif (n4 != 0) then (
 ∃ cs10:List Value,List.length cs10=5∧Cells h18 ⟨h3.size,0,none⟩ cs10 ∧
 PutRow ⟨h1.size,0,none⟩ cs10 5 h18 fun h19 =>
 ∃ res5:List Value,List.length res5=5∧Cells h19 ⟨h1.size,0,none⟩ res5 ∧
 K (.tuple #[.pointer none,.agg ⟨res5⟩]) h19) else (
 bif (!(s1.toList == (mkStr [0,0,0,97,98,99]).toList)) then (
 ∃ cs11:List Value,List.length cs11=5∧Cells h18 ⟨h3.size,0,none⟩ cs11 ∧
 PutRow ⟨h1.size,0,none⟩ cs11 5 h18 fun h20 =>
 ∃ res6:List Value,List.length res6=5∧Cells h20 ⟨h1.size,0,none⟩ res6 ∧
 K (.tuple #[.pointer none,.agg ⟨res6⟩]) h20) else (
 bif (n6 != 0) then (
 ∃ cs12:List Value,List.length cs12=5∧Cells h18 ⟨h3.size,0,none⟩ cs12 ∧
 PutRow ⟨h1.size,0,none⟩ cs12 5 h18 fun h21 =>
 ∃ res7:List Value,List.length res7=5∧Cells h21 ⟨h1.size,0,none⟩ res7 ∧
 K (.tuple #[.pointer none,.agg ⟨res7⟩]) h21) else (
 bif (n5 != 1) then (
 ∃ cs13:List Value,List.length cs13=5∧Cells h18 ⟨h3.size,0,none⟩ cs13 ∧
 PutRow ⟨h1.size,0,none⟩ cs13 5 h18 fun h22 =>
 ∃ res8:List Value,List.length res8=5∧Cells h22 ⟨h1.size,0,none⟩ res8 ∧
 K (.tuple #[.pointer none,.agg ⟨res8⟩]) h22) else (
 bolelaw12_fresh.k3 h1 h3 q1 q2 h18 K))))
def bolelaw12_fresh.k1 (h1:Heap) (h3:Heap) (q1:Option Addr) (h11:Heap) (K:Value→Heap→Prop):Prop :=
 C.txn_Begin q1 h11 fun r4 h12 =>
 ∃ (q2:Option Addr),r4 = .pointer q2 ∧
 bif (Option.isNone q2) then (
 ∃ cs5:List Value,List.length cs5=5∧Cells h12 ⟨h3.size,0,none⟩ cs5 ∧
 PutRow ⟨h1.size,0,none⟩ cs5 5 h12 fun h13 =>
 ∃ res3:List Value,List.length res3=5∧Cells h13 ⟨h1.size,0,none⟩ res3 ∧
 K (.tuple #[.pointer none,.agg ⟨res3⟩]) h13) else (
 ∃ cs6:List Value,List.length cs6=5∧Cells h12 ⟨h3.size,0,none⟩ cs6 ∧
 C.file_Write q2 cs6 2 3 (mkStr [97,98,99]) h12 fun r5 h14 =>
 ∃ (n3:Int),r5 = .int .i64 n3 ∧
 bif (n3 != 0) then (
 ∃ cs7:List Value,List.length cs7=5∧Cells h14 ⟨h3.size,0,none⟩ cs7 ∧
 PutRow ⟨h1.size,0,none⟩ cs7 5 h14 fun h15 =>
 ∃ res4:List Value,List.length res4=5∧Cells h15 ⟨h1.size,0,none⟩ res4 ∧
 K (.tuple #[.pointer none,.agg ⟨res4⟩]) h15) else (
 bolelaw12_fresh.k2 h1 h3 q1 q2 h14 K))
def bolelaw12_fresh (n1:Int) (K:Value→Heap→Prop) (h1:Heap):Prop :=
 New z25 25 h1 fun h2 =>
 C.boleref09_Geo n1 h2 fun r1 h3 =>
 ∃ (cs1:List Value),r1 = .agg ⟨cs1⟩ ∧
 NewRow z25 25 cs1 5 h3 fun h5 =>
 ∃ cs2:List Value,List.length cs2=5∧Cells h5 ⟨h3.size,0,none⟩ cs2 ∧
 List.length ([.int .i64 2,.int .i64 2,.int .i64 0,.int .i64 0,.int .i64 0,.int .i64 0,.int .i64 0,.int .i64 0,.int .i64 0,.int .i64 0,.int .i64 0,.int .i64 0,.int .i64 0,.int .i64 0,.int .i64 0]:List Value)=15 ∧
 List.length ([.int .i64 1,.int .i64 1,.int .i64 0,.int .i64 0,.int .i64 0,.int .i64 0,.int .i64 0,.int .i64 0,.int .i64 0,.int .i64 0,.int .i64 0,.int .i64 0,.int .i64 0,.int .i64 0,.int .i64 0]:List Value)=15 ∧
 List.length ([.int .i64 1,.int .i64 1,.int .i64 0,.int .i64 0,.int .i64 0,.int .i64 0,.int .i64 0,.int .i64 0,.int .i64 0,.int .i64 0,.int .i64 0,.int .i64 0,.int .i64 0,.int .i64 0,.int .i64 0]:List Value)=15 ∧
 New [.int .i64 2,.int .i64 2,.int .i64 0,.int .i64 0,.int .i64 0,.int .i64 0,.int .i64 0,.int .i64 0,.int .i64 0,.int .i64 0,.int .i64 0,.int .i64 0,.int .i64 0,.int .i64 0,.int .i64 0,.int .i64 1,.int .i64 1,.int .i64 0,.int .i64 0,.int .i64 0,.int .i64 0,.int .i64 0,.int .i64 0,.int .i64 0,.int .i64 0,.int .i64 0,.int .i64 0,.int .i64 0,.int .i64 0,.int .i64 0,.int .i64 1,.int .i64 1,.int .i64 0,.int .i64 0,.int .i64 0,.int .i64 0,.int .i64 0,.int .i64 0,.int .i64 0,.int .i64 0,.int .i64 0,.int .i64 0,.int .i64 0,.int .i64 0,.int .i64 0] 44 h5 fun h6 =>
 C.boleref12_Image cs2 (some ⟨h5.size,0,none⟩) 3 3 h6 fun r2 h7 =>
 ∃ (sA1:Option Addr) (sL1:Nat) (sC1:Nat),r2 = .slice sA1 sL1 sC1 ∧
 C.adisk_Open sA1 sL1 sC1 h7 fun r3 h8 =>
 ∃ (q1:Option Addr) (n2:Int),r3 = .tuple #[.pointer q1,.int .i64 n2] ∧
 bif (n2 != 0) then (
 ∃ cs3:List Value,List.length cs3=5∧Cells h8 ⟨h3.size,0,none⟩ cs3 ∧
 PutRow ⟨h1.size,0,none⟩ cs3 5 h8 fun h9 =>
 ∃ res1:List Value,List.length res1=5∧Cells h9 ⟨h1.size,0,none⟩ res1 ∧
 K (.tuple #[.pointer none,.agg ⟨res1⟩]) h9) else (
 bif (Option.isNone q1) then (
 ∃ cs4:List Value,List.length cs4=5∧Cells h8 ⟨h3.size,0,none⟩ cs4 ∧
 PutRow ⟨h1.size,0,none⟩ cs4 5 h8 fun h10 =>
 ∃ res2:List Value,List.length res2=5∧Cells h10 ⟨h1.size,0,none⟩ res2 ∧
 K (.tuple #[.pointer none,.agg ⟨res2⟩]) h10) else (
 bolelaw12_fresh.k1 h1 h3 q1 h8 K))
def bolelaw12_fresh.lo : Nat→List Nat×List (Nat×Ty):=fun n=>match n with|_=>([],[])
def bolelaw12_fresh.od : Nat→Od:=fun n=>match n with|5=>(.op 0 [] (.op 1 [] (.op 2 [] .nil)))|8=>(.op 0 [] (.op 1 [] (.op 2 [] .nil)))|12=>(.op 0 [] (.op 1 [] (.op 2 [] .nil)))|14=>(.op 0 [] (.op 2 [] (.op 1 [2] (.op 3 [] (.op 4 [] .nil)))))|_ => .nil
theorem bolelaw12_fresh.ok {n1:Int} {K:Value→Heap→Prop} {h:Heap} (hx:bolelaw12_fresh n1 K h):C.bolelaw12_fresh n1 h K :=
 fn_to (c:=Tryz.f10.body.getD .skip) (cxOk bolelaw12_fresh.lo bolelaw12_fresh.od) Tryz.func10 (by kernel_rfl) (by kernel_rfl) (Eq.mpr (by kernel_rfl) hx)
def space_Free (t1:Option Addr) (g1:List Value) (K:Value→Heap→Prop) (h1:Heap):Prop :=
 New g1 25 h1 fun h2 =>
 New z3 3 h2 fun h3 =>
 Put ⟨h2.size,0,none⟩ (.int .i64 0) h3 fun h4 =>
 ∃ cs1:List Value,List.length cs1=5∧Cells h4 ⟨h1.size,0,none⟩ cs1 ∧
 C.space_each t1 cs1 (Value.func (.func 50) #[] ⟨[.pointer (some ⟨h1.size,0,none⟩),.pointer (some ⟨h2.size,0,none⟩)]⟩) h4 fun r1 h5 =>
 ∃ (n1:Int),r1 = .int .i64 n1 ∧
 bif (n1 != 0) then (
 K (.tuple #[.int .i64 0,.int .i64 n1]) h5) else (
 ∃ (n2:Int),cellOf h5 ⟨h2.size,0,none⟩=some (.int .i64 n2) ∧
 K (.tuple #[.int .i64 n2,.int .i64 0]) h5)
def space_Free.lo : Nat→List Nat×List (Nat×Ty):=fun n=>match n with|_=>([],[])
def space_Free.od : Nat→Od:=fun n=>match n with|_ => .nil
theorem space_Free.ok {t1:Option Addr} {g1:List Value} {K:Value→Heap→Prop} {h:Heap} (hx:space_Free t1 g1 K h):C.space_Free t1 g1 h K :=
 fn_to (c:=Tryz.f11.body.getD .skip) (cxOk space_Free.lo space_Free.od) Tryz.func11 (by kernel_rfl) (by kernel_rfl) (Eq.mpr (by kernel_rfl) hx)
def file_Write (t1:Option Addr) (g1:List Value) (n1:Int) (off1:Int) (s1:ByteArray) (K:Value→Heap→Prop) (h1:Heap):Prop :=
 New [.pointer t1] 23 h1 fun h2 =>
 New g1 25 h2 fun h3 =>
 New [.string s1] 9 h3 fun h4 =>
 New z28 28 h4 fun h5 =>
 bif (decide (off1<0)) then (
 Put ⟨h4.size,0,none⟩ (.int .i64 1) h5 fun h6 =>
 ∃ (res1:Int),cellOf h6 ⟨h4.size,0,none⟩=some (.int .i64 res1) ∧
 K (.int .i64 res1) h6) else (
 ∃ (q1:Option Addr),cellOf h5 ⟨h1.size,0,none⟩=some (.pointer q1) ∧
 ∃ cs1:List Value,List.length cs1=5∧Cells h5 ⟨h2.size,0,none⟩ cs1 ∧
 C.file_get q1 cs1 n1 h5 fun r1 h7 =>
 ∃ (cs2:List Value) (n2:Int),r1 = .tuple #[.agg ⟨cs2⟩,.int .i64 n2] ∧
 NewRow z44 44 cs2 15 h7 fun h9 =>
 Put ⟨h4.size,0,none⟩ (.int .i64 n2) h9 fun h10 =>
 ∃ (n3:Int),cellOf h10 ⟨h4.size,0,none⟩=some (.int .i64 n3) ∧
 bif (n3 != 0) then (
 ∃ (n4:Int),cellOf h10 ⟨h4.size,0,none⟩=some (.int .i64 n4) ∧
 Put ⟨h4.size,0,none⟩ (.int .i64 n4) h10 fun h11 =>
 ∃ (res2:Int),cellOf h11 ⟨h4.size,0,none⟩=some (.int .i64 res2) ∧
 K (.int .i64 res2) h11) else (
 ∃ (s2:ByteArray),cellOf h10 ⟨h3.size,0,none⟩=some (.string s2) ∧
 bif (decide ((s2.size:Int)>(IntKind.wrap .i64 (8459264 - off1)))) then (
 Put ⟨h4.size,0,none⟩ (.int .i64 120) h10 fun h12 =>
 ∃ (res3:Int),cellOf h12 ⟨h4.size,0,none⟩=some (.int .i64 res3) ∧
 K (.int .i64 res3) h12) else (
 ∃ (s3:ByteArray),cellOf h10 ⟨h3.size,0,none⟩=some (.string s3) ∧
 bif (s3.toList == (mkStr []).toList) then (
 Put ⟨h4.size,0,none⟩ (.int .i64 0) h10 fun h13 =>
 ∃ (res4:Int),cellOf h13 ⟨h4.size,0,none⟩=some (.int .i64 res4) ∧
 K (.int .i64 res4) h13) else (
 ∃ (q2:Option Addr),cellOf h10 ⟨h1.size,0,none⟩=some (.pointer q2) ∧
 C.file_undo q2 (some ⟨h4.size,0,none⟩) h10 fun r2 h14 =>
 ∃ (g2:Nat) (fs1:List Value) (cs3:List Value),r2 = .func (.func g2) ⟨fs1⟩ ⟨cs3⟩ ∧
 ∃ (s4:ByteArray),cellOf h14 ⟨h3.size,0,none⟩=some (.string s4) ∧
 C.file_parts off1 (s4.size:Int) h14 fun r3 h15 =>
 ∃ (v1:Value),r3=v1 ∧
 ∀ (R1:Loop),
 (∀ (cs4:List Value),∀ (h16:Heap) (k1:Value→Heap→Prop),LoopOn h16 (h15.size+1) R1 .ready none →
 (
 NewRow z118 118 cs4 4 h16 fun h18 =>
 LoopOn h18 (h15.size+1) R1 .ready none ∧
 SetL h18 (h15.size+1) R1 .busy none fun h19 =>
 ∃ (q3:Option Addr),cellOf h19 ⟨h1.size,0,none⟩=some (.pointer q3) ∧
 ∃ cs5:List Value,List.length cs5=5∧Cells h19 ⟨h2.size,0,none⟩ cs5 ∧
 ∃ cs6:List Value,List.length cs6=15∧Cells h19 ⟨h7.size,0,none⟩ cs6 ∧
 ∃ (n5:Int),cellOf h19 (Addr.add ⟨h16.size,0,none⟩ 0)=some (.int .i64 n5) ∧
 C.bmap_Add q3 cs5 cs6 n5 h19 fun r4 h20 =>
 ∃ (cs7:List Value) (n6:Int) (n7:Int),r4 = .tuple #[.agg ⟨cs7⟩,.int .i64 n6,.int .i64 n7] ∧
 NewRow z44 44 cs7 15 h20 fun h22 =>
 bif (n7 != 0) then (
 Put ⟨h4.size,0,none⟩ (.int .i64 n7) h22 fun h23 =>
 LoopOn h23 (h15.size+1) R1 .busy none ∧
 k1 (.bool false) (setLoop h23 (h15.size+1) R1 .done (some .ret))) else (
 ∃ (q4:Option Addr),cellOf h22 ⟨h1.size,0,none⟩=some (.pointer q4) ∧
 C.txn_Txn_Read q4 n6 h22 fun r5 h24 =>
 ∃ (sA1:Option Addr) (sL1:Nat) (sC1:Nat) (n8:Int),r5 = .tuple #[.slice sA1 sL1 sC1,.int .i64 n8] ∧
 bif (n8 != 0) then (
 Put ⟨h4.size,0,none⟩ (.int .i64 n8) h24 fun h25 =>
 LoopOn h25 (h15.size+1) R1 .busy none ∧
 k1 (.bool false) (setLoop h25 (h15.size+1) R1 .done (some .ret))) else (
 ∃ (n9:Int),cellOf h24 (Addr.add ⟨h16.size,0,none⟩ 1)=some (.int .i64 n9) ∧
 ∃ (n10:Int),cellOf h24 (Addr.add ⟨h16.size,0,none⟩ 2)=some (.int .i64 n10) ∧
 (0≤n9∧n9≤n10∧n10≤(sC1:Int)) ∧
 ∃ (s5:ByteArray),cellOf h24 ⟨h3.size,0,none⟩=some (.string s5) ∧
 ∃ (n11:Int),cellOf h24 (Addr.add ⟨h16.size,0,none⟩ 3)=some (.int .i64 n11) ∧
 (0≤n11∧n11≤(s5.size:Int)) ∧
 CopyP ti5 (if sC1=(Int.toNat n9) then sA1 else Option.map (Addr.add · (Int.toNat n9)) sA1) ((Int.toNat n10) - (Int.toNat n9)) (.string (ByteArray.extract s5 (Int.toNat n11) s5.size)) h24 fun _ h26 =>
 ∃ (q5:Option Addr),cellOf h26 ⟨h1.size,0,none⟩=some (.pointer q5) ∧
 C.txn_Txn_Write q5 n6 sA1 sL1 sC1 h26 fun r6 h27 =>
 ∃ (n13:Int),r6 = .int .i64 n13 ∧
 bif (n13 != 0) then (
 Put ⟨h4.size,0,none⟩ (.int .i64 n13) h27 fun h28 =>
 LoopOn h28 (h15.size+1) R1 .busy none ∧
 k1 (.bool false) (setLoop h28 (h15.size+1) R1 .done (some .ret))) else (
 ∃ cs8:List Value,List.length cs8=15∧Cells h27 ⟨h20.size,0,none⟩ cs8 ∧
 PutRow ⟨h7.size,0,none⟩ cs8 15 h27 fun h29 =>
 LoopOn h29 (h15.size+1) R1 .busy none ∧
 k1 (.bool true) (setLoop h29 (h15.size+1) R1 .ready none))))) →
 YCalls Tryz.prog (h15.size+1) [.agg ⟨cs4⟩] h16 k1) →
 HCallsF Tryz.prog v1 [.func (.yield (h15.size+1)) #[] #[]] (beginL h15 R1) fun _ h30 =>
 ∃ (st1:LoopState) (pend1:Option Code),LoopOn h30 (h15.size+1) R1 st1 pend1∧st1 ≠ .busy ∧
 pendX pend1 (
 SetL h30 (h15.size+1) R1 .exhausted pend1 fun h31 =>
 ∃ (n14:Int),cellOf h31 (Addr.add ⟨h7.size,0,none⟩ 2)=some (.int .i64 n14) ∧
 ∃ (s6:ByteArray),cellOf h31 ⟨h3.size,0,none⟩=some (.string s6) ∧
 Put (Addr.add ⟨h7.size,0,none⟩ 2) (.int .i64 (if (IntKind.wrap .i64 (off1+(s6.size:Int)))>n14 then (IntKind.wrap .i64 (off1+(s6.size:Int))) else n14)) h31 fun h32 =>
 ∃ (q6:Option Addr),cellOf h32 ⟨h1.size,0,none⟩=some (.pointer q6) ∧
 ∃ cs9:List Value,List.length cs9=5∧Cells h32 ⟨h2.size,0,none⟩ cs9 ∧
 ∃ cs10:List Value,List.length cs10=15∧Cells h32 ⟨h7.size,0,none⟩ cs10 ∧
 C.inode_Put q6 cs9 n1 cs10 h32 fun r7 h33 =>
 ∃ (n15:Int),r7 = .int .i64 n15 ∧
 Put ⟨h4.size,0,none⟩ (.int .i64 n15) h33 fun h34 =>
 EndD h15.size h34 fun h35 =>
 DCallsV Tryz.prog (.func (.func g2) ⟨fs1⟩ ⟨cs3⟩) [] h35 fun h36 =>
 ∃ (res5:Int),cellOf h36 ⟨h4.size,0,none⟩=some (.int .i64 res5) ∧
 K (.int .i64 res5) h36) (
 SetL h30 (h15.size+1) R1 .exhausted pend1 fun h37 =>
 EndD h15.size h37 fun h38 =>
 DCallsV Tryz.prog (.func (.func g2) ⟨fs1⟩ ⟨cs3⟩) [] h38 fun h39 =>
 ∃ (res6:Int),cellOf h39 ⟨h4.size,0,none⟩=some (.int .i64 res6) ∧
 K (.int .i64 res6) h39) (fun _=>False)))))
def file_Write.lo : Nat→List Nat×List (Nat×Ty):=fun n=>match n with|1000012=>([],[(43,.agg)])|_=>([],[])
def file_Write.od : Nat→Od:=fun n=>match n with|19=>(.op 0 [] (.op 1 [] (.op 2 [] (.op 3 [] (.op 4 [] (.op 5 [] (.op 6 [] (.op 7 [] (.op 8 [] (.op 9 [] (.op 10 [] .nil)))))))))))|_ => .nil
set_option maxRecDepth 1000000 in
set_option maxRecDepth 1000000 in
theorem file_Write.ok {t1:Option Addr} {g1:List Value} {n1:Int} {off1:Int} {s1:ByteArray} {K:Value→Heap→Prop} {h:Heap} (hx:file_Write t1 g1 n1 off1 s1 K h):C.file_Write t1 g1 n1 off1 s1 h K :=
 fn_to (c:=Tryz.f12.body.getD .skip) (cxOk file_Write.lo file_Write.od) Tryz.func12 (by kernel_rfl) (by kernel_rfl) (Eq.mpr (by kernel_rfl) hx)
def bolelaw12_mod (v1:Int) (n1:Int) (K:Value→Heap→Prop) (h1:Heap):Prop :=
 if n1=0 then False else
 bif (decide ((Int.tmod v1 n1)<0)) then (
 K (.int .i64 (IntKind.wrap .i64 ((Int.tmod v1 n1)+n1))) h1) else (
 K (.int .i64 (Int.tmod v1 n1)) h1)
def bolelaw12_mod.lo : Nat→List Nat×List (Nat×Ty):=fun n=>match n with|_=>([],[])
def bolelaw12_mod.od : Nat→Od:=fun n=>match n with|_ => .nil
theorem bolelaw12_mod.ok {v1:Int} {n1:Int} {K:Value→Heap→Prop} {h:Heap} (hx:bolelaw12_mod v1 n1 K h):C.bolelaw12_mod v1 n1 h K :=
 fn_to (c:=Tryz.f13.body.getD .skip) (cxOk bolelaw12_mod.lo bolelaw12_mod.od) Tryz.func13 (by kernel_rfl) (by kernel_rfl) (Eq.mpr (by kernel_rfl) hx)
def file_Read.k1 (n1:Int) (off1:Int) (size1:Int) (h1:Heap) (h2:Heap) (h3:Heap) (h4:Heap) (h10:Heap) (K:Value→Heap→Prop):Prop :=
 ∃ (q1:Option Addr),cellOf h10 ⟨h1.size,0,none⟩=some (.pointer q1) ∧
 ∃ cs1:List Value,List.length cs1=5∧Cells h10 ⟨h2.size,0,none⟩ cs1 ∧
 C.file_get q1 cs1 n1 h10 fun r1 h11 =>
 ∃ (cs2:List Value) (n2:Int),r1 = .tuple #[.agg ⟨cs2⟩,.int .i64 n2] ∧
 NewRow z44 44 cs2 15 h11 fun h13 =>
 bif (n2 != 0) then (
 Put ⟨h3.size,0,none⟩ (.string (mkStr [])) h13 fun h14 =>
 Put ⟨h4.size,0,none⟩ (.int .i64 n2) h14 fun h15 =>
 ∃ (res5:ByteArray),cellOf h15 ⟨h3.size,0,none⟩=some (.string res5) ∧
 ∃ (res6:Int),cellOf h15 ⟨h4.size,0,none⟩=some (.int .i64 res6) ∧
 K (.tuple #[.string res5,.int .i64 res6]) h15) else (
 ∃ (n3:Int),cellOf h13 (Addr.add ⟨h11.size,0,none⟩ 2)=some (.int .i64 n3) ∧
 bif (decide (off1≥n3)) then (
 Put ⟨h3.size,0,none⟩ (.string (mkStr [])) h13 fun h16 =>
 Put ⟨h4.size,0,none⟩ (.int .i64 0) h16 fun h17 =>
 ∃ (res7:ByteArray),cellOf h17 ⟨h3.size,0,none⟩=some (.string res7) ∧
 ∃ (res8:Int),cellOf h17 ⟨h4.size,0,none⟩=some (.int .i64 res8) ∧
 K (.tuple #[.string res7,.int .i64 res8]) h17) else (
 New z123 123 h13 fun h18 =>
 ∃ (n4:Int),cellOf h18 (Addr.add ⟨h11.size,0,none⟩ 2)=some (.int .i64 n4) ∧
 C.file_parts off1 (if (IntKind.wrap .i64 (n4 - off1))<size1 then (IntKind.wrap .i64 (n4 - off1)) else size1) h18 fun r2 h19 =>
 ∃ (v1:Value),r2=v1 ∧
 ∀ (R1:Loop),
 (∀ (cs3:List Value),∀ (h20:Heap) (k1:Value→Heap→Prop),LoopOn h20 (h19.size+1) R1 .ready none →
 (
 NewRow z118 118 cs3 4 h20 fun h22 =>
 LoopOn h22 (h19.size+1) R1 .ready none ∧
 SetL h22 (h19.size+1) R1 .busy none fun h23 =>
 ∃ (q2:Option Addr),cellOf h23 ⟨h1.size,0,none⟩=some (.pointer q2) ∧
 ∃ cs4:List Value,List.length cs4=5∧Cells h23 ⟨h2.size,0,none⟩ cs4 ∧
 ∃ cs5:List Value,List.length cs5=15∧Cells h23 ⟨h11.size,0,none⟩ cs5 ∧
 ∃ (n5:Int),cellOf h23 (Addr.add ⟨h20.size,0,none⟩ 0)=some (.int .i64 n5) ∧
 C.file_block q2 cs4 cs5 n5 h23 fun r3 h24 =>
 ∃ (sA1:Option Addr) (sL1:Nat) (sC1:Nat) (n6:Int),r3 = .tuple #[.slice sA1 sL1 sC1,.int .i64 n6] ∧
 bif (n6 != 0) then (
 Put ⟨h3.size,0,none⟩ (.string (mkStr [])) h24 fun h25 =>
 Put ⟨h4.size,0,none⟩ (.int .i64 n6) h25 fun h26 =>
 LoopOn h26 (h19.size+1) R1 .busy none ∧
 k1 (.bool false) (setLoop h26 (h19.size+1) R1 .done (some .ret))) else (
 ∃ (n7:Int),cellOf h24 (Addr.add ⟨h20.size,0,none⟩ 1)=some (.int .i64 n7) ∧
 ∃ (n8:Int),cellOf h24 (Addr.add ⟨h20.size,0,none⟩ 2)=some (.int .i64 n8) ∧
 (0≤n7∧n7≤n8∧n8≤(sC1:Int)) ∧
 C.strings_Builder_Write (some ⟨h13.size,0,none⟩) (if sC1=(Int.toNat n7) then sA1 else Option.map (Addr.add · (Int.toNat n7)) sA1) ((Int.toNat n8) - (Int.toNat n7)) (sC1 - (Int.toNat n7)) h24 fun r4 h27 =>
 ∃ (n9:Int) (v2:Value),r4 = .tuple #[.int .i64 n9,v2] ∧
 LoopOn h27 (h19.size+1) R1 .busy none ∧
 k1 (.bool true) (setLoop h27 (h19.size+1) R1 .ready none))) →
 YCalls Tryz.prog (h19.size+1) [.agg ⟨cs3⟩] h20 k1) →
 HCallsF Tryz.prog v1 [.func (.yield (h19.size+1)) #[] #[]] (beginL h19 R1) fun _ h28 =>
 ∃ (st1:LoopState) (pend1:Option Code),LoopOn h28 (h19.size+1) R1 st1 pend1∧st1 ≠ .busy ∧
 pendX pend1 (
 SetL h28 (h19.size+1) R1 .exhausted pend1 fun h29 =>
 C.strings_Builder_String (some ⟨h13.size,0,none⟩) h29 fun r5 h30 =>
 ∃ (s1:ByteArray),r5 = .string s1 ∧
 Put ⟨h3.size,0,none⟩ (.string s1) h30 fun h31 =>
 Put ⟨h4.size,0,none⟩ (.int .i64 0) h31 fun h32 =>
 EndD h19.size h32 fun h33 =>
 ∃ (res9:ByteArray),cellOf h33 ⟨h3.size,0,none⟩=some (.string res9) ∧
 ∃ (res10:Int),cellOf h33 ⟨h4.size,0,none⟩=some (.int .i64 res10) ∧
 K (.tuple #[.string res9,.int .i64 res10]) h33) (
 SetL h28 (h19.size+1) R1 .exhausted pend1 fun h34 =>
 EndD h19.size h34 fun h35 =>
 ∃ (res11:ByteArray),cellOf h35 ⟨h3.size,0,none⟩=some (.string res11) ∧
 ∃ (res12:Int),cellOf h35 ⟨h4.size,0,none⟩=some (.int .i64 res12) ∧
 K (.tuple #[.string res11,.int .i64 res12]) h35) (fun _=>False)))
def file_Read (t1:Option Addr) (g1:List Value) (n1:Int) (off1:Int) (size1:Int) (K:Value→Heap→Prop) (h1:Heap):Prop :=
 New [.pointer t1] 23 h1 fun h2 =>
 New g1 25 h2 fun h3 =>
 New z9 9 h3 fun h4 =>
 New z28 28 h4 fun h5 =>
 bif (decide (off1<0)) then (
 Put ⟨h3.size,0,none⟩ (.string (mkStr [])) h5 fun h6 =>
 Put ⟨h4.size,0,none⟩ (.int .i64 1) h6 fun h7 =>
 ∃ (res1:ByteArray),cellOf h7 ⟨h3.size,0,none⟩=some (.string res1) ∧
 ∃ (res2:Int),cellOf h7 ⟨h4.size,0,none⟩=some (.int .i64 res2) ∧
 K (.tuple #[.string res1,.int .i64 res2]) h7) else (
 bif (decide (size1<0)) then (
 Put ⟨h3.size,0,none⟩ (.string (mkStr [])) h5 fun h8 =>
 Put ⟨h4.size,0,none⟩ (.int .i64 1) h8 fun h9 =>
 ∃ (res3:ByteArray),cellOf h9 ⟨h3.size,0,none⟩=some (.string res3) ∧
 ∃ (res4:Int),cellOf h9 ⟨h4.size,0,none⟩=some (.int .i64 res4) ∧
 K (.tuple #[.string res3,.int .i64 res4]) h9) else (
 file_Read.k1 n1 off1 size1 h1 h2 h3 h4 h5 K))
def file_Read.lo : Nat→List Nat×List (Nat×Ty):=fun n=>match n with|1000010=>([],[(46,.agg)])|_=>([],[])
def file_Read.od : Nat→Od:=fun n=>match n with|_ => .nil
theorem file_Read.ok {t1:Option Addr} {g1:List Value} {n1:Int} {off1:Int} {size1:Int} {K:Value→Heap→Prop} {h:Heap} (hx:file_Read t1 g1 n1 off1 size1 K h):C.file_Read t1 g1 n1 off1 size1 h K :=
 fn_to (c:=Tryz.f14.body.getD .skip) (cxOk file_Read.lo file_Read.od) Tryz.func14 (by kernel_rfl) (by kernel_rfl) (Eq.mpr (by kernel_rfl) hx)
end Go.Proofs.YtcdpakjhjmchhaaGreatDoor.W
namespace Go.Proofs.YtcdpakjhjmchhaaGreatDoor.W
open Go Go.Proofs Wx
def file_Cut.k1 (t1:Option Addr) (n1:Int) (size1:Int) (h1:Heap) (h2:Heap) (h5:Heap) (g2:Nat) (fs1:List Value) (cs3:List Value) (h22:Heap) (K:Value→Heap→Prop):Prop :=
 Put (Addr.add ⟨h5.size,0,none⟩ 2) (.int .i64 size1) h22 fun h23 =>
 ∃ cs9:List Value,List.length cs9=5∧Cells h23 ⟨h1.size,0,none⟩ cs9 ∧
 ∃ cs10:List Value,List.length cs10=15∧Cells h23 ⟨h5.size,0,none⟩ cs10 ∧
 C.inode_Put t1 cs9 n1 cs10 h23 fun r5 h24 =>
 ∃ (n13:Int),r5 = .int .i64 n13 ∧
 Put ⟨h2.size,0,none⟩ (.int .i64 n13) h24 fun h25 =>
 DCallsV Tryz.prog (.func (.func g2) ⟨fs1⟩ ⟨cs3⟩) [] h25 fun h26 =>
 ∃ (res7:Int),cellOf h26 ⟨h2.size,0,none⟩=some (.int .i64 res7) ∧
 K (.int .i64 res7) h26
def file_Cut (t1:Option Addr) (g1:List Value) (n1:Int) (size1:Int) (K:Value→Heap→Prop) (h1:Heap):Prop :=
 New g1 25 h1 fun h2 =>
 New z28 28 h2 fun h3 =>
 bif (decide (size1<0)) then (
 Put ⟨h2.size,0,none⟩ (.int .i64 1) h3 fun h4 =>
 ∃ (res1:Int),cellOf h4 ⟨h2.size,0,none⟩=some (.int .i64 res1) ∧
 K (.int .i64 res1) h4) else (
 ∃ cs1:List Value,List.length cs1=5∧Cells h3 ⟨h1.size,0,none⟩ cs1 ∧
 C.file_get t1 cs1 n1 h3 fun r1 h5 =>
 ∃ (cs2:List Value) (n2:Int),r1 = .tuple #[.agg ⟨cs2⟩,.int .i64 n2] ∧
 NewRow z44 44 cs2 15 h5 fun h7 =>
 Put ⟨h2.size,0,none⟩ (.int .i64 n2) h7 fun h8 =>
 ∃ (n3:Int),cellOf h8 ⟨h2.size,0,none⟩=some (.int .i64 n3) ∧
 bif (n3 != 0) then (
 ∃ (n4:Int),cellOf h8 ⟨h2.size,0,none⟩=some (.int .i64 n4) ∧
 Put ⟨h2.size,0,none⟩ (.int .i64 n4) h8 fun h9 =>
 ∃ (res2:Int),cellOf h9 ⟨h2.size,0,none⟩=some (.int .i64 res2) ∧
 K (.int .i64 res2) h9) else (
 bif (decide (size1>8459264)) then (
 Put ⟨h2.size,0,none⟩ (.int .i64 120) h8 fun h10 =>
 ∃ (res3:Int),cellOf h10 ⟨h2.size,0,none⟩=some (.int .i64 res3) ∧
 K (.int .i64 res3) h10) else (
 ∃ (n5:Int),cellOf h8 (Addr.add ⟨h5.size,0,none⟩ 2)=some (.int .i64 n5) ∧
 bif (size1 == n5) then (
 Put ⟨h2.size,0,none⟩ (.int .i64 0) h8 fun h11 =>
 ∃ (res4:Int),cellOf h11 ⟨h2.size,0,none⟩=some (.int .i64 res4) ∧
 K (.int .i64 res4) h11) else (
 C.file_undo t1 (some ⟨h2.size,0,none⟩) h8 fun r2 h12 =>
 ∃ (g2:Nat) (fs1:List Value) (cs3:List Value),r2 = .func (.func g2) ⟨fs1⟩ ⟨cs3⟩ ∧
 ∃ (n6:Int),cellOf h12 (Addr.add ⟨h5.size,0,none⟩ 2)=some (.int .i64 n6) ∧
 bif (decide (size1<n6)) then (
 ∃ cs4:List Value,List.length cs4=5∧Cells h12 ⟨h1.size,0,none⟩ cs4 ∧
 ∃ cs5:List Value,List.length cs5=15∧Cells h12 ⟨h5.size,0,none⟩ cs5 ∧
 C.bmap_Cut t1 cs4 cs5 (IntKind.wrap .i64 (Int.tdiv (IntKind.wrap .i64 ((IntKind.wrap .i64 (size1+512)) - 1)) 512)) h12 fun r3 h13 =>
 ∃ (cs6:List Value) (n7:Int),r3 = .tuple #[.agg ⟨cs6⟩,.int .i64 n7] ∧
 PutRow ⟨h5.size,0,none⟩ cs6 15 h13 fun h14 =>
 Put ⟨h2.size,0,none⟩ (.int .i64 n7) h14 fun h15 =>
 ∃ (n8:Int),cellOf h15 ⟨h2.size,0,none⟩=some (.int .i64 n8) ∧
 bif (n8 != 0) then (
 ∃ (n9:Int),cellOf h15 ⟨h2.size,0,none⟩=some (.int .i64 n9) ∧
 Put ⟨h2.size,0,none⟩ (.int .i64 n9) h15 fun h16 =>
 DCallsV Tryz.prog (.func (.func g2) ⟨fs1⟩ ⟨cs3⟩) [] h16 fun h17 =>
 ∃ (res5:Int),cellOf h17 ⟨h2.size,0,none⟩=some (.int .i64 res5) ∧
 K (.int .i64 res5) h17) else (
 ∃ cs7:List Value,List.length cs7=5∧Cells h15 ⟨h1.size,0,none⟩ cs7 ∧
 ∃ cs8:List Value,List.length cs8=15∧Cells h15 ⟨h5.size,0,none⟩ cs8 ∧
 C.file_wipe t1 cs7 cs8 size1 h15 fun r4 h18 =>
 ∃ (n10:Int),r4 = .int .i64 n10 ∧
 Put ⟨h2.size,0,none⟩ (.int .i64 n10) h18 fun h19 =>
 ∃ (n11:Int),cellOf h19 ⟨h2.size,0,none⟩=some (.int .i64 n11) ∧
 bif (n11 != 0) then (
 ∃ (n12:Int),cellOf h19 ⟨h2.size,0,none⟩=some (.int .i64 n12) ∧
 Put ⟨h2.size,0,none⟩ (.int .i64 n12) h19 fun h20 =>
 DCallsV Tryz.prog (.func (.func g2) ⟨fs1⟩ ⟨cs3⟩) [] h20 fun h21 =>
 ∃ (res6:Int),cellOf h21 ⟨h2.size,0,none⟩=some (.int .i64 res6) ∧
 K (.int .i64 res6) h21) else (
 file_Cut.k1 t1 n1 size1 h1 h2 h5 g2 fs1 cs3 h19 K))) else (
 file_Cut.k1 t1 n1 size1 h1 h2 h5 g2 fs1 cs3 h12 K)))))
def file_Cut.lo : Nat→List Nat×List (Nat×Ty):=fun n=>match n with|_=>([],[])
def file_Cut.od : Nat→Od:=fun n=>match n with|_ => .nil
set_option maxRecDepth 1000000 in
set_option maxRecDepth 1000000 in
theorem file_Cut.ok {t1:Option Addr} {g1:List Value} {n1:Int} {size1:Int} {K:Value→Heap→Prop} {h:Heap} (hx:file_Cut t1 g1 n1 size1 K h):C.file_Cut t1 g1 n1 size1 h K :=
 fn_to (c:=Tryz.f15.body.getD .skip) (cxOk file_Cut.lo file_Cut.od) Tryz.func15 (by kernel_rfl) (by kernel_rfl) (Eq.mpr (by kernel_rfl) hx)
def file_Blocks (t1:Option Addr) (g1:List Value) (n1:Int) (K:Value→Heap→Prop) (h1:Heap):Prop :=
 New g1 25 h1 fun h2 =>
 ∃ cs1:List Value,List.length cs1=5∧Cells h2 ⟨h1.size,0,none⟩ cs1 ∧
 C.file_get t1 cs1 n1 h2 fun r1 h3 =>
 ∃ (cs2:List Value) (n2:Int),r1 = .tuple #[.agg ⟨cs2⟩,.int .i64 n2] ∧
 NewRow z44 44 cs2 15 h3 fun h5 =>
 bif (n2 != 0) then (
 K (.tuple #[.int .i64 0,.int .i64 n2]) h5) else (
 ∃ cs3:List Value,List.length cs3=5∧Cells h5 ⟨h1.size,0,none⟩ cs3 ∧
 ∃ cs4:List Value,List.length cs4=15∧Cells h5 ⟨h3.size,0,none⟩ cs4 ∧
 C.bmap_All t1 cs3 cs4 h5 fun r2 h6 =>
 ∃ (sA1:Option Addr) (sL1:Nat) (sC1:Nat) (sA2:Option Addr) (sL2:Nat) (sC2:Nat) (n3:Int),r2 = .tuple #[.slice sA1 sL1 sC1,.slice sA2 sL2 sC2,.int .i64 n3] ∧
 bif (n3 != 0) then (
 K (.tuple #[.int .i64 0,.int .i64 n3]) h6) else (
 K (.tuple #[.int .i64 (IntKind.wrap .i64 ((sL1:Int)+(sL2:Int))),.int .i64 0]) h6))
def file_Blocks.lo : Nat→List Nat×List (Nat×Ty):=fun n=>match n with|_=>([],[])
def file_Blocks.od : Nat→Od:=fun n=>match n with|_ => .nil
theorem file_Blocks.ok {t1:Option Addr} {g1:List Value} {n1:Int} {K:Value→Heap→Prop} {h:Heap} (hx:file_Blocks t1 g1 n1 K h):C.file_Blocks t1 g1 n1 h K :=
 fn_to (c:=Tryz.f16.body.getD .skip) (cxOk file_Blocks.lo file_Blocks.od) Tryz.func16 (by kernel_rfl) (by kernel_rfl) (Eq.mpr (by kernel_rfl) hx)
def txn_Txn_Mark (t1:Option Addr) (K:Value→Heap→Prop) (h1:Heap):Prop :=
 onSome t1 fun p1 =>
 ∃ (b1:Bool),cellOf h1 (Addr.add p1 3)=some (.bool b1) ∧
 bif b1 then (
 K (.tuple #[.int .i64 0,.int .i64 61]) h1) else (
 onSome t1 fun p2 =>
 ∃ (sA1:Option Addr) (sL1:Nat) (sC1:Nat),cellOf h1 (Addr.add p2 2)=some (.slice sA1 sL1 sC1) ∧
 K (.tuple #[.int .i64 (sL1:Int),.int .i64 0]) h1)
def txn_Txn_Mark.lo : Nat→List Nat×List (Nat×Ty):=fun n=>match n with|_=>([],[])
def txn_Txn_Mark.od : Nat→Od:=fun n=>match n with|_ => .nil
theorem txn_Txn_Mark.ok {t1:Option Addr} {K:Value→Heap→Prop} {h:Heap} (hx:txn_Txn_Mark t1 K h):C.txn_Txn_Mark t1 h K :=
 fn_to (c:=Tryz.f19.body.getD .skip) (cxOk txn_Txn_Mark.lo txn_Txn_Mark.od) Tryz.func19 (by kernel_rfl) (by kernel_rfl) (Eq.mpr (by kernel_rfl) hx)
def bmap_Find.k1 (t1:Option Addr) (k1:Int) (h1:Heap) (h2:Heap) (h3:Heap) (K:Value→Heap→Prop):Prop :=
 ∃ cs1:List Value,List.length cs1=5∧Cells h3 ⟨h1.size,0,none⟩ cs1 ∧
 ∃ cs2:List Value,List.length cs2=15∧Cells h3 ⟨h2.size,0,none⟩ cs2 ∧
 List.length (cs1:List Value)=5 ∧
 List.length (cs2:List Value)=15 ∧
 New ([.pointer t1]++(cs1++cs2)) 146 h3 fun h4 =>
 C.bmap_file_walk (some ⟨h3.size,0,none⟩) k1 (Value.func (.func 66) #[] ⟨[]⟩) h4 fun r1 h5 =>
 ∃ (n1:Int) (n2:Int),r1 = .tuple #[.int .i64 n1,.int .i64 n2] ∧
 K (.tuple #[.int .i64 n1,.int .i64 n2]) h5
def bmap_Find (t1:Option Addr) (g1:List Value) (x1:List Value) (k1:Int) (K:Value→Heap→Prop) (h1:Heap):Prop :=
 New g1 25 h1 fun h2 =>
 New x1 44 h2 fun h3 =>
 bif (decide (k1<0)) then (
 K (.tuple #[.int .i64 0,.int .i64 101]) h3) else (
 bif (decide (k1≥16522)) then (
 K (.tuple #[.int .i64 0,.int .i64 101]) h3) else (
 bmap_Find.k1 t1 k1 h1 h2 h3 K))
def bmap_Find.lo : Nat→List Nat×List (Nat×Ty):=fun n=>match n with|_=>([],[])
def bmap_Find.od : Nat→Od:=fun n=>match n with|_ => .nil
set_option maxRecDepth 1000000 in
set_option maxRecDepth 1000000 in
theorem bmap_Find.ok {t1:Option Addr} {g1:List Value} {x1:List Value} {k1:Int} {K:Value→Heap→Prop} {h:Heap} (hx:bmap_Find t1 g1 x1 k1 K h):C.bmap_Find t1 g1 x1 k1 h K :=
 fn_to (c:=Tryz.f22.body.getD .skip) (cxOk bmap_Find.lo bmap_Find.od) Tryz.func22 (by kernel_rfl) (by kernel_rfl) (Eq.mpr (by kernel_rfl) hx)
def bmap_Add.k1 (k1:Int) (h1:Heap) (h2:Heap) (h3:Heap) (h4:Heap) (h5:Heap) (h6:Heap) (h14:Heap) (K:Value→Heap→Prop):Prop :=
 ∃ (q1:Option Addr),cellOf h14 ⟨h1.size,0,none⟩=some (.pointer q1) ∧
 C.bmap_guard q1 h14 fun r1 h15 =>
 ∃ (g2:Nat) (fs1:List Value) (cs1:List Value),r1 = .func (.func g2) ⟨fs1⟩ ⟨cs1⟩ ∧
 New z157 157 h15 fun h16 =>
 Put ⟨h15.size,0,none⟩ (.func (.func g2) ⟨fs1⟩ ⟨cs1⟩) h16 fun h17 =>
 ∃ (q2:Option Addr),cellOf h17 ⟨h1.size,0,none⟩=some (.pointer q2) ∧
 ∃ cs2:List Value,List.length cs2=5∧Cells h17 ⟨h2.size,0,none⟩ cs2 ∧
 ∃ cs3:List Value,List.length cs3=15∧Cells h17 ⟨h3.size,0,none⟩ cs3 ∧
 List.length (cs2:List Value)=5 ∧
 List.length (cs3:List Value)=15 ∧
 New ([.pointer q2]++(cs2++cs3)) 146 h17 fun h18 =>
 New z144 144 h18 fun h19 =>
 Put ⟨h18.size,0,none⟩ (.pointer (some ⟨h17.size,0,none⟩)) h19 fun h20 =>
 ∃ (q3:Option Addr),cellOf h20 ⟨h18.size,0,none⟩=some (.pointer q3) ∧
 C.bmap_file_walk q3 k1 (Value.func (.func 73) #[] ⟨[.pointer (some ⟨h1.size,0,none⟩),.pointer (some ⟨h2.size,0,none⟩),.pointer (some ⟨h18.size,0,none⟩)]⟩) h20 fun r2 h21 =>
 ∃ (n1:Int) (n2:Int),r2 = .tuple #[.int .i64 n1,.int .i64 n2] ∧
 Put ⟨h5.size,0,none⟩ (.int .i64 n1) h21 fun h22 =>
 Put ⟨h6.size,0,none⟩ (.int .i64 n2) h22 fun h23 =>
 ∃ (q4:Option Addr),cellOf h23 ⟨h18.size,0,none⟩=some (.pointer q4) ∧
 onSome q4 fun p1 =>
 ∃ cs4:List Value,List.length cs4=15∧Cells h23 (Addr.add p1 6) cs4 ∧
 ∃ (n3:Int),cellOf h23 ⟨h5.size,0,none⟩=some (.int .i64 n3) ∧
 ∃ (n4:Int),cellOf h23 ⟨h6.size,0,none⟩=some (.int .i64 n4) ∧
 PutRow ⟨h4.size,0,none⟩ cs4 15 h23 fun h24 =>
 (cellOf h24 ⟨h5.size,0,none⟩=some (.int .i64 n3)) ∧
 (cellOf h24 ⟨h6.size,0,none⟩=some (.int .i64 n4)) ∧
 Put ⟨h5.size,0,none⟩ (.int .i64 n3) h24 fun h25 =>
 (cellOf h25 ⟨h6.size,0,none⟩=some (.int .i64 n4)) ∧
 Put ⟨h6.size,0,none⟩ (.int .i64 n4) h25 fun h26 =>
 D.bmap_Add_c1 (some ⟨h15.size,0,none⟩) (some ⟨h6.size,0,none⟩) (some ⟨h4.size,0,none⟩) (some ⟨h5.size,0,none⟩) h26 fun h27 =>
 ∃ res7:List Value,List.length res7=15∧Cells h27 ⟨h4.size,0,none⟩ res7 ∧
 ∃ (res8:Int),cellOf h27 ⟨h5.size,0,none⟩=some (.int .i64 res8) ∧
 ∃ (res9:Int),cellOf h27 ⟨h6.size,0,none⟩=some (.int .i64 res9) ∧
 K (.tuple #[.agg ⟨res7⟩,.int .i64 res8,.int .i64 res9]) h27
def bmap_Add (t1:Option Addr) (g1:List Value) (x1:List Value) (k1:Int) (K:Value→Heap→Prop) (h1:Heap):Prop :=
 New [.pointer t1] 23 h1 fun h2 =>
 New g1 25 h2 fun h3 =>
 New x1 44 h3 fun h4 =>
 New z44 44 h4 fun h5 =>
 New z3 3 h5 fun h6 =>
 New z28 28 h6 fun h7 =>
 bif (decide (k1<0)) then (
 PutRow ⟨h4.size,0,none⟩ [.int .i64 0,.int .i64 0,.int .i64 0,.int .i64 0,.int .i64 0,.int .i64 0,.int .i64 0,.int .i64 0,.int .i64 0,.int .i64 0,.int .i64 0,.int .i64 0,.int .i64 0,.int .i64 0,.int .i64 0] 15 h7 fun h8 =>
 Put ⟨h5.size,0,none⟩ (.int .i64 0) h8 fun h9 =>
 Put ⟨h6.size,0,none⟩ (.int .i64 101) h9 fun h10 =>
 ∃ res1:List Value,List.length res1=15∧Cells h10 ⟨h4.size,0,none⟩ res1 ∧
 ∃ (res2:Int),cellOf h10 ⟨h5.size,0,none⟩=some (.int .i64 res2) ∧
 ∃ (res3:Int),cellOf h10 ⟨h6.size,0,none⟩=some (.int .i64 res3) ∧
 K (.tuple #[.agg ⟨res1⟩,.int .i64 res2,.int .i64 res3]) h10) else (
 bif (decide (k1≥16522)) then (
 PutRow ⟨h4.size,0,none⟩ [.int .i64 0,.int .i64 0,.int .i64 0,.int .i64 0,.int .i64 0,.int .i64 0,.int .i64 0,.int .i64 0,.int .i64 0,.int .i64 0,.int .i64 0,.int .i64 0,.int .i64 0,.int .i64 0,.int .i64 0] 15 h7 fun h11 =>
 Put ⟨h5.size,0,none⟩ (.int .i64 0) h11 fun h12 =>
 Put ⟨h6.size,0,none⟩ (.int .i64 101) h12 fun h13 =>
 ∃ res4:List Value,List.length res4=15∧Cells h13 ⟨h4.size,0,none⟩ res4 ∧
 ∃ (res5:Int),cellOf h13 ⟨h5.size,0,none⟩=some (.int .i64 res5) ∧
 ∃ (res6:Int),cellOf h13 ⟨h6.size,0,none⟩=some (.int .i64 res6) ∧
 K (.tuple #[.agg ⟨res4⟩,.int .i64 res5,.int .i64 res6]) h13) else (
 bmap_Add.k1 k1 h1 h2 h3 h4 h5 h6 h7 K))
def bmap_Add.lo : Nat→List Nat×List (Nat×Ty):=fun n=>match n with|_=>([],[])
def bmap_Add.od : Nat→Od:=fun n=>match n with|7=>(.op 0 [] (.op 1 [] (.op 2 [] (.op 3 [] (.op 4 [] (.op 5 [] (.op 6 [4,5] (.op 7 [5] (.op 8 [] .nil)))))))))|_ => .nil
set_option maxRecDepth 1000000 in
set_option maxRecDepth 1000000 in
theorem bmap_Add.ok {t1:Option Addr} {g1:List Value} {x1:List Value} {k1:Int} {K:Value→Heap→Prop} {h:Heap} (hx:bmap_Add t1 g1 x1 k1 K h):C.bmap_Add t1 g1 x1 k1 h K :=
 fn_to (c:=Tryz.f24.body.getD .skip) (cxOk bmap_Add.lo bmap_Add.od) Tryz.func24 (by kernel_rfl) (by kernel_rfl) (Eq.mpr (by kernel_rfl) hx)
def bmap_Cut.k2 (k1:Int) (h3:Heap) (h4:Heap) (h11:Heap) (h14:Heap) (h28:Heap) (K:Value→Heap→Prop):Prop :=
 bif (decide (k1<16522)) then (
 ∃ (q10:Option Addr),cellOf h28 ⟨h14.size,0,none⟩=some (.pointer q10) ∧
 onSome q10 fun p7 =>
 ∃ (n7:Int),cellOf h28 (Addr.add (Addr.add p7 6) 14)=some (.int .i64 n7) ∧
 bif (n7 != 0) then (
 New z3 3 h28 fun h29 =>
 Put ⟨h28.size,0,none⟩ (.int .i64 (if (IntKind.wrap .i64 (k1 - 138))>0 then (IntKind.wrap .i64 (k1 - 138)) else 0)) h29 fun h30 =>
 ∃ (q11:Option Addr),cellOf h30 ⟨h14.size,0,none⟩=some (.pointer q11) ∧
 ∃ (q12:Option Addr),cellOf h30 ⟨h14.size,0,none⟩=some (.pointer q12) ∧
 onSome q12 fun p8 =>
 ∃ (n8:Int),cellOf h30 (Addr.add (Addr.add p8 6) 14)=some (.int .i64 n8) ∧
 ∃ (n9:Int),cellOf h30 ⟨h28.size,0,none⟩=some (.int .i64 n9) ∧
 C.bmap_file_cut q11 n8 (IntKind.wrap .i64 (Int.tdiv n9 128)) (Value.func (.func 81) #[] ⟨[.pointer (some ⟨h14.size,0,none⟩),.pointer (some ⟨h28.size,0,none⟩)]⟩) h30 fun r4 h31 =>
 ∃ (b2:Bool) (n10:Int),r4 = .tuple #[.bool b2,.int .i64 n10] ∧
 bif (n10 != 0) then (
 ∃ cs6:List Value,List.length cs6=15∧Cells h31 ⟨h3.size,0,none⟩ cs6 ∧
 PutRow ⟨h3.size,0,none⟩ cs6 15 h31 fun h32 =>
 Put ⟨h4.size,0,none⟩ (.int .i64 n10) h32 fun h33 =>
 D.bmap_Cut_c1 (some ⟨h11.size,0,none⟩) (some ⟨h4.size,0,none⟩) (some ⟨h3.size,0,none⟩) h33 fun h34 =>
 ∃ res9:List Value,List.length res9=15∧Cells h34 ⟨h3.size,0,none⟩ res9 ∧
 ∃ (res10:Int),cellOf h34 ⟨h4.size,0,none⟩=some (.int .i64 res10) ∧
 K (.tuple #[.agg ⟨res9⟩,.int .i64 res10]) h34) else (
 bif (!b2) then (
 ∃ (q13:Option Addr),cellOf h31 ⟨h14.size,0,none⟩=some (.pointer q13) ∧
 onSome q13 fun p9 =>
 Put (Addr.add (Addr.add p9 6) 14) (.int .i64 0) h31 fun h35 =>
 ∃ (q14:Option Addr),cellOf h35 ⟨h14.size,0,none⟩=some (.pointer q14) ∧
 onSome q14 fun p10 =>
 ∃ cs7:List Value,List.length cs7=15∧Cells h35 (Addr.add p10 6) cs7 ∧
 PutRow ⟨h3.size,0,none⟩ cs7 15 h35 fun h36 =>
 Put ⟨h4.size,0,none⟩ (.int .i64 0) h36 fun h37 =>
 D.bmap_Cut_c1 (some ⟨h11.size,0,none⟩) (some ⟨h4.size,0,none⟩) (some ⟨h3.size,0,none⟩) h37 fun h38 =>
 ∃ res11:List Value,List.length res11=15∧Cells h38 ⟨h3.size,0,none⟩ res11 ∧
 ∃ (res12:Int),cellOf h38 ⟨h4.size,0,none⟩=some (.int .i64 res12) ∧
 K (.tuple #[.agg ⟨res11⟩,.int .i64 res12]) h38) else (
 ∃ (q15:Option Addr),cellOf h31 ⟨h14.size,0,none⟩=some (.pointer q15) ∧
 onSome q15 fun p11 =>
 ∃ cs8:List Value,List.length cs8=15∧Cells h31 (Addr.add p11 6) cs8 ∧
 PutRow ⟨h3.size,0,none⟩ cs8 15 h31 fun h39 =>
 Put ⟨h4.size,0,none⟩ (.int .i64 0) h39 fun h40 =>
 D.bmap_Cut_c1 (some ⟨h11.size,0,none⟩) (some ⟨h4.size,0,none⟩) (some ⟨h3.size,0,none⟩) h40 fun h41 =>
 ∃ res13:List Value,List.length res13=15∧Cells h41 ⟨h3.size,0,none⟩ res13 ∧
 ∃ (res14:Int),cellOf h41 ⟨h4.size,0,none⟩=some (.int .i64 res14) ∧
 K (.tuple #[.agg ⟨res13⟩,.int .i64 res14]) h41))) else (
 ∃ (q16:Option Addr),cellOf h28 ⟨h14.size,0,none⟩=some (.pointer q16) ∧
 onSome q16 fun p12 =>
 ∃ cs9:List Value,List.length cs9=15∧Cells h28 (Addr.add p12 6) cs9 ∧
 PutRow ⟨h3.size,0,none⟩ cs9 15 h28 fun h42 =>
 Put ⟨h4.size,0,none⟩ (.int .i64 0) h42 fun h43 =>
 D.bmap_Cut_c1 (some ⟨h11.size,0,none⟩) (some ⟨h4.size,0,none⟩) (some ⟨h3.size,0,none⟩) h43 fun h44 =>
 ∃ res15:List Value,List.length res15=15∧Cells h44 ⟨h3.size,0,none⟩ res15 ∧
 ∃ (res16:Int),cellOf h44 ⟨h4.size,0,none⟩=some (.int .i64 res16) ∧
 K (.tuple #[.agg ⟨res15⟩,.int .i64 res16]) h44)) else (
 ∃ (q17:Option Addr),cellOf h28 ⟨h14.size,0,none⟩=some (.pointer q17) ∧
 onSome q17 fun p13 =>
 ∃ cs10:List Value,List.length cs10=15∧Cells h28 (Addr.add p13 6) cs10 ∧
 PutRow ⟨h3.size,0,none⟩ cs10 15 h28 fun h45 =>
 Put ⟨h4.size,0,none⟩ (.int .i64 0) h45 fun h46 =>
 D.bmap_Cut_c1 (some ⟨h11.size,0,none⟩) (some ⟨h4.size,0,none⟩) (some ⟨h3.size,0,none⟩) h46 fun h47 =>
 ∃ res17:List Value,List.length res17=15∧Cells h47 ⟨h3.size,0,none⟩ res17 ∧
 ∃ (res18:Int),cellOf h47 ⟨h4.size,0,none⟩=some (.int .i64 res18) ∧
 K (.tuple #[.agg ⟨res17⟩,.int .i64 res18]) h47)
def bmap_Cut.k1 (t1:Option Addr) (k1:Int) (h1:Heap) (h2:Heap) (h3:Heap) (h4:Heap) (h10:Heap) (K:Value→Heap→Prop):Prop :=
 C.bmap_guard t1 h10 fun r1 h11 =>
 ∃ (g2:Nat) (fs1:List Value) (cs1:List Value),r1 = .func (.func g2) ⟨fs1⟩ ⟨cs1⟩ ∧
 New z157 157 h11 fun h12 =>
 Put ⟨h11.size,0,none⟩ (.func (.func g2) ⟨fs1⟩ ⟨cs1⟩) h12 fun h13 =>
 ∃ cs2:List Value,List.length cs2=5∧Cells h13 ⟨h1.size,0,none⟩ cs2 ∧
 ∃ cs3:List Value,List.length cs3=15∧Cells h13 ⟨h2.size,0,none⟩ cs3 ∧
 List.length (cs2:List Value)=5 ∧
 List.length (cs3:List Value)=15 ∧
 New ([.pointer t1]++(cs2++cs3)) 146 h13 fun h14 =>
 New z144 144 h14 fun h15 =>
 Put ⟨h14.size,0,none⟩ (.pointer (some ⟨h13.size,0,none⟩)) h15 fun h16 =>
 ∃ (I1:Int→Heap→Prop) (M1:Int→Heap→Nat),I1 k1 h16 ∧
 ∀ (i1:Int),∀ h17:Heap,I1 i1 h17 →
 bif (decide (i1<10)) then (
 ∃ (q1:Option Addr),cellOf h17 ⟨h14.size,0,none⟩=some (.pointer q1) ∧
 onSome q1 fun p1 =>
 (0≤i1∧i1<(10:Int)) ∧
 ∃ (n1:Int),cellOf h17 (Addr.add (Addr.add (Addr.add p1 6) 3) (Int.toNat i1))=some (.int .i64 n1) ∧
 bif (n1 != 0) then (
 ∃ (q2:Option Addr),cellOf h17 ⟨h14.size,0,none⟩=some (.pointer q2) ∧
 ∃ (q3:Option Addr),cellOf h17 ⟨h14.size,0,none⟩=some (.pointer q3) ∧
 onSome q3 fun p2 =>
 (0≤i1∧i1<(10:Int)) ∧
 ∃ (n2:Int),cellOf h17 (Addr.add (Addr.add (Addr.add p2 6) 3) (Int.toNat i1))=some (.int .i64 n2) ∧
 C.bmap_file_give q2 n2 h17 fun r2 h18 =>
 ∃ (n3:Int),r2 = .int .i64 n3 ∧
 bif (n3 != 0) then (
 ∃ cs4:List Value,List.length cs4=15∧Cells h18 ⟨h3.size,0,none⟩ cs4 ∧
 PutRow ⟨h3.size,0,none⟩ cs4 15 h18 fun h19 =>
 Put ⟨h4.size,0,none⟩ (.int .i64 n3) h19 fun h20 =>
 D.bmap_Cut_c1 (some ⟨h11.size,0,none⟩) (some ⟨h4.size,0,none⟩) (some ⟨h3.size,0,none⟩) h20 fun h21 =>
 ∃ res5:List Value,List.length res5=15∧Cells h21 ⟨h3.size,0,none⟩ res5 ∧
 ∃ (res6:Int),cellOf h21 ⟨h4.size,0,none⟩=some (.int .i64 res6) ∧
 K (.tuple #[.agg ⟨res5⟩,.int .i64 res6]) h21) else (
 ∃ (q4:Option Addr),cellOf h18 ⟨h14.size,0,none⟩=some (.pointer q4) ∧
 onSome q4 fun p3 =>
 (0≤i1∧i1<(10:Int)) ∧
 Put (Addr.add (Addr.add (Addr.add p3 6) 3) (Int.toNat i1)) (.int .i64 0) h18 fun h22 =>
 I1 (IntKind.wrap .i64 (i1+1)) h22∧M1 (IntKind.wrap .i64 (i1+1)) h22<M1 i1 h17)) else (
 I1 (IntKind.wrap .i64 (i1+1)) h17∧M1 (IntKind.wrap .i64 (i1+1)) h17<M1 i1 h17)) else (
 bif (decide (k1<138)) then (
 ∃ (q5:Option Addr),cellOf h17 ⟨h14.size,0,none⟩=some (.pointer q5) ∧
 onSome q5 fun p4 =>
 ∃ (n4:Int),cellOf h17 (Addr.add (Addr.add p4 6) 13)=some (.int .i64 n4) ∧
 bif (n4 != 0) then (
 ∃ (q6:Option Addr),cellOf h17 ⟨h14.size,0,none⟩=some (.pointer q6) ∧
 ∃ (q7:Option Addr),cellOf h17 ⟨h14.size,0,none⟩=some (.pointer q7) ∧
 onSome q7 fun p5 =>
 ∃ (n5:Int),cellOf h17 (Addr.add (Addr.add p5 6) 13)=some (.int .i64 n5) ∧
 ∃ (q8:Option Addr),cellOf h17 ⟨h14.size,0,none⟩=some (.pointer q8) ∧
 C.bmap_file_cut q6 n5 (IntKind.wrap .i64 (k1 - 10)) (Value.func (.func 80) ⟨[.pointer q8]⟩ ⟨[]⟩) h17 fun r3 h23 =>
 ∃ (b1:Bool) (n6:Int),r3 = .tuple #[.bool b1,.int .i64 n6] ∧
 bif (n6 != 0) then (
 ∃ cs5:List Value,List.length cs5=15∧Cells h23 ⟨h3.size,0,none⟩ cs5 ∧
 PutRow ⟨h3.size,0,none⟩ cs5 15 h23 fun h24 =>
 Put ⟨h4.size,0,none⟩ (.int .i64 n6) h24 fun h25 =>
 D.bmap_Cut_c1 (some ⟨h11.size,0,none⟩) (some ⟨h4.size,0,none⟩) (some ⟨h3.size,0,none⟩) h25 fun h26 =>
 ∃ res7:List Value,List.length res7=15∧Cells h26 ⟨h3.size,0,none⟩ res7 ∧
 ∃ (res8:Int),cellOf h26 ⟨h4.size,0,none⟩=some (.int .i64 res8) ∧
 K (.tuple #[.agg ⟨res7⟩,.int .i64 res8]) h26) else (
 bif (!b1) then (
 ∃ (q9:Option Addr),cellOf h23 ⟨h14.size,0,none⟩=some (.pointer q9) ∧
 onSome q9 fun p6 =>
 Put (Addr.add (Addr.add p6 6) 13) (.int .i64 0) h23 fun h27 =>
 bmap_Cut.k2 k1 h3 h4 h11 h14 h27 K) else (
 bmap_Cut.k2 k1 h3 h4 h11 h14 h23 K))) else (
 bmap_Cut.k2 k1 h3 h4 h11 h14 h17 K)) else (
 bmap_Cut.k2 k1 h3 h4 h11 h14 h17 K))
def bmap_Cut (t1:Option Addr) (g1:List Value) (x1:List Value) (k1:Int) (K:Value→Heap→Prop) (h1:Heap):Prop :=
 New g1 25 h1 fun h2 =>
 New x1 44 h2 fun h3 =>
 New z44 44 h3 fun h4 =>
 New z28 28 h4 fun h5 =>
 bif (decide (k1<0)) then (
 PutRow ⟨h3.size,0,none⟩ [.int .i64 0,.int .i64 0,.int .i64 0,.int .i64 0,.int .i64 0,.int .i64 0,.int .i64 0,.int .i64 0,.int .i64 0,.int .i64 0,.int .i64 0,.int .i64 0,.int .i64 0,.int .i64 0,.int .i64 0] 15 h5 fun h6 =>
 Put ⟨h4.size,0,none⟩ (.int .i64 101) h6 fun h7 =>
 ∃ res1:List Value,List.length res1=15∧Cells h7 ⟨h3.size,0,none⟩ res1 ∧
 ∃ (res2:Int),cellOf h7 ⟨h4.size,0,none⟩=some (.int .i64 res2) ∧
 K (.tuple #[.agg ⟨res1⟩,.int .i64 res2]) h7) else (
 bif (decide (k1>16522)) then (
 PutRow ⟨h3.size,0,none⟩ [.int .i64 0,.int .i64 0,.int .i64 0,.int .i64 0,.int .i64 0,.int .i64 0,.int .i64 0,.int .i64 0,.int .i64 0,.int .i64 0,.int .i64 0,.int .i64 0,.int .i64 0,.int .i64 0,.int .i64 0] 15 h5 fun h8 =>
 Put ⟨h4.size,0,none⟩ (.int .i64 101) h8 fun h9 =>
 ∃ res3:List Value,List.length res3=15∧Cells h9 ⟨h3.size,0,none⟩ res3 ∧
 ∃ (res4:Int),cellOf h9 ⟨h4.size,0,none⟩=some (.int .i64 res4) ∧
 K (.tuple #[.agg ⟨res3⟩,.int .i64 res4]) h9) else (
 bmap_Cut.k1 t1 k1 h1 h2 h3 h4 h5 K))
def bmap_Cut.lo : Nat→List Nat×List (Nat×Ty):=fun n=>match n with|7=>([3,8,9,11],[(12,.int .i64)])|_=>([],[])
def bmap_Cut.od : Nat→Od:=fun n=>match n with|10=>(.op 0 [] (.op 1 [] (.op 2 [] (.op 3 [] (.op 4 [] (.op 5 [] (.op 6 [] (.op 7 [] (.op 8 [] (.op 9 [] .nil))))))))))|15=>(.op 0 [] (.op 1 [] (.op 2 [] (.op 3 [] (.op 4 [] (.op 5 [] (.op 6 [] (.op 7 [] (.op 8 [] (.op 9 [] (.op 10 [] (.op 11 [] (.op 12 [] (.op 13 [] (.op 14 [] (.op 15 [] .nil))))))))))))))))|22=>(.op 0 [] (.op 1 [] (.op 2 [] (.op 3 [] (.op 4 [] (.op 5 [] (.op 6 [] (.op 7 [] (.op 8 [] (.op 9 [] (.op 10 [] (.op 11 [] (.op 12 [] (.op 13 [] (.op 14 [] .nil)))))))))))))))|_ => .nil
set_option maxRecDepth 1000000 in
set_option maxRecDepth 1000000 in
theorem bmap_Cut.ok {t1:Option Addr} {g1:List Value} {x1:List Value} {k1:Int} {K:Value→Heap→Prop} {h:Heap} (hx:bmap_Cut t1 g1 x1 k1 K h):C.bmap_Cut t1 g1 x1 k1 h K :=
 fn_to (c:=Tryz.f26.body.getD .skip) (cxOk bmap_Cut.lo bmap_Cut.od) Tryz.func26 (by kernel_rfl) (by kernel_rfl) (Eq.mpr (by kernel_rfl) hx)
def bmap_All.k1 (h2:Heap) (h8:Heap) (e1:Int) (k1:Int) (h13:Heap) (I1:Int→Int→Heap→Prop) (M1:Int→Int→Heap→Nat) (_:Value→Heap→Prop):Prop :=
 ∃ (v1:Value),cellOf h13 ⟨h8.size,0,none⟩=some (v1) ∧
 (0≤k1∧k1<(10:Int)) ∧
 ∃ (n1:Int),cellOf h13 (Addr.add (Addr.add ⟨h2.size,0,none⟩ 3) (Int.toNat k1))=some (.int .i64 n1) ∧
 HCallsV Tryz.prog v1 [.int .i64 k1,.int .i64 n1] h13 fun r1 h14 =>
 ∃ (n2:Int),r1 = .int .i64 n2 ∧
 I1 n2 (IntKind.wrap .i64 (k1+1)) h14∧M1 n2 (IntKind.wrap .i64 (k1+1)) h14<M1 e1 k1 h13
def bmap_All.k4 (h6:Heap) (h7:Heap) (e4:Int) (h19:Heap) (K:Value→Heap→Prop):Prop :=
 bif (e4 != 0) then (
 K (.tuple #[.slice none 0 0,.slice none 0 0,.int .i64 e4]) h19) else (
 ∃ (sA1:Option Addr) (sL1:Nat) (sC1:Nat),cellOf h19 ⟨h6.size,0,none⟩=some (.slice sA1 sL1 sC1) ∧
 ∃ (sA2:Option Addr) (sL2:Nat) (sC2:Nat),cellOf h19 ⟨h7.size,0,none⟩=some (.slice sA2 sL2 sC2) ∧
 K (.tuple #[.slice sA1 sL1 sC1,.slice sA2 sL2 sC2,.int .i64 0]) h19)
def bmap_All.k3 (h2:Heap) (h6:Heap) (h7:Heap) (h8:Heap) (h10:Heap) (e3:Int) (h17:Heap) (K:Value→Heap→Prop):Prop :=
 bif (e3 == 0) then (
 ∃ (v3:Value),cellOf h17 ⟨h10.size,0,none⟩=some (v3) ∧
 ∃ (n5:Int),cellOf h17 (Addr.add ⟨h2.size,0,none⟩ 14)=some (.int .i64 n5) ∧
 HCallsV Tryz.prog v3 [.int .i64 n5,.func (.func 88) #[] ⟨[.pointer (some ⟨h10.size,0,none⟩),.pointer (some ⟨h8.size,0,none⟩)]⟩] h17 fun r3 h18 =>
 ∃ (n6:Int),r3 = .int .i64 n6 ∧
 bmap_All.k4 h6 h7 n6 h18 K) else (
 bmap_All.k4 h6 h7 e3 h17 K)
def bmap_All.k2 (h2:Heap) (h6:Heap) (h7:Heap) (h8:Heap) (h10:Heap) (e2:Int) (h15:Heap) (K:Value→Heap→Prop):Prop :=
 bif (e2 == 0) then (
 ∃ (v2:Value),cellOf h15 ⟨h10.size,0,none⟩=some (v2) ∧
 ∃ (n3:Int),cellOf h15 (Addr.add ⟨h2.size,0,none⟩ 13)=some (.int .i64 n3) ∧
 HCallsV Tryz.prog v2 [.int .i64 n3,.func (.func 87) #[] ⟨[.pointer (some ⟨h8.size,0,none⟩)]⟩] h15 fun r2 h16 =>
 ∃ (n4:Int),r2 = .int .i64 n4 ∧
 bmap_All.k3 h2 h6 h7 h8 h10 n4 h16 K) else (
 bmap_All.k3 h2 h6 h7 h8 h10 e2 h15 K)
def bmap_All (t1:Option Addr) (g1:List Value) (x1:List Value) (K:Value→Heap→Prop) (h1:Heap):Prop :=
 New g1 25 h1 fun h2 =>
 New x1 44 h2 fun h3 =>
 ∃ cs1:List Value,List.length cs1=5∧Cells h3 ⟨h1.size,0,none⟩ cs1 ∧
 ∃ cs2:List Value,List.length cs2=15∧Cells h3 ⟨h2.size,0,none⟩ cs2 ∧
 List.length (cs1:List Value)=5 ∧
 List.length (cs2:List Value)=15 ∧
 New ([.pointer t1]++(cs1++cs2)) 146 h3 fun h4 =>
 New z144 144 h4 fun h5 =>
 Put ⟨h4.size,0,none⟩ (.pointer (some ⟨h3.size,0,none⟩)) h5 fun h6 =>
 New z50 50 h6 fun h7 =>
 New z22 22 h7 fun h8 =>
 New z162 162 h8 fun h9 =>
 Put ⟨h8.size,0,none⟩ (.func (.func 83) #[] ⟨[.pointer (some ⟨h6.size,0,none⟩),.pointer (some ⟨h4.size,0,none⟩)]⟩) h9 fun h10 =>
 New z165 165 h10 fun h11 =>
 Put ⟨h10.size,0,none⟩ (.func (.func 85) #[] ⟨[.pointer (some ⟨h4.size,0,none⟩),.pointer (some ⟨h7.size,0,none⟩)]⟩) h11 fun h12 =>
 ∃ (I1:Int→Int→Heap→Prop) (M1:Int→Int→Heap→Nat),I1 0 0 h12 ∧
 ∀ (e1:Int) (k1:Int),∀ h13:Heap,I1 e1 k1 h13 →
 bif (decide (k1<10)) then (
 bif (e1 == 0) then (
 bmap_All.k1 h2 h8 e1 k1 h13 I1 M1 K) else (
 bmap_All.k2 h2 h6 h7 h8 h10 e1 h13 K)) else (
 bmap_All.k2 h2 h6 h7 h8 h10 e1 h13 K)
def bmap_All.lo : Nat→List Nat×List (Nat×Ty):=fun n=>match n with|8=>([5,10,11,12,13],[(14,.int .i64),(15,.int .i64)])|_=>([],[])
def bmap_All.od : Nat→Od:=fun n=>match n with|10=>(.op 0 [] (.op 1 [] (.op 2 [] (.op 3 [] (.op 4 [] (.op 5 [] (.op 6 [] (.op 7 [] .nil))))))))|17=>(.op 0 [] (.op 1 [] (.op 2 [] (.op 3 [] (.op 4 [] .nil)))))|_ => .nil
theorem bmap_All.ok {t1:Option Addr} {g1:List Value} {x1:List Value} {K:Value→Heap→Prop} {h:Heap} (hx:bmap_All t1 g1 x1 K h):C.bmap_All t1 g1 x1 h K :=
 fn_to (c:=Tryz.f28.body.getD .skip) (cxOk bmap_All.lo bmap_All.od) Tryz.func28 (by kernel_rfl) (by kernel_rfl) (Eq.mpr (by kernel_rfl) hx)
end Go.Proofs.YtcdpakjhjmchhaaGreatDoor.W
namespace Go.Proofs.YtcdpakjhjmchhaaGreatDoor.W
open Go Go.Proofs Wx
def txn_Txn_Back.k1 (t1:Option Addr) (mark1:Int) (h1:Heap) (K:Value→Heap→Prop):Prop :=
 onSome t1 fun p3 =>
 ∃ (sA2:Option Addr) (sL2:Nat) (sC2:Nat),cellOf h1 (Addr.add p3 2)=some (.slice sA2 sL2 sC2) ∧
 ∃ (I1:Int→Heap→Prop) (M1:Int→Heap→Nat),I1 (IntKind.wrap .i64 ((sL2:Int) - 1)) h1 ∧
 ∀ (k1:Int),∀ h2:Heap,I1 k1 h2 →
 bif (decide (k1≥mark1)) then (
 onSome t1 fun p4 =>
 ∃ (sA3:Option Addr) (sL3:Nat) (sC3:Nat),cellOf h2 (Addr.add p4 2)=some (.slice sA3 sL3 sC3) ∧
 (0≤k1∧k1<(sL3:Int)) ∧
 onSome sA3 fun p5 =>
 ∃ (v1:Value),cellOf h2 (Addr.add p5 (Int.toNat k1))=some (v1) ∧
 HCallsV Tryz.prog v1 [] h2 fun r1 h3 =>
 r1 = .tuple #[] ∧
 I1 (IntKind.wrap .i64 (k1 - 1)) h3∧M1 (IntKind.wrap .i64 (k1 - 1)) h3<M1 k1 h2) else (
 onSome t1 fun p6 =>
 ∃ (sA4:Option Addr) (sL4:Nat) (sC4:Nat),cellOf h2 (Addr.add p6 2)=some (.slice sA4 sL4 sC4) ∧
 (0≤mark1∧mark1≤(sC4:Int)) ∧
 onSome t1 fun p7 =>
 Put (Addr.add p7 2) (.slice sA4 (Int.toNat mark1) sC4) h2 fun h4 =>
 K (.int .i64 0) h4)
def txn_Txn_Back (t1:Option Addr) (mark1:Int) (K:Value→Heap→Prop) (h1:Heap):Prop :=
 onSome t1 fun p1 =>
 ∃ (b1:Bool),cellOf h1 (Addr.add p1 3)=some (.bool b1) ∧
 bif b1 then (
 K (.int .i64 61) h1) else (
 bif (decide (mark1<0)) then (
 K (.int .i64 62) h1) else (
 onSome t1 fun p2 =>
 ∃ (sA1:Option Addr) (sL1:Nat) (sC1:Nat),cellOf h1 (Addr.add p2 2)=some (.slice sA1 sL1 sC1) ∧
 bif (decide (mark1>(sL1:Int))) then (
 K (.int .i64 62) h1) else (
 txn_Txn_Back.k1 t1 mark1 h1 K)))
def txn_Txn_Back.lo : Nat→List Nat×List (Nat×Ty):=fun n=>match n with|6=>([0,1],[(5,.int .i64)])|_=>([],[])
def txn_Txn_Back.od : Nat→Od:=fun n=>match n with|_ => .nil
theorem txn_Txn_Back.ok {t1:Option Addr} {mark1:Int} {K:Value→Heap→Prop} {h:Heap} (hx:txn_Txn_Back t1 mark1 K h):C.txn_Txn_Back t1 mark1 h K :=
 fn_to (c:=Tryz.f32.body.getD .skip) (cxOk txn_Txn_Back.lo txn_Txn_Back.od) Tryz.func32 (by kernel_rfl) (by kernel_rfl) (Eq.mpr (by kernel_rfl) hx)
def txn_Txn_Written (t1:Option Addr) (K:Value→Heap→Prop) (h1:Heap):Prop :=
 onSome t1 fun p1 =>
 ∃ (b1:Bool),cellOf h1 (Addr.add p1 3)=some (.bool b1) ∧
 bif b1 then (
 K (.slice none 0 0) h1) else (
 onSome t1 fun p2 =>
 ∃ (m1:Option Nat),cellOf h1 (Addr.add p2 1)=some (.map m1) ∧
 C.maps_Keys_map_int_byte_int_byte m1 h1 fun r1 h2 =>
 ∃ (v1:Value),r1=v1 ∧
 C.slices_Sorted_int v1 h2 fun r2 h3 =>
 ∃ (sA1:Option Addr) (sL1:Nat) (sC1:Nat),r2 = .slice sA1 sL1 sC1 ∧
 K (.slice sA1 sL1 sC1) h3)
def txn_Txn_Written.lo : Nat→List Nat×List (Nat×Ty):=fun n=>match n with|_=>([],[])
def txn_Txn_Written.od : Nat→Od:=fun n=>match n with|_ => .nil
theorem txn_Txn_Written.ok {t1:Option Addr} {K:Value→Heap→Prop} {h:Heap} (hx:txn_Txn_Written t1 K h):C.txn_Txn_Written t1 h K :=
 fn_to (c:=Tryz.f36.body.getD .skip) (cxOk txn_Txn_Written.lo txn_Txn_Written.od) Tryz.func36 (by kernel_rfl) (by kernel_rfl) (Eq.mpr (by kernel_rfl) hx)
def txn_Txn_Read.k1 (t1:Option Addr) (i1:Int) (h3:Heap) (K:Value→Heap→Prop):Prop :=
 onSome t1 fun p3 =>
 ∃ (m1:Option Nat),cellOf h3 (Addr.add p3 1)=some (.map m1) ∧
 MapIn (.int .i64) m1 h3 fun mm1 =>
 ∃ (sA1:Option Addr) (sL1:Nat) (sC1:Nat),Option.getD (mget mm1 (.i i1)) (zeroV ti33) = .slice sA1 sL1 sC1 ∧
 bif (Option.isSome (mget mm1 (.i i1))) then (
 C.slices_Clone_byte_byte sA1 sL1 sC1 h3 fun r2 h4 =>
 ∃ (sA2:Option Addr) (sL2:Nat) (sC2:Nat),r2 = .slice sA2 sL2 sC2 ∧
 K (.tuple #[.slice sA2 sL2 sC2,.int .i64 0]) h4) else (
 onSome t1 fun p4 =>
 ∃ (q2:Option Addr),cellOf h3 (Addr.add p4 0)=some (.pointer q2) ∧
 C.adisk_Disk_Read q2 i1 h3 fun r3 h5 =>
 ∃ (sA3:Option Addr) (sL3:Nat) (sC3:Nat) (n2:Int),r3 = .tuple #[.slice sA3 sL3 sC3,.int .i64 n2] ∧
 K (.tuple #[.slice sA3 sL3 sC3,.int .i64 n2]) h5)
def txn_Txn_Read (t1:Option Addr) (i1:Int) (K:Value→Heap→Prop) (h1:Heap):Prop :=
 onSome t1 fun p1 =>
 ∃ (b1:Bool),cellOf h1 (Addr.add p1 3)=some (.bool b1) ∧
 bif b1 then (
 K (.tuple #[.slice none 0 0,.int .i64 61]) h1) else (
 bif (decide (i1<0)) then (
 K (.tuple #[.slice none 0 0,.int .i64 31]) h1) else (
 onSome t1 fun p2 =>
 ∃ (q1:Option Addr),cellOf h1 (Addr.add p2 0)=some (.pointer q1) ∧
 C.adisk_Disk_Blocks q1 h1 fun r1 h2 =>
 ∃ (n1:Int),r1 = .int .i64 n1 ∧
 bif (decide (i1≥n1)) then (
 K (.tuple #[.slice none 0 0,.int .i64 31]) h2) else (
 txn_Txn_Read.k1 t1 i1 h2 K)))
def txn_Txn_Read.lo : Nat→List Nat×List (Nat×Ty):=fun n=>match n with|_=>([],[])
def txn_Txn_Read.od : Nat→Od:=fun n=>match n with|_ => .nil
theorem txn_Txn_Read.ok {t1:Option Addr} {i1:Int} {K:Value→Heap→Prop} {h:Heap} (hx:txn_Txn_Read t1 i1 K h):C.txn_Txn_Read t1 i1 h K :=
 fn_to (c:=Tryz.f39.body.getD .skip) (cxOk txn_Txn_Read.lo txn_Txn_Read.od) Tryz.func39 (by kernel_rfl) (by kernel_rfl) (Eq.mpr (by kernel_rfl) hx)
def space_Used (t1:Option Addr) (g1:List Value) (i1:Int) (K:Value→Heap→Prop) (h1:Heap):Prop :=
 New g1 25 h1 fun h2 =>
 ∃ cs1:List Value,List.length cs1=5∧Cells h2 ⟨h1.size,0,none⟩ cs1 ∧
 C.space_bit t1 cs1 i1 h2 fun r1 h3 =>
 ∃ (n1:Int) (sA1:Option Addr) (sL1:Nat) (sC1:Nat) (n2:Int) (n3:Int),r1 = .tuple #[.int .i64 n1,.slice sA1 sL1 sC1,.int .i64 n2,.int .i64 n3] ∧
 bif (n3 != 0) then (
 K (.tuple #[.bool false,.int .i64 n3]) h3) else (
 C.bits_Get sA1 sL1 sC1 n2 h3 fun r2 h4 =>
 ∃ (b1:Bool) (n4:Int),r2 = .tuple #[.bool b1,.int .i64 n4] ∧
 K (.tuple #[.bool b1,.int .i64 n4]) h4)
def space_Used.lo : Nat→List Nat×List (Nat×Ty):=fun n=>match n with|_=>([],[])
def space_Used.od : Nat→Od:=fun n=>match n with|_ => .nil
theorem space_Used.ok {t1:Option Addr} {g1:List Value} {i1:Int} {K:Value→Heap→Prop} {h:Heap} (hx:space_Used t1 g1 i1 K h):C.space_Used t1 g1 i1 h K :=
 fn_to (c:=Tryz.f40.body.getD .skip) (cxOk space_Used.lo space_Used.od) Tryz.func40 (by kernel_rfl) (by kernel_rfl) (Eq.mpr (by kernel_rfl) hx)
def bolelaw12_Plain_with.k1 (h4:Heap) (n2:Int) (h7:Heap) (I1:Int→Heap→Prop) (M1:Int→Heap→Nat) (h12:Heap) (_:Value→Heap→Prop):Prop :=
 ∃ (sA2:Option Addr) (sL2:Nat) (sC2:Nat),cellOf h12 (Addr.add ⟨h4.size,0,none⟩ 1)=some (.slice sA2 sL2 sC2) ∧
 ∃ cs2:List Value,List.length cs2=2∧Cells h12 ⟨h7.size,0,none⟩ cs2 ∧
 List.length (cs2:List Value)=2 ∧
 New cs2 182 h12 fun h13 =>
 ∃ new1:List Value,List.length new1=1*2∧SlCells h13 (some ⟨h12.size,0,none⟩) new1∧(∀ v ∈ new1,v.oneCell'=true) ∧
 AppendP ti182 182 sA2 sL2 sC2 1 new1 h13 fun sA3 sL3 sC3 h14 =>
 Put (Addr.add ⟨h4.size,0,none⟩ 1) (.slice sA3 sL3 sC3) h14 fun h15 =>
 I1 (IntKind.wrap .i64 (n2+1)) h15∧M1 (IntKind.wrap .i64 (n2+1)) h15<M1 n2 h7
def bolelaw12_Plain_with.k2 (h2:Heap) (h4:Heap) (i1:Int) (h19:Heap) (I2:Int→Heap→Prop) (M2:Int→Heap→Nat) (n5:Int) (n6:Int) (n7:Int) (_:Value→Heap→Prop):Prop :=
 ∃ cs5:List Value,List.length cs5=2∧Cells h19 ⟨h4.size,0,none⟩ cs5 ∧
 C.bolelaw12_Plain_at cs5 (IntKind.wrap .i64 (Int.tdiv (IntKind.wrap .i64 (n5+i1)) 512)) h19 fun r1 h20 =>
 ∃ (s5:ByteArray),r1 = .string s5 ∧
 ∃ cs6:List Value,List.length cs6=2∧Cells h20 ⟨h4.size,0,none⟩ cs6 ∧
 (0≤(Int.tmod (IntKind.wrap .i64 (n6+i1)) 512)∧(Int.tmod (IntKind.wrap .i64 (n6+i1)) 512)≤(s5.size:Int)) ∧
 ∃ (s6:ByteArray),cellOf h20 (Addr.add ⟨h2.size,0,none⟩ 3)=some (.string s6) ∧
 (0≤i1∧i1≤(IntKind.wrap .i64 (i1+n7))∧(IntKind.wrap .i64 (i1+n7))≤(s6.size:Int)) ∧
 (((ByteArray.extract s5 0 (Int.toNat (Int.tmod (IntKind.wrap .i64 (n6+i1)) 512))).size+(ByteArray.extract s6 (Int.toNat i1) (Int.toNat (IntKind.wrap .i64 (i1+n7)))).size:Nat):Int)≤9223372036854775807 ∧
 (0≤(IntKind.wrap .i64 ((Int.tmod (IntKind.wrap .i64 (n6+i1)) 512)+n7))∧(IntKind.wrap .i64 ((Int.tmod (IntKind.wrap .i64 (n6+i1)) 512)+n7))≤(s5.size:Int)) ∧
 ((((ByteArray.extract s5 0 (Int.toNat (Int.tmod (IntKind.wrap .i64 (n6+i1)) 512)))++(ByteArray.extract s6 (Int.toNat i1) (Int.toNat (IntKind.wrap .i64 (i1+n7))))).size+(ByteArray.extract s5 (Int.toNat (IntKind.wrap .i64 ((Int.tmod (IntKind.wrap .i64 (n6+i1)) 512)+n7))) s5.size).size:Nat):Int)≤9223372036854775807 ∧
 C.bolelaw12_Plain_put cs6 (IntKind.wrap .i64 (Int.tdiv (IntKind.wrap .i64 (n5+i1)) 512)) (((ByteArray.extract s5 0 (Int.toNat (Int.tmod (IntKind.wrap .i64 (n6+i1)) 512)))++(ByteArray.extract s6 (Int.toNat i1) (Int.toNat (IntKind.wrap .i64 (i1+n7)))))++(ByteArray.extract s5 (Int.toNat (IntKind.wrap .i64 ((Int.tmod (IntKind.wrap .i64 (n6+i1)) 512)+n7))) s5.size)) h20 fun r2 h21 =>
 ∃ (cs7:List Value),r2 = .agg ⟨cs7⟩ ∧
 PutRow ⟨h4.size,0,none⟩ cs7 2 h21 fun h22 =>
 I2 (IntKind.wrap .i64 (i1+n7)) h22∧M2 (IntKind.wrap .i64 (i1+n7)) h22<M2 i1 h19
def bolelaw12_Plain_with (p1:List Value) (e1:List Value) (K:Value→Heap→Prop) (h1:Heap):Prop :=
 New p1 92 h1 fun h2 =>
 New e1 95 h2 fun h3 =>
 New z92 92 h3 fun h4 =>
 ∃ (b1:Bool),cellOf h4 (Addr.add ⟨h2.size,0,none⟩ 1)=some (.bool b1) ∧
 bif b1 then (
 ∃ (n1:Int),cellOf h4 (Addr.add ⟨h2.size,0,none⟩ 2)=some (.int .i64 n1) ∧
 NewRow z92 92 [.int .i64 n1,.slice none 0 0] 2 h4 fun h6 =>
 ∃ (sA1:Option Addr) (sL1:Nat) (sC1:Nat),cellOf h6 (Addr.add ⟨h1.size,0,none⟩ 1)=some (.slice sA1 sL1 sC1) ∧
 ∃ (I1:Int→Heap→Prop) (M1:Int→Heap→Nat),I1 0 h6 ∧
 ∀ (n2:Int),∀ h7:Heap,I1 n2 h7 →
 bif (decide (n2<(sL1:Int))) then (
 (0≤n2∧n2<(sL1:Int)) ∧
 onSome sA1 fun p2 =>
 ∃ cs1:List Value,List.length cs1=2∧Cells h7 (Addr.add p2 ((Int.toNat n2)*2)) cs1 ∧
 NewRow z182 182 cs1 2 h7 fun h9 =>
 ∃ (n3:Int),cellOf h9 (Addr.add ⟨h2.size,0,none⟩ 2)=some (.int .i64 n3) ∧
 ∃ (n4:Int),cellOf h9 (Addr.add ⟨h7.size,0,none⟩ 0)=some (.int .i64 n4) ∧
 bif (decide ((IntKind.wrap .i64 (n3 - (IntKind.wrap .i64 (512*n4))))≤0)) then (
 I1 (IntKind.wrap .i64 (n2+1)) h9∧M1 (IntKind.wrap .i64 (n2+1)) h9<M1 n2 h7) else (
 bif (decide ((IntKind.wrap .i64 (n3 - (IntKind.wrap .i64 (512*n4))))<512)) then (
 ∃ (s1:ByteArray),cellOf h9 (Addr.add ⟨h7.size,0,none⟩ 1)=some (.string s1) ∧
 (0≤(IntKind.wrap .i64 (n3 - (IntKind.wrap .i64 (512*n4))))∧(IntKind.wrap .i64 (n3 - (IntKind.wrap .i64 (512*n4))))≤(s1.size:Int)) ∧
 (0≤(IntKind.wrap .i64 (512 - (IntKind.wrap .i64 (n3 - (IntKind.wrap .i64 (512*n4))))))∧(IntKind.wrap .i64 (512 - (IntKind.wrap .i64 (n3 - (IntKind.wrap .i64 (512*n4))))))≤(IntKind.wrap .i64 (512 - (IntKind.wrap .i64 (n3 - (IntKind.wrap .i64 (512*n4))))))∧(1:Int)*(IntKind.wrap .i64 (512 - (IntKind.wrap .i64 (n3 - (IntKind.wrap .i64 (512*n4))))))≤281474976710656∧(IntKind.wrap .i64 (512 - (IntKind.wrap .i64 (n3 - (IntKind.wrap .i64 (512*n4))))))≤281474976710656) ∧
 New (repCells z5 (Int.toNat (IntKind.wrap .i64 (512 - (IntKind.wrap .i64 (n3 - (IntKind.wrap .i64 (512*n4)))))))) 5 h9 fun h10 =>
 (cellOf h10 (Addr.add ⟨h7.size,0,none⟩ 1)=some (.string s1)) ∧
 ∃ bs1:List UInt8,StrAt h10 (some ⟨h9.size,0,none⟩) (Int.toNat (IntKind.wrap .i64 (512 - (IntKind.wrap .i64 (n3 - (IntKind.wrap .i64 (512*n4))))))) bs1 ∧
 (((ByteArray.extract s1 0 (Int.toNat (IntKind.wrap .i64 (n3 - (IntKind.wrap .i64 (512*n4)))))).size+(mkStr bs1).size:Nat):Int)≤9223372036854775807 ∧
 Put (Addr.add ⟨h7.size,0,none⟩ 1) (.string ((ByteArray.extract s1 0 (Int.toNat (IntKind.wrap .i64 (n3 - (IntKind.wrap .i64 (512*n4))))))++(mkStr bs1))) h10 fun h11 =>
 bolelaw12_Plain_with.k1 h4 n2 h7 I1 M1 h11 K) else (
 bolelaw12_Plain_with.k1 h4 n2 h7 I1 M1 h9 K))) else (
 ∃ cs3:List Value,List.length cs3=2∧Cells h7 ⟨h4.size,0,none⟩ cs3 ∧
 PutRow ⟨h3.size,0,none⟩ cs3 2 h7 fun h16 =>
 ∃ res1:List Value,List.length res1=2∧Cells h16 ⟨h3.size,0,none⟩ res1 ∧
 K (.agg ⟨res1⟩) h16)) else (
 ∃ cs4:List Value,List.length cs4=2∧Cells h4 ⟨h1.size,0,none⟩ cs4 ∧
 NewRow z92 92 cs4 2 h4 fun h18 =>
 ∃ (I2:Int→Heap→Prop) (M2:Int→Heap→Nat),I2 0 h18 ∧
 ∀ (i1:Int),∀ h19:Heap,I2 i1 h19 →
 ∃ (s2:ByteArray),cellOf h19 (Addr.add ⟨h2.size,0,none⟩ 3)=some (.string s2) ∧
 bif (decide (i1<(s2.size:Int))) then (
 ∃ (n5:Int),cellOf h19 (Addr.add ⟨h2.size,0,none⟩ 2)=some (.int .i64 n5) ∧
 ∃ (n6:Int),cellOf h19 (Addr.add ⟨h2.size,0,none⟩ 2)=some (.int .i64 n6) ∧
 ∃ (s3:ByteArray),cellOf h19 (Addr.add ⟨h2.size,0,none⟩ 3)=some (.string s3) ∧
 bif (decide ((IntKind.wrap .i64 (512 - (Int.tmod (IntKind.wrap .i64 (n6+i1)) 512)))>(IntKind.wrap .i64 ((s3.size:Int) - i1)))) then (
 ∃ (s4:ByteArray),cellOf h19 (Addr.add ⟨h2.size,0,none⟩ 3)=some (.string s4) ∧
 bolelaw12_Plain_with.k2 h2 h4 i1 h19 I2 M2 n5 n6 (IntKind.wrap .i64 ((s4.size:Int) - i1)) K) else (
 bolelaw12_Plain_with.k2 h2 h4 i1 h19 I2 M2 n5 n6 (IntKind.wrap .i64 (512 - (Int.tmod (IntKind.wrap .i64 (n6+i1)) 512))) K)) else (
 ∃ (s7:ByteArray),cellOf h19 (Addr.add ⟨h2.size,0,none⟩ 3)=some (.string s7) ∧
 bif (decide ((s7.size:Int)>0)) then (
 ∃ (n8:Int),cellOf h19 (Addr.add ⟨h2.size,0,none⟩ 2)=some (.int .i64 n8) ∧
 ∃ (s8:ByteArray),cellOf h19 (Addr.add ⟨h2.size,0,none⟩ 3)=some (.string s8) ∧
 ∃ (n9:Int),cellOf h19 (Addr.add ⟨h4.size,0,none⟩ 0)=some (.int .i64 n9) ∧
 bif (decide ((IntKind.wrap .i64 (n8+(s8.size:Int)))>n9)) then (
 ∃ (n10:Int),cellOf h19 (Addr.add ⟨h2.size,0,none⟩ 2)=some (.int .i64 n10) ∧
 ∃ (s9:ByteArray),cellOf h19 (Addr.add ⟨h2.size,0,none⟩ 3)=some (.string s9) ∧
 Put (Addr.add ⟨h4.size,0,none⟩ 0) (.int .i64 (IntKind.wrap .i64 (n10+(s9.size:Int)))) h19 fun h23 =>
 ∃ cs8:List Value,List.length cs8=2∧Cells h23 ⟨h4.size,0,none⟩ cs8 ∧
 PutRow ⟨h3.size,0,none⟩ cs8 2 h23 fun h24 =>
 ∃ res2:List Value,List.length res2=2∧Cells h24 ⟨h3.size,0,none⟩ res2 ∧
 K (.agg ⟨res2⟩) h24) else (
 ∃ cs9:List Value,List.length cs9=2∧Cells h19 ⟨h4.size,0,none⟩ cs9 ∧
 PutRow ⟨h3.size,0,none⟩ cs9 2 h19 fun h25 =>
 ∃ res3:List Value,List.length res3=2∧Cells h25 ⟨h3.size,0,none⟩ res3 ∧
 K (.agg ⟨res3⟩) h25)) else (
 ∃ cs10:List Value,List.length cs10=2∧Cells h19 ⟨h4.size,0,none⟩ cs10 ∧
 PutRow ⟨h3.size,0,none⟩ cs10 2 h19 fun h26 =>
 ∃ res4:List Value,List.length res4=2∧Cells h26 ⟨h3.size,0,none⟩ res4 ∧
 K (.agg ⟨res4⟩) h26)))
def bolelaw12_Plain_with.lo : Nat→List Nat×List (Nat×Ty):=fun n=>match n with|4=>([3,4,5,21,22],[(23,.int .i64)])|15=>([3,4,9],[(10,.int .i64)])|_=>([],[])
def bolelaw12_Plain_with.od : Nat→Od:=fun n=>match n with|9=>(.op 0 [] (.op 1 [] (.op 2 [] (.op 3 [] (.op 4 [] (.op 5 [] (.op 6 [1] (.op 7 [] (.op 8 [] (.op 9 [] (.op 10 [] .nil)))))))))))|22=>(.op 0 [] (.op 1 [] (.op 2 [] (.op 3 [] (.op 4 [] (.op 5 [] (.op 6 [] (.op 7 [] (.op 8 [] (.op 9 [] (.op 10 [] (.op 11 [] (.op 12 [] (.op 13 [] (.op 14 [] (.op 15 [] (.op 16 [] (.op 17 [] (.op 18 [] (.op 19 [] (.op 20 [] .nil)))))))))))))))))))))|_ => .nil
theorem bolelaw12_Plain_with.ok {p1:List Value} {e1:List Value} {K:Value→Heap→Prop} {h:Heap} (hx:bolelaw12_Plain_with p1 e1 K h):C.bolelaw12_Plain_with p1 e1 h K :=
 fn_to (c:=Tryz.f41.body.getD .skip) (cxOk bolelaw12_Plain_with.lo bolelaw12_Plain_with.od) Tryz.func41 (by kernel_rfl) (by kernel_rfl) (Eq.mpr (by kernel_rfl) hx)
def bolelaw12_Plain_blocks.k1 (tablesL1:Nat) (h3:Heap) (n8:Int) (K:Value→Heap→Prop):Prop :=
 bif (decide ((tablesL1:Int)>0)) then (
 K (.int .i64 (IntKind.wrap .i64 ((IntKind.wrap .i64 (n8+1))+(tablesL1:Int)))) h3) else (
 K (.int .i64 n8) h3)
def bolelaw12_Plain_blocks (p1:List Value) (K:Value→Heap→Prop) (h1:Heap):Prop :=
 New p1 92 h1 fun h2 =>
 ∃ (sA1:Option Addr) (sL1:Nat) (sC1:Nat),cellOf h2 (Addr.add ⟨h1.size,0,none⟩ 1)=some (.slice sA1 sL1 sC1) ∧
 ∃ (sA2:Option Addr) (sL2:Nat) (sC2:Nat),cellOf h2 (Addr.add ⟨h1.size,0,none⟩ 1)=some (.slice sA2 sL2 sC2) ∧
 ∃ (I1:Bool→Option Addr→Nat→Nat→Int→Heap→Prop) (M1:Bool→Option Addr→Nat→Nat→Int→Heap→Nat),I1 false none 0 0 0 h2 ∧
 ∀ (one1:Bool) (tablesA1:Option Addr) (tablesL1:Nat) (tablesC1:Nat) (n1:Int),∀ h3:Heap,I1 one1 tablesA1 tablesL1 tablesC1 n1 h3 →
 bif (decide (n1<(sL2:Int))) then (
 (0≤n1∧n1<(sL2:Int)) ∧
 onSome sA2 fun p2 =>
 ∃ cs1:List Value,List.length cs1=2∧Cells h3 (Addr.add p2 ((Int.toNat n1)*2)) cs1 ∧
 NewRow z182 182 cs1 2 h3 fun h5 =>
 ∃ (n2:Int),cellOf h5 (Addr.add ⟨h3.size,0,none⟩ 0)=some (.int .i64 n2) ∧
 bif (decide (n2<10)) then (
 I1 one1 tablesA1 tablesL1 tablesC1 (IntKind.wrap .i64 (n1+1)) h5∧M1 one1 tablesA1 tablesL1 tablesC1 (IntKind.wrap .i64 (n1+1)) h5<M1 one1 tablesA1 tablesL1 tablesC1 n1 h3) else (
 ∃ (n3:Int),cellOf h5 (Addr.add ⟨h3.size,0,none⟩ 0)=some (.int .i64 n3) ∧
 bif (decide (n3<138)) then (
 I1 true tablesA1 tablesL1 tablesC1 (IntKind.wrap .i64 (n1+1)) h5∧M1 true tablesA1 tablesL1 tablesC1 (IntKind.wrap .i64 (n1+1)) h5<M1 one1 tablesA1 tablesL1 tablesC1 n1 h3) else (
 ∃ (I2:Bool→Int→Heap→Prop) (M2:Bool→Int→Heap→Nat),I2 false 0 h5 ∧
 ∀ (there1:Bool) (n4:Int),∀ h6:Heap,I2 there1 n4 h6 →
 bif (decide (n4<(tablesL1:Int))) then (
 (0≤n4∧n4<(tablesL1:Int)) ∧
 onSome tablesA1 fun p3 =>
 ∃ (n5:Int),cellOf h6 (Addr.add p3 (Int.toNat n4))=some (.int .i64 n5) ∧
 bif there1 then (
 I2 true (IntKind.wrap .i64 (n4+1)) h6∧M2 true (IntKind.wrap .i64 (n4+1)) h6<M2 there1 n4 h6) else (
 ∃ (n6:Int),cellOf h6 (Addr.add ⟨h3.size,0,none⟩ 0)=some (.int .i64 n6) ∧
 I2 (n5 == (IntKind.wrap .i64 (Int.tdiv (IntKind.wrap .i64 (n6 - 138)) 128))) (IntKind.wrap .i64 (n4+1)) h6∧M2 (n5 == (IntKind.wrap .i64 (Int.tdiv (IntKind.wrap .i64 (n6 - 138)) 128))) (IntKind.wrap .i64 (n4+1)) h6<M2 there1 n4 h6)) else (
 bif (!there1) then (
 ∃ (n7:Int),cellOf h6 (Addr.add ⟨h3.size,0,none⟩ 0)=some (.int .i64 n7) ∧
 New [.int .i64 (IntKind.wrap .i64 (Int.tdiv (IntKind.wrap .i64 (n7 - 138)) 128))] 3 h6 fun h7 =>
 ∃ new1:List Value,List.length new1=1*1∧SlCells h7 (some ⟨h6.size,0,none⟩) new1∧(∀ v ∈ new1,v.oneCell'=true) ∧
 AppendP ti3 3 tablesA1 tablesL1 tablesC1 1 new1 h7 fun sA3 sL3 sC3 h8 =>
 I1 one1 sA3 sL3 sC3 (IntKind.wrap .i64 (n1+1)) h8∧M1 one1 sA3 sL3 sC3 (IntKind.wrap .i64 (n1+1)) h8<M1 one1 tablesA1 tablesL1 tablesC1 n1 h3) else (
 I1 one1 tablesA1 tablesL1 tablesC1 (IntKind.wrap .i64 (n1+1)) h6∧M1 one1 tablesA1 tablesL1 tablesC1 (IntKind.wrap .i64 (n1+1)) h6<M1 one1 tablesA1 tablesL1 tablesC1 n1 h3))))) else (
 bif one1 then (
 bolelaw12_Plain_blocks.k1 tablesL1 h3 (IntKind.wrap .i64 ((sL1:Int)+1)) K) else (
 bolelaw12_Plain_blocks.k1 tablesL1 h3 (sL1:Int) K))
def bolelaw12_Plain_blocks.lo : Nat→List Nat×List (Nat×Ty):=fun n=>match n with|5=>([3,15,16],[(4,.bool),(5,.slice),(17,.int .i64)])|12=>([3,4,5,7,15,16,17,27,28],[(8,.bool),(29,.int .i64)])|_=>([],[])
def bolelaw12_Plain_blocks.od : Nat→Od:=fun n=>match n with|_ => .nil
theorem bolelaw12_Plain_blocks.ok {p1:List Value} {K:Value→Heap→Prop} {h:Heap} (hx:bolelaw12_Plain_blocks p1 K h):C.bolelaw12_Plain_blocks p1 h K :=
 fn_to (c:=Tryz.f42.body.getD .skip) (cxOk bolelaw12_Plain_blocks.lo bolelaw12_Plain_blocks.od) Tryz.func42 (by kernel_rfl) (by kernel_rfl) (Eq.mpr (by kernel_rfl) hx)
def bolelaw12_Plain_bytes.k1 (h1:Heap) (bA1:Option Addr) (bL1:Nat) (bC1:Nat) (i1:Int) (h3:Heap) (I1:Option Addr→Nat→Nat→Int→Heap→Prop) (M1:Option Addr→Nat→Nat→Int→Heap→Nat) (_:Value→Heap→Prop):Prop :=
 ∃ cs1:List Value,List.length cs1=2∧Cells h3 ⟨h1.size,0,none⟩ cs1 ∧
 C.bolelaw12_Plain_at cs1 (IntKind.wrap .i64 (Int.tdiv i1 512)) h3 fun r1 h4 =>
 ∃ (s1:ByteArray),r1 = .string s1 ∧
 (0≤(Int.tmod i1 512)∧(Int.tmod i1 512)<(s1.size:Int)) ∧
 ∃ b1:UInt8,s1.toList[Int.toNat (Int.tmod i1 512)]?=some b1 ∧
 New [.int .u8 ((UInt8.toNat b1:Nat):Int)] 5 h4 fun h5 =>
 ∃ new1:List Value,List.length new1=1*1∧SlCells h5 (some ⟨h4.size,0,none⟩) new1∧(∀ v ∈ new1,v.oneCell'=true) ∧
 AppendP ti5 5 bA1 bL1 bC1 1 new1 h5 fun sA1 sL1 sC1 h6 =>
 I1 sA1 sL1 sC1 (IntKind.wrap .i64 (i1+1)) h6∧M1 sA1 sL1 sC1 (IntKind.wrap .i64 (i1+1)) h6<M1 bA1 bL1 bC1 i1 h3
def bolelaw12_Plain_bytes (p1:List Value) (off1:Int) (n1:Int) (K:Value→Heap→Prop) (h1:Heap):Prop :=
 New p1 92 h1 fun h2 =>
 ∃ (I1:Option Addr→Nat→Nat→Int→Heap→Prop) (M1:Option Addr→Nat→Nat→Int→Heap→Nat),I1 none 0 0 off1 h2 ∧
 ∀ (bA1:Option Addr) (bL1:Nat) (bC1:Nat) (i1:Int),∀ h3:Heap,I1 bA1 bL1 bC1 i1 h3 →
 ∃ (n2:Int),cellOf h3 (Addr.add ⟨h1.size,0,none⟩ 0)=some (.int .i64 n2) ∧
 bif (decide (i1<n2)) then (
 bif (decide (i1<(IntKind.wrap .i64 (off1+n1)))) then (
 bolelaw12_Plain_bytes.k1 h1 bA1 bL1 bC1 i1 h3 I1 M1 K) else (
 ∃ bs1:List UInt8,StrAt h3 bA1 bL1 bs1 ∧
 K (.string (mkStr bs1)) h3)) else (
 ∃ bs2:List UInt8,StrAt h3 bA1 bL1 bs2 ∧
 K (.string (mkStr bs2)) h3)
def bolelaw12_Plain_bytes.lo : Nat→List Nat×List (Nat×Ty):=fun n=>match n with|3=>([1,2,3],[(7,.slice),(8,.int .i64)])|_=>([],[])
def bolelaw12_Plain_bytes.od : Nat→Od:=fun n=>match n with|_ => .nil
theorem bolelaw12_Plain_bytes.ok {p1:List Value} {off1:Int} {n1:Int} {K:Value→Heap→Prop} {h:Heap} (hx:bolelaw12_Plain_bytes p1 off1 n1 K h):C.bolelaw12_Plain_bytes p1 off1 n1 h K :=
 fn_to (c:=Tryz.f43.body.getD .skip) (cxOk bolelaw12_Plain_bytes.lo bolelaw12_Plain_bytes.od) Tryz.func43 (by kernel_rfl) (by kernel_rfl) (Eq.mpr (by kernel_rfl) hx)
def boleref09_Geo (n1:Int) (K:Value→Heap→Prop) (h1:Heap):Prop :=
 NewRow z25 25 [.int .i64 n1,.int .i64 98,.int .i64 (IntKind.wrap .i64 (98+(IntKind.wrap .i64 (Int.tdiv (IntKind.wrap .i64 ((IntKind.wrap .i64 (n1+4096)) - 1)) 4096)))),.int .i64 (IntKind.wrap .i64 ((IntKind.wrap .i64 (98+(IntKind.wrap .i64 (Int.tdiv (IntKind.wrap .i64 ((IntKind.wrap .i64 (n1+4096)) - 1)) 4096))))+(IntKind.wrap .i64 (Int.tdiv n1 64)))),.int .i64 (IntKind.wrap .i64 (8*(IntKind.wrap .i64 (Int.tdiv n1 64))))] 5 h1 fun h3 =>
 ∃ res1:List Value,List.length res1=5∧Cells h3 ⟨h1.size,0,none⟩ res1 ∧
 K (.agg ⟨res1⟩) h3
def boleref09_Geo.lo : Nat→List Nat×List (Nat×Ty):=fun n=>match n with|_=>([],[])
def boleref09_Geo.od : Nat→Od:=fun n=>match n with|_ => .nil
theorem boleref09_Geo.ok {n1:Int} {K:Value→Heap→Prop} {h:Heap} (hx:boleref09_Geo n1 K h):C.boleref09_Geo n1 h K :=
 fn_to (c:=Tryz.f44.body.getD .skip) (cxOk boleref09_Geo.lo boleref09_Geo.od) Tryz.func44 (by kernel_rfl) (by kernel_rfl) (Eq.mpr (by kernel_rfl) hx)
def boleref12_Image.k1 (h1:Heap) (h2:Heap) (n1:Int) (h3:Heap) (n2:Int) (n3:Int) (n7:Int) (h8:Heap) (I2:Int→Heap→Prop) (M2:Int→Heap→Nat) (h11:Heap) (sA1:Option Addr) (sL1:Nat) (_:Value→Heap→Prop):Prop :=
 ∃ (I3:Int→Heap→Prop) (M3:Int→Heap→Nat),I3 0 h11 ∧
 ∀ (k1:Int),∀ h12:Heap,I3 k1 h12 →
 bif (decide (k1<(sL1:Int))) then (
 ∃ (n10:Int),cellOf h12 (Addr.add ⟨h1.size,0,none⟩ 2)=some (.int .i64 n10) ∧
 (0≤k1∧k1<(sL1:Int)) ∧
 onSome sA1 fun p2 =>
 ∃ (n11:Int),cellOf h12 (Addr.add p2 (Int.toNat k1))=some (.int .u8 n11) ∧
 (0≤(IntKind.wrap .i64 ((IntKind.wrap .i64 ((IntKind.wrap .i64 (n10*512))+(IntKind.wrap .i64 (64*(IntKind.wrap .i64 (n7+1))))))+k1))∧(IntKind.wrap .i64 ((IntKind.wrap .i64 ((IntKind.wrap .i64 (n10*512))+(IntKind.wrap .i64 (64*(IntKind.wrap .i64 (n7+1))))))+k1))<((Int.toNat (IntKind.wrap .i64 (n1*512))):Int)) ∧
 Put (Addr.add ⟨h2.size,0,none⟩ (Int.toNat (IntKind.wrap .i64 ((IntKind.wrap .i64 ((IntKind.wrap .i64 (n10*512))+(IntKind.wrap .i64 (64*(IntKind.wrap .i64 (n7+1))))))+k1)))) (.int .u8 n11) h12 fun h13 =>
 I3 (IntKind.wrap .i64 (k1+1)) h13∧M3 (IntKind.wrap .i64 (k1+1)) h13<M3 k1 h12) else (
 ∃ cs3:List Value,List.length cs3=10∧Cells h12 (Addr.add ⟨h8.size,0,none⟩ 3) cs3 ∧
 ∃ (I4:Int→Heap→Prop) (M4:Int→Heap→Nat),I4 0 h12 ∧
 ∀ (n12:Int),∀ h14:Heap,I4 n12 h14 →
 bif (decide (n12<10)) then (
 (0≤n12∧n12<(10:Int)) ∧
 ∃ (n13:Int),cs3[(Int.toNat n12)]?=some (.int .i64 n13) ∧
 ∃ (n14:Int),cellOf h14 (Addr.add ⟨h1.size,0,none⟩ 3)=some (.int .i64 n14) ∧
 bif (decide (n13≥n14)) then (
 ∃ (n15:Int),cellOf h14 (Addr.add ⟨h1.size,0,none⟩ 0)=some (.int .i64 n15) ∧
 bif (decide (n13<n15)) then (
 (0≤n13∧n13<(((Int.toNat (IntKind.wrap .i64 ((IntKind.wrap .i64 (n2 - n3))*4096))):Nat):Int)) ∧
 Put (Addr.add ⟨h3.size,0,none⟩ (Int.toNat n13)) (.bool true) h14 fun h15 =>
 I4 (IntKind.wrap .i64 (n12+1)) h15∧M4 (IntKind.wrap .i64 (n12+1)) h15<M4 n12 h14) else (
 I4 (IntKind.wrap .i64 (n12+1)) h14∧M4 (IntKind.wrap .i64 (n12+1)) h14<M4 n12 h14)) else (
 I4 (IntKind.wrap .i64 (n12+1)) h14∧M4 (IntKind.wrap .i64 (n12+1)) h14<M4 n12 h14)) else (
 I2 (IntKind.wrap .i64 (n7+1)) h14∧M2 (IntKind.wrap .i64 (n7+1)) h14<M2 n7 h8))
def boleref12_Image (g1:List Value) (recordsA1:Option Addr) (recordsL1:Nat) (_:Nat) (K:Value→Heap→Prop) (h1:Heap):Prop :=
 New g1 25 h1 fun h2 =>
 ∃ (n1:Int),cellOf h2 (Addr.add ⟨h1.size,0,none⟩ 0)=some (.int .i64 n1) ∧
 (0≤(IntKind.wrap .i64 (n1*512))∧(IntKind.wrap .i64 (n1*512))≤(IntKind.wrap .i64 (n1*512))∧(1:Int)*(IntKind.wrap .i64 (n1*512))≤281474976710656∧(IntKind.wrap .i64 (n1*512))≤281474976710656) ∧
 New (repCells z5 (Int.toNat (IntKind.wrap .i64 (n1*512)))) 5 h2 fun h3 =>
 ∃ (n2:Int),cellOf h3 (Addr.add ⟨h1.size,0,none⟩ 2)=some (.int .i64 n2) ∧
 ∃ (n3:Int),cellOf h3 (Addr.add ⟨h1.size,0,none⟩ 1)=some (.int .i64 n3) ∧
 (0≤(IntKind.wrap .i64 ((IntKind.wrap .i64 (n2 - n3))*4096))∧(IntKind.wrap .i64 ((IntKind.wrap .i64 (n2 - n3))*4096))≤(IntKind.wrap .i64 ((IntKind.wrap .i64 (n2 - n3))*4096))∧(1:Int)*(IntKind.wrap .i64 ((IntKind.wrap .i64 (n2 - n3))*4096))≤281474976710656∧(IntKind.wrap .i64 ((IntKind.wrap .i64 (n2 - n3))*4096))≤281474976710656) ∧
 New (repCells z4 (Int.toNat (IntKind.wrap .i64 ((IntKind.wrap .i64 (n2 - n3))*4096)))) 4 h3 fun h4 =>
 ∃ (I1:Int→Heap→Prop) (M1:Int→Heap→Nat),I1 0 h4 ∧
 ∀ (n4:Int),∀ h5:Heap,I1 n4 h5 →
 bif (decide (n4<(((Int.toNat (IntKind.wrap .i64 ((IntKind.wrap .i64 (n2 - n3))*4096))):Nat):Int))) then (
 ∃ (n5:Int),cellOf h5 (Addr.add ⟨h1.size,0,none⟩ 3)=some (.int .i64 n5) ∧
 bif (decide (n4<n5)) then (
 (0≤n4∧n4<(((Int.toNat (IntKind.wrap .i64 ((IntKind.wrap .i64 (n2 - n3))*4096))):Nat):Int)) ∧
 Put (Addr.add ⟨h3.size,0,none⟩ (Int.toNat n4)) (.bool true) h5 fun h6 =>
 I1 (IntKind.wrap .i64 (n4+1)) h6∧M1 (IntKind.wrap .i64 (n4+1)) h6<M1 n4 h5) else (
 ∃ (n6:Int),cellOf h5 (Addr.add ⟨h1.size,0,none⟩ 0)=some (.int .i64 n6) ∧
 (0≤n4∧n4<(((Int.toNat (IntKind.wrap .i64 ((IntKind.wrap .i64 (n2 - n3))*4096))):Nat):Int)) ∧
 Put (Addr.add ⟨h3.size,0,none⟩ (Int.toNat n4)) (.bool (decide (n4≥n6))) h5 fun h7 =>
 I1 (IntKind.wrap .i64 (n4+1)) h7∧M1 (IntKind.wrap .i64 (n4+1)) h7<M1 n4 h5)) else (
 ∃ (I2:Int→Heap→Prop) (M2:Int→Heap→Nat),I2 0 h5 ∧
 ∀ (n7:Int),∀ h8:Heap,I2 n7 h8 →
 bif (decide (n7<(recordsL1:Int))) then (
 (0≤n7∧n7<(recordsL1:Int)) ∧
 onSome recordsA1 fun p1 =>
 ∃ cs1:List Value,List.length cs1=15∧Cells h8 (Addr.add p1 ((Int.toNat n7)*15)) cs1 ∧
 NewRow z44 44 cs1 15 h8 fun h10 =>
 ∃ cs2:List Value,List.length cs2=15∧Cells h10 ⟨h8.size,0,none⟩ cs2 ∧
 C.boleref11_Encode cs2 h10 fun r1 h11 =>
 ∃ (sA1:Option Addr) (sL1:Nat) (sC1:Nat) (n8:Int),r1 = .tuple #[.slice sA1 sL1 sC1,.int .i64 n8] ∧
 bif (n8 != 0) then (
 I2 (IntKind.wrap .i64 (n7+1)) h11∧M2 (IntKind.wrap .i64 (n7+1)) h11<M2 n7 h8) else (
 ∃ (n9:Int),cellOf h11 (Addr.add ⟨h1.size,0,none⟩ 4)=some (.int .i64 n9) ∧
 bif (decide ((IntKind.wrap .i64 (n7+1))≥n9)) then (
 I2 (IntKind.wrap .i64 (n7+1)) h11∧M2 (IntKind.wrap .i64 (n7+1)) h11<M2 n7 h8) else (
 boleref12_Image.k1 h1 h2 n1 h3 n2 n3 n7 h8 I2 M2 h11 sA1 sL1 K))) else (
 ∃ (I5:Int→Heap→Prop) (M5:Int→Heap→Nat),I5 0 h8 ∧
 ∀ (n16:Int),∀ h16:Heap,I5 n16 h16 →
 bif (decide (n16<(((Int.toNat (IntKind.wrap .i64 ((IntKind.wrap .i64 (n2 - n3))*4096))):Nat):Int))) then (
 (0≤n16∧n16<(((Int.toNat (IntKind.wrap .i64 ((IntKind.wrap .i64 (n2 - n3))*4096))):Nat):Int)) ∧
 ∃ (b1:Bool),cellOf h16 (Addr.add ⟨h3.size,0,none⟩ (Int.toNat n16))=some (.bool b1) ∧
 bif b1 then (
 ∃ (I6:Int→Int→Heap→Prop) (M6:Int→Int→Heap→Nat),I6 1 0 h16 ∧
 ∀ (v1:Int) (k2:Int),∀ h17:Heap,I6 v1 k2 h17 →
 bif (decide (k2<(Int.tmod n16 8))) then (
 I6 (IntKind.wrap .u8 (v1*2)) (IntKind.wrap .i64 (k2+1)) h17∧M6 (IntKind.wrap .u8 (v1*2)) (IntKind.wrap .i64 (k2+1)) h17<M6 v1 k2 h17) else (
 ∃ (n17:Int),cellOf h17 (Addr.add ⟨h1.size,0,none⟩ 1)=some (.int .i64 n17) ∧
 ∃ (n18:Int),cellOf h17 (Addr.add ⟨h1.size,0,none⟩ 1)=some (.int .i64 n18) ∧
 (0≤(IntKind.wrap .i64 ((IntKind.wrap .i64 (n18*512))+(IntKind.wrap .i64 (Int.tdiv n16 8))))∧(IntKind.wrap .i64 ((IntKind.wrap .i64 (n18*512))+(IntKind.wrap .i64 (Int.tdiv n16 8))))<((Int.toNat (IntKind.wrap .i64 (n1*512))):Int)) ∧
 ∃ (n19:Int),cellOf h17 (Addr.add ⟨h2.size,0,none⟩ (Int.toNat (IntKind.wrap .i64 ((IntKind.wrap .i64 (n18*512))+(IntKind.wrap .i64 (Int.tdiv n16 8))))))=some (.int .u8 n19) ∧
 (0≤(IntKind.wrap .i64 ((IntKind.wrap .i64 (n17*512))+(IntKind.wrap .i64 (Int.tdiv n16 8))))∧(IntKind.wrap .i64 ((IntKind.wrap .i64 (n17*512))+(IntKind.wrap .i64 (Int.tdiv n16 8))))<((Int.toNat (IntKind.wrap .i64 (n1*512))):Int)) ∧
 Put (Addr.add ⟨h2.size,0,none⟩ (Int.toNat (IntKind.wrap .i64 ((IntKind.wrap .i64 (n17*512))+(IntKind.wrap .i64 (Int.tdiv n16 8)))))) (.int .u8 (IntKind.wrap .u8 (n19+v1))) h17 fun h18 =>
 I5 (IntKind.wrap .i64 (n16+1)) h18∧M5 (IntKind.wrap .i64 (n16+1)) h18<M5 n16 h16)) else (
 I5 (IntKind.wrap .i64 (n16+1)) h16∧M5 (IntKind.wrap .i64 (n16+1)) h16<M5 n16 h16)) else (
 K (.slice (some ⟨h2.size,0,none⟩) (Int.toNat (IntKind.wrap .i64 (n1*512))) (Int.toNat (IntKind.wrap .i64 (n1*512)))) h16)))
def boleref12_Image.lo : Nat→List Nat×List (Nat×Ty):=fun n=>match n with|4=>([1,2,5,6,30],[(31,.int .i64)])|9=>([2,5,6,48,49],[(50,.int .i64)])|14=>([2,5,6,8,9,10,48,49,50],[(12,.int .i64)])|18=>([2,5,6,48,49,50,91],[(92,.int .i64)])|25=>([2,5,6,111],[(112,.int .i64)])|30=>([2,5,6,15,111,112],[(16,.int .u8),(17,.int .i64)])|_=>([],[])
def boleref12_Image.od : Nat→Od:=fun n=>match n with|16=>(.op 0 [] (.op 1 [] (.op 2 [] (.op 3 [] (.op 4 [] (.op 5 [] (.op 6 [] (.op 7 [] (.op 8 [] (.op 9 [] (.op 10 [] (.op 11 [] (.op 12 [] (.op 13 [] (.op 14 [] (.op 15 [] .nil))))))))))))))))|33=>(.op 0 [] (.op 1 [] (.op 2 [] (.op 3 [] (.op 4 [] (.op 5 [] (.op 6 [] (.op 7 [] (.op 8 [] (.op 9 [] (.op 10 [] (.op 11 [] (.op 12 [] (.op 13 [] (.op 14 [] (.op 15 [] (.op 16 [] (.op 17 [] (.op 18 [] (.op 19 [] .nil))))))))))))))))))))|_ => .nil
theorem boleref12_Image.ok {g1:List Value} {recordsA1:Option Addr} {recordsL1:Nat} {recordsC1:Nat} {K:Value→Heap→Prop} {h:Heap} (hx:boleref12_Image g1 recordsA1 recordsL1 recordsC1 K h):C.boleref12_Image g1 recordsA1 recordsL1 recordsC1 h K :=
 fn_to (c:=Tryz.f45.body.getD .skip) (cxOk boleref12_Image.lo boleref12_Image.od) Tryz.func45 (by kernel_rfl) (by kernel_rfl) (Eq.mpr (by kernel_rfl) hx)
def adisk_Open (imageA1:Option Addr) (imageL1:Nat) (imageC1:Nat) (K:Value→Heap→Prop) (h1:Heap):Prop :=
 bif ((Int.tmod (imageL1:Int) 512) != 0) then (
 K (.tuple #[.pointer none,.int .i64 32]) h1) else (
 C.adisk_New (IntKind.wrap .i64 (Int.tdiv (imageL1:Int) 512)) h1 fun r1 h2 =>
 ∃ (q1:Option Addr) (n1:Int),r1 = .tuple #[.pointer q1,.int .i64 n1] ∧
 bif (n1 != 0) then (
 K (.tuple #[.pointer none,.int .i64 n1]) h2) else (
 onSome q1 fun p1 =>
 ∃ (sA1:Option Addr) (sL1:Nat) (sC1:Nat),cellOf h2 (Addr.add p1 0)=some (.slice sA1 sL1 sC1) ∧
 ∃ (I1:Int→Heap→Prop) (M1:Int→Heap→Nat),I1 0 h2 ∧
 ∀ (n2:Int),∀ h3:Heap,I1 n2 h3 →
 bif (decide (n2<(sL1:Int))) then (
 onSome q1 fun p2 =>
 ∃ (sA2:Option Addr) (sL2:Nat) (sC2:Nat),cellOf h3 (Addr.add p2 0)=some (.slice sA2 sL2 sC2) ∧
 (0≤n2∧n2<(sL2:Int)) ∧
 onSome sA2 fun p3 =>
 (0≤(IntKind.wrap .i64 (n2*512))∧(IntKind.wrap .i64 (n2*512))≤(imageL1:Int)) ∧
 CopyP ti5 (some (Addr.add p3 ((Int.toNat n2)*512))) 512 (.slice (if imageC1=(Int.toNat (IntKind.wrap .i64 (n2*512))) then imageA1 else Option.map (Addr.add · (Int.toNat (IntKind.wrap .i64 (n2*512)))) imageA1) (imageL1 - (Int.toNat (IntKind.wrap .i64 (n2*512)))) (imageC1 - (Int.toNat (IntKind.wrap .i64 (n2*512))))) h3 fun _ h4 =>
 I1 (IntKind.wrap .i64 (n2+1)) h4∧M1 (IntKind.wrap .i64 (n2+1)) h4<M1 n2 h3) else (
 K (.tuple #[.pointer q1,.int .i64 0]) h3)))
def adisk_Open.lo : Nat→List Nat×List (Nat×Ty):=fun n=>match n with|7=>([0,4,25],[(26,.int .i64)])|_=>([],[])
def adisk_Open.od : Nat→Od:=fun n=>match n with|9=>(.op 0 [] (.op 1 [] (.op 2 [] (.op 3 [] (.op 4 [] (.op 5 [] (.op 6 [] (.op 7 [] (.op 8 [] (.op 9 [] (.op 10 [] (.op 11 [] .nil))))))))))))|_ => .nil
theorem adisk_Open.ok {imageA1:Option Addr} {imageL1:Nat} {imageC1:Nat} {K:Value→Heap→Prop} {h:Heap} (hx:adisk_Open imageA1 imageL1 imageC1 K h):C.adisk_Open imageA1 imageL1 imageC1 h K :=
 fn_to (c:=Tryz.f46.body.getD .skip) (cxOk adisk_Open.lo adisk_Open.od) Tryz.func46 (by kernel_rfl) (by kernel_rfl) (Eq.mpr (by kernel_rfl) hx)
def txn_Begin (d1:Option Addr) (K:Value→Heap→Prop) (h1:Heap):Prop :=
 NewM h1 fun h2 =>
 New [.pointer d1,.map (some h1.size),.slice none 0 0,.bool false] 140 h2 fun h3 =>
 K (.pointer (some ⟨h2.size,0,none⟩)) h3
def txn_Begin.lo : Nat→List Nat×List (Nat×Ty):=fun n=>match n with|_=>([],[])
def txn_Begin.od : Nat→Od:=fun n=>match n with|_ => .nil
theorem txn_Begin.ok {d1:Option Addr} {K:Value→Heap→Prop} {h:Heap} (hx:txn_Begin d1 K h):C.txn_Begin d1 h K :=
 fn_to (c:=Tryz.f47.body.getD .skip) (cxOk txn_Begin.lo txn_Begin.od) Tryz.func47 (by kernel_rfl) (by kernel_rfl) (Eq.mpr (by kernel_rfl) hx)
def txn_Txn_Abort (t1:Option Addr) (K:Value→Heap→Prop) (h1:Heap):Prop :=
 C.txn_Txn_end t1 h1 fun r1 h2 =>
 r1 = .tuple #[] ∧
 K (.tuple #[]) h2
def txn_Txn_Abort.lo : Nat→List Nat×List (Nat×Ty):=fun n=>match n with|_=>([],[])
def txn_Txn_Abort.od : Nat→Od:=fun n=>match n with|_ => .nil
theorem txn_Txn_Abort.ok {t1:Option Addr} {K:Value→Heap→Prop} {h:Heap} (hx:txn_Txn_Abort t1 K h):C.txn_Txn_Abort t1 h K :=
 fn_to (c:=Tryz.f48.body.getD .skip) (cxOk txn_Txn_Abort.lo txn_Txn_Abort.od) Tryz.func48 (by kernel_rfl) (by kernel_rfl) (Eq.mpr (by kernel_rfl) hx)
def space_each (t1:Option Addr) (g1:List Value) (do1:Value) (K:Value→Heap→Prop) (h1:Heap):Prop :=
 New g1 25 h1 fun h2 =>
 ∃ (n1:Int),cellOf h2 (Addr.add ⟨h1.size,0,none⟩ 1)=some (.int .i64 n1) ∧
 ∃ (I1:Int→Heap→Prop) (M1:Int→Heap→Nat),I1 n1 h2 ∧
 ∀ (k1:Int),∀ h3:Heap,I1 k1 h3 →
 ∃ (n2:Int),cellOf h3 (Addr.add ⟨h1.size,0,none⟩ 2)=some (.int .i64 n2) ∧
 bif (decide (k1<n2)) then (
 C.txn_Txn_Read t1 k1 h3 fun r1 h4 =>
 ∃ (sA1:Option Addr) (sL1:Nat) (sC1:Nat) (n3:Int),r1 = .tuple #[.slice sA1 sL1 sC1,.int .i64 n3] ∧
 bif (n3 != 0) then (
 K (.int .i64 n3) h4) else (
 ∃ (n4:Int),cellOf h4 (Addr.add ⟨h1.size,0,none⟩ 1)=some (.int .i64 n4) ∧
 HCallsV Tryz.prog do1 [.int .i64 (IntKind.wrap .i64 (4096*(IntKind.wrap .i64 (k1 - n4)))),.slice sA1 sL1 sC1] h4 fun r2 h5 =>
 ∃ (b1:Bool),r2 = .bool b1 ∧
 bif (!b1) then (
 K (.int .i64 0) h5) else (
 I1 (IntKind.wrap .i64 (k1+1)) h5∧M1 (IntKind.wrap .i64 (k1+1)) h5<M1 k1 h3))) else (
 K (.int .i64 0) h3)
def space_each.lo : Nat→List Nat×List (Nat×Ty):=fun n=>match n with|2=>([0,2,4],[(7,.int .i64)])|_=>([],[])
def space_each.od : Nat→Od:=fun n=>match n with|_ => .nil
theorem space_each.ok {t1:Option Addr} {g1:List Value} {do1:Value} {K:Value→Heap→Prop} {h:Heap} (hx:space_each t1 g1 do1 K h):C.space_each t1 g1 do1 h K :=
 fn_to (c:=Tryz.f49.body.getD .skip) (cxOk space_each.lo space_each.od) Tryz.func49 (by kernel_rfl) (by kernel_rfl) (Eq.mpr (by kernel_rfl) hx)
end Go.Proofs.YtcdpakjhjmchhaaGreatDoor.W
