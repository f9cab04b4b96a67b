/- walkExact_card -/
import Derived.WalkKit
import Derived.LoopTactic
import Derived.StillTailTactics
import Derived.Deep.QuietTactic
import Derived.BigQuiet
import Derived.Sort.Grow
import Derived.Lib.Bytealg
import Derived.Shelf.SlSortCmp.WholeK
import Derived.Shelf.SlSortCmp.NoneTotal
import Derived.Shelf.SlIterI.Sorted
import Derived.Shelf.SortM.Plain
import Derived.Shelf.SortM.SortNone
import Derived.Test.YtiapingedfnlnaaGreatDoorGp5
import Derived.Test.YtiapingedfnlnaaGreatDoorGp6
namespace Go.Proofs.YtiapingedfnlnaaGreatDoor
open Go Go.Proofs Wx
variable{j b o l c ec n i m k c0 nb cnt tl tc pl w q s p:Nat}{h hx h' h0:ab}{xs:LV}{a t d ta pa r e:OA}{F:NP}{K:KT}{az:Nat->Nat}
namespace Di
open Hp W Re Ss
open Sk (E)
open Go.Op (bytesLess)
instance : Inhabited E:=⟨⟨0,[],0⟩⟩
def cfE(x y:E):Int:=if cmpT (mkStr x.name) (mkStr y.name)=0 then cmpZ x.place y.place else cmpT (mkStr x.name) (mkStr y.name)
theorem FY(x y:E):ltOf cfE x y=wB x y:=by
 unfold ltOf cfE cmpT cmpZ wB;rw[toList_mkStr,toList_mkStr]
 cases hb:bytesLess x.name y.name with
 | true=>rfl
 | false=>
  by_cases e:x.name=y.name
  ·have e':(x.name==y.name)=true:=(by rw[beq_iff_eq];exact e);rw[e']
   by_cases p:x.place<y.place
   ·rw[if_pos p,decide_eq_true p];rfl
   ·rw[if_neg p,decide_eq_false p]
    by_cases q:x.place>y.place
    ·rw[if_pos q];rfl
    ·rw[if_neg q];rfl
  ·have e':(x.name==y.name)=false:=(by rw[beq_eq_false_iff_ne];exact e);rw[e'];rfl
theorem swoE : Go.Sort.SWO (ltOf cfE) where
 irrefl x:=by rw[FY,FL]
 trans x y z h1 h2:=by rw[FY]at *;exact pD h1 h2
 ntrans x y z h1 h2:=by
  rw[FY]at *
  cases q:wB x z with
  | false=>rfl
  | true=>
   exfalso
   cases r:wB y x with
   | true=>rw[pD r q]at h2;cases h2
   | false=>
    obtain⟨e1,e2⟩:=LG h1 r;unfold wB at q h2;rw[e1,e2]at q;rw[q]at h2;cases h2
theorem US{es:List E}(hj:j<es.length*3):(es.flatMap E.v)[j]?=(E.v (es[j/3]'(by omega)))[j%3]?:=by
 have p:=kq E.v 3 es (λx _=>E.len x) (j/3) (by omega);rw[<-p,List.getElem?_take,if_pos (by omega),List.getElem?_drop];congr 1;omega
theorem QD{d:Array E}(hj:j<d.size*3):(d.toList.flatMap E.v)[j]?=some ((Go.Sort.flatK E.v 3 d)[j]!):=by
 have h3:j/3<d.size:=by omega
 rw[US (by rw[Array.length_toList];exact hj),Go.Sort.get_flatK _ _ _ _ hj,getElem!_pos d (j/3) h3];rw[Array.getElem_toList];generalize d[j/3]=e
 rcases(by omega:j%3=0∨j%3=1∨j%3=2)with h|h|h <;> rw[h] <;> rfl
theorem QE(H:∀ j v,xs[j]?=some v->cellOf h ⟨b,o+j,none⟩=some v):((rd h b).drop o).take xs.length=xs:=by
 refine List.ext_getElem? λi=>?_;rw[List.getElem?_take]
 by_cases hi:i<xs.length
 ·rw[if_pos hi,List.getElem?_drop];have:=H i xs[i] (List.getElem?_eq_getElem hi);rw[ko]at this;rw[List.getElem?_eq_getElem hi];exact this
 ·rw[if_neg hi,List.getElem?_eq_none (by omega)]
theorem JZ{es:List E}(s:Sl h 3 a l c (es.flatMap E.v) F)(hl:l<4611686018427387904)
  (hK:∀h' (sO:List E),sO.Perm es->sO.Pairwise RX->Fr (λb=>∃p,a=some p/\b=p.block) h h'->Sl h' 3 a l c (sO.flatMap E.v) F->K (.tuple #[]) h') :
  C.fC a l c (.func (.func 79) #[] ⟨[]⟩) h K:=by
 refine⟨⟨_,Tryz.func78,by kernel_rfl,by kernel_rfl⟩,λw hw=>?_⟩;subst hw
 have le:es.length=l:=by
  have:=s.1;rw[bw E.v 3 _ (λx _=>E.len x)]at this;omega
 cases a with
 | none=>
  have l0:l=0:=s.2.1;have c0:c=0:=s.2.2;subst l0 c0;refine(AnyF.slices_SortFunc_none Tryz.sortE none 0 (.func (.func 79) #[] ⟨[]⟩) w).mono λe w' ⟨he,Df⟩=>⟨_,he,?_⟩;subst Df;exact⟨⟨rfl,rfl,rfl⟩,hK _ es (.refl _) (by rw[List.length_eq_zero_iff.mp le];exact .nil) (Fr.refl _ _) s⟩
 | some p=>
  obtain⟨b,o,sp⟩:=p;have ep:sp=none:=s.2.1;subst ep;have J1:=s.cells;obtain⟨_,_,hF,⟨cs,T,fz,hb,hfz⟩,wv,NF,zF⟩:=s;have erd:rd w.heap b=cs.toList:=by unfold rd;rw[hb]
  have mQ:w.heap[b]?=some (.cells cs T fz):=hb;simp only at zF;rw[erd,Array.length_toList]at zF
  have cell:∀j v,(es.flatMap E.v)[j]?=some v->w.cell? ⟨b,o+j,none⟩=some v:=λj v hv=>by
   have:=J1 j v hv;rw[cI]at this;exact this
  have iH:es.toArray.size=l:=le
  have hH:Go.Sort.HoldsK E.v 3 w b o es.toArray:=λj hj=>by
   rw[Go.Sort.size_flatK]at hj;refine⟨cell j _ (QD (d:=es.toArray) hj),?_⟩
   show(match w.heap[b]? with
    | some (.cells _ _ (lo,hi))=>decide (lo<=o+j) && decide (o+j<hi)
    | _=>false)=false
   rw[mQ];show(decide (fz.1<=o+j) && decide (o+j<fz.2))=false
   rcases hfz with e|e
   ·rw[e,decide_eq_false (show ¬o+j<0 by omega),Bool.and_false]
   ·rw[decide_eq_false (by rw[iH]at hj;omega),Bool.false_and]
  have eg:∀args w,(callFunc 79 args).run Tryz.prog w = .ok (.enter 79 args) w:=enters_of Tryz.func79 (by kernel_rfl) rfl;have hcmp:CmpLays Tryz.prog 79 #[] E.v 3 cfE b o es.toArray.size w:=λm os dk _ x y=>Tryz.clo x.place x.fu y.place y.fu (mkStr x.name) (mkStr y.name) _;have cS:=AnyQ.slices_SortFunc Tryz.sortE 3 Tryz.isAgg113 Tryz.sizeOf113 E.v (λ_=>rfl) E.one cfE swoE 79 #[] b o c es.toArray w eg hcmp hH (Array.getElem?_eq_some_iff.mp mQ).1 (by rw[iH];exact hl);rw[iH]at cS;refine cS.mono λe w' ⟨he,d',n,ws,hp,hs,Df⟩=>⟨_,he,?_⟩;obtain⟨p1,_,p3⟩:=hp;rw[iH]at p1
  have pe:d'.toList.Perm es:=by
   have e1:d'.extract 0 l=d':=(by rw[<-p1,Array.extract_size]);have e2:es.toArray.extract 0 l=es.toArray:=(by rw[<-iH,Array.extract_size]);rw[e1,e2]at p3;exact p3
  have hH':=holdsK_sortWorldK_c E.v 3 w b o es.toArray d' n ws hH (Array.getElem?_eq_some_iff.mp mQ).1 (by rw[p1,iH]);rw[<-Df]at hH';have eh:w'.heap=(w.heap.modify b (Go.Sort.onCells (Go.Sort.putCells id o (Go.Sort.flatK E.v 3 d'))))++ws:=by rw[Df];rfl
  have ls:d'.toList.length=l:=by rw[Array.length_toList,p1]
  have rest:aP w w':=by rw[Df];exact⟨rfl,rfl,rfl⟩
  refine⟨rest,hK _ d'.toList pe ?_ ⟨by rw[eh,Array.size_append,Array.size_modify];omega,λb' hb1 Sr=>?_⟩ ?_⟩
  ·rw[List.pairwise_iff_getElem];intro i j hi hj Iv;have:=hs i j (Nat.zero_le _) Iv (by omega);rw[FY,getElem!_pos d' j (by omega),getElem!_pos d' i (by omega)]at this;rw[Array.getElem_toList,Array.getElem_toList];exact this
  ·rw[eh,Array.getElem?_append_left (by rw[Array.size_modify];exact hb1),Array.getElem?_modify,if_neg λy=>Sr ⟨_,rfl,y.symm⟩]
  ·have C1:=(Array.getElem?_eq_some_iff.mp mQ).1
   have eb:w'.heap[b]?=some (.cells (Go.Sort.putCells id o (Go.Sort.flatK E.v 3 d') cs) T fz):=by
    rw[eh,Array.getElem?_append_left (by rw[Array.size_modify];exact C1),Array.getElem?_modify,if_pos rfl,mQ];rfl
   have esz:(Go.Sort.putCells id o (Go.Sort.flatK E.v 3 d') cs).size=cs.size:=(by unfold Go.Sort.putCells;rw[Array.size_mapIdx]);have lf:(d'.toList.flatMap E.v).length=l*3:=(by rw[bw E.v 3 _ (λx _=>E.len x),ls]);refine⟨lf,rfl,hF,⟨_,T,fz,eb,by rw[esz];exact hfz⟩,wv,QE λj v hv=>?_,?_⟩
   ·have hj:j<d'.size*3:=by
     have:=(List.getElem?_eq_some_iff.mp hv).1;rw[lf]at this;omega
    rw[QD hj]at hv;have:=(hH' j (by rw[Go.Sort.size_flatK];exact hj)).1;rw[<-Option.some.inj hv];exact this
   ·show o+c*3<=(rd w'.heap b).length;have:rd w'.heap b=(Go.Sort.putCells id o (Go.Sort.flatK E.v 3 d') cs).toList:=(by unfold rd;rw[eb]);rw[this,Array.length_toList,esz];exact zF
end Di
namespace Di
open Hp W Ad Tm Spc Re Av Rg Ss
open Hd (ints)
open In (pq ah av)
open Ino (getM su aF)
open Bm (dI)
open Fi (bC pY nh Iz)
open Sk (E bf)
theorem uv(s:Sl h ec a l c xs F):Sl h ec a l c xs (λb=>F b/\b<h.size):=by
 obtain⟨h1,h2⟩:=s;refine⟨h1,?_⟩
 cases a with
 | none=>exact h2
 | some p=>
  obtain⟨a1,a2,a3,a4⟩:=h2;exact⟨a1,⟨a2,a3.lt⟩,a3,a4⟩
def xZ(k:Nat)(c:E):E:=⟨c.place+16*(k:Int),c.name,c.fu⟩
theorem vd(T:TM)(g:G)(R:List Int)(k:Nat)(r:List uh):nR ((aM T g R k).1::r)=(aM T g R k).1.cells.map (xZ k)++nR r:=rfl
theorem yV{T:TM}{i:Int}(gl:In.pq h)(dm:Ab n)(x:Tx h F t d T)
  (hK:∀h' a l c,Fr No h h'->l=(cX T (af n) i).1.length->Sl h' 3 a l c ((cX T (af n) i).1.flatMap E.v) (bZ h.size)->K (.tuple #[.slice a l c,.int .i64 (cX T (af n) i).2]) h'):C.pN t (af n).v i h K:=by
 refine pN.ok (aC.intro λh2 n2=>⟨(af n).v,rfl,aj n2.rd,DT (gl.no n2.fr) (x.no n2.fr) (Iz dm) λh3 f3=>⟨_,rfl,ax.intro (iT (lK T (af n) i)) FN rfl λh5 n5=>aC.intro λh6 n6=>zu λh7 n7=>⟨_,rfl,λL rounds=>?_⟩⟩⟩);have lR:=lK T (af n) i;have z2:=n2.size;have z3:=f3.size;have z5:=n5.size;have z6:=n6.size;have z7:=n7.size;have xl:∀b,F b->b<h.size:=λb hb=>x.lt hb;have gl1:=gl.lt;have F6:Fr No h h6:=((n2.fr.no f3).new n5).new n6;have F7:Fr No h h7:=F6.new n7;have Fb:=rA h7 L;have Ly:=rB h7 L;have d0:=ud h7 L;have zb:=mG h7 L;have F0:Fr No h (bN h7 L):=F7.no Fb;have cb0:rd (bN h7 L) h6.size=[.pointer (some ⟨h3.size,0,none⟩)]:=(Fb.rd (by omega) λy=>y).trans n7.rd
 have rb0:rd (bN h7 L) h3.size=qc t (af n) i (bD T (af n) i).1 (bD T (af n) i).2++[]:=by
  rw[List.append_nil];exact(Fb.rd (by omega) λy=>y).trans ((n7.at_ (by omega)).trans ((n6.at_ (by omega)).trans n5.rd))
 have ob0:du (bN h7 L) h3.size:=Fb.own (by omega) (λy=>y) (n7.ow (n6.ow n5.own));have ab0:rd (bN h7 L) h5.size=[.slice none 0 0]:=(Fb.rd (by omega) λy=>y).trans ((n7.at_ (by omega)).trans n6.rd);have pb0:du (bN h7 L) h5.size:=Fb.own (by omega) (λy=>y) (n7.ow n6.own);have I0:It (bN h7 L) F t d T (af n) i (bD T (af n) i).1 (bD T (af n) i).2 [] h6.size h3.size:=⟨gl.no F0,x.no F0,cb0,ob0,rb0,λy=>by have:=xl _ y;omega,by omega,by omega⟩;generalize hbe:bN h7 L=hb at *;show C.aD (.func (.yield (h7.size+1)) #[] #[]) (some ⟨h6.size,0,none⟩) hb _
 -- what is behind the loop
 have fin:∀(hh:ab) (e:Int),Fr (λb=>b=h3.size∨b=h5.size∨b=h7.size+1) hb hh->br hh (h7.size+1) L .ready none->rd hh h3.size=qc t (af n) i (bD T (af n) i).1 e++[]->(e≠0->cX T (af n) i=([],e))->
   (e=0->∃(a:OA) (l c:Nat) (acc:List E),rd hh h5.size=[.slice a l c]/\Sl hh 3 a l c (acc.flatMap E.v) (bZ hb.size)/\xK acc/\acc.length<=300000/\cX T (af n) i=(sortE acc,0))->
   ∃(st1:LoopState) (iP:Option Code),br hh (h7.size+1) L st1 iP/\st1≠.busy/\vz iP (
    td hh (h7.size+1) L .exhausted iP λgY=>∃(n5:Int),cellOf gY (Addr.add ⟨h3.size,0,none⟩ 22)=some (.int .i64 n5)/\
    bif(n5 != 0)then(∃(n6:Int),cellOf gY (Addr.add ⟨h3.size,0,none⟩ 22)=some (.int .i64 n6)/\qm h7.size gY λlx=>K (.tuple #[.slice none 0 0,.int .i64 n6]) lx)else(
     ∃(mL:OA) (mJ:Nat) (mU:Nat),cellOf gY ⟨h5.size,0,none⟩=some (.slice mL mJ mU)/\C.fC mL mJ mU (Value.func (.func 79) #[] ⟨[]⟩) gY λr3 jC=>
     r3 = .tuple #[]/\∃(Am:OA) (zQ:Nat) (Ba:Nat),cellOf jC ⟨h5.size,0,none⟩=some (.slice Am zQ Ba)/\qm h7.size jC λlu=>K (.tuple #[.slice Am zQ Ba,.int .i64 0]) lu)) (False) (λ_=>False):=by
  intro hh e f on r Sq es1;have zf:=f.size;refine⟨.ready,none,on,by decide,rC (gI (by omega) λgY t20=>?_)⟩;have z20:=t20.size;have f20:Fr (λb=>b=h3.size∨b=h5.size∨b=h7.size+1) hb gY:=f.trans t20.fr λb _ y=>.inr (.inr y);have R2:=(t20.fr.rd (b:=h3.size) (by omega) (by omega)).trans r;refine⟨_,bW R2 (zr lR),cn (λhe=>⟨_,bW R2 (zr lR),iR ((f20.same _ (by omega) (by omega)).trans d0) λlx z21 f21=>?_⟩) λhe=>?_⟩
  ·rw[Sq he]at hK;exact hK lx none 0 0 ((F0.trans f20 λb hb y=>by omega).trans f21 λb hb y=>by omega) rfl (Sl.nil _ _ _)
  obtain⟨a,l,c,acc,ra,s,u,hacc,es⟩:=es1 he;rw[es]at hK;have a20:=(t20.fr.rd (b:=h5.size) (by omega) (by omega)).trans ra;have s20:Sl gY 3 a l c (acc.flatMap E.v) (bZ hb.size):=s.fr t20.fr λb _ mQ y=>by have mQ:hb.size<=b:=mQ;omega
  have la:acc.length=l:=by
   have:=s20.1;rw[bw E.v 3 _ (λx _=>E.len x)]at this;omega
  have hb5:∀b,(∃p,a=some p/\b=p.block)->hb.size<=b:=λb ⟨p,ep,eb⟩=>by subst ep;rw[eb];exact s20.2.2.1
  refine⟨_,_,_,nt a20 rfl,JZ s20 (by omega) λjC sO pe so f22 s22=>⟨rfl,_,_,_,nt (show rd jC h5.size=[.slice a l c] from(f22.rd (by omega) λy=>by have:=hb5 _ y;omega).trans a20) rfl,iR ((f22.same _ (by omega) λy=>by have:=hb5 _ y;omega).trans ((f20.same _ (by omega) (by omega)).trans d0)) λlu z23 f23=>?_⟩⟩;have eq:sO=sortE acc:=yH u pe so;subst eq;have z22:=f22.size;refine hK lu a l c (((F0.trans f20 λb hb y=>by omega).trans f22 λb hb y=>by have:=hb5 _ y;omega).trans f23 λb hb y=>by omega) ?_ ((s22.fr f23 λb _ mQ y=>?_).mono λb mQ=>?_)
  ·show l=(sortE acc).length;rw[(k9 acc).length_eq,la]
  ·have mQ:hb.size<=b:=mQ;omega
  ·have mQ:hb.size<=b:=mQ;have:=F0.size;show h.size<=b;omega
 by_cases HC:(bD T (af n) i).2=0
 rotate_left
 ·exact zv lR I0 HC (fin hb _ (Fr.refl _ _) Ly I0.r (λ_=>by unfold cX;rw[if_pos HC]) λy=>absurd y HC)
 obtain⟨R0,R1⟩:=lL HC
 have Sq:cX T (af n) i=if(gZ T (af n) (bD T (af n) i).1).2≠0 then([],(gZ T (af n) (bD T (af n) i).1).2)else(sortE (nR (gZ T (af n) (bD T (af n) i).1).1),0):=by
  unfold cX;rw[if_neg (λy=>y HC)]
 have Ng:=(om T (af n) (bD T (af n) i).1 ((bD T (af n) i).1.getD 2 0/512).toNat 0).1;unfold gZ at Sq;rw[HC]at I0;generalize hR:(bD T (af n) i).1=R at *;generalize hm:(R.getD 2 0/512).toNat=m at *;have hm2:m<=16522:=by omega
 refine zt lR R0 R1 (λk hh=>It hh F t d T (af n) i R 0 [] h6.size h3.size/\Fr (λb=>b=h3.size∨b=h5.size∨b=h7.size+1) hb hh/\br hh (h7.size+1) L .ready none/\∃q a l c acc,m=k+q/\rd hh h5.size=[.slice a l c]/\du hh h5.size/\Sl hh 3 a l c (acc.flatMap E.v) (bZ hb.size)/\acc.length<=16*k/\
   nR (cu T (af n) R m 0).1=acc++nR (cu T (af n) R q k).1/\(cu T (af n) R m 0).2=(cu T (af n) R q k).2)
  (λk hh J=>J.1) (λk hh h' ba bl bc ca cl cc J hk he f' r' o' lf=>?_) ⟨I0,Fr.refl _ _,Ly,m,none,0,0,[],by omega,ab0,pb0,Sl.nil _ _ _,Nat.zero_le _,rfl,rfl⟩ (λhh J=>?_) λk hh h' J hk he f' r' o'=>?_
 ·-- an index
  obtain⟨I,f,on,q,a,l,c,acc,eq,ra,oa,sa,la,e1,e2⟩:=J;rw[hm]at hk;obtain⟨q,rfl⟩:∃q',q=q'+1:=⟨q-1,by omega⟩;have zf:=f.size;have zf':=f'.size;have on':br h' (h7.size+1) L .ready none:=cH on f' (by omega);refine rounds (oP k (aM T (af n) R k).1.block ba bl bc ca cl cc) h' _ on' (ax.intro rfl yL rfl λh10 n10=>⟨cH on' n10.fr λy=>y,gI (by have:=n10.size;omega) λcg t11=>?_⟩);have Nj:=n10.size;have OL:=t11.size;have f11:Fr (λb=>b=h3.size∨b=h5.size∨b=h7.size+1) hb cg:=((f.trans f' λb _ y=>.inl y).new n10).trans t11.fr λb _ y=>.inr (.inr y);have v11:rd cg h'.size=oP k (aM T (af n) R k).1.block ba bl bc ca cl cc:=(t11.fr.rd (by omega) (by omega)).trans n10.rd;have ac0:Lf hh cg (aM T (af n) R k).1 ba bl bc ca cl cc:=(lf.fr n10.fr λ_ _ _ y=>y).fr t11.fr λb _ hb y=>by omega
  have lc:(aM T (af n) R k).1.cells.length=cl:=by
   have:=ac0.c.1;rw[bw E.v 3 _ (λx _=>E.len x)]at this;omega
  have OM:=xO T (af n) R k
  have I11:It cg F t d T (af n) i R 0 [] h6.size h3.size:=by
   have A:It h' F t d T (af n) i R 0 [] h6.size h3.size:=⟨I.gl.fr f' λb hb y=>by omega,I.x.fr f' λb hb y=>by have:=xl b hb;omega,(f'.rd I.ON (by omega)).trans I.cap,o',r',I.nf,I.b1,I.ne⟩;exact(A.no n10.fr).fr t11.fr (by omega) (by omega) (λb hb y=>by have:=xl b hb;omega) λb hb y=>by omega
  have ra11:rd cg h5.size=[.slice a l c]:=(t11.fr.rd (by omega) (by omega)).trans ((n10.at_ (by omega)).trans ((f'.rd (by omega) (by omega)).trans ra));have oa11:du cg h5.size:=t11.fr.own (by omega) (by omega) (n10.ow (f'.own (by omega) (by omega) oa));have sa11:Sl cg 3 a l c (acc.flatMap E.v) (λb=>hb.size<=b/\b<hh.size):=(((uv sa).mono (G:=λb=>hb.size<=b/\b<hh.size) λb hb=>hb).fr f' λb _ hb y=>by omega).fr n10.fr (λ_ _ _ y=>y) |>.fr t11.fr λb _ hb y=>by omega
  refine⟨_,_,_,bW v11 rfl,λj hx=>∃p:Nat,j=p/\p<=cl/\Fr (λb=>b=h5.size∨(hb.size<=b/\b<hh.size)) cg hx/\∃a l c,rd hx h5.size=[.slice a l c]/\du hx h5.size/\Sl hx 3 a l c ((acc++((aM T (af n) R k).1.cells.take p).map (xZ k)).flatMap E.v) (λb=>(hb.size<=b/\b<hh.size)∨(cg.size<=b/\b<hx.size)),λj _=>((cl:Int)-j).toNat,
   ⟨0,rfl,Nat.zero_le _,Fr.refl _ _,a,l,c,ra11,oa11,by rw[List.take_zero,List.map_nil,List.append_nil];exact sa11.mono λb hb=>.inl hb⟩,?_⟩
  rintro j bb ⟨p,rfl,hp,f12,a2,l2,c2,ac1,ac2,Cw⟩;have z12:=f12.size;have v12:rd bb h'.size=oP k (aM T (af n) R k).1.block ba bl bc ca cl cc:=(f12.rd (by omega) (by omega)).trans v11;have lf12:Lf hh bb (aM T (af n) R k).1 ba bl bc ca cl cc:=ac0.fr f12 λb _ hb y=>by omega
  have ac3:br bb (h7.size+1) L .busy none:=cH t11.on f12 (by omega);refine cd (λdh=>?_) λdh=>?_
  ·have vn:p<(aM T (af n) R k).1.cells.length:=(by omega);obtain⟨a0,ea,ca0⟩:=lV lf12.c.cells vn;subst ea;have pr:=(Hw T (af n) R k).Cx _ (List.getElem_mem vn);generalize ac4:(aM T (af n) R k).1.cells[p]=cell at ca0 pr
   have ll2:l2=acc.length+p:=by
    have:=Cw.1;rw[bw E.v 3 _ (λx _=>E.len x),List.length_append,List.length_map,List.length_take]at this;omega
   refine⟨⟨by omega,dh⟩,os ⟨_,rfl,ca0,ax.intro rfl (E.one _) rfl λgh n14=>⟨_,bW n14.rd rfl,_,bW ((n14.at_ (by omega)).trans v12) rfl,?_⟩⟩⟩;have LI:=n14.size;refine bQ.add n14.own (by rw[n14.rd];show 0<3;decide) λfg d15=>?_;have oO:=d15.size
   have MC:rd fg bb.size=E.v (xZ k cell):=by
    rw[d15.rd,n14.rd,wrap_i64 (n:=16*(k:Int)) (by omega) (by omega),wrap_i64 (by omega) (by omega)];rfl
   have ac5:=(d15.at_ (c:=h5.size) (by omega) (by omega)).trans ((n14.at_ (by omega)).trans ac1);refine⟨a2,l2,c2,nt ac5 rfl,_,rfl,aj MC,rfl,aC.intro λiS n16=>⟨_,rfl,aj n16.rd,E.one _,?_⟩⟩;have z16:=n16.size;have s16:Sl iS 3 a2 l2 c2 ((acc++((aM T (af n) R k).1.cells.take p).map (xZ k)).flatMap E.v) (λb=>(hb.size<=b/\b<hh.size)∨(cg.size<=b/\b<bb.size)):=((Cw.fr n14.fr λ_ _ _ y=>y).fr d15.fr λb _ hb y=>by omega).fr n16.fr λ_ _ _ y=>y;refine aT (elem:=mB) s16 rfl rfl (by show(l2+1)*32<=_;omega) (by omega) λa' c' eM f17 XE=>?_;have z17:=f17.size;have f16:Fr (λb=>b=h5.size∨(hb.size<=b/\b<hh.size)) cg iS:=((f12.new n14).did d15 λhl=>by omega).new n16;have w16:du iS h5.size:=n16.ow (d15.ow (n14.ow ac2));have UP:rd iS h5.size=[.slice a2 l2 c2]:=(n16.at_ (by omega)).trans ac5;have w17:du eM h5.size:=f17.own (by omega) (by omega) w16;refine bQ.intro w17 (by rw[f17.rd (by omega) (by omega),UP];exact Nat.zero_lt_one) λh18 d18=>?_;have Xt:=d18.size;rw[wrap_i64 (by omega) (by omega)];refine⟨⟨p+1,by omega,by omega,(f16.trans f17 λb hb y=>?_).did d18 λhl=>.inl rfl,a',l2+1,c',?_,d18.own,?_⟩,j8 dh⟩
   ·omega
   ·rw[d18.rd,f17.rd (by omega) (by omega),UP];rfl
   ·rw[List.take_succ_eq_append_getElem vn,List.map_append,<-List.append_assoc,List.flatMap_append,ac4];have s18:=(uv XE).fr d18.fr λb _ hb y=>by omega
    rw[show[cell].map (xZ k)=[xZ k cell] from rfl,List.flatMap_cons,List.flatMap_nil,List.append_nil];exact s18.mono λb hb=>by omega
  ·have:p=cl:=(by omega);subst this;refine⟨ac3,.inl ⟨rfl,?_⟩⟩;have t24:=qI (pC ac3) L .ready none;generalize cZ bb (h7.size+1) L .ready none=pz at t24;have z24:=t24.size;refine⟨(I11.fr f12 (by omega) (by omega) (λb hb y=>by have:=xl b hb;omega) λb hb y=>by omega).fr t24.fr (by omega) (by omega) (λb hb y=>by have:=xl b hb;omega) λb hb y=>by omega,(f11.trans f12 λb _ y=>by omega).trans t24.fr λb _ y=>.inr (.inr y),t24.on,q,a2,l2,c2,acc++(aM T (af n) R k).1.cells.map (xZ k),by omega,(t24.fr.rd (by omega) (by omega)).trans ac1,t24.fr.own (by omega) (by omega) ac2,?_,?_,?_,?_⟩
   ·rw[List.take_of_length_le (by omega)]at Cw;exact(Cw.fr t24.fr λb _ hb y=>by omega).mono λb hx=>by show hb.size<=b;omega
   ·rw[List.length_append,List.length_map];omega
   ·rw[e1]
    conv=>lhs;unfold cu
    rw[if_neg (λy=>y he)];show acc++nR ((aM T (af n) R k).1::(cu T (af n) R q (k+1)).1)=_;rw[vd,List.append_assoc]
   ·rw[e2]
    conv=>lhs;unfold cu
    rw[if_neg (λy=>y he)]
 ·-- all have acy
  obtain⟨I,f,on,q,a,l,c,acc,eq,ra,oa,sa,la,e1,e2⟩:=J;rw[hm]at eq e1 e2 la;have:q=0:=by omega
  subst this;have ea:nR (cu T (af n) R m 0).1=acc:=by rw[e1];exact List.append_nil _
  have e0:(cu T (af n) R m 0).2=0:=by rw[e2];rfl
  exact fin hh 0 f on I.r (λy=>absurd rfl y) λ_=>⟨a,l,c,acc,ra,sa,by rw[<-ea];exact Ng,by omega,by rw[Sq,if_neg (λy=>y e0),ea]⟩
 ·-- an index that Yj not read
  obtain⟨I,f,on,q,a,l,c,acc,eq,ra,oa,sa,la,e1,e2⟩:=J;rw[hm]at hk;obtain⟨q,rfl⟩:∃q',q=q'+1:=⟨q-1,by omega⟩;have zf:=f.size
  have ee:(cu T (af n) R m 0).2=(aM T (af n) R k).2:=by
   rw[e2];unfold cu;rw[if_pos he]
  exact fin h' _ (f.trans f' λb _ y=>.inl y) (cH on f' (by omega)) r' (λ_=>by rw[Sq,ee,if_pos he]) λy=>absurd y he
end Di
namespace Tr
open Hp W Ad Tm Re Ss
open Hd (ints)
open In (ah av)
open Di (uv)
def ext(az:Nat->Nat)(n m c:Nat):Nat->Nat:=λb=>if b<n then az b else if b<m then c else 0
theorem qB(h:b<n):ext az n m c b=az b:=if_pos h
theorem AB(h:n<=b)(h':b<m):ext az n m c b=c:=by
 unfold ext;rw[if_neg (by omega),if_pos h']
section
variable{hx h' : ab}{az : Nat -> Nat}{G : Nat -> Prop}{c0 : Nat}
theorem qg(S:Sl hx ec a l c xs (On az k))(f:Fr G hx h')(hG:∀ b,b<hx.size->G b->az b=c0)(hk:k≠c0):Sl h' ec a l c xs (On (ext az hx.size h'.size c0) k):=
 (Sl.fr f (uv S) λb hb y g=>hk (y.1.symm.trans (hG b hb g))).mono λb y=>(qB y.2).trans y.1
theorem XG{v:LV}(N:rd hx b=v/\du hx b/\az b=k)(f:Fr G hx h')(hG:∀ b,b<hx.size->G b->az b=c0)(hk:k≠c0):rd h' b=v/\du h' b/\ext az hx.size h'.size c0 b=k:=by
 have lt:=N.2.1.lt;have ng:¬G b:=λg=>hk (N.2.2.symm.trans (hG b lt g));exact⟨(f.rd lt ng).trans N.1,f.own lt ng N.2.1,(qB lt).trans N.2.2⟩
theorem ac7(S:Sl h' ec a l c xs (λb=>On az c0 b∨hx.size<=b))(hs:∀ b,On az c0 b->b<hx.size∨True)(iH:∀ b,hx.size<=b->az b=0∨c0=0∨True):Sl h' ec a l c xs (On (ext az hx.size h'.size c0) c0):=
 (uv S).mono λb y=>by
  show ext az hx.size h'.size c0 b=c0
  by_cases hb:b<hx.size
  ·rw[qB hb]
   rcases y.1 with z|z
   ·exact z
   ·omega
  ·exact AB (by omega) y.2
end
structure Dt where
 P:Nat->Nat
 z:Nat->NdS
 pa:OA
 pc:Nat
 da:OA
 dc:Nat
 oa:OA
 oc:Nat
def NG(P:Nat->Nat)(k:Nat):Value:=if k=0 then .pointer none else .pointer (some ⟨P k,0,none⟩)
def Ae(n:Nat)(P:Nat->Nat):LV:=(List.range n).map (NG P)
def XH(l:List Nat):LV:=ints (l.map λk:Nat=>(k:Int))
structure bY(E:NP)(h0 hx:ab)(az:Nat->Nat)(s:Ts)(D:Dt):Prop where
 fr:Fr No h0 hx
 lo:∀b,az b≠0->h0.size<=b
 node:∀k,1<=k->k<s.n->¬E (4*k+4)->rd hx (D.P k)=JT (D.z k) (s.nd k)/\du hx (D.P k)/\az (D.P k)=4*k+4
 names:∀k,1<=k->k<s.n->¬E (4*k+5)->Sl hx 1 (D.z k).na (s.nd k).names.length (D.z k).nc (Ch.strs (s.nd k).names) (On az (4*k+5))
 aU:∀k,1<=k->k<s.n->¬E (4*k+6)->Sl hx 1 (D.z k).ma (s.nd k).aU.length (D.z k).mc (ints (s.nd k).aU) (On az (4*k+6))
 ptr:¬E 1->Sl hx 1 D.pa s.n D.pc (Ae s.n D.P) (On az 1)
 bG:¬E 2->Sl hx 1 D.da s.bG.length D.dc (XH s.bG) (On az 2)
 eS:¬E 3->Sl hx 1 D.oa s.eS.length D.oc (XH s.eS) (On az 3)
section
variable{h0 hx h' : ab}{E : Nat -> Prop}{az : Nat -> Nat}{s : Ts}{D : Dt}{G : Nat -> Prop}{c0 : Nat}
theorem bY.step(t:bY E h0 hx az s D)(f:Fr G hx h')(hG:∀ b,b<hx.size->G b->az b=c0)(h00:c0=0->∀ b,b<hx.size->¬ G b):bY (λc=>E c∨c=c0) h0 h' (ext az hx.size h'.size c0) s D:=by
 have z0:=t.fr.size;have ne:∀{c:Nat},¬(E c∨c=c0)->¬E c/\c≠c0:=λh=>⟨λy=>h (.inl y),λy=>h (.inr y)⟩
 refine⟨t.fr.trans f λb hb g=>?_,λb hb=>?_,λk k1 k2 e=>XG (t.node k k1 k2 (ne e).1) f hG (ne e).2,λk k1 k2 e=>qg (t.names k k1 k2 (ne e).1) f hG (ne e).2,λk k1 k2 e=>qg (t.aU k k1 k2 (ne e).1) f hG (ne e).2,
  λe=>qg (t.ptr (ne e).1) f hG (ne e).2,λe=>qg (t.bG (ne e).1) f hG (ne e).2,λe=>qg (t.eS (ne e).1) f hG (ne e).2⟩
 ·have mQ:b<hx.size:=by omega
  have hc:=hG b mQ g
  by_cases c00:c0=0
  ·exact absurd g (h00 c00 b mQ)
  ·have:=t.lo b (by rw[hc];exact c00);omega
 ·by_cases h1:b<hx.size
  ·rw[qB h1]at hb;exact t.lo b hb
  ·omega
theorem bY.no(t:bY E h0 hx az s D)(f:Fr No hx h'):bY E h0 h' (ext az hx.size h'.size 0) s D:=by
 have:=t.step (c0:=0) f (λb _ y=>y.elim) λ_ b _ y=>y
 exact⟨this.fr,this.lo,λk k1 k2 e=>this.node k k1 k2 λy=>y.elim e λy=>by omega,λk k1 k2 e=>this.names k k1 k2 λy=>y.elim e λy=>by omega,λk k1 k2 e=>this.aU k k1 k2 λy=>y.elim e λy=>by omega,
  λe=>this.ptr λy=>y.elim e λy=>by omega,λe=>this.bG λy=>y.elim e λy=>by omega,λe=>this.eS λy=>y.elim e λy=>by omega⟩
theorem LP{P:Nat->Nat}(hk:k<n)(k1:1<=k):(Ae n P)[k]?=some (.pointer (some ⟨P k,0,none⟩)):=by
 unfold Ae;rw[List.getElem?_map,List.getElem?_range hk];show some (NG P k)=_;unfold NG;rw[if_neg (by omega)]
theorem bY.at_(t:bY E h0 hx az s D)(e:¬ E 1){k:Nat}(k1:1<=k)(k2:k<s.n):∃p,D.pa=some p/\cellOf hx (Addr.add p k)=some (.pointer (some ⟨D.P k,0,none⟩)):=by
 have c:=(t.ptr e).cells
 cases hp:D.pa with
 | none=>
  rw[hp]at c;have c:Ae s.n D.P=[]:=c;have:=congrArg List.length c;rw[Ae,List.length_map,List.length_range,List.length_nil]at this;omega
 | some p=>
  rw[hp]at c;exact⟨p,rfl,c k _ (LP k2 k1)⟩
theorem bY.nd(t:bY E h0 hx az s D){k:Nat}(k1:1<=k)(k2:k<s.n)(e:¬ E (4*k+4)/\¬ E (4*k+5)/\¬ E (4*k+6))(hl:(s.nd k).names.length=(s.nd k).aU.length):Qn hx (D.P k) (D.z k) (s.nd k):=
 ⟨(t.node k k1 k2 e.1).1,(t.names k k1 k2 e.2.1).cells,(t.aU k k1 k2 e.2.2).cells,hl⟩
end
end Tr
namespace Tr
open Hp W Ad Tm Re Ss
open Hd (ints)
open In (ah av)
section
variable{h0 hx h' : ab}{E : Nat -> Prop}{az : Nat -> Nat}{s : Ts}{D : Dt}{d : Nat}{nm : Tm.ay}{m : Int}
theorem NH(S:Sl h' ec a l c xs (λb=>On az c0 b∨hx.size<=b)):Sl h' ec a l c xs (On (ext az hx.size h'.size c0) c0):=
 ac7 S (λ_ _=>.inr trivial) (λ_ _=>.inr (.inr trivial))
theorem apN(t:bY E h0 hx az s D)(d1:1<=d)(d2:d<s.n)(e5:¬ E (4*d+5))(hl:(s.nd d).names.length<=1000){k:OA->Nat->Nat->ab->Prop}
  (hk:∀a' c' h',Fr (On az (4*d+5)) hx h'->bY (λc=>E c∨c=4*d+5) h0 h' (ext az hx.size h'.size (4*d+5)) s D->Sl h' 1 a' ((s.nd d).names.length+1) c' (Ch.strs ((s.nd d).names++[nm])) (On (ext az hx.size h'.size (4*d+5)) (4*d+5))->k a' ((s.nd d).names.length+1) c' h') :
  aw tN 9 (D.z d).na (s.nd d).names.length (D.z d).nc 1 [.string (mkStr nm)] hx k:=by
 refine aT (elem:=tN) (t.names d d1 d2 e5) rfl rfl (by show((s.nd d).names.length+1)*16<=_;omega) (by omega) λa' c' h' f S=>?_;refine hk a' c' h' f (t.step f (λb _ y=>y) λy=>by omega) ?_;rw[show Ch.strs ((s.nd d).names++[nm])=Ch.strs (s.nd d).names++[.string (mkStr nm)] from List.map_append];exact NH S
theorem apM(t:bY E h0 hx az s D)(d1:1<=d)(d2:d<s.n)(e6:¬ E (4*d+6))(hl:(s.nd d).aU.length<=1000){k:OA->Nat->Nat->ab->Prop}
  (hk:∀a' c' h',Fr (On az (4*d+6)) hx h'->bY (λc=>E c∨c=4*d+6) h0 h' (ext az hx.size h'.size (4*d+6)) s D->Sl h' 1 a' ((s.nd d).aU.length+1) c' (ints ((s.nd d).aU++[m])) (On (ext az hx.size h'.size (4*d+6)) (4*d+6))->k a' ((s.nd d).aU.length+1) c' h') :
  aw qP 3 (D.z d).ma (s.nd d).aU.length (D.z d).mc 1 [.int .i64 m] hx k:=by
 refine aT (elem:=qP) (t.aU d d1 d2 e6) rfl rfl (by show((s.nd d).aU.length+1)*8<=_;omega) (by omega) λa' c' h' f S=>?_;refine hk a' c' h' f (t.step f (λb _ y=>y) λy=>by omega) ?_;rw[show ints ((s.nd d).aU++[m])=ints (s.nd d).aU++[.int .i64 m] from List.map_append];exact NH S
theorem ap2{na ma:OA}{nc mc:Nat}{m':Nat}(t:bY (λc=>E c∨c=4*d+5∨c=4*d+6) h0 hx az s D)(d1:1<=d)(d2:d<s.n)(e:¬ E (4*d+4))
  (S5:Sl hx 1 na ((s.nd d).names.length+1) nc (Ch.strs ((s.nd d).names++[nm])) (On az (4*d+5))) (S6:Sl hx 1 ma ((s.nd d).aU.length+1) mc (ints ((s.nd d).aU++[(m':Int)])) (On az (4*d+6))) {Q:HP}
  (hQ:∀h' bT,bY E h0 h' bT { s with nd:=bP s.nd d (fJ (s.nd d) nm m') } { D with z:=bP D.z d ⟨na,nc,ma,mc⟩ }->Fr (λb=>b=D.P d) hx h'->Q h') :
  bQ (Addr.add ⟨D.P d,0,none⟩ 4) (.slice na ((s.nd d).names.length+1) nc) hx λh49=>ae (some ⟨D.P d,0,none⟩) λp=>bQ (Addr.add p 5) (.slice ma ((s.nd d).aU.length+1) mc) h49 Q:=by
 obtain⟨r,o,cP⟩:=t.node d d1 d2 (by rintro(y|y|y);exact e y;omega;omega);have lt:=o.lt;refine bQ.add o (by rw[r];exact(by decide:0+4<7)) λh1 g1=>os ?_;rw[r]at g1;refine bQ.add g1.own (by rw[g1.rd];exact(by decide:0+5<7)) λh2 g2=>?_;rw[g1.rd]at g2;have z1:=g1.size;have z2:=g2.size;have f:Fr (λb=>b=D.P d) hx h2:=g1.fr.trans g2.fr λ_ _ y=>y;have hG:∀b,b<hx.size->b=D.P d->az b=4*d+4:=λb _ y=>by rw[y];exact cP
 have T:=t.step (c0:=4*d+4) f hG λy=>by omega
 have K5:=qg S5 f hG (by omega);have K6:=qg S6 f hG (by omega);generalize hcol:ext az hx.size h2.size (4*d+4)=UT at T K5 K6;have cP2:UT (D.P d)=4*d+4:=by rw[<-hcol,qB lt];exact cP
 refine hQ h2 UT ⟨T.fr,T.lo,λk k1 k2 ek=>?_,λk k1 k2 ek=>?_,λk k1 k2 ek=>?_,λe1=>T.ptr ?_,λe1=>T.bG ?_,λe1=>T.eS ?_⟩ f
 ·by_cases hk:k=d
  ·subst hk;show rd h2 (D.P k)=JT (bP D.z k _ k) (bP s.nd k _ k)/\_;rw[dY,dY];refine⟨g2.rd.trans ?_,g2.own,cP2⟩;show _=JT ⟨na,nc,ma,mc⟩ (fJ (s.nd k) nm m');unfold JT fJ;dsimp only;rw[List.length_append,List.length_append];rfl
  ·show rd h2 (D.P k)=JT (bP D.z d _ k) (bP s.nd d _ k)/\_;rw[cK _ _ hk,cK _ _ hk];exact T.node k k1 k2 (by rintro((y|y|y)|y);exact ek y;omega;omega;omega)
 ·by_cases hk:k=d
  ·subst hk;show Sl h2 1 (bP D.z k _ k).na (bP s.nd k _ k).names.length (bP D.z k _ k).nc (Ch.strs (bP s.nd k _ k).names) _;rw[dY,dY];show Sl h2 1 na ((s.nd k).names++[nm]).length nc (Ch.strs ((s.nd k).names++[nm])) _;rw[List.length_append];exact K5
  ·show Sl h2 1 (bP D.z d _ k).na (bP s.nd d _ k).names.length (bP D.z d _ k).nc (Ch.strs (bP s.nd d _ k).names) _;rw[cK _ _ hk,cK _ _ hk];exact T.names k k1 k2 (by rintro((y|y|y)|y);exact ek y;omega;omega;omega)
 ·by_cases hk:k=d
  ·subst hk;show Sl h2 1 (bP D.z k _ k).ma (bP s.nd k _ k).aU.length (bP D.z k _ k).mc (ints (bP s.nd k _ k).aU) _;rw[dY,dY];show Sl h2 1 ma ((s.nd k).aU++[(m':Int)]).length mc (ints ((s.nd k).aU++[(m':Int)])) _;rw[List.length_append];exact K6
  ·show Sl h2 1 (bP D.z d _ k).ma (bP s.nd d _ k).aU.length (bP D.z d _ k).mc (ints (bP s.nd d _ k).aU) _;rw[cK _ _ hk,cK _ _ hk];exact T.aU k k1 k2 (by rintro((y|y|y)|y);exact ek y;omega;omega;omega)
 ·rintro((y|y|y)|y)
  ·exact e1 y
  all_goals omega
 ·rintro((y|y|y)|y)
  ·exact e1 y
  all_goals omega
 ·rintro((y|y|y)|y)
  ·exact e1 y
  all_goals omega
end
def ZN(pa:OA)(nl:Nat)(be:Int)(aZ:ByteArray)(n11:Int)(h18:ab)(Q:HP):Prop:=
 (0<=be/\be<(nl:Int))/\
 ae pa λsU=>
 ∃(q5:OA),cellOf h18 (Addr.add sU (Int.toNat be))=some (.pointer q5)/\
 (0<=be/\be<(nl:Int))/\
 ae pa λvq=>
 ∃(q6:OA),cellOf h18 (Addr.add vq (Int.toNat be))=some (.pointer q6)/\
 (0<=be/\be<(nl:Int))/\
 ae pa λG1=>
 ∃(q7:OA),cellOf h18 (Addr.add G1 (Int.toNat be))=some (.pointer q7)/\
 ae q7 λG2=>
 ∃(j9:OA) (jO:Nat) (kH:Nat),cellOf h18 (Addr.add G2 4)=some (.slice j9 jO kH)/\
 (0<=be/\be<(nl:Int))/\
 ae pa λCT=>
 ∃(q8:OA),cellOf h18 (Addr.add CT (Int.toNat be))=some (.pointer q8)/\
 ae q8 λCU=>
 ∃(mL:OA) (mJ:Nat) (mU:Nat),cellOf h18 (Addr.add CU 5)=some (.slice mL mJ mU)/\
 (
 aC [.string aZ] 9 h18 λfO=>
 (cellOf fO (Addr.add sU (Int.toNat be))=some (.pointer q5))/\
 (cellOf fO (Addr.add vq (Int.toNat be))=some (.pointer q6))/\
 (cellOf fO (Addr.add G1 (Int.toNat be))=some (.pointer q7))/\
 (cellOf fO (Addr.add G2 4)=some (.slice j9 jO kH))/\
 (cellOf fO (Addr.add CT (Int.toNat be))=some (.pointer q8))/\
 (cellOf fO (Addr.add CU 5)=some (.slice mL mJ mU))/\
 (
 ∃aR:LV,List.length aR=1*1/\ag fO (some ⟨h18.size,0,none⟩) aR/\(∀v∈aR,v.oneCell'=true)/\
 aw tN 9 j9 jO kH 1 aR fO λAm zQ Ba gY=>
 (cellOf gY (Addr.add sU (Int.toNat be))=some (.pointer q5))/\
 (cellOf gY (Addr.add vq (Int.toNat be))=some (.pointer q6))/\
 (cellOf gY (Addr.add CT (Int.toNat be))=some (.pointer q8))/\
 (cellOf gY (Addr.add CU 5)=some (.slice mL mJ mU))/\
 aC [.int .i64 n11] 3 gY λlx=>
 (cellOf lx (Addr.add sU (Int.toNat be))=some (.pointer q5))/\
 (cellOf lx (Addr.add vq (Int.toNat be))=some (.pointer q6))/\
 (cellOf lx (Addr.add G1 (Int.toNat be))=some (.pointer q7))/\
 (cellOf lx (Addr.add G2 4)=some (.slice j9 jO kH))/\
 (cellOf lx (Addr.add CT (Int.toNat be))=some (.pointer q8))/\
 (cellOf lx (Addr.add CU 5)=some (.slice mL mJ mU))/\
 ∃mW:LV,List.length mW=1*1/\ag lx (some ⟨gY.size,0,none⟩) mW/\(∀v∈mW,v.oneCell'=true)/\
 aw qP 3 mL mJ mU 1 mW lx λMD GW ME jC=>
 (cellOf jC (Addr.add sU (Int.toNat be))=some (.pointer q5))/\
 (cellOf jC (Addr.add vq (Int.toNat be))=some (.pointer q6))/\
 ae q5 λY8=>
 bQ (Addr.add Y8 4) (.slice Am zQ Ba) jC λlu=>
 ae q6 λY9=>
 bQ (Addr.add Y9 5) (.slice MD GW ME) lu λpz=>
 Q pz)/\
 aC [.int .i64 n11] 3 fO λjv=>
 (cellOf jv (Addr.add sU (Int.toNat be))=some (.pointer q5))/\
 (cellOf jv (Addr.add vq (Int.toNat be))=some (.pointer q6))/\
 (cellOf jv (Addr.add G1 (Int.toNat be))=some (.pointer q7))/\
 (cellOf jv (Addr.add G2 4)=some (.slice j9 jO kH))/\
 (cellOf jv (Addr.add CT (Int.toNat be))=some (.pointer q8))/\
 (cellOf jv (Addr.add CU 5)=some (.slice mL mJ mU))/\
 ∃sg:LV,List.length sg=1*1/\ag jv (some ⟨h18.size,0,none⟩) sg/\(∀v∈sg,v.oneCell'=true)/\
 aw tN 9 j9 jO kH 1 sg jv λMP MQ OI jG=>
 (cellOf jG (Addr.add sU (Int.toNat be))=some (.pointer q5))/\
 (cellOf jG (Addr.add vq (Int.toNat be))=some (.pointer q6))/\
 (cellOf jG (Addr.add CT (Int.toNat be))=some (.pointer q8))/\
 (cellOf jG (Addr.add CU 5)=some (.slice mL mJ mU))/\
 ∃xq:LV,List.length xq=1*1/\ag jG (some ⟨fO.size,0,none⟩) xq/\(∀v∈xq,v.oneCell'=true)/\
 aw qP 3 mL mJ mU 1 xq jG λRS RT RU sb=>
 (cellOf sb (Addr.add sU (Int.toNat be))=some (.pointer q5))/\
 (cellOf sb (Addr.add vq (Int.toNat be))=some (.pointer q6))/\
 ae q5 λp20=>
 bQ (Addr.add p20 4) (.slice MP MQ OI) sb λog=>
 ae q6 λp21=>
 bQ (Addr.add p21 5) (.slice RS RT RU) og λAl=>
 Q Al)/\
 aC [.int .i64 n11] 3 h18 λnz=>
 (cellOf nz (Addr.add sU (Int.toNat be))=some (.pointer q5))/\
 (cellOf nz (Addr.add vq (Int.toNat be))=some (.pointer q6))/\
 (cellOf nz (Addr.add G1 (Int.toNat be))=some (.pointer q7))/\
 (cellOf nz (Addr.add G2 4)=some (.slice j9 jO kH))/\
 (cellOf nz (Addr.add CT (Int.toNat be))=some (.pointer q8))/\
 (cellOf nz (Addr.add CU 5)=some (.slice mL mJ mU))/\
 aC [.string aZ] 9 nz λsT=>
 (cellOf sT (Addr.add sU (Int.toNat be))=some (.pointer q5))/\
 (cellOf sT (Addr.add vq (Int.toNat be))=some (.pointer q6))/\
 (cellOf sT (Addr.add G1 (Int.toNat be))=some (.pointer q7))/\
 (cellOf sT (Addr.add G2 4)=some (.slice j9 jO kH))/\
 (cellOf sT (Addr.add CT (Int.toNat be))=some (.pointer q8))/\
 (cellOf sT (Addr.add CU 5)=some (.slice mL mJ mU))/\
 ∃xr:LV,List.length xr=1*1/\ag sT (some ⟨nz.size,0,none⟩) xr/\(∀v∈xr,v.oneCell'=true)/\
 aw tN 9 j9 jO kH 1 xr sT λXf Un Y' pj=>
 (cellOf pj (Addr.add sU (Int.toNat be))=some (.pointer q5))/\
 (cellOf pj (Addr.add vq (Int.toNat be))=some (.pointer q6))/\
 (cellOf pj (Addr.add CT (Int.toNat be))=some (.pointer q8))/\
 (cellOf pj (Addr.add CU 5)=some (.slice mL mJ mU))/\
 ∃xt:LV,List.length xt=1*1/\ag pj (some ⟨h18.size,0,none⟩) xt/\(∀v∈xt,v.oneCell'=true)/\
 aw qP 3 mL mJ mU 1 xt pj λJr G3 Jt Aq=>
 (cellOf Aq (Addr.add sU (Int.toNat be))=some (.pointer q5))/\
 (cellOf Aq (Addr.add vq (Int.toNat be))=some (.pointer q6))/\
 ae q5 λp22=>
 bQ (Addr.add p22 4) (.slice Xf Un Y') Aq λPz=>
 ae q6 λp23=>
 bQ (Addr.add p23 5) (.slice Jr G3 Jt) Pz λOJ=>
 Q OJ
section
variable{h0 hx h' : ab}{E E' : Nat -> Prop}{az : Nat -> Nat}{s : Ts}{D : Dt}{d : Nat}{nm : Tm.ay}{m : Nat}
theorem bY.mono(t:bY E h0 hx az s D)(h:∀ c,E c->E' c):bY E' h0 hx az s D:=
 ⟨t.fr,t.lo,λk k1 k2 e=>t.node k k1 k2 λy=>e (h _ y),λk k1 k2 e=>t.names k k1 k2 λy=>e (h _ y),λk k1 k2 e=>t.aU k k1 k2 λy=>e (h _ y),λe=>t.ptr λy=>e (h _ y),λe=>t.bG λy=>e (h _ y),λe=>t.eS λy=>e (h _ y)⟩
theorem bY.c1(t:bY E h0 hx az s D)(e:¬ E 1){p:Addr}(ep:D.pa=some p)(d1:1<=d)(d2:d<s.n):cellOf hx (Addr.add p d)=some (.pointer (some ⟨D.P d,0,none⟩)):=by
 obtain⟨q,eq,c⟩:=t.at_ e d1 d2;rw[ep]at eq;rw[Option.some.inj eq];exact c
theorem bY.c4(t:bY E h0 hx az s D)(e:¬ E (4*d+4))(d1:1<=d)(d2:d<s.n):cellOf hx (Addr.add ⟨D.P d,0,none⟩ 4)=some (.slice (D.z d).na (s.nd d).names.length (D.z d).nc)/\cellOf hx (Addr.add ⟨D.P d,0,none⟩ 5)=some (.slice (D.z d).ma (s.nd d).aU.length (D.z d).mc):=
 ⟨bW (t.node d d1 d2 e).1 rfl,bW (t.node d d1 d2 e).1 rfl⟩
theorem sD{v:Value}(n:oM h h' [v])(hv:v.oneCell'=true):List.length [v]=1*1/\ag h' (some ⟨h.size,0,none⟩) [v]/\∀x∈[v],x.oneCell'=true:=
 ⟨rfl,aj n.rd,λx hx=>by rw[List.mem_singleton.mp hx];exact hv⟩
theorem BX(t:bY E h0 hx az s D)(e1:¬ E 1)(e4:¬ E (4*d+4))(e5:¬ E (4*d+5))(e6:¬ E (4*d+6))(d1:1<=d)(d2:d<s.n)(hl:(s.nd d).names.length<=1000)(hlm:(s.nd d).names.length=(s.nd d).aU.length){Q:HP}
  (hQ:∀h' bT z',bY E h0 h' bT { s with nd:=bP s.nd d (fJ (s.nd d) nm m) } { D with z:=bP D.z d z' }->hx.size<=h'.size->Q h'):ZN D.pa s.n (d:Int) (mkStr nm) (m:Int) hx Q:=by
 obtain⟨pA,ep,_⟩:=t.at_ e1 d1 d2;unfold ZN;rw[ep,Int.toNat_natCast];have c4:=t.c4 e4 d1 d2;have c1:=t.c1 e1 ep d1 d2;have Cx:(0:Int)<=(d:Int)/\(d:Int)<(s.n:Int):=⟨by omega,by omega⟩
 -- the two aeG and what follows
 have two:∀{h1:ab} {QF:Nat->Nat},bY E h0 h1 QF s D->(1:Nat)=1:=λ_=>rfl
 have fin:∀{h3:ab} {UU:Nat->Nat} {a a':OA} {c c':Nat},bY (λc=>(E c∨c=4*d+5)∨c=4*d+6) h0 h3 UU s D->hx.size<=h3.size->Sl h3 1 a ((s.nd d).names.length+1) c (Ch.strs ((s.nd d).names++[nm])) (On UU (4*d+5))->Sl h3 1 a' ((s.nd d).aU.length+1) c' (ints ((s.nd d).aU++[(m:Int)])) (On UU (4*d+6))->
   (cellOf h3 (Addr.add pA d)=some (.pointer (some ⟨D.P d,0,none⟩)))/\(cellOf h3 (Addr.add pA d)=some (.pointer (some ⟨D.P d,0,none⟩)))/\
    ae (some ⟨D.P d,0,none⟩) λY8=>bQ (Addr.add Y8 4) (.slice a ((s.nd d).names.length+1) c) h3 λlu=>ae (some ⟨D.P d,0,none⟩) λY9=>bQ (Addr.add Y9 5) (.slice a' ((s.nd d).aU.length+1) c') lu λpz=>Q pz:=fun {h3 UU a a' c c'} t3 z S5 S6=>by
  have q1:=t3.c1 (d:=d) (by rintro((y|y)|y);exact e1 y;omega;omega) ep d1 d2;refine⟨q1,q1,os ?_⟩;exact ap2 (E:=E) (t3.mono λc y=>by rcases y with(y|y)|y;exact .inl y;exact .inr (.inl y);exact .inr (.inr y)) d1 d2 e4 S5 S6 λh' bT T f=>hQ h' bT _ T (by have:=f.size;omega)
 have ZO:∀{h1:ab} {QF:Nat->Nat},bY E h0 h1 QF s D->(cellOf h1 (Addr.add pA d)=some (.pointer (some ⟨D.P d,0,none⟩)))/\cellOf h1 (Addr.add ⟨D.P d,0,none⟩ 4)=some (.slice (D.z d).na (s.nd d).names.length (D.z d).nc)/\cellOf h1 (Addr.add ⟨D.P d,0,none⟩ 5)=some (.slice (D.z d).ma (s.nd d).aU.length (D.z d).mc):=
  λt1=>⟨t1.c1 e1 ep d1 d2,t1.c4 e4 d1 d2⟩
 have UW:∀{h1:ab} {QF:Nat->Nat},bY (λc=>E c∨c=4*d+5) h0 h1 QF s D->(cellOf h1 (Addr.add pA d)=some (.pointer (some ⟨D.P d,0,none⟩)))/\cellOf h1 (Addr.add ⟨D.P d,0,none⟩ 4)=some (.slice (D.z d).na (s.nd d).names.length (D.z d).nc)/\cellOf h1 (Addr.add ⟨D.P d,0,none⟩ 5)=some (.slice (D.z d).ma (s.nd d).aU.length (D.z d).mc):=
  λt1=>⟨t1.c1 (by rintro(y|y);exact e1 y;omega) ep d1 d2,t1.c4 (by rintro(y|y);exact e4 y;omega) d1 d2⟩
 have n6:¬(E (4*d+6)∨4*d+6=4*d+5):=by rintro(y|y);exact e6 y;omega
 refine⟨Cx,os ⟨_,c1,Cx,os ⟨_,c1,Cx,os ⟨_,c1,os ⟨_,_,_,c4.1,Cx,os ⟨_,c1,os ⟨_,_,_,c4.2,?_,?_⟩⟩⟩⟩⟩⟩⟩
 ·refine aC.intro λfO n19=>?_;have t19:=t.no n19.fr;have z19:=n19.size;obtain⟨a1,a2,a3⟩:=ZO t19;refine⟨a1,a1,a1,a2,a1,a3,?_,?_⟩
  ·obtain⟨o1,o2,o3⟩:=sD n19 rfl;refine⟨_,o1,o2,o3,apN t19 d1 d2 e5 hl λa c gY f20 t20 S20=>?_⟩;have z20:=f20.size;obtain⟨b1,b2,b3⟩:=UW t20;refine⟨b1,b1,b1,b3,aC.intro λlx n21=>?_⟩;have t21:=t20.no n21.fr;have z21:=n21.size;have S21:=qg (c0:=0) S20 n21.fr (λ_ _ y=>y.elim) (by omega);obtain⟨g1,g2,g3⟩:=UW t21;obtain⟨o1,o2,o3⟩:=sD n21 rfl;refine⟨g1,g1,g1,g2,g1,g3,_,o1,o2,o3,apM t21 d1 d2 n6 (by omega) λa' c' jC f22 t22 S22=>?_⟩;have z22:=f22.size;exact fin t22 (by omega) (qg S21 f22 (λ_ _ y=>y) (by omega)) S22
  ·refine aC.intro λjv n25=>?_;have t25:=t19.no n25.fr;have z25:=n25.size;obtain⟨b1,b2,b3⟩:=ZO t25;have o2:ag jv (some ⟨hx.size,0,none⟩) [.string (mkStr nm)]:=aj ((n25.at_ (by omega)).trans n19.rd);refine⟨b1,b1,b1,b2,b1,b3,_,rfl,o2,λv hv=>by rw[List.mem_singleton.mp hv];rfl,apN t25 d1 d2 e5 hl λa c jG f26 t26 S26=>?_⟩;have z26:=f26.size;obtain⟨g1,g2,g3⟩:=UW t26
   have nc:¬On (ext (ext az hx.size fO.size 0) fO.size jv.size 0) (4*d+5) fO.size:=λy=>by
    have y:ext (ext az hx.size fO.size 0) fO.size jv.size 0 fO.size=4*d+5:=y;rw[AB (Nat.le_refl _) (by omega)]at y;omega
   have q2:ag jG (some ⟨fO.size,0,none⟩) [.int .i64 (m:Int)]:=aj ((f26.rd (by omega) nc).trans n25.rd);refine⟨g1,g1,g1,g3,_,rfl,q2,λv hv=>by rw[List.mem_singleton.mp hv];rfl,apM t26 d1 d2 n6 (by omega) λa' c' sb f27 t27 S27=>?_⟩;have z27:=f27.size;exact fin t27 (by omega) (qg S26 f27 (λ_ _ y=>y) (by omega)) S27
 ·refine aC.intro λnz n30=>?_;have t30:=t.no n30.fr;have z30:=n30.size;obtain⟨a1,a2,a3⟩:=ZO t30;refine⟨a1,a1,a1,a2,a1,a3,aC.intro λsT n31=>?_⟩;have t31:=t30.no n31.fr;have z31:=n31.size;obtain⟨b1,b2,b3⟩:=ZO t31;obtain⟨o1,o2,o3⟩:=sD n31 rfl;refine⟨b1,b1,b1,b2,b1,b3,_,o1,o2,o3,apN t31 d1 d2 e5 hl λa c pj f32 t32 S32=>?_⟩;have z32:=f32.size;obtain⟨g1,g2,g3⟩:=UW t32
  have nc:¬On (ext (ext az hx.size nz.size 0) nz.size sT.size 0) (4*d+5) hx.size:=λy=>by
   have y:ext (ext az hx.size nz.size 0) nz.size sT.size 0 hx.size=4*d+5:=y;rw[qB (by omega),AB (Nat.le_refl _) (by omega)]at y;omega
  have q2:ag pj (some ⟨hx.size,0,none⟩) [.int .i64 (m:Int)]:=aj ((f32.rd (by omega) nc).trans ((n31.at_ (by omega)).trans n30.rd));refine⟨g1,g1,g1,g3,_,rfl,q2,λv hv=>by rw[List.mem_singleton.mp hv];rfl,apM t32 d1 d2 n6 (by omega) λa' c' Aq f33 t33 S33=>?_⟩;have z33:=f33.size;exact fin t33 (by omega) (qg S32 f33 (λ_ _ y=>y) (by omega)) S33
end
section
variable{h0 hx h' : ab}{E E' : Nat -> Prop}{az : Nat -> Nat}{s : Ts}{D : Dt}{d : Nat}{nm : Tm.ay}{m : Nat}
theorem LQ(t:bY E h0 hx az s D)(d1:1<=d)(d2:d<s.n)(e:¬ E (4*d+4)){i:Nat}{v:Value}(hi:i<7){x:Nd}(hv:(JT (D.z d) (s.nd d)).set i v=JT (D.z d) x)(hn:x.names=(s.nd d).names)(hm:x.aU=(s.nd d).aU){Q:HP}
  (hQ:∀h' bT,bY E h0 h' bT { s with nd:=bP s.nd d x } D->Fr (λb=>b=D.P d) hx h'->(∀b,b<hx.size->bT b=az b)->h'.size=hx.size->Q h'):bQ (Addr.add ⟨D.P d,0,none⟩ i) v hx Q:=by
 obtain⟨r,o,cP⟩:=t.node d d1 d2 e;have lt:=o.lt;refine bQ.add o (by rw[r];show 0+i<7;omega) λh2 g=>?_;rw[r,Nat.zero_add,hv]at g;have hG:∀b,b<hx.size->b=D.P d->az b=4*d+4:=λb _ y=>by rw[y];exact cP
 have T:=t.step (c0:=4*d+4) g.fr hG λy=>by omega
 have Db:∀b,b<hx.size->ext az hx.size h2.size (4*d+4) b=az b:=λb hb=>qB hb;generalize ext az hx.size h2.size (4*d+4)=UT at T Db;refine hQ h2 UT ⟨T.fr,T.lo,λk k1 k2 ek=>?_,λk k1 k2 ek=>?_,λk k1 k2 ek=>?_,λe1=>T.ptr ?_,λe1=>T.bG ?_,λe1=>T.eS ?_⟩ g.fr Db g.size
 ·by_cases hk:k=d
  ·subst hk;show rd h2 (D.P k)=JT (D.z k) (bP s.nd k _ k)/\_;rw[dY];exact⟨g.rd,g.own,(Db _ lt).trans cP⟩
  ·show rd h2 (D.P k)=JT (D.z k) (bP s.nd d _ k)/\_;rw[cK _ _ hk];exact T.node k k1 k2 (by rintro(y|y);exact ek y;omega)
 ·have S:=T.names k k1 k2 (by rintro(y|y);exact ek y;omega);show Sl h2 1 (D.z k).na (bP s.nd d _ k).names.length (D.z k).nc (Ch.strs (bP s.nd d _ k).names) _
  by_cases hk:k=d
  ·subst hk;rw[dY,hn];exact S
  ·rw[cK _ _ hk];exact S
 ·have S:=T.aU k k1 k2 (by rintro(y|y);exact ek y;omega);show Sl h2 1 (D.z k).ma (bP s.nd d _ k).aU.length (D.z k).mc (ints (bP s.nd d _ k).aU) _
  by_cases hk:k=d
  ·subst hk;rw[dY,hm];exact S
  ·rw[cK _ _ hk];exact S
 all_goals
  rintro(y|y)
  ·exact e1 y
  ·omega
theorem NI(n:Nat)(P:Nat->Nat){b:Nat}(h:1<=n):Ae (n+1) (bP P n b)=Ae n P++[.pointer (some ⟨b,0,none⟩)]:=by
 unfold Ae;rw[List.range_succ,List.map_append];congr 1
 ·refine List.map_congr_left λk hk=>?_;have:=List.mem_range.mp hk;unfold NG;rw[cK _ _ (by omega)]
 ·show[NG _ n]=_;unfold NG;rw[if_neg (by omega),dY]
theorem HW(l:List Nat)(k:Nat):XH (l++[k])=XH l++[.int .i64 (k:Int)]:=by
 unfold XH;rw[List.map_append];exact List.map_append
structure uw(h:ab)(az:Nat->Nat)(s:Ts)(nb:Nat)(x:Nd):Prop where
 r:rd h nb=JT ⟨none,0,none,0⟩ x
 o:du h nb
 c:az nb=4*s.n+4
theorem UX(t:bY E h0 hx az s D){v:LV}{x:Nd}(hv:v=JT ⟨none,0,none,0⟩ x){h':ab}(n:oM hx h' v):bY (λc=>E c∨c=4*s.n+4) h0 h' (ext az hx.size h'.size (4*s.n+4)) s D/\uw h' (ext az hx.size h'.size (4*s.n+4)) s hx.size x:=
 ⟨t.step n.fr (λ_ _ y=>y.elim) λ_ _ _ y=>y,n.rd.trans hv,n.own,AB (Nat.le_refl _) (by have:=n.size;omega)⟩
theorem uw.step{x:Nd}{G:NP}(N:uw hx az s nb x)(f:Fr G hx h')(hG:∀ b,b<hx.size->G b->az b=c0)(hc:4*s.n+4≠c0):uw h' (ext az hx.size h'.size c0) s nb x:=by
 obtain⟨a,b,c⟩:=XG ⟨N.r,N.o,N.c⟩ f hG hc;exact⟨a,b,c⟩
theorem FZ{x y:Nd}(t:bY (λc=>E c∨c=4*s.n+4) h0 hx az s D)(N:uw hx az s nb x){i:Nat}{v:Value}(hi:i<7)(hv:(JT ⟨none,0,none,0⟩ x).set i v=JT ⟨none,0,none,0⟩ y){Q:HP}
  (hQ:∀h' bT,bY (λc=>E c∨c=4*s.n+4) h0 h' bT s D->uw h' bT s nb y->h'.size=hx.size->Q h'):bQ (Addr.add ⟨nb,0,none⟩ i) v hx Q:=by
 refine bQ.add N.o (by rw[N.r];show 0+i<7;omega) λh2 g=>?_;rw[N.r,Nat.zero_add,hv]at g;have hG:∀b,b<hx.size->b=nb->az b=4*s.n+4:=λb _ z=>by rw[z];exact N.c
 have T:=t.step (c0:=4*s.n+4) g.fr hG λz=>by omega
 exact hQ h2 _ (T.mono λc z=>by rcases z with(z|z)|z;exact .inl z;exact .inr z;exact .inr z) ⟨g.rd,g.own,(qB N.o.lt).trans N.c⟩ g.size
theorem listed{x:Nd}{s':Ts}{D':Dt}(t:bY (λc=>(c=4*s.n+4∨c=1∨c=2)∨c=3) h0 hx az s D)(N:uw hx az s nb x)(n1:1<=s.n)(en:s'.n=s.n+1)(end_:s'.nd=bP s.nd s.n x)(eP:D'.P=bP D.P s.n nb)(ez:D'.z=bP D.z s.n ⟨none,0,none,0⟩)(h5:x.names=[]/\x.aU=[])
  (S1:Sl hx 1 D'.pa (s.n+1) D'.pc (Ae s.n D.P++[.pointer (some ⟨nb,0,none⟩)]) (On az 1)) (S2:Sl hx 1 D'.da s'.bG.length D'.dc (XH s'.bG) (On az 2)) (S3:Sl hx 1 D'.oa s'.eS.length D'.oc (XH s'.eS) (On az 3)):bY (λ_=>False) h0 hx az s' D':=by
 refine⟨t.fr,t.lo,λk k1 k2 _=>?_,λk k1 k2 _=>?_,λk k1 k2 _=>?_,λ_=>?_,λ_=>S2,λ_=>S3⟩
 ·rw[eP,ez,end_]
  by_cases hk:k=s.n
  ·subst hk;rw[dY,dY,dY];exact⟨N.r,N.o,N.c⟩
  ·rw[cK _ _ hk,cK _ _ hk,cK _ _ hk];exact t.node k k1 (by omega) (by rintro((y|y|y)|y) <;> omega)
 ·rw[ez,end_]
  by_cases hk:k=s.n
  ·subst hk;rw[dY,dY,h5.1];exact Sl.nil _ _ _
  ·rw[cK _ _ hk,cK _ _ hk];exact t.names k k1 (by omega) (by rintro((y|y|y)|y) <;> omega)
 ·rw[ez,end_]
  by_cases hk:k=s.n
  ·subst hk;rw[dY,dY,h5.2];exact Sl.nil _ _ _
  ·rw[cK _ _ hk,cK _ _ hk];exact t.aU k k1 (by omega) (by rintro((y|y|y)|y) <;> omega)
 ·rw[en,eP,NI _ _ n1];exact S1
end
def QG(a0:OA)(l0 c0:Nat)(pa:OA)(nl pc nb:Nat)(be:Int)(aZ:ByteArray)(GX:ab)(Q:OA->Nat->Nat->OA->Nat->Nat->ab->Prop):Prop:=
 aC [.int .i64 (nl:Int)] 3 GX λY3=>
 ∃E5:LV,List.length E5=1*1/\ag Y3 (some ⟨GX.size,0,none⟩) E5/\(∀v∈E5,v.oneCell'=true)/\
 aw qP 3 a0 l0 c0 1 E5 Y3 λCM CN CO Y4=>
 aC [.pointer (some ⟨nb,0,none⟩)] 59 Y4 λUf=>
 ∃E6:LV,List.length E6=1*1/\ag Uf (some ⟨Y4.size,0,none⟩) E6/\(∀v∈E6,v.oneCell'=true)/\
 aw GS 59 pa nl pc 1 E6 Uf λyA yB GY E7=>
 ZN yA yB be aZ (nl:Int) E7 λh=>Q CM CN CO yA yB GY h
section
variable{h0 hx : ab}{az : Nat -> Nat}{s : Ts}{D : Dt}{d nb : Nat}{nm : Tm.ay}{x : Nd}
theorem tailD(t:bY (λc=>False∨c=4*s.n+4) h0 hx az s D)(N:uw hx az s nb x)(d1:1<=d)(d2:d<s.n)(hl:(s.nd d).names.length<=1000)(hlm:(s.nd d).names.length=(s.nd d).aU.length)(h5:x.names=[]/\x.aU=[])(hr:s.bG.length<=1000)(hn:s.n<=1000)
  {Q:OA->Nat->Nat->OA->Nat->Nat->ab->Prop} (hQ:∀h' bT D',bY (λ_=>False) h0 h' bT ⟨s.n+1,bP (bP s.nd s.n x) d (fJ (s.nd d) nm s.n),s.bG++[s.n],s.eS,s.left⟩ D'->D'.oa=D.oa->D'.oc=D.oc->Q D'.da (s.bG.length+1) D'.dc D'.pa (s.n+1) D'.pc h') :
  QG D.da s.bG.length D.dc D.pa s.n D.pc nb (d:Int) (mkStr nm) hx Q:=by
 refine aC.intro λY3 n41=>?_;have t41:=t.no n41.fr;have N41:=N.step n41.fr (c0:=0) (λ_ _ y=>y.elim) (by omega);obtain⟨o1,o2,o3⟩:=sD n41 rfl;refine⟨_,o1,o2,o3,aT (elem:=qP) (t41.bG (by rintro(y|y);exact y;omega)) rfl rfl (by show(s.bG.length+1)*8<=_;omega) (by omega) λa c Y4 f42 S42=>?_⟩;have t42:=t41.step (c0:=2) f42 (λ_ _ y=>y) (λy=>absurd y (by decide));have N42:=N41.step f42 (c0:=2) (λ_ _ y=>y) (by omega);have R42:=NH S42;rw[<-HW]at R42;refine aC.intro λUf n43=>?_;have t43:=t42.no n43.fr;have N43:=N42.step n43.fr (c0:=0) (λ_ _ y=>y.elim) (by omega);have R43:=qg R42 n43.fr (c0:=0) (λ_ _ y=>y.elim) (by decide);obtain⟨q1,q2,q3⟩:=sD n43 rfl;refine⟨_,q1,q2,q3,aT (elem:=GS) (t43.ptr (by rintro((y|y)|y);exact y;omega;omega)) rfl rfl (by show(s.n+1)*8<=_;omega) (by omega) λa' c' E7 f44 S44=>?_⟩;have t44:=t43.step (c0:=1) f44 (λ_ _ y=>y) (λy=>absurd y (by decide));have N44:=N43.step f44 (c0:=1) (λ_ _ y=>y) (by omega);have R44:=qg R43 f44 (c0:=1) (λ_ _ y=>y) (by decide);have P44:=NH S44;generalize ext _ Uf.size E7.size 1=col4 at t44 N44 R44 P44;have T:=listed (s':=⟨s.n+1,bP s.nd s.n x,s.bG++[s.n],s.eS,s.left⟩) (D':=⟨bP D.P s.n nb,bP D.z s.n ⟨none,0,none,0⟩,a',c',a,c,D.oa,D.oc⟩) (t44.mono λc y=>by rcases y with((y|y)|y)|y;exact y.elim;omega;omega;omega) N44 (by omega) rfl rfl rfl rfl h5 P44 (by show Sl E7 1 a (s.bG++[s.n]).length c _ _;rw[List.length_append];exact R44) (t44.eS (by rintro(((y|y)|y)|y);exact y;omega;omega;omega));have e:(bP s.nd s.n x) d=s.nd d:=cK _ _ (by omega);refine BX (s:=⟨s.n+1,bP s.nd s.n x,s.bG++[s.n],s.eS,s.left⟩) (D:=⟨bP D.P s.n nb,bP D.z s.n ⟨none,0,none,0⟩,a',c',a,c,D.oa,D.oc⟩) T (λy=>y) (λy=>y) (λy=>y) (λy=>y) d1 (by show d<s.n+1;omega) (by show((bP s.nd s.n x) d).names.length<=1000;rw[e];exact hl) (by show((bP s.nd s.n x) d).names.length=((bP s.nd s.n x) d).aU.length;rw[e];exact hlm) λh' bT z' T' _=>?_;have T':bY (λ_=>False) h0 h' bT ⟨s.n+1,bP (bP s.nd s.n x) d (fJ ((bP s.nd s.n x) d) nm s.n),s.bG++[s.n],s.eS,s.left⟩ _:=T';rw[e]at T';exact hQ h' bT _ T' rfl rfl
theorem ade(t:bY (λc=>False∨c=4*s.n+4) h0 hx az s D)(N:uw hx az s nb x)(d1:1<=d)(d2:d<s.n)(hl:(s.nd d).names.length<=1000)(hlm:(s.nd d).names.length=(s.nd d).aU.length)(h5:x.names=[]/\x.aU=[])(hr:s.eS.length<=1000)(hn:s.n<=1000)
  {Q:OA->Nat->Nat->OA->Nat->Nat->ab->Prop} (hQ:∀h' bT D',bY (λ_=>False) h0 h' bT ⟨s.n+1,bP (bP s.nd s.n x) d (fJ (s.nd d) nm s.n),s.bG,s.eS++[s.n],s.left⟩ D'->D'.da=D.da->D'.dc=D.dc->Q D'.oa (s.eS.length+1) D'.oc D'.pa (s.n+1) D'.pc h') :
  QG D.oa s.eS.length D.oc D.pa s.n D.pc nb (d:Int) (mkStr nm) hx Q:=by
 refine aC.intro λY3 n41=>?_;have t41:=t.no n41.fr;have N41:=N.step n41.fr (c0:=0) (λ_ _ y=>y.elim) (by omega);obtain⟨o1,o2,o3⟩:=sD n41 rfl;refine⟨_,o1,o2,o3,aT (elem:=qP) (t41.eS (by rintro(y|y);exact y;omega)) rfl rfl (by show(s.eS.length+1)*8<=_;omega) (by omega) λa c Y4 f42 S42=>?_⟩;have t42:=t41.step (c0:=3) f42 (λ_ _ y=>y) (λy=>absurd y (by decide));have N42:=N41.step f42 (c0:=3) (λ_ _ y=>y) (by omega);have R42:=NH S42;rw[<-HW]at R42;refine aC.intro λUf n43=>?_;have t43:=t42.no n43.fr;have N43:=N42.step n43.fr (c0:=0) (λ_ _ y=>y.elim) (by omega);have R43:=qg R42 n43.fr (c0:=0) (λ_ _ y=>y.elim) (by decide);obtain⟨q1,q2,q3⟩:=sD n43 rfl;refine⟨_,q1,q2,q3,aT (elem:=GS) (t43.ptr (by rintro((y|y)|y);exact y;omega;omega)) rfl rfl (by show(s.n+1)*8<=_;omega) (by omega) λa' c' E7 f44 S44=>?_⟩;have t44:=t43.step (c0:=1) f44 (λ_ _ y=>y) (λy=>absurd y (by decide));have N44:=N43.step f44 (c0:=1) (λ_ _ y=>y) (by omega);have R44:=qg R43 f44 (c0:=1) (λ_ _ y=>y) (by decide);have P44:=NH S44;generalize ext _ Uf.size E7.size 1=col4 at t44 N44 R44 P44;have T:=listed (s':=⟨s.n+1,bP s.nd s.n x,s.bG,s.eS++[s.n],s.left⟩) (D':=⟨bP D.P s.n nb,bP D.z s.n ⟨none,0,none,0⟩,a',c',D.da,D.dc,a,c⟩) (t44.mono λc y=>by rcases y with((y|y)|y)|y;exact y.elim;omega;omega;omega) N44 (by omega) rfl rfl rfl rfl h5 P44 (t44.bG (by rintro(((y|y)|y)|y);exact y;omega;omega;omega)) (by show Sl E7 1 a (s.eS++[s.n]).length c _ _;rw[List.length_append];exact R44);have e:(bP s.nd s.n x) d=s.nd d:=cK _ _ (by omega);refine BX (s:=⟨s.n+1,bP s.nd s.n x,s.bG,s.eS++[s.n],s.left⟩) (D:=⟨bP D.P s.n nb,bP D.z s.n ⟨none,0,none,0⟩,a',c',D.da,D.dc,a,c⟩) T (λy=>y) (λy=>y) (λy=>y) (λy=>y) d1 (by show d<s.n+1;omega) (by show((bP s.nd s.n x) d).names.length<=1000;rw[e];exact hl) (by show((bP s.nd s.n x) d).names.length=((bP s.nd s.n x) d).aU.length;rw[e];exact hlm) λh' bT z' T' _=>?_;have T':bY (λ_=>False) h0 h' bT ⟨s.n+1,bP (bP s.nd s.n x) d (fJ ((bP s.nd s.n x) d) nm s.n),s.bG,s.eS++[s.n],s.left⟩ _:=T';rw[e]at T';exact hQ h' bT _ T' rfl rfl
end
theorem sE(x:Int):IntKind.wrap .u64 x=x%18446744073709551616:=by
 unfold IntKind.wrap;exact if_neg λy=>absurd y (by rw[show IntKind.u64.signed=false from rfl,Bool.false_and];decide)
theorem UY(x:Int):IntKind.wrap .u64 (IntKind.wrap .i64 x)=x%18446744073709551616:=by
 rw[sE];unfold IntKind.wrap;show(if _ then x%18446744073709551616-18446744073709551616 else x%18446744073709551616)%18446744073709551616=_
 have e:(x%18446744073709551616-18446744073709551616)%18446744073709551616=x%18446744073709551616:=by
  rw[Int.sub_emod,Int.emod_self,Int.sub_zero,Int.emod_emod,Int.emod_emod]
 split
 ·exact e
 ·exact Int.emod_emod ..
theorem F1{x:Int}(h0:0<m)(h1:m<=1000000):IntKind.wrap .i64 (Int.tmod (x%18446744073709551616) (m:Int))=(jP x m:Int):=by
 have p:=Int.emod_nonneg x (show(18446744073709551616:Int)≠0 by decide);rw[Int.tmod_eq_emod_of_nonneg p];have a:=Int.emod_nonneg (x%18446744073709551616) (show(m:Int)≠0 by omega);have b:=Int.emod_lt_of_pos (x%18446744073709551616) (show(0:Int)<m by omega);rw[wrap_i64 (by omega) (by omega)];unfold jP;omega
theorem BZ(t:Th):IntKind.wrap .i64 (1+IntKind.wrap .i64 (Int.tmod (IntKind.wrap .u64 (IntKind.wrap .i64 (t.kind-1))) 4))=(bR t:Int):=by
 have:=va (x:=t.kind-1) (m:=4) (by decide);have e:=F1 (x:=t.kind-1) (m:=4) (by decide) (by decide);rw[UY];have e:IntKind.wrap .i64 (Int.tmod ((t.kind-1)%18446744073709551616) 4)=(jP (t.kind-1) 4:Int):=e;rw[e,wrap_i64 (by omega) (by omega)];unfold bR;omega
section
variable{h0 h4 h10 zm : ab}{az : Nat -> Nat}{s S : Ts}{D D0 : Dt}{s0 : Ts}{d i cnt pv : Nat}{nm : Tm.ay}{t : Th}{cG n4 : Int}{K : Value -> ab -> Prop}
theorem bY.le{E:NP}(t:bY E h0 hx az s D){l:Nat}:bY E h0 hx az ⟨s.n,s.nd,s.bG,s.eS,l⟩ D:=⟨t.fr,t.lo,t.node,t.names,t.aU,t.ptr,t.bG,t.eS⟩
theorem UZ{I1:Int->OA->Nat->Nat->OA->Nat->Nat->OA->Nat->Nat->Int->ab->Prop}{M1:Int->OA->Nat->Nat->OA->Nat->Nat->OA->Nat->Nat->Int->ab->Nat}
  (T:bY (λ_=>False) h0 zm az s D) (o:nv i s) (hi:i<=40) (d1:1<=d) (d2:d<s.n) (hc:cellOf zm (Addr.add ⟨h4.size,0,none⟩ 4)=some (.int .i64 (cnt:Int))) (XD:pv<=s.left) (ux:s.left<=100000) (ZP:0<=n4/\n4<=1000)
  (hS1:cnt<=s.n->S=s)
  (hS2:¬cnt<=s.n->S={ n:=s.n+1,nd:=bP (bP s.nd d (fJ (if bR t=2 then bO (s.nd d)else s.nd d) nm s.n)) s.n (jz t d (s.nd d)),bG:=if bR t=2 then s.bG++[s.n]else s.bG,eS:=if bR t=2 then s.eS else s.eS++[s.n],left:=s.left-pv })
  (H:∀h' bT D',bY (λ_=>False) h0 h' bT S D'->I1 (S.left:Int) D'.pa S.n D'.pc D'.da S.bG.length D'.dc D'.oa S.eS.length D'.oc (n4+1) h'/\M1 (S.left:Int) D'.pa S.n D'.pc D'.da S.bG.length D'.dc D'.oa S.eS.length D'.oc (n4+1) h'<M1 cG D0.pa s0.n D0.pc D0.da s0.bG.length D0.dc D0.oa s0.eS.length D0.oc n4 h10)
  (e0:D0.pa=D.pa/\D0.pc=D.pc/\D0.da=D.da/\D0.dc=D.dc/\D0.oa=D.oa/\D0.oc=D.oc/\s0.n=s.n/\s0.bG.length=s.bG.length/\s0.eS.length=s.eS.length) :
  ak.k6 h4 cG D.pa s.n D.pc D.da s.bG.length D.dc D.oa s.eS.length D.oc n4 h10 I1 M1 (d:Int) (mkStr nm) t.kind (mkStr (iD t)) (pv:Int) (s.left:Int) zm K:=by
 obtain⟨q1,q2,q3,q4,q5,q6,q7,q8,q9⟩:=e0;rw[q1,q2,q3,q4,q5,q6,q7,q8,q9]at H;clear q1 q2 q3 q4 q5 q6 q7 q8 q9;have nn:=o.nn;have dl:=o.dl;have ol:=o.ol;have ln:=o.len d;have Nw:=o.Nw d;have lk:=o.HM d;refine⟨_,hc,?_⟩;rw[wrap_i64 (show -9223372036854775808<=n4+1 by omega) (by omega)];refine cd (λvF=>?_) λvF=>?_
 ·have e:=hS1 (by omega);subst e;exact H zm az D T
 have e:=hS2 (by omega);rw[BZ,wrap_i64 (show -9223372036854775808<=(s.left:Int)-(pv:Int) by omega) (by omega),show(s.left:Int)-(pv:Int)=((s.left-pv:Nat):Int) by omega];obtain⟨pA,ep,cp⟩:=T.at_ (λy=>y) d1 d2;have nr:=T.node d d1 d2 λy=>y
 have H':∀h' bT D' nd',nd'=bP (bP s.nd d (fJ (if bR t=2 then bO (s.nd d)else s.nd d) nm s.n)) s.n (jz t d (s.nd d))->bY (λ_=>False) h0 h' bT ⟨s.n+1,nd',if bR t=2 then s.bG++[s.n]else s.bG,if bR t=2 then s.eS else s.eS++[s.n],s.left⟩ D'->bY (λ_=>False) h0 h' bT S D':=λh' bT D' nd' en T'=>by
  subst en;rw[e];exact T'.le
 rw[ep];refine⟨⟨by omega,by omega⟩,os ⟨_,by rw[Int.toNat_natCast];exact cp,os ⟨_,bW nr.1 rfl,?_⟩⟩⟩;rw[wrap_i64 (show -9223372036854775808<=(s.nd d).depth+1 by omega) (by omega)];refine aC.intro λh37 n37=>?_;obtain⟨T37,N37⟩:=UX T (x:=⟨(bR t:Int),(s.nd d).depth+1,1,[],[],[],0⟩) rfl n37;have z37:=n37.size;generalize ext az zm.size h37.size (4*s.n+4)=col37 at T37 N37;have dn:d≠s.n:=by omega
 refine ce (λk2=>?_) λk2=>?_
 ·have k2:bR t=2:=by omega
  refine FZ T37 N37 (i:=2) (y:=⟨(bR t:Int),(s.nd d).depth+1,2,[],[],[],0⟩) (by decide) rfl λUe D6 ZQ ZR z38=>?_;refine FZ ZQ ZR (i:=6) (y:=⟨(bR t:Int),(s.nd d).depth+1,2,[],[],[],(d:Int)⟩) (by decide) rfl λh39 col39 T39 ZS z39=>?_;have c39:=T39.c1 (d:=d) (by rintro(y|y);exact y;omega) ep d1 d2;have adf:=T39.node d d1 d2 (by rintro(y|y);exact y;omega);refine⟨⟨by omega,by omega⟩,os ⟨_,by rw[Int.toNat_natCast];exact c39,os ⟨_,bW adf.1 rfl,os ?_⟩⟩⟩;rw[wrap_i64 (show -9223372036854775808<=(s.nd d).dT+1 by omega) (by omega)];refine LQ T39 d1 d2 (by rintro(y|y);exact y;omega) (i:=2) (x:=bO (s.nd d)) (by decide) rfl rfl rfl λGX adg T40 f40 adh z40=>?_
  have nb:zm.size≠D.P d:=λy=>by
   have a:=ZS.c;rw[y,adf.2.2]at a;omega
  have N40:uw GX adg { s with nd:=bP s.nd d (bO (s.nd d)) } zm.size ⟨(bR t:Int),(s.nd d).depth+1,2,[],[],[],(d:Int)⟩:=⟨(f40.rd ZS.o.lt nb).trans ZS.r,f40.own ZS.o.lt nb ZS.o,(adh _ ZS.o.lt).trans ZS.c⟩;have ed:(bP s.nd d (bO (s.nd d))) d=bO (s.nd d):=dY _ _ _;rw[<-ep];refine tailD (s:={ s with nd:=bP s.nd d (bO (s.nd d)) }) (d:=d) (nm:=nm) T40 N40 d1 d2 (by show((bP s.nd d (bO (s.nd d))) d).names.length<=1000;rw[ed];show(s.nd d).names.length<=1000;omega) (by show((bP s.nd d (bO (s.nd d))) d).names.length=((bP s.nd d (bO (s.nd d))) d).aU.length;rw[ed];exact ln.1) ⟨rfl,rfl⟩ (by show s.bG.length<=1000;omega) (by show s.n<=1000;omega) λh' bT D' T' eo eoc=>?_
  have TS:bY (λ_=>False) h0 h' bT S D':=H' h' bT D' (bP (bP (bP s.nd d (bO (s.nd d))) s.n ⟨(bR t:Int),(s.nd d).depth+1,2,[],[],[],(d:Int)⟩) d (fJ ((bP s.nd d (bO (s.nd d))) d) nm s.n)) (by
   funext k;rw[k2,if_pos rfl];show bP (bP (bP s.nd d (bO (s.nd d))) s.n _) d (fJ ((bP s.nd d (bO (s.nd d))) d) nm s.n) k=bP (bP s.nd d _) s.n _ k
   by_cases hk:k=d
   ·subst hk;rw[dY,cK _ _ dn,dY,dY]
   ·rw[cK _ _ hk]
    by_cases hn:k=s.n
    ·subst hn;rw[dY,dY];unfold jz;rw[if_pos k2];rfl
    ·rw[cK _ _ hn,cK _ _ hk,cK _ _ hn,cK _ _ hk]) (by rw[if_pos k2,if_pos k2];exact T')
  have:=H h' bT D' TS;rw[e]at this;simp only[k2,if_true,List.length_append,List.length_cons,List.length_nil]at this;rw[eo,eoc]at this;exact this
 ·have k2:bR t≠2:=by omega
  rw[<-ep]
  have last:∀{Ue:ab} {D6:Nat->Nat} {x:Nd},bY (λc=>False∨c=4*s.n+4) h0 Ue D6 s D->uw Ue D6 s zm.size x->x=jz t d (s.nd d)->
    QG D.oa s.eS.length D.oc D.pa s.n D.pc zm.size (d:Int) (mkStr nm) Ue λa l c pa n pc h=>I1 ((s.left-pv:Nat):Int) pa n pc D.da s.bG.length D.dc a l c (n4+1) h/\M1 ((s.left-pv:Nat):Int) pa n pc D.da s.bG.length D.dc a l c (n4+1) h<M1 cG D.pa s.n D.pc D.da s.bG.length D.dc D.oa s.eS.length D.oc n4 h10:=fun {Ue D6 x} ZQ ZR ex=>by
   have hx:x.names=[]/\x.aU=[]:=by
    rw[ex];unfold jz;split
    ·exact⟨rfl,rfl⟩
    ·split <;> exact⟨rfl,rfl⟩
   refine ade (s:=s) (d:=d) (nm:=nm) ZQ ZR d1 d2 (by omega) ln.1 hx (by omega) (by omega) λh' bT D' T' eo eoc=>?_
   have TS:bY (λ_=>False) h0 h' bT S D':=H' h' bT D' (bP (bP s.nd s.n x) d (fJ (s.nd d) nm s.n)) (by
    funext k;rw[if_neg k2]
    by_cases hk:k=d
    ·subst hk;rw[dY,cK _ _ dn,dY]
    ·rw[cK _ _ hk]
     by_cases hn:k=s.n
     ·subst hn;rw[dY,dY,ex]
     ·rw[cK _ _ hn,cK _ _ hn,cK _ _ hk]) (by rw[if_neg k2,if_neg k2];exact T')
   have:=H h' bT D' TS;rw[e]at this;simp only[if_neg k2,List.length_append,List.length_cons,List.length_nil]at this;rw[eo,eoc]at this;exact this
  refine ce (λk3=>?_) λk3=>?_
  ·have k3:bR t=3:=(by omega);refine FZ T37 N37 (i:=3) (y:=⟨(bR t:Int),(s.nd d).depth+1,1,iD t,[],[],0⟩) (by decide) rfl λUe D6 ZQ ZR z38=>?_;exact last ZQ ZR (by unfold jz;rw[if_neg k2,if_pos k3,k3];rfl)
  ·have k3:bR t≠3:=(by omega);refine FZ T37 N37 (i:=0) (y:=⟨1,(s.nd d).depth+1,1,[],[],[],0⟩) (by decide) rfl λUe D6 ZQ ZR z38=>?_;exact last ZQ ZR (by unfold jz;rw[if_neg k2,if_neg k3])
end
section
variable{h0 h4 h10 eM : ab}{az : Nat -> Nat}{s S : Ts}{D : Dt}{d i cnt pv : Nat}{nm : Tm.ay}{t : Th}{n4 : Int}{K : Value -> ab -> Prop}
theorem QH{l:List Nat}(c:ag h a (XH l)){j:Nat}(hj:j<l.length):∃p,a=some p/\cellOf h (Addr.add p j)=some (.int .i64 ((l.getD j 0:Nat):Int)):=by
 have Gh:j<(l.map λk:Nat=>(k:Int)).length:=by rw[List.length_map];exact hj
 obtain⟨p,ep,cp⟩:=rI (xs:=l.map λk:Nat=>(k:Int)) c Gh;refine⟨p,ep,?_⟩;rw[cp,List.getElem_map,List.getD_eq_getElem?_getD,List.getElem?_eq_getElem hj];rfl
theorem LR{I1:Int->OA->Nat->Nat->OA->Nat->Nat->OA->Nat->Nat->Int->ab->Prop}{M1:Int->OA->Nat->Nat->OA->Nat->Nat->OA->Nat->Nat->Int->ab->Nat}
  (T:bY (λ_=>False) h0 eM az s D) (o:nv i s) (hi:i<=40) (d1:1<=d) (d2:d<s.n) (dk:(s.nd d).kind=2) (hc:cellOf eM (Addr.add ⟨h4.size,0,none⟩ 4)=some (.int .i64 (cnt:Int))) (rt:rd eM h10.size=FR t) (XD:pv<=1000) (ux:s.left<=100000) (ZP:0<=n4/\n4<=1000)
  (hS:S=if s.left<pv then s else if bR t=4/\s.eS≠[]then
   { s with nd:=bP (bP s.nd (s.eS.getD (jP t.same s.eS.length) 0) (bO (s.nd (s.eS.getD (jP t.same s.eS.length) 0)))) d (fJ (s.nd d) nm (s.eS.getD (jP t.same s.eS.length) 0)),left:=s.left-pv }
   else if cnt<=s.n then s else { n:=s.n+1,nd:=bP (bP s.nd d (fJ (if bR t=2 then bO (s.nd d)else s.nd d) nm s.n)) s.n (jz t d (s.nd d)),bG:=if bR t=2 then s.bG++[s.n]else s.bG,eS:=if bR t=2 then s.eS else s.eS++[s.n],left:=s.left-pv })
  (H:∀h' bT D',bY (λ_=>False) h0 h' bT S D'->I1 (S.left:Int) D'.pa S.n D'.pc D'.da S.bG.length D'.dc D'.oa S.eS.length D'.oc (n4+1) h'/\M1 (S.left:Int) D'.pa S.n D'.pc D'.da S.bG.length D'.dc D'.oa S.eS.length D'.oc (n4+1) h'<M1 (s.left:Int) D.pa s.n D.pc D.da s.bG.length D.dc D.oa s.eS.length D.oc n4 h10) :
  ak.k5 h4 (s.left:Int) D.pa s.n D.pc D.da s.bG.length D.dc D.oa s.eS.length D.oc n4 h10 I1 M1 (d:Int) (mkStr nm) t.kind eM (mkStr (iD t)) (pv:Int) K:=by
 have nn:=o.nn;have ol:=o.ol;refine cd (λRF=>?_) λRF=>?_
 ·rw[if_pos (by omega)]at hS;subst hS;rw[wrap_i64 (show -9223372036854775808<=n4+1 by omega) (by omega)];exact H eM az D T
 rw[if_neg (by omega)]at hS
 have ZO:¬(bR t=4/\s.eS≠[])->ak.k6 h4 (s.left:Int) D.pa s.n D.pc D.da s.bG.length D.dc D.oa s.eS.length D.oc n4 h10 I1 M1 (d:Int) (mkStr nm) t.kind (mkStr (iD t)) (pv:Int) (s.left:Int) eM K:=λhn=>by
  rw[if_neg hn]at hS;exact UZ (D0:=D) (s0:=s) T o hi d1 d2 hc (by omega) ux ZP (λh=>hS.trans (if_pos h)) (λh=>hS.trans (if_neg h)) H ⟨rfl,rfl,rfl,rfl,rfl,rfl,rfl,rfl,rfl⟩
 have ke:=BZ t;refine cs (λk4=>cd (λhp=>?_) λhp=>ZO λy=>?_) λk4=>ZO λy=>?_
 ·have k4:bR t=4:=by
   rw[ke]at k4;have:=eq_of_beq k4;omega
  have ho:s.eS≠[]:=λy=>by rw[y]at hp;exact absurd hp (by decide)
  rw[if_pos ⟨k4,ho⟩]at hS;have hq:=xU o t.same ho;have hm:=va (x:=t.same) (List.length_pos_iff.mpr ho);obtain⟨p,epo,cpo⟩:=QH (T.eS λy=>y).cells hm;generalize s.eS.getD (jP t.same s.eS.length) 0=q at hq cpo hS;obtain⟨pA,ep,cq⟩:=T.at_ (λy=>y) hq.1 hq.2.1;have nq:=T.node q hq.1 hq.2.1 λy=>y;have dq:d≠q:=λy=>hq.2.2 (y▸dk);have lk:=o.HM q;have ln:=o.len d;refine⟨_,bW rt rfl,?_⟩;have u1:IntKind.wrap .u64 (s.eS.length:Int)=(s.eS.length:Int):=by rw[sE];omega
  rw[u1,if_neg (by omega),sE,F1 (List.length_pos_iff.mpr ho) (by omega),epo,ep,Int.toNat_natCast];refine⟨⟨by omega,by omega⟩,os ⟨_,cpo,⟨by omega,by omega⟩,os ⟨_,by rw[Int.toNat_natCast];exact cq,os ⟨_,bW nq.1 rfl,os ?_⟩⟩⟩⟩;rw[wrap_i64 (show -9223372036854775808<=(s.nd q).dT+1 by omega) (by omega)];refine LQ T hq.1 hq.2.1 (λy=>y) (i:=2) (x:=bO (s.nd q)) (by decide) rfl rfl rfl λh18 col18 T18 f18 old18 Xt=>?_;have e:(bP s.nd q (bO (s.nd q))) d=s.nd d:=cK _ _ dq;rw[<-ep,<-epo,wrap_i64 (show -9223372036854775808<=(s.left:Int)-(pv:Int) by omega) (by omega),wrap_i64 (show -9223372036854775808<=n4+1 by omega) (by omega)];refine BX (s:={ s with nd:=bP s.nd q (bO (s.nd q)) }) (d:=d) (nm:=nm) (m:=q) T18 (λy=>y) (λy=>y) (λy=>y) (λy=>y) d1 d2 (by show((bP s.nd q (bO (s.nd q))) d).names.length<=1000;rw[e];omega) (by show((bP s.nd q (bO (s.nd q))) d).names.length=((bP s.nd q (bO (s.nd q))) d).aU.length;rw[e];exact ln.1) λh' bT z' T' _=>?_;have T':bY (λ_=>False) h0 h' bT ⟨s.n,bP (bP s.nd q (bO (s.nd q))) d (fJ ((bP s.nd q (bO (s.nd q))) d) nm q),s.bG,s.eS,s.left⟩ _:=T';rw[e]at T';have T2:=T'.le (l:=s.left-pv);have:=H h' bT _ (hS▸T2);rw[hS]at this;rw[show(s.left:Int)-(pv:Int)=((s.left-pv:Nat):Int) by omega];exact this
 ·have:=y.2;exact this (List.length_eq_zero_iff.mp (by omega))
 ·rw[ke,y.1]at k4;exact absurd k4 (by decide)
end
end Tr
namespace Tr
open Hp W Ad Tm Re Ss
open Hd (ints)
open In (ah av)
open Sk (bf)
theorem HX(t:Th):1<=(iD t).length/\(iD t).length<=1024:=by
 unfold iD
 split
 ·rename_i h;unfold vN at h;simp only[Bool.and_eq_true,decide_eq_true_eq]at h;exact⟨h.1.1.2,h.1.2⟩
 ·exact⟨by decide,by decide⟩
section
variable{h0 h4 h10 eM : ab}{az : Nat -> Nat}{s S : Ts}{D : Dt}{d i cnt : Nat}{nm : Tm.ay}{t : Th}{n4 : Int}{K : Value -> ab -> Prop}
def Goal(S:Ts)(s:Ts)(D:Dt)(h0 h10:ab)(n4:Int)(I1:Int->OA->Nat->Nat->OA->Nat->Nat->OA->Nat->Nat->Int->ab->Prop)(M1:Int->OA->Nat->Nat->OA->Nat->Nat->OA->Nat->Nat->Int->ab->Nat):Prop:=
 ∀h' bT D',bY (λ_=>False) h0 h' bT S D'->I1 (S.left:Int) D'.pa S.n D'.pc D'.da S.bG.length D'.dc D'.oa S.eS.length D'.oc (n4+1) h'/\M1 (S.left:Int) D'.pa S.n D'.pc D'.da S.bG.length D'.dc D'.oa S.eS.length D'.oc (n4+1) h'<M1 (s.left:Int) D.pa s.n D.pc D.da s.bG.length D.dc D.oa s.eS.length D.oc n4 h10
theorem LS{I1:Int->OA->Nat->Nat->OA->Nat->Nat->OA->Nat->Nat->Int->ab->Prop}{M1:Int->OA->Nat->Nat->OA->Nat->Nat->OA->Nat->Nat->Int->ab->Nat}
  (T:bY (λ_=>False) h0 eM az s D) (o:nv i s) (hi:i<=40) (d1:1<=d) (d2:d<s.n) (dk:(s.nd d).kind=2) (hc:cellOf eM (Addr.add ⟨h4.size,0,none⟩ 4)=some (.int .i64 (cnt:Int))) (rt:rd eM h10.size=FR t) (ux:s.left<=100000) (ZP:0<=n4/\n4<=1000)
  (hS:S=if s.left<qe t (s.nd d)then s else if bR t=4/\s.eS≠[]then
   { s with nd:=bP (bP s.nd (s.eS.getD (jP t.same s.eS.length) 0) (bO (s.nd (s.eS.getD (jP t.same s.eS.length) 0)))) d (fJ (s.nd d) nm (s.eS.getD (jP t.same s.eS.length) 0)),left:=s.left-qe t (s.nd d) }
   else if cnt<=s.n then s else { n:=s.n+1,nd:=bP (bP s.nd d (fJ (if bR t=2 then bO (s.nd d)else s.nd d) nm s.n)) s.n (jz t d (s.nd d)),bG:=if bR t=2 then s.bG++[s.n]else s.bG,eS:=if bR t=2 then s.eS else s.eS++[s.n],left:=s.left-qe t (s.nd d) })
  (H:Goal S s D h0 h10 n4 I1 M1) :
  ak.k3 h4 (s.left:Int) D.pa s.n D.pc D.da s.bG.length D.dc D.oa s.eS.length D.oc n4 h10 I1 M1 (d:Int) (mkStr nm) t.kind eM (mkStr (iD t)) K:=by
 have ln:=o.len d;have sl:=HX t;have iH:(mkStr (iD t)).size=(iD t).length:=rfl;obtain⟨pA,ep,cp⟩:=T.at_ (λy=>y) d1 d2;have nd_:=T.node d d1 d2 λy=>y
 have four:∀a:Nat,a<=1->qe t (s.nd d)=a+(if bR t=3 then((iD t).length+511)/512 else 0)->ak.k4 h4 (s.left:Int) D.pa s.n D.pc D.da s.bG.length D.dc D.oa s.eS.length D.oc n4 h10 I1 M1 (d:Int) (mkStr nm) t.kind eM (mkStr (iD t)) (a:Int) K:=λa ha en=>by
  unfold ak.k4;rw[BZ,iH];refine ce (λk3=>?_) λk3=>?_
  ·rw[if_pos (by omega)]at en;have e1:Int.tdiv ((iD t).length+511:Int) 512=((((iD t).length+511)/512:Nat):Int):=rfl
   rw[wrap_i64 (show -9223372036854775808<=((iD t).length:Int)+511 by omega) (by omega),e1,wrap_i64 (show -9223372036854775808<=((((iD t).length+511)/512:Nat):Int) by omega) (by omega),wrap_i64 (show -9223372036854775808<=(a:Int)+((((iD t).length+511)/512:Nat):Int) by omega) (by omega),
    show(a:Int)+((((iD t).length+511)/512:Nat):Int)=((qe t (s.nd d):Nat):Int) by omega]
   exact LR T o hi d1 d2 dk hc rt (by omega) ux ZP hS H
  ·rw[if_neg (by omega)]at en;rw[show(a:Int)=((qe t (s.nd d):Nat):Int) by omega];exact LR T o hi d1 d2 dk hc rt (by omega) ux ZP hS H
 refine⟨⟨by omega,by omega⟩,?_⟩;have e16:Int.tmod ((s.nd d).names.length:Int) 16=(((s.nd d).names.length%16:Nat):Int):=rfl
 have go:bif Int.tmod ((s.nd d).names.length:Int) 16==0 then ak.k4 h4 (s.left:Int) D.pa s.n D.pc D.da s.bG.length D.dc D.oa s.eS.length D.oc n4 h10 I1 M1 (d:Int) (mkStr nm) t.kind eM (mkStr (iD t)) (IntKind.wrap .i64 (0+1)) K else
   ak.k4 h4 (s.left:Int) D.pa s.n D.pc D.da s.bG.length D.dc D.oa s.eS.length D.oc n4 h10 I1 M1 (d:Int) (mkStr nm) t.kind eM (mkStr (iD t)) 0 K:=by
  rw[e16];refine ce (λz=>?_) λz=>?_
  ·exact four 1 (by decide) (by unfold qe;rw[if_pos (by omega)])
  ·exact four 0 (by decide) (by unfold qe;rw[if_neg (by omega)])
 have c4:cellOf eM (Addr.add ⟨D.P d,0,none⟩ 4)=some (.slice (D.z d).na (s.nd d).names.length (D.z d).nc):=bW nd_.1 rfl
 have fin:ae (some pA) λp6=>∃(q3:OA),cellOf eM (Addr.add p6 (Int.toNat (d:Int)))=some (.pointer q3)/\ae q3 λp7=>∃(fQ:OA) (fj:Nat) (gT:Nat),cellOf eM (Addr.add p7 4)=some (.slice fQ fj gT)/\
   bif Int.tmod (fj:Int) 16==0 then ak.k4 h4 (s.left:Int) D.pa s.n D.pc D.da s.bG.length D.dc D.oa s.eS.length D.oc n4 h10 I1 M1 (d:Int) (mkStr nm) t.kind eM (mkStr (iD t)) (IntKind.wrap .i64 (0+1)) K else
   ak.k4 h4 (s.left:Int) D.pa s.n D.pc D.da s.bG.length D.dc D.oa s.eS.length D.oc n4 h10 I1 M1 (d:Int) (mkStr nm) t.kind eM (mkStr (iD t)) 0 K:=
  os ⟨_,by rw[Int.toNat_natCast];exact cp,os ⟨_,_,_,c4,go⟩⟩
 rw[<-ep]at fin;exact fin
end
end Tr
namespace Tr
open Hp Ad Tm
def vv(x:Nd):Prop:=0<=x.kind/\x.kind<=3/\(x.kind=3->1<=x.text.length/\x.text.length<=1024)
theorem ZT(t:Th)(d:Nat)(x:Nd):vv (jz t d x):=by
 unfold jz
 split
 ·exact⟨by show(0:Int)<=2;decide,by show(2:Int)<=3;decide,λy=>absurd (show(2:Int)=3 from y) (by decide)⟩
 ·split
  ·exact⟨by show(0:Int)<=3;decide,by show(3:Int)<=3;decide,λ_=>HX t⟩
  ·exact⟨by show(0:Int)<=1;decide,by show(1:Int)<=3;decide,λy=>absurd (show(1:Int)=3 from y) (by decide)⟩
theorem U0{t:Th}{s:Ts}(h:∀ k,vv (s.nd k)):∀k,vv ((stepT cnt i t s).nd k):=by
 have ad:∀{y:Nd} {nm:Tm.ay} {m:Nat},vv y->vv (fJ y nm m):=λh=>h;have lk:∀{y:Nd},vv y->vv (bO y):=λh=>h
 have up:∀{f:Nat->Nd} {d:Nat} {y:Nd},(∀k,vv (f k))->vv y->∀k,vv (bP f d y k):=fun {f d y} hf hy k=>by
  by_cases e:k=d
  ·subst e;rw[dY];exact hy
  ·rw[cK _ _ e];exact hf k
 unfold stepT
 split
 ·exact h
 ·split
  ·exact h
  ·split
   ·exact up (up h (lk (h _))) (ad (h _))
   ·split
    ·exact h
    ·refine up (up h (ad ?_)) (ZT _ _ _)
     split
     ·exact lk (h _)
     ·exact h _
theorem D7{cnt:Nat}:∀(l:List Th) (i:Nat) (s:Ts),(∀k,vv (s.nd k))->∀k,vv ((gJ cnt i l s).nd k)
 | [],_,_,h=>h
 | t::r,i,s,h=>by
  show ∀k,vv ((if 40<=i then s else gJ cnt (i+1) r (stepT cnt i t s)).nd k)
  split
  ·exact h
  ·exact D7 r (i+1) _ (U0 h)
theorem U1(n:Nat)(l:List Th):∀k,vv ((iq n l).nd k):=D7 l 0 _ λk=>by
 show vv (bP (λ_=>C6) 1 kE k)
 by_cases e:k=1
 ·subst e;rw[dY];exact⟨by decide,by decide,λy=>absurd y (by decide)⟩
 ·rw[cK _ _ e];exact⟨by decide,by decide,λy=>absurd y (by decide)⟩
end Tr
namespace Tr
open Hp W Ad Tm Re Ss
open Hd (ints)
open In (ah av)
open Sk (bf)
section
variable{h0 h4 h10 bb fg : ab}{az : Nat -> Nat}{s S : Ts}{D : Dt}{d i N : Nat}{t : Th}{K : Value -> ab -> Prop}
theorem LU{I1:Int->OA->Nat->Nat->OA->Nat->Nat->OA->Nat->Nat->Int->ab->Prop}{M1:Int->OA->Nat->Nat->OA->Nat->Nat->OA->Nat->Nat->Int->ab->Nat}
  (T:bY (λ_=>False) h0 fg az s D) (o:nv i s) (hi:i<=40) (hd:d=sX t s) (rg:rd h0 h4.size=(Spc.af N).v) (lg:h4.size<h0.size) (rt:rd fg h10.size=FR t) (Qm:h10.size<fg.size) (ux:s.left<=100000) (htx:t.text.length<=1000000000)
  (hS:S=stepT (Spc.af N).count i t s) (H:Goal S s D h0 h10 i I1 M1) :
  ak.k2 h4 (s.left:Int) D.pa s.n D.pc D.da s.bG.length D.dc D.oa s.eS.length D.oc (i:Int) h10 I1 M1 (d:Int) (mkStr (oQ i t (s.nd d))) fg K:=by
 obtain⟨d1,d2,dk⟩:=yS o t;unfold stepT at hS;rw[<-hd]at d1 d2 dk hS;have ln:=o.len d;obtain⟨pA,ep,cp⟩:=T.at_ (λy=>y) d1 d2;have nd_:=T.nd d1 d2 ⟨λy=>y,λy=>y,λy=>y⟩ ln.1;have z0:=T.fr.size;refine⟨⟨by omega,by omega⟩,?_⟩
 have fin:C.cY (some ⟨D.P d,0,none⟩) (mkStr (oQ i t (s.nd d))) fg λr5 iS=>∃(n8:Int),r5 = .int .i64 n8/\bif(n8 != 0)then(I1 (s.left:Int) D.pa s.n D.pc D.da s.bG.length D.dc D.oa s.eS.length D.oc (IntKind.wrap .i64 ((i:Int)+1)) iS/\M1 (s.left:Int) D.pa s.n D.pc D.da s.bG.length D.dc D.oa s.eS.length D.oc (IntKind.wrap .i64 ((i:Int)+1)) iS<M1 (s.left:Int) D.pa s.n D.pc D.da s.bG.length D.dc D.oa s.eS.length D.oc (i:Int) h10)else(
   ∃(n9:Int),cellOf iS (Addr.add ⟨h10.size,0,none⟩ 1)=some (.int .i64 n9)/\∃(s4:ByteArray),cellOf iS (Addr.add ⟨h10.size,0,none⟩ 4)=some (.string s4)/\C.gP s4 iS λr6 eM=>∃(b2:Bool),r6 = .bool b2/\
    bif(!b2)then(ak.k3 h4 (s.left:Int) D.pa s.n D.pc D.da s.bG.length D.dc D.oa s.eS.length D.oc (i:Int) h10 I1 M1 (d:Int) (mkStr (oQ i t (s.nd d))) n9 eM (mkStr [120]) K)else(
    ak.k3 h4 (s.left:Int) D.pa s.n D.pc D.da s.bG.length D.dc D.oa s.eS.length D.oc (i:Int) h10 I1 M1 (d:Int) (mkStr (oQ i t (s.nd d))) n9 eM s4 K)):=by
  refine xA nd_ (by omega) ⟨_,rfl,cn (λfB=>?_) λhe=>?_⟩
  ·rw[if_pos fB]at hS;subst hS;rw[wrap_i64 (show -9223372036854775808<=(i:Int)+1 by omega) (by omega)];exact H fg az D T
  rw[if_neg (λy=>y he)]at hS;refine⟨_,bW rt rfl,_,bW rt rfl,Nu htx λeM f17=>⟨_,rfl,?_⟩⟩;have T17:=T.no f17;have z17:=f17.size;have adj:=(f17.rd Qm λy=>y).trans rt;have adk:cellOf eM (Addr.add ⟨h4.size,0,none⟩ 4)=some (.int .i64 ((Spc.af N).count:Int)):=bW ((T17.fr.rd lg λy=>y).trans rg) rfl;refine jj (cs (λhb=>?_) λhb=>?_)
  ·have e:iD t=t.text:=(by unfold iD;rw[if_pos hb]);rw[<-e];exact LS T17 o hi d1 d2 dk adk adj ux ⟨by omega,by omega⟩ hS H
  ·have e:iD t=[120]:=(by unfold iD;rw[if_neg (by rw[hb];simp)]);rw[<-e];exact LS T17 o hi d1 d2 dk adk adj ux ⟨by omega,by omega⟩ hS H
 rw[ep,Int.toNat_natCast]at *;exact os ⟨_,cp,fin⟩
end
section
variable{h0 h4 h10 bb fg : ab}{az : Nat -> Nat}{s S : Ts}{D : Dt}{d i N : Nat}{t : Th}{K : Value -> ab -> Prop}
theorem U2{I1:Int->OA->Nat->Nat->OA->Nat->Nat->OA->Nat->Nat->Int->ab->Prop}{M1:Int->OA->Nat->Nat->OA->Nat->Nat->OA->Nat->Nat->Int->ab->Nat}
  (T:bY (λ_=>False) h0 bb az s D) (o:nv i s) (hi:i<=40) (hd:d=sX t s) (rg:rd h0 h4.size=(Spc.af N).v) (lg:h4.size<h0.size) (rt:rd bb h10.size=FR t) (Qm:h10.size<bb.size) (ux:s.left<=100000) (htx:t.text.length<=1000000000) (wP:t.name.length<=1000000000)
  (hS:S=stepT (Spc.af N).count i t s) (H:Goal S s D h0 h10 i I1 M1) :
  ak.k1 h4 (s.left:Int) D.pa s.n D.pc D.da s.bG.length D.dc D.oa s.eS.length D.oc (i:Int) h10 I1 M1 bb (d:Int) K:=by
 obtain⟨d1,d2,dk⟩:=yS o t;rw[<-hd]at d1 d2 dk;have ln:=o.len d;obtain⟨pA,ep,cp⟩:=T.at_ (λy=>y) d1 d2;have nd_:=T.nd d1 d2 ⟨λy=>y,λy=>y,λy=>y⟩ ln.1
 have adl:¬(bf t.name=true/\kf (s.nd d).names (s.nd d).aU t.name=0)->C.cR (i:Int) bb λr4 gh=>∃(s3:ByteArray),r4 = .string s3/\ak.k2 h4 (s.left:Int) D.pa s.n D.pc D.da s.bG.length D.dc D.oa s.eS.length D.oc (i:Int) h10 I1 M1 (d:Int) s3 gh K:=λhn=>by
  refine FQ (by omega) λgh f14=>⟨_,rfl,?_⟩;have e:ltr i=oQ i t (s.nd d):=by unfold oQ;rw[if_neg hn]
  rw[e];have LI:=f14.size;exact LU (T.no f14) o hi hd rg lg ((f14.rd Qm λy=>y).trans rt) (by omega) ux htx hS H
 refine⟨_,bW rt rfl,Bf (by omega) ⟨_,rfl,jj (cs (λhb=>?_) λhb=>adl λy=>by rw[hb]at y;cases y.1)⟩⟩;refine⟨⟨by omega,by omega⟩,?_⟩
 have fin:C.cY (some ⟨D.P d,0,none⟩) (mkStr t.name) bb λr7 PA=>∃(n16:Int),r7 = .int .i64 n16/\bif(n16 != 0)then(
   C.cR (i:Int) PA λr8 Za=>∃(s5:ByteArray),r8 = .string s5/\ak.k2 h4 (s.left:Int) D.pa s.n D.pc D.da s.bG.length D.dc D.oa s.eS.length D.oc (i:Int) h10 I1 M1 (d:Int) s5 Za K)else(
   ak.k2 h4 (s.left:Int) D.pa s.n D.pc D.da s.bG.length D.dc D.oa s.eS.length D.oc (i:Int) h10 I1 M1 (d:Int) (mkStr t.name) PA K):=by
  refine xA nd_ (by omega) ⟨_,rfl,cn (λfB=>adl λy=>fB y.2) λhe=>?_⟩;have e:t.name=oQ i t (s.nd d):=by unfold oQ;rw[if_pos ⟨hb,he⟩]
  rw[e];exact LU T o hi hd rg lg rt Qm ux htx hS H
 rw[ep,Int.toNat_natCast]at *;exact os ⟨_,cp,fin⟩
theorem NJ(cnt i:Nat)(t:Th)(s:Ts):(stepT cnt i t s).left<=s.left:=by
 unfold stepT
 split
 ·exact Nat.le_refl _
 ·split
  ·exact Nat.le_refl _
  ·split
   ·exact Nat.sub_le _ _
   ·split
    ·exact Nat.le_refl _
    ·exact Nat.sub_le _ _
theorem ZU(t:Th):∀v∈FR t,v.oneCell'=true:=λv hv=>by
 simp only[FR,List.mem_cons,List.not_mem_nil,or_false]at hv
 rcases hv with rfl|rfl|rfl|rfl|rfl <;> rfl
theorem adm{ts:List Th}(Z:ag h a (ts.flatMap FR)){j:Nat}(hj:j<ts.length):∃p,a=some p/\ai h (p.add (j*5)) (FR ts[j]):=by
 cases a with
 | none=>
  have Z:ts.flatMap FR=[]:=Z;have:=bw FR 5 ts (λ_ _=>rfl);rw[Z,List.length_nil]at this;omega
 | some p=>
  refine⟨p,rfl,?_⟩;have e:=kq FR 5 ts (λ_ _=>rfl) j hj;have c:=(ag.take (ag.drop (a:=some p) Z (j*5)) 5);rw[e]at c;exact c
theorem bj : nv 0 ⟨2,bP (λ_=>C6) 1 kE,[1],[],0⟩:=by
 have e:∀k,bP (λ_=>C6) 1 kE k=if k=1 then kE else C6:=λk=>rfl
 refine⟨Nat.le_refl _,Nat.le_refl _,by simp,λd hd=>?_,λd hd=>(by cases hd),Nat.le_refl _,Nat.le_refl _,rfl,λk=>?_,λk=>?_,λk=>?_,λk _ x hx=>?_,λk _ x hx=>?_⟩
 ·rw[List.mem_singleton.mp hd];exact⟨Nat.le_refl _,by show 1<2;decide,rfl⟩
 ·show(bP (λ_=>C6) 1 kE k).names.length=_/\_;dsimp only;rw[e]
  split <;> exact⟨rfl,Nat.le_refl _⟩
 ·dsimp only;rw[e]
  split <;> exact⟨Int.le_refl _,Int.le_refl _⟩
 ·dsimp only;rw[e]
  split
  ·exact⟨by show(0:Int)<=2;decide,by show(2:Int)<=_;decide⟩
  ·exact⟨Int.le_refl _,by show(0:Int)<=_;decide⟩
 ·dsimp only at hx;rw[e]at hx
  split at hx <;> cases hx
 ·dsimp only at hx;rw[e]at hx
  split at hx <;> cases hx
end
end Tr
namespace Tr
open Hp W Ad Tm Re Ss
open Hd (ints)
open In (ah av)
def C8(more:Int)(ta:OA)(tl tc:Nat)(pa:OA)(pl pc:Nat):LV:=[.int .i64 more,.slice ta tl tc,.slice pa pl pc]
theorem QI{more:Int}{pc:Nat}:∀v∈C8 more ta tl tc pa pl pc,v.oneCell'=true:=λv hv=>by
 simp only[C8,List.mem_cons,List.not_mem_nil,or_false]at hv
 rcases hv with rfl|rfl|rfl <;> rfl
theorem NK{more:Int}{pc:Nat}{ts:List Th}(Z:ag h ta (ts.flatMap FR))(hl:ts.length=tl)(htl:tl<=1000000000)(ht:∀ t ∈ ts,t.name.length<=1000000000/\t.text.length<=1000000000)
  (hK:∀h0 h' az D i,h.size<=h0.size->Fr No h h'->bY (λ_=>False) h0 h' az (iq (bp more) ts) D->i<=40->nv i (iq (bp more) ts)->K (.slice D.pa (iq (bp more) ts).n D.pc) h'):C.ak (C8 more ta tl tc pa pl pc) h K:=by
 have bn:=uo more;have AN:(Spc.af (bp more)).data=98+(bp more+4095)/4096+bp more/64:=rfl;have C1:(Spc.af (bp more)).blocks=bp more:=rfl;refine ak.ok (aC.intro λh2 n2=>⟨_,rfl,aj n2.rd,zy rfl λh3 f3=>⟨_,rfl,Spc.Hj (by omega) λh4 f4=>⟨_,rfl,ax.intro rfl (Spc.G.one _) rfl λh6 n6=>⟨_,bW n6.rd rfl,_,bW n6.rd rfl,aC.intro λh7 n7=>aC.intro λh8 n8=>aC.intro λh9 n9=>?_⟩⟩⟩⟩);have z2:=n2.size;have z3:=f3.size;have z4:=f4.size;have z6:=n6.size;have z7:=n7.size;have z8:=n8.size;have z9:=n9.size;have F6:Fr No h h6:=((n2.fr.no f3).no f4).new n6;have f69:Fr No h6 h9:=(n7.fr.new n8).new n9;have rs:rd h9 h.size=C8 more ta tl tc pa pl pc:=(f69.rd (by omega) λy=>y).trans ((n6.at_ (by omega)).trans ((f4.rd (by omega) λy=>y).trans ((f3.rd (by omega) λy=>y).trans n2.rd)));refine⟨_,_,_,bW rs rfl,?_⟩;rw[wrap_i64 (show -9223372036854775808<=((Spc.af (bp more)).blocks:Int)-((Spc.af (bp more)).data:Int) by omega) (by omega)]
 let adn:Nat->Nat:=λb=>if b=h6.size then 8 else if b=h7.size then 1 else if b=h8.size then 2 else 0
 let D9:Dt:=⟨λ_=>h6.size,λ_=>⟨none,0,none,0⟩,some ⟨h7.size,0,none⟩,2,some ⟨h8.size,0,none⟩,1,none,0⟩
 let s0:Ts:=⟨2,bP (λ_=>C6) 1 kE,[1],[],bp more-(Spc.af (bp more)).data⟩
 have T9:bY (λ_=>False) h6 h9 adn s0 D9:=by
  refine⟨f69,λb hb=>?_,λk k1 k2 _=>?_,λk k1 k2 _=>?_,λk k1 k2 _=>?_,λ_=>?_,λ_=>?_,λ_=>Sl.nil _ _ _⟩
  ·have hb:(if b=h6.size then 8 else if b=h7.size then 1 else if b=h8.size then 2 else 0)≠0:=hb
   by_cases e1:b=h6.size
   ·omega
   ·by_cases e2:b=h7.size
    ·omega
    ·by_cases e3:b=h8.size
     ·omega
     ·rw[if_neg e1,if_neg e2,if_neg e3]at hb;exact absurd rfl hb
  ·have:k=1:=(by have k2:k<2:=k2;omega);subst this;refine⟨(n9.at_ (by show h6.size<_;omega)).trans ((n8.at_ (by show h6.size<_;omega)).trans n7.rd),n9.ow (n8.ow n7.own),?_⟩;show(if h6.size=h6.size then 8 else _)=8;rw[if_pos rfl]
  ·have:k=1:=(by have k2:k<2:=k2;omega);subst this;exact Sl.nil _ _ _
  ·have:k=1:=(by have k2:k<2:=k2;omega);subst this;exact Sl.nil _ _ _
  ·refine⟨rfl,rfl,?_,n9.ow n8.own,Nat.le_refl _,?_,?_⟩
   ·show(if h7.size=h6.size then 8 else if h7.size=h7.size then 1 else _)=1;rw[if_neg (by omega),if_pos rfl]
   ·show((rd h9 h7.size).drop 0).take _=_;rw[n9.at_ (by omega),n8.rd];rfl
   ·show 0+2*1<=(rd h9 h7.size).length;rw[n9.at_ (by omega),n8.rd];exact Nat.le_refl _
  ·refine⟨rfl,rfl,?_,n9.own,Nat.le_refl _,?_,?_⟩
   ·show(if h8.size=h6.size then 8 else if h8.size=h7.size then 1 else if h8.size=h8.size then 2 else _)=2;rw[if_neg (by omega),if_neg (by omega),if_pos rfl]
   ·show((rd h9 h8.size).drop 0).take _=_;rw[n9.rd];rfl
   ·show 0+1*1<=(rd h9 h8.size).length;rw[n9.rd];exact Nat.le_refl _
 have o9:nv 0 s0:=⟨bj.n2,bj.nn,bj.dn,bj.dr,bj.XC,bj.dl,bj.ol,bj.root,bj.len,bj.Nw,bj.HM,bj.nm,bj.nu⟩
 refine⟨λleft pa_ nl ZV da dl dc oa ol oc n4 hx=>∃(i:Nat) (s:Ts) (az:Nat->Nat) (D:Dt),n4=i/\i<=ts.length/\i<=40/\left=(s.left:Int)/\(pa_=D.pa/\nl=s.n/\ZV=D.pc/\da=D.da/\dl=s.bG.length/\dc=D.dc/\oa=D.oa/\ol=s.eS.length/\oc=D.oc)/\bY (λ_=>False) h6 hx az s D/\nv i s/\gJ (Spc.af (bp more)).count i (ts.drop i) s=iq (bp more) ts/\s.left<=100000,
  λ_ _ _ _ _ _ _ _ _ _ n4 _=>((ts.length:Int)-n4).toNat,⟨0,s0,adn,D9,rfl,Nat.zero_le _,Nat.zero_le _,by show((Spc.af (bp more)).blocks:Int)-((Spc.af (bp more)).data:Int)=((bp more-(Spc.af (bp more)).data:Nat):Int);omega,⟨rfl,rfl,rfl,rfl,rfl,rfl,rfl,rfl,rfl⟩,T9,o9,rfl,by show bp more-(Spc.af (bp more)).data<=100000;omega⟩,?_⟩
 rintro left pa_ nl ZV da dl dc oa ol oc n4 h10 ⟨i,s,az,D,rfl,hi,ado,rfl,⟨rfl,rfl,rfl,rfl,rfl,rfl,rfl,rfl,rfl⟩,T,o,eT,sl⟩;have Nj:=T.fr.size;have FO:Fr No h h10:=F6.trans T.fr λ_ _ y=>y.elim;refine cd (λdh=>?_) λvF=>?_
 ·have oK:i<ts.length:=by omega
  have Z10:ag h10 ta (ts.flatMap FR):=ag.fr FO Z λ_ _ y=>y;obtain⟨p,ep,cp⟩:=adm Z10 oK;rw[ep,Int.toNat_natCast];have tt:=ht ts[i] (List.getElem_mem oK);refine⟨⟨by omega,by omega⟩,os ⟨_,rfl,cp,ax.intro rfl (ZU _) rfl λbb n12=>?_⟩⟩;have T12:=T.no n12.fr;have z12:=n12.size;rw[List.drop_eq_getElem_cons oK]at eT;refine cd (λGX=>?_) λGX=>?_
  ·have e:gJ (Spc.af (bp more)).count i (ts[i]::ts.drop (i+1)) s=s:=if_pos (by omega);rw[e]at eT;subst eT;exact hK h6 bb _ D i (by omega) (FO.new n12) T12 ado o
  have e:gJ (Spc.af (bp more)).count i (ts[i]::ts.drop (i+1)) s=gJ (Spc.af (bp more)).count (i+1) (ts.drop (i+1)) (stepT (Spc.af (bp more)).count i ts[i] s):=if_neg (by omega);rw[e]at eT;have nn:=o.nn;have dl:=o.dl;have hp:0<s.bG.length:=List.length_pos_iff.mpr o.dn;have hm:=va (x:=ts[i].Nv) hp
  have gd:s.bG.getD (jP ts[i].Nv s.bG.length) 0=s.bG[jP ts[i].Nv s.bG.length]:=by
   rw[List.getD_eq_getElem?_getD,List.getElem?_eq_getElem hm];rfl
  have dr:=o.dr _ (List.getElem_mem hm);rw[<-gd]at dr;obtain⟨pd,epd,cpd⟩:=QH (T12.bG λy=>y).cells hm
  have eIn:sX ts[i] s=if 32<=(s.nd (s.bG.getD (jP ts[i].Nv s.bG.length) 0)).depth then 1 else s.bG.getD (jP ts[i].Nv s.bG.length) 0:=rfl
  generalize s.bG.getD (jP ts[i].Nv s.bG.length) 0=q at dr cpd eIn;obtain⟨pA,epA,cpA⟩:=T12.at_ (λy=>y) dr.1 dr.2.1;have nq:=T12.node q dr.1 dr.2.1 λy=>y;refine⟨_,bW n12.rd rfl,?_⟩;have u1:IntKind.wrap .u64 (s.bG.length:Int)=(s.bG.length:Int):=by rw[sE];omega
  have H:Goal (stepT (Spc.af (bp more)).count i ts[i] s) s D h6 h10 i (λleft pa_ nl ZV da dl dc oa ol oc n4 hx=>∃(i:Nat) (s:Ts) (az:Nat->Nat) (D:Dt),n4=i/\i<=ts.length/\i<=40/\left=(s.left:Int)/\(pa_=D.pa/\nl=s.n/\ZV=D.pc/\da=D.da/\dl=s.bG.length/\dc=D.dc/\oa=D.oa/\ol=s.eS.length/\oc=D.oc)/\bY (λ_=>False) h6 hx az s D/\nv i s/\gJ (Spc.af (bp more)).count i (ts.drop i) s=iq (bp more) ts/\s.left<=100000)
    (λ_ _ _ _ _ _ _ _ _ _ n4 _=>((ts.length:Int)-n4).toNat):=λh' bT D' T'=>by
   have:=NJ (Spc.af (bp more)).count i ts[i] s;exact⟨⟨i+1,_,bT,D',by omega,by omega,by omega,rfl,⟨rfl,rfl,rfl,rfl,rfl,rfl,rfl,rfl,rfl⟩,T',Az o (by omega),eT,by omega⟩,by show((ts.length:Int)-((i:Int)+1)).toNat<((ts.length:Int)-(i:Int)).toNat;omega⟩
  have k1:∀d,d=sX ts[i] s->ak.k1 h4 (s.left:Int) D.pa s.n D.pc D.da s.bG.length D.dc D.oa s.eS.length D.oc (i:Int) h10 _ _ bb (d:Int) K:=λd hd=>
   U2 (N:=bp more) T12 o (by omega) hd n6.rd (by omega) n12.rd (by omega) sl tt.2 tt.1 rfl H
  have go:ae (some pA) λp3=>∃(q1:OA),cellOf bb (Addr.add p3 (Int.toNat (q:Int)))=some (.pointer q1)/\ae q1 λp4=>∃(n7:Int),cellOf bb (Addr.add p4 1)=some (.int .i64 n7)/\bif(decide (n7>=32))then ak.k1 h4 (s.left:Int) D.pa s.n D.pc D.da s.bG.length D.dc D.oa s.eS.length D.oc (i:Int) h10 _ _ bb 1 K else ak.k1 h4 (s.left:Int) D.pa s.n D.pc D.da s.bG.length D.dc D.oa s.eS.length D.oc (i:Int) h10 _ _ bb (q:Int) K:=
   os ⟨_,by rw[Int.toNat_natCast];exact cpA,os ⟨_,bW nq.1 rfl,cd (λpj=>k1 1 (by rw[eIn,if_pos pj])) λpj=>k1 q (by rw[eIn,if_neg pj])⟩⟩
  rw[<-epA]at go;rw[u1,if_neg (by omega),sE,F1 hp (by omega)];refine⟨⟨by omega,by omega⟩,?_⟩
  have go2:ae (some pd) λp2=>∃(n6:Int),cellOf bb (Addr.add p2 (Int.toNat ((jP ts[i].Nv s.bG.length:Nat):Int)))=some (.int .i64 n6)/\(0<=n6/\n6<(s.n:Int))/\ae D.pa λp3=>∃(q1:OA),cellOf bb (Addr.add p3 (Int.toNat n6))=some (.pointer q1)/\ae q1 λp4=>∃(n7:Int),cellOf bb (Addr.add p4 1)=some (.int .i64 n7)/\bif(decide (n7>=32))then ak.k1 h4 (s.left:Int) D.pa s.n D.pc D.da s.bG.length D.dc D.oa s.eS.length D.oc (i:Int) h10 _ _ bb 1 K else ak.k1 h4 (s.left:Int) D.pa s.n D.pc D.da s.bG.length D.dc D.oa s.eS.length D.oc (i:Int) h10 _ _ bb n6 K:=
   os ⟨_,by rw[Int.toNat_natCast];exact cpd,⟨by omega,by omega⟩,go⟩
  rw[<-epd]at go2;exact go2
 ·rw[List.drop_of_length_le (by omega)]at eT;have eT:s=iq (bp more) ts:=eT;subst eT;exact hK h6 h10 az D i (by omega) FO T ado o
end Tr
namespace Tr
open Hp W Ad Tm Re Ss
open Sk (form)
theorem NL{v:Nat}{s:Tm.ay}(hv:v≠0)(hs:s.length<=27):put ((put ((List.replicate 32 (0:UInt8)).map bv) 0 ((bH 4 v).map bv)).set 4 (bv (UInt8.ofNat s.length))) 5 (s.map bv)=(form v s).map bv:=by
 have l4:=aI 4 v
 have e:form v s=bH 4 v++(UInt8.ofNat s.length::(s++List.replicate (27-s.length) 0)):=by
  unfold form;rw[if_neg hv]
 rw[e];have lz:((List.replicate 32 (0:UInt8)).map bv).length=32:=by rw[List.length_map,List.length_replicate]
 have l4':((bH 4 v).map bv).length=4:=by rw[List.length_map];exact l4
 have ls:(s.map bv).length=s.length:=List.length_map ..;refine List.ext_getElem? λi=>?_;rw[pf _ _ _ _ (by rw[List.length_set,eE,lz,ls];omega),ls,List.map_append,List.getElem?_append,l4']
 by_cases h4:i<4
 ·rw[if_neg (by omega),if_pos h4,List.getElem?_set_ne (by omega),pf _ _ _ _ (by rw[lz,l4'];omega),if_pos (by omega)];rfl
 ·rw[if_neg h4]
  by_cases h5:i=4
  ·subst h5;rw[if_neg (by omega),List.getElem?_set_self (by rw[eE,lz];omega)];rfl
  ·rw[show i-4=(i-5)+1 by omega,List.map_cons,List.getElem?_cons_succ,List.map_append,List.getElem?_append,ls]
   by_cases hi:i<5+s.length
   ·rw[if_pos (by omega),if_pos (by omega)]
   ·rw[if_neg (by omega),if_neg (by omega),List.getElem?_set_ne (by omega),pf _ _ _ _ (by rw[lz,l4'];omega),if_neg (by rw[l4'];omega),List.getElem?_map,List.getElem?_map,List.getElem?_replicate,List.getElem?_replicate]
    by_cases pj:i<32
    ·rw[if_pos pj,if_pos (by omega)]
    ·rw[if_neg pj,if_neg (by omega)]
end Tr
namespace Tr
open Hp W Ad Tm Re Ss
open Hd (ints)
open In (ah av)
open Sk (form)
def adr(q1:OA)(fQ:OA)(fj:Nat)(h10:ab)(Q:OA->Nat->Nat->ab->Prop):Prop:=
 ∃(I2:OA->Nat->Nat->Int->ab->Prop) (M2:OA->Nat->Nat->Int->ab->Nat),I2 none 0 0 0 h10/\
 ∀(se:OA) (qG:Nat) (sf:Nat) (n4:Int),∀cg:ab,I2 se qG sf n4 cg->
 bif(decide (n4<(fj:Int)))then(
 (0<=n4/\n4<(fj:Int))/\
 ae fQ λp3=>
 ∃(s2:ByteArray),cellOf cg (Addr.add p3 (Int.toNat n4))=some (.string s2)/\
 (0<=(32:Int)/\(32:Int)<=32/\(1:Int)*32<=281474976710656/\(32:Int)<=281474976710656)/\
 aC (aW z5 (Int.toNat 32)) 5 cg λbb=>
 (0<=(4:Int)/\(4:Int)<=((Int.toNat 32):Int))/\
 ae q1 λp4=>
 ∃(j9:OA) (jO:Nat) (kH:Nat),cellOf bb (Addr.add p4 5)=some (.slice j9 jO kH)/\
 (0<=n4/\n4<(jO:Int))/\
 ae j9 λp5=>
 ∃(n5:Int),cellOf bb (Addr.add p5 (Int.toNat n4))=some (.int .i64 n5)/\
 C.fD (some ⟨cg.size,0,none⟩) (Int.toNat 4) (Int.toNat 32) n5 bb λr4 bU=>
 r4 = .tuple #[]/\
 (0<=(4:Int)/\4<((Int.toNat 32):Int))/\
 bQ (Addr.add ⟨cg.size,0,none⟩ (Int.toNat 4)) (.int .u8 (IntKind.wrap .u8 ((s2.size:Int)))) bU λgh=>
 (0<=(5:Int)/\5<=((Int.toNat 32):Int))/\
 qU yx (if(Int.toNat 32)=(Int.toNat 5)then(some ⟨cg.size,0,none⟩)else Option.map (Addr.add · (Int.toNat 5)) (some ⟨cg.size,0,none⟩)) ((Int.toNat 32)-(Int.toNat 5)) (.string s2) gh λn6 fg=>
 ∃aR:LV,List.length aR=(Int.toNat 32)*1/\ag fg (some ⟨cg.size,0,none⟩) aR/\(∀v∈aR,v.oneCell'=true)/\
 aw yx 5 se qG sf (Int.toNat 32) aR fg λmL mJ mU iS=>
 I2 mL mJ mU (IntKind.wrap .i64 (n4+1)) iS/\M2 mL mJ mU (IntKind.wrap .i64 (n4+1)) iS<M2 se qG sf n4 cg)else(
 Q se qG sf cg)
def qK(x:Nd)(k:Nat):Tm.ay:=(List.range k).flatMap λj=>form (x.aU.getD j 0).toNat (x.names.getD j [])
theorem HY(x:Nd)(k:Nat):qK x (k+1)=qK x k++form (x.aU.getD k 0).toNat (x.names.getD k []):=by
 unfold qK;rw[List.range_succ,List.flatMap_append,List.flatMap_cons,List.flatMap_nil,List.append_nil]
theorem QJ{v:Nat}{s:Tm.ay}(hv:v≠0)(hs:s.length<=27):(form v s).length=32:=by
 unfold form;rw[if_neg hv,List.length_append,aI,List.length_cons,List.length_append,List.length_replicate];omega
section
variable{h : ab}{z : NdS}{x : Nd}{nb : Nat}
theorem NM{Q:OA->Nat->Nat->ab->Prop}(N:Qn h nb z x)(hl:x.names.length<=1000)(hn:∀ s ∈ x.names,s.length<=27)(hm:∀ m ∈ x.aU,1<=m/\m<4294967296)
  (hQ:∀a l c h',Fr No h h'->l=32*x.names.length->Sl h' 1 a l c ((qK x x.names.length).map bv) (bZ h.size)->Q a l c h'):adr (some ⟨nb,0,none⟩) z.na x.names.length h Q:=by
 have len:=N.len;refine⟨λa l c n4 hx=>∃k:Nat,n4=k/\k<=x.names.length/\l=32*k/\Fr No h hx/\Sl hx 1 a l c ((qK x k).map bv) (bZ h.size),λ_ _ _ n4 _=>((x.names.length:Int)-n4).toNat,⟨0,rfl,Nat.zero_le _,rfl,Fr.refl _ _,Sl.nil _ _ _⟩,?_⟩;rintro a l c n4 cg ⟨k,rfl,hk,rfl,F,S⟩;have OL:=F.size;refine cd (λdh=>?_) λvF=>?_
 ·have CG:k<x.names.length:=by omega
  obtain⟨p,ep,cp⟩:=yR (ag.fr F N.na λ_ _ y=>y) CG;rw[ep,Int.toNat_natCast];refine⟨⟨by omega,by omega⟩,os ⟨_,cp,⟨by decide,by decide,by decide,by decide⟩,aC.intro λbb n12=>⟨⟨by decide,by decide⟩,?_⟩⟩⟩;have z12:=n12.size;have xy:Fr No h bb:=F.new n12;have lt:nb<h.size:=vH (o:=0) (v:=.int .i64 x.kind) (by rw[N.r];rfl);have wm:rd bb nb=JT z x:=(xy.rd lt λy=>y).trans N.r;obtain⟨p5,ep5,cp5⟩:=rI (ag.fr xy N.ma λ_ _ y=>y) (j:=k) (by omega);refine os ⟨_,_,_,bW wm rfl,⟨by omega,by omega⟩,?_⟩;rw[ep5];have nmk:=hn _ (List.getElem_mem CG);have nuk:=hm _ (List.getElem_mem (l:=x.aU) (n:=k) (by omega));have en:x.aU.getD k 0=x.aU[k]'(by omega):=by rw[List.getD_eq_getElem?_getD,List.getElem?_eq_getElem];rfl
  have es:x.names.getD k []=x.names[k]:=by rw[List.getD_eq_getElem?_getD,List.getElem?_eq_getElem];rfl
  have ce:=HY x k;rw[en,es]at ce;generalize x.names[k]=s at nmk ce;generalize x.aU[k]'(by omega)=m at cp5 nuk ce;obtain⟨v,ev⟩:∃v:Nat,m=v:=⟨m.toNat,by omega⟩;subst ev;rw[Int.toNat_natCast]at ce;have iH:(mkStr s).size=s.length:=rfl;have r0:rd bb cg.size=(List.replicate 32 (0:UInt8)).map bv:=n12.rd;refine os ⟨_,cp5,rE n12.own (by rw[r0,List.length_map,List.length_replicate];decide) (by decide) (by omega) λbU d13=>⟨rfl,⟨by decide,by decide⟩,?_⟩⟩;have r1:=d13.rd;rw[r0]at r1;rw[iH,In.BE];refine bQ.add d13.own (by rw[r1,eE,List.length_map,List.length_replicate];decide) λgh d14=>⟨⟨by decide,by decide⟩,?_⟩;have r2:=d14.rd;rw[r1]at r2;have l2:(rd gh cg.size).length=32:=by rw[r2,List.length_set,eE,List.length_map,List.length_replicate]
  rw[if_neg (by decide),Option.map_some,cI];refine Fi.P5 (m:=s.length) (new:=s) rfl (by rw[iH];show min s.length 27=s.length;omega) (by rw[toList_mkStr,List.take_length]) rfl d14.own (by rw[l2];show 0+5+s.length<=32;omega) λfg d15=>?_;have r3:=d15.rd;rw[r2]at r3;have r4:rd fg cg.size=(form v s).map bv:=r3.trans (NL (by omega) nmk);have fl:=QJ (v:=v) (s:=s) (by omega) nmk;have z13:=d13.size;have LI:=d14.size;have oO:=d15.size;have f15:Fr (λb=>b=cg.size) bb fg:=(d13.fr.trans d14.fr λ_ _ y=>y).trans d15.fr λ_ _ y=>y;have S15:Sl fg 1 a (32*k) c ((qK x k).map bv) (bZ h.size):=Sl.fr (n12.fr.trans f15 λb hb y=>by have y:b=cg.size:=y;omega) S λ_ _ _ y=>y;have Zu:Fr No h fg:=xy.trans f15 λb hb y=>by have y:b=cg.size:=y;omega
  refine⟨(form v s).map bv,by rw[List.length_map,fl];rfl,aj r4,λw hw=>by obtain⟨u,_,rfl⟩:=List.mem_map.mp hw;rfl,?_⟩;refine aT (elem:=yx) S15 (by rw[List.length_map,fl];rfl) rfl (by show(32*k+32)*1<=_;omega) (by show 32*k+32<=_;omega) λa' c' iS f16 S16=>?_;rw[wrap_i64 (show -9223372036854775808<=(k:Int)+1 by omega) (by omega)];refine⟨⟨k+1,by omega,by omega,by show 32*k+32=32*(k+1);omega,Zu.trans f16 λb hb y=>by have y:h.size<=b:=y;omega,?_⟩,by show((x.names.length:Int)-((k:Int)+1)).toNat<((x.names.length:Int)-(k:Int)).toNat;omega⟩;rw[ce,List.map_append]
  exact S16.mono λb y=>by
   rcases y with y|y
   ·exact y
   ·show h.size<=b;omega
 ·have:k=x.names.length:=by omega
  subst this;exact hQ a _ c cg F rfl S
end
end Tr
namespace Tr
open Hp Ad Tm Bt Spc Re
open Hd (fL lH)
open In (kU ab9)
open Bm (Im)
def lj(x:Nd):Tm.ay:=if x.kind=3 then x.text else qK x x.names.length
def kg(x:Nd):Nat:=if x.kind=3 then x.text.length else(32*x.names.length+511)/512*512
def sF(off:Nat)(data:Tm.ay)(free:Nat):Nat->Tm.ay->Tm.ay
 | 0,L=>L
 | k+1,L=>gA (gA (sF off data free k L) (off+8+4*k) (bH 4 (free+k))) (512*(free+k)) ((data.drop (512*k)).take 512)
def rK(off:Nat)(x:Nd)(L:Tm.ay):Tm.ay:=gA (gA (gA L off (bH 1 x.kind.toNat)) (off+2) (bH 2 x.dT.toNat)) (off+4) (bH 4 (kg x))
def uy(off:Nat)(x:Nd)(free:Nat)(L:Tm.ay):Tm.ay:=sF off (lj x) free (dC x) (rK off x L)
def nX(ino data:Nat)(f:Nat->Nd):Nat->Tm.ay->Tm.ay
 | 0,L=>L
 | m+1,L=>uy (512*ino+64*(m+1)) (f (m+1)) (data+dD f (m+1)) (nX ino data f m L)
def mM(L:Tm.ay)(o w:Nat):Tm.ay:=(L.drop o).take w
theorem U3{L:Tm.ay}(h:o+w<=L.length):(mM L o w).length=w:=by
 unfold mM;rw[List.length_take,List.length_drop];omega
theorem sG{L:Tm.ay}(hi:i<w):(mM L o w)[i]?=L[o+i]?:=by
 unfold mM;rw[List.getElem?_take,if_pos hi,List.getElem?_drop]
theorem x7{xs ys:Tm.ay}(h:o+ys.length<=xs.length)(i:Nat):(gA xs o ys)[i]?=if o<=i/\i<o+ys.length then ys[i-o]? else xs[i]?:=by
 unfold gA;rw[List.append_assoc,List.getElem?_append,List.length_take,show min o xs.length=o by omega]
 by_cases h1:i<o
 ·rw[if_pos h1,if_neg (by omega),List.getElem?_take,if_pos h1]
 ·rw[if_neg h1,List.getElem?_append]
  by_cases h2:i<o+ys.length
  ·rw[if_pos (by omega),if_pos (by omega)]
  ·rw[if_neg (by omega),if_neg (by omega),List.getElem?_drop,show o+ys.length+(i-o-ys.length)=i by omega]
theorem px{L ys:Tm.ay}(h:o+ys.length<=q∨q+w<=o)(h3:o+ys.length<=L.length):mM (gA L o ys) q w=mM L q w:=by
 refine List.ext_getElem? λi=>?_
 by_cases hi:i<w
 ·rw[sG hi,sG hi,x7 h3,if_neg (by omega)]
 ·unfold mM;rw[List.getElem?_take,List.getElem?_take,if_neg hi,if_neg hi]
theorem B4{L ys:Tm.ay}(h1:q<=o)(h2:o+ys.length<=q+w)(h3:q+w<=L.length):mM (gA L o ys) q w=gA (mM L q w) (o-q) ys:=by
 refine List.ext_getElem? λi=>?_;have hl:=U3 (L:=L) h3;rw[x7 (by rw[hl];omega)]
 by_cases hi:i<w
 ·rw[sG hi,sG hi,x7 (by omega)]
  by_cases c:o<=q+i/\q+i<o+ys.length
  ·rw[if_pos c,if_pos (by omega),show q+i-o=i-(o-q) by omega]
  ·rw[if_neg c,if_neg (by omega)]
 ·rw[if_neg (by omega)];unfold mM;rw[List.getElem?_take,List.getElem?_take,if_neg hi,if_neg hi]
theorem QK{A zs B ys:Tm.ay}(h:zs.length=ys.length):gA (A++(zs++B)) A.length ys=A++(ys++B):=by
 unfold gA;rw[List.take_left,List.append_assoc,<-h,<-List.length_append,<-List.append_assoc A zs B,List.drop_left]
theorem yW(a b:List Int):fL (a++b)=fL a++fL b:=by unfold fL;rw[List.flatMap_append]
section
variable{off free : Nat}{data : Tm.ay}
theorem rL(data:Tm.ay)(k:Nat):((data.drop (512*k)).take 512).length<=512:=by rw[List.length_take];omega
theorem oE : ∀(m:Nat) (L:Tm.ay),m<=12->off+64<=L.length->(∀k,k<m->512*(free+k)+512<=L.length)->(sF off data free m L).length=L.length
 | 0,_,_,_,_=>rfl
 | k+1,L,hm,ho,h=>by
  have ih:=oE k L (by omega) ho λj hj=>h j (by omega);have hk:=h k (Nat.lt_succ_self _);have l4:=aI 4 (free+k);have lt:=rL data k;show(gA (gA (sF off data free k L) _ _) _ _).length=_;have l1:(gA (sF off data free k L) (off+8+4*k) (bH 4 (free+k))).length=L.length:=by rw[dW (by rw[ih,l4];omega),ih]
  rw[dW (by rw[l1];omega),l1]
theorem HZ{H:Tm.ay}(hH:H.length=8):∀(m:Nat) (L:Tm.ay),m<=12->off+64<=L.length->(∀k,k<m->512*(free+k)+512<=L.length)->off+64<=512*free->mM L off 64=H++List.replicate 56 0->
  mM (sF off data free m L) off 64=H++(fL ((List.range m).map λj=>((free+j:Nat):Int))++List.replicate (56-4*m) 0)
 | 0,L,_,_,_,_,h=>by show mM L off 64=_;rw[h];rfl
 | k+1,L,hm,ho,hb,hf,h=>by
  have ih:=HZ hH k L (by omega) ho (λj hj=>hb j (by omega)) hf h;have ln:=oE (off:=off) (free:=free) (data:=data) k L (by omega) ho λj hj=>hb j (by omega);have hk:=hb k (Nat.lt_succ_self _);have l4:=aI 4 (free+k);have lt:=rL data k;have l1:(gA (sF off data free k L) (off+8+4*k) (bH 4 (free+k))).length=L.length:=by rw[dW (by rw[ln,l4];omega),ln]
  show mM (gA (gA (sF off data free k L) _ _) _ _) off 64=_;rw[px (.inr (by omega)) (by rw[l1];omega),B4 (by omega) (by rw[l4];omega) (by rw[ln];omega),ih];generalize hl:(List.range k).map (λj=>((free+j:Nat):Int))=l;have ll:l.length=k:=by rw[<-hl,List.length_map,List.length_range]
  have e1:H++(fL l++List.replicate (56-4*k) (0:UInt8))=(H++fL l)++(List.replicate 4 0++List.replicate (56-4*(k+1)) 0):=by
   rw[List.replicate_append_replicate,List.append_assoc,show 4+(56-4*(k+1))=56-4*k by omega]
  have e2:off+8+4*k-off=(H++fL l).length:=by rw[List.length_append,hH,lH,ll];omega
  rw[e1,e2,QK (by rw[l4,List.length_replicate]),List.range_succ,List.map_append,yW,hl,List.append_assoc,List.append_assoc];show _=H++(fL l++((bH 4 ((free+k:Nat):Int).toNat++[])++List.replicate (56-4*(k+1)) 0));rw[Int.toNat_natCast,List.append_nil]
theorem B7{q w:Nat}:∀(m:Nat) (L:Tm.ay),m<=12->off+64<=L.length->(∀k,k<m->512*(free+k)+512<=L.length)->(off+64<=q∨q+w<=off)->(∀k,k<m->512*(free+k)+512<=q∨q+w<=512*(free+k))->mM (sF off data free m L) q w=mM L q w
 | 0,_,_,_,_,_,_=>rfl
 | k+1,L,hm,ho,hb,h1,h2=>by
  have ih:=B7 k L (by omega) ho (λj hj=>hb j (by omega)) h1 λj hj=>h2 j (by omega);have ln:=oE (off:=off) (free:=free) (data:=data) k L (by omega) ho λj hj=>hb j (by omega);have hk:=hb k (Nat.lt_succ_self _);have hk2:=h2 k (Nat.lt_succ_self _);have l4:=aI 4 (free+k);have lt:=rL data k;have l1:(gA (sF off data free k L) (off+8+4*k) (bH 4 (free+k))).length=L.length:=by rw[dW (by rw[ln,l4];omega),ln]
  show mM (gA (gA (sF off data free k L) _ _) _ _) q w=_;rw[px (by omega) (by rw[l1];omega),px (by rw[l4];omega) (by rw[ln,l4];omega),ih]
theorem H0 : ∀(m:Nat) (L:Tm.ay),m<=12->off+64<=L.length->(∀k,k<m->512*(free+k)+512<=L.length)->off+64<=512*free->∀j,j<m->
  mM (sF off data free m L) (512*(free+j)) 512=gA (mM L (512*(free+j)) 512) 0 ((data.drop (512*j)).take 512)
 | 0,_,_,_,_,_,j,hj=>absurd hj (Nat.not_lt_zero _)
 | k+1,L,hm,ho,hb,hf,j,hj=>by
  have ln:=oE (off:=off) (free:=free) (data:=data) k L (by omega) ho λj hj=>hb j (by omega);have hk:=hb k (Nat.lt_succ_self _);have l4:=aI 4 (free+k);have lt:=rL data k;have l1:(gA (sF off data free k L) (off+8+4*k) (bH 4 (free+k))).length=L.length:=by rw[dW (by rw[ln,l4];omega),ln]
  show mM (gA (gA (sF off data free k L) _ _) _ _) (512*(free+j)) 512=_
  by_cases e:j=k
  ·subst e;rw[B4 (Nat.le_refl _) (by omega) (by rw[l1];omega),px (by rw[l4];omega) (by rw[ln,l4];omega),B7 j L (by omega) ho (λj hj=>hb j (by omega)) (.inl (by omega)) λi hi=>.inl (by omega),Nat.sub_self]
  ·rw[px (by omega) (by rw[l1];omega),px (by rw[l4];omega) (by rw[ln,l4];omega)];exact H0 k L (by omega) ho (λj hj=>hb j (by omega)) hf j (by omega)
theorem LW{n:Nat}{U:Nat->Bool}:∀(m:Nat) (L:Tm.ay),m<=12->off+64<=512*n->512*(af n).aN<=off->off<=512*free->(∀k,k<m->512*(free+k)+512<=512*n)->Im n U L->Im n U (sF off data free m L)
 | 0,_,_,_,_,_,_,a=>a
 | k+1,L,hm,ho,hi,hf,hb,a=>by
  have ih:=LW k L (by omega) ho hi hf (λj hj=>hb j (by omega)) a;have hk:=hb k (Nat.lt_succ_self _);have l4:=aI 4 (free+k);have lt:=rL data k;exact(ih.copy (by omega) (by rw[l4];omega)).copy (by omega) (by omega)
end
def uz(x:Nd)(free:Nat):List Int:=[x.kind,x.dT,(kg x:Int)]++(List.range 12).map λj=>if j<dC x then((free+j:Nat):Int)else 0
theorem zG(x:Nd)(free:Nat):(uz x free).length=15:=by rw[uz,List.length_append,List.length_map,List.length_range];rfl
theorem B8 : ∀k,fL (List.replicate k (0:Int))=List.replicate (4*k) 0
 | 0=>rfl
 | k+1=>by
  rw[show List.replicate (k+1) (0:Int)=[0]++List.replicate k 0 from rfl,yW,B8 k,show 4*(k+1)=4+4*k by omega,<-List.replicate_append_replicate];rfl
theorem ZW{free:Nat}(hm:m<=12):fL ((List.range 12).map λj=>if j<m then((free+j:Nat):Int)else 0)=fL ((List.range m).map λj=>((free+j:Nat):Int))++List.replicate (48-4*m) 0:=by
 have e:List.range 12=List.range m++(List.range (12-m)).map (m + ·):=by rw[<-List.range_add,show m+(12-m)=12 by omega]
 rw[e,List.map_append,yW,List.map_map];have e1:(List.range m).map (λj=>if j<m then((free+j:Nat):Int)else 0)=(List.range m).map λj=>((free+j:Nat):Int):=List.map_congr_left λj hj=>if_pos (List.mem_range.mp hj)
 have e2:(List.range (12-m)).map ((λj=>if j<m then((free+j:Nat):Int)else 0) ∘ (m + ·))=List.replicate (12-m) 0:=by
  refine List.ext_getElem (by rw[List.length_map,List.length_range,List.length_replicate]) λi h1 h2=>?_;rw[List.getElem_map,List.getElem_range,List.getElem_replicate];show(if m+i<m then((free+(m+i):Nat):Int)else 0)=0;exact if_neg (by omega)
 rw[e1,e2,B8,show 4*(12-m)=48-4*m by omega]
section
variable{off free : Nat}{x : Nd}{L : Tm.ay}
theorem py(ho:off+64<=L.length):(rK off x L).length=L.length:=by
 have l1:=aI 1 x.kind.toNat;have l2:=aI 2 x.dT.toNat;have l4:=aI 4 (kg x);have a:(gA L off (bH 1 x.kind.toNat)).length=L.length:=dW (by omega);have b:(gA (gA L off (bH 1 x.kind.toNat)) (off+2) (bH 2 x.dT.toNat)).length=L.length:=(dW (by omega)).trans a;exact(dW (by omega)).trans b
theorem NN(ho:off+64<=L.length)(z:mM L off 64=List.replicate 64 0):mM (rK off x L) off 64=(bH 1 x.kind.toNat++([0]++(bH 2 x.dT.toNat++bH 4 (kg x))))++List.replicate 56 0:=by
 have l1:=aI 1 x.kind.toNat;have l2:=aI 2 x.dT.toNat;have l4:=aI 4 (kg x);have a:(gA L off (bH 1 x.kind.toNat)).length=L.length:=dW (by omega);have b:(gA (gA L off (bH 1 x.kind.toNat)) (off+2) (bH 2 x.dT.toNat)).length=L.length:=(dW (by omega)).trans a;unfold rK;rw[B4 (by omega) (by omega) (by omega),B4 (by omega) (by omega) (by omega),B4 (by omega) (by omega) ho,z,Nat.sub_self,show off+2-off=2 by omega,show off+4-off=4 by omega];exact ab9 _ _ _
theorem D8(ho:off+64<=L.length)(h:off+64<=q∨q+w<=off):mM (rK off x L) q w=mM L q w:=by
 have l1:=aI 1 x.kind.toNat;have l2:=aI 2 x.dT.toNat;have l4:=aI 4 (kg x);have a:(gA L off (bH 1 x.kind.toNat)).length=L.length:=dW (by omega);have b:(gA (gA L off (bH 1 x.kind.toNat)) (off+2) (bH 2 x.dT.toNat)).length=L.length:=(dW (by omega)).trans a;unfold rK;rw[px (by omega) (by omega),px (by omega) (by omega),px (by omega) (by omega)]
theorem QL{U:Nat->Bool}(ho:off+64<=512*n)(hi:512*(af n).aN<=off)(a:Im n U L):Im n U (rK off x L):=by
 have l1:=aI 1 x.kind.toNat;have l2:=aI 2 x.dT.toNat;have l4:=aI 4 (kg x);exact((a.copy (by omega) (by omega)).copy (by omega) (by omega)).copy (by omega) (by omega)
theorem NO(hm:dC x<=12)(ho:off+64<=L.length)(hb:∀ k,k<dC x->512*(free+k)+512<=L.length)(hf:off+64<=512*free)(z:mM L off 64=List.replicate 64 0):mM (uy off x free L) off 64=kU (uz x free):=by
 have lh:=py (x:=x) ho;unfold uy;rw[HZ (H:=bH 1 x.kind.toNat++([0]++(bH 2 x.dT.toNat++bH 4 (kg x)))) (by simp only[List.length_append,aI,List.length_singleton]) (dC x) _ hm (by rw[lh];exact ho) (λk hk=>by rw[lh];exact hb k hk) hf (NN ho z)];have e:kU (uz x free)=bH 1 x.kind.toNat++([0]++(bH 2 x.dT.toNat++(bH 4 ((kg x:Nat):Int).toNat++(fL ((List.range 12).map λj=>if j<dC x then((free+j:Nat):Int)else 0)++List.replicate 8 0)))):=rfl;rw[e,ZW hm,Int.toNat_natCast];simp only[List.append_assoc];rw[List.replicate_append_replicate,show 48-4*dC x+8=56-4*dC x by omega]
theorem ve(hm:dC x<=12)(ho:off+64<=L.length)(hb:∀ k,k<dC x->512*(free+k)+512<=L.length)(h:off+64<=q∨q+w<=off)(h2:∀ k,k<dC x->512*(free+k)+512<=q∨q+w<=512*(free+k)):mM (uy off x free L) q w=mM L q w:=by
 have lh:=py (x:=x) ho;exact(B7 _ _ hm (by rw[lh];exact ho) (λk hk=>by rw[lh];exact hb k hk) h h2).trans (D8 ho h)
theorem NQ(hm:dC x<=12)(ho:off+64<=L.length)(hb:∀ k,k<dC x->512*(free+k)+512<=L.length)(hf:off+64<=512*free){j:Nat}(hj:j<dC x):mM (uy off x free L) (512*(free+j)) 512=gA (mM L (512*(free+j)) 512) 0 (((lj x).drop (512*j)).take 512):=by
 have lh:=py (x:=x) ho;unfold uy;rw[H0 _ _ hm (by rw[lh];exact ho) (λk hk=>by rw[lh];exact hb k hk) hf j hj,D8 ho (.inl (by omega))]
theorem QM{U:Nat->Bool}(hm:dC x<=12)(ho:off+64<=512*n)(hi:512*(af n).aN<=off)(hf:off<=512*free)(hb:∀ k,k<dC x->512*(free+k)+512<=512*n)(a:Im n U L):Im n U (uy off x free L):=
 LW _ _ hm ho hi hf hb (QL ho hi a)
end
theorem yX(f:Nat->Nd){a b:Nat}(h:a<=b):dD f a<=dD f b:=by
 induction b with
 | zero=>rw[Nat.le_zero.mp h];exact Nat.le_refl _
 | succ b ih=>
  by_cases e:a=b+1
  ·rw[e];exact Nat.le_refl _
  ·have:=ih (by omega);show _<=dD f b+dC (f b);omega
structure Fit(n:Nat)(f:Nat->Nd)(s:Nat):Prop where
 n1:128<=n
 n2:n<4428
 cnt:s<=(af n).count
 room:(af n).data+dD f s<=n
 most:∀k,k<s->dC (f k)<=12
structure aaa(n:Nat)(f:Nat->Nd)(m:Nat)(L:Tm.ay):Prop where
 im:Im n (λ_=>false) L
 U4:∀k,1<=k->k<=m->mM L (512*(af n).aN+64*k) 64=kU (uz (f k) ((af n).data+dD f k))
 QN:∀k,k<(af n).count->(k=0∨m<k)->mM L (512*(af n).aN+64*k) 64=List.replicate 64 0
 blk:∀k,1<=k->k<=m->∀j,j<dC (f k)->mM L (512*((af n).data+dD f k+j)) 512=gA (List.replicate 512 0) 0 (((lj (f k)).drop (512*j)).take 512)
 ads:∀b,(af n).data+dD f (m+1)<=b->b<n->mM L (512*b) 512=List.replicate 512 0
theorem H2{N:Nat}(h:o+w<=N):mM (List.replicate N 0) o w=List.replicate w 0:=by
 unfold mM;rw[List.drop_replicate,List.take_replicate,show min w (N-o)=w by omega]
theorem U5{f:Nat->Nd}(F:Fit n f s):aaa n f 0 (List.replicate (512*n) 0):=by
 have hd:(af n).data=98+(n+4095)/4096+n/64:=rfl;have hi:(af n).aN=98+(n+4095)/4096:=rfl;have hc:(af n).count=8*(n/64):=rfl;have:=F.n1;refine⟨⟨List.length_replicate,λj hj=>?_⟩,λk h1 h2=>by omega,λk hk _=>H2 (by omega),λk h1 h2=>by omega,λb h1 h2=>H2 (by omega)⟩;unfold vK;rw[List.getD_eq_getElem?_getD,List.getElem?_replicate]
 split <;> exact Nat.zero_testBit _
theorem U6{f:Nat->Nd}{L:Tm.ay}(F:Fit n f s)(h:m+1<s)(a:aaa n f m L):aaa n f (m+1) (uy (512*(af n).aN+64*(m+1)) (f (m+1)) ((af n).data+dD f (m+1)) L):=by
 have hd:(af n).data=98+(n+4095)/4096+n/64:=rfl;have hi:(af n).aN=98+(n+4095)/4096:=rfl;have hc:(af n).count=8*(n/64):=rfl;have:=F.n1;have U7:=F.cnt;have zF:=F.room;have hm:=F.most (m+1) h;have mono:=yX f (show m+1+1<=s by omega);have es:dD f (m+1+1)=dD f (m+1)+dC (f (m+1)):=rfl;have hL:=a.im.len;have ho:512*(af n).aN+64*(m+1)+64<=512*n:=by omega
 have hb:∀k,k<dC (f (m+1))->512*((af n).data+dD f (m+1)+k)+512<=512*n:=λk hk=>by omega
 have hf:512*(af n).aN+64*(m+1)+64<=512*((af n).data+dD f (m+1)):=by omega
 have CH:512*(af n).aN+64*(m+1)+64<=L.length:=by omega
 have mQ:∀k,k<dC (f (m+1))->512*((af n).data+dD f (m+1)+k)+512<=L.length:=λk hk=>by rw[hL];exact hb k hk
 refine⟨QM hm ho (by omega) (by omega) hb a.im,λk h1 h2=>?_,λk hk h2=>?_,λk h1 h2 j hj=>?_,λb h1 h2=>?_⟩
 ·by_cases e:k=m+1
  ·subst e;exact NO hm CH mQ hf (a.QN _ (by omega) (.inr (Nat.lt_succ_self _)))
  ·rw[ve hm CH mQ (by omega) λi hi=>.inr (by omega)];exact a.U4 k h1 (by omega)
 ·rw[ve hm CH mQ (by omega) λi hi=>.inr (by omega)];exact a.QN k hk (by omega)
 ·by_cases e:k=m+1
  ·subst e;rw[NQ hm CH mQ hf hj,a.ads _ (by omega) (by omega)]
  ·have hk:k<=m:=(by omega);have mk:=yX f (show k+1<=m+1 by omega);have ek:dD f (k+1)=dD f k+dC (f k):=rfl;rw[ve hm CH mQ (.inl (by omega)) λi hi=>.inr (by omega)];exact a.blk k h1 hk j hj
 ·rw[ve hm CH mQ (.inl (by omega)) λi hi=>.inl (by omega)];exact a.ads b (by omega) h2
theorem J2{n:Nat}{f:Nat->Nd}{s:Nat}(F:Fit n f s):∀m,m<s->aaa n f m (nX (af n).aN (af n).data f m (List.replicate (512*n) 0))
 | 0,_=>U5 F
 | m+1,h=>U6 F h (J2 F m (by omega))
end Tr
namespace Tr
open Hp Ad Tm
open Sk (bf)
structure Ca(cnt N:Nat)(f:Nat->Nd):Prop where
 cnt:N<=cnt
 n2:2<=N
 nodup:∀k,k<N->(f k).names.Nodup
 leaf:∀k,k<N->(f k).kind≠2->(f k).names=[]/\(f k).aU=[]
 kd:∀k,1<=k->k<N->1<=(f k).kind/\(f k).kind<=3
 par:∀k,2<=k->k<N->(f k).kind=2->∃u:Nat,(f k).up=u/\1<=u/\u<k/\(f u).kind=2/\(k:Int)∈(f u).aU/\(f k).depth=(f u).depth+1
 root:(f 1).kind=2/\(f 1).depth=0/\(f 1).up=1
 own:∀k,1<=k->k<N->∀m:Nat,(m:Int)∈(f k).aU->m<N/\((f m).kind=2->(f m).up=k/\2<=m)
 d32:∀k,k<N->(f k).depth<=32
 d31:∀k,k<N->(f k).names≠[]->(f k).depth<=31
theorem LX{N N' d:Nat}{f f':Nat->Nd}{nm:Tm.ay}(r:Ca cnt N f)(hd:1<=d/\d<N)(hk:(f d).kind=2)(NR:(f d).depth<=31)(wP:nm ∉ (f d).names)(hN':N<=N'/\N'<=cnt)
  (same:∀k,k<N->(f' k).kind=(f k).kind/\(f' k).depth=(f k).depth/\(f' k).up=(f k).up)
  (eS:∀k,k<N->k≠d->(f' k).names=(f k).names/\(f' k).aU=(f k).aU)
  (at_:(f' d).names=(f d).names++[nm]/\(f' d).aU=(f d).aU++[(q:Int)])
  (hq:(q<N/\(f q).kind≠2/\N'=N)∨(q=N/\N'=N+1/\(f' N).names=[]/\(f' N).aU=[]/\(1<=(f' N).kind/\(f' N).kind<=3)/\(f' N).depth=(f d).depth+1/\((f' N).kind=2->(f' N).up=d))):Ca cnt N' f':=by
 have n2:=r.n2
 have cs:∀k,k<N'->k<N∨(k=N/\N'=N+1/\q=N/\(f' N).names=[]/\(f' N).aU=[]/\(1<=(f' N).kind/\(f' N).kind<=3)/\(f' N).depth=(f d).depth+1/\((f' N).kind=2->(f' N).up=d)):=λk hk=>by
  by_cases h:k<N
  ·exact .inl h
  ·rcases hq with h'|h'
   ·omega
   ·exact .inr ⟨by omega,h'.2.1,h'.1,h'.2.2⟩
 have sub:∀k,k<N->∀x,x∈(f k).aU->x∈(f' k).aU:=λk hk x hx=>by
  by_cases e:k=d
  ·subst e;rw[at_.2];exact List.mem_append_left _ hx
  ·rw[(eS k hk e).2];exact hx
 refine⟨hN'.2,by omega,λk hk=>?_,λk hk fB=>?_,λk h1 hk=>?_,λk h2 hk h=>?_,?_,λk h1 hk m hm=>?_,λk hk=>?_,λk hk fB=>?_⟩
 ·rcases cs k hk with h|⟨rfl,h⟩
  ·by_cases e:k=d
   ·subst e;rw[at_.1];refine List.nodup_append.mpr ⟨r.nodup k h,by simp,λa ha b hb=>?_⟩;rw[List.mem_singleton.mp hb];exact λy=>wP (y▸ha)
   ·rw[(eS k h e).1];exact r.nodup k h
  ·rw[h.2.2.1];exact List.nodup_nil
 ·rcases cs k hk with h|⟨rfl,h⟩
  ·by_cases e:k=d
   ·subst e;exact absurd ((same k h).1.trans hk) fB
   ·rw[(eS k h e).1,(eS k h e).2];exact r.leaf k h λy=>fB ((same k h).1.trans y)
  ·exact⟨h.2.2.1,h.2.2.2.1⟩
 ·rcases cs k hk with h|⟨rfl,h⟩
  ·rw[(same k h).1];exact r.kd k h1 h
  ·exact h.2.2.2.2.1
 ·rcases cs k hk with h'|⟨rfl,h'⟩
  ·rw[(same k h').1]at h;obtain⟨u,a,b,c,d',e,g⟩:=r.par k h2 h' h;exact⟨u,by rw[(same k h').2.2];exact a,b,c,by rw[(same u (by omega)).1];exact d',sub u (by omega) _ e,by rw[(same k h').2.1,(same u (by omega)).2.1];exact g⟩
  ·refine⟨d,h'.2.2.2.2.2.2 h,hd.1,hd.2,by rw[(same d hd.2).1];assumption,?_,by rw[(same d hd.2).2.1];exact h'.2.2.2.2.2.1⟩;rw[at_.2,h'.2.1];exact List.mem_append_right _ (List.mem_singleton.mpr rfl)
 ·have s1:=same 1 (by omega);rw[s1.1,s1.2.1,s1.2.2];exact r.root
 ·rcases cs k hk with h|⟨rfl,h⟩
  ·have Db:(m:Int)∈(f k).aU->m<N'/\((f' m).kind=2->(f' m).up=k/\2<=m):=λhm=>by
    have:=r.own k h1 h m hm;exact⟨by omega,λy=>by rw[(same m this.1).2.2];exact this.2 ((same m this.1).1.symm.trans y)⟩
   by_cases e:k=d
   ·subst e;rw[at_.2]at hm
    rcases List.mem_append.mp hm with hm|hm
    ·exact Db hm
    ·have e:m=q:=(by have:=List.mem_singleton.mp hm;omega);subst e
     rcases hq with h'|h'
     ·exact⟨by omega,λy=>absurd ((same m h'.1).1.symm.trans y) h'.2.1⟩
     ·have e:=h'.1;subst e;exact⟨by omega,λy=>⟨h'.2.2.2.2.2.2 y,n2⟩⟩
   ·rw[(eS k h e).2]at hm;exact Db hm
  ·rw[h.2.2.2.1]at hm;cases hm
 ·rcases cs k hk with h|⟨rfl,h⟩
  ·rw[(same k h).2.1];exact r.d32 k h
  ·rw[h.2.2.2.2.2.1];omega
 ·rcases cs k hk with h|⟨rfl,h⟩
  ·rw[(same k h).2.1]
   by_cases e:k=d
   ·subst e;exact NR
   ·rw[(eS k h e).1]at fB;exact r.d31 k h fB
  ·exact absurd h.2.2.1 fB
theorem Ea : ∀{l:List Tm.ay} {m:List Int} {s:Tm.ay},l.length=m.length->(∀x∈m,1<=x)->kf l m s=0->s ∉ l
 | [],_,_,_,_,_=>by simp
 | x::r,[],_,h,_,_=>by cases h
 | x::r,n::m,s,hl,h1,e=>by
  have e:(if x=s then n else kf r m s)=0:=e
  by_cases c:x=s
  ·rw[if_pos c]at e;have:=h1 n List.mem_cons_self;omega
  ·rw[if_neg c]at e;have ih:=Ea (Nat.succ.inj hl) (λy hy=>h1 y (List.mem_cons_of_mem _ hy)) e;intro y
   rcases List.mem_cons.mp y with y|y
   ·exact c y.symm
   ·exact ih y
theorem QO{s:Ts}(o:nv i s)(r:Ca cnt s.n s.nd)(t:Th):(s.nd (sX t s)).depth<=31:=by
 have:=r.root.2.1;unfold sX
 split
 ·omega
 ·omega
theorem U8{t:Th}{s:Ts}(o:nv i s)(r:Ca cnt s.n s.nd):Ca cnt (stepT cnt i t s).n (stepT cnt i t s).nd:=by
 have xm:=yS o t;have NR:=QO o r t;unfold stepT;generalize oQ i t (s.nd (sX t s))=nm;generalize qe t (s.nd (sX t s))=pv
 split
 ·exact r
 ·rename_i hh;have hh:kf (s.nd (sX t s)).names (s.nd (sX t s)).aU nm=0:=Classical.byContradiction hh;have wP:=Ea (o.len (sX t s)).1 (λx hx=>(o.nu _ xm.2.1 x hx).1) hh
  split
  ·exact r
  ·split
   ·rename_i h;have ho:=xU o t.same h.2;generalize s.eS.getD (jP t.same s.eS.length) 0=q at ho;generalize sX t s=d at xm NR wP;have dq:d≠q:=λy=>by subst y;exact ho.2.2 xm.2.2
    have e:∀k,bP (bP s.nd q (bO (s.nd q))) d (fJ (s.nd d) nm q) k=if k=d then fJ (s.nd d) nm q else if k=q then bO (s.nd q)else s.nd k:=λk=>rfl
    refine LX (d:=d) (q:=q) (nm:=nm) r ⟨xm.1,xm.2.1⟩ xm.2.2 NR wP ⟨Nat.le_refl _,r.cnt⟩ (λk hk=>?_) (λk hk fB=>?_) ?_ (.inl ⟨ho.2.1,ho.2.2,rfl⟩)
    ·show(bP (bP s.nd q (bO (s.nd q))) d (fJ (s.nd d) nm q) k).kind=_/\(bP (bP s.nd q (bO (s.nd q))) d (fJ (s.nd d) nm q) k).depth=_/\(bP (bP s.nd q (bO (s.nd q))) d (fJ (s.nd d) nm q) k).up=_;rw[e]
     split
     ·rename_i y;rw[y];exact⟨rfl,rfl,rfl⟩
     ·split
      ·rename_i y;rw[y];exact⟨rfl,rfl,rfl⟩
      ·exact⟨rfl,rfl,rfl⟩
    ·show(bP (bP s.nd q (bO (s.nd q))) d (fJ (s.nd d) nm q) k).names=_/\(bP (bP s.nd q (bO (s.nd q))) d (fJ (s.nd d) nm q) k).aU=_;rw[e,if_neg fB]
     split
     ·rename_i y;rw[y];exact⟨rfl,rfl⟩
     ·exact⟨rfl,rfl⟩
    ·show(bP (bP s.nd q (bO (s.nd q))) d (fJ (s.nd d) nm q) d).names=_/\(bP (bP s.nd q (bO (s.nd q))) d (fJ (s.nd d) nm q) d).aU=_;rw[e,if_pos rfl];exact⟨rfl,rfl⟩
   ·split
    ·exact r
    ·rename_i hc;generalize hd:sX t s=d at xm NR wP;have dn:d≠s.n:=by omega
     have e:∀k,bP (bP s.nd d (fJ (if bR t=2 then bO (s.nd d)else s.nd d) nm s.n)) s.n (jz t d (s.nd d)) k=if k=s.n then jz t d (s.nd d)else if k=d then fJ (if bR t=2 then bO (s.nd d)else s.nd d) nm s.n else s.nd k:=λk=>rfl
     have nw:(jz t d (s.nd d)).names=[]/\(jz t d (s.nd d)).aU=[]/\(1<=(jz t d (s.nd d)).kind/\(jz t d (s.nd d)).kind<=3)/\(jz t d (s.nd d)).depth=(s.nd d).depth+1/\((jz t d (s.nd d)).kind=2->(jz t d (s.nd d)).up=d):=by
      unfold jz
      split
      ·exact⟨rfl,rfl,⟨by show(1:Int)<=2;decide,by show(2:Int)<=3;decide⟩,rfl,λ_=>rfl⟩
      ·split
       ·exact⟨rfl,rfl,⟨by show(1:Int)<=3;decide,by show(3:Int)<=3;decide⟩,rfl,λy=>absurd (show(3:Int)=2 from y) (by decide)⟩
       ·exact⟨rfl,rfl,⟨by show(1:Int)<=1;decide,by show(1:Int)<=3;decide⟩,rfl,λy=>absurd (show(1:Int)=2 from y) (by decide)⟩
     have ad:(fJ (if bR t=2 then bO (s.nd d)else s.nd d) nm s.n).names=(s.nd d).names++[nm]/\(fJ (if bR t=2 then bO (s.nd d)else s.nd d) nm s.n).aU=(s.nd d).aU++[(s.n:Int)]/\(fJ (if bR t=2 then bO (s.nd d)else s.nd d) nm s.n).depth=(s.nd d).depth/\
       (fJ (if bR t=2 then bO (s.nd d)else s.nd d) nm s.n).kind=(s.nd d).kind/\(fJ (if bR t=2 then bO (s.nd d)else s.nd d) nm s.n).up=(s.nd d).up:=by
      split <;> exact⟨rfl,rfl,rfl,rfl,rfl⟩
     generalize jz t d (s.nd d)=BM at e nw;generalize fJ (if bR t=2 then bO (s.nd d)else s.nd d) nm s.n=Cz at e ad;have eN:bP (bP s.nd d Cz) s.n BM s.n=BM:=(by rw[e,if_pos rfl]);refine LX (d:=d) (q:=s.n) (nm:=nm) r ⟨xm.1,xm.2.1⟩ xm.2.2 NR wP ⟨Nat.le_succ _,by show s.n+1<=cnt;omega⟩ (λk hk=>?_) (λk hk fB=>?_) ?_ (.inr ⟨rfl,rfl,?_⟩)
     ·show(bP (bP s.nd d Cz) s.n BM k).kind=_/\(bP (bP s.nd d Cz) s.n BM k).depth=_/\(bP (bP s.nd d Cz) s.n BM k).up=_;rw[e,if_neg (by omega)]
      split
      ·rename_i y;rw[y];exact⟨ad.2.2.2.1,ad.2.2.1,ad.2.2.2.2⟩
      ·exact⟨rfl,rfl,rfl⟩
     ·show(bP (bP s.nd d Cz) s.n BM k).names=_/\(bP (bP s.nd d Cz) s.n BM k).aU=_;rw[e,if_neg (by omega),if_neg fB];exact⟨rfl,rfl⟩
     ·show(bP (bP s.nd d Cz) s.n BM d).names=_/\(bP (bP s.nd d Cz) s.n BM d).aU=_;rw[e,if_neg dn,if_pos rfl];exact⟨ad.1,ad.2.1⟩
     ·show(bP (bP s.nd d Cz) s.n BM s.n).names=_/\(bP (bP s.nd d Cz) s.n BM s.n).aU=_/\(1<=(bP (bP s.nd d Cz) s.n BM s.n).kind/\(bP (bP s.nd d Cz) s.n BM s.n).kind<=3)/\(bP (bP s.nd d Cz) s.n BM s.n).depth=_/\((bP (bP s.nd d Cz) s.n BM s.n).kind=2->(bP (bP s.nd d Cz) s.n BM s.n).up=_);rw[eN];exact nw
theorem Eb{cnt:Nat}:∀(l:List Th) (i:Nat) (s:Ts),i<=40->nv i s->Ca cnt s.n s.nd->Ca cnt (gJ cnt i l s).n (gJ cnt i l s).nd
 | [],_,_,_,_,h=>h
 | t::r,i,s,hi,o,h=>by
  show Ca cnt (if 40<=i then s else gJ cnt (i+1) r (stepT cnt i t s)).n (if 40<=i then s else gJ cnt (i+1) r (stepT cnt i t s)).nd
  by_cases GX:40<=i
  ·rw[if_pos GX];exact h
  ·rw[if_neg GX];exact Eb r (i+1) _ (by omega) (Az o (by omega)) (U8 o h)
theorem U9(h:128<=n):Ca (Spc.af n).count 2 (bP (λ_=>C6) 1 kE):=by
 have hc:(Spc.af n).count=8*(n/64):=rfl;have e:∀k,k<2->k=0∨k=1:=λk hk=>by omega
 refine⟨by omega,Nat.le_refl _,λk hk=>?_,λk hk fB=>?_,λk h1 hk=>?_,λk h2 hk=>by omega,⟨rfl,rfl,rfl⟩,λk h1 hk m hm=>?_,λk hk=>?_,λk hk fB=>?_⟩
 ·rcases e k hk with rfl|rfl <;> exact List.nodup_nil
 ·rcases e k hk with rfl|rfl
  ·exact⟨rfl,rfl⟩
  ·exact absurd rfl fB
 ·have:k=1:=by omega
  subst this;exact⟨by show(1:Int)<=2;decide,by show(2:Int)<=3;decide⟩
 ·have:k=1:=by omega
  subst this
  cases hm
 ·rcases e k hk with rfl|rfl
  ·show(0:Int)<=32;decide
  ·show(0:Int)<=32;decide
 ·rcases e k hk with rfl|rfl <;> exact absurd rfl fB
theorem Va(h:128<=n)(l:List Th):Ca (Spc.af n).count (iq n l).n (iq n l).nd:=
 Eb l 0 ⟨2,bP (λ_=>C6) 1 kE,[1],[],n-(Spc.af n).data⟩ (by decide) ⟨bj.n2,bj.nn,bj.dn,bj.dr,bj.XC,bj.dl,bj.ol,bj.root,bj.len,bj.Nw,bj.HM,bj.nm,bj.nu⟩ (U9 h)
theorem QP(h:128<=n)(l:List Th):∃j,j<=40/\nv j (iq n l)/\(Spc.af n).data+dD (iq n l).nd (iq n l).n<=n:=by
 have hd:(Spc.af n).data=98+(n+4095)/4096+n/64:=rfl;obtain⟨j,hj,o,e⟩:=DX (cnt:=(Spc.af n).count) l 0 ⟨2,bP (λ_=>C6) 1 kE,[1],[],n-(Spc.af n).data⟩ ⟨bj.n2,bj.nn,bj.dn,bj.dr,bj.XC,bj.dl,bj.ol,bj.root,bj.len,bj.Nw,bj.HM,bj.nm,bj.nu⟩ (Nat.zero_le _);refine⟨j,hj,o,?_⟩;have b0:dD (bP (λ_=>C6) 1 kE) 2=0:=by decide
 have e:dD (iq n l).nd (iq n l).n+(iq n l).left=dD (bP (λ_=>C6) 1 kE) 2+(n-(Spc.af n).data):=e;omega
end Tr
namespace Tr
open Hp Ad Tm Bt Spc Re Av
open In (kU mY lU kB)
open Bm (Im P6 Z0 num nS Wf par xD Bk Fz Bl xE sub root Xq Bp)
open Fi (Bz Bw Hr pc Hs uY)
open Ino (getM)
open Sk (bf)
def qh(n free:Nat):Nat->Tm.ay->Tm.ay
 | 0,L=>L
 | i+1,L=>if i<free∨n<=i then oH (qh n free i L) (98*4096+i) true else qh n free i L
def x9(n free m:Nat):Nat->Bool:=λj=>decide (j<m) && (decide (j<free) || decide (n<=j))
theorem NS{free:Nat}(h:m<free∨n<=m)(j:Nat):P6 (x9 n free m) m j=x9 n free (m+1) j:=by
 unfold P6 x9
 by_cases e:j=m
 ·subst e;rw[if_pos rfl,decide_eq_true (show j<j+1 by omega),Bool.true_and]
  rcases h with h|h
  ·rw[decide_eq_true h];rfl
  ·rw[decide_eq_true h,Bool.or_true]
 ·have:decide (j<m+1)=decide (j<m):=decide_eq_decide.mpr (by omega);rw[if_neg e,this]
theorem J3{free:Nat}(h:¬ (m<free∨n<=m))(j:Nat):x9 n free m j=x9 n free (m+1) j:=by
 unfold x9
 by_cases e:j=m
 ·subst e;rw[decide_eq_false (show ¬j<free by omega),decide_eq_false (show ¬n<=j by omega),Bool.or_false,Bool.and_false,Bool.and_false]
 ·have:decide (j<m+1)=decide (j<m):=decide_eq_decide.mpr (by omega);rw[this]
theorem Vb{L:Tm.ay}{v:UInt8}(h:p<q∨q+w<=p):mM (L.set p v) q w=mM L q w:=by
 refine List.ext_getElem? λi=>?_
 by_cases hi:i<w
 ·rw[sG hi,sG hi,List.getElem?_set_ne (by omega)]
 ·unfold mM;rw[List.getElem?_take,List.getElem?_take,if_neg hi,if_neg hi]
theorem H3{n free:Nat}{L:Tm.ay}(hn:128<=n/\n<4428)(a:Im n (λ_=>false) L):∀m,m<=4096*((af n).aN-98)->Im n (x9 n free m) (qh n free m L)
 | 0,_=>a.congr λj=>by unfold x9;rw[decide_eq_false (Nat.not_lt_zero _)];rfl
 | m+1,hm=>by
  have ih:=H3 (free:=free) hn a m (by omega);show Im n _ (if m<free∨n<=m then oH (qh n free m L) (98*4096+m) true else qh n free m L)
  split
  ·rename_i h;exact(ih.put hn (by omega)).congr (NS h)
  ·rename_i h;exact ih.congr (J3 h)
theorem Ec{n free:Nat}{L:Tm.ay}{q w:Nat}(hq:512*(af n).aN<=q):∀m,m<=4096*((af n).aN-98)->mM (qh n free m L) q w=mM L q w
 | 0,_=>rfl
 | m+1,hm=>by
  have ih:=Ec (n:=n) (free:=free) (L:=L) (w:=w) hq m (by omega);have h98:98<=(af n).aN:=by show 98<=98+_;omega
  show mM (if m<free∨n<=m then oH (qh n free m L) (98*4096+m) true else qh n free m L) q w=_
  split
  ·unfold oH;rw[Vb (.inl (by omega)),ih]
  ·exact ih
def Cb(n:Nat)(s:Ts):Tm.ay:=qh n ((af n).data+dD s.nd s.n) (4096*((af n).aN-98)) (nX (af n).aN (af n).data s.nd (s.n-1) (List.replicate (512*n) 0))
structure nN(n:Nat)(s:Ts)(L:Tm.ay):Prop where
 len:L.length=512*n
 bit:∀j,j<n->Av.bit (Z0 L) j=decide (j<(af n).data+dD s.nd s.n)
 U4:∀k,1<=k->k<s.n->mM L (512*(af n).aN+64*k) 64=kU (uz (s.nd k) ((af n).data+dD s.nd k))
 QN:∀k,s.n<=k->k<(af n).count->mM L (512*(af n).aN+64*k) 64=List.replicate 64 0
 blk:∀k,1<=k->k<s.n->∀j,j<dC (s.nd k)->mM L (512*((af n).data+dD s.nd k+j)) 512=gA (List.replicate 512 0) 0 (((lj (s.nd k)).drop (512*j)).take 512)
theorem H4{s:Ts}(F:Fit n s.nd s.n)(h2:2<=s.n):nN n s (Cb n s):=by
 have a:=J2 F (s.n-1) (by omega);have h1:=F.n1;have h3:=F.n2;have hi:(af n).aN=98+(n+4095)/4096:=rfl;have hd:(af n).data=98+(n+4095)/4096+n/64:=rfl;have b:=H3 (free:=(af n).data+dD s.nd s.n) ⟨h1,h3⟩ a.im (4096*((af n).aN-98)) (Nat.le_refl _);have sl:∀q w,512*(af n).aN<=q->mM (Cb n s) q w=mM (nX (af n).aN (af n).data s.nd (s.n-1) (List.replicate (512*n) 0)) q w:=λq w hq=>Ec hq _ (Nat.le_refl _);refine⟨b.len,λj hj=>?_,λk k1 k2=>?_,λk k1 k2=>?_,λk k1 k2 j hj=>?_⟩
 ·refine(Im.bit b ⟨h1,h3⟩ hj).trans ?_;unfold x9;rw[decide_eq_true (show j<4096*((af n).aN-98) by omega),decide_eq_false (show ¬n<=j by omega),Bool.or_false,Bool.true_and]
 ·rw[sl _ _ (by omega)];exact a.U4 k k1 (by omega)
 ·rw[sl _ _ (by omega)];exact a.QN k k2 (by omega)
 ·rw[sl _ _ (by omega)];exact a.blk k k1 (by omega) j hj
theorem ya{x:Nd}{free:Nat}(hi:i<12):(uz x free).getD (3+i) 0=if i<dC x then((free+i:Nat):Int)else 0:=by
 unfold uz;rw[List.getD_eq_getElem?_getD,List.getElem?_append_right (by show 3<=3+i;omega)];show(((List.range 12).map λj=>if j<dC x then((free+j:Nat):Int)else 0)[3+i-3]?).getD 0=_;rw[show 3+i-3=i by omega,List.getElem?_map,List.getElem?_range hi];rfl
def vw(x:Nd):Prop:=(x.kind=2->2<=x.dT)/\(x.kind=3->1<=x.dT)
theorem ZX(t:Th)(d:Nat)(x:Nd):vw (jz t d x):=by
 unfold jz
 split
 ·exact⟨λ_=>by show(2:Int)<=2;decide,λy=>absurd (show(2:Int)=3 from y) (by decide)⟩
 ·split
  ·exact⟨λy=>absurd (show(3:Int)=2 from y) (by decide),λ_=>by show(1:Int)<=1;decide⟩
  ·exact⟨λy=>absurd (show(1:Int)=2 from y) (by decide),λy=>absurd (show(1:Int)=3 from y) (by decide)⟩
theorem Vc{t:Th}{s:Ts}(h:∀ k,vw (s.nd k)):∀k,vw ((stepT cnt i t s).nd k):=by
 have ad:∀{y:Nd} {nm:Tm.ay} {m:Nat},vw y->vw (fJ y nm m):=λh=>h;have lk:∀{y:Nd},vw y->vw (bO y):=fun {y} h=>⟨λk=>by have:=h.1 k;show 2<=y.dT+1;omega,λk=>by have:=h.2 k;show 1<=y.dT+1;omega⟩
 have up:∀{f:Nat->Nd} {d:Nat} {y:Nd},(∀k,vw (f k))->vw y->∀k,vw (bP f d y k):=fun {f d y} hf hy k=>by
  by_cases e:k=d
  ·subst e;rw[dY];exact hy
  ·rw[cK _ _ e];exact hf k
 unfold stepT
 split
 ·exact h
 ·split
  ·exact h
  ·split
   ·exact up (up h (lk (h _))) (ad (h _))
   ·split
    ·exact h
    ·refine up (up h (ad ?_)) (ZX _ _ _)
     split
     ·exact lk (h _)
     ·exact h _
theorem Ed{cnt:Nat}:∀(l:List Th) (i:Nat) (s:Ts),(∀k,vw (s.nd k))->∀k,vw ((gJ cnt i l s).nd k)
 | [],_,_,h=>h
 | t::r,i,s,h=>by
  show ∀k,vw ((if 40<=i then s else gJ cnt (i+1) r (stepT cnt i t s)).nd k)
  split
  ·exact h
  ·exact Ed r (i+1) _ (Vc h)
theorem Vd(n:Nat)(l:List Th):∀k,vw ((iq n l).nd k):=Ed l 0 _ λk=>by
 show vw (bP (λ_=>C6) 1 kE k)
 by_cases e:k=1
 ·subst e;rw[dY];exact⟨λ_=>by decide,λy=>absurd y (by decide)⟩
 ·rw[cK _ _ e];exact⟨λy=>absurd y (by decide),λy=>absurd y (by decide)⟩
structure Good(n:Nat)(s:Ts):Prop where
 n1:128<=n
 n2:n<1128
 tr:Ca (af n).count s.n s.nd
 ok:∃j,j<=40/\nv j s
 sum:(af n).data+dD s.nd s.n<=n
 kt:∀k,vv (s.nd k)
 lk:∀k,vw (s.nd k)
theorem vf(h:128<=n/\n<1128)(l:List Th):Good n (iq n l):=by
 obtain⟨j,hj,o,e⟩:=QP h.1 l;exact⟨h.1,h.2,Va h.1 l,⟨j,hj,o⟩,e,U1 n l,Vd n l⟩
section
variable{n : Nat}{s : Ts}
theorem Good.len(g:Good n s)(k:Nat):(s.nd k).names.length=(s.nd k).aU.length/\(s.nd k).names.length<=40:=by
 obtain⟨j,hj,o⟩:=g.ok;have:=o.len k;exact⟨this.1,by omega⟩
theorem Good.nm(g:Good n s){k:Nat}(hk:k<s.n):∀x∈(s.nd k).names,bf x=true:=by
 obtain⟨j,hj,o⟩:=g.ok;exact o.nm k hk
theorem Good.nu(g:Good n s){k:Nat}(hk:k<s.n):∀x∈(s.nd k).aU,1<=x/\x<(s.n:Int):=by
 obtain⟨j,hj,o⟩:=g.ok;exact o.nu k hk
theorem Good.HM(g:Good n s)(k:Nat):0<=(s.nd k).dT/\(s.nd k).dT<=42:=by
 obtain⟨j,hj,o⟩:=g.ok;have:=o.HM k;omega
theorem Good.NT(g:Good n s)(k:Nat):dC (s.nd k)<=3:=by
 have:=(g.len k).2;have:=g.kt k;unfold dC
 split
 ·rename_i h;have:=(g.kt k).2.2 h;omega
 ·omega
theorem Good.fit(g:Good n s):Fit n s.nd s.n:=⟨g.n1,by have:=g.n2;omega,g.tr.cnt,g.sum,λk _=>by have:=g.NT k;omega⟩
theorem Good.NU(g:Good n s):Ab n:=⟨g.n1,by have:=g.n2;omega⟩
theorem Good.free(g:Good n s){k:Nat}(hk:k<s.n):(af n).data+dD s.nd k+dC (s.nd k)<=(af n).data+dD s.nd s.n:=by
 have:=yX s.nd (show k+1<=s.n by omega);have e:dD s.nd (k+1)=dD s.nd k+dC (s.nd k):=rfl;omega
theorem Good.size(g:Good n s){k:Nat}(hk:k<s.n):((s.nd k).kind=1->kg (s.nd k)=0)/\((s.nd k).kind=2->kg (s.nd k)=512*dC (s.nd k))/\((s.nd k).kind=3->kg (s.nd k)=(s.nd k).text.length):=by
 refine⟨λh=>?_,λh=>?_,λh=>?_⟩
 ·unfold kg;rw[if_neg (by omega),(g.tr.leaf k hk (by omega)).1];rfl
 ·unfold kg dC;rw[if_neg (by omega),if_neg (by omega)];omega
 ·unfold kg;rw[if_pos h]
theorem Good.may(g:Good n s){k:Nat}(k1:1<=k)(hk:k<s.n):lU (uz (s.nd k) ((af n).data+dD s.nd k))=true:=by
 have h1:=g.n2;have h2:=g.sum;have h3:=g.free hk;have h4:=g.NT k;have kd:=g.tr.kd k k1 hk;have sz:=g.size hk;have ln:=g.HM k;have lk:=g.lk k;have kt:=(g.kt k).2.2;unfold lU;rw[Bool.and_eq_true]
 constructor
 ·rw[List.all_eq_true];intro x hx
  have hx:x∈(List.range 12).map λj=>if j<dC (s.nd k)then(((af n).data+dD s.nd k+j:Nat):Int)else 0:=hx
  obtain⟨j,hj,rfl⟩:=List.mem_map.mp hx;unfold kB;rw[Bool.and_eq_true,decide_eq_true_eq,decide_eq_true_eq]
  split <;> omega
 ·show In.kindOk (s.nd k).kind (s.nd k).dT ((kg (s.nd k):Nat):Int) _=true;unfold In.kindOk;rw[if_neg (by omega)]
  rcases(by omega:(s.nd k).kind=1∨(s.nd k).kind=2∨(s.nd k).kind=3)with h|h|h
  ·rw[if_pos h,sz.1 h];simp only[Bool.and_eq_true,decide_eq_true_eq];omega
  ·rw[if_neg (by omega),if_pos h,sz.2.1 h];have:=lk.1 h;simp only[Bool.and_eq_true,decide_eq_true_eq];omega
  ·rw[if_neg (by omega),if_neg (by omega),if_pos h,sz.2.2 h];have:=lk.2 h;have:=kt h;simp only[Bool.and_eq_true,decide_eq_true_eq];omega
end
theorem Ve{L:Tm.ay}{a v:Nat}(h:b+v<=w):mM (mM L a w) b v=mM L (a+b) v:=by
 unfold mM;rw[List.drop_take,List.take_take,List.drop_drop,Nat.min_eq_left (by omega)]
theorem QQ(L:Tm.ay)(k:Nat):Z0 L k=mM L (512*k) 512:=by unfold Z0 mM;rw[Nat.mul_comm]
section
variable{n : Nat}{s : Ts}{L : Tm.ay}
theorem QR(d:Ab n)(hk:k<(af n).count):((Z0 L (Bw n k)).drop (64*(k%8))).take 64=mM L (512*(af n).aN+64*k) 64:=by
 rw[QQ];show mM (mM L (512*Bw n k) 512) (64*(k%8)) 64=_;rw[Ve (by omega)];congr 1;unfold Bw;omega
theorem Good.QS(g:Good n s)(D:nN n s L){k:Nat}(k1:1<=k)(hk:k<s.n):Bz n (Z0 L) k=(uz (s.nd k) ((af n).data+dD s.nd k),0):=by
 have:=g.tr.cnt;unfold Bz;rw[QR g.NU (by omega),D.U4 k k1 hk];exact Hs (zG _ _) (g.may k1 hk)
theorem Good.Vf(g:Good n s)(D:nN n s L){k:Nat}(k1:s.n<=k)(hk:k<(af n).count):Bz n (Z0 L) k=(List.replicate 15 0,0):=by
 unfold Bz;rw[QR g.NU hk,D.QN k k1 hk];decide +kernel
theorem Good.QT(g:Good n s){Z:Nat->Tm.ay}{k:Nat}:∀q,q<nS->num Z (uz (s.nd k) ((af n).data+dD s.nd k)) q=if q<dC (s.nd k)then(af n).data+dD s.nd k+q else 0:=by
 have h4:=g.NT k;refine Xq (λq hq e=>?_) λq t p hq e ih=>?_
 ·rw[Bl e];unfold root
  rcases xD e with h|rfl|rfl
  ·rw[if_pos h,ya (by omega)]
   split
   ·rw[Int.toNat_natCast]
   ·rfl
  ·rw[if_neg (by decide),if_pos rfl,show 13=3+10 from rfl,ya (by decide),if_neg (by omega),if_neg (by omega)];rfl
  ·rw[if_neg (by decide),if_neg (by decide),show 14=3+11 from rfl,ya (by decide),if_neg (by omega),if_neg (by omega)];rfl
 ·have a:=Fz e hq;have b:=Bk e hq;rw[xE e hq,ih,if_neg (show ¬t<dC (s.nd k) by omega),if_neg (show ¬q<dC (s.nd k) by omega)];unfold sub;rw[if_pos rfl]
theorem Good.wf(g:Good n s)(D:nN n s L){k:Nat}(hk:k<s.n):Wf n (Z0 L) (uz (s.nd k) ((af n).data+dD s.nd k)):=by
 have h2:=g.sum;have h3:=g.free hk;have hd:=g.NU.data;refine⟨zG _ _,λi h1 h2=>?_,λq hq h0=>?_,λq q' hq Xx h0 e=>?_⟩
 ·rw[show i=3+(i-3) by omega,ya (by omega)]
  split <;> omega
 ·rw[g.QT q hq]at h0 ⊢
  by_cases h:q<dC (s.nd k)
  ·rw[if_pos h]at h0 ⊢;exact⟨by omega,by omega,by rw[D.bit _ (by omega)];exact decide_eq_true (by omega)⟩
  ·rw[if_neg h]at h0;exact absurd rfl h0
 ·rw[g.QT q hq]at h0 e;rw[g.QT q' Xx]at e
  by_cases h:q<dC (s.nd k)
  ·rw[if_pos h]at e
   split at e <;> omega
  ·rw[if_neg h]at h0;exact absurd rfl h0
theorem Good.ZV(g:Good n s)(D:nN n s L){k q:Nat}(k1:1<=k)(hk:k<s.n)(hq:q<dC (s.nd k)):pc (Z0 L) (uz (s.nd k) ((af n).data+dD s.nd k)) q=gA (List.replicate 512 0) 0 (((lj (s.nd k)).drop (512*q)).take 512):=by
 have hd:=g.NU.data;have h4:=g.NT k;unfold pc;rw[g.QT q (by unfold nS;omega),if_pos hq,if_neg (by omega),QQ];exact D.blk k k1 hk q hq
theorem Good.get(g:Good n s)(D:nN n s L){T:TM}(a:Av n (Z0 L) T){k:Nat}(k1:1<=k)(hk:k<s.n):getM T (af n) k=(uz (s.nd k) ((af n).data+dD s.nd k),0):=by
 have:=g.tr.cnt;rw[uY a g.NU k1 (by omega),g.QS D k1 hk]
theorem Good.ZY(g:Good n s)(D:nN n s L){T:TM}(a:Av n (Z0 L) T){k:Nat}(k1:s.n<=k)(hk:k<(af n).count):getM T (af n) k=(List.replicate 15 0,0):=by
 have:=g.tr.n2;rw[uY a g.NU (by omega) hk,g.Vf D k1 hk]
end
end Tr
namespace Tr
open Hp Ad Tm Bt Spc Re Av
open Bm (Z0 num nS Wf)
open Fi (Bz pc uY fF jE BA yF)
open Ino (getM)
open Sk (bf form kW pT pU gW E)
open Di (Cl P8 BB Lz pos findD Hv cX bD gZ sortE k9 nR FH DQ JK)
def IA : List Tm.ay->List Int->List Cl
 | s::r,v::m=>(v.toNat,s)::IA r m
 | _,_=>[]
theorem wH : ∀{l:List Tm.ay} {m:List Int},l.length=m.length->(IA l m).length=l.length
 | [],[],_=>rfl
 | s::r,v::m,h=>by
  show(IA r m).length+1=r.length+1;rw[wH (Nat.succ.inj h)]
theorem yY : ∀{l:List Tm.ay} {m:List Int},l.length=m.length->((List.range l.length).flatMap λj=>form (m.getD j 0).toNat (l.getD j []))=Sk.blk (IA l m)
 | [],[],_=>rfl
 | s::r,v::m,h=>by
  rw[List.length_cons,List.range_succ_eq_map,List.flatMap_cons,List.flatMap_map];have ih:=yY (l:=r) (m:=m) (Nat.succ.inj h);show form v.toNat s++((List.range r.length).flatMap λj=>form (m.getD j 0).toNat (r.getD j []))=form v.toNat s++Sk.blk (IA r m);rw[ih]
theorem Cc : ∀{l:List Tm.ay} {m:List Int},(∀s∈l,bf s=true)->(∀v∈m,1<=v/\v<4294967296)->∀x∈IA l m,Sk.Good x
 | [],_,_,_,x,hx=>by cases hx
 | s::r,[],_,_,x,hx=>by cases hx
 | s::r,v::m,h1,h2,x,hx=>by
  have hx:x∈(v.toNat,s)::IA r m:=hx
  rcases List.mem_cons.mp hx with rfl|hx
  ·have:=h2 v List.mem_cons_self;exact .inr ⟨by show 1<=v.toNat;omega,by show v.toNat<4294967296;omega,h1 s List.mem_cons_self⟩
  ·exact Cc (λy hy=>h1 y (List.mem_cons_of_mem _ hy)) (λy hy=>h2 y (List.mem_cons_of_mem _ hy)) x hx
def mH(k:Nat):List Cl:=List.replicate k (0,[])
theorem J4(k:Nat):∀x∈mH k,Sk.Good x:=λx hx=>by rw[List.eq_of_mem_replicate hx];exact .inl ⟨rfl,rfl⟩
def sH(x:Nd):List Cl:=IA x.names x.aU++mH (16*dC x-x.names.length)
theorem Vg(a b:List Cl):Sk.blk (a++b)=Sk.blk a++Sk.blk b:=by unfold Sk.blk;rw[List.flatMap_append]
theorem Ee : ∀k,Sk.blk (mH k)=List.replicate (32*k) 0
 | 0=>rfl
 | k+1=>by
  show List.replicate 32 0++Sk.blk (mH k)=_;rw[Ee k,List.replicate_append_replicate,show 32+32*k=32*(k+1) by omega]
theorem H5 : ∀(H:List Cl) (a:Nat),(∀x∈H,Sk.Good x)->Sk.blk (H.drop a)=(Sk.blk H).drop (32*a)
 | H,0,_=>by rw[Nat.mul_zero,List.drop_zero,List.drop_zero]
 | [],a+1,_=>by rw[List.drop_nil];show[]=List.drop _ [];rw[List.drop_nil]
 | x::r,a+1,g=>by
  have f:=kW (g x List.mem_cons_self);rw[List.drop_succ_cons,H5 r a λy hy=>g y (List.mem_cons_of_mem _ hy),pT,show 32*(a+1)=32+32*a by omega,<-List.drop_drop,<-f,List.drop_left]
theorem H6 : ∀(H:List Cl) (a:Nat),(∀x∈H,Sk.Good x)->Sk.blk (H.take a)=(Sk.blk H).take (32*a)
 | H,0,_=>by rw[Nat.mul_zero,List.take_zero,List.take_zero];rfl
 | [],a+1,_=>by rw[List.take_nil];show[]=List.take _ [];rw[List.take_nil]
 | x::r,a+1,g=>by
  have f:=kW (g x List.mem_cons_self);rw[List.take_succ_cons,pT,H6 r a λy hy=>g y (List.mem_cons_of_mem _ hy),pT,List.take_append,f,List.take_of_length_le (show(form x.1 x.2).length<=32*(a+1) by omega),show 32*(a+1)-32=32*a by omega]
theorem Vh{H:List Cl}(q:Nat)(g:∀ x ∈ H,Sk.Good x):Sk.blk (BB H q)=mM (Sk.blk H) (512*q) 512:=by
 unfold BB mM;rw[H6 _ _ λx hx=>g x (List.mem_of_mem_drop hx),H5 _ _ g,show 32*(16*q)=512*q by omega]
theorem Vi{D:Tm.ay}(h:512*q+512<=D.length+c):mM (D++List.replicate c 0) (512*q) 512=gA (List.replicate 512 0) 0 ((D.drop (512*q)).take 512):=by
 have lc:((D.drop (512*q)).take 512).length=min 512 (D.length-512*q):=by rw[List.length_take,List.length_drop]
 refine List.ext_getElem? λi=>?_;rw[x7 (by rw[lc,List.length_replicate];omega),lc]
 by_cases hi:i<512
 ·rw[sG hi,List.getElem?_append]
  by_cases h1:512*q+i<D.length
  ·rw[if_pos h1,if_pos (by omega),Nat.sub_zero,List.getElem?_take,if_pos hi,List.getElem?_drop]
  ·rw[if_neg h1,if_neg (by omega),List.getElem?_replicate,List.getElem?_replicate,if_pos (by omega),if_pos hi]
 ·rw[if_neg (by omega),List.getElem?_replicate,if_neg hi];unfold mM;rw[List.getElem?_take,if_neg hi]
theorem Ef(c:Tm.ay):∀k,pos c (mH k)=none
 | 0=>rfl
 | k+1=>by
  show(if(0:Nat)≠0/\([]:Tm.ay)=c then some 0 else(pos c (mH k)).map (· + 1))=none;rw[if_neg (λy=>y.1 rfl),Ef c k];rfl
def ZZ(H:List Cl):Option Nat->Int×Int
 | some p=>((((H.getD p (0,[])).1:Nat):Int),0)
 | none=>(0,160)
theorem LY(c:Tm.ay)(k:Nat):∀{l:List Tm.ay} {m:List Int},l.length=m.length->(∀v∈m,1<=v)->ZZ (IA l m++mH k) (pos c (IA l m++mH k))=(kf l m c,if kf l m c=0 then 160 else 0)
 | [],[],_,_=>by
  show ZZ (mH k) (pos c (mH k))=_;rw[Ef];rfl
 | s::r,v::m,h,h1=>by
  have ih:=LY c k (l:=r) (m:=m) (Nat.succ.inj h) λy hy=>h1 y (List.mem_cons_of_mem _ hy);have hv:=h1 v List.mem_cons_self;show ZZ ((v.toNat,s)::(IA r m++mH k)) (if v.toNat≠0/\s=c then some 0 else(pos c (IA r m++mH k)).map (· + 1))=((if s=c then v else kf r m c),if(if s=c then v else kf r m c)=0 then 160 else 0)
  by_cases e:s=c
  ·rw[if_pos ⟨by omega,e⟩,if_pos e,if_neg (by omega)];show(((v.toNat:Nat):Int),(0:Int))=_;rw[Int.toNat_of_nonneg (by omega)]
  ·rw[if_neg (λy=>e y.2),if_neg e,<-ih]
   cases pos c (IA r m++mH k) <;> rfl
theorem Cd : ∀k i,gW i (mH k)=[]
 | 0,_=>rfl
 | k+1,i=>by
  show(if(0:Nat)=0 then gW (i+1) (mH k)else _)=[];rw[if_pos rfl,Cd k]
theorem H7(k:Nat):∀{l:List Tm.ay} {m:List Int} (i:Nat),l.length=m.length->(∀v∈m,1<=v)->(gW i (IA l m++mH k)).map (λc=>c.fu)=m
 | [],[],i,_,_=>by show(gW i (mH k)).map _=[];rw[Cd];rfl
 | s::r,v::m,i,h,h1=>by
  have ih:=H7 k (l:=r) (m:=m) (i+1) (Nat.succ.inj h) λy hy=>h1 y (List.mem_cons_of_mem _ hy);have hv:=h1 v List.mem_cons_self;show(if v.toNat=0 then gW (i+1) (IA r m++mH k)else(⟨i,s,v.toNat⟩:E)::gW (i+1) (IA r m++mH k)).map _=v::m;rw[if_neg (by omega),List.map_cons,ih];congr 1;exact Int.toNat_of_nonneg (by omega)
section
variable{n : Nat}{s : Ts}{L : Tm.ay}{T : TM}
theorem Good.wI(g:Good n s){k:Nat}(hk:k<s.n):∀x∈sH (s.nd k),Sk.Good x:=λx hx=>by
 have:=g.n2;have hc:=g.tr.cnt;have U7:(af n).count=8*(n/64):=rfl
 rcases List.mem_append.mp hx with hx|hx
 ·exact Cc (g.nm hk) (λv hv=>by have:=g.nu hk v hv;omega) x hx
 ·exact J4 _ x hx
theorem Good.NV(g:Good n s){k:Nat}(h2:(s.nd k).kind=2):(sH (s.nd k)).length=16*dC (s.nd k):=by
 have hl:=g.len k;have hb:dC (s.nd k)=((s.nd k).names.length+15)/16:=by unfold dC;rw[if_neg (by omega)]
 unfold sH mH;rw[List.length_append,wH hl.1,List.length_replicate];omega
theorem Good.dir(g:Good n s)(D:nN n s L){k:Nat}(k1:1<=k)(hk:k<s.n)(h2:(s.nd k).kind=2):P8 (Z0 L) (uz (s.nd k) ((af n).data+dD s.nd k)) (sH (s.nd k)):=by
 have hl:=g.len k;have ln:=g.HM k;have lk:=(g.lk k).1 h2;have h4:=g.NT k;have cl:=g.NV h2;have sz:=(g.size hk).2.1 h2;have hd:=g.NU.data;have hb:dC (s.nd k)=((s.nd k).names.length+15)/16:=by unfold dC;rw[if_neg (by omega)]
 refine⟨h2,⟨lk,by show(s.nd k).dT<=_;omega⟩,?_,by omega,by omega,g.wI hk,λq hq=>?_,λq hq=>?_⟩
 ·show((kg (s.nd k):Nat):Int)=_;rw[sz,cl];omega
 ·rw[g.QT q hq]
  split <;> omega
 ·rw[g.ZV D k1 hk (by omega),Vh q (g.wI hk)]
  have e:Sk.blk (sH (s.nd k))=lj (s.nd k)++List.replicate (32*(16*dC (s.nd k)-(s.nd k).names.length)) 0:=by
   unfold sH lj qK;rw[Vg,Ee,if_neg (by omega),yY hl.1]
  rw[e,Vi];have:(lj (s.nd k)).length+32*(16*dC (s.nd k)-(s.nd k).names.length)=(Sk.blk (sH (s.nd k))).length:=by rw[e,List.length_append,List.length_replicate]
  rw[this,pU (g.wI hk),cl];omega
theorem Good.find(g:Good n s)(D:nN n s L)(a:Av n (Z0 L) T){k:Nat}(k1:1<=k)(hk:k<s.n)(h2:(s.nd k).kind=2){c:Tm.ay}(hc:bf c=true) :
  findD T (af n) k c=(kf (s.nd k).names (s.nd k).aU c,if kf (s.nd k).names (s.nd k).aU c=0 then 160 else 0):=by
 have:=g.tr.cnt;rw[Hv a g.NU (g.wf D hk) k1 (by omega) (g.QS D k1 hk) (g.dir D k1 hk h2) hc];exact LY c _ (g.len k).1 λv hv=>(g.nu hk v hv).1
theorem Good.list(g:Good n s)(D:nN n s L)(a:Av n (Z0 L) T){k:Nat}(k1:1<=k)(hk:k<s.n)(h2:(s.nd k).kind=2) :
  (cX T (af n) k).2=0/\((cX T (af n) k).1.map λc=>c.fu).Perm (s.nd k).aU:=by
 have hc:=g.tr.cnt;have dr:=g.dir D k1 hk h2;have h6:=dr.JJ;unfold cX;rw[FH a g.NU k1 (by omega) (g.QS D k1 hk) dr,if_neg (λy=>y rfl),DQ a (g.wf D hk) dr,if_neg (λy=>y rfl)];refine⟨rfl,((k9 _).map _).trans ?_⟩;rw[JK dr ((sH (s.nd k)).length/16) 0 (by omega),Nat.mul_zero,List.drop_zero];rw[show(gW 0 (sH (s.nd k))).map (λc=>c.fu)=(s.nd k).aU from H7 _ 0 (g.len k).1 λv hv=>(g.nu hk v hv).1]
theorem Good.read(g:Good n s)(D:nN n s L)(a:Av n (Z0 L) T){k:Nat}(k1:1<=k)(hk:k<s.n)(h3:(s.nd k).kind=3):fF T (af n) k 0 1024=((s.nd k).text,0):=by
 have kt:=(g.kt k).2.2 h3;have sz:=(g.size hk).2.2 h3;have ge:=g.get D a k1 hk
 have gf:jE T (af n) k=(uz (s.nd k) ((af n).data+dD s.nd k),0):=by
  unfold jE;rw[ge,if_neg (λy=>by have:(s.nd k).kind=0:=y.2;omega)]
 have hb:dC (s.nd k)=((s.nd k).text.length+511)/512:=by unfold dC;rw[if_pos h3]
 have hdp:lj (s.nd k)=(s.nd k).text:=by unfold lj;rw[if_pos h3]
 have e2:(uz (s.nd k) ((af n).data+dD s.nd k)).getD 2 0=(((s.nd k).text.length:Nat):Int):=by
  show((kg (s.nd k):Nat):Int)=_;rw[sz]
 unfold fF;rw[if_neg (by decide),gf,if_neg (λy=>y rfl),e2,if_neg (by omega),show(min (1024:Int) ((((s.nd k).text.length:Nat):Int)-0)).toNat=(s.nd k).text.length by omega];show Fi.iZ T (af n) _ 0 _ _ 0 []=_;rw[yF (off:=0) a (g.wf D hk) (by omega) _ 0 [] (by omega) (Nat.zero_le _) rfl];congr 1;refine List.ext_getElem (by rw[List.length_map,List.length_range]) λi h1 h2=>?_;rw[List.getElem_map,List.getElem_range,Nat.zero_add];unfold BA;rw[g.ZV D k1 hk (by omega),hdp,List.getD_eq_getElem?_getD,x7 (by rw[List.length_take,List.length_drop,List.length_replicate];omega),if_pos (by rw[List.length_take,List.length_drop];omega),Nat.sub_zero,List.getElem?_take,if_pos (by omega),List.getElem?_drop,show 512*(i/512)+i%512=i by omega,List.getElem?_eq_getElem h2];rfl
structure vO(T:TM)(g:G)(s:Ts):Prop where
 get:∀k:Nat,1<=k->k<s.n->(getM T g k).2=0/\(getM T g k).1.getD 0 0=(s.nd k).kind
 getz:∀k:Nat,s.n<=k->k<g.count->(getM T g k).2=0/\(getM T g k).1.getD 0 0=0
 find:∀k:Nat,1<=k->k<s.n->(s.nd k).kind=2->∀c,bf c=true->findD T g k c=(kf (s.nd k).names (s.nd k).aU c,if kf (s.nd k).names (s.nd k).aU c=0 then 160 else 0)
 read:∀k:Nat,1<=k->k<s.n->(s.nd k).kind=3->fF T g k 0 1024=((s.nd k).text,0)
 list:∀k:Nat,1<=k->k<s.n->(s.nd k).kind=2->(cX T g k).2=0/\((cX T g k).1.map λc=>c.fu).Perm (s.nd k).aU
theorem Good.adt(g:Good n s)(D:nN n s L)(a:Av n (Z0 L) T):vO T (af n) s:=
 ⟨λk k1 hk=>by rw[g.get D a k1 hk];exact⟨rfl,rfl⟩,λk k1 hk=>by rw[g.ZY D a k1 hk];exact⟨rfl,rfl⟩,λk k1 hk h2 c hc=>g.find D a k1 hk h2 hc,λk k1 hk h3=>g.read D a k1 hk h3,λk k1 hk h2=>g.list D a k1 hk h2⟩
end
end Tr
namespace Tr
open Hp W Ad Tm Bt Spc Re Ss
open Hd (ints)
open In (ah av)
open Bm (Im)
structure Tree(hx:ab)(s:Ts)(D:Dt):Prop where
 nd:∀k,1<=k->k<s.n->Qn hx (D.P k) (D.z k) (s.nd k)
 ptr:∀k,1<=k->k<s.n->∃p,D.pa=some p/\cellOf hx (Addr.add p k)=some (.pointer (some ⟨D.P k,0,none⟩))
 nul:∃p,D.pa=some p/\cellOf hx (Addr.add p 0)=some (.pointer none)
theorem bY.zw{h9:ab}{s:Ts}{D:Dt}{G:NP}(t:bY (λ_=>False) h0 h9 az s D)(f:Fr G h9 hx)(hG:∀ b,G b->b<h0.size)(n2:0<s.n)(len:∀ k,(s.nd k).names.length=(s.nd k).aU.length):Tree hx s D:=by
 have ng:∀c b,az b=c->c≠0->¬G b:=λc b e hc g=>by
  have:=t.lo b (by rw[e];exact hc);have:=hG b g;omega
 have P:=Sl.fr f (t.ptr λy=>y) λb _ y=>ng 1 b y (by decide)
 have hp:∃p,D.pa=some p:=by
  cases hp:D.pa with
  | none=>
   rw[hp]at P;have c:Ae s.n D.P=[]:=P.cells;have:=congrArg List.length c;rw[Ae,List.length_map,List.length_range,List.length_nil]at this;omega
  | some p=>exact⟨p,rfl⟩
 obtain⟨p,hp⟩:=hp;have c:=P.cells;rw[hp]at c;refine⟨λk k1 k2=>⟨?_,(Sl.fr f (t.names k k1 k2 λy=>y) λb _ y=>ng _ b y (by omega)).cells,(Sl.fr f (t.aU k k1 k2 λy=>y) λb _ y=>ng _ b y (by omega)).cells,len k⟩,λk k1 k2=>⟨p,hp,c k _ (LP k2 k1)⟩,p,hp,c 0 _ ?_⟩
 ·obtain⟨a,b,e⟩:=t.node k k1 k2 λy=>y;exact(f.rd b.lt (ng _ _ e (by omega))).trans a
 ·unfold Ae;rw[List.getElem?_map,List.getElem?_range n2];rfl
theorem adu(v:Nat):bH 1 v=[UInt8.ofNat v]:=by
 show[UInt8.ofNat (v/256 ^ 0)]=_;rw[Nat.pow_zero,Nat.div_one]
section
variable{n : Nat}{s : Ts}
theorem Good.H8(g:Good n s){k:Nat}(hk:k<s.n):(lj (s.nd k)).length=if(s.nd k).kind=3 then(s.nd k).text.length else 32*(s.nd k).names.length:=by
 have hl:=g.len k;have hc:=g.tr.cnt;have n2:=g.n2;have U7:(af n).count=8*(n/64):=rfl;unfold lj
 split
 ·rfl
 ·have:=yY hl.1;unfold qK;rw[this,Sk.pU (Cc (g.nm hk) λv hv=>by have:=g.nu hk v hv;omega),wH hl.1]
theorem Good.QU(g:Good n s){k:Nat}(hk:k<s.n)(j:Nat):512*j<(lj (s.nd k)).length↔j<dC (s.nd k):=by
 rw[g.H8 hk];unfold dC
 split <;> omega
variable{h5 h7 h9 h10 h18 : ab}{D : Dt}{i dl dc : Nat}{L : Tm.ay}{da : OA}{I1 : Int -> Int -> ab -> Prop}{M1 : Int -> Int -> ab -> Nat}{K : Value -> ab -> Prop}
theorem QV(g:Good n s)(T:∀ hx,Fr (λb=>b=h7.size) h9 hx->Qn hx (D.P i) (D.z i) (s.nd i))(rg:rd h9 h5.size=(af n).v)(lt:h5.size<h7.size/\h7.size<h9.size)
  (f:Fr (λb=>b=h7.size) h9 h18) (o:du h18 h7.size) (r:rd h18 h7.size=L.map bv) (hL:L.length=512*n)
  (S:ag h18 da ((lj (s.nd i)).map bv)) (hdl:dl=(lj (s.nd i)).length) (hc:dl<=dc) (fB:∀p,da=some p->p.block≠h7.size) (i1:1<=i) (i2:i<s.n)
  (H:∀hx,Fr (λb=>b=h7.size) h9 hx->du hx h7.size->rd hx h7.size=(uy (512*(af n).aN+64*i) (s.nd i) ((af n).data+dD s.nd i) L).map bv->
   I1 (((af n).data+dD s.nd i+dC (s.nd i):Nat):Int) (IntKind.wrap .i64 ((i:Int)+1)) hx/\M1 (((af n).data+dD s.nd i+dC (s.nd i):Nat):Int) (IntKind.wrap .i64 ((i:Int)+1)) hx<M1 (((af n).data+dD s.nd i:Nat):Int) i h10) :
  bg.k1 (n:Int) h5 h7 (((af n).data+dD s.nd i:Nat):Int) (i:Int) h10 I1 M1 (some ⟨D.P i,0,none⟩) da dl dc ((kg (s.nd i):Nat):Int) h18 K:=by
 have n1:=g.n1;have n2:=g.n2;have hi:(af n).aN=98+(n+4095)/4096:=rfl;have hd:(af n).data=98+(n+4095)/4096+n/64:=rfl;have hcn:(af n).count=8*(n/64):=rfl;have U7:=g.tr.cnt;have hsum:=g.sum;have KS:=g.free i2;have h3:=g.NT i;have kd:=g.tr.kd i i1 i2;have ln:=g.HM i;have db:=g.QU i2
 have sz:kg (s.nd i)<=1000000:=by
  have a:=g.size i2;have kt:=(g.kt i).2.2
  rcases(by omega:(s.nd i).kind=1∨(s.nd i).kind=2∨(s.nd i).kind=3)with y|y|y
  ·rw[a.1 y];omega
  ·rw[a.2.1 y];omega
  ·rw[a.2.2 y];have:=kt y;omega
 obtain⟨off,eoff⟩:∃off,off=512*(af n).aN+64*i:=⟨_,rfl⟩;have hoff:off+64<=512*(af n).data:=by omega
 have e1:IntKind.wrap .i64 ((IntKind.wrap .i64 (512*((af n).aN:Int)))+(IntKind.wrap .i64 (64*(i:Int))))=(off:Int):=by
  rw[wrap_i64 (n:=512*((af n).aN:Int)) (by omega) (by omega),wrap_i64 (n:=64*(i:Int)) (by omega) (by omega),wrap_i64 (by omega) (by omega)];omega
 have e2:IntKind.wrap .i64 ((off:Int)+64)=((off+64:Nat):Int):=by rw[wrap_i64 (by omega) (by omega)];omega
 have e3:IntKind.wrap .i64 (512*(n:Int))=((512*n:Nat):Int):=by rw[wrap_i64 (by omega) (by omega)];omega
 have c1:¬(512*n=off):=by omega
 have c2:¬(512*n-off=2):=by omega
 have c4:¬(512*n-off=4):=by omega
 have adv:rd h18 h5.size=(af n).v:=(f.rd (by omega) (by omega)).trans rg;have ek:(s.nd i).kind=(((s.nd i).kind.toNat:Nat):Int):=by omega
 have el:(s.nd i).dT=(((s.nd i).dT.toNat:Nat):Int):=by omega
 rw[<-eoff]at H;unfold bg.k1;refine⟨((af n).aN:Int),bW adv rfl,((af n).aN:Int),bW adv rfl,?_⟩;simp only[e1,e2,e3,Int.toNat_natCast,Int.reduceToNat,Nat.reduceSub,if_neg c1,if_neg c2,if_neg c4,Option.map_some,cI,Nat.zero_add];have l1:=aI 1 (s.nd i).kind.toNat;have l2:=aI 2 (s.nd i).dT.toNat;have l4:=aI 4 (kg (s.nd i));refine⟨⟨by omega,by omega,by omega⟩,os ⟨_,bW (T h18 f).r rfl,⟨by decide,by omega⟩,os ?_⟩⟩;rw[ek,In.BE];refine bQ.add o (by rw[r,List.length_map,hL];omega) λfO d19=>⟨⟨by decide,by decide,by omega⟩,os ?_⟩;have f19:Fr (λb=>b=h7.size) h9 fO:=f.trans d19.fr λ_ _ y=>y
 have Zd:rd fO h7.size=(gA L off (bH 1 (s.nd i).kind.toNat)).map bv:=by
  rw[d19.rd,r,adu,<-tW (by show off+1<=_;omega)];rfl
 have q1:(gA L off (bH 1 (s.nd i).kind.toNat)).length=L.length:=dW (by omega);refine⟨_,bW (T fO f19).r rfl,?_⟩;rw[el];refine rE d19.own (by rw[Zd,List.length_map,q1];omega) (by decide) (by omega) λgY d20=>⟨rfl,⟨by decide,by decide,by omega⟩,?_⟩;have f20:Fr (λb=>b=h7.size) h9 gY:=f19.trans d20.fr λ_ _ y=>y
 have R2:rd gY h7.size=(gA (gA L off (bH 1 (s.nd i).kind.toNat)) (off+2) (bH 2 (s.nd i).dT.toNat)).map bv:=by
  rw[d20.rd,Zd,tW (by omega)]
 have q2:(gA (gA L off (bH 1 (s.nd i).kind.toNat)) (off+2) (bH 2 (s.nd i).dT.toNat)).length=L.length:=(dW (by omega)).trans q1;refine rE d20.own (by rw[R2,List.length_map,q2];omega) (by decide) (by omega) λlx d21=>⟨rfl,?_⟩;have f21:Fr (λb=>b=h7.size) h9 lx:=f20.trans d21.fr λ_ _ y=>y
 have r21:rd lx h7.size=(rK off (s.nd i) L).map bv:=by
  rw[d21.rd,R2,tW (by omega)];rfl
 have lh:(rK off (s.nd i) L).length=L.length:=py (by omega);have lB:∀k,k<=dC (s.nd i)->(sF off (lj (s.nd i)) ((af n).data+dD s.nd i) k (rK off (s.nd i) L)).length=L.length:=λk hk=>(oE k _ (by omega) (by rw[lh];omega) λj hj=>by rw[lh,hL];omega).trans lh;have f18:Fr (λb=>b=h7.size) h18 lx:=(d19.fr.trans d20.fr λ_ _ y=>y).trans d21.fr λ_ _ y=>y
 refine⟨λfr kk hh=>∃k:Nat,kk=k/\fr=(((af n).data+dD s.nd i+k:Nat):Int)/\k<=dC (s.nd i)/\Fr (λb=>b=h7.size) h18 hh/\du hh h7.size/\rd hh h7.size=(sF off (lj (s.nd i)) ((af n).data+dD s.nd i) k (rK off (s.nd i) L)).map bv,
  λ_ kk _=>((dC (s.nd i):Int)-kk).toNat,⟨0,rfl,by rw[Nat.add_zero],Nat.zero_le _,f18,d21.own,r21⟩,?_⟩
 rintro fr kk jC ⟨k,rfl,rfl,hk,f22,o22,r22⟩;have w1:IntKind.wrap .i64 (512*(k:Int))=((512*k:Nat):Int):=by rw[wrap_i64 (by omega) (by omega)];omega
 have f22':Fr (λb=>b=h7.size) h9 jC:=f.trans f22 λ_ _ y=>y;refine cd (λdh=>?_) λvF=>?_
 ·rw[w1]at dh;have CG:k<dC (s.nd i):=(db k).mp (by omega);generalize hF:(af n).data+dD s.nd i+k=F at *;have w2:IntKind.wrap .i64 (8+IntKind.wrap .i64 (4*(k:Int)))=((8+4*k:Nat):Int):=by rw[wrap_i64 (n:=4*(k:Int)) (by omega) (by omega),wrap_i64 (by omega) (by omega)];omega
  have w3:IntKind.wrap .i64 (12+IntKind.wrap .i64 (4*(k:Int)))=((12+4*k:Nat):Int):=by rw[wrap_i64 (n:=4*(k:Int)) (by omega) (by omega),wrap_i64 (by omega) (by omega)];omega
  have w4:IntKind.wrap .i64 (512*(F:Int))=((512*F:Nat):Int):=by rw[wrap_i64 (by omega) (by omega)];omega
  have w5:IntKind.wrap .i64 (((512*F:Nat):Int)+512)=((512*F+512:Nat):Int):=by rw[wrap_i64 (by omega) (by omega)];omega
  have c8:¬(512*n-off=8+4*k):=by omega
  have cF:¬(512*n=512*F):=by omega
  have cD:¬(dc=512*k):=by omega
  simp only[w1,w2,w3,w4,w5,Int.toNat_natCast,if_neg c8,if_neg cF,if_neg cD,Option.map_some,cI,Nat.zero_add];have lk:=lB k hk;have l4':=aI 4 F;have ch:=rL (lj (s.nd i)) k;refine⟨⟨by omega,by omega,by omega⟩,?_⟩;rw[show 12+4*k-(8+4*k)=4 by omega];refine rE o22 (by rw[r22,List.length_map,lk];omega) (by decide) (by omega) λlu d23=>⟨rfl,⟨by omega,by omega,by omega⟩,⟨by omega,by omega⟩,?_⟩
  have P4:rd lu h7.size=(gA (sF off (lj (s.nd i)) ((af n).data+dD s.nd i) k (rK off (s.nd i) L)) (off+8+4*k) (bH 4 F)).map bv:=by
   rw[d23.rd,r22,tW (by omega),show off+(8+4*k)=off+8+4*k by omega]
  have q3:(gA (sF off (lj (s.nd i)) ((af n).data+dD s.nd i) k (rK off (s.nd i) L)) (off+8+4*k) (bH 4 F)).length=L.length:=(dW (by omega)).trans lk;have f23:Fr (λb=>b=h7.size) h18 lu:=f22.trans d23.fr λ_ _ y=>y;have S23:=ag.take (ag.drop (ag.fr f23 S λp hp y=>fB p hp y) (512*k)) 512;rw[<-List.map_drop,<-List.map_take]at S23;rw[show 512*F+512-512*F=512 by omega];refine qU.intro (new:=(((lj (s.nd i)).drop (512*k)).take 512).map bv) (by rw[List.length_map,List.length_take,List.length_drop,<-hdl,Nat.min_comm];exact(Nat.mul_one _).symm) S23 (pM _) d23.own (by rw[P4,List.length_map,List.length_map,q3];omega) λpz d24=>?_;have eF:IntKind.wrap .i64 ((F:Int)+1)=((F+1:Nat):Int):=by rw[wrap_i64 (by omega) (by omega)];omega
  rw[eF,wrap_i64 (show -9223372036854775808<=(k:Int)+1 by omega) (by omega)];refine⟨⟨k+1,by omega,by rw[<-hF];rfl,by omega,f23.trans d24.fr λ_ _ y=>y,d24.own,?_⟩,by show((dC (s.nd i):Int)-((k:Int)+1)).toNat<((dC (s.nd i):Int)-(k:Int)).toNat;omega⟩;rw[d24.rd,P4,tW (by rw[q3];omega)];subst hF;rfl
 ·rw[w1]at vF;have:¬k<dC (s.nd i):=λy=>by have:=(db k).mpr y;omega
  have:k=dC (s.nd i):=by omega
  subst this;exact H jC f22' o22 r22
end
theorem NW{t:Th}{s:Ts}(o:nv i s)(h:s.nd 0=C6):(stepT cnt i t s).nd 0=C6:=by
 have xm:=yS o t;have n2:=o.n2;unfold stepT
 split
 ·exact h
 ·split
  ·exact h
  ·split
   ·rename_i c;have ho:=xU o t.same c.2;show bP (bP s.nd _ _) _ _ 0=_;rw[cK _ _ (by omega),cK _ _ (by omega)];exact h
   ·split
    ·exact h
    ·show bP (bP s.nd _ _) _ _ 0=_;rw[cK _ _ (by omega),cK _ _ (by omega)];exact h
theorem zH{cnt:Nat}:∀(l:List Th) (i:Nat) (s:Ts),i<=40->nv i s->s.nd 0=C6->(gJ cnt i l s).nd 0=C6
 | [],_,_,_,_,h=>h
 | t::r,i,s,hi,o,h=>by
  show(if 40<=i then s else gJ cnt (i+1) r (stepT cnt i t s)).nd 0=C6
  by_cases GX:40<=i
  ·rw[if_pos GX];exact h
  ·rw[if_neg GX];exact zH r (i+1) _ (by omega) (Az o (by omega)) (NW o h)
theorem NX(n:Nat)(l:List Th):(iq n l).nd 0=C6:=
 zH l 0 ⟨2,bP (λ_=>C6) 1 kE,[1],[],n-(af n).data⟩ (by decide) ⟨bj.n2,bj.nn,bj.dn,bj.dr,bj.XC,bj.dl,bj.ol,bj.root,bj.len,bj.Nw,bj.HM,bj.nm,bj.nu⟩ rfl
theorem J5{bs:Tm.ay}{t:Nat}{k:Nat->ab->Prop}(H:∀ cap h',Fr No h h'->bs.length<=cap->ag h' (some ⟨h.size,0,none⟩) (bs.map bv)->k cap h'):SH (mkStr bs) t h k:=by
 intro cap qW;have qW:bs.length<=cap:=qW;show k cap (tp h ((mkStr bs).toList.map bv++List.replicate (cap-bs.length) (bv 0)) t);rw[toList_mkStr];generalize wO:bs.map bv++List.replicate (cap-bs.length) (bv 0)=cs;have hg:(tp h cs t)[h.size]?=some (.cells ⟨cs⟩ t (cs.length,cs.length+1)):=by simp[tp]
 have hr:rd (tp h cs t) h.size=cs:=by simp only[rd,hg]
 refine H cap _ ⟨by simp[tp],λx hx _=>by simp[tp,Array.getElem?_push,show x≠h.size by omega]⟩ qW (tM ?_);rw[hr,<-wO,List.drop_zero,List.take_left]
section
variable{h5 h7 hh : ab}{n i : Nat}{L : Tm.ay}{X : ab -> Prop}
theorem LZ(hn:128<=n/\n<1128)(hi:i<4096*((af n).aN - 98))(hL:L.length=512*n)(rg:rd hh h5.size=(af n).v)(r:rd hh h7.size=L.map bv)(o:du hh h7.size)
  (hX:∀h',yw h7.size hh h' ((oH L (98*4096+i) true).map bv)->X h') :
  ∃(n15:Int),cellOf hh (Addr.add ⟨h5.size,0,none⟩ 1)=some (.int .i64 n15)/\
  ∃(n16:Int),cellOf hh (Addr.add ⟨h5.size,0,none⟩ 1)=some (.int .i64 n16)/\
  (0<=(IntKind.wrap .i64 ((IntKind.wrap .i64 (512*n16))+(IntKind.wrap .i64 (Int.tdiv (i:Int) 8))))/\(IntKind.wrap .i64 ((IntKind.wrap .i64 (512*n16))+(IntKind.wrap .i64 (Int.tdiv (i:Int) 8))))<((512*n:Nat):Int))/\
  ∃(n17:Int),cellOf hh (Addr.add ⟨h7.size,0,none⟩ (Int.toNat (IntKind.wrap .i64 ((IntKind.wrap .i64 (512*n16))+(IntKind.wrap .i64 (Int.tdiv (i:Int) 8))))))=some (.int .u8 n17)/\
  if(Int.tmod (i:Int) 8)<0 then False else
  (0<=(IntKind.wrap .i64 ((IntKind.wrap .i64 (512*n15))+(IntKind.wrap .i64 (Int.tdiv (i:Int) 8))))/\(IntKind.wrap .i64 ((IntKind.wrap .i64 (512*n15))+(IntKind.wrap .i64 (Int.tdiv (i:Int) 8))))<((512*n:Nat):Int))/\
  bQ (Addr.add ⟨h7.size,0,none⟩ (Int.toNat (IntKind.wrap .i64 ((IntKind.wrap .i64 (512*n15))+(IntKind.wrap .i64 (Int.tdiv (i:Int) 8)))))) (.int .u8 (oo .or .u8 n17 (IntKind.wrap .u8 ((1*2 ^ min (Int.toNat (Int.tmod (i:Int) 8)) 8))))) hh X:=by
 have hino:(af n).aN=98+(n+4095)/4096:=rfl;refine⟨((98:Nat):Int),bW rg rfl,((98:Nat):Int),bW rg rfl,?_⟩
 have e1:IntKind.wrap .i64 ((IntKind.wrap .i64 (512*((98:Nat):Int)))+(IntKind.wrap .i64 (Int.tdiv (i:Int) 8)))=((512*98+i/8:Nat):Int):=by
  rw[acj,wrap_i64 (n:=512*((98:Nat):Int)) (by omega) (by omega),wrap_i64 (n:=((i/8:Nat):Int)) (by omega) (by omega),wrap_i64 (by omega) (by omega)];omega
 rw[e1,Int.toNat_natCast,ack];have hi2:512*98+i/8<L.length:=by omega
 refine⟨⟨by omega,by omega⟩,((L.getD (512*98+i/8) 0).toNat:Int),bW (xs:=L.map bv) r ?_,?_⟩
 ·rw[Nat.zero_add,List.getElem?_map,List.getD_eq_getElem?_getD,List.getElem?_eq_getElem hi2];rfl
 rw[if_neg (by omega)];refine⟨⟨by omega,by omega⟩,?_⟩;have hx:(L.getD (512*98+i/8) 0).toNat<256:=UInt8.toNat_lt _;have ob:=Zh ⟨(L.getD (512*98+i/8) 0).toNat,hx⟩ ⟨i%8,by omega⟩;have ob:oo .or .u8 ((L.getD (512*98+i/8) 0).toNat:Int) (IntKind.wrap .u8 (1*2 ^ min (Int.toNat ((i%8:Nat):Int)) 8))=(yC (L.getD (512*98+i/8) 0).toNat (i%8) true:Nat):=ob;rw[ob];refine bQ.add o (by rw[r,List.length_map];omega) λh' d'=>hX h' ?_
 have ex:(.int .u8 ((yC (L.getD (512*98+i/8) 0).toNat (i%8) true:Nat):Int):Value)=bv (UInt8.ofNat (yC (L.getD (512*98+i/8) 0).toNat (i%8) true)):=by
  show _=Value.int .u8 _;rw[UInt8.toNat_ofNat_of_lt' (Hi hx (by omega) true)]
 have:=d';rw[r,ex,<-List.map_set,Nat.zero_add]at this;unfold oH;rw[show(98*4096+i)/8=512*98+i/8 by omega,show(98*4096+i)%8=i%8 by omega];exact this
end
def QW(p:Int×UInt8):LV:=[.int .i64 p.1,bv p.2]
def adw(n:Nat)(L:Tm.ay)(p:Int×UInt8):Tm.ay:=L.set (512*98+jP p.1 (512*(n-98))) p.2
def wJ(n:Nat)(ps:List (Int×UInt8))(L:Tm.ay):Tm.ay:=ps.foldl (adw n) L
theorem sI(n:Nat):∀(ps:List (Int×UInt8)) (L:Tm.ay),(wJ n ps L).length=L.length
 | [],_=>rfl
 | p::r,L=>(sI n r _).trans List.length_set
theorem qC{n free:Nat}{L:Tm.ay}:∀m,(qh n free m L).length=L.length
 | 0=>rfl
 | m+1=>by
  show(if m<free∨n<=m then oH (qh n free m L) (98*4096+m) true else qh n free m L).length=_
  split
  ·rw[vL,qC m]
  ·exact qC m
theorem rep8(m:Nat):aW [Value.int .u8 0] m=(List.replicate m (0:UInt8)).map bv:=by
 rw[List.map_replicate];rfl
section
variable{h : ab}{more : Int}{ta pa : OA}{tl tc pl pc : Nat}{ts : List Th}{ps : List (Int × UInt8)}{K : Value -> ab -> Prop}
theorem Ce(Z:ag h ta (ts.flatMap FR))(hl:ts.length=tl)(htl:tl<=1000000000)(ht:∀ t ∈ ts,t.name.length<=1000000000/\t.text.length<=1000000000)(Y:ag h pa (ps.flatMap QW))(hpl:ps.length=pl)(hpb:pl<=140737488355328)
  (hK:∀B h',Fr No h h'->h.size<=B->du h' B->rd h' B=(wJ (bp more) ps (Cb (bp more) (iq (bp more) ts))).map bv->
   K (.tuple #[.slice (some ⟨B,0,none⟩) (512*bp more) (512*bp more),.agg ⟨(af (bp more)).v⟩]) h'):C.bg (C8 more ta tl tc pa pl pc) h K:=by
 have bn:=uo more;generalize hn:bp more=n at *;have hi:(af n).aN=98+(n+4095)/4096:=rfl;have hd:(af n).data=98+(n+4095)/4096+n/64:=rfl;have e3:IntKind.wrap .i64 (512*(n:Int))=((512*n:Nat):Int):=by rw[wrap_i64 (by omega) (by omega)];omega
 refine bg.ok (aC.intro λh2 n2=>aC.intro λh3 n3=>⟨_,rfl,aj ((n3.at_ n2.own.lt).trans n2.rd),zy rfl λh4 f4=>⟨_,rfl,?_⟩⟩);rw[hn];refine Spc.Hj (by omega) λh5 f5=>⟨_,rfl,ax.intro rfl (Spc.G.one _) rfl λh7 n7=>?_⟩;rw[e3];refine⟨⟨by omega,by omega,by omega,by omega⟩,?_⟩;rw[Int.toNat_natCast];refine aC.intro λh8 n8=>?_;have z2:=n2.size;have z3:=n3.size;have z4:=f4.size;have z5:=f5.size;have z7:=n7.size;have z8:=n8.size;have F3:Fr No h h3:=n2.fr.new n3;have F8:Fr No h h8:=((F3.no (f4.no f5)).new n7).new n8;have f38:Fr No h3 h8:=((f4.no f5).new n7).new n8;have rs8:rd h8 h.size=C8 more ta tl tc pa pl pc:=(f38.rd (by omega) λy=>y).trans ((n3.at_ (by omega)).trans n2.rd);have R3:rd h8 h5.size=(af n).v:=(n8.at_ (by omega)).trans n7.rd;have rb8:rd h8 h7.size=(List.replicate (512*n) (0:UInt8)).map bv:=n8.rd.trans (rep8 _);have or8:du h8 h2.size:=f38.own (by omega) (λy=>y) n3.own;have rr8:(rd h8 h2.size).length=5:=by rw[f38.rd (by omega) λy=>y,n3.rd];rfl
 refine⟨_,bW R3 rfl,_,rfl,aj rs8,?_⟩;have G:Good n (iq n ts):=vf bn ts;refine NK (ag.fr F8 Z λ_ _ y=>y) hl htl ht λh0 h9 az D i0 hz f9 T hi0 o=>⟨_,_,_,rfl,?_⟩;rw[hn]at T o ⊢;have b0:dC ((iq n ts).nd 0)=0:=by rw[NX];rfl
 generalize iq n ts=s at *;have z9:=f9.size;have s2:=G.tr.n2;have F9:Fr No h h9:=F8.no f9;have rs9:rd h9 h.size=C8 more ta tl tc pa pl pc:=(f9.rd (by omega) λy=>y).trans rs8;have Z1:rd h9 h5.size=(af n).v:=(f9.rd (by omega) λy=>y).trans R3;have rb9:rd h9 h7.size=(List.replicate (512*n) (0:UInt8)).map bv:=(f9.rd (by omega) λy=>y).trans rb8;have ob9:du h9 h7.size:=f9.own (by omega) (λy=>y) n8.own;have or9:du h9 h2.size:=f9.own (by omega) (λy=>y) or8;have rr9:(rd h9 h2.size).length=5:=by rw[f9.rd (by omega) λy=>y];exact rr8
 have Z3:∀hx,Fr (λb=>b=h7.size) h9 hx->Tree hx s D:=λhx f=>T.zw f (λb e=>by have e:b=h7.size:=e;omega) (by omega) λk=>(G.len k).1;have lP:∀m,m<s.n->(nX (af n).aN (af n).data s.nd m (List.replicate (512*n) 0)).length=512*n:=λm hm=>(J2 G.fit m hm).im.len
 refine⟨λfr n3 hx=>∃i:Nat,n3=i/\i<=s.n/\fr=(((af n).data+dD s.nd i:Nat):Int)/\Fr (λb=>b=h7.size) h9 hx/\du hx h7.size/\rd hx h7.size=(nX (af n).aN (af n).data s.nd (i-1) (List.replicate (512*n) 0)).map bv,
  λ_ n3 _=>((s.n:Int)-n3).toNat,⟨0,rfl,Nat.zero_le _,rfl,Fr.refl _ _,ob9,rb9⟩,?_⟩
 rintro fr n3 h10 ⟨i,rfl,oK,rfl,f10,XB,CL⟩;have Nj:=f10.size;have w1:i<1000->IntKind.wrap .i64 ((i:Int)+1)=((i+1:Nat):Int):=λ_=>by rw[wrap_i64 (by omega) (by omega)];omega
 have sn:s.n<1000:=by
  obtain⟨j,hj,o'⟩:=G.ok;have:=o'.nn;omega
 refine cd (λdh=>?_) λvF=>?_
 ·have dh:i<s.n:=by omega
  refine⟨⟨by omega,by omega⟩,?_⟩
  by_cases i0:i=0
  ·subst i0;obtain⟨p,ep,cp⟩:=(Z3 h10 f10).nul;rw[ep];refine os ⟨none,cp,ct rfl ?_⟩;rw[w1 (by omega)];exact⟨⟨1,rfl,by omega,by show _=(((af n).data+(dD s.nd 0+dC (s.nd 0)):Nat):Int);rw[b0,Nat.add_zero],f10,XB,CL⟩,by show((s.n:Int)-((0+1:Nat):Int)).toNat<((s.n:Int)-((0:Nat):Int)).toNat;omega⟩
  ·obtain⟨p,ep,cp⟩:=(Z3 h10 f10).ptr i (by omega) dh;have N10:=(Z3 h10 f10).nd i (by omega) dh;rw[ep,Int.toNat_natCast];refine os ⟨_,cp,cf rfl (os ⟨_,_,_,bW N10.r rfl,?_⟩)⟩;have lenS:=G.len i;have U7:=G.tr.cnt;have hcn:(af n).count=8*(n/64):=rfl
   have next:∀hx,Fr (λb=>b=h7.size) h9 hx->du hx h7.size->rd hx h7.size=(uy (512*(af n).aN+64*i) (s.nd i) ((af n).data+dD s.nd i) (nX (af n).aN (af n).data s.nd (i-1) (List.replicate (512*n) 0))).map bv->
     (∃k:Nat,IntKind.wrap .i64 ((i:Int)+1)=k/\k<=s.n/\(((af n).data+dD s.nd i+dC (s.nd i):Nat):Int)=(((af n).data+dD s.nd k:Nat):Int)/\Fr (λb=>b=h7.size) h9 hx/\du hx h7.size/\rd hx h7.size=(nX (af n).aN (af n).data s.nd (k-1) (List.replicate (512*n) 0)).map bv)/\
     ((s.n:Int)-IntKind.wrap .i64 ((i:Int)+1)).toNat<((s.n:Int)-(i:Int)).toNat:=λhx f o r=>by
    rw[w1 (by omega)];refine⟨⟨i+1,rfl,by omega,?_,f,o,?_⟩,by omega⟩
    ·show _=(((af n).data+(dD s.nd i+dC (s.nd i)):Nat):Int);rw[Nat.add_assoc]
    ·rw[r,show i+1-1=(i-1)+1 by omega];show _=(uy (512*(af n).aN+64*(i-1+1)) (s.nd (i-1+1)) ((af n).data+dD s.nd (i-1+1)) _).map bv;rw[show i-1+1=i by omega]
   refine NM (x:=s.nd i) N10 (by omega) (λx hx=>?_) (λm hm=>?_) λa l c cg Cy el S=>?_
   ·have:=Sk.fI.mp (G.nm dh x hx);exact this.le
   ·have:=G.nu dh m hm;omega
   ·have f11:Fr (λb=>b=h7.size) h9 cg:=f10.no Cy;have N11:=(Z3 cg f11).nd i (by omega) dh;have OL:=Cy.size;have Pu:rd cg h7.size=_:=(Cy.rd (by omega) λy=>y).trans CL;have o11:=Cy.own (by omega) (λy=>y) XB;refine os ⟨_,bW N11.r rfl,ce (λk3=>os ⟨_,bW N11.r rfl,os ⟨_,bW N11.r rfl,J5 λcap eM f17 qW S17=>⟨?_,?_⟩⟩⟩) λk3=>?_⟩
    ·have Z5:=f11.no f17;exact bW ((Z3 eM Z5).nd i (by omega) dh).r rfl
    ·have Z5:=f11.no f17;have ed:lj (s.nd i)=(s.nd i).text:=if_pos k3;have es:kg (s.nd i)=(s.nd i).text.length:=if_pos k3;have sO:(((mkStr (s.nd i).text).size:Nat):Int)=((kg (s.nd i):Nat):Int):=(by rw[es];rfl);rw[sO];exact QV (h5:=h5) (h7:=h7) (h9:=h9) (h10:=h10) (h18:=eM) (D:=D) (i:=i) (dl:=(s.nd i).text.length) (dc:=cap) (da:=some ⟨cg.size,0,none⟩) (K:=K) G (λhx f=>(Z3 hx f).nd i (by omega) dh) Z1 ⟨by omega,by omega⟩ Z5 (f17.own (by omega) (λy=>y) o11) ((f17.rd (by omega) λy=>y).trans Pu) (lP _ (by omega)) (by rw[ed];exact S17) (by rw[ed]) qW (λp hp=>by cases hp;show cg.size≠h7.size;omega) (by omega) dh next
    ·have ed:lj (s.nd i)=qK (s.nd i) (s.nd i).names.length:=if_neg k3;have dl:=G.H8 dh;rw[if_neg k3]at dl;have es:kg (s.nd i)=(32*(s.nd i).names.length+511)/512*512:=if_neg k3;have e1:Int.tdiv (((32*(s.nd i).names.length:Nat):Int)+511) 512=(((32*(s.nd i).names.length+511)/512:Nat):Int):=rfl
     have ew:IntKind.wrap .i64 (IntKind.wrap .i64 (Int.tdiv (IntKind.wrap .i64 ((l:Int)+511)) 512)*512)=((kg (s.nd i):Nat):Int):=by
      rw[el,es,wrap_i64 (n:=((32*(s.nd i).names.length:Nat):Int)+511) (by omega) (by omega),e1,wrap_i64 (n:=(((32*(s.nd i).names.length+511)/512:Nat):Int)) (by omega) (by omega),wrap_i64 (by omega) (by omega)];omega
     rw[ew]
     exact QV (h5:=h5) (h7:=h7) (h9:=h9) (h10:=h10) (h18:=cg) (D:=D) (i:=i) (K:=K) G (λhx f=>(Z3 hx f).nd i (by omega) dh) Z1 ⟨by omega,by omega⟩ f11 o11 Pu (lP _ (by omega)) (by rw[ed];exact S.cells) (by rw[dl,el]) S.le (λp hp y=>by
      subst hp;have:h10.size<=p.block:=S.2.2.1
      omega) (by omega) dh next
 ·have:i=s.n:=by omega
  subst this;have lI:(nX (af n).aN (af n).data s.nd (s.n-1) (List.replicate (512*n) 0)).length=512*n:=lP _ (by omega);have esum:=G.sum
  refine⟨λi1 hx=>∃k:Nat,i1=k/\k<=4096*((af n).aN-98)/\Fr (λb=>b=h7.size) h9 hx/\du hx h7.size/\rd hx h7.size=(qh n ((af n).data+dD s.nd s.n) k (nX (af n).aN (af n).data s.nd (s.n-1) (List.replicate (512*n) 0))).map bv,
   λi1 _=>(((4096*((af n).aN-98):Nat):Int)-i1).toNat,⟨0,rfl,Nat.zero_le _,f10,XB,CL⟩,?_⟩
  rintro i1 jv ⟨k,rfl,hk,f25,Zv,Qd⟩;have z25:=f25.size;have Vj:rd jv h5.size=(af n).v:=(f25.rd (by omega) (by omega)).trans Z1
  have w4:IntKind.wrap .i64 (4096*IntKind.wrap .i64 (((af n).aN:Int)-((98:Nat):Int)))=((4096*((af n).aN-98):Nat):Int):=by
   rw[wrap_i64 (n:=((af n).aN:Int)-((98:Nat):Int)) (by omega) (by omega),wrap_i64 (by omega) (by omega)];omega
  refine⟨((af n).aN:Int),bW Vj rfl,((98:Nat):Int),bW Vj rfl,?_⟩;rw[w4];refine cd (λdh=>?_) λvF=>?_
  ·have CG:k<4096*((af n).aN-98):=(by omega);have lb:=qC (n:=n) (free:=(af n).data+dD s.nd s.n) (L:=nX (af n).aN (af n).data s.nd (s.n-1) (List.replicate (512*n) 0)) k
   have step:∀hx,yw h7.size jv hx ((oH (qh n ((af n).data+dD s.nd s.n) k (nX (af n).aN (af n).data s.nd (s.n-1) (List.replicate (512*n) 0))) (98*4096+k) true).map bv)->(k<(af n).data+dD s.nd s.n∨n<=k)->
     (∃j:Nat,IntKind.wrap .i64 ((k:Int)+1)=j/\j<=4096*((af n).aN-98)/\Fr (λb=>b=h7.size) h9 hx/\du hx h7.size/\rd hx h7.size=(qh n ((af n).data+dD s.nd s.n) j (nX (af n).aN (af n).data s.nd (s.n-1) (List.replicate (512*n) 0))).map bv)/\
     (((4096*((af n).aN-98):Nat):Int)-IntKind.wrap .i64 ((k:Int)+1)).toNat<(((4096*((af n).aN-98):Nat):Int)-(k:Int)).toNat:=λhx d c=>by
    rw[wrap_i64 (show -9223372036854775808<=(k:Int)+1 by omega) (by omega)];refine⟨⟨k+1,by omega,by omega,f25.trans d.fr λ_ _ y=>y,d.own,?_⟩,by omega⟩;rw[d.rd];show _=(if k<(af n).data+dD s.nd s.n∨n<=k then _ else _:Tm.ay).map bv;rw[if_pos c]
   refine cd (λc1=>?_) λc1=>cd (λc2=>?_) λc2=>?_
   ·exact LZ (by omega) CG (lb.trans lI) Vj Qd Zv λhx d=>step hx d (.inl (by omega))
   ·exact LZ (by omega) CG (lb.trans lI) Vj Qd Zv λhx d=>step hx d (.inr (by omega))
   ·rw[wrap_i64 (show -9223372036854775808<=(k:Int)+1 by omega) (by omega)];refine⟨⟨k+1,by omega,by omega,f25,Zv,?_⟩,by show(((4096*((af n).aN-98):Nat):Int)-((k:Int)+1)).toNat<(((4096*((af n).aN-98):Nat):Int)-(k:Int)).toNat;omega⟩;rw[Qd];show _=(if k<(af n).data+dD s.nd s.n∨n<=k then _ else _:Tm.ay).map bv;rw[if_neg (by omega)]
  ·have:k=4096*((af n).aN-98):=(by omega);subst this;have Qd:rd jv h7.size=(Cb n s).map bv:=Qd;have lI:(Cb n s).length=512*n:=(qC _).trans lI;generalize Cb n s=L at *;have rs25:rd jv h.size=C8 more ta tl tc pa pl pc:=(f25.rd (by omega) (by omega)).trans rs9;have adx:Fr No h jv:=F9.trans f25 λb hb y=>by have y:b=h7.size:=y;omega
   refine⟨_,_,_,bW rs25 rfl,?_⟩
   refine⟨λi1 hx=>∃k:Nat,i1=k/\k<=ps.length/\Fr (λb=>b=h7.size) jv hx/\du hx h7.size/\rd hx h7.size=(wJ n (ps.take k) L).map bv,
    λi1 _=>((ps.length:Int)-i1).toNat,⟨0,rfl,Nat.zero_le _,Fr.refl _ _,Zv,Qd⟩,?_⟩
   rintro i1 og ⟨k,rfl,hk,f28,o28,r28⟩;have z28:=f28.size;refine cd (λdh=>?_) λvF=>?_
   ·have CG:k<ps.length:=(by omega);have Y28:ag og pa (ps.flatMap QW):=ag.fr (adx.trans f28 λb hb y=>by have y:b=h7.size:=y;omega:Fr No h og) Y λ_ _ y=>y
    obtain⟨p,ep,cp⟩:∃p,pa=some p/\ai og (p.add (k*2)) (QW ps[k]):=by
     cases pa with
     | none=>
      have c:ps.flatMap QW=[]:=Y28;have:=bw QW 2 ps λ_ _=>rfl;rw[c]at this;exact absurd this (by simp;omega)
     | some p=>
      refine⟨p,rfl,?_⟩;have:=ai.take (ai.drop Y28 (k*2)) 2;rw[kq QW 2 ps (λ_ _=>rfl) k CG]at this;exact this
    rw[ep,Int.toNat_natCast];have tk:=List.take_succ_eq_append_getElem CG;generalize ps[k]=q at cp tk;refine⟨⟨by omega,by omega⟩,os ⟨_,rfl,cp,ax.intro rfl (abl rfl rfl) rfl λnz n30=>⟨_,bW n30.rd rfl,?_⟩⟩⟩;have z30:=n30.size
    have w5:IntKind.wrap .i64 (512*IntKind.wrap .i64 ((n:Int)-98))=((512*(n-98):Nat):Int):=by
     rw[wrap_i64 (n:=(n:Int)-98) (by omega) (by omega),wrap_i64 (by omega) (by omega)];omega
    have u1:IntKind.wrap .u64 ((512*(n-98):Nat):Int)=((512*(n-98):Nat):Int):=(by rw[sE];omega);have hm:=va (x:=q.1) (m:=512*(n-98)) (by omega)
    have w6:IntKind.wrap .i64 (50176+IntKind.wrap .i64 ((jP q.1 (512*(n-98)):Nat):Int))=((512*98+jP q.1 (512*(n-98)):Nat):Int):=by
     rw[wrap_i64 (n:=((jP q.1 (512*(n-98)):Nat):Int)) (by omega) (by omega),wrap_i64 (by omega) (by omega)];omega
    have em:Int.tmod (IntKind.wrap .u64 q.1) ((512*(n-98):Nat):Int)=((jP q.1 (512*(n-98)):Nat):Int):=by
     have a:=Int.emod_nonneg q.1 (show(18446744073709551616:Int)≠0 by decide);rw[sE,Int.tmod_eq_emod_of_nonneg a];unfold jP;have b:=Int.emod_nonneg (q.1%18446744073709551616) (show((512*(n-98):Nat):Int)≠0 by omega);omega
    rw[w5,u1,if_neg (by omega),em,w6,Int.toNat_natCast];have r30:rd nz h7.size=(wJ n (ps.take k) L).map bv:=(n30.at_ (by omega)).trans r28;have lp:=sI n (ps.take k) L;refine⟨_,bW n30.rd rfl,⟨by omega,by omega⟩,bQ.add (n30.ow o28) (by rw[r30,List.length_map,lp,lI];omega) λsT d31=>?_⟩;rw[wrap_i64 (show -9223372036854775808<=(k:Int)+1 by omega) (by omega)];refine⟨⟨k+1,by omega,by omega,(f28.new n30).trans d31.fr λ_ _ y=>y,d31.own,?_⟩,by show((ps.length:Int)-((k:Int)+1)).toNat<((ps.length:Int)-(k:Int)).toNat;omega⟩;rw[d31.rd,r30,Nat.zero_add,tk];unfold wJ;rw[List.foldl_append];show _=(List.set _ _ _).map bv;rw[List.map_set];rfl
   ·have:k=ps.length:=(by omega);subst this;rw[List.take_length]at r28;have Vk:rd og h5.size=(af n).v:=(f28.rd (by omega) (by omega)).trans ((f25.rd (by omega) (by omega)).trans Z1);have ady:(rd og h2.size).length=5:=(by rw[f28.rd (by omega) (by omega),f25.rd (by omega) (by omega)];exact rr9);have or28:du og h2.size:=f28.own (by omega) (by omega) (f25.own (by omega) (by omega) or9);refine⟨_,rfl,aj Vk,ar.intro or28 rfl (Spc.G.one _) (by rw[ady];exact Nat.le_refl _) λpj d32=>?_⟩;have z32:=d32.size;have r32:rd pj h2.size=(af n).v:=(by rw[d32.rd,cM _ _ (by rw[ady];rfl)]);refine⟨_,rfl,aj r32,?_⟩;refine hK h7.size pj ((adx.trans f28 λb hb y=>by have y:b=h7.size:=y;omega).trans d32.fr λb hb y=>by have y:b=h2.size:=y;omega) (by omega) (d32.fr.own (by omega) (λy=>by have y:h7.size=h2.size:=y;omega) o28) ((d32.fr.rd (by omega) (λy=>by have y:h7.size=h2.size:=y;omega)).trans r28)
end
end Tr
end Go.Proofs.YtiapingedfnlnaaGreatDoor
namespace Go.Proofs
open Go Go.Shelf
def Tryz.keysA_ren : Go.Shelf.Ren:=⟨fun|7=>107|10=>180|n=>n,fun|23=>207|26=>3|3=>86|28=>213|0=>0|27=>212|33=>254|4=>4|n=>n,λn=>n⟩
theorem Tryz.keysA : SlLaysZI.n7 Tryz.prog Tryz.keysA_ren where
 mixed:=by kernel_rfl
 f7 := ⟨ "maps.Keys[map[int][]byte,int,[]byte]", by decide, Tryz.func107.trans (congrArg some (by kernel_rfl))⟩
 f10 := ⟨ "maps.Keys[map[int][]byte,int,[]byte]$1", by decide, Tryz.func180.trans (congrArg some (by kernel_rfl))⟩
 t0:=Tryz.underlying0
 a0:=Tryz.isAgg0
 z0:=Tryz.sizeOf0
 v0:=Tryz.zeroValue0
 t4:=Tryz.underlying4
 a4:=Tryz.isAgg4
 z4:=Tryz.sizeOf4
 v4:=Tryz.zeroValue4
 t23:=Tryz.underlying207
 a23:=Tryz.isAgg207
 z23:=Tryz.sizeOf207
 v23:=Tryz.zeroValue207
 t26:=Tryz.underlying3
 a26:=Tryz.isAgg3
 z26:=Tryz.sizeOf3
 v26:=Tryz.zeroValue3
 t27:=Tryz.underlying212
 a27:=Tryz.isAgg212
 z27:=Tryz.sizeOf212
 v27:=Tryz.zeroValue212
 t28:=Tryz.underlying213
 a28:=Tryz.isAgg213
 z28:=Tryz.sizeOf213
 v28:=Tryz.zeroValue213
 t33:=Tryz.underlying254
 a33:=Tryz.isAgg254
 z33:=Tryz.sizeOf254
 v33:=Tryz.zeroValue254
def Tryz.sortedA_ren : Go.Shelf.Ren:=⟨fun|6=>106|8=>179|9=>93|11=>247|13=>147|12=>168|23=>222|24=>223|14=>234|15=>235|16=>236|17=>237|18=>238|19=>239|20=>240|21=>241|22=>242|25=>290|26=>279|27=>280|28=>291|29=>292|30=>149|31=>319|n=>n,fun|26=>3|28=>213|24=>61|0=>0|3=>3|37=>78|48=>325|50=>257|4=>4|40=>318|39=>317|45=>322|5=>5|9=>9|51=>374|55=>369|57=>398|58=>399|33=>254|n=>n,λn=>n⟩
theorem Tryz.sortedA : SlLaysZI.n6 Tryz.prog Tryz.sortedA_ren where
 mixed:=by kernel_rfl
 f6 := ⟨ "slices.Sorted[int]", by decide, Tryz.func106.trans (congrArg some (by kernel_rfl))⟩
 f8 := ⟨ "slices.Collect[int]", by decide, Tryz.func179.trans (congrArg some (by kernel_rfl))⟩
 f11 := ⟨ "slices.AppendSeq[[]int,int]", by decide, Tryz.func247.trans (congrArg some (by kernel_rfl))⟩
 t0:=Tryz.underlying0
 a0:=Tryz.isAgg0
 z0:=Tryz.sizeOf0
 v0:=Tryz.zeroValue0
 t24:=Tryz.underlying61
 a24:=Tryz.isAgg61
 z24:=Tryz.sizeOf61
 v24:=Tryz.zeroValue61
 t26:=Tryz.underlying3
 a26:=Tryz.isAgg3
 z26:=Tryz.sizeOf3
 v26:=Tryz.zeroValue3
 t28:=Tryz.underlying213
 a28:=Tryz.isAgg213
 z28:=Tryz.sizeOf213
 v28:=Tryz.zeroValue213
 i26:=by kernel_rfl
def Tryz.sortA_ren : Go.Shelf.Ren:=⟨fun|5=>93|8=>147|7=>168|19=>222|20=>223|10=>234|11=>235|12=>236|13=>237|14=>238|15=>239|16=>240|17=>241|18=>242|30=>290|31=>279|32=>280|33=>291|34=>292|35=>149|40=>319|n=>n,fun|23=>61|25=>3|3=>3|32=>78|22=>61|0=>0|44=>325|46=>257|4=>4|36=>318|35=>317|41=>322|5=>5|9=>9|53=>374|57=>369|63=>398|64=>399|n=>n,λn=>n⟩
theorem Tryz.sortA : SlLaysM.n5 Tryz.prog Tryz.sortA_ren where
 mixed:=by kernel_rfl
 f5 := ⟨ "slices.Sort[[]int,int]", by decide, Tryz.func93.trans (congrArg some (by kernel_rfl))⟩
 f7 := ⟨ "slices.pdqsortOrdered[int]", by decide, Tryz.func168.trans (congrArg some (by kernel_rfl))⟩
 f8:=Tryz.func147.trans (congrArg some (by kernel_rfl))
 f10 := ⟨ "slices.insertionSortOrdered[int]", by decide, Tryz.func234.trans (congrArg some (by kernel_rfl))⟩
 f11 := ⟨ "slices.heapSortOrdered[int]", by decide, Tryz.func235.trans (congrArg some (by kernel_rfl))⟩
 f12 := ⟨ "slices.breakPatternsOrdered[int]", by decide, Tryz.func236.trans (congrArg some (by kernel_rfl))⟩
 f13 := ⟨ "slices.choosePivotOrdered[int]", by decide, Tryz.func237.trans (congrArg some (by kernel_rfl))⟩
 f14 := ⟨ "slices.reverseRangeOrdered[int]", by decide, Tryz.func238.trans (congrArg some (by kernel_rfl))⟩
 f15 := ⟨ "slices.partialInsertionSortOrdered[int]", by decide, Tryz.func239.trans (congrArg some (by kernel_rfl))⟩
 f16 := ⟨ "cmp.Less[int]", by decide, Tryz.func240.trans (congrArg some (by kernel_rfl))⟩
 f17 := ⟨ "slices.partitionEqualOrdered[int]", by decide, Tryz.func241.trans (congrArg some (by kernel_rfl))⟩
 f18 := ⟨ "slices.partitionOrdered[int]", by decide, Tryz.func242.trans (congrArg some (by kernel_rfl))⟩
 f19:=Tryz.func222.trans (congrArg some (by kernel_rfl))
 f20:=Tryz.func223.trans (congrArg some (by kernel_rfl))
 f30 := ⟨ "slices.siftDownOrdered[int]", by decide, Tryz.func290.trans (congrArg some (by kernel_rfl))⟩
 f31:=Tryz.func279.trans (congrArg some (by kernel_rfl))
 f32:=Tryz.func280.trans (congrArg some (by kernel_rfl))
 f33 := ⟨ "slices.medianAdjacentOrdered[int]", by decide, Tryz.func291.trans (congrArg some (by kernel_rfl))⟩
 f34 := ⟨ "slices.medianOrdered[int]", by decide, Tryz.func292.trans (congrArg some (by kernel_rfl))⟩
 f35 := ⟨ "cmp.isNaN[int]", by decide, Tryz.func149.trans (congrArg some (by kernel_rfl))⟩
 f40 := ⟨ "slices.order2Ordered[int]", by decide, Tryz.func319.trans (congrArg some (by kernel_rfl))⟩
 t0:=Tryz.underlying0
 a0:=Tryz.isAgg0
 z0:=Tryz.sizeOf0
 v0:=Tryz.zeroValue0
 t3:=Tryz.underlying3
 a3:=Tryz.isAgg3
 z3:=Tryz.sizeOf3
 v3:=Tryz.zeroValue3
 t4:=Tryz.underlying4
 a4:=Tryz.isAgg4
 z4:=Tryz.sizeOf4
 v4:=Tryz.zeroValue4
 t5:=Tryz.underlying5
 a5:=Tryz.isAgg5
 z5:=Tryz.sizeOf5
 v5:=Tryz.zeroValue5
 t9:=Tryz.underlying9
 a9:=Tryz.isAgg9
 z9:=Tryz.sizeOf9
 v9:=Tryz.zeroValue9
 t22:=Tryz.underlying61
 a22:=Tryz.isAgg61
 z22:=Tryz.sizeOf61
 v22:=Tryz.zeroValue61
 t23:=Tryz.underlying61
 a23:=Tryz.isAgg61
 z23:=Tryz.sizeOf61
 v23:=Tryz.zeroValue61
 t25:=Tryz.underlying3
 a25:=Tryz.isAgg3
 z25:=Tryz.sizeOf3
 v25:=Tryz.zeroValue3
 t32:=Tryz.underlying78
 a32:=Tryz.isAgg78
 z32:=Tryz.sizeOf78
 v32:=Tryz.zeroValue78
 t35:=Tryz.underlying317
 a35:=Tryz.isAgg317
 z35:=Tryz.sizeOf317
 v35:=Tryz.zeroValue317
 t36:=Tryz.underlying318
 a36:=Tryz.isAgg318
 z36:=Tryz.sizeOf318
 v36:=Tryz.zeroValue318
 t41:=Tryz.underlying322
 a41:=Tryz.isAgg322
 z41:=Tryz.sizeOf322
 v41:=Tryz.zeroValue322
 t44:=Tryz.underlying325
 a44:=Tryz.isAgg325
 z44:=Tryz.sizeOf325
 v44:=Tryz.zeroValue325
 t46:=Tryz.underlying257
 a46:=Tryz.isAgg257
 z46:=Tryz.sizeOf257
 v46:=Tryz.zeroValue257
 t53:=Tryz.underlying374
 a53:=Tryz.isAgg374
 z53:=Tryz.sizeOf374
 v53:=Tryz.zeroValue374
 t57:=Tryz.underlying369
 a57:=Tryz.isAgg369
 z57:=Tryz.sizeOf369
 v57:=Tryz.zeroValue369
 t63:=Tryz.underlying398
 a63:=Tryz.isAgg398
 z63:=Tryz.sizeOf398
 v63:=Tryz.zeroValue398
 t64:=Tryz.underlying399
 a64:=Tryz.isAgg399
 z64:=Tryz.sizeOf399
 v64:=Tryz.zeroValue399
end Go.Proofs
namespace Go.Proofs.YtiapingedfnlnaaGreatDoor
open Go Go.Proofs Wx
variable{j b o l c ec n i m k c0 nb cnt tl tc pl w q s p:Nat}{h hx h' h0:ab}{xs:LV}{a t d ta pa r e:OA}{F:NP}{K:KT}{az:Nat->Nat}
namespace Tm
open Hp W Ad
theorem insert_perm{H:Type}(x:Lit×DataW H):∀l:List (Lit×DataW H),(DataW.insert x l).Perm (x::l)
 | []=>List.Perm.refl _
 | y::r=>by
  show(if x.1.before y.1 then x::y::r else y::DataW.insert x r).Perm _
  split
  ·exact List.Perm.refl _
  ·exact((insert_perm x r).cons y).trans (List.Perm.swap x y r)
theorem Cf{H:Type}:∀l:List (Lit×DataW H),(l.foldr DataW.insert []).Perm l
 | []=>List.Perm.refl _
 | x::r=>(insert_perm x _).trans ((Cf r).cons x)
def Af : Value->Option (DataW Unit×List MemPlace):=λ_=>some (.nil,[])
def valI : Value->Int
 | .int _ n=>n
 | _=>0
def eD(l:List Int):List Int:=l.mergeSort λx y=>decide (x<=y)
theorem Ib{α:Type}{f:α->Value}{bx mb:Nat}{m:List (Int×α)}(hbx:rd h bx=[.map (some mb)])(M:kK DI h mb (mm f m))(hm:m.length<=1000000)(hr:∀ p ∈ m,-9223372036854775808<=p.1/\p.1<=9223372036854775807)
  (hK:∀a c h',Fr No h h'->Sl h' 1 a m.length c ((eD (m.map (·.1))).map (.int .i64)) (bZ h.size)->K (.slice a m.length c) h') :
  C.qq (.func (.func 180) #[] ⟨[.pointer (some ⟨bx,0,none⟩)]⟩) h K:=by
 refine⟨⟨_,Tryz.func106,by kernel_rfl,by kernel_rfl⟩,λw hw=>?_⟩;subst hw;obtain⟨es,clock,hb,he,_,pH⟩:=M
 have hlen:es.size=m.length:=by
  have:=congrArg List.length he;rw[List.length_map,List.length_map,MX]at this;simpa using this
 have EN:∀x∈es.toList,∃p∈m,x.key = .int .i64 p.1:=by
  intro x hx;have:(x.key,x.val)∈es.toList.map (λe=>(e.key,e.val)):=List.mem_map.mpr ⟨x,hx,rfl⟩;rw[he]at this;obtain⟨q,hq,e⟩:=List.mem_map.mp this;obtain⟨p,hp,rfl⟩:=List.mem_map.mp hq;exact⟨p,hp,(congrArg Prod.fst e).symm⟩
 have hwf:∀n:Int,-9223372036854775808<=n/\n<=9223372036854775807->(Lit.int .i64 n).wf=true:=λn hn=>by
  have h1:IntKind.i64.min = -9223372036854775808:=rfl;have h2:IntKind.i64.max=9223372036854775807:=rfl;simp only[Lit.wf,Bool.and_eq_true,decide_eq_true_eq];omega
 have XI:∀n:Int,-9223372036854775808<=n/\n<=9223372036854775807->∀x:MapEntry,x.key = .int .i64 n->WideElems.rd Tryz.prog 3 Af x=some (.int .i64 n,.nil):=λn hn x hx=>by
  have h1:keyOf Tryz.prog 3 x.key=some (.int .i64 n):=by
   rw[hx];simp[keyOf,mapKey,Tryz.underlying3,hwf n hn]
  simp[WideElems.rd,h1,Af]
 have fit:WideElems.Fit Tryz.prog 3 Af es clock:=⟨by rw[hlen];exact Nat.le_trans hm (by decide),pH,λx hx=>by
  obtain⟨p,hp,e⟩:=EN x hx
  exact⟨_,XI p.1 (hr p hp) x e⟩⟩
 have hown:w.ownsMap Tryz.prog 3 Af mb m.length (.map ((es.toList.map (WideElems.rg Tryz.prog 3 Af)).foldr DataW.insert [])):=⟨es,clock,hb,fit,by omega,rfl⟩
 have XJ:(intKeys (H:=Unit) (.map ((es.toList.map (WideElems.rg Tryz.prog 3 Af)).foldr DataW.insert []))).Perm (m.map (·.1)):=by
  refine List.Perm.trans (l₂:=(es.toList.map (WideElems.rg Tryz.prog 3 Af)).map λp:Lit×DataW Unit=>Go.intOf p.1) ((Cf _).map _) ?_;rw[List.map_map]
  have e1:es.toList.map ((λp:Lit×DataW Unit=>Go.intOf p.1) ∘ WideElems.rg Tryz.prog 3 Af)=m.map (·.1):=by
   have e2:es.toList.map (λx=>x.key)=m.map λp=>(.int .i64 p.1:Value):=by
    have:=congrArg (List.map Prod.fst) he;rw[List.map_map,List.map_map]at this;rw[show(es.toList.map λx=>x.key)=es.toList.map (Prod.fst ∘ λe=>(e.key,e.val)) from rfl,this];rw[mm,List.map_map];rfl
   have e3:es.toList.map ((λp:Lit×DataW Unit=>Go.intOf p.1) ∘ WideElems.rg Tryz.prog 3 Af)=(es.toList.map (λx=>x.key)).map valI:=by
    rw[List.map_map];refine List.map_congr_left λx hx=>?_;obtain⟨p,hp,e⟩:=EN x hx;have h1:=WideElems.rg_of (XI p.1 (hr p hp) x e);rw[Function.comp_apply,Function.comp_apply,h1,e];rfl
   rw[e3,e2,List.map_map];rfl
  rw[e1]
 have C1:bx<w.heap.size:=vH (o:=0) (v:=.map (some mb)) (by rw[hbx];rfl)
 have iH:Maps.size (.map ((es.toList.map (WideElems.rg Tryz.prog 3 Af)).foldr DataW.insert []):DataW Unit)=m.length:=by
  have:=XJ.length_eq;rw[List.length_map]at this;rw[<-this];show _=(List.map _ _).length;rw[List.length_map];rfl
 have hc:w.cell? ⟨bx,0,none⟩=some (.map (some mb)):=nt hbx rfl
 have hseq:SeqGives Fence.wide 2 Tryz.prog 180 #[.pointer (some ⟨bx,0,none⟩)] encZ (λss=>ss.Perm (intKeys (H:=Unit) (.map ((es.toList.map (WideElems.rg Tryz.prog 3 Af)).foldr DataW.insert [])))) (Maps.size (.map ((es.toList.map (WideElems.rg Tryz.prog 3 Af)).foldr DataW.insert []):DataW Unit)) w:=
  AnyZI.keys_gives (ρ:=Tryz.keysA_ren) { Tryz.keysA with } Fence.wide _ trivial rfl (by omega) bx mb m.length _ _ C1 hc hown
 have adz:∀k,AnyZI.SortsIn Tryz.prog Tryz.sortedA_ren Fence.wide k:=λk=>
  ⟨λblk off cap ss W hH hblk iH=>callsIn_wide.2 (AnyM.slices_Sort_int Tryz.sortA blk off cap ss W hH hblk iH),
   λp cap W=>callsIn_wide.2 (AnyM.slices_Sort_int_none Tryz.sortA p cap W)⟩
 have cS:=AnyZI.sorted_in Tryz.sortedA Fence.wide 5 trivial trivial trivial trivial rfl (by omega) (adz _) (enters_of Tryz.func93 (by kernel_rfl) rfl) 180 #[.pointer (some ⟨bx,0,none⟩)] trivial (enters_of Tryz.func180 (by kernel_rfl) rfl) _ _ (by rw[iH];exact Nat.le_trans hm (by decide)) (by rw[iH];omega) _ hseq;refine((callsIn_wide (n:=5)).1 cS).mono λe w' ⟨v,ss,he',hS,NF,_,QY⟩=>?_;have hS':ss.Perm (m.map (·.1)):=hS.trans XJ;have el:ss.length=m.length:=by have:=hS'.length_eq;rw[List.length_map]at this;exact this
 have sO:ss.mergeSort (λx y=>decide (x<=y))=eD (m.map (·.1)):=mergeSort_of_perm_i hS';rw[sO,el]at NF;have fr:Fr No w.heap w'.heap:=⟨QY.size,λk hk _=>QY.block k hk⟩;refine⟨v,he',⟨QY.os,QY.tape,QY.output⟩,?_⟩;obtain⟨hl,NF⟩:=NF
 rcases NF with⟨rfl,hz⟩|⟨gb,cap,cur,rfl,KQ,Zl,r1,r2,r3,r4⟩
 ·rw[hz]at hK;refine hK none 0 w'.heap fr ⟨?_,rfl,rfl⟩;rw[hz]at hl;exact hl
 ·refine hK _ cap w'.heap fr ⟨hl,rfl,KQ,⟨_,_,_,Zl,.inl rfl⟩,r1,?_,?_⟩
  ·have e:rd w'.heap gb=cur.toList:=(by unfold rd;rw[Zl]);show((rd w'.heap gb).drop 0).take _=_;rw[e,List.drop_zero,hl];exact r4
  ·have e:rd w'.heap gb=cur.toList:=(by unfold rd;rw[Zl]);show 0+cap*1<=(rd w'.heap gb).length;rw[e,Array.length_toList,r3];omega
def TM.written(T:TM):List Int:=eD (T.put.map (·.1))
theorem yb{T:TM}(x:Tx h F t d T)(hp:T.put.length<=1000000)
  (hK:∀a l c h',Fr No h h'->l=T.put.length->Sl h' 1 a l c (T.written.map (.int .i64)) (bZ h.size)->K (.slice a l c) h'):C.gn t h K:=by
 rcases x with⟨az,r,rfl,X,hF⟩|⟨az,tb,rfl,X,hF⟩
 ·have ZL:T.put.length=r.ps.length:=by rw[X.put,List.length_map]
  refine gn.ok (os ⟨_,bW X.cell rfl,cf rfl (os ⟨_,bW X.cell rfl,?_⟩)⟩);refine bX.ok (aC.intro λh2 n2=>⟨_,rfl,?_⟩);obtain⟨D,dk,_⟩:=Tx.dk (.inl ⟨az,r,rfl,X,hF⟩:Tx h F (some ⟨r.tb,0,none⟩) d T);have hmax:T.N<=16384:=dk.max.1;refine Ib (f:=λx:Sc×ay=>x.1.v) (m:=r.ps) n2.rd (JC X.map n2.fr λx=>x) (by omega) (λp hp=>?_) λa c h3 f3 s=>⟨_,_,_,rfl,?_⟩
  ·have:=X.pk (p.1,p.2.2) (by rw[X.put];exact List.mem_map.mpr ⟨p,hp,rfl⟩);simp only at this;omega
  ·have e:T.written=eD (r.ps.map (·.1)):=by
    unfold TM.written;rw[X.put,List.map_map];rfl
   rw[<-e]at s;exact hK a _ c h3 (n2.fr.no f3) ZL.symm (s.mono λb hb=>Nat.le_trans n2.fr.size hb)
 ·refine gn.ok (os ⟨_,bW X.cell rfl,ct rfl ?_⟩);have e1:=X.gone.1;have e:T.written=[]:=by unfold TM.written;rw[e1];exact List.mergeSort_nil
  have hK:=hK none 0 0 h (Fr.refl _ _) (by rw[e1];rfl);rw[e]at hK;exact hK (Sl.nil _ _ _)
end Tm
namespace Rx
open Hp W Ad Tm Spc Re
def tg(row:List (Int×ay))(i:Int):Option ay:=row.foldl (λo p=>if p.1=i then some p.2 else o) none
theorem Eg(row:List (Int×ay))(p:Int×ay)(i:Int):tg (row++[p]) i=if p.1=i then some p.2 else tg row i:=by
 unfold tg;rw[List.foldl_append];rfl
theorem Ic{i:Int}:∀{n:Nat} {row:List (Int×ay)},row.length=n->∀{b:ay},tg row i=some b->(i,b)∈row
 | 0,row,hn,b,e=>by rw[List.eq_nil_of_length_eq_zero hn]at e;cases e
 | n+1,row,hn,b,e=>by
  have ne:row≠[]:=by intro y;rw[y]at hn;cases hn
  rw[<-List.dropLast_concat_getLast ne]at e ⊢;rw[Eg]at e
  split at e
  ·rename_i h;cases e;subst h;exact List.mem_append_right _ (List.mem_singleton.mpr rfl)
  ·exact List.mem_append_left _ (Ic (n:=n) (by rw[List.length_dropLast,hn];rfl) e)
structure RM where
 oB:RD
 row:List (Int×ay)
 ends:Bool
def RM.N(M:RM):Nat:=M.oB.dg.length
def RM.read(M:RM)(i:Int):ay×Int:=
 if M.ends=true then([],61)else if i<0∨i>=M.N then([],31)else match tg M.row i with
  | some b=>(b,0)
  | none=>if M.oB.down=true then([],30)else(j5 M.oB i.toNat,0)
structure XK(T:TM)(M:RM):Prop where
 ends:M.ends=T.over
 dk:M.oB=T.oB
 gone:T.over=true->T.put=[]/\T.Fu=[]
 un:T.over=false->T.Fu.length=M.row.length
 nd:T.over=false->∀k,k<=M.row.length->((uV T.put (T.Fu.drop k)).map (·.1)).Nodup
 mx:T.over=false->∀k,k<=M.row.length->(uV T.put (T.Fu.drop k)).length<=96
 get:T.over=false->∀k,k<=M.row.length->∀i,rz (uV T.put (T.Fu.drop k)) i=tg (M.row.take k) i
 rr:∀p∈M.row,98<=p.1/\p.1<T.N/\p.2.length=512
theorem XK.N{T:TM}{M:RM}(s:XK T M):M.N=T.N:=by unfold RM.N;rw[s.dk];rfl
theorem XK.now{T:TM}{M:RM}(s:XK T M)(h:T.over=false)(i:Int):rz T.put i=tg M.row i:=by
 have:=s.get h M.row.length (Nat.le_refl _) i;rw[<-s.un h,List.drop_length,s.un h,List.take_length]at this;exact this
theorem XK.read{T:TM}{M:RM}(s:XK T M)(i:Int):M.read i=T.read i:=by
 unfold RM.read TM.read;rw[s.ends,s.N]
 split
 ·rfl
 ·rename_i h;have hl:T.over=false:=by cases e:T.over <;> simp_all
  split
  ·rfl
  ·rename_i h2;rw[<-s.now hl i]
   cases e:rz T.put i with
   | some b=>rw[TM.get_some e]
   | none=>
    rw[TM.get_none e,s.dk]
theorem Vl(S:RD):XK ⟨S,[],[],false⟩ ⟨S,[],false⟩:=
 ⟨rfl,rfl,λy=>(by cases y),λ_=>rfl,λ_ k _=>by
  show((uV [] (([]:List (Int×Option ay)).drop k)).map _).Nodup
  rw[List.drop_nil];exact List.nodup_nil,λ_ k _=>by
  show(uV [] (([]:List (Int×Option ay)).drop k)).length<=96
  rw[List.drop_nil];exact Nat.zero_le _,λ_ k _ i=>by
  show rz (uV [] (([]:List (Int×Option ay)).drop k)) i=tg (([]:List (Int×ay)).take k) i
  rw[List.drop_nil,List.take_nil];rfl,λp hp=>(by cases hp)⟩
theorem J7{bs:ay}{t:Nat}{k:Nat->ab->Prop}(H:∀ cap h',Fr No h h'->Sl h' 1 (some ⟨h.size,0,none⟩) bs.length cap (bs.map bv) (λb=>b=h.size)->k cap h'):SH (mkStr bs) t h k:=by
 intro cap qW;have qW:bs.length<=cap:=qW;show k cap (tp h ((mkStr bs).toList.map bv++List.replicate (cap-bs.length) (bv 0)) t);rw[toList_mkStr];generalize wO:bs.map bv++List.replicate (cap-bs.length) (bv 0)=cs;have hg:(tp h cs t)[h.size]?=some (.cells ⟨cs⟩ t (cs.length,cs.length+1)):=by simp[tp]
 have hr:rd (tp h cs t) h.size=cs:=by simp only[rd,hg]
 refine H cap _ ⟨by simp[tp],λx hx _=>by simp[tp,Array.getElem?_push,show x≠h.size by omega]⟩ ⟨by rw[List.length_map,Nat.mul_one],rfl,rfl,⟨_,_,_,hg,.inr (Nat.le_refl _)⟩,qW,?_,?_⟩
 ·show((rd (tp h cs t) h.size).drop 0).take _=_;rw[hr,<-wO,List.drop_zero];exact List.take_left
 ·show 0+cap*1<=(rd (tp h cs t) h.size).length;rw[hr,<-wO,List.length_append,List.length_map,List.length_replicate];omega
def Eh(p:Int×ay):LV:=[.int .i64 p.1,.string (mkStr p.2)]
structure RR where
 rb:Nat
 q:OA
 ra:OA
 rc:Nat
structure RxC(h:ab)(az:Nat->Nat)(R:RR)(M:RM):Prop where
 Ut:∀b,h.size<=b->az b=0
 rc:az R.rb=1
 ro:du h R.rb
 rr:rd h R.rb=[.pointer R.q,.slice R.ra M.row.length R.rc,.bool M.ends]
 dk:Rf.zC h (λb=>az b=3) R.q M.oB
 row:Sl h 2 R.ra M.row.length R.rc (M.row.flatMap Eh) (On az 4)
 rm:M.row.length<=1000000000
def Rx(h:ab)(F:NP)(r e:OA)(M:RM):Prop:=∃az R,r=some ⟨R.rb,0,none⟩/\e=R.q/\RxC h az R M/\∀b,F b↔1<=az b/\az b<=4
theorem iffS{E E':NP}{D:RD}(x:Rf.zC h E r D)(g:∀ b,E' b↔E b):Rf.zC h E' r D:=by
 obtain⟨az,S,a,s,p,w,hz,hD⟩:=x;exact⟨az,S,a,s,p,w,hz,λb=>(g b).trans (hD b)⟩
theorem RxC.gL{R:RR}{M:RM}{G:NP}(X:RxC h az R M)(f:Fr G h h')(hG:∀ b,b<h.size->1<=az b->az b<=4->¬ G b):RxC h' az R M:=by
 have c1:=X.rc;have l1:=X.ro.lt;have g1:=hG _ l1 (by omega) (by omega)
 exact⟨λb hb=>X.Ut b (Nat.le_trans f.size hb),c1,f.own l1 g1 X.ro,(f.rd l1 g1).trans X.rr,
  X.dk.fr f (λb hb=>hG b (X.dk.lt hb) (by have hb:az b=3:=hb;omega) (by have hb:az b=3:=hb;omega)),X.row.fr f (λb hb e=>hG b hb (by have e:az b=4:=e;omega) (by have e:az b=4:=e;omega)),X.rm⟩
theorem Rx.fr{G:NP}{M:RM}(x:Rx h F r e M)(f:Fr G h h')(hG:∀ b,F b->¬ G b):Rx h' F r e M:=by
 obtain⟨az,R,e1,e2,X,hF⟩:=x;exact⟨az,R,e1,e2,X.gL f λb _ h1 h2=>hG b ((hF b).mpr ⟨h1,h2⟩),hF⟩
theorem wz{D:NP}{q:OA}{S:RD}(x:Rf.zC h D q S)
  (hK:∀F h',Fr No h h'->Rx h' F (some ⟨h.size,0,none⟩) q ⟨S,[],false⟩->(∀b,F b↔D b∨b=h.size)->K (.pointer (some ⟨h.size,0,none⟩)) h'):C.gm q h K:=by
 have l:=λb (hb:D b)=>x.lt hb;refine gm.ok (aC.intro λh2 n2=>?_);have z:=n2.size
 obtain⟨az,c1,c3,c4⟩:∃az:Nat->Nat,az h.size=1/\(∀b,D b->az b=3)/\∀b,¬D b->b≠h.size->az b=0:=
  ⟨λb=>if b=h.size then 1 else @ite _ (D b) (Classical.propDecidable _) 3 0,if_pos rfl,
   (λb hb=>by have:=l b hb;show(if b=h.size then 1 else @ite _ (D b) (Classical.propDecidable _) 3 0)=3;rw[if_neg (by omega),if_pos hb]),(λb hb fB=>by show(if b=h.size then 1 else @ite _ (D b) (Classical.propDecidable _) 3 0)=0;rw[if_neg fB,if_neg hb])⟩
 refine hK (λb=>1<=az b/\az b<=4) h2 n2.fr ⟨az,⟨h.size,q,none,0⟩,rfl,rfl,⟨λb hb=>c4 b (λy=>by have:=l b y;omega) (by omega),c1,n2.own,n2.rd,iffS (x.no n2.fr) λb=>⟨λe=>?_,c3 b⟩,Sl.nil _ _ _,Nat.zero_le _⟩,λb=>Iff.rfl⟩ λb=>⟨λhb=>?_,λhb=>?_⟩
 ·refine Classical.byContradiction λy=>?_;have e:az b=3:=e
  by_cases y2:b=h.size
  ·rw[y2]at e;omega
  ·have:=c4 b y y2;omega
 ·by_cases y:D b
  ·exact .inl y
  ·refine .inr (Classical.byContradiction λne=>?_);have:=c4 b y ne;omega
 ·rcases hb with y|rfl
  ·have:=c3 b y;omega
  ·omega
theorem RxC.Eh{h:ab}{az:Nat->Nat}{R:RR}{M:RM}(X:RxC h az R M){j:Nat}(hj:j<M.row.length):∃p,R.ra=some p/\ai h (p.add (j*2)) (Eh M.row[j]):=by
 obtain⟨p,ep,cc⟩:=X.row.get (by omega);refine⟨p,ep,?_⟩;have:=ai.take (ai.drop cc (j*2)) 2;rw[kq Rx.Eh 2 M.row (λx _=>rfl) j hj]at this;exact this
theorem mF{R:RR}{M:RM}(X:RxC h az R M)(hK:K (.int .i64 M.N) h):C.bS R.q h K:=X.dk.blocks hK
def AtR(row:List (Int×ay))(i:Int)(a:Int):Prop:=(a = -1/\tg row i=none)∨∃k:Nat,∃hk:k<row.length,a=k/\tg row i=some row[k].2
theorem QZ{R:RR}{M:RM}{i:Int}(X:RxC h az R M)(hK:∀ a,AtR M.row i a->K (.int .i64 a) h):C.fU (some ⟨R.rb,0,none⟩) i h K:=by
 have rm:=X.rm
 refine fU.ok ⟨λa k hh=>∃j:Nat,k=j/\j<=M.row.length/\h=hh/\((a = -1/\tg (M.row.take j) i=none)∨∃k:Nat,∃hk:k<M.row.length,a=k/\tg (M.row.take j) i=some M.row[k].2),λ_ k _=>((M.row.length:Int)-k).toNat,
  ⟨0,rfl,Nat.zero_le _,rfl,.inl ⟨rfl,rfl⟩⟩,?_⟩
 rintro a k _ ⟨j,rfl,hj,rfl,ha⟩;refine os ⟨_,_,_,bW X.rr rfl,cd (λhl=>?_) λhl=>?_⟩
 ·have RW:j<M.row.length:=by omega
  obtain⟨p,ep,cc⟩:=X.Eh RW;refine os ⟨_,_,_,bW X.rr rfl,⟨by omega,hl⟩,oe ep ⟨_,ai.cell cc rfl,?_⟩⟩
  have es:tg (M.row.take (j+1)) i=if M.row[j].1=i then some M.row[j].2 else tg (M.row.take j) i:=by rw[uT _ _ RW,Eg]
  have ew:IntKind.wrap .i64 ((j:Int)+1)=((j+1:Nat):Int):=by rw[wrap_i64 (by omega) (by omega)];omega
  rw[ew];refine ce (λe=>⟨⟨j+1,rfl,RW,rfl,.inr ⟨j,RW,rfl,by rw[es,if_pos e]⟩⟩,(by show((M.row.length:Int)-((j+1:Nat):Int)).toNat<((M.row.length:Int)-(j:Int)).toNat;omega)⟩) λe=>⟨⟨j+1,rfl,RW,rfl,?_⟩,(by show((M.row.length:Int)-((j+1:Nat):Int)).toNat<((M.row.length:Int)-(j:Int)).toNat;omega)⟩;rw[es,if_neg e];exact ha
 ·have e:j=M.row.length:=by omega
  subst e;rw[List.take_length]at ha;exact hK a ha
theorem AtR.neg{row:List (Int×ay)}{i a:Int}(x:AtR row i a):a<0↔tg row i=none:=by
 rcases x with⟨rfl,e⟩|⟨k,hk,rfl,e⟩
 ·exact⟨λ_=>e,λ_=>by decide⟩
 ·exact⟨λy=>by omega,λy=>by rw[y]at e;cases e⟩
theorem J8{R:RR}{M:RM}{i:Int}(X:RxC h az R M)(h0:0<=i)(h1:i<M.N)
  (hK:∀a l c h',Fr No h h'->l=(if M.oB.down=true then([]:ay)else j5 M.oB i.toNat).length->Sl h' 1 a l c ((if M.oB.down=true then([]:ay)else j5 M.oB i.toNat).map bv) (bZ h.size)->K (.tuple #[.slice a l c,.int .i64 (if M.oB.down=true then 30 else 0)]) h') :
  C.bM R.q i h K:=by
 refine X.dk.read (λho=>?_) (λ_ y=>absurd ⟨h0,h1⟩ y) λho _ _ a l c h' f s=>?_
 ·rw[ho]at hK;exact hK none 0 0 h (Fr.refl _ _) rfl (Sl.nil _ _ _)
 ·rw[ho,if_neg (by simp),if_neg (by simp)]at hK;exact hK a l c h' f (by have:=s.1;rw[List.length_map]at this;omega) s
theorem J9{M:RM}{i:Int}(x:Rx h F r e M)
  (hK:∀a l c h',Fr No h h'->l=(M.read i).1.length->Sl h' 1 a l c ((M.read i).1.map bv) (bZ h.size)->K (.tuple #[.slice a l c,.int .i64 (M.read i).2]) h'):C.bu r i h K:=by
 obtain⟨az,R,rfl,rfl,X,hF⟩:=x
 have bad:∀e,M.read i=([],e)->K (.tuple #[.slice none 0 0,.int .i64 e]) h:=λe h2=>by
  rw[h2]at hK;exact hK none 0 0 h (Fr.refl _ _) rfl (Sl.nil _ _ _)
 refine bu.ok (os ⟨_,bW X.rr rfl,?_⟩)
 cases he:M.ends with
 | true=>exact ct rfl (bad _ (by unfold RM.read;rw[if_pos he]))
 | false=>
  have e0:M.read i=if i<0∨i>=M.N then(([],31):ay×Int)else match tg M.row i with
   | some b=>(b,0)
   | none=>if M.oB.down=true then([],30)else(j5 M.oB i.toNat,0):=by unfold RM.read;rw[if_neg (by rw[he];simp)] <;> rfl
  refine cf rfl (cd (λy=>bad _ (by rw[e0,if_pos (.inl y)])) λy0=>os ⟨_,bW X.rr rfl,mF X ⟨_,rfl,cd (λy=>bad _ (by rw[e0,if_pos (.inr y)])) λy1=>?_⟩⟩);rw[if_neg (by omega)]at e0;unfold bu.k1;refine QZ X λa ha=>⟨_,rfl,cd (λy=>?_) λy=>?_⟩
  ·rcases ha with⟨rfl,_⟩|⟨k,hk,rfl,eg⟩
   ·exact absurd y (by decide)
   ·rw[eg]at e0;simp only at e0;rw[e0]at hK;obtain⟨p,ep,cc⟩:=X.Eh hk;refine os ⟨_,_,_,bW X.rr rfl,⟨by omega,by omega⟩,oe ep ⟨_,ai.cell cc rfl,J7 λcap h5 f5 s5=>?_⟩⟩;exact hK _ _ cap h5 f5 rfl (s5.mono λb hb=>by have hb:b=h.size:=hb;show h.size<=b;omega)
  ·have eg:tg M.row i=none:=ha.neg.mp (by omega);rw[eg]at e0;simp only at e0;refine os ⟨_,bW X.rr rfl,J8 X (by omega) (by omega) λa l c h6 f6 hl s6=>⟨_,_,_,_,rfl,?_⟩⟩;rw[e0]at hK
   cases ho:M.oB.down with
   | true=>rw[ho]at hK hl s6;exact hK a l c h6 f6 hl s6
   | false=>rw[ho]at hK hl s6;exact hK a l c h6 f6 hl s6
theorem yc{elem:TI}{e:Nat}{new:LV}{k:OA->Nat->Nat->ab->Prop}(f:Fr No h0 h)
  (s:Sl h elem.cells a l c xs (bZ h0.size)) (hn:new.length=n*elem.cells) (hz:elem.zero.length=elem.cells) (hb:(l+n)*elem.bytes<=140737488355328) (mQ:l+n<=140737488355328)
  (hk:∀a' c' h',Fr No h0 h'->Sl h' elem.cells a' (l+n) c' (xs++new) (bZ h0.size)->k a' (l+n) c' h') :
  aw elem e a l c n new h k:=by
 have hs:=f.size;refine aT s hn hz hb mQ λa' c' h' f' s'=>hk a' c' h' (f.trans f' λb hb e=>by have:h0.size<=b:=e;omega) (s'.mono λb hb=>?_)
 rcases hb with hb|hb
 ·exact hb
 ·show h0.size<=b;omega
def qR(h:ab)(F:NP)(r e:OA)(T:TM):Prop:=∃M,XK T M/\Rx h F r e M
theorem qR.fr{h h':ab}{F G:NP}{r e:OA}{T:TM}(x:qR h F r e T)(f:Fr G h h')(hG:∀ b,F b->¬ G b):qR h' F r e T:=by
 obtain⟨M,s,x⟩:=x;exact⟨M,s,x.fr f hG⟩
theorem qR.no{T:TM}(x:qR h F r e T)(f:Fr No h h'):qR h' F r e T:=x.fr f λ_ _ y=>y
theorem fM{T:TM}{i:Int}(x:qR h F r e T)
  (hK:∀a l c h',Fr No h h'->l=(T.read i).1.length->Sl h' 1 a l c ((T.read i).1.map bv) (bZ h.size)->K (.tuple #[.slice a l c,.int .i64 (T.read i).2]) h'):C.bu r i h K:=by
 obtain⟨M,s,x⟩:=x;rw[<-s.read i]at hK;exact J9 x hK
theorem qR.mZ{h:ab}{F:NP}{r e:OA}{T:TM}(x:qR h F r e T){i:Int}(e0:(T.read i).2=0):(T.read i).1.length=512:=by
 obtain⟨M,s,az,R,rfl,rfl,X,hF⟩:=x;have hN:=s.N;rw[<-s.read i]at e0 ⊢;unfold RM.read at e0 ⊢
 split at e0
 ·cases e0
 ·rename_i h1;rw[if_neg h1]
  split at e0
  ·cases e0
  ·rename_i h2;rw[if_neg h2]
   cases eg:tg M.row i with
   | some b=>exact(s.rr _ (Ic rfl eg)).2.2
   | none=>
    rw[eg]at e0;simp only at e0 ⊢
    split at e0
    ·cases e0
    ·rename_i h3;rw[if_neg h3];exact Wd.zC.mZ X.dk (by simpa using h3) (by have e:M.N=M.oB.dg.length:=rfl;omega)
end Rx
namespace Ry
open Hp W Ad Tm Bt Spc Re Av Rx
theorem _root_.Go.Proofs.YtiapingedfnlnaaGreatDoor.Rx.qR.rlen{T:TM}(x:qR h F r e T){i:Int}(e0:(T.read i).2=0):(T.read i).1.length=512:=by
 exact x.mZ e0
end Ry
namespace Ry
open Hp W Ad Tm Spc Re Av Rx
open Hd (ints xu fL lH)
open In (ah av)
open Bm (sk Fy pW rD uW kX nO kY pt dI oO)
open Bt (Fw)
theorem Q0{l:ay}(h:o+4<=l.length):(l.drop o).take 4=[l.getD o 0,l.getD (o+1) 0,l.getD (o+2) 0,l.getD (o+3) 0]:=by
 refine List.ext_getElem (by rw[List.length_take,List.length_drop];show min 4 _=4;omega) λi h1 h2=>?_;have h2:i<4:=h2;rw[List.getElem_take,List.getElem_drop]
 rcases(by omega:i=0∨i=1∨i=2∨i=3)with rfl|rfl|rfl|rfl <;> · rw[show ∀j,l.getD j 0=(l[j]?).getD 0 from λj=>List.getD_eq_getElem?_getD ..];simp only[List.getElem_cons_zero,List.getElem_cons_succ,List.getD_eq_getElem?_getD];rw[List.getElem?_eq_getElem (by omega)];rfl
theorem J'{b:ay}(hb:b.length=512)(hp:p<128):sk b p=(b.getD (4*p) 0).toNat+(b.getD (4*p+1) 0).toNat*256+(b.getD (4*p+2) 0).toNat*65536+(b.getD (4*p+3) 0).toNat*16777216:=by
 unfold Bm.sk;rw[Q0 (by omega)];show(b.getD (4*p) 0).toNat+256*((b.getD (4*p+1) 0).toNat+256*((b.getD (4*p+2) 0).toNat+256*((b.getD (4*p+3) 0).toNat+256*0)))=_;omega
theorem Ka{bs:ay}(B:aJ h a l bs)(hl:bs.length=512)(hK:∀ a' c' h',Fr No h h'->Sl h' 1 a' 128 c' (ints (pW bs)) (bZ h.size)->K (.slice a' 128 c') h') :
  C.hZ a l c h K:=by
 have el:l=512:=by rw[<-B.1];exact hl
 refine hZ.ok ⟨λla ll lc i hh=>∃m:Nat,i=m/\m<=128/\ll=m/\Fr No h hh/\Sl hh 1 la m lc (ints ((pW bs).take m)) (bZ h.size),λ_ _ _ i _=>((128:Int)-i).toNat,⟨0,rfl,Nat.zero_le _,rfl,Fr.refl _ _,Sl.nil _ _ _⟩,?_⟩;rintro la ll lc i h2 ⟨m,ei,hm,rfl,f2,s2⟩;refine cd (λdh=>?_) λdh=>?_
 ·have hm':ll<128:=by omega
  have B2:=aJ.fr f2 B λ_ _ y=>y;have cl:∀j,j<4->∃p,a=some p/\cellOf h2 (p.add (4*ll+j))=some (.int .u8 ((bs.getD (4*ll+j) 0).toNat:Int)):=λj hj=>Fw B2 (by omega);obtain⟨p,rfl,c0⟩:=cl 0 (by decide);obtain⟨_,e1,c1⟩:=cl 1 (by decide)
  cases e1
  obtain⟨_,e1,c2⟩:=cl 2 (by decide)
  cases e1
  obtain⟨_,e1,c3⟩:=cl 3 (by decide)
  cases e1
  rw[wrap_i64 (n:=4*i) (by omega) (by omega),wrap_i64 (n:=4*i+1) (by omega) (by omega),wrap_i64 (n:=4*i+2) (by omega) (by omega),wrap_i64 (n:=4*i+3) (by omega) (by omega)];have e0:(4*i).toNat=4*ll+0:=by omega
  have e1:(4*i+1).toNat=4*ll+1:=by omega
  have e2:(4*i+2).toNat=4*ll+2:=by omega
  have e3:(4*i+3).toNat=4*ll+3:=by omega
  rw[e0,e1,e2,e3];refine⟨by omega,os ⟨_,c0,by omega,os ⟨_,c1,by omega,os ⟨_,c2,by omega,os ⟨_,c3,aC.intro λh3 n3=>⟨_,rfl,aj n3.rd,by intro v hv;rw[List.mem_singleton.mp hv];rfl,?_⟩⟩⟩⟩⟩⟩;have nb:=J' hl hm';have b0:(bs.getD (4*ll+0) 0).toNat<256:=UInt8.toNat_lt _;have b1:(bs.getD (4*ll+1) 0).toNat<256:=UInt8.toNat_lt _;have b2:(bs.getD (4*ll+2) 0).toNat<256:=UInt8.toNat_lt _;have b3:(bs.getD (4*ll+3) 0).toNat<256:=UInt8.toNat_lt _;rw[Nat.add_zero]at b0
  have ev:IntKind.wrap .i64 ((IntKind.wrap .i64 ((IntKind.wrap .i64 ((IntKind.wrap .i64 ((bs.getD (4*ll+0) 0).toNat:Int))+(IntKind.wrap .i64 ((IntKind.wrap .i64 ((bs.getD (4*ll+1) 0).toNat:Int))*256))))+(IntKind.wrap .i64 ((IntKind.wrap .i64 ((bs.getD (4*ll+2) 0).toNat:Int))*65536))))+(IntKind.wrap .i64 ((IntKind.wrap .i64 ((bs.getD (4*ll+3) 0).toNat:Int))*16777216)))=((sk bs ll:Nat):Int):=by
   rw[nb,Nat.add_zero];generalize(bs.getD (4*ll) 0).toNat=x0 at b0;generalize(bs.getD (4*ll+1) 0).toNat=x1 at b1;generalize(bs.getD (4*ll+2) 0).toNat=x2 at b2;generalize(bs.getD (4*ll+3) 0).toNat=x3 at b3
   rw[wrap_i64 (n:=(x0:Int)) (by omega) (by omega),wrap_i64 (n:=(x1:Int)) (by omega) (by omega),wrap_i64 (n:=(x2:Int)) (by omega) (by omega),wrap_i64 (n:=(x3:Int)) (by omega) (by omega),wrap_i64 (n:=(x1:Int)*256) (by omega) (by omega),wrap_i64 (n:=(x2:Int)*65536) (by omega) (by omega),wrap_i64 (n:=(x3:Int)*16777216) (by omega) (by omega),
    wrap_i64 (n:=(x0:Int)+(x1:Int)*256) (by omega) (by omega),wrap_i64 (n:=(x0:Int)+(x1:Int)*256+(x2:Int)*65536) (by omega) (by omega),wrap_i64 (by omega) (by omega)]
   omega
  rw[ev];refine aT (s2.fr n3.fr λ_ _ _ y=>y) rfl rfl (by show(ll+1)*8<=_;omega) (by omega) λa' c' h4 f4 s4=>?_;rw[wrap_i64 (by omega) (by omega)];have z2:=f2.size;have z3:=n3.size;refine⟨⟨ll+1,by omega,by omega,rfl,(f2.new n3).trans f4 λb hb y=>by have y:h.size<=b:=y;omega,?_⟩,by show((128:Int)-(i+1)).toNat<((128:Int)-i).toNat;omega⟩
  have et:(pW bs).take (ll+1)=(pW bs).take ll++[((sk bs ll:Nat):Int)]:=by
   have dh:ll<(pW bs).length:=(by rw[rD];exact hm');rw[uT _ _ dh,uW dh]
  rw[et];have es:ints ((pW bs).take ll++[((sk bs ll:Nat):Int)])=ints ((pW bs).take ll)++[.int .i64 ((sk bs ll:Nat):Int)]:=by unfold Hd.ints;rw[List.map_append];rfl
  rw[es];exact s4.mono λb hb=>hb.elim id λy=>by show h.size<=b;omega
 ·have em:ll=128:=by omega
  subst em;rw[List.take_of_length_le (by rw[rD];exact Nat.le_refl _)]at s2;exact hK la lc h2 f2 s2
theorem yD{g:G}{v:Int}(hK:∀ h',Fr No h h'->K (.int .i64 (if v=0 then 0 else kX g v)) h'):C.iN g.v v h K:=by
 refine iN.ok (aC.intro λh2 n2=>cn (λh0=>⟨_,bW n2.rd rfl,cd (λh1=>?_) λh1=>⟨_,bW n2.rd rfl,cd (λh3=>?_) λh3=>?_⟩⟩) λh0=>?_)
 ·have:=hK h2 n2.fr;rw[if_neg h0]at this;unfold Bm.kX at this;rw[if_pos (.inl h1)]at this;exact this
 ·have:=hK h2 n2.fr;rw[if_neg h0]at this;unfold Bm.kX at this;rw[if_pos (.inr h3)]at this;exact this
 ·have:=hK h2 n2.fr;rw[if_neg h0]at this;unfold Bm.kX at this;rw[if_neg (by omega)]at this;exact this
 ·have:=hK h2 n2.fr;rw[if_pos h0]at this;exact this
theorem yK{T:TM}{i:Int}(x:qR h F r e T)
  (h1:(T.read i).2≠0->∀h',Fr No h h'->K (.tuple #[.slice none 0 0,.int .i64 (T.read i).2]) h')
  (h2:(T.read i).2=0->∀a c h',Fr No h h'->Sl h' 1 a 128 c (ints (pW (T.read i).1)) (bZ h.size)->K (.tuple #[.slice a 128 c,.int .i64 0]) h'):C.iO r i h K:=by
 refine iO.ok (Rx.fM x λa l c h3 f3 hl s=>⟨_,_,_,_,rfl,cn (λhe=>h1 he h3 f3) λhe=>?_⟩);exact Ka s.str (x.rlen he) λa' c' h4 f4 s4=>⟨_,_,_,rfl,h2 he a' c' h4 (f3.no f4) (s4.mono λb hb=>Nat.le_trans f3.size hb)⟩
def qL(k:Nat):Nat:=if k<10 then k else if k<138 then 10 else 11
def oS(k:Nat):List Nat:=if k<10 then[]else if k<138 then[k-10]else[(k-138)/128,(k-138)%128]
def kE(R:List Int)(i:Nat):Int:=if i=10 then R.getD 13 0 else if i=11 then R.getD 14 0 else R.getD (3+i) 0
def Ie(l:List Nat):List Int:=l.map λi:Nat=>((i:Nat):Int)
theorem Ig(hk:k<16522)(hK:∀ a c h',Fr No h h'->ag h' a (ints (Ie (oS k)))->(∀ p,a=some p->h.size<=p.block/\p.block<h'.size)->K (.tuple #[.int .i64 (qL k:Nat),.slice a (oS k).length c]) h'):C.gF k h K:=by
 obtain⟨k',ek⟩:∃k':Int,k'=(k:Int):=⟨_,rfl⟩;rw[<-ek];refine gF.ok (cd (λh1=>?_) λh1=>cd (λh2=>aC.intro λh3 n3=>?_) λh2=>aC.intro λh3 n3=>?_)
 ·have e1:qL k=k:=by unfold qL;rw[if_pos (by omega)]
  have e2:oS k=[]:=by unfold oS;rw[if_pos (by omega)]
  rw[e1,e2,<-ek]at hK;exact hK none 0 h (Fr.refl _ _) rfl λp y=>by cases y
 ·have e1:qL k=10:=by unfold qL;rw[if_neg (by omega),if_pos (by omega)]
  have e2:oS k=[k-10]:=by unfold oS;rw[if_neg (by omega),if_pos (by omega)]
  rw[e1,e2]at hK;have r3:=n3.rd;rw[wrap_i64 (by omega) (by omega)]at r3;refine hK _ 1 h3 n3.fr (aj (r3.trans ?_)) λp y=>by cases y;exact⟨Nat.le_refl _,n3.own.lt⟩
  show _=[Value.int .i64 ((k-10:Nat):Int)];rw[show((k-10:Nat):Int)=k' - 10 by omega]
 ·have e1:qL k=11:=by unfold qL;rw[if_neg (by omega),if_neg (by omega)]
  have e2:oS k=[(k-138)/128,(k-138)%128]:=by unfold oS;rw[if_neg (by omega),if_neg (by omega)]
  rw[e1,e2]at hK;have r3:=n3.rd;rw[wrap_i64 (n:=k' - 10) (by omega) (by omega),wrap_i64 (n:=k' - 10-128) (by omega) (by omega),Int.tdiv_eq_ediv_of_nonneg (by omega),Int.tmod_eq_emod_of_nonneg (by omega),wrap_i64 (by omega) (by omega)]at r3;refine hK _ 2 h3 n3.fr (aj (r3.trans ?_)) λp y=>by cases y;exact⟨Nat.le_refl _,n3.own.lt⟩
  show _=[Value.int .i64 (((k-138)/128:Nat):Int),.int .i64 (((k-138)%128:Nat):Int)];rw[show(((k-138)/128:Nat):Int)=(k' - 10-128)/128 by omega,show(((k-138)%128:Nat):Int)=(k' - 10-128)%128 by omega]
theorem Vm(k:Nat):qL k<12:=by
 unfold qL
 split
 ·omega
 ·split <;> omega
theorem kZ{R:List Int}(hR:R.length=15)(hi:i<12)(hK:∀ h',Fr No h h'->K (.int .i64 (kE R i)) h'):C.gG (ints R) i h K:=by
 have at_:∀j,j<15->(ints R)[j]?=some (.int .i64 (R.getD j 0)):=λj hj=>by
  unfold Hd.ints;rw[List.getElem?_map,List.getD_eq_getElem?_getD,List.getElem?_eq_getElem (by omega)];rfl
 refine gG.ok (aC.intro λh2 n2=>ce (λh0=>⟨_,bW n2.rd (at_ 13 (by decide)),?_⟩) λh0=>ce (λh1=>⟨_,bW n2.rd (at_ 14 (by decide)),?_⟩) λh1=>⟨by omega,R.getD (3+i) 0,?_,?_⟩)
 ·have:=hK h2 n2.fr;unfold kE at this;rw[if_pos (by omega)]at this;exact this
 ·have:=hK h2 n2.fr;unfold kE at this;rw[if_neg (by omega),if_pos (by omega)]at this;exact this
 ·rw[cI,cI,ko,n2.rd,Nat.zero_add,Int.toNat_natCast];exact at_ (3+i) (by omega)
 ·have:=hK h2 n2.fr;unfold kE at this;rw[if_neg (by omega),if_neg (by omega)]at this;exact this
def Ei(T:TM)(g:G)(R:List Int)(n:Int)(ps:List Nat):Int×Int:=if n=0 then(0,0)else if kX g n≠0 then(0,kX g n)else kY T g R (ps.map λp=>(3,p)) n
theorem NZ{T:TM}{g:G}{R:List Int}(hk:k<16522):dI T g R k=Ei T g R (kE R (qL k)) (oS k):=by
 have e:pt k=(if qL k=10 then(1,0)else if qL k=11 then(2,0)else(0,qL k))::(oS k).map λp=>(3,p):=by
  unfold Bm.pt qL oS
  by_cases h1:k<10
  ·rw[if_pos h1,if_pos h1,if_pos h1,if_neg (by omega),if_neg (by omega)];rfl
  ·rw[if_neg h1,if_neg h1,if_neg h1]
   by_cases h2:k<138
   ·rw[if_pos h2,if_pos h2,if_pos h2];rfl
   ·rw[if_neg h2,if_neg h2,if_neg h2];rfl
 unfold Bm.dI;rw[if_neg (by omega),Int.toNat_natCast,e]
 have en:nO T R (if qL k=10 then(1,0)else if qL k=11 then(2,0)else(0,qL k)) 0=(kE R (qL k),[],0):=by
  unfold kE
  by_cases h1:qL k=10
  ·rw[if_pos h1,if_pos h1];rfl
  ·rw[if_neg h1,if_neg h1]
   by_cases h2:qL k=11
   ·rw[if_pos h2,if_pos h2];rfl
   ·rw[if_neg h2,if_neg h2];rfl
 unfold Bm.kY;rw[en,if_neg (λy=>y rfl)];rfl
end Ry
namespace Ry
open Hp W Ad Tm Spc Re Av Rx
open Hd (ints xu fL lH)
open In (ah av)
open Bm (sk Fy pW rD uW kX nO kY pt dI oO xF)
theorem Vn(hk:k<16522):∀p∈oS k,p<128:=by
 intro p hp;unfold oS at hp
 split at hp
 ·cases hp
 ·split at hp
  ·rw[List.mem_singleton.mp hp];omega
  ·rcases List.mem_cons.mp hp with rfl|hp
   ·omega
   ·rw[List.mem_singleton.mp hp];omega
theorem Q1(k:Nat):(oS k).length<=2:=by
 unfold oS
 split
 ·exact Nat.zero_le _
 ·split
  ·show 1<=2;decide
  ·exact Nat.le_refl _
theorem Vo{l:List Nat}(X:ag h a (ints (Ie l)))(hi:i<l.length):∃p,a=some p/\cellOf h (p.add i)=some (.int .i64 (l[i]:Nat)):=by
 have oK:i<(Ie l).length:=by unfold Ie;rw[List.length_map];exact hi
 obtain⟨p,e,c⟩:=xu X oK;refine⟨p,e,?_⟩;have:(Ie l)[i]=((l[i]:Nat):Int):=List.getElem_map _;rw[c,this]
theorem Vp{T:TM}{R:List Int}{a:Int}(he:(T.read a).2=0):nO T R (3,p) a=(((sk (T.read a).1 p:Nat):Int),(T.read a).1,0):=by
 rw[xF,if_neg (λy=>y he)]
theorem Q2{T:TM}{R:List Int}{a:Int}(he:(T.read a).2≠0):nO T R (3,p) a=(0,[],(T.read a).2):=by
 rw[xF,if_pos he]
theorem jL{T:TM}{g:G}{R:List Int}{k:Int}(x:qR h F r e T)(hR:R.length=15)
  (hK:∀h',Fr No h h'->K (.tuple #[.int .i64 (dI T g R k).1,.int .i64 (dI T g R k).2]) h'):C.cE r g.v (ints R) k h K:=by
 refine cE.ok (aC.intro λh2 n2=>aC.intro λh3 n3=>?_);have z2:=n2.size;have z3:=n3.size;have F3:=n2.fr.new n3
 have zw:k<0∨k>=16522->K (.tuple #[.int .i64 0,.int .i64 101]) h3:=λy=>by
  have:=hK h3 F3;have e1:dI T g R k=(0,101):=by unfold Bm.dI;rw[if_pos y]
  rw[e1]at this;exact this
 refine cd (λy=>zw (.inl y)) λy0=>cd (λy=>zw (.inr y)) λy1=>?_;obtain⟨k,rfl⟩:∃m:Nat,k=m:=⟨k.toNat,by omega⟩;have hk:k<16522:=by omega
 rw[NZ hk]at hK;unfold cE.k1;refine Ig hk λpa pc h4 f4 sp _=>⟨_,_,_,_,rfl,ints R,by rw[ah,hR],aj ((f4.rd (by omega) λy=>y).trans n3.rd |> λq=>by have:h3.size=h2.size+1:=z3;exact q),kZ hR (Vm k) λh5 f5=>⟨_,rfl,?_⟩⟩;have F5:=(F3.no f4).no f5;have P2:rd h5 h.size=g.v:=(f5.rd (by have:=f4.size;omega) λy=>y).trans ((f4.rd (by omega) λy=>y).trans ((n3.at_ (by omega)).trans n2.rd));have tl:=Q1 k;have tlt:=Vn hk;generalize oS k=ps at sp hK tl tlt;refine⟨λn i hh=>∃j:Nat,i=j/\j<=ps.length/\Fr No h5 hh/\Ei T g R n (ps.drop j)=Ei T g R (kE R (qL k)) ps,λ_ i _=>((ps.length:Int)-i).toNat,⟨0,rfl,Nat.zero_le _,Fr.refl _ _,rfl⟩,?_⟩;rintro n i h6 ⟨j,rfl,hj,f6,er⟩;rw[<-er]at hK;have F6:=F5.no f6;have z5:=F5.size;have lt5:h.size<h5.size:=by have:=f4.size;have:=f5.size;omega
 refine⟨_,rfl,aj ((f6.rd lt5 λy=>y).trans P2),yD λh7 f7=>⟨_,rfl,?_⟩⟩;have F7:=F6.no f7;have R6:=hK h7 F7;unfold Ei at R6
 by_cases hn:n=0
 ·rw[if_pos hn]at R6 ⊢;exact cn (λy=>absurd rfl y) λ_=>ct (by rw[beq_iff_eq];exact hn) R6
 ·rw[if_neg hn]at R6 ⊢;refine cn (λfB=>by rw[if_pos fB]at R6;exact R6) λHC=>cf (by rw[beq_eq_false_iff_ne];exact hn) ?_;rw[if_neg (λy=>y HC)]at R6;unfold cE.k2;refine ce (λhl=>?_) λhl=>?_
  ·have:j=ps.length:=(by omega);rw[this,List.drop_length]at R6;exact R6
  ·have Oq:j<ps.length:=(by omega);rw[List.drop_eq_getElem_cons Oq,List.map_cons]at R6;have hp:=tlt _ (List.getElem_mem Oq);refine yK (x.no F7) (λhe h8 f8=>⟨_,_,_,_,rfl,ct (by rw[bne_iff_ne];exact he) ?_⟩) λhe a c h8 f8 s8=>⟨_,_,_,_,rfl,cn (λy=>absurd rfl y) λ_=>?_⟩
   ·have:=hK h8 (F7.no f8);unfold Ei at this;rw[if_neg hn,if_neg (λy=>y HC),List.drop_eq_getElem_cons Oq,List.map_cons]at this;unfold Bm.kY at this;rw[Q2 he,if_pos he]at this;exact this
   ·obtain⟨p,rfl,cp⟩:=Vo (ag.fr ((f6.no f7).no f8) (ag.fr f5 sp λ_ _ y=>y) λ_ _ y=>y) Oq;obtain⟨q,rfl,cq⟩:=xu s8.cells (i:=ps[j]) (by rw[rD];exact hp);refine⟨by omega,os ⟨_,cp,by omega,os ⟨_,by rw[Int.toNat_natCast];exact cq,?_⟩⟩⟩;rw[wrap_i64 (by omega) (by omega),uW];refine⟨⟨j+1,by omega,by omega,(f6.no f7).no f8,?_⟩,by show((ps.length:Int)-((j:Int)+1)).toNat<((ps.length:Int)-(j:Int)).toNat;omega⟩;rw[<-er]
    conv=>rhs;unfold Ei
    rw[if_neg hn,if_neg (λy=>y HC),List.drop_eq_getElem_cons Oq,List.map_cons]
    conv=>rhs;unfold Bm.kY
    rw[Vp he,if_neg (λy=>y rfl)];rfl
end Ry
namespace Rx
open Hp W Ad Tm Spc Re Ino
open Hd (ints)
open In (oO lU kU mY nA av ah xw Ar gw kV qw iv)
theorem ue{g:G}{n:Int}(ok:su g)
  (hK:∀h',Fr No h h'->K (if 1<=n/\n<g.count then .tuple #[.int .i64 (pX g n),.int .i64 (rat n),.int .i64 0]else .tuple #[.int .i64 0,.int .i64 0,.int .i64 110]) h'):C.dU g.v n h K:=by
 have c1:=ok.c;have c2:=ok.ok.i;refine dU.ok (aC.intro λh2 n2=>?_);have hK:=hK h2 n2.fr;refine cd (λy=>?_) λy=>⟨_,bW n2.rd rfl,cd (λy2=>?_) λy2=>?_⟩
 ·rw[if_neg (by omega)]at hK;exact hK
 ·rw[if_neg (by omega)]at hK;exact hK
 ·rw[if_pos (by omega)]at hK;unfold dU.k1;refine⟨_,bW n2.rd rfl,?_⟩;have e1:Int.tdiv n 8=n/8:=Int.tdiv_eq_ediv_of_nonneg (by omega);have e2:Int.tmod n 8=n%8:=Int.tmod_eq_emod_of_nonneg (by omega);rw[e1,e2,wrap_i64 (n:=n/8) (by omega) (by omega),wrap_i64 (n:=(g.aN:Int)+n/8) (by omega) (by omega),wrap_i64 (n:=n%8*64) (by omega) (by omega)];have e3:n%8*64=((rat n:Nat):Int):=by unfold rat;omega
  have e4:(g.aN:Int)+n/8=pX g n:=by unfold pX;omega
  rw[e3,e4];exact hK
theorem jM{T:TM}{g:G}{n:Int}(x:qR h F r e T)(ok:su g)
  (hK:∀h',Fr No h h'->K (.tuple #[.agg ⟨ints (getM T g n).1⟩,.int .i64 (getM T g n).2]) h'):C.eY r g.v n h K:=by
 have ha:=PY n;refine eY.ok (aC.intro λAa n2=>aC.intro λh3 n3=>⟨g.v,rfl,aj ((n3.at_ n2.own.lt).trans n2.rd),ue ok λh4 f4=>?_⟩);have s2:=n2.size;have s3:=n3.size;have f3:Fr No h h3:=n2.fr.new n3;have F4:=f3.no f4;have z4:=f4.size
 have row:∀{h':ab},Fr No h4 h'->du h' Aa.size/\(rd h' Aa.size).length=15:=λf'=>by
  have f34:Fr No h3 _:=f4.no f';exact⟨f34.own n3.own.lt (λy=>y) n3.own,by rw[f34.rd n3.own.lt λy=>y,n3.rd];rfl⟩
 by_cases hn:1<=n/\n<g.count
 ·have e0:getM T g n=if(T.read (pX g n)).2≠0 then(oO,(T.read (pX g n)).2)else mY (((T.read (pX g n)).1.drop (rat n)).take 64):=by unfold getM;rw[if_neg (λy=>y hn)]
  rw[e0]at hK;rw[if_pos hn];refine⟨_,_,_,rfl,cn (λy=>absurd rfl y) λ_=>fM (x.no F4) λa l c h6 f6 hl s6=>⟨_,_,_,_,rfl,cn (λhe=>?_) λhe=>?_⟩⟩
  ·rw[if_pos he]at hK;obtain⟨w,JG⟩:=row f6;exact iv (h3:=h) (F4.no f6) (by omega) w JG hK
  ·rw[if_neg (λy=>y he)]at hK;have hlen:(T.read (pX g n)).1.length=512:=x.mZ he;have hc:=s6.le;rw[wrap_i64 (by omega) (by omega)];refine⟨⟨by omega,by omega,by omega⟩,?_⟩;have B6:=aJ.cut s6.str hc (i:=(rat n:Int).toNat) (j:=((rat n:Int)+64).toNat) (by omega) (by omega);rw[show((rat n:Int)+64).toNat-(rat n:Int).toNat=64 by omega]at B6 ⊢;refine In.FU B6 (by omega) λh8 f8=>⟨_,_,rfl,?_⟩;rw[show(rat n:Int).toNat=rat n by omega];obtain⟨w,JG⟩:=row (f6.no f8);refine ar.intro w (by rw[ah,k7]) (av _) (by omega) λh9 d9=>⟨_,by rw[ah];exact k7 _,aj ?_,hK h9 (((F4.no f6).no f8).did d9 λhl=>by omega)⟩;rw[d9.rd];exact cM _ _ (by rw[ah,k7,JG])
 ·have e0:getM T g n=(oO,110):=by unfold getM;rw[if_pos hn]
  rw[e0]at hK;rw[if_neg hn];obtain⟨w,JG⟩:=row (Fr.refl _ _);exact⟨_,_,_,rfl,cn (λ_=>iv (h3:=h) F4 (by omega) w JG hK) λy=>absurd (show(110:Int)=0 from y) (by decide)⟩
end Rx
namespace Di
open Hp W Re Ss
open Sk (E bf)
open Go.Op (bytesLess)
theorem sJ(l:List E):∀v∈l.flatMap E.v,v.oneCell'=true:=λv hv=>by
 obtain⟨c,_,hc⟩:=List.mem_flatMap.mp hv;exact E.one c v hc
theorem Ej(l:List E)(k:Nat):(l.take k).flatMap E.v=(l.flatMap E.v).take (k*3):=by
 by_cases hk:k<=l.length
 ·have e:l.flatMap E.v=(l.take k).flatMap E.v++(l.drop k).flatMap E.v:=by rw[<-List.flatMap_append,List.take_append_drop]
  have len:((l.take k).flatMap E.v).length=k*3:=by rw[bw E.v 3 _ (λx _=>E.len x),List.length_take,Nat.min_eq_left hk]
  rw[e,<-len,List.take_left]
 ·rw[List.take_of_length_le (by omega),List.take_of_length_le];rw[bw E.v 3 _ (λx _=>E.len x)];omega
theorem Ek(l:List E)(k:Nat)(hk:k<=l.length):(l.drop k).flatMap E.v=(l.flatMap E.v).drop (k*3):=by
 have e:l.flatMap E.v=(l.take k).flatMap E.v++(l.drop k).flatMap E.v:=by rw[<-List.flatMap_append,List.take_append_drop]
 have len:((l.take k).flatMap E.v).length=k*3:=by rw[bw E.v 3 _ (λx _=>E.len x),List.length_take,Nat.min_eq_left hk]
 conv=>rhs;rw[e,<-len,List.drop_left]
end Di
namespace Rq
open Hp W Ad Tm Spc Re Av Ss
open Hd (ints)
open In (ah av oO iv DF)
open Ino (getM su aF)
open Bm (dI)
open Fi (bC iaT)
open Rx (qR yc)
open Sk (E bf)
open Di (bD xG aM cu gZ jx k8 findD cX nR xZ lV sJ rF ib)
section
variable{h : ab}{F : Nat -> Prop}{r e : OA}{T : TM}{g : G}{n : Int}{R : List Int}{s : Tm.ay}{K : Value -> ab -> Prop}
theorem uU(x:qR h F r e T)(ok:su g)
  (hK:∀h' R,Fr No h h'->R.length=15->((bD T g n).2=0->R=(bD T g n).1)->K (.tuple #[.agg ⟨ints R⟩,.int .i64 (bD T g n).2]) h'):C.gR r g.v n h K:=by
 have lR:=aF T g n;refine gR.ok (aC.intro λh2 n2=>aC.intro λh3 n3=>?_);have z2:=n2.size;have z3:=n3.size;have F3:=n2.fr.new n3;refine⟨g.v,rfl,aj ((n3.at_ n2.own.lt).trans n2.rd),Rx.jM (x.no F3) ok λh4 f4=>⟨_,_,rfl,ax.intro (by rw[ah,lR]) (av _) rfl λh6 n6=>?_⟩⟩;have z4:=f4.size;have z6:=n6.size;have F6:=(F3.no f4).new n6;have o6:du h6 h2.size:=n6.ow (f4.own (by omega) (λy=>y) n3.own);have r6:(rd h6 h2.size).length=15:=by rw[(n6.at_ (by omega)).trans ((f4.rd (by omega) λy=>y).trans n3.rd)];rfl
 unfold bD at hK
 refine cn (λhe=>iv (h3:=h) F6 (by omega) o6 r6 λh7 f7=>?_) λhe=>⟨_,bW n6.rd (iaT (by rw[lR];decide)),ce (λh0=>iv (h3:=h) F6 (by omega) o6 r6 λh7 f7=>?_) λh0=>
  ⟨_,bW n6.rd (iaT (by rw[lR];decide)),cn (λh2=>iv (h3:=h) F6 (by omega) o6 r6 λh7 f7=>?_) λh2=>DF (h3:=h) lR F6 (by omega) o6 r6 n6.rd λh7 f7=>?_⟩⟩
 ·rw[if_pos he]at hK;exact hK h7 oO f7 rfl λy=>absurd y he
 ·rw[if_neg (λy=>y he),if_pos h0]at hK;exact hK h7 oO f7 rfl λy=>absurd (show(110:Int)=0 from y) (by decide)
 ·rw[if_neg (λy=>y he),if_neg h0,if_pos h2]at hK;exact hK h7 oO f7 rfl λy=>absurd (show(161:Int)=0 from y) (by decide)
 ·rw[if_neg (λy=>y he),if_neg h0,if_neg (λy=>y h2),he]at hK;exact hK h7 _ f7 lR λ_=>rfl
theorem N0 : Sk.blk (List.replicate 16 (0,[]))=ij:=by kernel_rfl
theorem N1 : ry ij=([],0):=by
 rw[<-N0,Di.LA List.length_replicate λx hx=>by rw[List.eq_of_mem_replicate hx];exact .inl ⟨rfl,rfl⟩];rfl
theorem L1(k:Nat)(l:List E):((l.map (xZ k)).flatMap E.v).length=l.length*3:=by rw[bw E.v 3 _ (λx _=>E.len x),List.length_map]
theorem Kb(x:qR h F r e T)(hR:R.length=15)(hk:k<20000)
  (h1:(aM T g R k).2≠0->∀h',Fr No h h'->K (.tuple #[.slice none 0 0,.int .i64 (aM T g R k).2]) h')
  (h0:(aM T g R k).2=0->∀h' a c,Fr No h h'->Sl h' 3 a (aM T g R k).1.cells.length c (((aM T g R k).1.cells.map (xZ k)).flatMap E.v) (bZ h.size)->K (.tuple #[.slice a (aM T g R k).1.cells.length c,.int .i64 0]) h') :
  C.eZ r g.v (ints R) (k:Int) h K:=by
 refine eZ.ok (aC.intro λh2 n2=>aC.intro λh3 n3=>?_);have z2:=n2.size;have z3:=n3.size;have F3:=n2.fr.new n3;refine⟨g.v,rfl,aj ((n3.at_ (by omega)).trans n2.rd),ints R,by rw[ah,hR],aj n3.rd,Ry.jL (x.no F3) hR λh4 f4=>⟨_,_,rfl,cn (λhe=>?_) λhe=>ce (λhz=>?_) λhz=>?_⟩⟩
 ·have eb:bC T g R (k:Int)=([],(dI T g R k).2):=by unfold Fi.bC;rw[if_pos he]
  have e2:(aM T g R k).2=(dI T g R k).2:=by unfold Di.aM;rw[eb];exact if_pos he
  rw[e2]at h1;exact h1 he h4 (F3.no f4)
 ·have eb:bC T g R (k:Int)=(ij,0):=by unfold Fi.bC;rw[if_neg (λy=>y he),if_pos hz]
  have ez:ry (bC T g R (k:Int)).1=([],0):=by rw[eb];exact N1
  have ew:(bC T g R (k:Int)).2=0:=by rw[eb]
  have e2:(aM T g R k).2=0:=by unfold Di.aM;rw[ez,ew];rfl
  have ec:(aM T g R k).1.cells=[]:=by show(ry (bC T g R k).1).1=[];rw[ez]
  rw[he];rw[ec]at h0;exact h0 e2 h4 none 0 (F3.no f4) (Sl.nil _ _ _)
 ·have eb:bC T g R (k:Int)=T.read (dI T g R k).1:=by unfold Fi.bC;rw[if_neg (λy=>y he),if_neg hz]
  have F4:=F3.no f4;unfold eZ.k1;refine Rx.fM (x.no F4) λa l c h5 f5 hl s5=>⟨_,_,_,_,rfl,cn (λhe5=>?_) λhe5=>FV s5.str s5.le λh6 a2 l2 c2 f6 s6=>⟨_,_,_,_,rfl,cn (λhe6=>?_) λhe6=>?_⟩⟩
  ·have e2:(aM T g R k).2=(T.read (dI T g R k).1).2:=(by unfold Di.aM;rw[eb];exact if_pos he5);rw[e2]at h1;exact h1 he5 h5 (F4.no f5)
  ·have e2:(aM T g R k).2=(ry (T.read (dI T g R k).1).1).2:=(by unfold Di.aM;rw[eb];exact if_neg (λy=>y he5));rw[e2]at h1;exact h1 he6 h6 ((F4.no f5).no f6)
  ·have e2:(aM T g R k).2=(ry (T.read (dI T g R k).1).1).2:=(by unfold Di.aM;rw[eb];exact if_neg (λy=>y he5));have h0:=h0 (e2.trans he6);have ec:(aM T g R k).1.cells=(ry (T.read (dI T g R k).1).1).1:=(by show(ry (bC T g R k).1).1=_;rw[eb]);rw[ec]at h0;have Cx:=(rF (T.read (dI T g R k).1).1).2;have lim:=Di.xN (T.read (dI T g R k).1).1;generalize(ry (T.read (dI T g R k).1).1).1=es at h0 s6 Cx lim
   have hl2:l2=es.length:=by
    have:=s6.1;rw[bw E.v 3 _ (λx _=>E.len x)]at this;omega
   subst hl2;have F6:=(F4.no f5).no f6;have z6:=F6.size;refine⟨λoa p oc i hh=>i=p/\p<=es.length/\Fr No h6 hh/\Sl hh 3 oa p oc (((es.take p).map (xZ k)).flatMap E.v) (bZ h6.size),λ_ _ _ i _=>((es.length:Int)-i).toNat,⟨rfl,Nat.zero_le _,Fr.refl _ _,Sl.nil _ _ _⟩,?_⟩;rintro oa p oc i h7 ⟨rfl,hp,f7,s7⟩;have z7:=f7.size;refine cd (λdh=>?_) λvF=>?_
   ·have kA:p<es.length:=(by omega);have s67:ag h7 a2 (es.flatMap E.v):=ag.fr f7 s6.cells λ_ _ y=>y;obtain⟨p1,ep,cp⟩:=lV s67 kA;have cr:=Cx _ (List.getElem_mem kA);refine⟨⟨by omega,dh⟩,?_⟩;rw[ep,Int.toNat_natCast];refine os ⟨_,E.len _,cp,ax.intro (E.len _) (E.one _) rfl λh9 n9=>⟨_,bW n9.rd rfl,_,bW n9.rd rfl,_,bW n9.rd rfl,rfl,?_⟩⟩;rw[wrap_i64 (n:=16*(k:Int)) (by omega) (by omega),wrap_i64 (n:=16*(k:Int)+es[p].place) (by omega) (by omega),wrap_i64 (n:=(p:Int)+1) (by omega) (by omega)];have z9:=n9.size;refine aC.intro λh10 n10=>⟨E.v (xZ k es[p]),E.len _,aj ?_,E.one _,?_⟩
    ·rw[n10.rd];show _=[Value.int .i64 (es[p].place+16*(k:Int)),_,_];rw[show es[p].place+16*(k:Int)=16*(k:Int)+es[p].place by omega];rfl
    refine yc (elem:=mB) (f7.trans (n9.fr.trans n10.fr λ_ _ y=>y) λ_ _ y=>y) ((s7.fr n9.fr λ_ _ _ y=>y).fr n10.fr λ_ _ _ y=>y) (E.len _) rfl (by show(p+1)*32<=_;omega) (by omega) λa' c' cg f11 s11=>⟨⟨by omega,by omega,f11,?_⟩,j8 dh⟩;rw[List.take_succ_eq_append_getElem kA,List.map_append,List.flatMap_append,show[es[p]].map (xZ k)=[xZ k es[p]] from rfl,List.flatMap_cons,List.flatMap_nil,List.append_nil];exact s11
   ·have:p=es.length:=(by omega);subst this;rw[List.take_length]at s7;exact h0 h7 oa oc (F6.no f7) (s7.mono λb hb=>by have hb:h6.size<=b:=hb;show h.size<=b;omega)
end
end Rq
namespace Rq
open Hp W Ad Tm Spc Re Av Ss
open Hd (ints)
open In (ah av oO iv DF)
open Ino (getM su aF)
open Bm (dI)
open Fi (bC iaT)
open Rx (qR yc)
open Sk (E bf)
open Di (bD xG lK lL aM cu gZ jx k8 findD cX nR xZ lV sJ rF ib uv)
def iW(T:TM)(g:G)(R:List Int)(s:Tm.ay):Nat->Nat->List E×Int
 | 0,_=>([],0)
 | m+1,k=>if(aM T g R k).2≠0 then([],(aM T g R k).2)else if((aM T g R k).1.cells.any λc=>c.name==s)=true then((aM T g R k).1.cells.map (xZ k),0)else
   ((aM T g R k).1.cells.map (xZ k)++(iW T g R s m (k+1)).1,(iW T g R s m (k+1)).2)
theorem Q3{l:List E}{s:Tm.ay}(hp:p<l.length):((l.take (p+1)).any λc=>c.name==s)=(((l.take p).any λc=>c.name==s) || (l[p].name==s)):=by
 rw[List.take_succ_eq_append_getElem hp,List.any_append,List.any_cons,List.any_nil,Bool.or_false]
section
variable{h : ab}{F : Nat -> Prop}{r e : OA}{T : TM}{g : G}{n : Int}{R : List Int}{s : Tm.ay}{K : Value -> ab -> Prop}
theorem Ih(x:qR h F r e T)(hR:R.length=15)(sz:0<=R.getD 2 0/\R.getD 2 0<=8459264)
  (h1:(iW T g R s (R.getD 2 0/512).toNat 0).2≠0->∀h',Fr No h h'->K (.tuple #[.slice none 0 0,.int .i64 (iW T g R s (R.getD 2 0/512).toNat 0).2]) h')
  (h0:(iW T g R s (R.getD 2 0/512).toNat 0).2=0->∀h' a c,Fr No h h'->Sl h' 3 a (iW T g R s (R.getD 2 0/512).toNat 0).1.length c ((iW T g R s (R.getD 2 0/512).toNat 0).1.flatMap E.v) (bZ h.size)->
   K (.tuple #[.slice a (iW T g R s (R.getD 2 0/512).toNat 0).1.length c,.int .i64 0]) h') :
  C.iB r g.v (ints R) (mkStr s) h K:=by
 obtain⟨m,em⟩:∃m:Nat,(R.getD 2 0/512).toNat=m:=⟨_,rfl⟩;have hm:m<=16522:=by omega
 have ew:IntKind.wrap .i64 (Int.tdiv (R.getD 2 0) 512)=(m:Int):=by
  rw[Int.tdiv_eq_ediv_of_nonneg (by omega),wrap_i64 (by omega) (by omega)];omega
 rw[em]at h1 h0;generalize hq:iW T g R s m 0=q at h1 h0;refine iB.ok (aC.intro λh2 n2=>aC.intro λh3 n3=>?_);have z2:=n2.size;have z3:=n3.size;have F3:=n2.fr.new n3;have rg3:rd h3 h.size=g.v:=(n3.at_ (by omega)).trans n2.rd
 refine⟨λa l c i hh=>∃(k:Nat) (acc:List E),i=k/\k<=m/\Fr No h3 hh/\l=acc.length/\acc.length<=16*k/\Sl hh 3 a l c (acc.flatMap E.v) (bZ h3.size)/\q=(acc++(iW T g R s (m-k) k).1,(iW T g R s (m-k) k).2),
  λ_ _ _ i _=>((m:Int)-i).toNat,⟨0,[],rfl,Nat.zero_le _,Fr.refl _ _,rfl,Nat.zero_le _,Sl.nil _ _ _,by rw[<-hq];rfl⟩,?_⟩
 rintro a l c i h4 ⟨k,acc,rfl,hk,f4,rfl,ha,s4,e4⟩;have z4:=f4.size;have F4:=F3.no f4;have rR4:rd h4 h2.size=ints R:=(f4.rd (by omega) λy=>y).trans n3.rd;have Z7:rd h4 h.size=g.v:=(f4.rd (by omega) λy=>y).trans rg3;refine⟨R.getD 2 0,bW rR4 (iaT (by omega)),?_⟩;rw[ew];refine cd (λdh=>?_) λvF=>?_
 rotate_left
 ·have:m-k=0:=by omega
  rw[this]at e4;have e4:q=(acc,0):=e4.trans (by show(acc++[],(0:Int))=_;rw[List.append_nil]);subst e4;exact h0 rfl h4 a c F4 (s4.mono λb hb=>by have hb:h3.size<=b:=hb;show h.size<=b;omega)
 obtain⟨m',hm'⟩:∃m',m-k=m'+1:=⟨m-k-1,by omega⟩;rw[hm']at e4;unfold iW at e4;have OM:(aM T g R k).1.cells.length<=16:=Di.xN _;refine⟨g.v,rfl,aj Z7,ints R,by rw[ah,hR],aj rR4,Kb (x.no F4) hR (by omega) (λhe h5 f5=>⟨_,_,_,_,rfl,cn (λ_=>?_) λy=>absurd y he⟩) λhe h5 a1 c1 f5 s5=>⟨_,_,_,_,rfl,cn (λy=>absurd rfl y) λ_=>?_⟩⟩
 ·rw[if_pos he]at e4;have e2:q.2=(aM T g R k).2:=by rw[e4]
  rw[e2]at h1;exact h1 he h5 (F4.no f5)
 rw[if_neg (λy=>y he)]at e4;generalize(aM T g R k).1.cells=cl at e4 s5 OM;have z5:=f5.size;refine⟨(cl.map (xZ k)).flatMap E.v,L1 _ _,s5.cells,sJ _,aT (elem:=mB) ((uv s4).fr f5 λ_ _ _ y=>y) (L1 _ _) rfl (by show(acc.length+cl.length)*32<=_;omega) (by omega) λa2 c2 h6 f6 s6=>?_⟩;have z6:=f6.size;have F56:Fr No h3 h6:=(f4.no f5).trans f6 λb hb y=>by have:=y.1;have this:h3.size<=b:=this;omega
 have F6:Fr No h h6:=F3.no F56
 have B6:ag h6 a1 ((cl.map (xZ k)).flatMap E.v):=ag.fr f6 s5.cells λp ep y=>by
  subst ep;have:h4.size<=p.block:=s5.2.2.1;omega
 have s6':Sl h6 3 a2 (acc++cl.map (xZ k)).length c2 ((acc++cl.map (xZ k)).flatMap E.v) (bZ h3.size):=by
  rw[List.length_append,List.length_map,List.flatMap_append]
  exact s6.mono λb hb=>by
   rcases hb with hb|hb
   ·exact hb.1
   ·show h3.size<=b;omega
 have la:(acc++cl.map (xZ k)).length=acc.length+cl.length:=by rw[List.length_append,List.length_map]
 refine⟨λj hh=>∃p:Nat,j=p/\p<=cl.length/\Fr No h6 hh/\((cl.take p).any λc=>c.name==s)=false,λj _=>((cl.length:Int)-j).toNat,⟨0,rfl,Nat.zero_le _,Fr.refl _ _,rfl⟩,?_⟩;rintro j h7 ⟨p,rfl,hp,f7,np⟩;have z7:=f7.size;have s7:=s6'.fr f7 λ_ _ _ y=>y;refine cd (λdh=>?_) λvF=>?_
 ·have kA:p<cl.length:=by omega
  obtain⟨p1,ep,cp⟩:=lV (ag.fr f7 B6 λ_ _ y=>y) (j:=p) (by rw[List.length_map];exact kA);rw[List.getElem_map]at cp;refine⟨⟨by omega,dh⟩,?_⟩;rw[ep,Int.toNat_natCast];refine os ⟨_,E.len _,cp,ax.intro (E.len _) (E.one _) rfl λh9 n9=>⟨_,bW n9.rd rfl,?_⟩⟩;rw[toList_mkStr,toList_mkStr];have hx:=Q3 (s:=s) kA;rw[np,Bool.false_or]at hx;refine cs (λheq=>?_) λfB=>?_
  ·have ha:(cl.any λc=>c.name==s)=true:=List.any_eq_true.mpr ⟨_,List.getElem_mem kA,heq⟩;rw[if_pos ha]at e4;have s9:=s7.fr n9.fr λ_ _ _ y=>y;rw[<-la];subst e4;exact h0 rfl h9 a2 c2 ((F6.no f7).new n9) (s9.mono λb hb=>by have hb:h3.size<=b:=hb;show h.size<=b;omega)
  ·rw[wrap_i64 (by omega) (by omega)];exact⟨⟨p+1,by omega,by omega,f7.new n9,hx.trans fB⟩,j8 dh⟩
 ·have:p=cl.length:=by omega
  subst this;rw[List.take_length]at np;rw[if_neg (by rw[np];decide)]at e4;rw[wrap_i64 (by omega) (by omega),<-la];refine⟨⟨k+1,acc++cl.map (xZ k),by omega,by omega,F56.no f7,rfl,by omega,s7,?_⟩,j8 dh⟩;rw[e4,show m-(k+1)=m' by omega,List.append_assoc]
end
end Rq
namespace Rq
open Hp W Ad Tm Spc Re Av Ss
open Hd (ints)
open In (ah av oO iv DF)
open Ino (getM su aF)
open Fi (bC iaT)
open Rx (qR yc)
open Sk (E bf)
open Di (bD xG lK lL aM cu gZ jx k8 findD cX nR xZ lV sJ rF ib uv)
def e0 : E:=⟨0,[],0⟩
def yZ(T:TM)(g:G)(R:List Int)(s:Tm.ay):List E×Int:=iW T g R s (R.getD 2 0/512).toNat 0
def zI(T:TM)(g:G)(n:Int)(s:Tm.ay):E×Int:=
 if(bD T g n).2≠0 then(e0,(bD T g n).2)else if(yZ T g (bD T g n).1 s).2≠0 then(e0,(yZ T g (bD T g n).1 s).2)else
  match (yZ T g (bD T g n).1 s).1.find? λc=>c.name==s with
  | some c=>(c,0)
  | none=>(e0,160)
def Q4(o:Option E):Int×Int:=match o with
 | some c=>(c.fu,0)
 | none=>(0,160)
theorem Ii(T:TM)(g:G)(R:List Int)(s:Tm.ay):∀m k,((match (jx T g R s m k).1 with
  | some x=>x.2.fu
  | none=>0),(jx T g R s m k).2)=if(iW T g R s m k).2≠0 then((0:Int),(iW T g R s m k).2)else Q4 ((iW T g R s m k).1.find? λc=>c.name==s)
 | 0,k=>rfl
 | m+1,k=>by
  have ih:=Ii T g R s m (k+1);unfold jx iW
  by_cases he:(aM T g R k).2≠0
  ·rw[if_pos he,if_pos he,if_pos he]
  ·rw[if_neg he,if_neg he];have fm:(((aM T g R k).1.cells.map (xZ k)).find? λc=>c.name==s)=(ib (aM T g R k).1 s).map (xZ k):=List.find?_map
   cases hc:ib (aM T g R k).1 s with
   | some c=>
    have ha:((aM T g R k).1.cells.any λc=>c.name==s)=true:=by
     have hc:(aM T g R k).1.cells.find? (λc=>c.name==s)=some c:=hc;exact List.any_eq_true.mpr ⟨c,List.mem_of_find?_eq_some hc,by have:=List.find?_some hc;exact this⟩
    rw[if_pos ha,if_neg (λy=>y rfl),fm,hc];rfl
   | none=>
    have ha:¬((aM T g R k).1.cells.any λc=>c.name==s)=true:=λy=>by
     have hc:(aM T g R k).1.cells.find? (λc=>c.name==s)=none:=hc;obtain⟨c,c1,c2⟩:=List.any_eq_true.mp y;exact absurd c2 (List.find?_eq_none.mp hc c c1)
    rw[if_neg ha]
    show((match (jx T g R s m (k+1)).1 with
     | some x=>x.2.fu
     | none=>0),(jx T g R s m (k+1)).2)=if(iW T g R s m (k+1)).2≠0 then((0:Int),(iW T g R s m (k+1)).2)else Q4 ((((aM T g R k).1.cells.map (xZ k))++(iW T g R s m (k+1)).1).find? λc=>c.name==s)
    rw[List.find?_append,fm,hc,Option.map_none,Option.none_or];exact ih
theorem Q5{T:TM}{g:G}{n:Int}{s:Tm.ay}(hn:bf s=true):((zI T g n s).1.fu,(zI T g n s).2)=findD T g n s:=by
 unfold zI Di.findD Di.k8;rw[if_neg (show ¬bf s=false by rw[hn];decide)]
 by_cases he:(bD T g n).2≠0
 ·rw[if_pos he,if_pos he];rfl
 ·rw[if_neg he,if_neg he];have:=Ii T g (bD T g n).1 s ((bD T g n).1.getD 2 0/512).toNat 0;refine Eq.trans ?_ this.symm
  show _=if(yZ T g (bD T g n).1 s).2≠0 then((0:Int),(yZ T g (bD T g n).1 s).2)else Q4 ((yZ T g (bD T g n).1 s).1.find? λc=>c.name==s)
  split
  ·rfl
  ·cases(yZ T g (bD T g n).1 s).1.find? λc=>c.name==s with
   | some c=>rfl
   | none=>rfl
theorem N2{T:TM}{g:G}{n:Int}{s:Tm.ay}(hn:bf s=false):findD T g n s=(0,1):=by
 unfold Di.findD Di.k8;rw[if_pos hn]
section
variable{h : ab}{F : Nat -> Prop}{r e : OA}{T : TM}{g : G}{n : Int}{R : List Int}{s : Tm.ay}{K : Value -> ab -> Prop}
theorem find_spec(x:qR h F r e T)(ok:su g)
  (hK:∀h' R,Fr No h h'->R.length=15->((zI T g n s).2=0->R=(bD T g n).1)->K (.tuple #[.agg ⟨ints R⟩,.agg ⟨E.v (zI T g n s).1⟩,.int .i64 (zI T g n s).2]) h'):C.iJ r g.v n (mkStr s) h K:=by
 refine iJ.ok (aC.intro λh2 n2=>aC.intro λh3 n3=>aC.intro λh4 n4=>?_);have z2:=n2.size;have z3:=n3.size;have z4:=n4.size;have F4:Fr No h h4:=(n2.fr.new n3).new n4;have Z7:rd h4 h.size=g.v:=(n4.at_ (by omega)).trans ((n3.at_ (by omega)).trans n2.rd);have o24:du h4 h2.size:=n4.ow n3.own;have o34:du h4 h3.size:=n4.own;have l24:(rd h4 h2.size).length=15:=by rw[(n4.at_ (by omega)).trans n3.rd];rfl
 have l34:(rd h4 h3.size).length=3:=by rw[n4.rd];rfl
 refine⟨g.v,rfl,aj Z7,uU (x.no F4) ok λh5 R f5 hR eR=>⟨_,_,rfl,ax.intro (by rw[ah,hR]) (av _) rfl λh7 n7=>?_⟩⟩;have z5:=f5.size;have z7:=n7.size;have f7:Fr No h4 h7:=f5.new n7;have F7:Fr No h h7:=F4.no f7;have lR:(ints R).length=15:=by rw[ah,hR]
 have p1:∀{h':ab} {k:HP},Fr No h4 h'->(∀h8,Fr No h h8->h'.size<=h8.size->rd h8 h2.size=ints R->du h8 h3.size->(rd h8 h3.size).length=3->(∀b,b<h'.size->b≠h2.size->rd h8 b=rd h' b)->k h8)->ar ⟨h2.size,0,none⟩ (ints R) 15 h' k:=fun {h' k} f hk=>by
  have:=f.size;have l2':(rd h' h2.size).length=15:=by rw[f.rd (by omega) λy=>y];exact l24
  refine ar.intro (f.own (by omega) (λy=>y) o24) lR (av _) (by omega) λh8 d8=>hk h8 ((F4.no f).did d8 λy=>by omega) d8.fr.size ?_ (d8.ow (f.own (by omega) (λy=>y) o34)) ?_ λb hb hn=>d8.at_ hb hn
  ·rw[d8.rd];exact cM _ _ (by rw[lR,l2'])
  ·rw[d8.at_ (by omega) (by omega),f.rd (by omega) λy=>y];exact l34
 have p2:∀{h8:ab} {c:E} {er:Int},Fr No h h8->h4.size<=h8.size->rd h8 h2.size=ints R->du h8 h3.size->(rd h8 h3.size).length=3->(∀h9,Fr No h h9->K (.tuple #[.agg ⟨ints R⟩,.agg ⟨E.v c⟩,.int .i64 er]) h9)->
   ar ⟨h3.size,0,none⟩ (E.v c) 3 h8 λh9=>∃bL:LV,List.length bL=15/\ai h9 ⟨h2.size,0,none⟩ bL/\∃di:LV,List.length di=3/\ai h9 ⟨h3.size,0,none⟩ di/\K (.tuple #[.agg ⟨bL⟩,.agg ⟨di⟩,.int .i64 er]) h9:=fun {h8 c er} f hs r2 o3 l3 hk=>by
  refine ar.intro o3 (E.len _) (E.one _) (by omega) λh9 d9=>⟨ints R,lR,aj ((d9.at_ (by omega) (by omega)).trans r2),E.v c,E.len _,aj ?_,hk h9 (f.did d9 λy=>by omega)⟩;rw[d9.rd];exact cM _ _ (by rw[l3];rfl)
 have e1:zI T g n s=if(bD T g n).2≠0 then(e0,(bD T g n).2)else if(yZ T g (bD T g n).1 s).2≠0 then(e0,(yZ T g (bD T g n).1 s).2)else match (yZ T g (bD T g n).1 s).1.find? λc=>c.name==s with
  | some c=>(c,0)
  | none=>(e0,160):=rfl
 refine cn (λhe=>⟨ints R,lR,aj n7.rd,p1 f7 λh8 f8 s8 r8 o8 l8 _=>p2 (c:=e0) f8 (by omega) r8 o8 l8 λh9 f9=>?_⟩) λhe=>?_
 ·rw[if_pos he]at e1;rw[e1]at hK;exact hK h9 R f9 hR λy=>absurd y he
 rw[if_neg (λy=>y he)]at e1;have eR:=eR he;have sz:=lL he;rw[<-eR]at sz e1;rw[<-eR]at hK;have rg7:rd h7 h.size=g.v:=(f7.rd (by omega) λy=>y).trans Z7;refine⟨g.v,rfl,aj rg7,ints R,lR,aj n7.rd,Ih (x.no F7) hR sz (λhe h10 f10=>⟨_,_,_,_,rfl,cn (λ_=>?_) λy=>absurd y he⟩) λha h10 a c f10 s10=>⟨_,_,_,_,rfl,cn (λy=>absurd rfl y) λ_=>?_⟩⟩
 ·refine⟨ints R,lR,aj ((f10.rd (by omega) λy=>y).trans n7.rd),p1 (f7.no f10) λh8 f8 s8 r8 o8 l8 _=>p2 (c:=e0) f8 (by have:=f10.size;omega) r8 o8 l8 λh9 f9=>?_⟩;rw[if_pos (show(yZ T g R s).2≠0 from he)]at e1;rw[e1]at hK;exact hK h9 R f9 hR λy=>absurd y he
 rw[if_neg (show ¬(yZ T g R s).2≠0 from λy=>y ha)]at e1
 have ll:(iW T g R s (R.getD 2 0/512).toNat 0).1.length<=1000000:=by
  have hb:∀m k,(iW T g R s m k).1.length<=16*m:=λm=>by
   induction m with
   | zero=>intro k;exact Nat.zero_le _
   | succ m ih=>
    intro k;have OM:(aM T g R k).1.cells.length<=16:=Di.xN _;have:=ih (k+1);unfold iW
    split
    ·exact Nat.zero_le _
    ·split
     ·show(List.map _ _).length<=_;rw[List.length_map];omega
     ·show(List.map (xZ k) (aM T g R k).1.cells++(iW T g R s m (k+1)).1).length<=_;rw[List.length_append,List.length_map];omega
  have:=hb (R.getD 2 0/512).toNat 0;omega
 have ea:(yZ T g R s).1=(iW T g R s (R.getD 2 0/512).toNat 0).1:=rfl;rw[ea]at e1;generalize(iW T g R s (R.getD 2 0/512).toNat 0).1=es at e1 s10 ll;have Nj:=f10.size;refine⟨λj hh=>∃p:Nat,j=p/\p<=es.length/\Fr No h10 hh/\(es.take p).find? (λc=>c.name==s)=none,λj _=>((es.length:Int)-j).toNat,⟨0,rfl,Nat.zero_le _,Fr.refl _ _,rfl⟩,?_⟩;rintro j bU ⟨p,rfl,hp,f13,np⟩;have z13:=f13.size;have adB:Fr No h4 bU:=(f7.no f10).no f13;refine cd (λdh=>?_) λvF=>?_
 ·have kA:p<es.length:=by omega
  obtain⟨p1',ep,cp⟩:=lV (ag.fr f13 s10.cells λ_ _ y=>y) kA;refine⟨⟨by omega,dh⟩,?_⟩;rw[ep,Int.toNat_natCast];refine os ⟨_,E.len _,cp,ax.intro (E.len _) (E.one _) rfl λfg n15=>⟨_,bW n15.rd rfl,?_⟩⟩;rw[toList_mkStr,toList_mkStr];have z15':=n15.size;refine cs (λheq=>?_) λfB=>?_
  ·have hf:=Di.LJ (p:=λc:E=>c.name==s) kA np heq;rw[hf]at e1;refine⟨ints R,lR,aj ((n15.at_ (by omega)).trans (((f10.no f13).rd (by omega) λy=>y).trans n7.rd)),E.v es[p],E.len _,aj n15.rd,p1 (adB.new n15) λiS f16 s16 UP o16 OM at16=>⟨⟨E.len _,aj ((at16 _ (by omega) (by omega)).trans n15.rd)⟩,p2 f16 (by omega) UP o16 OM λeM f17=>?_⟩⟩;rw[e1]at hK;exact hK eM R f17 hR λ_=>rfl
  ·rw[wrap_i64 (by omega) (by omega)];refine⟨⟨p+1,by omega,by omega,f13.new n15,?_⟩,j8 dh⟩;rw[List.take_succ_eq_append_getElem kA,List.find?_append,np,Option.none_or,List.find?_cons_of_neg (by rw[fB];decide)];rfl
 ·have:p=es.length:=by omega
  subst this;rw[List.take_length]at np;rw[np]at e1;refine⟨ints R,lR,aj (((f10.no f13).rd (by omega) λy=>y).trans n7.rd),p1 adB λh8 f8 s8 r8 o8 l8 _=>p2 (c:=e0) f8 (by omega) r8 o8 l8 λh9 f9=>?_⟩;rw[e1]at hK;exact hK h9 R f9 hR λ_=>rfl
theorem jL(x:qR h F r e T)(ok:su g)(hK:∀ h',Fr No h h'->K (.tuple #[.int .i64 (findD T g n s).1,.int .i64 (findD T g n s).2]) h'):C.gO r g.v n (mkStr s) h K:=by
 refine gO.ok (aC.intro λh2 n2=>xV ⟨_,rfl,?_⟩);have z2:=n2.size
 cases hn:bf s with
 | false=>
  rw[N2 hn]at hK;exact ct rfl (hK h2 n2.fr)
 | true=>
  refine cf rfl ⟨g.v,rfl,aj n2.rd,find_spec (x.no n2.fr) ok λh4 R f4 hR _=>⟨_,_,_,rfl,aC.intro λh5 n5=>aC.intro λh6 n6=>?_⟩⟩;have z5:=n5.size;have z6:=n6.size;have eq:=Q5 (T:=T) (g:=g) (n:=n) hn;rw[<-eq]at hK;refine ar.intro (n6.ow n5.own) (by rw[ah,hR]) (av _) (by rw[(n6.at_ (by omega)).trans n5.rd];decide) λh7 d7=>ar.intro (d7.ow n6.own) (E.len _) (E.one _) (by rw[d7.at_ (by omega) (by omega),n6.rd];decide) λh8 d8=>⟨_,bW (xs:=E.v (zI T g n s).1) (by rw[d8.rd];exact cM _ _ (by rw[d7.at_ (by omega) (by omega),n6.rd];rfl)) rfl,?_⟩;exact hK h8 ((((n2.fr.no f4).new n5).new n6).did d7 (λy=>by have:=f4.size;omega) |>.did d8 λy=>by have:=f4.size;omega)
end
end Rq
end Go.Proofs.YtiapingedfnlnaaGreatDoor
