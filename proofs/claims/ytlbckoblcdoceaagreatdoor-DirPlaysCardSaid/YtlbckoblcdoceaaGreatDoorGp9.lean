/- dirPlays_card -/
import Derived.Test.YtlbckoblcdoceaaGreatDoorGp7
import Derived.Test.YtlbckoblcdoceaaGreatDoorGp8
namespace Go.Proofs.YtlbckoblcdoceaaGreatDoor
open Go Go.Proofs Wx
variable{j l c m c2 k bc ob c3:Nat}{h h6 h3 h2 h9:ad}{b a t d ba a3:OA}{xs:LV}{F:NP}{K:KT}{n i:Int}{bs:LB}{R:List Int}
open _root_.List renaming getElem?_take->KR,getElem?_drop->FY,getElem?_eq_getElem->fg,getElem?_eq_none->CU,append_nil->gi,getElem_mem->ff,length_append->bg,length_map->aP,length_take->dL,take_succ_eq_append_getElem->jJ,map_append->eT,append_assoc->iW,flatMap_append->iy,flatMap_cons->qO,flatMap_nil->Ar,take_of_length_le->gL,take_append_drop->qP,length_replicate->dU,take_length->mZ,any_append->Hr,any_cons->wo,getElem_map->mu,any_eq_true->Fw,find?_map->acy,mem_of_find?_eq_some->SR,find?_some->acz,find?_eq_none->acA,find?_append->Hs,pairwise_cons->Ao,mem_cons_of_mem->gV,mem_cons->fO,mem_cons_self->kj,drop_of_length_le->qY,drop_eq_getElem_cons->lh,length_drop->jM,length_cons->pA,not_mem_nil->nT,set_append_right->JA,replicate_succ->uW,set_cons_zero->JB,getD_eq_getElem?_getD->gh,replicate_succ'->acB,getElem_append_left->JQ,getElem_append_right->GO
open _root_.Array renaming length_toList->Ax,getElem_toList->Yi,getElem?_eq_some_iff->Yj,extract_size->acC,size_modify->Yk,getElem?_append_left->acD,getElem?_modify->Vz
open _root_.Bool renaming and_false->yH,false_and->SS,or_false->acE,false_or->Ho,or_eq_true->BM,and_eq_true->dB,or_assoc->acF
open _root_.Nat renaming zero_le->bN,mod_eq_of_lt->vg,min_eq_left->xL,succ_pos->Yl,succ_lt_succ->Ym,not_lt_zero->wm,lt_or_ge->rI,le_refl->bE,le_succ->qw,sub_self->uH
open _root_.Int renaming emod_nonneg->Jy,emod_lt_of_pos->Jz,tdiv_eq_ediv_of_nonneg->nL,tmod_eq_emod_of_nonneg->rL,natCast_add->acG,toNat_natCast->cA,le_refl->th
open _root_.UInt8 renaming toNat_ofNat'->lX
open _root_.Option renaming map_none->Vy,none_or->Ht
open _root_.Classical renaming byContradiction->rB
namespace Di
open Hp W Re Ss
open Sk (E)
open Go.Op (bytesLess)
instance : Inhabited E:=⟨⟨0,[],0⟩⟩
def cfE(x y:E):Int:=if cmpT (mkStr x.name) (mkStr y.name)=0 then cmpZ x.place y.place else cmpT (mkStr x.name) (mkStr y.name)
theorem LX(x y:E):ltOf cfE x y=Bj x y:=by
 unfold ltOf cfE cmpT cmpZ Bj;rw[toList_mkStr,toList_mkStr]
 cases hb:bytesLess x.name y.name with
 | true=>rfl
 | false=>
  by_cases e:x.name=y.name
  ·have e':(x.name==y.name)=true:=(by rw[beq_iff_eq];exact e);rw[e']
   by_cases p:x.place<y.place
   ·rw[if_pos p,decide_eq_true p];rfl
   ·rw[if_neg p,decide_eq_false p]
    by_cases q:x.place>y.place
    ·rw[if_pos q];rfl
    ·rw[if_neg q];rfl
  ·have e':(x.name==y.name)=false:=(by rw[beq_eq_false_iff_ne];exact e);rw[e'];rfl
theorem swoE : Go.Sort.SWO (ltOf cfE) where
 irrefl x:=by rw[LX,LN]
 trans x y z h1 h2:=by rw[LX]at *;exact uk h1 h2
 ntrans x y z h1 h2:=by
  rw[LX]at *
  cases q:Bj x z with
  | false=>rfl
  | true=>
   exfalso
   cases r:Bj y x with
   | true=>rw[uk r q]at h2;cases h2
   | false=>
    obtain⟨e1,e2⟩:=Sz h1 r;unfold Bj at q h2;rw[e1,e2]at q;rw[q]at h2;cases h2
theorem aaK{es:List E}(hj:j<es.length*3):(es.flatMap E.v)[j]?=(E.v (es[j/3]' oX))[j%3]?:=by
 have p:=kv E.v 3 es (λx _=>E.len x) (j/3) oX;rw[<-p,KR,if_pos oX,FY];congr 1;omega
theorem Yn{d:Array E}(hj:j<d.size*3):(d.toList.flatMap E.v)[j]?=some ((Go.Sort.flatK E.v 3 d)[j]!):=by
 have h3:j/3<d.size:=oX;rw[aaK (by rw[Ax];exact hj),Go.Sort.get_flatK _ _ _ _ hj,getElem!_pos d (j/3) h3];rw[Yi];generalize d[j/3]=e
 rcases(by omega:j%3=0∨j%3=1∨j%3=2)with h|h|h <;> rw[h] <;> rfl
theorem afl{b o:Nat}(H:∀ j v,xs[j]?=some v->cellOf h ⟨b,o+j,none⟩=some v):((rd h b).drop o).take xs.length=xs:=by
 refine List.ext_getElem? λi=>?_;rw[KR]
 by_cases hi:i<xs.length
 ·rw[if_pos hi,FY];have:=H i xs[i] (fg hi);rw[nj]at this;rw[fg hi];exact this
 ·rw[if_neg hi,CU oX]
theorem QG{es:List E}(s:Sl h 3 a l c (es.flatMap E.v) F)(hl:l<4611686018427387904)
  (hK:∀h' (EU:List E),EU.Perm es->EU.Pairwise YX->Fr (λb=>∃p,a=some p/\b=p.block) h h'->Sl h' 3 a l c (EU.flatMap E.v) F->K (.tuple #[]) h') :
  C.gk a l c (.func (.func 47) #[] ⟨[]⟩) h K:=by
 refine⟨⟨_,Tryz.func46,by kernel_rfl,by kernel_rfl⟩,λw hw=>?_⟩;subst hw
 have le:es.length=l:=by
  have:=s.1;rw[bq E.v 3 _ (λx _=>E.len x)]at this;omega
 cases a with
 | none=>
  have l0:l=0:=s.2.1;have c0:c=0:=s.2.2;subst l0 c0;refine(AnyF.slices_SortFunc_none Tryz.sortE none 0 (.func (.func 47) #[] ⟨[]⟩) w).mono λe w' ⟨he,VQ⟩=>⟨_,he,?_⟩;subst VQ;exact⟨⟨rfl,rfl,rfl⟩,hK _ es (.refl _) (by rw[List.length_eq_zero_iff.mp le];exact .nil) (Fr.refl _ _) s⟩
 | some p=>
  obtain⟨b,o,sp⟩:=p;have ep:sp=none:=s.2.1;subst ep;have afm:=s.cells;obtain⟨_,_,hF,⟨cs,T,fz,hb,hfz⟩,CS,XT,Yo⟩:=s;have erd:rd w.heap b=cs.toList:=by unfold rd;rw[hb]
  have pV:w.heap[b]?=some (.cells cs T fz):=hb;simp only at Yo;rw[erd,Ax]at Yo
  have cell:∀j v,(es.flatMap E.v)[j]?=some v->w.cell? ⟨b,o+j,none⟩=some v:=λj v hv=>by
   have:=afm j v hv;rw[eA]at this;exact this
  have lV:es.toArray.size=l:=le
  have hH:Go.Sort.HoldsK E.v 3 w b o es.toArray:=λj hj=>by
   rw[Go.Sort.size_flatK]at hj;refine⟨cell j _ (Yn (d:=es.toArray) hj),?_⟩
   show(match w.heap[b]? with
    | some (.cells _ _ (lo,hi))=>decide (lo<=o+j) && decide (o+j<hi)
    | _=>false)=false
   rw[pV];show(decide (fz.1<=o+j) && decide (o+j<fz.2))=false
   rcases hfz with e|e
   ·rw[e,decide_eq_false (show ¬o+j<0 by omega),yH]
   ·rw[decide_eq_false (by rw[lV]at hj;omega),SS]
  have eg:∀args w,(callFunc 47 args).run Tryz.prog w = .ok (.enter 47 args) w:=enters_of Tryz.func47 (by kernel_rfl) rfl;have hcmp:CmpLays Tryz.prog 47 #[] E.v 3 cfE b o es.toArray.size w:=λm os dk _ x y=>Tryz.clo x.place x.inode y.place y.inode (mkStr x.name) (mkStr y.name) _;have cS:=AnyQ.slices_SortFunc Tryz.sortE 3 Tryz.isAgg79 Tryz.sizeOf79 E.v (λ_=>rfl) E.one cfE swoE 47 #[] b o c es.toArray w eg hcmp hH (Yj.mp pV).1 (by rw[lV];exact hl);rw[lV]at cS;refine cS.mono λe w' ⟨he,d',n,ws,hp,hs,VQ⟩=>⟨_,he,?_⟩;obtain⟨p1,_,p3⟩:=hp;rw[lV]at p1
  have pe:d'.toList.Perm es:=by
   have e1:d'.extract 0 l=d':=(by rw[<-p1,acC]);have e2:es.toArray.extract 0 l=es.toArray:=(by rw[<-lV,acC]);rw[e1,e2]at p3;exact p3
  have hH':=holdsK_sortWorldK_c E.v 3 w b o es.toArray d' n ws hH (Yj.mp pV).1 (by rw[p1,lV]);rw[<-VQ]at hH';have eh:w'.heap=(w.heap.modify b (Go.Sort.onCells (Go.Sort.putCells id o (Go.Sort.flatK E.v 3 d'))))++ws:=by rw[VQ];rfl
  have ls:d'.toList.length=l:=by rw[Ax,p1]
  have rest:bh w w':=by rw[VQ];exact⟨rfl,rfl,rfl⟩
  refine⟨rest,hK _ d'.toList pe ?_ ⟨by rw[eh,Array.size_append,Yk];omega,λb' YF OL=>?_⟩ ?_⟩
  ·rw[List.pairwise_iff_getElem];intro i j hi hj OK;have:=hs i j (bN _) OK oX;rw[LX,getElem!_pos d' j oX,getElem!_pos d' i oX]at this;rw[Yi,Yi];exact this
  ·rw[eh,acD (by rw[Yk];exact YF),Vz,if_neg λy=>OL ⟨_,rfl,y.symm⟩]
  ·have rM:=(Yj.mp pV).1
   have eb:w'.heap[b]?=some (.cells (Go.Sort.putCells id o (Go.Sort.flatK E.v 3 d') cs) T fz):=by
    rw[eh,acD (by rw[Yk];exact rM),Vz,if_pos rfl,pV];rfl
   have esz:(Go.Sort.putCells id o (Go.Sort.flatK E.v 3 d') cs).size=cs.size:=(by unfold Go.Sort.putCells;rw[Array.size_mapIdx]);have lf:(d'.toList.flatMap E.v).length=l*3:=(by rw[bq E.v 3 _ (λx _=>E.len x),ls]);refine⟨lf,rfl,hF,⟨_,T,fz,eb,by rw[esz];exact hfz⟩,CS,afl λj v hv=>?_,?_⟩
   ·have hj:j<d'.size*3:=by
     have:=(List.getElem?_eq_some_iff.mp hv).1;rw[lf]at this;omega
    rw[Yn hj]at hv;have:=(hH' j (by rw[Go.Sort.size_flatK];exact hj)).1;rw[<-Option.some.inj hv];exact this
   ·show o+c*3<=(rd w'.heap b).length;have:rd w'.heap b=(Go.Sort.putCells id o (Go.Sort.flatK E.v 3 d') cs).toList:=(by unfold rd;rw[eb]);rw[this,Ax,esz];exact Yo
end Di
namespace Di
open Hp W Ad Tm Spc Re Av Rg Ss
open Hd (ints)
open In (lT aj aO)
open Ino (getM yP cZ)
open Bm (bT)
open Fi (bH tt uQ Qg)
open Sk (E cm)
theorem Ou{ec:Nat}(s:Sl h ec a l c xs F):Sl h ec a l c xs (λb=>F b/\b<h.size):=by
 obtain⟨h1,h2⟩:=s;refine⟨h1,?_⟩
 cases a with
 | none=>exact h2
 | some p=>
  obtain⟨a1,a2,a3,a4⟩:=h2;exact⟨a1,⟨a2,a3.lt⟩,a3,a4⟩
def uV(k:Nat)(c:E):E:=⟨c.place+16*(k:Int),c.name,c.inode⟩
theorem sJ(T:TM)(g:G)(R:List Int)(k:Nat)(r:List uS):mT ((ay T g R k).1::r)=(ay T g R k).1.cells.map (uV k)++mT r:=rfl
theorem um{T:TM}{n:Nat}(gl:In.lT h)(dm:zV n)(x:Tx h F t d T)
  (hK:∀h' a l c,Fr No h h'->l=(lD T (af n) i).1.length->Sl h' 3 a l c ((lD T (af n) i).1.flatMap E.v) (cW h.size)->K (.tuple #[vS a l c,vI (lD T (af n) i).2]) h'):C.qS t (af n).v i h K:=by
 refine qS.ok (aC.intro λh2 n2=>⟨(af n).v,rfl,ah n2.rd,DE (gl.no n2.fr) (x.no n2.fr) (Qg dm) λh3 f3=>⟨_,rfl,aF.intro (jW (mS T (af n) i)) Fp rfl λh5 n5=>aC.intro λh6 n6=>yV λh7 n7=>⟨_,rfl,λL rounds=>?_⟩⟩⟩);have lR:=mS T (af n) i;have z2:=n2.size;have z3:=f3.size;have z5:=n5.size;have z6:=n6.size;have z7:=n7.size;have xl:∀b,F b->b<h.size:=λb hb=>x.lt hb;have gl1:=gl.lt;have F6:Fr No h h6:=((n2.fr.no f3).new n5).new n6;have F7:Fr No h h7:=F6.new n7;have Fb:=zC h7 L;have YT:=zD h7 L;have d0:=Cj h7 L;have zb:=tq h7 L;have F0:Fr No h (dw h7 L):=F7.no Fb;have cb0:rd (dw h7 L) h6.size=[vP (some (bA h3))]:=(Fb.r0).trans n7.rd
 have rb0:rd (dw h7 L) h3.size=tI t (af n) i (aw T (af n) i).1 (aw T (af n) i).2++[]:=by
  rw[gi];exact(Fb.r0).trans ((n7.at_).trans ((n6.at_).trans n5.rd))
 have ob0:dA (dw h7 L) h3.size:=Fb.own oX (λy=>y) (n7.ow (n6.ow n5.own));have ab0:rd (dw h7 L) h5.size=[vS none 0 0]:=(Fb.r0).trans ((n7.at_).trans n6.rd);have pb0:dA (dw h7 L) h5.size:=Fb.own oX (λy=>y) (n7.ow n6.own);have I0:It (dw h7 L) F t d T (af n) i (aw T (af n) i).1 (aw T (af n) i).2 [] h6.size h3.size:=⟨gl.no F0,x.no F0,cb0,ob0,rb0,λy=>by have:=xl _ y;omega,oX,oX⟩;generalize hbe:dw h7 L=hb at *;show C.aQ (.func (.yield (h7.size+1)) #[] #[]) (some (bA h6)) hb _
 -- what is behind the loop
 have fin:∀(hh:ad) (e:Int),Fr (λb=>b=h3.size∨b=h5.size∨b=h7.size+1) hb hh->bO hh (h7.size+1) L .ready none->rd hh h3.size=tI t (af n) i (aw T (af n) i).1 e++[]->(e≠0->lD T (af n) i=([],e))->
   (e=0->∃(a:OA) (l c:Nat) (acc:List E),rd hh h5.size=[vS a l c]/\Sl hh 3 a l c (acc.flatMap E.v) (cW hb.size)/\CF acc/\acc.length<=300000/\lD T (af n) i=(sortE acc,0))->
   ∃(st1:LoopState) (jo:Option Code),bO hh (h7.size+1) L st1 jo/\st1≠.busy/\xU jo (
    xM hh (h7.size+1) L .exhausted jo λiG=>∃(n5:Int),cellOf iG (Addr.add (bA h3) 22)=some (vI n5)/\
    bif(n5 != 0)then(∃(n6:Int),cellOf iG (Addr.add (bA h3) 22)=some (vI n6)/\rU h7.size iG λoM=>K (.tuple #[vS none 0 0,vI n6]) oM)else(
     ∃(tN:OA) (tF:Nat) (uF:Nat),cellOf iG ⟨h5.size,0,none⟩=some (vS tN tF uF)/\C.gk tN tF uF (Value.func (.func 47) #[] ⟨[]⟩) iG λr3 qD=>
     r3 = .tuple #[]/\∃(xD:OA) (xf:Nat) (xQ:Nat),cellOf qD (bA h5)=some (vS xD xf xQ)/\rU h7.size qD λpg=>K (.tuple #[vS xD xf xQ,vI 0]) pg)) (False) (λ_=>False):=by
  intro hh e f on r Mn es1;have zf:=f.size;refine⟨.ready,none,on,by decide,zE (mR oX λiG t20=>?_)⟩;have z20:=t20.size;have f20:Fr (λb=>b=h3.size∨b=h5.size∨b=h7.size+1) hb iG:=f.trans t20.fr λb _ y=>.inr (.inr y);have r20:=(t20.fr.rd (b:=h3.size) oX oX).trans r;refine⟨_,aZ r20 (Aq lR),cn (λhe=>⟨_,aZ r20 (Aq lR),oF ((f20.same _ oX oX).trans d0) λoM z21 f21=>?_⟩) λhe=>?_⟩
  ·rw[Mn he]at hK;exact hK oM none 0 0 ((F0.trans f20 λb hb y=>oX).trans f21 λb hb y=>oX) rfl (Sl.nil _ _ _)
  obtain⟨a,l,c,acc,ra,s,u,hacc,es⟩:=es1 he;rw[es]at hK;have a20:=(t20.fr.rd (b:=h5.size) oX oX).trans ra;have s20:Sl iG 3 a l c (acc.flatMap E.v) (cW hb.size):=s.fr t20.fr λb _ pV y=>by have pV:hb.size<=b:=pV;omega
  have la:acc.length=l:=by
   have:=s20.1;rw[bq E.v 3 _ (λx _=>E.len x)]at this;omega
  have hb5:∀b,(∃p,a=some p/\b=p.block)->hb.size<=b:=λb ⟨p,ep,eb⟩=>by subst ep;rw[eb];exact s20.2.2.1
  refine⟨_,_,_,dC a20 rfl,QG s20 oX λqD EU pe so f22 s22=>⟨rfl,_,_,_,dC (show rd qD h5.size=[vS a l c] from(f22.rd oX λy=>by have:=hb5 _ y;omega).trans a20) rfl,oF ((f22.same _ oX λy=>by have:=hb5 _ y;omega).trans ((f20.same _ oX oX).trans d0)) λpg z23 f23=>?_⟩⟩;have eq:EU=sortE acc:=DC u pe so;subst eq;have z22:=f22.size;refine hK pg a l c (((F0.trans f20 λb hb y=>oX).trans f22 λb hb y=>by have:=hb5 _ y;omega).trans f23 λb hb y=>oX) ?_ ((s22.fr f23 λb _ pV y=>?_).mono λb pV=>?_)
  ·show l=(sortE acc).length;rw[(ql acc).length_eq,la]
  ·have pV:hb.size<=b:=pV;omega
  ·have pV:hb.size<=b:=pV;have:=F0.size;show h.size<=b;omega
 by_cases CT:(aw T (af n) i).2=0
 rotate_left
 ·exact yW lR I0 CT (fin hb _ (Fr.refl _ _) YT I0.r (λ_=>by unfold lD;rw[if_pos CT]) λy=>absurd y CT)
 obtain⟨R0,R1⟩:=kz CT
 have Mn:lD T (af n) i=if(cF T (af n) (aw T (af n) i).1).2≠0 then([],(cF T (af n) (aw T (af n) i).1).2)else(sortE (mT (cF T (af n) (aw T (af n) i).1).1),0):=by
  unfold lD;rw[if_neg (λy=>y CT)]
 have N3:=(ki T (af n) (aw T (af n) i).1 ((aw T (af n) i).1.getD 2 0/512).toNat 0).1;unfold cF at Mn;rw[CT]at I0;generalize hR:(aw T (af n) i).1=R at *;generalize hm:(R.getD 2 0/512).toNat=m at *;have hm2:m<=16522:=oX
 refine yU lR R0 R1 (λk hh=>It hh F t d T (af n) i R 0 [] h6.size h3.size/\Fr (λb=>b=h3.size∨b=h5.size∨b=h7.size+1) hb hh/\bO hh (h7.size+1) L .ready none/\∃q a l c acc,m=k+q/\rd hh h5.size=[vS a l c]/\dA hh h5.size/\Sl hh 3 a l c (acc.flatMap E.v) (cW hb.size)/\acc.length<=16*k/\
   mT (aG T (af n) R m 0).1=acc++mT (aG T (af n) R q k).1/\(aG T (af n) R m 0).2=(aG T (af n) R q k).2)
  (λk hh J=>J.1) (λk hh h' ba bl bc ca cl cc J hk he f' r' o' lf=>?_) ⟨I0,Fr.refl _ _,YT,m,none,0,0,[],oX,ab0,pb0,Sl.nil _ _ _,bN _,rfl,rfl⟩ (λhh J=>?_) λk hh h' J hk he f' r' o'=>?_
 · -- an index
  obtain⟨I,f,on,q,a,l,c,acc,eq,ra,oa,sa,la,e1,e2⟩:=J;rw[hm]at hk;obtain⟨q,rfl⟩:∃q',q=q'+1:=⟨q-1,oX⟩;have zf:=f.size;have zf':=f'.size;have on':bO h' (h7.size+1) L .ready none:=gH on f' oX;refine rounds (rP k (ay T (af n) R k).1.block ba bl bc ca cl cc) h' _ on' (aF.intro rfl zM rfl λbG n10=>⟨gH on' n10.fr λy=>y,mR (by have:=n10.size;omega) λcu t11=>?_⟩);have Vu:=n10.size;have Ua:=t11.size;have f11:Fr (λb=>b=h3.size∨b=h5.size∨b=h7.size+1) hb cu:=((f.trans f' λb _ y=>.inl y).new n10).trans t11.fr λb _ y=>.inr (.inr y);have v11:rd cu h'.size=rP k (ay T (af n) R k).1.block ba bl bc ca cl cc:=(t11.fr.rd oX oX).trans n10.rd;have ai6:Lf hh cu (ay T (af n) R k).1 ba bl bc ca cl cc:=(lf.fr n10.fr λ_ _ _ y=>y).fr t11.fr λb _ hb y=>by omega
  have lc:(ay T (af n) R k).1.cells.length=cl:=by
   have:=ai6.c.1;rw[bq E.v 3 _ (λx _=>E.len x)]at this;omega
  have l16:=yX T (af n) R k
  have I11:It cu F t d T (af n) i R 0 [] h6.size h3.size:=by
   have A:It h' F t d T (af n) i R 0 [] h6.size h3.size:=⟨I.gl.fr f' λb hb y=>oX,I.x.fr f' λb hb y=>by have:=xl b hb;omega,(f'.rd I.clt oX).trans I.cap,o',r',I.nf,I.b1,I.ne⟩;exact(A.no n10.fr).fr t11.fr oX oX (λb hb y=>by have:=xl b hb;omega) λb hb y=>by omega
  have ra11:rd cu h5.size=[vS a l c]:=(t11.fr.rd oX oX).trans ((n10.at_).trans ((f'.rd oX oX).trans ra));have oa11:dA cu h5.size:=t11.fr.own oX oX (n10.ow (f'.own oX oX oa));have sa11:Sl cu 3 a l c (acc.flatMap E.v) (λb=>hb.size<=b/\b<hh.size):=(((Ou sa).mono (G:=λb=>hb.size<=b/\b<hh.size) λb hb=>hb).fr f' λb _ hb y=>oX).fr n10.fr (λ_ _ _ y=>y) |>.fr t11.fr λb _ hb y=>by omega
  refine⟨_,_,_,aZ v11 rfl,λj hx=>∃p:Nat,j=p/\p<=cl/\Fr (λb=>b=h5.size∨(hb.size<=b/\b<hh.size)) cu hx/\∃a l c,rd hx h5.size=[vS a l c]/\dA hx h5.size/\Sl hx 3 a l c ((acc++((ay T (af n) R k).1.cells.take p).map (uV k)).flatMap E.v) (λb=>(hb.size<=b/\b<hh.size)∨(cu.size<=b/\b<hx.size)),λj _=>((cl:Int)-j).toNat,
   ⟨0,rfl,bN _,Fr.refl _ _,a,l,c,ra11,oa11,by rw[List.take_zero,List.map_nil,gi];exact sa11.mono λb hb=>.inl hb⟩,?_⟩
  rintro j bf ⟨p,rfl,hp,f12,a2,l2,c2,ai7,ai8,H5⟩;have z12:=f12.size;have v12:rd bf h'.size=rP k (ay T (af n) R k).1.block ba bl bc ca cl cc:=(f12.rd oX oX).trans v11;have lf12:Lf hh bf (ay T (af n) R k).1 ba bl bc ca cl cc:=ai6.fr f12 λb _ hb y=>by omega
  have ai9:bO bf (h7.size+1) L .busy none:=gH t11.on f12 oX;refine cd (λbV=>?_) λbV=>?_
  ·have vJ:p<(ay T (af n) R k).1.cells.length:=oX;obtain⟨a0,ea,ca0⟩:=pv lf12.c.cells vJ;subst ea;have pr:=(N4 T (af n) R k).Vt _ (ff vJ);generalize aja:(ay T (af n) R k).1.cells[p]=cell at ca0 pr
   have ll2:l2=acc.length+p:=by
    have:=H5.1;rw[bq E.v 3 _ (λx _=>E.len x),bg,aP,dL]at this;omega
   refine⟨⟨oX,bV⟩,os ⟨_,rfl,ca0,aF.intro rfl (E.one _) rfl λcX n14=>⟨_,aZ n14.rd rfl,_,aZ ((n14.at_).trans v12) rfl,?_⟩⟩⟩;have WI:=n14.size;refine bD.add n14.own (by rw[n14.rd];show 0<3;decide) λfN d15=>?_;have rG:=d15.size
   have r15:rd fN bf.size=E.v (uV k cell):=by
    rw[d15.rd,n14.rd,wq (16*(k:Int)),wrap_i64 oX oX];rfl
   have ajb:=(d15.at_ (c:=h5.size) oX oX).trans ((n14.at_).trans ai7);refine⟨a2,l2,c2,dC ajb rfl,_,rfl,ah r15,rfl,aC.intro λgN n16=>⟨_,rfl,ah n16.rd,E.one _,?_⟩⟩;have z16:=n16.size;have s16:Sl gN 3 a2 l2 c2 ((acc++((ay T (af n) R k).1.cells.take p).map (uV k)).flatMap E.v) (λb=>(hb.size<=b/\b<hh.size)∨(cu.size<=b/\b<bf.size)):=((H5.fr n14.fr λ_ _ _ y=>y).fr d15.fr λb _ hb y=>oX).fr n16.fr λ_ _ _ y=>y;refine cY (elem:=rV) s16 rfl rfl (by show(l2+1)*32<=_;omega) oX λa' c' gO f17 s17=>?_;have z17:=f17.size;have f16:Fr (λb=>b=h5.size∨(hb.size<=b/\b<hh.size)) cu gN:=((f12.new n14).did d15 λhl=>oX).new n16;have w16:dA gN h5.size:=n16.ow (d15.ow (n14.ow ai8));have Z3:rd gN h5.size=[vS a2 l2 c2]:=(n16.at_).trans ajb;have w17:dA gO h5.size:=f17.own oX oX w16;refine bD.intro w17 (by rw[f17.rd oX oX,Z3];exact Nat.zero_lt_one) λjk d18=>?_;have z18:=d18.size;rw[wrap_i64 oX oX];refine⟨⟨p+1,oX,oX,(f16.trans f17 λb hb y=>?_).did d18 λhl=>.inl rfl,a',l2+1,c',?_,d18.own,?_⟩,bW bV⟩
   ·omega
   ·rw[d18.rd,f17.rd oX oX,Z3];rfl
   ·rw[jJ vJ,eT,<-iW,iy,aja];have s18:=(Ou s17).fr d18.fr λb _ hb y=>by omega
    rw[show[cell].map (uV k)=[uV k cell] from rfl,qO,Ar,gi];exact s18.mono λb hb=>by omega
  ·have:p=cl:=oX;subst this;refine⟨ai9,.inl ⟨rfl,?_⟩⟩;have t24:=Bc (uh ai9) L .ready none;generalize dz bf (h7.size+1) L .ready none=sX at t24;have z24:=t24.size;refine⟨(I11.fr f12 oX oX (λb hb y=>by have:=xl b hb;omega) λb hb y=>oX).fr t24.fr oX oX (λb hb y=>by have:=xl b hb;omega) λb hb y=>oX,(f11.trans f12 λb _ y=>oX).trans t24.fr λb _ y=>.inr (.inr y),t24.on,q,a2,l2,c2,acc++(ay T (af n) R k).1.cells.map (uV k),oX,(t24.fr.rd oX oX).trans ai7,t24.fr.own oX oX ai8,?_,?_,?_,?_⟩
   ·rw[gL oX]at H5;exact(H5.fr t24.fr λb _ hb y=>oX).mono λb hx=>by show hb.size<=b;omega
   ·rw[bg,aP];omega
   ·rw[e1]
    conv=>lhs;unfold aG
    rw[if_neg (λy=>y he)];show acc++mT ((ay T (af n) R k).1::(aG T (af n) R q (k+1)).1)=_;rw[sJ,iW]
   ·rw[e2]
    conv=>lhs;unfold aG
    rw[if_neg (λy=>y he)]
 · -- all have come
  obtain⟨I,f,on,q,a,l,c,acc,eq,ra,oa,sa,la,e1,e2⟩:=J;rw[hm]at eq e1 e2 la;have:q=0:=oX;subst this;have ea:mT (aG T (af n) R m 0).1=acc:=by rw[e1];exact gi _
  have e0:(aG T (af n) R m 0).2=0:=by rw[e2];rfl
  exact fin hh 0 f on I.r (λy=>absurd rfl y) λ_=>⟨a,l,c,acc,ra,sa,by rw[<-ea];exact N3,oX,by rw[Mn,if_neg (λy=>y e0),ea]⟩
 · -- an index that Zq not read
  obtain⟨I,f,on,q,a,l,c,acc,eq,ra,oa,sa,la,e1,e2⟩:=J;rw[hm]at hk;obtain⟨q,rfl⟩:∃q',q=q'+1:=⟨q-1,oX⟩;have zf:=f.size
  have ee:(aG T (af n) R m 0).2=(ay T (af n) R k).2:=by
   rw[e2];unfold aG;rw[if_pos he]
  exact fin h' _ (f.trans f' λb _ y=>.inl y) (gH on f' oX) r' (λ_=>by rw[Mn,ee,if_pos he]) λy=>absurd y he
theorem UX{T:TM}{n:Nat}(gl:In.lT h)(dm:zV n)(x:Tx h F t d T)
  (hK:∀h',Fr No h h'->K (.tuple #[vI ((lD T (af n) i).1.length:Nat),vI (lD T (af n) i).2]) h'):C.uA t (af n).v i h K:=by
 refine uA.ok (aC.intro λh2 n2=>⟨(af n).v,rfl,ah n2.rd,um (gl.no n2.fr) dm (x.no n2.fr) λh3 a l c f3 hl s3=>⟨_,_,_,_,rfl,?_⟩⟩);rw[hl];exact hK h3 (n2.fr.no f3)
end Di
namespace Di
open Hp W Re Ss
open Sk (E cm)
open Go.Op (bytesLess)
theorem UY(a b:LB):mkStr a++mkStr b=mkStr (a++b):=by
 apply ByteArray.ext;rw[ByteArray.data_append];simp[mkStr]
theorem Ov{v:Int}(h0:0<n)(h1:n<=4294967296)(hK:K (vI (v % n)) h):C.iY v n h K:=by
 refine iY.ok ?_;unfold iY;rw[if_neg oX];have e:=Int.tmod_eq_emod (a:=v) (b:=n);have p0:=Jy v (show n≠0 by omega);have p1:=Jz v h0;refine cd (λx=>?_) λx=>?_
 ·have:v.tmod n+n=v%n:=by
   rw[e]at x ⊢
   split at x
   ·omega
   ·rename_i c;rw[if_neg c];omega
  rw[this,wrap_i64 oX oX];exact hK
 ·have:v.tmod n=v%n:=by
   rw[e]at x ⊢
   split at x
   ·rename_i c;rw[if_pos c];omega
   ·rename_i c;omega
  rw[this];exact hK
def dd2(i:Nat):Tm.cC:=[UInt8.ofNat (48+i/10),UInt8.ofNat (48+i%10)]
theorem HH{s:Tm.cC}{i:Nat}(hi:i<100)(hs:s.length<=140737488351232)(hK:∀ h',Fr No h h'->K (.string (mkStr (s++dd2 i))) h'):C.iB (mkStr s) (i:Int) h K:=by
 have e1:Int.tdiv (i:Int) 10=((i/10:Nat):Int):=by rw[nL oX];omega
 have e2:Int.tmod (i:Int) 10=((i%10:Nat):Int):=by rw[rL oX];omega
 refine iB.ok (aC.intro λh2 n2=>⟨dd2 i,yv ?_ rfl,?_,?_⟩)
 ·have r2:=n2.rd;rw[e1,e2,wq (((i/10:Nat):Int)),wq (48+((i/10:Nat):Int)),wq (48+((i%10:Nat):Int)),wrap_u8 oX oX,wrap_u8 oX oX]at r2;rw[r2];show[Value.int .u8 (48+((i/10:Nat):Int)),Value.int .u8 (48+((i%10:Nat):Int))]=[bv (UInt8.ofNat (48+i/10)),bv (UInt8.ofNat (48+i%10))];unfold bv;rw[lX,lX,vg (show 48+i/10<2 ^ 8 by omega),vg (show 48+i%10<2 ^ 8 by omega),acG,acG];rfl
 ·show((s.length+2:Nat):Int)<=9223372036854775807;omega
 ·rw[UY];exact hK h2 n2.fr
theorem oY(l:List E):∀v∈l.flatMap E.v,v.oneCell'=true:=λv hv=>by
 obtain⟨c,_,hc⟩:=List.mem_flatMap.mp hv;exact E.one c v hc
theorem Kj(l:List E)(k:Nat):(l.take k).flatMap E.v=(l.flatMap E.v).take (k*3):=by
 by_cases hk:k<=l.length
 ·have e:l.flatMap E.v=(l.take k).flatMap E.v++(l.drop k).flatMap E.v:=by rw[<-iy,qP]
  have len:((l.take k).flatMap E.v).length=k*3:=by rw[bq E.v 3 _ (λx _=>E.len x),dL,xL hk]
  rw[e,<-len,List.take_left]
 ·rw[gL oX,gL];rw[bq E.v 3 _ (λx _=>E.len x)];omega
theorem Kk(l:List E)(k:Nat)(hk:k<=l.length):(l.drop k).flatMap E.v=(l.flatMap E.v).drop (k*3):=by
 have e:l.flatMap E.v=(l.take k).flatMap E.v++(l.drop k).flatMap E.v:=by rw[<-iy,qP]
 have len:((l.take k).flatMap E.v).length=k*3:=by rw[bq E.v 3 _ (λx _=>E.len x),dL,xL hk]
 conv=>rhs;rw[e,<-len,List.drop_left]
theorem sK{xs ys:List E}(A:ak h a (xs.flatMap E.v))(hxl:xs.length=l)(B:ak h b (ys.flatMap E.v))(hyl:ys.length=m)(hl:l<=140737488355328)(hK:K (.bool (decide (xs=ys))) h):C.du a l c b m c2 h K:=by
 refine du.ok (cn (λfP=>?_) λheq=>?_)
 ·have:xs≠ys:=by rintro rfl;omega
  rw[decide_eq_false this]at hK;exact hK
 ·refine⟨λi hh=>0<=i/\i<=l/\h=hh/\xs.take i.toNat=ys.take i.toNat,λi _=>((l:Int)-i).toNat,⟨oX,oX,rfl,rfl⟩,?_⟩;rintro i _ ⟨i0,i1,rfl,e⟩;refine cd (λhi=>?_) λhi=>?_
  ·have hx:i.toNat<xs.length:=oX;have hy:i.toNat<ys.length:=oX;obtain⟨p,rfl,ca⟩:=pv A hx;obtain⟨q,rfl,cb⟩:=pv B hy;refine⟨⟨i0,hi⟩,os ⟨_,rfl,ca,⟨i0,oX⟩,os ⟨_,rfl,cb,E.eq.1,iu ?_⟩⟩⟩;rw[E.eq.2];refine cd (λheq2=>?_) λfP=>?_
   ·rw[wrap_i64 oX oX];refine⟨⟨oX,oX,rfl,?_⟩,bW hi⟩;rw[show(i+1).toNat=i.toNat+1 by omega,jJ hx,jJ hy,e,heq2]
   ·have:xs≠ys:=(by rintro rfl;exact fP rfl);rw[decide_eq_false this]at hK;exact hK
  ·rw[gL oX,gL oX]at e;rw[decide_eq_true e]at hK;exact hK
end Di
namespace Rq
open Hp W Ad Tm Spc Re Av Ss
open Hd (ints)
open In (aj aO rG jT J6)
open Ino (getM yP cZ)
open Bm (bT)
open Fi (bH iaT)
open Rx (lG yY)
open Sk (E cm)
open Di (aw wH ay aG cF gn gI findD lD mT uV pv oY rC cJ)
section
variable{h : ad}{F : Nat -> Prop}{r e : OA}{T : TM}{g : G}{n : Int}{R : List Int}{s : Tm.cC}{K : Value -> ad -> Prop}
theorem wy(x:lG h F r e T)(ok:yP g)
  (hK:∀h' R,Fr No h h'->R.length=15->((aw T g n).2=0->R=(aw T g n).1)->K (.tuple #[.agg ⟨ints R⟩,vI (aw T g n).2]) h'):C.hQ r g.v n h K:=by
 have lR:=cZ T g n;refine hQ.ok (aC.intro λh2 n2=>aC.intro λh3 n3=>?_);have z2:=n2.size;have z3:=n3.size;have F3:=n2.fr.new n3;refine⟨g.v,rfl,ah ((n3.at_ n2.own.lt).trans n2.rd),Rx.Hj (x.no F3) ok λh4 f4=>⟨_,_,rfl,aF.intro (by rw[aj,lR]) (aO _) rfl λh6 n6=>?_⟩⟩;have z4:=f4.size;have z6:=n6.size;have F6:=(F3.no f4).new n6;have o6:dA h6 h2.size:=n6.ow (f4.own oX (λy=>y) n3.own);have r6:(rd h6 h2.size).length=15:=by rw[(n6.at_).trans ((f4.r0).trans n3.rd)];rfl
 unfold aw at hK
 refine cn (λhe=>jT (h3:=h) F6 oX o6 r6 λh7 f7=>?_) λhe=>⟨_,aZ n6.rd (iaT (by rw[lR];decide)),ce (λh0=>jT (h3:=h) F6 oX o6 r6 λh7 f7=>?_) λh0=>
  ⟨_,aZ n6.rd (iaT (by rw[lR];decide)),cn (λh2=>jT (h3:=h) F6 oX o6 r6 λh7 f7=>?_) λh2=>J6 (h3:=h) lR F6 oX o6 r6 n6.rd λh7 f7=>?_⟩⟩
 ·rw[if_pos he]at hK;exact hK h7 rG f7 rfl λy=>absurd y he
 ·rw[if_neg (λy=>y he),if_pos h0]at hK;exact hK h7 rG f7 rfl λy=>absurd (show(110:Int)=0 from y) dX
 ·rw[if_neg (λy=>y he),if_neg h0,if_pos h2]at hK;exact hK h7 rG f7 rfl λy=>absurd (show(161:Int)=0 from y) dX
 ·rw[if_neg (λy=>y he),if_neg h0,if_neg (λy=>y h2),he]at hK;exact hK h7 _ f7 lR λ_=>rfl
theorem UZ : Sk.blk (List.replicate 16 (0,[]))=aV:=by kernel_rfl
theorem Kl : sR aV=([],0):=by
 rw[<-UZ,Di.aar dU λx hx=>by rw[List.eq_of_mem_replicate hx];exact .inl ⟨rfl,rfl⟩];rfl
theorem SU(k:Nat)(l:List E):((l.map (uV k)).flatMap E.v).length=l.length*3:=by rw[bq E.v 3 _ (λx _=>E.len x),aP]
theorem QH(x:lG h F r e T)(hR:R.length=15)(hk:k<20000)
  (h1:(ay T g R k).2≠0->∀h',Fr No h h'->K (.tuple #[vS none 0 0,vI (ay T g R k).2]) h')
  (h0:(ay T g R k).2=0->∀h' a c,Fr No h h'->Sl h' 3 a (ay T g R k).1.cells.length c (((ay T g R k).1.cells.map (uV k)).flatMap E.v) (cW h.size)->K (.tuple #[vS a (ay T g R k).1.cells.length c,vI 0]) h') :
  C.fH r g.v (ints R) (k:Int) h K:=by
 refine fH.ok (aC.intro λh2 n2=>aC.intro λh3 n3=>?_);have z2:=n2.size;have z3:=n3.size;have F3:=n2.fr.new n3;refine⟨g.v,rfl,ah ((n3.at_).trans n2.rd),ints R,by rw[aj,hR],ah n3.rd,Ry.qy (x.no F3) hR λh4 f4=>⟨_,_,rfl,cn (λhe=>?_) λhe=>ce (λhz=>?_) λhz=>?_⟩⟩
 ·have eb:bH T g R (k:Int)=([],(bT T g R k).2):=by unfold Fi.bH;rw[if_pos he]
  have e2:(ay T g R k).2=(bT T g R k).2:=by unfold Di.ay;rw[eb];exact if_pos he
  rw[e2]at h1;exact h1 he h4 (F3.no f4)
 ·have eb:bH T g R (k:Int)=(aV,0):=by unfold Fi.bH;rw[if_neg (λy=>y he),if_pos hz]
  have ez:sR (bH T g R (k:Int)).1=([],0):=by rw[eb];exact Kl
  have ew:(bH T g R (k:Int)).2=0:=by rw[eb]
  have e2:(ay T g R k).2=0:=by unfold Di.ay;rw[ez,ew];rfl
  have ec:(ay T g R k).1.cells=[]:=by show(sR (bH T g R k).1).1=[];rw[ez]
  rw[he];rw[ec]at h0;exact h0 e2 h4 none 0 (F3.no f4) (Sl.nil _ _ _)
 ·have eb:bH T g R (k:Int)=T.read (bT T g R k).1:=by unfold Fi.bH;rw[if_neg (λy=>y he),if_neg hz]
  have F4:=F3.no f4;unfold fH.k1;refine Rx.dv (x.no F4) λa l c h5 f5 hl s5=>⟨_,_,_,_,rfl,cn (λhe5=>?_) λhe5=>LK s5.str s5.le λh6 a2 l2 c2 f6 s6=>⟨_,_,_,_,rfl,cn (λhe6=>?_) λhe6=>?_⟩⟩
  ·have e2:(ay T g R k).2=(T.read (bT T g R k).1).2:=(by unfold Di.ay;rw[eb];exact if_pos he5);rw[e2]at h1;exact h1 he5 h5 (F4.no f5)
  ·have e2:(ay T g R k).2=(sR (T.read (bT T g R k).1).1).2:=(by unfold Di.ay;rw[eb];exact if_neg (λy=>y he5));rw[e2]at h1;exact h1 he6 h6 ((F4.no f5).no f6)
  ·have e2:(ay T g R k).2=(sR (T.read (bT T g R k).1).1).2:=(by unfold Di.ay;rw[eb];exact if_neg (λy=>y he5));have h0:=h0 (e2.trans he6);have ec:(ay T g R k).1.cells=(sR (T.read (bT T g R k).1).1).1:=(by show(sR (bH T g R k).1).1=_;rw[eb]);rw[ec]at h0;have Vt:=(rC (T.read (bT T g R k).1).1).2;have lim:=Di.CG (T.read (bT T g R k).1).1;generalize(sR (T.read (bT T g R k).1).1).1=es at h0 s6 Vt lim
   have YR:l2=es.length:=by
    have:=s6.1;rw[bq E.v 3 _ (λx _=>E.len x)]at this;omega
   subst YR;have F6:=(F4.no f5).no f6;have z6:=F6.size;refine⟨λoa p oc i hh=>i=p/\p<=es.length/\Fr No h6 hh/\Sl hh 3 oa p oc (((es.take p).map (uV k)).flatMap E.v) (cW h6.size),λ_ _ _ i _=>((es.length:Int)-i).toNat,⟨rfl,bN _,Fr.refl _ _,Sl.nil _ _ _⟩,?_⟩;rintro oa p oc i h7 ⟨rfl,hp,f7,s7⟩;have z7:=f7.size;refine cd (λbV=>?_) λTG=>?_
   ·have uY:p<es.length:=oX;have s67:ak h7 a2 (es.flatMap E.v):=ak.fr f7 s6.cells λ_ _ y=>y;obtain⟨p1,ep,cp⟩:=pv s67 uY;have cr:=Vt _ (ff uY);refine⟨⟨oX,bV⟩,?_⟩;rw[ep,cA];refine os ⟨_,E.len _,cp,aF.intro (E.len _) (E.one _) rfl λh9 n9=>⟨_,aZ n9.rd rfl,_,aZ n9.rd rfl,_,aZ n9.rd rfl,rfl,?_⟩⟩;rw[wq (16*(k:Int)),wq (16*(k:Int)+es[p].place),wq ((p:Int)+1)];have z9:=n9.size;refine aC.intro λbG n10=>⟨E.v (uV k es[p]),E.len _,ah ?_,E.one _,?_⟩
    ·rw[n10.rd];show _=[vI (es[p].place+16*(k:Int)),_,_];rw[show es[p].place+16*(k:Int)=16*(k:Int)+es[p].place by omega];rfl
    refine yY (elem:=rV) (f7.trans (n9.fr.trans n10.fr λ_ _ y=>y) λ_ _ y=>y) ((s7.fr n9.fr λ_ _ _ y=>y).fr n10.fr λ_ _ _ y=>y) (E.len _) rfl (by show(p+1)*32<=_;omega) oX λa' c' cu f11 E2=>⟨⟨oX,oX,f11,?_⟩,bW bV⟩;rw[jJ uY,eT,iy,show[es[p]].map (uV k)=[uV k es[p]] from rfl,qO,Ar,gi];exact E2
   ·have:p=es.length:=oX;subst this;rw[mZ]at s7;exact h0 h7 oa oc (F6.no f7) (s7.mono λb hb=>by have hb:h6.size<=b:=hb;show h.size<=b;omega)
end
end Rq
namespace Rq
open Hp W Ad Tm Spc Re Av Ss
open Hd (ints)
open In (aj aO rG jT J6)
open Ino (getM yP cZ)
open Bm (bT)
open Fi (bH iaT)
open Rx (lG yY)
open Sk (E cm)
open Di (aw wH mS kz ay aG cF gn gI findD lD mT uV pv oY rC cJ Ou)
def fB(T:TM)(g:G)(R:List Int)(s:Tm.cC):Nat->Nat->List E×Int
 | 0,_=>([],0)
 | m+1,k=>if(ay T g R k).2≠0 then([],(ay T g R k).2)else if((ay T g R k).1.cells.any λc=>c.name==s)=true then((ay T g R k).1.cells.map (uV k),0)else
   ((ay T g R k).1.cells.map (uV k)++(fB T g R s m (k+1)).1,(fB T g R s m (k+1)).2)
theorem Ow{l:List E}{s:Tm.cC}{p:Nat}(hp:p<l.length):((l.take (p+1)).any λc=>c.name==s)=(((l.take p).any λc=>c.name==s) || (l[p].name==s)):=by
 rw[jJ hp,Hr,wo,List.any_nil,acE]
section
variable{h : ad}{F : Nat -> Prop}{r e : OA}{T : TM}{g : G}{n : Int}{R : List Int}{s : Tm.cC}{K : Value -> ad -> Prop}
theorem HI(x:lG h F r e T)(hR:R.length=15)(sz:0<=R.getD 2 0/\R.getD 2 0<=8459264)
  (h1:(fB T g R s (R.getD 2 0/512).toNat 0).2≠0->∀h',Fr No h h'->K (.tuple #[vS none 0 0,vI (fB T g R s (R.getD 2 0/512).toNat 0).2]) h')
  (h0:(fB T g R s (R.getD 2 0/512).toNat 0).2=0->∀h' a c,Fr No h h'->Sl h' 3 a (fB T g R s (R.getD 2 0/512).toNat 0).1.length c ((fB T g R s (R.getD 2 0/512).toNat 0).1.flatMap E.v) (cW h.size)->
   K (.tuple #[vS a (fB T g R s (R.getD 2 0/512).toNat 0).1.length c,vI 0]) h') :
  C.iZ r g.v (ints R) (mkStr s) h K:=by
 obtain⟨m,em⟩:∃m:Nat,(R.getD 2 0/512).toNat=m:=⟨_,rfl⟩;have hm:m<=16522:=oX
 have ew:wI (Int.tdiv (R.getD 2 0) 512)=(m:Int):=by
  rw[nL oX,wrap_i64 oX oX];omega
 rw[em]at h1 h0;generalize hq:fB T g R s m 0=q at h1 h0;refine iZ.ok (aC.intro λh2 n2=>aC.intro λh3 n3=>?_);have z2:=n2.size;have z3:=n3.size;have F3:=n2.fr.new n3;have rg3:rd h3 h.size=g.v:=(n3.at_).trans n2.rd
 refine⟨λa l c i hh=>∃(k:Nat) (acc:List E),i=k/\k<=m/\Fr No h3 hh/\l=acc.length/\acc.length<=16*k/\Sl hh 3 a l c (acc.flatMap E.v) (cW h3.size)/\q=(acc++(fB T g R s (m-k) k).1,(fB T g R s (m-k) k).2),
  λ_ _ _ i _=>((m:Int)-i).toNat,⟨0,[],rfl,bN _,Fr.refl _ _,rfl,bN _,Sl.nil _ _ _,by rw[<-hq];rfl⟩,?_⟩
 rintro a l c i h4 ⟨k,acc,rfl,hk,f4,rfl,ha,s4,e4⟩;have z4:=f4.size;have F4:=F3.no f4;have rR4:rd h4 h2.size=ints R:=(f4.r0).trans n3.rd;have rg4:rd h4 h.size=g.v:=(f4.r0).trans rg3;refine⟨R.getD 2 0,aZ rR4 (iaT oX),?_⟩;rw[ew];refine cd (λbV=>?_) λTG=>?_
 rotate_left
 ·have:m-k=0:=oX;rw[this]at e4;have e4:q=(acc,0):=e4.trans (by show(acc++[],(0:Int))=_;rw[gi]);subst e4;exact h0 rfl h4 a c F4 (s4.mono λb hb=>by have hb:h3.size<=b:=hb;show h.size<=b;omega)
 obtain⟨m',V3⟩:∃m',m-k=m'+1:=⟨m-k-1,oX⟩;rw[V3]at e4;unfold fB at e4;have l16:(ay T g R k).1.cells.length<=16:=Di.CG _;refine⟨g.v,rfl,ah rg4,ints R,by rw[aj,hR],ah rR4,QH (x.no F4) hR oX (λhe h5 f5=>⟨_,_,_,_,rfl,cn (λ_=>?_) λy=>absurd y he⟩) λhe h5 a1 c1 f5 s5=>⟨_,_,_,_,rfl,cn (λy=>absurd rfl y) λ_=>?_⟩⟩
 ·rw[if_pos he]at e4;have e2:q.2=(ay T g R k).2:=by rw[e4]
  rw[e2]at h1;exact h1 he h5 (F4.no f5)
 rw[if_neg (λy=>y he)]at e4;generalize(ay T g R k).1.cells=cl at e4 s5 l16;have z5:=f5.size;refine⟨(cl.map (uV k)).flatMap E.v,SU _ _,s5.cells,oY _,cY (elem:=rV) ((Ou s4).fr f5 λ_ _ _ y=>y) (SU _ _) rfl (by show(acc.length+cl.length)*32<=_;omega) oX λa2 c2 h6 f6 s6=>?_⟩;have z6:=f6.size;have F56:Fr No h3 h6:=(f4.no f5).trans f6 λb hb y=>by have:=y.1;have this:h3.size<=b:=this;omega
 have F6:Fr No h h6:=F3.no F56
 have B6:ak h6 a1 ((cl.map (uV k)).flatMap E.v):=ak.fr f6 s5.cells λp ep y=>by
  subst ep;have:h4.size<=p.block:=s5.2.2.1;omega
 have s6':Sl h6 3 a2 (acc++cl.map (uV k)).length c2 ((acc++cl.map (uV k)).flatMap E.v) (cW h3.size):=by
  rw[bg,aP,iy]
  exact s6.mono λb hb=>by
   rcases hb with hb|hb
   ·exact hb.1
   ·show h3.size<=b;omega
 have la:(acc++cl.map (uV k)).length=acc.length+cl.length:=by rw[bg,aP]
 refine⟨λj hh=>∃p:Nat,j=p/\p<=cl.length/\Fr No h6 hh/\((cl.take p).any λc=>c.name==s)=false,λj _=>((cl.length:Int)-j).toNat,⟨0,rfl,bN _,Fr.refl _ _,rfl⟩,?_⟩;rintro j h7 ⟨p,rfl,hp,f7,np⟩;have z7:=f7.size;have s7:=s6'.fr f7 λ_ _ _ y=>y;refine cd (λbV=>?_) λTG=>?_
 ·have uY:p<cl.length:=oX;obtain⟨p1,ep,cp⟩:=pv (ak.fr f7 B6 λ_ _ y=>y) (j:=p) (by rw[aP];exact uY);rw[mu]at cp;refine⟨⟨oX,bV⟩,?_⟩;rw[ep,cA];refine os ⟨_,E.len _,cp,aF.intro (E.len _) (E.one _) rfl λh9 n9=>⟨_,aZ n9.rd rfl,?_⟩⟩;rw[toList_mkStr,toList_mkStr];have hx:=Ow (s:=s) uY;rw[np,Ho]at hx;refine cs (λheq=>?_) λfP=>?_
  ·have ha:(cl.any λc=>c.name==s)=true:=Fw.mpr ⟨_,ff uY,heq⟩;rw[if_pos ha]at e4;have s9:=s7.fr n9.fr λ_ _ _ y=>y;rw[<-la];subst e4;exact h0 rfl h9 a2 c2 ((F6.no f7).new n9) (s9.mono λb hb=>by have hb:h3.size<=b:=hb;show h.size<=b;omega)
  ·rw[wrap_i64 oX oX];exact⟨⟨p+1,oX,oX,f7.new n9,hx.trans fP⟩,bW bV⟩
 ·have:p=cl.length:=oX;subst this;rw[mZ]at np;rw[if_neg (by rw[np];decide)]at e4;rw[wrap_i64 oX oX,<-la];refine⟨⟨k+1,acc++cl.map (uV k),oX,oX,F56.no f7,rfl,oX,s7,?_⟩,bW bV⟩;rw[e4,show m-(k+1)=m' by omega,iW]
end
end Rq
namespace Rq
open Hp W Ad Tm Spc Re Av Ss
open Hd (ints)
open In (aj aO rG jT J6)
open Ino (getM yP cZ)
open Fi (bH iaT)
open Rx (lG yY)
open Sk (E cm)
open Di (aw wH mS kz ay aG cF gn gI findD lD mT uV pv oY rC cJ Ou)
def e0 : E:=⟨0,[],0⟩
def wL(T:TM)(g:G)(R:List Int)(s:Tm.cC):List E×Int:=fB T g R s (R.getD 2 0/512).toNat 0
def mA(T:TM)(g:G)(n:Int)(s:Tm.cC):E×Int:=
 if(aw T g n).2≠0 then(e0,(aw T g n).2)else if(wL T g (aw T g n).1 s).2≠0 then(e0,(wL T g (aw T g n).1 s).2)else
  match (wL T g (aw T g n).1 s).1.find? λc=>c.name==s with
  | some c=>(c,0)
  | none=>(e0,160)
def Yp(o:Option E):Int×Int:=match o with
 | some c=>(c.inode,0)
 | none=>(0,160)
theorem Ox(T:TM)(g:G)(R:List Int)(s:Tm.cC):∀m k,((match (gn T g R s m k).1 with
  | some x=>x.2.inode
  | none=>0),(gn T g R s m k).2)=if(fB T g R s m k).2≠0 then((0:Int),(fB T g R s m k).2)else Yp ((fB T g R s m k).1.find? λc=>c.name==s)
 | 0,k=>rfl
 | m+1,k=>by
  have ih:=Ox T g R s m (k+1);unfold gn fB
  by_cases he:(ay T g R k).2≠0
  ·rw[if_pos he,if_pos he,if_pos he]
  ·rw[if_neg he,if_neg he];have fm:(((ay T g R k).1.cells.map (uV k)).find? λc=>c.name==s)=(cJ (ay T g R k).1 s).map (uV k):=acy
   cases hc:cJ (ay T g R k).1 s with
   | some c=>
    have ha:((ay T g R k).1.cells.any λc=>c.name==s)=true:=by
     have hc:(ay T g R k).1.cells.find? (λc=>c.name==s)=some c:=hc;exact Fw.mpr ⟨c,SR hc,by have:=acz hc;exact this⟩
    rw[if_pos ha,if_neg (λy=>y rfl),fm,hc];rfl
   | none=>
    have ha:¬((ay T g R k).1.cells.any λc=>c.name==s)=true:=λy=>by
     have hc:(ay T g R k).1.cells.find? (λc=>c.name==s)=none:=hc;obtain⟨c,c1,c2⟩:=Fw.mp y;exact absurd c2 (acA.mp hc c c1)
    rw[if_neg ha]
    show((match (gn T g R s m (k+1)).1 with
     | some x=>x.2.inode
     | none=>0),(gn T g R s m (k+1)).2)=if(fB T g R s m (k+1)).2≠0 then((0:Int),(fB T g R s m (k+1)).2)else Yp ((((ay T g R k).1.cells.map (uV k))++(fB T g R s m (k+1)).1).find? λc=>c.name==s)
    rw[Hs,fm,hc,Vy,Ht];exact ih
theorem Yq{T:TM}{g:G}{s:Tm.cC}(hn:cm s=true):((mA T g n s).1.inode,(mA T g n s).2)=findD T g n s:=by
 unfold mA Di.findD Di.gI;rw[if_neg (show ¬cm s=false by rw[hn];decide)]
 by_cases he:(aw T g n).2≠0
 ·rw[if_pos he,if_pos he];rfl
 ·rw[if_neg he,if_neg he];have:=Ox T g (aw T g n).1 s ((aw T g n).1.getD 2 0/512).toNat 0;refine Eq.trans ?_ this.symm
  show _=if(wL T g (aw T g n).1 s).2≠0 then((0:Int),(wL T g (aw T g n).1 s).2)else Yp ((wL T g (aw T g n).1 s).1.find? λc=>c.name==s)
  split
  ·rfl
  ·cases(wL T g (aw T g n).1 s).1.find? λc=>c.name==s with
   | some c=>rfl
   | none=>rfl
theorem U0{T:TM}{g:G}{s:Tm.cC}(hn:cm s=false):findD T g n s=(0,1):=by
 unfold Di.findD Di.gI;rw[if_pos hn]
section
variable{h : ad}{F : Nat -> Prop}{r e : OA}{T : TM}{g : G}{n : Int}{R : List Int}{s : Tm.cC}{K : Value -> ad -> Prop}
theorem find_spec(x:lG h F r e T)(ok:yP g)
  (hK:∀h' R,Fr No h h'->R.length=15->((mA T g n s).2=0->R=(aw T g n).1)->K (.tuple #[.agg ⟨ints R⟩,.agg ⟨E.v (mA T g n s).1⟩,vI (mA T g n s).2]) h'):C.jg r g.v n (mkStr s) h K:=by
 refine jg.ok (aC.intro λh2 n2=>aC.intro λh3 n3=>aC.intro λh4 n4=>?_);have z2:=n2.size;have z3:=n3.size;have z4:=n4.size;have F4:Fr No h h4:=(n2.fr.new n3).new n4;have rg4:rd h4 h.size=g.v:=(n4.at_).trans ((n3.at_).trans n2.rd);have o24:dA h4 h2.size:=n4.ow n3.own;have o34:dA h4 h3.size:=n4.own;have l24:(rd h4 h2.size).length=15:=by rw[(n4.at_).trans n3.rd];rfl
 have l34:(rd h4 h3.size).length=3:=by rw[n4.rd];rfl
 refine⟨g.v,rfl,ah rg4,wy (x.no F4) ok λh5 R f5 hR eR=>⟨_,_,rfl,aF.intro (by rw[aj,hR]) (aO _) rfl λh7 n7=>?_⟩⟩;have z5:=f5.size;have z7:=n7.size;have f7:Fr No h4 h7:=f5.new n7;have F7:Fr No h h7:=F4.no f7;have lR:(ints R).length=15:=by rw[aj,hR]
 have p1:∀{h':ad} {k:HP},Fr No h4 h'->(∀h8,Fr No h h8->h'.size<=h8.size->rd h8 h2.size=ints R->dA h8 h3.size->(rd h8 h3.size).length=3->(∀b,b<h'.size->b≠h2.size->rd h8 b=rd h' b)->k h8)->az (bA h2) (ints R) 15 h' k:=fun {h' k} f hk=>by
  have:=f.size;have l2':(rd h' h2.size).length=15:=by rw[f.rd oX λy=>y];exact l24
  refine az.intro (f.own oX (λy=>y) o24) lR (aO _) oX λh8 d8=>hk h8 ((F4.no f).did d8 λy=>oX) d8.fr.size ?_ (d8.ow (f.own oX (λy=>y) o34)) ?_ λb hb hn=>d8.at_ hb hn
  ·rw[d8.rd];exact fu _ _ (by rw[lR,l2'])
  ·rw[d8.at_,f.rd oX λy=>y];exact l34
 have p2:∀{h8:ad} {c:E} {er:Int},Fr No h h8->h4.size<=h8.size->rd h8 h2.size=ints R->dA h8 h3.size->(rd h8 h3.size).length=3->(∀h9,Fr No h h9->K (.tuple #[.agg ⟨ints R⟩,.agg ⟨E.v c⟩,vI er]) h9)->
   az (bA h3) (E.v c) 3 h8 λh9=>∃dq:LV,List.length dq=15/\ai h9 (bA h2) dq/\∃fV:LV,List.length fV=3/\ai h9 (bA h3) fV/\K (.tuple #[.agg ⟨dq⟩,.agg ⟨fV⟩,vI er]) h9:=fun {h8 c er} f hs r2 o3 l3 hk=>by
  refine az.intro o3 (E.len _) (E.one _) oX λh9 d9=>⟨ints R,lR,ah ((d9.at_).trans r2),E.v c,E.len _,ah ?_,hk h9 (f.did d9 λy=>oX)⟩;rw[d9.rd];exact fu _ _ (by rw[l3];rfl)
 have e1:mA T g n s=if(aw T g n).2≠0 then(e0,(aw T g n).2)else if(wL T g (aw T g n).1 s).2≠0 then(e0,(wL T g (aw T g n).1 s).2)else match (wL T g (aw T g n).1 s).1.find? λc=>c.name==s with
  | some c=>(c,0)
  | none=>(e0,160):=rfl
 refine cn (λhe=>⟨ints R,lR,ah n7.rd,p1 f7 λh8 f8 s8 r8 o8 l8 _=>p2 (c:=e0) f8 oX r8 o8 l8 λh9 f9=>?_⟩) λhe=>?_
 ·rw[if_pos he]at e1;rw[e1]at hK;exact hK h9 R f9 hR λy=>absurd y he
 rw[if_neg (λy=>y he)]at e1;have eR:=eR he;have sz:=kz he;rw[<-eR]at sz e1;rw[<-eR]at hK;have rg7:rd h7 h.size=g.v:=(f7.r0).trans rg4;refine⟨g.v,rfl,ah rg7,ints R,lR,ah n7.rd,HI (x.no F7) hR sz (λhe bG f10=>⟨_,_,_,_,rfl,cn (λ_=>?_) λy=>absurd y he⟩) λha bG a c f10 Pu=>⟨_,_,_,_,rfl,cn (λy=>absurd rfl y) λ_=>?_⟩⟩
 ·refine⟨ints R,lR,ah ((f10.r0).trans n7.rd),p1 (f7.no f10) λh8 f8 s8 r8 o8 l8 _=>p2 (c:=e0) f8 (by have:=f10.size;omega) r8 o8 l8 λh9 f9=>?_⟩;rw[if_pos (show(wL T g R s).2≠0 from he)]at e1;rw[e1]at hK;exact hK h9 R f9 hR λy=>absurd y he
 rw[if_neg (show ¬(wL T g R s).2≠0 from λy=>y ha)]at e1
 have ll:(fB T g R s (R.getD 2 0/512).toNat 0).1.length<=1000000:=by
  have hb:∀m k,(fB T g R s m k).1.length<=16*m:=λm=>by
   induction m with
   | zero=>intro k;exact bN _
   | succ m ih=>
    intro k;have l16:(ay T g R k).1.cells.length<=16:=Di.CG _;have:=ih (k+1);unfold fB
    split
    ·exact bN _
    ·split
     ·show(List.map _ _).length<=_;rw[aP];omega
     ·show(List.map (uV k) (ay T g R k).1.cells++(fB T g R s m (k+1)).1).length<=_;rw[bg,aP];omega
  have:=hb (R.getD 2 0/512).toNat 0;omega
 have ea:(wL T g R s).1=(fB T g R s (R.getD 2 0/512).toNat 0).1:=rfl;rw[ea]at e1;generalize(fB T g R s (R.getD 2 0/512).toNat 0).1=es at e1 Pu ll;have Vu:=f10.size;refine⟨λj hh=>∃p:Nat,j=p/\p<=es.length/\Fr No bG hh/\(es.take p).find? (λc=>c.name==s)=none,λj _=>((es.length:Int)-j).toNat,⟨0,rfl,bN _,Fr.refl _ _,rfl⟩,?_⟩;rintro j bQ ⟨p,rfl,hp,f13,np⟩;have Vp:=f13.size;have ajf:Fr No h4 bQ:=(f7.no f10).no f13;refine cd (λbV=>?_) λTG=>?_
 ·have uY:p<es.length:=oX;obtain⟨p1',ep,cp⟩:=pv (ak.fr f13 Pu.cells λ_ _ y=>y) uY;refine⟨⟨oX,bV⟩,?_⟩;rw[ep,cA];refine os ⟨_,E.len _,cp,aF.intro (E.len _) (E.one _) rfl λfN n15=>⟨_,aZ n15.rd rfl,?_⟩⟩;rw[toList_mkStr,toList_mkStr];have z15':=n15.size;refine cs (λheq=>?_) λfP=>?_
  ·have hf:=Di.LO (p:=λc:E=>c.name==s) uY np heq;rw[hf]at e1;refine⟨ints R,lR,ah ((n15.at_).trans (((f10.no f13).r0).trans n7.rd)),E.v es[p],E.len _,ah n15.rd,p1 (ajf.new n15) λgN f16 s16 Z3 o16 l16 at16=>⟨⟨E.len _,ah ((at16 _ oX oX).trans n15.rd)⟩,p2 f16 oX Z3 o16 l16 λgO f17=>?_⟩⟩;rw[e1]at hK;exact hK gO R f17 hR λ_=>rfl
  ·rw[wrap_i64 oX oX];refine⟨⟨p+1,oX,oX,f13.new n15,?_⟩,bW bV⟩;rw[jJ uY,Hs,np,Ht,List.find?_cons_of_neg (by rw[fP];decide)];rfl
 ·have:p=es.length:=oX;subst this;rw[mZ]at np;rw[np]at e1;refine⟨ints R,lR,ah (((f10.no f13).r0).trans n7.rd),p1 ajf λh8 f8 s8 r8 o8 l8 _=>p2 (c:=e0) f8 oX r8 o8 l8 λh9 f9=>?_⟩;rw[e1]at hK;exact hK h9 R f9 hR λ_=>rfl
theorem qy(x:lG h F r e T)(ok:yP g)(hK:∀ h',Fr No h h'->K (.tuple #[vI (findD T g n s).1,vI (findD T g n s).2]) h'):C.kB r g.v n (mkStr s) h K:=by
 refine kB.ok (aC.intro λh2 n2=>oZ ⟨_,rfl,?_⟩);have z2:=n2.size
 cases hn:cm s with
 | false=>
  rw[U0 hn]at hK;exact ct rfl (hK h2 n2.fr)
 | true=>
  refine cf rfl ⟨g.v,rfl,ah n2.rd,find_spec (x.no n2.fr) ok λh4 R f4 hR _=>⟨_,_,_,rfl,aC.intro λh5 n5=>aC.intro λh6 n6=>?_⟩⟩;have z5:=n5.size;have z6:=n6.size;have eq:=Yq (T:=T) (g:=g) (n:=n) hn;rw[<-eq]at hK;refine az.intro (n6.ow n5.own) (by rw[aj,hR]) (aO _) (by rw[(n6.at_).trans n5.rd];decide) λh7 d7=>az.intro (d7.ow n6.own) (E.len _) (E.one _) (by rw[d7.at_,n6.rd];decide) λh8 d8=>⟨_,aZ (xs:=E.v (mA T g n s).1) (by rw[d8.rd];exact fu _ _ (by rw[d7.at_,n6.rd];rfl)) rfl,?_⟩;exact hK h8 ((((n2.fr.no f4).new n5).new n6).did d7 (λy=>by have:=f4.size;omega) |>.did d8 λy=>by have:=f4.size;omega)
end
end Rq
namespace Rq
open Hp W Ad Tm Spc Re Av Ss
open Hd (ints)
open In (aj aO)
open Ino (getM yP cZ)
open Fi (iaT)
open Rx (lG)
open Sk (E cm)
open Di (aw mS kz ay aG cF ki lD mT uV pv oY Kj Kk Bj xr YX sortE ql DC CF Hy Sy LM CD sJ)
open Go.Op (bytesLess)
def py(c x:E):Bool:=bytesLess x.name c.name || (x.name==c.name)
def Bp(c:E):List E->List E
 | []=>[c]
 | x::r=>if py c x=true then x::Bp c r else c::x::r
def rE : List E->List E->List E
 | [],out=>out
 | c::r,out=>rE r (Bp c out)
theorem wM(c:E):∀l,(Bp c l).Perm (c::l)
 | []=>.refl _
 | x::r=>by
  unfold Bp
  split
  ·exact((wM c r).cons x).trans (.swap c x r)
  ·exact .refl _
theorem Oy(c:E)(l:List E):(Bp c l).length=l.length+1:=by rw[(wM c l).length_eq];rfl
theorem aaL{c x:E}(h:x.place<c.place):py c x=true->Bj c x=false:=λy=>by
 cases z:Bj c x with
 | false=>rfl
 | true=>
  exfalso;unfold py at y;rw[BM,beq_iff_eq]at y
  rcases xr.mp z with w|⟨w1,w2⟩
  ·rcases y with y|y
   ·rw[Sy y]at w;cases w
   ·rw[y,Hy]at w;cases w
  ·omega
theorem aaM{c x:E}(h:¬ py c x=true):Bj c x=true:=by
 unfold py at h;rw[BM,beq_iff_eq]at h;refine xr.mpr (.inl ?_)
 cases z:bytesLess c.name x.name with
 | true=>rfl
 | false=>exact absurd (LM (by cases q:bytesLess x.name c.name with|false=>rfl|true=>exact absurd (.inl q) h) z) λy=>h (.inr y)
theorem Ey{c:E}:∀{l:List E},l.Pairwise YX->(∀x∈l,x.place<c.place)->(Bp c l).Pairwise YX
 | [],_,_=>List.pairwise_singleton _ _
 | x::r,h,n=>by
  have⟨h1,h2⟩:=Ao.mp h;unfold Bp
  by_cases q:py c x=true
  ·rw[if_pos q];refine Ao.mpr ⟨λy hy=>?_,Ey h2 λy hy=>n y (gV _ hy)⟩
   rcases fO.mp ((wM c r).mem_iff.mp hy)with rfl|hy
   ·exact aaL (n x (kj ..)) q
   ·exact h1 y hy
  ·rw[if_neg q];refine Ao.mpr ⟨λy hy=>?_,h⟩;have cx:=aaM q;show Bj y c=false
   cases z:Bj y c with
   | false=>rfl
   | true=>
    rcases fO.mp hy with rfl|hy
    ·have:=Di.uk cx z;rw[Di.LN]at this;cases this
    ·have:=Di.uk z cx;rw[show Bj y x=false from h1 y hy]at this;cases this
theorem Ez : ∀(l out:List E),(rE l out).Perm (l++out)
 | [],out=>.refl _
 | c::r,out=>(Ez r (Bp c out)).trans (((wM c out).append_left r).trans List.perm_middle)
theorem As : ∀(l out:List E),CF l->out.Pairwise YX->(∀x∈out,∀c∈l,x.place<c.place)->(rE l out).Pairwise YX
 | [],out,_,h,_=>h
 | c::r,out,u,h,n=>by
  have⟨u1,u2⟩:=Ao.mp u;refine As r (Bp c out) u2 (Ey h λx hx=>n x hx c (kj ..)) λx hx d hd=>?_
  rcases fO.mp ((wM c out).mem_iff.mp hx)with rfl|hx
  ·exact u1 d hd
  ·exact n x hx d (gV _ hd)
theorem U1{l:List E}(u:CF l):rE l []=sortE l:=
 DC u (by have:=Ez l [];rw[gi]at this;exact this) (As l [] u .nil λx hx=>by cases hx)
theorem DM{c:E}:∀{k:Nat} {out:List E},k<=out.length->(∀j (hj:j<out.length),j<k->py c out[j]=true)->(∀hj:k<out.length,py c out[k]=false)->Bp c out=out.take k++c::out.drop k
 | 0,[],_,_,_=>rfl
 | 0,x::r,_,_,h=>by
  have:=h (Yl _);unfold Bp;rw[if_neg (by rw[show py c x=false from this];decide)];rfl
 | k+1,[],hk,_,_=>absurd hk (Nat.not_succ_le_zero _)
 | k+1,x::r,hk,h1,h2=>by
  have h0:=h1 0 (Yl _) (Yl _);have ih:=DM (c:=c) (k:=k) (out:=r) (Nat.le_of_succ_le_succ hk) (λj hj bV=>h1 (j+1) (Ym hj) (Ym bV)) λhj=>h2 (Ym hj);unfold Bp;rw[if_pos (show py c x=true from h0),ih];rfl
theorem Yr(bs:LB):∀e∈(sR bs).1,e.name≠[]:=by
 unfold sR
 split
 ·intro e he;cases he
 ·rename_i hl
  cases hd:Sk.dec 16 bs with
  | none=>intro e he;cases he
  | some hs=>
   intro e he;obtain⟨_,_,x,hx,x0,en,_⟩:=Sk.uR hs 0 e he
   rcases(Sk.Cz (n:=16) (b:=bs) (by have:¬bs.length≠512:=hl;omega) hd).2.1 x hx with⟨y,_⟩|⟨_,_,y⟩
   ·exact absurd y x0
   ·intro z;rw[<-en,z]at y
    cases y
theorem Bq(T:TM)(g:G)(R:List Int):∀m k,fB T g R [] m k=(mT (aG T g R m k).1,(aG T g R m k).2)
 | 0,k=>rfl
 | m+1,k=>by
  have ih:=Bq T g R m (k+1);unfold fB aG
  by_cases he:(ay T g R k).2≠0
  ·rw[if_pos he,if_pos he];rfl
  ·rw[if_neg he,if_neg he]
   have ha:¬((ay T g R k).1.cells.any λc=>c.name == [])=true:=λy=>by
    obtain⟨c,c1,c2⟩:=Fw.mp y;exact Yr _ c c1 (eq_of_beq c2)
   rw[if_neg ha,ih,sJ]
theorem QI(T:TM)(g:G)(R:List Int):∀m k,(mT (aG T g R m k).1).length<=16*m
 | 0,_=>bN _
 | m+1,k=>by
  have l16:(ay T g R k).1.cells.length<=16:=Di.CG _;have:=QI T g R m (k+1);unfold Di.aG
  split
  ·exact bN _
  ·rw[sJ,bg,aP];omega
theorem U2(T:TM)(g:G)(n:Int):(lD T g n).1.length<=1000000:=by
 unfold Di.lD
 split
 ·exact bN _
 ·rename_i h
  split
  ·exact bN _
  ·have sz:=kz (rB h);have:=QI T g (aw T g n).1 ((aw T g n).1.getD 2 0/512).toNat 0;show(sortE (mT (aG T g (aw T g n).1 ((aw T g n).1.getD 2 0/512).toNat 0).1)).length<=_;rw[(ql _).length_eq];omega
section
variable{h : ad}{F : Nat -> Prop}{r e : OA}{T : TM}{g : G}{n : Int}{K : Value -> ad -> Prop}
theorem U3{L:Nat}{l:List E}(hl:l.length=L)(hm:L<=1000000)(Z:ak h6 a (l.flatMap E.v))
  (hK:∀h' oa oc,Fr No h6 h'->Sl h' 3 oa (rE l []).length oc ((rE l []).flatMap E.v) (cW h6.size)->K (.tuple #[vS oa (rE l []).length oc,vI 0]) h') :
  ∃(I1:OA->Nat->Nat->Int->ad->Prop) (M1:OA->Nat->Nat->Int->ad->Nat),I1 none 0 0 0 h6/\
   ∀(pK:OA) (oC:Nat) (rK:Nat) (n4:Int),∀h7:ad,I1 pK oC rK n4 h7->
   bif(decide (n4<(L:Int)))then(
   (0<=n4/\n4<(L:Int))/\
   ae a λp1=>
   ∃pI:LV,List.length pI=3/\ai h7 (Addr.add p1 ((Int.toNat n4)*3)) pI/\
   aF z79 79 pI 3 h7 λh9=>
   ∃(I2:IP) (M2:IM),I2 0 h9/\
   ∀(fU:Int),∀bG:ad,I2 fU bG->
   bif(decide (fU<(oC:Int)))then(
   (0<=fU/\fU<(oC:Int))/\
   ae pK λp2=>
   ∃(s1:ByteArray),cellOf bG (Addr.add (Addr.add p2 ((Int.toNat fU)*3)) 1)=some (.string s1)/\
   ∃(s2:ByteArray),cellOf bG (Addr.add (bA h7) 1)=some (.string s2)/\
   bif((Op.bytesLess s1.toList s2.toList) || (s1.toList==s2.toList))then(
   I2 (wI (fU+1)) bG/\M2 (wI (fU+1)) bG<M2 fU bG)else(
   di.k1 pK oC rK n4 h7 I1 M1 fU bG K))else(
   di.k1 pK oC rK n4 h7 I1 M1 fU bG K))else(
   K (.tuple #[vS pK oC rK,vI 0]) h7):=by
 refine⟨λoa ol oc j hh=>∃(p:Nat) (out:List E),j=p/\p<=L/\Fr No h6 hh/\ol=out.length/\out.length<=p/\Sl hh 3 oa ol oc (out.flatMap E.v) (cW h6.size)/\rE l []=rE (l.drop p) out,λ_ _ _ j _=>((L:Int)-j).toNat,⟨0,[],rfl,bN _,Fr.refl _ _,rfl,bN _,Sl.nil _ _ _,rfl⟩,?_⟩;rintro oa ol oc j h2 ⟨p,out,rfl,hp,f2,rfl,ho,s2,e⟩;have z2:=f2.size;refine cd (λbV=>?_) λbV=>?_
 rotate_left
 ·have:p=L:=oX;rw[qY oX]at e;have e:rE l []=out:=e;rw[e]at hK;exact hK h2 oa oc f2 s2
 have vJ:p<l.length:=oX;obtain⟨a0,ea,ca⟩:=pv (ak.fr f2 Z λ_ _ y=>y) vJ;subst ea;rw[lh vJ]at e;have e:rE l []=rE (l.drop (p+1)) (Bp l[p] out):=e;rw[cA];refine⟨⟨oX,bV⟩,os ⟨_,E.len _,ca,aF.intro (E.len _) (E.one _) rfl λh4 n4=>?_⟩⟩;have z4:=n4.size;generalize l[p]=cell at e n4;have s4:Sl h4 3 oa out.length oc (out.flatMap E.v) (cW h6.size):=s2.fr n4.fr λ_ _ _ y=>y
 -- the entry is put in
 have K1:∀(k:Nat),k<=out.length->Bp cell out=out.take k++cell::out.drop k->di.k1 oa out.length oc (p:Int) h2 (λoa ol oc j hh=>∃(p:Nat) (out:List E),j=p/\p<=L/\Fr No h6 hh/\ol=out.length/\out.length<=p/\Sl hh 3 oa ol oc (out.flatMap E.v) (cW h6.size)/\rE l []=rE (l.drop p) out) (λ_ _ _ j _=>((L:Int)-j).toNat) (k:Int) h4 K:=by
  intro k hk ei;have hco:=s4.le;have lt:((out.take k).flatMap E.v).length=k*3:=by rw[bq E.v 3 _ (λx _=>E.len x),dL,xL hk]
  unfold di.k1;rw[cA];refine⟨⟨oX,oX⟩,(out.take k).flatMap E.v,lt,?_,oY _,?_⟩
  ·rw[Kj];exact ak.take s4.cells _
  refine cY (elem:=rV) (F:=cW h4.size) (xs:=[]) (Sl.nil _ _ _) lt rfl (by show(0+k)*32<=_;omega) oX λa7 c7 h7 f7 s7=>?_;have z7:=f7.size;rw[List.nil_append]at s7;have s7:Sl h7 3 a7 (0+k) c7 ((out.take k).flatMap E.v) (cW h4.size):=s7.mono λb hb=>hb.elim id id;have f47:Fr No h4 h7:=f7.mono λb hb y=>by have y:h4.size<=b:=y;omega
  have r7:rd h7 h2.size=E.v cell:=(f47.r0).trans n4.rd;refine⟨E.v cell,E.len _,ah r7,E.len _,aC.intro λh8 n8=>⟨E.v cell,E.len _,ah n8.rd,E.one _,?_⟩⟩;have z8:=n8.size;refine cY (elem:=rV) (s7.fr n8.fr λ_ _ _ y=>y) (E.len _) rfl (by show(0+k+1)*32<=_;omega) oX λa9 c9 h9 f9 s9=>?_;have z9:=f9.size;have s9:Sl h9 3 a9 (0+k+1) c9 ((out.take k).flatMap E.v++E.v cell) (cW h4.size):=s9.mono λb hb=>hb.elim id λy=>by show h4.size<=b;omega
  have f49:Fr No h4 h9:=(f47.new n8).trans f9 λb hb y=>by have y:h4.size<=b:=y;omega
  have ld:((out.drop k).flatMap E.v).length=(out.length-k)*3:=by rw[bq E.v 3 _ (λx _=>E.len x),jM]
  refine⟨⟨oX,oX⟩,(out.drop k).flatMap E.v,ld,?_,oY _,?_⟩
  ·have s49:ak h9 oa (out.flatMap E.v):=ak.fr f49 s4.cells λ_ _ y=>y;rw[Kk _ _ hk]
   by_cases hc:oc=k
   ·rw[if_pos hc];have:(out.flatMap E.v).drop (k*3)=[]:=qY (by rw[bq E.v 3 _ (λx _=>E.len x)];omega);rw[this]
    cases oa with
    | none=>rfl
    | some q=>exact ai.nil _ _
   ·rw[if_neg hc];exact ak.drop s49 _
  refine cY (elem:=rV) s9 ld rfl (by show(0+k+1+(out.length-k))*32<=_;omega) oX λa10 c10 bG f10 Pu=>?_;have Vu:=f10.size;rw[wrap_i64 oX oX];refine⟨⟨p+1,Bp cell out,oX,oX,((f2.new n4).no f49).trans f10 λb hb y=>by have y:h4.size<=b:=y;omega,by rw[Oy];omega,by rw[Oy];omega,?_,e⟩,bW bV⟩;rw[ei,iy,qO,<-iW];exact Pu.mono λb hb=>hb.elim (λy=>by have y:h4.size<=b:=y;show h6.size<=b;omega) λy=>by show h6.size<=b;omega
 refine⟨λk hh=>∃q:Nat,k=q/\q<=out.length/\hh=h4/\∀j (hj:j<out.length),j<q->py cell out[j]=true,λk _=>((out.length:Int)-k).toNat,⟨0,rfl,bN _,rfl,λj _ y=>absurd y (wm _)⟩,?_⟩;rintro k _ ⟨q,rfl,hq,rfl,less⟩;refine cd (λhk=>?_) λhk=>?_
 ·have wO:q<out.length:=oX;obtain⟨b0,eb,cb⟩:=pv s4.cells wO;subst eb;refine⟨⟨oX,hk⟩,os ⟨_,ai.cell cb (i:=1) rfl,_,aZ n4.rd rfl,?_⟩⟩;rw[toList_mkStr,toList_mkStr];refine cs (λhb=>?_) λhb=>?_
  ·rw[wrap_i64 oX oX];refine⟨⟨q+1,oX,oX,rfl,λj hj DK=>?_⟩,bW hk⟩
   rcases rI j q with h|h
   ·exact less j hj h
   ·have:j=q:=oX;subst this;exact hb
  ·exact K1 q hq (DM hq (λj hj DK=>less j hj DK) λhj=>hb)
 ·have:q=out.length:=oX;subst this;exact K1 _ (bE _) (DM (bE _) (λj hj DK=>less j hj DK) λhj=>absurd hj (Nat.lt_irrefl _))
theorem um(x:lG h F r e T)(ok:yP g)
  (hK:∀h' a l c,Fr No h h'->l=(lD T g n).1.length->Sl h' 3 a l c ((lD T g n).1.flatMap E.v) (cW h.size)->K (.tuple #[vS a l c,vI (lD T g n).2]) h'):C.di r g.v n h K:=by
 refine di.ok (aC.intro λh2 n2=>⟨g.v,rfl,ah n2.rd,wy (x.no n2.fr) ok λh3 R f3 hR eR=>⟨_,_,rfl,aF.intro (by rw[aj,hR]) (aO _) rfl λh5 n5=>?_⟩⟩);have z2:=n2.size;have z3:=f3.size;have z5:=n5.size;have F5:Fr No h h5:=(n2.fr.no f3).new n5;unfold Di.lD at hK;refine cn (λhe=>?_) λhe=>?_
 ·rw[if_pos he]at hK;exact hK h5 none 0 0 F5 rfl (Sl.nil _ _ _)
 rw[if_neg (λy=>y he)]at hK;have eR:=eR he;have sz:=kz he;rw[<-eR]at sz hK;have rg5:rd h5 h.size=g.v:=(n5.at_).trans ((f3.r0).trans n2.rd);have al:=Bq T g R (R.getD 2 0/512).toNat 0;have N3:=(ki T g R (R.getD 2 0/512).toNat 0).1;have e1:(fB T g R [] (R.getD 2 0/512).toNat 0).1=mT (cF T g R).1:=by rw[al];rfl
 have e2:(fB T g R [] (R.getD 2 0/512).toNat 0).2=(cF T g R).2:=by rw[al];rfl
 have N3:CF (mT (cF T g R).1):=N3
 have ll:(mT (cF T g R).1).length<=1000000:=by
  have:=QI T g R (R.getD 2 0/512).toNat 0;show(mT (aG T g R (R.getD 2 0/512).toNat 0).1).length<=_;omega
 refine⟨g.v,rfl,ah rg5,ints R,by rw[aj,hR],ah n5.rd,HI (s:=[]) (x.no F5) hR sz (λha h6 f6=>⟨_,_,_,_,rfl,cn (λ_=>?_) λy=>absurd y ha⟩) λha h6 a c f6 s6=>⟨_,_,_,_,rfl,cn (λy=>absurd rfl y) λ_=>?_⟩⟩
 ·rw[e2]at ha ⊢;rw[if_pos ha]at hK;exact hK h6 none 0 0 (F5.no f6) rfl (Sl.nil _ _ _)
 rw[e2]at ha;rw[if_neg (λy=>y ha)]at hK;rw[e1]at s6 ⊢;have z6:=f6.size;refine U3 rfl ll s6.cells λh' oa oc f s=>?_;rw[U1 N3]at s ⊢;exact hK h' oa _ oc ((F5.no f6).no f) rfl (s.mono λb hb=>by have hb:h6.size<=b:=hb;show h.size<=b;omega)
end
end Rq
namespace Rq
open Hp W Ad Tm Spc Re Av Ss
open Hd (ints)
open In (aj aO)
open Ino (getM yP cZ)
open Bm (bT)
open Fi (bH iaT)
open Rx (lG)
open Sk (E cm)
open Di (aw lD ay uV)
def lU(T:TM)(block:Int)(c:E):TM×Int:=
 if(T.read block).2≠0 then(T,(T.read block).2)else T.write block (if c.inode=0 then(rH (T.read block).1 (Int.tmod c.place 16)).2 else(gP (T.read block).1 ⟨Int.tmod c.place 16,c.name,c.inode⟩).2)
def vD(T:TM)(g:G)(n:Int)(s:Tm.cC)(i:Int):TM×Int×Int:=
 if(mA T g n s).2≠0 then(T,0,(mA T g n s).2)else
 if(bT T g (aw T g n).1 (Int.tdiv (mA T g n s).1.place 16)).2≠0 then(T,0,(bT T g (aw T g n).1 (Int.tdiv (mA T g n s).1.place 16)).2)else
 if(lU T (bT T g (aw T g n).1 (Int.tdiv (mA T g n s).1.place 16)).1 ⟨(mA T g n s).1.place,s,i⟩).2≠0 then
  ((lU T (bT T g (aw T g n).1 (Int.tdiv (mA T g n s).1.place 16)).1 ⟨(mA T g n s).1.place,s,i⟩).1,0,(lU T (bT T g (aw T g n).1 (Int.tdiv (mA T g n s).1.place 16)).1 ⟨(mA T g n s).1.place,s,i⟩).2)else
 ((lU T (bT T g (aw T g n).1 (Int.tdiv (mA T g n s).1.place 16)).1 ⟨(mA T g n s).1.place,s,i⟩).1,(mA T g n s).1.inode,0)
section
variable{h : ad}{F : Nat -> Prop}{r e : OA}{T : TM}{g : G}{n : Int}{s : Tm.cC}{i : Int}{K : Value -> ad -> Prop}
theorem QJ(x:lG h F r e T)(ok:yP g)(hK:∀ h',Fr No h h'->K (.tuple #[vI (lD T g n).1.length,vI (lD T g n).2]) h'):C.kC r g.v n h K:=by
 refine kC.ok (aC.intro λh2 n2=>⟨g.v,rfl,ah n2.rd,um (x.no n2.fr) ok λh3 a l c f3 hl _=>⟨_,_,_,_,rfl,?_⟩⟩);subst hl;exact hK h3 (n2.fr.no f3)
theorem Ys{e:E}(s:Sl h 1 a l c (bs.map bv) F)(hl:l=512)
  (hK:∀h' m,Fr F h h'->Sl h' 1 a l c ((gP bs e).2.map bv) F->K (vI m) h'):C.gU a l c (E.v e) h K:=by
 cases a with
 | none=>have:l=0:=s.2.1;omega
 | some p=>
  obtain⟨b,o,sp⟩:=p;have es:sp=none:=s.2.1;subst es;have hF:F b:=s.2.2.1;exact N' s λh' d'=>hK h' _ (d'.fr.mono λx _ e=>e▸hF) (Sl.all s (vA bs e) d')
theorem QK{k:Int}(s:Sl h 1 a l c (bs.map bv) F)(hl:l=512)
  (hK:∀h' m,Fr F h h'->Sl h' 1 a l c ((rH bs k).2.map bv) F->K (vI m) h'):C.iF a l c k h K:=by
 cases a with
 | none=>have:l=0:=s.2.1;omega
 | some p=>
  obtain⟨b,o,sp⟩:=p;have es:sp=none:=s.2.1;subst es;have hF:F b:=s.2.2.1;exact ID s λh' d'=>hK h' _ (d'.fr.mono λx _ e=>e▸hF) (Sl.all s (Es bs k) d')
theorem Oz{block:Int}{c:E}(x:lG h F r e T)(hu:T.aD.length<1000000000)
  (hK:∀h' F',Fr F h h'->Gw h F h' F'->lG h' F' r e (lU T block c).1->K (vI (lU T block c).2) h'):C.j6 r block (E.v c) h K:=by
 have vv:=λb (hb:F b)=>x.lt hb;unfold lU at hK;refine j6.ok (aC.intro λh2 n2=>Rx.dv (x.no n2.fr) λa l cc h3 f3 hl s3=>⟨_,_,_,_,rfl,?_⟩);have z2:=n2.size;have z3:=f3.size;have F3:Fr No h h3:=n2.fr.no f3;have r3:rd h3 h.size=E.v c:=(f3.r0).trans n2.rd;refine cn (λhe=>?_) λhe=>⟨_,aZ r3 rfl,ce (λhi=>⟨_,aZ r3 rfl,?_⟩) λhi=>⟨_,aZ r3 rfl,_,aZ r3 rfl,_,aZ r3 rfl,?_⟩⟩
 ·rw[if_pos he]at hK;exact hK h3 F (F3.mono λ_ _ y=>y.elim) (Gw.refl F3.size vv) (x.no F3)
 all_goals
  rw[if_neg (λy=>y he)]at hK;have IB:l=512:=hl.trans (x.lv he)
 ·rw[if_pos hi]at hK;refine QK s3 IB λh4 m f4 s4=>⟨_,rfl,?_⟩;have z4:=f4.size;have F4:Fr No h h4:=F3.trans f4 λb hb y=>by have y:h2.size<=b:=y;omega
  refine Rx.qC (x.no F4) s4.str hu λh5 F5 f5 g5 x5=>⟨_,rfl,hK h5 F5 ((F4.mono λ_ _ y=>y.elim).trans f5 λb _ y=>y) ((Gw.refl F4.size vv).trans g5 F4.size) x5⟩
 ·rw[if_neg hi]at hK;refine Ys (e:=⟨Int.tmod c.place 16,c.name,c.inode⟩) s3 IB λh4 m f4 s4=>⟨_,rfl,?_⟩;have z4:=f4.size;have F4:Fr No h h4:=F3.trans f4 λb hb y=>by have y:h2.size<=b:=y;omega
  refine Rx.qC (x.no F4) s4.str hu λh5 F5 f5 g5 x5=>⟨_,rfl,hK h5 F5 ((F4.mono λ_ _ y=>y.elim).trans f5 λb _ y=>y) ((Gw.refl F4.size vv).trans g5 F4.size) x5⟩
theorem SX(T:TM)(g:G)(R:List Int)(s:Tm.cC):∀m k,∀c∈(fB T g R s m k).1,16*(k:Int)<=c.place/\c.place<16*((k+m:Nat):Int)
 | 0,k,c,h=>by cases h
 | m+1,k,c,h=>by
  have key:∀c∈(ay T g R k).1.cells.map (uV k),16*(k:Int)<=c.place/\c.place<16*(k:Int)+16:=λc hc=>by
   obtain⟨d,hd,rfl⟩:=List.mem_map.mp hc;have:=(Di.rC _).2 d hd;show 16*(k:Int)<=d.place+16*(k:Int)/\d.place+16*(k:Int)<_;omega
  unfold fB at h
  split at h
  ·cases h
  ·split at h
   ·have:=key c h;omega
   ·rcases List.mem_append.mp h with h|h
    ·have:=key c h;omega
    ·have:=SX T g R s m (k+1) c h;omega
theorem Yt(h0:(mA T g n s).2=0):0<=(mA T g n s).1.place/\(mA T g n s).1.place<264352:=by
 unfold mA at h0 ⊢
 by_cases he:(aw T g n).2≠0
 ·rw[if_pos he]at h0;exact absurd h0 he
 rw[if_neg he]at h0 ⊢;have sz:=Di.kz (rB he)
 by_cases ha:(wL T g (aw T g n).1 s).2≠0
 ·rw[if_pos ha]at h0;exact absurd h0 ha
 rw[if_neg ha]at h0 ⊢
 cases hc:(wL T g (aw T g n).1 s).1.find? λc=>c.name==s with
 | none=>rw[hc]at h0;exact absurd (show(160:Int)=0 from h0) dX
 | some c=>
  have:=SX T g (aw T g n).1 s ((aw T g n).1.getD 2 0/512).toNat 0 c (SR hc);show 0<=c.place/\c.place<264352;omega
theorem EA(x:lG h F r e T)(ok:yP g)(hu:T.aD.length<1000000000)
  (hK:∀h' F',Fr F h h'->Gw h F h' F'->lG h' F' r e (vD T g n s i).1->K (.tuple #[vI (vD T g n s i).2.1,vI (vD T g n s i).2.2]) h'):C.gz r g.v n (mkStr s) i h K:=by
 have vv:=λb (hb:F b)=>x.lt hb;unfold vD at hK;refine gz.ok (aC.intro λh2 n2=>⟨g.v,rfl,ah n2.rd,find_spec (x.no n2.fr) ok λh3 R f3 hR eR=>⟨_,_,_,rfl,aC.intro λh4 n4=>aC.intro λh5 n5=>?_⟩⟩);have z2:=n2.size;have z3:=f3.size;have z4:=n4.size;have z5:=n5.size;refine az.intro (n5.ow n4.own) (by rw[aj,hR]) (aO _) (by rw[n5.at_,n4.rd];decide) λh6 d6=>az.intro (d6.ow n5.own) (E.len _) (E.one _) (by rw[d6.at_,n5.rd];decide) λh7 d7=>?_;have z6:=d6.size;have z7:=d7.size;have F7:Fr No h h7:=((((n2.fr.no f3).new n4).new n5).did d6 λy=>oX).did d7 λy=>by omega
 have same:∀{h':ad} {a b:Int},Fr No h h'->(∀GF F',Fr F h GF->Gw h F GF F'->lG GF F' r e T->K (.tuple #[vI a,vI b]) GF)->K (.tuple #[vI a,vI b]) h':=fun {h' a b} f k=>k h' F (f.mono λ_ _ y=>y.elim) (Gw.refl f.size vv) (x.no f);refine cn (λhe=>?_) λhe=>?_
 ·rw[if_pos he]at hK;exact same F7 hK
 rw[if_neg (λy=>y he)]at hK;have eR:=eR he;rw[<-eR]at hK;have Vt:=Yt he;generalize(mA T g n s).1=c at hK d7 Vt;have rg7:rd h7 h.size=g.v:=(d7.at_).trans ((d6.at_).trans ((n5.at_).trans ((n4.at_).trans ((f3.r0).trans n2.rd))))
 have rR7:rd h7 h3.size=ints R:=by
  rw[d7.at_,d6.rd,n5.at_,n4.rd];exact fu _ _ (by rw[aj,hR];rfl)
 have rc7:rd h7 h4.size=E.v c:=by
  rw[d7.rd,d6.at_,n5.rd];exact fu _ _ rfl
 refine⟨g.v,rfl,ah rg7,ints R,by rw[aj,hR],ah rR7,_,aZ rc7 rfl,?_⟩;have ed:wI (Int.tdiv c.place 16)=Int.tdiv c.place 16:=by rw[nL oX];exact wq _
 rw[ed];refine Ry.qy (x.no F7) hR λh8 f8=>⟨_,_,rfl,cn (λhe8=>?_) λhe8=>⟨_,aZ ((f8.r0).trans rc7) rfl,?_⟩⟩
 ·rw[if_pos he8]at hK;exact same (F7.no f8) hK
 rw[if_neg (λy=>y he8)]at hK;have F8:=F7.no f8;have z8:=f8.size;refine Oz (c:=⟨c.place,s,i⟩) (x.no F8) hu λh9 F9 f9 g9 x9=>⟨_,rfl,?_⟩;have Fx:Fr F h h9:=(F8.mono λ_ _ y=>y.elim).trans f9 λb _ y=>y;have Gx:=(Gw.refl F8.size vv).trans g9 F8.size;refine cn (λhe9=>?_) λhe9=>⟨_,aZ ((f9.rd oX λy=>by have:=vv _ y;omega).trans ((f8.r0).trans rc7)) rfl,?_⟩
 ·rw[if_pos he9]at hK;exact hK h9 F9 Fx Gx x9
 ·rw[if_neg (λy=>y he9)]at hK;exact hK h9 F9 Fx Gx x9
end
end Rq
namespace Rq
open Hp W Ad Tm Spc Re Av Ss
open Hd (ints)
open In (aj aO)
open Ino (getM yP cZ)
open Bm (bT)
open Fi (bH iaT)
open Rx (lG)
open Sk (E cm)
open Di (aw lD ay uV gn gI cJ jV fW mf vO rC)
theorem Km(T:TM)(g:G)(R:List Int)(s:Tm.cC):∀m k,((fB T g R s m k).2≠0/\gn T g R s m k=(none,(fB T g R s m k).2))∨((fB T g R s m k).2=0/\
  (((fB T g R s m k).1.find? (λc=>c.name==s)=none/\gn T g R s m k=(none,160))∨∃j c,(fB T g R s m k).1.find? (λc=>c.name==s)=some (uV j c)/\gn T g R s m k=(some ((ay T g R j).1,c),0)/\(ay T g R j).2=0/\c∈(ay T g R j).1.cells))
 | 0,k=>.inr ⟨rfl,.inl ⟨rfl,rfl⟩⟩
 | m+1,k=>by
  have ih:=Km T g R s m (k+1)
  by_cases he:(ay T g R k).2≠0
  ·have e1:fB T g R s (m+1) k=([],(ay T g R k).2):=(by unfold fB;rw[if_pos he]);have e2:gn T g R s (m+1) k=(none,(ay T g R k).2):=(by unfold Di.gn;rw[if_pos he]);rw[e1,e2];exact .inl ⟨he,rfl⟩
  ·have CT:(ay T g R k).2=0:=rB he;have fm:(((ay T g R k).1.cells.map (uV k)).find? λc=>c.name==s)=(cJ (ay T g R k).1 s).map (uV k):=acy
   cases hc:cJ (ay T g R k).1 s with
   | some c=>
    have hc':(ay T g R k).1.cells.find? (λc=>c.name==s)=some c:=hc
    have ha:((ay T g R k).1.cells.any λc=>c.name==s)=true:=
     Fw.mpr ⟨c,SR hc',by have:=acz hc';exact this⟩
    have e1:fB T g R s (m+1) k=((ay T g R k).1.cells.map (uV k),0):=(by unfold fB;rw[if_neg he,if_pos ha]);have e2:gn T g R s (m+1) k=(some ((ay T g R k).1,c),0):=(by unfold Di.gn;rw[if_neg he,hc]);rw[e1,e2];exact .inr ⟨rfl,.inr ⟨k,c,by rw[fm,hc];rfl,rfl,CT,SR hc'⟩⟩
   | none=>
    have ha:¬((ay T g R k).1.cells.any λc=>c.name==s)=true:=λy=>by
     have hc:(ay T g R k).1.cells.find? (λc=>c.name==s)=none:=hc;obtain⟨c,c1,c2⟩:=Fw.mp y;exact absurd c2 (acA.mp hc c c1)
    have e1:fB T g R s (m+1) k=((ay T g R k).1.cells.map (uV k)++(fB T g R s m (k+1)).1,(fB T g R s m (k+1)).2):=(by conv=>lhs;unfold fB;rw[if_neg he,if_neg ha]);have e2:gn T g R s (m+1) k=gn T g R s m (k+1):=(by conv=>lhs;unfold Di.gn;rw[if_neg he,hc]);rw[e1,e2];show((fB T g R s m (k+1)).2≠0/\_)∨((fB T g R s m (k+1)).2=0/\_);rw[Hs,fm,hc,Vy,Ht];exact ih
theorem Yu{T:TM}{g:G}{c:E}(h0:(ay T g R j).2=0)(hc:c ∈ (ay T g R j).1.cells) :
  (bT T g R (j:Int)).2=0/\(T.read (bT T g R (j:Int)).1).2=0/\(ay T g R j).1.bytes=(T.read (bT T g R (j:Int)).1).1/\(ay T g R j).1.bytes.length=512/\0<=c.place/\c.place<16:=by
 have hc:c∈(sR (bH T g R (j:Int)).1).1:=hc;have e0:(if(bH T g R (j:Int)).2≠0 then(bH T g R (j:Int)).2 else(sR (bH T g R (j:Int)).1).2)=0:=h0
 have b0:(bH T g R (j:Int)).2=0:=by
  by_cases y:(bH T g R (j:Int)).2=0
  ·exact y
  ·rw[if_pos y]at e0;exact e0
 have Vt:=(rC _).2 c hc
 have len:(bH T g R (j:Int)).1.length=512:=by
  unfold sR at hc
  split at hc
  ·cases hc
  ·rename_i w;exact rB w
 have f0:(bT T g R (j:Int)).2=0:=by
  by_cases y:(bT T g R (j:Int)).2=0
  ·exact y
  ·have:bH T g R (j:Int)=([],(bT T g R (j:Int)).2):=(by unfold Fi.bH;rw[if_pos y]);rw[this]at b0;exact b0
 have nz:(bT T g R (j:Int)).1≠0:=λy=>by
  have:bH T g R (j:Int)=(aV,0):=by unfold Fi.bH;rw[if_neg (λz=>z f0),if_pos y]
  rw[this,Kl]at hc
  cases hc
 have eb:bH T g R (j:Int)=T.read (bT T g R (j:Int)).1:=by unfold Fi.bH;rw[if_neg (λz=>z f0),if_neg nz]
 rw[eb]at b0;exact⟨f0,b0,congrArg Prod.fst eb,len,Vt.1,Vt.2⟩
theorem Ko{T:TM}{g:G}{s:Tm.cC}(hn:cm s=true)(hi:i=0∨(1<=i/\i<=4294967295)):vD T g n s i=match (gI T g n s).1 with
  | some x=>mf T x (if i=0 then rH x.1.bytes x.2.place else gP x.1.bytes ⟨x.2.place,s,i⟩)
  | none=>(T,0,(gI T g n s).2):=by
 unfold vD mA Di.gI;rw[if_neg (show ¬cm s=false by rw[hn];decide)]
 by_cases he:(aw T g n).2≠0
 ·rw[if_pos he,if_pos he,if_pos he]
 rw[if_neg he,if_neg he]
 rcases Km T g (aw T g n).1 s ((aw T g n).1.getD 2 0/512).toNat 0 with⟨h1,h2⟩|⟨h1,⟨h2,h3⟩|⟨j,c,h2,h3,h4,h5⟩⟩
 ·have h1':(wL T g (aw T g n).1 s).2≠0:=h1;rw[if_pos h1',h2];exact if_pos h1'
 ·have h1':¬(wL T g (aw T g n).1 s).2≠0:=λy=>y h1;rw[if_neg h1',h3,show(wL T g (aw T g n).1 s).1.find? (λc=>c.name==s)=none from h2];exact if_pos (show(160:Int)≠0 by decide)
 ·have h1':¬(wL T g (aw T g n).1 s).2≠0:=λy=>y h1;obtain⟨f0,b0,eb,len,p0,p1⟩:=Yu h4 h5;rw[if_neg h1',h3,show(wL T g (aw T g n).1 s).1.find? (λc=>c.name==s)=some (uV j c) from h2];have ed:Int.tdiv (c.place+16*(j:Int)) 16=(j:Int):=by rw[nL oX];omega
  have em:Int.tmod (c.place+16*(j:Int)) 16=c.place:=by rw[rL oX];omega
  have el:lU T (bT T g (aw T g n).1 (j:Int)).1 ⟨c.place+16*(j:Int),s,i⟩=T.write (bT T g (aw T g n).1 (j:Int)).1 (if i=0 then rH (ay T g (aw T g n).1 j).1.bytes c.place else gP (ay T g (aw T g n).1 j).1.bytes ⟨c.place,s,i⟩).2:=by
   unfold lU;rw[if_neg (λy=>y b0),em,eb];show T.write _ (if i=0 then _ else _)=_
   split <;> rfl
  have r0:(if i=0 then rH (ay T g (aw T g n).1 j).1.bytes c.place else gP (ay T g (aw T g n).1 j).1.bytes ⟨c.place,s,i⟩).1=0:=by
   split
   ·unfold rH;rw[if_neg (λy=>y len),if_pos ⟨p0,p1⟩]
   ·rename_i hi0;unfold gP;rw[if_neg (λy=>y len),if_pos]
    rcases hi with hi|hi
    ·exact absurd hi hi0
    ·simp only[qB,dB,decide_eq_true_eq];exact⟨⟨⟨⟨p0,p1⟩,hi.1⟩,hi.2⟩,hn⟩
  generalize hw:(if i=0 then rH (ay T g (aw T g n).1 j).1.bytes c.place else gP (ay T g (aw T g n).1 j).1.bytes ⟨c.place,s,i⟩)=w at el r0
  have e3:mf T ((ay T g (aw T g n).1 j).1,c) w=if(T.write (bT T g (aw T g n).1 (j:Int)).1 w.2).2≠0 then((T.write (bT T g (aw T g n).1 (j:Int)).1 w.2).1,0,(T.write (bT T g (aw T g n).1 (j:Int)).1 w.2).2)else((T.write (bT T g (aw T g n).1 (j:Int)).1 w.2).1,c.inode,0):=by
   unfold Di.mf;rw[if_neg (show ¬w.1≠0 from λy=>y r0)];rfl
  show(if(0:Int)≠0 then((T,0,0):TM×Int×Int)else if(bT T g (aw T g n).1 (Int.tdiv (c.place+16*(j:Int)) 16)).2≠0 then(T,0,(bT T g (aw T g n).1 (Int.tdiv (c.place+16*(j:Int)) 16)).2)else
   if(lU T (bT T g (aw T g n).1 (Int.tdiv (c.place+16*(j:Int)) 16)).1 ⟨c.place+16*(j:Int),s,i⟩).2≠0 then((lU T (bT T g (aw T g n).1 (Int.tdiv (c.place+16*(j:Int)) 16)).1 ⟨c.place+16*(j:Int),s,i⟩).1,0,(lU T (bT T g (aw T g n).1 (Int.tdiv (c.place+16*(j:Int)) 16)).1 ⟨c.place+16*(j:Int),s,i⟩).2)else
   ((lU T (bT T g (aw T g n).1 (Int.tdiv (c.place+16*(j:Int)) 16)).1 ⟨c.place+16*(j:Int),s,i⟩).1,c.inode,0))=mf T ((ay T g (aw T g n).1 j).1,c) (if i=0 then rH (ay T g (aw T g n).1 j).1.bytes c.place else gP (ay T g (aw T g n).1 j).1.bytes ⟨c.place,s,i⟩)
  rw[hw,e3,if_neg (show ¬(0:Int)≠0 from λy=>y rfl),ed,if_neg (show ¬(bT T g (aw T g n).1 (j:Int)).2≠0 from λy=>y f0),el]
section
variable{h : ad}{F : Nat -> Prop}{r e : OA}{T : TM}{g : G}{n : Int}{s : Tm.cC}{i : Int}{K : Value -> ad -> Prop}
theorem LY(x:lG h F r e T)(ok:yP g)(hu:T.aD.length<1000000000)
  (hK:∀h' F',Fr F h h'->Gw h F h' F'->lG h' F' r e (jV T g n s).1->K (.tuple #[vI (jV T g n s).2.1,vI (jV T g n s).2.2]) h'):C.iO r g.v n (mkStr s) h K:=by
 have vv:=λb (hb:F b)=>x.lt hb;refine iO.ok (aC.intro λh2 n2=>oZ ⟨_,rfl,?_⟩);have z2:=n2.size
 cases hn:cm s with
 | false=>
  have e0:jV T g n s=(T,0,1):=by unfold Di.jV Di.gI;rw[if_pos hn]
  rw[e0]at hK;exact ct rfl (hK h2 F (n2.fr.mono λ_ _ y=>y.elim) (Gw.refl n2.fr.size vv) (x.no n2.fr))
 | true=>
  have e0:vD T g n s 0=jV T g n s:=by
   rw[Ko hn (.inl rfl)];unfold Di.jV
   cases(gI T g n s).1 <;> rfl
  refine cf rfl ⟨g.v,rfl,ah n2.rd,EA (x.no n2.fr) ok hu λh4 F4 f4 g4 x4=>⟨_,_,rfl,?_⟩⟩;rw[e0]at x4 ⊢;exact hK h4 F4 ((n2.fr.mono λ_ _ y=>y.elim).trans f4 λb _ y=>y) ((Gw.refl n2.fr.size vv).trans g4 n2.fr.size) x4
theorem IG(x:lG h F r e T)(ok:yP g)(hg:g.count<=4294967296)(hu:T.aD.length<1000000000)
  (hK:∀h' F',Fr F h h'->Gw h F h' F'->lG h' F' r e (fW T g n s i).1->K (.tuple #[vI (fW T g n s i).2.1,vI (fW T g n s i).2.2]) h'):C.dY r g.v n (mkStr s) i h K:=by
 have vv:=λb (hb:F b)=>x.lt hb;refine dY.ok (aC.intro λh2 n2=>oZ ⟨_,rfl,?_⟩);have z2:=n2.size
 have same:∀{a b:Int},fW T g n s i=(T,a,b)->K (.tuple #[vI a,vI b]) h2:=λe0=>by
  rw[e0]at hK;exact hK h2 F (n2.fr.mono λ_ _ y=>y.elim) (Gw.refl n2.fr.size vv) (x.no n2.fr)
 cases hn:cm s with
 | false=>exact ct rfl (same (by unfold Di.fW;rw[if_pos hn]))
 | true=>
  have nE:¬cm s=false:=by rw[hn];decide
  have bad:vO g i=false->K (.tuple #[vI 0,vI 110]) h2:=λy=>same (by unfold Di.fW;rw[if_neg nE,if_pos y]);refine cf rfl (cd (λh1=>bad ?_) λh1=>⟨_,aZ n2.rd rfl,cd (λh3=>bad ?_) λh3=>?_⟩)
  ·unfold Di.vO;rw[decide_eq_false oX,SS]
  ·unfold Di.vO;rw[decide_eq_false (show ¬i<g.count by omega),yH]
  have hI:vO g i=true:=by unfold Di.vO;rw[decide_eq_true (show 1<=i by omega),decide_eq_true (show i<g.count by omega)];rfl
  have e0:vD T g n s i=fW T g n s i:=by
   rw[Ko hn (.inr ⟨oX,oX⟩)];unfold Di.fW;rw[if_neg nE,if_neg (show ¬vO g i=false by rw[hI];decide)]
   cases(gI T g n s).1 with
   | none=>rfl
   | some x=>exact congrArg (mf T x) (if_neg (show ¬i=0 by omega))
  unfold dY.k1;refine⟨g.v,rfl,ah n2.rd,EA (x.no n2.fr) ok hu λh4 F4 f4 g4 x4=>⟨_,_,rfl,?_⟩⟩;rw[e0]at x4 ⊢;exact hK h4 F4 ((n2.fr.mono λ_ _ y=>y.elim).trans f4 λb _ y=>y) ((Gw.refl n2.fr.size vv).trans g4 n2.fr.size) x4
end
end Rq
namespace Rq
open Hp W Ad Tm Spc Re Av Ss
open Sk (E cm iw low)
open Fi (bH)
open Di (aw ay aG cF uV uS dZ cJ mT sJ ki)
def mB : List E->Int->Int
 | [],p=>p
 | c::r,p=>mB r (if c.place=p then p+1 else p)
theorem xu : ∀{l:List E} {p:Int},(∀c∈l,p<c.place)->mB l p=p
 | [],_,_=>rfl
 | c::r,p,h=>by
  have:=h c (kj ..);show mB r (if c.place=p then p+1 else p)=p;rw[if_neg oX];exact xu λd hd=>h d (gV _ hd)
theorem HJ : ∀(l m:List E) (p:Int),mB (l++m) p=mB m (mB l p)
 | [],_,_=>rfl
 | _::r,m,_=>HJ r m _
theorem EB(o:Int)(k0:Nat):∀(hs:List (Nat×Tm.cC)) (k:Nat),mB ((iw k hs).map (uV k0)) (k+16*(k0:Int))=if low k hs<0 then((k+hs.length:Nat):Int)+16*(k0:Int)else low k hs+16*(k0:Int)
 | [],k=>by
  show(k:Int)+16*(k0:Int)=if(-1:Int)<0 then _ else _
  rw[if_pos dX];rfl
 | x::r,k=>by
  unfold iw low
  by_cases h0:x.1=0
  ·rw[if_pos h0,if_pos h0,if_neg oX];refine xu λc hc=>?_;obtain⟨d,hd,rfl⟩:=List.mem_map.mp hc;have:=(Sk.uR r (k+1) d hd).1;show(k:Int)+16*(k0:Int)<d.place+16*(k0:Int);omega
  ·rw[if_neg h0,if_neg h0,List.map_cons];show mB ((iw (k+1) r).map (uV k0)) (if(k:Int)+16*(k0:Int)=(k:Int)+16*(k0:Int)then(k:Int)+16*(k0:Int)+1 else(k:Int)+16*(k0:Int))=_;rw[if_pos rfl,show(k:Int)+16*(k0:Int)+1=((k+1:Nat):Int)+16*(k0:Int) by omega,EB o k0 r (k+1),pA,show k+1+r.length=k+(r.length+1) by omega]
theorem SY : ∀(hs:List (Nat×Tm.cC)) (k:Nat),low k hs = -1∨((k:Int)<=low k hs/\low k hs<((k+hs.length:Nat):Int))
 | [],k=>.inl rfl
 | x::r,k=>by
  unfold low
  by_cases h0:x.1=0
  ·rw[if_pos h0,pA];exact .inr ⟨th _,oX⟩
  ·rw[if_neg h0,pA]
   rcases SY r (k+1)with h|h
   ·exact .inl h
   ·exact .inr ⟨oX,oX⟩
theorem QL{T:TM}{g:G}(h0:(ay T g R k).2=0):(nJ (ay T g R k).1.bytes).2=0/\((nJ (ay T g R k).1.bytes).1 = -1∨(0<=(nJ (ay T g R k).1.bytes).1/\(nJ (ay T g R k).1.bytes).1<16))/\
  mB ((ay T g R k).1.cells.map (uV k)) (16*(k:Int))=if(nJ (ay T g R k).1.bytes).1<0 then 16*((k:Int)+1)else 16*(k:Int)+(nJ (ay T g R k).1.bytes).1:=by
 have e0:(if(bH T g R (k:Int)).2≠0 then(bH T g R (k:Int)).2 else(sR (bH T g R (k:Int)).1).2)=0:=h0
 have a0:(sR (bH T g R (k:Int)).1).2=0:=by
  by_cases y:(bH T g R (k:Int)).2=0
  ·rw[if_neg (λz=>z y)]at e0;exact e0
  ·rw[if_pos y]at e0;exact absurd e0 y
 show(nJ (bH T g R (k:Int)).1).2=0/\((nJ (bH T g R (k:Int)).1).1 = -1∨(0<=(nJ (bH T g R (k:Int)).1).1/\(nJ (bH T g R (k:Int)).1).1<16))/\mB ((sR (bH T g R (k:Int)).1).1.map (uV k)) (16*(k:Int))=if(nJ (bH T g R (k:Int)).1).1<0 then _ else 16*(k:Int)+(nJ (bH T g R (k:Int)).1).1
 generalize(bH T g R (k:Int)).1=bs at a0;unfold sR nJ at *
 by_cases hl:bs.length≠512
 ·rw[if_pos hl]at a0;exact absurd (show(32:Int)=0 from a0) dX
 rw[if_neg hl]at a0 ⊢;rw[if_neg hl]
 cases hd:Sk.dec 16 bs with
 | none=>rw[hd]at a0;exact absurd (show(140:Int)=0 from a0) dX
 | some hs=>
  have len:=(Sk.Cz (n:=16) (b:=bs) oX hd).1;have pe:=EB 0 k hs 0;have lr:=SY hs 0;rw[len]at pe lr;refine⟨rfl,?_,?_⟩
  ·show low 0 hs = -1∨(0<=low 0 hs/\low 0 hs<16);omega
  ·show mB ((iw 0 hs).map (uV k)) (16*(k:Int))=if low 0 hs<0 then 16*((k:Int)+1)else 16*(k:Int)+low 0 hs
   rw[show((0:Nat):Int)+16*(k:Int)=16*(k:Int) by omega]at pe;rw[pe]
   split <;> omega
theorem Br(s:Tm.cC):∀(l:List uS) (i p:Int) (b:Bool),(dZ s l (i,p,b)).2.2=(b || l.any λx=>(cJ x s).isSome)
 | [],_,_,b=>(acE b).symm
 | x::r,i,p,b=>by
  unfold Di.dZ
  split
  ·rw[Br s r,wo,acF]
  ·rw[Br s r,wo,acF]
theorem HL(s:Tm.cC):∀(l:List uS) (i p:Int) (b:Bool),0<=p->(dZ s l (i,p,b)).1=i/\(dZ s l (i,p,b)).2.1=p
 | [],_,_,_,_=>⟨rfl,rfl⟩
 | x::r,i,p,b,h=>by
  unfold Di.dZ;rw[if_neg oX];exact HL s r i p _ h
theorem OB(T:TM)(g:G)(R:List Int)(s:Tm.cC):∀(m k:Nat) (i:Int) (b:Bool),(aG T g R m k).2=0->
  ((dZ s (aG T g R m k).1 (i,-1,b)).2.1 = -1/\(dZ s (aG T g R m k).1 (i,-1,b)).1=i/\mB (mT (aG T g R m k).1) (16*(k:Int))=16*((k+m:Nat):Int))∨
  (0<=(dZ s (aG T g R m k).1 (i,-1,b)).2.1/\(dZ s (aG T g R m k).1 (i,-1,b)).2.1<16/\(k:Int)<=(dZ s (aG T g R m k).1 (i,-1,b)).1/\(dZ s (aG T g R m k).1 (i,-1,b)).1<((k+m:Nat):Int)/\
   mB (mT (aG T g R m k).1) (16*(k:Int))=16*(dZ s (aG T g R m k).1 (i,-1,b)).1+(dZ s (aG T g R m k).1 (i,-1,b)).2.1)
 | 0,k,i,b,_=>.inl ⟨rfl,rfl,rfl⟩
 | m+1,k,i,b,h=>by
  unfold Di.aG at h ⊢
  by_cases he:(ay T g R k).2≠0
  ·rw[if_pos he]at h;exact absurd h he
  rw[if_neg he]at h ⊢;have h:(aG T g R m (k+1)).2=0:=h;obtain⟨l1,l2,l3⟩:=QL (rB he);have N3:=(ki T g R m (k+1)).2;have ea:mT ((ay T g R k).1::(aG T g R m (k+1)).1)=(ay T g R k).1.cells.map (uV k)++mT (aG T g R m (k+1)).1:=sJ T g R k _;show(((dZ s ((ay T g R k).1::(aG T g R m (k+1)).1) (i,-1,b)).2.1 = -1/\_)∨_);rw[ea,HJ,l3];have ei:((ay T g R k).1.index:Int)=(k:Int):=rfl;unfold Di.dZ
  rcases l2 with l2|l2
  ·rw[if_neg oX,if_pos (show(nJ (ay T g R k).1.bytes).1<0 by omega),show 16*((k:Int)+1)=16*((k+1:Nat):Int) by omega]
   rcases OB T g R s m (k+1) i (b || (cJ (ay T g R k).1 s).isSome) h with⟨a1,a2,a3⟩|⟨a1,a2,a3,a4,a5⟩
   ·exact .inl ⟨a1,a2,by rw[a3];congr 1;omega⟩
   ·exact .inr ⟨a1,a2,oX,oX,a5⟩
  ·rw[if_pos ⟨by decide,l2.1,l1⟩,if_neg oX,ei];obtain⟨b1,b2⟩:=HL s (aG T g R m (k+1)).1 (k:Int) (nJ (ay T g R k).1.bytes).1 (b || (cJ (ay T g R k).1 s).isSome) l2.1;refine .inr ⟨by rw[b2];exact l2.1,by rw[b2];exact l2.2,by rw[b1];exact th _,by rw[b1];omega,?_⟩;rw[b1,b2];exact xu λc hc=>by have:=N3 c hc;omega
theorem SZ(T:TM)(g:G)(R:List Int)(s:Tm.cC):∀m k,(mT (aG T g R m k).1).any (λc=>c.name==s)=(aG T g R m k).1.any λx=>(cJ x s).isSome
 | 0,_=>rfl
 | m+1,k=>by
  unfold Di.aG
  split
  ·rfl
  ·rw[sJ,Hr,SZ T g R s m (k+1),wo];congr 1;unfold Di.cJ;rw[List.any_map];exact(List.isSome_find? ..).symm
end Rq
namespace Rq
open Hp W Ad Tm Spc Re Av Ss
open Hd (ints)
open In (aj aO sQ)
open Ino (getM mE yP cZ)
open Bm (bR tY lC)
open Fi (iaT vy)
open Rx (lG)
open Sk (E cm)
open Di (DG)
def y7(R Y:List Int)(place:Int):List Int:=if R.getD 2 0<=Int.tdiv place 16*512 then Y.set 2 (R.getD 2 0+512)else Y
def Yv(T:TM)(g:G)(n:Int)(R:List Int)(c:E):TM×Int:=
 if(bR T g R (Int.tdiv c.place 16)).2.2.2≠0 then((bR T g R (Int.tdiv c.place 16)).1,(bR T g R (Int.tdiv c.place 16)).2.2.2)else
 if(lU (bR T g R (Int.tdiv c.place 16)).1 (bR T g R (Int.tdiv c.place 16)).2.2.1 c).2≠0 then lU (bR T g R (Int.tdiv c.place 16)).1 (bR T g R (Int.tdiv c.place 16)).2.2.1 c else
 if y7 R (bR T g R (Int.tdiv c.place 16)).2.1 c.place=R then((lU (bR T g R (Int.tdiv c.place 16)).1 (bR T g R (Int.tdiv c.place 16)).2.2.1 c).1,0)else
  mE (lU (bR T g R (Int.tdiv c.place 16)).1 (bR T g R (Int.tdiv c.place 16)).2.2.1 c).1 g n (y7 R (bR T g R (Int.tdiv c.place 16)).2.1 c.place)
theorem sI(T:TM)(i:Int)(bs:cC):(T.write i bs).1.cB=T.cB/\(T.write i bs).1.aD.length<=T.aD.length+1:=by
 unfold TM.write
 split
 ·exact⟨rfl,qw _⟩
 ·split
  ·exact⟨rfl,qw _⟩
  ·split
   ·exact⟨rfl,qw _⟩
   ·split
    ·exact⟨rfl,qw _⟩
    ·exact⟨rfl,by show(T.aD++[_]).length<=_;rw[bg];exact bE _⟩
theorem wK(T:TM)(m:Int):(T.back m).1.cB=T.cB/\(T.back m).1.aD.length<=T.aD.length+1:=by
 unfold TM.back
 split
 ·exact⟨rfl,qw _⟩
 ·split
  ·exact⟨rfl,qw _⟩
  ·exact⟨rfl,by show(T.aD.take m.toNat).length<=_;rw[dL];omega⟩
theorem aaN(T:TM)(block:Int)(c:E):(lU T block c).1.aD.length<=T.aD.length+1:=by
 unfold lU
 split
 ·exact qw _
 ·exact lC _ _ _
theorem U4(T:TM)(block:Int)(c:E):(lU T block c).1.cB=T.cB:=by
 unfold lU
 split
 ·rfl
 ·exact(sI _ _ _).1
theorem DL(T:TM)(g:G)(R:List Int)(k:Int):(bR T g R k).1.cB=T.cB:=by
 have w:=Bx.Ki g (Bm.fT k.toNat) T R 0 (Spc.Ext.refl T);unfold Bm.bR
 split
 ·rfl
 ·split
  ·exact(wK _ _).1.trans w.cB
  ·exact w.cB
theorem afo(T:TM)(block:Int)(c:E):(lU T block c).1.N=T.N:=by
 unfold TM.N;rw[U4]
section
variable{h : ad}{F : Nat -> Prop}{r e : OA}{T : TM}{N : Nat}{n : Int}{R : List Int}{c : E}{K : Value -> ad -> Prop}
theorem U5(x:lG h F r e T)(d:zV N)(hN:98<=T.N)(hR:R.length=15)(sz:0<=R.getD 2 0/\R.getD 2 0<=8459264)(pl:0<=c.place/\c.place<=300000)(hu:T.aD.length<600000000)
  (hK:(∀v,((bR T (af N) R (Int.tdiv c.place 16)).1.read v).2=0->((bR T (af N) R (Int.tdiv c.place 16)).1.read v).1.length=512)->∀h' F',Fr F h h'->Gw h F h' F'->lG h' F' r e (Yv T (af N) n R c).1->K (vI (Yv T (af N) n R c).2) h'):C.fK r (af N).v n (ints R) (E.v c) h K:=by
 have vv:=λb (hb:F b)=>x.lt hb;have lR:(ints R).length=15:=by rw[aj,hR]
 unfold Yv at hK;refine fK.ok (aC.intro λh2 n2=>aC.intro λh3 n3=>aC.intro λh4 n4=>?_);have z2:=n2.size;have z3:=n3.size;have z4:=n4.size;have F4:Fr No h h4:=(n2.fr.new n3).new n4;have rg4:rd h4 h.size=(af N).v:=(n4.at_).trans ((n3.at_).trans n2.rd);have rR4:rd h4 h2.size=ints R:=(n4.at_).trans n3.rd;have eq:Int.tdiv c.place 16=c.place/16:=nL pl.1;have ed:wI (Int.tdiv c.place 16)=Int.tdiv c.place 16:=by rw[eq];exact wq _
 refine⟨_,rfl,ah rg4,ints R,lR,ah rR4,_,aZ n4.rd rfl,?_⟩;rw[ed];have au:=tY (T:=T) (g:=af N) (R:=R) (k:=Int.tdiv c.place 16);have al:=vy (T:=T) (g:=af N) (R:=R) (k:=Int.tdiv c.place 16) hR;have aN:(bR T (af N) R (Int.tdiv c.place 16)).1.N=T.N:=by unfold TM.N;rw[DL]
 refine Ry.uO (x.no F4) d hN hR oX λh5 F5 f5 g5 x5=>⟨_,_,_,rfl,?_⟩;have hK:=hK λv=>x5.lv (i:=v);generalize bR T (af N) R (Int.tdiv c.place 16)=A at hK au al aN x5 ⊢;obtain⟨T1,Y,v,er⟩:=A;have z5:=f5.size;have nF:∀b,h.size<=b->¬F b:=λb hb y=>by have:=vv b y;omega
 refine aF.intro (by rw[aj];exact al) (aO _) rfl λh7 n7=>?_;have z7:=n7.size;have Fx7:Fr F h h7:=((F4.mono λ_ _ y=>y.elim).trans f5 λ_ _ y=>y).no n7.fr;have Gx7:Gw h F h7 F5:=⟨λb hb=>g5.old b oX,λb hb=>by have:=g5.lt b hb;omega⟩;have at7:∀b,h.size<=b->b<h4.size->rd h7 b=rd h4 b:=λb h1 h2=>(n7.at_).trans (f5.rd h2 (nF b h1));refine cn (λhe=>?_) λhe=>?_
 ·have he':er≠0:=he;rw[if_pos he']at hK;exact hK h7 F5 Fx7 Gx7 (x5.no n7.fr)
 have he':er=0:=he;rw[if_neg (λy=>y he')]at hK;refine⟨_,E.len _,ah ((at7 _ oX oX).trans n4.rd),Oz (x5.no n7.fr) (by show T1.aD.length<_;have:T1.aD.length<=T.aD.length+9:=au;omega) λh8 F8 f8 g8 x8=>⟨_,rfl,?_⟩⟩;have z8:=f8.size;have lu:=aaN T1 v c;have lN:=afo T1 v c;show bif((lU T1 v c).2 != 0)then _ else _;have x8:lG h8 F8 r e (lU T1 v c).1:=x8;have hK:=hK;change ∀h' F',Fr F h h'->Gw h F h' F'->lG h' F' r e (if(lU T1 v c).2≠0 then lU T1 v c else if y7 R Y c.place=R then((lU T1 v c).1,0)else mE (lU T1 v c).1 (af N) n (y7 R Y c.place)).1->K (vI (if(lU T1 v c).2≠0 then lU T1 v c else if y7 R Y c.place=R then((lU T1 v c).1,0)else mE (lU T1 v c).1 (af N) n (y7 R Y c.place)).2) h' at hK;have Fx8:Fr F h h8:=Fx7.trans f8 λb hb y=>(Gx7.old b hb).mp y;have Gx8:Gw h F h8 F8:=⟨λb hb=>(g8.old b oX).trans (Gx7.old b hb),g8.lt⟩;have nF5:∀b,h.size<=b->b<h4.size->¬F5 b:=λb h1 h2 y=>nF b h1 ((g5.old b h2).mp y);have at8:∀b,h.size<=b->b<h4.size->rd h8 b=rd h4 b:=λb h1 h2=>(f8.rd oX (nF5 b h1 h2)).trans (at7 b h1 h2);refine cn (λhe8=>?_) λhe8=>?_
 ·rw[if_pos he8]at hK;exact hK h8 F8 Fx8 Gx8 x8
 rw[if_neg (λy=>y he8)]at hK;generalize lU T1 v c=L at hK x8 lu lN;have al':Y.length=15:=al;have afp:¬F5 h5.size:=λy=>by have:=x5.lt y;omega
 have r8:rd h8 h5.size=ints Y:=(f8.rd oX afp).trans n7.rd;have o8:dA h8 h5.size:=f8.own oX afp n7.own
 have nF8:∀b,h.size<=b->b<h7.size->(b<h4.size∨b=h5.size)->¬F8 b:=λb h1 h2 h3 y=>by
  have y:=(g8.old b h2).mp y
  rcases h3 with h3|rfl
  ·exact nF5 b h1 h3 y
  ·exact afp y
 have rR8:rd h8 h2.size=ints R:=(at8 _ oX oX).trans rR4
 have k1:∀hx,Fr (λb=>b=h5.size) h8 hx->rd hx h5.size=ints (y7 R Y c.place)->fK.k1 r n h h2 h5 hx K:=λhx fx rx=>by
  have zx:=fx.size;have lY:(y7 R Y c.place).length=15:=by unfold y7;split <;> simp[al']
  have xx:lG hx F8 r e L.1:=x8.fr fx λb hb y=>by
   have y:b=h5.size:=y;subst y;exact nF8 _ oX oX (.inr rfl) hb
  have Fxx:Fr F h hx:=Fx8.trans fx λb hb y=>by have y:b=h5.size:=y;omega
  have Gxx:Gw h F hx F8:=⟨Gx8.old,λb hb=>by have:=Gx8.lt b hb;omega⟩;have rRx:rd hx h2.size=ints R:=(fx.rd oX λy=>by have y:h2.size=h5.size:=y;omega).trans rR8;have rgx:rd hx h.size=(af N).v:=(fx.rd oX λy=>by have y:h.size=h5.size:=y;omega).trans ((at8 _ oX oX).trans rg4);unfold fK.k1;refine⟨_,by rw[aj,lY],ah rx,_,lR,ah rRx,sQ lY hR,?_⟩;rw[DG lY hR];refine cd (λhy=>?_) λhy=>?_
  ·rw[if_pos hy]at hK;exact hK hx F8 Fxx Gxx xx
  ·rw[if_neg hy]at hK;refine⟨_,rfl,ah rgx,_,by rw[aj,lY],ah rx,Rx.mw xx (by rw[lN];show 98<=T1.N;rw[show T1.N=T.N from aN];exact hN) (Fi.Qg d) lY (by have:T1.aD.length<=T.aD.length+9:=au;omega) λh9 F9 f9 g9 x9=>⟨_,rfl,hK h9 F9 (Fxx.trans f9 λb hb y=>(Gxx.old b hb).mp y) ⟨λb hb=>(g9.old b oX).trans (Gxx.old b hb),g9.lt⟩ x9⟩⟩
 have rc8:rd h8 h3.size=E.v c:=(at8 _ oX oX).trans n4.rd;refine⟨_,aZ rc8 rfl,R.getD 2 0,aZ rR8 (iaT (i:=2) oX),?_⟩;rw[ed,wrap_i64 (n:=Int.tdiv c.place 16*512) (by rw[eq];omega) (by rw[eq];omega)];refine cd (λTG=>⟨R.getD 2 0,aZ rR8 (iaT (i:=2) oX),?_⟩) λbV=>k1 h8 (Fr.refl _ _) (by rw[r8];unfold y7;rw[if_neg oX]);rw[wrap_i64 oX oX];refine bD.add o8 (by rw[r8,aj,al'];decide) λh9 d9=>k1 h9 d9.fr ?_;rw[d9.rd,r8];unfold y7;rw[if_pos oX];exact List.map_set.symm
end
end Rq
namespace Wl
open Hp Ad Tm Spc Re
open Ino (getM)
open Di (lD sortE ql mT aG cF ay aw yX kz)
open Sk (E)
section
variable{T : TM}{g : G}
theorem aaO(h:(getM T g n).2=0):1<=n/\n<g.count:=by
 unfold getM at h
 by_cases y:1<=n/\n<g.count
 ·exact y
 ·rw[if_pos y]at h;exact absurd h dX
theorem HM(T:TM)(g:G)(R:List Int):∀m k,(mT (aG T g R m k).1).length<=16*m
 | 0,_=>bE _
 | m+1,k=>by
  have ih:=HM T g R m (k+1);unfold aG
  split
  ·exact bN _
  ·have:=yX T g R k;unfold mT at ih ⊢;rw[qO,bg,aP];omega
end
end Wl
namespace Rq
open Hp W Ad Tm Spc Re Av Ss
open Hd (ints)
open In (aj aO sQ)
open Ino (getM mE yP cZ)
open Bm (bR tY)
open Fi (iaT uP)
open Rx (lG)
open Sk (E cm)
open Di (aw wH kz ay aG cF ki uV dZ mT cJ tO gv Hz vO pv oY)
theorem aaP{T:TM}{g:G}{index p:Int}{s:Tm.cC}(hn:cm s=true)(hi:1<=i/\i<=4294967295)(hp:(p = -1/\512*index=R.getD 2 0)∨(0<=p/\p<16/\512*index<R.getD 2 0))(h0:0<=index)
  (hl:∀v,((bR T g R index).1.read v).2=0->((bR T g R index).1.read v).1.length=512):Yv T g n R ⟨16*index+max p 0,s,i⟩=tO T g n R index p s i:=by
 have ed:Int.tdiv (16*index+max p 0) 16=index:=by rw[nL oX];omega
 have em:Int.tmod (16*index+max p 0) 16=max p 0:=by rw[rL oX];omega
 unfold Yv Di.tO
 show(if(bR T g R (Int.tdiv (16*index+max p 0) 16)).2.2.2≠0 then((bR T g R (Int.tdiv (16*index+max p 0) 16)).1,(bR T g R (Int.tdiv (16*index+max p 0) 16)).2.2.2)else
  if(lU (bR T g R (Int.tdiv (16*index+max p 0) 16)).1 (bR T g R (Int.tdiv (16*index+max p 0) 16)).2.2.1 ⟨16*index+max p 0,s,i⟩).2≠0 then lU (bR T g R (Int.tdiv (16*index+max p 0) 16)).1 (bR T g R (Int.tdiv (16*index+max p 0) 16)).2.2.1 ⟨16*index+max p 0,s,i⟩else
  if y7 R (bR T g R (Int.tdiv (16*index+max p 0) 16)).2.1 (16*index+max p 0)=R then((lU (bR T g R (Int.tdiv (16*index+max p 0) 16)).1 (bR T g R (Int.tdiv (16*index+max p 0) 16)).2.2.1 ⟨16*index+max p 0,s,i⟩).1,0)else
   mE (lU (bR T g R (Int.tdiv (16*index+max p 0) 16)).1 (bR T g R (Int.tdiv (16*index+max p 0) 16)).2.2.1 ⟨16*index+max p 0,s,i⟩).1 g n (y7 R (bR T g R (Int.tdiv (16*index+max p 0) 16)).2.1 (16*index+max p 0)))=_
 rw[ed]
 by_cases he:(bR T g R index).2.2.2≠0
 ·rw[if_pos he,if_pos he]
 have h2:=Hz (rB he);rw[if_neg he,if_neg he];generalize bR T g R index=A at hl h2 ⊢;obtain⟨T1,Y,v,er⟩:=A;have hl:=hl v;have h2:Y.getD 2 0=R.getD 2 0:=h2
 have en:y7 R Y (16*index+max p 0)=if p<0 then Y.set 2 (Y.getD 2 0+512)else Y:=by
  unfold y7;rw[ed,h2]
  rcases hp with hp|hp
  ·rw[if_pos oX,if_pos oX]
  ·rw[if_neg oX,if_neg oX]
 have el:lU T1 v ⟨16*index+max p 0,s,i⟩=if(T1.read v).2≠0 then(T1,(T1.read v).2)else T1.write v (gP (T1.read v).1 ⟨max p 0,s,i⟩).2:=by
  unfold lU
  split
  ·rfl
  ·show T1.write v (if i=0 then _ else(gP (T1.read v).1 ⟨Int.tmod (16*index+max p 0) 16,s,i⟩).2)=_;rw[if_neg oX,em]
 show(if(lU T1 v ⟨16*index+max p 0,s,i⟩).2≠0 then lU T1 v ⟨16*index+max p 0,s,i⟩else if y7 R Y (16*index+max p 0)=R then((lU T1 v ⟨16*index+max p 0,s,i⟩).1,0)else mE (lU T1 v ⟨16*index+max p 0,s,i⟩).1 g n (y7 R Y (16*index+max p 0))) =
  if(T1.read v).2≠0 then(T1,(T1.read v).2)else if(gP (T1.read v).1 ⟨max p 0,s,i⟩).1≠0 then(T1,(gP (T1.read v).1 ⟨max p 0,s,i⟩).1)else if(T1.write v (gP (T1.read v).1 ⟨max p 0,s,i⟩).2).2≠0 then T1.write v (gP (T1.read v).1 ⟨max p 0,s,i⟩).2 else
   if(if p<0 then Y.set 2 (Y.getD 2 0+512)else Y)=R then((T1.write v (gP (T1.read v).1 ⟨max p 0,s,i⟩).2).1,0)else mE (T1.write v (gP (T1.read v).1 ⟨max p 0,s,i⟩).2).1 g n (if p<0 then Y.set 2 (Y.getD 2 0+512)else Y)
 rw[el,en]
 by_cases hr:(T1.read v).2≠0
 ·rw[if_pos hr,if_pos hr,if_pos hr]
 have len:=hl (rB hr)
 have p0:¬(gP (T1.read v).1 ⟨max p 0,s,i⟩).1≠0:=λy=>y (by
  unfold gP;rw[if_neg (λz=>z len),if_pos];simp only[qB,dB,decide_eq_true_eq]
  exact⟨⟨⟨⟨oX,oX⟩,hi.1⟩,hi.2⟩,hn⟩)
 rw[if_neg hr,if_neg hr,if_neg p0]
section
variable{h : ad}{F : Nat -> Prop}{r e : OA}{T : TM}{N : Nat}{n i : Int}{s : Tm.cC}{K : Value -> ad -> Prop}
theorem Kq(x:lG h F r e T)(d:zV N)(hN:98<=T.N)(hg:(af N).count<=4294967296)(hu:T.aD.length<600000000)
  (hK:∀h' F',Fr F h h'->Gw h F h' F'->lG h' F' r e (gv T (af N) n s i).1->K (vI (gv T (af N) n s i).2) h'):C.gm r (af N).v n (mkStr s) i h K:=by
 have vv:=λb (hb:F b)=>x.lt hb;refine gm.ok (aC.intro λh2 n2=>oZ ⟨_,rfl,?_⟩);have z2:=n2.size
 have same:∀{a:Int} {hx:ad},Fr No h hx->gv T (af N) n s i=(T,a)->K (vI a) hx:=λf e0=>by
  rw[e0]at hK;exact hK _ F (f.mono λ_ _ y=>y.elim) (Gw.refl f.size vv) (x.no f)
 cases hn:cm s with
 | false=>exact ct rfl (same n2.fr (by unfold Di.gv;rw[if_pos hn]))
 | true=>
  have nE:¬cm s=false:=by rw[hn];decide
  have bad:vO (af N) i=false->K (vI 110) h2:=λy=>same n2.fr (by unfold Di.gv;rw[if_neg nE,if_pos y]);refine cf rfl (cd (λh1=>bad ?_) λh1=>⟨_,aZ n2.rd rfl,cd (λh3=>bad ?_) λh3=>?_⟩)
  ·unfold Di.vO;rw[decide_eq_false oX,SS]
  ·unfold Di.vO;rw[decide_eq_false (show ¬i<(af N).count by omega),yH]
  have hI:¬vO (af N) i=false:=by unfold Di.vO;rw[decide_eq_true (show 1<=i by omega),decide_eq_true (show i<(af N).count by omega)];decide
  have e1:gv T (af N) n s i=if(aw T (af N) n).2≠0 then(T,(aw T (af N) n).2)else if(cF T (af N) (aw T (af N) n).1).2≠0 then(T,(cF T (af N) (aw T (af N) n).1).2)else
    if(dZ s (cF T (af N) (aw T (af N) n).1).1 ((aw T (af N) n).1.getD 2 0/512,-1,false)).2.2=true then(T,150)else if T.mark.2≠0 then(T,T.mark.2)else
     uP T (tO T (af N) n (aw T (af N) n).1 (dZ s (cF T (af N) (aw T (af N) n).1).1 ((aw T (af N) n).1.getD 2 0/512,-1,false)).1 (dZ s (cF T (af N) (aw T (af N) n).1).1 ((aw T (af N) n).1.getD 2 0/512,-1,false)).2.1 s i):=by
   conv=>lhs;unfold Di.gv
   rw[if_neg nE,if_neg hI]
  unfold gm.k1;refine⟨_,rfl,ah n2.rd,wy (x.no n2.fr) (Fi.Qg d) λh4 R f4 hR eR=>⟨_,_,rfl,aF.intro (by rw[aj,hR]) (aO _) rfl λh6 n6=>?_⟩⟩;have z4:=f4.size;have z6:=n6.size;have F6:Fr No h h6:=(n2.fr.no f4).new n6;refine cn (λhe=>?_) λhe=>?_
  ·rw[if_pos he]at e1;exact same F6 e1
  rw[if_neg (λy=>y he)]at e1;obtain⟨oe,g0,k2⟩:=wH he;have mr:=Fi.uQ g0
  have s512:(aw T (af N) n).1.getD 2 0%512=0:=by
   rw[oe];unfold In.qH at mr;rw[dB]at mr;have k:=mr.2;rw[In.kindOk,k2,if_neg dX,if_neg dX,if_pos rfl,dB,dB]at k;exact of_decide_eq_true (by have:=k.2;rw[dB]at this;exact this.2)
  have eR:=eR he;have sz:=kz he;rw[<-eR]at e1 sz s512;have rg6:rd h6 h.size=(af N).v:=(n6.at_).trans ((f4.r0).trans n2.rd);have al:=Bq T (af N) R (R.getD 2 0/512).toNat 0;have el1:(fB T (af N) R [] (R.getD 2 0/512).toNat 0).1=mT (cF T (af N) R).1:=by rw[al];rfl
  have el2:(fB T (af N) R [] (R.getD 2 0/512).toNat 0).2=(cF T (af N) R).2:=by rw[al];rfl
  refine⟨_,rfl,ah rg6,ints R,by rw[aj,hR],ah n6.rd,HI (s:=[]) (x.no F6) hR sz (λha h7 f7=>⟨_,_,_,_,rfl,cn (λ_=>?_) λy=>absurd y ha⟩) λha h7 a c f7 s7=>⟨_,_,_,_,rfl,cn (λy=>absurd rfl y) λ_=>?_⟩⟩
  ·rw[el2]at ha ⊢;rw[if_pos ha]at e1;exact same (F6.no f7) e1
  rw[el2]at ha;rw[if_neg (λy=>y ha)]at e1;rw[el1]at s7 ⊢;have F7:=F6.no f7;have z7:=f7.size;have pe:=OB T (af N) R s (R.getD 2 0/512).toNat 0 (R.getD 2 0/512) false ha;have pf:=Br s (cF T (af N) R).1 (R.getD 2 0/512) (-1) false;have ne:=SZ T (af N) R s (R.getD 2 0/512).toNat 0;have Vt:=(ki T (af N) R (R.getD 2 0/512).toNat 0).2;change ∀e∈mT (cF T (af N) R).1,_ at Vt;change (mT (cF T (af N) R).1).any _=(cF T (af N) R).1.any _ at ne;rw[Ho,<-ne]at pf
  have ll:(mT (cF T (af N) R).1).length<=1000000:=by
   have:=Wl.HM T (af N) R (R.getD 2 0/512).toNat 0;show(mT (aG T (af N) R (R.getD 2 0/512).toNat 0).1).length<=_;omega
  have elv:aG T (af N) R (R.getD 2 0/512).toNat 0=cF T (af N) R:=rfl;rw[elv]at pe;generalize dZ s (cF T (af N) R).1 (R.getD 2 0/512,-1,false)=P at e1 pe pf;generalize mT (cF T (af N) R).1=es at s7 pe pf ll Vt ⊢;obtain⟨ix,p,b⟩:=P;have pf:b=es.any λc=>c.name==s:=pf;refine⟨λpl j hh=>∃q:Nat,j=q/\q<=es.length/\Fr No h7 hh/\mB es 0=mB (es.drop q) pl/\((es.take q).any λc=>c.name==s)=false/\0<=pl/\pl<=q,λ_ j _=>((es.length:Int)-j).toNat,⟨0,rfl,bN _,Fr.refl _ _,rfl,rfl,th _,th _⟩,?_⟩;rintro pl j h8 ⟨q,rfl,hq,f8,ep,na,q0,q1⟩;have z8:=f8.size;have F8:=F7.no f8;refine cd (λbV=>?_) λTG=>?_
  ·have hq':q<es.length:=oX;obtain⟨p1,epp,cp⟩:=pv (ak.fr f8 s7.cells λ_ _ y=>y) hq';refine⟨⟨oX,bV⟩,?_⟩;rw[epp,cA];refine os ⟨_,E.len _,cp,aF.intro (E.len _) (E.one _) rfl λbG n10=>⟨_,aZ n10.rd rfl,?_⟩⟩;rw[toList_mkStr,toList_mkStr];have hx:=Ow (s:=s) hq';rw[na,Ho]at hx;rw[lh hq']at ep;have ep:mB es 0=mB (es.drop (q+1)) (if es[q].place=pl then pl+1 else pl):=ep;refine cs (λheq=>?_) λfP=>⟨_,aZ n10.rd rfl,ce (λMZ=>?_) λMZ=>?_⟩
   ·have:b=true:=(by rw[pf];exact Fw.mpr ⟨_,ff hq',heq⟩);rw[if_pos this]at e1;exact same (F8.new n10) e1
   ·rw[if_pos MZ]at ep;rw[wrap_i64 oX oX,wrap_i64 oX oX];exact⟨⟨q+1,oX,oX,f8.new n10,ep,hx.trans fP,oX,oX⟩,bW bV⟩
   ·rw[if_neg MZ]at ep;rw[wrap_i64 oX oX];exact⟨⟨q+1,oX,oX,f8.new n10,ep,hx.trans fP,oX,oX⟩,bW bV⟩
  ·have:q=es.length:=oX;subst this;rw[List.drop_length]at ep;have ep:mB es 0=pl:=ep;rw[mZ]at na;have nb:¬b=true:=(by rw[pf,na];decide);rw[if_neg nb]at e1
   have live:T.over=false:=by
    cases ho:T.over with
    | false=>rfl
    | true=>
     exfalso;have rg:=Wl.aaO g0;have er:∀v,(T.read v).2≠0:=λv=>by unfold TM.read;rw[if_pos ho];show(61:Int)≠0;decide
     have:(getM T (af N) n).2≠0:=by
      unfold Ino.getM;rw[if_neg (λy=>y rg),if_pos (er _)];exact er _
     exact this g0
   have mk:¬T.mark.2≠0:=(by unfold TM.mark;rw[if_neg (by rw[live];decide)];exact λy=>y rfl);rw[if_neg mk]at e1
   -- the place
   have hpx:pl=16*ix+max p 0/\0<=ix/\((p = -1/\512*ix=R.getD 2 0)∨(0<=p/\p<16/\512*ix<R.getD 2 0)):=by
    have t0:((R.getD 2 0/512).toNat:Int)=R.getD 2 0/512:=oX
    rcases pe with⟨a1,a2,a3⟩|⟨a1,a2,a3,a4,a5⟩
    ·have a1:p = -1:=a1;have a2:ix=R.getD 2 0/512:=a2;have a3:mB es 0=16*((0+(R.getD 2 0/512).toNat:Nat):Int):=a3;omega
    ·have a1:0<=p:=a1;have a2:p<16:=a2;have a3:((0:Nat):Int)<=ix:=a3;have a4:ix<((0+(R.getD 2 0/512).toNat:Nat):Int):=a4;have a5:mB es 0=16*ix+p:=a5;omega
   obtain⟨hp1,MY,hp3⟩:=hpx;have rg8:rd h8 h.size=(af N).v:=((f7.no f8).r0).trans rg6;have rR8:rd h8 h4.size=ints R:=((f7.no f8).r0).trans n6.rd;have pb:pl<=300000:=oX;refine Rx.sE (x.no F8) ⟨_,_,rfl,_,rfl,ah rg8,ints R,by rw[aj,hR],ah rR8,U5 (n:=n) (c:=⟨pl,s,i⟩) (x.no F8) d hN hR sz ⟨q0,pb⟩ hu λhl bf Dw f12 g12 x12=>⟨_,rfl,?_⟩⟩
   have ed:Int.tdiv (⟨pl,s,i⟩:E).place 16=ix:=by
    show Int.tdiv pl 16=ix;rw[hp1,nL oX];omega
   rw[ed]at hl;have eq:=aaP (n:=n) hn (i:=i) (p:=p) ⟨oX,oX⟩ hp3 MY hl;rw[<-hp1]at eq;rw[eq]at x12 ⊢;generalize tO T (af N) n R ix p s i=Q at e1 x12 ⊢;have Fx:Fr F h bf:=(F8.mono λ_ _ y=>y.elim).trans f12 λ_ _ y=>y;have Gx:Gw h F bf Dw:=(Gw.refl F8.size vv).trans g12 F8.size;refine cn (λfP=>Rx.sF x12 λbQ F13 f13 g13 x13=>⟨_,rfl,?_⟩) λh0=>?_
   ·have e1:gv T (af N) n s i=((Q.1.back T.mark.1).1,Q.2):=e1.trans (by unfold Fi.uP;exact if_pos fP);rw[e1]at hK;exact hK bQ F13 (Fx.trans f13 λb hb y=>(Gx.old b hb).mp y) (Gx.trans g13 Fx.size) x13
   ·have e1:gv T (af N) n s i=Q:=e1.trans (by unfold Fi.uP;exact if_neg λy=>y h0);rw[e1]at hK;exact hK bf Dw Fx Gx x12
end
end Rq
namespace Td
open Hp W Re Ss
open Sk (E)
structure xO where
 a:OA
 c:Nat
 wa:OA
 wc:Nat
 es:List E
def xO.v(x:xO):LV:=[vS x.a x.es.length x.c,vS x.wa x.es.length x.wc]
theorem xO.len(x:xO):x.v.length=2:=rfl
theorem xO.one(x:xO):∀v∈x.v,v.oneCell'=true:=λv hv=>by
 simp only[xO.v,fO,nT,or_false]at hv
 rcases hv with rfl|rfl <;> rfl
structure xO.Ok(h:ad)(ao:Nat->Nat)(i:Nat)(x:xO):Prop where
 l:Sl h 3 x.a x.es.length x.c (x.es.flatMap E.v) (On ao (31+2*i))
 w:Sl h 3 x.wa x.es.length x.wc (x.es.flatMap E.v) (On ao (32+2*i))
 m:x.es.length<=1000000
structure Bk(h:ad)(ao:Nat->Nat)(ba:OA)(bc:Nat)(xs:List xO):Prop where
 row:Sl h 2 ba xs.length bc (xs.flatMap xO.v) (On ao 30)
 it:∀i (hi:i<xs.length),xs[i].Ok h ao i
section
variable{h h' : ad}{ao aB : Nat -> Nat}{ba : OA}{bc : Nat}{xs : List xO}{i : Nat}{x : xO}
theorem xO.Ok.keep(o:x.Ok h ao i){F:NP}(f:Fr F h h')(g:Ag h.size ao aB)(hF:∀ b,ao b=31+2*i∨ao b=32+2*i->¬ F b):x.Ok h' aB i:=
 ⟨o.l.keep f g λb hb y=>hF b (.inl hb) y,o.w.keep f g λb hb y=>hF b (.inr hb) y,o.m⟩
theorem Bk.keep(B:Bk h ao ba bc xs){F:NP}(f:Fr F h h')(g:Ag h.size ao aB)(hF:∀ b,30<=ao b->¬ F b):Bk h' aB ba bc xs:=
 ⟨B.row.keep f g λb hb y=>hF b (by have hb:ao b=30:=hb;omega) y,λi hi=>(B.it i hi).keep f g λb hb y=>hF b oX y⟩
theorem Bk.nil(h:ad)(ao:Nat->Nat):Bk h ao none 0 []:=⟨Sl.nil _ _ _,λi hi=>absurd hi (wm _)⟩
end
end Td
namespace Td
open Hp W Tm Spc Re Di Bm Ino
open Tp (sI wK)
open Sk (E)
def Same(T T':TM)(k:Nat):Prop:=T'.cB=T.cB/\T'.aD.length<=T.aD.length+k
theorem Same.no(T:TM)(k:Nat):Same T T k:=⟨rfl,Nat.le_add_right _ _⟩
theorem Same.le{T T':TM}(s:Same T T' k)(h:k<=m):Same T T' m:=⟨s.1,by have:=s.2;omega⟩
theorem Same.trans{T T' T2:TM}{k m:Nat}(s:Same T T' k)(r:Same T' T2 m):Same T T2 (k+m):=⟨r.1.trans s.1,by have:=s.2;have:=r.2;omega⟩
theorem Kr(T:TM)(x:uS×E)(r:Int×cC):Same T (mf T x r).1 1:=by
 unfold Di.mf
 split
 ·exact .no _ _
 ·split <;> exact sI _ _ _
theorem LZ(T:TM)(g:G)(n:Int)(s:cC):Same T (jV T g n s).1 1:=by
 unfold Di.jV
 split
 ·exact Kr _ _ _
 ·exact .no _ _
theorem II(T:TM)(g:G)(n:Int)(s:cC)(i:Int):Same T (fW T g n s i).1 1:=by
 unfold Di.fW
 split
 ·exact .no _ _
 ·split
  ·exact .no _ _
  ·split
   ·exact Kr _ _ _
   ·exact .no _ _
theorem QM(T:TM)(g:G)(n:Int)(R:List Int)(index p:Int)(s:cC)(i:Int):Same T (tO T g n R index p s i).1 11:=by
 have a:Same T (bR T g R index).1 9:=⟨Sx.DL T g R index,tY⟩;have w:∀v b,Same T ((bR T g R index).1.write v b).1 10:=λv b=>a.trans (sI _ v b);unfold Di.tO;generalize(if p<0 then(bR T g R index).2.1.set 2 ((bR T g R index).2.1.getD 2 0+512)else(bR T g R index).2.1)=Y
 repeat' split
 all_goals first|exact a.le oX|exact(w _ _).le oX|exact(w _ _).trans (Sx.UW _ _ _ _)
theorem Ku(T:TM)(g:G)(n:Int)(s:cC)(i:Int):Same T (gv T g n s i).1 12:=by
 unfold Di.gv
 repeat' split
 all_goals first|exact .no _ _|exact Sx.QF (QM _ _ _ _ _ _ _ _)
theorem Bs(T:TM)(i:Int)(b:cC):Same T (T.write i b).1 1:=sI T i b
end Td
namespace Td
open Hp W Ad Tm Spc Av Tp Sx
structure Mv(hh:ad)(ao:Nat->Nat)(h':ad)(aB:Nat->Nat):Prop where
 g:Ag hh.size ao aB
 f:Fr (λb=>1<=ao b/\ao b<=3) hh h'
section
variable{h1 hh h' h2 : ad}{sb n c U : Nat}{vs : LV}{P Q : ad -> (Nat -> Prop) -> Prop}{d q t u : OA}{g : G}{T V T' : TM}{S : RD}{ao aB HN : Nat -> Nat}{K : Value -> ad -> Prop}{F F' : Nat -> Prop}
theorem Mv.trans(a:Mv hh ao h' aB)(b:Mv h' aB h2 HN):Mv hh ao h2 HN:=⟨a.g.trans b.g a.f.size,a.f.trans b.f λx hx y=>by rw[<-a.g x hx];exact y⟩
theorem Mv.no(f:Fr No hh h'):Mv hh ao h' ao:=⟨Ag.refl _ _,f.mono λ_ _ y=>y.elim⟩
theorem Mv.did{ws:LV}(X:Sx h1 sb vs P Q hh ao)(d:xN sb hh h' ws):Mv hh ao h' ao:=⟨Ag.refl _ _,d.fr.mono λb _ y=>by have y:b=sb:=y;have:=X.sc;rw[y];omega⟩
theorem Bk.mv{xs:List xO}(B:Bk hh ao ba bc xs)(m:Mv hh ao h' aB):Bk h' aB ba bc xs:=B.keep m.f m.g λb hb y=>by have:=y.2;omega
theorem prog(X:Xt h1 sb d q t u g T V hh ao)(hF:∀ b,F b->ao b=2)(f:Fr F hh h')(w:Gw hh F h' F')(x:Tx h' F' t d T'):∃aB,Mv hh ao h' aB/\Xt h1 sb d q t u g T' V h' aB:=by
 obtain⟨aB,ag,X'⟩:=X.prog (P':=λh F=>Tx h F t d T') (tz _ _ _) hF f w x;exact⟨aB,⟨ag,f.mono λb _ y=>by have:=hF b y;omega⟩,X'⟩
theorem doc(X:Xt h1 sb d q t u g T V hh ao)(hF:∀ b,F b->ao b=3)(f:Fr F hh h')(w:Gw hh F h' F')(x:Rx.lG h' F' u q T'):∃aB,Mv hh ao h' aB/\Xt h1 sb d q t u g T T' h' aB:=by
 obtain⟨aB,ag,X'⟩:=X.doc (Q':=λh F=>Rx.lG h F u q T') (rD _ _ _) hF f w x;exact⟨aB,⟨ag,f.mono λb _ y=>by have:=hF b y;omega⟩,X'⟩
theorem Au(X:Xd h1 sb d q t u g S hh ao)(hK:∀ h' aB t' u',Mv hh ao h' aB->Xt h1 sb d q t' u' g ⟨S,[],[],false⟩ ⟨S,[],[],false⟩ h' aB->K (.bool true) h'):C.dE (some ⟨sb,0,none⟩) hh K:=by
 obtain⟨F,A,hF⟩:=X.x;refine dE.ok (os ⟨_,aZ X.sr rfl,Tm.A1 A λtb h2 F2 f2 g2 x2=>⟨_,rfl,?_⟩⟩);obtain⟨HN,ag2,X2⟩:=X.prog (P':=λh F=>Tx h F (some ⟨tb,0,none⟩) d ⟨S,[],[],false⟩) (SM q S) hF (f2.mono λ_ _ y=>y.elim) g2 x2;have m2:Mv hh ao h2 HN:=⟨ag2,f2.mono λ_ _ y=>y.elim⟩;refine os (bD.add X2.so (by rw[X2.sr];show 0+2<9;omega) λh3 d3=>?_);have X3:=X2.did (rD _ _ _) (SM q S) d3;have m3:=m2.trans (Mv.did X2 d3);obtain⟨G,R,hG⟩:=X3.y;refine os ⟨_,aZ (X3.sr.trans (congrArg (λl=>List.set l (0+2) _) X2.sr)) rfl,Rx.lG.afh R λF4 h4 f4 x4 e4=>⟨_,rfl,?_⟩⟩;obtain⟨zW,ag4,X4⟩:=X3.doc (Q':=λh F=>Rx.lG h F (some (bA h3)) q ⟨S,[],[],false⟩) (rD _ _ _) hG (f4.mono λ_ _ y=>y.elim) ⟨λb hb=>by rw[e4 b];exact⟨λy=>y.elim id λy=>oX,.inl⟩,λb hb=>x4.lt hb⟩ x4;have m4:=m3.trans ⟨ag4,f4.mono λ_ _ y=>y.elim⟩;refine os (bD.add X4.so (by rw[X4.sr,X2.sr];show 0+3<9;omega) λh5 d5=>?_);have X5:=X4.did (rD _ _ _) (tz _ _ _) d5;have m5:=m4.trans (Mv.did X4 d5);have e5:(rd h4 sb).set (0+3) (vP (some (bA h3)))=sxV d q (some ⟨tb,0,none⟩) (some (bA h3)) g:=by rw[X4.sr,X2.sr];rfl
 rw[e5]at X5;exact os ⟨_,aZ X5.sr rfl,hK h5 zW _ _ m5 X5⟩
theorem ES{l2 e:Nat}{ns:List Int}(A:ak h a (Ap.Hf ns))(B:ak h b (Ap.Hf ns))(T8:ns.length=l)(YR:ns.length=l2)(hl:l<=1000000000000)(hK:K (.bool true) h):C.gu a l c b l2 e h K:=by
 refine gu.ok (cn (λy=>absurd (show(l:Int)=l2 by omega) y) λ_=>?_);refine⟨λi hh=>∃j:Nat,i=j/\j<=l/\hh=h,λi _=>((l:Int)-i).toNat,⟨0,rfl,bN _,rfl⟩,?_⟩;rintro i _ ⟨j,ei,hj,rfl⟩;refine cd (λbV=>?_) λ_=>hK;have rA:j<ns.length:=oX;have ein:i.toNat=j:=oX;obtain⟨p,rfl,cp⟩:=Ap.Dv A rA;obtain⟨q,rfl,cq⟩:=Ap.Dv B rA;rw[ein,wq (i+1)];exact⟨⟨oX,bV⟩,os ⟨_,cp,⟨oX,oX⟩,os ⟨_,cq,cn (λy=>absurd rfl y) λ_=>⟨⟨j+1,oX,oX,rfl⟩,by show((l:Int)-(i+1)).toNat<((l:Int)-i).toNat;omega⟩⟩⟩⟩
theorem rF(X:Xt h1 sb d q t u g T T hh ao)(hK:∀ h',Fr No hh h'->K (.bool true) h'):C.bJ (some ⟨sb,0,none⟩) hh K:=by
 have kp:=rD t d T;have kq:=tz u q T;obtain⟨E,y,_⟩:=X.y;have mp:=Ol y;refine bJ.ok (os ⟨_,aZ X.sr rfl,Rx.IF y λa2 c2 h2 f2 s2=>⟨_,_,_,rfl,?_⟩⟩);have X2:=X.no kp kq f2;obtain⟨F2,x2,_⟩:=X2.x;refine os ⟨_,aZ X2.sr rfl,Tm.CK x2 oX λa3 l3 c3 h3 f3 el3 s3=>⟨_,_,_,rfl,?_⟩⟩;have X3:=X2.no kp kq f3;have s2':=s2.fr f3 λ_ _ _ y=>y;have e3:T.written.length=l3:=Ap.Uu (vs:=T.written) s3;refine ES (ns:=T.written) s3.cells s2'.cells e3 rfl oX ⟨_,rfl,iu (ct rfl ?_)⟩;refine⟨λi hx=>∃j:Nat,i=j/\j<=T.written.length/\Fr No h3 hx,λi _=>((T.written.length:Int)-i).toNat,⟨0,rfl,bN _,Fr.refl _ _⟩,?_⟩;rintro _ h5 ⟨j,rfl,hj,f5⟩;have X5:=X3.no kp kq f5;have f05:Fr No hh h5:=(f2.no f3).no f5;refine cd (λbV=>?_) λ_=>hK h5 f05;have rA:j<T.written.length:=oX;obtain⟨p,ep,cp⟩:=Ap.Dv (ns:=T.written) (ak.fr f5 s2'.cells λ_ _ y=>y) rA;obtain⟨F5,x5,_⟩:=X5.x;rw[cA,wq ((j:Int)+1)];refine⟨⟨oX,bV⟩,Rz.oe ep ⟨_,cp,os ⟨_,aZ X5.sr rfl,Tm.dv x5 λa6 l6 c6 h6 f6 el6 s6=>⟨_,_,_,_,rfl,?_⟩⟩⟩⟩;have X6:=X5.no kp kq f6;obtain⟨E6,y6,_⟩:=X6.y;refine os ⟨_,aZ X6.sr rfl,Rx.dv y6 λa7 l7 c7 h7 f7 el7 s7=>⟨_,_,_,_,rfl,cn (λy=>absurd rfl y) λ_=>⟨_,(s6.fr f7 λ_ _ _ y=>y).str,_,s7.str,iu (ct (beq_self_eq_true _) ⟨⟨j+1,rfl,rA,(f5.no f6).no f7⟩,bW bV⟩)⟩⟩⟩
theorem EC(X:Xt h1 sb d q t u g T T hh ao)(hK:∀ h' aB,Mv hh ao h' aB->Xt h1 sb d q t u g (TM.ended T.cB) (TM.ended T.cB) h' aB->K (.tuple #[]) h') :
  C.gQ t hh λr h2=>r = .tuple #[]/\ae (some ⟨sb,0,none⟩) λp=>∃q1:OA,cellOf h2 (Addr.add p 3)=some (vP q1)/\C.dO q1 h2 K:=by
 obtain⟨F,x,hF⟩:=X.x;refine Tm.P7 x λh3 F3 f3 g3 x3=>⟨rfl,?_⟩;obtain⟨HO,m3,X3⟩:=Td.prog X hF f3 g3 x3;obtain⟨E3,y3,Yw⟩:=X3.y;refine os ⟨_,aZ X3.sr rfl,Rx.Oi y3 λh4 f4 y4=>?_⟩;obtain⟨zW,m4,X4⟩:=Td.doc X3 Yw f4 (Gw.refl f4.size λb hb=>y3.lt hb) y4;exact hK h4 zW (m3.trans m4) X4
theorem HQ(G:Re.lT h1)(X:Xt h1 sb d q t u g T T hh ao)(iv:Iw c U n T)(hU:U<800000000)(hc:c<200000){Kf Kt:HP}(hK:∀ h' aB,Mv hh ao h' aB->Xt h1 sb d q t u g T.jv.1 T.jv.1 h' aB->Iw (c+1) U n T.jv.1->Kt h') :
  C.gZ t hh λr h2=>∃n:Int,r = vI n/\cellOf h2 (Addr.add ⟨sb,0,none⟩ 3)=some (vP u)/\C.eE u h2 λr2 h3=>∃m:Int,r2 = vI m/\bif(n != m)then Kf h3 else Kt h3:=by
 have un:=iv.un;have tp:=iv.tp;have pe:=iv.pe;obtain⟨F,x,hF⟩:=X.x;obtain⟨E,y,hE⟩:=X.y;refine Tm.tf (G.no X.fr) x (by have:=Ol y;omega) oX oX λh3 F3 f3 g3 x3=>⟨_,rfl,?_⟩;obtain⟨iv3,hW⟩:=iv.jv hc y;obtain⟨HO,m3,X3⟩:=Td.prog X hF f3 g3 x3;obtain⟨E3,y3,Yw⟩:=X3.y;refine⟨aZ X3.sr rfl,Rx.tf y3 oX hW λh4 E4 f4 g4 y4=>⟨_,rfl,cn (λy=>absurd rfl y) λ_=>?_⟩⟩;obtain⟨zW,m4,X4⟩:=Td.doc X3 Yw f4 g4 y4;exact hK h4 zW (m3.trans m4) X4 iv3
end
end Td
namespace Td
open Hp W Ad Tm Spc Av Tp Sx
open Di (gv jV fW lD findD dd2)
structure HR where
 kind:Int
 n:Int
 s:cC
 inode:Int
def HR.cells(o:HR):LV:=[vI o.kind,vI o.n,.string (mkStr o.s),vI o.inode]
section
variable{h1 hh h' : ad}{sb n c U : Nat}{d q t u : OA}{T : TM}{ao aB : Nat -> Nat}{K : Value -> ad -> Prop}{o : HR}
theorem Mv.rd(m:Mv hh ao h' aB){b:Nat}(hb:b<hh.size)(h0:ao b=0):Hp.rd h' b=Hp.rd hh b:=m.f.rd hb λy=>by have:=y.1;omega
theorem HS(G:Re.lT h1)(X:Xt h1 sb d q t u (af n) T T hh ao)(dm:zV n)(hN:98<=T.N)(hu:T.aD.length<500000000)(hs:o.s.length<=140737488351232)
  (hK:∀h' aB T',Mv hh ao h' aB->Xt h1 sb d q t u (af n) T' T' h' aB->Same T T' 480->K (.bool true) h'):C.bm (some ⟨sb,0,none⟩) o.cells hh K:=by
 have kp:=rD t d T;have kq:=tz u q T;have hg:(af n).count<=4294967296:=by have:=dm.hi;show 8*(n/64)<=_;omega
 have hp:1<=h1.size:=by have:=G.lt;omega
 have glo:∀{hx:ad} {HT:Nat->Nat} {V W:TM},Xt h1 sb d q t u (af n) V W hx HT->In.lT hx:=λY=>⟨(G.no Y.fr).wide⟩;have low:∀{hx:ad} {HT:Nat->Nat} {V W:TM} {F:NP},Xt h1 sb d q t u (af n) V W hx HT->(∀b,F b->HT b=2)->∀b,b<1->¬F b:=λY hF b hb y=>by have:=hF _ y;have:=Y.base b oX;omega
 refine bm.ok (aC.intro λh2 n2=>⟨_,aZ n2.rd rfl,?_⟩);have X2:=X.no kp kq n2.fr;have z2:=n2.size;have c0:ao hh.size=0:=X.wA _ (bE _);have M2:Mv hh ao h2 ao:=Mv.no n2.fr;obtain⟨F,x,hF⟩:=X2.x;have op:∀{hx:ad} {HT:Nat->Nat},Mv h2 ao hx HT->Hp.rd hx hh.size=o.cells:=λm=>(m.rd oX c0).trans n2.rd
 -- Add
 refine ce (λ_=>os ⟨_,aZ X2.sr rfl,os ⟨(af n).v,rfl,fC X2,_,aZ n2.rd rfl,_,aZ n2.rd rfl,_,aZ n2.rd rfl,os ⟨_,aZ X2.sr rfl,os ⟨(af n).v,rfl,fC X2,_,aZ n2.rd rfl,_,aZ n2.rd rfl,_,aZ n2.rd rfl,?_⟩⟩⟩⟩) λ_=>?_
 ·refine Di.uO (glo X2) dm x (low X2 hF) oX λh3 F3 f3 g3 x3=>⟨_,rfl,?_⟩;obtain⟨HO,m3,X3⟩:=Td.prog X2 hF f3 g3 x3;obtain⟨E3,y3,Yw⟩:=X3.y;have o3:=op m3;refine⟨aZ X3.sr rfl,⟨rfl,fC X3⟩,aZ o3 rfl,aZ o3 rfl,aZ o3 rfl,Rq.Kq y3 dm hN hg oX λh4 F4 f4 g4 y4=>⟨_,rfl,ct (beq_self_eq_true _) ?_⟩⟩;obtain⟨zW,m4,X4⟩:=Td.doc X3 Yw f4 g4 y4;exact rF X4 λh5 f5=>⟨_,rfl,hK h5 zW _ (((M2.trans m3).trans m4).trans (Mv.no f5)) (X4.no (rD _ _ _) (tz _ _ _) f5) ((Ku _ _ _ _ _).le oX)⟩
 -- Remove
 refine ce (λ_=>os ⟨_,aZ X2.sr rfl,os ⟨(af n).v,rfl,fC X2,_,aZ n2.rd rfl,_,aZ n2.rd rfl,?_⟩⟩) λ_=>?_
 ·refine Di.N9 (glo X2) dm x oX λh3 F3 f3 g3 x3=>⟨_,_,rfl,?_⟩;obtain⟨HO,m3,X3⟩:=Td.prog X2 hF f3 g3 x3;obtain⟨E3,y3,Yw⟩:=X3.y;have o3:=op m3;refine os ⟨_,aZ X3.sr rfl,os ⟨(af n).v,rfl,fC X3,_,aZ o3 rfl,_,aZ o3 rfl,Rq.LY y3 (Fi.Qg dm) oX λh4 F4 f4 g4 y4=>⟨_,_,rfl,ct (beq_self_eq_true _) (ct (beq_self_eq_true _) ?_)⟩⟩⟩;obtain⟨zW,m4,X4⟩:=Td.doc X3 Yw f4 g4 y4;exact rF X4 λh5 f5=>⟨_,rfl,hK h5 zW _ (((M2.trans m3).trans m4).trans (Mv.no f5)) (X4.no (rD _ _ _) (tz _ _ _) f5) ((LZ _ _ _ _).le oX)⟩
 -- akq
 refine ce (λ_=>os ⟨_,aZ X2.sr rfl,os ⟨(af n).v,rfl,fC X2,_,aZ n2.rd rfl,_,aZ n2.rd rfl,_,aZ n2.rd rfl,?_⟩⟩) λ_=>?_
 ·refine Di.LP (glo X2) dm x oX λh3 F3 f3 g3 x3=>⟨_,_,rfl,?_⟩;obtain⟨HO,m3,X3⟩:=Td.prog X2 hF f3 g3 x3;obtain⟨E3,y3,Yw⟩:=X3.y;have o3:=op m3;refine os ⟨_,aZ X3.sr rfl,os ⟨(af n).v,rfl,fC X3,_,aZ o3 rfl,_,aZ o3 rfl,_,aZ o3 rfl,Rq.IG y3 (Fi.Qg dm) hg oX λh4 F4 f4 g4 y4=>⟨_,_,rfl,ct (beq_self_eq_true _) (ct (beq_self_eq_true _) ?_)⟩⟩⟩;obtain⟨zW,m4,X4⟩:=Td.doc X3 Yw f4 g4 y4;exact rF X4 λh5 f5=>⟨_,rfl,hK h5 zW _ (((M2.trans m3).trans m4).trans (Mv.no f5)) (X4.no (rD _ _ _) (tz _ _ _) f5) ((II _ _ _ _ _).le oX)⟩
 -- many
 refine ce (λ_=>?_) λ_=>hK h2 ao T M2 X2 (.no _ _);refine⟨λi hx=>∃(j:Nat) (T':TM) (aB:Nat->Nat),i=j/\j<=40/\Mv h2 ao hx aB/\Xt h1 sb d q t u (af n) T' T' hx aB/\Same T T' (12*j),λi _=>(((40:Nat):Int)-i).toNat,⟨0,T,ao,rfl,bN _,Mv.no (Fr.refl _ _),X2,.no _ _⟩,?_⟩;clear x hF F;rintro _ bf ⟨j,T',aB,rfl,hj,m,X',sm⟩;have o1:=op m
 have fin:C.bJ (some ⟨sb,0,none⟩) bf λYK gO=>∃(b4:Bool),YK = .bool b4/\K (.bool b4) gO:=
  rF X' λh5 f5=>⟨_,rfl,hK h5 aB _ ((M2.trans m).trans (Mv.no f5)) (X'.no (rD _ _ _) (tz _ _ _) f5) (sm.le oX)⟩
 refine⟨_,aZ o1 rfl,cd (λ_=>?_) λ_=>fin⟩;generalize hq:decide ((j:Int)<40)=b40;refine cs (λFg=>?_) λ_=>fin;have Fg:=of_decide_eq_true (hq.trans Fg);have hj9:j<40:=oX;unfold bm.k1;rw[wq ((j:Int)+1)];have hN':98<=T'.N:=by unfold TM.N at hN ⊢;rw[sm.1];exact hN
 have V1:=sm.2;refine os ⟨_,aZ X'.sr rfl,os ⟨(af n).v,rfl,fC X',_,aZ o1 rfl,_,aZ o1 rfl,os ⟨_,aZ X'.sr rfl,os ⟨(af n).v,rfl,fC X',_,aZ o1 rfl,_,aZ o1 rfl,?_⟩⟩⟩⟩;refine Di.HH (i:=j) oX oX λbQ f13=>⟨_,rfl,?_⟩;have X3:=X'.no (rD _ _ _) (tz _ _ _) f13;have m3:=m.trans (Mv.no f13);have o3:=op m3;obtain⟨F,x,hF⟩:=X3.x;refine⟨aZ X3.sr rfl,⟨rfl,fC X3⟩,aZ o3 rfl,aZ X3.sr rfl,⟨rfl,fC X3⟩,aZ o3 rfl,aZ o3 rfl,?_⟩;refine Di.uO (glo X3) dm x (low X3 hF) oX λcX F4 f4 g4 x4=>⟨_,rfl,?_⟩;obtain⟨zW,m4,X4⟩:=Td.prog X3 hF f4 g4 x4;have m4:=m3.trans m4;have o4:=op m4;refine⟨aZ X4.sr rfl,⟨rfl,fC X4⟩,aZ o4 rfl,aZ o4 rfl,Di.HH (i:=j) oX oX λfN f15=>⟨_,rfl,?_⟩⟩;have X5:=X4.no (rD _ _ _) (tz _ _ _) f15;have m5:=m4.trans (Mv.no f15);have o5:=op m5;obtain⟨E,y,hE⟩:=X5.y;refine⟨aZ X5.sr rfl,⟨rfl,fC X5⟩,aZ o5 rfl,Rq.Kq y dm hN' hg oX λgN E6 f6 g6 y6=>⟨_,rfl,cn (λy=>absurd rfl y) λ_=>?_⟩⟩;obtain⟨PO,m6,X6⟩:=Td.doc X5 hE f6 g6 y6;exact⟨⟨j+1,_,PO,rfl,hj9,m5.trans m6,X6,(sm.trans (Ku _ _ _ _ _)).le oX⟩,bW (n:=(j:Int)) (m:=40) oX⟩
end
end Td
namespace Td
open Hp W Ad Tm Spc Av Tp Sx
open Di (gv jV fW lD findD)
open Hd (aV)
def Yx(s:cC)(v:Int):cC:=(List.range 512).map λi=>if s=[]then UInt8.ofNat (v%256).toNat else s.getD i 0
theorem Yy(s:cC)(v:Int):(Yx s v).length=512:=by rw[Yx,aP,List.length_range]
theorem afq(s:cC)(v:Int):∃B:cC,∃hB:B.length=512,(∀j (hj:j<512),B[j]' oX=if s=[]then UInt8.ofNat (v%256).toNat else s.getD j 0)/\B=Yx s v:=by
 refine⟨_,Yy s v,λj hj=>?_,rfl⟩;unfold Yx;rw[mu,List.getElem_range]
theorem wJ(v:Int):Value.int .u8 (IntKind.wrap .u8 v)=bv (UInt8.ofNat (v%256).toNat):=by
 have h0:0<=v%256:=Jy _ dX;have h1:v%256<256:=Jz _ dX
 have e:IntKind.wrap .u8 v=IntKind.wrap .u8 (v%256):=by
  unfold IntKind.wrap IntKind.signed IntKind.bits;simp only[SS,Bool.false_eq_true,if_false];omega
 rw[e];unfold bv;rw[lX,vg (show(v%256).toNat<2 ^ 8 by omega),wrap_u8 h0 oX,Int.toNat_of_nonneg h0]
theorem take_set{B:cC}(hl:B.length=512){j:Nat}(hj:j<512)(x:UInt8)(hx:x=B[j]' oX):(B.take j++aV (512-j)).set j x=B.take (j+1)++aV (512-(j+1)):=by
 have e:(B.take j).length=j:=by rw[dL];omega
 rw[JA _ _ oX,e,uH,show 512-j=(512-(j+1))+1 by omega];unfold Hd.aV;rw[uW,JB,hx,jJ (by omega:j<B.length),iW];rfl
theorem take_zero{B:cC}(hl:B.length=512){j:Nat}(hj:j<512)(hx:B[j]' oX=0):B.take j++aV (512-j)=B.take (j+1)++aV (512-(j+1)):=by
 rw[<-take_set hl hj 0 hx.symm];have e:(B.take j).length=j:=by rw[dL];omega
 rw[JA _ _ oX,e,uH,show 512-j=(512-(j+1))+1 by omega];unfold Hd.aV;rw[uW,JB]
section
variable{h : ad}{o : HR}{K : Value -> ad -> Prop}
theorem HU(hs:o.s.length<=140737488351232)(hK:∀ h' b,Fr No h h'->h.size<=b->b<h'.size->av h' (some ⟨b,0,none⟩) 512 (Yx o.s o.inode)->K (vS (some ⟨b,0,none⟩) 512 512) h'):C.fE o.cells h K:=by
 refine fE.ok (aC.intro λh2 n2=>⟨⟨by decide,by decide,by decide,by decide⟩,aC.intro λh3 n3=>?_⟩);have z2:=n2.size;have z3:=n3.size;obtain⟨B,hB,gB,eB⟩:=afq o.s o.inode;rw[<-eB]at hK;refine⟨λi hh=>∃j:Nat,i=j/\j<=512/\Fr No h hh/\dA hh h2.size/\h3.size<=hh.size/\rd hh h.size=o.cells/\rd hh h2.size=(B.take j++aV (512-j)).map bv,λi _=>(((512:Nat):Int)-i).toNat,⟨0,rfl,bN _,n2.fr.new n3,n3.own,bE _,(n3.at_).trans n2.rd,n3.rd.trans (Wd.afc _)⟩,?_⟩;rintro i h4 ⟨j,ei,hj,f,w,z,ro,r⟩;subst ei;have rl:(rd h4 h2.size).length=512:=by rw[r,aP,bg,dL,Hd.eN];omega
 generalize hq:decide ((j:Int)<((Int.toNat 512:Nat):Int))=b;refine cs (λbV=>?_) λbV=>?_
 ·have bV:=of_decide_eq_true (hq.trans bV);have rA:j<512:=by have:((Int.toNat 512:Nat):Int)=512:=rfl;omega
  have g:=gB j rA;rw[cA,wq ((j:Int)+1)]
  have wr:∀x:UInt8,x=B[j]' oX->bD (Addr.add (bA h2) j) (bv x) h4 λh5=>(∃j':Nat,(j:Int)+1=j'/\j'<=512/\Fr No h h5/\dA h5 h2.size/\h3.size<=h5.size/\rd h5 h.size=o.cells/\rd h5 h2.size=(B.take j'++aV (512-j')).map bv)/\(((512:Nat):Int)-((j:Int)+1)).toNat<(((512:Nat):Int)-(j:Int)).toNat:=λx ex=>
   bD.add w (by rw[rl];omega) λh5 d5=>⟨⟨j+1,rfl,rA,f.did d5 λy=>oX,d5.own,by have:=d5.size;omega,(d5.at_).trans ro,by rw[d5.rd,r,Nat.zero_add,<-List.map_set,take_set hB rA x ex]⟩,bW (m:=512) oX⟩
  refine⟨_,aZ ro rfl,?_⟩;rw[toList_mkStr,toList_mkStr]
  by_cases e0:o.s=[]
  ·rw[if_pos e0]at g;refine ct (by rw[e0];rfl) ⟨_,aZ ro rfl,⟨oX,bV⟩,?_⟩;rw[wJ];exact wr _ g.symm
  ·rw[if_neg e0]at g
   have e1:(o.s==([]:LB))=false:=by
    cases DQ:o.s with
    | nil=>exact absurd DQ e0
    | cons a l=>rfl
   refine cf e1 ⟨_,aZ ro rfl,cd (λhl=>?_) λhl=>?_⟩
   ·have hl:(j:Int)<(o.s.length:Int):=hl;refine⟨_,aZ ro rfl,⟨oX,hl⟩,o.s.getD j 0,?_,⟨oX,bV⟩,wr _ g.symm⟩;rw[toList_mkStr,gh,fg oX];rfl
   ·have hl:¬(j:Int)<(o.s.length:Int):=hl;have g0:B[j]' oX=0:=(by rw[g,gh,CU oX];rfl);refine⟨⟨j+1,rfl,rA,f,w,z,ro,?_⟩,bW (m:=512) oX⟩;rw[r,take_zero hB rA g0]
 ·have bV:=of_decide_eq_false (hq.trans bV);have rA:j=512:=by have:((Int.toNat 512:Nat):Int)=512:=rfl;omega
  subst rA;rw[uH,show aV 0=[] from rfl,gi,gL oX]at r;exact hK h4 h2.size f oX oX (yv r hB)
end
section
variable{h1 hh h' : ad}{sb n c U : Nat}{d q t u : OA}{T : TM}{ao aB : Nat -> Nat}{K : Value -> ad -> Prop}{o : HR}
theorem ED{b1 b2:Nat}{w:Int}{bs:cC}{Kf Kt:HP}(X:Xt h1 sb d q t u (af n) T T hh ao)(ho:rd hh ob=o.cells)(c0:ao ob=0)(B1:av hh (some ⟨b1,0,none⟩) 512 bs)(B2:av hh (some ⟨b2,0,none⟩) 512 bs)(e1:ao b1=0)(e2:ao b2=0)(hu:T.aD.length<900000000)
  (hK:∀h' aB T',Mv hh ao h' aB->Xt h1 sb d q t u (af n) T' T' h' aB->Same T T' 1->Kt h') :
  C.aX t w (some ⟨b1,0,none⟩) 512 512 hh λr9 bQ=>∃n21:Int,r9 = vI n21/\(cellOf bQ (Addr.add ⟨sb,0,none⟩ 3)=some (vP u))/\(cellOf bQ (Addr.add ⟨ob,0,none⟩ 1)=some (vI o.n))/\
   C.aA u w (some ⟨b2,0,none⟩) 512 512 bQ λE1 fN=>∃n22:Int,E1 = vI n22/\bif(n21 != n22)then Kf fN else Kt fN:=by
 obtain⟨F,x,hF⟩:=X.x;have nF:∀b,ao b=0->¬F b:=λb hb y=>by have:=hF _ y;omega
 refine Tm.fp x B1 dX (λp e y=>by cases e;exact nF _ e1 y) oX λh3 F3 f3 g3 x3=>⟨_,rfl,?_⟩;obtain⟨HO,m3,X3⟩:=Td.prog X hF f3 g3 x3;have o3:rd h3 ob=o.cells:=(m3.rd (pE (o:=0) (by rw[ho];rfl)) c0).trans ho;have B3:=av.fr f3 B2 λp e y=>by cases e;exact nF _ e2 y
 obtain⟨E,y3,hE⟩:=X3.y;refine⟨aZ X3.sr rfl,aZ o3 rfl,Rx.qC y3 B3 oX λh4 E4 f4 g4 y4=>⟨_,rfl,cn (λy=>absurd rfl y) λ_=>?_⟩⟩;obtain⟨zW,m4,X4⟩:=Td.doc X3 hE f4 g4 y4;exact hK h4 zW _ (m3.trans m4) X4 (Bs _ _ _)
theorem wN(n3:uy hh h3 (aL z5 (Int.toNat 512))):av h3 (some (bA hh)) 512 (aV 512):=yv (n3.rd.trans (Wd.afc _)) (Hd.eN _)
theorem U6{I:IP}{M:IM}(eo:h2.size=ob)(X:Xt h1 sb d q t u (af n) T T hh ao)(ho:rd hh ob=o.cells)(c0:ao ob=0)(hj:j<96)(hu:T.aD.length<800000000)
  (hK:∀h' aB T',Mv hh ao h' aB->Xt h1 sb d q t u (af n) T' T' h' aB->Same T T' 1->I ((j:Int)+1) h'/\M ((j:Int)+1) h'<M j hh) :
  aY.k1 (some ⟨sb,0,none⟩) h2 j hh I M K:=by
 unfold aY.k1;subst eo;rw[wq ((j:Int)+1)];have lo:h2.size<hh.size:=pE (o:=0) (by rw[ho];rfl);have cz:∀b,hh.size<=b->ao b=0:=X.wA;have kp:=λV=>rD t d V;have kq:=λV=>tz u q V;have dk:(0<=(512:Int)/\(512:Int)<=512/\(1:Int)*512<=281474976710656/\(512:Int)<=281474976710656):=⟨by decide,by decide,by decide,by decide⟩;refine os ⟨_,aZ X.sr rfl,_,aZ ho rfl,os ⟨_,aZ X.sr rfl,_,aZ ho rfl,⟨dk,aC.intro λh3 n3=>?_⟩,dk,aC.intro λh3 n3=>?_⟩⟩
 ·have X3:=X.no (kp T) (kq T) n3.fr;have o3:rd h3 h2.size=o.cells:=(n3.at_ lo).trans ho;have B3:=wN n3;have z3:=n3.size;refine⟨aZ X3.sr rfl,aZ o3 rfl,aZ X3.sr rfl,aZ o3 rfl,?_,dk,aC.intro λh4 n4=>?_⟩
  ·obtain⟨F,x,hF⟩:=X3.x;have nF:∀b,ao b=0->¬F b:=λb hb y=>by have:=hF _ y;omega
   refine Tm.fp x B3 dX (λp e y=>by cases e;exact nF _ (cz _ (bE _)) y) oX λh4 F4 f4 g4 x4=>⟨_,rfl,?_⟩;obtain⟨zW,m4,X4⟩:=Td.prog X3 hF f4 g4 x4;have o4:rd h4 h2.size=o.cells:=(m4.rd oX c0).trans o3;refine⟨aZ X4.sr rfl,aZ o4 rfl,dk,aC.intro λh5 n5=>?_⟩;have X5:=X4.no (rD _ _ _) (tz _ _ _) n5.fr;have z4:=f4.size;have o5:rd h5 h2.size=o.cells:=(n5.at_).trans o4;have B5:=wN n5;obtain⟨E,y5,hE⟩:=X5.y;refine⟨aZ X5.sr rfl,aZ o5 rfl,aZ X5.sr rfl,aZ o5 rfl,Rx.qC y5 B5 oX λh6 E6 f6 g6 y6=>⟨_,rfl,cn (λy=>absurd rfl y) λ_=>?_⟩⟩;obtain⟨PO,m6,X6⟩:=Td.doc X5 hE f6 g6 y6;exact hK h6 PO _ ((((Mv.no n3.fr).trans m4).trans (Mv.no n5.fr)).trans m6) X6 (Bs _ _ _)
  ·have X4:=X3.no (kp T) (kq T) n4.fr;have o4:rd h4 h2.size=o.cells:=(n4.at_).trans o3;have B4:=wN n4;exact⟨aZ X4.sr rfl,aZ o4 rfl,aZ X4.sr rfl,aZ o4 rfl,ED X4 o4 c0 (av.fr n4.fr B3 λ_ _ y=>y) B4 (cz _ (bE _)) (cz _ oX) oX λh5 afr T5 m5 X5 s5=>hK h5 afr T5 (((Mv.no n3.fr).trans (Mv.no n4.fr)).trans m5) X5 s5⟩
 ·have X3:=X.no (kp T) (kq T) n3.fr;have o3:rd h3 h2.size=o.cells:=(n3.at_ lo).trans ho;have B3:=wN n3;have z3:=n3.size;refine⟨aZ X3.sr rfl,aZ o3 rfl,aZ X3.sr rfl,aZ o3 rfl,dk,aC.intro λh4 n4=>?_⟩;have X4:=X3.no (kp T) (kq T) n4.fr;have o4:rd h4 h2.size=o.cells:=(n4.at_).trans o3;have B4:=wN n4;exact⟨aZ X4.sr rfl,aZ o4 rfl,aZ X4.sr rfl,aZ o4 rfl,ED X4 o4 c0 B4 (av.fr n4.fr B3 λ_ _ y=>y) (cz _ oX) (cz _ (bE _)) oX λh5 afr T5 m5 X5 s5=>hK h5 afr T5 (((Mv.no n3.fr).trans (Mv.no n4.fr)).trans m5) X5 s5⟩
theorem HV(X:Xt h1 sb d q t u (af n) T T hh ao)(hK:∀ h' aB t' u',Mv hh ao h' aB->Xt h1 sb d q t' u' (af n) ⟨T.cB,[],[],false⟩ ⟨T.cB,[],[],false⟩ h' aB->K (.bool true) h'):aY.k2 (some ⟨sb,0,none⟩) hh K:=by
 unfold aY.k2;exact os ⟨_,aZ X.sr rfl,EC X λh2 HN m2 X2=>⟨rfl,Au (acw X2) λh3 HO t' u' m3 X3=>⟨_,rfl,hK h3 HO t' u' (m2.trans m3) X3⟩⟩⟩
theorem L4(G:Re.lT h1)(X:Xt h1 sb d q t u (af n) T T hh ao)(dm:zV n)(iv:Iw c U n T)(hc:c<200000)(hU:U<400000000)(hs:o.s.length<=140737488351232)
  (hK:∀h' aB t' u' T',Mv hh ao h' aB->Xt h1 sb d q t' u' (af n) T' T' h' aB->Iw (c+1) (U+600) n T'->K (.bool true) h'):C.aY (some ⟨sb,0,none⟩) o.cells hh K:=by
 have kp:=rD t d T;have kq:=tz u q T;have un:=iv.un;have hNt:∀{V:TM},V.cB=T.cB->98<=V.N:=λe=>by have:=iv.n;have:=dm.lo;unfold TM.N at *;rw[e];omega
 have gl:In.lT hh:=⟨(G.no X.fr).wide⟩;have hp:1<=h1.size:=by have:=G.lt;omega
 refine aY.ok (aC.intro λh2 n2=>⟨_,aZ n2.rd rfl,?_⟩);have X2:=X.no kp kq n2.fr;have YY:=gl.no n2.fr;have z2:=n2.size;have c0:ao hh.size=0:=X.wA _ (bE _);have M2:Mv hh ao h2 ao:=Mv.no n2.fr;obtain⟨F,x,hF⟩:=X2.x;have op:∀{hx:ad} {HT:Nat->Nat},Mv h2 ao hx HT->rd hx hh.size=o.cells:=λm=>(m.rd oX c0).trans n2.rd;have next:∀{T':TM} {k:Nat},Same T T' k->k<=600->Iw (c+1) (U+600) n T':=λh hk=>((iv.same h).le (qw c) oX);have acH:Iw (c+1) (U+600) n T:=next (.no _ 0) oX
 have chg:∀{hx:ad} {HT:Nat->Nat} {V:TM},Mv h2 ao hx HT->Xt h1 sb d q t u (af n) V V hx HT->Same T V 96->C.bm (some ⟨sb,0,none⟩) o.cells hx λr h=>∃b:Bool,r = .bool b/\K (.bool b) h:=λm Y s=>
  HS G Y dm (hNt s.1) (by have:=s.2;omega) hs λh3 HO T3 m3 X3 s3=>⟨_,rfl,hK h3 HO t u T3 ((M2.trans m).trans m3) X3 (next (s.trans s3) oX)⟩
 -- Find
 refine ce (λ_=>os ⟨_,aZ X2.sr rfl,os ⟨(af n).v,rfl,fC X2,_,aZ n2.rd rfl,_,aZ n2.rd rfl,Di.qy YY dm x λh3 f3=>⟨_,_,rfl,?_⟩⟩⟩) λ_=>?_
 ·have X3:=X2.no kp kq f3;obtain⟨E3,y3,Yw⟩:=X3.y;have o3:=op (Mv.no f3);refine os ⟨_,aZ X3.sr rfl,os ⟨(af n).v,rfl,fC X3,_,aZ o3 rfl,_,aZ o3 rfl,Rq.qy y3 (Fi.Qg dm) λh4 f4=>⟨_,_,rfl,ct (beq_self_eq_true _) ?_⟩⟩⟩;rw[beq_self_eq_true];exact hK h4 ao t u _ ((M2.trans (Mv.no f3)).trans (Mv.no f4)) (X3.no kp kq f4) acH
 -- Size
 refine ce (λ_=>os ⟨_,aZ X2.sr rfl,os ⟨(af n).v,rfl,fC X2,_,aZ n2.rd rfl,Di.UX YY dm x λh3 f3=>⟨_,_,rfl,?_⟩⟩⟩) λ_=>?_
 ·have X3:=X2.no kp kq f3;obtain⟨E3,y3,Yw⟩:=X3.y;have o3:=op (Mv.no f3);refine os ⟨_,aZ X3.sr rfl,os ⟨(af n).v,rfl,fC X3,_,aZ o3 rfl,Rq.QJ y3 (Fi.Qg dm) λh4 f4=>⟨_,_,rfl,ct (beq_self_eq_true _) ?_⟩⟩⟩;rw[beq_self_eq_true];exact hK h4 ao t u _ ((M2.trans (Mv.no f3)).trans (Mv.no f4)) (X3.no kp kq f4) acH
 -- bD
 refine ce (λ_=>os ⟨_,aZ X2.sr rfl,_,aZ n2.rd rfl,o.cells,rfl,ah n2.rd,os ⟨_,aZ X2.sr rfl,_,aZ n2.rd rfl,o.cells,rfl,ah n2.rd,HU hs λh3 b3 f3 l3 u3 B3=>⟨_,_,_,rfl,?_⟩⟩⟩) λ_=>?_
 ·have X3:=X2.no kp kq f3;have o3:=op (Mv.no f3);obtain⟨F3,x3,hF3⟩:=X3.x;have nF:∀b,ao b=0->¬F3 b:=λb hb y=>by have:=hF3 _ y;omega
  refine⟨aZ X3.sr rfl,aZ o3 rfl,aZ X3.sr rfl,aZ o3 rfl,⟨rfl,ah o3⟩,?_⟩;refine Tm.fp x3 B3 dX (λp e y=>by cases e;exact nF _ (X2.wA _ l3) y) oX λh4 F4 f4 g4 x4=>⟨_,rfl,?_⟩;obtain⟨zW,m4,X4⟩:=Td.prog X3 hF3 f4 g4 x4;have m4:=(Mv.no f3).trans m4;have o4:=op m4;refine⟨aZ X4.sr rfl,aZ o4 rfl,⟨rfl,ah o4⟩,HU hs λh5 b5 f5 l5 u5 B5=>⟨_,_,_,rfl,?_⟩⟩;have X5:=X4.no (rD _ _ _) (tz _ _ _) f5;have m5:=m4.trans (Mv.no f5);have o5:=op m5;obtain⟨E,y5,hE⟩:=X5.y;refine⟨aZ X5.sr rfl,aZ o5 rfl,Rx.qC y5 B5 oX λh6 E6 f6 g6 y6=>⟨_,rfl,?_⟩⟩;obtain⟨PO,m6,X6⟩:=Td.doc X5 hE f6 g6 y6;rw[beq_self_eq_true];exact hK h6 PO t u _ ((M2.trans m5).trans m6) X6 (next (Bs _ _ _) oX)
 -- Fill
 refine ce (λ_=>?_) λ_=>?_
 ·refine⟨λi hx=>∃(j:Nat) (T':TM) (aB:Nat->Nat),i=j/\j<=96/\Mv h2 ao hx aB/\Xt h1 sb d q t u (af n) T' T' hx aB/\Same T T' j,λi _=>(((96:Nat):Int)-i).toNat,⟨0,T,ao,rfl,bN _,Mv.no (Fr.refl _ _),X2,.no _ _⟩,?_⟩;rintro _ cu ⟨j,T',aB,rfl,hj,m,X',sm⟩;have o1:=op m;have fin:=chg m X' (sm.le hj);refine⟨_,aZ o1 rfl,cd (λ_=>?_) λ_=>⟨o.cells,rfl,ah o1,fin⟩⟩;generalize hdq:decide ((j:Int)<96)=b96;refine cs (λh96=>?_) λ_=>⟨o.cells,rfl,ah o1,fin⟩;have h96:=of_decide_eq_true (hdq.trans h96);have hj9:j<96:=oX;have V1:=sm.2;exact U6 (o:=o) rfl X' o1 ((m.g _ oX).trans c0) hj9 oX λh' HN T2 m2 Y2 s2=>⟨⟨j+1,T2,HN,rfl,hj9,m.trans m2,Y2,sm.trans s2⟩,bW (n:=(j:Int)) (m:=96) oX⟩
 -- End
 refine ce (λ_=>⟨_,aZ n2.rd rfl,Di.Ov dX dX ⟨_,rfl,ce (λ_=>os ⟨_,aZ X2.sr rfl,os ⟨_,aZ X2.sr rfl,?_⟩⟩) λ_=>HV X2 λh' aB t' u' m' X'=>hK h' aB t' u' _ (M2.trans m') X' (next (k:=0) (T':=⟨T.cB,[],[],false⟩) ⟨rfl,bN _⟩ oX)⟩⟩) λ_=>?_
 ·exact HQ G X2 iv oX hc λh3 HO m3 X3 iv3=>HV X3 λh' aB t' u' m' X'=>hK h' aB t' u' _ ((M2.trans m3).trans m') X' ((iv3.same (k:=0) (T':=⟨T.jv.1.cB,[],[],false⟩) ⟨rfl,bN _⟩).le (bE _) oX)
 -- Over
 refine ce (λ_=>os ⟨_,aZ X2.sr rfl,EC X2 λh3 HO m3 X3=>⟨rfl,o.cells,rfl,ah (op m3),?_⟩⟩) λ_=>⟨o.cells,rfl,ah n2.rd,chg (Mv.no (Fr.refl _ _)) X2 (.no _ _)⟩;exact chg (V:=TM.ended T.cB) m3 X3 ⟨rfl,bN _⟩
end
end Td
namespace Td
open Hp W Ad Tm Spc Av Tp Sx Re Ss
open Di (lD)
open Sk (E)
theorem OC(z:E)(xs:List E)(n:Nat)(hn:n<xs.length):(List.replicate n z++xs.drop n).set n z=List.replicate (n+1) z++xs.drop (n+1):=by
 rw[JA _ _ (by rw[dU];omega),dU,uH,lh hn,JB,acB,iW];rfl
theorem Yz{e:E}{r:List E}(z:ak h a ((List.replicate m e++r).flatMap E.v))(hj:j<m):∃p,a=some p/\ai h (p.add (j*3)) (E.v e):=by
 obtain⟨p,ep,c⟩:=Sw z E.len oX (i:=j) (by rw[bg,dU];omega);rw[JQ (by rw[dU];exact hj),List.getElem_replicate]at c;exact⟨p,ep,c⟩
theorem OD(m:Nat)(e:E):(List.replicate m e).flatMap E.v++E.v e=(List.replicate (m+1) e).flatMap E.v:=by
 rw[acB,iy];simp
def IJ(v:Int):E:=⟨v,[],0⟩
section
variable{h1 hh : ad}{sb n : Nat}{d q t u : OA}{T : TM}{ao : Nat -> Nat}{K : Value -> ad -> Prop}{ba : OA}{bc : Nat}{xs : List xO}
theorem YA{L:List E}{h4:ad}{a1 a2:OA}{c1:Nat}(X:Xt h1 sb d q t u (af n) T T hh ao)(B:Bk hh ao ba bc xs)(hx:xs.length<=1000)(hL:L.length<=1000000)(f2:Fr No hh h2)(f3:Fr No h2 h3)(f4:Fr No h3 h4)
  (s1:Sl h4 3 a1 L.length c1 (L.flatMap E.v) (λb=>hh.size<=b/\b<h2.size)) (s2:Sl h4 3 a2 L.length c2 (L.flatMap E.v) (λb=>h2.size<=b/\b<h3.size)) (s3:Sl h4 3 a3 L.length c3 (L.flatMap E.v) (λb=>h3.size<=b/\b<h4.size))
  (hK:∀h' aB ba' bc' xs',Xt h1 sb d q t u (af n) T T h' aB->Bk h' aB ba' bc' xs'->xs'.length=xs.length+2->K (.tuple #[vS ba' (xs.length+2) bc',.bool true]) h') :
  cD.k1 ba xs.length bc a1 L.length c1 a2 L.length c2 a3 L.length c3 h4 K:=by
 have z2:=f2.size;have z3:=f3.size;have z4:=f4.size;unfold cD.k1;generalize hw:wI ((-5)-(xs.length:Int))=w;have AE:(rV).bytes=32:=rfl
 refine⟨λma ml mc i hy=>∃j:Nat,i=j/\j<=L.length/\ml=j/\Fr (λb=>h2.size<=b/\b<h3.size) h4 hy/\Sl hy 3 a2 L.length c2 ((List.replicate j (IJ w)++L.drop j).flatMap E.v) (λb=>h2.size<=b/\b<h3.size)/\Sl hy 3 ma j mc ((List.replicate j (IJ w)).flatMap E.v) (λb=>h4.size<=b),
  λ_ _ _ i _=>((L.length:Int)-i).toNat,⟨0,rfl,bN _,rfl,Fr.refl _ _,s2,Sl.nil _ _ _⟩,?_⟩
 rintro ma j mc _ h8 ⟨_,rfl,hj,rfl,f8,b8,m8⟩;have z8:=f8.size;refine cd (λbV=>?_) λbV=>?_
 ·have rA:j<L.length:=oX;obtain⟨p,rfl,_⟩:=b8.get oX;obtain⟨pb,po,ps⟩:=p;have eps:ps=none:=b8.2.1;subst eps;have pF:h2.size<=pb/\pb<h3.size:=b8.2.2.1;obtain⟨w8,wl8⟩:=b8.wr;rw[cA,wq ((j:Int)+1)];refine⟨⟨oX,bV⟩,os (az.add w8 rfl (E.one (IJ w)) oX λh9 d9=>?_)⟩;have b9:=b8.K6 (λx _=>E.len x) (i:=j) (y:=IJ w) (by rw[bg,dU,jM];omega) (E.len _) d9;rw[OC _ _ _ rA]at b9;have z9:=d9.size;have m9:=m8.fr d9.fr λb _ y e=>by have e:b=pb:=e;omega
  obtain⟨p',ep,cp⟩:=Yz b9.cells (j:=j) (Nat.lt_succ_self j)
  cases ep
  refine⟨⟨oX,bV⟩,os ⟨E.v (IJ w),rfl,cp,rfl,aC.intro λbG n10=>⟨E.v (IJ w),rfl,ah n10.rd,E.one _,?_⟩⟩⟩;have Vu:=n10.size;have m10:=m9.fr n10.fr λ_ _ _ y=>y;refine cY (elem:=rV) m10 rfl rfl (by rw[AE];omega) oX λa' c' cu f11 E2=>?_;rw[OD]at E2;exact⟨⟨j+1,rfl,rA,rfl,((f8.did d9 λ_=>pF).new n10).trans f11 λb hb y=>oX,(b9.fr n10.fr λ_ _ _ y=>y).fr f11 λb _ y1 y2=>oX,E2.mono λb y=>by rcases y with y|y <;> omega⟩,bW (m:=L.length) oX⟩
 ·have rA:j=L.length:=oX;subst rA;rw[qY (bE _),gi]at b8;have er:(List.replicate L.length (IJ w)).length=L.length:=dU;refine⟨rfl,rfl,aC.intro λbf n12=>⟨[vS a1 L.length c1,vS a3 L.length c3,vS a2 L.length c2,vS ma L.length mc],rfl,ah n12.rd,λv hv=>?_,?_⟩⟩
  ·simp only[fO,nT,or_false]at hv
   rcases hv with rfl|rfl|rfl|rfl <;> rfl
  have z12:=n12.size
  -- the ν
  obtain⟨ud,k0,k1,k2,k3,k4,k5⟩:∃ud:Nat->Nat,(∀b,b<hh.size->ud b=ao b)/\(∀b,hh.size<=b->b<h2.size->ud b=31+2*xs.length)/\(∀b,h2.size<=b->b<h3.size->ud b=31+2*(xs.length+1))/\(∀b,h3.size<=b->b<h4.size->ud b=32+2*xs.length)/\(∀b,h4.size<=b->b<h8.size->ud b=32+2*(xs.length+1))/\∀b,h8.size<=b->ud b=0:=by
   refine⟨λb=>if b<hh.size then ao b else if b<h2.size then 31+2*xs.length else if b<h3.size then 31+2*(xs.length+1)else if b<h4.size then 32+2*xs.length else if b<h8.size then 32+2*(xs.length+1)else 0,λb y=>if_pos y,λb y1 y2=>?_,λb y1 y2=>?_,λb y1 y2=>?_,λb y1 y2=>?_,λb y1=>?_⟩
   ·show(if b<hh.size then _ else _)=_;rw[if_neg oX,if_pos y2]
   ·show(if b<hh.size then _ else _)=_;rw[if_neg oX,if_neg oX,if_pos y2]
   ·show(if b<hh.size then _ else _)=_;rw[if_neg oX,if_neg oX,if_neg oX,if_pos y2]
   ·show(if b<hh.size then _ else _)=_;rw[if_neg oX,if_neg oX,if_neg oX,if_neg oX,if_pos y2]
   ·show(if b<hh.size then _ else _)=_;rw[if_neg oX,if_neg oX,if_neg oX,if_neg oX,if_neg oX]
  have fh:Fr No hh bf:=(((f2.no f3).no f4).trans f8 λb hb y=>oX).new n12;have Vv:Xt h1 sb d q t u (af n) T T bf ud:=X.Vs (rD _ _ _) (tz _ _ _) fh (λb hb=>k0 b hb) (λb hb=>k5 b oX) λ_ y=>y.elim;have κ:Bk bf ud ba bc xs:=B.keep fh (λb hb=>k0 b hb) λ_ _ y=>y;have sa:Sl bf 3 a1 L.length c1 (L.flatMap E.v) (On ud (31+2*xs.length)):=((s1.fr f8 λb _ y1 y2=>oX).fr n12.fr λ_ _ _ y=>y).mono λb y=>k1 b y.1 y.2;have sc:Sl bf 3 a3 L.length c3 (L.flatMap E.v) (On ud (32+2*xs.length)):=((s3.fr f8 λb _ y1 y2=>oX).fr n12.fr λ_ _ _ y=>y).mono λb y=>k3 b y.1 y.2
  have sb2:Sl bf 3 a2 (List.replicate L.length (IJ w)).length c2 ((List.replicate L.length (IJ w)).flatMap E.v) (On ud (31+2*(xs.length+1))):=by
   rw[er];exact(b8.fr n12.fr λ_ _ _ y=>y).mono λb y=>k2 b y.1 y.2
  have sm:Sl bf 3 ma (List.replicate L.length (IJ w)).length mc ((List.replicate L.length (IJ w)).flatMap E.v) (On ud (32+2*(xs.length+1))):=by
   rw[er];exact((Sl.below m8).fr n12.fr λ_ _ _ y=>y).mono λb y=>k4 b y.1 y.2
  have OL:(Wj).bytes=48:=rfl;refine nW (elem:=Wj) κ.row rfl rfl (by rw[OL];omega) oX λa' c' bQ f13 Vo=>?_;have Vp:=f13.size;have ag:Ag bf.size ud (trim (nV ud bf.size 30) bQ.size):=(pX _ _ _).trans (BX _ _) f13.size;have n30:∀b k,31<=k->On ud k b->¬On ud 30 b:=λb k hk y1 y2=>by have y1:ud b=k:=y1;have y2:ud b=30:=y2;omega
  have kpS:∀{a:OA} {l c k:Nat} {vs:LV},31<=k->Sl bf 3 a l c vs (On ud k)->Sl bQ 3 a l c vs (On (trim (nV ud bf.size 30) bQ.size) k):=λhk s=>s.keep f13 ag λb y=>n30 b _ hk y
  have X13:=Vv.Vs (rD _ _ _) (tz _ _ _) f13 ag (λb hb=>vl hb) λb y=>by
   have y:ud b=30:=y;refine⟨oX,Nat.le_of_not_lt λz=>?_⟩;have:=Vv.base b z;omega
  have ev:(⟨a2,c2,ma,mc,List.replicate L.length (IJ w)⟩:xO).v=[vS a2 L.length c2,vS ma L.length mc]:=by unfold xO.v;rw[er]
  refine hK bQ _ a' c' (xs++[⟨a1,c1,a3,c3,L⟩,⟨a2,c2,ma,mc,List.replicate L.length (IJ w)⟩]) X13 ⟨?_,λi hi=>?_⟩ (by rw[bg];rfl)
  ·have e:(xs++[(⟨a1,c1,a3,c3,L⟩:xO),⟨a2,c2,ma,mc,List.replicate L.length (IJ w)⟩]).flatMap xO.v=xs.flatMap xO.v++[vS a1 L.length c1,vS a3 L.length c3,vS a2 L.length c2,vS ma L.length mc]:=by
    rw[iy];show _++((⟨a1,c1,a3,c3,L⟩:xO).v++((⟨a2,c2,ma,mc,List.replicate L.length (IJ w)⟩:xO).v++[]))=_;rw[ev];rfl
   rw[e,bg]
   exact(Sl.below Vo).mono λb y=>by
    have y1:nV ud bf.size 30 b=30:=y.1;show trim _ _ b=30;rw[sP y.2];exact y1
  ·rw[bg]at hi;have hi:i<xs.length+2:=hi
   rcases rI i xs.length with y|y
   ·have e:(xs++[(⟨a1,c1,a3,c3,L⟩:xO),⟨a2,c2,ma,mc,List.replicate L.length (IJ w)⟩])[i]'(by rw[bg];exact hi)=xs[i]:=JQ y;rw[e];exact(κ.it i y).keep f13 ag λb hb z=>n30 b (ud b) oX rfl z
   ·rcases rI i (xs.length+1)with y2|y2
    ·obtain rfl:i=xs.length:=oX
     have e:(xs++[(⟨a1,c1,a3,c3,L⟩:xO),⟨a2,c2,ma,mc,List.replicate L.length (IJ w)⟩])[xs.length]'(by rw[bg];exact hi)=⟨a1,c1,a3,c3,L⟩:=by
      rw[GO (bE _)];simp
     rw[e];exact⟨kpS oX sa,kpS oX sc,hL⟩
    ·obtain rfl:i=xs.length+1:=oX
     have e:(xs++[(⟨a1,c1,a3,c3,L⟩:xO),⟨a2,c2,ma,mc,List.replicate L.length (IJ w)⟩])[xs.length+1]'(by rw[bg];exact hi)=⟨a2,c2,ma,mc,List.replicate L.length (IJ w)⟩:=by
      rw[GO oX];simp
     rw[e];exact⟨kpS oX sb2,kpS oX sm,by show(List.replicate L.length (IJ w)).length<=_;omega⟩
theorem L5{m:Int}(G:Re.lT h1)(X:Xt h1 sb d q t u (af n) T T hh ao)(dm:zV n)(B:Bk hh ao ba bc xs)(hx:xs.length<=1000)
  (hK:∀h' aB ba' bc' xs',Xt h1 sb d q t u (af n) T T h' aB->Bk h' aB ba' bc' xs'->xs'.length=xs.length+2->K (.tuple #[vS ba' (xs.length+2) bc',.bool true]) h') :
  C.cD (some ⟨sb,0,none⟩) m ba xs.length bc hh K:=by
 have kp:=rD t d T;have kq:=tz u q T;have gl:In.lT hh:=⟨(G.no X.fr).wide⟩;have hL:=Rq.U2 T (af n) m;obtain⟨F,x,hF⟩:=X.x;refine cD.ok (os ⟨_,aZ X.sr rfl,os ⟨(af n).v,rfl,fC X,Di.um gl dm x λh2 a1 l1 c1 f2 e1 s1=>⟨_,_,_,_,rfl,?_⟩⟩⟩);have X2:=X.no kp kq f2;refine os ⟨_,aZ X2.sr rfl,os ⟨(af n).v,rfl,fC X2,Di.um (gl.no f2) dm (x.no f2) λh3 a2 l2 c2 f3 e2 s2=>⟨_,_,_,_,rfl,?_⟩⟩⟩;have X3:=X2.no kp kq f3;obtain⟨E3,y3,_⟩:=X3.y;refine os ⟨_,aZ X3.sr rfl,os ⟨(af n).v,rfl,fC X3,Rq.um y3 (Fi.Qg dm) λh4 a3 l3 c3 f4 e3 s3=>⟨_,_,_,_,rfl,?_⟩⟩⟩;subst e1 e2 e3;have r1:Sl h4 3 a1 _ c1 _ (λb=>hh.size<=b/\b<h2.size):=(((Sl.below s1).fr f3 λ_ _ _ y=>y).fr f4 λ_ _ _ y=>y);have r2:Sl h4 3 a2 _ c2 _ (λb=>h2.size<=b/\b<h3.size):=((Sl.below s2).fr f4 λ_ _ _ y=>y);have r3:Sl h4 3 a3 _ c3 _ (λb=>h3.size<=b/\b<h4.size):=Sl.below s3;generalize(lD T (af n) m).1=L at r1 r2 r3 hL ⊢;refine Di.sK r1.cells rfl r3.cells rfl oX ⟨_,rfl,iu (ct (decide_eq_true rfl) ?_)⟩;refine Di.sK r2.cells rfl r3.cells rfl oX ⟨_,rfl,iu (ct (decide_eq_true rfl) ?_)⟩;exact cn (λy=>absurd rfl y) λ_=>cn (λy=>absurd rfl y) λ_=>YA X B hx hL f2 f3 f4 r1 r2 r3 hK
end
end Td
namespace Td
open Hp W Ad Re Ss
open Sk (E)
structure Lg where
 a:OA
 l:Nat
 c:Nat
def Lg.s(y:Lg):Value:=vS y.a y.l y.c
def mkI(i:Nat):E:=IJ (wI ((-1000)-(i:Int)))
structure Lg.Ok(h:ad)(ao:Nat->Nat)(i:Nat)(y:Lg):Prop where
 s:Sl h 3 y.a y.l y.c ((List.replicate y.l (mkI i)).flatMap E.v) (On ao (31+2*i))
 m:y.l<=1000001
structure Hq(h0:ad)(ao:Nat->Nat)(ba:OA)(bc:Nat)(xs:List xO)(hx:ad)(cx:Nat->Nat)(ma:OA)(mc:Nat)(ys:List Lg):Prop where
 fr:Fr (λb=>29<=ao b) h0 hx
 ag:Ag h0.size ao cx
 wA:∀b,hx.size<=b->cx b=0
 row:Sl hx 2 ba xs.length bc (xs.flatMap xO.v) (On cx 30)
 more:Sl hx 1 ma ys.length mc (ys.map Lg.s) (On cx 29)
 le:ys.length<=xs.length
 done:∀i (hi:i<ys.length),ys[i].Ok hx cx i
 todo:∀i (hi:i<xs.length),ys.length<=i->Sl hx 3 xs[i].a xs[i].es.length xs[i].c (xs[i].es.flatMap E.v) (On cx (31+2*i))
section
variable{h0 hx hy : ad}{ao cx : Nat -> Nat}{ba ma : OA}{bc mc : Nat}{xs : List xO}{ys : List Lg}{K : Value -> ad -> Prop}
theorem S3(s:Sl h 2 ba xs.length bc (xs.flatMap xO.v) (On cx 30))(hj:j<xs.length):∃p,ba=some p/\ai h (p.add (j*2)) (xO.v xs[j]):=Sw s.cells xO.len oX hj
theorem U7(H:Hq h0 ao ba bc xs hx cx ma mc ys)(hx1:xs.length<=1000)(hK:∀ h',Fr No hx h'->K (.bool true) h') :
  ∃(I4:IP) (M4:IM),I4 0 hx/\
 ∀(n4:Int),∀fN:ad,I4 n4 fN->
 bif(decide (n4<(ys.length:Int)))then(
 (0<=n4/\n4<(ys.length:Int))/\
 ae ma λp4=>
 ∃(EL:OA) (Df:Nat) (H3:Nat),cellOf fN (Addr.add p4 (Int.toNat n4))=some (vS EL Df H3)/\
 ∃(I5:IP) (M5:IM),I5 0 fN/\
 ∀(n5:Int),∀gN:ad,I5 n5 gN->
 bif(decide (n5<(Df:Int)))then(
 (0<=n5/\n5<(Df:Int))/\
 ae EL λp5=>
 ∃gG:LV,List.length gG=3/\ai gN (Addr.add p5 ((Int.toNat n5)*3)) gG/\
 aF z79 79 gG 3 gN λjk=>
 ∃(n6:Int),cellOf jk (Addr.add (bA gN) 0)=some (vI n6)/\
 bif(n6 != (wI ((-1000)-n4)))then(
 K (.bool false) jk)else(
 I5 (wI (n5+1)) jk/\M5 (wI (n5+1)) jk<M5 n5 gN))else(
 I4 (wI (n4+1)) gN/\M4 (wI (n4+1)) gN<M4 n4 fN))else(
 K (.bool true) fN):=by
 have le:=H.le;refine⟨λi hz=>∃j:Nat,i=j/\j<=ys.length/\Fr No hx hz,λi _=>((ys.length:Int)-i).toNat,⟨0,rfl,bN _,Fr.refl _ _⟩,?_⟩;rintro _ fN ⟨j,rfl,hj,f⟩;refine cd (λbV=>?_) λ_=>hK fN f;have rA:j<ys.length:=oX;have m:=H.more.fr f λ_ _ _ y=>y;have D:=H.done j rA;have dm:=D.m;obtain⟨p,ep,c⟩:=m.get oX;rw[cA,wq ((j:Int)+1)];refine⟨⟨oX,bV⟩,Rz.oe ep ⟨_,_,_,ai.cell c (by rw[List.getElem?_map,fg rA];rfl),?_⟩⟩;refine⟨λi hz=>∃k:Nat,i=k/\k<=ys[j].l/\Fr No fN hz,λi _=>((ys[j].l:Int)-i).toNat,⟨0,rfl,bN _,Fr.refl _ _⟩,?_⟩;rintro _ gN ⟨k,rfl,hk,f6⟩;refine cd (λDK=>?_) λ_=>⟨⟨j+1,rfl,rA,f.no f6⟩,bW bV⟩;have wO:k<ys[j].l:=oX;have s6:=D.s.fr (f.no f6) λ_ _ _ y=>y;rw[<-gi (List.replicate _ _)]at s6;obtain⟨p5,e5,c5⟩:=Yz s6.cells wO;rw[cA,wq ((k:Int)+1)];exact⟨⟨oX,DK⟩,Rz.oe e5 ⟨E.v (mkI j),rfl,c5,aF.intro rfl (E.one _) rfl λjk n18=>⟨_,aZ n18.rd rfl,cn (λy=>absurd rfl y) λ_=>⟨⟨k+1,rfl,wO,f6.new n18⟩,bW DK⟩⟩⟩⟩
theorem holds_one{L3:Nat}{h8:ad}(H:Hq h0 ao ba bc xs h6 cx ma mc ys)(hx1:xs.length<=1000)(hj:ys.length=j)(rA:j<xs.length)(f8:Fr No h6 h8)(f9:Fr (On cx (31+2*j)) h8 h9)
  (s9:Sl h9 3 a3 L3 c3 ((List.replicate L3 (mkI j)).flatMap E.v) (On cx (31+2*j))) (hL:L3<=1000000) {Kn:OA->Nat->Nat->ad->Prop}
  (hK:∀h' cx' ma' mc' y,Hq h0 ao ba bc xs h' cx' ma' mc' (ys++[y])->Kn ma' (j+1) mc' h') :
  aC (E.v (mkI j)) 79 h9 λcu=>
 ∃aM:LV,List.length aM=1*3/\ak cu (some (bA h9)) aM/\(∀v∈aM,v.oneCell'=true)/\
 aJ rV 79 a3 L3 c3 1 aM cu λBR Bu De bf=>
 aC [vS BR Bu De] 73 bf λbQ=>
 ∃jR:LV,List.length jR=1*1/\ak bQ (some (bA bf)) jR/\(∀v∈jR,v.oneCell'=true)/\
 aJ TT 73 ma j mc 1 jR bQ Kn:=by
 subst hj;have z8:=f8.size;have z9:=f9.size;have YF:(rV).bytes=32:=rfl;have OL:(TT).bytes=24:=rfl;refine aC.intro λcu n11=>⟨E.v (mkI ys.length),rfl,ah n11.rd,E.one _,?_⟩;have Ua:=n11.size;have E2:=s9.fr n11.fr λ_ _ _ y=>y;refine nW (elem:=rV) E2 rfl rfl (by rw[YF];omega) oX λa' c' bf f12 H5=>aC.intro λbQ n13=>⟨[vS a' (L3+1) c'],rfl,ah n13.rd,λv hv=>by rw[List.mem_singleton.mp hv];rfl,?_⟩;rw[OD]at H5;have z12:=f12.size;have Vp:=n13.size;have a12:Ag h6.size cx (trim (nV cx cu.size (31+2*ys.length)) bf.size):=((pX _ _ _).trans (BX _ _) f12.size).le oX
 have Vo:Sl bQ 3 a' (L3+1) c' ((List.replicate (L3+1) (mkI ys.length)).flatMap E.v) (On (trim (nV cx cu.size (31+2*ys.length)) bf.size) (31+2*ys.length)):=by
  refine((Sl.below H5).mono λb y=>?_).fr n13.fr λ_ _ _ y=>y;have y1:nV cx cu.size (31+2*ys.length) b=31+2*ys.length:=y.1;show trim _ _ b=_;rw[sP y.2];exact y1
 have t12:∀b,bf.size<=b->trim (nV cx cu.size (31+2*ys.length)) bf.size b=0:=λb hb=>vl hb;have Dw:Fr (On cx (31+2*ys.length)) h6 bQ:=((((f8.mono λ_ _ y=>y.elim).trans f9 λb _ y=>y).new n11).trans f12 λb _ y=>y).new n13;generalize trim (nV cx cu.size (31+2*ys.length)) bf.size=LG at a12 Vo t12;have m13:Sl bQ 1 ma ys.length mc (ys.map Lg.s) (On LG 29):=H.more.keep Dw a12 λb y1 y2=>by have y1:cx b=29:=y1;have y2:cx b=31+2*ys.length:=y2;omega
 refine nW (elem:=TT) m13 rfl rfl (by rw[OL];have:=H.le;omega) (by have:=H.le;omega) λm' mc' cX f14 s14=>?_;have WI:=f14.size;have a14:Ag bQ.size LG (trim (nV LG bQ.size 29) cX.size):=(pX _ _ _).trans (BX _ _) f14.size
 have ajh:Sl cX 1 m' (ys.length+1) mc' (ys.map Lg.s++[vS a' (L3+1) c']) (On (trim (nV LG bQ.size 29) cX.size) 29):=(Sl.below s14).mono λb y=>by
  have y1:nV LG bQ.size 29 b=29:=y.1;show trim _ _ b=_;rw[sP y.2];exact y1
 have t14:∀b,cX.size<=b->trim (nV LG bQ.size 29) cX.size b=0:=λb hb=>vl hb;generalize trim (nV LG bQ.size 29) cX.size=c14 at a14 ajh t14
 -- from the start on
 have A14:Ag h6.size cx c14:=a12.trans a14 oX
 have F14:Fr (λb=>cx b=31+2*ys.length∨cx b=29) h6 cX:=(Dw.mono λb _ y=>.inl y).trans f14 λb hb y=>by
  have y:LG b=29:=y;rw[a12 b hb]at y;exact .inr y
 have z6:=H.fr.size;have e14:∀b,On LG (31+2*ys.length) b->¬On LG 29 b:=λb y1 y2=>by have y1:LG b=31+2*ys.length:=y1;have y2:LG b=29:=y2;omega
 have s15:=Vo.keep f14 a14 e14;have el:(ys++[(⟨a',L3+1,c'⟩:Lg)]).length=ys.length+1:=by rw[bg];rfl
 refine hK cX c14 m' mc' ⟨a',L3+1,c'⟩ ⟨H.fr.trans F14 λb hb y=>?_,H.ag.trans A14 z6,t14,H.row.keep F14 A14 λb y1 y2=>?_,?_,oX,λi hi=>?_,λi hi TG=>?_⟩
 ·rw[H.ag b hb]at y;rcases y with y|y <;> omega
 ·have y1:cx b=30:=y1;rcases y2 with y2|y2 <;> omega
 ·rw[el,eT];exact ajh
 ·rw[el]at hi
  rcases rI i ys.length with y|y
  ·have e:(ys++[(⟨a',L3+1,c'⟩:Lg)])[i]'(by rw[el];exact hi)=ys[i]:=JQ y;rw[e];have D:=H.done i y;exact⟨D.s.keep F14 A14 λb y1 y2=>by have y1:cx b=31+2*i:=y1;rcases y2 with y2|y2 <;> omega,D.m⟩
  ·obtain rfl:i=ys.length:=oX
   have e:(ys++[(⟨a',L3+1,c'⟩:Lg)])[ys.length]'(by rw[el];exact hi)=⟨a',L3+1,c'⟩:=by
    rw[GO (bE _)];simp
   rw[e];exact⟨s15,by show L3+1<=_;omega⟩
 ·rw[el]at TG;exact(H.todo i hi oX).keep F14 A14 λb y1 y2=>by have y1:cx b=31+2*i:=y1;rcases y2 with y2|y2 <;> omega
theorem QN{hh:ad}(B:Bk hh ao ba bc xs)(wA:∀ b,hh.size<=b->ao b=0)(hx1:xs.length<=1000)(hK:∀ h',Fr (λb=>29<=ao b) hh h'->K (.bool true) h'):C.jB ba xs.length bc hh K:=by
 refine jB.ok ⟨λi hz=>∃j:Nat,i=j/\j<=xs.length/\Fr No hh hz,λi _=>((xs.length:Int)-i).toNat,⟨0,rfl,bN _,Fr.refl _ _⟩,?_⟩;rintro _ h2 ⟨j,rfl,hj,f⟩;have B2:Bk h2 ao ba bc xs:=B.keep f (Ag.refl _ _) λ_ _ y=>y;refine cd (λbV=>?_) λ_=>?_
 ·have rA:j<xs.length:=oX;obtain⟨p,ep,c⟩:=S3 B2.row rA;rw[cA,wq ((j:Int)+1)];refine⟨⟨oX,bV⟩,Rz.oe ep ⟨xO.v xs[j],rfl,c,aF.intro rfl (xO.one _) rfl λh4 n4=>⟨_,_,_,aZ n4.rd rfl,_,_,_,aZ n4.rd rfl,?_⟩⟩⟩;have o:=(B2.it j rA).keep n4.fr (Ag.refl _ _) λ_ _ y=>y;have om:=o.m;exact Di.sK o.l.cells rfl o.w.cells rfl oX ⟨_,rfl,iu (ct (decide_eq_true rfl) ⟨⟨j+1,rfl,rA,f.new n4⟩,bW bV⟩)⟩
 have H2:Hq hh ao ba bc xs h2 ao none 0 []:=⟨f.mono λ_ _ y=>y.elim,Ag.refl _ _,λb hb=>wA b (Nat.le_trans f.size hb),B2.row,Sl.nil _ _ _,bN _,λi hi=>absurd hi (wm _),λi hi _=>(B2.it i hi).l⟩;refine⟨λma ml mc i hz=>∃(ys:List Lg) (cx:Nat->Nat),i=ys.length/\ml=ys.length/\Hq hh ao ba bc xs hz cx ma mc ys,λ_ _ _ i _=>((xs.length:Int)-i).toNat,⟨[],ao,rfl,rfl,H2⟩,?_⟩;clear H2 B2 hj;rintro ma _ mc _ h6 ⟨ys,cx,rfl,rfl,H⟩;have le:=H.le;refine cd (λbV=>?_) λ_=>U7 H hx1 λh' f'=>hK h' (H.fr.no f');have rA:ys.length<xs.length:=oX;obtain⟨p,ep,c⟩:=S3 H.row rA;have td:=H.todo _ rA (bE _);have tm:=(B.it _ rA).m;rw[cA,wq ((ys.length:Int)+1)];generalize xs[ys.length]=it at td tm c;obtain⟨a,ac,wa,wc,es⟩:=it;have c:ai h6 (p.add (ys.length*2)) [vS a es.length ac,vS wa es.length wc]:=c;have td:Sl h6 3 a es.length ac (es.flatMap E.v) (On cx (31+2*ys.length)):=td;have tm:es.length<=1000000:=tm;refine⟨⟨oX,bV⟩,Rz.oe ep ⟨_,rfl,c,aF.intro rfl (xO.one ⟨a,ac,wa,wc,es⟩) rfl λh8 n8=>⟨_,_,_,aZ n8.rd rfl,?_⟩⟩⟩;have z8:=n8.size;have o8:rd h8 h6.size=[vS a es.length ac,vS wa es.length wc]:=n8.rd;have cl:cx h6.size=0:=H.wA _ (bE _);have nc:¬On cx (31+2*ys.length) h6.size:=λy=>by have y:cx h6.size=31+2*ys.length:=y;omega
 refine⟨λi hz=>∃k:Nat,i=k/\k<=es.length/\Fr (On cx (31+2*ys.length)) h8 hz/\Sl hz 3 a es.length ac ((List.replicate k (mkI ys.length)++es.drop k).flatMap E.v) (On cx (31+2*ys.length)),λi _=>((es.length:Int)-i).toNat,⟨0,rfl,bN _,Fr.refl _ _,td.fr n8.fr λ_ _ _ y=>y⟩,?_⟩;rintro _ h9 ⟨k,rfl,hk,f9,s9⟩;have o9:rd h9 h6.size=[vS a es.length ac,vS wa es.length wc]:=(f9.rd oX nc).trans o8;refine cd (λDK=>?_) λ_=>?_
 ·have wO:k<es.length:=oX;obtain⟨p,rfl,_⟩:=s9.get oX;obtain⟨pb,po,ps⟩:=p;have eps:ps=none:=s9.2.1;subst eps;have pF:On cx (31+2*ys.length) pb:=s9.2.2.1;obtain⟨w9,wl9⟩:=s9.wr;rw[cA,wq ((k:Int)+1)];refine⟨_,_,_,aZ o9 rfl,⟨oX,DK⟩,os (az.add w9 rfl (E.one (mkI ys.length)) oX λbG d10=>⟨⟨k+1,rfl,wO,f9.did d10 λ_=>pF,?_⟩,bW DK⟩)⟩;have b9:=s9.K6 (λx _=>E.len x) (i:=k) (y:=mkI ys.length) (by rw[bg,dU,jM];omega) (E.len _) d10;rw[OC _ _ _ wO]at b9;exact b9
 ·have wO:k=es.length:=oX;subst wO;rw[qY (bE _),gi]at s9;refine⟨_,_,_,aZ o9 rfl,rfl,holds_one H hx1 rfl rA n8.fr f9 s9 tm λh' cx' ma' mc' y H'=>?_⟩;have el:(ys++[y]).length=ys.length+1:=by rw[bg];rfl
  exact⟨⟨ys++[y],cx',by rw[el];rfl,el.symm,H'⟩,bW bV⟩
end
end Td
namespace Td
open Hp W Ad Tm Spc Av Tp Sx
open Hd (ints)
open In (aj aO)
structure Cd where
 n:Int
 ra:OA
 rc:Nat
 qm:List (List Int)
 sa:OA
 sc:Nat
 ops:List HR
def Cd.cells(c:Cd):LV:=[vI c.n,vS c.ra c.qm.length c.rc,vS c.sa c.ops.length c.sc]
theorem Ce{α:Type}{f:α->LV}{w:Nat}{xs:List α}(A:ak h a (xs.flatMap f))(hw:∀ x ∈ xs,(f x).length=w)(h0:0<w){j:Nat}(hj:j<xs.length):∃p,a=some p/\ai h (p.add (j*w)) (f xs[j]):=by
 have hl:=bq f w xs hw
 cases a with
 | none=>
  have A:xs.flatMap f=[]:=A;rw[A,List.length_nil]at hl;have:0<xs.length*w:=Nat.mul_pos oX h0;omega
 | some p=>
  refine⟨p,rfl,?_⟩;have:=ai.part A (j*w) w;rw[kv f w xs hw j hj]at this;exact this
section
variable{h1 hh : ad}{sb n : Nat}{c : Cd}{K : Value -> ad -> Prop}{d q t u : OA}{T : TM}{ao : Nat -> Nat}
theorem aft{xs:List xO}(X:Xt h1 h9.size d q t u (af n) T T hh ao)(B:Bk hh ao ba bc xs)(hx:xs.length<=1000)(hK:∀ h',Fr (λb=>29<=ao b) hh h'->K (.bool true) h'):bu.k3 h9 ba xs.length bc hh K:=by
 unfold bu.k3;refine rF X λh2 f2=>⟨_,rfl,ct rfl ?_⟩;have Y:=(acw X).no (acv _ _) (SM _ _) f2;obtain⟨D,A,_⟩:=Y.x;refine⟨_,aZ Y.sr rfl,_,aZ Y.sr rfl,Wc.Ut A λa3 c3 h3 f3 s3=>⟨_,_,_,rfl,?_⟩⟩;have Y3:=Y.no (acv _ _) (SM _ _) f3;obtain⟨E3,R,_⟩:=Y3.y;refine⟨aZ Y3.sr rfl,_,s3.str,R.image λa4 l4 c4 h4 f4 s4=>⟨_,_,_,rfl,by rw[toList_mkStr];exact av.fr f4 s3.str λ_ _ y=>y,_,s4.str,ct (beq_self_eq_true _) ?_⟩⟩;have f:Fr No hh h4:=(f2.no f3).no f4;exact QN (B.keep f (Ag.refl _ _) λ_ _ y=>y) (λb hb=>X.wA b (Nat.le_trans f.size hb)) hx λh5 f5=>⟨_,rfl,hK h5 ((f.mono λ_ _ y=>y.elim).trans f5 λ_ _ y=>y)⟩
theorem IK(G:Re.lT h)(B:ak h c.ra (c.qm.flatMap ints))(hR:∀ R ∈ c.qm,R.length=15)(hl:c.qm.length<=140737488355328)(S:ak h c.sa (c.ops.flatMap HR.cells))(ok:∀ o ∈ c.ops,o.s.length<=140737488351232)
  (hK:∀h',Fr No h h'->K (.bool true) h'):C.bu c.cells h K:=by
 have r0:0<=c.n%100:=Jy _ dX;have r1:c.n%100<100:=Jz _ dX;refine bu.ok (aC.intro λh2 n2=>⟨_,aZ n2.rd rfl,Di.Ov dX dX ⟨_,rfl,?_⟩⟩);obtain⟨n,en⟩:∃n:Nat,(n:Int)=128+c.n%100:=⟨(128+c.n%100).toNat,oX⟩;rw[wq (128+c.n%100),<-en];have dm:zV n:=⟨oX,oX⟩;have z2:=n2.size;refine Xu oX λh4 f4=>⟨_,rfl,aF.intro rfl (Spc.G.one _) rfl λh6 n6=>?_⟩;have z4:=f4.size;have z6:=n6.size;have f26:Fr No h2 h6:=f4.new n6;have rc6:rd h6 h.size=c.cells:=(f26.r0).trans n2.rd;refine⟨_,_,_,aZ rc6 rfl,?_⟩;refine⟨λi hx=>∃j:Nat,i=j/\j<=c.qm.length/\Fr No h6 hx,λi _=>((c.qm.length:Int)-i).toNat,⟨0,rfl,bN _,Fr.refl _ _⟩,?_⟩;rintro _ h7 ⟨j,rfl,hj,f67⟩;refine cd (λbV=>?_) λ_=>?_
 ·have rA:j<c.qm.length:=oX;obtain⟨p,ep,cp⟩:=Ce (w:=15) (ak.fr ((n2.fr.no f26).no f67) B λ_ _ y=>y) (λR hr=>(aj R).trans (hR R hr)) dX rA;have fN:(c.qm[j]).length=15:=hR _ (ff rA);rw[cA,wq ((j:Int)+1)];refine⟨⟨oX,bV⟩,Rz.oe ep ⟨_,(aj _).trans fN,cp,aF.intro ((aj _).trans fN) (aO _) rfl λh9 n9=>⟨_,aZ n9.rd (Fi.iaT oX),cd (λ_=>hK h9 (((n2.fr.no f26).no f67).new n9)) λ_=>⟨⟨j+1,rfl,rA,f67.new n9⟩,bW bV⟩⟩⟩⟩
 have z67:=f67.size;have rc7:rd h7 h.size=c.cells:=(f67.r0).trans rc6;have rg7:rd h7 h4.size=(af n).v:=(f67.r0).trans n6.rd;refine⟨(af n).v,rfl,ah rg7,_,_,_,aZ rc7 rfl,?_⟩;refine Fq.Ot dm (ak.fr ((n2.fr.no f26).no f67) B λ_ _ y=>y) hR hl λh8 b bs f8 Vq YF hbs B8=>⟨_,_,_,rfl,?_⟩;have z8:=f8.size;have ok2:¬(n*512%512≠0∨n*512=0∨16384<n*512/512):=oX;refine PC B8 (bE _) oX (λy=>absurd y ok2) λ_ _ _ q8 h9 D9 f9 ge9 A9=>⟨_,_,rfl,?_⟩;refine Rf.tj.of (av.fr f9 B8 λ_ _ y=>y) oX (λy=>absurd y ok2) λ_ _ _ q9 bG E10 f10 aji R10=>⟨_,_,rfl,cn (λy=>absurd rfl y) λ_=>cf rfl (cf rfl ?_)⟩;unfold bu.k1;have z9:=f9.size;have Vu:=f10.size;have ajj:Fr No h6 bG:=((f67.no f8).no f9).no f10;have E1:rd bG h4.size=(af n).v:=(ajj.r0).trans n6.rd;refine⟨(af n).v,rfl,ah E1,rfl,aC.intro λcu n11=>?_⟩;have Ua:=n11.size;have A11:=(A9.no f10).no n11.fr;have R11:=R10.no n11.fr
 obtain⟨ao,k1,k2,k3,k0⟩:∃ao:Nat->Nat,ao bG.size=1/\(∀b,D9 b->ao b=2)/\(∀b,E10 b->ao b=3)/\∀b,b≠bG.size->¬D9 b->¬E10 b->ao b=0:=by
  refine⟨λb=>if b=bG.size then 1 else @ite _ (D9 b) (Classical.propDecidable _) 2 (@ite _ (E10 b) (Classical.propDecidable _) 3 0),if_pos rfl,λb y=>?_,λb y=>?_,λb y1 y2 y3=>?_⟩
  ·show(if b=bG.size then 1 else _)=2;rw[if_neg (by have:=A9.lt y;omega),if_pos y]
  ·show(if b=bG.size then 1 else _)=3;rw[if_neg (by have:=R10.lt y;omega),if_neg (λw=>by have:=A9.lt w;have:=aji b y;omega),if_pos y]
  ·show(if b=bG.size then 1 else _)=0;rw[if_neg y1,if_neg y2,if_neg y3]
 have X:Xd h2 bG.size (some q8) (some q9) none none (af n) (fresh (chunks bs)) cu ao:=
  ⟨(f26.no ajj).new n11,λb hb=>k0 b oX (λy=>by have:=A11.lt y;omega) (λy=>by have:=R11.lt y;omega),λb hb=>k0 b oX (λy=>by have:=ge9 b y;omega) (λy=>by have:=aji b y;omega),k1,n11.own,n11.rd,⟨D9,A11,k2⟩,⟨E10,R11,k3⟩⟩
 have hlen:(chunks bs).length=n:=by rw[kg,hbs];omega
 refine Au X λbf ajk t u m12 Vv=>⟨_,rfl,iu (ct rfl ?_)⟩;have ajl:Iw 0 0 n ⟨fresh (chunks bs),[],[],false⟩:=Iw.new hlen;refine⟨λba bl bc i hx=>∃(j:Nat) (ao:Nat->Nat) (t u:OA) (T:TM) (xs:List xO),i=j/\j<=60/\bl=xs.length/\xs.length<=2*j/\Xt h2 bG.size (some q8) (some q9) t u (af n) T T hx ao/\Iw j (600*j) n T/\Bk hx ao ba bc xs,λ_ _ _ i _=>(((60:Nat):Int)-i).toNat,⟨0,ajk,t,u,_,[],rfl,bN _,rfl,bN _,Vv,ajl,Bk.nil _ _⟩,?_⟩;clear Vv ajl m12 X k0 k1 k2 k3 A11 R11 A9 R10;rintro ba _ bc _ fN ⟨j,aB,t',u',T,xs,rfl,hj6,rfl,hxs,X,iv,Bk'⟩;have rc:rd fN h.size=c.cells:=(X.fr.r0).trans n2.rd
 have fin:bu.k3 bG ba xs.length bc fN K:=aft X Bk' oX λh' f'=>hK h' ((n2.fr.no X.fr).trans f' λb hb y=>by
  have:=X.base b oX;have y:29<=aB b:=y
  omega)
 refine⟨_,_,_,aZ rc rfl,cd (λbV=>?_) λ_=>fin⟩;generalize hq:decide ((j:Int)<60)=b60;refine cs (λh60=>?_) λ_=>fin;have h60:=of_decide_eq_true (hq.trans h60);unfold bu.k2;have rA:j<c.ops.length:=oX;obtain⟨p,ep,cp⟩:=Ce (w:=4) (ak.fr X.fr (ak.fr n2.fr S λ_ _ y=>y) λ_ _ y=>y) (λ_ _=>rfl) dX rA;have ok':=ok _ (ff rA);have e0:cellOf fN (Addr.add (Addr.add p (j*4)) 0)=some (vI c.ops[j].kind):=cp 0 _ rfl;have e1:cellOf fN (Addr.add (Addr.add p (j*4)) 1)=some (vI c.ops[j].n):=cp 1 _ rfl;rw[cA,wq ((j:Int)+1)];refine⟨_,_,_,aZ rc rfl,⟨oX,bV⟩,Rz.oe ep ⟨_,e0,ce (λ_=>⟨_,_,_,aZ rc rfl,⟨oX,bV⟩,Rz.oe ep ⟨_,e1,?_⟩⟩) λ_=>⟨_,_,_,aZ rc rfl,⟨oX,bV⟩,Rz.oe ep ⟨_,rfl,cp,?_⟩⟩⟩⟩
 ·exact L5 (G.no n2.fr) X dm Bk' oX λh' HN ba' bc' xs' X' B' el=>⟨_,_,_,_,rfl,iu (ct rfl ⟨⟨j+1,HN,t',u',T,xs',rfl,oX,el.symm,oX,X',iv.le oX oX,B'⟩,bW (n:=(j:Int)) (m:=60) oX⟩)⟩
 ·exact L4 (G.no n2.fr) X dm iv oX oX ok' λh' HN t2 u2 T2 m2 X2 iv2=>⟨_,rfl,iu (ct rfl ⟨⟨j+1,HN,t2,u2,T2,xs,rfl,oX,rfl,oX,X2,iv2.le (bE _) oX,Bk'.mv m2⟩,bW (n:=(j:Int)) (m:=60) oX⟩)⟩
end
end Td
end Go.Proofs.YtlbckoblcdoceaaGreatDoor
