/- dirPlays_card -/
import Derived.Shelf.Spec.BuilderWrite
import Derived.Ground.NamesProg
import Derived.Test.YtlbckoblcdoceaaGreatDoorGp4
namespace Go.Proofs.YtlbckoblcdoceaaGreatDoor
open Go Go.Proofs Wx
variable{h h' h0 hh EP h3 h1:ad}{a r A t d sa:OA}{l c j b m e n0 w ec o cb sl first q sc tb gb pb ob mb:Nat}{i n k x hi:Int}{bs:LB}{K k':KT}{ao:Nat->Nat}{F E':NP}{p:Addr}{xs vs args:LV}{R:List Int}{CR:Value}
open _root_.List renaming foldl_append->vh,take_zero->vi,take_of_length_le->gL,getD_eq_getElem?_getD->gh,getElem?_eq_getElem->fg,getElem_mem->ff,length_take->dL,length_drop->jM,mem_cons_of_mem->gV,mem_cons_self->kj,mem_append->nB,mem_singleton->kU,length_set->pL,length_eq_zero_iff->TK,dropLast_concat_getLast->abS,length_append->bg,map_append->eT,length_cons->pA,length_map->aP,foldl_cons->zN,length_range->xE,getElem?_map->jH,map_map->qJ,map_congr_left->Fu,mem_range->TJ,flatMap_append->iy,append_nil->gi,flatten_cons->H6,append_assoc->iW,map_eq_nil_iff->qx,eq_nil_of_length_eq_zero->Vb,getElem_append_left->JQ,getElem_append_right->GO,length_nil->FX,mem_cons->fO,not_mem_nil->nT,range_succ->Ei,getElem_map->mu,getElem_range->yB,map_set->yG,nil_append->tP,drop_length->xG,take_length->mZ,length_singleton->ik,drop_left->Ae,take_left->tL,length_replicate->dU,drop_append_of_le_length->Ej,drop_of_length_le->qY,take_append_of_le_length->WV,drop_append->abT,drop_drop->Bv,all_eq_true->oN,drop_zero->mW,take_succ_eq_append_getElem->jJ,getElem_drop->RN,map_singleton->BV,all_cons->Mc,replicate_succ->uW,cons_append->abU,take_append_drop->qP,drop_eq_getElem_cons->lh,map_cons->lI
open _root_.Int renaming le_refl->th,fdiv_eq_ediv_of_nonneg->vf,natCast_nonneg->abV,eq_ofNat_of_zero_le->Nk,toNat_natCast->cA,tmod_eq_emod_of_nonneg->rL,toNat_of_nonneg->abW,tdiv_eq_ediv_of_nonneg->nL
open _root_.Nat renaming zero_le->bN,lt_or_ge->rI,le_trans->k9,le_refl->bE,le_add_right->kM,shiftLeft_eq->WW,shiftRight_eq_div_pow->Nl,mod_eq_of_lt->vg,pow_succ->wk,lt_of_lt_of_le->mV,pow_le_pow_right->Ec,lt_of_le_of_lt->abX,zero_add->wR,div_eq_of_lt->WX,div_div_eq_div_mul->GP,min_eq_left->xL,mul_one->ph,mul_comm->BU,not_lt_zero->wm,mul_le_mul_right->yi,zero_lt_one->uM
open _root_.Bool renaming and_eq_true->dB,xor_false->abY,true_and->yj,eq_iff_iff->JR,and_false->yH
open _root_.BitVec renaming getLsbD_xor->RO,xor_zero->Nn,xor_assoc->Al,xor_comm->GQ,xor_self->RP,zero_xor->abZ,getLsbD_shiftLeft->RQ,toNat_ushiftRight->Np,toNat_shiftLeft->WY,eq_of_getLsbD_eq->RS,getLsbD_ofNat->WZ,getLsbD_one->RT,toNat_ofNat->Ed,ofInt_natCast->Ah,ofNat_toNat->JS,setWidth_eq->JT,getLsbD_and->ab1,getLsbD_ushiftRight->ab2,toNat_and->ab3
open _root_.Array renaming getElem?_modify->Vz,getElem?_setIfInBounds_ne->S6,getElem?_push->zT,size_push->GR
open _root_.UInt8 renaming toNat_inj->sZ,toNat_ofNat'->lX,toNat_lt->Am
open _root_.Option renaming map_some->OW
namespace Rf
open Hp W Ad L3
def vo(i:Int)(z:LB)(ts:List Tt):LB:=ts.foldl (λb t=>if t.1=1/\t.2.1=i then t.2.2 else b) z
theorem Bb(i:Int)(z:LB)(ts:List Tt)(t:Tt):vo i z (ts++[t])=if t.1=1/\t.2.1=i then t.2.2 else vo i z ts:=by unfold vo;rw[vh];rfl
def RU(ts:List Tt):List Int:=ts.foldl (λl t=>if t.1=2 then[]else l++[t.2.1]) []
theorem PQ(ts:List Tt)(t:Tt):RU (ts++[t])=if t.1=2 then[]else RU ts++[t.2.1]:=by unfold RU;rw[vh];rfl
def FD.qk(S:FD)(i:Int):LB:=(S.first.drop (i.toNat*512)).take 512
structure FD.Ok(S:FD):Prop where
 len:S.first.length=S.N*512
 max:S.N<=16384
 may:∀t∈S.gq,WS (S.N:Nat) t
theorem ω{i:Nat}(B:av h a l bs)(CS:l<=c)(OK:i<=j)(hj:j<=l):av h (if c=i then a else Option.map (Addr.add · i) a) (j-i) ((bs.drop i).take (j-i)):=by
 by_cases e:c=i
 ·rw[if_pos e];have:j-i=0:=oX;rw[this,vi];exact av.nil _ _
 ·rw[if_neg e];exact av.take (av.drop B i) oX
section
variable{h : ad}{d : OA}{S : FD}{ao : Nat -> Nat}{m : Nat}{b : Nat}{r : Dq}{es : List mg}
theorem Ref.rot(D:Ref h b S ao m r es):Rot h r.aa r.an es S.gq:=
 ⟨D.a.cells,(pM.length D.ts).symm.trans D.an.symm,pM.length D.ts,λi h1 h2=>by obtain⟨x1,x2,x3,_⟩:=pM.at_ D.ts i h1 h2;exact⟨x1,x2,x3⟩⟩
theorem Ref.str(D:Ref h b S ao m r es):av h r.fa r.fn S.first:=D.f.str
theorem dv(D:vn h d S ao m)(ok:S.Ok)(hw:∀ t ∈ S.gq,t.2.2.length<=140737488355328)
  (h1:S.out=true->K (.tuple #[vS none 0 0,vI 30]) h) (h2:S.out=false->¬(0<=i/\i<(S.N:Nat))->K (.tuple #[vS none 0 0,vI 31]) h)
  (h3:S.out=false->0<=i->i<(S.N:Nat)->∀a c h',Fr No h h'->Sl h' 1 a (vo i (S.qk i) S.gq).length c ((vo i (S.qk i) S.gq).map bv) (cW h.size)->K (.tuple #[vS a (vo i (S.qk i) S.gq).length c,vI 0]) h'):C.cK d i h K:=by
 obtain⟨b,r,es,rfl,D⟩:=D;have R:=D.rot;refine cK.ok (os ⟨_,D.field 4,?_⟩);rw[D.out];refine cs (λho=>h1 ho) λho=>cd (λhi=>h2 ho oX) λhi=>lj ⟨b,r,es,rfl,D⟩ ⟨_,rfl,cd (λhj=>h2 ho (by have hj:i>=((S.N:Nat):Int):=hj;omega)) λhj=>?_⟩;have hj:¬i>=((S.N:Nat):Int):=hj;have h3:=h3 ho oX oX;have hnum:=R.num;have hmx:=ok.max;have hln:=ok.len;have hfn:=D.fn;have ahT:=D.χ;have RK:=R.len;unfold cK.k1;refine os ⟨_,_,_,D.field 1,λj hh=>-1<=j/\j<S.gq.length/\hh=h/\vo i (S.qk i) S.gq=vo i (S.qk i) (S.gq.take (j+1).toNat),λj _=>(j+1).toNat,⟨?_,?_,rfl,?_⟩,?_⟩
 ·rw[wrap_i64 oX oX];omega
 ·rw[wrap_i64 oX oX];omega
 ·rw[wrap_i64 oX oX,gL oX]
 rintro j hh ⟨j0,j1,rfl,e⟩;refine cd (λbV=>?_) λbV=>?_
 ·obtain⟨p,en,ep,c,x1,x2,x3,DR,_⟩:=R.cell (i:=j.toNat) oX;have ek:(S.gq.getD j.toNat (0,0,[]))=S.gq[j.toNat]:=by rw[gh,fg DR];rfl
  rw[ek]at x1 x2 x3;have et:(j+1).toNat=j.toNat+1:=oX;rw[et,eY _ _ DR,Bb]at e
  have nxt:¬(S.gq[j.toNat].1=1/\S.gq[j.toNat].2.1=i)->((-1<=j-1/\j-1<S.gq.length/\hh=hh/\vo i (S.qk i) S.gq=vo i (S.qk i) (S.gq.take (j-1+1).toNat))/\(j-1+1).toNat<(j+1).toNat):=λy=>by
   rw[if_neg y]at e;exact⟨⟨oX,oX,rfl,by rw[show(j-1+1).toNat=j.toNat by omega];exact e⟩,oX⟩
  have bd:(0:Int)<=j/\j<(r.an:Int):=⟨oX,oX⟩;refine os ⟨_,_,_,D.field 1,bd,?_⟩;rw[ep];refine os ⟨_,ai.cell c (i:=0) rfl,ce (λhk=>?_) λhk=>?_⟩
  ·refine os ⟨_,_,_,D.field 1,bd,?_⟩;rw[ep];refine os ⟨_,ai.cell c (i:=1) rfl,ce (λha=>?_) λha=>?_⟩
   ·rw[if_pos ⟨oX,oX⟩]at e;rw[e]at h3;have l3:=hw _ (ff DR);have hx3:=x3.1;refine os ⟨_,_,_,D.field 1,bd,?_⟩;rw[ep];refine os ⟨_,_,_,ai.cell c (i:=2) rfl,tg x3 oX λa5 c5 h5 f5 s5=>⟨_,_,_,rfl,?_⟩⟩;rw[<-hx3]at s5 ⊢;exact h3 a5 c5 h5 f5 s5
   ·rw[wrap_i64 oX oX];exact nxt λy=>ha oX
  ·rw[wrap_i64 oX oX];exact nxt λy=>hk oX
 ·have ej:(j+1).toNat=0:=oX;rw[ej,vi]at e;have e:vo i (S.qk i) S.gq=S.qk i:=e;rw[e]at h3;have lc:=D.f.le;have w1:wI (i*512)=i*512:=wrap_i64 oX oX;have w2:wI (i*512+512)=i*512+512:=wrap_i64 oX oX;refine os ⟨_,_,_,D.field 0,?_⟩;rw[w1,w2];have n1:(i*512).toNat=i.toNat*512:=oX;have n2:(i*512+512).toNat=i.toNat*512+512:=oX;have hf:(S.qk i).length=512:=by unfold FD.qk;rw[dL,jM];omega
  rw[n1,n2];refine⟨⟨oX,oX,oX⟩,?_⟩;have B:=ω (i:=i.toNat*512) (j:=i.toNat*512+512) D.str lc oX oX;have hd:i.toNat*512+512-i.toNat*512=512:=oX;rw[hd]at B ⊢;refine tg B dX λa5 c5 h5 f5 s5=>⟨_,_,_,rfl,?_⟩;rw[hf]at h3;exact h3 a5 c5 h5 f5 s5
def FD.image(S:FD):List LB:=oE (if S.out=true then S.keep else[]) (chunks S.first) S.gq 0
theorem A2(D:vn h d S ao m)(ok:S.Ok) 
  (hK:∀a c h',Fr No h h'->Sl h' 1 a (S.N*512) c (S.image.flatten.map bv) (cW h.size)->K (vS a (S.N*512) c) h'):C.eD d h K:=by
 obtain⟨b,r,es,rfl,D⟩:=D;have R:=D.rot;have el:r.fn=S.N*512:=D.fn.trans ok.len;have hnum:=R.num;have ahT:=D.χ;have han:=D.an;unfold FD.image at hK;refine eD.ok (os ⟨_,D.field 4,?_⟩);rw[D.out];refine cs (λho=>?_) λho=>?_
 ·rw[if_pos ho]at hK;refine os ⟨_,_,_,D.field 0,os ⟨_,_,_,D.field 1,os ⟨_,_,_,D.field 2,?_⟩⟩⟩;refine JO D.str ok.max el R oX ok.may D.k.cells D.kn.symm λa c h' f s=>⟨_,_,_,rfl,?_⟩;rw[el]at s ⊢;exact hK a c h' f s
 ·rw[if_neg (by rw[ho];simp)]at hK;refine os ⟨_,_,_,D.field 0,os ⟨_,_,_,D.field 1,?_⟩⟩;refine JO (keep:=[]) D.str ok.max el R oX ok.may rfl rfl λa c h' f s=>⟨_,_,_,rfl,?_⟩;rw[el]at s ⊢;exact hK a c h' f s
end
theorem yI(D:RD)(ts:List Tt)(t:Tt):replay D (ts++[t])=again (replay D ts) t:=by unfold replay;rw[vh];rfl
def FD.Q(S:FD):RD:=replay (Ad.fresh (chunks S.first)) S.gq
theorem yJ{D:RD}(c:L3.Calm D){i:Int}{b:LB}(h0:0<=i)(h1:i<D.aE.length)(h2:b.length=512):again D (1,i,b)=D.rk i b:=by
 rw[again,if_neg (show ¬((1:Int),i,b).1=2 from(by decide:¬(1:Int)=2)),RD.write,if_neg (by rw[c.down];exact Bool.false_ne_true),if_neg (λx=>x ⟨h0,h1⟩),if_neg (λx=>x h2),RD.step,if_neg (by show ¬0<D.left;rw[c.left];omega)];rfl
theorem yK{D:RD}(c:L3.Calm D){i:Int}{b:LB}:again D (2,i,b)=RD.pS { D with ax:=wI (D.ax+1) }:=by rw[again,if_pos rfl,c.flush]
theorem Ek{D:RD}(N:Nat):∀(ts:List Tt),L3.Calm D->D.aE.length=N->(∀t∈ts,WS N t)->L3.Calm (replay D ts)/\(replay D ts).aE.length=N:=by
 intro ts
 induction ts generalizing D with
 | nil=>intro c h _;exact⟨c,h⟩
 | cons t r ih=>
  intro c hN hm;have hr:∀t∈r,WS N t:=λt ht=>hm t (gV _ ht);have tB:replay D (t::r)=replay (again D t) r:=rfl;rw[tB];obtain⟨k,i,b⟩:=t
  rcases hm _ (kj ..)with h2|⟨h1,e0,e1,e2⟩
  ·have h2:k=2:=h2;subst h2;rw[yK c];exact ih ⟨c.down,c.left,Eh _ _ c.lw c.pw,λx hx=>by simp[RD.pS]at hx⟩ ((iq _ _).trans hN) hr
  ·have h1:k=1:=h1;subst h1;rw[yJ c e0 (by rw[hN];exact e1) e2];exact ih (c.rk _ e2) hN hr
theorem FD.Ok.calm{S:FD}(o:S.Ok):L3.Calm S.Q/\S.Q.aE.length=S.N:=
 Ek S.N S.gq (L3.Calm.fresh (xk _)) (by show(chunks S.first).length=_;rw[kg];rfl) o.may
theorem FD.Ok.left{S:FD}(o:S.Ok)(keep:List Bool):(S.Q.cut keep).aE=oE keep (chunks S.first) S.gq 0:=
 PK keep (xk _) (by rw[kg];rfl) S.gq o.may
structure Sm(D:RD)(S:FD):Prop where
 ok:S.Ok
 tape:D.tape=S.gq
 writes:D.writes=S.writes
 ax:D.ax=S.ax
 down:D.down=S.out
 left:S.out=false->D.left=S.left
 keep:S.out=false->S.left≠0->D.keep=S.keep
 pN:0<=S.left/\S.left<=9223372036854775807
 len:D.aE.length=S.N
 up:S.out=false->D.aE=S.Q.aE/\D.bS=S.Q.bS
 dn:S.out=true->D.aE=oE S.keep (chunks S.first) S.gq 0/\D.bS=[]
theorem W3{N:Nat}{b:LB}:Is (N:Nat) (1,i,b)=if ¬(0<=i/\i<(N:Nat))then 31 else if b.length≠512 then 32 else 0:=by
 unfold Is sG;rw[if_neg (show ¬((1:Int)=2) by decide),if_neg (show ¬((1:Int)≠1) by decide)]
 by_cases h1:i<0
 ·rw[if_pos h1,if_pos oX]
 ·rw[if_neg h1]
  by_cases h2:i>=(N:Nat)
  ·rw[if_pos h2,if_pos oX]
  ·rw[if_neg h2];show(if b.length≠512 then(32:Int)else 0)=_;rw[if_neg (show ¬¬(0<=i/\i<(N:Nat)) from λy=>y ⟨oX,oX⟩)]
theorem RV{D1:RD}{S1:FD}{f:RD->RD}{g:FD->FD}(ho:S1.out=false)(hd:D1.down=false)(hl:D1.left=S1.left)(hb:0<=S1.left/\S1.left<=9223372036854775807)
  (ahV:S1.left≠0->S1.left-1=0->Sm (RD.cut { D1 with left:=S1.left-1 } D1.keep) { S1 with left:=S1.left-1,out:=true })
  (go:∀l,(l=S1.left∨S1.left≠0/\l=S1.left-1/\l≠0)->Sm (f { D1 with left:=l }) (g { S1 with left:=l,out:=false })) :
  (D1.step f).2=(if S1.goes.2=true then 30 else 0)/\Sm (D1.step f).1 (if S1.goes.2=true then S1.goes.1 else g S1.goes.1):=by
 unfold RD.step FD.goes;rw[hl]
 by_cases h0:S1.left=0
 ·rw[if_neg oX,if_pos h0];have:=go S1.left (.inl rfl);have e1:({ D1 with left:=S1.left }:RD)=D1:=by rw[<-hl]
  have e2:({ S1 with left:=S1.left,out:=false }:FD)=S1:=by rw[<-ho]
  rw[e1,e2]at this;exact⟨rfl,this⟩
 ·rw[if_pos oX,if_neg h0]
  by_cases h1:S1.left-1=0
  ·rw[if_pos h1];have e:(S1.left-1==0)=true:=beq_iff_eq.mpr h1;have c:=ahV h0 h1;simp only[e,if_true];exact⟨by first|trivial|rfl,c⟩
  ·rw[if_neg h1];have e:(S1.left-1==0)=false:=beq_eq_false_iff_ne.mpr h1;have c:=go (S1.left-1) (.inr ⟨h0,rfl,h1⟩);simp only[e];exact⟨by first|trivial|rfl|simp,by simpa using c⟩
theorem Sm.write{D:RD}{S:FD}(s:Sm D S)(i:Int)(b:LB):(D.write i b).2=(S.write i b).2/\Sm (D.write i b).1 (S.write i b).1:=by
 unfold RD.write FD.write;rw[s.down,s.len,W3]
 by_cases ho:S.out=true
 ·rw[if_pos ho,if_pos ho];exact⟨rfl,s⟩
 rw[if_neg ho,if_neg ho];have ho:S.out=false:=by simpa using ho
 by_cases hi:0<=i/\i<(S.N:Nat)
 rotate_left
 ·rw[if_pos hi,if_pos hi,if_pos dX];exact⟨rfl,s⟩
 have tK:¬¬(0<=i/\i<(S.N:Nat)):=λy=>y hi;rw[if_neg tK,if_neg tK]
 by_cases hb:b.length=512
 rotate_left
 ·rw[if_pos hb,if_pos hb,if_pos dX];exact⟨rfl,s⟩
 have pV:¬b.length≠512:=λy=>y hb;rw[if_neg pV,if_neg pV,if_neg (show ¬((0:Int)≠0) from λy=>y rfl)]
 have ok1:∀l o,FD.Ok { S.rk i b with left:=l,out:=o }:=λl o=>⟨s.ok.len,s.ok.max,λt ht=>by
  rcases nB.mp ht with ht|ht
  ·exact s.ok.may t ht
  ·rw[kU.mp ht];exact .inr ⟨rfl,hi.1,hi.2,hb⟩⟩
 obtain⟨c,lq⟩:=s.ok.calm;obtain⟨u1,u2⟩:=s.up ho
 have eQ:∀l o,FD.Q { S.rk i b with left:=l,out:=o }=S.Q.rk i b:=λl o=>by
  show replay _ (S.gq++[(1,i,b)])=_;rw[yI];exact yJ (D:=S.Q) c hi.1 (by rw[show(S.Q).aE.length=S.N from lq];exact hi.2) hb
 have W:=RV (D1:=D.rk i b) (S1:=S.rk i b) (f:=id) (g:=id) ho (s.down.trans ho) (s.left ho) s.pN (λh0 h1=>?_) λl hl=>?_
 ·simpa using W
 ·have lk:=(ok1 (S.left-1) true).left S.keep;rw[eQ]at lk;refine⟨ok1 _ _,by show D.tape++_=S.gq++_;rw[s.tape],by show wI (D.writes+1)=_;rw[s.writes];rfl,s.ax,rfl,λy=>(by cases y),λy=>(by cases y),⟨by show 0<=S.left-1;have:=s.pN;have h0:S.left≠0:=h0;omega,by show S.left-1<=_;have:=s.pN;omega⟩,by show(dh _ _).length=_;rw[iq];exact s.len,λy=>(by cases y),λ_=>⟨?_,rfl⟩⟩;show dh D.aE (jt (D.bS++[(i,b)]) D.keep)=oE S.keep (chunks S.first) (S.gq++[(1,i,b)]) 0;rw[u1,u2,s.keep ho h0];exact lk
 ·have hlb:0<=l/\l<=9223372036854775807:=by
   have:=s.pN;have hl:l=S.left∨S.left≠0/\l=S.left-1/\l≠0:=hl;omega
  refine⟨ok1 _ _,by show D.tape++_=S.gq++_;rw[s.tape],by show wI (D.writes+1)=_;rw[s.writes];rfl,s.ax,s.down.trans ho,λ_=>rfl,λ_ h=>s.keep ho ?_,hlb,s.len,λ_=>?_,λy=>(by cases y)⟩
  ·have hl:l=S.left∨S.left≠0/\l=S.left-1/\l≠0:=hl;have h:l≠0:=h;omega
  ·have e:=eQ l false;rw[show FD.Q (id { S.rk i b with left:=l,out:=false })=S.Q.rk i b from e];exact⟨u1,by show D.bS++_=S.Q.bS++_;rw[u2]⟩
theorem Sm.flush{D:RD}{S:FD}(s:Sm D S):D.flush.2=S.flush.2/\Sm D.flush.1 S.flush.1:=by
 unfold RD.flush FD.flush;have hd:¬S.out=true->¬D.down=true:=λy=>by rw[s.down];exact y
 by_cases ho:S.out=true
 ·rw[if_pos (s.down.trans ho),if_pos ho];exact⟨rfl,s⟩
 rw[if_neg (hd ho),if_neg ho];have ho:S.out=false:=by simpa using ho
 obtain⟨c,lq⟩:=s.ok.calm;obtain⟨u1,u2⟩:=s.up ho;have W:=RV (D1:={ D with ax:=wI (D.ax+1) }) (S1:={ S with ax:=wI (S.ax+1) }) (f:=RD.pS) (g:=λS=>{ S with gq:=S.gq++[(2,0,[])] }) ho (s.down.trans ho) (s.left ho) s.pN (λh0 h1=>?_) λl hl=>?_
 ·obtain⟨W1,W2⟩:=W;refine⟨W1.trans ?_,?_⟩
  ·split <;> rfl
  ·refine cast ?_ W2;congr 1
   split <;> rfl
 ·have lk:=s.ok.left S.keep;refine⟨⟨s.ok.len,s.ok.max,s.ok.may⟩,s.tape,s.writes,by show wI (D.ax+1)=_;rw[s.ax],rfl,λy=>(by cases y),λy=>(by cases y),⟨by show 0<=S.left-1;have:=s.pN;have h0:S.left≠0:=h0;omega,by show S.left-1<=_;have:=s.pN;omega⟩,by show(dh _ _).length=_;rw[iq];exact s.len,λy=>(by cases y),λ_=>⟨?_,rfl⟩⟩;show dh D.aE (jt D.bS D.keep)=oE S.keep (chunks S.first) S.gq 0;rw[u1,u2,s.keep ho h0];exact lk
 ·have hlb:0<=l/\l<=9223372036854775807:=by
   have:=s.pN;have hl:l=S.left∨S.left≠0/\l=S.left-1/\l≠0:=hl;omega
  have eQ:replay (Ad.fresh (chunks S.first)) (S.gq++[(2,0,[])])=RD.pS { S.Q with ax:=wI (S.Q.ax+1) }:=by rw[yI];exact yK (D:=S.Q) c
  refine⟨⟨s.ok.len,s.ok.max,λt ht=>?_⟩,by show D.tape++_=S.gq++_;rw[s.tape],s.writes,by show wI (D.ax+1)=_;rw[s.ax],s.down.trans ho,λ_=>rfl,λ_ h=>s.keep ho ?_,hlb,by show(dh _ _).length=_;rw[iq];exact s.len,λ_=>?_,λy=>(by cases y)⟩
  ·rcases nB.mp ht with ht|ht
   ·exact s.ok.may t ht
   ·rw[kU.mp ht];exact .inl rfl
  ·have hl:l=S.left∨S.left≠0/\l=S.left-1/\l≠0:=hl;have h:l≠0:=h;omega
  ·show dh D.aE D.bS=(replay (Ad.fresh (chunks S.first)) (S.gq++[(2,0,[])])).aE/\[]=(replay (Ad.fresh (chunks S.first)) (S.gq++[(2,0,[])])).bS;rw[eQ,u1,u2];exact⟨rfl,rfl⟩
theorem Sm.image{D:RD}{S:FD}(s:Sm D S):D.aE=S.image:=by
 unfold FD.image
 cases ho:S.out with
 | true=>rw[if_pos rfl];exact(s.dn ho).1
 | false=>
  rw[if_neg (by simp),(s.up ho).1,<-s.ok.left []];show _=dh S.Q.aE (jt S.Q.bS []);have:jt S.Q.bS []=[]:=by unfold jt;rw[List.zip_nil_right];rfl
  rw[this];rfl
theorem Iu(b:LB)(i:Int)(ps:List (Int×LB))(p:Int×LB):jK b i (ps++[p])=if p.1=i then p.2 else jK b i ps:=by unfold jK;rw[vh];rfl
theorem GS(i:Nat):∀(ps:List (Int×LB)) (ls:List LB),i<ls.length->(∀x∈ps,0<=x.1)->(dh ls ps).getD i []=jK (ls.getD i []) i ps
 | [],_,_,_=>rfl
 | p::r,ls,hi,h=>by
  have h0:=h p (kj ..);show(dh (ls.set p.1.toNat p.2) r).getD i []=jK (if p.1=i then p.2 else ls.getD i []) i r;rw[GS i r _ (by rw[pL];exact hi) λx hx=>h x (gV _ hx)];congr 1;rw[gh,gh]
  by_cases e:p.1=i
  ·rw[if_pos e,show p.1.toNat=i by omega,List.getElem?_set_self hi];rfl
  ·rw[if_neg e,List.getElem?_set_ne oX]
theorem Nq(N i:Nat)(z:LB)(D0:RD)(c0:L3.Calm D0)(hN:D0.aE.length=N)(h0:D0.bS=[])(hz:D0.aE.getD i []=z)(hi:i<N):∀(n:Nat) (ts:List Tt),ts.length=n->(∀t∈ts,WS N t)->
  nI (replay D0 ts) i=vo i z ts/\(∀x∈(replay D0 ts).bS,0<=x.1)/\(replay D0 ts).bS.map (·.1)=RU ts:=by
 intro n
 induction n with
 | zero=>
  intro ts hl _;have:ts=[]:=TK.mp hl;subst this;refine⟨?_,?_,?_⟩
  ·show jK (D0.aE.getD i []) i D0.bS=z;rw[h0,hz];rfl
  ·intro x hx;have hx:x∈D0.bS:=hx;rw[h0]at hx;cases hx
  ·show D0.bS.map (·.1)=[];rw[h0];rfl
 | succ n ih=>
  intro ts hl hm;have fP:ts≠[]:=λe=>by rw[e]at hl;cases hl
  obtain⟨us,t,rfl⟩:∃us t,ts=us++[t]:=⟨ts.dropLast,ts.getLast fP,(abS fP).symm⟩;have hu:∀t∈us,WS N t:=λx hx=>hm x (List.mem_append_left _ hx);obtain⟨i1,i2,i3⟩:=ih us (by rw[bg]at hl;simpa using hl) hu;obtain⟨c,lq⟩:=Ek N us c0 hN hu;rw[yI,Bb,PQ];obtain⟨k,j,b⟩:=t
  rcases hm (k,j,b) (List.mem_append_right _ (kU.mpr rfl))with h2|⟨h1,e0,e1,e2⟩
  ·have h2:k=2:=h2;subst h2;rw[yK c,if_neg (λy=>by have:=y.1;simp at this),if_pos rfl];refine⟨?_,λx hx=>(by cases hx),rfl⟩;rw[<-i1];exact GS i _ _ (by rw[lq];exact hi) i2
  ·have h1:k=1:=h1;subst h1;rw[yJ c e0 (by rw[lq];exact e1) e2,if_neg (show ¬((1:Int),j,b).1=2 from(by decide:¬(1:Int)=2))];refine⟨?_,λx hx=>?_,?_⟩
   ·show jK ((replay D0 us).aE.getD i []) i ((replay D0 us).bS++[(j,b)])=_;rw[Iu,<-i1]
    by_cases e:j=i
    ·rw[if_pos e,if_pos ⟨rfl,e⟩]
    ·rw[if_neg e,if_neg (λy=>e y.2)];rfl
   ·rcases nB.mp hx with hx|hx
    ·exact i2 x hx
    ·rw[kU.mp hx];exact e0
   ·show((replay D0 us).bS++[(j,b)]).map (·.1)=_;rw[eT,i3];rfl
theorem Sm.read{D:RD}{S:FD}(s:Sm D S)(ho:S.out=false){i:Nat}(hi:i<S.N):nI D i=vo i (S.qk i) S.gq:=by
 obtain⟨u1,u2⟩:=s.up ho;have hl:(chunks S.first).length=S.N:=by rw[kg];rfl
 have hz:(Ad.fresh (chunks S.first)).aE.getD i []=S.qk i:=by
  show(chunks S.first).getD i []=_;rw[gh,fg (by rw[hl];exact hi),Option.getD_some,AZ];rfl
 obtain⟨r1,_⟩:=Nq S.N i (S.qk i) (Ad.fresh (chunks S.first)) (L3.Calm.fresh (xk _)) hl rfl hz hi S.gq.length S.gq rfl s.ok.may;rw[<-r1];unfold nI;rw[u1,u2];rfl
theorem W4(h1:bs.length % 512=0)(h2:bs.length / 512<=16384):Sm (Ad.fresh (chunks bs)) (PH bs):=
 ⟨⟨by show bs.length=bs.length/512*512;omega,h2,λt ht=>(by cases ht)⟩,rfl,rfl,rfl,rfl,λ_=>rfl,λ_ y=>absurd rfl y,⟨th _,by show(0:Int)<=_;decide⟩,by show(chunks bs).length=_;rw[kg];rfl,λ_=>⟨rfl,rfl⟩,λy=>(by cases y)⟩
theorem JU(S:FD):S.goes.1.gq=S.gq/\S.goes.1.first=S.first:=by unfold FD.goes;split <;> exact⟨rfl,rfl⟩
theorem PR(S:FD)(i:Int)(bs:LB)(hw:∀ t ∈ S.gq,t.2.2.length<=512):(∀t∈(S.write i bs).1.gq,t.2.2.length<=512)/\(S.write i bs).1.first=S.first:=by
 unfold FD.write
 split
 ·exact⟨hw,rfl⟩
 ·split
  ·exact⟨hw,rfl⟩
  ·rename_i h1 h2;have h2:Is (S.N:Nat) (1,i,bs)=0:=(by simpa using h2);obtain⟨e1,e2⟩:=JU (S.rk i bs);refine⟨λt ht=>?_,e2⟩;rw[e1]at ht;have ht:t∈S.gq++[(1,i,bs)]:=ht
   rcases nB.mp ht with ht|ht
   ·exact hw t ht
   ·rw[kU.mp ht]
    rcases WT h2 with h|⟨_,_,_,h⟩
    ·have h:(1:Int)=2:=h;exact absurd h dX
    ·have h:bs.length=512:=h;show bs.length<=512;omega
theorem PS(S:FD)(hw:∀ t ∈ S.gq,t.2.2.length<=512):(∀t∈S.flush.1.gq,t.2.2.length<=512)/\S.flush.1.first=S.first:=by
 obtain⟨e1,e2⟩:=JU { S with ax:=wI (S.ax+1) };have e1:(FD.goes { S with ax:=wI (S.ax+1) }).1.gq=S.gq:=e1;have e2:(FD.goes { S with ax:=wI (S.ax+1) }).1.first=S.first:=e2;unfold FD.flush
 split
 ·exact⟨hw,rfl⟩
 ·split
  ·exact⟨by rw[e1];exact hw,e2⟩
  ·refine⟨λt ht=>?_,e2⟩;have ht:t∈(FD.goes { S with ax:=wI (S.ax+1) }).1.gq++[(2,0,[])]:=ht;rw[e1]at ht
   rcases nB.mp ht with ht|ht
   ·exact hw t ht
   ·rw[kU.mp ht];exact bN _
theorem ahW{S S':FD}(h:S'.first=S.first):S'.N=S.N:=by unfold FD.N;rw[h]
def tj(h:ad)(E:NP)(r:OA)(D:RD):Prop:=∃ao S,vn h r S ao 1/\Sm D S/\0<S.N/\(∀t∈S.gq,t.2.2.length<=512)/\(∀b,h.size<=b->ao b=0)/\∀b,E b↔1<=ao b/\ao b<=6
section
variable{h h' : ad}{E F : Nat -> Prop}{r : OA}{D : RD}
theorem tj.mk{S:FD}(a:vn h r S ao 1)(s:Sm D S)(p:0<S.N)(w:∀ t ∈ S.gq,t.2.2.length<=512):tj h (λb=>b<h.size/\1<=ao b/\ao b<=6) r D:=by
 refine⟨trim ao h.size,S,a.keep (F:=No) (Fr.refl _ h) (BX _ _) λ_ _ _ x=>x,s,p,w,λb hb=>vl hb,λb=>⟨λhb=>by rw[sP hb.1];exact hb.2,λhb=>?_⟩⟩
 rcases rI b h.size with h1|h1
 ·rw[sP h1]at hb;exact⟨h1,hb⟩
 ·rw[vl h1]at hb;omega
theorem tj.lt(x:tj h E r D){b:Nat}(hb:E b):b<h.size:=by
 obtain⟨ao,S,_,_,_,_,hz,hD⟩:=x
 rcases rI b h.size with h1|h1
 ·exact h1
 ·have:=(hD b).mp hb;rw[hz b h1]at this;omega
theorem tj.fr(x:tj h E r D)(f:Fr F h h')(hF:∀ b,E b->¬ F b):tj h' E r D:=by
 obtain⟨ao,S,a,s,p,w,hz,hD⟩:=x;have:=f.size;exact⟨ao,S,a.keep f (Ag.refl _ _) λb h1 h2=>hF b ((hD b).mpr ⟨h1,oX⟩),s,p,w,λb hb=>hz b oX,hD⟩
theorem tj.no(x:tj h E r D)(f:Fr No h h'):tj h' E r D:=x.fr f λ_ _ y=>y
theorem W5(hD:∀ b,E b↔1<=ao b/\ao b<=6)(f:Fr (Dk ao 1) h h'):Fr E h h':=f.mono λb _ hb=>(hD b).mpr ⟨hb.1,by have:=hb.2;omega⟩
theorem tj.gw{aB:Nat->Nat}{S':FD}(hD:∀ b,E b↔1<=ao b/\ao b<=6)(g:Ag h.size ao aB)(a:vn h' r S' aB 1)(s:Sm D S')(p:0<S'.N)(w:∀ t ∈ S'.gq,t.2.2.length<=512)(hs:h.size<=h'.size) :
  ∃E',Gw h E h' E'/\tj h' E' r D:=
 ⟨_,⟨λb hb=>by rw[hD b,g b hb];exact⟨λx=>x.2,λx=>⟨oX,x⟩⟩,λb hb=>hb.1⟩,tj.mk a s p w⟩
theorem tj.write{i:Int}{a:OA}{l c:Nat}{bs:LB}{K:KT}(x:tj h E r D)(B:av h a l bs)(hl:l<=140737488355328)(ht:D.tape.length<1000000000)
  (hK:∀h' E',Fr E h h'->Gw h E h' E'->tj h' E' r (D.write i bs).1->K (vI (D.write i bs).2) h'):C.dG r i a l c h K:=by
 obtain⟨ao,S,A,s,p,w,hz,hD⟩:=x;obtain⟨e,s'⟩:=s.write i bs;obtain⟨w',ef⟩:=PR S i bs w;refine fp A B hl s.pN (by rw[<-s.tape];exact ht) λh' aB f g A'=>?_;obtain⟨E',G,X⟩:=tj.gw hD g A' s' (by rw[ahW ef];exact p) w' f.size;rw[<-e];exact hK h' E' (W5 hD f) G X
theorem tj.flush{K:KT}(x:tj h E r D)(ht:D.tape.length<1000000000)
  (hK:∀h' E',Fr E h h'->Gw h E h' E'->tj h' E' r D.flush.1->K (vI D.flush.2) h'):C.dH r h K:=by
 obtain⟨ao,S,A,s,p,w,hz,hD⟩:=x;obtain⟨e,s'⟩:=s.flush;obtain⟨w',ef⟩:=PS S w;refine A8 A s.pN (by rw[<-s.tape];exact ht) λh' aB f g A'=>?_;obtain⟨E',G,X⟩:=tj.gw hD g A' s' (by rw[ahW ef];exact p) w' f.size;rw[<-e];exact hK h' E' (W5 hD f) G X
theorem tj.blocks(x:tj h E r D)(hK:K (vI D.aE.length) h):C.bL r h K:=by
 obtain⟨ao,S,A,s,p,w,hz,hD⟩:=x;refine lj A ?_;rw[s.len]at hK;exact hK
theorem tj.read{i:Int}{K:KT}(x:tj h E r D)
  (h1:D.down=true->K (.tuple #[vS none 0 0,vI 30]) h) (h2:D.down=false->¬(0<=i/\i<D.aE.length)->K (.tuple #[vS none 0 0,vI 31]) h)
  (h3:D.down=false->0<=i->i<D.aE.length->∀a l c h',Fr No h h'->Sl h' 1 a l c ((nI D i.toNat).map bv) (cW h.size)->K (.tuple #[vS a l c,vI 0]) h'):C.cK r i h K:=by
 obtain⟨ao,S,A,s,p,w,hz,hD⟩:=x;rw[s.down,s.len]at *;refine dv A s.ok (λt ht=>k9 (w t ht) dX) h1 h2 λho i0 i1 a c h' f sl=>?_;have e:=s.read ho (i:=i.toNat) oX;rw[show((i.toNat:Nat):Int)=i by omega]at e;rw[e]at h3;exact h3 ho i0 i1 a _ c h' f sl
theorem tj.image{K:KT}(x:tj h E r D)(hK:∀ a l c h',Fr No h h'->Sl h' 1 a l c (D.aE.flatten.map bv) (cW h.size)->K (vS a l c) h'):C.eD r h K:=by
 obtain⟨ao,S,A,s,p,w,hz,hD⟩:=x;rw[s.image]at hK;exact A2 A s.ok λa c h' f sl=>hK a _ c h' f sl
theorem Γ(h0:0<bs.length)(h1:bs.length % 512=0):0<(PH bs).N:=by
 show 0<bs.length/512;omega
theorem tj.of(B:av h a l bs)(hl:l<=140737488355328)
  (h1:l%512≠0∨l=0∨16384<l/512->K (.tuple #[vP none,vI 32]) h)
  (h2:l%512=0->0<l->l/512<=16384->∀q h' E,Fr No h h'->(∀b,E b->h.size<=b)->tj h' E (some q) (fresh (chunks bs))->K (.tuple #[vP (some q),vI 0]) h'):C.k7 a l c h K:=by
 refine Fk (λ_=>0) 1 B hl h1 λy1 y2 y3 q h' aB f g A=>?_;have bl:=B.1;refine h2 y1 y2 y3 q h' _ f (λb hb=>?_) (tj.mk A (W4 oX oX) (Γ oX oX) λt ht=>by cases ht)
 rcases rI b h.size with h1|h1
 ·have e:aB b=0:=g b h1;omega
 ·exact h1
end
end Rf
namespace Wc
open Hp W Ad
theorem Nr : ∀(xs:List PG) (S:RD),(qj xs S).1.tape.length<=S.tape.length+xs.length/\(qj xs S).1.bS.length<=S.bS.length+xs.length
 | [],S=>⟨bE _,bE _⟩
 | s::r,S=>by
  obtain⟨a,b⟩:=zz S s
  have e:qj (s::r) S=if(s.on S).2=0 then qj r (s.on S).1 else s.on S:=rfl
  rw[e,pA]
  split
  ·obtain⟨c,d⟩:=Nr r (s.on S).1;omega
  ·omega
theorem Ui{S:RD}(h:S.down=true):∀{xs:List PG},xs≠[]->qj xs S=(S,30)
 | [],hn=>absurd rfl hn
 | s::r,_=>by
  have e:s.on S=(S,30):=by
   cases s with
   | w i b=>show S.write i b=_;unfold RD.write;rw[if_pos h]
   | f=>show S.flush=_;unfold RD.flush;rw[if_pos h]
  show(if(s.on S).2=0 then qj r (s.on S).1 else s.on S)=_;rw[e];exact if_neg (show ¬(30:Int)=0 by decide)
theorem Uj(l:Nb):(JM l).length=l.length+3:=by unfold JM ws;rw[bg,aP];rfl
theorem yL(l:Nb)(WQ:LB):(ru l WQ).length=2*l.length+6:=by
 unfold ru;rw[bg,bg,Uj];unfold ws;rw[aP,oD];show l.length+3+(l.length+3)=_;omega
theorem PT(l:Nb)(WQ:LB):ru l WQ≠[]:=λe=>by have:=yL l WQ;rw[e]at this;cases this
theorem Δ{S:RD}{l:Nb}(h0:l≠[])(h1:Dm l S.aE.length=true)(h2:(l.map (·.2)).all (λd=>d.length == 512)=true):Dn S l=qj (ru l (pj l)) S:=by
 unfold Dn;rw[if_neg h0,if_neg (by rw[h1];decide),if_neg (by rw[h2];decide)]
 split
 ·rename_i h;exact(Ui h (PT _ _)).symm
 ·rfl
theorem GU{l:Nb}(h:Dm l n=true):l.length<=96:=by
 unfold Dm at h;rw[dB,decide_eq_true_eq]at h;omega
theorem Θ(S:RD)(l:Nb):(Dn S l).1.tape.length<=S.tape.length+198/\(Dn S l).1.bS.length<=S.bS.length+198:=by
 unfold Dn
 split
 ·exact⟨kM _ _,kM _ _⟩
 ·split
  ·exact⟨kM _ _,kM _ _⟩
  ·rename_i hm;have:=GU (l:=l) (n:=S.aE.length) (by cases e:Dm l S.aE.length <;> simp_all)
   split
   ·exact⟨kM _ _,kM _ _⟩
   ·split
    ·exact⟨kM _ _,kM _ _⟩
    ·have:=Nr (ru l (pj l)) S;rw[yL]at this;omega
end Wc
namespace Cr
open Hp Su
def P : BitVec 32:=0xEDB88320#32
def T(w:BitVec 32):BitVec 32:=(w >>> 1) ^^^ (bif w.getLsbD 0 then P else 0#32)
theorem W6(a b:BitVec 32):T (a ^^^ b)=T a ^^^ T b:=by
 unfold T;rw[BitVec.ushiftRight_xor_distrib,RO]
 cases a.getLsbD 0 <;> cases b.getLsbD 0 <;> simp only[abY,Bool.xor_true,Bool.not_false,Bool.not_true,cond_true,cond_false,Nn]
 ·rw[Al]
 ·rw[Al,Al,GQ P]
 ·rw[Al (a >>> 1) P,GQ (b >>> 1) P,<-Al P,RP,abZ]
def Tn : Nat->BitVec 32->BitVec 32
 | 0,w=>w
 | n+1,w=>Tn n (T w)
theorem PU : ∀(n:Nat) (a b:BitVec 32),Tn n (a ^^^ b)=Tn n a ^^^ Tn n b
 | 0,_,_=>rfl
 | n+1,a,b=>by rw[Tn,W6,PU n];rfl
theorem Ns{x:BitVec 32}(h:x.toNat<2 ^ 31):T (x <<< 1)=x:=by
 have h0:(x <<< 1).getLsbD 0=false:=by rw[RQ];rfl
 rw[T,h0,cond_false,Nn];apply BitVec.eq_of_toNat_eq;rw[Np,WY,WW,Nl,vg oX];omega
def bit(b:Bool):BitVec 32:=bif b then 1#32 else 0#32
def Iv : List Bool->Nat
 | []=>0
 | b::r=>b.toNat+2*Iv r
theorem RW : ∀bs:List Bool,Iv bs<2 ^ bs.length
 | []=>by decide
 | b::r=>by
  have:=RW r;have hb:b.toNat<=1:=by cases b <;> decide
  rw[Iv,pA,wk];omega
def num(bs:List Bool):BitVec 32:=BitVec.ofNat 32 (Iv bs)
theorem Xa(b:Bool)(r:List Bool)(h:Iv r<2 ^ 31):num (b::r)=bit b ^^^ (num r <<< 1):=by
 apply RS;intro i hi;rw[num,Iv,WZ,RO,RQ,num,WZ]
 cases i with
 | zero=>
  have e:(b.toNat+2*Iv r).testBit 0=b:=by rw[Nat.testBit_zero];cases b <;> simp[Nat.add_mod]
  rw[e]
  cases b <;> simp[bit]
 | succ i=>
  have e:(b.toNat+2*Iv r).testBit (i+1)=(Iv r).testBit i:=by
   rw[Nat.testBit_succ];congr 1;have hb:b.toNat<=1:=(by cases b <;> decide);omega
  have e2:(bit b).getLsbD (i+1)=false:=by
   cases b
   ·simp[bit]
   ·simp[bit,RT]
  rw[e,e2];simp[hi,show i<32 by omega]
def g(D:BitVec 32)(b:Bool):BitVec 32:=T (D ^^^ bit b)
theorem Nt : ∀(bs:List Bool),bs.length<=32->∀D,bs.foldl g D=Tn bs.length (D ^^^ num bs)
 | [],_,D=>by
  have:num []=0#32:=rfl;rw[this,Nn];rfl
 | b::r,h,D=>by
  have hl:r.length<=31:=by rw[pA]at h;omega
  have hn:Iv r<2 ^ 31:=mV (RW r) (Ec dX hl)
  have hN:(num r).toNat<2 ^ 31:=by
   rw[num,Ed,vg oX];exact hn
  rw[zN,Nt r oX,pA,Tn,Xa b r hn,<-Al,W6 (D ^^^ bit b),Ns hN];rfl
theorem vp(a b:BitVec 32):bP .xor .u32 (a.toNat:Int) (b.toNat:Int)=((a ^^^ b).toNat:Int):=by
 show IntKind.wrap .u32 (((BitVec.ofInt 32 (a.toNat:Int) ^^^ BitVec.ofInt 32 (b.toNat:Int)).toNat:Nat):Int)=_;rw[Ah,Ah,JS,JS,JT,JT];have:=(a ^^^ b).isLt;exact wrap_u32 ⟨oX,oX⟩
theorem RX(a b:BitVec 32):bP .and .u32 (a.toNat:Int) (b.toNat:Int)=((a &&& b).toNat:Int):=by
 show IntKind.wrap .u32 (((BitVec.ofInt 32 (a.toNat:Int) &&& BitVec.ofInt 32 (b.toNat:Int)).toNat:Nat):Int)=_;rw[Ah,Ah,JS,JS,JT,JT];have:=(a &&& b).isLt;exact wrap_u32 ⟨oX,oX⟩
theorem Ξ(a:BitVec 32):Int.fdiv (a.toNat:Int) (2 ^ min (Int.toNat 4) 32)=((a >>> 4).toNat:Int):=by
 have e:(2 ^ min (Int.toNat 4) 32:Int)=16:=by decide
 rw[e,Np,Nl,vf _ dX];omega
theorem PV : ∀n:Nat,n<16->half (n:Int)=((Tn 4 (BitVec.ofNat 32 n)).toNat:Int):=by decide
theorem Φ : ∀i,i<32->(15#32).getLsbD i=decide (i<4):=by decide
theorem low4(x:BitVec 32):x=(x &&& 15#32) ^^^ ((x >>> 4) <<< 4):=by
 apply RS;intro i hi;rw[RO,ab1,Φ i hi,RQ,ab2]
 by_cases h:i<4
 ·simp[h]
 ·rw[decide_eq_true hi,decide_eq_false h,show 4+(i-4)=i by omega];simp
theorem Ψ{z:BitVec 32}(h:z.toNat<2 ^ 28):Tn 4 (z <<< 4)=z:=by
 have s:∀k,k<=3->(z <<< k).toNat<2 ^ 31:=λk hk=>by
  rw[WY,WW];refine abX (Nat.mod_le _ _) ?_;have:2 ^ k<=2 ^ 3:=Ec dX hk;have:=Nat.mul_le_mul_left z.toNat this;omega
 have e:∀k,z <<< (k+1)=(z <<< k) <<< 1:=λk=>by rw[BitVec.shiftLeft_add]
 show T (T (T (T (z <<< 4))))=z;rw[e 3,Ns (s 3 dX),e 2,Ns (s 2 dX),e 1,Ns (s 1 dX),e 0,Ns (s 0 dX)];exact BitVec.shiftLeft_zero z
theorem JV(x:BitVec 32):bP .xor .u32 (half (bP .and .u32 (x.toNat:Int) 15)) (Int.fdiv (x.toNat:Int) (2 ^ min (Int.toNat 4) 32))=((Tn 4 x).toNat:Int):=by
 have e15:(15:Int)=((15#32).toNat:Int):=rfl
 have hx:(x &&& 15#32).toNat<16:=by
  rw[ab3];exact abX Nat.and_le_right dX
 rw[e15,RX,PV _ hx,JS,JT,Ξ,vp]
 have hz:(x >>> 4).toNat<2 ^ 28:=by
  rw[Np,Nl];have:=x.isLt;omega
 conv=>rhs;rw[low4 x,PU,Ψ hz]
theorem GV : ∀(m n:Nat) (w:BitVec 32),Tn (m+n) w=Tn n (Tn m w)
 | 0,n,w=>by rw[wR];rfl
 | m+1,n,w=>by rw[Nat.add_right_comm,Tn,GV m n];rfl
theorem Dr(v:BitVec 32)(b:UInt8):Ai (v.toNat:Int) b=((Tn 8 (v ^^^ BitVec.ofNat 32 b.toNat)).toNat:Int):=by
 have hb:b.toNat<256:=b.toNat_lt
 have e:IntKind.wrap .u32 (b.toNat:Int)=((BitVec.ofNat 32 b.toNat).toNat:Int):=by
  rw[wrap_u32 ⟨oX,oX⟩,Ed,vg oX]
 unfold Ai;rw[e,vp,JV,JV,show(8:Nat)=4+4 from rfl,GV]
def bitsOf(b:UInt8):List Bool:=(List.range 8).map λi=>b.toNat.testBit i
theorem Xb : ∀n:Nat,n<256->num ((List.range 8).map λi=>n.testBit i)=BitVec.ofNat 32 n:=by decide +kernel
theorem vL(b:UInt8):(bitsOf b).length=8:=by rw[bitsOf,aP,xE]
theorem JW(v:BitVec 32)(b:UInt8):Ai (v.toNat:Int) b=(((bitsOf b).foldl g v).toNat:Int):=by
 rw[Dr,Nt _ (by rw[vL];decide),vL,bitsOf,Xb _ b.toNat_lt]
def pT(bs:LB):List Bool:=bs.flatMap bitsOf
theorem GW(bs:LB):(pT bs).length=8*bs.length:=by
 induction bs with
 | nil=>rfl
 | cons b r ih=>
  have e:pT (b::r)=bitsOf b++pT r:=rfl;rw[e,bg,vL,ih,pA];omega
theorem Uk : ∀(bs:LB) (v:BitVec 32),bs.foldl Ai (v.toNat:Int)=(((pT bs).foldl g v).toNat:Int):=by
 intro bs
 induction bs with
 | nil=>intro v;rfl
 | cons b r ih=>
  intro v;have e:pT (b::r)=bitsOf b++pT r:=rfl;rw[zN,JW,ih,e,vh]
end Cr
namespace Cr
open Hp Su Re Hd
def Ω(m:List Int)(F:BitVec 32->BitVec 32):Prop:=m=(List.range 32).map λi=>((F (1#32 <<< i)).toNat:Int)
def Lin(F:BitVec 32->BitVec 32):Prop:=∀a b,F (a ^^^ b)=F a ^^^ F b
theorem Lin.zero{F:BitVec 32->BitVec 32}(h:Lin F):F 0#32=0#32:=by
 have:=h 0#32 0#32;rw[RP]at this;rw[this,RP]
def low(V:BitVec 32)(i:Nat):BitVec 32:=BitVec.ofNat 32 (V.toNat%2 ^ i)
theorem RY(V:BitVec 32)(i j:Nat)(hj:j<32):(low V i).getLsbD j=(decide (j<i) && V.getLsbD j):=by
 rw[low,WZ,Nat.testBit_mod_two_pow,decide_eq_true hj,yj];rfl
theorem Xc(V:BitVec 32)(i:Nat)(hi:i<32):low V (i+1)=low V i ^^^ (bif V.getLsbD i then 1#32 <<< i else 0#32):=by
 apply RS;intro j hj;rw[RO,RY V _ j hj,RY V _ j hj]
 have e1:(1#32 <<< i).getLsbD j=decide (j=i):=by
  rw[RQ,RT]
  by_cases h:j=i
  ·subst h;simp[hj]
  ·simp only[decide_eq_false h,decide_eq_true hj,yj]
   by_cases h2:j<i
   ·simp[h2]
   ·simp[h2,show j-i≠0 by omega]
 by_cases h:j=i
 ·subst h;rw[decide_eq_true (show j<j+1 by omega),decide_eq_false (show ¬j<j by omega)]
  cases hb:V.getLsbD j with
  | true=>rw[cond_true,e1];simp
  | false=>simp
 ·have:decide (j<i+1)=decide (j<i):=by
   by_cases h2:j<i
   ·rw[decide_eq_true h2,decide_eq_true (show j<i+1 by omega)]
   ·rw[decide_eq_false h2,decide_eq_false (show ¬j<i+1 by omega)]
  rw[this]
  cases V.getLsbD i with
  | true=>rw[cond_true,e1,decide_eq_false h,abY]
  | false=>simp
theorem aaa{V:BitVec 32}{i:Nat}(h:V.toNat<2 ^ i):low V i=V:=by
 rw[low,vg h,JS,JT]
theorem Xe{m:List Int}{F:BitVec 32->BitVec 32}(hm:Ω m F)(hF:Lin F)(V:BitVec 32):∀(f i:Nat),f=33-i->i<=32->qZ m f ((V >>> i).toNat:Int) ((F (low V i)).toNat:Int) i=((F V).toNat:Int):=by
 intro f
 induction f with
 | zero=>intro i h1 h2;omega
 | succ f ih=>
  intro i h1 h2;have hV:=V.isLt;have hsh:(V >>> i).toNat=V.toNat/2 ^ i:=by rw[Np,Nl]
  unfold qZ
  by_cases hz:(V >>> i).toNat=0
  ·have bV:V.toNat<2 ^ i:=by
    rw[hsh]at hz;exact(Nat.div_eq_zero_iff_lt (Nat.pow_pos dX)).mp hz
   rw[hz,aaa bV];rfl
  ·have hi:i<32:=by
    rcases rI i 32 with h|h
    ·exact h
    ·exfalso;have:i=32:=oX;subst this;rw[hsh,WX (by exact hV)]at hz;exact hz rfl
   have fP:(((V >>> i).toNat:Int) != 0)=true:=(by rw[bne_iff_ne];omega);rw[fP,cond_true];have e1:(2 ^ min (Int.toNat 1) 32:Int)=2:=by decide
   have hd:Int.fdiv ((V >>> i).toNat:Int) 2=((V >>> (i+1)).toNat:Int):=by
    rw[vf _ dX,hsh,Np,Nl,wk,<-GP];omega
   have γ:(bP .and .u32 ((V >>> i).toNat:Int) 1==1)=V.getLsbD i:=by
    have e:(1:Int)=((1#32).toNat:Int):=rfl
    conv=>lhs;rw[show bP .and .u32 ((V >>> i).toNat:Int) 1=bP .and .u32 ((V >>> i).toNat:Int) ((1#32).toNat:Int) from rfl,RX]
    have hb:((V >>> i) &&& 1#32)=(bif V.getLsbD i then 1#32 else 0#32):=by
     apply RS;intro j hj;rw[ab1,RT,ab2]
     cases j with
     | zero=>cases V.getLsbD i <;> simp
     | succ j=>cases V.getLsbD i <;> simp[RT]
    rw[hb]
    cases V.getLsbD i <;> rfl
   rw[e1,hd,γ]
   have hmi:m.getD i 0=((F (1#32 <<< i)).toNat:Int):=by
    rw[hm,gh,jH,List.getElem?_range hi];rfl
   have hr:(bif V.getLsbD i then bP .xor .u32 ((F (low V i)).toNat:Int) (m.getD i 0)else((F (low V i)).toNat:Int))=((F (low V (i+1))).toNat:Int):=by
    rw[Xc V i hi,hmi]
    cases V.getLsbD i with
    | true=>rw[cond_true,cond_true,vp,hF]
    | false=>rw[cond_false,cond_false,Nn]
   rw[hr];exact ih (i+1) oX oX
theorem JX{m:List Int}{F:BitVec 32->BitVec 32}(hm:Ω m F)(hF:Lin F)(V:BitVec 32):xh m (V.toNat:Int)=((F V).toNat:Int):=by
 have:=Xe hm hF V 33 0 rfl oX;have e1:V >>> 0=V:=BitVec.ushiftRight_zero V;have e2:low V 0=0#32:=by rw[low,Nat.pow_zero,Nat.mod_one]
 rw[e1,e2,hF.zero]at this;exact this
theorem PW{m:List Int}{F:BitVec 32->BitVec 32}(hm:Ω m F)(hF:Lin F):Ω (gK m) (λa=>F (F a)):=by
 unfold Ω gK
 conv=>lhs;rw[show m=(List.range 32).map λi=>((F (1#32 <<< i)).toNat:Int) from hm]
 rw[qJ];apply Fu;intro i _;have:=JX hm hF (F (1#32 <<< i));rw[show m=(List.range 32).map λi=>((F (1#32 <<< i)).toNat:Int) from hm]at this;exact this
theorem aeD : Ω m0 (Tn 8):=by
 unfold Ω m0;apply Fu;intro i hi;have hi:=TJ.mp hi;have h2:2 ^ i<2 ^ 32:=Nat.pow_lt_pow_right dX hi
 have e:IntKind.wrap .u32 (1*2 ^ min i 32)=(((1#32 <<< i).toNat:Nat):Int):=by
  rw[xL oX,Int.one_mul,WY,WW];have e2:((2:Int) ^ i)=((2 ^ i:Nat):Int):=by simp
  rw[e2,wrap_u32 ⟨abV _,Int.ofNat_lt.mpr (show 2 ^ i<4294967296 from h2)⟩];have:(1#32).toNat=1:=rfl;rw[this,Nat.one_mul,vg h2]
 rw[e,Dr];have:BitVec.ofNat 32 (0:UInt8).toNat=0#32:=rfl;rw[this,Nn]
end Cr
namespace Cr
open Hp W Su Re Hd
theorem and1(h0:0<=n)(h1:n<9223372036854775808):bP .and .i64 n 1=n%2:=by
 obtain⟨k,rfl⟩:=Nk h0;show wI (((BitVec.ofInt 64 (k:Int) &&& BitVec.ofInt 64 ((1:Nat):Int)).toNat:Nat):Int)=_;rw[Ah,Ah,ab3,Ed,Ed]
 have hk:k<2 ^ 64:=by
  have:k<9223372036854775808:=oX;exact Nat.lt_trans this dX
 rw[vg hk,show 1%2 ^ 64=1 by decide,Nat.and_one_is_mod];rw[wrap_i64 oX oX];omega
theorem Xf(k:Nat):Lin (Tn k):=PU k
theorem Ul : ∀(f:Nat) (m:List Int) (k n:Nat) (V:BitVec 32),Ω m (Tn k)->n<2 ^ f->n<9223372036854775808->rf f m (V.toNat:Int) (n:Int)=((Tn (k*n) V).toNat:Int):=by
 intro f
 induction f with
 | zero=>
  intro m k n V _ hn _;have:n=0:=by simpa using hn
  subst this;rfl
 | succ f ih=>
  intro m k n V hm hn hb
  by_cases h0:n=0
  ·subst h0;rfl
  have hd:decide ((n:Int)>0)=true:=decide_eq_true oX
  have sq:Ω (gK m) (Tn (2*k)):=by
   have:=PW hm (Xf k)
   have e:(λa=>Tn k (Tn k a))=Tn (2*k):=by
    funext a;rw[show 2*k=k+k by omega,GV]
   rw[e]at this;exact this
  have hdiv:(n:Int)/2=((n/2:Nat):Int):=oX;have bV:n/2<2 ^ f:=by rw[wk]at hn;omega
  rw[rf,hd,cond_true,and1 oX oX,hdiv]
  by_cases ho:n%2=1
  ·have:((n:Int)%2==1)=true:=beq_iff_eq.mpr oX;rw[this,cond_true,JX hm (Xf k),ih _ (2*k) (n/2) _ sq bV oX,<-GV];congr 3;have e:k*n=k*(1+2*(n/2)):=(by congr 1;omega);rw[e,Nat.mul_add,ph,<-Nat.mul_assoc,BU k 2]
  ·have:((n:Int)%2==1)=false:=beq_eq_false_iff_ne.mpr oX;rw[this,cond_false,ih _ (2*k) (n/2) _ sq bV oX];congr 3;have e:k*n=k*(2*(n/2)):=(by congr 1;omega);rw[e,<-Nat.mul_assoc,BU k 2]
theorem Lv(V:BitVec 32){n:Nat}(hn:n<9223372036854775808):xi (V.toNat:Int) (n:Int)=((Tn (8*n) V).toNat:Int):=
 Ul 64 m0 8 n V aeD (Nat.lt_trans hn dX) hn
theorem Nu : ∀(xs:List Bool) (A B:BitVec 32),xs.foldl g (A ^^^ B)=xs.foldl g A ^^^ Tn xs.length B
 | [],_,_=>rfl
 | x::r,A,B=>by
  have e:g (A ^^^ B) x=g A x ^^^ T B:=by
   rw[g,g,<-W6];congr 1;rw[Al,Al,GQ B]
  rw[zN,zN,e,Nu r,pA];rfl
def fb(bs:LB)(v:BitVec 32):BitVec 32:=(pT bs).foldl g v
theorem GX(xs ys:LB):pT (xs++ys)=pT xs++pT ys:=iy
theorem JY(xs ys:LB)(v:BitVec 32):fb (xs++ys) v=fb ys (fb xs v):=by rw[fb,GX,vh];rfl
theorem aeE(bs:LB)(A B:BitVec 32):fb bs (A ^^^ B)=fb bs A ^^^ Tn (8*bs.length) B:=by rw[fb,Nu,GW];rfl
def M : BitVec 32:=0xFFFFFFFF#32
theorem RZ(bs:LB):ofM bs=((M ^^^ fb bs M).toNat:Int):=by
 have e:(4294967295:Int)=(M.toNat:Int):=rfl;have em:(IntKind.max .u32)=(M.toNat:Int):=by decide
 rw[ofM,e,em,Uk,vp];rfl
theorem Um(xs ys:LB)(h:ys.length<9223372036854775808):ofM (xs++ys)=Aj (ofM xs) (ofM ys) ys.length:=by
 rw[Aj,RZ,RZ,RZ,Lv _ h,vp,JY];congr 2
 have e:fb ys (fb xs M)=fb ys M ^^^ Tn (8*ys.length) (fb xs M ^^^ M):=by
  rw[<-aeE];congr 1;rw[GQ (fb xs M),<-Al,RP,abZ]
 rw[e,GQ M (fb xs M),<-Al,GQ M (fb ys M),GQ]
theorem GY : ∀(ds:List LB) (xs:LB),(∀d∈ds,d.length<9223372036854775808)->ds.foldl (λs d=>Aj s (ofM d) d.length) (ofM xs)=ofM (xs++ds.flatten)
 | [],xs,_=>by rw[List.flatten_nil,gi];rfl
 | d::r,xs,h=>by
  rw[zN,<-Um xs d (h d kj),GY r (xs++d) (λe he=>h e (gV _ he)),H6,iW]
theorem Xg(hd:LB)(ds:List LB)(h:∀ d ∈ ds,d.length<9223372036854775808):Ba hd ds=ofM (kX hd 12 (bo 4 0)++ds.flatten):=GY ds _ h
theorem aab(n:Nat)(w:BitVec 32):T (Tn n w)=Tn (n+1) w:=by rw[GV n 1];rfl
theorem GZ(h:ad)(b:Nat):(tJ h b).size=h.size:=by
 unfold tJ;split
 ·rw[Array.size_modify]
 ·rfl
theorem Xh(h:ad)(b c:Nat):rd (tJ h b) c=rd h c:=by
 unfold tJ;split
 ·rename_i cs e T hb;simp only[rd,Vz]
  by_cases hc:b=c
  ·subst hc;rw[if_pos rfl,hb];rfl
  ·rw[if_neg hc]
 ·rfl
theorem Fr.tJ{F:NP}{h h':ad}{b:Nat}(f:Fr F h h')(hb:F b∨h.size<=b):Fr F h (tJ h' b):=by
 refine⟨by rw[GZ];exact f.size,λc hc hF=>?_⟩;rw[<-f.same c hc hF];unfold Wx.tJ;split
 ·rw[Vz,if_neg];intro e;subst e
  rcases hb with hb|hb
  ·exact hF hb
  ·omega
 ·rfl
theorem K5.intro{k:HP}(H:k (tJ h p.block)):K5 p h k:=H
theorem Nv{elem:TI}{n:Nat}{old new:LV}{k:OA->Nat->Nat->ad->Prop}
  (ho:old.length=l*elem.cells) (S:ak h a old) (hn:new.length=n*elem.cells) (hz:elem.zero.length=elem.cells) (hb:(l+n)*elem.bytes<=140737488355328) (pV:l+n<=140737488355328) (hc:c<l+n)
  (hk:∀c' h',Fr No h h'->Sl h' elem.cells (some (bA h)) (l+n) c' (old++new) (λb=>b=h.size)->k (some (bA h)) (l+n) c' h') :
  aJ elem e a l c n new h k:=by
 refine⟨old,ho,S,hb,pV,λx=>absurd x oX,λ_ cap FH=>?_⟩;refine hk cap _ (EY _ _) (Sl.new h elem.cells e (l+n) cap (old++new) _ _ rfl (by rw[bg,ho,hn,Nat.add_mul]) FH ?_);rw[kY,hz]
theorem ly{elem:TI}{n:Nat}{new:LV}{k:OA->Nat->Nat->ad->Prop}(f:Fr No h0 h)
  (s:Sl h elem.cells a l c xs (cW h0.size)) (hn:new.length=n*elem.cells) (hz:elem.zero.length=elem.cells) (hb:(l+n)*elem.bytes<=140737488355328) (pV:l+n<=140737488355328)
  (hk:∀a' c' h',Fr No h0 h'->Sl h' elem.cells a' (l+n) c' (xs++new) (cW h0.size)->k a' (l+n) c' h') :
  aJ elem e a l c n new h k:=by
 have hs:=f.size;refine cY s hn hz hb pV λa' c' h' f' s'=>hk a' c' h' (f.trans f' λb hb e=>by have:h0.size<=b:=e;omega) (s'.mono λb hb=>?_)
 rcases hb with hb|hb
 ·exact hb
 ·show h0.size<=b;omega
theorem G0(m:Nat):(Value.int .u8 (IntKind.wrap .u8 (m:Int)))=bv (UInt8.ofNat m):=by
 rw[Ls];congr 1;apply sZ.mp;rw[lX,lX];omega
end Cr
namespace Rz
open Hp
theorem oe{α:Type}{a:Option α}{p:α}{k:α->Prop}(e:a=some p)(h:k p):ae a k:=by rw[e];exact h
variable{h0 hh h' : ad}{ao : Nat -> Nat}
end Rz
namespace Wd
open Hp W Ad Wc Rf
open L3 (Tt)
def vm(t:Tt):PG:=if t.1=1 then .w t.2.1 t.2.2 else .f
structure vM(h:ad)(E:NP)(es:List mg)(ts:List Tt):Prop where
 len:es.length=ts.length
 at_:∀i (h1:i<es.length) (h2:i<ts.length),es[i].kind=ts[i].1/\es[i].at_=ts[i].2.1/\av h es[i].a es[i].l ts[i].2.2/\∀p,es[i].a=some p->es[i].l≠0->¬E p.block
theorem Lw(B:av h (some p) l bs)(hl:l≠0):p.block<h.size:=
 L3.ak.lt B.2 λe=>by
  have:=B.1;rw[qx]at e;rw[e]at this;exact hl this.symm
theorem G4(B:av h a l bs)(f:Fr F h h')(hF:∀ p,a=some p->l≠0->p.block<h.size->¬ F p.block):av h' a l bs:=by
 by_cases hl:l=0
 ·subst hl;have e:bs=[]:=Vb B.1;subst e;exact av.nil h' a
 ·exact av.fr f B λp e=>by subst e;exact hF p rfl hl (Lw B hl)
theorem vM.step{E:NP}{es:List mg}{ts:List Tt}(t:vM h E es ts)(f:Fr E h h')(g:Gw h E h' E'):vM h' E' es ts:=by
 refine⟨t.len,λi h1 h2=>?_⟩;obtain⟨a,b,c,d⟩:=t.at_ i h1 h2;exact⟨a,b,G4 c f λp e hl _=>d p e hl,λp e hl y=>d p e hl ((g.old _ (by rw[e]at c;exact Lw c hl)).mp y)⟩
theorem vM.no{E:NP}{es:List mg}{ts:List Tt}(t:vM h E es ts)(f:Fr No h h'):vM h' E es ts:=by
 refine⟨t.len,λi h1 h2=>?_⟩;obtain⟨a,b,c,d⟩:=t.at_ i h1 h2;exact⟨a,b,G4 c f λ_ _ _ _ y=>y,d⟩
theorem vM.app{E:NP}{es EU:List mg}{ts ts':List Tt}(t:vM h E es ts)(t':vM h E EU ts'):vM h E (es++EU) (ts++ts'):=by
 refine⟨by rw[bg,bg,t.len,t'.len],λi h1 h2=>?_⟩;rw[bg]at h1 h2
 by_cases hi:i<es.length
 ·have Xi:i<ts.length:=by rw[<-t.len];exact hi
  simp only[JQ hi,JQ Xi];exact t.at_ i hi Xi
 ·have hl:=t.len;simp only[GO (show es.length<=i by omega),GO (show ts.length<=i by omega),hl];exact t'.at_ (i-ts.length) oX oX
theorem vM.nil(h:ad)(E:NP):vM h E [] []:=⟨rfl,λi h1=>absurd h1 (wm _)⟩
theorem vM.one{E:NP}{e:mg}{t:Tt}(h1:e.kind=t.1)(h2:e.at_=t.2.1)(h3:av h e.a e.l t.2.2)(h4:∀ p,e.a=some p->e.l≠0->¬ E p.block):vM h E [e] [t]:=
 ⟨rfl,λi g1 g2=>by
  have:i=0:=by have:i<1:=g1;omega
  subst this
  exact⟨h1,h2,h3,h4⟩⟩
theorem Xj{es:List mg}(R:ak h a (es.flatMap mg.cells)){i:Nat}(hi:i<es.length):∃p,a=some p/\ai h (p.add (i*3)) es[i].cells:=by
 cases a with
 | none=>
  exfalso;have R:es.flatMap mg.cells=[]:=R;have:=bq mg.cells 3 es λ_ _=>rfl;rw[R,FX]at this;omega
 | some p=>
  refine⟨p,rfl,?_⟩;have:=ai.part (show ai h p (es.flatMap mg.cells) from R) (i*3) 3;rw[kv mg.cells 3 es (λ_ _=>rfl) i hi]at this;exact this
structure Bx(h:ad)(a:OA)(rs:Rs):Prop where
 cells:ak h a (rs.flatMap mz)
 ok:∀r∈rs,av h r.2.1.a r.2.1.l r.2.2
theorem Bx.no{rs:Rs}(b:Bx h a rs)(f:Fr No h h'):Bx h' a rs:=⟨ak.fr f b.cells λ_ _ y=>y,λr hr=>av.fr f (b.ok r hr) λ_ _ y=>y⟩
theorem Bx.get{rs:Rs}(b:Bx h a rs){i:Nat}(hi:i<rs.length):∃p,a=some p/\ai h (p.add (i*2)) (mz rs[i]):=by
 have R:=b.cells
 cases a with
 | none=>
  exfalso;have R:rs.flatMap mz=[]:=R;have:=bq mz 2 rs λ_ _=>rfl;rw[R,FX]at this;omega
 | some p=>
  refine⟨p,rfl,?_⟩;have:=ai.part (show ai h p (rs.flatMap mz) from R) (i*2) 2;rw[kv mz 2 rs (λ_ _=>rfl) i hi]at this;exact this
theorem Cg(es:List mg):∀v∈es.flatMap mg.cells,v.oneCell'=true:=λv hv=>by
 obtain⟨e,_,hv⟩:=List.mem_flatMap.mp hv;unfold mg.cells at hv;simp only[fO,nT,or_false]at hv
 rcases hv with rfl|rfl|rfl <;> rfl
theorem Nw{n:Nat}{elem:TI}{K:OA->Nat->Nat->ad->Prop}(r:Row n0 hh F w a l c xs)(hv:vs.length=n*w)
  (hz:elem.zero.length=elem.cells) (hc:elem.cells=w) (hby:elem.bytes<=64) (hl:l+n<1000000) (hn:n0<=hh.size)
  (hK:∀a' c' h' F',Fr F hh h'->(∀b,F' b->F b∨hh.size<=b)->Row n0 h' F' w a' (l+n) c' (xs++vs)->K a' (l+n) c' h'):aJ elem e a l c n vs hh K:=by
 refine cY (show Sl hh elem.cells a l c xs F by rw[hc];exact r.s) (by rw[hc,hv]) hz (k9 (Nat.mul_le_mul (show l+n<=1000000 by omega) hby) dX) oX λa' c' h5 f5 s5=>?_;rw[hc]at s5;have z5:=f5.size;refine hK a' c' h5 (λb=>(F b∨hh.size<=b)/\b<h5.size) f5 (λb hb=>hb.1) ⟨?_,λb hb=>⟨?_,hb.2⟩⟩
 ·obtain⟨q1,q2⟩:=s5;refine⟨q1,?_⟩
  cases a' with
  | none=>exact q2
  | some p=>obtain⟨a1,a2,a3,a4⟩:=q2;exact⟨a1,⟨a2,a3.lt⟩,a3,a4⟩
 ·rcases hb.1 with q|q
  ·exact(r.ge b q).1
  ·omega
def vN(n:Int)(a:OA)(l c:Nat):mg:=⟨1,n,a,l,c⟩
def wC : mg:=⟨2,0,none,0,0⟩
def wT(l:Nb):List Tt:=l.map λp=>(1,p.1,p.2)
def Nx(l:Nb):List Tt:=wT l++[(2,0,[]),(1,1,Hd.aV 512),(2,0,[])]
theorem ahX(l:Nb):(wT l).map vm=ws l:=by
 unfold wT ws;rw[qJ];rfl
theorem Xk(l:Nb):(Nx l).map vm=JM l:=by
 unfold Nx JM;rw[eT,ahX];rfl
def Ix(ds:List LB)(i:Nat):List Tt:=(List.range i).map λk:Nat=>((1:Int),2+(k:Int),ds.getD k [])
theorem Un(ds:List LB)(i:Nat):Ix ds (i+1)=Ix ds i++[((1:Int),2+(i:Int),ds.getD i [])]:=by unfold Ix;rw[Ei,eT];rfl
theorem aac(l:Nb):(Ix (l.map (·.2)) l.length).map vm=ws (Lt l):=by
 unfold ws;refine List.ext_getElem (by unfold Ix;rw[aP,aP,aP,xE,oD]) λi h1 h2=>?_;rw[aP,oD]at h2;rw[mu,mu,Nd _ (by rw[oD];exact h2)];unfold Ix;rw[mu,yB];show PG.w (2+(i:Int)) ((l.map (·.2)).getD i [])=PG.w (2+(i:Int)) l[i].2;rw[gh,jH,fg h2];rfl
def zB(l:Nb)(WQ:LB):List Tt:=Ix (l.map (·.2)) l.length++[(2,0,[]),(1,1,WQ),(2,0,[])]++Nx l
theorem PX(l:Nb)(WQ:LB):(zB l WQ).map vm=ru l WQ:=by
 unfold zB ru;rw[eT,eT,aac,Xk];rfl
theorem aad(l:Nb)(p:Int×LB):wT (l++[p])=wT l++[(1,p.1,p.2)]:=by unfold wT;rw[eT];rfl
theorem JZ(es:List mg)(e:mg):(es++[e]).flatMap mg.cells=es.flatMap mg.cells++e.cells:=by rw[iy,List.flatMap_cons,List.flatMap_nil,gi]
theorem vM.vN{h:ad}{E:NP}{n:Int}{a:OA}{l c:Nat}{b:LB}(B:av h a l b)(O:∀ p,a=some p->l≠0->¬ E p.block):vM h E [Wd.vN n a l c] [(1,n,b)]:=vM.one rfl rfl B O
theorem vM.wC(h:ad)(E:NP):vM h E [Wd.wC] [(2,0,[])]:=vM.one rfl rfl (av.nil h none) λp e=>by cases e
theorem Lx(R:Row n0 h F w a l c xs)(f:Fr No h0 h)(e:n0=h0.size)(f':Fr F h h'):Fr No h0 h':=f.trans f' λb hb y=>by have:=(R.ge b y).1;omega
theorem vM.small{E:NP}{es:List mg}{ts:List Tt}(T:vM h E es ts)(hs:∀ t ∈ ts,t.2.2.length<=512):∀i (hi:i<es.length),es[i].l<=140737488355328:=λi hi=>by
 have Xi:i<ts.length:=by rw[<-T.len];exact hi
 have:=(T.at_ i hi Xi).2.2.1.1;have:=hs _ (ff Xi);omega
theorem vM.aex{E:NP}{es:List mg}{ts:List Tt}(T:vM h E' es ts)(hE:∀ b,E b->E' b):vM h E es ts:=
 ⟨T.len,λi h1 h2=>by
  obtain⟨a,b,c,d⟩:=T.at_ i h1 h2
  exact⟨a,b,c,λp e hl y=>d p e hl (hE _ y)⟩⟩
theorem Xl{l:Nb}(h:∀ p ∈ l,p.2.length<=512):∀t∈wT l,t.2.2.length<=512:=λt ht=>by
 obtain⟨p,hp,rfl⟩:=List.mem_map.mp ht;exact h p hp
theorem El{b:LB}(hb:b.length<=512):∀t∈([((2:Int),(0:Int),([]:LB)),(1,1,b),(2,0,[])]:List Tt),t.2.2.length<=512:=λt ht=>by
 simp only[fO,nT,or_false]at ht
 rcases ht with rfl|rfl|rfl
 ·exact bN _
 ·exact hb
 ·exact bN _
theorem Ny{l:Nb}(h:∀ p ∈ l,p.2.length<=512):∀t∈Nx l,t.2.2.length<=512:=λt ht=>by
 rcases nB.mp ht with ht|ht
 ·exact Xl h t ht
 ·exact El (by rw[Hd.eN];exact bE _) t ht
theorem ahY(rs:Rs):(nb rs).map (·.1)=rs.map (·.1):=by unfold nb;rw[qJ];rfl
theorem Xm(rs:Rs):(nb rs).map (·.2)=rs.map (·.2.2):=by unfold nb;rw[qJ];rfl
theorem J1{N:Int}{i:Int}:∀(n:Nat) (ts:List Tt) (z:LB),ts.length=n->z.length=512->(∀t∈ts,L3.WS N t)->(vo i z ts).length=512
 | 0,ts,z,hn,hz,_=>by rw[Vb hn];exact hz
 | n+1,ts,z,hn,hz,hm=>by
  have ne:ts≠[]:=λe=>by rw[e]at hn;cases hn
  rw[<-abS ne,Bb];have hl:=hm _ (List.getLast_mem ne)
  split
  ·rename_i h
   rcases hl with h2|h2
   ·rw[h.1]at h2;exact absurd h2 dX
   ·exact h2.2.2.2
  ·exact J1 n _ z (by rw[List.length_dropLast,hn];rfl) hz λt ht=>hm t (List.dropLast_subset _ ht)
theorem tj.lv{E:NP}{D:RD}(x:tj h E r D)(hd:D.down=false){i:Nat}(hi:i<D.aE.length):(nI D i).length=512:=by
 obtain⟨ao,S,_,s,_,_,_,_⟩:=x;have ho:S.out=false:=by rw[<-s.down];exact hd
 rw[s.len]at hi;rw[s.read ho hi];refine J1 _ _ _ rfl ?_ s.ok.may;unfold FD.qk;rw[dL,jM,s.ok.len];have:(i+1)*512<=S.N*512:=yi _ hi;have:((i:Int)).toNat=i:=cA i;rw[this];omega
theorem tj.max{h:ad}{E:NP}{r:OA}{D:RD}(x:tj h E r D):D.aE.length<=16384:=by
 obtain⟨ao,S,_,s,_,_,_,_⟩:=x;rw[s.len];exact s.ok.max
theorem Nz : ∀(ls:List LB),(∀x∈ls,x.length=512)->ls.flatten.length=ls.length*512
 | [],_=>rfl
 | x::r,h=>by
  rw[H6,bg,Nz r λy hy=>h y (gV _ hy),h x (kj ..),pA];omega
theorem wD{n:Nat}{elem:TI}{K:OA->Nat->Nat->ad->Prop}(r:Row n0 hh F 1 a l c xs)(hv:vs.length=n)
  (hz:elem.zero.length=elem.cells) (hc:elem.cells=1) (hby:elem.bytes=1) (hl:l+n<=140737488355328) (hn:n0<=hh.size)
  (hK:∀a' c' h' F',Fr F hh h'->(∀b,F' b->F b∨hh.size<=b)->Row n0 h' F' 1 a' (l+n) c' (xs++vs)->K a' (l+n) c' h'):aJ elem e a l c n vs hh K:=by
 refine cY (show Sl hh elem.cells a l c xs F by rw[hc];exact r.s) (by rw[hc,hv,ph]) hz (by rw[hby,ph];exact hl) hl λa' c' h5 f5 s5=>?_;rw[hc]at s5;have z5:=f5.size;refine hK a' c' h5 (λb=>(F b∨hh.size<=b)/\b<h5.size) f5 (λb hb=>hb.1) ⟨?_,λb hb=>⟨?_,hb.2⟩⟩
 ·obtain⟨q1,q2⟩:=s5;refine⟨q1,?_⟩
  cases a' with
  | none=>exact q2
  | some p=>obtain⟨a1,a2,a3,a4⟩:=q2;exact⟨a1,⟨a2,a3.lt⟩,a3,a4⟩
 ·rcases hb.1 with q|q
  ·exact(r.ge b q).1
  ·omega
end Wd
namespace Rg
open Hp
theorem yM{P:Program}{k:KT}(y:rQ P l args h k)(hk:∀ v h',k v h'->k' v h'):rQ P l args h k':=
 λw hw=>by
  obtain⟨fn,tmps,a,b,h1,h2⟩:=y w hw;exact⟨fn,tmps,a,b,h1,h2.mono λ_ _ ⟨v,e,r,x⟩=>⟨v,e,r,hk v _ x⟩⟩
theorem uh{R:Loop}{st:LoopState}{p:Option Code}(o:bO h l R st p):l<h.size:=(Array.getElem?_eq_some_iff.mp o).1
theorem gH{R:Loop}{st:LoopState}{p:Option Code}(o:bO h l R st p)(f:Fr F h h')(hF:¬ F l):bO h' l R st p:=(f.same l (uh o) hF).trans o
theorem Ci(h:ad)(l:Nat)(R:Loop)(st:LoopState)(p:Option Code):(dz h l R st p).size=h.size:=by simp[dz]
theorem PY(h:ad)(l:Nat)(R:Loop)(st:LoopState)(p:Option Code):Fr (λb=>b=l) h (dz h l R st p):=
 ⟨by rw[Ci];exact bE _,λb _ hb=>by simp only[dz];rw[S6 λe=>hb e.symm]⟩
theorem Ha(hl:l<h.size)(R:Loop)(st:LoopState)(p:Option Code):bO (dz h l R st p) l R st p:=by
 simp[bO,dz,hl]
structure PZ(l:Nat)(R:Loop)(st:LoopState)(p:Option Code)(h h':ad):Prop where
 size:h'.size=h.size
 fr:Fr (λb=>b=l) h h'
 on:bO h' l R st p
theorem Bc(hl:l<h.size)(R:Loop)(st:LoopState)(p:Option Code):PZ l R st p h (dz h l R st p):=⟨Ci h l R st p,PY h l R st p,Ha hl R st p⟩
theorem mR{R:Loop}{st:LoopState}{p:Option Code}{k:HP}(hl:l<h.size)(H:∀ h',PZ l R st p h h'->k h'):xM h l R st p k:=H _ (Bc hl R st p)
theorem tq(h:ad)(R:Loop):(dw h R).size=h.size+2:=by simp[dw]
theorem zC(h:ad)(R:Loop):Fr No h (dw h R):=
 ⟨by rw[tq];omega,λb hb _=>by simp only[dw];rw[zT,if_neg (by rw[GR];omega),zT,if_neg oX]⟩
theorem zD(h:ad)(R:Loop):bO (dw h R) (h.size+1) R .ready none:=by
 simp only[bO,dw];rw[zT,if_pos (by rw[GR])]
theorem Cj(h:ad)(R:Loop):(dw h R)[h.size]?=some (.deferred (some [])):=by
 simp only[dw];rw[zT,if_neg (by rw[GR];omega),zT,if_pos rfl]
theorem J2(h:ad)(b:Nat):(Tj h b).size=h.size:=by simp[Tj]
theorem aae(h:ad)(b:Nat):Fr (λx=>x=b) h (Tj h b):=
 ⟨by rw[J2];exact bE _,λc _ hc=>by simp only[Tj];rw[S6 λe=>hc e.symm]⟩
theorem oF{k:HP}(hd:h[b]?=some (.deferred (some [])))(H:∀ h',h'.size=h.size->Fr (λx=>x=b) h h'->k h'):rU b h k:=⟨hd,H _ (J2 h b) (aae h b)⟩
theorem zE{n r:Prop}{e:NP}(h:n):xU none n r e:=h
theorem NA{n r:Prop}{e:NP}(h:r):xU (some .ret) n r e:=h
end Rg
namespace Bt
open Hp W Rg
def rz(bs:LB)(i:Nat):Bool:=(bs.getD (i/8) 0).toNat.testBit (i%8)
def Be(n s:Nat)(on:Bool):Nat:=if on=true then n ||| 2 ^ s else n &&& (255-2 ^ s)
def Bf(bs:LB)(i:Nat)(on:Bool):LB:=bs.set (i/8) (UInt8.ofNat (Be (bs.getD (i/8) 0).toNat (i%8) on))
theorem Xn : ∀n:Fin 256,∀s:Fin 8,((bP .and .u8 (Int.fdiv (n.val:Int) (2 ^ min (Int.toNat (s.val:Int)) 8)) 1)==1)=n.val.testBit s.val:=by decide +kernel
theorem aeF : ∀n:Fin 256,∀s:Fin 8,bP .or .u8 (n.val:Int) (IntKind.wrap .u8 (1*2 ^ min (Int.toNat (s.val:Int)) 8))=(Be n.val s.val true:Nat):=by decide +kernel
theorem aaf : ∀n:Fin 256,∀s:Fin 8,bP .andNot .u8 (n.val:Int) (IntKind.wrap .u8 (1*2 ^ min (Int.toNat (s.val:Int)) 8))=(Be n.val s.val false:Nat):=by decide +kernel
theorem R2 : ∀n:Fin 256,∀s:Fin 8,Be n.val s.val true<256/\Be n.val s.val false<256:=by decide +kernel
theorem NB{n s:Nat}(hn:n<256)(hs:s<8)(on:Bool):Be n s on<256:=by
 cases on
 ·exact(R2 ⟨n,hn⟩ ⟨s,hs⟩).2
 ·exact(R2 ⟨n,hn⟩ ⟨s,hs⟩).1
theorem Bg(s:Sl h ec a l c xs F):Sl h ec a l c xs (λb=>F b/\b<h.size):=by
 cases a with
 | none=>exact⟨s.1,s.2⟩
 | some p=>exact⟨s.1,s.2.1,⟨s.2.2.1,s.lt⟩,s.2.2.2⟩
theorem ab4(n:Nat):Int.tdiv (n:Int) 8=((n/8:Nat):Int):=rfl
theorem ab5(n:Nat):Int.tmod (n:Int) 8=((n%8:Nat):Int):=rfl
theorem rj(hl:l<=1099511627776)(hK:K (.bool (decide (0<=i/\i<8*l))) h):C.qX A l c i h K:=by
 refine qX.ok (cd (λh0=>?_) λh0=>?_)
 ·rw[wrap_i64 oX oX]
  have:decide (0<=i/\i<8*(l:Int))=decide (i<8*(l:Int)):=by
   apply decide_eq_decide.mpr;constructor
   ·exact λx=>x.2
   ·exact λx=>⟨h0,x⟩
  rw[this]at hK;exact hK
 ·have:decide (0<=i/\i<8*(l:Int))=false:=decide_eq_false λx=>h0 x.1;rw[this]at hK;exact hK
theorem vq(B:av h A l bs){j:Nat}(hj:j<bs.length):∃p,A=some p/\cellOf h (p.add j)=some (bv (bs.getD j 0)):=by
 obtain⟨B1,B2⟩:=B
 cases A with
 | none=>
  have B2:bs.map bv=[]:=B2;rw[qx.mp B2]at hj;exact absurd hj (wm _)
 | some p=>
  refine⟨p,rfl,ai.cell B2 ?_⟩;rw[jH,gh,fg hj];rfl
theorem oe{α:Type}{a:Option α}{p:α}{k:α->Prop}(e:a=some p)(h:k p):ae a k:=by rw[e];exact h
theorem R4{i:Nat}(B:av h A l bs)(hl:l<=1099511627776)(hi:i<8*l)(hK:K (.bool (rz bs i)) h):C.tW A l c i h K:=by
 have e:=B.1;obtain⟨p,ep,hc⟩:=vq B (j:=i/8) oX;refine tW.ok ?_;unfold tW;rw[ab4,ab5,wrap_i64 oX oX];refine⟨⟨oX,oX⟩,oe ep ⟨_,hc,?_⟩⟩;rw[if_neg oX];have:=Xn ⟨(bs.getD (i/8) 0).toNat,Am _⟩ ⟨i%8,oX⟩;unfold rz at hK;rw[<-this]at hK;exact hK
theorem P0(bs:LB)(j:Nat)(x:UInt8):put (bs.map bv) j [bv x]=(bs.set j x).map bv:=by
 show(bs.map bv).set j (bv x)=_;rw[yG]
theorem mw{on:Bool}(S:Sl h 1 (some ⟨b,o,none⟩) l c (bs.map bv) F)(hl:l<=1099511627776)
  (h1:¬(0<=i/\i<8*l)->K (vI 80) h) (h2:0<=i->i<8*l->∀h',Fr (λx=>x=b) h h'->h'.size=h.size->Sl h' 1 (some ⟨b,o,none⟩) l c ((Bf bs i.toNat on).map bv) F->K (vI 0) h') :
  C.uE (some ⟨b,o,none⟩) l c i on h K:=by
 refine uE.ok (rj hl ⟨_,rfl,iu (cd (λhi=>?_) h1)⟩);obtain⟨n,rfl⟩:=Nk hi.1;have h2:=h2 hi.1 hi.2;have B:=S.str;have e:=B.1;have hn:n/8<bs.length:=oX;obtain⟨p,ep,hc⟩:=vq B hn
 cases ep
 obtain⟨w1,w2⟩:=S.wr;have hx:(bs.getD (n/8) 0).toNat<256:=Am _;rw[ab4,ab5,wrap_i64 oX oX]
 have go:∀v:Int,v=(Be (bs.getD (n/8) 0).toNat (n%8) on:Nat)->bD (Addr.add ⟨b,o,none⟩ (Int.toNat ((n/8:Nat):Int))) (.int .u8 v) h λh3=>K (vI 0) h3:=by
  intro v ev;subst ev;have et:Int.toNat ((n/8:Nat):Int)=n/8:=rfl;rw[et];refine bD.add w1 oX λh3 d3=>h2 h3 d3.fr d3.size ?_
  have ex:(.int .u8 ((Be (bs.getD (n/8) 0).toNat (n%8) on:Nat):Int):Value)=bv (UInt8.ofNat (Be (bs.getD (n/8) 0).toNat (n%8) on)):=by
   show _=Value.int .u8 _;rw[UInt8.toNat_ofNat_of_lt' (NB hx oX on)]
  rw[ex]at d3;have:=S.putAt (j:=n/8) (new:=[bv (UInt8.ofNat (Be (bs.getD (n/8) 0).toNat (n%8) on))]) (by show n/8+1<=l*1;omega) d3;rw[P0]at this;exact this
 have ob:=aeF ⟨(bs.getD (n/8) 0).toNat,hx⟩ ⟨n%8,oX⟩;have nb:=aaf ⟨(bs.getD (n/8) 0).toNat,hx⟩ ⟨n%8,oX⟩
 cases on
 ·refine cf rfl ⟨⟨oX,oX⟩,os ⟨_,hc,?_⟩⟩;rw[if_neg oX];exact⟨⟨oX,oX⟩,os (go _ nb)⟩
 ·refine ct rfl ⟨⟨oX,oX⟩,os ⟨_,hc,?_⟩⟩;rw[if_neg oX];exact⟨⟨oX,oX⟩,os (go _ ob)⟩
theorem tt{P:Program}{k:KT}(y:rQ P l args h k):gJ P (.func (.yield l) #[] #[]) args h k:=y
theorem Sa{P:Program}{v:Value}{k:KT}(H:gJ P v args h k)(hk:∀ v h',k v h'->k' v h'):gJ P v args h k':=by
 cases v with
 | func fn fs cs=>
  cases fn with
  | func g=>exact qK.mono H hk
  | yield l=>exact yM H hk
  | _=>exact H.elim
 | _=>exact H.elim
theorem Uo(hl:sl<=1099511627776)(J:Nat->ad->Prop)(hc:∀ i hh,J i hh->rd hh cb=[vS A sl c]/\av hh A sl bs)
  (hY:∀i f n hh,J i hh->i<=f->0<n->f+n<=8*sl->(∀t,i<=t->t<f->rz bs t=true)->(∀t,f<=t->t<f+n->rz bs t=false)->
   rQ Tryz.prog l [vI f,vI n] hh λv h'=>(v = .bool true/\J (f+n) h')∨(v = .bool false/\K (.tuple #[]) h'))
  (h0:J 0 h) (hK:∀i hh,J i hh->i<=8*sl->(∀t,i<=t->t<8*sl->rz bs t=true)->K (.tuple #[]) hh):C.eM (.func (.yield l) #[] #[]) (some ⟨cb,0,none⟩) h K:=by
 refine eM.ok ⟨λi hh=>0<=i/\i<=8*sl/\J i.toNat hh,λi _=>(8*sl-i).toNat,⟨oX,oX,h0⟩,?_⟩;rintro i h2 ⟨i0,i1,hJ⟩;obtain⟨r,B⟩:=hc _ _ hJ;have C2:cellOf h2 ⟨cb,0,none⟩=some (vS A sl c):=dC r rfl;refine⟨λf hh=>h2=hh/\i<=f/\f<=8*sl/\∀t,i.toNat<=t->t<f.toNat->rz bs t=true,λf _=>(8*sl-f).toNat,⟨rfl,oX,i1,λt h1 h2=>oX⟩,?_⟩;rintro f _ ⟨rfl,f0,f1,Pg⟩
 have ab6:(f=8*sl∨rz bs f.toNat=false)->eM.k1 (.func (.yield l) #[] #[]) (some ⟨cb,0,none⟩) i h2 (λi hh=>0<=i/\i<=8*sl/\J i.toNat hh) (λi _=>(8*sl-i).toNat) f h2 K:=by
  intro hf;refine⟨λe hh=>h2=hh/\f<=e/\e<=8*sl/\∀t,f.toNat<=t->t<e.toNat->rz bs t=false,λe _=>(8*sl-e).toNat,⟨rfl,oX,f1,λt h1 h2=>oX⟩,?_⟩;rintro e _ ⟨rfl,e0,e1,P1⟩
  have last:(e=f->f=8*sl)->eM.k2 (.func (.yield l) #[] #[]) i h2 (λi hh=>0<=i/\i<=8*sl/\J i.toNat hh) (λi _=>(8*sl-i).toNat) f e h2 K:=by
   intro hq;refine ce (λhe=>?_) λhe=>?_
   ·have:=hq he;exact hK i.toNat h2 hJ oX λt h1 h3=>Pg t h1 oX
   ·rw[wq (e-f)];have y:=hY i.toNat f.toNat (e-f).toNat h2 hJ oX oX oX Pg λt h1 h3=>P1 t h1 oX;rw[show((f.toNat:Nat):Int)=f by omega,show(((e-f).toNat:Nat):Int)=e-f by omega]at y;refine tt (yM y λv h5 hv=>?_)
    rcases hv with⟨rfl,hJ5⟩|⟨rfl,hk⟩
    ·refine⟨true,rfl,iu (ct rfl ⟨⟨oX,e1,?_⟩,by show((8*sl:Int)-e).toNat<((8*sl:Int)-i).toNat;omega⟩)⟩;rw[show f.toNat+(e-f).toNat=e.toNat by omega]at hJ5;exact hJ5
    ·exact⟨false,rfl,iu (cf rfl hk)⟩
  refine os ⟨_,_,_,C2,rj hl ⟨_,rfl,cd (λhi=>os ⟨_,_,_,C2,?_⟩) λhi=>?_⟩⟩
  ·obtain⟨n,rfl⟩:=Nk hi.1;refine R4 B hl oX ⟨_,rfl,iu (cs (λhb=>?_) λhb=>?_)⟩
   ·refine last λhe=>?_
    rcases hf with hf|hf
    ·exact hf
    ·rw[<-he]at hf;rw[show((n:Int)).toNat=n from rfl,hb]at hf;cases hf
   ·rw[wq ((n:Int)+1)];refine⟨⟨rfl,oX,oX,λt h1 h3=>?_⟩,by show((8*sl:Int)-((n:Int)+1)).toNat<((8*sl:Int)-(n:Int)).toNat;omega⟩
    by_cases ht:t=n
    ·rw[ht];exact hb
    ·exact P1 t h1 oX
  ·exact last λhe=>by omega
 refine os ⟨_,_,_,C2,rj hl ⟨_,rfl,cd (λhi=>os ⟨_,_,_,C2,?_⟩) λhi=>ab6 (.inl oX)⟩⟩;obtain⟨n,rfl⟩:=Nk hi.1;refine R4 B hl oX ⟨_,rfl,cs (λhb=>?_) λhb=>ab6 (.inr hb)⟩;rw[wq ((n:Int)+1)];refine⟨⟨rfl,oX,oX,λt h1 h3=>?_⟩,by show((8*sl:Int)-((n:Int)+1)).toNat<((8*sl:Int)-(n:Int)).toNat;omega⟩
 by_cases ht:t=n
 ·rw[ht];exact hb
 ·exact Pg t h1 oX
end Bt
namespace Spc
open Hp W Ad Tm Bt
structure G where
 blocks:Nat
 cO:Nat
 eO:Nat
 data:Nat
 count:Nat
def G.v(g:G):LV:=[vI g.blocks,vI g.cO,vI g.eO,vI g.data,vI g.count]
structure G.ok(g:G):Prop where
 b:g.blocks<=1099511627776
 m:g.cO<=1099511627776
 i:g.eO<=1099511627776
 d:g.data<=1099511627776
theorem Ly{g:G}(ok:g.ok)(h1:¬ (0<=i/\i<g.blocks)->∀ h',Fr No h h'->K (.tuple #[vI 0,vI 0,vI 31]) h')
  (h2:0<=i->i<g.blocks->∀h',Fr No h h'->K (.tuple #[vI (g.cO+i.toNat/4096:Nat),vI (i.toNat%4096:Nat),vI 0]) h'):C.tX g.v i h K:=by
 have b1:=ok.b;have b2:=ok.m;refine tX.ok (aC.intro λh3 n3=>?_);refine cd (λhn=>h1 oX h3 n3.fr) λh0=>⟨_,aZ n3.rd rfl,cd (λhn=>h1 oX h3 n3.fr) λhb=>⟨_,aZ n3.rd rfl,?_⟩⟩;obtain⟨n,rfl⟩:=Nk (show 0<=i by omega);have e1:Int.tdiv (n:Int) 4096=((n/4096:Nat):Int):=rfl;have e2:Int.tmod (n:Int) 4096=((n%4096:Nat):Int):=rfl;have h2:=h2 oX oX h3 n3.fr;rw[e1,e2,wq (((n/4096:Nat):Int)),wrap_i64 oX oX];rw[show((n:Int)).toNat=n from rfl]at h2;rw[show((g.cO+n/4096:Nat):Int)=(g.cO:Int)+((n/4096:Nat):Int) by omega]at h2;exact h2
def G.at_(g:G)(i:Nat):Int:=(g.cO+i/4096:Nat)
def df(T:TM)(g:G)(i:Nat)(on:Bool):TM×Int:=
 if(T.read (g.at_ i)).2≠0 then(T,(T.read (g.at_ i)).2)else T.write (g.at_ i) (Bf (T.read (g.at_ i)).1 (i%4096) on)
theorem Hb{T:TM}{g:G}(x:Tx h F t d T)(ok:g.ok)
  (h1:¬(0<=i/\i<g.blocks)->∀h',Fr No h h'->K (.tuple #[vI 0,vS none 0 0,vI 0,vI 31]) h')
  (h2:0<=i->i<g.blocks->∀a l c h',Fr No h h'->l=(T.read (g.at_ i.toNat)).1.length->Sl h' 1 a l c ((T.read (g.at_ i.toNat)).1.map bv) (cW h.size)->
   K (.tuple #[vI (g.at_ i.toNat),vS a l c,vI (i.toNat%4096:Nat),vI (T.read (g.at_ i.toNat)).2]) h'):C.sy t g.v i h K:=by
 refine sy.ok (aC.intro λh3 n3=>⟨g.v,rfl,ah n3.rd,?_⟩);refine Ly ok (λhb h4 f4=>⟨_,_,_,rfl,ct rfl (h1 hb h4 (n3.fr.no f4))⟩) λh0 hb h4 f4=>⟨_,_,_,rfl,cf rfl ?_⟩;have f:=n3.fr.no f4;refine dv (x.no f) λa l c h5 f5 hl s=>⟨_,_,_,_,rfl,?_⟩;exact h2 h0 hb a l c h5 (f.no f5) hl (s.mono λb hb=>k9 f.size hb)
theorem yN{T:TM}{g:G}{on:Bool}(x:Tx h F t d T)(ok:g.ok)(h0:0<=i)(h1:i<g.blocks)(hu:T.aD.length<1000000000)
  (hK:∀h' F',Fr F h h'->Gw h F h' F'->Tx h' F' t d (df T g i.toNat on).1->K (vI (df T g i.toNat on).2) h'):C.sv t g.v i on h K:=by
 refine sv.ok (aC.intro λh4 n4=>⟨g.v,rfl,ah n4.rd,?_⟩);have x4:=x.no n4.fr;refine Hb x4 ok (λhb=>absurd ⟨h0,h1⟩ hb) λ_ _ a l c h5 f5 hl s=>⟨_,_,_,_,_,_,rfl,cn (λhe=>?_) λhe=>?_⟩
 ·have e:df T g i.toNat on=(T,(T.read (g.at_ i.toNat)).2):=by unfold df;rw[if_pos he]
  rw[e]at hK;have f:=n4.fr.no f5;exact hK h5 F (f.mono λ_ _ y=>y.elim) (Gw.refl f.size λb hb=>x.lt hb) (x.no f)
 ·have hlen:=Tx.lv x he;have e:df T g i.toNat on=T.write (g.at_ i.toNat) (Bf (T.read (g.at_ i.toNat)).1 (i.toNat%4096) on):=by unfold df;rw[if_neg (by rw[he];simp)]
  rw[e]at hK;obtain⟨p,ep,_⟩:=s.get oX;subst ep;obtain⟨pb,po,sp⟩:=p;have Xo:sp=none:=s.2.1;subst Xo;refine mw s oX (λhn=>absurd ⟨oX,oX⟩ hn) λ_ _ h6 f6 z6 s6=>⟨_,rfl,cf rfl ?_⟩;have f:=n4.fr.no f5;have Xp:h4.size<=pb:=s.2.2.1;have f6':Fr No h h6:=f.trans f6 λb hb e=>by have:=n4.size;omega
  have e2:((i.toNat%4096:Nat):Int).toNat=i.toNat%4096:=rfl;rw[e2]at s6;refine Tm.fp (x.no f6') s6.str oX (λq eq y=>?_) hu λh7 F7 f7 g7 x7=>⟨_,rfl,hK h7 F7 ?_ ?_ x7⟩
  ·cases eq
   have y:F pb:=y;have:=x.lt y;have:=n4.size;omega
  ·exact(f6'.mono λ_ _ y=>y.elim).trans f7 λ_ _ y=>y
  ·exact(Gw.refl f6'.size λb hb=>x.lt hb).trans g7 f6'.size
end Spc
namespace Spc
open Hp W Ad Tm Bt Rg
theorem Up{bs:cC}(B:av h A l bs)(h0:0<l)(hl:l<=140737488355328)
  (hK:∀cb A' c' h',Fr No h h'->h.size<=cb->cb<h'.size->rd h' cb=[vS A' l c']->Sl h' 1 A' l c' (bs.map bv) (λb=>h.size<=b/\b<h'.size)->K (.func (.func 257) #[] ⟨[vP (some ⟨cb,0,none⟩)]⟩) h'):C.sx A l c h K:=by
 refine sx.ok (aC.intro λh2 n2=>?_);have z2:=n2.size;obtain⟨s1,s2,s3⟩:=av.src (av.fr n2.fr B (λ_ _ x=>x));have S0:Sl h2 1 (some (bA h)) 0 0 [] (λb=>b=h.size):=⟨rfl,rfl,rfl,n2.own,bE _,rfl,bN _⟩;refine⟨_,s1,s2,s3,cY S0 s1 rfl (by show(0+l)*1<=_;omega) oX λa' c' h3 f3 s=>aC.intro λh4 n4=>?_⟩;have z3:=f3.size;have z4:=n4.size;rw[wR]at s ⊢;rw[tP]at s;have s:=Bg s;refine bD.intro n4.own (by rw[n4.rd];exact Nat.one_pos) λh5 d5=>?_;have z5:=d5.size;have f:Fr No h h5:=((n2.fr.trans f3 λb hb e=>by have e:b=h.size:=e;omega).new n4).did d5 λhh=>by omega
 refine hK h3.size a' c' h5 f oX oX (by rw[d5.rd,n4.rd];rfl) (((s.fr n4.fr λ_ _ _ x=>x).fr d5.fr λb hb hF e=>?_).mono λb hb=>?_)
 ·have e:b=h3.size:=e;have:=hF.2;omega
 ·obtain⟨hb,OL⟩:=hb;refine⟨?_,oX⟩
  rcases hb with hb|hb
  ·omega
  ·omega
structure Rw(n cb e:Nat)(g:G)(first:Nat)(CR:Value)(A:OA)(l c:Nat)(bs:cC)(hh:ad):Prop where
 size:e+1<hh.size
 n1:n+3<=cb
 n2:cb<e
 r1:rd hh n=g.v
 r2:rd hh (n+1)=[vI first]
 r3:rd hh (n+2)=[CR]
 r4:rd hh cb=[vS A l c]
 s:av hh A l bs
 sb:∀p,A=some p->n+3<=p.block/\p.block<e
 d:hh[e]?=some (.deferred (some []))
theorem Rw.step{n:Nat}{g:G}{bs:cC}(b:Rw n cb e g first CR A l c bs hh)(f:Fr F hh EP)(hF:∀ x,F x->x<n∨x=e+1):Rw n cb e g first CR A l c bs EP:=by
 have z:=f.size;have s:=b.size;have n1:=b.n1;have n2:=b.n2;have k:∀x,n<=x->x<=e->¬F x:=λx h1 h2 y=>by have:=hF x y;omega
 exact⟨oX,n1,n2,(f.rd oX (k _ oX oX)).trans b.r1,(f.rd oX (k _ oX oX)).trans b.r2,(f.rd oX (k _ oX oX)).trans b.r3,(f.rd oX (k _ oX oX)).trans b.r4,
  av.fr f b.s λp ep=>k _ (by have:=b.sb p ep;omega) (by have:=b.sb p ep;omega),b.sb,(f.same _ oX (k _ oX oX)).trans b.d⟩
def isF(g:G)(first:Nat)(bs:cC)(t:Nat):Prop:=rz bs t=false/\g.data<=first+t/\first+t<g.blocks
theorem Uq{g:G}{bs:cC}(B:av h A l bs)(hl0:0<l)(hl:l<=1099511627776)(ok:g.ok)(hf:first<=9007199254740992)(hdo:mi CR=[CR])
  (J:Nat->ad->Prop) (E:HP) (hJ:∀i hh EP,J i hh->Fr (cW h.size) hh EP->J i EP) (hE:∀hh EP,E hh->Fr (cW h.size) hh EP->E EP)
  (ab7:∀i j hh,J i hh->i<=j->j<=8*l->(∀t,i<=t->t<j->¬isF g first bs t)->J j hh)
  (hD:∀(i j a b:Nat) hh,J i hh->i<=j->j<=8*l->first+i<=a->a<b->b<=first+j->(∀t,i<=t->t<j->(isF g first bs t↔a<=first+t/\first+t<b))->
   gJ Tryz.prog CR [vI a,vI b] hh λv h'=>∃r,v = .bool r/\Fr (λx=>x<h.size) hh h'/\(r=true->J j h')/\(r=false->E h'))
  (h0:J 0 h) (hK:∀hh,(J (8*l) hh∨E hh)->K (.tuple #[]) hh):C.qh g.v first A l c CR h K:=by
 refine qh.ok (aC.intro λh2 n2=>aC.intro λh3 n3=>aC.intro λh4 n4=>?_);have z2:=n2.size;have z3:=n3.size;have z4:=n4.size;have e2:h2.size=h.size+1:=z2;have e3:h3.size=h.size+2:=oX;have F4:Fr No h h4:=(n2.fr.new n3).new n4;have B4:=av.fr F4 B λ_ _ x=>x;refine Up B4 hl0 oX λcb A' c' h5 f5 cb1 cb2 r5 s5=>⟨_,rfl,λR rounds=>?_⟩;have z5:=f5.size;have F5:Fr No h h5:=F4.no f5;rw[e2,e3]at rounds;have Fb:=zC h5 R;have YT:=zD h5 R;have d0:=Cj h5 R;have zb:=tq h5 R;have fb:∀b,b<h5.size->rd (dw h5 R) b=rd h5 b:=λb hb=>Fb.rd hb λx=>x;have g1:rd h5 h.size=g.v:=(f5.rd oX λx=>x).trans ((n4.at_).trans ((n3.at_).trans n2.rd));have g2:rd h5 (h.size+1)=[vI first]:=by have:=n3.rd;rw[e2]at this;exact(f5.rd oX λx=>x).trans ((n4.at_).trans this)
 have g3:rd h5 (h.size+2)=[CR]:=by have:=n4.rd;rw[e3,hdo]at this;exact(f5.rd oX λx=>x).trans this
 have W0:Rw h.size cb h5.size g first CR A' l c' bs (dw h5 R):=by
  refine⟨oX,oX,cb2,(fb _ oX).trans g1,(fb _ oX).trans g2,(fb _ oX).trans g3,(fb _ oX).trans r5,av.fr Fb s5.str λ_ _ x=>x,λp ep=>?_,d0⟩;subst ep;have:=s5.2.2.1;have h1:h4.size<=p.block:=this.1;have h2:p.block<h5.size:=this.2;exact⟨oX,h2⟩
 have J0:J 0 (dw h5 R):=hJ _ _ _ h0 ((F5.no Fb).mono λ_ _ x=>x.elim);show C.eM (.func (.yield (h5.size+1)) #[] #[]) (some ⟨cb,0,none⟩) (dw h5 R) _
 have fin:∀(st:LoopState) (bS:Option Code) (h9:ad),(st = .ready/\bS=none∨st = .done/\bS=some .ret)->bO h9 (h5.size+1) R st bS->Rw h.size cb h5.size g first CR A' l c' bs h9->(J (8*l) h9∨E h9)->
   ∃(st1:LoopState) (jo:Option Code),bO h9 (h5.size+1) R st1 jo/\st1≠.busy/\xU jo (xM h9 (h5.size+1) R .exhausted jo λbG=>rU h5.size bG λcu=>K (.tuple #[]) cu) (xM h9 (h5.size+1) R .exhausted jo λbf=>rU h5.size bf λbQ=>K (.tuple #[]) bQ) (λ_=>False):=by
  intro st bS h9 hs on9 W9 je;have ahZ:=W9.size
  have out:xM h9 (h5.size+1) R .exhausted bS λbG=>rU h5.size bG λcu=>K (.tuple #[]) cu:=by
   refine mR ahZ λbG t10=>?_;have W10:=W9.step t10.fr λb e=>.inr e;refine oF W10.d λcu Ua f11=>hK cu ?_;have f:Fr (cW h.size) h9 cu:=(t10.fr.mono λb _ e=>by show h.size<=b;omega).trans f11 λb _ e=>by show h.size<=b;omega
   rcases je with j|j
   ·exact .inl (hJ _ _ _ j f)
   ·exact .inr (hE _ _ j f)
  rcases hs with⟨rfl,rfl⟩|⟨rfl,rfl⟩
  ·exact⟨.ready,none,on9,(by intro x;cases x),zE out⟩
  ·exact⟨.done,some .ret,on9,(by intro x;cases x),NA out⟩
 refine Uo (l:=h5.size+1) (A:=A') (sl:=l) (c:=c') (bs:=bs) hl (λi hh=>J i hh/\Rw h.size cb h5.size g first CR A' l c' bs hh/\bO hh (h5.size+1) R .ready none) (λi hh q=>⟨q.2.1.r4,q.2.1.s⟩) (λi f n hh q hif hn hfl Pg P1=>?_) ⟨J0,W0,YT⟩ λi hh q hi Pg=>?_
 ·obtain⟨j,W,o⟩:=q;have b1:=ok.b;have b2:=ok.d;refine rounds (f:Int) (n:Int) hh _ o ⟨o,mR W.size λh7 t7=>?_⟩;have W7:=W.step t7.fr λb e=>.inr e;have j7:J i h7:=hJ _ _ _ j (t7.fr.mono λb _ e=>by show h.size<=b;omega);have s7:=W7.size;refine⟨_,dC W7.r2 rfl,_,aZ W7.r1 rfl,_,dC W7.r2 rfl,_,aZ W7.r1 rfl,?_⟩;rw[wq ((first:Int)+f),wq ((first:Int)+f+n)]
  obtain⟨a,ea,la,la2,la3⟩:∃a:Nat,(if(g.data:Int)>(first:Int)+f then(g.data:Int)else(first:Int)+f)=(a:Int)/\g.data<=a/\first+f<=a/\(a=g.data∨a=first+f):=by
   split
   ·exact⟨g.data,rfl,bE _,oX,.inl rfl⟩
   ·exact⟨first+f,oX,oX,bE _,.inr rfl⟩
  obtain⟨b,eb,lb,lb2,lb3⟩:∃b:Nat,(if(g.blocks:Int)<(first:Int)+f+n then(g.blocks:Int)else(first:Int)+f+n)=(b:Int)/\b<=g.blocks/\b<=first+f+n/\(b=g.blocks∨b=first+f+n):=by
   split
   ·exact⟨g.blocks,rfl,bE _,oX,.inl rfl⟩
   ·exact⟨first+f+n,oX,oX,bE _,.inr rfl⟩
  rw[ea,eb]
  have iff:∀t,i<=t->t<f+n->(isF g first bs t↔a<=first+t/\first+t<b):=by
   intro t h1 h2;unfold isF
   rcases rI t f with h3|h3
   ·rw[Pg t h1 h3];exact⟨λx=>absurd x.1 (by simp),λx=>oX⟩
   ·rw[P1 t h3 h2];exact⟨λx=>oX,λx=>⟨rfl,oX,oX⟩⟩
  refine cd (λhab=>?_) λhab=>?_
  ·refine⟨_,dC W7.r3 rfl,?_⟩;refine Sa (hD i (f+n) a b h7 j7 oX oX oX oX oX iff) λv h8 q=>?_;obtain⟨r,rfl,f8,q1,q2⟩:=q;have W8:=W7.step f8 λb e=>.inl e;have s8:=W8.size;have on8:bO h8 (h5.size+1) R .busy none:=gH t7.on f8 oX;have t9:∀st p,PZ (h5.size+1) R st p h8 (dz h8 (h5.size+1) R st p):=λst p=>Bc s8 R st p;refine⟨r,rfl,iu ?_⟩
   cases r with
   | true=>
    have t9:=t9 .ready none;refine ct rfl ⟨on8,.inl ⟨rfl,hJ _ _ _ (q1 rfl) (t9.fr.mono λb _ e=>by show h.size<=b;omega),W8.step t9.fr λb e=>.inr e,t9.on⟩⟩
   | false=>
    have t9:=t9 .done (some .ret);exact cf rfl ⟨on8,.inr ⟨rfl,fin .done (some .ret) _ (.inr ⟨rfl,rfl⟩) t9.on (W8.step t9.fr λb e=>.inr e) (.inr (hE _ _ (q2 rfl) (t9.fr.mono λb _ e=>by show h.size<=b;omega)))⟩⟩
  ·have t9:=Bc s7 R .ready none;have j':J (f+n) h7:=ab7 i (f+n) h7 j7 oX oX λt h1 h2 y=>by have:=(iff t h1 h2).mp y;omega
   exact⟨t7.on,.inl ⟨rfl,hJ _ _ _ j' (t9.fr.mono λb _ e=>by show h.size<=b;omega),W7.step t9.fr λb e=>.inr e,t9.on⟩⟩
 ·obtain⟨j,W,o⟩:=q;exact fin .ready none hh (.inl ⟨rfl,rfl⟩) o W (.inl (ab7 i (8*l) hh j hi (bE _) λt h1 h2 y=>by have:=y.1;rw[Pg t h1 h2]at this;cases this))
theorem Ur{g:G}{T:TM}(ok:g.ok)(hbi:g.cO<=g.eO)
  (J:Nat->ad->Prop) (E:HP) (hx:∀k hh,J k hh->Tx hh F t d T) (hJ:∀k hh EP,J k hh->Fr (cW h.size) hh EP->J k EP)
  (hD:∀k hh A l c,J k hh->g.cO<=k->k<g.eO->(T.read k).2=0->av hh A l (T.read k).1->
   gJ Tryz.prog CR [vI (4096*(k-g.cO):Nat),vS A l c] hh λv h'=>∃r,v = .bool r/\Fr (λx=>x<h.size) hh h'/\(r=true->J (k+1) h')/\(r=false->E h'))
  (h0:J g.cO h) (hend:∀hh,J g.eO hh->K (vI 0) hh) (hE:∀hh,E hh->K (vI 0) hh)
  (aeG:∀k hh,J k hh->g.cO<=k->k<g.eO->(T.read k).2≠0->K (vI (T.read k).2) hh):C.qg t g.v CR h K:=by
 have b2:=ok.m;have b3:=ok.i;refine qg.ok (aC.intro λh2 n2=>⟨_,aZ n2.rd rfl,?_⟩);have z2:=n2.size
 refine⟨λk hh=>∃n:Nat,k=n/\g.cO<=n/\n<=g.eO/\J n hh/\rd hh h.size=g.v/\h.size<hh.size,λk _=>(g.eO-k).toNat,
  ⟨g.cO,rfl,bE _,hbi,hJ _ _ _ h0 (n2.fr.mono λ_ _ x=>x.elim),n2.rd,oX⟩,?_⟩
 rintro _ h3 ⟨k,rfl,k0,k1,j,r,s3⟩;refine⟨_,aZ r rfl,cd (λhk=>?_) λhk=>?_⟩
 ·refine dv (hx _ _ j) λa l c h4 f4 hl s=>⟨_,_,_,_,rfl,?_⟩;have j4:J k h4:=hJ _ _ _ j (f4.mono λ_ _ x=>x.elim);have z4:=f4.size;have r4:rd h4 h.size=g.v:=(f4.rd s3 λx=>x).trans r;refine cn (λhe=>aeG k h4 j4 k0 oX he) λhe=>⟨_,aZ r4 rfl,?_⟩;rw[wq ((k:Int)-g.cO),wq (4096*((k:Int)-g.cO))];rw[show 4096*((k:Int)-g.cO)=((4096*(k-g.cO):Nat):Int) by omega];refine Sa (hD k h4 a l c j4 k0 oX he s.str) λv h5 q=>?_;obtain⟨b,rfl,f5,q1,q2⟩:=q;refine⟨b,rfl,iu ?_⟩
  cases b with
  | true=>
   refine ct rfl ?_;rw[wq ((k:Int)+1)];have z5:=f5.size;refine⟨⟨k+1,rfl,oX,oX,q1 rfl,(f5.rd oX oX).trans r4,oX⟩,by show((g.eO:Int)-((k:Int)+1)).toNat<((g.eO:Int)-(k:Int)).toNat;omega⟩
  | false=>exact cf rfl (hE h5 (q2 rfl))
 ·have:k=g.eO:=oX;subst this;exact hend h3 j
def iH(T:TM)(g:G)(m:Nat):Prop:=rz (T.read (g.at_ m)).1 (m%4096)=false/\g.data<=m/\m<g.blocks
instance(T : TM)(g:G)(m:Nat):Decidable (iH T g m):=by unfold iH;exact inferInstance
theorem Sb{T:TM}{g:G}{k t:Nat}(hk:g.cO<=k)(ht:t<4096):isF g (4096*(k-g.cO)) (T.read k).1 t↔iH T g (4096*(k-g.cO)+t):=by
 unfold isF iH
 have e1:g.at_ (4096*(k-g.cO)+t)=(k:Int):=by
  unfold G.at_;have:(4096*(k-g.cO)+t)/4096=k-g.cO:=oX;rw[this];omega
 have e2:(4096*(k-g.cO)+t)%4096=t:=oX;rw[e1,e2]
theorem Xq{T:TM}{p:List (Int×cC)}{u:List (Int×Option cC)}(h1:p=T.put)(h2:u=T.aD):{ T with put:=p,aD:=u }=T:=by subst h1;subst h2;rfl
theorem aag(T:TM):(T.back T.aD.length).1=T:=by
 unfold TM.back
 split
 ·rfl
 ·split
  ·rfl
  ·refine Xq ?_ ?_
   ·rw[show((T.aD.length:Nat):Int).toNat=T.aD.length from rfl,xG];rfl
   ·rw[show((T.aD.length:Nat):Int).toNat=T.aD.length from rfl,mZ]
theorem P3{T:TM}{bs:cC}(e:(T.write i bs).2=0):((T.write i bs).1.back T.aD.length).1=T:=by
 obtain⟨h1,h2,h3,h4,h5,ew⟩:=TM.Cb e;rw[ew];unfold TM.back;show(if T.over=true then _ else if((T.aD.length:Nat):Int)<0∨((T.aD.length:Nat):Int)>((T.aD++[(i,dx T.put i)]).length:Nat)then _ else _:TM×Int).1=T;rw[if_neg (by rw[h1];simp),if_neg (by rw[bg];simp only[ik];omega)];refine Xq (T:=T) ?_ ?_
 ·show dN (jL T.put i bs) ((T.aD++[(i,dx T.put i)]).drop T.aD.length)=T.put;rw[Ae];show rO (jL T.put i bs) (i,dx T.put i)=_;unfold rO
  cases ea:dx T.put i with
  | none=>exact zt ea
  | some b=>exact zu ea
 ·show(T.aD++[(i,dx T.put i)]).take T.aD.length=T.aD;exact tL
theorem Fl(v:Value):∀n,aL [v] n=List.replicate n v
 | 0=>rfl
 | n+1=>by
  show[v]++aL [v] n=_;rw[Fl v n];rfl
theorem Hc{T:TM}{g:G}{on:Bool}(e:(df T g m on).2≠0):(df T g m on).1=T:=by
 unfold df at e ⊢
 split
 ·rfl
 ·rename_i h;rw[if_neg h]at e;exact TM.zy e
theorem Em{T:TM}{g:G}{on:Bool}(e:(df T g m on).2=0):(T.read (g.at_ m)).2=0/\df T g m on=T.write (g.at_ m) (Bf (T.read (g.at_ m)).1 (m%4096) on):=by
 unfold df at e ⊢
 by_cases h:(T.read (g.at_ m)).2≠0
 ·rw[if_pos h]at e;exact absurd e h
 ·rw[if_neg h];exact⟨oX,rfl⟩
theorem NC{T:TM}{g:G}{on:Bool}(e:(df T g m on).2=0):((df T g m on).1.back T.aD.length).1=T:=by
 obtain⟨h1,h2⟩:=Em e;rw[h2]at e ⊢;exact P3 e
theorem ND(T:TM)(g:G)(m:Nat)(on:Bool):(df T g m on).1.aD.length<=T.aD.length+1:=by
 by_cases e:(df T g m on).2=0
 ·obtain⟨h1,h2⟩:=Em e;rw[h2]at e ⊢;obtain⟨_,_,_,_,_,ew⟩:=TM.Cb e;rw[ew];show(T.aD++[_]).length<=_;rw[bg];exact bE _
 ·rw[Hc e];omega
theorem J3 : aL [.int .u8 0] (Int.toNat 512)=(List.replicate 512 (0:UInt8)).map bv:=by
 rw[List.map_replicate];show aL [.int .u8 0] 512=List.replicate 512 (.int .u8 0);exact Fl _ 512
def tv : cC:=List.replicate 512 0
def kN(T:TM)(g:G)(m:Nat):TM×Int×Int:=
 if(df T g m true).2≠0 then(T,0,(df T g m true).2)else
 if((df T g m true).1.write m tv).2≠0 then(T,0,((df T g m true).1.write m tv).2)else
  (((df T g m true).1.write m tv).1,m,0)
structure Tk(n:Nat)(h:ad)(t:OA)(g:G)(x:Int)(hh:ad):Prop where
 f:Fr No h hh
 e:n=h.size
 size:n+4<=hh.size
 r1:rd hh n=[vP t]
 r2:rd hh (n+1)=g.v
 o3:dA hh (n+2)
 r3:rd hh (n+2)=[vI 0]
 o4:dA hh (n+3)
 r4:rd hh (n+3)=[vI x]
theorem Tk.step{n:Nat}{g:G}(a:Tk n h t g x hh)(f:Fr F hh EP)(hF:∀ b,F b->n+4<=b):Tk n h t g x EP:=by
 have z:=f.size;have s:=a.size;have e:=a.e;have k:∀b,b<n+4->¬F b:=λb hb y=>by have:=hF b y;omega
 exact⟨a.f.trans f λb hb y=>(k b oX y).elim,e,oX,(f.rd oX (k _ oX)).trans a.r1,(f.rd oX (k _ oX)).trans a.r2,
  f.own a.o3.lt (k _ oX) a.o3,(f.rd oX (k _ oX)).trans a.r3,f.own a.o4.lt (k _ oX) a.o4,(f.rd oX (k _ oX)).trans a.r4⟩
theorem Tk.put{n:Nat}{g:G}{y:Int}(a:Tk n h t g x hh)(d:xN (n+3) hh EP ((rd hh (n+3)).set 0 (vI y))):Tk n h t g y EP:=by
 have s:=a.size;have e:=a.e;exact⟨a.f.did d λhb=>oX,e,by rw[d.size];exact s,(d.at_ oX oX).trans a.r1,(d.at_ oX oX).trans a.r2,d.ow a.o3,(d.at_ oX oX).trans a.r3,d.own,by rw[d.rd,a.r4];rfl⟩
structure Tq(n q:Nat)(t:OA)(g:G)(x mk:Int)(hh:ad):Prop where
 lt:n+4<=q/\q<hh.size
 r1:rd hh n=[vP t]
 r2:rd hh (n+1)=g.v
 o3:dA hh (n+2)
 l3:(rd hh (n+2)).length=1
 r4:rd hh (n+3)=[vI x]
 r5:rd hh q=[vI mk]
theorem Tq.step{n:Nat}{g:G}{mk:Int}(a:Tq n q t g x mk hh)(f:Fr F hh EP)(hF:∀ b,F b->n<=b->b<=q->False):Tq n q t g x mk EP:=by
 have z:=f.size;have s:=a.lt;have k:∀b,n<=b->b<=q->¬F b:=λb h1 h2 y=>hF b y h1 h2
 exact⟨oX,(f.rd oX (k _ oX oX)).trans a.r1,(f.rd oX (k _ oX oX)).trans a.r2,f.own a.o3.lt (k _ oX oX) a.o3,by rw[f.rd oX (k _ oX oX)];exact a.l3,
  (f.rd oX (k _ oX oX)).trans a.r4,(f.rd oX (k _ oX oX)).trans a.r5⟩
theorem Tq.put{n:Nat}{g:G}{mk:Int}{v:Value}(a:Tq n q t g x mk hh)(d:xN (n+2) hh EP ((rd hh (n+2)).set 0 v)):Tq n q t g x mk EP/\rd EP (n+2)=[v]:=by
 have s:=a.lt;have l3:=a.l3
 have e:rd EP (n+2)=[v]:=by
  rw[d.rd]
  match rd hh (n+2),l3 with
  | [_],_=>rfl
 exact⟨⟨by rw[d.size];exact s,(d.at_ oX oX).trans a.r1,(d.at_ oX oX).trans a.r2,d.own,by rw[e];rfl,(d.at_ oX oX).trans a.r4,(d.at_ oX oX).trans a.r5⟩,e⟩
theorem zF{T:TM}{g:G}(x:Tx h F t d T)(ok:g.ok)(hbi:g.cO<=g.eO)(hd0:0<g.data)(hu:T.aD.length<900000000)
  (aeG:∀k:Nat,g.cO<=k->k<g.eO->(∀m,m<4096*(k-g.cO)->¬iH T g m)->(T.read k).2≠0->∀h',Fr No h h'->K (.tuple #[vI 0,vI (T.read k).2]) h')
  (ah0:(∀m,m<4096*(g.eO-g.cO)->¬iH T g m)->∀h',Fr No h h'->K (.tuple #[vI 0,vI 90]) h')
  (Iy:∀m,m<4096*(g.eO-g.cO)->iH T g m->(∀m',m'<m->¬iH T g m')->(T.read (g.at_ m)).2=0->∀h' F',Fr F h h'->Gw h F h' F'->Tx h' F' t d (kN T g m).1->
   K (.tuple #[vI (kN T g m).2.1,vI (kN T g m).2.2]) h'):C.oB t g.v h K:=by
 refine oB.ok (aC.intro λh2 n2=>aC.intro λh3 n3=>aC.intro λh4 n4=>aC.intro λh5 n5=>?_);have z2:=n2.size;have z3:=n3.size;have z4:=n4.size;have z5:=n5.size;have e2:h2.size=h.size+1:=z2;have e3:h3.size=h.size+2:=oX;have e4:h4.size=h.size+3:=oX;have b2:=ok.m;have b3:=ok.i;refine bD.intro n5.own (by rw[n5.rd];exact Nat.one_pos) λh6 d6=>?_;have z6:=d6.size
 have k6:Tk h.size h t g 0 h6:=by
  have r4:=d6.rd;have o4:=d6.own;rw[n5.rd]at r4;rw[e4]at r4 o4;have r3:=n4.rd;have o3:=n4.own;rw[e3]at r3 o3;have r2:=n3.rd;rw[e2]at r2;refine⟨(((n2.fr.new n3).new n4).new n5).did d6 λhb=>oX,rfl,oX,?_,?_,d6.ow (n5.ow o3),?_,o4,r4⟩
  ·exact(d6.at_).trans ((n5.at_).trans ((n4.at_).trans ((n3.at_).trans n2.rd)))
  ·exact(d6.at_).trans ((n5.at_).trans ((n4.at_).trans r2))
  ·exact(d6.at_).trans ((n5.at_).trans r3)
 rw[e2,e3,e4];refine⟨_,dC k6.r1 rfl,g.v,rfl,ah k6.r2,?_⟩
 -- e is put
 have pe:∀{hh:ad} {y v:Int} {k:HP},Tk h.size h t g y hh->(∀h8,h8.size=hh.size->Fr No h h8->rd h8 (h.size+2)=[vI v]->dA h8 (h.size+2)->rd h8 h.size=[vP t]->rd h8 (h.size+1)=g.v->rd h8 (h.size+3)=[vI y]->k h8)->bD ⟨h.size+2,0,none⟩ (vI v) hh k:=by
  intro hh y v k a H;have s:=a.size;refine bD.intro a.o3 (by rw[a.r3];exact Nat.one_pos) λh8 d8=>?_;exact H h8 d8.size (a.f.did d8 λhb=>oX) (by rw[d8.rd,a.r3];rfl) d8.own ((d8.at_).trans a.r1) ((d8.at_).trans a.r2) ((d8.at_).trans a.r4)
 refine Ur (T:=T) (F:=F) (d:=d) ok hbi (λk hh=>Tk h.size h t g 0 hh/\∀m,m<4096*(k-g.cO)->¬iH T g m)
  (λhh=>∃m:Nat,Tk h.size h t g m hh/\m<4096*(g.eO-g.cO)/\iH T g m/\(∀m',m'<m->¬iH T g m')/\(T.read (g.at_ m)).2=0)
  (λk hh j=>x.no j.1.f) (λk hh EP j f=>⟨j.1.step f λb hb=>by have hb:h6.size<=b:=hb;omega,j.2⟩) (λk hh A l c j TF hk1 he B=>?_) ⟨k6,λm hm=>oX⟩ (λhh j=>?_) (λhh j=>?_) λk hh j TF hk1 he=>?_
 ·have hlen:=Tx.lv x he;have hl:l=512:=by rw[<-B.1];exact hlen
  subst hl;obtain⟨j,jn⟩:=j;have sz:=j.size;show C.nA _ A 512 c (some ⟨h.size+1,0,none⟩) (some ⟨h.size+3,0,none⟩) hh _;refine nA.ok (os ⟨g.v,rfl,ah j.r2,?_⟩);refine Uq B oX oX ok oX rfl (λi hx=>Tk h.size h t g 0 hx/\Fr (λb=>b=h.size+3) hh hx/\∀m,m<4096*(k-g.cO)+i->¬iH T g m)
   (λhx=>∃m:Nat,Tk h.size h t g m hx/\Fr (λb=>b=h.size+3) hh hx/\m<4096*(k-g.cO)+4096/\4096*(k-g.cO)<=m/\iH T g m/\∀m',m'<m->¬iH T g m')
   (λi hx Zh q f=>⟨q.1.step f λb hb=>by have hb:hh.size<=b:=hb;omega,q.2.1.trans f λb hb y=>by have y:hh.size<=b:=y;omega,q.2.2⟩)
   (λhx Zh q f=>?_) (λi j' hx q h1 h2 h3=>⟨q.1,q.2.1,λm hm z=>?_⟩) (λi j' a b hx q h1 h2 h3 h4 h5 h7=>?_) ⟨j,Fr.refl _ _,λm hm=>jn m oX⟩ λhx q=>⟨rfl,os ?_⟩
  ·obtain⟨m,q1,q2,q3⟩:=q;exact⟨m,q1.step f λb hb=>by have hb:hh.size<=b:=hb;omega,q2.trans f λb hb y=>by have y:hh.size<=b:=y;omega,q3⟩
  ·rcases rI m (4096*(k-g.cO)+i)with hm2|hm2
   ·exact q.2.2 m hm2 z
   ·refine h3 (m-4096*(k-g.cO)) oX oX ((Sb TF oX).mpr ?_);rw[show 4096*(k-g.cO)+(m-4096*(k-g.cO))=m by omega];exact z
  ·show C.ky _ _ (some ⟨h.size+3,0,none⟩) hx _
   have fr:∀m,4096*(k-g.cO)+i<=m->m<4096*(k-g.cO)+j'->(iH T g m↔a<=m/\m<b):=λm x y=>by
    have:=h7 (m-4096*(k-g.cO)) oX oX;rw[Sb TF oX,show 4096*(k-g.cO)+(m-4096*(k-g.cO))=m by omega]at this;exact this
   refine ky.ok (os (bD.intro q.1.o4 (by rw[q.1.r4];exact Nat.one_pos) λh8 d8=>⟨false,rfl,d8.fr.mono λb _ e=>by show b<hh.size;omega,λe=>(by cases e),λ_=>⟨a,q.1.put d8,q.2.1.trans d8.fr λ_ _ e=>e,oX,oX,(fr a oX oX).mpr ⟨bE _,oX⟩,λm' V3 z=>?_⟩⟩))
   rcases rI m' (4096*(k-g.cO)+i)with hm2|hm2
   ·exact q.2.2 m' hm2 z
   ·have:=(fr m' hm2 oX).mp z;omega
  ·rcases q with q|⟨m,q1,q2,q3,q4,q5,q6⟩
   ·refine⟨_,dC q.1.r4 rfl,true,rfl,q.2.1.mono λb _ e=>by show b<h6.size;omega,λ_=>⟨q.1,λm hm=>q.2.2 m oX⟩,λe=>by cases e⟩
   ·have hm0:0<m:=(by have:=q5.2.1;omega);refine⟨_,dC q1.r4 rfl,false,?_,q2.mono λb _ e=>by show b<h6.size;omega,λe=>(by cases e),λ_=>⟨m,q1,oX,q5,q6,?_⟩⟩
    ·have:((m:Int)==0)=false:=beq_eq_false_iff_ne.mpr oX;rw[this]
    ·have e:g.at_ m=(k:Int):=by
      unfold G.at_;have:m/4096=k-g.cO:=oX;rw[this];omega
     rw[e];exact he
 · -- all are taken
  obtain⟨j,jn⟩:=j;refine⟨_,rfl,pe j λh8 z8 f8 r3 o3 r1 r2 r4=>⟨_,dC r3 rfl,cf rfl ⟨_,dC r4 rfl,ct rfl ?_⟩⟩⟩;refine bD.intro o3 (by rw[r3];exact Nat.one_pos) λh9 d9=>⟨90,dC (xs:=[vI 90]) (by rw[d9.rd,r3];rfl) rfl,ah0 jn h9 (f8.did d9 λhb=>oX)⟩
 · -- m is the lowest
  obtain⟨m,j,jm,jf,jl,jr⟩:=j;have hm0:0<m:=by have:=jf.2.1;omega
  have sz:=j.size;have live:=TM.Lr jr;have ah1:T.mark=((T.aD.length:Int),0):=by unfold TM.mark;rw[live,if_neg (by simp)]
  refine⟨_,rfl,pe j λh8 z8 f8 r3 o3 r1 r2 r4=>⟨_,dC r3 rfl,cf rfl ⟨_,dC r4 rfl,cf (beq_eq_false_iff_ne.mpr oX) ⟨_,dC r1 rfl,sE (x.no f8) ⟨_,_,rfl,?_⟩⟩⟩⟩⟩;rw[ah1];refine aC.intro λbf n12=>?_;have z12:=n12.size;refine bD.intro n12.own (by rw[n12.rd];exact Nat.one_pos) λbQ d13=>?_;have Vp:=d13.size
  have q13:Tq h.size h8.size t g m T.aD.length bQ:=by
   refine⟨oX,(d13.at_).trans ((n12.at_).trans r1),(d13.at_).trans ((n12.at_).trans r2),d13.ow (n12.ow o3),?_,(d13.at_).trans ((n12.at_).trans r4),by rw[d13.rd,n12.rd];rfl⟩;rw[d13.at_,n12.at_,r3];rfl
  have f13:Fr No h bQ:=(f8.new n12).did d13 λhb=>by omega
  refine bD.intro q13.o3 (by rw[q13.l3];exact Nat.one_pos) λcX d14=>?_;obtain⟨q14,YK⟩:=q13.put d14;have WI:=d14.size;have f14:Fr No h cX:=f13.did d14 λhb=>by omega
  refine⟨0,dC YK rfl,cf rfl ⟨_,dC q14.r1 rfl,g.v,rfl,ah q14.r2,_,dC q14.r4 rfl,?_⟩⟩;have mb:=jf.2.2
  -- refused: it goes back
  have refuse:∀(hs:ad) (Fs:NP) (Ts:TM) (e:Int) (k':HP),e≠0->Fr F h hs->Gw h F hs Fs->Tx hs Fs t d Ts->Ts.aD.length<1000000000->(Ts.back T.aD.length).1=T->(∀b,h.size<=b->b<=h8.size->¬Fs b)->Tq h.size h8.size t g m T.aD.length hs->rd hs (h.size+2)=[vI e]->
    (∀eX F',Fr F h eX->Gw h F eX F'->Tx eX F' t d T->rd eX (h.size+2)=[vI e]->k' eX)->D.bU (some (bA h)) (some (bA h8)) (some ⟨h.size+2,0,none⟩) hs k':=by
   intro hs Fs Ts e k' he fs gs xs us eb nq qs rs H;refine bU.FE (os ⟨_,dC qs.r1 rfl,os ⟨_,dC qs.r5 rfl,qi.ok (os ⟨_,dC rs rfl,cn (λ_=>?_) λe0=>absurd e0 he⟩)⟩⟩);refine sF xs us λeX f19 x19=>⟨_,rfl,rfl,?_⟩;rw[eb]at x19;have lq:=qs.lt;have nF:¬Fs (h.size+2):=nq _ oX oX;exact H eX Fs (fs.trans f19 λb hb y=>(gs.old b hb).mp y) ⟨gs.old,λb hb=>mV (gs.lt b hb) f19.size⟩ x19 ((f19.rd oX nF).trans rs)
  refine yN (x.no f14) ok oX oX oX λgN F6 f6 g6 x6=>⟨_,rfl,?_⟩;have x6:Tx gN F6 t d (df T g m true).1:=x6;have em:((m:Nat):Int).toNat=m:=rfl;rw[em];have z16:=f6.size
  have nq6:∀b,h.size<=b->b<=h8.size->¬F6 b:=λb h1 h2 y=>by
   have:=x.lt ((g6.old b oX).mp y);omega
  have nF6:∀b,F b->h.size<=b->b<=h8.size->False:=λb y h1 h2=>by have:=x.lt y;omega
  have q16:Tq h.size h8.size t g m T.aD.length gN:=q14.step f6 nF6;have g16:Gw h F gN F6:=(Gw.refl f14.size λb hb=>x.lt hb).trans g6 f14.size;have f16:Fr F h gN:=(f14.mono λ_ _ y=>y.elim).trans f6 λ_ _ y=>y;refine bD.intro q16.o3 (by rw[q16.l3];exact Nat.one_pos) λgO d17=>?_;obtain⟨J4,r17⟩:=q16.put d17;have z17:=d17.size;have x17:Tx gO F6 t d (df T g m true).1:=x6.fr d17.fr λb hb e=>nq6 b oX oX hb;have f17:Fr F h gO:=f16.did d17 λhb=>by omega
  have g17:Gw h F gO F6:=⟨g16.old,λb hb=>by rw[z17];exact g16.lt b hb⟩;have u17:(df T g m true).1.aD.length<=T.aD.length+1:=ND T g m true;refine⟨_,dC r17 rfl,cn (λhe=>?_) λhe=>?_⟩
  ·refine⟨_,dC r17 rfl,bD.intro J4.o3 (by rw[J4.l3];exact Nat.one_pos) λjk d18=>?_⟩;obtain⟨q18,r18⟩:=J4.put d18;have z18:=d18.size;have et:kN T g m=(T,0,(df T g m true).2):=(by unfold kN;rw[if_pos he]);have Iy:=Iy m jm jf jl jr;rw[et]at Iy;refine refuse jk F6 (df T g m true).1 _ _ he (f17.did d18 λhb=>oX) ⟨g17.old,λb hb=>by rw[z18];exact g17.lt b hb⟩ (x17.fr d18.fr λb hb e=>nq6 b oX oX hb) oX (by rw[Hc he];exact aag T) nq6 q18 r18 λeX F' f19 g19 x19 r19=>⟨_,dC r19 rfl,Iy eX F' f19 g19 x19⟩
  ·refine⟨_,dC J4.r1 rfl,_,dC J4.r4 rfl,by decide,aC.intro λiG n20=>⟨dC ((n20.at_).trans J4.r1) rfl,dC ((n20.at_).trans J4.r4) rfl,?_⟩⟩;have z20:=n20.size;have B20:av iG (some (bA gO)) 512 tv:=yv (by rw[n20.rd];exact J3) dU;have ua:(df T g m true).1.aD.length<1000000000:=oX;refine Tm.fp (x17.no n20.fr) B20 dX (λp ep y=>?_) ua λoM F7 f21 g21 x21=>⟨_,rfl,?_⟩
   ·cases ep
    have:=x17.lt y;have y:F6 gO.size:=y;have:=g17.lt _ y;omega
   have z21:=f21.size;have Xr:Tq h.size h8.size t g m T.aD.length iG:=J4.step n20.fr λ_ y=>y.elim;have Vr:Tq h.size h8.size t g m T.aD.length oM:=Xr.step f21 λb y h1 h2=>nq6 b h1 h2 y;have f20:Fr F h iG:=f17.new n20;have f21':Fr F h oM:=f20.trans f21 λb hb y=>(g17.old b hb).mp y;have g20:Gw h F iG F6:=⟨g17.old,λb hb=>by have:=g17.lt b hb;omega⟩;have ah4:Gw h F oM F7:=g20.trans g21 f20.size;have nq7:∀b,h.size<=b->b<=h8.size->¬F7 b:=λb h1 h2 y=>nq6 b h1 h2 ((g21.old b oX).mp y);refine bD.intro Vr.o3 (by rw[Vr.l3];exact Nat.one_pos) λqD d22=>?_;obtain⟨YU,r22⟩:=Vr.put d22;have z22:=d22.size;have x22:Tx qD F7 t d ((df T g m true).1.write m tv).1:=x21.fr d22.fr λb hb e=>nq7 b oX oX hb;have f22:Fr F h qD:=f21'.did d22 λhb=>by omega
   have g22:Gw h F qD F7:=⟨ah4.old,λb hb=>by rw[z22];exact ah4.lt b hb⟩;have Iy:=Iy m jm jf jl jr;refine⟨_,dC r22 rfl,cn (λhw=>?_) λhw=>?_⟩
   ·refine⟨_,dC r22 rfl,bD.intro YU.o3 (by rw[YU.l3];exact Nat.one_pos) λpg d23=>?_⟩;obtain⟨Xs,Z5⟩:=YU.put d23;have z23:=d23.size;have et:kN T g m=(T,0,((df T g m true).1.write m tv).2):=(by unfold kN;rw[if_neg (by rw[he];simp),if_pos hw]);rw[et]at Iy;have x23:=x22.fr d23.fr λb hb e=>nq7 b oX oX hb;rw[TM.zy hw]at x23;refine refuse pg F7 (df T g m true).1 _ _ hw (f22.did d23 λhb=>oX) ⟨g22.old,λb hb=>by rw[z23];exact g22.lt b hb⟩ x23 ua (NC he) nq7 Xs Z5 λsX F' f24 g24 x24 r24=>⟨_,dC r24 rfl,Iy sX F' f24 g24 x24⟩
   ·have et:kN T g m=(((df T g m true).1.write m tv).1,(m:Int),0):=(by unfold kN;rw[if_neg (by rw[he];simp),if_neg (by rw[hw];simp)]);rw[et]at Iy;refine⟨_,dC YU.r4 rfl,bD.intro YU.o3 (by rw[YU.l3];exact Nat.one_pos) λqv d25=>?_⟩;obtain⟨q25,Z6⟩:=YU.put d25;have z25:=d25.size;have x25:=x22.fr d25.fr λb hb e=>nq7 b oX oX hb;refine bU.FE (os ⟨_,dC q25.r1 rfl,os ⟨_,dC q25.r5 rfl,qi.ok (os ⟨_,dC Z6 rfl,cf rfl ⟨rfl,0,dC Z6 rfl,?_⟩⟩)⟩⟩);exact Iy qv F7 (f22.did d25 λhb=>oX) ⟨g22.old,λb hb=>by rw[z25];exact g22.lt b hb⟩ x25
 ·obtain⟨j,jn⟩:=j;refine⟨_,rfl,pe j λh8 z8 f8 r3 o3 r1 r2 r4=>⟨_,dC r3 rfl,cn (λ_=>⟨_,dC r3 rfl,?_⟩) λe=>absurd e he⟩⟩;refine bD.intro o3 (by rw[r3];exact Nat.one_pos) λh9 d9=>⟨_,dC (xs:=[vI (T.read k).2]) (by rw[d9.rd,r3];rfl) rfl,aeG k TF hk1 jn he h9 (f8.did d9 λhb=>oX)⟩
def af(n:Nat):G:=⟨n,98,98+(n+4095)/4096,98+(n+4095)/4096+n/64,8*(n/64)⟩
theorem Sd{n:Nat}(h:n<=16384):(af n).ok:=by
 refine⟨?_,?_,?_,?_⟩
 ·show n<=_;omega
 ·show 98<=_;omega
 ·show 98+(n+4095)/4096<=_;omega
 ·show 98+(n+4095)/4096+n/64<=_;omega
theorem G.one(g:G):∀v∈g.v,v.oneCell'=true:=by
 intro v hv;simp only[G.v,fO,nT,or_false]at hv
 rcases hv with rfl|rfl|rfl|rfl|rfl <;> rfl
theorem Xu{n:Nat}(hn:n<=1099511627776)(hK:∀ h',Fr No h h'->K (.agg ⟨(af n).v⟩) h'):C.jZ n h K:=by
 refine jZ.ok ?_;unfold jZ
 have e1:Int.tdiv ((n:Int)+4096-1) 4096=(((n+4095)/4096:Nat):Int):=by
  rw[show(n:Int)+4096-1=((n+4095:Nat):Int) by omega];rfl
 have e2:Int.tdiv (n:Int) 64=((n/64:Nat):Int):=rfl
 rw[wq ((n:Int)+4096),wq ((n:Int)+4096-1),e1,e2,wq ((((n+4095)/4096:Nat):Int)),
  wq (98+(((n+4095)/4096:Nat):Int)),wq (((n/64:Nat):Int)),wq (98+(((n+4095)/4096:Nat):Int)+((n/64:Nat):Int)),wq (8*((n/64:Nat):Int))]
 rw[show(98:Int)+(((n+4095)/4096:Nat):Int)=((98+(n+4095)/4096:Nat):Int) by omega,show((98+(n+4095)/4096:Nat):Int)+((n/64:Nat):Int)=((98+(n+4095)/4096+n/64:Nat):Int) by omega,show 8*((n/64:Nat):Int)=((8*(n/64):Nat):Int) by omega];exact aF.intro (cs:=(af n).v) rfl (G.one _) rfl λh3 n3=>⟨(af n).v,rfl,ah n3.rd,hK h3 n3.fr⟩
structure Ext(T T':TM):Prop where
 cB:T'.cB=T.cB
 over:T'.over=T.over
 aD:∃us,T'.aD=T.aD++us/\dN T'.put us=T.put
theorem Ext.refl(T:TM):Ext T T:=⟨rfl,rfl,[],(gi _).symm,rfl⟩
theorem Ext.write{T T':TM}(e:Ext T T')(i:Int)(bs:cC):Ext T (T'.write i bs).1:=by
 by_cases h:(T'.write i bs).2=0
 ·obtain⟨h1,h2,h3,h4,h5,ew⟩:=TM.Cb h;obtain⟨us,e1,e2⟩:=e.aD;rw[ew];refine⟨e.cB,e.over,us++[(i,dx T'.put i)],?_,?_⟩
  ·show T'.aD++[_]=_;rw[e1,iW]
  ·show dN (jL T'.put i bs) (us++[(i,dx T'.put i)])=T.put;unfold dN;rw[List.foldr_append]
   have:List.foldr (λu m=>rO m u) (jL T'.put i bs) [(i,dx T'.put i)]=T'.put:=by
    show rO (jL T'.put i bs) (i,dx T'.put i)=_;unfold rO
    cases ea:dx T'.put i with
    | none=>exact zt ea
    | some b=>exact zu ea
   rw[this];exact e2
 ·rw[TM.zy h];exact e
theorem Ext.back{T T':TM}(e:Ext T T')(h:T.over=false):T'.back T.aD.length=(T,0):=by
 obtain⟨us,e1,e2⟩:=e.aD;have ho:T'.over=false:=e.over.trans h;unfold TM.back;rw[if_neg (by rw[ho];simp),if_neg (by rw[e1,bg];omega)];have et:((T.aD.length:Nat):Int).toNat=T.aD.length:=rfl;rw[et,e1,Ae,tL,e2];have hd:=e.cB;have hv:=e.over
 cases T;cases T';simp_all
theorem sH{T T':TM}(e:Ext T T')(g:G)(i:Nat)(on:Bool):Ext T (df T' g i on).1:=by
 unfold df
 split
 ·exact e
 ·exact e.write _ _
theorem P5{T T':TM}(e:Ext T T')(g:G)(m:Nat):Ext T (kN T' g m).1:=by
 unfold kN
 split
 ·exact e
 ·split
  ·exact e
  ·exact(sH e g m true).write _ _
end Spc
namespace Av
open Hp W Ad Tm Bt Spc
structure zV(n:Nat):Prop where
 lo:128<=n
 hi:n<=16384
theorem zV.data{n:Nat}(d:zV n):(af n).data=98+(n+4095)/4096+n/64/\(af n).data<n/\(af n).data<4096/\101<=(af n).data:=by
 have:=d.lo;have:=d.hi;have e:(af n).data=98+(n+4095)/4096+n/64:=rfl;omega
theorem J5(n i:Nat):(af n).at_ i=((98+i/4096:Nat):Int):=rfl
def aV : cC:=List.replicate 512 0
theorem Ds(i:Nat):rz [] i=false:=by
 unfold rz;rw[List.getD_nil];exact Nat.zero_testBit _
def bj(T:TM)(g:G):TM×Int×Int:=
 match (List.range g.blocks).find? (λm=>decide (iH T g m))with
 | some m=>kN T g m
 | none=>(T,0,90)
theorem Xv{p:Nat->Bool}{n:Nat}(h:m<n)(hp:p m=true)(hl:∀ k,k<m->p k=false):(List.range n).find? p=some m:=by
 rw[List.find?_eq_some_iff_getElem];refine⟨hp,m,by rw[xE];exact h,yB _,λj hj=>?_⟩;rw[yB,hl j hj];rfl
theorem Us{p:Nat->Bool}{n:Nat}(h:∀ k,k<n->p k=false):(List.range n).find? p=none:=by
 rw[List.find?_eq_none];intro x hx;rw[h x (TJ.mp hx)];simp
theorem zG{T:TM}{g:G}(h:iH T g m)(hl:∀ k,k<m->¬ iH T g k):bj T g=kN T g m:=by
 unfold bj;rw[Xv h.2.2 (decide_eq_true h) λk hk=>decide_eq_false (hl k hk)]
theorem He{T:TM}{g:G}(h:∀ k,¬ iH T g k):bj T g=(T,0,90):=by
 unfold bj;rw[Us λk _=>decide_eq_false (h k)]
theorem Du{T:TM}(h:(T.read i).2≠0):(T.read i).1=[]:=by
 unfold TM.read at h ⊢
 split
 ·rfl
 ·rename_i h1;rw[if_neg h1]at h
  split
  ·rfl
  ·rename_i h2;rw[if_neg h2]at h;unfold TM.get at h ⊢
   split
   ·rename_i e;rw[e]at h;exact absurd rfl h
   ·rename_i e;rw[e]at h;simp only at h
    split
    ·rfl
    ·rename_i h3;rw[if_neg h3]at h;exact absurd rfl h
theorem Xw{T:TM}{n:Nat}(x:Tx h F t d T)(dm:zV n)(hu:T.aD.length<900000000)
  (hK:∀h' F',Fr F h h'->Gw h F h' F'->Tx h' F' t d (bj T (af n)).1->K (.tuple #[vI (bj T (af n)).2.1,vI (bj T (af n)).2.2]) h'):C.oB t (af n).v h K:=by
 have hd:=dm.data;have Za:=dm.lo;have hhi:=dm.hi;have ah6:(af n).eO=98+(n+4095)/4096:=rfl;have hbm:(af n).cO=98:=rfl;have rM:(af n).blocks=n:=rfl
 have same:∀e h',Fr No h h'->bj T (af n)=(T,0,e)->K (.tuple #[vI 0,vI e]) h':=λe h' f e0=>by
  rw[e0]at hK;exact hK h' F (f.mono λ_ _ y=>y.elim) (Gw.refl f.size λb hb=>x.lt hb) (x.no f)
 refine zF x (Sd hhi) oX oX hu (λk h1 h2 Vi he h' f=>same _ h' f ?_) (λVi h' f=>same _ h' f (He λk hk=>?_)) (λm hm MG aeH hr h' F' f g x'=>?_)
 ·rw[hbm]at h1 Vi
  -- the first data block of this cO block reads as free
  have ex:∃m,iH T (af n) m/\m/4096=k-98:=by
   refine⟨max (4096*(k-98)) (af n).data,⟨?_,Nat.le_max_right _ _,oX⟩,oX⟩;have:(af n).at_ (max (4096*(k-98)) (af n).data)=(k:Int):=(by rw[J5];omega);rw[this,Du he];exact Ds _
  obtain⟨m0,hm0,TF⟩:=ex
  obtain⟨m,hm,hl⟩:∃m,iH T (af n) m/\∀k,k<m->¬iH T (af n) k:=by
   clear TF
   induction m0 using Nat.strongRecOn with
   | ind m0 ih=>
    by_cases h:∃k,k<m0/\iH T (af n) k
    ·obtain⟨k,h1,h2⟩:=h;exact ih k h1 h2
    ·exact⟨m0,hm0,λk h1 h2=>h ⟨k,h1,h2⟩⟩
  have hle:m<=m0:=by
   rcases rI m0 m with h|h
   ·exact absurd hm0 (hl _ h)
   ·exact h
  have TG:4096*(k-98)<=m:=by
   rcases rI m (4096*(k-98))with h|h
   ·exact absurd hm (Vi m h)
   ·exact h
  have ea:(af n).at_ m=(k:Int):=by rw[J5];omega
  rw[zG hm hl];unfold kN Spc.df;rw[ea,if_pos he,if_pos he]
 ·have h3:=hk.2.2;exact Vi k oX hk
 ·rw[zG MG aeH]at hK;exact hK h' F' f g x'
end Av
namespace Tm
open Hp W Ad
def TM.ended(S:RD):TM:=⟨S,[],[],true⟩
theorem Ck{q x y z:Value}(o:dA h b)(e:rd h b=[q,x,y,z])(hK:∀ h',xN b h h' [q,.map none,vS none 0 0,.bool true]->K (.tuple #[]) h'):bz (some ⟨b,0,none⟩) K h:=by
 refine os (bD.add o (by rw[e];show 1<4;omega) λh2 d2=>?_);rw[e]at d2;refine os (bD.add d2.own (by rw[d2.rd];show 2<4;omega) λh3 d3=>?_);rw[d2.rd]at d3;refine os (bD.add d3.own (by rw[d3.rd];show 3<4;omega) λh4 d4=>?_);rw[d3.rd]at d4;exact hK h4 ⟨by rw[d4.size,d3.size,d2.size],(d2.fr.trans d3.fr λ_ _ x=>x).trans d4.fr λ_ _ x=>x,d4.own,d4.rd⟩
theorem PD.shut{h7 h8:ad}{r:TR}{T:TM}{S:RD}{D:NP}(X:PD h ao d r T)(hF:∀ b,F b↔1<=ao b/\ao b<=5)(f:Fr (λb=>ao b=5) h h7)(g:Gw h (λb=>ao b=5) h7 D)(A:dD h7 D d S)
  (d8:xN r.tb h7 h8 [vP d,.map none,vS none 0 0,.bool true]):∃F',Fr F h h8/\Gw h F h8 F'/\Tx h8 F' (some ⟨r.tb,0,none⟩) d (TM.ended S):=by
 have tl:=X.own.lt;have s1:=X.sc;have z7:=f.size;have z8:=d8.size
 obtain⟨aB,k1,k2⟩:∃aB:Nat->Nat,(∀b,D b->aB b=5)/\∀b,¬D b->aB b=if b<h.size/\ao b≠5 then ao b else 0:=
  ⟨λb=>@ite _ (D b) (Classical.propDecidable _) 5 (if b<h.size/\ao b≠5 then ao b else 0),λb x=>if_pos x,λb x=>if_neg x⟩
 have old:∀b,b<h.size->aB b=ao b:=λb hb=>by
  by_cases x:D b
  ·rw[k1 b x];exact((g.old b hb).mp x).symm
  ·have:ao b≠5:=λe=>x ((g.old b hb).mpr e);rw[k2 b x,if_pos ⟨hb,this⟩]
 have five:∀b,aB b=5↔D b:=λb=>⟨λe=>by
  by_cases x:D b
  ·exact x
  ·rw[k2 b x]at e
   split at e
   ·rename_i y;exact absurd e y.2
   ·exact absurd e dX,k1 b⟩
 have Xx:∀b,h8.size<=b->aB b=0:=λb hb=>by
  have x:¬D b:=λx=>by have:=A.lt x;omega
  rw[k2 b x,if_neg oX]
 refine⟨λb=>1<=aB b/\aB b<=5,?_,⟨λb hb=>by rw[old b hb];exact(hF b).symm,λb hb=>?_⟩,.inr ⟨aB,r.tb,rfl,⟨Xx,(old _ tl).trans s1,d8.own,d8.rd,⟨rfl,rfl⟩,rfl,?_⟩,λb=>Iff.rfl⟩⟩
 ·refine(f.mono λb _ e=>(hF b).mpr ?_).trans d8.fr λb _ e=>(hF b).mpr ?_
  ·have e:ao b=5:=e;omega
  ·have e:b=r.tb:=e;subst e;omega
 ·rcases rI b h8.size with x|x
  ·exact x
  ·rw[Xx b x]at hb;omega
 ·refine(A.fr d8.fr λb hb e=>?_).iff five;have e:b=r.tb:=e;subst e;have:=(g.old _ tl).mp hb;have this:ao r.tb=5:=this;omega
theorem P7{T:TM}(x:Tx h F t d T)(hK:∀ h' F',Fr F h h'->Gw h F h' F'->Tx h' F' t d (TM.ended T.cB)->K (.tuple #[]) h'):C.gQ t h K:=by
 have bV:=λb hb=>x.lt (b:=b) hb
 rcases x with⟨ao,r,rfl,X,hF⟩|⟨ao,tb,rfl,X,hF⟩
 ·refine gQ.ok (bz.ok (Ck X.own X.cell λh2 d2=>⟨rfl,?_⟩));obtain⟨F',f,g,y⟩:=X.shut hF (Fr.refl _ _) (Gw.refl (bE _) λb hb=>X.dk.lt hb) X.dk d2;exact hK h2 F' f g y
 ·refine gQ.ok (bz.ok (Ck X.own X.cell λh2 d2=>⟨rfl,?_⟩));have s1:=X.sc;have f2:Fr F h h2:=d2.fr.mono λb _ e=>by have e:b=tb:=e;subst e;exact(hF _).mpr oX
  have z2:=d2.size
  exact hK h2 F f2 (Gw.refl f2.size bV) (.inr ⟨ao,tb,rfl,⟨λb hb=>X.wA b oX,s1,d2.own,d2.rd,⟨rfl,rfl⟩,rfl,X.dk.fr d2.fr λb hb e=>by
   have e:b=tb:=e;subst e;have hb:ao b=5:=hb
   omega⟩,hF⟩)
end Tm
namespace Wc
open Hp W Ad Pn
theorem Ut{D:NP}{S:RD}(A:dD h D d S)(hK:∀ a c h',Fr No h h'->Sl h' 1 a (S.aE.length*512) c (S.aE.flatten.map bv) (cW h.size)->K (vS a (S.aE.length*512) c) h'):C.gy d h K:=by
 obtain⟨ao,A,_⟩:=A;exact A2 A hK
end Wc
namespace Ap
open Hp W Ad L3 Rf
def Hf(l:List Int):LV:=l.map (.int .i64)
section
variable{h : ad}{ao : Nat -> Nat}{kb c : Nat}{K : Value -> ad -> Prop}
theorem Uu{vs:List Int}(s:Sl h 1 a l c (Hf vs) F):vs.length=l:=by
 have:=s.1;unfold Hf at this;rw[aP]at this;omega
theorem Dv{ns:List Int}(A:ak h a (Hf ns)){i:Nat}(hi:i<ns.length):∃p,a=some p/\cellOf h (p.add i)=some (vI ns[i]):=by
 cases a with
 | none=>have A:Hf ns=[]:=A;have:=qx.mp A;rw[this]at hi;exact absurd hi (by simp)
 | some p=>exact⟨p,rfl,A i _ (by unfold Hf;rw[jH,fg hi];rfl)⟩
end
end Ap
namespace Bm
open Hp W Ad Tm Bt Spc Re Av
theorem Fm(v:Nat):∀n,py (bo n v)=v%256 ^ n
 | 0=>by show 0=v%1;omega
 | n+1=>by
  have e:bo (n+1) v=bo n v++[UInt8.ofNat (v/256 ^ n)]:=by unfold bo;rw[Ei,eT];rfl
  rw[e,MX,bC,Fm v n,Nat.mod_pow_succ];have:(UInt8.ofNat (v/256 ^ n)).toNat=v/256 ^ n%256:=by simp
  rw[this,BU]
def oG(b:cC)(p:Nat):Nat:=py ((b.drop (4*p)).take 4)
def tG(b:cC)(p v:Nat):cC:=kX b (4*p) (bo 4 v)
theorem Cm(b:cC)(p:Nat):oG b p<4294967296:=by
 have h:=yD ((b.drop (4*p)).take 4);have hl:((b.drop (4*p)).take 4).length<=4:=by rw[dL];omega
 exact mV h (k9 (Ec dX hl) dX)
theorem vt{b:cC}{p v:Nat}(hb:b.length=512)(hp:p<128):(tG b p v).length=512:=by
 unfold tG;rw[vj (by rw[bC];omega),hb]
theorem Co{b z:cC}(hz:z.length=4)(hb:b.length=512)(ho:4*o+4<=512)(hq:4*q+4<=512):((kX b (4*o) z).drop (4*q)).take 4=if q=o then z else(b.drop (4*q)).take 4:=by
 unfold kX;have l1:(b.take (4*o)).length=4*o:=by rw[dL];omega
 by_cases h:q=o
 ·rw[if_pos h,h,iW,Ej oX,qY oX,tP,WV oX,gL oX]
 ·rw[if_neg h]
  rcases rI q o with h1|h1
  ·rw[iW,Ej oX,WV (by rw[jM];omega),List.drop_take,List.take_take,xL oX]
  ·have l2:(b.take (4*o)++z).length=4*o+4:=(by rw[bg];omega);rw[abT,qY oX,tP,Bv,l2,hz,show 4*o+4+(4*q-(4*o+4))=4*q by omega]
theorem Cp{b:cC}{v:Nat}(hb:b.length=512)(ho:o<128)(hq:q<128)(hv:v<4294967296):oG (tG b o v) q=if q=o then v else oG b q:=by
 unfold oG tG;rw[Co (bC 4 v) hb oX oX]
 split
 ·rw[Fm];exact vg hv
 ·rfl
def iI(T:TM)(R:List Int)(s:Nat×Nat)(at_:Int):Int×cC×Int:=
 if s.1=0 then(R.getD (3+s.2) 0,[],0)else if s.1=1 then(R.getD 13 0,[],0)else if s.1=2 then(R.getD 14 0,[],0)else
  if(T.read at_).2≠0 then(0,[],(T.read at_).2)else((oG (T.read at_).1 s.2:Nat),(T.read at_).1,0)
def iK(g:G)(v:Int):Int:=if v<g.data∨v>=g.blocks then 100 else 0
def oH(T:TM)(R:List Int)(s:Nat×Nat)(at_:Int)(b:cC)(v:Int):(TM×List Int)×Int:=
 if s.1=0 then((T,R.set (3+s.2) v),0)else if s.1=1 then((T,R.set 13 v),0)else if s.1=2 then((T,R.set 14 v),0)else
  (((T.write at_ (tG b s.2 v.toNat)).1,R),(T.write at_ (tG b s.2 v.toNat)).2)
def pO(T:TM)(g:G)(R:List Int):List (Nat×Nat)->Int->Int×Int
 | [],a=>(a,0)
 | s::r,a=>if(iI T R s a).2.2≠0 then(0,(iI T R s a).2.2)else if(iI T R s a).1=0 then(0,0)else
   if iK g (iI T R s a).1≠0 then(0,iK g (iI T R s a).1)else pO T g R r (iI T R s a).1
def cM(g:G):List (Nat×Nat)->TM->List Int->Int->(TM×List Int)×Int×Int
 | [],T,R,a=>((T,R),a,0)
 | s::r,T,R,a=>if(iI T R s a).2.2≠0 then((T,R),0,(iI T R s a).2.2)else if(iI T R s a).1≠0 then
   if iK g (iI T R s a).1≠0 then((T,R),0,iK g (iI T R s a).1)else cM g r T R (iI T R s a).1
  else if(bj T g).2.2≠0 then(((bj T g).1,R),0,(bj T g).2.2)else
   if(oH (bj T g).1 R s a (iI T R s a).2.1 (bj T g).2.1).2≠0 then((oH (bj T g).1 R s a (iI T R s a).2.1 (bj T g).2.1).1,0,(oH (bj T g).1 R s a (iI T R s a).2.1 (bj T g).2.1).2)else
   if(bj T g).2.1=0 then((oH (bj T g).1 R s a (iI T R s a).2.1 (bj T g).2.1).1,0,0)else
   if iK g (bj T g).2.1≠0 then((oH (bj T g).1 R s a (iI T R s a).2.1 (bj T g).2.1).1,0,iK g (bj T g).2.1)else
    cM g r (oH (bj T g).1 R s a (iI T R s a).2.1 (bj T g).2.1).1.1 (oH (bj T g).1 R s a (iI T R s a).2.1 (bj T g).2.1).1.2 (bj T g).2.1
def fT(k:Nat):List (Nat×Nat):=if k<10 then[(0,k)]else if k<138 then[(1,0),(3,k-10)]else[(2,0),(3,(k-138)/128),(3,(k-138)%128)]
def rG : List Int:=List.replicate 15 0
def bT(T:TM)(g:G)(R:List Int)(k:Int):Int×Int:=if k<0∨k>=16522 then(0,101)else pO T g R (fT k.toNat) 0
def bR(T:TM)(g:G)(R:List Int)(k:Int):TM×List Int×Int×Int:=
 if k<0∨k>=16522 then(T,rG,0,101)else
  if(cM g (fT k.toNat) T R 0).2.2≠0 then(((cM g (fT k.toNat) T R 0).1.1.back T.aD.length).1,rG,0,(cM g (fT k.toNat) T R 0).2.2)
   else((cM g (fT k.toNat) T R 0).1.1,(cM g (fT k.toNat) T R 0).1.2,(cM g (fT k.toNat) T R 0).2.1,0)
theorem Cq(T:TM)(R:List Int)(p:Nat)(a:Int):iI T R (3,p) a=if(T.read a).2≠0 then((0:Int),([]:cC),(T.read a).2)else(((oG (T.read a).1 p:Nat):Int),(T.read a).1,(0:Int)):=rfl
end Bm
namespace In
open Go Go.Proofs Re Hd
def rG : List Int:=List.replicate 15 0
def kindOk(k l s:Int)(R:List Int):Bool:=
 if k=0 then decide (R=rG)else if k=1 then(decide (0<=l) && decide (l<=1000)) && (decide (0<=s) && decide (s<=8459264))
 else if k=2 then(decide (2<=l) && decide (l<=65535)) && ((decide (0<=s) && decide (s<=8459264)) && decide (s%512=0))
 else if k=3 then(decide (1<=l) && decide (l<=1000)) && (decide (1<=s) && decide (s<=1024))else false
def pq(n:Int):Bool:=decide (0<=n) && decide (n<=4294967295)
def qH(R:List Int):Bool:=(R.drop 3).all pq && kindOk (R.getD 0 0) (R.getD 1 0) (R.getD 2 0) R
def ng(R:List Int):LB:=bo 1 (R.getD 0 0).toNat++([0]++(bo 2 (R.getD 1 0).toNat++(bo 4 (R.getD 2 0).toNat++(cU (R.drop 3)++aV 8))))
def mD(bs:LB):List Int:=[(kL bs 0 1:Int),(kL bs 2 2:Int),(kL bs 4 4:Int)]++(List.range 12).map λi=>(kL bs (8+4*i) 4:Int)
theorem oI(bs:LB):(mD bs).length=15:=by rw[mD,bg,aP,xE];rfl
def clean(bs:LB):Bool:=im ((bs.drop 1).take 1) && im ((bs.drop 56).take 8)
def uN(bs:LB):Bool:=clean bs && qH (mD bs)
def tH(bs:LB):List Int×Int:=if bs.length≠64 then(rG,32)else if uN bs then(mD bs,0)else(rG,111)
theorem yO(h:R.length=15)(m:qH R=true):0<=R.getD 0 0/\R.getD 0 0<=3/\0<=R.getD 1 0/\R.getD 1 0<=65535/\0<=R.getD 2 0/\R.getD 2 0<=8459264/\∀n∈R.drop 3,0<=n/\n<=4294967295:=by
 rw[qH,dB]at m
 have hw:∀n∈R.drop 3,0<=n/\n<=4294967295:=λn hn=>by
  have:=oN.mp m.1 n hn;rw[pq,dB,decide_eq_true_eq,decide_eq_true_eq]at this;exact this
 have k:=m.2;unfold kindOk at k
 split at k
 ·rename_i h0;have e:=of_decide_eq_true k;subst e;refine⟨by decide,by decide,by decide,by decide,by decide,by decide,hw⟩
 ·split at k
  ·simp only[dB,decide_eq_true_eq]at k;exact⟨oX,oX,oX,oX,oX,oX,hw⟩
  ·split at k
   ·simp only[dB,decide_eq_true_eq]at k;exact⟨oX,oX,oX,oX,oX,oX,hw⟩
   ·split at k
    ·simp only[dB,decide_eq_true_eq]at k;exact⟨oX,oX,oX,oX,oX,oX,hw⟩
    ·cases k
theorem vu(h:R.length=15):(ng R).length=64:=by
 simp only[ng,bg,bC,jS,eN,jM,h,ik]
theorem P9(h:R.length=15):(ng R).drop 1=[0]++(bo 2 (R.getD 1 0).toNat++(bo 4 (R.getD 2 0).toNat++(cU (R.drop 3)++aV 8)))/\(ng R).drop 2=bo 2 (R.getD 1 0).toNat++(bo 4 (R.getD 2 0).toNat++(cU (R.drop 3)++aV 8))/\
  (ng R).drop 4=bo 4 (R.getD 2 0).toNat++(cU (R.drop 3)++aV 8)/\(ng R).drop 8=cU (R.drop 3)++aV 8/\(ng R).drop 56=aV 8:=by
 have d1:(ng R).drop 1=[0]++(bo 2 (R.getD 1 0).toNat++(bo 4 (R.getD 2 0).toNat++(cU (R.drop 3)++aV 8))):=Cc (bC 1 _);have d2:(ng R).drop 2=bo 2 (R.getD 1 0).toNat++(bo 4 (R.getD 2 0).toNat++(cU (R.drop 3)++aV 8)):=by rw[show 2=1+1 by rfl,<-Bv,d1];rfl
 have d4:(ng R).drop 4=bo 4 (R.getD 2 0).toNat++(cU (R.drop 3)++aV 8):=by rw[show 4=2+2 by rfl,<-Bv,d2];exact Cc (bC 2 _)
 have d8:(ng R).drop 8=cU (R.drop 3)++aV 8:=by rw[show 8=4+4 by rfl,<-Bv,d4];exact Cc (bC 4 _)
 refine⟨d1,d2,d4,d8,?_⟩;rw[show 56=8+48 by rfl,<-Bv,d8];exact Cc (by rw[jS,jM,h])
theorem Uv(bs:LB):∀k,8+4*k<=bs.length->cU ((List.range k).map λi=>(kL bs (8+4*i) 4:Int))=(bs.drop 8).take (4*k):=by
 intro k
 induction k with
 | zero=>intro _;rfl
 | succ k ih=>
  intro hk;have e:=ih oX;rw[Ei,eT,cU,iy];rw[cU]at e;rw[e];have l4:((bs.drop (8+4*k)).take 4).length=4:=by rw[dL,jM];omega
  have:bo 4 (kL bs (8+4*k) 4)=(bs.drop (8+4*k)).take 4:=by
   have:=xo ((bs.drop (8+4*k)).take 4);rw[l4]at this;exact this
  show _++(bo 4 ((kL bs (8+4*k) 4:Int)).toNat++[])=_;rw[cA,this,gi,show 4*(k+1)=4*k+4 by omega,List.take_add,Bv]
theorem Se{xs:LB}(h:im xs=true):xs=aV xs.length:=Ir h
theorem NF(hb:bs.length=64):ng (mD bs)=bs↔clean bs=true:=by
 have g0:bo 1 (kL bs 0 1)=bs.take 1:=by
  have:=xo (bs.take 1);rw[dL,show min 1 bs.length=1 by omega]at this;rw[kL,mW];exact this
 have g1:bo 2 (kL bs 2 2)=(bs.drop 2).take 2:=by
  have:=xo ((bs.drop 2).take 2);rw[dL,jM,show min 2 (bs.length-2)=2 by omega]at this;exact this
 have g2:bo 4 (kL bs 4 4)=(bs.drop 4).take 4:=by
  have:=xo ((bs.drop 4).take 4);rw[dL,jM,show min 4 (bs.length-4)=4 by omega]at this;exact this
 have g3:cU ((mD bs).drop 3)=(bs.drop 8).take 48:=by
  have:=Uv bs 12 oX;exact this
 have ee:ng (mD bs)=bs.take 1++([0]++((bs.drop 2).take 2++((bs.drop 4).take 4++((bs.drop 8).take 48++aV 8)))):=by
  rw[ng,g3];show bo 1 ((kL bs 0 1:Nat):Int).toNat++([0]++(bo 2 ((kL bs 2 2:Nat):Int).toNat++(bo 4 ((kL bs 4 4:Nat):Int).toNat++_)))=_;rw[cA,cA,cA,g0,g1,g2]
 have eb:bs=bs.take 1++((bs.drop 1).take 1++((bs.drop 2).take 2++((bs.drop 4).take 4++((bs.drop 8).take 48++(bs.drop 56).take 8)))):=by
  have t8:(bs.drop 56).take 8=bs.drop 56:=gL (by rw[jM];omega);rw[t8];have s1:=uL bs 8 48;have s2:=uL bs 4 4;have s3:=uL bs 2 2;have s4:=uL bs 1 1;have s5:=uL bs 0 1;rw[mW]at s5
  conv=>lhs;rw[s5,s4,s3,s2,s1]
 have l1:((bs.drop 1).take 1).length=1:=by rw[dL,jM];omega
 have l8:((bs.drop 56).take 8).length=8:=by rw[dL,jM];omega
 constructor
 ·intro h;obtain⟨d1,_,_,_,d56⟩:=P9 (oI bs);rw[<-congrArg clean h,clean,d1,d56];rfl
 ·intro h;rw[clean,dB]at h;have z1:=Se h.1;have z2:=Se h.2;rw[l1]at z1;rw[l8]at z2;rw[ee]
  conv=>rhs;rw[eb,z1,z2]
  rfl
end In
namespace In
open Hp W Su Re Hd
structure lT(h:ad):Prop where
 wide:PA h
theorem lT.fr{h h':ad}{F:NP}(g:lT h)(f:Fr F h h')(h1:∀ b,b<1->¬ F b):lT h':=⟨g.wide.fr f (h1 _ dX)⟩
theorem lT.no(g:lT h)(f:Fr No h h'):lT h':=g.fr f λ_ _ x=>x
theorem lT.lt{h:ad}(g:lT h):1<=h.size:=by have:=g.wide.lt;omega
theorem rh(g:lT h)(hn:n=1∨n=2∨n=4∨n=8)(hK:K (.bool true) h):C.j9 n h K:=by
 refine j9.ok (ct (decide_eq_true oX) (ct (decide_eq_true oX) ⟨⟨oX,oX⟩,true,aZ g.wide ?_,hK⟩))
 rcases hn with rfl|rfl|rfl|rfl <;> rfl
theorem Sf{at_:Int}(g:lT h)(B:av h a l bs)(hl:l<=140737488355328)(hn:n=1∨n=2∨n=4∨n=8)(h0:0<=at_)(h2:at_+n<=l)
  (hK:K (.tuple #[.int .u64 (py ((bs.drop at_.toNat).take n.toNat)),vI 0]) h):C.sN a l c at_ n h K:=by
 have hb:=B.1;refine sN.ok (rh g hn ⟨_,rfl,iu (ct rfl (uJ hl h0 oX h2 ⟨_,rfl,iu (ct rfl ?_)⟩))⟩);have hlen:∀k:Nat,(k:Int)<=n->((bs.drop at_.toNat).take k).length=k:=λk hk=>by rw[dL,jM];omega
 refine⟨λv k hh=>0<=k/\k<=n/\h=hh/\v=(py ((bs.drop at_.toNat).take k.toNat):Nat),λ_ k _=>(n-k).toNat,⟨oX,oX,rfl,rfl⟩,?_⟩;rintro v k _ ⟨k0,k1,rfl,rfl⟩;refine cd (λhk=>?_) λhk=>?_
 ·rw[wq (at_+k)];obtain⟨_,B2⟩:=B;have hi:at_.toNat+k.toNat<bs.length:=oX
  cases a with
  | none=>have B2:bs.map bv=[]:=B2;have:=qx.mp B2;rw[this]at hi;exact absurd hi (by simp)
  | some p=>
   refine⟨⟨oX,oX⟩,os ⟨_,B2 (at_+k).toNat (bv bs[at_.toNat+k.toNat]) (by rw[show(at_+k).toNat=at_.toNat+k.toNat by omega,jH,fg hi];rfl),?_⟩⟩;have w8:wI (8*k)=8*k:=wrap_i64 oX oX;rw[if_neg (by rw[w8];omega),wq (k+1)];have hlk:=hlen k.toNat oX;have bV:=yD ((bs.drop at_.toNat).take k.toNat);rw[hlk]at bV;have eo:=δ (v:=py ((bs.drop at_.toNat).take k.toNat)) (b:=bs[at_.toNat+k.toNat]) (k:=k.toNat) oX bV;rw[show((k.toNat:Nat):Int)=k by omega]at eo;rw[eo];refine⟨⟨oX,oX,rfl,?_⟩,by show(n-(k+1)).toNat<(n-k).toNat;omega⟩;have Xi:k.toNat<(bs.drop at_.toNat).length:=(by rw[jM];omega);rw[show(k+1).toNat=k.toNat+1 by omega,jJ Xi,MX,hlk,RN]
 ·have:k=n:=oX;subst this;exact hK
theorem NG{at_:Int}{v:Nat}(g:lT h)(s:Sl h 1 (some ⟨b,o,none⟩) l c (bs.map bv) F)(hl:l<=140737488355328)(hn:n=1∨n=2∨n=4)(h0:0<=at_)(h2:at_+n<=l)
  (hv:v<256 ^ n.toNat) (hK:∀h',Fr (λx=>x=b) h h'->Sl h' 1 (some ⟨b,o,none⟩) l c ((kX bs at_.toNat (bo n.toNat v)).map bv) F->K (vI 0) h'):C.ja (some ⟨b,o,none⟩) l c at_ n (v:Int) h K:=by
 have rM:=s.1;rw[aP,ph]at rM;refine ja.ok (rh g oX ⟨_,rfl,iu (ct rfl (ct (decide_eq_true oX) ?_))⟩);have w8:wI (8*n)=8*n:=wrap_i64 oX oX;rw[if_neg (by rw[w8];omega)]
 have hz:Int.fdiv (v:Int) (2 ^ min (Int.toNat (wI (8*n))) 64)=0:=by
  rw[w8,show min (Int.toNat (8*n)) 64=8*n.toNat by omega]
  have e:Int.fdiv (v:Int) (2 ^ (8*n.toNat))=((v/256 ^ n.toNat:Nat):Int):=by
   rw[xj,vf _ (by exact Int.le_of_lt (Int.pow_pos dX))];simp
  rw[e,WX hv];rfl
 refine cf (by rw[hz];rfl) (uJ hl h0 oX h2 ⟨_,rfl,iu (ct rfl ?_)⟩);have hlB:=bC n.toNat v;refine⟨λk hh=>0<=k/\k<=n/\Fr (λx=>x=b) h hh/\Sl hh 1 (some ⟨b,o,none⟩) l c ((kX bs at_.toNat ((bo n.toNat v).take k.toNat)).map bv) F,λk _=>(n-k).toNat,⟨oX,oX,Fr.refl _ _,by rw[show(0:Int).toNat=0 from rfl,vi,GB];exact s⟩,?_⟩;rintro k h4 ⟨k0,k1,f4,s4⟩;refine cd (λhk=>?_) λhk=>?_
 ·rw[if_neg (by rw[wrap_i64 oX oX];omega),wq (at_+k)];obtain⟨w1,w2⟩:=s4.wr;refine⟨⟨oX,oX⟩,os (bD.add w1 oX λh5 d5=>?_)⟩;have hkB:k.toNat<(bo n.toNat v).length:=oX;have eb:=Lj v k.toNat oX;rw[show((k.toNat:Nat):Int)=k by omega]at eb;rw[eb]at d5;have s5:=s4.putAt (j:=(at_+k).toNat) (new:=[_]) (by rw[ik];omega) d5;rw[wq (k+1)];refine⟨⟨oX,oX,f4.did d5 (λ_=>rfl),?_⟩,by show(n-(k+1)).toNat<(n-k).toNat;omega⟩;have T8:((bo n.toNat v).take k.toNat).length=k.toNat:=by rw[dL];omega
  have ee:(bo n.toNat v)[k.toNat]=UInt8.ofNat (v/256 ^ k.toNat):=by simp only[bo,mu,yB]
  have ep:put ((kX bs at_.toNat ((bo n.toNat v).take k.toNat)).map bv) (at_+k).toNat [bv (UInt8.ofNat (v/256 ^ k.toNat))]=(kX bs at_.toNat ((bo n.toNat v).take (k+1).toNat)).map bv:=by
   rw[<-te (by rw[T8];omega),<-te (by rw[dL];omega),show(k+1).toNat=k.toNat+1 by omega,jJ hkB,eT,BV,ee]
   have:∀(ys:LV) (X:LV) (o:Nat) (y:Value),put X o (ys++[y])=(put X o ys).set (o+ys.length) y:=by
    intro ys
    induction ys with
    | nil=>intro X o y;rfl
    | cons v r ih=>
     intro X o y;show put (X.set o v) (o+1) (r++[y])=_;rw[ih,pA,show o+1+r.length=o+(r.length+1) by omega];rfl
   rw[this,aP,T8,show(at_+k).toNat=at_.toNat+k.toNat by omega];rfl
  rw[ep]at s5;exact s5
 ·have:k=n:=oX;subst this;rw[gL oX]at s4;exact hK h4 f4 s4
theorem Cs : ∀xs ys:List Int,cQ (ints xs) (ints ys)=decide (xs=ys)
 | [],[]=>rfl
 | [],y::r=>rfl
 | x::r,[]=>rfl
 | x::r,y::s=>by
  show((x==y) && cQ (ints r) (ints s))=_;rw[Cs r s,JR,dB,beq_iff_eq,decide_eq_true_eq,decide_eq_true_eq,List.cons.injEq]
theorem aO(ns:List Int):∀v∈ints ns,v.oneCell'=true:=by
 intro v hv;obtain⟨n,_,rfl⟩:=List.mem_map.mp hv;rfl
theorem aj(ns:List Int):(ints ns).length=ns.length:=aP ..
theorem mG{v lo:Int}(hK:K (.bool (decide (lo<=v) && decide (v<=hi))) h):C.fy v lo hi h K:=by
 refine fy.ok (cd (λx=>?_) λx=>?_)
 ·rw[decide_eq_true oX]at hK;exact hK
 ·rw[decide_eq_false oX]at hK;exact hK
theorem Ct(hR:R.length=15)(hK:∀ h',Fr No h h'->K (.agg ⟨ints (R.drop 3)⟩) h'):C.ke (ints R) h K:=by
 match R,hR with
 | [k,l,s,d0,d1,d2,d3,d4,d5,d6,d7,d8,d9,x,y],_=>
  refine ke.ok (aC.intro λh2 n2=>aC.intro λh3 n3=>aC.intro λh4 n4=>?_);have s2:=n2.size;have s3:=n3.size;have s4:=n4.size;have r4:rd h4 h.size=ints [k,l,s,d0,d1,d2,d3,d4,d5,d6,d7,d8,d9,x,y]:=(n4.at_).trans ((n3.at_).trans n2.rd);refine xw.intro (new:=ints [d0,d1,d2,d3,d4,d5,d6,d7,d8,d9]) rfl (show ai h4 _ _ from pY r4 rfl) (aO _) n4.own (by rw[n4.rd];show 10<=12;omega) λh5 q5=>?_;have r5:rd h5 h3.size=ints [d0,d1,d2,d3,d4,d5,d6,d7,d8,d9,0,0]:=q5.rd.trans (by rw[n4.rd];rfl);have r5x:=(q5.at_ (c:=h.size) oX oX).trans r4;refine⟨x,aZ r5x rfl,y,aZ r5x rfl,⟨oX,oX⟩,bD.add q5.own (by rw[r5];show 0+10<12;omega) λh6 q6=>⟨⟨oX,oX⟩,bD.add q6.own (by rw[q6.rd,r5];show 0+11<12;omega) λh7 q7=>?_⟩⟩;have r7:rd h7 h3.size=ints [d0,d1,d2,d3,d4,d5,d6,d7,d8,d9,x,y]:=q7.rd.trans (by rw[q6.rd,r5];rfl);have w2:dA h7 h2.size:=q7.ow (q6.ow (q5.ow (n4.ow n3.own)))
  have e2:(rd h7 h2.size).length=12:=by
   rw[q7.at_ (by have:=q6.size;have:=q5.size;omega) oX,q6.at_ (by have:=q5.size;omega) oX,q5.at_ oX oX,n4.at_,n3.rd];rfl
  refine⟨_,rfl,ah r7,az.intro w2 rfl (aO _) (by rw[e2];omega) λh8 q8=>⟨ints [d0,d1,d2,d3,d4,d5,d6,d7,d8,d9,x,y],rfl,ah ?_,hK h8 ?_⟩⟩
  ·rw[q8.rd,fu _ _ (by rw[e2];rfl)]
  ·exact(((((n2.fr.new n3).new n4).did q5 λ_=>oX).did q6 λ_=>oX).did q7 λ_=>oX).did q8 λ_=>by omega
theorem sQ{S:List Int}(hR:R.length=15)(hS:S.length=15):dr [(.int .i64),(.int .i64),(.int .i64),(.int .i64),(.int .i64),(.int .i64),(.int .i64),(.int .i64),(.int .i64),(.int .i64),(.int .i64),(.int .i64),(.int .i64),(.int .i64),(.int .i64)] (ints R) (ints S)=true:=by
 match R,hR,S,hS with
 | [_,_,_,_,_,_,_,_,_,_,_,_,_,_,_],_,[_,_,_,_,_,_,_,_,_,_,_,_,_,_,_],_=>rfl
theorem iJ(r:rd h b=ints R){i:Nat}(hi:i<R.length):cellOf h (Addr.add ⟨b,0,none⟩ i)=some (vI (R.getD i 0)):=by
 refine aZ r ?_;rw[wR,ints,jH,gh,fg hi];rfl
theorem wB(hR:R.length=15)(hK:∀ h',Fr No h h'->K (.bool (qH R)) h'):C.qq (ints R) h K:=by
 refine qq.ok (aC.intro λh2 n2=>⟨ints R,by rw[aj,hR],ah n2.rd,Ct hR λh3 f3=>⟨_,rfl,?_⟩⟩);have s2:=n2.size;have F3:=n2.fr.no f3;have r3:rd h3 h.size=ints R:=(f3.rd n2.own.lt λx=>x).trans n2.rd;have ld:(R.drop 3).length=12:=by rw[jM,hR]
 have hK:=hK h3 F3;refine⟨λn hh=>0<=n/\n<=12/\h3=hh/\((R.drop 3).take n.toNat).all pq=true,λn _=>((12:Nat)-n).toNat,⟨oX,oX,rfl,rfl⟩,?_⟩;rintro n _ ⟨n0,n1,rfl,q⟩;refine cd (λhn=>?_) λhn=>?_
 ·have hn:n<12:=hn;have hi:n.toNat<(R.drop 3).length:=oX;refine⟨⟨n0,hn⟩,(R.drop 3)[n.toNat],by rw[ints,jH,fg hi];rfl,mG ⟨_,rfl,iu ?_⟩⟩
  cases hw:pq (R.drop 3)[n.toNat]with
  | false=>
   have:qH R=false:=by
    have e:(R.drop 3).all pq=false:=by
     cases e:(R.drop 3).all pq with
     | false=>rfl
     | true=>have:=oN.mp e _ (ff hi);rw[hw]at this;cases this
    rw[qH,e];rfl
   rw[this]at hK;exact cf hw hK
  | true=>
   rw[wrap_i64 oX oX];refine ct hw ⟨⟨oX,oX,rfl,?_⟩,bW (m:=12) hn⟩;rw[show(n+1).toNat=n.toNat+1 by omega,jJ hi,List.all_append,q,Mc,hw];rfl
 ·have hn:¬n<12:=hn;rw[gL oX]at q;have em:qH R=kindOk (R.getD 0 0) (R.getD 1 0) (R.getD 2 0) R:=by rw[qH,q,yj]
  rw[em]at hK;unfold kindOk at hK;refine⟨_,iJ r3 oX,ce (λh0=>?_) λh0=>?_⟩
  ·rw[if_pos h0]at hK;refine⟨ints R,by rw[aj,hR],ah r3,sQ hR (S:=rG) dU,?_⟩;rw[show(z32:LV)=ints rG from rfl,Cs];exact hK
  ·rw[if_neg h0]at hK;refine ce (λh1=>?_) λh1=>?_
   ·rw[if_pos h1]at hK;refine⟨_,iJ r3 oX,mG ⟨_,rfl,?_⟩⟩
    cases hb:(decide (0<=R.getD 1 0) && decide (R.getD 1 0<=1000))with
    | false=>rw[hb]at hK;exact hK
    | true=>rw[hb]at hK;exact⟨_,iJ r3 oX,mG ⟨_,rfl,hK⟩⟩
   ·rw[if_neg h1]at hK;refine ce (λxR=>?_) λxR=>?_
    ·rw[if_pos xR]at hK;refine⟨_,iJ r3 oX,mG ⟨_,rfl,?_⟩⟩
     cases hb:(decide (2<=R.getD 1 0) && decide (R.getD 1 0<=65535))with
     | false=>rw[hb]at hK;exact hK
     | true=>
      rw[hb,yj]at hK;refine⟨_,iJ r3 oX,mG ⟨_,rfl,?_⟩⟩
      cases hc:(decide (0<=R.getD 2 0) && decide (R.getD 2 0<=8459264))with
      | false=>rw[hc]at hK;exact hK
      | true=>
       rw[hc,yj]at hK;rw[dB,decide_eq_true_eq]at hc;refine⟨_,iJ r3 oX,?_⟩;have e:(Int.tmod (R.getD 2 0) 512==0)=decide (R.getD 2 0%512=0):=(by rw[rL hc.1];rfl);rw[e];exact hK
    ·rw[if_neg xR]at hK;refine ce (λL6=>?_) λL6=>?_
     ·rw[if_pos L6]at hK;refine⟨_,iJ r3 oX,mG ⟨_,rfl,?_⟩⟩
      cases hb:(decide (1<=R.getD 1 0) && decide (R.getD 1 0<=1000))with
      | false=>rw[hb]at hK;exact hK
      | true=>rw[hb]at hK;exact⟨_,iJ r3 oX,mG ⟨_,rfl,hK⟩⟩
     ·rw[if_neg L6]at hK;exact hK
theorem Fo(v:Nat):bo 1 v=[UInt8.ofNat v]:=by rw[rq];rfl
theorem Sg(v:Nat):bo 2 v=[UInt8.ofNat v,UInt8.ofNat (v/256)]:=by rw[rq,Fo]
theorem NH(v:Nat):bo 4 v=[UInt8.ofNat v,UInt8.ofNat (v/256),UInt8.ofNat (v/256/256),UInt8.ofNat (v/256/256/256)]:=by rw[rq,rq,Sg]
theorem enc3(k l s:Nat):kX (kX (kX (aV 64) 0 (bo 1 k)) 2 (bo 2 l)) 4 (bo 4 s)=(bo 1 k++([0]++(bo 2 l++bo 4 s)))++aV 56:=by
 rw[Fo,Sg,NH];rfl
theorem NI(g:lT h)(hR:R.length=15)(hN:qH R=false->∀ h',Fr No h h'->K (.tuple #[vS none 0 0,vI 111]) h')
  (hK:qH R=true->∀b h',Fr No h h'->h.size<=b->Sl h' 1 (some ⟨b,0,none⟩) 64 64 ((ng R).map bv) (λx=>x=b)->K (.tuple #[vS (some ⟨b,0,none⟩) 64 64,vI 0]) h'):C.mP (ints R) h K:=by
 have hg:=g.lt;refine mP.ok (aC.intro λh2 n2=>⟨ints R,by rw[aj,hR],ah n2.rd,wB hR λh3 f3=>⟨_,rfl,iu ?_⟩⟩);have s2:=n2.size;have s3:=f3.size;have F3:=n2.fr.no f3;have r3:rd h3 h.size=ints R:=(f3.rd n2.own.lt λx=>x).trans n2.rd
 cases hm:qH R with
 | false=>exact hN hm h3 F3
 | true=>
  have hK:=hK hm;obtain⟨k0,k1,l0,l1,z0,z1,hw⟩:=yO hR hm;refine ct rfl ⟨⟨oX,oX,oX,oX⟩,aC.intro λh4 n4=>?_⟩;have s4:=n4.size;have r4:rd h4 h.size=ints R:=(n4.at_).trans r3
  have b4:Sl h4 1 (some (bA h3)) 64 64 ((aV 64).map bv) (λx=>x=h3.size):=
   Sl.made (zs:=[]) n4 (by rw[gi];rfl) rfl (by rw[aP,eN]) (bE _) rfl
  have w:∀n:Int,0<=n->n<=4294967295->IntKind.wrap .u64 n=((n.toNat:Nat):Int):=λn a b=>by rw[wrap_u64 a oX,abW a]
  have fP:h.size≠h3.size:=oX;refine⟨_,iJ r4 oX,?_⟩;rw[w _ k0 oX];refine NG (g.no (F3.new n4)) b4 oX oX oX oX (by show(R.getD 0 0).toNat<256 ^ 1;omega) λh5 f5 b5=>⟨_,rfl,?_⟩;have s5:=f5.size;have g5:lT h5:=(g.no (F3.new n4)).fr f5 λb hb e=>by omega
  have r5:rd h5 h.size=ints R:=(f5.rd oX fP).trans r4;refine⟨_,iJ r5 oX,?_⟩;rw[w _ l0 oX];refine NG g5 b5 oX oX oX oX (by show(R.getD 1 0).toNat<256 ^ 2;omega) λh6 f6 b6=>⟨_,rfl,?_⟩;have s6:=f6.size;have g6:lT h6:=g5.fr f6 λb hb e=>by omega
  have r6:rd h6 h.size=ints R:=(f6.rd oX fP).trans r5;refine⟨_,iJ r6 oX,?_⟩;rw[w _ z0 oX];refine NG g6 b6 oX oX oX oX (by show(R.getD 2 0).toNat<256 ^ 4;omega) λh7 f7 b7=>⟨_,rfl,?_⟩;have s7:=f7.size;have g7:lT h7:=g6.fr f7 λb hb e=>by omega
  have r7:rd h7 h.size=ints R:=(f7.rd oX fP).trans r6;have b7:Sl h7 1 (some (bA h3)) 64 64 (((bo 1 (R.getD 0 0).toNat++([0]++(bo 2 (R.getD 1 0).toNat++bo 4 (R.getD 2 0).toNat)))++aV 56).map bv) (λx=>x=h3.size):=by rw[<-enc3];exact b7
  refine⟨ints R,by rw[aj,hR],ah r7,Ct hR λh8 f8=>⟨_,rfl,?_⟩⟩;have s8:=f8.size;have b8:=b7.fr f8 λ_ _ _ x=>x;have F8:Fr No h h8:=((((F3.new n4).trans f5 λb hb e=>oX).trans f6 λb hb e=>oX).trans f7 λb hb e=>oX).no f8;have ld:(R.drop 3).length=12:=by rw[jM,hR]
  generalize hH:bo 1 (R.getD 0 0).toNat++([0]++(bo 2 (R.getD 1 0).toNat++bo 4 (R.getD 2 0).toNat))=H at b8;have lH:H.length=8:=by rw[<-hH];simp only[bg,bC,ik]
  refine⟨λn hh=>0<=n/\n<=12/\Fr No h hh/\h3.size<hh.size/\Sl hh 1 (some (bA h3)) 64 64 ((H++cU ((R.drop 3).take n.toNat)++aV (56-4*n.toNat)).map bv) (λx=>x=h3.size),λn _=>((12:Nat)-n).toNat,
   ⟨oX,oX,F8,oX,by rw[show(0:Int).toNat=0 from rfl,vi];show Sl h8 1 _ 64 64 ((H++[]++aV 56).map bv) _;rw[gi];exact b8⟩,?_⟩
  rintro n h9 ⟨n0,n1,F9,s9,b9⟩;refine cd (λhn=>?_) λhn=>?_
  ·have hn:n<12:=hn;have hi:n.toNat<(R.drop 3).length:=oX;have hx:=hw _ (ff hi);refine⟨⟨n0,hn⟩,(R.drop 3)[n.toNat],by rw[ints,jH,fg hi];rfl,?_⟩;rw[w _ hx.1 hx.2,wq (4*n),wq (8+4*n),wq (n+1)];refine NG (g.no F9) b9 oX oX oX oX (by show((R.drop 3)[n.toNat]).toNat<256 ^ 4;omega) λbG f10 b10=>⟨_,rfl,⟨oX,oX,F9.trans f10 (λb hb e=>oX),by have:=f10.size;omega,?_⟩,bW (m:=12) hn⟩;have lf:(cU ((R.drop 3).take n.toNat)).length=4*n.toNat:=by rw[jS,dL];omega
   have e1:H++cU ((R.drop 3).take n.toNat)++aV (56-4*n.toNat)=(H++cU ((R.drop 3).take n.toNat))++aV 4++aV (56-4*(n+1).toNat):=by
    rw[iW (H++_),<-ug];congr 2;omega
   have e2:(8+4*n).toNat=(H++cU ((R.drop 3).take n.toNat)).length:=(by rw[bg,lH,lf];omega);rw[e1,e2,yE _ _ _ _ (by rw[bC,eN];rfl)]at b10
   have e3:cU ((R.drop 3).take (n+1).toNat)=cU ((R.drop 3).take n.toNat)++bo 4 ((R.drop 3)[n.toNat]).toNat:=by
    rw[show(n+1).toNat=n.toNat+1 by omega,jJ hi,cU,iy];show _++(bo 4 _++[])=_;rw[gi,cU]
   rw[e3,<-iW];exact b10
  ·have hn:¬n<12:=hn;have en:n.toNat=12:=oX;rw[en,gL oX]at b9;refine hK h3.size h9 F9 oX ?_
   have ee:ng R=H++cU (R.drop 3)++aV (56-4*12):=by
    rw[ng,<-hH];simp only[iW]
   rw[ee];exact b9
theorem Xy{at_:Int}(g:lT h)(B:av h a l bs)(hl:l<=140737488355328)(r:rd h cb=[vS a l c])(hn:n=1∨n=2∨n=4)(h0:0<=at_)(h2:at_+n<=l)
  (hK:K (vI (kL bs at_.toNat n.toNat:Nat)) h):C.dg at_ n (some ⟨cb,0,none⟩) h K:=by
 have lt:=WO bs at_.toNat n.toNat
 have lt:kL bs at_.toNat n.toNat<4294967296:=by
  rcases hn with rfl|rfl|rfl
  ·exact mV lt (by show 256 ^ 1<=_;decide)
  ·exact mV lt (by show 256 ^ 2<=_;decide)
  ·exact lt
 refine dg.ok ?_;unfold dg;refine os ⟨_,_,_,dC r rfl,Sf g B hl oX h0 h2 ⟨_,_,rfl,?_⟩⟩;have e:py ((bs.drop at_.toNat).take n.toNat)=kL bs at_.toNat n.toNat:=rfl;rw[e,wrap_i64 oX oX];exact hK
theorem jT(f:Fr No h3 h)(hb:h3.size<=b)(w:dA h b)(hl:(rd h b).length=15)(hK:∀ h',Fr No h3 h'->K (.tuple #[.agg ⟨ints rG⟩,vI n]) h') :
  az ⟨b,0,none⟩ z32 15 h λh4=>
   ∃dq:LV,List.length dq=15/\ai h4 ⟨b,0,none⟩ dq/\K (.tuple #[.agg ⟨dq⟩,vI n]) h4:=by
 refine az.intro w rfl (aO rG) oX λh4 d4=>⟨ints rG,rfl,ah ?_,hK h4 (f.did d4 λbV=>oX)⟩;rw[d4.rd];exact fu _ _ (by rw[hl];rfl)
theorem J6(hR:R.length=15)(f:Fr No h3 h)(hb:h3.size<=b)(w:dA h b)(hl:(rd h b).length=15)(r:rd h cb=ints R)(hK:∀ h',Fr No h3 h'->K (.tuple #[.agg ⟨ints R⟩,vI n]) h') :
  ∃cs:LV,List.length cs=15/\ai h ⟨cb,0,none⟩ cs/\az ⟨b,0,none⟩ cs 15 h λh4=>∃dq:LV,List.length dq=15/\ai h4 ⟨b,0,none⟩ dq/\K (.tuple #[.agg ⟨dq⟩,vI n]) h4:=by
 have li:(ints R).length=15:=by rw[aj,hR]
 refine⟨ints R,li,ah r,az.intro w li (aO R) oX λh4 d4=>⟨ints R,li,ah ?_,hK h4 (f.did d4 λbV=>oX)⟩⟩;rw[d4.rd];exact fu _ _ (by rw[hl,li])
theorem NJ{α:Type}(xs:List α)(z:α)(ys:List α)(m n:Nat)(hm:m<xs.length)(hn:0<n):(xs.take m++(List.replicate n z++ys)).set m xs[m]=xs.take (m+1)++(List.replicate (n-1) z++ys):=by
 have l:(xs.take m).length=m:=by rw[dL];omega
 rw[List.set_append_right _ _ oX,l,Nat.sub_self,show n=(n-1)+1 by omega,uW,abU,List.set_cons_zero,jJ hm,iW];rfl
theorem Cu(bs:LB){i:Nat}(hi:i<12)(h:3+i<(mD bs).length):(mD bs)[3+i]=(kL bs (8+4*i) 4:Nat):=by
 simp only[mD];rw[GO (by show 3<=3+i;omega)];simp only[pA,FX,Nat.reduceAdd,Nat.add_sub_cancel_left,mu,yB]
theorem NK(g:lT h)(B:av h a l bs)(CS:l<=c)(hK:∀ h',Fr No h h'->K (.tuple #[.agg ⟨ints (tH bs).1⟩,vI (tH bs).2]) h'):C.mN a l c h K:=by
 have hb:=B.1;refine mN.ok (aC.intro λh2 n2=>aC.intro λh3 n3=>?_);have s2:=n2.size;have s3:=n3.size;have F3:=n2.fr.new n3;have r3:rd h3 h.size=[vS a l c]:=(n3.at_).trans n2.rd;have w3:dA h3 h2.size:=n3.own;have l3:(rd h3 h2.size).length=15:=by rw[n3.rd];rfl
 have g3:=g.no F3;have B3:=av.fr F3 B λ_ _ x=>x;refine⟨_,_,_,dC r3 rfl,cn (λhl=>?_) λhl=>?_⟩
 ·have e:tH bs=(rG,32):=by rw[tH,if_pos oX]
  rw[e]at hK;exact jT F3 oX w3 l3 hK
 have hl:l=64:=oX;have aeI:bs.length=64:=oX
 have gg:∀{hq:ad} {K:KT} (at_ n:Int),Fr No h3 hq->(n=1∨n=2∨n=4)->0<=at_->at_+n<=64->K (vI (kL bs at_.toNat n.toNat:Nat)) hq->C.dg at_ n (some (bA h)) hq K:=λat_ n fq h1 h2 h4 hk=>
  Xy (g3.no fq) (av.fr fq B3 λ_ _ x=>x) oX ((fq.rd oX λx=>x).trans r3) h1 h2 oX hk
 refine gg 0 1 (Fr.refl _ _) oX oX oX ⟨_,rfl,gg 2 2 (Fr.refl _ _) oX oX oX ⟨_,rfl,gg 4 4 (Fr.refl _ _) oX oX oX ⟨_,rfl,gg 48 4 (Fr.refl _ _) oX oX oX ⟨_,rfl,gg 52 4 (Fr.refl _ _) oX oX oX ⟨_,rfl,?_⟩⟩⟩⟩⟩;have gl:=oI bs;have e11:([vI (kL bs (Int.toNat 0) (Int.toNat 1):Nat),vI (kL bs (Int.toNat 2) (Int.toNat 2):Nat),vI (kL bs (Int.toNat 4) (Int.toNat 4):Nat),vI 0,vI 0,vI 0,vI 0,vI 0,vI 0,vI 0,vI 0,vI 0,vI 0,vI (kL bs (Int.toNat 48) (Int.toNat 4):Nat),vI (kL bs (Int.toNat 52) (Int.toNat 4):Nat)]:LV)
   = ints ((mD bs).take 3++(List.replicate 10 0++(mD bs).drop 13)):=rfl
 rw[e11];refine aF.intro (by rw[aj];rfl) (aO _) rfl λcu n11=>?_;have E2:=n11.size
 refine⟨λn hh=>0<=n/\n<=10/\Fr No h3 hh/\h3.size<hh.size/\dA hh h3.size/\rd hh h3.size=ints ((mD bs).take (3+n.toNat)++(List.replicate (10-n.toNat) 0++(mD bs).drop 13)),λn _=>((10:Nat)-n).toNat,
  ⟨oX,oX,n11.fr,oX,n11.own,n11.rd⟩,?_⟩
 rintro n bf ⟨n0,n1,f12,H5,w12,EM⟩
 have rl12:(rd bf h3.size).length=15:=by
  rw[EM,aj,bg,bg,dL,dU,jM,gl];omega
 refine cd (λhn=>?_) λhn=>?_
 ·have hn:n<10:=hn;rw[wq (4*n),wq (8+4*n),wq (n+1)];refine gg (8+4*n) 4 f12 oX oX oX ⟨_,rfl,⟨n0,hn⟩,?_⟩;rw[eA];refine bD.add w12 oX λcX d14=>⟨⟨oX,oX,f12.did d14 λbV=>oX,by have:=d14.size;omega,d14.own,?_⟩,bW (m:=10) hn⟩;have hi:3+n.toNat<(mD bs).length:=oX
  have eg:(mD bs)[3+n.toNat]=(kL bs (8+4*n).toNat (Int.toNat 4):Nat):=by
   rw[Cu bs oX hi,show(8+4*n).toNat=8+4*n.toNat by omega];rfl
  have:=NJ (mD bs) 0 ((mD bs).drop 13) (3+n.toNat) (10-n.toNat) hi oX;rw[eg]at this;rw[d14.rd,EM,show 0+3+n.toNat=3+n.toNat by omega,show 3+(n+1).toNat=3+n.toNat+1 by omega,show 10-(n+1).toNat=10-n.toNat-1 by omega,<-this,ints,ints,yG]
 ·have hn:¬n<10:=hn;have en:n.toNat=10:=oX;rw[en]at EM
  have EM:rd bf h3.size=ints (mD bs):=by
   rw[EM];show ints ((mD bs).take 13++([]++(mD bs).drop 13))=_;rw[tP,qP]
  have ah7:rd bf h.size=[vS a l c]:=(f12.rd oX λx=>x).trans r3;have κ:=av.fr f12 B3 λ_ _ x=>x;have Xz:dA bf h2.size:=f12.own w3.lt (λx=>x) w3;have l12:(rd bf h2.size).length=15:=by rw[f12.rd w3.lt λx=>x];exact l3
  have Dw:=F3.no f12;refine⟨_,_,_,dC ah7 rfl,zn κ CS oX oX oX oX ⟨_,_,rfl,_,_,_,dC ah7 rfl,zn κ CS oX oX oX oX ⟨_,_,rfl,?_⟩⟩⟩;have ec:clean bs=(im ((bs.drop (Int.toNat 1)).take (Int.toNat 1)) && im ((bs.drop (Int.toNat 56)).take (Int.toNat 8))):=rfl
  have bad:uN bs=false->∀h',Fr No h h'->K (.tuple #[.agg ⟨ints rG⟩,vI 111]) h':=λe h' f=>by
   have:=hK h' f;rw[tH,if_neg oX,e]at this;exact this
  refine iu ?_
  cases h1:im ((bs.drop (Int.toNat 1)).take (Int.toNat 1))with
  | false=>exact jT Dw oX Xz l12 (bad (by rw[uN,ec,h1];rfl))
  | true=>
   refine ct rfl (iu ?_)
   cases xR:im ((bs.drop (Int.toNat 56)).take (Int.toNat 8))with
   | false=>exact jT Dw oX Xz l12 (bad (by rw[uN,ec,h1,xR];rfl))
   | true=>
    refine ct rfl ⟨ints (mD bs),by rw[aj,gl],ah EM,wB gl λeX f19=>⟨_,rfl,iu ?_⟩⟩;have s19:=f19.size;have w19:dA eX h2.size:=f19.own Xz.lt (λx=>x) Xz;have l19:(rd eX h2.size).length=15:=(by rw[f19.rd Xz.lt λx=>x];exact l12);have r19:rd eX h3.size=ints (mD bs):=(f19.rd w12.lt λx=>x).trans EM
    cases hm:qH (mD bs)with
    | false=>exact jT (Dw.no f19) oX w19 l19 (bad (by rw[uN,hm,yH]))
    | true=>
     refine ct rfl (J6 gl (Dw.no f19) oX w19 l19 r19 λh' f=>?_);have:=hK h' f;rw[tH,if_neg oX,show uN bs=true by rw[uN,ec,h1,xR,hm];rfl]at this;exact this
end In
namespace Bm
open Hp W Ad Tm Spc Re Av
open Hd (ints wrap_u64)
open In (lT aj aO)
def Lz(s:Nat×Nat):LV:=[vI s.1,vI s.2]
def pP(t:OA)(g:G)(R:List Int):LV:=vP t::(g.v++ints R)
theorem Uw{g:G}{i:Nat}(hi:i<R.length):(pP t g R)[6+i]?=some (vI (R.getD i 0)):=by
 rw[Nat.add_comm 6 i];show(ints R)[i]?=_;rw[ints,jH,gh,fg hi];rfl
theorem Ux(t:OA)(g:G)(R:List Int)(i:Nat)(v:Int):(pP t g R).set (6+i) (vI v)=pP t g (R.set i v):=by
 rw[Nat.add_comm 6 i];show vP t :: vI g.blocks :: vI g.cO :: vI g.eO :: vI g.data :: vI g.count::(ints R).set i (vI v)=_;have e:ints (R.set i v)=(ints R).set i (vI v):=by rw[ints,ints,yG]
 unfold pP;rw[e];rfl
theorem Uy{g:G}(h:R.length=15):(pP t g R).length=21:=by
 unfold pP;rw[pA,bg,aj,h];rfl
theorem ab9{i:Nat}{v:Value}(e:rd h b=xs)(hv:xs[i+j]?=some v):cellOf h (Addr.add (Addr.add ⟨b,0,none⟩ i) j)=some v:=by
 rw[eA,eA,nj,e,wR];exact hv
theorem uj{fb:Nat}{g:G}{v:Int}(e:rd h fb=pP t g R)(hK:K (vI (iK g v)) h):C.kI (some ⟨fb,0,none⟩) v h K:=by
 refine kI.ok (os ⟨g.data,ab9 e rfl,cd (λy=>?_) λy=>os ⟨g.blocks,ab9 e rfl,cd (λy2=>?_) λy2=>?_⟩⟩)
 ·have:iK g v=100:=by unfold iK;rw[if_pos (.inl y)]
  rw[this]at hK;exact hK
 ·have:iK g v=100:=by unfold iK;rw[if_pos (.inr y2)]
  rw[this]at hK;exact hK
 ·have:iK g v=0:=by unfold iK;rw[if_neg oX]
  rw[this]at hK;exact hK
theorem NL(h0:0<=k)(h1:k<16522)
  (hK:∀h',Fr No h h'->h.size<h'.size->rd h' h.size=(fT k.toNat).flatMap Lz->K (vS (some (bA h)) (fT k.toNat).length (fT k.toNat).length) h'):C.uD k h K:=by
 have cast:((k.toNat:Nat):Int)=k:=oX;refine uD.ok (cd (λy=>⟨rfl,aC.intro λh2 n2=>?_⟩) λy=>cd (λy2=>⟨rfl,rfl,aC.intro λh2 n2=>?_⟩) λy2=>⟨rfl,rfl,rfl,aC.intro λh2 n2=>?_⟩)
 ·have e:fT k.toNat=[(0,k.toNat)]:=by unfold fT;rw[if_pos oX]
  rw[e]at hK;refine hK h2 n2.fr n2.own.lt (n2.rd.trans ?_);show _=[vI ((0:Nat):Int),vI ((k.toNat:Nat):Int)];rw[cast];rfl
 ·have e:fT k.toNat=[(1,0),(3,k.toNat-10)]:=by unfold fT;rw[if_neg oX,if_pos oX]
  rw[e]at hK;refine hK h2 n2.fr n2.own.lt (n2.rd.trans ?_);show _=[vI ((1:Nat):Int),vI ((0:Nat):Int),vI ((3:Nat):Int),vI ((k.toNat-10:Nat):Int)];rw[wrap_i64 oX oX,show((k.toNat-10:Nat):Int)=k-10 by omega];rfl
 ·have e:fT k.toNat=[(2,0),(3,(k.toNat-138)/128),(3,(k.toNat-138)%128)]:=by unfold fT;rw[if_neg oX,if_neg oX]
  rw[e]at hK;refine hK h2 n2.fr n2.own.lt (n2.rd.trans ?_);show _=[vI ((2:Nat):Int),vI ((0:Nat):Int),vI ((3:Nat):Int),vI (((k.toNat-138)/128:Nat):Int),vI ((3:Nat):Int),vI (((k.toNat-138)%128:Nat):Int)];have e1:Int.tdiv (k-138) 128=(((k.toNat-138)/128:Nat):Int):=by rw[nL oX];omega
  have e2:Int.tmod (k-138) 128=(((k.toNat-138)%128:Nat):Int):=by rw[rL oX];omega
  rw[wq (k-138),e1,e2,wrap_i64 oX oX];rfl
def Cv(s:Nat×Nat):Prop:=s.1=0/\s.2<10∨s.1=1∨s.1=2∨s.1=3/\s.2<128
theorem LA{k:Nat}(h:k<16522):∀s∈fT k,Cv s:=by
 unfold fT Cv;intro s hs
 split at hs
 ·simp at hs;subst hs;exact .inl ⟨rfl,by assumption⟩
 ·split at hs
  ·simp at hs;rcases hs with rfl|rfl
   ·exact .inr (.inl rfl)
   ·exact .inr (.inr (.inr ⟨rfl,by simp only;omega⟩))
  ·simp at hs;rcases hs with rfl|rfl|rfl
   ·exact .inr (.inr (.inl rfl))
   ·exact .inr (.inr (.inr ⟨rfl,by simp only;omega⟩))
   ·exact .inr (.inr (.inr ⟨rfl,by simp only;omega⟩))
def Dx(s:Nat×Nat):Nat:=if s.1=0 then 3+s.2 else if s.1=1 then 13 else 14
theorem Sh{s:Nat×Nat}(hs:Cv s):Dx s<15:=by
 unfold Dx
 rcases hs with⟨h1,h2⟩|h1|h1|⟨h1,_⟩
 ·rw[if_pos h1];omega
 ·rw[if_neg oX,if_pos h1];decide
 ·rw[if_neg oX,if_neg oX];decide
 ·rw[if_neg oX,if_neg oX];decide
theorem NM{fb:Nat}{s:Nat×Nat}(hs:Cv s)(hK:∀ h',Fr No h h'->K (vP (some ⟨fb,6+Dx s,none⟩)) h'):C.kf (some ⟨fb,0,none⟩) (Lz s) h K:=by
 refine kf.ok (aC.intro λh2 n2=>⟨_,aZ n2.rd rfl,ce (λy=>⟨_,aZ n2.rd rfl,os ⟨⟨oX,?_⟩,?_⟩⟩) λy=>ce (λy2=>os ?_) λy2=>os ?_⟩)
 ·rcases hs with⟨_,h2⟩|h1|h1|⟨h1,_⟩ <;> omega
 ·have e:Dx s=3+s.2:=by unfold Dx;rw[if_pos oX]
  have hK:=hK h2 n2.fr;rw[eA,eA,eA,cA];rw[e]at hK;rw[show 0+6+3+s.2=6+(3+s.2) by omega];exact hK
 ·have e:Dx s=13:=by unfold Dx;rw[if_neg oX,if_pos oX]
  have hK:=hK h2 n2.fr;rw[e]at hK;rw[eA,eA];exact hK
 ·have e:Dx s=14:=by unfold Dx;rw[if_neg oX,if_neg oX]
  have hK:=hK h2 n2.fr;rw[e]at hK;rw[eA,eA];exact hK
theorem XA{T:TM}{s:Nat×Nat}{a:Int}(hs:Cv s)(h:s.1≠3):iI T R s a=(R.getD (Dx s) 0,[],0):=by
 unfold iI Dx
 rcases hs with⟨h1,_⟩|h1|h1|⟨h1,_⟩
 ·rw[if_pos h1,if_pos h1]
 ·rw[if_neg oX,if_pos h1,if_neg oX,if_pos h1]
 ·rw[if_neg oX,if_neg oX,if_pos h1,if_neg oX,if_neg oX]
 ·exact absurd h1 h
theorem XB{T:TM}{s:Nat×Nat}{a:Int}(h:s.1=3):iI T R s a=if(T.read a).2≠0 then((0:Int),([]:cC),(T.read a).2)else(((oG (T.read a).1 s.2:Nat):Int),(T.read a).1,(0:Int)):=by
 unfold iI;rw[if_neg oX,if_neg oX,if_neg oX]
theorem lA{T:TM}{g:G}{fb:Nat}{s:Nat×Nat}{a:Int}(gl:In.lT h)(x:Tx h F t d T)(e:rd h fb=pP t g R)(hR:R.length=15)(hs:Cv s)
  (hK:∀sa sl sc h',Fr No h h'->sl=(iI T R s a).2.1.length->Sl h' 1 sa sl sc ((iI T R s a).2.1.map bv) (cW h.size)->K (.tuple #[vI (iI T R s a).1,vS sa sl sc,vI (iI T R s a).2.2]) h'):C.iT (some ⟨fb,0,none⟩) (Lz s) a h K:=by
 have fl:fb<h.size:=pE (o:=0) (by rw[e];rfl);refine iT.ok (aC.intro λh2 n2=>⟨_,aZ n2.rd rfl,cn (λy=>⟨Lz s,rfl,ah n2.rd,NM hs λh3 f3=>⟨_,rfl,os ?_⟩⟩) λy=>os ?_⟩)
 ·rw[XA hs oX]at hK;have F3:=n2.fr.no f3;refine⟨_,dC ((F3.rd fl λy=>y).trans e) (Uw (by rw[hR];exact Sh hs)),hK none 0 0 h3 F3 rfl (Sl.nil _ _ _)⟩
 ·have OJ:s.1=3:=oX;have DQ:s.2<128:=by rcases hs with⟨h1,_⟩|h1|h1|⟨_,h2⟩ <;> omega
  rw[XB OJ]at hK;refine⟨t,aZ ((n2.at_ fl).trans e) rfl,Tm.dv (x.no n2.fr) λsa sl sc h4 f4 el s4=>⟨_,_,_,_,rfl,cn (λhe=>?_) λhe=>?_⟩⟩
  ·rw[if_pos he]at hK;exact hK none 0 0 h4 (n2.fr.no f4) rfl (Sl.nil _ _ _)
  ·rw[if_neg (λy=>y he)]at hK;have hlen:(T.read a).1.length=512:=Tx.lv x he;have F4:=n2.fr.no f4;have z2:=n2.size;refine⟨_,aZ ((f4.rd n2.own.lt λy=>y).trans n2.rd) rfl,?_⟩;rw[wq (4*(s.2:Int))];refine In.Sf (gl.no F4) s4.str oX (.inr (.inr (.inl rfl))) oX oX ⟨_,_,rfl,?_⟩
   have en:py (((T.read a).1.drop (4*(s.2:Int)).toNat).take (Int.toNat 4))=oG (T.read a).1 s.2:=by
    unfold oG;rw[show(4*(s.2:Int)).toNat=4*s.2 by omega];rfl
   rw[en];have lt:=Cm (T.read a).1 s.2;rw[wrap_i64 oX oX];exact hK sa sl sc h4 F4 el (s4.mono λb hb=>by have:h2.size<=b:=hb;show h.size<=b;omega)
theorem Hg{T:TM}{s:Nat×Nat}{a v:Int}{b:cC}(hs:Cv s)(h:s.1≠3):oH T R s a b v=((T,R.set (Dx s) v),0):=by
 unfold oH Dx
 rcases hs with⟨h1,_⟩|h1|h1|⟨h1,_⟩
 ·rw[if_pos h1,if_pos h1]
 ·rw[if_neg oX,if_pos h1,if_neg oX,if_pos h1]
 ·rw[if_neg oX,if_neg oX,if_pos h1,if_neg oX,if_neg oX]
 ·exact absurd h1 h
theorem Qa{T:TM}{s:Nat×Nat}{a v:Int}{b:cC}(h:s.1=3):oH T R s a b v=(((T.write a (tG b s.2 v.toNat)).1,R),(T.write a (tG b s.2 v.toNat)).2):=by
 unfold oH;rw[if_neg oX,if_neg oX,if_neg oX]
theorem wE{T:TM}{s:Nat×Nat}{a v:Int}{b:cC}(hs:Cv s)(hR:R.length=15):(oH T R s a b v).1.2.length=15:=by
 by_cases h:s.1=3
 ·rw[Qa h];exact hR
 ·rw[Hg hs h];show(R.set _ _).length=15;rw[pL];exact hR
theorem Si(s:Sl h ec a l c xs F):Sl h ec a l c xs (λb=>F b/\b<h.size):=by
 obtain⟨h1,h2⟩:=s;refine⟨h1,?_⟩
 cases a with
 | none=>exact h2
 | some p=>exact⟨h2.1,⟨h2.2.1,h2.2.2.1.lt⟩,h2.2.2.1,h2.2.2.2.1,h2.2.2.2.2⟩
theorem lC(T:TM)(i:Int)(bs:cC):(T.write i bs).1.aD.length<=T.aD.length+1:=by
 by_cases h:(T.write i bs).2=0
 ·obtain⟨_,_,_,_,_,ew⟩:=TM.Cb h;rw[ew];show(T.aD++[_]).length<=_;rw[bg];exact bE _
 ·rw[TM.zy h];exact kM _ _
theorem aaj{T:TM}{s:Nat×Nat}{a v:Int}{b:cC}(hs:Cv s):(oH T R s a b v).1.1.aD.length<=T.aD.length+1:=by
 by_cases h:s.1=3
 ·rw[Qa h];exact lC _ _ _
 ·rw[Hg hs h];exact kM _ _
theorem Dy(T:TM)(g:G)(i:Nat)(on:Bool):(df T g i on).1.aD.length<=T.aD.length+1:=by
 unfold df
 split
 ·exact kM _ _
 ·exact lC _ _ _
theorem wF(T:TM)(g:G):(bj T g).1.aD.length<=T.aD.length+2:=by
 unfold bj
 split
 ·unfold kN
  split
  ·exact kM _ _
  ·split
   ·exact kM _ _
   ·exact k9 (lC _ _ _) (Nat.succ_le_succ (Dy _ _ _ _))
 ·exact kM _ _
theorem Uz(T:TM)(g:G):0<=(bj T g).2.1/\((bj T g).2.1=0∨(bj T g).2.1<g.blocks):=by
 unfold bj
 split
 ·rename_i m hm;have hm:=List.mem_of_find?_eq_some hm;rw[TJ]at hm;unfold kN
  split
  ·exact⟨th _,.inl rfl⟩
  ·split
   ·exact⟨th _,.inl rfl⟩
   ·exact⟨abV _,.inr (by show(m:Int)<_;omega)⟩
 ·exact⟨th _,.inl rfl⟩
theorem yN{T:TM}{g:G}{fb lo:Nat}{s:Nat×Nat}{a v:Int}{b:cC}(gl:In.lT h)(x:Tx h F t d T)(e:rd h fb=pP t g R)(fo:dA h fb)(hR:R.length=15)(hs:Cv s)
  (hf:¬F fb) (hu:T.aD.length<1000000000) (hv:0<=v/\v<4294967296) (hb:s.1=3->b.length=512/\Sl h 1 sa sl sc (b.map bv) (λy=>lo<=y/\¬F y/\y≠fb))
  (hK:∀h' F',Fr (λy=>F y∨y=fb∨lo<=y) h h'->Gw h F h' F'->Tx h' F' t d (oH T R s a b v).1.1->rd h' fb=pP t g (oH T R s a b v).1.2->dA h' fb->K (vI (oH T R s a b v).2) h'):C.lP (some ⟨fb,0,none⟩) (Lz s) a sa sl sc v h K:=by
 have fl:=fo.lt;have vv:=λy (hy:F y)=>x.lt hy;refine lP.ok (aC.intro λh2 n2=>⟨_,aZ n2.rd rfl,cn (λy=>⟨Lz s,rfl,ah n2.rd,NM hs λh3 f3=>⟨_,rfl,os ?_⟩⟩) λy=>?_⟩)
 ·rw[Hg hs oX]at hK;have F3:=n2.fr.no f3;have r3:rd h3 fb=_:=(F3.rd fl λy=>y).trans e;have hi:=Sh hs;refine bD.intro (F3.own fl (λy=>y) fo) (by rw[r3,Uy hR];omega) λh4 d4=>?_;rw[r3,Ux]at d4;have F4:Fr (λy=>F y∨y=fb∨lo<=y) h h4:=(F3.mono λ_ _ y=>y.elim).did d4 λ_=>.inr (.inl rfl);exact hK h4 F F4 (Gw.refl F4.size vv) ((x.no F3).fr d4.fr λc hc y=>hf (by have y:c=fb:=y;rw[<-y];exact hc)) d4.rd d4.own
 ·have OJ:s.1=3:=oX;have DQ:s.2<128:=by rcases hs with⟨h1,_⟩|h1|h1|⟨_,h2⟩ <;> omega
  rw[Qa OJ]at hK;obtain⟨lb,S⟩:=hb OJ;have z2:=n2.size;have ll:sl=512:=by have:=S.1;rw[aP]at this;omega
  subst ll;obtain⟨⟨pb,po,sp⟩,ep,_⟩:=S.get dX;subst ep;have Xo:sp=none:=S.2.1;subst Xo;have k1:=S.2.2.1;have k1:lo<=pb/\¬F pb/\pb≠fb:=k1;have pl:=S.lt;have pl:pb<h.size:=pl;refine⟨_,aZ n2.rd rfl,?_⟩;rw[wq (4*(s.2:Int)),wrap_u64 (n:=v) hv.1 oX,show v=((v.toNat:Nat):Int) by omega];refine In.NG (gl.no n2.fr) (S.fr n2.fr λ_ _ _ y=>y) dX (.inr (.inr rfl)) oX oX (by show _<256 ^ 4;omega) λh5 f5 s5=>⟨_,rfl,os ?_⟩;have z5:=f5.size
  have e5:kX b (4*(s.2:Int)).toNat (bo (Int.toNat 4) v.toNat)=tG b s.2 v.toNat:=by
   unfold tG;rw[show(4*(s.2:Int)).toNat=4*s.2 by omega];rfl
  rw[e5]at s5;have F5:Fr (λy=>y=pb) h h5:=(n2.fr.mono λ_ _ y=>y.elim).trans f5 λ_ _ y=>y;have r5:rd h5 fb=_:=(F5.rd fl λy=>k1.2.2 y.symm).trans e;have x5:Tx h5 F t d T:=x.fr F5 λc hc y=>k1.2.1 (by have y:c=pb:=y;rw[<-y];exact hc);refine⟨t,aZ r5 rfl,Tm.fp x5 s5.str dX (λp e y=>?_) hu λh6 F' f6 g6 x6=>⟨_,rfl,?_⟩⟩
  ·cases e;exact k1.2.1 y
  ·refine hK h6 F' ((F5.mono λc _ y=>?_).trans f6 λc _ y=>.inl y) ((Gw.refl F5.size vv).trans g6 F5.size) x6 ((f6.rd oX hf).trans r5) (f6.own oX hf (F5.own fl (λy=>k1.2.2 y.symm) fo));have y:c=pb:=y;rw[y];exact .inr (.inr k1.1)
theorem LC{s:LV}{a:Int}(hK:∀ h',Fr No h h'->K (.tuple #[vI 0,vI 0]) h'):C.oT s a sa sl sc h K:=
 oT.ok (aC.intro λh2 n2=>hK h2 n2.fr)
theorem NN{l:List (Nat×Nat)}(e:rd h b=l.flatMap Lz){j:Nat}(hj:j<l.length):ai h (Addr.add ⟨b,0,none⟩ (j*2)) (Lz l[j]):=by
 have c:ai h ⟨b,0,none⟩ (l.flatMap Lz):=ah e;have:=ai.take (ai.drop c (j*2)) 2;rw[kv Lz 2 l (λ_ _=>rfl) j hj]at this;exact this
theorem drop_cons{α:Type}{l:List α}(h:j<l.length):l.drop j=l[j]::l.drop (j+1):=lh h
theorem Qb(T:TM)(g:G)(R:List Int)(s:Nat×Nat)(r:List (Nat×Nat))(a:Int):pO T g R (s::r) a=if(iI T R s a).2.2≠0 then(0,(iI T R s a).2.2)else if(iI T R s a).1=0 then(0,0)else
   if iK g (iI T R s a).1≠0 then(0,iK g (iI T R s a).1)else pO T g R r (iI T R s a).1:=rfl
theorem XC(s:Nat×Nat):∀v∈Lz s,v.oneCell'=true:=agS rfl rfl
theorem Qc{T:TM}{g:G}{fb:Nat}(gl:In.lT h)(x:Tx h F t d T)(e:rd h fb=pP t g R)(hR:R.length=15)(h0:0<=k)(h1:k<16522)
  (hK:∀h',Fr No h h'->K (.tuple #[vI (pO T g R (fT k.toNat) 0).1,vI (pO T g R (fT k.toNat) 0).2]) h'):C.bY (some ⟨fb,0,none⟩) k (Value.func (.func 123) #[] ⟨[]⟩) h K:=by
 have fl:fb<h.size:=pE (o:=0) (by rw[e];rfl);refine bY.ok (NL h0 h1 λh2 f2 l2 rw2=>⟨_,_,_,rfl,?_⟩);have ue:=LA (k:=k.toNat) oX
 have hwl:(fT k.toNat).length<=3:=by
  unfold fT
  split
  ·simp
  ·split <;> simp
 generalize fT k.toNat=w at hK rw2 ue hwl;refine⟨λa i hh=>∃j:Nat,i=j/\j<=w.length/\Fr No h2 hh/\pO T g R (w.drop j) a=pO T g R w 0,λ_ i _=>((w.length:Int)-i).toNat,⟨0,rfl,bN _,Fr.refl _ _,by rw[mW]⟩,?_⟩;rintro a i h3 ⟨j,rfl,hj,f3,ew⟩;refine cd (λhl=>?_) λhl=>?_
 ·have rA:j<w.length:=oX;rw[drop_cons rA,Qb]at ew;have F3:=f2.no f3;have hs:=ue _ (ff rA);have z3:=f3.size;rw[cA];refine⟨⟨oX,hl⟩,os ⟨Lz w[j],rfl,NN ((f3.rd l2 λy=>y).trans rw2) rA,aF.intro rfl (XC _) rfl λh5 n5=>⟨Lz w[j],rfl,ah n5.rd,?_⟩⟩⟩;have F5:=F3.new n5;refine lA (gl.no F5) (x.no F5) ((F5.rd fl λy=>y).trans e) hR hs λsa sl sc h6 f6 el s6=>⟨_,_,_,_,_,rfl,?_⟩;have F6:=F5.no f6;have z5:=n5.size;have z6:=f6.size;have wr:wI ((j:Int)+1)=((j+1:Nat):Int):=by rw[wrap_i64 oX oX];omega
  have go:∀h8,Fr No h3 h8->∀(nu er:Int),(if er≠0 then((0:Int),er)else if nu=0 then(0,0)else if iK g nu≠0 then(0,iK g nu)else pO T g R (w.drop (j+1)) nu)=pO T g R w 0->
    bY.k1 (some ⟨fb,0,none⟩) a (j:Int) h3 (λa i hh=>∃j:Nat,i=j/\j<=w.length/\Fr No h2 hh/\pO T g R (w.drop j) a=pO T g R w 0) (λ_ i _=>((w.length:Int)-i).toNat) nu er h8 K:=λh8 f8 nu er e8=>by
   have F8:=F3.no f8;unfold bY.k1;refine cn (λy=>?_) λy=>ce (λy2=>?_) λy2=>?_
   ·rw[if_pos y]at e8;rw[<-e8]at hK;exact hK h8 F8
   ·rw[if_neg (λz=>z y),if_pos y2]at e8;rw[<-e8]at hK;exact hK h8 F8
   ·rw[if_neg (λz=>z y),if_neg y2]at e8;refine uj ((F8.rd fl λy=>y).trans e) ⟨_,rfl,cn (λy3=>?_) λy3=>?_⟩
    ·rw[if_pos y3]at e8;rw[<-e8]at hK;exact hK h8 F8
    ·rw[if_neg (λz=>z y3)]at e8;rw[wr];exact⟨⟨j+1,rfl,rA,f3.no f8,e8⟩,by show((w.length:Int)-((j+1:Nat):Int)).toNat<((w.length:Int)-(j:Int)).toNat;omega⟩
  have YV:Fr No h3 h6:=n5.fr.no f6;refine ce (λy=>ce (λy2=>?_) λy2=>go h6 YV _ _ ew) λy=>go h6 YV _ _ ew;rw[if_neg (λz=>z y),if_pos y2]at ew;refine⟨Lz w[j],rfl,ah ((f6.rd n5.own.lt λy=>y).trans n5.rd),LC λh7 f7=>⟨_,_,rfl,go h7 (YV.no f7) 0 0 ?_⟩⟩;rw[if_neg (λz=>z rfl),if_pos rfl];exact ew
 ·have ej:j=w.length:=oX;subst ej;rw[xG]at ew;have ew:(a,(0:Int))=pO T g R w 0:=ew;rw[<-ew]at hK;exact hK h3 (f2.no f3)
theorem qy{T:TM}{g:G}(gl:In.lT h)(x:Tx h F t d T)(hR:R.length=15)
  (hK:∀h',Fr No h h'->K (.tuple #[vI (bT T g R k).1,vI (bT T g R k).2]) h'):C.nk t g.v (ints R) k h K:=by
 refine nk.ok (aC.intro λh2 n2=>aC.intro λh3 n3=>cd (λy=>?_) λy=>cd (λy2=>?_) λy2=>?_)
 ·have e:bT T g R k=(0,101):=by unfold bT;rw[if_pos (.inl y)]
  rw[e]at hK;exact hK h3 (n2.fr.new n3)
 ·have e:bT T g R k=(0,101):=by unfold bT;rw[if_pos (.inr y2)]
  rw[e]at hK;exact hK h3 (n2.fr.new n3)
 ·have e:bT T g R k=pO T g R (fT k.toNat) 0:=by unfold bT;rw[if_neg oX]
  rw[e]at hK;unfold nk.k1;refine⟨g.v,rfl,ah ((n3.at_ n2.own.lt).trans n2.rd),ints R,by rw[aj,hR],ah n3.rd,rfl,by rw[aj,hR],aC.intro λh4 n4=>?_⟩;have F4:=(n2.fr.new n3).new n4;exact Qc (gl.no F4) (x.no F4) n4.rd hR oX oX λh5 f5=>⟨_,_,rfl,hK h5 (F4.no f5)⟩
def tw(T:TM)(g:G)(R:List Int)(s:Nat×Nat)(a:Int)(b:cC):(TM×List Int)×Int×Int:=
 if(bj T g).2.2≠0 then(((bj T g).1,R),0,(bj T g).2.2)else((oH (bj T g).1 R s a b (bj T g).2.1).1,(bj T g).2.1,(oH (bj T g).1 R s a b (bj T g).2.1).2)
def An(g:G)(TR:TM×List Int)(nu er:Int)(go:TM->List Int->Int->(TM×List Int)×Int×Int):(TM×List Int)×Int×Int:=
 if er≠0 then(TR,0,er)else if nu=0 then(TR,0,0)else if iK g nu≠0 then(TR,0,iK g nu)else go TR.1 TR.2 nu
theorem Hh(g:G)(s:Nat×Nat)(r:List (Nat×Nat))(T:TM)(R:List Int)(a:Int):cM g (s::r) T R a =
  if(iI T R s a).2.2=0/\(iI T R s a).1=0 then An g (tw T g R s a (iI T R s a).2.1).1 (tw T g R s a (iI T R s a).2.1).2.1 (tw T g R s a (iI T R s a).2.1).2.2 (cM g r)
   else An g (T,R) (iI T R s a).1 (iI T R s a).2.2 (cM g r):=by
 by_cases h1:(iI T R s a).2.2=0
 ·by_cases h2:(iI T R s a).1=0
  ·by_cases h3:(bj T g).2.2=0
   ·simp[cM,An,tw,h1,h2,h3]
   ·simp[cM,An,tw,h1,h2,h3]
  ·simp[cM,An,h1,h2]
 ·simp[cM,An,h1]
theorem UA{T:TM}{g:G}{s:Nat×Nat}{a:Int}{b:cC}(hs:Cv s)(hR:R.length=15):(tw T g R s a b).1.2.length=15:=by
 unfold tw
 split
 ·exact hR
 ·exact wE hs hR
theorem NO{T:TM}{g:G}{s:Nat×Nat}{a:Int}{b:cC}(hs:Cv s):(tw T g R s a b).1.1.aD.length<=T.aD.length+3:=by
 have h2:=wF T g;unfold tw
 split
 ·exact Nat.le_succ_of_le h2
 ·have:=aaj (T:=(bj T g).1) (R:=R) (a:=a) (v:=(bj T g).2.1) (b:=b) hs;exact k9 this oX
structure Cap(h:ad)(tb gb pb fb:Nat)(t:OA)(g:G):Prop where
 t:rd h tb=[vP t]
 g:rd h gb=g.v
 p:rd h pb=[vP (some ⟨fb,0,none⟩)]
theorem Cap.lt{fb:Nat}{g:G}(c:Cap h tb gb pb fb t g):tb<h.size/\gb<h.size/\pb<h.size:=
 ⟨pE (o:=0) (by rw[c.t];rfl),pE (o:=0) (by rw[c.g];rfl),pE (o:=0) (by rw[c.p];rfl)⟩
theorem Cap.fr{fb:Nat}{g:G}{G':NP}(c:Cap h tb gb pb fb t g)(f:Fr G' h h')(h1:¬ G' tb)(h2:¬ G' gb)(h3:¬ G' pb):Cap h' tb gb pb fb t g:=by
 obtain⟨l1,l2,l3⟩:=c.lt;exact⟨(f.rd l1 h1).trans c.t,(f.rd l2 h2).trans c.g,(f.rd l3 h3).trans c.p⟩
theorem UB{T:TM}{n:Nat}{fb lo:Nat}{s:Nat×Nat}{a:Int}{b:cC}(gl:In.lT h)(dm:zV n)(x:Tx h F t d T)(e:rd h fb=pP t (af n) R)(fo:dA h fb)(hR:R.length=15)(hs:Cv s)
  (cp:Cap h tb gb pb fb t (af n)) (hf:¬F fb/\¬F tb/\¬F gb/\¬F pb) (g0:∀b,b<1->¬F b) (hu:T.aD.length<800000000) (hb:s.1=3->b.length=512/\Sl h 1 sa sl sc (b.map bv) (λy=>lo<=y/\¬F y/\y≠fb))
  (hK:∀h' F',Fr (λy=>F y∨y=fb∨lo<=y) h h'->Gw h F h' F'->Tx h' F' t d (tw T (af n) R s a b).1.1->rd h' fb=pP t (af n) (tw T (af n) R s a b).1.2->dA h' fb->K (.tuple #[vI (tw T (af n) R s a b).2.1,vI (tw T (af n) R s a b).2.2]) h') :
  C.qu (Lz s) a sa sl sc (some ⟨tb,0,none⟩) (some ⟨gb,0,none⟩) (some ⟨pb,0,none⟩) h K:=by
 obtain⟨l1,l2,l3⟩:=cp.lt;have fl:=fo.lt;refine qu.ok (aC.intro λh2 n2=>os ⟨t,dC ((n2.at_ l1).trans cp.t) rfl,os ⟨(af n).v,rfl,ah ((n2.at_ l2).trans cp.g),?_⟩⟩);have z2:=n2.size;refine Xw (x.no n2.fr) dm oX λh3 F3 f3 g3 x3=>⟨_,_,rfl,?_⟩;have YW:Fr F h h3:=(n2.fr.mono λ_ _ y=>y.elim).trans f3 λ_ _ y=>y;have G03:Gw h F h3 F3:=(Gw.refl n2.fr.size λb hb=>x.lt hb).trans g3 n2.fr.size;have z3:=f3.size;have old:∀y,y<h.size->(F3 y↔F y):=G03.old;have hf3:¬F3 fb:=λy=>hf.1 ((old _ fl).mp y);have tu:=wF T (af n);have tr:=Uz T (af n);refine cn (λhe=>?_) λhe=>?_
 ·have eh:tw T (af n) R s a b=(((bj T (af n)).1,R),0,(bj T (af n)).2.2):=by unfold tw;rw[if_pos he]
  rw[eh]at hK;exact hK h3 F3 (YW.mono λ_ _ y=>.inl y) G03 x3 ((YW.rd fl hf.1).trans e) (YW.own fl hf.1 fo)
 ·have eh:tw T (af n) R s a b=((oH (bj T (af n)).1 R s a b (bj T (af n)).2.1).1,(bj T (af n)).2.1,(oH (bj T (af n)).1 R s a b (bj T (af n)).2.1).2):=by unfold tw;rw[if_neg (λy=>y he)]
  rw[eh]at hK;have rM:((af n).blocks:Int)<=16384:=by have:=dm.hi;show(n:Int)<=_;omega
  have ns:¬F h.size:=λy=>by have:=x.lt y;omega
  refine os ⟨_,dC ((YW.rd l3 hf.2.2.2).trans cp.p) rfl,Lz s,rfl,ah ((f3.rd n2.own.lt ns).trans n2.rd),?_⟩;refine yN (lo:=lo) (b:=b) (gl.fr YW g0) x3 ((YW.rd fl hf.1).trans e) (YW.own fl hf.1 fo) hR hs hf3 oX ⟨tr.1,oX⟩ (λL6=>?_) λh4 F4 f4 g4 x4 r4 o4=>⟨_,rfl,?_⟩
  ·obtain⟨lb,S⟩:=hb L6;exact⟨lb,((Si S).fr YW λy _ hy z=>hy.1.2.1 z).mono λy hy=>⟨hy.1.1,λz=>hy.1.2.1 ((old y hy.2).mp z),hy.1.2.2⟩⟩
  ·refine hK h4 F4 ((YW.mono λ_ _ y=>.inl y).trans f4 λy hy z=>?_) (G03.trans g4 YW.size) x4 r4 o4
   rcases z with z|z
   ·exact .inl ((old y hy).mp z)
   ·exact .inr z
theorem Qd{T:TM}{n:Nat}{fb:Nat}(gl:In.lT h)(dm:zV n)(x:Tx h F t d T)(e:rd h fb=pP t (af n) R)(fo:dA h fb)(hR:R.length=15)(h0:0<=k)(h1:k<16522)
  (cp:Cap h tb gb pb fb t (af n)) (hf:¬F fb/\¬F tb/\¬F gb/\¬F pb) (fP:tb≠fb/\gb≠fb/\pb≠fb) (g0:∀b,b<1->¬F b/\b≠fb) (hu:T.aD.length<700000000)
  (hK:∀h' F',Fr (λy=>F y∨y=fb) h h'->Gw h F h' F'->Tx h' F' t d (cM (af n) (fT k.toNat) T R 0).1.1->rd h' fb=pP t (af n) (cM (af n) (fT k.toNat) T R 0).1.2->dA h' fb->(cM (af n) (fT k.toNat) T R 0).1.2.length=15->(cM (af n) (fT k.toNat) T R 0).1.1.aD.length<=T.aD.length+9->
   K (.tuple #[vI (cM (af n) (fT k.toNat) T R 0).2.1,vI (cM (af n) (fT k.toNat) T R 0).2.2]) h') :
  C.bY (some ⟨fb,0,none⟩) k (Value.func (.func 199) #[] ⟨[vP (some ⟨tb,0,none⟩),vP (some ⟨gb,0,none⟩),vP (some ⟨pb,0,none⟩)]⟩) h K:=by
 have fl:=fo.lt;have vv:=λy (hy:F y)=>x.lt hy;refine bY.ok (NL h0 h1 λh2 f2 l2 rw2=>⟨_,_,_,rfl,?_⟩);have ue:=LA (k:=k.toNat) oX
 have hwl:(fT k.toNat).length<=3:=by
  unfold fT
  split
  ·simp
  ·split <;> simp
 generalize fT k.toNat=w at hK rw2 ue hwl;have z2:=f2.size
 refine⟨λa i hh=>∃(j:Nat) (F':NP) (T':TM) (R':List Int),i=j/\j<=w.length/\Fr (λy=>F y∨y=fb) h2 hh/\Gw h2 F hh F'/\Tx hh F' t d T'/\rd hh fb=pP t (af n) R'/\dA hh fb/\R'.length=15/\T'.aD.length<=T.aD.length+3*j/\cM (af n) (w.drop j) T' R' a=cM (af n) w T R 0,λ_ i _=>((w.length:Int)-i).toNat,
  ⟨0,F,T,R,rfl,bN _,Fr.refl _ _,Gw.refl (bE _) (λb hb=>mV (vv b hb) z2),x.no f2,(f2.rd fl λy=>y).trans e,f2.own fl (λy=>y) fo,hR,bE _,by rw[mW]⟩,?_⟩
 rintro a i h3 ⟨j,F',T',R',rfl,hj,f3,g3,x3,r3,o3,R3,u3,ew⟩;have z3:=f3.size;have f03:Fr (λy=>F y∨y=fb) h h3:=(f2.mono λ_ _ y=>y.elim).trans f3 λ_ _ y=>y;have UC:∀y,y<h2.size->(F' y↔F y):=g3.old;have G2:Gw h F h2 F:=Gw.refl z2 vv;refine cd (λhl=>?_) λhl=>?_
 ·have rA:j<w.length:=oX;rw[drop_cons rA,Hh]at ew;have hs:=ue _ (ff rA)
  have nP:¬(F h.size∨h.size=fb):=by
   rintro(y|y)
   ·have:=vv _ y;omega
   ·omega
  rw[cA];refine⟨⟨oX,hl⟩,os ⟨Lz w[j],rfl,NN ((f3.rd l2 nP).trans rw2) rA,aF.intro rfl (XC _) rfl λh5 n5=>⟨Lz w[j],rfl,ah n5.rd,?_⟩⟩⟩;have z5:=n5.size;have fl3:=o3.lt;have gl5:In.lT h5:=(gl.fr f03 λb hb y=>by rcases y with y|y;exact(g0 b hb).1 y;exact(g0 b hb).2 y).no n5.fr;refine lA gl5 (x3.no n5.fr) ((n5.at_ fl3).trans r3) R3 hs λsa sl sc h6 f6 el s6=>⟨_,_,_,_,_,rfl,?_⟩;have z6:=f6.size;have YV:Fr No h3 h6:=n5.fr.no f6;have wr:wI ((j:Int)+1)=((j+1:Nat):Int):=by rw[wrap_i64 oX oX];omega
  -- what a number Zq, at h8
  have go:∀(h8:ad) (F8:NP) (TR:TM×List Int) (nu er:Int),Fr (λy=>F y∨y=fb) h2 h8->Gw h2 F h8 F8->Tx h8 F8 t d TR.1->rd h8 fb=pP t (af n) TR.2->dA h8 fb->TR.2.length=15->TR.1.aD.length<=T.aD.length+3*(j+1)->
    An (af n) TR nu er (cM (af n) (w.drop (j+1)))=cM (af n) w T R 0->
    bY.k1 (some ⟨fb,0,none⟩) a (j:Int) h3 (λa i hh=>∃(j:Nat) (F':NP) (T':TM) (R':List Int),i=j/\j<=w.length/\Fr (λy=>F y∨y=fb) h2 hh/\Gw h2 F hh F'/\Tx hh F' t d T'/\rd hh fb=pP t (af n) R'/\dA hh fb/\R'.length=15/\T'.aD.length<=T.aD.length+3*j/\cM (af n) (w.drop j) T' R' a=cM (af n) w T R 0) (λ_ i _=>((w.length:Int)-i).toNat) nu er h8 K:=λh8 F8 TR nu er f8 g8 x8 r8 o8 R8 u8 e8=>by
   have f08:Fr (λy=>F y∨y=fb) h h8:=(f2.mono λ_ _ y=>y.elim).trans f8 λ_ _ y=>y;unfold An at e8;unfold bY.k1;refine cn (λy=>?_) λy=>ce (λy2=>?_) λy2=>?_
   ·rw[if_pos y]at e8;rw[<-e8]at hK;exact hK h8 F8 f08 (G2.trans g8 z2) x8 r8 o8 R8 (by show TR.1.aD.length<=_;omega)
   ·rw[if_neg (λz=>z y),if_pos y2]at e8;rw[<-e8]at hK;exact hK h8 F8 f08 (G2.trans g8 z2) x8 r8 o8 R8 (by show TR.1.aD.length<=_;omega)
   ·rw[if_neg (λz=>z y),if_neg y2]at e8;refine uj r8 ⟨_,rfl,cn (λy3=>?_) λy3=>?_⟩
    ·rw[if_pos y3]at e8;rw[<-e8]at hK;exact hK h8 F8 f08 (G2.trans g8 z2) x8 r8 o8 R8 (by show TR.1.aD.length<=_;omega)
    ·rw[if_neg (λz=>z y3)]at e8;rw[wr];exact⟨⟨j+1,F8,TR.1,TR.2,rfl,rA,f8,g8,x8,r8,o8,R8,u8,e8⟩,by show((w.length:Int)-((j+1:Nat):Int)).toNat<((w.length:Int)-(j:Int)).toNat;omega⟩
  have f26:Fr (λy=>F y∨y=fb) h2 h6:=f3.no YV;have g36:Gw h2 F h6 F':=⟨g3.old,λb hb=>mV (g3.lt b hb) YV.size⟩;have x6:=x3.no YV;have r6:rd h6 fb=_:=(YV.rd fl3 λy=>y).trans r3;have o6:=YV.own fl3 (λy=>y) o3
  have plain:¬((iI T' R' w[j] a).2.2=0/\(iI T' R' w[j] a).1=0)->bY.k1 (some ⟨fb,0,none⟩) a (j:Int) h3 (λa i hh=>∃(j:Nat) (F':NP) (T':TM) (R':List Int),i=j/\j<=w.length/\Fr (λy=>F y∨y=fb) h2 hh/\Gw h2 F hh F'/\Tx hh F' t d T'/\rd hh fb=pP t (af n) R'/\dA hh fb/\R'.length=15/\T'.aD.length<=T.aD.length+3*j/\cM (af n) (w.drop j) T' R' a=cM (af n) w T R 0) (λ_ i _=>((w.length:Int)-i).toNat) (iI T' R' w[j] a).1 (iI T' R' w[j] a).2.2 h6 K:=λVi=>by
   rw[if_neg Vi]at ew;exact go h6 F' (T',R') _ _ f26 g36 x6 r6 o6 R3 (by show T'.aD.length<=_;omega) ew
  refine ce (λy=>ce (λy2=>?_) λy2=>plain λz=>y2 z.2) λy=>plain λz=>y z.1;rw[if_pos ⟨y,y2⟩]at ew;refine⟨Lz w[j],rfl,ah ((f6.rd n5.own.lt λy=>y).trans n5.rd),?_⟩;have f06:Fr (λy=>F y∨y=fb) h h6:=f03.no YV;obtain⟨c1,c2,c3⟩:=cp.lt;have cp6:Cap h6 tb gb pb fb t (af n):=cp.fr f06 (by rintro(y|y);exact hf.2.1 y;exact fP.1 y) (by rintro(y|y);exact hf.2.2.1 y;exact fP.2.1 y) (by rintro(y|y);exact hf.2.2.2 y;exact fP.2.2 y)
  have hb:w[j].1=3->(iI T' R' w[j] a).2.1.length=512/\Sl h6 1 sa sl sc ((iI T' R' w[j] a).2.1.map bv) (λy=>h5.size<=y/\¬F' y/\y≠fb):=λL6=>by
   refine⟨?_,s6.mono λy hy=>⟨hy,λz=>?_,?_⟩⟩
   ·rw[XB L6]at y ⊢
    by_cases hh:(T'.read a).2≠0
    ·rw[if_pos hh]at y;exact absurd y hh
    ·rw[if_neg hh];exact Tx.lv x3 oX
   ·have hy:h5.size<=y:=hy;have:=x3.lt z;omega
   ·have hy:h5.size<=y:=hy;omega
  refine UB (lo:=h5.size) (gl5.no f6) dm x6 r6 o6 R3 hs cp6 ⟨λz=>hf.1 ((UC _ oX).mp z),λz=>hf.2.1 ((UC _ oX).mp z),λz=>hf.2.2.1 ((UC _ oX).mp z),λz=>hf.2.2.2 ((UC _ oX).mp z)⟩ (λb pV z=>?_) oX hb λh7 F7 f7 g7 x7 r7 o7=>⟨_,_,rfl,?_⟩
  ·exact(g0 b pV).1 ((UC b oX).mp z)
  ·have z7:=f7.size;have f27:Fr (λy=>F y∨y=fb) h2 h7:=f26.trans f7 λc hc z=>?_
   ·have hl7:=NO (T:=T') (g:=af n) (R:=R') (a:=a) (b:=(iI T' R' w[j] a).2.1) hs;exact go h7 F7 _ _ _ f27 (g36.trans g7 f26.size) x7 r7 o7 (UA hs R3) oX ew
   ·rcases z with z|z|z
    ·exact .inl ((UC c hc).mp z)
    ·exact .inr z
    ·omega
 ·have ej:j=w.length:=oX;subst ej;rw[xG]at ew;have ew:((T',R'),a,(0:Int))=cM (af n) w T R 0:=ew;rw[<-ew]at hK;exact hK h3 F' f03 (G2.trans g3 z2) x3 r3 o3 R3 (by show T'.aD.length<=_;omega)
structure Gd(h:ad)(ob tb mb:Nat)(t:OA)(m:Int×Int):Prop where
 o:rd h ob=[vI m.2]
 t:rd h tb=[vP t]
 m:rd h mb=[vI m.1]
def gdV(ob tb mb:Nat):Value:=.func (.func 229) ⟨[]⟩ ⟨[vP (some ⟨ob,0,none⟩),vP (some ⟨tb,0,none⟩),vP (some ⟨mb,0,none⟩)]⟩
theorem Gd.lt{m:Int×Int}(c:Gd h ob tb mb t m):ob<h.size/\tb<h.size/\mb<h.size:=
 ⟨pE (o:=0) (by rw[c.o];rfl),pE (o:=0) (by rw[c.t];rfl),pE (o:=0) (by rw[c.m];rfl)⟩
theorem Gd.fr{m:Int×Int}{G:NP}(c:Gd h ob tb mb t m)(f:Fr G h h')(h1:¬ G ob)(h2:¬ G tb)(h3:¬ G mb):Gd h' ob tb mb t m:=by
 obtain⟨l1,l2,l3⟩:=c.lt;exact⟨(f.rd l1 h1).trans c.o,(f.rd l2 h2).trans c.t,(f.rd l3 h3).trans c.m⟩
theorem Qe{T:TM}(x:Tx h F t d T)
  (hK:∀ob tb mb h',Fr No h h'->h.size<=ob->h.size<=tb->h.size<=mb->Gd h' ob tb mb t T.mark->K (gdV ob tb mb) h'):C.qe t h K:=by
 refine qe.ok (aC.intro λh2 n2=>⟨t,dC n2.rd rfl,sE (x.no n2.fr) ⟨_,_,rfl,aC.intro λh4 n4=>aC.intro λh5 n5=>?_⟩⟩);have z2:=n2.size;have z4:=n4.size;have z5:=n5.size;refine bD.intro (n5.ow n4.own) (by rw[n5.at_ n4.own.lt,n4.rd];decide) λh6 d6=>bD.intro (d6.ow n5.own) (by rw[d6.at_ n5.own.lt oX,n5.rd];decide) λh7 d7=>?_;have z6:=d6.size;have F7:Fr No h h7:=(((n2.fr.new n4).new n5).did d6 λhl=>oX).did d7 λhl=>by omega
 refine hK h4.size h.size h2.size h7 F7 oX (bE _) oX ⟨?_,?_,?_⟩
 ·rw[d7.rd,d6.at_ n5.own.lt oX,n5.rd];rfl
 ·exact(d7.at_).trans ((d6.at_).trans ((n5.at_).trans ((n4.at_ n2.own.lt).trans n2.rd)))
 ·rw[d7.at_,d6.rd,n5.at_ n4.own.lt,n4.rd];rfl
theorem Iz{T:TM}{m:Int×Int}{e:Int}(x:Tx h F t d T)(c:Gd h ob tb mb t m)(hu:T.aD.length<1000000000)
  (hK:∀h',Fr F h h'->Tx h' F t d (if e≠0/\m.2=0 then(T.back m.1).1 else T)->K (.tuple #[]) h'):gJ Tryz.prog (gdV ob tb mb) [vI e] h K:=by
 show C.nw e (some ⟨ob,0,none⟩) (some ⟨tb,0,none⟩) (some ⟨mb,0,none⟩) h K;refine nw.ok (cn (λhe=>os ⟨_,dC c.o rfl,ce (λhm=>os ⟨t,dC c.t rfl,os ⟨_,dC c.m rfl,sF x hu λh2 f2 x2=>⟨_,rfl,?_⟩⟩⟩) λhm=>?_⟩) λhe=>?_)
 ·rw[if_pos ⟨he,hm⟩]at hK;exact hK h2 f2 x2
 ·rw[if_neg (λy=>hm y.2)]at hK;exact hK h (Fr.refl _ _) x
 ·rw[if_neg (λy=>y.1 he)]at hK;exact hK h (Fr.refl _ _) x
theorem Sj : ∀v∈ints rG,v.oneCell'=true:=aO rG
theorem uO{T:TM}{n:Nat}(gl:In.lT h)(dm:zV n)(x:Tx h F t d T)(live:T.over=false)(hR:R.length=15)(g0:∀ b,b<1->¬ F b)(hu:T.aD.length<700000000)
  (hK:∀h' F',Fr F h h'->Gw h F h' F'->Tx h' F' t d (bR T (af n) R k).1->K (.tuple #[.agg ⟨ints (bR T (af n) R k).2.1⟩,vI (bR T (af n) R k).2.2.1,vI (bR T (af n) R k).2.2.2]) h') :
  C.ou t (af n).v (ints R) k h K:=by
 have vv:=λy (hy:F y)=>x.lt hy;have gl1:=gl.lt;refine ou.ok (aC.intro λh2 n2=>aC.intro λh3 n3=>aC.intro λh4 n4=>aC.intro λh5 n5=>aC.intro λh6 n6=>aC.intro λh7 n7=>?_);have z2:=n2.size;have z3:=n3.size;have z4:=n4.size;have z5:=n5.size;have z6:=n6.size;have z7:=n7.size;have F7:Fr No h h7:=((((n2.fr.new n3).new n4).new n5).new n6).new n7;have ry:rd h7 h4.size=ints rG:=(n7.at_).trans ((n6.at_).trans n5.rd);have oy:dA h7 h4.size:=n7.ow (n6.ow n5.own);have rn:rd h7 h5.size=[vI 0]:=(n7.at_).trans n6.rd;have on:dA h7 h5.size:=n7.ow n6.own;have re:rd h7 h6.size=[vI 0]:=n7.rd;have oe':dA h7 h6.size:=n7.own
 by_cases hk:0<=k/\k<16522
 rotate_left
 ·have e0:bR T (af n) R k=(T,rG,0,101):=by unfold bR;rw[if_pos oX]
  rw[e0]at hK
  have Vs:az (bA h4) (ints rG) 15 h7 λh8=>bD (bA h5) (vI 0) h8 λh9=>bD (bA h6) (vI 101) h9 λbG=>
    ∃dq:LV,List.length dq=15/\ai bG (bA h4) dq/\∃(fV:Int),cellOf bG (bA h5)=some (vI fV)/\∃(fY:Int),cellOf bG (bA h6)=some (vI fY)/\K (.tuple #[.agg ⟨dq⟩,vI fV,vI fY]) bG:=by
   refine az.intro oy rfl Sj (by rw[ry];exact bE _) λh8 d8=>bD.intro (d8.ow on) (by rw[d8.at_,rn];decide) λh9 d9=>bD.intro (d9.ow (d8.ow oe')) (by rw[d9.at_ (by have:=d8.size;omega) oX,d8.at_,re];decide) λbG d10=>?_;have z8:=d8.size;have z9:=d9.size;have L8:Fr No h bG:=((F7.did d8 λhl=>oX).did d9 λhl=>oX).did d10 λhl=>by omega
   refine⟨ints rG,rfl,ah ?_,0,dC (xs:=[vI 0]) ?_ rfl,101,dC (xs:=[vI 101]) ?_ rfl,hK bG F (L8.mono λ_ _ y=>y.elim) (Gw.refl L8.size vv) (x.no L8)⟩
   ·rw[d10.at_,d9.at_,d8.rd,ry];exact fu _ _ rfl
   ·rw[d10.at_,d9.rd,d8.at_,rn];rfl
   ·rw[d10.rd,d9.at_,d8.at_,re];rfl
  exact cd (λ_=>Vs) λy=>cd (λ_=>Vs) λy2=>by exfalso;omega
 refine cd (λy=>by exfalso;omega) λ_=>cd (λy=>by exfalso;omega) λ_=>?_;have rt:rd h7 h.size=[vP t]:=(n7.at_).trans ((n6.at_).trans ((n5.at_).trans ((n4.at_).trans ((n3.at_).trans n2.rd))));have rg:rd h7 h2.size=(af n).v:=(n7.at_).trans ((n6.at_).trans ((n5.at_).trans ((n4.at_).trans n3.rd)));have rx:rd h7 h3.size=ints R:=(n7.at_).trans ((n6.at_).trans ((n5.at_).trans n4.rd));unfold ou.k1;refine⟨t,dC rt rfl,Qe (x.no F7) λob tb mb fN f15 b1 b2 b3 gd=>⟨_,_,_,rfl,aC.intro λgN n16=>?_⟩⟩;have z15':=f15.size;have z16:=n16.size;obtain⟨gl1',gl2',gl3'⟩:=gd.lt;refine bD.intro n16.own (by rw[n16.rd];decide) λgO d17=>?_;have z17:=d17.size;have J4:∀b,b<fN.size->rd gO b=rd fN b:=λb hb=>(d17.at_).trans (n16.at_ hb);have q7:∀b,b<h7.size->rd fN b=rd h7 b:=λb hb=>f15.rd hb λy=>y;refine⟨t,dC ((J4 _ oX).trans ((q7 _ oX).trans rt)) rfl,(af n).v,rfl,ah ((J4 _ oX).trans ((q7 _ oX).trans rg)),ints R,by rw[aj,hR],ah ((J4 _ oX).trans ((q7 _ oX).trans rx)),rfl,by rw[aj,hR],aC.intro λjk n18=>aC.intro λeX n19=>?_⟩;have z18:=n18.size;have z19:=n19.size;refine bD.intro n19.own (by rw[n19.rd];decide) λiG d20=>?_;have z20:=d20.size;have Xr:∀b,b<gO.size->rd iG b=rd gO b:=λb hb=>(d20.at_).trans ((n19.at_).trans (n18.at_ hb));have o20:∀{b},dA gO b->dA iG b:=λw=>d20.ow (n19.ow (n18.ow w));have o17:∀{b},dA h7 b->dA gO b:=λw=>d17.ow (n16.ow (f15.own w.lt (λy=>y) w));have Sn:Fr No h gO:=((F7.no f15).new n16).did d17 λhl=>by omega
 have F20:Fr No h iG:=((Sn.new n18).new n19).did d20 λhl=>by omega
 have s7:=F7.size;have Qf:∀b,h.size<=b->¬F b:=λb hb y=>by have:=vv b y;omega
 have rf20:rd iG gO.size=pP t (af n) R:=(d20.at_).trans ((n19.at_).trans n18.rd);have aeJ:rd iG jk.size=[vP (some (bA gO))]:=by rw[d20.rd,n19.rd];rfl
 have cap:Cap iG h.size h2.size jk.size gO.size t (af n):=⟨(Xr _ oX).trans ((J4 _ oX).trans ((q7 _ oX).trans rt)),(Xr _ oX).trans ((J4 _ oX).trans ((q7 _ oX).trans rg)),aeJ⟩;refine⟨_,dC aeJ rfl,Qd (gl.no F20) dm (x.no F20) rf20 (d20.ow (n19.ow n18.own)) hR hk.1 hk.2 cap ⟨Qf _ oX,Qf _ oX,Qf _ oX,Qf _ oX⟩ ⟨oX,oX,oX⟩ (λb hb=>⟨g0 b hb,oX⟩) hu λoM F' f21 g21 x21 r21 o21 l21 u21=>⟨_,_,rfl,?_⟩⟩
 have ea:bR T (af n) R k=if(cM (af n) (fT k.toNat) T R 0).2.2≠0 then(((cM (af n) (fT k.toNat) T R 0).1.1.back T.aD.length).1,rG,0,(cM (af n) (fT k.toNat) T R 0).2.2)
   else((cM (af n) (fT k.toNat) T R 0).1.1,(cM (af n) (fT k.toNat) T R 0).1.2,(cM (af n) (fT k.toNat) T R 0).2.1,0):=by unfold bR;rw[if_neg oX]
 rw[ea]at hK;generalize cM (af n) (fT k.toNat) T R 0=W at hK x21 r21 l21 u21;obtain⟨⟨T',R'⟩,n1,e1⟩:=W;simp only at hK x21 r21 l21 u21;have z21:=f21.size;have Vr:∀b,h.size<=b->b<iG.size->b≠gO.size->rd oM b=rd iG b:=λb h1 h2 h3=>f21.rd h2 (by rintro(y|y);exact Qf b h1 y;exact h3 y);have w21:∀{b},h.size<=b->b≠gO.size->dA iG b->dA oM b:=λh1 h3 w=>f21.own w.lt (by rintro(y|y);exact Qf _ h1 y;exact h3 y) w;have aib:rd oM h5.size=[vI 0]:=(Vr _ oX oX oX).trans ((Xr _ oX).trans ((J4 _ oX).trans ((q7 _ oX).trans rn)));have aic:rd oM h6.size=[vI 0]:=(Vr _ oX oX oX).trans ((Xr _ oX).trans ((J4 _ oX).trans ((q7 _ oX).trans re)));have aid:rd oM h4.size=ints rG:=(Vr _ oX oX oX).trans ((Xr _ oX).trans ((J4 _ oX).trans ((q7 _ oX).trans ry)));have aie:dA oM h5.size:=w21 oX oX (o20 (o17 on));have aif:dA oM h6.size:=w21 oX oX (o20 (o17 oe'));have oy21:dA oM h4.size:=w21 oX oX (o20 (o17 oy));have rp21:rd oM jk.size=[vP (some (bA gO))]:=(Vr _ oX oX oX).trans aeJ;have rb21:rd oM fN.size=[gdV ob tb mb]:=(Vr _ oX oX oX).trans ((Xr _ oX).trans (by rw[d17.rd,n16.rd];rfl))
 have F21:Fr F h oM:=(F20.mono λ_ _ y=>y.elim).trans f21 λb hb y=>by
  rcases y with y|y
  ·exact y
  ·omega
 have G21:Gw h F oM F':=(Gw.refl F20.size vv).trans g21 F20.size;have old:∀b,b<iG.size->(F' b↔F b):=g21.old;have En:∀b,h.size<=b->b<iG.size->¬F' b:=λb h1 h2 y=>Qf b h1 ((old b h2).mp y)
 have gd21:Gd oM ob tb mb t T.mark:=by
  have g17:Gd gO ob tb mb t T.mark:=⟨(J4 _ gl1').trans gd.o,(J4 _ gl2').trans gd.t,(J4 _ gl3').trans gd.m⟩;have g20:Gd iG ob tb mb t T.mark:=⟨(Xr _ oX).trans g17.o,(Xr _ oX).trans g17.t,(Xr _ oX).trans g17.m⟩;exact⟨(Vr _ oX oX oX).trans g20.o,(Vr _ oX oX oX).trans g20.t,(Vr _ oX oX oX).trans g20.m⟩
 have lr:R'.length=15:=l21;refine bD.intro aie (by rw[aib];decide) λqD d22=>bD.intro (d22.ow aif) (by rw[d22.at_,aic];decide) λpg d23=>?_;have z22:=d22.size;have z23:=d23.size;have Xs:∀b,b<oM.size->b≠h5.size->b≠h6.size->rd pg b=rd oM b:=λb hb h1 h2=>(d23.at_ oX h2).trans (d22.at_ hb h1);have aih:rd pg h5.size=[vI n1]:=(d23.at_).trans (by rw[d22.rd,aib];rfl);have aii:rd pg h6.size=[vI e1]:=by rw[d23.rd,d22.at_,aic];rfl
 have rf23:rd pg gO.size=pP t (af n) R':=(Xs _ oX oX oX).trans r21;refine⟨_,dC ((Xs _ oX oX oX).trans rp21) rfl,os ⟨ints R',by rw[aj,lr],pY rf23 ?_,n1,dC aih rfl,e1,dC aii rfl,?_⟩⟩
 ·show(ints R').take _=_;exact gL (bE _)
 refine az.intro (d23.ow (d22.ow oy21)) (by rw[aj,lr]) (aO _) (by rw[Xs _ oX oX oX,aid];exact bE _) λsX d24=>?_;have z24:=d24.size;have ry24:rd sX h4.size=ints R':=by rw[d24.rd,Xs _ oX oX oX,aid];exact fu _ _ (by rw[aj,lr];rfl)
 have aeK:rd sX h5.size=[vI n1]:=(d24.at_).trans aih;have aij:rd sX h6.size=[vI e1]:=(d24.at_).trans aii;refine⟨dC aeK rfl,dC aij rfl,bD.intro (d24.ow (d23.ow (d22.ow aie))) (by rw[aeK];exact uM) λqv d25=>?_⟩;have z25:=d25.size;have aeL:rd qv h6.size=[vI e1]:=(d25.at_).trans aij;have oe25:dA qv h6.size:=d25.ow (d24.ow (d23.ow (d22.ow aif)));refine⟨dC aeL rfl,bD.intro oe25 (by rw[aeL];exact uM) λpJ d26=>?_⟩;have z26:=d26.size;have q26:∀b,b<oM.size->b≠h4.size->b≠h5.size->b≠h6.size->rd pJ b=rd oM b:=λb hb h1 h2 h3=>(d26.at_ oX h3).trans ((d25.at_ oX h2).trans ((d24.at_ oX h1).trans (Xs b hb h2 h3)));have aal:rd pJ h6.size=[vI e1]:=by rw[d26.rd,aeL];rfl
 have aeM:rd pJ h5.size=[vI n1]:=(d26.at_).trans (by rw[d25.rd,aeK];rfl);have aeN:rd pJ h4.size=ints R':=(d26.at_).trans ((d25.at_).trans ry24);have oy26:dA pJ h4.size:=d26.ow (d25.ow d24.own);have on26:dA pJ h5.size:=d26.ow d25.own;have Sp:Fr (λb=>b=h4.size∨b=h5.size∨b=h6.size) oM pJ:=((((Fr.refl _ _).did d22 λ_=>.inr (.inl rfl)).did d23 λ_=>.inr (.inr rfl)).did d24 λ_=>.inl rfl).did d25 (λ_=>.inr (.inl rfl)) |>.did d26 λ_=>.inr (.inr rfl)
 have x26:Tx pJ F' t d T':=x21.fr Sp λb hb y=>by
  rcases y with rfl|rfl|rfl
  ·exact En _ oX oX hb
  ·exact En _ oX oX hb
  ·exact En _ oX oX hb
 have gd26:Gd pJ ob tb mb t T.mark:=gd21.fr Sp (by rintro(y|y|y) <;> omega) (by rintro(y|y|y) <;> omega) (by rintro(y|y|y) <;> omega);have F26:Fr F h pJ:=F21.trans Sp λb hb y=>by rcases y with y|y|y <;> omega
 have G26:Gw h F pJ F':=⟨G21.old,λb hb=>mV (G21.lt b hb) Sp.size⟩;have em:T.mark=((T.aD.length:Int),0):=by unfold TM.mark;rw[live,if_neg (by simp)]
 refine eF.FE (os ⟨_,dC ((q26 _ oX oX oX oX).trans rb21) rfl,os ⟨_,dC aal rfl,Iz x26 gd26 oX λDg f27 x27=>⟨rfl,?_⟩⟩⟩);have z27:=f27.size;have q27:∀b,h.size<=b->b<iG.size->rd Dg b=rd pJ b:=λb h1 h2=>f27.rd oX (En b h1 h2);have F27:Fr F h Dg:=F26.trans f27 λb hb y=>(old b oX).mp y;have G27:Gw h F Dg F':=⟨G26.old,λb hb=>mV (G26.lt b hb) f27.size⟩;rw[em]at x27;refine os ⟨_,dC ((q27 _ oX oX).trans aal) rfl,cn (λhe=>?_) λhe=>?_⟩
 ·rw[if_pos ⟨he,rfl⟩]at x27;rw[if_pos he]at hK;refine os (az.intro (f27.own oX (En _ oX oX) oy26) rfl Sj (by rw[q27 _ oX oX,aeN,aj,lr];exact bE _) λwj d28=>os (bD.intro (d28.ow (f27.own oX (En _ oX oX) on26)) (by rw[d28.at_,q27 _ oX oX,aeM];exact uM) λMS d29=>?_));have z28:=d28.size;have z29:=d29.size;have XD:Fr (λb=>b=h4.size∨b=h5.size) Dg MS:=((Fr.refl _ _).did d28 λ_=>.inl rfl).did d29 λ_=>.inr rfl;refine⟨ints rG,rfl,ah ?_,0,dC (xs:=[vI 0]) ?_ rfl,e1,dC (xs:=[vI e1]) ?_ rfl,hK MS F' (F27.trans XD λb hb y=>by rcases y with y|y <;> omega) ⟨G27.old,λb hb=>mV (G27.lt b hb) XD.size⟩ (x27.fr XD λb hb y=>?_)⟩
  ·rw[d29.at_,d28.rd,q27 _ oX oX,aeN];exact fu _ _ (by rw[aj,lr];rfl)
  ·rw[d29.rd,d28.at_,q27 _ oX oX,aeM];rfl
  ·rw[d29.at_,d28.at_,q27 _ oX oX,aal]
  ·rcases y with rfl|rfl
   ·exact En _ oX oX hb
   ·exact En _ oX oX hb
 ·rw[if_neg (λy=>y.1 he)]at x27;rw[if_neg (λy=>y he)]at hK;have he:e1=0:=he;subst he;exact⟨ints R',by rw[aj,lr],ah ((q27 _ oX oX).trans aeN),n1,dC ((q27 _ oX oX).trans aeM) rfl,0,dC ((q27 _ oX oX).trans aal) rfl,hK Dg F' F27 G27 x27⟩
def nM(b:cC):List Int:=(List.range 128).map λi=>((oG b i:Nat):Int)
theorem kZ(b:cC):(nM b).length=128:=by unfold nM;rw[aP,xE]
theorem qz{b:cC}(h:j<(nM b).length):(nM b)[j]=((oG b j:Nat):Int):=by
 simp only[nM,mu,yB]
end Bm
namespace Ino
open Hp W Ad Tm Bt Spc Re
open Hd (ints)
open In (rG qH ng tH aO aj Cs sQ iJ lT oI vu jT)
def pt(g:G)(n:Int):Int:=(g.eO+n.toNat/8:Nat)
def rat(n:Int):Nat:=64*(n.toNat%8)
theorem LD(n:Int):rat n+64<=512:=by unfold rat;omega
theorem oJ(bs:cC):(tH bs).1.length=15:=by
 unfold tH;split
 ·exact dU
 ·split
  ·exact oI bs
  ·exact dU
def getM(T:TM)(g:G)(n:Int):List Int×Int:=
 if ¬(1<=n/\n<g.count)then(rG,110)else if(T.read (pt g n)).2≠0 then(rG,(T.read (pt g n)).2)else tH (((T.read (pt g n)).1.drop (rat n)).take 64)
theorem cZ(T:TM)(g:G)(n:Int):(getM T g n).1.length=15:=by
 unfold getM
 split
 ·exact dU
 ·split
  ·exact dU
  ·exact oJ _
def mE(T:TM)(g:G)(n:Int)(R:List Int):TM×Int:=
 if ¬(1<=n/\n<g.count)then(T,110)else if qH R=false then(T,111)else if(T.read (pt g n)).2≠0 then(T,(T.read (pt g n)).2)else
  T.write (pt g n) (kX (T.read (pt g n)).1 (rat n) (ng R))
structure yP(g:G):Prop where
 ok:g.ok
 c:g.count<=1099511627776
theorem Cw{g:G}(ok:yP g)(hK:∀ h',Fr No h h'->K (.bool (decide (1<=n/\n<g.count))) h'):C.j3 g.v n h K:=by
 have:=ok.c;refine j3.ok (aC.intro λh2 n2=>⟨_,aZ n2.rd rfl,In.mG ⟨_,rfl,?_⟩⟩);rw[wrap_i64 oX oX]
 have e:(decide (1<=n) && decide (n<=(g.count:Int)-1))=decide (1<=n/\n<g.count):=by
  rw[JR,dB,decide_eq_true_iff,decide_eq_true_iff,decide_eq_true_iff];omega
 rw[e];exact hK h2 n2.fr
theorem vw{g:G}(ok:yP g)(h1:1<=n)(h2:n<g.count)(hK:∀ h',Fr No h h'->K (.tuple #[vI (pt g n),vI (rat n),vI 0]) h'):C.mO g.v n h K:=by
 have c1:=ok.c;have c2:=ok.ok.i;refine mO.ok (aC.intro λh2 n2=>cf (decide_eq_false oX) ⟨_,aZ n2.rd rfl,cf (decide_eq_false oX) ⟨_,aZ n2.rd rfl,?_⟩⟩);have hK:=hK h2 n2.fr;have e1:Int.tdiv n 8=n/8:=nL oX;have e2:Int.tmod n 8=n%8:=rL oX;rw[e1,e2,wq (n/8),wq ((g.eO:Int)+n/8),wq (n%8*64)];have e3:n%8*64=((rat n:Nat):Int):=by unfold rat;omega
 have e4:(g.eO:Int)+n/8=pt g n:=by unfold pt;omega
 rw[e3,e4];exact hK
theorem Hi{T:TM}{g:G}(x:Tx h F t d T)(ok:yP g)(h1:1<=n)(h2:n<g.count)
  (hK:∀a l c h',Fr No h h'->l=(T.read (pt g n)).1.length->Sl h' 1 a l c ((T.read (pt g n)).1.map bv) (cW h.size)->K (.tuple #[vI (pt g n),vS a l c,vI (rat n),vI (T.read (pt g n)).2]) h'):C.mF t g.v n h K:=by
 refine mF.ok (aC.intro λxR n2=>⟨g.v,rfl,ah n2.rd,vw ok h1 h2 λh3 f3=>⟨_,_,_,rfl,cn (λy=>absurd rfl y) λ_=>?_⟩⟩);have F3:=n2.fr.no f3;refine Tm.dv (x.no F3) λa l c h4 f4 hl s=>⟨_,_,_,_,rfl,?_⟩;exact hK a l c h4 (F3.no f4) hl (s.mono λb hb=>k9 F3.size hb)
theorem Hj{T:TM}{g:G}(gl:In.lT h)(x:Tx h F t d T)(ok:yP g)
  (hK:∀h',Fr No h h'->K (.tuple #[.agg ⟨ints (getM T g n).1⟩,vI (getM T g n).2]) h'):C.sd t g.v n h K:=by
 have ha:=LD n;refine sd.ok (aC.intro λxR n2=>aC.intro λh3 n3=>⟨g.v,rfl,ah ((n3.at_ n2.own.lt).trans n2.rd),Cw ok λh4 f4=>⟨_,rfl,iu ?_⟩⟩);have s2:=n2.size;have s3:=n3.size;have f3:Fr No h h3:=n2.fr.new n3;have F4:=f3.no f4;have z4:=f4.size
 have row:∀{h':ad},Fr No h4 h'->dA h' xR.size/\(rd h' xR.size).length=15:=λf'=>by
  have f34:Fr No h3 _:=f4.no f';exact⟨f34.own n3.own.lt (λy=>y) n3.own,by rw[f34.rd n3.own.lt λy=>y,n3.rd];rfl⟩
 by_cases hn:1<=n/\n<g.count
 ·have e0:getM T g n=if(T.read (pt g n)).2≠0 then(rG,(T.read (pt g n)).2)else tH (((T.read (pt g n)).1.drop (rat n)).take 64):=by unfold getM;rw[if_neg (λy=>y hn)]
  rw[e0]at hK;refine ct (decide_eq_true hn) ⟨g.v,rfl,ah ((f4.r0).trans ((n3.at_ n2.own.lt).trans n2.rd)),Hi (x.no F4) ok hn.1 hn.2 λa l c h6 f6 hl s6=>⟨_,_,_,_,_,_,rfl,cn (λhe=>?_) λhe=>?_⟩⟩
  ·rw[if_pos he]at hK;obtain⟨w,OS⟩:=row f6;exact jT (h3:=h) (F4.no f6) oX w OS hK
  ·rw[if_neg (λy=>y he)]at hK;have hlen:(T.read (pt g n)).1.length=512:=Tx.lv x he;have hc:=s6.le;rw[wrap_i64 oX oX];refine⟨⟨oX,oX,oX⟩,?_⟩;have B6:=av.cut s6.str hc (i:=(rat n:Int).toNat) (j:=((rat n:Int)+64).toNat) oX oX;rw[show((rat n:Int)+64).toNat-(rat n:Int).toNat=64 by omega]at B6 ⊢;refine In.NK (gl.no (F4.no f6)) B6 oX λh8 f8=>⟨_,_,rfl,?_⟩;rw[show(rat n:Int).toNat=rat n by omega];obtain⟨w,OS⟩:=row (f6.no f8);refine az.intro w (by rw[aj,oJ]) (aO _) oX λh9 d9=>⟨_,by rw[aj];exact oJ _,ah ?_,hK h9 (((F4.no f6).no f8).did d9 λhl=>oX)⟩;rw[d9.rd];exact fu _ _ (by rw[aj,oJ,OS])
 ·have e0:getM T g n=(rG,110):=by unfold getM;rw[if_pos hn]
  rw[e0]at hK;obtain⟨w,OS⟩:=row (Fr.refl _ _);exact cf (decide_eq_false hn) (jT (h3:=h) F4 oX w OS hK)
theorem mw{T:TM}{g:G}(gl:In.lT h)(x:Tx h F t d T)(ok:yP g)(hR:R.length=15)(hu:T.aD.length<1000000000)
  (hK:∀h' F',Fr F h h'->Gw h F h' F'->Tx h' F' t d (mE T g n R).1->K (vI (mE T g n R).2) h'):C.si t g.v n (ints R) h K:=by
 have ha:=LD n
 have same:∀e h',Fr No h h'->mE T g n R=(T,e)->K (vI e) h':=λe h' f e0=>by
  rw[e0]at hK;exact hK h' F (f.mono λ_ _ y=>y.elim) (Gw.refl f.size λb hb=>x.lt hb) (x.no f)
 refine si.ok (aC.intro λxR n2=>aC.intro λh3 n3=>⟨g.v,rfl,ah ((n3.at_ n2.own.lt).trans n2.rd),Cw ok λh4 f4=>⟨_,rfl,iu ?_⟩⟩);have s2:=n2.size;have s3:=n3.size;have F4:=(n2.fr.new n3).no f4;have z4:=f4.size
 by_cases hn:1<=n/\n<g.count
 ·refine ct (decide_eq_true hn) ⟨ints R,by rw[aj,hR],ah ((f4.r0).trans n3.rd),In.NI (gl.no F4) hR (λhm h5 f5=>⟨_,_,_,_,rfl,cn (λ_=>?_) λy=>absurd (show(111:Int)=0 from y) dX⟩) λhm eb h5 f5 heb s5=>⟨_,_,_,_,rfl,cn (λy=>absurd rfl y) λ_=>?_⟩⟩
  ·exact same _ h5 (F4.no f5) (by unfold mE;rw[if_neg (λy=>y hn),if_pos hm])
  have z5:=f5.size;have leb:eb<h5.size:=s5.lt;have F5:=F4.no f5;refine⟨g.v,rfl,ah ((f5.r0).trans ((f4.r0).trans ((n3.at_ n2.own.lt).trans n2.rd))),Hi (x.no F5) ok hn.1 hn.2 λa l c h6 f6 hl s6=>⟨_,_,_,_,_,_,rfl,cn (λhe=>?_) λhe=>?_⟩⟩
  ·exact same _ h6 (F5.no f6) (by unfold mE;rw[if_neg (λy=>y hn),if_neg (by rw[hm];simp),if_pos he])
  have hlen:(T.read (pt g n)).1.length=512:=Tx.lv x he;have e0:mE T g n R=T.write (pt g n) (kX (T.read (pt g n)).1 (rat n) (ng R)):=by unfold mE;rw[if_neg (λy=>y hn),if_neg (by rw[hm];simp),if_neg (λy=>y he)]
  rw[e0]at hK;generalize T.read (pt g n)=rd0 at hl s6 hlen hK;obtain⟨bs,er⟩:=rd0;simp only at hl s6 hlen hK;obtain⟨p,ep,_⟩:=s6.get oX;subst ep;obtain⟨pb,po,sp⟩:=p;have Xo:sp=none:=s6.2.1;subst Xo;have z6:=f6.size;have hc:=s6.le;have F6:=F5.no f6;have le:=vu hR;refine⟨⟨oX,oX⟩,?_⟩;rw[if_neg oX];show xw _ (some (Addr.add ⟨pb,po,none⟩ (rat n:Int).toNat)) _ _ _ _;rw[eA];have Xp:h5.size<=pb:=s6.2.2.1;have e5:ak h6 (some ⟨eb,0,none⟩) ((ng R).map bv):=(s5.fr f6 λ_ _ _ y=>y).cells;obtain⟨w6,l6⟩:=s6.wr;refine xw.intro (new:=(ng R).map bv) (by rw[aP,le];show 64=min 64 (l-_)*1;omega) e5 (jA _) w6 (by rw[aP,le];omega) λh7 d7=>?_
  have s7:Sl h7 1 (some ⟨pb,po,none⟩) l c ((kX bs (rat n) (ng R)).map bv) (cW h5.size):=by
   have:=s6.putAt (new:=(ng R).map bv) (j:=rat n) (by rw[aP,le];omega) (by rw[show po+rat n=po+(rat n:Int).toNat by omega];exact d7);rw[te (by rw[hlen,le];omega)]at this;exact this
  have F7:=F6.did d7 λhl=>by omega
  refine Tm.fp (x.no F7) s7.str oX (λq eq y=>?_) hu λh8 F8 f8 g8 x8=>⟨_,rfl,hK h8 F8 ?_ ?_ x8⟩
  ·cases eq
   have y:F pb:=y;have:=x.lt y;omega
  ·exact(F7.mono λ_ _ y=>y.elim).trans f8 λ_ _ y=>y
  ·exact(Gw.refl F7.size λb hb=>x.lt hb).trans g8 F7.size
 ·exact cf (decide_eq_false hn) (same _ h4 F4 (by unfold mE;rw[if_pos hn]))
end Ino
namespace Fi
open Hp W Ad Tm Spc Re Av
open Hd (ints)
open In (lT aj aO)
open Ino (getM mE yP cZ)
open Bm (bT bR)
theorem iaT{i:Nat}(hi:i<R.length):(ints R)[i]?=some (vI (R.getD i 0)):=by
 unfold ints;rw[jH,gh,fg hi];rfl
theorem ints_set{i:Nat}{v:Int}:(ints R).set i (vI v)=ints (R.set i v):=by
 unfold ints;rw[yG]
def bH(T:TM)(g:G)(R:List Int)(k:Int):cC×Int:=if(bT T g R k).2≠0 then([],(bT T g R k).2)else if(bT T g R k).1=0 then(aV,0)else T.read (bT T g R k).1
end Fi
namespace Bm
open Hp W Ad Tm Bt Spc Re Av
theorem NQ(g:G):∀(l:List (Nat×Nat)) (T:TM) (R:List Int) (a:Int),(∀s∈l,Cv s)->(cM g l T R a).1.1.aD.length<=T.aD.length+3*l.length
 | [],T,R,a,_=>kM _ _
 | s::r,T,R,a,h=>by
  have ih:=λT' R' a'=>NQ g r T' R' a' λx hx=>h x (gV _ hx)
  have nx:∀(TR:TM×List Int) (nu er:Int),TR.1.aD.length<=T.aD.length+3->(An g TR nu er (cM g r)).1.1.aD.length<=T.aD.length+3*(r.length+1):=λTR nu er hle=>by
   unfold An
   split
   ·show TR.1.aD.length<=_;omega
   ·split
    ·show TR.1.aD.length<=_;omega
    ·split
     ·show TR.1.aD.length<=_;omega
     ·have:=ih TR.1 TR.2 nu;omega
  rw[Hh,pA]
  split
  ·exact nx _ _ _ (NO (h s (kj ..)))
  ·exact nx (T,R) _ _ (kM _ _)
theorem aan(T:TM)(m:Int):(T.back m).1.aD.length<=T.aD.length:=by
 unfold TM.back
 split
 ·exact bE _
 ·split
  ·exact bE _
  ·show(T.aD.take _).length<=_;rw[dL];omega
theorem tY{T:TM}{g:G}:(bR T g R k).1.aD.length<=T.aD.length+9:=by
 unfold bR
 split
 ·exact kM _ _
 ·rename_i hk
  have hl:(fT k.toNat).length<=3:=by
   unfold fT
   split
   ·simp
   ·split <;> simp
  have:=NQ g (fT k.toNat) T R 0 (LA oX)
  split
  ·have hb:=aan (cM g (fT k.toNat) T R 0).1.1 T.aD.length;exact k9 hb oX
  ·exact k9 this oX
end Bm
namespace Fi
open Hp W Ad Tm Spc Re Av Rg
open Hd (ints)
open In (lT aj aO)
open Ino (getM mE yP cZ)
open Bm (bT bR lC)
theorem tt{P:Program}{k:KT}(y:rQ P l args h k):gJ P (.func (.yield l) #[] #[]) args h k:=y
def uP(T:TM)(r:TM×Int):TM×Int:=if r.2≠0 then((r.1.back T.mark.1).1,r.2)else r
theorem LF{T:TM}{g:G}:(mE T g n R).1.aD.length<=T.aD.length+1:=by
 unfold mE
 split
 ·exact kM _ _
 ·split
  ·exact kM _ _
  ·split
   ·exact kM _ _
   ·exact lC _ _ _
theorem Qg{n:Nat}(d:zV n):yP (af n):=⟨Sd d.hi,by have:=d.hi;show 8*(n/64)<=_;omega⟩
theorem Eo{eb:Nat}{e0 e:Int}{k:HP}(w:dA h eb)(r:rd h eb=[vI e0])(H:∀ h',xN eb h h' [vI e]->k h'):bD ⟨eb,0,none⟩ (vI e) h k:=
 bD.intro w (by rw[r];exact uM) λh' d=>by rw[r]at d;exact H h' d
end Fi
namespace Fi
open Hp W Ad Tm Spc Re Av Rg
open Hd (ints)
open In (lT aj aO qH tH)
open Ino (getM mE yP cZ)
open Bm (bT bR lC)
theorem uQ{T:TM}{g:G}(h:(getM T g n).2=0):qH (getM T g n).1=true:=by
 unfold getM at h ⊢
 split
 ·rename_i y;rw[if_pos y]at h;exact absurd h dX
 ·rename_i y;rw[if_neg y]at h
  split
  ·rename_i z;rw[if_pos z]at h;exact absurd h z
  ·rename_i z;rw[if_neg z]at h;unfold tH at h ⊢
   split
   ·rename_i w;rw[if_pos w]at h;exact absurd h dX
   ·rename_i w;rw[if_neg w]at h
    split
    ·rename_i v;unfold In.uN at v;rw[dB]at v;exact v.2
    ·rename_i v;rw[if_neg v]at h;exact absurd h dX
end Fi
namespace Fi
open Hp W Ad Tm Spc Re Av Rg
open Hd (ints)
open In (lT aj aO qH tH)
open Ino (getM mE yP cZ)
open Bm (bT bR lC tY oH cM)
theorem wE(T:TM)(R:List Int)(s:Nat×Nat)(a:Int)(b:cC)(v:Int):(oH T R s a b v).1.2.length=R.length:=by
 unfold oH
 split
 ·exact pL
 ·split
  ·exact pL
  ·split
   ·exact pL
   ·rfl
theorem zH(g:G):∀(l:List (Nat×Nat)) (T:TM) (R:List Int) (a:Int),(cM g l T R a).1.2.length=R.length
 | [],_,_,_=>rfl
 | s::r,T,R,a=>by
  unfold cM
  split
  ·rfl
  ·split
   ·split
    ·rfl
    ·exact zH g r T R _
   ·split
    ·rfl
    ·split
     ·exact wE ..
     ·split
      ·exact wE ..
      ·split
       ·exact wE ..
       ·rw[zH g r];exact wE ..
theorem vy{T:TM}{g:G}(hR:R.length=15):(bR T g R k).2.1.length=15:=by
 unfold bR
 split
 ·rfl
 ·split
  ·rfl
  ·show(cM g _ T R 0).1.2.length=15;rw[zH,hR]
end Fi
namespace In
open Hp W Su Re Hd
theorem ly{elem:TI}{n:Nat}{new:LV}{k:OA->Nat->Nat->ad->Prop}(f:Fr No h0 h)
  (s:Sl h elem.cells a l c xs (cW h0.size)) (hn:new.length=n*elem.cells) (hz:elem.zero.length=elem.cells) (hb:(l+n)*elem.bytes<=140737488355328) (pV:l+n<=140737488355328)
  (hk:∀a' c' h',Fr No h0 h'->Sl h' elem.cells a' (l+n) c' (xs++new) (cW h0.size)->k a' (l+n) c' h') :
  aJ elem e a l c n new h k:=by
 have hs:=f.size;refine cY s hn hz hb pV λa' c' h' f' s'=>hk a' c' h' (f.trans f' λb hb e=>by have:h0.size<=b:=e;omega) (s'.mono λb hb=>?_)
 rcases hb with hb|hb
 ·exact hb
 ·show h0.size<=b;omega
theorem G0(m:Nat):(Value.int .u8 (IntKind.wrap .u8 (m:Int)))=bv (UInt8.ofNat m):=by
 rw[Ls];congr 1;apply sZ.mp;rw[lX,lX];omega
theorem aeO(h0:0<=n):(Value.int .u8 (IntKind.wrap .u8 (Int.tmod n 256)))=bv (UInt8.ofNat n.toNat):=by
 have e:Int.tmod n 256=((n.toNat%256:Nat):Int):=by rw[rL h0];omega
 rw[e,G0];congr 1;apply sZ.mp;rw[lX,lX];omega
theorem jU{v lo:Int}(hK:K (.bool (decide (lo<=v) && decide (v<=hi))) h):C.cG v lo hi h K:=by
 refine cG.ok (cd (λx=>?_) λx=>?_)
 ·rw[decide_eq_true (show lo<=v from x)]at hK;exact hK
 ·rw[decide_eq_false (show ¬lo<=v from x)]at hK;exact hK
theorem Sq(r:rd h b=ints R){i:Nat}(hi:3+i<R.length):cellOf h (Addr.add (Addr.add ⟨b,0,none⟩ 3) i)=some (vI (R.getD (3+i) 0)):=by
 rw[eA];refine aZ r ?_;rw[wR,ints,jH,gh,fg hi];rfl
theorem J7(hR:R.length=15):(R.drop 3).all pq=true↔∀j,j<12->pq (R.getD (3+j) 0)=true:=by
 have e:∀j (hj:j<(R.drop 3).length),(R.drop 3)[j]=R.getD (3+j) 0:=λj hj=>by
  have:3+j<R.length:=by rw[jM]at hj;omega
  rw[RN,gh,fg this];rfl
 have ld:(R.drop 3).length=12:=by rw[jM,hR]
 constructor
 ·intro h j hj;rw[<-e j oX];exact oN.mp h _ (ff _)
 ·intro h;refine oN.mpr λx hx=>?_;obtain⟨j,hj,rfl⟩:=List.mem_iff_getElem.mp hx;rw[e j hj];exact h j oX
theorem XE(hR:R.length=15){j:Nat}(hj:j<12)(h:pq (R.getD (3+j) 0)=false):qH R=false:=by
 cases e:(R.drop 3).all pq with
 | false=>rw[qH,e];rfl
 | true=>rw[(J7 hR).mp e j hj]at h;cases h
theorem aao(hR:R.length=15)(hw:(R.drop 3).all pq=true)(r3:rd h h1.size=ints R)(hK:K (.bool (qH R)) h):gR.k1 h1 h K:=by
 have em:qH R=kindOk (R.getD 0 0) (R.getD 1 0) (R.getD 2 0) R:=by rw[qH,hw,yj]
 rw[em]at hK;unfold kindOk at hK;refine⟨_,iJ r3 oX,ce (λh0=>?_) λh0=>?_⟩
 ·rw[if_pos h0]at hK;refine⟨ints R,by rw[aj,hR],ah r3,sQ hR (S:=rG) dU,?_⟩;rw[show(z32:LV)=ints rG from rfl,Cs];exact hK
 ·rw[if_neg h0]at hK;refine ce (λh1=>?_) λh1=>?_
  ·rw[if_pos h1]at hK;refine⟨_,iJ r3 oX,jU ⟨_,rfl,?_⟩⟩
   cases hb:(decide (0<=R.getD 1 0) && decide (R.getD 1 0<=1000))with
   | false=>rw[hb]at hK;exact hK
   | true=>rw[hb]at hK;exact⟨_,iJ r3 oX,jU ⟨_,rfl,hK⟩⟩
  ·rw[if_neg h1]at hK;refine ce (λxR=>?_) λxR=>?_
   ·rw[if_pos xR]at hK;refine⟨_,iJ r3 oX,jU ⟨_,rfl,?_⟩⟩
    cases hb:(decide (2<=R.getD 1 0) && decide (R.getD 1 0<=65535))with
    | false=>rw[hb]at hK;exact hK
    | true=>
     rw[hb,yj]at hK;refine⟨_,iJ r3 oX,jU ⟨_,rfl,?_⟩⟩
     cases hc:(decide (0<=R.getD 2 0) && decide (R.getD 2 0<=8459264))with
     | false=>rw[hc]at hK;exact hK
     | true=>
      rw[hc,yj]at hK;rw[dB,decide_eq_true_eq]at hc;refine⟨_,iJ r3 oX,?_⟩;have e:(Int.tmod (R.getD 2 0) 512==0)=decide (R.getD 2 0%512=0):=(by rw[rL hc.1];rfl);rw[e];exact hK
   ·rw[if_neg xR]at hK;refine ce (λL6=>?_) λL6=>?_
    ·rw[if_pos L6]at hK;refine⟨_,iJ r3 oX,jU ⟨_,rfl,?_⟩⟩
     cases hb:(decide (1<=R.getD 1 0) && decide (R.getD 1 0<=1000))with
     | false=>rw[hb]at hK;exact hK
     | true=>rw[hb]at hK;exact⟨_,iJ r3 oX,jU ⟨_,rfl,hK⟩⟩
    ·rw[if_neg L6]at hK;exact hK
theorem UD(hR:R.length=15)(hK:∀ h',Fr No h h'->K (.bool (qH R)) h'):C.gR (ints R) h K:=by
 refine gR.ok (aC.intro λh2 n2=>?_);have hK:=hK h2 n2.fr;refine⟨λi hh=>0<=i/\i<=10/\h2=hh/\∀j,j<i.toNat->pq (R.getD (3+j) 0)=true,λi _=>((10:Nat)-i).toNat,⟨oX,oX,rfl,λj hj=>absurd hj (wm _)⟩,?_⟩;rintro i _ ⟨i0,i1,rfl,q⟩
 have bad:∀j,j<12->pq (R.getD (3+j) 0)=false->K (.bool false) h2:=λj hj e=>by
  rw[XE hR hj e]at hK;exact hK
 refine cd (λhi=>?_) λhi=>?_
 ·have hi:i<10:=hi;refine⟨⟨i0,hi⟩,_,Sq n2.rd oX,jU ⟨_,rfl,iu ?_⟩⟩
  cases hw:pq (R.getD (3+i.toNat) 0)with
  | false=>exact cf hw (bad i.toNat oX hw)
  | true=>
   rw[wrap_i64 oX oX];refine ct hw ⟨⟨oX,oX,rfl,λj hj=>?_⟩,bW (m:=10) hi⟩
   by_cases e:j<i.toNat
   ·exact q j e
   ·have:j=i.toNat:=oX;rw[this];exact hw
 ·have hi:¬i<10:=hi;have ei:i.toNat=10:=oX;rw[ei]at q;refine⟨_,iJ n2.rd oX,jU ⟨_,rfl,iu ?_⟩⟩
  cases hw:pq (R.getD 13 0)with
  | false=>exact cf hw (bad 10 oX hw)
  | true=>
   refine ct hw ⟨_,iJ n2.rd oX,jU ⟨_,rfl,iu ?_⟩⟩
   cases hx:pq (R.getD 14 0)with
   | false=>exact cf hx (bad 11 oX hx)
   | true=>
    refine ct hx (aao hR ((J7 hR).mpr λj hj=>?_) n2.rd hK)
    by_cases e:j<10
    ·exact q j e
    ·by_cases e':j=10
     ·subst e';exact hw
     ·have:j=11:=oX;subst this;exact hx
theorem Hk(k v:Nat):bo (k+1) v=bo k v++[UInt8.ofNat (v/256 ^ k)]:=by
 rw[bo,Ei,eT];rfl
theorem XF{k:Nat}(h0:0<=n)(h1:n<=9223372036854775807)(hk:k<=8)
  (hK:∀a' c' h',Fr No h h'->Sl h' 1 a' k c' ((bo k n.toNat).map bv) (cW h.size)->K (vS a' k c') h'):C.fG n (k:Int) h K:=by
 refine fG.ok ⟨λm a l c i hh=>0<=i/\i<=k/\l=i.toNat/\0<=m/\m<=9223372036854775807/\m.toNat=n.toNat/256 ^ i.toNat/\Fr No h hh/\Sl hh 1 a l c ((bo i.toNat n.toNat).map bv) (cW h.size),λ_ _ _ _ i _=>((k:Nat)-i).toNat,
  ⟨oX,oX,rfl,h0,h1,by show _=_/256 ^ 0;omega,Fr.refl _ _,Sl.nil _ _ _⟩,?_⟩
 rintro m a l c i h2 ⟨i0,i1,rfl,m0,m1,em,f2,s2⟩;refine cd (λhi=>?_) λhi=>?_
 ·have hi:i<k:=hi;refine aC.intro λh3 n3=>⟨[bv (UInt8.ofNat m.toNat)],rfl,ah (by rw[n3.rd,aeO m0]),jA [UInt8.ofNat m.toNat],ly (f2.new n3) (s2.fr n3.fr λ_ _ _ x=>x) rfl rfl (by show(i.toNat+1)*1<=_;omega) oX λa' c' h4 f4 s4=>?_⟩;have ed:Int.tdiv m 256=m/256:=nL m0;rw[ed,wq (m/256),wrap_i64 oX oX];refine⟨⟨oX,oX,oX,oX,oX,?_,f4,?_⟩,bW (m:=k) hi⟩
  ·rw[show(i+1).toNat=i.toNat+1 by omega,wk,<-GP,<-em];omega
  ·rw[show(i+1).toNat=i.toNat+1 by omega,Hk,<-em,eT];exact s4
 ·have hi:¬i<k:=hi;have:i.toNat=k:=oX;rw[this]at s2 ⊢;exact hK a c h2 f2 s2
theorem Cx{k:Nat}{xs:LB}{K:OA->Nat->Nat->ad->Prop}(hn:0<=n)(nE:n<=9223372036854775807)(hk:k<=8)(hl:l+k<=1000)(f:Fr No h0 h)
  (s:Sl h 1 a l c (xs.map bv) (cW h0.size)) (hK:∀a' c' h',Fr No h0 h'->Sl h' 1 a' (l+k) c' ((xs++bo k n.toNat).map bv) (cW h0.size)->K a' (l+k) c' h') :
  C.fG n (k:Int) h λr1 h4=>∃(aU:OA) (aI:Nat) (bw:Nat),r1 = vS aU aI bw/\
   ∃aM:LV,List.length aM=aI*1/\ak h4 aU aM/\(∀v∈aM,v.oneCell'=true)/\aJ xd 5 a l c aI aM h4 K:=by
 refine XF hn nE hk λa' c' h' f' s'=>⟨_,_,_,rfl,_,by rw[aP,bC,ph],s'.cells,jA _,?_⟩;refine ly (f.no f') (s.fr f' λ_ _ _ x=>x) (by rw[aP,bC];show k=k*1;omega) rfl (by show(l+k)*1<=_;omega) oX λa2 c2 h2 f2 s2=>hK a2 c2 h2 f2 ?_;rw[eT];exact s2
theorem Qh(hR:R.length=15)(hm:qH R=true)
  (hK:∀a' c' h',Fr No h h'->Sl h' 1 a' 64 c' ((ng R).map bv) (cW h.size)->K (vS a' 64 c') h'):C.kE (ints R) h K:=by
 obtain⟨k0,k1,l0,l1,z0,z1,hw⟩:=yO hR hm
 have hx:∀j,j<12->0<=R.getD (3+j) 0/\R.getD (3+j) 0<=4294967295:=λj hj=>by
  have rA:3+j<R.length:=oX
  have e:R.getD (3+j) 0=(R.drop 3)[j]'(by rw[jM];omega):=by
   rw[RN,gh,fg rA];rfl
  rw[e];exact hw _ (ff _)
 have tk:∀j,j<12->(R.drop 3).take (j+1)=(R.drop 3).take j++[R.getD (3+j) 0]:=λj hj=>by
  have rA:3+j<R.length:=oX;rw[jJ (by rw[jM];omega),RN,gh,fg rA];rfl
 have fk:∀j,j<12->cU ((R.drop 3).take (j+1))=cU ((R.drop 3).take j)++bo 4 (R.getD (3+j) 0).toNat:=λj hj=>by
  rw[tk j hj,cU,iy];show _++(bo 4 _++[])=_;rw[gi,cU]
 refine kE.ok (aC.intro λh2 n2=>⟨_,iJ n2.rd oX,aC.intro λh3 n3=>?_⟩);have s2:=n2.size;have s3:=n3.size;have F3:=n2.fr.new n3;have kd:∀{hq:ad},Fr No h2 hq->rd hq h.size=ints R:=λfq=>(fq.rd n2.own.lt λx=>x).trans n2.rd
 have eK:(Value.int .u8 (IntKind.wrap .u8 (R.getD 0 0)))=bv (UInt8.ofNat (R.getD 0 0).toNat):=by
  rw[<-G0,abW k0]
 have b3:Sl h3 1 (some (bA h2)) 2 2 ((bo 1 (R.getD 0 0).toNat++[0]).map bv) (cW h2.size):=
  Sl.made (zs:=[]) n3 (by rw[Fo,eK];rfl) (bE _) (by rw[Fo];rfl) (bE _) rfl
 refine⟨_,iJ (kd n3.fr) oX,Cx (k:=2) l0 oX oX oX n3.fr b3 λa5 c5 h5 f5 s5=>⟨_,iJ (kd f5) oX,Cx (k:=4) z0 oX oX oX f5 s5 λa7 c7 h7 f7 s7=>?_⟩⟩;generalize hH:(bo 1 (R.getD 0 0).toNat++[0])++bo 2 (R.getD 1 0).toNat++bo 4 (R.getD 2 0).toNat=H at s7;have eH:ng R=H++(cU (R.drop 3)++aV 8):=by rw[ng,<-hH];simp only[iW]
 clear hH
 refine⟨λa l c i hh=>0<=i/\i<=10/\l=8+4*i.toNat/\Fr No h2 hh/\Sl hh 1 a l c ((H++cU ((R.drop 3).take i.toNat)).map bv) (cW h2.size),λ_ _ _ i _=>((10:Nat)-i).toNat,
  ⟨oX,oX,rfl,f7,by show Sl h7 1 _ _ _ ((H++[]).map bv) _;rw[gi];exact s7⟩,?_⟩
 rintro a8 l8 c8 i h8 ⟨i0,i1,rfl,f8,s8⟩;refine cd (λhi=>?_) λhi=>?_
 ·have hi:i<10:=hi;have hb:=hx i.toNat oX;refine⟨⟨i0,hi⟩,_,Sq (kd f8) oX,Cx (k:=4) hb.1 oX oX oX f8 s8 λa9 c9 h9 f9 s9=>?_⟩;rw[wrap_i64 oX oX];refine⟨⟨oX,oX,oX,f9,?_⟩,bW (m:=10) hi⟩;rw[show(i+1).toNat=i.toNat+1 by omega,fk _ oX,<-iW];exact s9
 ·have hi:¬i<10:=hi;have ei:i.toNat=10:=oX;rw[ei]at s8 ⊢;refine⟨_,iJ (kd f8) oX,Cx (k:=4) (hx 10 oX).1 (Int.le_trans (hx 10 oX).2 dX) oX oX f8 s8 λa9 c9 h9 f9 s9=>?_⟩;refine⟨_,iJ (kd f9) oX,Cx (k:=4) (hx 11 oX).1 (Int.le_trans (hx 11 oX).2 dX) oX oX f9 s9 λa10 c10 bG f10 Pu=>?_⟩;refine aC.intro λcu n11=>⟨(aV 8).map bv,rfl,ah n11.rd,jA _,ly (f10.new n11) (Pu.fr n11.fr λ_ _ _ x=>x) rfl rfl dX dX λa12 LG bf f12 H5=>?_⟩;refine hK a12 LG bf (n2.fr.no f12) ?_;have e12:R.drop 3=(R.drop 3).take 12:=(gL (by rw[jM];omega)).symm;rw[eH,e12,fk 11 oX,fk 10 oX];rw[<-eT]at H5;simp only[iW]at H5 ⊢;exact H5.mono λb hb=>by have:h2.size<=b:=hb;show h.size<=b;omega
theorem xp(hR:R.length=15)(hN:qH R=false->∀ h',Fr No h h'->K (.tuple #[vS none 0 0,vI 111]) h')
  (hK:qH R=true->∀a' c' h',Fr No h h'->Sl h' 1 a' 64 c' ((ng R).map bv) (cW h.size)->K (.tuple #[vS a' 64 c',vI 0]) h'):C.fR (ints R) h K:=by
 refine fR.ok (aC.intro λh2 n2=>⟨ints R,by rw[aj,hR],ah n2.rd,UD hR λh3 f3=>⟨_,rfl,iu ?_⟩⟩);have s2:=n2.size;have s3:=f3.size;have F3:=n2.fr.no f3;have r3:rd h3 h.size=ints R:=(f3.rd n2.own.lt λx=>x).trans n2.rd
 cases hm:qH R with
 | false=>exact hN hm h3 F3
 | true=>exact ct rfl ⟨ints R,by rw[aj,hR],ah r3,Qh hR hm λa' c' h4 f4 s4=>⟨_,_,_,rfl,hK hm a' c' h4 (F3.no f4) (s4.mono λb hb=>by have:h3.size<=b:=hb;show h.size<=b;omega)⟩⟩
theorem lA(B:av h a l bs)(hl:l<=7)(hK:K (vI (py bs:Int)) h):C.bp a l c h K:=by
 have hb:=B.1;refine bp.ok ?_;unfold bp;rw[wrap_i64 oX oX];refine⟨λn i hh=>-1<=i/\i<l/\h=hh/\n=(py (bs.drop (i+1).toNat):Int),λ_ i _=>(i+1).toNat,⟨oX,oX,rfl,?_⟩,?_⟩
 ·rw[show((l:Int)-1+1).toNat=bs.length by omega,xG];rfl
 rintro n i _ ⟨i0,i1,rfl,rfl⟩;refine cd (λhi=>?_) λhi=>?_
 ·have hi:0<=i:=hi;have hib:i.toNat<bs.length:=oX
  obtain⟨p,rfl,c5⟩:∃p,a=some p/\cellOf h (p.add i.toNat)=some (bv bs[i.toNat]):=by
   obtain⟨_,B2⟩:=B
   cases a with
   | none=>have:bs.map bv=[]:=B2;rw[qx]at this;rw[this]at hib;exact absurd hib (wm _)
   | some p=>exact⟨p,rfl,ai.cell B2 (by rw[jH,fg hib];rfl)⟩
  have ed:bs.drop i.toNat=bs[i.toNat]::bs.drop (i+1).toNat:=by rw[show(i+1).toNat=i.toNat+1 by omega];exact lh hib
  have lt1:=yD (bs.drop i.toNat);have hp:256 ^ (bs.drop i.toNat).length<=256 ^ 7:=Ec dX (by rw[jM];omega);have el:py (bs.drop i.toNat)=bs[i.toNat].toNat+256*py (bs.drop (i+1).toNat):=by rw[ed];rfl
  have h7:(256:Nat) ^ 7=72057594037927936:=by decide
  have VP:=bs[i.toNat].toNat_lt;refine⟨⟨hi,i1⟩,os ⟨_,c5,?_⟩⟩;rw[wq ((py (bs.drop (i+1).toNat):Int)*256),wq (((bs[i.toNat].toNat:Nat):Int)),wq (i-1),wrap_i64 oX oX];refine⟨⟨oX,oX,rfl,?_⟩,by show(i-1+1).toNat<(i+1).toNat;omega⟩;rw[show(i-1+1).toNat=i.toNat by omega,el];omega
 ·have hi:¬0<=i:=hi;rw[show(i+1).toNat=0 by omega,mW];exact hK
theorem aeP(xs ys:LB):((mkStr xs).toList==(mkStr ys).toList)=decide (xs=ys):=by
 rw[toList_mkStr,toList_mkStr,JR,beq_iff_eq,decide_eq_true_eq]
theorem zI{i:Nat}(B:av h a l bs)(CS:l<=c)(OK:i<=j)(hj:j<=l)(h7:j - i<=7)(hK:K (vI (kL bs i (j - i):Nat)) h) :
  C.bp (if c=i then a else Option.map (Addr.add · i) a) (j-i) (c-i) h K:=lA (av.cut B CS OK hj) h7 hK
theorem xq{h2 h9:ad}(n2:uy h1 h2 (ints rG))(B:av h2 a 64 bs)(hc:64<=c)(f:Fr No h2 h9)(hb:h2.size<=b)(w:dA h9 b)
  (r:rd h9 b=ints ((mD bs).take 3++(List.replicate 12 0++[]))) (hK:∀h',Fr No h1 h'->K (.tuple #[.agg ⟨ints (tH bs).1⟩,vI (tH bs).2]) h'):db.k1 a 64 c h1 (some ⟨b,0,none⟩) h9 K:=by
 have aeI:bs.length=64:=B.1;have gl:=oI bs;have s2:=n2.size;refine⟨λi hh=>0<=i/\i<=10/\Fr No h2 hh/\dA hh b/\rd hh b=ints ((mD bs).take (3+i.toNat)++(List.replicate (12-i.toNat) 0++[])),λi _=>((10:Nat)-i).toNat,⟨oX,oX,f,w,r⟩,?_⟩;rintro i bG ⟨i0,i1,f10,w10,E1⟩
 have ll:∀k,k<=15->(ints ((mD bs).take k++(List.replicate (15-k) 0++[]))).length=15:=λk hk=>by
  rw[aj,bg,bg,dL,dU,gl,FX];omega
 have fill:∀(k:Nat) (hk:k<15) (v:Int),(mD bs)[k]' oX=v->(ints ((mD bs).take k++(List.replicate (15-k) 0++[]))).set k (vI v)=ints ((mD bs).take (k+1)++(List.replicate (15-(k+1)) 0++[])):=λk hk v e=>by
  have:=NJ (mD bs) 0 [] k (15-k) oX oX;rw[e]at this;rw[show 15-(k+1)=15-k-1 by omega,<-this,ints,ints,yG]
 have l10:(rd bG b).length=15:=by
  have:=ll (3+i.toNat) oX;rw[E1,show 12-i.toNat=15-(3+i.toNat) by omega];exact this
 refine cd (λhi=>?_) λhi=>?_
 ·have hi:i<10:=hi;rw[wq (4*i),wq (8+4*i),wq (12+4*i),wq (i+1)];refine⟨⟨oX,oX,oX⟩,zI (av.fr f10 B λ_ _ x=>x) hc oX oX oX ⟨_,rfl,os ⟨⟨i0,hi⟩,?_⟩⟩⟩;rw[eA];refine bD.add w10 oX λbf d12=>⟨⟨oX,oX,f10.did d12 λbV=>oX,d12.own,?_⟩,bW (m:=10) hi⟩;have e:=fill (3+i.toNat) oX _ (Cu bs (i:=i.toNat) oX oX)
  rw[d12.rd,E1,show 0+3+i.toNat=3+i.toNat by omega,show 12-i.toNat=15-(3+i.toNat) by omega,show 3+(i+1).toNat=3+i.toNat+1 by omega,show 12-(i+1).toNat=15-(3+i.toNat+1) by omega,<-e,
   show(8+4*i).toNat=8+4*i.toNat by omega,show(12+4*i).toNat-(8+4*i.toNat)=4 by omega]
 ·have hi:¬i<10:=hi;have ei:i.toNat=10:=oX;rw[ei]at E1;refine⟨⟨oX,oX,oX⟩,zI (av.fr f10 B λ_ _ x=>x) hc dX dX dX ⟨_,rfl,os (bD.add w10 oX λcX d14=>?_)⟩⟩;have e13:=fill 13 oX _ (Cu bs (i:=10) oX oX);have YK:rd cX b=ints ((mD bs).take 14++(List.replicate 1 0++[])):=by rw[d14.rd,E1];exact e13
  have f14:=f10.did d14 λbV=>by omega
  refine⟨⟨oX,oX,oX⟩,zI (av.fr f14 B λ_ _ x=>x) hc dX dX dX ⟨_,rfl,os (bD.add d14.own (by rw[YK,ll 14 oX];omega) λgN d16=>?_)⟩⟩;have e14:=fill 14 oX _ (Cu bs (i:=11) oX oX)
  have Z3:rd gN b=ints (mD bs):=by
   rw[d16.rd,YK];have:ints ((mD bs).take 15++(List.replicate 0 0++[]))=ints (mD bs):=(by rw[gL oX];simp);rw[<-this];exact e14
  have f16:=f14.did d16 λbV=>by omega
  have z17:∀{hq:ad},Fr No h2 hq->dA hq h1.size/\(rd hq h1.size).length=15:=λfq=>⟨fq.own n2.own.lt (λx=>x) n2.own,by rw[fq.rd n2.own.lt (λx=>x),n2.rd];rfl⟩;refine os ⟨ints (mD bs),by rw[aj,gl],ah Z3,xp gl (λhm gO f17=>?_) λhm a17 c17 gO f17 s17=>?_⟩
  ·have Sn:=f16.no f17;refine⟨_,_,_,_,rfl,cn (λ_=>?_) λh=>absurd h dX⟩;refine jT (h3:=h1) (n2.fr.no Sn) (bE _) (z17 Sn).1 (z17 Sn).2 λh' f'=>?_;have:=hK h' f';rw[tH,if_neg oX,show uN bs=false by rw[uN,hm,yH]]at this;exact this
  ·have Sn:=f16.no f17;refine⟨_,_,_,_,rfl,cn (λh=>absurd rfl h) λ_=>⟨_,s17.str,_,av.fr Sn B λ_ _ x=>x,?_⟩⟩;rw[aeP];refine iu (cd (λhe=>?_) λhe=>?_)
   ·have Gb:=(NF aeI).mp he;have r17:rd gO b=ints (mD bs):=(f17.rd d16.own.lt λx=>x).trans Z3;refine os ?_;refine J6 (h3:=h1) gl (n2.fr.no Sn) (bE _) (z17 Sn).1 (z17 Sn).2 r17 λh' f'=>?_;have:=hK h' f';rw[tH,if_neg oX,show uN bs=true by rw[uN,hm,Gb];rfl]at this;exact this
   ·have Gb:clean bs=false:=by
     cases e:clean bs with
     | false=>rfl
     | true=>exact absurd ((NF aeI).mpr e) he
    refine jT (h3:=h1) (n2.fr.no Sn) (bE _) (z17 Sn).1 (z17 Sn).2 λh' f'=>?_;have:=hK h' f';rw[tH,if_neg oX,show uN bs=false by rw[uN,Gb,Bool.false_and]]at this;exact this
theorem LH(B:av h a l bs)(CS:l<=c)(hK:∀ h',Fr No h h'->K (.tuple #[.agg ⟨ints (tH bs).1⟩,vI (tH bs).2]) h'):C.db a l c h K:=by
 have hb:=B.1;refine db.ok (aC.intro λh2 n2=>cn (λhl=>?_) λhl=>?_)
 ·have e:tH bs=(rG,32):=by rw[tH,if_pos oX]
  rw[e]at hK;exact jT (h3:=h) n2.fr (bE _) n2.own (by rw[n2.rd];rfl) hK
 have hl:l=64:=oX;subst hl;have gl:=oI bs;have B2:=av.fr n2.fr B λ_ _ x=>x;have e3:([vI (kL bs 0 (1-0):Nat),vI (kL bs 2 (4-2):Nat),vI (kL bs 4 (8-4):Nat),vI 0,vI 0,vI 0,vI 0,vI 0,vI 0,vI 0,vI 0,vI 0,vI 0,vI 0,vI 0]:LV)
   = ints ((mD bs).take 3++(List.replicate 12 0++[])):=rfl
 have gg:∀{hq:ad} {K:KT} (i j:Nat),Fr No h2 hq->i<=j->j<=64->j-i<=7->K (vI (kL bs i (j-i):Nat)) hq->C.bp (if c=i then a else Option.map (Addr.add · i) a) (j-i) (c-i) hq K:=λi j fq h1 h2 h4 hk=>
  zI (av.fr fq B2 λ_ _ x=>x) CS h1 h2 h4 hk
 -- a block of one's own, made aeQ, takes the row
 have XG:∀{hq hr:ad} {cs:LV} {k:HP},uy hq hr (ints rG)->cs=ints ((mD bs).take 3++(List.replicate 12 0++[]))->Fr No h2 hq->(∀h',Fr No h2 h'->dA h' hq.size->rd h' hq.size=ints ((mD bs).take 3++(List.replicate 12 0++[]))->k h')->az (bA hq) cs 15 hr k:=by
  intro hq hr cs k nq ec fq hk;subst ec;have sq:=fq.size;refine az.intro nq.own (by rw[aj,bg,dL,gl];rfl) (aO _) (by rw[nq.rd];exact bE _) λh' d'=>hk h' ((fq.new nq).did d' λbV=>oX) d'.own ?_;rw[d'.rd,nq.rd];exact fu _ _ (by rw[aj,bg,dL,gl];rfl)
 refine⟨⟨oX,oX,oX⟩,⟨oX,oX,oX⟩,⟨oX,oX,oX⟩,?_⟩;refine⟨gg 0 1 (Fr.refl _ _) dX dX dX ⟨_,rfl,⟨gg 2 4 (Fr.refl _ _) dX dX dX ⟨_,rfl,⟨gg 4 8 (Fr.refl _ _) dX dX dX ⟨_,rfl,?_⟩,?_⟩⟩,?_⟩⟩,?_⟩
 ·rw[e3];exact aF.intro (by rw[aj,bg,dL,gl];rfl) (aO _) rfl λh8 n8=>xq n2 B2 CS n8.fr (bE _) n8.own n8.rd hK
 ·exact aC.intro λoM n21=>gg 4 8 n21.fr dX dX dX ⟨_,rfl,XG n21 e3 (Fr.refl _ _) λpg f23 w23 Z5=>xq n2 B2 CS f23 (bE _) w23 Z5 hK⟩
 ·exact aC.intro λoM n21=>gg 2 4 n21.fr dX dX dX ⟨_,rfl,gg 4 8 n21.fr dX dX dX ⟨_,rfl,XG n21 e3 (Fr.refl _ _) λpg f23 w23 Z5=>xq n2 B2 CS f23 (bE _) w23 Z5 hK⟩⟩
 ·exact aC.intro λoM n21=>gg 0 1 n21.fr dX dX dX ⟨_,rfl,gg 2 4 n21.fr dX dX dX ⟨_,rfl,gg 4 8 n21.fr dX dX dX ⟨_,rfl,XG n21 e3 (Fr.refl _ _) λpg f23 w23 Z5=>xq n2 B2 CS f23 (bE _) w23 Z5 hK⟩⟩⟩
end In
namespace Re
open Hp W
structure vz(b:Nat)(h h':ad)(cs:LV):Prop where
 fr:Fr (λx=>x=b) h h'
 own:dA h' b
 rd:Hp.rd h' b=cs
theorem Sl.wrote{new:LV}(s:Sl h ec (some ⟨b,o,none⟩) l c xs F)(hj:j+new.length<=l*ec)
  (d:vz b h h' (put (rd h b) (o+j) new)):Sl h' ec (some ⟨b,o,none⟩) l c (put xs j new) F:=by
 obtain⟨h1,a1,a2,a3,a4,a5,a6⟩:=s;have hm:l*ec<=c*ec:=yi _ a4;simp only at a2 a3 a5 a6;refine⟨by rw[dQ,h1],rfl,a2,d.own,a4,?_,?_⟩
 ·simp only[d.rd,dQ,h1];rw[MO _ _ _ _ _ hj oX,<-h1,a5]
 ·simp only[d.rd,dQ];exact a6
theorem rv : ∀(ys:LV) (X:LV) (o:Nat) (y:Value),put X o (ys++[y])=(put X o ys).set (o+ys.length) y:=by
 intro ys
 induction ys with
 | nil=>intro X o y;rfl
 | cons v r ih=>
  intro X o y;show put (X.set o v) (o+1) (r++[y])=_;rw[ih,pA,show o+1+r.length=o+(r.length+1) by omega];rfl
theorem Cy : ∀(ys zs:LV) (X:LV) (o:Nat),put X o (ys++zs)=put (put X o ys) (o+ys.length) zs:=by
 intro ys
 induction ys with
 | nil=>intro zs X o;rfl
 | cons v r ih=>
  intro zs X o;show put (X.set o v) (o+1) (r++zs)=_;rw[ih,pA,show o+1+r.length=o+(r.length+1) by omega];rfl
theorem Sr{at_:Int}{v:Nat}(g:In.lT h)(w:dA h b)(hw:o+l<=(rd h b).length)(hl:l<=140737488355328)(hn:n=1∨n=2∨n=4)(h0:0<=at_)(h2:at_+n<=l)
  (hv:v<256 ^ n.toNat) (hK:∀h',vz b h h' (put (rd h b) (o+at_.toNat) ((bo n.toNat v).map bv))->K (vI 0) h'):C.ja (some ⟨b,o,none⟩) l c at_ n (v:Int) h K:=by
 refine ja.ok (In.rh g oX ⟨_,rfl,iu (ct rfl (ct (decide_eq_true oX) ?_))⟩);have w8:wI (8*n)=8*n:=wrap_i64 oX oX;rw[if_neg (by rw[w8];omega)]
 have hz:Int.fdiv (v:Int) (2 ^ min (Int.toNat (wI (8*n))) 64)=0:=by
  rw[w8,show min (Int.toNat (8*n)) 64=8*n.toNat by omega]
  have e:Int.fdiv (v:Int) (2 ^ (8*n.toNat))=((v/256 ^ n.toNat:Nat):Int):=by
   rw[xj,vf _ (by exact Int.le_of_lt (Int.pow_pos dX))];simp
  rw[e,WX hv];rfl
 refine cf (by rw[hz];rfl) (uJ hl h0 oX h2 ⟨_,rfl,iu (ct rfl ?_)⟩);have hlB:=bC n.toNat v;refine⟨λk hh=>0<=k/\k<=n/\vz b h hh (put (rd h b) (o+at_.toNat) (((bo n.toNat v).take k.toNat).map bv)),λk _=>(n-k).toNat,⟨oX,oX,Fr.refl _ _,w,by rw[show(0:Int).toNat=0 from rfl,vi];rfl⟩,?_⟩;rintro k h4 ⟨k0,k1,d4⟩;refine cd (λhk=>?_) λhk=>?_
 ·rw[if_neg (by rw[wrap_i64 oX oX];omega),wq (at_+k)];refine⟨⟨oX,oX⟩,os (bD.add d4.own (by rw[d4.rd,dQ];omega) λh5 d5=>?_)⟩;have hkB:k.toNat<(bo n.toNat v).length:=oX;have eb:=Lj v k.toNat oX;rw[show((k.toNat:Nat):Int)=k by omega]at eb;rw[eb]at d5;rw[wq (k+1)];refine⟨⟨oX,oX,d4.fr.did d5 (λ_=>rfl),d5.own,?_⟩,by show(n-(k+1)).toNat<(n-k).toNat;omega⟩;have T8:((bo n.toNat v).take k.toNat).length=k.toNat:=by rw[dL];omega
  have ee:(bo n.toNat v)[k.toNat]=UInt8.ofNat (v/256 ^ k.toNat):=by simp only[bo,mu,yB]
  rw[d5.rd,d4.rd,show(k+1).toNat=k.toNat+1 by omega,jJ hkB,eT,BV,ee,rv,aP,T8,show o+(at_+k).toNat=o+at_.toNat+k.toNat by omega]
 ·have:k=n:=oX;subst this;rw[gL oX]at d4;exact hK h4 d4
theorem NR{ss:LB}{at_:Int}(w:dA h b)(hw:o+l<=(rd h b).length)(CS:l<=c)(hl:l<=140737488355328)(hn:(ss.length:Int)<=n)(Pz:0<ss.length)(h0:0<=at_)(hle:at_+n<=l)(hz:∀ x ∈ ss,x≠0)
  (hK:∀h',vz b h h' (put (rd h b) (o+at_.toNat) ((ss++List.replicate (n.toNat-ss.length) 0).map bv))->K (vI 0) h'):C.j5 (some ⟨b,o,none⟩) l c at_ n (mkStr ss) h K:=by
 have lV:(mkStr ss).size=ss.length:=rfl;refine j5.ok (cf (decide_eq_false oX) (cf (decide_eq_false (by rw[lV];omega)) λcap FH=>?_));rw[toList_mkStr];generalize hh2:vG h (ss.map bv++List.replicate (cap-(mkStr ss).size) (bv 0)) 5=h2
 have f2:Fr No h h2:=by
  subst hh2;exact⟨by simp[vG],λx hx _=>by simp[vG,zT,show x≠h.size by omega]⟩
 have r2:rd h2 h.size=ss.map bv++List.replicate (cap-(mkStr ss).size) (bv 0):=by
  subst hh2;simp[rd,vG]
 have B2:av h2 (some (bA h)) ss.length ss:=⟨rfl,yt (by rw[r2,mW,tL])⟩;have w2:=f2.own w.lt (λx=>x) w;have rb:rd h2 b=rd h b:=f2.rd w.lt λx=>x;rw[lV];refine GC B2 oX hz ⟨_,rfl,cf (decide_eq_false oX) (uJ hl h0 oX hle ⟨_,rfl,iu (ct rfl ?_)⟩)⟩;rw[wq (at_+n)];refine⟨⟨h0,oX,oX⟩,?_⟩;have hci:c≠at_.toNat:=oX;rw[if_neg hci,OW,eA];have e1:(at_+n).toNat-at_.toNat=n.toNat:=oX;rw[e1];have em:min (mkStr ss).size n.toNat=ss.length:=by rw[lV];omega
 refine⟨trivial,?_,?_⟩
 ·show KB h2 _ 0 (min (mkStr ss).size n.toNat);rw[em];simp only[KB,Addr.add_zero];exact AV w2 (by rw[rb];omega)
 rw[em,toList_mkStr,mZ]
 have d5:xN b h2 (sS h2 (some ⟨b,o+at_.toNat,none⟩) 0 (ss.map bv)) (put (rd h2 b) (o+at_.toNat) (ss.map bv)):=by
  simp only[sS,Addr.add_zero];exact⟨Hp.size_setRow _ _ _ _,Fr.setRow (F:=λx=>x=b) (Or.inl rfl) (Fr.refl _ h2),nU w2,by rw[jO,Nat.add_zero]⟩
 generalize sS h2 (some ⟨b,o+at_.toNat,none⟩) 0 (ss.map bv)=h5 at d5;rw[rb]at d5;have f5:Fr (λx=>x=b) h h5:=(f2.mono λ_ _ x=>x.elim).did d5 λ_=>rfl;show(0<=wI (at_+((ss.length:Nat):Int))/\wI (at_+((ss.length:Nat):Int))<=at_+n/\at_+n<=(c:Int))/\_;rw[wq (at_+((ss.length:Nat):Int))];refine⟨⟨oX,oX,oX⟩,?_⟩;have e2:(at_+n).toNat-(at_+(ss.length:Int)).toNat=n.toNat-ss.length:=oX;have e3:(at_+(ss.length:Int)).toNat=at_.toNat+ss.length:=oX;rw[e2,e3]
 by_cases hk:n.toNat-ss.length=0
 ·rw[hk];have wr0:∀(a:OA),KB h5 a 0 0:=λa=>by cases a with|none=>rfl|some p=>exact λi hi=>absurd hi (wm _)
  have st0:∀(a:OA),sS h5 a 0 []=h5:=λa=>by cases a <;> rfl
  refine⟨trivial,wr0 _,?_⟩;show K _ (sS h5 _ 0 (aL _ 0));have e3:∀z,z=[Value.int .u8 0]->aL z 0=[]:=λz hz=>by subst hz;rfl
  rw[show aL xd.zero 0=[] from e3 _ rfl,st0];refine hK h5 ⟨f5,d5.own,?_⟩;rw[d5.rd,hk,List.replicate_zero,gi]
 ·rw[if_neg oX,OW,eA];have l5:(rd h5 b).length=(rd h b).length:=by rw[d5.rd,dQ]
  have aeR:∀m,aL [Value.int .u8 0] m=(List.replicate m (0:UInt8)).map bv:=λm=>by
   induction m with
   | zero=>rfl
   | succ m ih=>rw[uW,lI,<-ih];rfl
  refine⟨trivial,?_,?_⟩
  ·rw[show(xd).cells=1 from rfl,ph];simp only[KB,Addr.add_zero];exact AV d5.own (by rw[l5];omega)
  show K _ (sS h5 _ 0 (aL [Value.int .u8 0] (n.toNat-ss.length)));rw[aeR];simp only[sS,Addr.add_zero];refine hK _ ⟨Fr.setRow (F:=λx=>x=b) (Or.inl rfl) f5,nU d5.own,?_⟩;rw[jO,Nat.add_zero,d5.rd,eT,Cy,aP];congr 1;omega
end Re
namespace Sk
open Go Go.Proofs Re
theorem rq(n v:Nat):bo (n+1) v=UInt8.ofNat v::bo n (v/256):=by
 rw[bo,List.range_succ_eq_map,lI,qJ];congr 1
 ·rw[Nat.pow_zero,Nat.div_one]
 ·rw[bo];apply Fu;intro k _;show UInt8.ofNat (v/256 ^ (k+1))=UInt8.ofNat (v/256/256 ^ k);rw[wk,BU,GP]
theorem xo : ∀(bs:LB),bo bs.length (py bs)=bs:=by
 intro bs
 induction bs with
 | nil=>rfl
 | cons b r ih=>
  have hb:b.toNat<256:=b.toNat_lt;rw[pA,rq,py,show(b.toNat+256*py r)/256=py r by omega,ih];congr 1;apply sZ.mp;rw[lX];omega
theorem Fm : ∀(n v:Nat),v<256 ^ n->py (bo n v)=v:=by
 intro n
 induction n with
 | zero=>
  intro v h;have e:v=0:=by simpa using h
  rw[e];rfl
 | succ n ih=>
  intro v h;rw[rq,py,ih (v/256) (by rw[wk]at h;omega),lX];omega
theorem yQ(h:im bs=true):bs=List.replicate bs.length 0:=by
 induction bs with
 | nil=>rfl
 | cons b r ih=>
  rw[im,Mc,dB]at h;have hb:b=0:=by simpa using h.1
  have:=ih h.2;rw[pA,uW,hb];exact congrArg _ this
theorem NS(n:Nat):im (List.replicate n 0)=true:=by
 rw[im,oN];intro x hx;rw[List.eq_of_mem_replicate hx];rfl
abbrev cC :=LB
def cm(s:cC):Bool:=decide (1<=s.length) && decide (s.length<=27) && (s != [46]) && (s != [46,46]) && s.all (λb=>b != 47 && b != 0)
structure Qi(s:cC):Prop where
 pos:1<=s.length
 le:s.length<=27
 dot:s≠[46]
 ail:s≠[46,46]
 all:∀b∈s,b≠47/\b≠0
theorem kO{s:cC}:cm s=true↔Qi s:=by
 constructor
 ·intro h;simp only[cm,dB,decide_eq_true_eq,bne_iff_ne,ne_eq,oN]at h;obtain⟨⟨⟨⟨h1,h2⟩,h3⟩,h4⟩,h5⟩:=h;exact⟨h1,h2,h3,h4,h5⟩
 ·rintro⟨h1,h2,h3,h4,h5⟩;simp only[cm,dB,decide_eq_true_eq,bne_iff_ne,ne_eq,oN];exact⟨⟨⟨⟨h1,h2⟩,h3⟩,h4⟩,h5⟩
def form(i:Nat)(s:cC):LB:=if i=0 then List.replicate 32 0 else bo 4 i++(UInt8.ofNat s.length::(s++List.replicate (27-s.length) 0))
def Good(x:Nat×cC):Prop:=(x.1=0/\x.2=[])∨(1<=x.1/\x.1<4294967296/\cm x.2=true)
def one(c:LB):Option (Nat×cC):=
 if py (c.take 4)=0 then(if im c then some (0,[])else none)
 else if(c.getD 4 0).toNat<1∨27<(c.getD 4 0).toNat then none
 else if im (c.drop (5+(c.getD 4 0).toNat)) && cm ((c.drop 5).take (c.getD 4 0).toNat)then some (py (c.take 4),(c.drop 5).take (c.getD 4 0).toNat)else none
theorem qA{x:Nat×cC}(g:Good x):(form x.1 x.2).length=32:=by
 unfold form
 rcases g with⟨h1,_⟩|⟨h1,h2,h3⟩
 ·rw[if_pos h1,dU]
 ·have:=(kO.mp h3).le;rw[if_neg oX,bg,bC,pA,bg,dU];omega
theorem zJ : Good (0,[]):=Or.inl ⟨rfl,rfl⟩
theorem Hl{x:Nat×cC}(g:Good x):one (form x.1 x.2)=some x:=by
 obtain⟨i,s⟩:=x
 rcases g with⟨h1,h2⟩|⟨h1,h2,h3⟩
 ·have h1:i=0:=h1;have h2:s=[]:=h2;subst h1;subst h2;decide +kernel
 ·have h1:1<=i:=h1;have h2:i<4294967296:=h2;have h3:cm s=true:=h3;have hn:=kO.mp h3;have hp:=hn.pos;have hl:=hn.le;have e0:form i s=bo 4 i++(UInt8.ofNat s.length::(s++List.replicate (27-s.length) 0)):=by rw[form,if_neg oX]
  have l4:=bC 4 i;have e1:(form i s).take 4=bo 4 i:=by rw[e0,WV oX,gL oX]
  have e2:(form i s).getD 4 0=UInt8.ofNat s.length:=by
   rw[e0,gh,List.getElem?_append_right oX,l4];rfl
  have e3:(UInt8.ofNat s.length).toNat=s.length:=by rw[lX];omega
  have e4:(form i s).drop 5=s++List.replicate (27-s.length) 0:=by
   rw[e0,abT,l4];rw[qY oX];rfl
  have e5:(form i s).drop (5+s.length)=List.replicate (27-s.length) 0:=by rw[<-Bv,e4,Ae]
  show one (form i s)=some (i,s);unfold one;rw[e1,Fm 4 i oX,if_neg oX,e2,e3,if_neg oX,e5,NS,e4,tL,h3];rfl
theorem NT{c:LB}{x:Nat×cC}(hc:c.length=32)(h:one c=some x):Good x/\c=form x.1 x.2:=by
 unfold one at h;have lt:py (c.take 4)<256 ^ (c.take 4).length:=yD _;have l4:(c.take 4).length=4:=by rw[dL];omega
 rw[l4]at lt
 split at h
 ·split at h
  ·rename_i hz;obtain rfl:=Option.some.inj h;refine⟨zJ,?_⟩;have:=yQ hz;rw[hc]at this;exact this
  ·cases h
 ·rename_i h0
  split at h
  ·cases h
  ·rename_i h1
   split at h
   ·rename_i h2;rw[dB]at h2;obtain⟨hz,hn⟩:=h2;obtain rfl:=Option.some.inj h;refine⟨Or.inr ⟨by show 1<=py _;omega,by show py _<_;omega,hn⟩,?_⟩;have h4:4<c.length:=oX;generalize hN:(c.getD 4 0).toNat=n at *
    have en:UInt8.ofNat n=c[4]:=by
     rw[<-hN,gh,fg h4];apply sZ.mp;have:=(c[4]).toNat_lt;rw[lX];show(c[4]).toNat%256=_;omega
    have ls:((c.drop 5).take n).length=n:=(by rw[dL,jM];omega);have hz:=yQ hz;rw[jM,hc,show 32-(5+n)=27-n by omega]at hz;show c=form (py (c.take 4)) ((c.drop 5).take n);rw[form,if_neg h0,ls,en,<-hz]
    have e1:bo 4 (py (c.take 4))=c.take 4:=by
     have:=xo (c.take 4);rw[l4]at this;exact this
    rw[e1,<-Bv,qP,<-lh h4,qP]
   ·cases h
def dec : Nat->LB->Option (List (Nat×cC))
 | 0,_=>some []
 | n+1,b=>match one (b.take 32)with
  | none=>none
  | some x=>(dec n (b.drop 32)).map (x :: ·)
def blk(hs:List (Nat×cC)):LB:=hs.flatMap λx=>form x.1 x.2
theorem Hm(x:Nat×cC)(r:List (Nat×cC)):blk (x::r)=form x.1 x.2++blk r:=rfl
theorem Hn{hs:List (Nat×cC)}(g:∀ x ∈ hs,Good x):(blk hs).length=32*hs.length:=by
 induction hs with
 | nil=>rfl
 | cons x r ih=>
  rw[Hm,bg,qA (g x (kj ..)),ih λy hy=>g y (gV _ hy),pA];omega
theorem St{hs:List (Nat×cC)}(g:∀ x ∈ hs,Good x):dec hs.length (blk hs)=some hs:=by
 induction hs with
 | nil=>rfl
 | cons x r ih=>
  have gx:=g x (kj ..);have l:=qA gx;rw[pA,dec,Hm,show List.take 32 (form x.1 x.2++blk r)=form x.1 x.2 by rw[<-l,tL],Hl gx];show(dec r.length (List.drop 32 (form x.1 x.2++blk r))).map _=_;rw[show List.drop 32 (form x.1 x.2++blk r)=blk r by rw[<-l,Ae],ih λy hy=>g y (gV _ hy)];rfl
theorem Cz : ∀{n:Nat} {b:LB} {hs:List (Nat×cC)},b.length=32*n->dec n b=some hs->hs.length=n/\(∀x∈hs,Good x)/\b=blk hs:=by
 intro n
 induction n with
 | zero=>
  intro b hs hl h;obtain rfl:=Option.some.inj h;refine⟨rfl,λx hx=>absurd hx (by simp),?_⟩;exact TK.mp oX
 | succ n ih=>
  intro b hs hl h;rw[dec]at h;have l1:(b.take 32).length=32:=by rw[dL];omega
  cases ho:one (b.take 32)with
  | none=>rw[ho]at h;cases h
  | some x=>
   rw[ho]at h;obtain⟨r,hr,rfl⟩:=Option.map_eq_some_iff.mp h;obtain⟨a1,a2,a3⟩:=ih (by rw[jM];omega) hr;obtain⟨g,e⟩:=NT l1 ho;refine⟨by rw[pA,a1],λy hy=>?_,?_⟩
   ·rcases fO.mp hy with rfl|hy
    ·exact g
    ·exact a2 y hy
   ·rw[Hm,<-e,<-a3,qP]
theorem NU{b:LB}{k:Nat}(hk:k<16):dec (16-k) (b.drop (32*k))=match one ((b.drop (32*k)).take 32)with
  | none=>none
  | some x=>(dec (16-(k+1)) (b.drop (32*(k+1)))).map (x :: ·):=by
 rw[show 16-k=(16-(k+1))+1 by omega,dec,Bv,show 32*k+32=32*(k+1) by omega]
structure E where
 place:Int
 name:cC
 inode:Int
deriving DecidableEq
def iw : Nat->List (Nat×cC)->List E
 | _,[]=>[]
 | k,x::r=>if x.1=0 then iw (k+1) r else⟨k,x.2,x.1⟩::iw (k+1) r
theorem yR : ∀(a b:List (Nat×cC)) (k:Nat),iw k (a++b)=iw k a++iw (k+a.length) b:=by
 intro a
 induction a with
 | nil=>intro b k;rfl
 | cons x r ih=>
  intro b k;rw[abU,iw,iw,ih,pA,show k+1+r.length=k+(r.length+1) by omega]
  split <;> rfl
theorem uR : ∀(hs:List (Nat×cC)) (k:Nat) (e:E),e∈iw k hs->(k:Int)<=e.place/\e.place<k+hs.length/\∃x∈hs,x.1≠0/\e.name=x.2/\e.inode=x.1:=by
 intro hs
 induction hs with
 | nil=>intro k e h;exact absurd h (by simp[iw])
 | cons x r ih=>
  intro k e h;rw[iw]at h
  split at h
  ·obtain⟨h1,h2,y,h3,h4⟩:=ih _ _ h;rw[pA];exact⟨oX,oX,y,gV _ h3,h4⟩
  ·rename_i h0;rw[pA]
   rcases fO.mp h with rfl|h
   ·refine⟨by show(k:Int)<=k;omega,by show(k:Int)<_;omega,x,kj ..,h0,rfl,rfl⟩
   ·obtain⟨h1,h2,y,h3,h4⟩:=ih _ _ h;exact⟨oX,oX,y,gV _ h3,h4⟩
def low : Nat->List (Nat×cC)->Int
 | _,[]=>-1
 | k,x::r=>if x.1=0 then k else low (k+1) r
end Sk
end Go.Proofs.YtlbckoblcdoceaaGreatDoor
