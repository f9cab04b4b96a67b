/- dirPlays_card -/
import Derived.Test.YtlbckoblcdoceaaGreatDoorCards
import Derived.Test.YtlbckoblcdoceaaGreatDoorTie
import Derived.Test.YtlbckoblcdoceaaGreatDoorGp5
namespace Go.Proofs.YtlbckoblcdoceaaGreatDoor
open Go Go.Proofs Wx
variable{ss bs:LB}{j r c l b o m rb bl bc cl cc cb:Nat}{i k n e place inode:Int}{h h' hh:ad}{K:KT}{a t d ba ca:OA}{xs:LV}{F:NP}{R Y:List Int}
open _root_.Nat renaming add_zero->DV,le_refl->bE,sub_self->uH,zero_add->wR,eq_zero_or_pos->aca,mul_one->ph,div_le_self->Ep,zero_le->bN,zero_lt_one->uM,le_add_right->kM
open _root_.Bool renaming and_eq_true->dB,or_eq_true->BM,false_or->Ho,true_and->yj,and_false->yH,eq_iff_iff->JR
open _root_.UInt8 renaming toNat_ofNat'->lX,toNat_inj->sZ
open _root_.Array renaming size_push->GR,getElem?_push->zT
open _root_.Int renaming toNat_natCast->cA,tdiv_eq_ediv_of_nonneg->nL
open _root_.List renaming length_append->bg,length_set->pL,length_replicate->dU,getElem?_eq_getElem->fg,length_map->aP,take_succ_eq_append_getElem->jJ,take_of_length_le->gL,length_range->xE,mem_map->jc,getElem?_map->jH,getElem?_range->acb,take_append_drop->qP,any_append->Hr,drop_eq_getElem_cons->lh,any_cons->wo,drop_of_length_le->qY,length_cons->pA,mem_cons->fO,not_mem_nil->nT,drop_zero->mW,getD_eq_getElem?_getD->gh,length_take->dL,length_drop->jM,length_singleton->ik,flatMap_append->iy,append_nil->gi,mem_cons_self->kj,mem_cons_of_mem->gV,length_nil->FX,append_assoc->iW,mem_append->nB,mem_singleton->kU,map_append->eT,replicate_succ->uW,map_cons->lI,take_length->mZ,map_singleton->BV,pairwise_cons->Ao,take_left'->acd,find?_append->Hs,find?_cons_of_neg->ace
open _root_.Option renaming map_some->OW,none_or->Ht
open _root_.Classical renaming byContradiction->rB
namespace Ch
open Hp W Re
theorem Qj(hj:j<ss.length):(mkStr ss).get! j=ss[j]:=by
 simp[mkStr,ByteArray.get!,hj]
theorem Bh{i:Nat}(hi:i<ss.length)(h:ss[i].toNat<128):Utf8.decode (mkStr ss) i=(ss[i].toNat,1):=by
 have g:=Qj hi;simp only[Utf8.decode,DV,g,if_pos (show ss[i].toNat<0x80 from h)]
theorem decode_high{i:Nat}(hi:i<ss.length)(h:128<=ss[i].toNat) :
  128<=(Utf8.decode (mkStr ss) i).1/\1<=(Utf8.decode (mkStr ss) i).2/\∀k,k<(Utf8.decode (mkStr ss) i).2->∃h:i+k<ss.length,128<=ss[i+k].toNat:=by
 have g:=Qj hi
 have c:∀k,(decide (i+k<(mkStr ss).size) && ((mkStr ss).get! (i+k)).toNat/64==2)=true->∃h:i+k<ss.length,128<=ss[i+k].toNat:=by
  intro k hk;rw[dB,decide_eq_true_eq,beq_iff_eq]at hk;have h1:i+k<ss.length:=hk.1;refine⟨h1,?_⟩;have:=hk.2;rw[Qj h1]at this;omega
 have z:∀k,k<1->∃h:i+k<ss.length,128<=ss[i+k].toNat:=by
  intro k hk;obtain rfl:k=0:=oX;exact⟨hi,h⟩
 have e:128<=Utf8.runeError:=by decide
 simp only[Utf8.decode,DV,g,if_neg (show ¬ss[i].toNat<0x80 by omega)]
 split
 ·rename_i h1;rw[dB]at h1;have c1:=c 1 h1.2
  split
  ·rename_i h2;refine⟨h2,by show 1<=2;omega,λk hk=>?_⟩;have hk:k<2:=hk;obtain rfl|rfl:k=0∨k=1:=oX
   ·exact⟨hi,h⟩
   ·exact c1
  ·exact⟨e,bE _,z⟩
 ·split
  ·rename_i _ h1;rw[dB,dB]at h1;have c1:=c 1 h1.1.2;have c2:=c 2 h1.2
   split
   ·rename_i h2;rw[dB,decide_eq_true_eq]at h2;refine⟨Nat.le_trans oX h2.1,by show 1<=3;omega,λk hk=>?_⟩;have hk:k<3:=hk;obtain rfl|rfl|rfl:k=0∨k=1∨k=2:=oX
    ·exact⟨hi,h⟩
    ·exact c1
    ·exact c2
   ·exact⟨e,bE _,z⟩
  ·split
   ·rename_i _ _ h1;rw[dB,dB,dB]at h1;have c1:=c 1 h1.1.1.2;have c2:=c 2 h1.1.2;have c3:=c 3 h1.2
    split
    ·rename_i h2;rw[dB,decide_eq_true_eq]at h2;refine⟨Nat.le_trans oX h2.1,by show 1<=4;omega,λk hk=>?_⟩;have hk:k<4:=hk;obtain rfl|rfl|rfl|rfl:k=0∨k=1∨k=2∨k=3:=oX
     ·exact⟨hi,h⟩
     ·exact c1
     ·exact c2
     ·exact c3
    ·exact⟨e,bE _,z⟩
   ·exact⟨e,bE _,z⟩
theorem NV{r:Int}(h:128<=r):∃l b,Utf8.encode r=mkStr (l++[b])/\1<=l.length/\l.length<=3/\128<=b.toNat:=by
 have hc:128<=(if Utf8.valid r then r.toNat else Utf8.runeError):=by
  split
  ·omega
  ·show 128<=65533;omega
 have hb:∀c:Nat,128<=(UInt8.ofNat (0x80+c%64)).toNat:=λc=>by rw[lX];omega
 unfold Utf8.encode;dsimp only;generalize(if Utf8.valid r=true then r.toNat else Utf8.runeError)=c at hc ⊢;rw[if_neg oX]
 split
 ·exact⟨[_],_,rfl,by simp,by simp,hb _⟩
 ·split
  ·exact⟨[_,_],_,rfl,by simp,by simp,hb _⟩
  ·exact⟨[_,_,_],_,rfl,by simp,by simp,hb _⟩
def Er : LB:=[47,0]
def oK(b:UInt8):Bool:=b==47 || b==0
theorem Sv(o:Obj):Fr No h (h.push o):=⟨by rw[GR];omega,λb hb _=>by rw[zT,if_neg oX]⟩
theorem NW(o:Obj):(h.push o)[h.size]?=some o:=by rw[zT,if_pos rfl]
theorem Po.intro{s:ByteArray}{k:HP}(H:∀ h',Fr No h h'->h'.size=h.size+1->h'[h.size]?=some (.stringIter s 0)->k h'):Po s h k:=H _ (Sv _) (GR _) (NW _)
theorem NX{pos:Nat}(h:pos<2):Utf8.decode (mkStr Er) pos=((Er[pos]'h).toNat,1)/\(Er[pos]'h).toNat<128:=by
 obtain rfl|rfl:pos=0∨pos=1:=oX
 ·exact⟨Bh (ss:=Er) (i:=0) dX (by show(47:UInt8).toNat<128;decide),by show(47:UInt8).toNat<128;decide⟩
 ·exact⟨Bh (ss:=Er) (i:=1) dX (by show(0:UInt8).toNat<128;decide),by show(0:UInt8).toNat<128;decide⟩
theorem yS{c:UInt8}(hK:K (vI (wU ss c)) h):C.fA (mkStr ss) (c.toNat:Int) h K:=by
 refine fA.ok (dd.ok ⟨rfl,_,rfl,?_⟩)
 have e:UInt8.ofNat ((c.toNat:Int)).toNat=c:=by
  rw[cA];apply sZ.mp;have:=c.toNat_lt;rw[lX];omega
 rw[toList_mkStr,e];exact hK
theorem Hu(hr:r<=1114111)(hK:∀ h' n,Fr No h h'->decide (n>=0)=(decide (r=47) || decide (r=0))->K (vI n) h'):C.bZ (mkStr Er) (r:Int) h K:=by
 generalize hri:((r:Nat):Int)=ri;refine bZ.ok (ct (decide_eq_true oX) (cd (λbV=>?_) λTG=>?_))
 ·have e:IntKind.wrap .u8 ri=((UInt8.ofNat r).toNat:Int):=by
   rw[wrap_u8 oX oX,lX];omega
  rw[e];refine yS ⟨_,rfl,hK h _ (Fr.refl _ _) ?_⟩;have:∀k:Fin 128,decide (wU Er (UInt8.ofNat k.val)>=0)=(decide (k.val=47) || decide (k.val=0)):=by decide +kernel
  exact this ⟨r,oX⟩
 ·have no:(decide (r=47) || decide (r=0))=false:=by
   rw[decide_eq_false oX,decide_eq_false oX];rfl
  rw[no]at hK;have fin:∀h',Fr No h h'->K (vI (-1)) h':=λh' f=>hK h' (-1) f dX;refine ce (λ_=>?_) λfP=>?_
  ·refine Po.intro λh3 f3 _ g3=>?_;refine⟨λhh=>∃pos,Fr No h hh/\hh[h.size]?=some (.stringIter (mkStr Er) pos),λhh=>match hh[h.size]? with|some (.stringIter _ pos)=>2-pos|_=>0,⟨0,f3,g3⟩,?_⟩;rintro h4 ⟨pos,f4,g4⟩;refine⟨rfl,_,_,g4,λhp h5 it=>?_,λ_=>fin h4 f4⟩;have hp:pos<2:=hp;obtain⟨e1,e2⟩:=NX hp;have f5:Fr No h h5:=f4.trans (G:=λx=>x=h.size) ⟨by rw[it.size];exact bE _,λb _ hb=>it.same b hb⟩ (λb hb e=>oX);refine ce (λx=>?_) λ_=>⟨⟨_,f5,it.at_⟩,?_⟩
   ·exfalso;rw[e1]at x;have x:(((Er[pos]'hp).toNat:Nat):Int)=65533:=x;omega
   ·have i1:h5[h.size]?=some (.stringIter (mkStr Er) (pos+(Utf8.decode (mkStr Er) pos).2)):=it.at_;rw[e1]at i1;simp only[i1,g4];omega
  ·have vr:∀(K':KT),(∀b,K' (.bool b) h)->C.dK ri h K':=λK' hk=>by
    refine dK.ok (ct (decide_eq_true oX) (cd (λ_=>hk _) λ_=>cd (λ_=>cd (λ_=>hk _) λ_=>hk _) λ_=>hk _))
   refine vr _ λb=>⟨b,rfl,?_⟩
   cases b with
   | false=>exact fin h (Fr.refl _ _)
   | true=>
    show ∃_,_;obtain⟨l,b,ee,l1,l3,hb⟩:=NV (r:=ri) oX;have es:(Utf8.encode ri).size=l.length+1:=(by rw[ee];show(l++[b]).length=_;rw[bg];rfl);rw[es,wq (((l.length+1:Nat):Int)-1)];refine⟨λi hh=>h=hh/\i=l.length,λ_ _=>0,⟨rfl,oX⟩,?_⟩;rintro i _ ⟨rfl,rfl⟩;refine cd (λhi=>?_) λhi=>fin h (Fr.refl _ _);have hi:((l.length:Nat):Int)<2:=hi;have e1:l.length=1:=oX
    have gl:(Utf8.encode ri).toList[(((l.length+1:Nat):Int)-1).toNat]?=some b:=by
     rw[ee,toList_mkStr,show(((l.length+1:Nat):Int)-1).toNat=l.length by omega,List.getElem?_append_right (bE _),uH];rfl
    refine⟨⟨oX,by show((l.length:Nat):Int)<2;omega⟩,0,?_,⟨oX,oX⟩,b,gl,?_⟩
    ·rw[toList_mkStr,cA,e1];rfl
    ·refine cn (λ_=>?_) λx=>?_
     ·rw[wq (((l.length:Nat):Int)+1)];refine⟨⟨oX,by show((l.length:Nat):Int)+1<=2;omega⟩,⟨oX,oX⟩,b,gl,?_⟩
      have ex:ByteArray.extract (mkStr Er) (((l.length:Nat):Int)+1).toNat (mkStr Er).size=mkStr []:=by
       rw[show(((l.length:Nat):Int)+1).toNat=2 by omega];show(mkStr Er).extract 2 2=_;decide +kernel
      rw[ex];refine yS ⟨_,rfl,ct (decide_eq_true (by show(-1:Int)<0;decide)) (fin h (Fr.refl _ _))⟩
     ·exfalso;have x:(0:Int)=(b.toNat:Int):=x;omega
theorem Qk(s:ByteArray)(pos:Nat):(Utf8.decode s pos).1<=1114111:=by
 have v:∀c:Nat,(decide (c>=2048) && Utf8.valid (c:Int))=true->c<=1114111:=by
  intro c h;rw[dB]at h;have:=h.2;simp only[Utf8.valid,BM,dB,decide_eq_true_eq]at this;omega
 have v4:∀c:Nat,(decide (c>=65536) && Utf8.valid (c:Int))=true->c<=1114111:=by
  intro c h;rw[dB]at h;have:=h.2;simp only[Utf8.valid,BM,dB,decide_eq_true_eq]at this;omega
 have e:Utf8.runeError<=1114111:=by decide
 have b:∀k,(s.get! k).toNat<256:=λk=>(s.get! k).toNat_lt;simp only[Utf8.decode]
 split
 ·have:=b (pos+0);show(s.get! (pos+0)).toNat<=_;omega
 ·split
  ·split
   ·show _<=1114111;have:=b (pos+1);have:=Nat.mod_lt (s.get! (pos+0)).toNat (show 0<32 by omega);have:=Nat.mod_lt (s.get! (pos+1)).toNat (show 0<64 by omega);simp only[DV]at *;omega
   ·exact e
  ·split
   ·split
    ·rename_i h;exact v _ h
    ·exact e
   ·split
    ·split
     ·rename_i h;exact v4 _ h
     ·exact e
    ·exact e
def Hv : List Bool:=(List.range 256).map λk=>decide (k=47) || decide (k=0)
theorem CA(hK:∀ h',Fr No h h'->K (.tuple #[.agg ⟨Hv.map .bool⟩,.bool true]) h'):C.fF (mkStr Er) h K:=by
 refine fF.ok (aC.intro λh2 n2=>?_);have DQ:=n2.size;refine⟨λi hh=>0<=i/\i<=2/\Fr No h hh/\dA hh h.size/\rd hh h.size=(((Er.take i.toNat).foldl (λ(l:List Bool) b=>l.set b.toNat true) (List.replicate 256 false)).map .bool),λi _=>(2-i).toNat,⟨oX,oX,n2.fr,n2.own,n2.rd.trans (by kernel_rfl)⟩,?_⟩;rintro i h3 ⟨i0,i2,f3,o3,r3⟩;have OJ:=f3.size
 have lf:∀l:LB,(l.foldl (λ(l:List Bool) b=>l.set b.toNat true) (List.replicate 256 false)).length=256:=by
  have:∀(l:LB) (x:List Bool),(l.foldl (λ(l:List Bool) b=>l.set b.toNat true) x).length=x.length:=by
   intro l
   induction l with
   | nil=>intro x;rfl
   | cons b r ih=>intro x;rw[List.foldl_cons,ih,pL]
  intro l;rw[this,dU]
 refine cd (λhi=>?_) λhi=>?_
 ·have hi:i<2:=hi;have tK:i.toNat<Er.length:=by show i.toNat<2;omega
  refine⟨⟨i0,hi⟩,Er[i.toNat],by rw[toList_mkStr,fg tK],?_⟩;have hb:(Er[i.toNat]).toNat<128:=(NX (pos:=i.toNat) tK).2;generalize VP:Er[i.toNat]=b at hb;refine cf (decide_eq_false oX) ⟨⟨oX,oX⟩,bD.add o3 (by rw[r3,aP,lf];omega) λh5 d5=>?_⟩;rw[wrap_i64 oX oX];refine⟨⟨oX,oX,f3.did d5 (λx=>oX),d5.own,?_⟩,by show(2-(i+1)).toNat<(2-i).toNat;omega⟩;rw[d5.rd,r3,show(i+1).toNat=i.toNat+1 by omega,jJ tK,List.foldl_append,VP];show _=(List.set (List.foldl (λ(l:List Bool) b=>l.set b.toNat true) (List.replicate 256 false) (Er.take i.toNat)) b.toNat true).map Value.bool;rw[List.map_set,wR,cA]
 ·have hi:¬i<2:=hi;have e:Er.take i.toNat=Er:=gL (by show 2<=i.toNat;omega);have es:Er.foldl (λ(l:List Bool) b=>l.set b.toNat true) (List.replicate 256 false)=Hv:=by decide +kernel
  rw[e,es]at r3;have ml:(Hv.map Value.bool).length=256:=by rw[aP,Hv,aP,xE]
  refine⟨Hv.map .bool,ml,ah r3,az.intro o3 ml (λv hv=>by obtain⟨b,_,rfl⟩:=jc.mp hv;rfl) (by rw[r3,ml];omega) λh6 d6=>⟨Hv.map .bool,ml,ah ?_,hK h6 (f3.did d6 λx=>oX)⟩⟩;rw[d6.rd,fu _ _ (by rw[r3])]
theorem NY(b:UInt8):(Hv.map Value.bool)[b.toNat]?=some (.bool (oK b)):=by
 have hb:=b.toNat_lt;rw[jH,Hv,jH,acb hb];show some (Value.bool (decide (b.toNat=47) || decide (b.toNat=0)))=_;congr 2;unfold oK;congr 1
 ·by_cases h:b=47
  ·subst h;decide
  ·rw[beq_eq_false_iff_ne.mpr h];exact decide_eq_false (λe=>h (sZ.mp e))
 ·by_cases h:b=0
  ·subst h;decide
  ·rw[beq_eq_false_iff_ne.mpr h];exact decide_eq_false (λe=>h (sZ.mp e))
theorem LI(b:UInt8):(decide (b.toNat=47) || decide (b.toNat=0))=oK b:=by
 have:=NY b;have hb:=b.toNat_lt;rw[jH,Hv,jH,acb hb]at this;have this:=Option.some.inj this;have this:Value.bool (decide (b.toNat=47) || decide (b.toNat=0)) = .bool (oK b):=this;exact Value.bool.inj this
theorem IA{bG:ad}(f10:Fr No h bG)(hK:∀ h' n,Fr No h h'->decide (n>=0)=ss.any oK->K (vI n) h'):eW.k1 (mkStr ss) (mkStr Er) bG K:=by
 have hs10:=f10.size;refine Po.intro λcu f11 E2 g11=>?_;refine⟨λhh=>∃pos,Fr No h hh/\bG.size<hh.size/\hh[bG.size]?=some (.stringIter (mkStr ss) pos)/\(ss.take pos).any oK=false,λhh=>match hh[bG.size]? with|some (.stringIter _ pos)=>ss.length-pos|_=>0,⟨0,f10.no f11,oX,g11,rfl⟩,?_⟩;rintro bf ⟨pos,f12,H5,g12,nb⟩;refine⟨rfl,_,_,g12,λhp bQ it=>?_,λhp=>?_⟩
 ·have hp:pos<ss.length:=hp;have f13:Fr No h bQ:=f12.trans (G:=λx=>x=bG.size) ⟨by rw[it.size];exact bE _,λb _ hb=>it.same b hb⟩ (λb hb e=>oX);have g13:=it.at_
  have aeS:ss.any oK=(ss.drop pos).any oK:=by
   conv=>lhs;rw[<-qP pos ss,Hr,nb,Ho]
  refine Hu (Qk _ _) λcX n f14 hn=>⟨n,rfl,?_⟩;have Vo:bG.size<bQ.size:=by rw[it.size];exact H5
  have g14:cX[bG.size]?=some (.stringIter (mkStr ss) (pos+(Utf8.decode (mkStr ss) pos).2)):=(f14.same _ Vo λx=>x).trans g13
  have go:1<=(Utf8.decode (mkStr ss) pos).2->(ss.take (pos+(Utf8.decode (mkStr ss) pos).2)).any oK=false->
    (∃p,Fr No h cX/\bG.size<cX.size/\cX[bG.size]?=some (.stringIter (mkStr ss) p)/\(ss.take p).any oK=false)/\(match cX[bG.size]? with|some (.stringIter _ pos)=>ss.length-pos|_=>0)<(match bf[bG.size]? with|some (.stringIter _ pos)=>ss.length-pos|_=>0):=by
   intro w1 w2;refine⟨⟨_,f13.no f14,by have:=f14.size;omega,g14,w2⟩,?_⟩;simp only[g14,g12];exact Nat.sub_lt_sub_left hp oX
  rcases Nat.lt_or_ge ss[pos].toNat 128 with aeH|aim
  ·have e1:=Bh hp aeH;rw[e1]at hn go;have hn:decide (n>=0)=(decide (ss[pos].toNat=47) || decide (ss[pos].toNat=0)):=hn;rw[LI]at hn
   cases hb:oK ss[pos]with
   | true=>
    rw[hb]at hn;refine ct hn (hK cX _ (f13.no f14) ?_);rw[aeS,lh hp,wo,hb,decide_eq_true oX];rfl
   | false=>
    rw[hb]at hn;refine cf hn (go (bE _) ?_);show(ss.take (pos+1)).any oK=false;rw[jJ hp,Hr,nb,wo,hb];rfl
  ·obtain⟨e1,e2,e3⟩:=decode_high hp aim;have a1:¬(Utf8.decode (mkStr ss) pos).1=47:=oX;have a2:¬(Utf8.decode (mkStr ss) pos).1=0:=oX;rw[decide_eq_false a1,decide_eq_false a2]at hn;refine cf hn (go e2 ?_);generalize(Utf8.decode (mkStr ss) pos).2=w at e2 e3;clear hn go g14 g13 it e1 e2
   induction w with
   | zero=>exact nb
   | succ w ih=>
    obtain⟨hl,hb⟩:=e3 w oX;rw[<-Nat.add_assoc,jJ hl,Hr,ih λk hk=>e3 k oX,wo];have:oK ss[pos+w]=false:=(by rw[<-LI,decide_eq_false oX,decide_eq_false oX];rfl);rw[this];rfl
 ·have hp:¬pos<ss.length:=hp;refine hK bf _ f12 ?_;rw[gL oX]at nb;rw[nb];decide
theorem Dz(hl:ss.length<=140737488355328)(hK:∀ h',Fr No h h'->K (.bool (ss.any oK)) h'):C.fX (mkStr ss) (mkStr Er) h K:=by
 have fin:∀h' n,Fr No h h'->decide (n>=0)=ss.any oK->(λv h'=>∃n:Int,v = vI n/\K (.bool (decide (n>=0))) h') (vI n) h':=λh' n f e=>⟨n,rfl,by rw[e];exact hK h' f⟩;refine fX.ok (eW.ok (cf (by rw[toList_mkStr,toList_mkStr];rfl) (cf (by show((2:Int)==1)=false;decide) ?_)));refine eG.ok ⟨_,rfl,?_⟩;refine cs (λhb=>?_) λ_=>IA (Fr.refl _ _) fin;refine CA λh5 f5=>⟨_,_,rfl,?_⟩;have ml:(Hv.map Value.bool).length=256:=by rw[aP,Hv,aP,xE]
 refine aF.intro ml (λv hv=>by obtain⟨b,_,rfl⟩:=jc.mp hv;rfl) (by kernel_rfl) λh7 n7=>ct rfl ?_;have f7:=f5.new n7;have lV:((mkStr ss).size:Int)=ss.length:=rfl;rw[lV];refine⟨λi hh=>0<=i/\i<=ss.length/\h7=hh/\ss.any oK=(ss.drop i.toNat).any oK,λi _=>(ss.length-i).toNat,⟨oX,oX,rfl,rfl⟩,?_⟩;rintro i _ ⟨i0,i1,rfl,e⟩;refine cd (λhi=>?_) λhi=>?_
 ·have tK:i.toNat<ss.length:=oX;refine⟨⟨i0,hi⟩,ss[i.toNat],by rw[toList_mkStr,fg tK],eI.ok (os ⟨⟨oX,by have:=(ss[i.toNat]).toNat_lt;omega⟩,oK ss[i.toNat],?_,_,rfl,?_⟩)⟩
  ·refine aZ n7.rd ?_;rw[wR,cA];exact NY _
  ·rw[lh tK,wo]at e
   cases hb:oK ss[i.toNat]with
   | true=>
    rw[hb]at e;exact ct rfl (fin h7 _ f7 (by rw[e,decide_eq_true oX];rfl))
   | false=>
    rw[hb,Ho]at e;rw[wrap_i64 oX oX];refine cf rfl ⟨⟨oX,oX,rfl,by rw[e,show(i+1).toNat=i.toNat+1 by omega]⟩,by show((ss.length:Int)-(i+1)).toNat<((ss.length:Int)-i).toNat;omega⟩
 ·rw[qY oX]at e;exact fin h7 _ f7 (by rw[e];decide)
theorem uK{d:D}{m:sT}(t:MapTo d h r m h'):Fr (λx=>x=r) h h':=⟨by rw[t.size];exact bE _,λb _ hb=>t.same b hb⟩
theorem Wi.intro{d:D}{k:HP}(H:∀ h',Fr No h h'->h'.size=h.size+1->nK d h' h.size []->k h'):Wi h k:=
 H _ (Sv _) (GR _) ⟨#[],0,NW _,rfl,λ_ h=>absurd h (by simp),MapKept.stamped_empty _⟩
theorem UE(hK:∀ h' v,Fr No h h'->K (.tuple #[v,.bool (ss == [46] || ss == [46,46])]) h'):C.qp (mkStr ss) h K:=by
 refine qp.ok ?_;unfold qp;simp only[toList_mkStr];refine Wi.intro (d:=.str) λh2 f2 s2 m2=>⟨[],m2,λh3 m3=>⟨_,m3.at_,λh4 m4=>⟨_,m4.at_,_,rfl,?_⟩⟩⟩;have f4:Fr No h h4:=(f2.trans (uK m3) λb hb e=>oX).trans (uK m4) λb hb e=>by omega
 refine(show ∀b v,b=(ss == [46] || ss == [46,46])->K (.tuple #[v,.bool b]) h4 from λb v e=>by rw[e];exact hK h4 v f4) _ _ ?_;show(nD (bif mC.same (.s [46,46]) (.s [46])then _ else _) (.s ss)).isSome=_;rw[show mC.same (.s [46,46]) (.s [46])=false from by decide];show(bif ss == [46]then some _ else bif ss == [46,46]then some _ else none).isSome=_
 cases h1:ss == [46] <;> cases h2:ss == [46,46] <;> rfl
theorem wG(hK:∀ h',Fr No h h'->K (.bool (Sk.cm ss)) h'):C.mq (mkStr ss) h K:=by
 have lV:(mkStr ss).size=ss.length:=rfl;refine mq.ok (UE λh2 v f2=>⟨_,_,rfl,?_⟩);rw[lV];have no:Sk.cm ss=false->K (.bool false) h2:=λe=>by rw[<-e];exact hK h2 f2
 have nn:∀x,(Sk.cm ss=true->x)->(¬x)->Sk.cm ss=false:=λx hx hn=>by
  cases e:Sk.cm ss with
  | false=>rfl
  | true=>exact absurd (hx e) hn
 refine cd (λh1=>cd (λh3=>iu ?_) λh3=>?_) λh1=>?_
 ·cases hd:(ss == [46] || ss == [46,46])with
  | true=>
   refine no (nn (¬((ss == [46] || ss == [46,46])=true)) (λe=>?_) (by rw[hd];simp));have:=Sk.kO.mp e;rw[BM,beq_iff_eq,beq_iff_eq];rintro(x|x)
   ·exact this.dot x
   ·exact this.ail x
  | false=>
   rw[Bool.or_eq_false_iff,beq_eq_false_iff_ne,beq_eq_false_iff_ne]at hd;refine cf rfl (Dz oX λL6 f3=>⟨_,rfl,?_⟩)
   have e:(!ss.any oK)=Sk.cm ss:=by
    unfold Sk.cm;rw[decide_eq_true oX,decide_eq_true oX,show(ss != [46])=true from bne_iff_ne.mpr hd.1,show(ss != [46,46])=true from bne_iff_ne.mpr hd.2];rw[yj,yj,yj,List.not_any_eq_all_not];congr 1;funext b;unfold oK;rw[Bool.not_or];rfl
   rw[e];exact hK L6 (f2.no f3)
 ·exact no (nn _ (λe=>(Sk.kO.mp e).le) oX)
 ·exact no (nn _ (λe=>(Sk.kO.mp e).pos) oX)
end Ch
namespace Ss
open Go Go.Proofs Re Sk
theorem Hw : ∀(hs:List (Nat×cC)) (k:Nat),(iw k hs).length<=hs.length:=by
 intro hs
 induction hs with
 | nil=>intro k;exact bE _
 | cons x r ih=>
  intro k;rw[iw]
  split
  ·have:=ih (k+1);rw[pA];omega
  ·have:=ih (k+1);rw[pA,pA];omega
def sR(bs:LB):List E×Int:=if bs.length≠512 then([],32)else match dec 16 bs with
 | none=>([],140)
 | some hs=>(iw 0 hs,0)
def nJ(bs:LB):Int×Int:=if bs.length≠512 then(0,32)else match dec 16 bs with
 | none=>(0,140)
 | some hs=>(low 0 hs,0)
def qB(e:E):Bool:=decide (0<=e.place) && decide (e.place<16) && decide (1<=e.inode) && decide (e.inode<=4294967295) && cm e.name
def gP(bs:LB)(e:E):Int×LB:=if bs.length≠512 then(32,bs)else if qB e then(0,kX bs (32*e.place.toNat) (form e.inode.toNat e.name))else(140,bs)
def rH(bs:LB)(k:Int):Int×LB:=if bs.length≠512 then(32,bs)else if 0<=k/\k<16 then(0,kX bs (32*k.toNat) (List.replicate 32 0))else(140,bs)
theorem Bi{e:E}(h:qB e=true):0<=e.place/\e.place<16/\1<=e.inode/\e.inode<=4294967295/\cm e.name=true/\Sk.Good (e.inode.toNat,e.name):=by
 simp only[qB,dB,decide_eq_true_eq]at h;obtain⟨⟨⟨⟨h1,h2⟩,h3⟩,h4⟩,h5⟩:=h;exact⟨h1,h2,h3,h4,h5,Or.inr ⟨by show 1<=e.inode.toNat;omega,by show e.inode.toNat<4294967296;omega,h5⟩⟩
theorem vA(bs:LB)(e:E):(gP bs e).2.length=bs.length:=by
 unfold gP
 split
 ·rfl
 ·split
  ·rename_i h1 h2;obtain⟨a1,a2,_,_,_,g⟩:=Bi h2;have l:(form e.inode.toNat e.name).length=32:=qA g;exact vj (by rw[l];omega)
  ·rfl
theorem Es(bs:LB)(k:Int):(rH bs k).2.length=bs.length:=by
 unfold rH
 split
 ·rfl
 ·split
  ·exact vj (by rw[dU];omega)
  ·rfl
end Ss
namespace Ss
open Hp W Re Sk Ch
def E.v(e:E):LV:=[vI e.place,.string (mkStr e.name),vI e.inode]
theorem E.len(e:E):(E.v e).length=3:=rfl
theorem E.one(e:E):∀v∈E.v e,v.oneCell'=true:=by
 intro v hv;simp only[E.v,fO,nT,or_false]at hv
 rcases hv with rfl|rfl|rfl <;> rfl
theorem DA(B:av h a l bs)(hl:l=512)(CS:l<=c)(h0:0<=k)(h1:k<16)
  (hK:av h (Option.map (Addr.add · (32*k.toNat)) a) 32 ((bs.drop (32*k.toNat)).take 32)->K (vS (Option.map (Addr.add · (32*k.toNat)) a) 32 32) h):C.lL a l c k h K:=by
 refine lL.ok ?_;unfold lL;rw[wq (32*k),wq (32*k+32)];refine⟨⟨oX,oX,oX,oX⟩,?_⟩;rw[if_neg oX,show(32*k+32).toNat-(32*k).toNat=32 by omega,show(32*k).toNat=32*k.toNat by omega];exact hK (av.take (av.drop B (32*k.toNat)) oX)
theorem zK(g:In.lT h)(B:av h a 32 bs)
  (hK:∀h' x,Fr No h h'->one bs=some x->K (.tuple #[vI (x.1:Nat),.string (mkStr x.2),.bool true]) h') (hN:∀h' n s,Fr No h h'->one bs=none->K (.tuple #[vI n,.string s,.bool false]) h'):C.lK a 32 32 h K:=by
 have hb:=B.1;have e0:one bs=one bs:=rfl;refine lK.ok (In.Sf g B oX oX oX oX ⟨_,_,rfl,In.Sf g B oX oX oX oX ⟨_,_,rfl,?_⟩⟩);rw[show(0:Int).toNat=0 from rfl,show(4:Int).toNat=4 from rfl,show(1:Int).toNat=1 from rfl,mW];have h4:4<bs.length:=oX
 have e1:py ((bs.drop 4).take 1)=(bs.getD 4 0).toNat:=by
  rw[lh h4,gh,fg h4];show bs[4].toNat+256*0=bs[4].toNat;omega
 rw[e1]
 have lt:py (bs.take 4)<4294967296:=by
  have:=yD (bs.take 4);rw[dL,show min 4 bs.length=4 by omega]at this;exact this
 conv at e0=>rhs;unfold one
 generalize py (bs.take 4)=i at lt e0 ⊢;have bt:=(bs.getD 4 0).toNat_lt;generalize(bs.getD 4 0).toNat=n at bt e0 ⊢;refine ce (λhi=>?_) λhi=>?_
 ·refine zn B oX oX oX oX oX ⟨_,_,rfl,?_⟩;rw[if_pos oX]at e0;rw[show(0:Int).toNat=0 from rfl,show(32:Int).toNat=32 from rfl,mW,gL oX]
  cases hz:im bs with
  | true=>rw[hz]at e0;exact hK h _ (Fr.refl _ _) e0
  | false=>rw[hz]at e0;exact hN h _ _ (Fr.refl _ _) e0
 ·rw[if_neg oX]at e0;refine cd (λhn=>hN h _ _ (Fr.refl _ _) (by rw[e0,if_pos oX])) λhn=>cd (λhn2=>hN h _ _ (Fr.refl _ _) (by rw[e0,if_pos oX])) λhn2=>?_;rw[if_neg oX]at e0
  have wu:IntKind.wrap .u64 (5+(n:Int))=5+n:=by
   show(5+(n:Int))%18446744073709551616=_;omega
  unfold lK.k1;rw[wu,wq ((n:Int)),wq (5+(n:Int)),wq (27-(n:Int)),wq ((i:Int))];refine⟨⟨oX,oX,oX,oX⟩,(bs.drop 5).take n,?_,?_⟩
  ·have:=av.cut B (c:=32) oX (i:=5) (j:=5+n) oX oX;rw[show(5+(n:Int)).toNat=5+n by omega,show(5:Int).toNat=5 from rfl,if_neg oX];rw[if_neg oX,show 5+n-5=n by omega]at this;rw[show 5+n-5=n by omega];exact this
  ·refine zn B oX oX oX oX oX ⟨_,_,rfl,?_⟩
   have ez:List.take (27-(n:Int)).toNat (List.drop (5+(n:Int)).toNat bs)=bs.drop (5+n):=by
    rw[show(5+(n:Int)).toNat=5+n by omega,gL (by rw[jM];omega)]
   rw[ez]
   cases hz:im (bs.drop (5+n))with
   | false=>
    rw[hz]at e0;exact hN h _ _ (Fr.refl _ _) e0
   | true=>
    refine ct rfl (wG λh' f'=>⟨_,rfl,?_⟩);rw[hz,yj]at e0
    cases hn:cm ((bs.drop 5).take n)with
    | true=>rw[hn]at e0;exact hK h' _ f' e0
    | false=>rw[hn]at e0;exact hN h' _ _ f' e0
theorem dv(g:In.lT h)(B:av h a l bs)(CS:l<=c)
  (hK:∀h' a' l' c',Fr No h h'->Sl h' 3 a' l' c' ((sR bs).1.flatMap E.v) (cW h.size)->K (.tuple #[vS a' l' c',vI (sR bs).2]) h'):C.n' a l c h K:=by
 have hb:=B.1;refine n'.ok (cn (λhl=>?_) λhl=>?_)
 ·have e:sR bs=([],32):=by rw[sR,if_pos oX]
  rw[e]at hK;exact hK h none 0 0 (Fr.refl _ _) (Sl.nil _ _ _)
 have hl:l=512:=oX
 have e:sR bs=match dec 16 bs with
  | none=>([],140)
  | some hs=>(iw 0 hs,0):=by
  rw[sR,if_neg oX] <;> (cases dec 16 bs <;> rfl)
 refine⟨λla ll lc n hh=>0<=n/\n<=16/\Fr No h hh/\∃pre:List (Nat×cC),pre.length=n.toNat/\dec 16 bs=(dec (16-n.toNat) (bs.drop (32*n.toNat))).map (pre ++ ·)/\Sl hh 3 la ll lc ((iw 0 pre).flatMap E.v) (cW h.size),λ_ _ _ n _=>(16-n).toNat,
  ⟨oX,oX,Fr.refl _ _,[],rfl,by rw[show(0:Int).toNat=0 from rfl,Nat.mul_zero,mW];simp,Sl.nil _ _ _⟩,?_⟩
 rintro la ll lc n h2 ⟨n0,n1,f2,pre,pl,pd,ps⟩;have DQ:=f2.size;have pll:=Hw pre 0
 have hll:ll=(iw 0 pre).length:=by
  have:=ps.1;rw[bq E.v 3 _ (λx _=>E.len x)]at this;omega
 refine cd (λhn=>?_) λhn=>?_
 ·rw[NU oX]at pd;refine DA (av.fr f2 B λ_ _ x=>x) hl CS n0 hn λB2=>⟨_,_,_,rfl,?_⟩;rw[wq (n+1)];refine zK (g.no f2) B2 (λh4 x f4 ho=>⟨_,_,_,rfl,?_⟩) λh4 m s f4 ho=>⟨_,_,_,rfl,?_⟩
  ·have f24:=f2.no f4;rw[ho]at pd
   have pd':dec 16 bs=(dec (16-(n+1).toNat) (bs.drop (32*(n+1).toNat))).map ((pre++[x]) ++ ·):=by
    rw[pd,show(n+1).toNat=n.toNat+1 by omega]
    cases dec (16-(n.toNat+1)) (bs.drop (32*(n.toNat+1)))with
    | none=>rfl
    | some r=>simp
   have ee:iw 0 (pre++[x])=iw 0 pre++(if x.1=0 then[]else[⟨n,x.2,x.1⟩]):=by
    rw[yR,pl,iw,iw,show((0+n.toNat:Nat):Int)=n by omega]
   have ps4:=ps.fr f4 λ_ _ _ x=>x;refine cf rfl (cn (λhx=>⟨rfl,aC.intro λh5 n5=>⟨E.v ⟨n,x.2,x.1⟩,rfl,ah n5.rd,E.one _,?_⟩⟩) λhx=>⟨⟨oX,oX,f24,pre++[x],by rw[bg,pl,ik];omega,pd',?_⟩,by show(16-(n+1)).toNat<(16-n).toNat;omega⟩)
   ·have XH:x.1≠0:=λe=>hx (by rw[e];rfl);rw[if_neg XH]at ee;have f25:=f24.new n5;have hs5:=f25.size;have AE:(rV).bytes=32:=rfl;refine cY (elem:=rV) (ps4.fr n5.fr λ_ _ _ x=>x) rfl rfl (by rw[AE];omega) oX λa' c' h6 f6 s6=>⟨⟨oX,oX,?_,pre++[x],by rw[bg,pl,ik];omega,pd',?_⟩,by show(16-(n+1)).toNat<(16-n).toNat;omega⟩
    ·exact f25.trans f6 λb hb hF=>by have:h.size<=b:=hF;omega
    ·rw[ee,iy];refine Sl.mono (s6:Sl h6 3 a' (ll+1) c' _ _) λb hF=>?_
     rcases hF with hF|hF
     ·exact hF
     ·show h.size<=b;omega
   ·have XH:x.1=0:=oX;rw[if_pos XH,gi]at ee;rw[ee];exact ps4
  ·rw[ho]at pd;have e2:sR bs=([],140):=(by rw[e,pd];rfl);rw[e2]at hK;exact ct rfl (hK h4 none 0 0 (f2.no f4) (Sl.nil _ _ _))
 ·have en:n.toNat=16:=oX;rw[en]at pd
  have e2:sR bs=(iw 0 pre,0):=by
   have z:dec (16-16) (bs.drop (32*16))=some []:=(by rw[uH];rfl);rw[e,pd,z,OW,gi]
  rw[e2]at hK;exact hK h2 la ll lc f2 ps
theorem CB(hK:K (.bool (decide (0<=k) && decide (k<16))) h):C.j8 k h K:=by
 refine j8.ok (cd (λx=>?_) λx=>?_)
 ·rw[decide_eq_true oX]at hK;exact hK
 ·rw[decide_eq_false oX]at hK;exact hK
theorem UF : ∀(hs pre:List (Nat×cC)),(∀x∈pre,x.1≠0)->(iw 0 (pre++hs)).length=pre.length+(iw pre.length hs).length/\low 0 (pre++hs)=low pre.length hs/\(iw 0 (pre++hs)).drop pre.length=iw pre.length hs:=by
 have full:∀(pre:List (Nat×cC)) (k:Nat),(∀x∈pre,x.1≠0)->(iw k pre).length=pre.length:=by
  intro pre
  induction pre with
  | nil=>intro k _;rfl
  | cons x r ih=>
   intro k h;rw[iw,if_neg (h x (kj ..)),pA,pA,ih _ λy hy=>h y (gV _ hy)]
 have lowp:∀(pre hs:List (Nat×cC)) (k:Nat),(∀x∈pre,x.1≠0)->low k (pre++hs)=low (k+pre.length) hs:=by
  intro pre
  induction pre with
  | nil=>intro hs k _;rfl
  | cons x r ih=>
   intro hs k h;rw[List.cons_append,low,if_neg (h x (kj ..)),ih _ _ λy hy=>h y (gV _ hy),pA];congr 1;omega
 intro hs pre h;rw[yR,bg,full pre 0 h,wR];refine⟨rfl,?_,?_⟩
 ·rw[lowp pre hs 0 h,wR]
 ·have:=full pre 0 h;rw[<-this,List.drop_left]
theorem NZ(g:In.lT h)(B:av h a l bs)(CS:l<=c)
  (hK:∀h',Fr No h h'->K (.tuple #[vI (nJ bs).1,vI (nJ bs).2]) h'):C.mM a l c h K:=by
 have hb:=B.1;refine mM.ok (dv g B CS λh2 a' l' c' f2 s2=>⟨_,_,_,_,rfl,?_⟩)
 have out:∀x y,sR bs=([],y)->nJ bs=(0,y)->x=(sR bs).2->K (.tuple #[vI 0,vI x]) h2:=by
  intro x y e1 e2 e3;have:=hK h2 f2;rw[e2]at this;rw[e3,e1];exact this
 by_cases hl:bs.length≠512
 ·have e1:sR bs=([],32):=by rw[sR,if_pos hl]
  have e2:nJ bs=(0,32):=by rw[nJ,if_pos hl]
  exact ct (by rw[e1];rfl) (out _ _ e1 e2 rfl)
 cases hd:dec 16 bs with
 | none=>
  have e1:sR bs=([],140):=by rw[sR,if_neg hl,hd]
  have e2:nJ bs=(0,140):=by rw[nJ,if_neg hl,hd]
  exact ct (by rw[e1];rfl) (out _ _ e1 e2 rfl)
 | some hs=>
  have e1:sR bs=(iw 0 hs,0):=by rw[sR,if_neg hl,hd]
  have e2:nJ bs=(low 0 hs,0):=by rw[nJ,if_neg hl,hd]
  obtain⟨VX,_,_⟩:=Cz oX hd;rw[e1]at s2 ⊢;rw[e2]at hK
  have hll:l'=(iw 0 hs).length:=by
   have:((iw 0 hs).flatMap E.v).length=l'*3:=s2.1;rw[bq E.v 3 _ (λx _=>E.len x)]at this;omega
  refine cf rfl ⟨λn hh=>0<=n/\n<=16/\h2=hh/\∃pre rest:List (Nat×cC),hs=pre++rest/\pre.length=n.toNat/\∀x∈pre,x.1≠0,λn _=>(16-n).toNat,⟨oX,oX,rfl,[],hs,rfl,rfl,λx hx=>absurd hx (by simp)⟩,?_⟩;rintro n _ ⟨n0,n1,rfl,pre,rest,rfl,pl,pz⟩;obtain⟨q1,q2,q3⟩:=UF rest pre pz;rw[bg]at VX;refine cd (λhn=>?_) λhn=>?_
  ·cases rest with
   | nil=>rw[FX]at VX;omega
   | cons x r=>
    have aip:x.1=0->low 0 (pre++x::r)=n:=λhx=>by rw[q2,low,if_pos hx];omega
    refine ce (λhx=>?_) λhx=>?_
    ·have:x.1=0:=by
      rcases aca x.1 with h|h
      ·exact h
      ·rw[iw,if_neg oX,pA]at q1;omega
     rw[aip this]at hK;exact hK h2 f2
    ·have hlen:n.toNat<(iw 0 (pre++x::r)).length:=oX;have hd0:(iw 0 (pre++x::r)).drop n.toNat=iw n.toNat (x::r):=(by rw[<-pl];exact q3);have RK:iw n.toNat (x::r)=(iw 0 (pre++x::r))[n.toNat]::(iw 0 (pre++x::r)).drop (n.toNat+1):=(by rw[<-hd0,lh hlen]);generalize Ra:(iw 0 (pre++x::r))[n.toNat]=ee at RK;obtain⟨p,rfl,cc⟩:=s2.get oX;refine⟨⟨n0,oX⟩,os ⟨ee.place,?_,?_⟩⟩
     ·have c2:=ai.part cc (n.toNat*3) 3;rw[kv E.v 3 _ (λx _=>E.len x) n.toNat hlen,Ra]at c2;exact c2 0 _ rfl
     ·rw[iw]at RK;refine cn (λhp=>?_) λhp=>?_
      ·have XH:x.1=0:=by
        rcases aca x.1 with h|h
        ·exact h
        ·rw[if_neg oX]at RK;have:=(List.cons.inj RK).1;rw[<-this]at hp;exact absurd (show((n.toNat:Nat):Int)=n by omega) hp
       rw[aip XH]at hK;exact hK h2 f2
      ·have XH:x.1≠0:=by
        intro h0;rw[if_pos h0]at RK;have:=(uR r (n.toNat+1) ee (by rw[RK];exact kj ..)).1;omega
       rw[wrap_i64 oX oX];refine⟨⟨oX,oX,rfl,pre++[x],r,by rw[iW];rfl,by rw[bg,pl,ik];omega,λy hy=>?_⟩,by show(16-(n+1)).toNat<(16-n).toNat;omega⟩
       rcases nB.mp hy with hy|hy
       ·exact pz y hy
       ·rw[kU.mp hy];exact XH
  ·have:rest=[]:=List.length_eq_zero_iff.mp oX;subst this;rw[q2]at hK;exact hK h2 f2
theorem N0(s:Sl h 1 (some ⟨b,o,none⟩) l c xs F):put (rd h b) o xs=rd h b:=by
 obtain⟨w1,w2⟩:=s.wr;obtain⟨h1,a1,a2,a3,a4,a5,a6⟩:=s;simp only at a5 a6;have e:=put_eq xs (rd h b) o oX;rw[e]
 conv=>rhs;rw[<-qP o (rd h b),<-qP xs.length ((rd h b).drop o),a5,List.drop_drop]
 rw[iW]
theorem LJ{ys:LB}(s:Sl h 1 (some ⟨b,o,none⟩) l c (bs.map bv) F)(hj:j+ys.length<=bs.length) :
  put (rd h b) (o+j) (ys.map bv)=put (rd h b) o ((kX bs j ys).map bv):=by
 obtain⟨w1,w2⟩:=s.wr;have hl:=s.1;rw[aP]at hl;have e0:=N0 s;have lp:=vj hj;apply List.ext_getElem?;intro i;rw[tV _ _ _ _ (by rw[aP];omega),tV _ _ _ _ (by rw[aP];omega),aP,aP,lp,<-te hj]
 by_cases hi:o<=i/\i<o+bs.length
 ·rw[if_pos hi,tV _ _ _ _ (by rw[aP,aP];exact hj),aP]
  by_cases h2:o+j<=i/\i<o+j+ys.length
  ·rw[if_pos h2,if_pos oX];congr 1;omega
  ·rw[if_neg h2,if_neg oX];have:=congrArg (·[i]?) e0;simp only[tV _ _ _ _ (show o+(bs.map bv).length<=(rd h b).length by rw[aP];omega),aP,if_pos hi]at this;exact this.symm
 ·rw[if_neg hi,if_neg oX]
theorem Sl.all{bs':LB}(s:Sl h 1 (some ⟨b,o,none⟩) l c (bs.map bv) F)(hl:bs'.length=bs.length)(d:vz b h h' (put (rd h b) o (bs'.map bv))) :
  Sl h' 1 (some ⟨b,o,none⟩) l c (bs'.map bv) F:=by
 have e:=s.1;rw[aP]at e;have:=Sl.wrote (j:=0) (new:=bs'.map bv) s (by rw[aP];omega) d;rw[fu _ _ (by rw[aP,aP,hl])]at this;exact this
theorem CC(s:Sl h 1 (some ⟨b,o,none⟩) l c (bs.map bv) F)(f:Fr No h h'):vz b h h' (put (rd h b) o (bs.map bv)):=
 ⟨f.mono λ_ _ x=>x.elim,f.own s.wr.1.lt (λx=>x) s.wr.1,by rw[N0 s];exact f.rd s.wr.1.lt λx=>x⟩
theorem mw{e:E}(g:In.lT h)(YF:1<=b)(s:Sl h 1 (some ⟨b,o,none⟩) l c (bs.map bv) F)
  (hK:∀h',vz b h h' (put (rd h b) o ((gP bs e).2.map bv))->K (vI (gP bs e).1) h'):C.nv (some ⟨b,o,none⟩) l c (E.v e) h K:=by
 have rM:=s.1;rw[aP,ph]at rM;obtain⟨w,wl⟩:=s.wr;have hbs:=w.lt;refine nv.ok (aC.intro λh2 n2=>?_);have r2:=n2.rd;have o2:=n2.own;have f2:=n2.fr;have DQ:=n2.size
 have no:∀h' m,Fr No h h'->gP bs e=(m,bs)->K (vI m) h':=by
  intro h' m f ee;have:=hK h';rw[ee]at this;exact this (CC s f)
 refine cn (λhl=>no h2 32 f2 (by rw[gP,if_pos oX])) λhl=>?_;have bad:∀h',Fr No h h'->qB e=false->K (vI 140) h':=λh' f ee=>no h' 140 f (by rw[gP,if_neg oX,ee];rfl);refine⟨e.place,dC r2 rfl,CB ⟨_,rfl,iu ?_⟩⟩
 cases hp:(decide (0<=e.place) && decide (e.place<16))with
 | false=>exact bad h2 f2 (by rw[qB,hp];rfl)
 | true=>
  refine ct rfl ⟨e.inode,dC r2 rfl,cd (λx=>bad h2 f2 (by rw[qB,hp,decide_eq_false oX];rfl)) λx1=>⟨e.inode,dC r2 rfl,cd (λx=>bad h2 f2 (by rw[qB,hp,decide_eq_true oX,decide_eq_false oX];rfl)) λx2=>⟨mkStr e.name,dC r2 rfl,wG λh4 f4=>⟨_,rfl,iu ?_⟩⟩⟩⟩;have f24:=f2.no f4
  cases hn:cm e.name with
  | false=>exact bad h4 f24 (by rw[qB,hn,yH])
  | true=>
   have ok:qB e=true:=(by rw[qB,hp,decide_eq_true oX,decide_eq_true oX,hn];rfl);obtain⟨p0,p1,i0,i1,_,gd⟩:=Bi ok;have nm:=kO.mp hn;have npos:=nm.pos;have nle:=nm.le;have fl:(form e.inode.toNat e.name).length=32:=qA gd;have ea:gP bs e=(0,kX bs (32*e.place.toNat) (form e.inode.toNat e.name)):=(by rw[gP,if_neg oX,if_pos ok]);rw[ea]at hK;have r4:rd h4 h.size=E.v e:=(f4.rd o2.lt λx=>x).trans r2;have s4:=s.fr f24 λ_ _ _ x=>x;refine ct rfl ⟨e.place,dC r4 rfl,DA s4.str oX s4.le p0 p1 λ_=>⟨_,_,_,rfl,e.inode,dC r4 rfl,?_⟩⟩;rw[OW,eA]
   have wu:∀n:Int,0<=n->n<=4294967295->IntKind.wrap .u64 n=((n.toNat:Nat):Int):=λn a b=>by
    show n%18446744073709551616=_;omega
   rw[wu _ oX i1];obtain⟨w4,wl4⟩:=s4.wr;have x4:rd h4 b=rd h b:=f24.rd hbs λx=>x;refine Sr (g.no f24) w4 oX oX oX oX oX (by show e.inode.toNat<256 ^ 4;omega) λh7 d7=>⟨_,rfl,?_⟩;have fP:h.size≠b:=oX;have lt4:h.size<h4.size:=(by have:=f4.size;omega);have r7:rd h7 h.size=E.v e:=(d7.fr.rd lt4 fP).trans r4;have g7:In.lT h7:=(g.no f24).fr d7.fr λx hx=>by omega
   have l7:(rd h7 b).length=(rd h b).length:=(by rw[d7.rd,dQ,x4]);refine⟨mkStr e.name,dC r7 rfl,?_⟩;have lV:(mkStr e.name).size=e.name.length:=rfl;rw[lV,wu _ oX oX,cA];refine Sr g7 d7.own oX oX oX oX oX (by show e.name.length<256 ^ 1;omega) λh8 d8=>⟨_,rfl,?_⟩;have lt7:h.size<h7.size:=(by have:=d7.fr.size;omega);have r8:rd h8 h.size=E.v e:=(d8.fr.rd lt7 fP).trans r7;have l8:(rd h8 b).length=(rd h b).length:=(by rw[d8.rd,dQ,l7]);refine⟨mkStr e.name,dC r8 rfl,NR d8.own oX oX oX oX oX oX oX (λx hx=>(nm.all x hx).2) λh9 d9=>⟨_,rfl,?_⟩⟩;refine hK h9 ⟨?_,d9.own,?_⟩
   ·exact(((f24.mono λ_ _ x=>x.elim).trans d7.fr λ_ _ x=>x).trans d8.fr λ_ _ x=>x).trans d9.fr λ_ _ x=>x
   ·rw[d9.rd,d8.rd,d7.rd,x4,<-LJ s oX];have l4:=bC 4 e.inode.toNat
    have ef:form e.inode.toNat e.name=bo 4 e.inode.toNat++(bo 1 e.name.length++(e.name++List.replicate (27-e.name.length) 0)):=by
     rw[form,if_neg oX];congr 1;rw[show bo 1 e.name.length=[UInt8.ofNat e.name.length] by rw[rq];rfl];rfl
    have em:(form e.inode.toNat e.name).map bv=(bo 4 e.inode.toNat).map bv++((bo 1 e.name.length).map bv++(e.name++List.replicate (27-e.name.length) 0).map bv):=by
     rw[ef,eT,eT]
    rw[em]
    have key:∀(X A B C:LV) (o:Nat),A.length=4->B.length=1->put (put (put X (o+0) A) (o+4) B) (o+5) C=put X o (A++(B++C)):=by
     intro X A B C o h1 h2;rw[Cy,Cy,h1,h2];rfl
    exact key _ _ _ _ _ (by rw[aP];exact l4) (by rw[aP];exact bC 1 _)
theorem Ql{K:HP}(w:dA h b)(hw:o+l<=(rd h b).length)(hK:∀ h',vz b h h' (put (rd h b) o ((List.replicate l (0:UInt8)).map bv))->K h'):Fy xd (some ⟨b,o,none⟩) l h K:=by
 have aeR:∀m,aL [Value.int .u8 0] m=(List.replicate m (0:UInt8)).map bv:=λm=>by
  induction m with
  | zero=>rfl
  | succ m ih=>rw[uW,lI,<-ih];rfl
 refine⟨trivial,?_,?_⟩
 ·rw[show(xd).cells=1 from rfl,ph];simp only[KB,Addr.add_zero];exact AV w oX
 ·show K (sS h _ 0 (aL [Value.int .u8 0] l));rw[aeR];simp only[sS,Addr.add_zero];refine hK _ ⟨Fr.setRow (F:=λx=>x=b) (Or.inl rfl) (Fr.refl _ _),nU w,?_⟩;rw[jO,DV]
theorem Qm(s:Sl h 1 (some ⟨b,o,none⟩) l c (bs.map bv) F)
  (hK:∀h',vz b h h' (put (rd h b) o ((rH bs k).2.map bv))->K (vI (rH bs k).1) h'):C.oh (some ⟨b,o,none⟩) l c k h K:=by
 have rM:=s.1;rw[aP,ph]at rM;obtain⟨w,wl⟩:=s.wr
 have no:∀m,rH bs k=(m,bs)->K (vI m) h:=by
  intro m ee;have:=hK h;rw[ee]at this;exact this (CC s (Fr.refl _ _))
 refine oh.ok (cn (λhl=>no 32 (by rw[rH,if_pos oX])) λhl=>CB ⟨_,rfl,iu ?_⟩)
 cases hp:(decide (0<=k) && decide (k<16))with
 | false=>
  have:¬(0<=k/\k<16):=by
   rintro⟨a,b⟩;rw[decide_eq_true a,decide_eq_true b]at hp;cases hp
  exact no 140 (by rw[rH,if_neg oX,if_neg this])
 | true=>
  rw[dB,decide_eq_true_eq,decide_eq_true_eq]at hp;have ea:rH bs k=(0,kX bs (32*k.toNat) (List.replicate 32 0)):=by rw[rH,if_neg oX,if_pos hp]
  rw[ea]at hK;refine ct rfl (DA s.str oX s.le hp.1 hp.2 λ_=>⟨_,_,_,rfl,?_⟩);rw[OW,eA];refine Ql w oX λh4 d4=>hK h4 ⟨d4.fr,d4.own,?_⟩;rw[d4.rd,LJ s (by rw[dU];omega)]
theorem tx(B:av h a l bs){i:Nat}(hi:i<bs.length):∃p,a=some p/\cellOf h (p.add i)=some (bv bs[i]):=by
 obtain⟨_,B2⟩:=B
 cases a with
 | none=>have B2:bs.map bv=[]:=B2;have:=List.map_eq_nil_iff.mp B2;rw[this]at hi;exact absurd hi (by simp)
 | some p=>exact⟨p,rfl,B2 i (bv bs[i]) (by rw[jH,fg hi];rfl)⟩
theorem E.eq{x y:E}:dr [(.int .i64),.str,(.int .i64)] (E.v x) (E.v y)=true/\cQ (E.v x) (E.v y)=decide (x=y):=by
 refine⟨rfl,?_⟩;obtain⟨p,s,i⟩:=x;obtain⟨q,t,j⟩:=y;show((p==q) && (((mkStr s).toList==(mkStr t).toList) && ((i==j) && true)))=_;rw[toList_mkStr,toList_mkStr,Bool.and_true,JR,dB,dB,beq_iff_eq,beq_iff_eq,beq_iff_eq,decide_eq_true_eq,E.mk.injEq]
theorem J8 : ∀m,aL [Value.int .u8 0] m=(List.replicate m (0:UInt8)).map bv:=λm=>by
 induction m with
 | zero=>rfl
 | succ m ih=>rw[uW,lI,<-ih];rfl
theorem Sw{α:Type}{f:α->LV}{w:Nat}{zs:List α}(Zc:ak h a (zs.flatMap f))(hw:∀ x,(f x).length=w)(h0:0<w){i:Nat}(hz:i<zs.length):∃p,a=some p/\ai h (p.add (i*w)) (f zs[i]):=by
 cases a with
 | none=>
  have Zc:zs.flatMap f=[]:=Zc;have:=bq f w zs (λx _=>hw x);rw[Zc,FX]at this;have:0<zs.length*w:=Nat.mul_pos oX h0;omega
 | some p=>
  refine⟨p,rfl,?_⟩;have:=ai.part (show ai h p (zs.flatMap f) from Zc) (i*w) w;rw[kv f w _ (λx _=>hw x) i hz]at this;exact this
theorem oZ{s:LB}(hK:K (.bool (cm s)) h):C.cR (mkStr s) h K:=by
 have lV:(mkStr s).size=s.length:=rfl;refine cR.ok ?_;unfold cR;rw[lV,toList_mkStr,toList_mkStr,toList_mkStr];have no:cm s=false->K (.bool false) h:=λe=>by rw[<-e];exact hK
 have nn:∀x:Prop,(Qi s->x)->¬x->cm s=false:=λx hx hn=>by
  cases e:cm s with
  | false=>rfl
  | true=>exact absurd (hx (kO.mp e)) hn
 refine cd (λx=>no (nn _ (λe=>e.pos) oX)) λx1=>cd (λx=>no (nn _ (λe=>e.le) oX)) λx2=>cs (λx=>no (nn _ (λe=>e.dot) (by simpa using x))) λx3=>cs (λx=>no (nn _ (λe=>e.ail) (by simpa using x))) λx4=>?_;have x3:s≠[46]:=by simpa using x3
 have x4:s≠[46,46]:=by simpa using x4
 unfold cR.k1;rw[lV];refine⟨λi hh=>0<=i/\i<=s.length/\h=hh/\(s.take i.toNat).any oK=false,λi _=>((s.length:Int)-i).toNat,⟨oX,oX,rfl,rfl⟩,?_⟩;rintro i _ ⟨i0,i1,rfl,q⟩;refine cd (λhi=>?_) λhi=>?_
 ·have tK:i.toNat<s.length:=oX;have gs:(mkStr s).toList[i.toNat]?=some s[i.toNat]:=by rw[toList_mkStr,fg tK]
  have mem:s[i.toNat]∈s:=List.getElem_mem tK;refine⟨⟨i0,hi⟩,_,gs,ce (λx=>no (nn _ (λe=>(e.all _ mem).1) ?_)) λx=>⟨⟨i0,hi⟩,_,gs,ce (λy=>no (nn _ (λe=>(e.all _ mem).2) ?_)) λy=>?_⟩⟩
  ·intro fP;exact fP (sZ.mp (by have:((s[i.toNat].toNat:Nat):Int)=47:=x;show _=47;omega))
  ·intro fP;exact fP (sZ.mp (by have:((s[i.toNat].toNat:Nat):Int)=0:=y;show _=0;omega))
  ·rw[wrap_i64 oX oX];refine⟨⟨oX,oX,rfl,?_⟩,by show((s.length:Int)-(i+1)).toNat<((s.length:Int)-i).toNat;omega⟩;rw[show(i+1).toNat=i.toNat+1 by omega,jJ tK,Hr,q,wo,<-LI,decide_eq_false oX,decide_eq_false oX];rfl
 ·rw[gL oX]at q
  have:cm s=true:=kO.mpr ⟨oX,oX,x3,x4,λb hb=>by
   have:=List.any_eq_false.mp q b hb;unfold oK at this
   simpa using this⟩
  rw[this]at hK;exact hK
theorem lA(B:av h a l bs)(hl:4<=l)(hK:K (vI (py (bs.take 4):Nat)) h):C.iU a l c h K:=by
 have hb:=B.1;obtain⟨p,rfl,c0⟩:=tx B (i:=0) oX;obtain⟨_,e,c1⟩:=tx B (i:=1) oX
 cases e
 obtain⟨_,e,c2⟩:=tx B (i:=2) oX
 cases e
 obtain⟨_,e,c3⟩:=tx B (i:=3) oX
 cases e
 have eb:bs.take 4=[bs[0],bs[1],bs[2],bs[3]]:=by
  apply List.ext_getElem
  ·rw[dL];simp;omega
  ·intro i h1 h2;have h2:i<4:=h2;rw[List.getElem_take];obtain rfl|rfl|rfl|rfl:i=0∨i=1∨i=2∨i=3:=oX
   all_goals rfl
 have t0:=(bs[0]).toNat_lt;have t1:=(bs[1]).toNat_lt;have t2:=(bs[2]).toNat_lt;have t3:=(bs[3]).toNat_lt;rw[eb]at hK;simp only[py]at hK;refine iU.ok ⟨⟨oX,oX⟩,os ⟨_,c0,⟨oX,oX⟩,os ⟨_,c1,⟨oX,oX⟩,os ⟨_,c2,⟨oX,oX⟩,os ⟨_,c3,?_⟩⟩⟩⟩⟩;generalize bs[0].toNat=x0 at *;generalize bs[1].toNat=x1 at *;generalize bs[2].toNat=x2 at *;generalize bs[3].toNat=x3 at *
 rw[wq ((x0:Int)),wq ((x1:Int)),wq ((x2:Int)),wq ((x3:Int)),
  wq (256*(x1:Int)),wq (65536*(x2:Int)),wq (16777216*(x3:Int)),
  wq ((x0:Int)+256*x1),wq ((x0:Int)+256*x1+65536*x2),wq ((x0:Int)+256*x1+65536*x2+16777216*x3)]
 have:(x0:Int)+256*x1+65536*x2+16777216*x3=((x0+256*(x1+256*(x2+256*(x3+256*0))):Nat):Int):=oX;rw[this];exact hK
def Z32 : LB:=List.replicate 32 0
theorem Hx : Z32.length=32:=dU
theorem J9{s:LB}(gd:Sk.Good (i.toNat,s))(i0:0<=i)
  (hK:∀h',Fr No h h'->Sl h' 1 (some (bA h)) 32 32 ((form i.toNat s).map bv) (λx=>x=h.size)->K (vS (some (bA h)) 32 32) h'):C.ij i (mkStr s) h K:=by
 have lV:(mkStr s).size=s.length:=rfl;refine ij.ok ?_;unfold ij;rw[lV];refine⟨⟨oX,oX,oX,oX⟩,aC.intro λh2 n2=>?_⟩;have DQ:=n2.size;have r2:rd h2 h.size=Z32.map bv:=n2.rd.trans (J8 32)
 have slice:∀{hh:ad} {xs:LB},xs.length=32->dA hh h.size->rd hh h.size=xs.map bv->Sl hh 1 (some (bA h)) 32 32 (xs.map bv) (λx=>x=h.size):=by
  intro hh xs hx w r;have e:(xs.map bv).length=32:=by rw[aP,hx]
  refine⟨oX,rfl,rfl,w,bE _,?_,?_⟩
  ·simp only[r,mW,mZ]
  ·simp only[r];omega
 refine ce (λh0=>hK h2 n2.fr ?_) λh0=>?_
 ·have ef:form i.toNat s=Z32:=by rw[form,if_pos oX];rfl
  rw[ef];exact slice Hx n2.own r2
 rcases gd with⟨x,_⟩|⟨g1,g2,g3⟩
 ·have x:i.toNat=0:=x;omega
 have g2:i.toNat<4294967296:=g2;have nm:=kO.mp g3;have nle:s.length<=27:=nm.le;have lB:=bC 4 i.toNat;have zl:(Z32.map bv).length=32:=by rw[aP,Hx]
 refine⟨λv k hh=>0<=k/\k<=4/\v=((i.toNat/256 ^ k.toNat:Nat):Int)/\Fr No h hh/\dA hh h.size/\rd hh h.size=put (Z32.map bv) 0 (((bo 4 i.toNat).take k.toNat).map bv),λ_ k _=>((4:Nat)-k).toNat,
  ⟨oX,oX,by rw[show(0:Int).toNat=0 from rfl,Nat.pow_zero,Nat.div_one];omega,n2.fr,n2.own,r2⟩,?_⟩
 rintro v k h3 ⟨k0,k1,rfl,f3,w3,r3⟩;refine cd (λhk=>?_) λhk=>?_
 ·have hk:k<4:=hk;refine⟨⟨k0,by show k<32;omega⟩,bD.add w3 (by rw[r3,dQ,zl];omega) λh4 d4=>?_⟩;have hkB:k.toNat<(bo 4 i.toNat).length:=oX;have pl:256 ^ k.toNat<=256 ^ 4:=Nat.pow_le_pow_right dX oX;have hq:i.toNat/256 ^ k.toNat<=i.toNat:=Ep _ _;have t1:∀q:Nat,Int.tmod (q:Int) 256=((q%256:Nat):Int):=λq=>by rw[Int.tmod_eq_emod_of_nonneg oX];omega
  have t2:∀q:Nat,Int.tdiv (q:Int) 256=((q/256:Nat):Int):=λq=>by rw[nL oX];omega
  have t3:∀q:Nat,q<=i.toNat->wI (q:Int)=q:=λq hq=>wrap_i64 oX oX;have e1:Int.tmod ((i.toNat/256 ^ k.toNat:Nat):Int) 256=((i.toNat/256 ^ k.toNat%256:Nat):Int):=t1 _
  have e2:Int.tdiv ((i.toNat/256 ^ k.toNat:Nat):Int) 256=((i.toNat/256 ^ (k.toNat+1):Nat):Int):=by
   rw[t2,Nat.pow_succ,<-Nat.div_div_eq_div_mul]
  have hq2:i.toNat/256 ^ (k.toNat+1)<=i.toNat:=Ep _ _
  have eb:Value.int .u8 (IntKind.wrap .u8 ((i.toNat/256 ^ k.toNat%256:Nat):Int))=bv (UInt8.ofNat (i.toNat/256 ^ k.toNat)):=by
   rw[wrap_u8 oX oX];show _=Value.int .u8 ((UInt8.ofNat (i.toNat/256 ^ k.toNat)).toNat:Int);rw[lX]
  rw[e1,eb]at d4;rw[e2,wq (k+1),t3 _ hq2];refine⟨⟨oX,oX,by rw[show(k+1).toNat=k.toNat+1 by omega],f3.did d4 λx=>oX,d4.own,?_⟩,bW (m:=4) hk⟩;have T8:((bo 4 i.toNat).take k.toNat).length=k.toNat:=by rw[dL];omega
  have ee:(bo 4 i.toNat)[k.toNat]=UInt8.ofNat (i.toNat/256 ^ k.toNat):=by simp only[bo,List.getElem_map,List.getElem_range]
  rw[d4.rd,r3,show(k+1).toNat=k.toNat+1 by omega,jJ hkB,eT,BV,ee,rv,aP,T8]
 ·have hk:¬k<4:=hk;rw[gL oX]at r3;refine⟨⟨oX,oX⟩,bD.add w3 (by rw[r3,dQ,zl];show 0+4<32;omega) λh5 d5=>?_⟩
  have Lp:Value.int .u8 (IntKind.wrap .u8 ((s.length:Nat):Int))=bv (UInt8.ofNat s.length):=by
   rw[wrap_u8 oX oX];show _=Value.int .u8 ((UInt8.ofNat s.length).toNat:Int);rw[lX,Nat.mod_eq_of_lt oX]
  rw[Lp,r3]at d5;have f5:Fr No h h5:=f3.did d5 λx=>by omega
  have r5:rd h5 h.size=put (put (Z32.map bv) 0 ((bo 4 i.toNat).map bv)) 4 [bv (UInt8.ofNat s.length)]:=d5.rd
  refine⟨λj hh=>0<=j/\j<=s.length/\Fr No h hh/\dA hh h.size/\rd hh h.size=put (put (put (Z32.map bv) 0 ((bo 4 i.toNat).map bv)) 4 [bv (UInt8.ofNat s.length)]) 5 ((s.take j.toNat).map bv),λj _=>((s.length:Int)-j).toNat,
   ⟨oX,oX,f5,d5.own,r5⟩,?_⟩
  rintro j h6 ⟨j0,j1,f6,w6,r6⟩;refine cd (λhj=>?_) λhj=>?_
  ·have rA:j.toNat<s.length:=oX;rw[wq (5+j),wq (j+1)];refine⟨⟨j0,hj⟩,s[j.toNat],by rw[toList_mkStr,fg rA],⟨oX,by show 5+j<32;omega⟩,bD.add w6 (by rw[r6,dQ,dQ,dQ,zl];omega) λh7 d7=>?_⟩;refine⟨⟨oX,oX,f6.did d7 λx=>oX,d7.own,?_⟩,by show((s.length:Int)-(j+1)).toNat<((s.length:Int)-j).toNat;omega⟩;have T8:(s.take j.toNat).length=j.toNat:=(by rw[dL];omega);rw[d7.rd,r6,show(j+1).toNat=j.toNat+1 by omega,jJ rA,eT,BV,rv,aP,T8,show 0+(5+j).toNat=5+j.toNat by omega];rfl
  ·rw[gL oX]at r6;have fl:(form i.toNat s).length=32:=qA (Or.inr ⟨g1,g2,g3⟩);refine hK h6 f6 (slice fl w6 (r6.trans ?_))
   have key:∀(X A B C:LV),A.length=4->B.length=1->put (put (put X 0 A) 4 B) 5 C=put X 0 (A++(B++C)):=by
    intro X A B C h1 h2;rw[Cy,Cy,h1,h2]
   rw[key _ _ _ _ (by rw[aP];exact lB) rfl,put_eq _ _ _ (by rw[bg,bg,aP,aP,zl,lB,ik];omega)];rw[form,if_neg oX,eT,lI,eT,List.take_zero,List.nil_append,iW];congr 1;rw[iW];show bv _::(s.map bv++_)=_;congr 2;rw[bg,bg,aP,aP,lB,ik,Z32,<-List.map_drop,List.drop_replicate];congr 2;omega
theorem XI(hb:bs.length=32)(h0:py (bs.take 4)=0):one bs=if bs=form 0 []then some (0,[])else none:=by
 split
 ·rename_i h;rw[h];exact Hl zJ
 ·rename_i h;rw[one,if_pos h0]
  split
  ·rename_i hz;exfalso;apply h;have:=yQ hz;rw[hb]at this;exact this
  ·rfl
theorem XJ(hb:bs.length=32)(h0:py (bs.take 4)≠0)(hn:(bs.getD 4 0).toNat<=27)(Zl:cm ((bs.drop 5).take (bs.getD 4 0).toNat)=true) :
  one bs=if bs=form (py (bs.take 4)) ((bs.drop 5).take (bs.getD 4 0).toNat)then some (py (bs.take 4),(bs.drop 5).take (bs.getD 4 0).toNat)else none:=by
 have lt:=yD (bs.take 4);rw[dL,show min 4 bs.length=4 by omega]at lt;have pos:=(kO.mp Zl).pos;rw[dL]at pos
 split
 ·rename_i h;have:=Hl (x:=(py (bs.take 4),(bs.drop 5).take (bs.getD 4 0).toNat)) (Or.inr ⟨by show 1<=py _;omega,lt,Zl⟩)
  conv=>lhs;rw[h]
  exact this
 ·rename_i h
  cases e:one bs with
  | none=>rfl
  | some x=>
   exfalso;apply h;have e':=e;obtain⟨_,e2⟩:=NT hb e;rw[one,if_neg h0,if_neg oX]at e'
   split at e'
   ·obtain rfl:=Option.some.inj e';exact e2
   ·cases e'
theorem XK(h0:py (bs.take 4)≠0)(hn:27<(bs.getD 4 0).toNat∨cm ((bs.drop 5).take (bs.getD 4 0).toNat)=false):one bs=none:=by
 rw[one,if_neg h0]
 split
 ·rfl
 ·rename_i h
  rcases hn with hn|hn
  ·omega
  ·rw[hn,yH];rfl
theorem XL{i:Nat}{s:LB}(B:av h a 32 bs)(gd:Sk.Good (i,s))(ho:one bs=if bs=form i s then some (i,s) else none)
  (hK:∀h' x,Fr No h h'->one bs=some x->K (.tuple #[vI (x.1:Nat),.string (mkStr x.2),.bool true]) h') (hN:∀h' n s,Fr No h h'->one bs=none->K (.tuple #[vI n,.string s,.bool false]) h'):fL.k1 a 32 (i:Int) (mkStr s) h K:=by
 have hb:=B.1;have fl:(form i s).length=32:=qA gd;unfold fL.k1;refine J9 (i:=(i:Int)) (by rw[cA];exact gd) oX λh5 f5 s5=>⟨_,_,_,rfl,?_⟩;rw[cA]at s5;have B5:=av.fr f5 B λ_ _ x=>x;refine⟨λk hh=>0<=k/\k<=32/\h5=hh/\bs.take k.toNat=(form i s).take k.toNat,λk _=>((32:Nat)-k).toNat,⟨oX,oX,rfl,rfl⟩,?_⟩;rintro k _ ⟨k0,k1,rfl,e⟩;refine cd (λhk=>?_) λhk=>?_
 ·have hk:k<32:=hk;obtain⟨p,rfl,ca⟩:=tx B5 (i:=k.toNat) oX;obtain⟨_,eq,cb⟩:=tx s5.str (i:=k.toNat) oX
  cases eq
  refine⟨⟨k0,oX⟩,os ⟨_,ca,⟨k0,oX⟩,os ⟨_,cb,cn (λfP=>hN h5 _ _ f5 ?_) λheq=>?_⟩⟩⟩
  ·rw[ho,if_neg];rintro rfl;exact fP rfl
  ·rw[wrap_i64 oX oX];refine⟨⟨oX,oX,rfl,?_⟩,bW (m:=32) hk⟩;have:bs[k.toNat]' oX=(form i s)[k.toNat]' oX:=sZ.mp (by exact_mod_cast heq);rw[show(k+1).toNat=k.toNat+1 by omega,jJ (show k.toNat<bs.length by omega),jJ (show k.toNat<(form i s).length by omega),e,this]
 ·have hk:¬k<32:=hk;rw[gL oX,gL oX]at e;exact hK h5 (i,s) f5 (by rw[ho,if_pos e])
theorem N1(B:av h a 32 bs)(hc:32<=c)
  (hK:∀h' x,Fr No h h'->one bs=some x->K (.tuple #[vI (x.1:Nat),.string (mkStr x.2),.bool true]) h') (hN:∀h' n s,Fr No h h'->one bs=none->K (.tuple #[vI n,.string s,.bool false]) h'):C.fL a 32 c h K:=by
 have hb:=B.1;refine fL.ok (lA B oX ⟨_,rfl,?_⟩)
 have lt:py (bs.take 4)<4294967296:=by
  have:=yD (bs.take 4);rw[dL,show min 4 bs.length=4 by omega]at this;exact this
 have h4:4<bs.length:=oX;have e4:bs.getD 4 0=bs[4]:=by rw[gh,fg h4];rfl
 have bt:=(bs[4]).toNat_lt;refine cn (λh0=>?_) λh0=>?_
 ·have h0:py (bs.take 4)≠0:=oX;obtain⟨p,rfl,c4⟩:=tx B h4;refine⟨⟨oX,oX⟩,os ⟨_,c4,?_⟩⟩;have nm:=XJ hb h0;have lo:=XK (bs:=bs) h0;rw[e4]at nm lo;generalize bs[4].toNat=n at bt nm lo;rw[wq ((n:Int)),wq (5+(n:Int))];refine cd (λhn=>hN h _ _ (Fr.refl _ _) (lo (Or.inl oX))) λhn=>⟨⟨oX,oX,oX⟩,(bs.drop 5).take n,?_,?_⟩
  ·have:=av.cut B hc (i:=5) (j:=5+n) oX oX;rw[show 5+n-5=n by omega]at this;rw[show(5+(n:Int)).toNat-Int.toNat 5=n by omega];exact this
  ·refine oZ ⟨_,rfl,iu ?_⟩
   cases Zl:cm ((bs.drop 5).take n)with
   | false=>exact hN h _ _ (Fr.refl _ _) (lo (Or.inr Zl))
   | true=>exact ct rfl (XL B (Or.inr ⟨by show 1<=py _;omega,lt,Zl⟩) (nm oX Zl) hK hN)
 ·have h0:py (bs.take 4)=0:=oX;rw[h0];exact XL (i:=0) (s:=[]) B zJ (XI hb h0) hK hN
theorem LK(B:av h a l bs)(CS:l<=c)
  (hK:∀h' a' l' c',Fr No h h'->Sl h' 3 a' l' c' ((sR bs).1.flatMap E.v) (cW h.size)->K (.tuple #[vS a' l' c',vI (sR bs).2]) h'):C.kG a l c h K:=by
 have hb:=B.1;refine kG.ok (cn (λhl=>?_) λhl=>?_)
 ·have e:sR bs=([],32):=by rw[sR,if_pos oX]
  rw[e]at hK;exact hK h none 0 0 (Fr.refl _ _) (Sl.nil _ _ _)
 have hl:l=512:=oX
 have e:sR bs=match dec 16 bs with
  | none=>([],140)
  | some hs=>(iw 0 hs,0):=by rw[sR,if_neg oX] <;> (cases dec 16 bs <;> rfl)
 refine⟨λla ll lc n hh=>0<=n/\n<=16/\Fr No h hh/\∃pre:List (Nat×cC),pre.length=n.toNat/\dec 16 bs=(dec (16-n.toNat) (bs.drop (32*n.toNat))).map (pre ++ ·)/\Sl hh 3 la ll lc ((iw 0 pre).flatMap E.v) (cW h.size),λ_ _ _ n _=>(16-n).toNat,
  ⟨oX,oX,Fr.refl _ _,[],rfl,by rw[show(0:Int).toNat=0 from rfl,Nat.mul_zero,mW];simp,Sl.nil _ _ _⟩,?_⟩
 rintro la ll lc n h2 ⟨n0,n1,f2,pre,pl,pd,ps⟩;have DQ:=f2.size;have pll:=Hw pre 0
 have hll:ll=(iw 0 pre).length:=by
  have:=ps.1;rw[bq E.v 3 _ (λx _=>E.len x)]at this;omega
 refine cd (λhn=>?_) λhn=>?_
 ·rw[NU oX]at pd;rw[wq (32*n),wq (32*n+32),wq (n+1)];refine⟨⟨oX,oX,oX⟩,?_⟩;have B2:=av.cut (av.fr f2 B λ_ _ x=>x) CS (i:=32*n.toNat) (j:=32*n.toNat+32) oX oX;rw[show(32*n).toNat=32*n.toNat by omega,show(32*n+32).toNat-32*n.toNat=32 by omega];rw[show 32*n.toNat+32-32*n.toNat=32 by omega]at B2;refine N1 B2 oX (λh4 x f4 ho=>⟨_,_,_,rfl,?_⟩) λh4 m s f4 ho=>⟨_,_,_,rfl,?_⟩
  ·have f24:=f2.no f4;rw[ho]at pd
   have pd':dec 16 bs=(dec (16-(n+1).toNat) (bs.drop (32*(n+1).toNat))).map ((pre++[x]) ++ ·):=by
    rw[pd,show(n+1).toNat=n.toNat+1 by omega]
    cases dec (16-(n.toNat+1)) (bs.drop (32*(n.toNat+1)))with
    | none=>rfl
    | some r=>simp
   have ee:iw 0 (pre++[x])=iw 0 pre++(if x.1=0 then[]else[⟨n,x.2,x.1⟩]):=by
    rw[yR,pl,iw,iw,show((0+n.toNat:Nat):Int)=n by omega]
   have ps4:=ps.fr f4 λ_ _ _ x=>x;refine cf rfl (cn (λhx=>⟨rfl,aC.intro λh5 n5=>⟨E.v ⟨n,x.2,x.1⟩,rfl,ah n5.rd,E.one _,?_⟩⟩) λhx=>⟨⟨oX,oX,f24,pre++[x],by rw[bg,pl,ik];omega,pd',?_⟩,by show(16-(n+1)).toNat<(16-n).toNat;omega⟩)
   ·have XH:x.1≠0:=λe=>hx (by rw[e];rfl);rw[if_neg XH]at ee;have f25:=f24.new n5;have hs5:=f25.size;have AE:(rV).bytes=32:=rfl;refine cY (elem:=rV) (ps4.fr n5.fr λ_ _ _ x=>x) rfl rfl (by rw[AE];omega) oX λa' c' h6 f6 s6=>⟨⟨oX,oX,?_,pre++[x],by rw[bg,pl,ik];omega,pd',?_⟩,by show(16-(n+1)).toNat<(16-n).toNat;omega⟩
    ·exact f25.trans f6 λb hb hF=>by have:h.size<=b:=hF;omega
    ·rw[ee,iy];refine Sl.mono (s6:Sl h6 3 a' (ll+1) c' _ _) λb hF=>?_
     rcases hF with hF|hF
     ·exact hF
     ·show h.size<=b;omega
   ·have XH:x.1=0:=oX;rw[if_pos XH,gi]at ee;rw[ee];exact ps4
  ·rw[ho]at pd;have e2:sR bs=([],140):=(by rw[e,pd];rfl);rw[e2]at hK;exact ct rfl (hK h4 none 0 0 (f2.no f4) (Sl.nil _ _ _))
 ·have en:n.toNat=16:=oX;rw[en]at pd
  have e2:sR bs=(iw 0 pre,0):=by
   have z:dec (16-16) (bs.drop (32*16))=some []:=(by rw[uH];rfl);rw[e,pd,z,OW,gi]
  rw[e2]at hK;exact hK h2 la ll lc f2 ps
end Ss
namespace Di
open Go Go.Proofs Ad Tm Bt Spc Av Fi Bm Ino Sk Ss
def aw(T:TM)(g:G)(n:Int):List Int×Int:=
 if(getM T g n).2≠0 then getM T g n else if(getM T g n).1.getD 0 0=0 then((getM T g n).1,110)else if(getM T g n).1.getD 0 0≠2 then((getM T g n).1,161)else getM T g n
theorem wH{T:TM}{g:G}(h:(aw T g n).2=0):aw T g n=getM T g n/\(getM T g n).2=0/\(getM T g n).1.getD 0 0=2:=by
 unfold aw at h ⊢
 split
 ·rename_i y;rw[if_pos y]at h;exact absurd h y
 ·rename_i y;rw[if_neg y]at h
  split
  ·rename_i z;rw[if_pos z]at h;exact absurd (show(110:Int)=0 from h) dX
  ·rename_i z;rw[if_neg z]at h
   split
   ·rename_i w;rw[if_pos w]at h;exact absurd (show(161:Int)=0 from h) dX
   ·rename_i w;exact⟨rfl,rB y,rB w⟩
theorem mS(T:TM)(g:G)(n:Int):(aw T g n).1.length=15:=by
 have l:=cZ T g n;unfold aw
 split
 ·exact l
 ·split
  ·exact l
  ·split <;> exact l
structure uS where
 index:Nat
 block:Int
 bytes:Tm.cC
 cells:List E
def ay(T:TM)(g:G)(R:List Int)(k:Nat):uS×Int:=(⟨k,(bT T g R k).1,(bH T g R k).1,(sR (bH T g R k).1).1⟩,if(bH T g R k).2≠0 then(bH T g R k).2 else(sR (bH T g R k).1).2)
def aG(T:TM)(g:G)(R:List Int):Nat->Nat->List uS×Int
 | 0,_=>([],0)
 | m+1,k=>if(ay T g R k).2≠0 then([],(ay T g R k).2)else((ay T g R k).1::(aG T g R m (k+1)).1,(aG T g R m (k+1)).2)
def cF(T:TM)(g:G)(R:List Int):List uS×Int:=aG T g R (R.getD 2 0/512).toNat 0
def cJ(l:uS)(s:Tm.cC):Option E:=l.cells.find? λc=>c.name==s
def gn(T:TM)(g:G)(R:List Int)(s:Tm.cC):Nat->Nat->Option (uS×E)×Int
 | 0,_=>(none,160)
 | m+1,k=>if(ay T g R k).2≠0 then(none,(ay T g R k).2)else match cJ (ay T g R k).1 s with
  | some c=>(some ((ay T g R k).1,c),0)
  | none=>gn T g R s m (k+1)
def gI(T:TM)(g:G)(n:Int)(s:Tm.cC):Option (uS×E)×Int:=
 if cm s=false then(none,1)else if(aw T g n).2≠0 then(none,(aw T g n).2)else gn T g (aw T g n).1 s ((aw T g n).1.getD 2 0/512).toNat 0
theorem Et{T:TM}{g:G}{R:List Int}{s:Tm.cC}:∀(m k:Nat) (x:uS×E),(gn T g R s m k).1=some x->(gn T g R s m k).2=0/\x.2.name=s/\x.2∈x.1.cells/\∃j,k<=j/\j<k+m/\x.1=(ay T g R j).1/\(ay T g R j).2=0
 | 0,k,x,h=>by cases h
 | m+1,k,x,h=>by
  unfold gn at h ⊢
  split at h
  ·cases h
  ·rename_i y;rw[if_neg y]
   split at h
   ·rename_i c hc
    cases h
    refine⟨rfl,?_,List.mem_of_find?_eq_some (by unfold cJ at hc;exact hc),k,bE _,oX,rfl,rB y⟩;unfold cJ at hc;have q:=List.find?_some hc;exact eq_of_beq q
   ·obtain⟨a,b,c,j,j0,j1,j2⟩:=Et m (k+1) x h;exact⟨a,b,c,j,oX,oX,j2⟩
theorem Eu{T:TM}{g:G}{R:List Int}{s:Tm.cC}:∀(m k:Nat),(gn T g R s m k).1=none->(gn T g R s m k).2≠0
 | 0,k,_=>by show(160:Int)≠0;decide
 | m+1,k,h=>by
  unfold gn at h ⊢
  split at h
  ·rename_i y;rw[if_pos y];exact y
  ·rename_i y;rw[if_neg y]
   split at h
   ·cases h
   ·exact Eu m (k+1) h
def findD(T:TM)(g:G)(n:Int)(s:Tm.cC):Int×Int:=((match (gI T g n s).1 with
 | some x=>x.2.inode
 | none=>0),(gI T g n s).2)
def mf(T:TM)(x:uS×E)(r:Int×Tm.cC):TM×Int×Int:=
 if r.1≠0 then(T,0,r.1)else if(T.write x.1.block r.2).2≠0 then((T.write x.1.block r.2).1,0,(T.write x.1.block r.2).2)else((T.write x.1.block r.2).1,x.2.inode,0)
def jV(T:TM)(g:G)(n:Int)(s:Tm.cC):TM×Int×Int:=match (gI T g n s).1 with
 | some x=>mf T x (rH x.1.bytes x.2.place)
 | none=>(T,0,(gI T g n s).2)
def vO(g:G)(i:Int):Bool:=decide (1<=i) && decide (i<g.count)
def fW(T:TM)(g:G)(n:Int)(s:Tm.cC)(i:Int):TM×Int×Int:=
 if cm s=false then(T,0,1)else if vO g i=false then(T,0,110)else match (gI T g n s).1 with
 | some x=>mf T x (gP x.1.bytes ⟨x.2.place,s,i⟩)
 | none=>(T,0,(gI T g n s).2)
def dZ(s:Tm.cC):List uS->Int×Int×Bool->Int×Int×Bool
 | [],x=>x
 | l::r,(i,p,b)=>dZ s r (if p<0/\0<=(nJ l.bytes).1/\(nJ l.bytes).2=0 then((l.index:Int),(nJ l.bytes).1,b || (cJ l s).isSome)else(i,p,b || (cJ l s).isSome))
def tO(T:TM)(g:G)(n:Int)(R:List Int)(index place:Int)(s:Tm.cC)(i:Int):TM×Int:=
 if(bR T g R index).2.2.2≠0 then((bR T g R index).1,(bR T g R index).2.2.2)else
 if((bR T g R index).1.read (bR T g R index).2.2.1).2≠0 then((bR T g R index).1,((bR T g R index).1.read (bR T g R index).2.2.1).2)else
 if(gP ((bR T g R index).1.read (bR T g R index).2.2.1).1 ⟨max place 0,s,i⟩).1≠0 then((bR T g R index).1,(gP ((bR T g R index).1.read (bR T g R index).2.2.1).1 ⟨max place 0,s,i⟩).1)else
 if((bR T g R index).1.write (bR T g R index).2.2.1 (gP ((bR T g R index).1.read (bR T g R index).2.2.1).1 ⟨max place 0,s,i⟩).2).2≠0 then(bR T g R index).1.write (bR T g R index).2.2.1 (gP ((bR T g R index).1.read (bR T g R index).2.2.1).1 ⟨max place 0,s,i⟩).2 else
 if(if place<0 then(bR T g R index).2.1.set 2 ((bR T g R index).2.1.getD 2 0+512)else(bR T g R index).2.1)=R then(((bR T g R index).1.write (bR T g R index).2.2.1 (gP ((bR T g R index).1.read (bR T g R index).2.2.1).1 ⟨max place 0,s,i⟩).2).1,0)else
  mE ((bR T g R index).1.write (bR T g R index).2.2.1 (gP ((bR T g R index).1.read (bR T g R index).2.2.1).1 ⟨max place 0,s,i⟩).2).1 g n (if place<0 then(bR T g R index).2.1.set 2 ((bR T g R index).2.1.getD 2 0+512)else(bR T g R index).2.1)
def gv(T:TM)(g:G)(n:Int)(s:Tm.cC)(i:Int):TM×Int:=
 if cm s=false then(T,1)else if vO g i=false then(T,110)else if(aw T g n).2≠0 then(T,(aw T g n).2)else
 if(cF T g (aw T g n).1).2≠0 then(T,(cF T g (aw T g n).1).2)else
 if(dZ s (cF T g (aw T g n).1).1 ((aw T g n).1.getD 2 0/512,-1,false)).2.2=true then(T,150)else if T.mark.2≠0 then(T,T.mark.2)else
  uP T (tO T g n (aw T g n).1 (dZ s (cF T g (aw T g n).1).1 ((aw T g n).1.getD 2 0/512,-1,false)).1 (dZ s (cF T g (aw T g n).1).1 ((aw T g n).1.getD 2 0/512,-1,false)).2.1 s i)
def mT(l:List uS):List E:=l.flatMap λx=>x.cells.map λc=>⟨c.place+16*x.index,c.name,c.inode⟩
end Di
namespace Di
open Go Go.Proofs Ad Tm Bt Spc Av Ss
open Fi (bH uP)
open Bm (bT bR)
open Ino (getM mE)
open Sk (E iw low cm dec St Hn)
abbrev Cl :=Nat×Tm.cC
theorem aar{hs:List Cl}(hl:hs.length=16)(g:∀ x ∈ hs,Sk.Good x):sR (Sk.blk hs)=(iw 0 hs,0):=by
 have e:=St g;rw[hl]at e;unfold sR;rw[if_neg (λy=>y (by rw[Hn g,hl])),e]
end Di
namespace Di
open Go Go.Proofs Ad Tm Bt Spc Av Ss Re
open Sk (E iw low cm Qi kO zJ)
open Go.Op (bytesLess)
theorem Hy : ∀x:Tm.cC,bytesLess x x=false
 | []=>rfl
 | a::r=>by
  unfold bytesLess;rw[Hy r,yH,Bool.or_false,decide_eq_false_iff_not];exact UInt8.lt_irrefl a
theorem LL(a b:UInt8)(x y:Tm.cC):bytesLess (a::x) (b::y)=true↔a<b∨(a=b/\bytesLess x y=true):=by
 show(decide (a<b) || (a==b && bytesLess x y))=true↔_;rw[BM,dB,decide_eq_true_eq,beq_iff_eq]
theorem XM(x:Tm.cC):bytesLess x []=false:=by cases x <;> rfl
theorem CD : ∀{x y z:Tm.cC},bytesLess x y=true->bytesLess y z=true->bytesLess x z=true
 | _,_,[],_,h=>by rw[XM]at h;cases h
 | _,[],_::_,h,_=>by rw[XM]at h;cases h
 | [],_::_,_::_,_,_=>rfl
 | a::x,b::y,c::z,h1,h2=>by
  rw[LL]at h1 h2 ⊢
  rcases h1 with h1|⟨rfl,h1⟩
  ·rcases h2 with h2|⟨rfl,h2⟩
   ·exact .inl (UInt8.lt_trans h1 h2)
   ·exact .inl h1
  ·rcases h2 with h2|⟨rfl,h2⟩
   ·exact .inl h2
   ·exact .inr ⟨rfl,CD h1 h2⟩
theorem LM : ∀{x y:Tm.cC},bytesLess x y=false->bytesLess y x=false->x=y
 | [],[],_,_=>rfl
 | [],_::_,h,_=>by cases h
 | _::_,[],_,h=>by cases h
 | a::x,b::y,h1,h2=>by
  have h1:¬(a<b∨(a=b/\bytesLess x y=true)):=λz=>by rw[(LL a b x y).mpr z]at h1;cases h1
  have h2:¬(b<a∨(b=a/\bytesLess y x=true)):=λz=>by rw[(LL b a y x).mpr z]at h2;cases h2
  have e:a=b:=by
   have n1:¬a<b:=λz=>h1 (.inl z);have n2:¬b<a:=λz=>h2 (.inl z);rw[UInt8.lt_iff_toNat_lt]at n1 n2;exact sZ.mp oX
  subst e;have:=LM (x:=x) (y:=y) (by cases q:bytesLess x y with|false=>rfl|true=>exact absurd (.inr ⟨rfl,q⟩) h1) (by cases q:bytesLess y x with|false=>rfl|true=>exact absurd (.inr ⟨rfl,q⟩) h2);rw[this]
theorem Sy{x y:Tm.cC}(h:bytesLess x y=true):bytesLess y x=false:=by
 cases q:bytesLess y x with
 | false=>rfl
 | true=>have:=CD h q;rw[Hy]at this;cases this
def Bj(a b:E):Bool:=bytesLess a.name b.name || (a.name==b.name && decide (a.place<b.place))
theorem xr{a b:E}:Bj a b=true↔bytesLess a.name b.name=true∨(a.name=b.name/\a.place<b.place):=by
 unfold Bj;rw[BM,dB,decide_eq_true_eq,beq_iff_eq]
theorem LN(a:E):Bj a a=false:=by
 cases q:Bj a a with
 | false=>rfl
 | true=>
  rcases xr.mp q with h|⟨_,h⟩
  ·rw[Hy]at h;cases h
  ·omega
theorem uk{a b c:E}(h1:Bj a b=true)(h2:Bj b c=true):Bj a c=true:=by
 rw[xr]at h1 h2 ⊢
 rcases h1 with h1|⟨e1,h1⟩
 ·rcases h2 with h2|⟨e2,h2⟩
  ·exact .inl (CD h1 h2)
  ·rw[<-e2];exact .inl h1
 ·rcases h2 with h2|⟨e2,h2⟩
  ·rw[e1];exact .inl h2
  ·exact .inr ⟨e1.trans e2,oX⟩
theorem Sz{a b:E}(h1:Bj a b=false)(h2:Bj b a=false):a.name=b.name/\a.place=b.place:=by
 have h1:¬(bytesLess a.name b.name=true∨(a.name=b.name/\a.place<b.place)):=λz=>by rw[xr.mpr z]at h1;cases h1
 have h2:¬(bytesLess b.name a.name=true∨(b.name=a.name/\b.place<a.place)):=λz=>by rw[xr.mpr z]at h2;cases h2
 have e:a.name=b.name:=LM (by cases q:bytesLess a.name b.name with|false=>rfl|true=>exact absurd (.inl q) h1) (by cases q:bytesLess b.name a.name with|false=>rfl|true=>exact absurd (.inl q) h2);refine⟨e,?_⟩;have n1:¬a.place<b.place:=λz=>h1 (.inr ⟨e,z⟩);have n2:¬b.place<a.place:=λz=>h2 (.inr ⟨e.symm,z⟩);omega
def YX(a b:E):Prop:=Bj b a=false
def UG(c:E):List E->List E
 | []=>[c]
 | x::r=>if Bj c x=true then c::x::r else x::UG c r
def sortE : List E->List E
 | []=>[]
 | c::r=>UG c (sortE r)
theorem DB(c:E):∀l,(UG c l).Perm (c::l)
 | []=>.refl _
 | x::r=>by
  unfold UG
  split
  ·exact .refl _
  ·exact((DB c r).cons x).trans (.swap c x r)
theorem ql : ∀l,(sortE l).Perm l
 | []=>.refl _
 | c::r=>(DB c (sortE r)).trans ((ql r).cons c)
theorem Ev{c:E}:∀{l:List E},l.Pairwise YX->(UG c l).Pairwise YX
 | [],_=>List.pairwise_singleton _ _
 | x::r,h=>by
  have⟨h1,h2⟩:=Ao.mp h;unfold UG
  by_cases q:Bj c x=true
  ·rw[if_pos q];refine Ao.mpr ⟨λy hy=>?_,h⟩
   have nx:Bj x c=false:=by
    cases z:Bj x c with
    | false=>rfl
    | true=>have:=uk q z;rw[LN]at this;cases this
   rcases fO.mp hy with rfl|hy
   ·exact nx
   ·show Bj y c=false
    cases z:Bj y c with
    | false=>rfl
    | true=>have:=uk z q;rw[show Bj y x=false from h1 y hy]at this;cases this
  ·rw[if_neg q];refine Ao.mpr ⟨λy hy=>?_,Ev h2⟩
   rcases fO.mp ((DB c r).mem_iff.mp hy)with rfl|hy
   ·show Bj y x=false
    cases z:Bj y x with
    | false=>rfl
    | true=>exact absurd z q
   ·exact h1 y hy
theorem CE : ∀l:List E,(sortE l).Pairwise YX
 | []=>.nil
 | _::r=>Ev (CE r)
def CF(l:List E):Prop:=l.Pairwise λa b=>a.place<b.place
theorem CF.inj : ∀{l:List E},CF l->∀a∈l,∀b∈l,a.place=b.place->a=b
 | [],_,a,ha,_,_,_=>by cases ha
 | x::r,h,a,ha,b,hb,e=>by
  have⟨h1,h2⟩:=Ao.mp h
  rcases fO.mp ha with ea|ha'
  ·rcases fO.mp hb with eb|pV
   ·rw[ea,eb]
   ·have:=h1 b pV;rw[ea]at e;omega
  ·rcases fO.mp hb with eb|pV
   ·have:=h1 a ha';rw[eb]at e;omega
   ·exact CF.inj h2 a ha' b pV e
theorem DC{l m:List E}(u:CF l)(p:m.Perm l)(s:m.Pairwise YX):m=sortE l:=
 List.Perm.eq_of_pairwise (λa b ha hb h1 h2=>u.inj a (p.mem_iff.mp ha) b ((ql l).mem_iff.mp hb) (Sz h2 h1).2) s (CE l) (p.trans (ql l).symm)
theorem DD : ∀(hs:List Cl) (k:Nat),CF (iw k hs)
 | [],_=>.nil
 | x::r,k=>by
  unfold iw
  split
  ·exact DD r (k+1)
  ·refine Ao.mpr ⟨λy hy=>?_,DD r (k+1)⟩;obtain⟨a,_,_⟩:=Sk.uR r (k+1) y hy;show(k:Int)<y.place;omega
theorem rC(bs:LB):CF (sR bs).1/\∀e∈(sR bs).1,0<=e.place/\e.place<16:=by
 unfold sR
 split
 ·exact⟨.nil,λ_ h=>by cases h⟩
 ·rename_i hl
  cases hd:Sk.dec 16 bs with
  | none=>exact⟨.nil,λ_ h=>by cases h⟩
  | some hs=>
   refine⟨DD hs 0,λe he=>?_⟩;obtain⟨a,b,_⟩:=Sk.uR hs 0 e he;have:=(Sk.Cz (n:=16) (b:=bs) (by have:¬bs.length≠512:=hl;omega) hd).1;omega
structure aeT(l:uS):Prop where
 N3:CF l.cells
 Vt:∀e∈l.cells,0<=e.place/\e.place<16
theorem N4(T:TM)(g:G)(R:List Int)(k:Nat):aeT (ay T g R k).1:=⟨(rC _).1,(rC _).2⟩
theorem ki(T:TM)(g:G)(R:List Int):∀m k,CF (mT (aG T g R m k).1)/\∀e∈mT (aG T g R m k).1,16*(k:Int)<=e.place/\e.place<16*((k+m:Nat):Int)
 | 0,k=>⟨.nil,λ_ h=>by cases h⟩
 | m+1,k=>by
  unfold aG
  split
  ·exact⟨.nil,λ_ h=>by cases h⟩
  ·obtain⟨a,b⟩:=ki T g R m (k+1);obtain⟨c1,c2⟩:=N4 T g R k
   have key:∀e∈(ay T g R k).1.cells.map (λc=>(⟨c.place+16*((ay T g R k).1.index:Int),c.name,c.inode⟩:E)),16*(k:Int)<=e.place/\e.place<16*((k:Nat):Int)+16:=λe he=>by
    obtain⟨c,hc,rfl⟩:=jc.mp he;have:=c2 c hc;show 16*(k:Int)<=c.place+16*(k:Int)/\c.place+16*(k:Int)<_;omega
   show CF ((ay T g R k).1.cells.map _++mT _)/\∀e∈(ay T g R k).1.cells.map _++mT _,_;refine⟨List.pairwise_append.mpr ⟨List.pairwise_map.mpr (c1.imp λh=>?_),a,λx hx y hy=>?_⟩,λe he=>?_⟩
   ·rename_i x y;show x.place+16*(k:Int)<y.place+16*(k:Int);omega
   ·have:=key x hx;have:=b y hy;show x.place<y.place;omega
   ·rcases nB.mp he with h|h
    ·have:=key e h;omega
    ·have:=b e h;omega
def lD(T:TM)(g:G)(n:Int):List E×Int:=if(aw T g n).2≠0 then([],(aw T g n).2)else if(cF T g (aw T g n).1).2≠0 then([],(cF T g (aw T g n).1).2)else(sortE (mT (cF T g (aw T g n).1).1),0)
end Di
namespace Di
open Hp W Ad Tm Spc Re Av Rg Ss
open Hd (ints)
open In (lT aj aO)
open Ino (getM yP cZ)
open Bm (bT)
open Fi (bH tt uQ)
open Sk (E)
def tI(t:OA)(g:G)(n:Int)(R:List Int)(e:Int):LV:=vP t::(g.v++(vI n::(ints R++[vI e])))
theorem R15(h:R.length=15):∃a b c d e f g i j k l m n o p,R=[a,b,c,d,e,f,g,i,j,k,l,m,n,o,p]:=by
 match R,h with
 | [a,b,c,d,e,f,g,i,j,k,l,m,n,o,p],_=>exact⟨a,b,c,d,e,f,g,i,j,k,l,m,n,o,p,rfl⟩
section
variable{t : OA}{g : G}{n e e' : Int}{R : List Int}{rest : LV}
theorem jW(hR:R.length=15):(tI t g n R e).length=23:=by
 obtain⟨_,_,_,_,_,_,_,_,_,_,_,_,_,_,_,rfl⟩:=R15 hR;rfl
theorem Aq(hR:R.length=15):(tI t g n R e++rest)[22]?=some (vI e):=by
 obtain⟨_,_,_,_,_,_,_,_,_,_,_,_,_,_,_,rfl⟩:=R15 hR;rfl
theorem N5 : ((tI t g n R e++rest).drop 1).take 5=g.v:=rfl
theorem N6(hR:R.length=15):((tI t g n R e++rest).drop 7).take 15=ints R:=by
 obtain⟨_,_,_,_,_,_,_,_,_,_,_,_,_,_,_,rfl⟩:=R15 hR;rfl
theorem acg(hR:R.length=15):(tI t g n R e++rest)[7]?=some (vI (R.getD 0 0)):=by
 obtain⟨_,_,_,_,_,_,_,_,_,_,_,_,_,_,_,rfl⟩:=R15 hR;rfl
theorem ach(hR:R.length=15):(tI t g n R e++rest)[9]?=some (vI (R.getD 2 0)):=by
 obtain⟨_,_,_,_,_,_,_,_,_,_,_,_,_,_,_,rfl⟩:=R15 hR;rfl
theorem zL(hR:R.length=15):(tI t g n R e++rest).set 22 (vI e')=tI t g n R e'++rest:=by
 obtain⟨_,_,_,_,_,_,_,_,_,_,_,_,_,_,_,rfl⟩:=R15 hR;rfl
theorem aat{R':List Int}(hR:R.length=15)(hR':R'.length=15):put (tI t g n R e++rest) 7 (ints R')=tI t g n R' e++rest:=by
 rw[put_eq _ _ _ (by rw[aj,bg,jW hR];omega),aj,hR'];obtain⟨_,_,_,_,_,_,_,_,_,_,_,_,_,_,_,rfl⟩:=R15 hR;unfold tI;simp[G.v,ints]
theorem Fp : ∀v∈tI t g n R e,v.oneCell'=true:=by
 intro v hv;unfold tI at hv
 rcases fO.mp hv with rfl|hv
 ·rfl
 ·rcases nB.mp hv with h|h
  ·exact G.one g v h
  ·rcases fO.mp h with rfl|h
   ·rfl
   ·rcases nB.mp h with h|h
    ·exact aO R v h
    ·rw[kU.mp h];rfl
end
theorem xt{n:Nat}{v:Value}(e:rd h b=xs)(hv:xs[o+m+n]?=some v):cellOf h (Addr.add (Addr.add ⟨b,o,none⟩ m) n)=some v:=by rw[eA];exact aZ e hv
theorem DE{T:TM}{g:G}(gl:In.lT h)(x:Tx h F t d T)(ok:yP g)
  (hK:∀h',Fr No h h'->K (.agg ⟨tI t g n (aw T g n).1 (aw T g n).2⟩) h'):C.qT t g.v n h K:=by
 have lR:=cZ T g n;refine qT.ok (aC.intro λh2 n2=>aC.intro λh3 n3=>⟨g.v,rfl,ah ((n3.at_ n2.own.lt).trans n2.rd),rfl,aF.intro (z:=z105) rfl ?_ rfl λh5 n5=>?_⟩)
 ·intro v hv;have hz:∀v∈z32,v.oneCell'=true:=by decide
  rcases nB.mp hv with h|h
  ·rw[kU.mp h];rfl
  ·rcases nB.mp h with h|h
   ·exact G.one g v h
   ·rcases nB.mp h with h|h
    ·rw[kU.mp h];rfl
    ·rcases nB.mp h with h|h
     ·exact hz v h
     ·rw[kU.mp h];rfl
 have z2:=n2.size;have z3:=n3.size;have z5:=n5.size;have F5:Fr No h h5:=(n2.fr.new n3).new n5;have r5:rd h5 h3.size=tI t g n (List.replicate 15 0) 0:=n5.rd;refine⟨g.v,rfl,ah ((n5.at_).trans ((n3.at_ n2.own.lt).trans n2.rd)),Ino.Hj (gl.no F5) (x.no F5) ok λh6 f6=>⟨_,_,rfl,?_⟩⟩;have z6:=f6.size;have r6:rd h6 h3.size=tI t g n (List.replicate 15 0) 0:=(f6.r0).trans r5;have o6:dA h6 h3.size:=f6.own oX (λy=>y) n5.own;refine az.add o6 (by rw[aj,lR]) (aO _) (by rw[r6,jW dU];decide) λh7 d7=>bD.add d7.own (by rw[d7.rd,dQ,r6,jW dU];decide) λh8 d8=>?_
 have r8:rd h8 h3.size=tI t g n (getM T g n).1 (getM T g n).2:=by
  have e1:rd h6 h3.size=tI t g n (List.replicate 15 0) 0++[]:=by rw[r6,gi]
  rw[d8.rd,d7.rd,e1,show 0+7=7 from rfl,show 0+22=22 from rfl,aat dU lR,zL lR,gi]
 have r8':rd h8 h3.size=tI t g n (getM T g n).1 (getM T g n).2++[]:=by rw[gi];exact r8
 have z7:=d7.size;have z8:=d8.size;have F8:Fr No h h8:=((F5.no f6).did d7 λhl=>oX).did d8 λhl=>by omega
 have q8:rd h8 h2.size=z105:=(d8.at_).trans ((d7.at_).trans ((f6.r0).trans ((n5.at_).trans n3.rd)));have p8:dA h8 h2.size:=d8.ow (d7.ow (f6.own oX (λy=>y) (n5.ow n3.own)))
 -- the answer
 have out:∀(hh:ad) (e:Int),Fr No h hh->rd hh h3.size=tI t g n (getM T g n).1 e->rd hh h2.size=z105->dA hh h2.size->aw T g n=((getM T g n).1,e)->
   ∃cs:LV,List.length cs=23/\ai hh (bA h3) cs/\az (bA h2) cs 23 hh λh9=>∃res:LV,List.length res=23/\ai h9 (bA h2) res/\K (.agg ⟨res⟩) h9:=λhh e f r q p ho=>by
  rw[ho]at hK;refine⟨_,jW lR,ah r,az.intro p (jW lR) Fp (by rw[q];decide) λh9 d9=>⟨_,jW lR,ah ?_,hK h9 (f.did d9 λhl=>oX)⟩⟩;rw[d9.rd];exact fu _ _ (by rw[jW lR,q];rfl)
 refine⟨_,aZ r8' (Aq lR),cn (λhe=>out h8 _ F8 r8 q8 p8 (by unfold aw;rw[if_pos he])) λhe=>⟨_,xt r8' (acg lR),ce (λh0=>?_) λh0=>⟨_,xt r8' (acg lR),cn (λxR=>?_) λxR=>?_⟩⟩⟩
 ·refine bD.add d8.own (by rw[r8,jW lR];decide) λbG d10=>out bG 110 (F8.did d10 λhl=>oX) ?_ ((d10.at_).trans q8) (d10.ow p8) (by unfold aw;rw[if_neg (λy=>y he),if_pos h0]);rw[d10.rd,r8'];exact(zL lR).trans (gi _)
 ·refine bD.add d8.own (by rw[r8,jW lR];decide) λbG d10=>out bG 161 (F8.did d10 λhl=>oX) ?_ ((d10.at_).trans q8) (d10.ow p8) (by unfold aw;rw[if_neg (λy=>y he),if_neg h0,if_pos xR]);rw[d10.rd,r8'];exact(zL lR).trans (gi _)
 ·exact out h8 _ F8 r8 q8 p8 (by unfold aw;rw[if_neg (λy=>y he),if_neg h0,if_neg (λy=>y xR)])
theorem yT{g:G}{e':Int}{rest:LV}(hR:R.length=15)(w:dA h rb)(r:rd h rb=tI t g n R e++rest)
  (hK:∀h',xN rb h h' (tI t g n R e'++rest)->K (.bool (e' != 0)) h'):C.fw (some ⟨rb,0,none⟩) e' h K:=by
 refine fw.ok (os (bD.add w (by rw[r,bg,jW hR];omega) λh2 d2=>hK h2 ?_));rw[r,show 0+22=22 from rfl,zL hR]at d2;exact d2
structure It(hh:ad)(F:NP)(t d:OA)(T:TM)(g:G)(n:Int)(R:List Int)(e:Int)(rest:LV)(cb rb:Nat):Prop where
 gl:In.lT hh
 x:Tx hh F t d T
 cap:rd hh cb=[vP (some ⟨rb,0,none⟩)]
 ob:dA hh rb
 r:rd hh rb=tI t g n R e++rest
 nf:¬F rb
 b1:1<=rb
 ne:cb≠rb
section
variable{hh h' : ad}{F : Nat -> Prop}{t d : OA}{T : TM}{g : G}{n e e' : Int}{R : List Int}{rest : LV}{cb rb : Nat}
theorem It.clt(i:It hh F t d T g n R e rest cb rb):cb<hh.size:=pE (o:=0) (by rw[i.cap];rfl)
theorem It.fr(i:It hh F t d T g n R e rest cb rb){G:NP}(f:Fr G hh h')(h1:¬ G rb)(h2:¬ G cb)(h3:∀ b,F b->¬ G b)(h4:∀ b,b<1->¬ G b):It h' F t d T g n R e rest cb rb:=
 ⟨i.gl.fr f h4,i.x.fr f h3,(f.rd i.clt h2).trans i.cap,f.own i.ob.lt h1 i.ob,(f.rd i.ob.lt h1).trans i.r,i.nf,i.b1,i.ne⟩
theorem It.no(i:It hh F t d T g n R e rest cb rb)(f:Fr No hh h'):It h' F t d T g n R e rest cb rb:=i.fr f (λy=>y) (λy=>y) (λ_ _ y=>y) λ_ _ y=>y
theorem It.did(i:It hh F t d T g n R e rest cb rb)(f:xN rb hh h' (tI t g n R e'++rest)):It h' F t d T g n R e' rest cb rb:=
 ⟨i.gl.fr f.fr λb hb y=>by have:=i.b1;omega,i.x.fr f.fr λb hb y=>i.nf (y▸hb),(f.at_ i.clt i.ne).trans i.cap,f.own,f.rd,i.nf,i.b1,i.ne⟩
end
def rP(k:Nat)(b:Int)(ba:OA)(bl bc:Nat)(ca:OA)(cl cc:Nat):LV:=[vI k,vI b,vS ba bl bc,vS ca cl cc]
theorem zM{k:Nat}{b:Int}:∀v∈rP k b ba bl bc ca cl cc,v.oneCell'=true:=by
 intro v hv;simp only[rP,fO,nT,or_false]at hv
 rcases hv with rfl|rfl|rfl|rfl <;> rfl
structure Lf(h0 h:ad)(l:uS)(ba:OA)(bl bc:Nat)(ca:OA)(cl cc:Nat):Prop where
 s:Sl h 1 ba bl bc (l.bytes.map bv) (cW h0.size)
 c:Sl h 3 ca cl cc (l.cells.flatMap E.v) (cW h0.size)
theorem Lf.fr{h0 h h':ad}{l:uS}{ba:OA}{bl bc:Nat}{ca:OA}{cl cc:Nat}{G:NP}(x:Lf h0 h l ba bl bc ca cl cc)(f:Fr G h h')(hG:∀ b,b<h.size->h0.size<=b->¬ G b):Lf h0 h' l ba bl bc ca cl cc:=
 ⟨x.s.fr f hG,x.c.fr f hG⟩
theorem N7{z:Int}(h0:0<=z)(h1:z<=8459264):wI (Int.tdiv z 512)=z/512:=by
 rw[nL h0,wrap_i64 oX oX]
theorem yU{T:TM}{g:G}{rest:LV}(hR:R.length=15)(hs0:0<=R.getD 2 0)(Vd:R.getD 2 0<=8459264)(J:Nat->ad->Prop)
  (hc:∀k hh,J k hh->It hh F t d T g n R 0 rest cb rb)
  (hY:∀k hh h' ba bl bc ca cl cc,J k hh->k<(R.getD 2 0/512).toNat->(ay T g R k).2=0->Fr (λb=>b=rb) hh h'->rd h' rb=tI t g n R 0++rest->dA h' rb->Lf hh h' (ay T g R k).1 ba bl bc ca cl cc->
   rQ Tryz.prog l [.agg ⟨rP k (ay T g R k).1.block ba bl bc ca cl cc⟩] h' λv GF=>(v = .bool true/\J (k+1) GF)∨(v = .bool false/\K (.tuple #[]) GF))
  (h0:J 0 h) (hK:∀hh,J (R.getD 2 0/512).toNat hh->K (.tuple #[]) hh)
  (hE:∀k hh h',J k hh->k<(R.getD 2 0/512).toNat->(ay T g R k).2≠0->Fr (λb=>b=rb) hh h'->rd h' rb=tI t g n R (ay T g R k).2++rest->dA h' rb->K (.tuple #[]) h') :
  C.aQ (.func (.yield l) #[] #[]) (some ⟨cb,0,none⟩) h K:=by
 obtain⟨m,em⟩:∃m:Nat,R.getD 2 0/512=m:=⟨(R.getD 2 0/512).toNat,oX⟩;have hm:m<=16522:=oX;rw[em,cA]at hY hK hE;refine aQ.ok ⟨λi hh=>∃k:Nat,i=k/\k<=m/\J k hh,λi _=>(m-i).toNat,⟨0,rfl,bN _,h0⟩,?_⟩;rintro i h2 ⟨k,ei,hk,hJ⟩;have I2:=hc k h2 hJ;refine os ⟨_,dC I2.cap rfl,os ⟨_,aZ I2.r (Aq hR),ce (λ_=>os ⟨_,dC I2.cap rfl,os ⟨_,xt I2.r (ach hR),?_⟩⟩) λy=>absurd rfl y⟩⟩;rw[N7 hs0 Vd,em];refine cd (λbV=>?_) λbV=>?_
 rotate_left
 ·have:k=m:=oX;subst this;exact hK h2 hJ
 have bV:k<m:=oX;unfold aQ.k1;refine⟨by decide,aC.intro λh3 n3=>aF.intro rfl ?_ rfl λh5 n5=>?_⟩
 ·intro v hv;simp only[fO,nT,or_false]at hv
  rcases hv with rfl|rfl|rfl|rfl <;> rfl
 have z3:=n3.size;have z5:=n5.size;have F5:Fr No h2 h5:=n3.fr.new n5;have I5:=I2.no F5;refine os ⟨_,dC I5.cap rfl,os ⟨t,aZ I5.r rfl,os ⟨_,dC I5.cap rfl,os ⟨g.v,rfl,pY I5.r N5,os ⟨_,dC I5.cap rfl,os ⟨ints R,by rw[aj,hR],pY I5.r ?_,?_⟩⟩⟩⟩⟩⟩
 ·rw[aj,hR];exact N6 hR
 rw[ei];refine Bm.qy I5.gl I5.x hR λh6 f6=>⟨_,_,rfl,?_⟩;have z6:=f6.size;have o6:dA h6 h3.size:=f6.own oX (λy=>y) n5.own
 have l6:rd h6 h3.size=[vI k,vI 0,vS (some (bA h2)) 512 512,vS none 0 0]:=by
  rw[f6.rd oX λy=>y,n5.rd,ei];rfl
 have I6:=I5.no f6;refine bD.add o6 (by rw[l6];show 1<4;decide) λh7 d7=>?_;have z7:=d7.size;have l7:rd h7 h3.size=[vI k,vI (bT T g R k).1,vS (some (bA h2)) 512 512,vS none 0 0]:=by rw[d7.rd,l6];rfl
 have rl2:=I2.ob.lt;have cl2:=I2.clt;have xl2:∀b,F b->b<h2.size:=λb hb=>I2.x.lt hb;have g2:=I2.gl.lt;have I7:It h7 F t d T g n R 0 rest cb rb:=I6.fr d7.fr oX oX (λb hb y=>by have:=xl2 b hb;omega) λb hb y=>by omega
 have F7:Fr No h2 h7:=(F5.no f6).did d7 λhl=>by omega
 refine os ⟨_,dC I7.cap rfl,yT hR I7.ob I7.r λh8 d8=>⟨_,rfl,?_⟩⟩;have I8:=I7.did d8;have F8:Fr (λb=>b=rb) h2 h8:=(F7.mono λ_ _ y=>y.elim).trans d8.fr λ_ _ y=>y;have z8:=d8.size;have l8:=(d8.at_ (c:=h3.size) oX oX).trans l7;have o8:dA h8 h3.size:=d8.ow d7.own;refine cn (λhe=>?_) λhe=>?_
 · -- Find says no
  have e2:(ay T g R k).2=(bT T g R k).2:=by
   unfold ay;have:(bH T g R k).2=(bT T g R k).2:=(by unfold bH;rw[if_pos he]);show(if(bH T g R k).2≠0 then _ else _)=_;rw[this,if_pos he]
  refine hE k h2 h8 hJ bV (by rw[e2];exact he) F8 ?_ I8.ob;rw[e2];exact I8.r
 rw[he]at I8
 -- what is done with the bytes
 have K2:∀(bf:ad) (ba:OA) (bl bc:Nat),It bf F t d T g n R 0 rest cb rb->Fr (λb=>b=rb) h2 bf->h3.size<bf.size->rd bf h3.size=[vI k,vI (bT T g R k).1,vS ba bl bc,vS none 0 0]->dA bf h3.size->
   (bH T g R k).2=0->Sl bf 1 ba bl bc ((bH T g R k).1.map bv) (cW h2.size)->(∀p,ba=some p->p.block≠h3.size)->aQ.k2 (.func (.yield l) #[] #[]) (some ⟨cb,0,none⟩) (k:Int) h2 (λi hh=>∃k:Nat,i=k/\k<=m/\J k hh) (λi _=>(m-i).toNat) h3 bf K:=by
  intro bf ba bl bc I12 Dw H5 l12 o12 Vq S12 hn12;unfold aQ.k2;refine⟨_,_,_,aZ l12 rfl,Ss.dv I12.gl S12.str S12.le λbQ ca cl cc f13 C13=>⟨_,_,_,_,rfl,?_⟩⟩;have Vp:=f13.size;have o13:dA bQ h3.size:=f13.own H5 (λy=>y) o12;have l13:=(f13.rd H5 λy=>y).trans l12;refine bD.add o13 (by rw[l13];show 3<4;decide) λcX d14=>?_;have WI:=d14.size;have l14:rd cX h3.size=rP k (bT T g R k).1 ba bl bc ca cl cc:=by rw[d14.rd,l13];rfl
  have I13:=I12.no f13;have I14:It cX F t d T g n R 0 rest cb rb:=I13.fr d14.fr oX oX (λb hb y=>by have:=xl2 b hb;omega) λb hb y=>by omega
  have F14:Fr (λb=>b=rb) h2 cX:=(Dw.no f13).did d14 λhl=>by omega
  refine os ⟨_,dC I14.cap rfl,yT hR I14.ob I14.r λfN d15=>⟨_,rfl,?_⟩⟩;have rG:=d15.size;have I15:=I14.did d15;have F15:Fr (λb=>b=rb) h2 fN:=F14.trans d15.fr λ_ _ y=>y
  have e2:(ay T g R k).2=(sR (bH T g R k).1).2:=by
   unfold ay;show(if(bH T g R k).2≠0 then _ else _)=_;rw[if_neg λy=>y Vq]
  refine cn (λhe=>hE k h2 fN hJ bV (by rw[e2];exact he) F15 (by rw[e2];exact I15.r) I15.ob) λhe=>?_;rw[he]at I15;have OS:=(d15.at_ (c:=h3.size) oX oX).trans l14;refine⟨_,rfl,ah OS,tt (yM (hY k h2 fN ba bl bc ca cl cc hJ bV (by rw[e2];exact he) F15 I15.r I15.ob ⟨?_,?_⟩) λv gN hv=>?_)⟩
  ·show Sl fN 1 ba bl bc ((bH T g R k).1.map bv) (cW h2.size);refine((S12.fr f13 λ_ _ _ y=>y).mono (G:=λb=>h2.size<=b/\∀p,ba=some p->b=p.block->True) λb hb=>⟨hb,λ_ _ _=>trivial⟩) |>.mono (G:=cW h2.size) (λb hb=>hb.1) |> λS=>?_;refine Sl.fr d15.fr (G:=λb=>b=rb) (?_:Sl cX 1 ba bl bc _ (cW h2.size)) λb hb hF y=>by have hF:h2.size<=b:=hF;omega
   cases ba with
   | none=>exact⟨S.1,S.2⟩
   | some p=>
    obtain⟨a1,a2,a3,a4,a5,a6⟩:=S.2;have hp:=hn12 p rfl;exact⟨S.1,a1,a2,d14.ow a3,a4,by rw[d14.at_ a3.lt hp];exact a5,by rw[d14.at_ a3.lt hp];exact a6⟩
  ·show Sl fN 3 ca cl cc ((sR (bH T g R k).1).1.flatMap E.v) (cW h2.size);refine((C13.fr d14.fr λb _ hb y=>?_).fr d15.fr λb _ hb y=>?_).mono λb hb=>?_
   ·have hb:bf.size<=b:=hb;omega
   ·have hb:bf.size<=b:=hb;have:=Dw.size;omega
   ·have hb:bf.size<=b:=hb;have:=Dw.size;show h2.size<=b;omega
  ·rcases hv with⟨rfl,hJ6⟩|⟨rfl,hk⟩
   ·refine⟨true,rfl,iu (ct rfl ?_)⟩;rw[wrap_i64 oX oX];exact⟨⟨k+1,oX,bV,hJ6⟩,by show((m:Int)-((k:Int)+1)).toNat<((m:Int)-(k:Int)).toNat;omega⟩
   ·exact⟨false,rfl,iu (cf rfl hk)⟩
 refine⟨_,aZ l8 rfl,cn (λhb=>os ⟨_,dC I8.cap rfl,os ⟨t,aZ I8.r rfl,_,aZ l8 rfl,Tm.dv I8.x λba bl bc h9 f9 hl9 S9=>⟨_,_,_,_,rfl,?_⟩⟩⟩) λhb=>?_⟩
 · -- its block is read
  have eb:bH T g R k=T.read (bT T g R k).1:=by unfold bH;rw[if_neg (λy=>y he),if_neg hb]
  have z9:=f9.size;have I9:=I8.no f9;have l9:=(f9.rd (b:=h3.size) oX λy=>y).trans l8;have o9:dA h9 h3.size:=f9.own oX (λy=>y) o8;refine bD.add o9 (by rw[l9];show 2<4;decide) λbG d10=>?_;have Vu:=d10.size;have l10:rd bG h3.size=[vI k,vI (bT T g R k).1,vS ba bl bc,vS none 0 0]:=by rw[d10.rd,l9];rfl
  have I10:It bG F t d T g n R 0 rest cb rb:=I9.fr d10.fr oX oX (λb hb y=>by have:=xl2 b hb;omega) λb hb y=>by omega
  have L8:Fr (λb=>b=rb) h2 bG:=(F8.no f9).did d10 λhl=>by omega
  refine os ⟨_,dC I10.cap rfl,yT hR I10.ob I10.r λcu d11=>⟨_,rfl,?_⟩⟩;have Ua:=d11.size;have I11:=I10.did d11;have Ng:Fr (λb=>b=rb) h2 cu:=L8.trans d11.fr λ_ _ y=>y;refine cn (λZr=>?_) λZr=>?_
  ·have e2:(ay T g R k).2=(T.read (bT T g R k).1).2:=by
    unfold ay;show(if(bH T g R k).2≠0 then _ else _)=_;rw[eb,if_pos Zr]
   exact hE k h2 cu hJ bV (by rw[e2];exact Zr) Ng (by rw[e2];exact I11.r) I11.ob
  ·rw[Zr]at I11;refine K2 cu ba bl bc I11 Ng oX ((d11.at_).trans l10) (d11.ow d10.own) (by rw[eb];exact Zr) ?_ λp hp=>?_
   ·rw[eb];refine((S9.fr d10.fr λb _ hb y=>?_).fr d11.fr λb _ hb y=>?_).mono λb hb=>?_
    ·have hb:h8.size<=b:=hb;omega
    ·have hb:h8.size<=b:=hb;omega
    ·have hb:h8.size<=b:=hb;show h2.size<=b;omega
   ·subst hp;have hb:h8.size<=p.block:=S9.2.2.1;omega
 · -- a hole
  have eb:bH T g R k=(aV,0):=by unfold bH;rw[if_neg (λy=>y he),if_pos hb]
  have r8:rd h8 h2.size=aV.map bv:=by
   rw[d8.at_,d7.at_,f6.rd oX λy=>y,n5.at_,n3.rd,aV,List.map_replicate];rfl
  have el:(aV.map bv).length=512:=by rw[aP];exact dU
  refine K2 h8 _ _ _ I8 F8 oX l8 o8 (by rw[eb]) ?_ λp hp=>by cases hp;show ¬h2.size=h3.size;omega
  rw[eb];have w8:dA h8 h2.size:=d8.ow (d7.ow (f6.own oX (λy=>y) (n5.ow n3.own)));refine⟨by rw[el],rfl,bE _,w8,bE _,?_,?_⟩
  ·show((rd h8 h2.size).drop 0).take _=_;rw[r8,mW,mZ]
  ·show 0+512*1<=(rd h8 h2.size).length;rw[r8,el];decide
theorem yV{r:OA}(hK:∀ h',uy h h' [vP r]->K (.func (.func 79) #[] ⟨[vP (some (bA h))]⟩) h'):C.fv r h K:=
 fv.ok (aC.intro λh2 n2=>hK h2 n2)
end Di
namespace Di
open Hp W Ad Tm Spc Re Av Rg Ss
open Hd (ints)
open In (lT aj aO)
open Ino (getM yP cZ)
open Bm (bT)
open Fi (bH tt uQ Qg)
open Sk (E cm)
theorem yW{y:Value}{T:TM}{g:G}{rest:LV}(hR:R.length=15)(i:It h F t d T g n R e rest cb rb)(he:e≠0)
  (hK:K (.tuple #[]) h):C.aQ y (some ⟨cb,0,none⟩) h K:=by
 refine aQ.ok ⟨λ_ hh=>hh=h,λ_ _=>0,rfl,?_⟩;rintro k h2 rfl;exact os ⟨_,dC i.cap rfl,os ⟨_,aZ i.r (Aq hR),ce (λy=>absurd y he) λ_=>hK⟩⟩
theorem kz{T:TM}{g:G}(h:(aw T g n).2=0):0<=(aw T g n).1.getD 2 0/\(aw T g n).1.getD 2 0<=8459264:=by
 obtain⟨e,e2,_⟩:=wH h;rw[e];obtain⟨_,_,_,_,a,b,_⟩:=In.yO (cZ T g n) (uQ e2);exact⟨a,b⟩
theorem pv{es:List E}(Z:ak h a (es.flatMap E.v)){j:Nat}(hj:j<es.length):∃p,a=some p/\ai h (p.add (j*3)) (E.v es[j]):=by
 cases a with
 | none=>
  have Z:es.flatMap E.v=[]:=Z;have:=bq E.v 3 es (λx _=>E.len x);rw[Z,FX]at this;omega
 | some p=>
  refine⟨p,rfl,?_⟩;have:=ai.part (show ai h p (es.flatMap E.v) from Z) (j*3) 3;rw[kv E.v 3 _ (λx _=>E.len x) j hj]at this;exact this
theorem acj{n:Nat}{v:Value}{k:HP}(w:dA h b)(hl:o+m+n<(rd h b).length)(H:∀ h',xN b h h' ((rd h b).set (o+m+n) v)->k h'):bD (Addr.add (Addr.add ⟨b,o,none⟩ m) n) v h k:=by
 rw[eA];exact bD.add w hl H
def vB : LV:=[vI 0,vI 0,vS none 0 0,vS none 0 0,vI 0,.string (mkStr []),vI 0]
theorem aau{g:G}(hR:R.length=15){xs:LV}{c:E}(hx:xs.length=4):put (put (tI t g n R e++vB) 23 xs) 27 (E.v c)=tI t g n R e++(xs++E.v c):=by
 have l:=jW (t:=t) (g:=g) (n:=n) (e:=e) hR;have lt:vB.length=7:=rfl;rw[put_eq _ _ _ (by rw[dQ,bg,l,lt,E.len];omega),put_eq _ _ _ (by rw[bg,l,lt,hx];omega),hx,E.len];have e1:List.take 23 (tI t g n R e++vB)=tI t g n R e:=acd l;have e2:(List.drop (23+4) (tI t g n R e++vB)).length=3:=by rw[jM,bg,l,lt]
 rw[e1];generalize hz:List.drop (23+4) (tI t g n R e++vB)=zs at e2;rw[acd (l₁:=tI t g n R e++xs) (by rw[bg,l,hx]),qY (by rw[bg,bg,l,hx,e2];omega),gi,iW]
theorem LO{α:Type}{p:α->Bool}{l:List α}{i:Nat}(hi:i<l.length)(np:(l.take i).find? p=none)(hp:p l[i]=true):l.find? p=some l[i]:=by
 have e:l.find? p=(l.take i++l.drop i).find? p:=by rw[qP]
 rw[e,Hs,np,Ht,lh hi,List.find?_cons_of_pos hp]
theorem UH{g:G}(hR:R.length=15){k:Nat}{b:Int}{ba:OA}{bl bc:Nat}{ca:OA}{cl cc:Nat}{c:E} :
  (tI t g n R e++(rP k b ba bl bc ca cl cc++E.v c))[29]?=some (vI c.inode)/\(tI t g n R e++(rP k b ba bl bc ca cl cc++E.v c))[0]?=some (vP t)/\(tI t g n R e++(rP k b ba bl bc ca cl cc++E.v c))[24]?=some (vI b)/\
   (tI t g n R e++(rP k b ba bl bc ca cl cc++E.v c))[25]?=some (vS ba bl bc)/\(tI t g n R e++(rP k b ba bl bc ca cl cc++E.v c))[27]?=some (vI c.place):=by
 obtain⟨_,_,_,_,_,_,_,_,_,_,_,_,_,_,_,rfl⟩:=R15 hR;exact⟨rfl,rfl,rfl,rfl,rfl⟩
theorem CG(bs:LB):(sR bs).1.length<=16:=by
 unfold sR
 split
 ·exact bN _
 ·rename_i hl
  cases hd:Sk.dec 16 bs with
  | none=>exact bN _
  | some hs=>
   have h1:=Hw hs 0;have h2:=(Sk.Cz (n:=16) (b:=bs) (by have:¬bs.length≠512:=hl;omega) hd).1;show(Sk.iw 0 hs).length<=16;omega
theorem yX(T:TM)(g:G)(R:List Int)(k:Nat):(ay T g R k).1.cells.length<=16:=CG _
structure Fnd(h h':ad)(t:OA)(fb:Nat)(r:Option (uS×E)×Int)(ba:OA)(bl bc:Nat):Prop where
 lo:h.size<=fb
 ow:dA h' fb
 e:(rd h' fb)[22]?=some (vI r.2)
 ino:(rd h' fb)[29]?=some (.int .i64 (match r.1 with
  | some x=>x.2.inode
  | none=>0))
 hit:∀x,r.1=some x->(rd h' fb)[0]?=some (vP t)/\(rd h' fb)[24]?=some (vI x.1.block)/\(rd h' fb)[25]?=some (vS ba bl bc)/\(rd h' fb)[27]?=some (vI x.2.place)/\Sl h' 1 ba bl bc (x.1.bytes.map bv) (λb=>h.size<=b/\b≠fb)
theorem Fnd.none{h h':ad}{t t':OA}{fb:Nat}{e n:Int}{g:G}{R:List Int}(hR:R.length=15)(lo:h.size<=fb)(ow:dA h' fb)(r:rd h' fb=tI t' g n R e++vB):Fnd h h' t fb (none,e) none 0 0:=by
 refine⟨lo,ow,by rw[r];exact Aq hR,?_,λx hx=>by cases hx⟩;rw[r];obtain⟨_,_,_,_,_,_,_,_,_,_,_,_,_,_,_,rfl⟩:=R15 hR;rfl
theorem find_spec{T:TM}{n:Nat}{s:Tm.cC}(gl:In.lT h)(dm:zV n)(x:Tx h F t d T)
  (hK:∀h' fb ba bl bc,Fr No h h'->Fnd h h' t fb (gI T (af n) i s) ba bl bc->K (vP (some ⟨fb,0,none⟩)) h'):C.qU t (af n).v i (mkStr s) h K:=by
 refine qU.ok (aC.intro λh2 n2=>aC.intro λh3 n3=>aC.intro λh4 n4=>aC.intro λh5 n5=>aC.intro λh6 n6=>bD.intro n6.own (by rw[n6.rd];exact uM) λh7 d7=>?_);have z2:=n2.size;have z3:=n3.size;have z4:=n4.size;have z5:=n5.size;have z6:=n6.size;have z7:=d7.size;have xl:∀b,F b->b<h.size:=λb hb=>x.lt hb;have gl1:=gl.lt;have F7:Fr No h h7:=(((((n2.fr.new n3).new n4).new n5).new n6).did d7 λhl=>oX);have g7:rd h7 h.size=(af n).v:=(d7.at_).trans ((n6.at_).trans ((n5.at_).trans ((n4.at_).trans ((n3.at_).trans n2.rd))));have s7:rd h7 h2.size=[.string (mkStr s)]:=(d7.at_).trans ((n6.at_).trans ((n5.at_).trans ((n4.at_).trans n3.rd)));have q7:rd h7 h3.size=[vP none]:=(d7.at_).trans ((n6.at_).trans ((n5.at_).trans n4.rd));have w7:dA h7 h3.size:=d7.ow (n6.ow (n5.ow n4.own));have r7:rd h7 h4.size=tI none ⟨0,0,0,0,0⟩ 0 (List.replicate 15 0) 0++vB:=(d7.at_).trans ((n6.at_).trans n5.rd);have o7:dA h7 h4.size:=d7.ow (n6.ow n5.own);have p7:rd h7 h5.size=[vP (some (bA h4))]:=by rw[d7.rd,n6.rd];rfl
 refine⟨_,dC s7 rfl,Ch.wG λh8 f8=>⟨_,rfl,iu ?_⟩⟩;have z8:=f8.size;have F8:Fr No h h8:=F7.no f8;have q8:=(f8.rd (b:=h3.size) oX λy=>y).trans q7;have r8:=(f8.rd (b:=h4.size) oX λy=>y).trans r7;have p8:=(f8.rd (b:=h5.size) oX λy=>y).trans p7;have w8:dA h8 h3.size:=f8.own oX (λy=>y) w7;have o8:dA h8 h4.size:=f8.own oX (λy=>y) o7;refine cs (λhn=>?_) λhn=>?_
 rotate_left
 · -- no name
  have es:gI T (af n) i s=(none,1):=by unfold gI;rw[if_pos hn]
  rw[es]at hK;refine⟨_,dC p8 rfl,os (acj o8 (by rw[r8];decide +revert) λh9 d9=>⟨_,dC ((d9.at_).trans p8) rfl,bD.intro (d9.ow w8) (by rw[d9.at_,q8];exact uM) λbG d10=>⟨_,dC (show rd bG h3.size=[vP (some (bA h4))] by rw[d10.rd,d9.at_,q8];rfl) rfl,?_⟩⟩)⟩;have z9:=d9.size;refine hK bG h4.size none 0 0 ((F8.did d9 λhl=>oX).did d10 λhl=>oX) (Fnd.none (t':=none) (g:=⟨0,0,0,0,0⟩) (n:=0) (R:=List.replicate 15 0) dU oX (d10.ow d9.own) ?_);rw[d10.at_,d9.rd,r8];exact zL dU
 refine⟨_,dC p8 rfl,(af n).v,rfl,ah ((f8.r0).trans g7),DE (gl.no F8) (x.no F8) (Qg dm) λcu f11=>⟨_,rfl,?_⟩⟩;have lR:=mS T (af n) i;have Ua:=f11.size;have Ik:=(f11.rd (b:=h5.size) oX λy=>y).trans p8;have TX:=(f11.rd (b:=h4.size) oX λy=>y).trans r8;have o11:dA cu h4.size:=f11.own oX (λy=>y) o8;refine⟨dC Ik rfl,os (az.add o11 (jW lR) Fp (by rw[TX];decide +revert) λbf d12=>?_)⟩;have z12:=d12.size
 have EM:rd bf h4.size=tI t (af n) i (aw T (af n) i).1 (aw T (af n) i).2++vB:=by
  rw[d12.rd,TX,put_eq _ _ _ (by rw[jW lR];decide +revert),jW lR];rfl
 have Jw:=(d12.at_ (c:=h5.size) oX oX).trans Ik;refine⟨_,dC Jw rfl,os ?_⟩;rw[show Addr.add (bA h4) 0=(bA h4) from eA ..];refine yV λbQ n13=>⟨_,rfl,λL rounds=>?_⟩;have Vp:=n13.size;have Dw:Fr No h bf:=(F8.no f11).did d12 λhl=>by omega
 have F13:Fr No h bQ:=Dw.new n13;have Fb:=zC bQ L;have YT:=zD bQ L;have d0:=Cj bQ L;have zb:=tq bQ L;have F0:Fr No h (dw bQ L):=F13.no Fb;have fb:Fr No bf (dw bQ L):=n13.fr.no Fb;have cb0:rd (dw bQ L) bf.size=[vP (some (bA h4))]:=(Fb.r0).trans n13.rd;have rb0:=(fb.rd (b:=h4.size) oX λy=>y).trans EM;have ob0:dA (dw bQ L) h4.size:=fb.own oX (λy=>y) d12.own;have qb0:rd (dw bQ L) h3.size=[vP none]:=(fb.r0).trans ((d12.at_).trans ((f11.r0).trans q8));have wb0:dA (dw bQ L) h3.size:=fb.own oX (λy=>y) (d12.ow (f11.own oX (λy=>y) w8));have sb0:rd (dw bQ L) h2.size=[.string (mkStr s)]:=(fb.r0).trans ((d12.at_).trans ((f11.r0).trans ((f8.r0).trans s7)));have pb0:=(fb.rd (b:=h5.size) oX λy=>y).trans Jw;have glb:=gl.no F0;have xb:=x.no F0;have I0:It (dw bQ L) F t d T (af n) i (aw T (af n) i).1 (aw T (af n) i).2 vB bf.size h4.size:=⟨glb,xb,cb0,ob0,rb0,λy=>by have:=xl _ y;omega,oX,oX⟩;generalize hbe:dw bQ L=hb at *;show C.aQ (.func (.yield (bQ.size+1)) #[] #[]) (some (bA bf)) hb _
 -- what is behind the loop
 have fin:∀(hh:ad) (e:Int),Fr (λb=>b=h4.size∨b=bQ.size+1) hb hh->bO hh (bQ.size+1) L .ready none->rd hh h4.size=tI t (af n) i (aw T (af n) i).1 e++vB->dA hh h4.size->gI T (af n) i s=(none,if e=0 then 160 else e)->
   ∃(st1:LoopState) (jo:Option Code),bO hh (bQ.size+1) L st1 jo/\st1≠.busy/\xU jo (
    xM hh (bQ.size+1) L .exhausted jo λqv=>∃(q8:OA),cellOf qv (bA h5)=some (vP q8)/\ae q8 λp7=>∃(n3:Int),cellOf qv (Addr.add (Addr.add p7 0) 22)=some (vI n3)/\
    bif(n3==0)then(∃(q9:OA),cellOf qv (bA h5)=some (vP q9)/\ae q9 λp8=>bD (Addr.add (Addr.add p8 0) 22) (vI 160) qv λpJ=>∃(OQ:OA),cellOf pJ (bA h5)=some (vP OQ)/\
     bD (bA h3) (vP OQ) pJ λDg=>rU bQ.size Dg λwj=>∃(fV:OA),cellOf wj (bA h3)=some (vP fV)/\K (vP fV) wj)else(
     ∃(Pr:OA),cellOf qv (bA h5)=some (vP Pr)/\bD (bA h3) (vP Pr) qv λMS=>rU bQ.size MS λPs=>∃(fY:OA),cellOf Ps (bA h3)=some (vP fY)/\K (vP fY) Ps)) (
    xM hh (bQ.size+1) L .exhausted jo λIl=>rU bQ.size Il λuU=>∃(kP:OA),cellOf uU (bA h3)=some (vP kP)/\K (vP kP) uU) (λ_=>False):=by
  intro hh e f on r o es;have zf:=f.size;rw[es]at hK;refine⟨.ready,none,on,by decide,zE (mR oX λqv t25=>?_)⟩;have z25:=t25.size;have f25:Fr (λb=>b=h4.size∨b=bQ.size+1) hb qv:=f.trans t25.fr λb _ y=>.inr y;have q25:∀b,b<hb.size->b≠h4.size->b≠bQ.size+1->rd qv b=rd hb b:=λb pV h1 h2=>f25.rd pV λy=>y.elim h1 h2;have w25:∀b,dA hb b->b≠h4.size->b≠bQ.size+1->dA qv b:=λb o h1 h2=>f25.own o.lt (λy=>y.elim h1 h2) o;have Z6:=(t25.fr.rd (b:=h4.size) oX oX).trans r;have o25:dA qv h4.size:=t25.fr.own oX oX o;have p25:=(q25 h5.size oX oX oX).trans pb0;have a25:=(q25 h3.size oX oX oX).trans qb0;have b25:=w25 h3.size wb0 oX oX
  -- the pointer is told
  have out:∀(pJ:ad) (e':Int),pJ.size=qv.size->Fr (λb=>b=h4.size∨b=bQ.size+1) hb pJ->rd pJ h4.size=tI t (af n) i (aw T (af n) i).1 e'++vB->dA pJ h4.size->rd pJ h3.size=[vP none]->dA pJ h3.size->e'=(if e=0 then 160 else e)->
    bD (bA h3) (vP (some (bA h4))) pJ λDg=>rU bQ.size Dg λwj=>∃(fV:OA),cellOf wj (bA h3)=some (vP fV)/\K (vP fV) wj:=λpJ e' z26 f26 YN o26 a26 b26 he=>by
   refine bD.intro b26 (by rw[a26];exact uM) λDg d27=>oF ((d27.fr.same _ oX oX).trans ((f26.same _ oX oX).trans d0)) λwj z28 f28=>?_;have z27:=d27.size;refine⟨_,dC (show rd wj h3.size=[vP (some (bA h4))] by rw[f28.rd oX oX,d27.rd,a26];rfl) rfl,?_⟩;rw[<-he]at hK;refine hK wj h4.size none 0 0 (((F0.trans f26 λb hb y=>oX).did d27 λhl=>oX).trans f28 λb hb y=>oX) (Fnd.none lR oX (f28.own oX oX (d27.ow o26)) ((f28.rd oX oX).trans ((d27.at_).trans YN)))
  refine⟨_,dC p25 rfl,os ⟨_,xt Z6 (Aq lR),ce (λhe=>?_) λhe=>?_⟩⟩
  ·refine⟨_,dC p25 rfl,os (acj o25 (by rw[Z6,bg,jW lR];omega) λpJ d26=>⟨_,dC ((d26.at_).trans p25) rfl,out pJ 160 d26.size (f25.trans d26.fr λb _ y=>.inl y) ?_ d26.own ((d26.at_).trans a25) (d26.ow b25) (by rw[if_pos he])⟩)⟩;rw[d26.rd,Z6];exact zL lR
  ·exact⟨_,dC p25 rfl,out qv e rfl f25 Z6 o25 a25 b25 (by rw[if_neg he])⟩
 by_cases CT:(aw T (af n) i).2=0
 rotate_left
 ·refine yW lR I0 CT (fin hb _ (Fr.refl _ _) YT I0.r I0.ob ?_);rw[if_neg CT];unfold gI;rw[if_neg (by rw[hn];decide),if_pos CT]
 obtain⟨R0,R1⟩:=kz CT
 have Mn:gI T (af n) i s=gn T (af n) (aw T (af n) i).1 s ((aw T (af n) i).1.getD 2 0/512).toNat 0:=by
  unfold gI;rw[if_neg (by rw[hn];decide),if_neg (λy=>y CT)]
 rw[CT]at I0;generalize hR:(aw T (af n) i).1=R at *;generalize hm:(R.getD 2 0/512).toNat=m at *;refine yU lR R0 R1 (λk hh=>It hh F t d T (af n) i R 0 vB bf.size h4.size/\Fr (λb=>b=h4.size∨b=bQ.size+1) hb hh/\bO hh (bQ.size+1) L .ready none/\∃q,m=k+q/\gI T (af n) i s=gn T (af n) R s q k)
  (λk hh J=>J.1) (λk hh h' ba bl bc ca cl cc J hk he f' r' o' lf=>?_) ⟨I0,Fr.refl _ _,YT,m,oX,Mn⟩ (λhh J=>?_) λk hh h' J hk he f' r' o'=>?_
 · -- an index
  obtain⟨I,f,on,q,eq,es⟩:=J;rw[hm]at hk;obtain⟨q,rfl⟩:∃q',q=q'+1:=⟨q-1,oX⟩;have zf:=f.size;have zf':=f'.size;have on':bO h' (bQ.size+1) L .ready none:=gH on f' oX;refine rounds (rP k (ay T (af n) R k).1.block ba bl bc ca cl cc) h' _ on' (aF.intro rfl zM rfl λgN n16=>⟨gH on' n16.fr λy=>y,mR (by have:=n16.size;omega) λgO t17=>?_⟩);have z16:=n16.size;have z17:=t17.size;have f17:Fr (λb=>b=h4.size∨b=bQ.size+1) hb gO:=((f.trans f' λb _ y=>.inl y).new n16).trans t17.fr λb _ y=>.inr y;have v17:rd gO h'.size=rP k (ay T (af n) R k).1.block ba bl bc ca cl cc:=(t17.fr.rd oX oX).trans n16.rd;have aeV:Lf hh gO (ay T (af n) R k).1 ba bl bc ca cl cc:=(lf.fr n16.fr λ_ _ _ y=>y).fr t17.fr λb _ hb y=>by omega
  have lc:(ay T (af n) R k).1.cells.length=cl:=by
   have:=aeV.c.1;rw[bq E.v 3 _ (λx _=>E.len x)]at this;omega
  refine⟨_,_,_,aZ v17 rfl,λj hx=>∃p:Nat,j=p/\p<=cl/\Fr No gO hx/\((ay T (af n) R k).1.cells.take p).find? (λc=>c.name==s)=none,λj _=>((cl:Int)-j).toNat,⟨0,rfl,bN _,Fr.refl _ _,rfl⟩,?_⟩;rintro j jk ⟨p,rfl,hp,f18,np⟩;have z18:=f18.size;have aeW:Fr (λb=>b=h4.size∨b=bQ.size+1) hb jk:=f17.no f18;have aeX:bO jk (bQ.size+1) L .busy none:=gH t17.on f18 λy=>y
  have I17:It gO F t d T (af n) i R 0 vB bf.size h4.size:=by
   have A:It h' F t d T (af n) i R 0 vB bf.size h4.size:=⟨I.gl.fr f' λb hb y=>oX,I.x.fr f' λb hb y=>by have:=xl b hb;omega,(f'.rd I.clt oX).trans I.cap,o',r',I.nf,I.b1,I.ne⟩;exact(A.no n16.fr).fr t17.fr oX oX (λb hb y=>by have:=xl b hb;omega) λb hb y=>by omega
  refine cd (λbV=>?_) λbV=>?_
  ·have vJ:p<(ay T (af n) R k).1.cells.length:=oX;obtain⟨a,ea,ca⟩:=pv (aeV.fr f18 λ_ _ _ y=>y).c.cells vJ;subst ea;refine⟨⟨oX,bV⟩,os ⟨_,rfl,ca,aF.intro rfl (E.one _) rfl λiG n20=>⟨_,aZ n20.rd rfl,_,dC (show rd iG h2.size=[.string (mkStr s)] from((aeW.new n20).rd oX oX).trans sb0) rfl,?_⟩⟩⟩;rw[toList_mkStr,toList_mkStr];have z20:=n20.size;have f20:Fr (λb=>b=h4.size∨b=bQ.size+1) hb iG:=aeW.new n20;refine cs (λheq=>?_) λfP=>?_
   · -- it is here
    have I20:=(I17.no f18).no n20.fr
    have ec:cJ (ay T (af n) R k).1 s=some ((ay T (af n) R k).1.cells[p]):=by
     unfold cJ;exact LO vJ np heq
    have YG:gI T (af n) i s=(some ((ay T (af n) R k).1,(ay T (af n) R k).1.cells[p]),0):=by
     rw[es];unfold gn;rw[if_neg (λy=>y he),ec]
    rw[YG]at hK;have aav:=(f20.rd (b:=h5.size) oX oX).trans pb0;have v20:=(n20.at_).trans ((f18.r0).trans v17);refine⟨_,dC aav rfl,_,dC aav rfl,_,rfl,ah v20,_,rfl,ah n20.rd,os (az.add I20.ob rfl zM (by rw[I20.r,bg,jW lR];decide) λoM d21=>?_)⟩;have z21:=d21.size;refine⟨dC ((d21.at_).trans aav) rfl,⟨rfl,ah ((d21.at_).trans n20.rd)⟩,os (az.add d21.own rfl (E.one _) (by rw[d21.rd,dQ,I20.r,bg,jW lR];decide) λqD d22=>?_)⟩;have z22:=d22.size
    have r22:rd qD h4.size=tI t (af n) i R 0++(rP k (ay T (af n) R k).1.block ba bl bc (some a) cl cc++E.v (ay T (af n) R k).1.cells[p]):=by
     rw[d22.rd,d21.rd,I20.r];exact aau lR rfl
    have YU:=(d22.at_ (c:=h3.size) oX oX).trans ((d21.at_ (c:=h3.size) oX oX).trans ((f20.rd oX oX).trans qb0));have w22:dA qD h3.size:=d22.ow (d21.ow (f20.own oX oX wb0));refine⟨_,dC ((d22.at_).trans ((d21.at_).trans aav)) rfl,bD.intro w22 (by rw[YU];exact uM) λpg d23=>?_⟩;have z23:=d23.size;have XN:bO pg (bQ.size+1) L .busy none:=gH (gH (gH (gH aeX n20.fr λy=>y) d21.fr oX) d22.fr oX) d23.fr oX;refine⟨XN,.inr ⟨rfl,.done,some .ret,Ha (uh XN) L _ _,by decide,?_⟩⟩;have t24:=Bc (uh XN) L .done (some .ret);generalize dz pg (bQ.size+1) L .done (some .ret)=sX at t24;have z24:=t24.size;refine NA (mR oX λqv t25=>?_);have z25:=t25.size;have f23:Fr (λb=>b=h4.size∨b=h3.size∨b=bQ.size+1) hb qv:=((((f20.mono λb _ y=>oX).trans d21.fr λb _ y=>oX).trans d22.fr λb _ y=>oX).trans d23.fr λb _ y=>oX).trans (t24.fr.trans t25.fr λb _ y=>y) λb _ y=>by omega
    refine oF ((f23.same _ oX oX).trans d0) λpJ z26 f26=>⟨_,dC (show rd pJ h3.size=[vP (some (bA h4))] by rw[f26.rd oX oX,t25.fr.rd oX oX,t24.fr.rd oX oX,d23.rd,YU];rfl) rfl,?_⟩;have F26:Fr No h pJ:=(F0.trans f23 λb hb y=>oX).trans f26 λb hb y=>by omega
    have YN:rd pJ h4.size=tI t (af n) i R 0++(rP k (ay T (af n) R k).1.block ba bl bc (some a) cl cc++E.v (ay T (af n) R k).1.cells[p]):=by
     rw[f26.rd oX oX,t25.fr.rd oX oX,t24.fr.rd oX oX,d23.at_];exact r22
    have o26:dA pJ h4.size:=f26.own oX oX (t25.fr.own oX oX (t24.fr.own oX oX (d23.ow d22.own)));obtain⟨c29,c0,c24,c25,c27⟩:=UH (t:=t) (g:=af n) (n:=i) (e:=0) lR (k:=k) (b:=(ay T (af n) R k).1.block) (ba:=ba) (bl:=bl) (bc:=bc) (ca:=some a) (cl:=cl) (cc:=cc) (c:=(ay T (af n) R k).1.cells[p]);refine hK pJ h4.size ba bl bc F26 ⟨oX,o26,by rw[YN];exact Aq lR,by rw[YN];exact c29,λy hy=>?_⟩
    ·cases hy
     refine⟨by rw[YN];exact c0,by rw[YN];exact c24,by rw[YN];exact c25,by rw[YN];exact c27,?_⟩
     ·have S:=((((((aeV.s.fr f18 λ_ _ _ y=>y).fr n20.fr λ_ _ _ y=>y).mono (G:=cW hh.size) λ_ y=>y).fr d21.fr λb _ hb y=>by have hb:hh.size<=b:=hb;omega).fr d22.fr λb _ hb y=>by have hb:hh.size<=b:=hb;omega).fr d23.fr λb _ hb y=>by have hb:hh.size<=b:=hb;omega);refine(((S.fr t24.fr λb _ hb y=>?_).fr t25.fr λb _ hb y=>?_).fr f26 λb _ hb y=>?_).mono λb hb=>?_
      ·have hb:hh.size<=b:=hb;omega
      ·have hb:hh.size<=b:=hb;omega
      ·have hb:hh.size<=b:=hb;omega
      ·have hb:hh.size<=b:=hb;show h.size<=b/\b≠h4.size;omega
   ·have l16:=yX T (af n) R k;rw[wrap_i64 oX oX];refine⟨⟨p+1,oX,oX,f18.no n20.fr,?_⟩,bW bV⟩;rw[jJ vJ,Hs,np,Ht,ace (by rw[fP];decide)];rfl
  ·have:p=cl:=oX;subst this;refine⟨aeX,.inl ⟨rfl,?_⟩⟩;have t24:=Bc (uh aeX) L .ready none;generalize dz jk (bQ.size+1) L .ready none=sX at t24;refine⟨(I17.no f18).fr t24.fr oX oX (λb hb y=>by have:=xl b hb;omega) λb hb y=>oX,aeW.trans t24.fr λb _ y=>.inr y,t24.on,q,oX,?_⟩;rw[es]
   conv=>lhs;unfold gn
   rw[gL oX]at np;rw[if_neg (λy=>y he),show cJ (ay T (af n) R k).1 s=none from np]
 · -- it is aj5
  obtain⟨I,f,on,q,eq,es⟩:=J;rw[hm]at eq es;have:q=0:=oX;subst this;exact fin hh 0 f on I.r I.ob (by rw[es,if_pos rfl];rfl)
 · -- an index that Zq not read
  obtain⟨I,f,on,q,eq,es⟩:=J;rw[hm]at hk;obtain⟨q,rfl⟩:∃q',q=q'+1:=⟨q-1,oX⟩;have zf:=f.size;refine fin h' _ (f.trans f' λb _ y=>.inl y) (gH on f' oX) r' o' ?_;rw[es,if_neg he];unfold gn;rw[if_pos he]
theorem qy{T:TM}{n:Nat}{s:Tm.cC}(gl:In.lT h)(dm:zV n)(x:Tx h F t d T)
  (hK:∀h',Fr No h h'->K (.tuple #[vI (findD T (af n) i s).1,vI (findD T (af n) i s).2]) h'):C.uz t (af n).v i (mkStr s) h K:=by
 refine uz.ok (aC.intro λh2 n2=>⟨(af n).v,rfl,ah n2.rd,find_spec (gl.no n2.fr) dm (x.no n2.fr) λh3 fb ba bl bc f3 A=>⟨_,rfl,os ⟨_,xt rfl A.ino,os ⟨_,xt rfl A.e,hK h3 (n2.fr.no f3)⟩⟩⟩⟩)
theorem rj{g:G}(hK:∀ h',Fr No h h'->K (.bool (vO g i)) h'):C.ve g.v i h K:=by
 refine ve.ok (aC.intro λh2 n2=>cd (λh1=>⟨_,aZ n2.rd rfl,?_⟩) λh1=>?_)
 ·have:vO g i=decide (i<g.count):=by unfold vO;rw[decide_eq_true (show 1<=i from h1),yj]
  rw[this]at hK;exact hK h2 n2.fr
 ·have:vO g i=false:=by unfold vO;rw[decide_eq_false (show ¬1<=i from h1),Bool.false_and]
  rw[this]at hK;exact hK h2 n2.fr
theorem CH{T:TM}{g:G}{s:Tm.cC}{x:uS×E}(h:(gI T g n s).1=some x):(gI T g n s).2=0/\x.1.bytes.length=512:=by
 unfold gI at h ⊢
 split at h
 ·cases h
 ·rename_i y;rw[if_neg y]
  split at h
  ·cases h
  ·rename_i z;rw[if_neg z];obtain⟨a,_,b,j,_,_,e,_⟩:=Et _ _ _ h;refine⟨a,?_⟩;rw[e]at b ⊢;have b:x.2∈(sR (bH T g (aw T g n).1 j).1).1:=b;show(bH T g (aw T g n).1 j).1.length=512;unfold sR at b
   split at b
   ·cases b
   ·rename_i w;exact rB w
theorem J'{T:TM}{g:G}{s:Tm.cC}(h:(gI T g n s).1=none):(gI T g n s).2≠0:=by
 unfold gI at h ⊢
 split at h
 ·rename_i y;rw[if_pos y];show(1:Int)≠0;decide
 ·rename_i y;rw[if_neg y]
  split at h
  ·rename_i z;rw[if_pos z];exact z
  ·rename_i z;rw[if_neg z];exact Eu _ _ h
theorem UI{T:TM}{fb:Nat}{x:uS×E}{bs:Tm.cC}(X:Tx hh F t d T)(c0:(rd hh fb)[0]?=some (vP t))(c24:(rd hh fb)[24]?=some (vI x.1.block))(c25:(rd hh fb)[25]?=some (vS ba bl bc))(c29:(rd hh fb)[29]?=some (vI x.2.inode))
  (nf:¬F fb) (B:av hh ba bl bs) (hl:bl<=140737488355328) (ha:∀p,ba=some p->¬F p.block) (hu:T.aD.length<1000000000)
  (hK:∀h' F',Fr F hh h'->Gw hh F h' F'->Tx h' F' t d (mf T x (e,bs)).1->K (.tuple #[vI (mf T x (e,bs)).2.1,vI (mf T x (e,bs)).2.2]) h'):C.dI (some ⟨fb,0,none⟩) e hh K:=by
 refine dI.ok (ce (λhe=>os ⟨_,xt rfl c0,os ⟨_,xt rfl c24,os ⟨_,_,_,xt rfl c25,Tm.fp X B hl ha hu λh2 F2 f2 g2 X2=>⟨_,rfl,?_⟩⟩⟩⟩) λhe=>?_)
 ·have e0:mf T x (e,bs)=if(T.write x.1.block bs).2≠0 then((T.write x.1.block bs).1,0,(T.write x.1.block bs).2)else((T.write x.1.block bs).1,x.2.inode,0):=by unfold mf;rw[if_neg (λy=>y he)]
  rw[e0]at hK;unfold dI.k1;have hb:fb<hh.size:=pE c0;refine cn (λhw=>?_) λhw=>os ⟨_,xt (f2.rd hb nf) c29,?_⟩
  ·rw[if_pos hw]at hK;exact hK h2 F2 f2 g2 X2
  ·rw[if_neg (λy=>y hw)]at hK;exact hK h2 F2 f2 g2 X2
 ·have e0:mf T x (e,bs)=(T,0,e):=by unfold mf;rw[if_pos he]
  rw[e0]at hK;unfold dI.k1;exact ct (by simpa using he) (hK hh F (Fr.refl _ _) (Gw.refl (bE _) λb hb=>X.lt hb) X)
theorem N8{h3:ad}{T:TM}{x:uS×E}{fb:Nat}{r:Int×Tm.cC}(X:Tx h F t d T)(f3:Fr No h h3){q:Option (uS×E)×Int}(A:Fnd h h3 t fb q (some ⟨b,o,none⟩) bl bc)(hq:q.1=some x)(hx:x.1.bytes.length=512)(hr:r.2.length=512)(hu:T.aD.length<1000000000){h4:ad}(w4:vz b h3 h4 (put (rd h3 b) o (r.2.map bv)))
  (hK:∀h' F',Fr F h h'->Gw h F h' F'->Tx h' F' t d (mf T x r).1->K (.tuple #[vI (mf T x r).2.1,vI (mf T x r).2.2]) h') :
  C.dI (some ⟨fb,0,none⟩) r.1 h4 λr5 h7=>∃(n6:Int) (n7:Int),r5 = .tuple #[vI n6,vI n7]/\K (.tuple #[vI n6,vI n7]) h7:=by
 obtain⟨c0,c24,c25,c27,S⟩:=A.hit x hq;have hb:h.size<=b/\b≠fb:=S.2.2.1;have bV:=S.wr.1.lt;have S4:=Ss.Sl.all S (bs':=r.2) (by rw[hr,hx]) w4;have r4:rd h4 fb=rd h3 fb:=w4.fr.rd A.ow.lt (λy=>hb.2 y.symm);have lo:=A.lo;have ino:=A.ino;rw[hq]at ino;have xl:∀b,F b->b<h.size:=λb hb=>X.lt hb;have X4:Tx h4 F t d T:=(X.no f3).fr w4.fr λy hy e=>by have:=xl y hy;omega
 have l4:=S4.str.1;rw[hr]at l4;refine UI (x:=x) (bs:=r.2) X4 (by rw[r4];exact c0) (by rw[r4];exact c24) (by rw[r4];exact c25) (by rw[r4];exact ino) (λy=>by have:=xl _ y;omega) S4.str oX (λp hp y=>by cases hp;have y:F b:=y;have:=xl b y;omega) hu λh5 F5 f5 g5 X5=>⟨_,_,rfl,?_⟩;have OJ:=f3.size;have hs4:=w4.fr.size;refine hK h5 F5 (((f3.mono λ_ _ y=>y.elim).trans w4.fr λy hy e=>oX).trans f5 λ_ _ y=>y) ?_ X5;exact(Gw.refl (show h.size<=h4.size by omega) λb hb=>xl b hb).trans g5 oX
theorem N9{T:TM}{n:Nat}{s:Tm.cC}(gl:In.lT h)(dm:zV n)(x:Tx h F t d T)(hu:T.aD.length<1000000000)
  (hK:∀h' F',Fr F h h'->Gw h F h' F'->Tx h' F' t d (jV T (af n) i s).1->K (.tuple #[vI (jV T (af n) i s).2.1,vI (jV T (af n) i s).2.2]) h'):C.qc t (af n).v i (mkStr s) h K:=by
 refine qc.ok (aC.intro λh2 n2=>⟨(af n).v,rfl,ah n2.rd,find_spec (gl.no n2.fr) dm (x.no n2.fr) λh3 fb ba bl bc f3 A=>⟨_,rfl,os ⟨_,xt rfl A.e,cn (λhe=>os ⟨_,xt rfl A.e,?_⟩) λhe=>?_⟩⟩⟩)
 ·have e0:jV T (af n) i s=(T,0,(gI T (af n) i s).2):=by
   unfold jV
   cases hs:(gI T (af n) i s).1 with
   | none=>rfl
   | some x=>exact absurd (CH hs).1 he
  rw[e0]at hK;exact hK h3 F ((n2.fr.no f3).mono λ_ _ y=>y.elim) (Gw.refl (n2.fr.no f3).size λb hb=>x.lt hb) (x.no (n2.fr.no f3))
 ·cases hs:(gI T (af n) i s).1 with
  | none=>exact absurd he (J' hs)
  | some y=>
   have e0:jV T (af n) i s=mf T y (rH y.1.bytes y.2.place):=(by unfold jV;rw[hs]);rw[e0]at hK;obtain⟨_,IB⟩:=CH hs;obtain⟨c0,c24,c25,c27,S⟩:=A.hit y hs;have lV:=n2.size
   cases ba with
   | none=>have:=S.str.1;have l0:bl=0:=S.2.1;omega
   | some p=>
    have ep:=S.mk;obtain⟨b,o,sp⟩:=p;have ep:sp=none:=S.2.1;subst ep;refine os ⟨_,_,_,xt rfl c25,os ⟨_,xt rfl c27,Ss.Qm S λh4 w4=>⟨_,rfl,?_⟩⟩⟩;refine N8 (r:=rH y.1.bytes y.2.place) (x.no n2.fr) f3 A hs IB (by rw[Es];exact IB) hu w4 λh5 F5 f5 g5 X5=>?_;exact hK h5 F5 ((n2.fr.mono λ_ _ y=>y.elim).trans f5 λ_ _ y=>y) ((Gw.refl (show h.size<=h2.size by omega) λb hb=>x.lt hb).trans g5 oX) X5
theorem LP{T:TM}{n:Nat}{v:Int}{s:Tm.cC}(gl:In.lT h)(dm:zV n)(x:Tx h F t d T)(hu:T.aD.length<1000000000)
  (hK:∀h' F',Fr F h h'->Gw h F h' F'->Tx h' F' t d (fW T (af n) i s v).1->K (.tuple #[vI (fW T (af n) i s v).2.1,vI (fW T (af n) i s v).2.2]) h'):C.nZ t (af n).v i (mkStr s) v h K:=by
 have same:∀h' e,Fr No h h'->fW T (af n) i s v=(T,0,e)->K (.tuple #[vI 0,vI e]) h':=λh' e f e0=>by
  rw[e0]at hK;exact hK h' F (f.mono λ_ _ y=>y.elim) (Gw.refl f.size λb hb=>x.lt hb) (x.no f)
 refine nZ.ok (aC.intro λh2 n2=>Ch.wG λh3 f3=>⟨_,rfl,iu ?_⟩);have F3:=n2.fr.no f3;refine cs (λhn=>?_) λhn=>same h3 1 F3 (by unfold fW;rw[if_pos hn]);have g3:=(f3.rd n2.own.lt λy=>y).trans n2.rd;refine⟨(af n).v,rfl,ah g3,rj λh4 f4=>⟨_,rfl,iu ?_⟩⟩;have F4:=F3.no f4;refine cs (λhh=>?_) λhh=>same h4 110 F4 (by unfold fW;rw[if_neg (by rw[hn];decide),if_pos hh]);have z2:=n2.size;have z3:=f3.size
 have e0:fW T (af n) i s v=match (gI T (af n) i s).1 with
  | some x=>mf T x (gP x.1.bytes ⟨x.2.place,s,v⟩)
  | none=>(T,0,(gI T (af n) i s).2):=by
  unfold fW;rw[if_neg (by rw[hn];decide),if_neg (by rw[hh];decide)] <;> (cases(gI T (af n) i s).1 <;> rfl)
 refine⟨(af n).v,rfl,ah ((f4.r0).trans g3),find_spec (gl.no F4) dm (x.no F4) λh5 fb ba bl bc f5 A=>⟨_,rfl,os ⟨_,xt rfl A.e,cn (λhe=>os ⟨_,xt rfl A.e,same h5 _ (F4.no f5) ?_⟩) λhe=>?_⟩⟩⟩
 ·rw[e0]
  cases hs:(gI T (af n) i s).1 with
  | none=>rfl
  | some x=>exact absurd (CH hs).1 he
 ·cases hs:(gI T (af n) i s).1 with
  | none=>exact absurd he (J' hs)
  | some y=>
   rw[hs]at e0;have e0:fW T (af n) i s v=mf T y (gP y.1.bytes ⟨y.2.place,s,v⟩):=e0;rw[e0]at hK;obtain⟨_,IB⟩:=CH hs;obtain⟨c0,c24,c25,c27,S⟩:=A.hit y hs;have hs4:=F4.size;have gl1:=gl.lt
   cases ba with
   | none=>have:=S.str.1;have l0:bl=0:=S.2.1;omega
   | some p=>
    obtain⟨b,o,sp⟩:=p;have ep:sp=none:=S.2.1;subst ep;have hb:h4.size<=b/\b≠fb:=S.2.2.1;refine os ⟨_,_,_,xt rfl c25,os ⟨_,xt rfl c27,Ss.mw (e:=⟨y.2.place,s,v⟩) (gl.no (F4.no f5)) oX S λh6 w6=>⟨_,rfl,?_⟩⟩⟩;refine N8 (r:=gP y.1.bytes ⟨y.2.place,s,v⟩) (x.no F4) f5 A hs IB (by rw[vA];exact IB) hu w6 λh7 F7 f7 g7 X7=>?_;exact hK h7 F7 ((F4.mono λ_ _ y=>y.elim).trans f7 λ_ _ y=>y) ((Gw.refl hs4 λb hb=>x.lt hb).trans g7 oX) X7
end Di
namespace Di
open Hp W Ad Tm Spc Re Av Rg Ss
open Hd (ints)
open In (lT aj aO sQ)
open Ino (getM mE yP cZ)
open Bm (bT bR oH cM lC tY)
open Fi (bH tt uQ Qg vy uP LF)
open Sk (E cm)
theorem LQ(R:List Int){i:Nat}(v:Int)(h:i≠2):(R.set i v).getD 2 0=R.getD 2 0:=by
 rw[gh,List.getElem?_set_ne h,<-gh]
theorem CI(T:TM)(R:List Int)(s:Nat×Nat)(a:Int)(b:Tm.cC)(v:Int):(oH T R s a b v).1.2.getD 2 0=R.getD 2 0:=by
 unfold oH
 split
 ·exact LQ R v oX
 ·split
  ·exact LQ R v dX
  ·split
   ·exact LQ R v dX
   ·rfl
theorem DF(g:G):∀(l:List (Nat×Nat)) (T:TM) (R:List Int) (a:Int),(cM g l T R a).1.2.getD 2 0=R.getD 2 0
 | [],_,_,_=>rfl
 | s::r,T,R,a=>by
  unfold cM
  split
  ·rfl
  ·split
   ·split
    ·rfl
    ·exact DF g r T R _
   ·split
    ·rfl
    ·split
     ·exact CI ..
     ·split
      ·exact CI ..
      ·split
       ·exact CI ..
       ·rw[DF g r];exact CI ..
theorem Hz{T:TM}{g:G}(h:(bR T g R k).2.2.2=0):(bR T g R k).2.1.getD 2 0=R.getD 2 0:=by
 unfold bR at h ⊢
 split
 ·rename_i y;rw[if_pos y]at h;exact absurd (show(101:Int)=0 from h) dX
 ·rename_i y;rw[if_neg y]at h
  split
  ·rename_i z;rw[if_pos z]at h;exact absurd h z
  ·exact DF g _ T R 0
def lF(T1:TM)(g:G)(n:Int)(R Y:List Int)(v e place:Int)(s:Tm.cC)(i:Int):TM×Int:=
 if e≠0 then(T1,e)else
 if(T1.read v).2≠0 then(T1,(T1.read v).2)else
 if(gP (T1.read v).1 ⟨max place 0,s,i⟩).1≠0 then(T1,(gP (T1.read v).1 ⟨max place 0,s,i⟩).1)else
 if(T1.write v (gP (T1.read v).1 ⟨max place 0,s,i⟩).2).2≠0 then T1.write v (gP (T1.read v).1 ⟨max place 0,s,i⟩).2 else
 if(if place<0 then Y.set 2 (Y.getD 2 0+512)else Y)=R then((T1.write v (gP (T1.read v).1 ⟨max place 0,s,i⟩).2).1,0)else
  mE (T1.write v (gP (T1.read v).1 ⟨max place 0,s,i⟩).2).1 g n (if place<0 then Y.set 2 (Y.getD 2 0+512)else Y)
theorem HA(T:TM)(g:G)(n:Int)(R:List Int)(index place:Int)(s:Tm.cC)(i:Int):tO T g n R index place s i=lF (bR T g R index).1 g n R (bR T g R index).2.1 (bR T g R index).2.2.1 (bR T g R index).2.2.2 place s i:=rfl
theorem Qn{T1:TM}{g:G}{v:Int}{s:Tm.cC}:(lF T1 g n R Y v e place s i).1.aD.length<=T1.aD.length+2:=by
 have w:=lC T1 v (gP (T1.read v).1 ⟨max place 0,s,i⟩).2;have p:=λX=>LF (T:=(T1.write v (gP (T1.read v).1 ⟨max place 0,s,i⟩).2).1) (g:=g) (n:=n) (R:=X);unfold lF;generalize(if place<0 then Y.set 2 (Y.getD 2 0+512)else Y)=Z
 split
 ·exact kM _ _
 ·split
  ·exact kM _ _
  ·split
   ·exact kM _ _
   ·split
    ·omega
    ·split
     ·show(T1.write v (gP (T1.read v).1 ⟨max place 0,s,i⟩).2).1.aD.length<=_;omega
     ·have:=p Z;omega
theorem CJ : ∀{R S:List Int},R.length=S.length->cQ (ints R) (ints S)=decide (R=S)
 | [],[],_=>rfl
 | [],_::_,h=>by cases h
 | _::_,[],h=>by cases h
 | a::r,b::s,h=>by
  have ih:=CJ (R:=r) (S:=s) (Nat.succ.inj h);show((a==b) && cQ (ints r) (ints s))=_;rw[ih,JR,dB,beq_iff_eq,decide_eq_true_eq,decide_eq_true_eq,List.cons.injEq]
theorem DG{S:List Int}(hR:R.length=15)(hS:S.length=15):cQ (ints R) (ints S)=decide (R=S):=CJ (hR.trans hS.symm)
theorem SA{T1:TM}{n:Nat}{v:Int}{s:Tm.cC}{yb:Nat}{rest:LV}(gl:In.lT hh)(dm:zV n)(X:Tx hh F t d T1)(g0:∀ b,b<1->¬ F b)(hR:R.length=15)(hY:Y.length=15)(hs:e=0 -> -9223372036854775808<=Y.getD 2 0/\Y.getD 2 0<=9223372036854000000)(hu:T1.aD.length<900000000)
  (rr:rd hh rb=tI t (af n) i R 0++rest) (nr:¬F rb) (ry:rd hh yb=ints Y) (oy:dA hh yb) (ny:¬F yb) (rc:rd hh h.size=E.v ⟨0,s,inode⟩) (oc:dA hh h.size) (nc:¬F h.size) (h1:rb<h.size) (h2:h.size<yb) (h3:1<=rb)
  (hK:∀h' F',Fr (λb=>F b∨b=h.size∨b=yb) hh h'->Gw hh F h' F'->Tx h' F' t d (lF T1 (af n) i R Y v e place s inode).1->K (vI (lF T1 (af n) i R Y v e place s inode).2) h') :
  cE.k1 (some ⟨rb,0,none⟩) place h (some ⟨yb,0,none⟩) v e hh K:=by
 have xl:∀b,F b->b<hh.size:=λb hb=>X.lt hb;have yl:=oy.lt;have gl1:=gl.lt;unfold cE.k1;refine cn (λhe=>?_) λhe=>?_
 ·have e0:lF T1 (af n) i R Y v e place s inode=(T1,e):=by unfold lF;rw[if_pos he]
  rw[e0]at hK;exact hK hh F (Fr.refl _ _) (Gw.refl (bE _) xl) X
 refine os ⟨t,aZ rr rfl,Tm.dv X λa l c h7 f7 hl S7=>⟨_,_,_,_,rfl,?_⟩⟩;have z7:=f7.size;refine cn (λhr=>?_) λhr=>?_
 ·have e0:lF T1 (af n) i R Y v e place s inode=(T1,(T1.read v).2):=by unfold lF;rw[if_neg (λy=>y he),if_pos hr]
  rw[e0]at hK;exact hK h7 F (f7.mono λ_ _ y=>y.elim) (Gw.refl f7.size xl) (X.no f7)
 have IB:=Tx.lv X hr;have rc7:=(f7.rd oc.lt λy=>y).trans rc;refine bD.add (f7.own oc.lt (λy=>y) oc) (by rw[rc7];show 0<3;decide) λh8 d8=>?_;have z8:=d8.size;have e1:(if(0:Int)>place then 0 else place)=max place 0:=by split <;> omega
 have rc8:rd h8 h.size=E.v ⟨max place 0,s,inode⟩:=by rw[d8.rd,rc7,e1];rfl
 cases a with
 | none=>have l0:l=0:=S7.2.1;omega
 | some p=>
  obtain⟨b,o,sp⟩:=p;have ep:sp=none:=S7.2.1;subst ep;have hb:hh.size<=b:=S7.2.2.1;have gl8:In.lT h8:=(gl.no f7).fr d8.fr λb hb y=>by omega
  have S8:=S7.fr d8.fr λb _ hb y=>by have hb:hh.size<=b:=hb;have:=oc.lt;omega
  refine⟨_,rfl,ah rc8,Ss.mw (e:=⟨max place 0,s,inode⟩) gl8 oX S8 λh9 w9=>⟨_,rfl,?_⟩⟩;have z9:=w9.fr.size;have X8:Tx h8 F t d T1:=(X.no f7).fr d8.fr λy hy e=>nc (e▸hy);have X9:Tx h9 F t d T1:=X8.fr w9.fr λy hy e=>by have:=xl y hy;omega
  have F9:Fr (λb=>F b∨b=h.size∨b=yb) hh h9:=((f7.mono λ_ _ y=>y.elim).did d8 λ_=>.inr (.inl rfl)).trans w9.fr λy hy e=>by omega
  refine cn (λhp=>?_) λhp=>?_
  ·have e0:lF T1 (af n) i R Y v e place s inode=(T1,(gP (T1.read v).1 ⟨max place 0,s,inode⟩).1):=(by unfold lF;rw[if_neg (λy=>y he),if_neg (λy=>y hr),if_pos hp]);rw[e0]at hK;exact hK h9 F F9 (Gw.refl oX xl) X9
  have keep:∀b',b'<hh.size->b'≠h.size->rd h9 b'=rd hh b'/\(dA hh b'->dA h9 b'):=λb' YF OL=>
   ⟨(w9.fr.rd oX oX).trans ((d8.at_ oX OL).trans (f7.rd YF λy=>y)),λo=>w9.fr.own oX oX (d8.ow (f7.own YF (λy=>y) o))⟩
  have ocl:=oc.lt;have rr9:=(keep rb oX oX).1.trans rr;have ry9:=(keep yb yl oX).1.trans ry;have oy9:=(keep yb yl oX).2 oy;have S9:=Ss.Sl.all S8 (bs':=(gP (T1.read v).1 ⟨max place 0,s,inode⟩).2) (by rw[vA]) w9;have lb9:=S9.str.1;rw[vA,IB]at lb9;refine os ⟨t,aZ rr9 rfl,Tm.fp X9 S9.str oX (λp hp y=>by cases hp;have y:F b:=y;have:=xl b y;omega) oX λbG L8 f10 g10 RJ=>⟨_,rfl,?_⟩⟩;have Vu:=f10.size;have YS:Gw hh F bG L8:=(Gw.refl (show hh.size<=h9.size by omega) xl).trans g10 oX;have ait:Fr (λb=>F b∨b=h.size∨b=yb) hh bG:=F9.trans f10 λb hb y=>.inl y;refine cn (λhw=>?_) λhw=>?_
  ·have e0:lF T1 (af n) i R Y v e place s inode=T1.write v (gP (T1.read v).1 ⟨max place 0,s,inode⟩).2:=(by unfold lF;rw[if_neg (λy=>y he),if_neg (λy=>y hr),if_neg (λy=>y hp),if_pos hw]);rw[e0]at hK;exact hK bG L8 ait YS RJ
  have ny9:¬F yb:=ny;have aax:=(f10.rd oy9.lt ny).trans ry9;have oy10:dA bG yb:=f10.own oy9.lt ny oy9;have rr10:=(f10.rd (b:=rb) oX nr).trans rr9;have un:=lC T1 v (gP (T1.read v).1 ⟨max place 0,s,inode⟩).2;have gl9:In.lT h9:=gl8.fr w9.fr λb' pV e=>by omega
  have gl10:In.lT bG:=gl9.fr f10 g0;have ny10:¬L8 yb:=λy=>ny ((YS.old yb yl).mp y)
  -- the record is put, if it is aj6 one
  have k2:∀(bf:ad) (Z:List Int),Z.length=15->Z=(if place<0 then Y.set 2 (Y.getD 2 0+512)else Y)->Fr (λb=>b=yb) bG bf->bf.size=bG.size->rd bf yb=ints Z->cE.k2 (some ⟨rb,0,none⟩) (some ⟨yb,0,none⟩) bf K:=by
   intro bf Z lZ eZ f12 z12 EM;have aay:=(f12.rd (b:=rb) oX oX).trans rr10;have Vv:Tx bf L8 t d (T1.write v (gP (T1.read v).1 ⟨max place 0,s,inode⟩).2).1:=RJ.fr f12 λy hy e=>ny10 (e▸hy);have Dw:Fr (λb=>F b∨b=h.size∨b=yb) hh bf:=ait.trans f12 λb hb y=>.inr (.inr y);have G12:Gw hh F bf L8:=YS.trans (Gw.refl oX λb hb=>RJ.lt hb) oX;unfold cE.k2;refine os ⟨_,by rw[aj,lZ],ah EM,os ⟨ints R,by rw[aj,hR],pY aay (by rw[aj,hR];exact N6 hR),sQ lZ hR,?_⟩⟩;rw[DG lZ hR];refine cd (λhz=>?_) λhz=>?_
   ·have e0:lF T1 (af n) i R Y v e place s inode=((T1.write v (gP (T1.read v).1 ⟨max place 0,s,inode⟩).2).1,0):=(by unfold lF;rw[if_neg (λy=>y he),if_neg (λy=>y hr),if_neg (λy=>y hp),if_neg (λy=>y hw),if_pos (by rw[<-eZ];exact hz)]);rw[e0]at hK;exact hK bf L8 Dw G12 Vv
   ·have e0:lF T1 (af n) i R Y v e place s inode=mE (T1.write v (gP (T1.read v).1 ⟨max place 0,s,inode⟩).2).1 (af n) i Z:=(by unfold lF;rw[if_neg (λy=>y he),if_neg (λy=>y hr),if_neg (λy=>y hp),if_neg (λy=>y hw),<-eZ,if_neg hz]);rw[e0]at hK;have gl12:In.lT bf:=gl10.fr f12 λb hb y=>by omega
    refine os ⟨t,aZ aay rfl,os ⟨(af n).v,rfl,pY aay N5,os ⟨_,aZ aay rfl,os ⟨_,by rw[aj,lZ],ah EM,Ino.mw gl12 Vv (Qg dm) lZ oX λbQ F13 f13 g13 X13=>⟨_,rfl,?_⟩⟩⟩⟩⟩;have Vp:=f13.size;refine hK bQ F13 (Dw.trans f13 λb hb y=>.inl ((YS.old b hb).mp y)) (G12.trans g13 oX) X13
  refine cd (λMZ=>?_) λMZ=>?_
  ·obtain⟨s0,s1⟩:=hs he;refine os ⟨_,aZ aax (Fi.iaT (by rw[hY];decide)),os (bD.add oy10 (by rw[aax,aj,hY];decide) λcu d11=>?_)⟩;have Ua:=d11.size;have eg:Y.getD (0+2) 0=Y.getD 2 0:=rfl;refine k2 cu (Y.set 2 (Y.getD 2 0+512)) (by rw[pL,hY]) (by rw[if_pos MZ]) d11.fr Ua ?_;rw[d11.rd,aax,eg,wrap_i64 oX oX];exact Fi.ints_set
  ·exact k2 bG Y hY (by rw[if_neg MZ]) (Fr.refl _ _) rfl aax
theorem UJ{T:TM}{n:Nat}{index:Int}{s:Tm.cC}{rest:LV}(gl:In.lT h)(dm:zV n)(X:Tx h F t d T)(live:T.over=false)(g0:∀ b,b<1->¬ F b)(hR:R.length=15)(hs0:0<=R.getD 2 0)(Vd:R.getD 2 0<=8459264)(hu:T.aD.length<600000000)
  (rr:rd h rb=tI t (af n) i R 0++rest) (lb:rb<h.size) (nr:¬F rb) (b1:1<=rb)
  (hK:∀h' F',Fr F h h'->Gw h F h' F'->Tx h' F' t d (tO T (af n) i R index place s inode).1->K (vI (tO T (af n) i R index place s inode).2) h') :
  C.cE (some ⟨rb,0,none⟩) index place [vI 0,.string (mkStr s),vI inode] h K:=by
 have xl:∀b,F b->b<h.size:=λb hb=>X.lt hb;rw[HA]at hK;have lY:=vy (T:=T) (g:=af n) (k:=index) hR;have un:=tY (T:=T) (g:=af n) (R:=R) (k:=index)
 have hs:(bR T (af n) R index).2.2.2=0-> -9223372036854775808<=(bR T (af n) R index).2.1.getD 2 0/\(bR T (af n) R index).2.1.getD 2 0<=9223372036854000000:=λe=>by
  rw[Hz e];omega
 refine cE.ok (aC.intro λh2 n2=>?_);have z2:=n2.size;have rr2:=(n2.at_ lb).trans rr;have YY:=gl.no n2.fr;have X2:=X.no n2.fr;refine os ⟨t,aZ rr2 rfl,os ⟨(af n).v,rfl,pY rr2 N5,os ⟨ints R,by rw[aj,hR],pY rr2 (by rw[aj,hR];exact N6 hR),?_,?_⟩⟩⟩
 · -- bmap's Add ahead of the XO own block
  refine Bm.uO YY dm X2 live hR g0 oX λh3 F3 f3 g3 X3=>⟨_,_,_,rfl,aC.intro λh4 n4=>?_⟩;have z3:=f3.size;have z4:=n4.size;have rr4:=(n4.at_ (c:=rb) oX).trans ((f3.rd oX nr).trans rr2);refine⟨aZ rr4 rfl,⟨rfl,pY rr4 N5⟩,⟨by rw[aj,hR],pY rr4 (by rw[aj,hR];exact N6 hR)⟩,az.intro n4.own (by rw[aj,lY]) (aO _) (by rw[n4.rd];exact bE _) λh5 d5=>?_⟩;have z5:=d5.size;have ny:¬F3 h3.size:=λy=>by have:=X3.lt y;omega
  have nr3:¬F3 rb:=λy=>nr ((g3.old rb oX).mp y);have nc3:¬F3 h.size:=λy=>by have:=(g3.old h.size oX).mp y;have:=xl _ this;omega
  have gl3:In.lT h3:=YY.fr f3 g0;have g03:∀b,b<1->¬F3 b:=λb hb y=>g0 b hb ((g3.old b (by have:=YY.lt;omega)).mp y);have gl5:In.lT h5:=(gl3.no n4.fr).fr d5.fr λb hb y=>by have:=gl3.lt;omega
  refine SA (h:=h) (yb:=h3.size) (s:=s) (inode:=inode) gl5 dm ((X3.no n4.fr).fr d5.fr λb hb y=>ny (y▸hb)) g03 hR lY hs oX ((d5.at_).trans rr4) nr3 ?_ d5.own ny ?_ ?_ nc3 lb oX b1 λh' F' f' g' X'=>?_
  ·rw[d5.rd,n4.rd];exact fu _ _ (by rw[aj,lY];rfl)
  ·rw[d5.at_,n4.at_,f3.rd oX λy=>by have:=xl _ y;omega,n2.rd];rfl
  ·exact d5.ow (n4.ow (f3.own oX (λy=>by have:=xl _ y;omega) n2.own))
  ·have F5:Fr F h h5:=(((n2.fr.mono λ_ _ y=>y.elim).trans f3 λ_ _ y=>y).new n4).did d5 λhl=>by omega
   have G5:Gw h F h5 F3:=(((Gw.refl (show h.size<=h2.size by omega) xl).trans g3 oX).trans (Gw.refl (show h3.size<=h5.size by omega) λb hb=>X3.lt hb) oX)
   exact hK h' F' (F5.trans f' λb hb y=>by
    rcases y with y|y|y
    ·exact(G5.old b hb).mp y
    ·omega
    ·omega) (G5.trans g' oX) X'
 · -- the XO own block first
  refine aC.intro λcX n14=>?_;have WI:=n14.size;have aaz:=(n14.at_ (c:=rb) oX).trans rr2;refine⟨aZ aaz rfl,⟨rfl,pY aaz N5⟩,⟨by rw[aj,hR],pY aaz (by rw[aj,hR];exact N6 hR)⟩,Bm.uO (YY.no n14.fr) dm (X2.no n14.fr) live hR g0 oX λfN F15 f15 g15 X15=>⟨_,_,_,rfl,?_⟩⟩;have rG:=f15.size;have ny0:¬F h2.size:=λy=>by have:=xl _ y;omega
  have r15:rd fN h2.size=z32:=(f15.rd oX ny0).trans n14.rd;have o15:dA fN h2.size:=f15.own oX ny0 n14.own;refine az.intro o15 (by rw[aj,lY]) (aO _) (by rw[r15];exact bE _) λgN d16=>?_;have z16:=d16.size;have ny:¬F15 h2.size:=λy=>ny0 ((g15.old _ oX).mp y);have nr3:¬F15 rb:=λy=>nr ((g15.old rb oX).mp y);have nc3:¬F15 h.size:=λy=>by have:=(g15.old h.size oX).mp y;have:=xl _ this;omega
  have gl15:In.lT fN:=(YY.no n14.fr).fr f15 g0;have g03:∀b,b<1->¬F15 b:=λb hb y=>g0 b hb ((g15.old b (by have:=YY.lt;omega)).mp y);have gl16:In.lT gN:=gl15.fr d16.fr λb hb y=>by have:=YY.lt;omega
  refine SA (h:=h) (yb:=h2.size) (s:=s) (inode:=inode) gl16 dm (X15.fr d16.fr λb hb y=>ny (y▸hb)) g03 hR lY hs oX ((d16.at_).trans ((f15.rd oX nr).trans aaz)) nr3 ?_ d16.own ny ?_ ?_ nc3 lb oX b1 λh' F' f' g' X'=>?_
  ·rw[d16.rd,r15];exact fu _ _ (by rw[aj,lY];rfl)
  ·rw[d16.at_,f15.rd oX λy=>by have:=xl _ y;omega,n14.at_,n2.rd];rfl
  ·exact d16.ow (f15.own oX (λy=>by have:=xl _ y;omega) (n14.ow n2.own))
  ·have F16:Fr F h gN:=((((n2.fr.new n14).mono λ_ _ y=>y.elim).trans f15 λ_ _ y=>y).did d16 λhl=>oX);have G16:Gw h F gN F15:=(((Gw.refl (show h.size<=cX.size by omega) xl).trans g15 oX).trans (Gw.refl (show fN.size<=gN.size by omega) λb hb=>X15.lt hb) oX)
   exact hK h' F' (F16.trans f' λb hb y=>by
    rcases y with y|y|y
    ·exact(G16.old b hb).mp y
    ·omega
    ·omega) (G16.trans g' oX) X'
end Di
namespace Di
open Hp W Ad Tm Spc Re Av Rg Ss
open Hd (ints)
open In (lT aj aO)
open Ino (getM mE yP cZ)
open Bm (bT bR tY)
open Fi (bH tt uQ Qg uP Eo)
open Sk (E cm)
theorem IC{nb:Nat}{es:List E}{s:Tm.cC}(Z:ak h a (es.flatMap E.v))(hl:es.length=l)(hm:l<=1000000)(rs:rd h nb=[.string (mkStr s)])
  (hK:∀h',Fr No h h'->K (.bool (es.find? (λc=>c.name==s)).isSome) h'):C.bB a l c (.func (.func 102) #[] ⟨[vP (some ⟨nb,0,none⟩)]⟩) h K:=by
 have lb:nb<h.size:=pE (o:=0) (by rw[rs];rfl);refine bB.ok (cj.ok ⟨λj hh=>∃p:Nat,j=p/\p<=l/\Fr No h hh/\(es.take p).find? (λc=>c.name==s)=none,λj _=>((l:Int)-j).toNat,⟨0,rfl,bN _,Fr.refl _ _,rfl⟩,?_⟩);rintro j h2 ⟨p,rfl,hp,f2,np⟩;refine cd (λbV=>?_) λbV=>?_
 ·have vJ:p<es.length:=oX;obtain⟨a0,ea,ca⟩:=pv Z vJ;subst ea;have Z2:ai h2 (a0.add (p*3)) (E.v es[p]):=ai.fr f2 ca λy=>y;refine⟨⟨oX,bV⟩,os ⟨_,rfl,Z2,?_⟩⟩;show C.sf (E.v es[p]) (some ⟨nb,0,none⟩) h2 _;refine sf.ok (aC.intro λh3 n3=>⟨_,aZ n3.rd rfl,os ⟨_,dC (show rd h3 nb=[.string (mkStr s)] from((f2.new n3).rd lb λy=>y).trans rs) rfl,?_⟩⟩);rw[toList_mkStr,toList_mkStr];refine⟨_,rfl,cs (λheq=>?_) λfP=>?_⟩
  ·have ef:=LO vJ np heq;rw[ef]at hK;refine⟨_,rfl,?_⟩;rw[decide_eq_true oX];exact hK h3 (f2.new n3)
  ·rw[wrap_i64 oX oX];refine⟨⟨p+1,oX,oX,f2.new n3,?_⟩,bW bV⟩;rw[jJ vJ,Hs,np,Ht,ace (by rw[fP];decide)];rfl
 ·rw[gL oX]at np;rw[np]at hK;exact⟨_,rfl,hK h2 f2⟩
theorem UK{T:TM}(h:T.mark.2=0):T.over=false:=by
 unfold TM.mark at h
 split at h
 ·exact absurd (show(61:Int)=0 from h) dX
 ·rename_i y;exact Bool.eq_false_iff.mpr y
def aeZ(F:NP)(t d:OA)(T:TM)(n:Nat)(i:Int)(R:List Int)(s:Tm.cC)(m:Nat)(hb bG bf bQ cX jk eX:ad)(L:Loop)(k:Nat)(hh:ad):Prop:=
 It hh F t d T (af n) i R 0 [] jk.size bG.size/\Fr (λb=>b=bG.size∨b=bf.size∨b=bQ.size∨b=cX.size∨b=eX.size+1) hb hh/\bO hh (eX.size+1) L .ready none/\∃q ix p ex,m=k+q/\rd hh bf.size=[vI ix]/\dA hh bf.size/\rd hh bQ.size=[vI p]/\dA hh bQ.size/\rd hh cX.size=[.bool ex]/\dA hh cX.size/\
  dZ s (aG T (af n) R m 0).1 (R.getD 2 0/512,-1,false)=dZ s (aG T (af n) R q k).1 (ix,p,ex)/\(aG T (af n) R m 0).2=(aG T (af n) R q k).2
theorem uO{T:TM}{n:Nat}{v:Int}{s:Tm.cC}(gl:In.lT h)(dm:zV n)(x:Tx h F t d T)(g0:∀ b,b<1->¬ F b)(hu:T.aD.length<600000000)
  (hK:∀h' F',Fr F h h'->Gw h F h' F'->Tx h' F' t d (gv T (af n) i s v).1->K (vI (gv T (af n) i s v).2) h'):C.oR t (af n).v i (mkStr s) v h K:=by
 have xl:∀b,F b->b<h.size:=λb hb=>x.lt hb;have gl1:=gl.lt
 have same:∀h' e,Fr No h h'->gv T (af n) i s v=(T,e)->K (vI e) h':=λh' e f e0=>by
  rw[e0]at hK;exact hK h' F (f.mono λ_ _ y=>y.elim) (Gw.refl f.size xl) (x.no f)
 refine oR.ok (aC.intro λh2 n2=>aC.intro λh3 n3=>aC.intro λh4 n4=>aC.intro λh5 n5=>?_);have z2:=n2.size;have y3:=n3.size;have z4:=n4.size;have z5:=n5.size;have F5:Fr No h h5:=(((n2.fr.new n3).new n4).new n5);have t5:rd h5 h.size=[vP t]:=(n5.at_).trans ((n4.at_).trans ((n3.at_).trans n2.rd));have g5:rd h5 h2.size=(af n).v:=(n5.at_).trans ((n4.at_).trans n3.rd);have s5:rd h5 h3.size=[.string (mkStr s)]:=(n5.at_).trans n4.rd;have e5:rd h5 h4.size=[vI 0]:=n5.rd;have w5:=n5.own
 -- an answer ahead of the loop
 have early:∀(hh:ad) (e:Int),Fr No h5 hh->gv T (af n) i s v=(T,e)->bD (bA h4) (vI e) hh λh7=>∃(dq:Int),cellOf h7 (bA h4)=some (vI dq)/\K (vI dq) h7:=λhh e f e0=>
  Eo (f.own w5.lt (λy=>y) w5) ((f.rd w5.lt λy=>y).trans e5) λh7 d7=>⟨_,dC d7.rd rfl,same h7 e ((F5.no f).did d7 λhl=>oX) e0⟩
 refine⟨_,dC s5 rfl,Ch.wG λh6 f6=>⟨_,rfl,iu (cs (λhn=>?_) λhn=>early h6 1 f6 (by unfold gv;rw[if_pos hn]))⟩⟩;have z6:=f6.size;have nE:¬cm s=false:=by rw[hn];decide
 refine⟨(af n).v,rfl,ah ((f6.r0).trans g5),rj λh8 f8=>⟨_,rfl,iu (cs (λhh=>?_) λhh=>early h8 110 (f6.no f8) (by unfold gv;rw[if_neg nE,if_pos hh]))⟩⟩;have EP:¬vO (af n) v=false:=by rw[hh];decide
 have f58:Fr No h5 h8:=f6.no f8;have F8:Fr No h h8:=F5.no f58;have z8:=f8.size;have lR:=mS T (af n) i;refine⟨t,dC ((f58.r0).trans t5) rfl,(af n).v,rfl,ah ((f58.r0).trans g5),DE (gl.no F8) (x.no F8) (Qg dm) λbG f10=>⟨_,rfl,aF.intro (jW lR) Fp rfl λbf n12=>?_⟩⟩;have Vu:=f10.size;have z12:=n12.size;have EM:rd bf bG.size=tI t (af n) i (aw T (af n) i).1 (aw T (af n) i).2++[]:=by rw[gi];exact n12.rd
 refine⟨_,xt EM (ach lR),aC.intro λbQ n13=>aC.intro λcX n14=>aC.intro λfN n15=>?_⟩;have Vp:=n13.size;have WI:=n14.size;have rG:=n15.size;have r3:rd bQ bf.size=[vI 0]:=n13.rd;refine bD.intro (n15.ow (n14.ow n13.own)) (by rw[n15.at_,n14.at_,n13.rd];exact uM) λgN d16=>?_;have z16:=d16.size;refine bD.intro (d16.ow (n15.ow n14.own)) (by rw[d16.at_,n15.at_,n14.rd];exact uM) λgO d17=>?_;have z17:=d17.size;refine bD.intro (d17.ow (d16.ow n15.own)) (by rw[d17.at_,d16.at_,n15.rd];exact uM) λjk d18=>?_;have z18:=d18.size;refine yV λeX n19=>⟨_,rfl,λL rounds=>?_⟩;have z19:=n19.size;have SB:Fr (λb=>b=bf.size∨b=bQ.size∨b=cX.size) bf eX:=(((((((n13.fr.new n14).new n15).mono λ_ _ y=>y.elim).did d16 λhl=>oX).did d17 λhl=>oX).did d18 λhl=>oX).new n19);have Dw:Fr No h bf:=(F8.no f10).new n12;have F19:Fr No h eX:=Dw.trans SB λb hb y=>by omega
 have i19:rd eX bf.size=[vI (wI (Int.tdiv ((aw T (af n) i).1.getD 2 0) 512))]:=by
  rw[n19.at_,d18.at_,d17.at_,d16.rd,n15.at_,n14.at_,n13.rd];rfl
 have p19:rd eX bQ.size=[vI (-1)]:=by
  rw[n19.at_,d18.at_,d17.rd,d16.at_,n15.at_,n14.rd];rfl
 have x19:rd eX cX.size=[.bool false]:=by
  rw[n19.at_,d18.rd,d17.at_,d16.at_,n15.rd];rfl
 have iw19:dA eX bf.size:=n19.ow (d18.ow (d17.ow d16.own));have pw19:dA eX bQ.size:=n19.ow (d18.ow d17.own);have xw19:dA eX cX.size:=n19.ow d18.own;have r19:rd eX bG.size=tI t (af n) i (aw T (af n) i).1 (aw T (af n) i).2++[]:=(SB.rd oX oX).trans EM;have ob19:dA eX bG.size:=SB.own oX oX n12.own;have aix:Fr No h5 eX:=((f58.no f10).new n12).trans SB λb hb y=>by omega
 have q19:∀b,b<h5.size->rd eX b=rd h5 b:=λb hb=>aix.rd hb λy=>y;have w19:dA eX h4.size:=aix.own w5.lt (λy=>y) w5;have Fb:=zC eX L;have YT:=zD eX L;have d0:=Cj eX L;have zb:=tq eX L;have F0:Fr No h (dw eX L):=F19.no Fb;have cb0:rd (dw eX L) jk.size=[vP (some (bA bG))]:=(Fb.r0).trans n19.rd;have I0:It (dw eX L) F t d T (af n) i (aw T (af n) i).1 (aw T (af n) i).2 [] jk.size bG.size:=⟨gl.no F0,x.no F0,cb0,Fb.own oX (λy=>y) ob19,(Fb.r0).trans r19,λy=>by have:=xl _ y;omega,oX,oX⟩;have tb0:rd (dw eX L) h.size=[vP t]:=(Fb.r0).trans ((q19 _ oX).trans t5);have sb0:rd (dw eX L) h3.size=[.string (mkStr s)]:=(Fb.r0).trans ((q19 _ oX).trans s5);have eb0:rd (dw eX L) h4.size=[vI 0]:=(Fb.r0).trans ((q19 _ oX).trans e5);have wb0:dA (dw eX L) h4.size:=Fb.own oX (λy=>y) w19;have i0:=(Fb.rd (b:=bf.size) oX λy=>y).trans i19;have p0:=(Fb.rd (b:=bQ.size) oX λy=>y).trans p19;have x0:=(Fb.rd (b:=cX.size) oX λy=>y).trans x19;have iw0:dA (dw eX L) bf.size:=Fb.own oX (λy=>y) iw19;have pw0:dA (dw eX L) bQ.size:=Fb.own oX (λy=>y) pw19;have xw0:dA (dw eX L) cX.size:=Fb.own oX (λy=>y) xw19;generalize hbe:dw eX L=hb at *;show C.aQ (.func (.yield (eX.size+1)) #[] #[]) (some (bA jk)) hb _
 have fin:∀(hh:ad) (e:Int),Fr (λb=>b=bG.size∨b=bf.size∨b=bQ.size∨b=cX.size∨b=eX.size+1) hb hh->bO hh (eX.size+1) L .ready none->It hh F t d T (af n) i (aw T (af n) i).1 e [] jk.size bG.size->(e≠0->gv T (af n) i s v=(T,e))->
   (e=0->∃(ix p:Int) (ex:Bool),rd hh bf.size=[vI ix]/\rd hh bQ.size=[vI p]/\rd hh cX.size=[.bool ex]/\0<=(aw T (af n) i).1.getD 2 0/\(aw T (af n) i).1.getD 2 0<=8459264/\gv T (af n) i s v=if ex=true then(T,150)else if T.mark.2≠0 then(T,T.mark.2)else uP T (tO T (af n) i (aw T (af n) i).1 ix p s v))->
   ∃(st1:LoopState) (jo:Option Code),bO hh (eX.size+1) L st1 jo/\st1≠.busy/\xU jo (
 xM hh (eX.size+1) L .exhausted jo λuU=>
 ∃(n7:Int),cellOf uU (Addr.add (bA bG) 22)=some (vI n7)/\
 bif(n7 != 0)then(
 ∃(n8:Int),cellOf uU (Addr.add (bA bG) 22)=some (vI n8)/\
 bD (bA h4) (vI n8) uU λVl=>
 rU eX.size Vl λL7=>
 ∃(fY:Int),cellOf L7 (bA h4)=some (vI fY)/\
 K (vI fY) L7)else(
 ∃(b5:Bool),cellOf uU (bA cX)=some (.bool b5)/\
 bif b5 then(
 bD (bA h4) (vI 150) uU λWu=>
 rU eX.size Wu λh36=>
 ∃(kP:Int),cellOf h36 (bA h4)=some (vI kP)/\
 K (vI kP) h36)else(
 ∃(q2:OA),cellOf uU (bA h)=some (vP q2)/\
 C.hZ q2 uU λr7 Z7=>
 ∃(n9:Int) (n10:Int),r7 = .tuple #[vI n9,vI n10]/\
 aC z3 3 Z7 λh38=>
 bD (bA Z7) (vI n9) h38 λh39=>
 bD (bA h4) (vI n10) h39 λFg=>
 ∃(n11:Int),cellOf Fg (bA h4)=some (vI n11)/\
 bif(n11 != 0)then(
 ∃(n12:Int),cellOf Fg (bA h4)=some (vI n12)/\
 bD (bA h4) (vI n12) Fg λh41=>
 rU eX.size h41 λh42=>
 ∃(uG:Int),cellOf h42 (bA h4)=some (vI uG)/\
 K (vI uG) h42)else(
 ∃(n13:Int),cellOf Fg (bA bf)=some (vI n13)/\
 ∃(n14:Int),cellOf Fg (bA bQ)=some (vI n14)/\
 ∃(s2:ByteArray),cellOf Fg (bA h3)=some (.string s2)/\
 C.cE (some (bA bG)) n13 n14 [vI 0,.string s2,vI v] Fg λr8 h43=>
 ∃(n15:Int),r8 = vI n15/\
 bD (bA h4) (vI n15) h43 λVm=>
 D.fj (some (bA h4)) (some (bA h)) (some (bA Z7)) Vm λYP=>
 rU eX.size YP λWw=>
 ∃(u4:Int),cellOf Ww (bA h4)=some (vI u4)/\
 K (vI u4) Ww)))) (
 False) (λ_=>False):=by
  intro hh e f on I Mn es1;have zf:=f.size;refine⟨.ready,none,on,by decide,zE (mR oX λuU t32=>?_)⟩;have z32:=t32.size;have f32:Fr (λb=>b=bG.size∨b=bf.size∨b=bQ.size∨b=cX.size∨b=eX.size+1) hb uU:=f.trans t32.fr λb _ y=>.inr (.inr (.inr (.inr y)));have I32:It uU F t d T (af n) i (aw T (af n) i).1 e [] jk.size bG.size:=I.fr t32.fr oX oX (λb hb y=>by have:=xl b hb;omega) λb hb y=>by omega
  have F32:Fr No h uU:=F0.trans f32 λb hb y=>by omega
  have q32:∀b,b<bG.size->rd uU b=rd hb b:=λb pV=>f32.rd oX oX;have e32:=(q32 h4.size oX).trans eb0;have w32:dA uU h4.size:=f32.own oX oX wb0;have d32:=(f32.same eX.size oX oX).trans d0
  -- an answer akc a change
  have out:∀(hx:ad) (e':Int),Fr No uU hx->gv T (af n) i s v=(T,e')->bD (bA h4) (vI e') hx λVl=>rU eX.size Vl λL7=>∃(fY:Int),cellOf L7 (bA h4)=some (vI fY)/\K (vI fY) L7:=λhx e' fx e0=>by
   have zx:=fx.size;refine Eo (fx.own w32.lt (λy=>y) w32) ((fx.rd w32.lt λy=>y).trans e32) λVl d33=>oF ((d33.fr.same _ oX oX).trans ((fx.same _ oX λy=>y).trans d32)) λL7 z34 f34=>?_;have z33:=d33.size;refine⟨_,dC (show rd L7 h4.size=[vI e'] from(f34.rd oX oX).trans d33.rd) rfl,same L7 e' (((F32.no fx).did d33 λhl=>oX).trans f34 λb hb y=>oX) e0⟩
  refine⟨_,aZ I32.r (Aq lR),cn (λhe=>⟨_,aZ I32.r (Aq lR),out uU e (Fr.refl _ _) (Mn he)⟩) λhe=>?_⟩;obtain⟨ix,p,ex,ri,rp,rx,R0,R1,ea⟩:=es1 he;have ri32:=(t32.fr.rd (b:=bf.size) oX oX).trans ri;have rp32:=(t32.fr.rd (b:=bQ.size) oX oX).trans rp;have rx32:=(t32.fr.rd (b:=cX.size) oX oX).trans rx;refine⟨_,dC rx32 rfl,cs (λhx=>out uU 150 (Fr.refl _ _) (by rw[ea,if_pos hx])) λhx=>?_⟩;have Zh:¬ex=true:=by rw[hx];decide
  rw[if_neg Zh]at ea;refine⟨t,dC ((q32 h.size oX).trans tb0) rfl,Tm.sE I32.x ⟨_,_,rfl,aC.intro λh38 n38=>bD.intro n38.own (by rw[n38.rd];exact uM) λh39 d39=>?_⟩⟩;have z38:=n38.size;have z39:=d39.size;have f39:Fr No uU h39:=n38.fr.did d39 λhl=>by omega
  have m39:rd h39 uU.size=[vI T.mark.1]:=by rw[d39.rd,n38.rd];rfl
  refine Eo (f39.own w32.lt (λy=>y) w32) ((f39.rd w32.lt λy=>y).trans e32) λFg d40=>?_;have z40:=d40.size;refine⟨_,dC d40.rd rfl,cn (λhm=>⟨_,dC d40.rd rfl,?_⟩) λhm=>?_⟩
  ·refine Eo d40.own d40.rd λVl d33=>oF ((d33.fr.same _ oX oX).trans ((d40.fr.same _ oX oX).trans ((f39.same _ oX λy=>y).trans d32))) λL7 z34 f34=>?_;have z33:=d33.size;refine⟨_,dC (show rd L7 h4.size=[vI T.mark.2] from(f34.rd oX oX).trans d33.rd) rfl,same L7 _ ((((F32.no f39).did d40 λhl=>oX).did d33 λhl=>oX).trans f34 λb hb y=>oX) (by rw[ea,if_pos hm])⟩
  have live:=UK hm;rw[if_neg (λy=>y hm)]at ea;have F40:Fr No h Fg:=(F32.no f39).did d40 λhl=>by omega
  have q40:∀b,b<uU.size->b≠h4.size->rd Fg b=rd uU b:=λb pV hn=>(d40.at_ oX hn).trans (f39.rd pV λy=>y);have I39:=I32.no f39;have I40:It Fg F t d T (af n) i (aw T (af n) i).1 e [] jk.size bG.size:=I39.fr d40.fr oX oX (λb hb y=>by have:=xl b hb;omega) λb hb y=>by omega
  rw[he]at I40;have m40:=(d40.at_ (c:=uU.size) oX oX).trans m39;refine⟨_,dC ((q40 _ oX oX).trans ri32) rfl,_,dC ((q40 _ oX oX).trans rp32) rfl,_,dC ((q40 _ oX oX).trans ((q32 _ oX).trans sb0)) rfl,?_⟩;refine UJ I40.gl dm I40.x live g0 lR R0 R1 hu I40.r I40.ob.lt I40.nf I40.b1 λh43 F43 f43 g43 X43=>⟨_,rfl,?_⟩;have z43:=f43.size;have n4:¬F h4.size:=λy=>by have:=xl _ y;omega
  have w43:dA h43 h4.size:=f43.own oX n4 d40.own;refine Eo w43 ((f43.rd oX n4).trans d40.rd) λVm d44=>?_;have z44:=d44.size;have un1:=tY (T:=T) (g:=af n) (R:=(aw T (af n) i).1) (k:=ix);have un2:=Qn (T1:=(bR T (af n) (aw T (af n) i).1 ix).1) (g:=af n) (n:=i) (R:=(aw T (af n) i).1) (Y:=(bR T (af n) (aw T (af n) i).1 ix).2.1) (v:=(bR T (af n) (aw T (af n) i).1 ix).2.2.1) (e:=(bR T (af n) (aw T (af n) i).1 ix).2.2.2) (place:=p) (s:=s) (i:=v);rw[<-HA]at un2;have n43:¬F43 h4.size:=λy=>n4 ((g43.old _ oX).mp y);have X44:Tx Vm F43 t d (tO T (af n) i (aw T (af n) i).1 ix p s v).1:=X43.fr d44.fr λb hb y=>n43 (y▸hb);have F44:Fr F h Vm:=((F40.mono λ_ _ y=>y.elim).trans f43 λb hb y=>y).did d44 λhl=>by omega
  have G44:Gw h F Vm F43:=((Gw.refl (show h.size<=Fg.size by omega) xl).trans g43 oX).trans (Gw.refl oX λb hb=>X43.lt hb) oX;have d40':Fg[eX.size]?=some (.deferred (some [])):=(d40.fr.same _ oX oX).trans ((f39.same _ oX λy=>y).trans d32);have nd:∀b,h.size<=b->¬F b:=λb hb y=>by have:=xl _ y;omega
  have d44':Vm[eX.size]?=some (.deferred (some [])):=(d44.fr.same _ oX oX).trans ((f43.same _ oX (nd _ oX)).trans d40')
  -- the end
  have Lo:∀(YP:ad) (T2:TM),Fr F43 Vm YP->Tx YP F43 t d T2->gv T (af n) i s v=(T2,(tO T (af n) i (aw T (af n) i).1 ix p s v).2)->rU eX.size YP λWw=>∃(u4:Int),cellOf Ww (bA h4)=some (vI u4)/\K (vI u4) Ww:=λYP T2 f45 X45 e0=>by
   have z45:=f45.size;have n19:¬F43 eX.size:=λy=>nd _ oX ((g43.old _ oX).mp y);refine oF ((f45.same _ oX n19).trans d44') λWw z46 f46=>⟨_,dC (show rd Ww h4.size=[vI (tO T (af n) i (aw T (af n) i).1 ix p s v).2] from(f46.rd oX oX).trans ((f45.rd oX n43).trans d44.rd)) rfl,?_⟩;rw[e0]at hK;refine hK Ww F43 ((F44.trans f45 λb hb y=>(G44.old b hb).mp y).trans f46 λb hb y=>oX) (G44.trans (Gw.refl oX λb hb=>by have:=X43.lt hb;omega) oX) (X45.fr f46 λb hb y=>n19 (y▸hb))
  refine fj.FE (os ⟨_,dC d44.rd rfl,cn (λhw=>os ⟨t,dC (show rd Vm h.size=[vP t] from(d44.at_).trans ((f43.rd oX (nd _ (bE _))).trans ((q40 _ oX oX).trans ((q32 h.size oX).trans tb0)))) rfl,os ⟨_,dC (show rd Vm uU.size=[vI T.mark.1] from(d44.at_).trans ((f43.rd oX (nd _ oX)).trans m40)) rfl,Tm.sF X44 oX λYP f45 X45=>⟨_,rfl,?_⟩⟩⟩) λhw=>?_⟩)
  ·exact Lo YP _ f45 X45 (by rw[ea];unfold uP;rw[if_pos hw])
  ·exact Lo Vm _ (Fr.refl _ _) X44 (by rw[ea];unfold uP;rw[if_neg (λy=>y hw)])
 have aiy:∀{y:Int},(aw T (af n) i).2≠0->gv T (af n) i s v=(T,(aw T (af n) i).2):=λh1=>by
  unfold gv;rw[if_neg nE,if_neg EP,if_pos h1]
 by_cases CT:(aw T (af n) i).2=0
 rotate_left
 ·exact yW lR I0 CT (fin hb _ (Fr.refl _ _) YT I0 (λ_=>aiy (y:=0) CT) λy=>absurd y CT)
 obtain⟨R0,R1⟩:=kz CT
 have Mn:gv T (af n) i s v=if(cF T (af n) (aw T (af n) i).1).2≠0 then(T,(cF T (af n) (aw T (af n) i).1).2)else
   if(dZ s (cF T (af n) (aw T (af n) i).1).1 ((aw T (af n) i).1.getD 2 0/512,-1,false)).2.2=true then(T,150)else if T.mark.2≠0 then(T,T.mark.2)else
    uP T (tO T (af n) i (aw T (af n) i).1 (dZ s (cF T (af n) (aw T (af n) i).1).1 ((aw T (af n) i).1.getD 2 0/512,-1,false)).1 (dZ s (cF T (af n) (aw T (af n) i).1).1 ((aw T (af n) i).1.getD 2 0/512,-1,false)).2.1 s v):=by
  unfold gv;rw[if_neg nE,if_neg EP,if_neg (λy=>y CT)]
 unfold cF at Mn;rw[N7 R0 R1]at i0;rw[CT]at I0;clear aiy;generalize hR:(aw T (af n) i).1=R at *;generalize hm:(R.getD 2 0/512).toNat=m at *;have hm2:m<=16522:=oX;refine yU lR R0 R1 (aeZ F t d T n i R s m hb bG bf bQ cX jk eX L)
  (λk hh J=>J.1) (λk hh h' ba bl bc ca cl cc J hk he f' r' o' lf=>?_) ⟨I0,Fr.refl _ _,YT,m,_,_,_,oX,i0,iw0,p0,pw0,x0,xw0,rfl,rfl⟩ (λhh J=>?_) λk hh h' J hk he f' r' o'=>?_
 · -- an index
  obtain⟨I,f,on,q,ix,p,ex,eq,ri,wi,rp,wp,rx,wx,e1,e2⟩:=J;rw[hm]at hk;obtain⟨q,rfl⟩:∃q',q=q'+1:=⟨q-1,oX⟩;have zf:=f.size;have zf':=f'.size;have on':bO h' (eX.size+1) L .ready none:=gH on f' oX;refine rounds (rP k (ay T (af n) R k).1.block ba bl bc ca cl cc) h' _ on' (aF.intro rfl zM rfl λqD n22=>⟨gH on' n22.fr λy=>y,mR (by have:=n22.size;omega) λpg t23=>?_⟩);have z22:=n22.size;have z23:=t23.size;have f23:Fr (λb=>b=bG.size∨b=bf.size∨b=bQ.size∨b=cX.size∨b=eX.size+1) hb pg:=((f.trans f' λb _ y=>.inl y).new n22).trans t23.fr λb _ y=>.inr (.inr (.inr (.inr y)));have v23:rd pg h'.size=rP k (ay T (af n) R k).1.block ba bl bc ca cl cc:=(t23.fr.rd oX oX).trans n22.rd;have ae3:Lf hh pg (ay T (af n) R k).1 ba bl bc ca cl cc:=(lf.fr n22.fr λ_ _ _ y=>y).fr t23.fr λb _ hb y=>by omega
  have lc:(ay T (af n) R k).1.cells.length=cl:=by
   have:=ae3.c.1;rw[bq E.v 3 _ (λx _=>E.len x)]at this;omega
  have l16:=yX T (af n) R k;have Xs:∀b,b<hh.size->b≠bG.size->b≠eX.size+1->rd pg b=rd hh b:=λb pV h1 h2=>(t23.fr.rd oX h2).trans ((n22.at_).trans (f'.rd pV h1));have w23:∀b,b<hh.size->b≠bG.size->b≠eX.size+1->dA hh b->dA pg b:=λb pV h1 h2 o=>t23.fr.own oX h2 (n22.ow (f'.own pV h1 o))
  have I23:It pg F t d T (af n) i R 0 [] jk.size bG.size:=by
   have A:It h' F t d T (af n) i R 0 [] jk.size bG.size:=⟨I.gl.fr f' λb hb y=>oX,I.x.fr f' λb hb y=>by have:=xl b hb;omega,(f'.rd I.clt oX).trans I.cap,o',r',I.nf,I.b1,I.ne⟩;exact(A.no n22.fr).fr t23.fr oX oX (λb hb y=>by have:=xl b hb;omega) λb hb y=>by omega
  have ri23:=(Xs bf.size oX oX oX).trans ri;have rp23:=(Xs bQ.size oX oX oX).trans rp;have aaA:=(Xs cX.size oX oX oX).trans rx;have wi23:=w23 bf.size oX oX oX wi;have wp23:=w23 bQ.size oX oX oX wp;have aiz:=w23 cX.size oX oX oX wx;have XN:=t23.on
  -- the state behind the index
  have aiA:∀(P:KT),(∀GF,aeZ F t d T n i R s m hb bG bf bQ cX jk eX L (k+1) GF->P (.bool true) GF)->∀(wj:ad) (ix' p':Int),Fr (λb=>b=bf.size∨b=bQ.size∨b=cX.size) pg wj->rd wj bf.size=[vI ix']->dA wj bf.size->rd wj bQ.size=[vI p']->dA wj bQ.size->rd wj cX.size=[.bool (ex || (cJ (ay T (af n) R k).1 s).isSome)]->dA wj cX.size->
    (if p<0/\0<=(nJ (ay T (af n) R k).1.bytes).1/\(nJ (ay T (af n) R k).1.bytes).2=0 then((k:Int),(nJ (ay T (af n) R k).1.bytes).1)else(ix,p))=(ix',p')->bO wj (eX.size+1) L .busy none/\P (.bool true) (dz wj (eX.size+1) L .ready none):=by
   intro P hP wj ix' p' f28 ri28 wi28 rp28 wp28 rx28 wx28 en;have z28:=f28.size;have aiB:bO wj (eX.size+1) L .busy none:=gH XN f28 oX;refine⟨aiB,hP _ ?_⟩;have t29:=Bc (uh aiB) L .ready none;generalize dz wj (eX.size+1) L .ready none=MS at t29;have z29:=t29.size;refine⟨(I23.fr f28 oX oX (λb hb y=>by have:=xl b hb;omega) λb hb y=>oX).fr t29.fr oX oX (λb hb y=>by have:=xl b hb;omega) λb hb y=>oX,(f23.trans f28 λb _ y=>oX).trans t29.fr λb _ y=>.inr (.inr (.inr (.inr y))),t29.on,q,ix',p',_,oX,(t29.fr.rd oX oX).trans ri28,t29.fr.own oX oX wi28,(t29.fr.rd oX oX).trans rp28,t29.fr.own oX oX wp28,(t29.fr.rd oX oX).trans rx28,t29.fr.own oX oX wx28,?_,?_⟩
   ·rw[e1]
    conv=>lhs;unfold aG
    rw[if_neg (λy=>y he)];show dZ s (aG T (af n) R q (k+1)).1 (if p<0/\0<=(nJ (ay T (af n) R k).1.bytes).1/\(nJ (ay T (af n) R k).1.bytes).2=0 then((k:Int),(nJ (ay T (af n) R k).1.bytes).1,ex || (cJ (ay T (af n) R k).1 s).isSome)else(ix,p,ex || (cJ (ay T (af n) R k).1 s).isSome))=_
    by_cases hc:p<0/\0<=(nJ (ay T (af n) R k).1.bytes).1/\(nJ (ay T (af n) R k).1.bytes).2=0
    ·rw[if_pos hc]at en ⊢;rw[<- (Prod.mk.inj en).1,<- (Prod.mk.inj en).2]
    ·rw[if_neg hc]at en ⊢;rw[<- (Prod.mk.inj en).1,<- (Prod.mk.inj en).2]
   ·rw[e2]
    conv=>lhs;unfold aG
    rw[if_neg (λy=>y he)]
  -- the lowest free cell
  have K1:∀(P:KT),(∀GF,aeZ F t d T n i R s m hb bG bf bQ cX jk eX L (k+1) GF->P (.bool true) GF)->∀(qv:ad),Fr (λb=>b=cX.size) pg qv->rd qv cX.size=[.bool (ex || (cJ (ay T (af n) R k).1 s).isSome)]->dA qv cX.size->oR.k1 bf bQ eX L h' P qv K:=by
   intro P hP qv f25 rx25 wx25;have z25:=f25.size;have v25:=(f25.rd (b:=h'.size) oX oX).trans v23;have aiC:Lf hh qv (ay T (af n) R k).1 ba bl bc ca cl cc:=ae3.fr f25 λb _ hb y=>by omega
   have I25:It qv F t d T (af n) i R 0 [] jk.size bG.size:=I23.fr f25 oX oX (λb hb y=>by have:=xl b hb;omega) λb hb y=>by omega
   have ri25:=(f25.rd (b:=bf.size) oX oX).trans ri23;have aiD:=(f25.rd (b:=bQ.size) oX oX).trans rp23;have wi25:dA qv bf.size:=f25.own oX oX wi23;have wp25:dA qv bQ.size:=f25.own oX oX wp23;unfold oR.k1;refine⟨_,_,_,aZ v25 rfl,Ss.NZ I25.gl aiC.s.str aiC.s.le λpJ f26=>⟨_,_,rfl,_,dC ((f26.r0).trans aiD) rfl,?_⟩⟩;have z26:=f26.size;have F26:Fr (λb=>b=bf.size∨b=bQ.size∨b=cX.size) pg pJ:=(f25.mono λb _ y=>.inr (.inr y)).no f26;have aiE:=(f26.rd (b:=bf.size) oX λy=>y).trans ri25;have aiF:=(f26.rd (b:=bQ.size) oX λy=>y).trans aiD;have aiG:=(f26.rd (b:=cX.size) oX λy=>y).trans rx25;have aiH:dA pJ bf.size:=f26.own oX (λy=>y) wi25;have aiI:dA pJ bQ.size:=f26.own oX (λy=>y) wp25;have aiJ:dA pJ cX.size:=f26.own oX (λy=>y) wx25
   have stay:¬(p<0/\0<=(nJ (ay T (af n) R k).1.bytes).1/\(nJ (ay T (af n) R k).1.bytes).2=0)->bO pJ (eX.size+1) L .busy none/\P (.bool true) (dz pJ (eX.size+1) L .ready none):=λhc=>
    aiA P hP pJ ix p F26 aiE aiH aiF aiI aiG aiJ (by rw[if_neg hc])
   refine cd (λh1=>cd (λh2=>ce (λh3=>?_) λh3=>stay λy=>h3 y.2.2) λh2=>stay λy=>h2 y.2.1) λh1=>stay λy=>h1 y.1;refine⟨_,aZ ((f26.r0).trans v25) rfl,Eo aiH aiE λDg d27=>Eo (d27.ow aiI) ((d27.at_).trans aiF) λwj d28=>?_⟩;have z27:=d27.size;have z28:=d28.size;exact aiA P hP wj k _ ((F26.did d27 λ_=>.inl rfl).did d28 λ_=>.inr (.inl rfl)) ((d28.at_).trans d27.rd) (d28.ow d27.own) d28.rd d28.own ((d28.at_).trans ((d27.at_).trans aiG)) (d28.ow (d27.ow aiJ)) (by rw[if_pos ⟨h1,h2,h3⟩])
  refine⟨_,dC aaA rfl,cs (λhx=>?_) λhx=>?_⟩
  ·refine bD.intro aiz (by rw[aaA];exact uM) λsX d24=>K1 _ (λGF Jx=>.inl ⟨rfl,Jx⟩) sX d24.fr ?_ d24.own;rw[d24.rd,aaA,hx];rfl
  ·have sb23:rd pg h3.size=[.string (mkStr s)]:=(f23.rd oX oX).trans sb0;refine⟨_,_,_,aZ v23 rfl,IC ae3.c.cells lc oX sb23 λMS f29=>⟨_,rfl,?_⟩⟩;have z29:=f29.size;have aiK:=(f29.rd (b:=cX.size) oX λy=>y).trans aaA;refine bD.intro (f29.own oX (λy=>y) aiz) (by rw[aiK];exact uM) λPs d30=>K1 _ (λGF Jx=>.inl ⟨rfl,Jx⟩) Ps ((f29.mono λ_ _ y=>y.elim).trans d30.fr λ_ _ y=>y) ?_ d30.own;rw[d30.rd,aiK,hx,Ho];rfl
 · -- all have come
  obtain⟨I,f,on,q,ix,p,ex,eq,ri,wi,rp,wp,rx,wx,e1,e2⟩:=J;rw[hm]at eq e1 e2;have:q=0:=oX;subst this;have e0:(aG T (af n) R m 0).2=0:=by rw[e2];rfl
  have ep:dZ s (aG T (af n) R m 0).1 (R.getD 2 0/512,-1,false)=(ix,p,ex):=e1;rw[if_neg (λy=>y e0),ep]at Mn;exact fin hh 0 f on I (λy=>absurd rfl y) λ_=>⟨ix,p,ex,ri,rp,rx,R0,R1,Mn⟩
 · -- an index that Zq not read
  obtain⟨I,f,on,q,ix,p,ex,eq,ri,wi,rp,wp,rx,wx,e1,e2⟩:=J;rw[hm]at hk;obtain⟨q,rfl⟩:∃q',q=q'+1:=⟨q-1,oX⟩;have zf:=f.size
  have ee:(aG T (af n) R m 0).2=(ay T (af n) R k).2:=by
   rw[e2];unfold aG;rw[if_pos he]
  rw[if_pos (by rw[ee];exact he),ee]at Mn;have A:It h' F t d T (af n) i R (ay T (af n) R k).2 [] jk.size bG.size:=⟨I.gl.fr f' λb hb y=>oX,I.x.fr f' λb hb y=>by have:=xl b hb;omega,(f'.rd I.clt oX).trans I.cap,o',r',I.nf,I.b1,I.ne⟩;exact fin h' _ (f.trans f' λb _ y=>.inl y) (gH on f' oX) A (λ_=>Mn) λy=>absurd y he
end Di
namespace Ss
open Hp W Re Sk Ch
theorem Ka{lc:Nat}{la:OA}{L:LB}(s:Sl h 1 (some ⟨b,o,none⟩) l c (bs.map bv) F)(hl:l=512)(k0:0<=k)(k1:k<16)
  (S:Sl h 1 la 32 lc (L.map bv) (λx=>x≠b)) (hK:∀h',vz b h h' (put (rd h b) o ((kX bs (32*k.toNat) L).map bv))->K (.tuple #[]) h'):C.jj (some ⟨b,o,none⟩) l c k la 32 lc h K:=by
 have rM:=s.1;have hL:=S.1;rw[aP]at rM hL;obtain⟨w,wl⟩:=s.wr;refine jj.ok ⟨λi hh=>0<=i/\i<=32/\vz b h hh (put (rd h b) (o+32*k.toNat) ((L.take i.toNat).map bv)),λi _=>((32:Nat)-i).toNat,⟨oX,oX,Fr.refl _ _,w,rfl⟩,?_⟩;rintro i h2 ⟨i0,i1,d2⟩;refine cd (λhi=>?_) λhi=>?_
 ·have hi:i<32:=hi;have tK:i.toNat<L.length:=oX;have S2:=S.fr d2.fr λb _ hb e=>hb e;obtain⟨p,rfl,cL⟩:=tx S2.str tK;rw[wq (32*k),wq (32*k+i),wq (i+1)];refine⟨⟨i0,oX⟩,os ⟨_,cL,⟨oX,oX⟩,os (bD.add d2.own (by rw[d2.rd,dQ];omega) λh3 d3=>⟨⟨oX,oX,d2.fr.did d3 (λ_=>rfl),d3.own,?_⟩,bW (m:=32) hi⟩)⟩⟩;have lt:(L.take i.toNat).length=i.toNat:=by rw[dL];omega
  rw[d3.rd,d2.rd,show(i+1).toNat=i.toNat+1 by omega,jJ tK,eT,BV,rv,aP,lt,show o+(32*k+i).toNat=o+32*k.toNat+i.toNat by omega];rfl
 ·have hi:¬i<32:=hi;rw[gL oX]at d2;rw[<-LJ s oX]at hK;exact hK h2 d2
theorem N'{e:E}(s:Sl h 1 (some ⟨b,o,none⟩) l c (bs.map bv) F)
  (hK:∀h',vz b h h' (put (rd h b) o ((gP bs e).2.map bv))->K (vI (gP bs e).1) h'):C.gU (some ⟨b,o,none⟩) l c (E.v e) h K:=by
 have rM:=s.1;rw[aP,ph]at rM;obtain⟨w,wl⟩:=s.wr;have hbs:=w.lt;refine gU.ok (aC.intro λh2 n2=>?_);have r2:=n2.rd;have o2:=n2.own;have f2:=n2.fr;have DQ:=n2.size
 have no:∀h' m,Fr No h h'->gP bs e=(m,bs)->K (vI m) h':=by
  intro h' m f ee;have:=hK h';rw[ee]at this;exact this (CC s f)
 refine cn (λhl=>no h2 32 f2 (by rw[gP,if_pos oX])) λhl=>?_;have bad:∀h',Fr No h h'->qB e=false->K (vI 140) h':=λh' f ee=>no h' 140 f (by rw[gP,if_neg oX,ee];rfl)
 refine⟨e.place,dC r2 rfl,cd (λx=>bad h2 f2 (by rw[qB,decide_eq_false oX];rfl)) λx1=>⟨e.place,dC r2 rfl,cd (λx=>bad h2 f2 (by rw[qB,decide_eq_true oX,decide_eq_false oX];rfl)) λx2=>
  ⟨e.inode,dC r2 rfl,cd (λx=>bad h2 f2 (by rw[qB,decide_eq_true oX,decide_eq_true oX,decide_eq_false oX];rfl)) λx3=>⟨e.inode,dC r2 rfl,cd (λx=>bad h2 f2 (by rw[qB,decide_eq_true oX,decide_eq_true oX,decide_eq_true oX,decide_eq_false oX];rfl)) λx4=>
  ⟨mkStr e.name,dC r2 rfl,oZ ⟨_,rfl,iu ?_⟩⟩⟩⟩⟩⟩
 cases hn:cm e.name with
 | false=>exact bad h2 f2 (by rw[qB,hn,yH])
 | true=>
  have ok:qB e=true:=by rw[qB,decide_eq_true oX,decide_eq_true oX,decide_eq_true oX,decide_eq_true oX,hn];rfl
  obtain⟨p0,p1,i0,i1,_,gd⟩:=Bi ok;have ea:gP bs e=(0,kX bs (32*e.place.toNat) (form e.inode.toNat e.name)):=by rw[gP,if_neg oX,if_pos ok]
  rw[ea]at hK;refine ct rfl ⟨e.inode,dC r2 rfl,mkStr e.name,dC r2 rfl,J9 gd oX λh5 f5 s5=>⟨_,_,_,rfl,?_⟩⟩;have f25:=f2.no f5;have r5:rd h5 h.size=E.v e:=(f5.rd o2.lt λx=>x).trans r2;refine⟨e.place,dC r5 rfl,Ka (s.fr f25 λ_ _ _ x=>x) oX p0 p1 (s5.mono λx hx=>oX) λh6 d6=>⟨rfl,hK h6 ⟨?_,d6.own,?_⟩⟩⟩
  ·exact(f25.mono λ_ _ x=>x.elim).trans d6.fr λ_ _ x=>x
  ·rw[d6.rd,f25.rd hbs λx=>x]
theorem ID(s:Sl h 1 (some ⟨b,o,none⟩) l c (bs.map bv) F)
  (hK:∀h',vz b h h' (put (rd h b) o ((rH bs k).2.map bv))->K (vI (rH bs k).1) h'):C.iF (some ⟨b,o,none⟩) l c k h K:=by
 have rM:=s.1;rw[aP,ph]at rM;obtain⟨w,wl⟩:=s.wr;have hbs:=w.lt
 have no:∀m,rH bs k=(m,bs)->K (vI m) h:=by
  intro m ee;have:=hK h;rw[ee]at this;exact this (CC s (Fr.refl _ _))
 refine iF.ok (cn (λhl=>no 32 (by rw[rH,if_pos oX])) λhl=>cd (λx=>no 140 (by rw[rH,if_neg oX,if_neg oX])) λx1=>cd (λx=>no 140 (by rw[rH,if_neg oX,if_neg oX])) λx2=>⟨⟨oX,oX,oX,oX⟩,aC.intro λh2 n2=>?_⟩);have ea:rH bs k=(0,kX bs (32*k.toNat) (List.replicate 32 0)):=by rw[rH,if_neg oX,if_pos oX]
 rw[ea]at hK
 have z2:Sl h2 1 (some (bA h)) 32 32 ((List.replicate 32 (0:UInt8)).map bv) (λx=>x≠b):=by
  refine Sl.made (zs:=[]) n2 ?_ oX (by rw[aP,dU]) (bE _) rfl;rw[gi];exact J8 32
 refine Ka (s.fr n2.fr λ_ _ _ x=>x) oX oX oX z2 λh3 d3=>⟨rfl,hK h3 ⟨?_,d3.own,?_⟩⟩
 ·exact(n2.fr.mono λ_ _ x=>x.elim).trans d3.fr λ_ _ x=>x
 ·rw[d3.rd,n2.at_ hbs]
theorem Sl.below{ec:Nat}(s:Sl h ec a l c xs F):Sl h ec a l c xs (λx=>F x/\x<h.size):=by
 obtain⟨h1,h2⟩:=s;refine⟨h1,?_⟩
 cases a with
 | none=>exact h2
 | some p=>obtain⟨a1,a2,a3,a4⟩:=h2;exact⟨a1,⟨a2,a3.lt⟩,a3,a4⟩
end Ss
section
open Go
theorem HB{P:Program}{f:FuncId}{fn:Func}{s:ChangeSpec}{c:OpenClaim}
  (h1:c.wf (OpenSpec.ofChange s)=true) (h2:laidOutB P=true) (h3:mapsRowed P=true)
  (h4:(fn.params.all (P.readableRec ·) && namedTie P c.named s.vars && (c.stops == []) && (P.stops == []) && (c.knobs == []) && (P.stopKnobs == []))=true)
  (h5:(c.inPlace==P.inPlace f)=true) (h6:P.unfollowed f=true) (h6':c.unfollowed=true) (h6'':c.recurses=true) (h7:(c.named==P.varsNamed f)=true)
  (h8:((c.maps==(fn.params.toList++s.plain.varTypes P).any (P.mapsRec ·)) && (c.ifaces==(fn.params.toList++s.plain.varTypes P).any (P.ifacesRec ·)) && (c.mapsOut==P.mapsAmong fn.resultTypes.toList) &&
 (c.loops==(fn.params.toList++s.plain.varTypes P).any (P.loopsFrom ·)) && (c.wideKeys==(fn.params.toList++s.plain.varTypes P++fn.resultTypes.toList).any (P.wideKeysFrom ·)) &&
 s.vars.all (P.varReadable ·) && fn.resultTypes.all (λt=>P.readableRec t && decide (t<P.types.size)) && (c.ifacesOut==fn.resultTypes.toList.any (P.ifacesRec ·)) && (c.loopsOut==fn.resultTypes.toList.any (P.loopsFrom ·)))=true)
  (h9:(c.plainKeys==P.plainKeys)=true)
  (bG:(c.shortTexts.isNone && P.stopsHeard && P.mayEnter && (c.lifted==P.liftsFinal) && (P.make==some c.make) && (c.kinds==(if c.domain.isEmpty then[]else fn.params.toList.map λt=>match P.underlying t with|some (.int k)=>some k|_=>none)) && (c.pinned==c.pinnedBy))=true)
  (cu:((c.veiled==(fn.params.toList++s.plain.varTypes P++fn.resultTypes.toList).any (P.veiledRec ·)) && c.veiledFits P fn.params.toList (fn.params.toList++s.plain.varTypes P++fn.resultTypes.toList))=true) :
  joinedFacts P f fn s c=true:=by
 have r:P.recurses f=true:=by unfold Program.recurses;rw[h6];rfl
 simp only[dB]at h4 h8 bG cu;obtain⟨⟨⟨⟨⟨a1,a2⟩,a3⟩,a4⟩,a5⟩,a6⟩:=h4;obtain⟨⟨⟨⟨⟨⟨⟨⟨b1,b2⟩,b3⟩,b4⟩,b5⟩,b6⟩,b7⟩,b8⟩,b9⟩:=h8;obtain⟨⟨⟨⟨⟨⟨c1,c2⟩,c3⟩,c4⟩,c5⟩,c6⟩,c7⟩:=bG;obtain⟨d1,d2⟩:=cu;simp only[joinedFacts,dB];have e1:(c.unfollowed==P.unfollowed f)=true:=by rw[h6,h6'];rfl
 have e2:(c.recurses==P.recurses f)=true:=by rw[r,h6''];rfl
 exact⟨⟨⟨⟨⟨⟨⟨⟨⟨⟨⟨⟨⟨⟨⟨⟨⟨⟨⟨⟨⟨⟨⟨⟨⟨⟨⟨⟨⟨⟨⟨h1,h2⟩,h3⟩,a1⟩,a2⟩,a3⟩,a4⟩,a5⟩,a6⟩,h5⟩,e1⟩,e2⟩,h7⟩,b1⟩,b2⟩,b3⟩,b4⟩,b5⟩,b6⟩,b7⟩,b8⟩,b9⟩,h9⟩,c1⟩,c2⟩,c3⟩,c4⟩,c5⟩,c6⟩,c7⟩,d1⟩,d2⟩
end
end Go.Proofs.YtlbckoblcdoceaaGreatDoor
