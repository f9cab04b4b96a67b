/- filePlays_card -/
import Derived.Shelf.Spec.BuilderWrite
import Derived.Ground.NamesProg
import Derived.Test.YtjdcbblgaoogmaaGreatDoorGp5
namespace Go.Proofs.YtjdcbblgaoogmaaGreatDoor
open Go Go.Proofs Wx
variable{h h' h3 hh h0 h2 h1:ad}{F F' Q0:NP}{K:KT}{a hi k e from_ tab m size:Int}{l c b cb i j sl sc tb gb pb ob mb u lim w ub eb off:Nat}{bs:LB}{R R':List Int}{t d sa r:OA}{xs:LV}{dv:Value}
namespace In
open Hp W Su Re Hd
structure kJ(h:ad):Prop where
 wide:L4 h
theorem kJ.fr{h h':ad}{F:NP}(g:kJ h)(f:Fr F h h')(h1:∀ b,b<1->¬ F b):kJ h':=⟨g.wide.fr f (h1 _ (by decide))⟩
theorem kJ.no(g:kJ h)(f:Fr No h h'):kJ h':=g.fr f λ_ _ x=>x
theorem kJ.lt{h:ad}(g:kJ h):1<=h.size:=by have:=g.wide.lt;omega
theorem rF{n:Int}(g:kJ h)(hn:n=1∨n=2∨n=4∨n=8)(hK:K (.bool true) h):C.jA n h K:=by
 refine jA.ok (ct (decide_eq_true (by omega)) (ct (decide_eq_true (by omega)) ⟨⟨by omega,by omega⟩,true,bJ g.wide ?_,hK⟩))
 rcases hn with rfl|rfl|rfl|rfl <;> rfl
theorem Tu{a:OA}{at_ n:Int}(g:kJ h)(B:aw h a l bs)(hl:l<=140737488355328)(hn:n=1∨n=2∨n=4∨n=8)(h0:0<=at_)(h2:at_+n<=l)
  (hK:K (.tuple #[.int .u64 (AE ((bs.drop at_.toNat).take n.toNat)),vI 0]) h):C.rE a l c at_ n h K:=by
 have hb:=B.1;refine rE.ok (rF g hn ⟨_,rfl,jV (ct rfl (v7 hl h0 (by omega) h2 ⟨_,rfl,jV (ct rfl ?_)⟩))⟩);have hlen:∀k:Nat,(k:Int)<=n->((bs.drop at_.toNat).take k).length=k:=λk hk=>by rw[lT0,lD0];omega
 refine⟨λv k hh=>0<=k/\k<=n/\h=hh/\v=(AE ((bs.drop at_.toNat).take k.toNat):Nat),λ_ k _=>(n-k).toNat,⟨by omega,by omega,rfl,rfl⟩,?_⟩;rintro v k _ ⟨k0,k1,rfl,rfl⟩;refine cd (λhk=>?_) λhk=>?_
 ·rw[wq (at_+k)];obtain⟨_,B2⟩:=B;have hi:at_.toNat+k.toNat<bs.length:=by omega
  cases a with
  | none=>have B2:bs.map bv=[]:=B2;have:=List.map_eq_nil_iff.mp B2;rw[this]at hi;exact absurd hi (by simp)
  | some p=>
   refine⟨⟨by omega,by omega⟩,os ⟨_,B2 (at_+k).toNat (bv bs[at_.toNat+k.toNat]) (by rw[show(at_+k).toNat=at_.toNat+k.toNat by omega,lG0,List.getElem?_eq_getElem hi];rfl),?_⟩⟩;have w8:wI (8*k)=8*k:=wrap_i64 (by omega) (by omega);rw[if_neg (by rw[w8];omega),wq (k+1)];have hlk:=hlen k.toNat (by omega);have bK:=H5 ((bs.drop at_.toNat).take k.toNat);rw[hlk]at bK;have eo:=V1 (v:=AE ((bs.drop at_.toNat).take k.toNat)) (b:=bs[at_.toNat+k.toNat]) (k:=k.toNat) (by omega) bK;rw[show((k.toNat:Nat):Int)=k by omega]at eo;rw[eo];refine⟨⟨by omega,by omega,rfl,?_⟩,by show(n-(k+1)).toNat<(n-k).toNat;omega⟩;have SL:k.toNat<(bs.drop at_.toNat).length:=(by rw[lD0];omega);rw[show(k+1).toNat=k.toNat+1 by omega,List.take_succ_eq_append_getElem SL,JQ,hlk,List.getElem_drop]
 ·have:k=n:=by omega
  subst this;exact hK
theorem GX{o:Nat}{at_ n:Int}{v:Nat}(g:kJ h)(s:Sl h 1 (some ⟨b,o,none⟩) l c (bs.map bv) F)(hl:l<=140737488355328)(hn:n=1∨n=2∨n=4)(h0:0<=at_)(h2:at_+n<=l)
  (hv:v<256 ^ n.toNat) (hK:∀h',Fr (λx=>x=b) h h'->Sl h' 1 (some ⟨b,o,none⟩) l c ((iH bs at_.toNat (br n.toNat v)).map bv) F->K (vI 0) h'):C.jQ (some ⟨b,o,none⟩) l c at_ n (v:Int) h K:=by
 have sf:=s.1;rw[lM0,Nat.mul_one]at sf;refine jQ.ok (rF g (by omega) ⟨_,rfl,jV (ct rfl (ct (decide_eq_true (by omega)) ?_))⟩);have w8:wI (8*n)=8*n:=wrap_i64 (by omega) (by omega);rw[if_neg (by rw[w8];omega)]
 have hz:Int.fdiv (v:Int) (2 ^ min (Int.toNat (wI (8*n))) 64)=0:=by
  rw[w8,show min (Int.toNat (8*n)) 64=8*n.toNat by omega]
  have e:Int.fdiv (v:Int) (2 ^ (8*n.toNat))=((v/256 ^ n.toNat:Nat):Int):=by
   rw[wS,Int.fdiv_eq_ediv_of_nonneg _ (by exact Int.le_of_lt (Int.pow_pos (by decide)))];simp
  rw[e,Nat.div_eq_of_lt hv];rfl
 refine cf (by rw[hz];rfl) (v7 hl h0 (by omega) h2 ⟨_,rfl,jV (ct rfl ?_)⟩);have hlB:=bB n.toNat v;refine⟨λk hh=>0<=k/\k<=n/\Fr (λx=>x=b) h hh/\Sl hh 1 (some ⟨b,o,none⟩) l c ((iH bs at_.toNat ((br n.toNat v).take k.toNat)).map bv) F,λk _=>(n-k).toNat,⟨by omega,by omega,Fr.refl _ _,by rw[show(0:Int).toNat=0 from rfl,List.take_zero,Dy];exact s⟩,?_⟩;rintro k h4 ⟨k0,k1,f4,s4⟩;refine cd (λhk=>?_) λhk=>?_
 ·rw[if_neg (by rw[wrap_i64 (by omega) (by omega)];omega),wq (at_+k)];obtain⟨w1,w2⟩:=s4.wr;refine⟨⟨by omega,by omega⟩,os (aO.add w1 (by omega) λh5 d5=>?_)⟩;have hkB:k.toNat<(br n.toNat v).length:=by omega
  have eb:=N4 v k.toNat (by omega);rw[show((k.toNat:Nat):Int)=k by omega]at eb;rw[eb]at d5;have s5:=s4.putAt (j:=(at_+k).toNat) (new:=[_]) (by rw[List.length_singleton];omega) d5;rw[wq (k+1)];refine⟨⟨by omega,by omega,f4.did d5 (λ_=>rfl),?_⟩,by show(n-(k+1)).toNat<(n-k).toNat;omega⟩;have π:((br n.toNat v).take k.toNat).length=k.toNat:=by rw[lT0];omega
  have ee:(br n.toNat v)[k.toNat]=UInt8.ofNat (v/256 ^ k.toNat):=by simp only[br,List.getElem_map,List.getElem_range]
  have ep:put ((iH bs at_.toNat ((br n.toNat v).take k.toNat)).map bv) (at_+k).toNat [bv (UInt8.ofNat (v/256 ^ k.toNat))]=(iH bs at_.toNat ((br n.toNat v).take (k+1).toNat)).map bv:=by
   rw[<-qD (by rw[π];omega),<-qD (by rw[lT0];omega),show(k+1).toNat=k.toNat+1 by omega,List.take_succ_eq_append_getElem hkB,List.map_append,List.map_singleton,ee]
   have:∀(ys:LV) (X:LV) (o:Nat) (y:Value),put X o (ys++[y])=(put X o ys).set (o+ys.length) y:=by
    intro ys
    induction ys with
    | nil=>intro X o y;rfl
    | cons v r ih=>
     intro X o y;show put (X.set o v) (o+1) (r++[y])=_;rw[ih,List.length_cons,show o+1+r.length=o+(r.length+1) by omega];rfl
   rw[this,lM0,π,show(at_+k).toNat=at_.toNat+k.toNat by omega];rfl
  rw[ep]at s5;exact s5
 ·have:k=n:=by omega
  subst this;rw[List.take_of_length_le (by omega)]at s4;exact hK h4 f4 s4
theorem zL : ∀xs ys:List Int,dw (ints xs) (ints ys)=decide (xs=ys)
 | [],[]=>rfl
 | [],y::r=>rfl
 | x::r,[]=>rfl
 | x::r,y::s=>by
  show((x==y) && dw (ints r) (ints s))=_;rw[zL r s,Bool.eq_iff_iff,Bool.and_eq_true,beq_iff_eq,decide_eq_true_eq,decide_eq_true_eq,List.cons.injEq]
theorem aA(ns:List Int):∀v∈ints ns,v.oneCell'=true:=by
 intro v hv;obtain⟨n,_,rfl⟩:=List.mem_map.mp hv;rfl
theorem af(ns:List Int):(ints ns).length=ns.length:=List.length_map ..
theorem kZ{v lo:Int}(hK:K (.bool (decide (lo<=v) && decide (v<=hi))) h):C.eJ v lo hi h K:=by
 refine eJ.ok (cd (λx=>?_) λx=>?_)
 ·rw[decide_eq_true (by omega)]at hK;exact hK
 ·rw[decide_eq_false (by omega)]at hK;exact hK
theorem pJ(hR:R.length=15)(hK:∀ h',Fr No h h'->K (.agg ⟨ints (R.drop 3)⟩) h'):C.jC (ints R) h K:=by
 match R,hR with
 | [k,l,s,d0,d1,d2,d3,d4,d5,d6,d7,d8,d9,x,y],_=>
  refine jC.ok (az.intro λh2 n2=>az.intro λh3 n3=>az.intro λh4 n4=>?_);have s2:=n2.size;have s3:=n3.size;have s4:=n4.size;have r4:rd h4 h.size=ints [k,l,s,d0,d1,d2,d3,d4,d5,d6,d7,d8,d9,x,y]:=(n4.at_).trans ((n3.at_).trans n2.rd);refine rP.intro (new:=ints [d0,d1,d2,d3,d4,d5,d6,d7,d8,d9]) rfl (show aj h4 _ _ from uF r4 rfl) (aA _) n4.own (by rw[n4.rd];show 10<=12;omega) λh5 q5=>?_;have r5:rd h5 h3.size=ints [d0,d1,d2,d3,d4,d5,d6,d7,d8,d9,0,0]:=q5.rd.trans (by rw[n4.rd];rfl);have r5x:=(q5.at_ (c:=h.size) (by omega) (by omega)).trans r4;refine⟨x,bJ r5x rfl,y,bJ r5x rfl,⟨by omega,by omega⟩,aO.add q5.own (by rw[r5];show 0+10<12;omega) λh6 q6=>⟨⟨by omega,by omega⟩,aO.add q6.own (by rw[q6.rd,r5];show 0+11<12;omega) λh7 q7=>?_⟩⟩;have r7:rd h7 h3.size=ints [d0,d1,d2,d3,d4,d5,d6,d7,d8,d9,x,y]:=q7.rd.trans (by rw[q6.rd,r5];rfl);have w2:dJ h7 h2.size:=q7.ow (q6.ow (q5.ow (n4.ow n3.own)))
  have e2:(rd h7 h2.size).length=12:=by
   rw[q7.at_ (by have:=q6.size;have:=q5.size;omega) (by omega),q6.at_ (by have:=q5.size;omega) (by omega),q5.at_ (by omega) (by omega),n4.at_,n3.rd];rfl
  refine⟨_,rfl,ah r7,ax.intro w2 rfl (aA _) (by rw[e2];omega) λh8 q8=>⟨ints [d0,d1,d2,d3,d4,d5,d6,d7,d8,d9,x,y],rfl,ah ?_,hK h8 ?_⟩⟩
  ·rw[q8.rd,dC _ _ (by rw[e2];rfl)]
  ·exact(((((n2.fr.new n3).new n4).did q5 λ_=>by omega).did q6 λ_=>by omega).did q7 λ_=>by omega).did q8 λ_=>by omega
theorem zM{S:List Int}(hR:R.length=15)(hS:S.length=15):du [(.int .i64),(.int .i64),(.int .i64),(.int .i64),(.int .i64),(.int .i64),(.int .i64),(.int .i64),(.int .i64),(.int .i64),(.int .i64),(.int .i64),(.int .i64),(.int .i64),(.int .i64)] (ints R) (ints S)=true:=by
 match R,hR,S,hS with
 | [_,_,_,_,_,_,_,_,_,_,_,_,_,_,_],_,[_,_,_,_,_,_,_,_,_,_,_,_,_,_,_],_=>rfl
theorem gW(r:rd h b=ints R){i:Nat}(hi:i<R.length):cellOf h (Addr.add ⟨b,0,none⟩ i)=some (vI (R.getD i 0)):=by
 refine bJ r ?_;rw[Nat.zero_add,ints,lG0,List.getD_eq_getElem?_getD,List.getElem?_eq_getElem hi];rfl
theorem tS(hR:R.length=15)(hK:∀ h',Fr No h h'->K (.bool (oM R)) h'):C.pf (ints R) h K:=by
 refine pf.ok (az.intro λh2 n2=>⟨ints R,by rw[af,hR],ah n2.rd,pJ hR λh3 f3=>⟨_,rfl,?_⟩⟩);have s2:=n2.size;have F3:=n2.fr.no f3;have r3:rd h3 h.size=ints R:=(f3.rd n2.own.lt λx=>x).trans n2.rd;have ld:(R.drop 3).length=12:=by rw[lD0,hR]
 have hK:=hK h3 F3;refine⟨λn hh=>0<=n/\n<=12/\h3=hh/\((R.drop 3).take n.toNat).all nL=true,λn _=>((12:Nat)-n).toNat,⟨by omega,by omega,rfl,rfl⟩,?_⟩;rintro n _ ⟨n0,n1,rfl,q⟩;refine cd (λhn=>?_) λhn=>?_
 ·have hn:n<12:=hn;have hi:n.toNat<(R.drop 3).length:=by omega
  refine⟨⟨n0,hn⟩,(R.drop 3)[n.toNat],by rw[ints,lG0,List.getElem?_eq_getElem hi];rfl,kZ ⟨_,rfl,jV ?_⟩⟩
  cases hw:nL (R.drop 3)[n.toNat]with
  | false=>
   have:oM R=false:=by
    have e:(R.drop 3).all nL=false:=by
     cases e:(R.drop 3).all nL with
     | false=>rfl
     | true=>have:=List.all_eq_true.mp e _ (List.getElem_mem hi);rw[hw]at this;cases this
    rw[oM,e];rfl
   rw[this]at hK;exact cf hw hK
  | true=>
   rw[wrap_i64 (by omega) (by omega)];refine ct hw ⟨⟨by omega,by omega,rfl,?_⟩,di (m:=12) hn⟩;rw[show(n+1).toNat=n.toNat+1 by omega,List.take_succ_eq_append_getElem hi,List.all_append,q,List.all_cons,hw];rfl
 ·have hn:¬n<12:=hn;rw[List.take_of_length_le (by omega)]at q;have em:oM R=kindOk (R.getD 0 0) (R.getD 1 0) (R.getD 2 0) R:=by rw[oM,q,Bool.true_and]
  rw[em]at hK;unfold kindOk at hK;refine⟨_,gW r3 (by omega),ce (λh0=>?_) λh0=>?_⟩
  ·rw[if_pos h0]at hK;refine⟨ints R,by rw[af,hR],ah r3,zM hR (S:=kS) List.length_replicate,?_⟩;rw[show(gv:LV)=ints kS from rfl,zL];exact hK
  ·rw[if_neg h0]at hK;refine ce (λh1=>?_) λh1=>?_
   ·rw[if_pos h1]at hK;refine⟨_,gW r3 (by omega),kZ ⟨_,rfl,?_⟩⟩
    cases hb:(decide (0<=R.getD 1 0) && decide (R.getD 1 0<=1000))with
    | false=>rw[hb]at hK;exact hK
    | true=>rw[hb]at hK;exact⟨_,gW r3 (by omega),kZ ⟨_,rfl,hK⟩⟩
   ·rw[if_neg h1]at hK;refine ce (λtP=>?_) λtP=>?_
    ·rw[if_pos tP]at hK;refine⟨_,gW r3 (by omega),kZ ⟨_,rfl,?_⟩⟩
     cases hb:(decide (2<=R.getD 1 0) && decide (R.getD 1 0<=65535))with
     | false=>rw[hb]at hK;exact hK
     | true=>
      rw[hb,Bool.true_and]at hK;refine⟨_,gW r3 (by omega),kZ ⟨_,rfl,?_⟩⟩
      cases hc:(decide (0<=R.getD 2 0) && decide (R.getD 2 0<=8459264))with
      | false=>rw[hc]at hK;exact hK
      | true=>
       rw[hc,Bool.true_and]at hK;rw[Bool.and_eq_true,decide_eq_true_eq]at hc;refine⟨_,gW r3 (by omega),?_⟩;have e:(Int.tmod (R.getD 2 0) 512==0)=decide (R.getD 2 0%512=0):=(by rw[Int.tmod_eq_emod_of_nonneg hc.1];rfl);rw[e];exact hK
    ·rw[if_neg tP]at hK;refine ce (λHE=>?_) λHE=>?_
     ·rw[if_pos HE]at hK;refine⟨_,gW r3 (by omega),kZ ⟨_,rfl,?_⟩⟩
      cases hb:(decide (1<=R.getD 1 0) && decide (R.getD 1 0<=1000))with
      | false=>rw[hb]at hK;exact hK
      | true=>rw[hb]at hK;exact⟨_,gW r3 (by omega),kZ ⟨_,rfl,hK⟩⟩
     ·rw[if_neg HE]at hK;exact hK
theorem CC(v:Nat):br 1 v=[UInt8.ofNat v]:=by rw[wh];rfl
theorem Ox(v:Nat):br 2 v=[UInt8.ofNat v,UInt8.ofNat (v/256)]:=by rw[wh,CC]
theorem Ky(v:Nat):br 4 v=[UInt8.ofNat v,UInt8.ofNat (v/256),UInt8.ofNat (v/256/256),UInt8.ofNat (v/256/256/256)]:=by rw[wh,wh,Ox]
theorem enc3(k l s:Nat):iH (iH (iH (aL 64) 0 (br 1 k)) 2 (br 2 l)) 4 (br 4 s)=(br 1 k++([0]++(br 2 l++br 4 s)))++aL 56:=by
 rw[CC,Ox,Ky];rfl
theorem Kz(g:kJ h)(hR:R.length=15)(hN:oM R=false->∀ h',Fr No h h'->K (.tuple #[vS none 0 0,vI 111]) h')
  (hK:oM R=true->∀b h',Fr No h h'->h.size<=b->Sl h' 1 (some ⟨b,0,none⟩) 64 64 ((lP R).map bv) (λx=>x=b)->K (.tuple #[vS (some ⟨b,0,none⟩) 64 64,vI 0]) h'):C.ly (ints R) h K:=by
 have hg:=g.lt;refine ly.ok (az.intro λh2 n2=>⟨ints R,by rw[af,hR],ah n2.rd,tS hR λh3 f3=>⟨_,rfl,jV ?_⟩⟩);have s2:=n2.size;have s3:=f3.size;have F3:=n2.fr.no f3;have r3:rd h3 h.size=ints R:=(f3.rd n2.own.lt λx=>x).trans n2.rd
 cases hm:oM R with
 | false=>exact hN hm h3 F3
 | true=>
  have hK:=hK hm;obtain⟨k0,k1,l0,l1,z0,z1,hw⟩:=wz hR hm;refine ct rfl ⟨⟨by omega,by omega,by omega,by omega⟩,az.intro λh4 n4=>?_⟩;have s4:=n4.size;have r4:rd h4 h.size=ints R:=(n4.at_).trans r3
  have b4:Sl h4 1 (some (bA h3)) 64 64 ((aL 64).map bv) (λx=>x=h3.size):=
   Sl.made (zs:=[]) n4 (by rw[List.append_nil];rfl) rfl (by rw[lM0,eM]) nL0 rfl
  have w:∀n:Int,0<=n->n<=4294967295->IntKind.wrap .u64 n=((n.toNat:Nat):Int):=λn a b=>by rw[wrap_u64 a (by omega),Int.toNat_of_nonneg a]
  have dp:h.size≠h3.size:=by omega
  refine⟨_,gW r4 (by omega),?_⟩;rw[w _ k0 (by omega)];refine GX (g.no (F3.new n4)) b4 (by omega) (by omega) (by omega) (by omega) (by show(R.getD 0 0).toNat<256 ^ 1;omega) λh5 f5 b5=>⟨_,rfl,?_⟩;have s5:=f5.size;have g5:kJ h5:=(g.no (F3.new n4)).fr f5 λb hb e=>by omega
  have r5:rd h5 h.size=ints R:=(f5.rd (by omega) dp).trans r4;refine⟨_,gW r5 (by omega),?_⟩;rw[w _ l0 (by omega)];refine GX g5 b5 (by omega) (by omega) (by omega) (by omega) (by show(R.getD 1 0).toNat<256 ^ 2;omega) λh6 f6 b6=>⟨_,rfl,?_⟩;have s6:=f6.size;have g6:kJ h6:=g5.fr f6 λb hb e=>by omega
  have r6:rd h6 h.size=ints R:=(f6.rd (by omega) dp).trans r5;refine⟨_,gW r6 (by omega),?_⟩;rw[w _ z0 (by omega)];refine GX g6 b6 (by omega) (by omega) (by omega) (by omega) (by show(R.getD 2 0).toNat<256 ^ 4;omega) λh7 f7 b7=>⟨_,rfl,?_⟩;have s7:=f7.size;have g7:kJ h7:=g6.fr f7 λb hb e=>by omega
  have r7:rd h7 h.size=ints R:=(f7.rd (by omega) dp).trans r6;have b7:Sl h7 1 (some (bA h3)) 64 64 (((br 1 (R.getD 0 0).toNat++([0]++(br 2 (R.getD 1 0).toNat++br 4 (R.getD 2 0).toNat)))++aL 56).map bv) (λx=>x=h3.size):=by rw[<-enc3];exact b7
  refine⟨ints R,by rw[af,hR],ah r7,pJ hR λh8 f8=>⟨_,rfl,?_⟩⟩;have s8:=f8.size;have b8:=b7.fr f8 λ_ _ _ x=>x;have F8:Fr No h h8:=((((F3.new n4).trans f5 λb hb e=>by omega).trans f6 λb hb e=>by omega).trans f7 λb hb e=>by omega).no f8;have ld:(R.drop 3).length=12:=by rw[lD0,hR]
  generalize hH:br 1 (R.getD 0 0).toNat++([0]++(br 2 (R.getD 1 0).toNat++br 4 (R.getD 2 0).toNat))=H at b8;have lH:H.length=8:=by rw[<-hH];simp only[lA0,bB,List.length_singleton]
  refine⟨λn hh=>0<=n/\n<=12/\Fr No h hh/\h3.size<hh.size/\Sl hh 1 (some (bA h3)) 64 64 ((H++bW ((R.drop 3).take n.toNat)++aL (56-4*n.toNat)).map bv) (λx=>x=h3.size),λn _=>((12:Nat)-n).toNat,
   ⟨by omega,by omega,F8,by omega,by rw[show(0:Int).toNat=0 from rfl,List.take_zero];show Sl h8 1 _ 64 64 ((H++[]++aL 56).map bv) _;rw[List.append_nil];exact b8⟩,?_⟩
  rintro n h9 ⟨n0,n1,F9,s9,b9⟩;refine cd (λhn=>?_) λhn=>?_
  ·have hn:n<12:=hn;have hi:n.toNat<(R.drop 3).length:=(by omega);have hx:=hw _ (List.getElem_mem hi);refine⟨⟨n0,hn⟩,(R.drop 3)[n.toNat],by rw[ints,lG0,List.getElem?_eq_getElem hi];rfl,?_⟩;rw[w _ hx.1 hx.2,wq (4*n),wq (8+4*n),wq (n+1)];refine GX (g.no F9) b9 (by omega) (by omega) (by omega) (by omega) (by show((R.drop 3)[n.toNat]).toNat<256 ^ 4;omega) λcB f10 b10=>⟨_,rfl,⟨by omega,by omega,F9.trans f10 (λb hb e=>by omega),by have:=f10.size;omega,?_⟩,di (m:=12) hn⟩;have lf:(bW ((R.drop 3).take n.toNat)).length=4*n.toNat:=by rw[ji,lT0];omega
   have e1:H++bW ((R.drop 3).take n.toNat)++aL (56-4*n.toNat)=(H++bW ((R.drop 3).take n.toNat))++aL 4++aL (56-4*(n+1).toNat):=by
    rw[List.append_assoc (H++_),<-rM];congr 2;omega
   have e2:(8+4*n).toNat=(H++bW ((R.drop 3).take n.toNat)).length:=(by rw[lA0,lH,lf];omega);rw[e1,e2,v8 _ _ _ _ (by rw[bB,eM];rfl)]at b10
   have e3:bW ((R.drop 3).take (n+1).toNat)=bW ((R.drop 3).take n.toNat)++br 4 ((R.drop 3)[n.toNat]).toNat:=by
    rw[show(n+1).toNat=n.toNat+1 by omega,List.take_succ_eq_append_getElem hi,bW,List.flatMap_append];show _++(br 4 _++[])=_;rw[List.append_nil,bW]
   rw[e3,<-List.append_assoc];exact b10
  ·have hn:¬n<12:=hn;have en:n.toNat=12:=(by omega);rw[en,List.take_of_length_le (by omega)]at b9;refine hK h3.size h9 F9 (by omega) ?_
   have ee:lP R=H++bW (R.drop 3)++aL (56-4*12):=by
    rw[lP,<-hH];simp only[List.append_assoc]
   rw[ee];exact b9
theorem tX{a:OA}{at_ n:Int}(g:kJ h)(B:aw h a l bs)(hl:l<=140737488355328)(r:rd h cb=[vS a l c])(hn:n=1∨n=2∨n=4)(h0:0<=at_)(h2:at_+n<=l)
  (hK:K (vI (jO bs at_.toNat n.toNat:Nat)) h):C.cK at_ n (some ⟨cb,0,none⟩) h K:=by
 have lt:=Sq bs at_.toNat n.toNat
 have lt:jO bs at_.toNat n.toNat<4294967296:=by
  rcases hn with rfl|rfl|rfl
  ·exact Nat.lt_of_lt_of_le lt (by show 256 ^ 1<=_;decide)
  ·exact Nat.lt_of_lt_of_le lt (by show 256 ^ 2<=_;decide)
  ·exact lt
 refine cK.ok ?_;unfold cK;refine os ⟨_,_,_,cI r rfl,Tu g B hl (by omega) h0 h2 ⟨_,_,rfl,?_⟩⟩;have e:AE ((bs.drop at_.toNat).take n.toNat)=jO bs at_.toNat n.toNat:=rfl;rw[e,wrap_i64 (by omega) (by omega)];exact hK
theorem nv{n:Int}(f:Fr No h3 h)(hb:h3.size<=b)(w:dJ h b)(hl:(rd h b).length=15)(hK:∀ h',Fr No h3 h'->K (.tuple #[.agg ⟨ints kS⟩,vI n]) h') :
  ax ⟨b,0,none⟩ gv 15 h λh4=>
   ∃bL:LV,List.length bL=15/\aj h4 ⟨b,0,none⟩ bL/\K (.tuple #[.agg ⟨bL⟩,vI n]) h4:=by
 refine ax.intro w rfl (aA kS) (by omega) λh4 d4=>⟨ints kS,rfl,ah ?_,hK h4 (f.did d4 λbK=>by omega)⟩;rw[d4.rd];exact dC _ _ (by rw[hl];rfl)
theorem YR{n:Int}(hR:R.length=15)(f:Fr No h3 h)(hb:h3.size<=b)(w:dJ h b)(hl:(rd h b).length=15)(r:rd h cb=ints R)(hK:∀ h',Fr No h3 h'->K (.tuple #[.agg ⟨ints R⟩,vI n]) h') :
  ∃cs:LV,List.length cs=15/\aj h ⟨cb,0,none⟩ cs/\ax ⟨b,0,none⟩ cs 15 h λh4=>∃bL:LV,List.length bL=15/\aj h4 ⟨b,0,none⟩ bL/\K (.tuple #[.agg ⟨bL⟩,vI n]) h4:=by
 have li:(ints R).length=15:=by rw[af,hR]
 refine⟨ints R,li,ah r,ax.intro w li (aA R) (by omega) λh4 d4=>⟨ints R,li,ah ?_,hK h4 (f.did d4 λbK=>by omega)⟩⟩;rw[d4.rd];exact dC _ _ (by rw[hl,li])
theorem KA{α:Type}(xs:List α)(z:α)(ys:List α)(m n:Nat)(hm:m<xs.length)(hn:0<n):(xs.take m++(List.replicate n z++ys)).set m xs[m]=xs.take (m+1)++(List.replicate (n-1) z++ys):=by
 have l:(xs.take m).length=m:=by rw[lT0];omega
 rw[List.set_append_right _ _ (by omega),l,Nat.sub_self,show n=(n-1)+1 by omega,List.replicate_succ,List.cons_append,List.set_cons_zero,List.take_succ_eq_append_getElem hm,List.append_assoc];rfl
theorem zN(bs:LB){i:Nat}(hi:i<12)(h:3+i<(kV bs).length):(kV bs)[3+i]=(jO bs (8+4*i) 4:Nat):=by
 simp only[kV];rw[List.getElem_append_right (by show 3<=3+i;omega)];simp only[List.length_cons,List.length_nil,Nat.reduceAdd,Nat.add_sub_cancel_left,List.getElem_map,List.getElem_range]
theorem KB{a:OA}(g:kJ h)(B:aw h a l bs)(IX:l<=c)(hK:∀ h',Fr No h h'->K (.tuple #[.agg ⟨ints (qL bs).1⟩,vI (qL bs).2]) h'):C.lA a l c h K:=by
 have hb:=B.1;refine lA.ok (az.intro λh2 n2=>az.intro λh3 n3=>?_);have s2:=n2.size;have s3:=n3.size;have F3:=n2.fr.new n3;have r3:rd h3 h.size=[vS a l c]:=(n3.at_).trans n2.rd;have w3:dJ h3 h2.size:=n3.own;have l3:(rd h3 h2.size).length=15:=by rw[n3.rd];rfl
 have g3:=g.no F3;have B3:=aw.fr F3 B λ_ _ x=>x;refine⟨_,_,_,cI r3 rfl,cn (λhl=>?_) λhl=>?_⟩
 ·have e:qL bs=(kS,32):=by rw[qL,if_pos (by omega)]
  rw[e]at hK;exact nv F3 (by omega) w3 l3 hK
 have hl:l=64:=by omega
 have aay:bs.length=64:=by omega
 have gg:∀{hq:ad} {K:KT} (at_ n:Int),Fr No h3 hq->(n=1∨n=2∨n=4)->0<=at_->at_+n<=64->K (vI (jO bs at_.toNat n.toNat:Nat)) hq->C.cK at_ n (some (bA h)) hq K:=λat_ n fq h1 h2 h4 hk=>
  tX (g3.no fq) (aw.fr fq B3 λ_ _ x=>x) (by omega) ((fq.rd (by omega) λx=>x).trans r3) h1 h2 (by omega) hk
 refine gg 0 1 (Fr.refl _ _) (by omega) (by omega) (by omega) ⟨_,rfl,gg 2 2 (Fr.refl _ _) (by omega) (by omega) (by omega) ⟨_,rfl,gg 4 4 (Fr.refl _ _) (by omega) (by omega) (by omega) ⟨_,rfl,gg 48 4 (Fr.refl _ _) (by omega) (by omega) (by omega) ⟨_,rfl,gg 52 4 (Fr.refl _ _) (by omega) (by omega) (by omega) ⟨_,rfl,?_⟩⟩⟩⟩⟩;have gl:=mT bs;have e11:([vI (jO bs (Int.toNat 0) (Int.toNat 1):Nat),vI (jO bs (Int.toNat 2) (Int.toNat 2):Nat),vI (jO bs (Int.toNat 4) (Int.toNat 4):Nat),vI 0,vI 0,vI 0,vI 0,vI 0,vI 0,vI 0,vI 0,vI 0,vI 0,vI (jO bs (Int.toNat 48) (Int.toNat 4):Nat),vI (jO bs (Int.toNat 52) (Int.toNat 4):Nat)]:LV)
   = ints ((kV bs).take 3++(List.replicate 10 0++(kV bs).drop 13)):=rfl
 rw[e11];refine aM.intro (by rw[af];rfl) (aA _) rfl λbQ n11=>?_;have Fc:=n11.size
 refine⟨λn hh=>0<=n/\n<=10/\Fr No h3 hh/\h3.size<hh.size/\dJ hh h3.size/\rd hh h3.size=ints ((kV bs).take (3+n.toNat)++(List.replicate (10-n.toNat) 0++(kV bs).drop 13)),λn _=>((10:Nat)-n).toNat,
  ⟨by omega,by omega,n11.fr,by omega,n11.own,n11.rd⟩,?_⟩
 rintro n cG ⟨n0,n1,f12,QJ,w12,Pg⟩
 have rl12:(rd cG h3.size).length=15:=by
  rw[Pg,af,lA0,lA0,lT0,List.length_replicate,lD0,gl];omega
 refine cd (λhn=>?_) λhn=>?_
 ·have hn:n<10:=hn;rw[wq (4*n),wq (8+4*n),wq (n+1)];refine gg (8+4*n) 4 f12 (by omega) (by omega) (by omega) ⟨_,rfl,⟨n0,hn⟩,?_⟩;rw[bm];refine aO.add w12 (by omega) λcM d14=>⟨⟨by omega,by omega,f12.did d14 λbK=>by omega,by have:=d14.size;omega,d14.own,?_⟩,di (m:=10) hn⟩;have hi:3+n.toNat<(kV bs).length:=by omega
  have eg:(kV bs)[3+n.toNat]=(jO bs (8+4*n).toNat (Int.toNat 4):Nat):=by
   rw[zN bs (by omega) hi,show(8+4*n).toNat=8+4*n.toNat by omega];rfl
  have:=KA (kV bs) 0 ((kV bs).drop 13) (3+n.toNat) (10-n.toNat) hi (by omega);rw[eg]at this;rw[d14.rd,Pg,show 0+3+n.toNat=3+n.toNat by omega,show 3+(n+1).toNat=3+n.toNat+1 by omega,show 10-(n+1).toNat=10-n.toNat-1 by omega,<-this,ints,ints,List.map_set]
 ·have hn:¬n<10:=hn;have en:n.toNat=10:=by omega
  rw[en]at Pg
  have Pg:rd cG h3.size=ints (kV bs):=by
   rw[Pg];show ints ((kV bs).take 13++([]++(kV bs).drop 13))=_;rw[List.nil_append,List.take_append_drop]
  have aeq:rd cG h.size=[vS a l c]:=(f12.rd (by omega) λx=>x).trans r3;have B12:=aw.fr f12 B3 λ_ _ x=>x;have Tv:dJ cG h2.size:=f12.own w3.lt (λx=>x) w3;have WL:(rd cG h2.size).length=15:=by rw[f12.rd w3.lt λx=>x];exact l3
  have Ae:=F3.no f12;refine⟨_,_,_,cI aeq rfl,Gs B12 IX (by omega) (by omega) (by omega) (by omega) ⟨_,_,rfl,_,_,_,cI aeq rfl,Gs B12 IX (by omega) (by omega) (by omega) (by omega) ⟨_,_,rfl,?_⟩⟩⟩;have ec:clean bs=(lG ((bs.drop (Int.toNat 1)).take (Int.toNat 1)) && lG ((bs.drop (Int.toNat 56)).take (Int.toNat 8))):=rfl
  have bad:sx bs=false->∀h',Fr No h h'->K (.tuple #[.agg ⟨ints kS⟩,vI 111]) h':=λe h' f=>by
   have:=hK h' f;rw[qL,if_neg (by omega),e]at this;exact this
  refine jV ?_
  cases h1:lG ((bs.drop (Int.toNat 1)).take (Int.toNat 1))with
  | false=>exact nv Ae (by omega) Tv WL (bad (by rw[sx,ec,h1];rfl))
  | true=>
   refine ct rfl (jV ?_)
   cases tP:lG ((bs.drop (Int.toNat 56)).take (Int.toNat 8))with
   | false=>exact nv Ae (by omega) Tv WL (bad (by rw[sx,ec,h1,tP];rfl))
   | true=>
    refine ct rfl ⟨ints (kV bs),by rw[af,gl],ah Pg,tS gl λgm f19=>⟨_,rfl,jV ?_⟩⟩;have s19:=f19.size;have w19:dJ gm h2.size:=f19.own Tv.lt (λx=>x) Tv;have l19:(rd gm h2.size).length=15:=(by rw[f19.rd Tv.lt λx=>x];exact WL);have Yn:rd gm h3.size=ints (kV bs):=(f19.rd w12.lt λx=>x).trans Pg
    cases hm:oM (kV bs)with
    | false=>exact nv (Ae.no f19) (by omega) w19 l19 (bad (by rw[sx,hm,Bool.and_false]))
    | true=>
     refine ct rfl (YR gl (Ae.no f19) (by omega) w19 l19 Yn λh' f=>?_);have:=hK h' f;rw[qL,if_neg (by omega),show sx bs=true by rw[sx,ec,h1,tP,hm];rfl]at this;exact this
end In
namespace Bm
open Hp W Ad Tm Spc Re Av
open Hd (ints wrap_u64)
open In (kJ af aA)
def Ir(s:Nat×Nat):LV:=[vI s.1,vI s.2]
def hO(t:OA)(g:G)(R:List Int):LV:=vP t::(g.v++ints R)
theorem rN{g:G}(hi:i<R.length):(hO t g R)[6+i]?=some (vI (R.getD i 0)):=by
 rw[Nat.add_comm 6 i];show(ints R)[i]?=_;rw[ints,lG0,List.getD_eq_getElem?_getD,List.getElem?_eq_getElem hi];rfl
theorem xm(t:OA)(g:G)(R:List Int)(i:Nat)(v:Int):(hO t g R).set (6+i) (vI v)=hO t g (R.set i v):=by
 rw[Nat.add_comm 6 i];show vP t :: vI g.blocks :: vI g.bY :: vI g.dT :: vI g.data :: vI g.count::(ints R).set i (vI v)=_;have e:ints (R.set i v)=(ints R).set i (vI v):=by rw[ints,ints,List.map_set]
 unfold hO;rw[e];rfl
theorem xn{g:G}(h:R.length=15):(hO t g R).length=21:=by
 unfold hO;rw[List.length_cons,lA0,af,h];rfl
theorem Ef{v:Value}(e:rd h b=xs)(hv:xs[i+j]?=some v):cellOf h (Addr.add (Addr.add ⟨b,0,none⟩ i) j)=some v:=by
 rw[bm,bm,jX,e,Nat.zero_add];exact hv
theorem iM{fb:Nat}{g:G}{v:Int}(e:rd h fb=hO t g R)(hK:K (vI (bT g v)) h):C.fP (some ⟨fb,0,none⟩) v h K:=by
 refine fP.ok (os ⟨g.data,Ef e rfl,cd (λy=>?_) λy=>os ⟨g.blocks,Ef e rfl,cd (λy2=>?_) λy2=>?_⟩⟩)
 ·have:bT g v=100:=by unfold bT;rw[if_pos (.inl y)]
  rw[this]at hK;exact hK
 ·have:bT g v=100:=by unfold bT;rw[if_pos (.inr y2)]
  rw[this]at hK;exact hK
 ·have:bT g v=0:=by unfold bT;rw[if_neg (by omega)]
  rw[this]at hK;exact hK
theorem KC(h0:0<=k)(h1:k<16522)
  (hK:∀h',Fr No h h'->h.size<h'.size->rd h' h.size=(eV k.toNat).flatMap Ir->K (vS (some (bA h)) (eV k.toNat).length (eV k.toNat).length) h'):C.sd k h K:=by
 have cast:((k.toNat:Nat):Int)=k:=by omega
 refine sd.ok (cd (λy=>⟨rfl,az.intro λh2 n2=>?_⟩) λy=>cd (λy2=>⟨rfl,rfl,az.intro λh2 n2=>?_⟩) λy2=>⟨rfl,rfl,rfl,az.intro λh2 n2=>?_⟩)
 ·have e:eV k.toNat=[(0,k.toNat)]:=by unfold eV;rw[if_pos (by omega)]
  rw[e]at hK;refine hK h2 n2.fr n2.own.lt (n2.rd.trans ?_);show _=[vI ((0:Nat):Int),vI ((k.toNat:Nat):Int)];rw[cast];rfl
 ·have e:eV k.toNat=[(1,0),(3,k.toNat-10)]:=by unfold eV;rw[if_neg (by omega),if_pos (by omega)]
  rw[e]at hK;refine hK h2 n2.fr n2.own.lt (n2.rd.trans ?_);show _=[vI ((1:Nat):Int),vI ((0:Nat):Int),vI ((3:Nat):Int),vI ((k.toNat-10:Nat):Int)];rw[wrap_i64 (by omega) (by omega),show((k.toNat-10:Nat):Int)=k-10 by omega];rfl
 ·have e:eV k.toNat=[(2,0),(3,(k.toNat-138)/128),(3,(k.toNat-138)%128)]:=by unfold eV;rw[if_neg (by omega),if_neg (by omega)]
  rw[e]at hK;refine hK h2 n2.fr n2.own.lt (n2.rd.trans ?_);show _=[vI ((2:Nat):Int),vI ((0:Nat):Int),vI ((3:Nat):Int),vI (((k.toNat-138)/128:Nat):Int),vI ((3:Nat):Int),vI (((k.toNat-138)%128:Nat):Int)];have e1:Int.tdiv (k-138) 128=(((k.toNat-138)/128:Nat):Int):=by rw[Int.tdiv_eq_ediv_of_nonneg (by omega)];omega
  have e2:Int.tmod (k-138) 128=(((k.toNat-138)%128:Nat):Int):=by rw[Int.tmod_eq_emod_of_nonneg (by omega)];omega
  rw[wq (k-138),e1,e2,wrap_i64 (by omega) (by omega)];rfl
def zO(s:Nat×Nat):Prop:=s.1=0/\s.2<10∨s.1=1∨s.1=2∨s.1=3/\s.2<128
theorem Is{k:Nat}(h:k<16522):∀s∈eV k,zO s:=by
 unfold eV zO;intro s hs
 split at hs
 ·simp at hs;subst hs;exact .inl ⟨rfl,by assumption⟩
 ·split at hs
  ·simp at hs;rcases hs with rfl|rfl
   ·exact .inr (.inl rfl)
   ·exact .inr (.inr (.inr ⟨rfl,by simp only;omega⟩))
  ·simp at hs;rcases hs with rfl|rfl|rfl
   ·exact .inr (.inr (.inl rfl))
   ·exact .inr (.inr (.inr ⟨rfl,by simp only;omega⟩))
   ·exact .inr (.inr (.inr ⟨rfl,by simp only;omega⟩))
def A0(s:Nat×Nat):Nat:=if s.1=0 then 3+s.2 else if s.1=1 then 13 else 14
theorem Oy{s:Nat×Nat}(hs:zO s):A0 s<15:=by
 unfold A0
 rcases hs with⟨h1,h2⟩|h1|h1|⟨h1,_⟩
 ·rw[if_pos h1];omega
 ·rw[if_neg (by omega),if_pos h1];decide
 ·rw[if_neg (by omega),if_neg (by omega)];decide
 ·rw[if_neg (by omega),if_neg (by omega)];decide
theorem KD{fb:Nat}{s:Nat×Nat}(hs:zO s)(hK:∀ h',Fr No h h'->K (vP (some ⟨fb,6+A0 s,none⟩)) h'):C.jB (some ⟨fb,0,none⟩) (Ir s) h K:=by
 refine jB.ok (az.intro λh2 n2=>⟨_,bJ n2.rd rfl,ce (λy=>⟨_,bJ n2.rd rfl,os ⟨⟨by omega,?_⟩,?_⟩⟩) λy=>ce (λy2=>os ?_) λy2=>os ?_⟩)
 ·rcases hs with⟨_,h2⟩|h1|h1|⟨h1,_⟩ <;> omega
 ·have e:A0 s=3+s.2:=by unfold A0;rw[if_pos (by omega)]
  have hK:=hK h2 n2.fr;rw[bm,bm,bm,tN0];rw[e]at hK;rw[show 0+6+3+s.2=6+(3+s.2) by omega];exact hK
 ·have e:A0 s=13:=by unfold A0;rw[if_neg (by omega),if_pos (by omega)]
  have hK:=hK h2 n2.fr;rw[e]at hK;rw[bm,bm];exact hK
 ·have e:A0 s=14:=by unfold A0;rw[if_neg (by omega),if_neg (by omega)]
  have hK:=hK h2 n2.fr;rw[e]at hK;rw[bm,bm];exact hK
theorem Tw{T:TM}{s:Nat×Nat}(hs:zO s)(h:s.1≠3):gV T R s a=(R.getD (A0 s) 0,[],0):=by
 unfold gV A0
 rcases hs with⟨h1,_⟩|h1|h1|⟨h1,_⟩
 ·rw[if_pos h1,if_pos h1]
 ·rw[if_neg (by omega),if_pos h1,if_neg (by omega),if_pos h1]
 ·rw[if_neg (by omega),if_neg (by omega),if_pos h1,if_neg (by omega),if_neg (by omega)]
 ·exact absurd h1 h
theorem TA{T:TM}{s:Nat×Nat}(h:s.1=3):gV T R s a=if(T.read a).2≠0 then((0:Int),([]:cL),(T.read a).2)else(((cN (T.read a).1 s.2:Nat):Int),(T.read a).1,(0:Int)):=by
 unfold gV;rw[if_neg (by omega),if_neg (by omega),if_neg (by omega)]
theorem mU{T:TM}{g:G}{fb:Nat}{s:Nat×Nat}(gl:In.kJ h)(x:Tx h F t d T)(e:rd h fb=hO t g R)(hR:R.length=15)(hs:zO s)
  (hK:∀sa sl sc h',Fr No h h'->sl=(gV T R s a).2.1.length->Sl h' 1 sa sl sc ((gV T R s a).2.1.map bv) (dG h.size)->K (.tuple #[vI (gV T R s a).1,vS sa sl sc,vI (gV T R s a).2.2]) h'):C.ix (some ⟨fb,0,none⟩) (Ir s) a h K:=by
 have fl:fb<h.size:=gr (o:=0) (by rw[e];rfl);refine ix.ok (az.intro λh2 n2=>⟨_,bJ n2.rd rfl,cn (λy=>⟨Ir s,rfl,ah n2.rd,KD hs λh3 f3=>⟨_,rfl,os ?_⟩⟩) λy=>os ?_⟩)
 ·rw[Tw hs (by omega)]at hK;have F3:=n2.fr.no f3;refine⟨_,cI ((F3.rd fl λy=>y).trans e) (rN (by rw[hR];exact Oy hs)),hK none 0 0 h3 F3 rfl (Sl.nil _ _ _)⟩
 ·have ND:s.1=3:=by omega
  have HA:s.2<128:=by rcases hs with⟨h1,_⟩|h1|h1|⟨_,h2⟩ <;> omega
  rw[TA ND]at hK;refine⟨t,bJ ((n2.at_ fl).trans e) rfl,Tm.cD (x.no n2.fr) λsa sl sc h4 f4 el s4=>⟨_,_,_,_,rfl,cn (λhe=>?_) λhe=>?_⟩⟩
  ·rw[if_pos he]at hK;exact hK none 0 0 h4 (n2.fr.no f4) rfl (Sl.nil _ _ _)
  ·rw[if_neg (λy=>y he)]at hK;have hlen:(T.read a).1.length=512:=Tx.gX x he;have F4:=n2.fr.no f4;have z2:=n2.size;refine⟨_,bJ ((f4.rd n2.own.lt λy=>y).trans n2.rd) rfl,?_⟩;rw[wq (4*(s.2:Int))];refine In.Tu (gl.no F4) s4.str (by omega) (.inr (.inr (.inl rfl))) (by omega) (by omega) ⟨_,_,rfl,?_⟩
   have en:AE (((T.read a).1.drop (4*(s.2:Int)).toNat).take (Int.toNat 4))=cN (T.read a).1 s.2:=by
    unfold cN;rw[show(4*(s.2:Int)).toNat=4*s.2 by omega];rfl
   rw[en];have lt:=np (T.read a).1 s.2;rw[wrap_i64 (by omega) (by omega)];exact hK sa sl sc h4 F4 el (s4.mono λb hb=>by have:h2.size<=b:=hb;show h.size<=b;omega)
theorem Eg{T:TM}{s:Nat×Nat}{v:Int}{b:cL}(hs:zO s)(h:s.1≠3):nK T R s a b v=((T,R.set (A0 s) v),0):=by
 unfold nK A0
 rcases hs with⟨h1,_⟩|h1|h1|⟨h1,_⟩
 ·rw[if_pos h1,if_pos h1]
 ·rw[if_neg (by omega),if_pos h1,if_neg (by omega),if_pos h1]
 ·rw[if_neg (by omega),if_neg (by omega),if_pos h1,if_neg (by omega),if_neg (by omega)]
 ·exact absurd h1 h
theorem MP{T:TM}{s:Nat×Nat}{v:Int}{b:cL}(h:s.1=3):nK T R s a b v=(((T.write a (kH b s.2 v.toNat)).1,R),(T.write a (kH b s.2 v.toNat)).2):=by
 unfold nK;rw[if_neg (by omega),if_neg (by omega),if_neg (by omega)]
theorem tY{T:TM}{s:Nat×Nat}{v:Int}{b:cL}(hs:zO s)(hR:R.length=15):(nK T R s a b v).1.2.length=15:=by
 by_cases h:s.1=3
 ·rw[MP h];exact hR
 ·rw[Eg hs h];show(R.set _ _).length=15;rw[List.length_set];exact hR
theorem ki{ec:Nat}{a:OA}(s:Sl h ec a l c xs F):Sl h ec a l c xs (λb=>F b/\b<h.size):=by
 obtain⟨h1,h2⟩:=s;refine⟨h1,?_⟩
 cases a with
 | none=>exact h2
 | some p=>exact⟨h2.1,⟨h2.2.1,h2.2.2.1.lt⟩,h2.2.2.1,h2.2.2.2.1,h2.2.2.2.2⟩
theorem jb(T:TM)(i:Int)(bs:cL):(T.write i bs).1.ar.length<=T.ar.length+1:=by
 by_cases h:(T.write i bs).2=0
 ·obtain⟨_,_,_,_,_,ew⟩:=TM.wg h;rw[ew];show(T.ar++[_]).length<=_;rw[lA0];exact nL0
 ·rw[TM.xa h];exact Nat.le_add_right _ _
theorem WM{T:TM}{s:Nat×Nat}{v:Int}{b:cL}(hs:zO s):(nK T R s a b v).1.1.ar.length<=T.ar.length+1:=by
 by_cases h:s.1=3
 ·rw[MP h];exact jb _ _ _
 ·rw[Eg hs h];exact Nat.le_add_right _ _
theorem xj(T:TM)(g:G)(i:Nat)(on:Bool):(cj T g i on).1.ar.length<=T.ar.length+1:=by
 unfold cj
 split
 ·exact Nat.le_add_right _ _
 ·exact jb _ _ _
theorem tZ(T:TM)(g:G):(aP T g).1.ar.length<=T.ar.length+2:=by
 unfold aP
 split
 ·unfold jP
  split
  ·exact Nat.le_add_right _ _
  ·split
   ·exact Nat.le_add_right _ _
   ·exact Nat.le_trans (jb _ _ _) (Nat.succ_le_succ (xj _ _ _ _))
 ·exact Nat.le_add_right _ _
theorem P0(T:TM)(g:G):0<=(aP T g).2.1/\((aP T g).2.1=0∨(aP T g).2.1<g.blocks):=by
 unfold aP
 split
 ·rename_i m hm;have hm:=List.mem_of_find?_eq_some hm;rw[List.mem_range]at hm;unfold jP
  split
  ·exact⟨Int.le_refl _,.inl rfl⟩
  ·split
   ·exact⟨Int.le_refl _,.inl rfl⟩
   ·exact⟨Int.natCast_nonneg _,.inr (by show(m:Int)<_;omega)⟩
 ·exact⟨Int.le_refl _,.inl rfl⟩
theorem su{T:TM}{g:G}{fb lo:Nat}{s:Nat×Nat}{v:Int}{b:cL}(gl:In.kJ h)(x:Tx h F t d T)(e:rd h fb=hO t g R)(fo:dJ h fb)(hR:R.length=15)(hs:zO s)
  (hf:¬F fb) (hu:T.ar.length<1000000000) (hv:0<=v/\v<4294967296) (hb:s.1=3->b.length=512/\Sl h 1 sa sl sc (b.map bv) (λy=>lo<=y/\¬F y/\y≠fb))
  (hK:∀h' F',Fr (λy=>F y∨y=fb∨lo<=y) h h'->Gw h F h' F'->Tx h' F' t d (nK T R s a b v).1.1->rd h' fb=hO t g (nK T R s a b v).1.2->dJ h' fb->K (vI (nK T R s a b v).2) h'):C.kx (some ⟨fb,0,none⟩) (Ir s) a sa sl sc v h K:=by
 have fl:=fo.lt;have kY:=λy (hy:F y)=>x.lt hy;refine kx.ok (az.intro λh2 n2=>⟨_,bJ n2.rd rfl,cn (λy=>⟨Ir s,rfl,ah n2.rd,KD hs λh3 f3=>⟨_,rfl,os ?_⟩⟩) λy=>?_⟩)
 ·rw[Eg hs (by omega)]at hK;have F3:=n2.fr.no f3;have r3:rd h3 fb=_:=(F3.rd fl λy=>y).trans e;have hi:=Oy hs;refine aO.intro (F3.own fl (λy=>y) fo) (by rw[r3,xn hR];omega) λh4 d4=>?_;rw[r3,xm]at d4;have F4:Fr (λy=>F y∨y=fb∨lo<=y) h h4:=(F3.mono λ_ _ y=>y.elim).did d4 λ_=>.inr (.inl rfl);exact hK h4 F F4 (Gw.refl F4.size kY) ((x.no F3).fr d4.fr λc hc y=>hf (by have y:c=fb:=y;rw[<-y];exact hc)) d4.rd d4.own
 ·have ND:s.1=3:=by omega
  have HA:s.2<128:=by rcases hs with⟨h1,_⟩|h1|h1|⟨_,h2⟩ <;> omega
  rw[MP ND]at hK;obtain⟨lb,S⟩:=hb ND;have z2:=n2.size;have ll:sl=512:=by have:=S.1;rw[lM0]at this;omega
  subst ll;obtain⟨⟨pb,po,sp⟩,ep,_⟩:=S.get (by decide);subst ep;have DX:sp=none:=S.2.1;subst DX;have k1:=S.2.2.1;have k1:lo<=pb/\¬F pb/\pb≠fb:=k1;have pl:=S.lt;have pl:pb<h.size:=pl;refine⟨_,bJ n2.rd rfl,?_⟩;rw[wq (4*(s.2:Int)),wrap_u64 (n:=v) hv.1 (by omega),show v=((v.toNat:Nat):Int) by omega];refine In.GX (gl.no n2.fr) (S.fr n2.fr λ_ _ _ y=>y) (by decide) (.inr (.inr rfl)) (by omega) (by omega) (by show _<256 ^ 4;omega) λh5 f5 s5=>⟨_,rfl,os ?_⟩;have z5:=f5.size
  have e5:iH b (4*(s.2:Int)).toNat (br (Int.toNat 4) v.toNat)=kH b s.2 v.toNat:=by
   unfold kH;rw[show(4*(s.2:Int)).toNat=4*s.2 by omega];rfl
  rw[e5]at s5;have F5:Fr (λy=>y=pb) h h5:=(n2.fr.mono λ_ _ y=>y.elim).trans f5 λ_ _ y=>y;have r5:rd h5 fb=_:=(F5.rd fl λy=>k1.2.2 y.symm).trans e;have x5:Tx h5 F t d T:=x.fr F5 λc hc y=>k1.2.1 (by have y:c=pb:=y;rw[<-y];exact hc);refine⟨t,bJ r5 rfl,Tm.eF x5 s5.str (by decide) (λp e y=>?_) hu λh6 F' f6 g6 x6=>⟨_,rfl,?_⟩⟩
  ·cases e;exact k1.2.1 y
  ·refine hK h6 F' ((F5.mono λc _ y=>?_).trans f6 λc _ y=>.inl y) ((Gw.refl F5.size kY).trans g6 F5.size) x6 ((f6.rd (by omega) hf).trans r5) (f6.own (by omega) hf (F5.own fl (λy=>k1.2.2 y.symm) fo));have y:c=pb:=y;rw[y];exact .inr (.inr k1.1)
theorem It{s:LV}(hK:∀ h',Fr No h h'->K (.tuple #[vI 0,vI 0]) h'):C.m7 s a sa sl sc h K:=
 m7.ok (az.intro λh2 n2=>hK h2 n2.fr)
theorem KE{l:List (Nat×Nat)}(e:rd h b=l.flatMap Ir){j:Nat}(hj:j<l.length):aj h (Addr.add ⟨b,0,none⟩ (j*2)) (Ir l[j]):=by
 have c:aj h ⟨b,0,none⟩ (l.flatMap Ir):=ah e;have:=aj.take (aj.drop c (j*2)) 2;rw[m6 Ir 2 l (λ_ _=>rfl) j hj]at this;exact this
theorem drop_cons{α:Type}{l:List α}(h:j<l.length):l.drop j=l[j]::l.drop (j+1):=List.drop_eq_getElem_cons h
theorem MQ(T:TM)(g:G)(R:List Int)(s:Nat×Nat)(r:List (Nat×Nat))(a:Int):nY T g R (s::r) a=if(gV T R s a).2.2≠0 then(0,(gV T R s a).2.2)else if(gV T R s a).1=0 then(0,0)else
   if bT g (gV T R s a).1≠0 then(0,bT g (gV T R s a).1)else nY T g R r (gV T R s a).1:=rfl
theorem TB(s:Nat×Nat):∀v∈Ir s,v.oneCell'=true:=Vb rfl rfl
theorem MR{T:TM}{g:G}{fb:Nat}(gl:In.kJ h)(x:Tx h F t d T)(e:rd h fb=hO t g R)(hR:R.length=15)(h0:0<=k)(h1:k<16522)
  (hK:∀h',Fr No h h'->K (.tuple #[vI (nY T g R (eV k.toNat) 0).1,vI (nY T g R (eV k.toNat) 0).2]) h'):C.bG (some ⟨fb,0,none⟩) k (Value.func (.func 263) #[] ⟨[]⟩) h K:=by
 have fl:fb<h.size:=gr (o:=0) (by rw[e];rfl);refine bG.ok (KC h0 h1 λh2 f2 l2 rw2=>⟨_,_,_,rfl,?_⟩);have rK:=Is (k:=k.toNat) (by omega)
 have hwl:(eV k.toNat).length<=3:=by
  unfold eV
  split
  ·simp
  ·split <;> simp
 generalize eV k.toNat=w at hK rw2 rK hwl;refine⟨λa i hh=>∃j:Nat,i=j/\j<=w.length/\Fr No h2 hh/\nY T g R (w.drop j) a=nY T g R w 0,λ_ i _=>((w.length:Int)-i).toNat,⟨0,rfl,nZ0,Fr.refl _ _,by rw[List.drop_zero]⟩,?_⟩;rintro a i h3 ⟨j,rfl,hj,f3,ew⟩;refine cd (λhl=>?_) λhl=>?_
 ·have k7:j<w.length:=by omega
  rw[drop_cons k7,MQ]at ew;have F3:=f2.no f3;have hs:=rK _ (List.getElem_mem k7);have z3:=f3.size;rw[tN0];refine⟨⟨by omega,hl⟩,os ⟨Ir w[j],rfl,KE ((f3.rd l2 λy=>y).trans rw2) k7,aM.intro rfl (TB _) rfl λh5 n5=>⟨Ir w[j],rfl,ah n5.rd,?_⟩⟩⟩;have F5:=F3.new n5;refine mU (gl.no F5) (x.no F5) ((F5.rd fl λy=>y).trans e) hR hs λsa sl sc h6 f6 el s6=>⟨_,_,_,_,_,rfl,?_⟩;have F6:=F5.no f6;have z5:=n5.size;have z6:=f6.size;have wr:wI ((j:Int)+1)=((j+1:Nat):Int):=by rw[wrap_i64 (by omega) (by omega)];omega
  have go:∀h8,Fr No h3 h8->∀(nu er:Int),(if er≠0 then((0:Int),er)else if nu=0 then(0,0)else if bT g nu≠0 then(0,bT g nu)else nY T g R (w.drop (j+1)) nu)=nY T g R w 0->
    bG.k1 (some ⟨fb,0,none⟩) a (j:Int) h3 (λa i hh=>∃j:Nat,i=j/\j<=w.length/\Fr No h2 hh/\nY T g R (w.drop j) a=nY T g R w 0) (λ_ i _=>((w.length:Int)-i).toNat) nu er h8 K:=λh8 f8 nu er e8=>by
   have F8:=F3.no f8;unfold bG.k1;refine cn (λy=>?_) λy=>ce (λy2=>?_) λy2=>?_
   ·rw[if_pos y]at e8;rw[<-e8]at hK;exact hK h8 F8
   ·rw[if_neg (λz=>z y),if_pos y2]at e8;rw[<-e8]at hK;exact hK h8 F8
   ·rw[if_neg (λz=>z y),if_neg y2]at e8;refine iM ((F8.rd fl λy=>y).trans e) ⟨_,rfl,cn (λy3=>?_) λy3=>?_⟩
    ·rw[if_pos y3]at e8;rw[<-e8]at hK;exact hK h8 F8
    ·rw[if_neg (λz=>z y3)]at e8;rw[wr];exact⟨⟨j+1,rfl,k7,f3.no f8,e8⟩,by show((w.length:Int)-((j+1:Nat):Int)).toNat<((w.length:Int)-(j:Int)).toNat;omega⟩
  have UD:Fr No h3 h6:=n5.fr.no f6;refine ce (λy=>ce (λy2=>?_) λy2=>go h6 UD _ _ ew) λy=>go h6 UD _ _ ew;rw[if_neg (λz=>z y),if_pos y2]at ew;refine⟨Ir w[j],rfl,ah ((f6.rd n5.own.lt λy=>y).trans n5.rd),It λh7 f7=>⟨_,_,rfl,go h7 (UD.no f7) 0 0 ?_⟩⟩;rw[if_neg (λz=>z rfl),if_pos rfl];exact ew
 ·have ej:j=w.length:=by omega
  subst ej;rw[List.drop_length]at ew;have ew:(a,(0:Int))=nY T g R w 0:=ew;rw[<-ew]at hK;exact hK h3 (f2.no f3)
theorem ue{T:TM}{g:G}(gl:In.kJ h)(x:Tx h F t d T)(hR:R.length=15)
  (hK:∀h',Fr No h h'->K (.tuple #[vI (fH T g R k).1,vI (fH T g R k).2]) h'):C.kO t g.v (ints R) k h K:=by
 refine kO.ok (az.intro λh2 n2=>az.intro λh3 n3=>cd (λy=>?_) λy=>cd (λy2=>?_) λy2=>?_)
 ·have e:fH T g R k=(0,101):=by unfold fH;rw[if_pos (.inl y)]
  rw[e]at hK;exact hK h3 (n2.fr.new n3)
 ·have e:fH T g R k=(0,101):=by unfold fH;rw[if_pos (.inr y2)]
  rw[e]at hK;exact hK h3 (n2.fr.new n3)
 ·have e:fH T g R k=nY T g R (eV k.toNat) 0:=by unfold fH;rw[if_neg (by omega)]
  rw[e]at hK;unfold kO.k1;refine⟨g.v,rfl,ah ((n3.at_ n2.own.lt).trans n2.rd),ints R,by rw[af,hR],ah n3.rd,rfl,by rw[af,hR],az.intro λh4 n4=>?_⟩;have F4:=(n2.fr.new n3).new n4;exact MR (gl.no F4) (x.no F4) n4.rd hR (by omega) (by omega) λh5 f5=>⟨_,_,rfl,hK h5 (F4.no f5)⟩
def qM(T:TM)(g:G)(R:List Int)(s:Nat×Nat)(a:Int)(b:cL):(TM×List Int)×Int×Int:=
 if(aP T g).2.2≠0 then(((aP T g).1,R),0,(aP T g).2.2)else((nK (aP T g).1 R s a b (aP T g).2.1).1,(aP T g).2.1,(nK (aP T g).1 R s a b (aP T g).2.1).2)
def xR(g:G)(TR:TM×List Int)(nu er:Int)(go:TM->List Int->Int->(TM×List Int)×Int×Int):(TM×List Int)×Int×Int:=
 if er≠0 then(TR,0,er)else if nu=0 then(TR,0,0)else if bT g nu≠0 then(TR,0,bT g nu)else go TR.1 TR.2 nu
theorem Eh(g:G)(s:Nat×Nat)(r:List (Nat×Nat))(T:TM)(R:List Int)(a:Int):bU g (s::r) T R a =
  if(gV T R s a).2.2=0/\(gV T R s a).1=0 then xR g (qM T g R s a (gV T R s a).2.1).1 (qM T g R s a (gV T R s a).2.1).2.1 (qM T g R s a (gV T R s a).2.1).2.2 (bU g r)
   else xR g (T,R) (gV T R s a).1 (gV T R s a).2.2 (bU g r):=by
 by_cases h1:(gV T R s a).2.2=0
 ·by_cases h2:(gV T R s a).1=0
  ·by_cases h3:(aP T g).2.2=0
   ·simp[bU,xR,qM,h1,h2,h3]
   ·simp[bU,xR,qM,h1,h2,h3]
  ·simp[bU,xR,h1,h2]
 ·simp[bU,xR,h1]
theorem P3{T:TM}{g:G}{s:Nat×Nat}{b:cL}(hs:zO s)(hR:R.length=15):(qM T g R s a b).1.2.length=15:=by
 unfold qM
 split
 ·exact hR
 ·exact tY hs hR
theorem KF{T:TM}{g:G}{s:Nat×Nat}{b:cL}(hs:zO s):(qM T g R s a b).1.1.ar.length<=T.ar.length+3:=by
 have h2:=tZ T g;unfold qM
 split
 ·exact Nat.le_succ_of_le h2
 ·have:=WM (T:=(aP T g).1) (R:=R) (a:=a) (v:=(aP T g).2.1) (b:=b) hs;exact Nat.le_trans this (by omega)
structure WN(h:ad)(tb gb pb fb:Nat)(t:OA)(g:G):Prop where
 t:rd h tb=[vP t]
 g:rd h gb=g.v
 p:rd h pb=[vP (some ⟨fb,0,none⟩)]
theorem WN.lt{fb:Nat}{g:G}(c:WN h tb gb pb fb t g):tb<h.size/\gb<h.size/\pb<h.size:=
 ⟨gr (o:=0) (by rw[c.t];rfl),gr (o:=0) (by rw[c.g];rfl),gr (o:=0) (by rw[c.p];rfl)⟩
theorem WN.fr{fb:Nat}{g:G}{G':NP}(c:WN h tb gb pb fb t g)(f:Fr G' h h')(h1:¬ G' tb)(h2:¬ G' gb)(h3:¬ G' pb):WN h' tb gb pb fb t g:=by
 obtain⟨l1,l2,l3⟩:=c.lt;exact⟨(f.rd l1 h1).trans c.t,(f.rd l2 h2).trans c.g,(f.rd l3 h3).trans c.p⟩
theorem P5{T:TM}{n:Nat}{fb lo:Nat}{s:Nat×Nat}{b:cL}(gl:In.kJ h)(dm:uO n)(x:Tx h F t d T)(e:rd h fb=hO t (ai n) R)(fo:dJ h fb)(hR:R.length=15)(hs:zO s)
  (cp:WN h tb gb pb fb t (ai n)) (hf:¬F fb/\¬F tb/\¬F gb/\¬F pb) (g0:∀b,b<1->¬F b) (hu:T.ar.length<800000000) (hb:s.1=3->b.length=512/\Sl h 1 sa sl sc (b.map bv) (λy=>lo<=y/\¬F y/\y≠fb))
  (hK:∀h' F',Fr (λy=>F y∨y=fb∨lo<=y) h h'->Gw h F h' F'->Tx h' F' t d (qM T (ai n) R s a b).1.1->rd h' fb=hO t (ai n) (qM T (ai n) R s a b).1.2->dJ h' fb->K (.tuple #[vI (qM T (ai n) R s a b).2.1,vI (qM T (ai n) R s a b).2.2]) h') :
  C.oX (Ir s) a sa sl sc (some ⟨tb,0,none⟩) (some ⟨gb,0,none⟩) (some ⟨pb,0,none⟩) h K:=by
 obtain⟨l1,l2,l3⟩:=cp.lt;have fl:=fo.lt;refine oX.ok (az.intro λh2 n2=>os ⟨t,cI ((n2.at_ l1).trans cp.t) rfl,os ⟨(ai n).v,rfl,ah ((n2.at_ l2).trans cp.g),?_⟩⟩);have z2:=n2.size;refine Ta (x.no n2.fr) dm (by omega) λh3 F3 f3 g3 x3=>⟨_,_,rfl,?_⟩;have UE:Fr F h h3:=(n2.fr.mono λ_ _ y=>y.elim).trans f3 λ_ _ y=>y;have G03:Gw h F h3 F3:=(Gw.refl n2.fr.size λb hb=>x.lt hb).trans g3 n2.fr.size;have z3:=f3.size;have old:∀y,y<h.size->(F3 y↔F y):=G03.old;have hf3:¬F3 fb:=λy=>hf.1 ((old _ fl).mp y);have tu:=tZ T (ai n);have tr:=P0 T (ai n);refine cn (λhe=>?_) λhe=>?_
 ·have eh:qM T (ai n) R s a b=(((aP T (ai n)).1,R),0,(aP T (ai n)).2.2):=by unfold qM;rw[if_pos he]
  rw[eh]at hK;exact hK h3 F3 (UE.mono λ_ _ y=>.inl y) G03 x3 ((UE.rd fl hf.1).trans e) (UE.own fl hf.1 fo)
 ·have eh:qM T (ai n) R s a b=((nK (aP T (ai n)).1 R s a b (aP T (ai n)).2.1).1,(aP T (ai n)).2.1,(nK (aP T (ai n)).1 R s a b (aP T (ai n)).2.1).2):=by unfold qM;rw[if_neg (λy=>y he)]
  rw[eh]at hK;have sf:((ai n).blocks:Int)<=16384:=by have:=dm.hi;show(n:Int)<=_;omega
  have ns:¬F h.size:=λy=>by have:=x.lt y;omega
  refine os ⟨_,cI ((UE.rd l3 hf.2.2.2).trans cp.p) rfl,Ir s,rfl,ah ((f3.rd n2.own.lt ns).trans n2.rd),?_⟩;refine su (lo:=lo) (b:=b) (gl.fr UE g0) x3 ((UE.rd fl hf.1).trans e) (UE.own fl hf.1 fo) hR hs hf3 (by omega) ⟨tr.1,by omega⟩ (λHE=>?_) λh4 F4 f4 g4 x4 r4 o4=>⟨_,rfl,?_⟩
  ·obtain⟨lb,S⟩:=hb HE;exact⟨lb,((ki S).fr UE λy _ hy z=>hy.1.2.1 z).mono λy hy=>⟨hy.1.1,λz=>hy.1.2.1 ((old y hy.2).mp z),hy.1.2.2⟩⟩
  ·refine hK h4 F4 ((UE.mono λ_ _ y=>.inl y).trans f4 λy hy z=>?_) (G03.trans g4 UE.size) x4 r4 o4
   rcases z with z|z
   ·exact .inl ((old y hy).mp z)
   ·exact .inr z
theorem MS{T:TM}{n:Nat}{fb:Nat}(gl:In.kJ h)(dm:uO n)(x:Tx h F t d T)(e:rd h fb=hO t (ai n) R)(fo:dJ h fb)(hR:R.length=15)(h0:0<=k)(h1:k<16522)
  (cp:WN h tb gb pb fb t (ai n)) (hf:¬F fb/\¬F tb/\¬F gb/\¬F pb) (dp:tb≠fb/\gb≠fb/\pb≠fb) (g0:∀b,b<1->¬F b/\b≠fb) (hu:T.ar.length<700000000)
  (hK:∀h' F',Fr (λy=>F y∨y=fb) h h'->Gw h F h' F'->Tx h' F' t d (bU (ai n) (eV k.toNat) T R 0).1.1->rd h' fb=hO t (ai n) (bU (ai n) (eV k.toNat) T R 0).1.2->dJ h' fb->(bU (ai n) (eV k.toNat) T R 0).1.2.length=15->(bU (ai n) (eV k.toNat) T R 0).1.1.ar.length<=T.ar.length+9->
   K (.tuple #[vI (bU (ai n) (eV k.toNat) T R 0).2.1,vI (bU (ai n) (eV k.toNat) T R 0).2.2]) h') :
  C.bG (some ⟨fb,0,none⟩) k (Value.func (.func 219) #[] ⟨[vP (some ⟨tb,0,none⟩),vP (some ⟨gb,0,none⟩),vP (some ⟨pb,0,none⟩)]⟩) h K:=by
 have fl:=fo.lt;have kY:=λy (hy:F y)=>x.lt hy;refine bG.ok (KC h0 h1 λh2 f2 l2 rw2=>⟨_,_,_,rfl,?_⟩);have rK:=Is (k:=k.toNat) (by omega)
 have hwl:(eV k.toNat).length<=3:=by
  unfold eV
  split
  ·simp
  ·split <;> simp
 generalize eV k.toNat=w at hK rw2 rK hwl;have z2:=f2.size
 refine⟨λa i hh=>∃(j:Nat) (F':NP) (T':TM) (R':List Int),i=j/\j<=w.length/\Fr (λy=>F y∨y=fb) h2 hh/\Gw h2 F hh F'/\Tx hh F' t d T'/\rd hh fb=hO t (ai n) R'/\dJ hh fb/\R'.length=15/\T'.ar.length<=T.ar.length+3*j/\bU (ai n) (w.drop j) T' R' a=bU (ai n) w T R 0,λ_ i _=>((w.length:Int)-i).toNat,
  ⟨0,F,T,R,rfl,nZ0,Fr.refl _ _,Gw.refl nL0 (λb hb=>Nat.lt_of_lt_of_le (kY b hb) z2),x.no f2,(f2.rd fl λy=>y).trans e,f2.own fl (λy=>y) fo,hR,nL0,by rw[List.drop_zero]⟩,?_⟩
 rintro a i h3 ⟨j,F',T',R',rfl,hj,f3,g3,x3,r3,o3,R3,u3,ew⟩;have z3:=f3.size;have YS:Fr (λy=>F y∨y=fb) h h3:=(f2.mono λ_ _ y=>y.elim).trans f3 λ_ _ y=>y;have Cf:∀y,y<h2.size->(F' y↔F y):=g3.old;have G2:Gw h F h2 F:=Gw.refl z2 kY;refine cd (λhl=>?_) λhl=>?_
 ·have k7:j<w.length:=by omega
  rw[drop_cons k7,Eh]at ew;have hs:=rK _ (List.getElem_mem k7)
  have nP:¬(F h.size∨h.size=fb):=by
   rintro(y|y)
   ·have:=kY _ y;omega
   ·omega
  rw[tN0];refine⟨⟨by omega,hl⟩,os ⟨Ir w[j],rfl,KE ((f3.rd l2 nP).trans rw2) k7,aM.intro rfl (TB _) rfl λh5 n5=>⟨Ir w[j],rfl,ah n5.rd,?_⟩⟩⟩;have z5:=n5.size;have fl3:=o3.lt;have gl5:In.kJ h5:=(gl.fr YS λb hb y=>by rcases y with y|y;exact(g0 b hb).1 y;exact(g0 b hb).2 y).no n5.fr;refine mU gl5 (x3.no n5.fr) ((n5.at_ fl3).trans r3) R3 hs λsa sl sc h6 f6 el s6=>⟨_,_,_,_,_,rfl,?_⟩;have z6:=f6.size;have UD:Fr No h3 h6:=n5.fr.no f6;have wr:wI ((j:Int)+1)=((j+1:Nat):Int):=by rw[wrap_i64 (by omega) (by omega)];omega
  -- what a number acs, at h8
  have go:∀(h8:ad) (F8:NP) (TR:TM×List Int) (nu er:Int),Fr (λy=>F y∨y=fb) h2 h8->Gw h2 F h8 F8->Tx h8 F8 t d TR.1->rd h8 fb=hO t (ai n) TR.2->dJ h8 fb->TR.2.length=15->TR.1.ar.length<=T.ar.length+3*(j+1)->
    xR (ai n) TR nu er (bU (ai n) (w.drop (j+1)))=bU (ai n) w T R 0->
    bG.k1 (some ⟨fb,0,none⟩) a (j:Int) h3 (λa i hh=>∃(j:Nat) (F':NP) (T':TM) (R':List Int),i=j/\j<=w.length/\Fr (λy=>F y∨y=fb) h2 hh/\Gw h2 F hh F'/\Tx hh F' t d T'/\rd hh fb=hO t (ai n) R'/\dJ hh fb/\R'.length=15/\T'.ar.length<=T.ar.length+3*j/\bU (ai n) (w.drop j) T' R' a=bU (ai n) w T R 0) (λ_ i _=>((w.length:Int)-i).toNat) nu er h8 K:=λh8 F8 TR nu er f8 g8 x8 r8 o8 R8 u8 e8=>by
   have f08:Fr (λy=>F y∨y=fb) h h8:=(f2.mono λ_ _ y=>y.elim).trans f8 λ_ _ y=>y;unfold xR at e8;unfold bG.k1;refine cn (λy=>?_) λy=>ce (λy2=>?_) λy2=>?_
   ·rw[if_pos y]at e8;rw[<-e8]at hK;exact hK h8 F8 f08 (G2.trans g8 z2) x8 r8 o8 R8 (by show TR.1.ar.length<=_;omega)
   ·rw[if_neg (λz=>z y),if_pos y2]at e8;rw[<-e8]at hK;exact hK h8 F8 f08 (G2.trans g8 z2) x8 r8 o8 R8 (by show TR.1.ar.length<=_;omega)
   ·rw[if_neg (λz=>z y),if_neg y2]at e8;refine iM r8 ⟨_,rfl,cn (λy3=>?_) λy3=>?_⟩
    ·rw[if_pos y3]at e8;rw[<-e8]at hK;exact hK h8 F8 f08 (G2.trans g8 z2) x8 r8 o8 R8 (by show TR.1.ar.length<=_;omega)
    ·rw[if_neg (λz=>z y3)]at e8;rw[wr];exact⟨⟨j+1,F8,TR.1,TR.2,rfl,k7,f8,g8,x8,r8,o8,R8,u8,e8⟩,by show((w.length:Int)-((j+1:Nat):Int)).toNat<((w.length:Int)-(j:Int)).toNat;omega⟩
  have f26:Fr (λy=>F y∨y=fb) h2 h6:=f3.no UD;have g36:Gw h2 F h6 F':=⟨g3.old,λb hb=>Nat.lt_of_lt_of_le (g3.lt b hb) UD.size⟩;have x6:=x3.no UD;have r6:rd h6 fb=_:=(UD.rd fl3 λy=>y).trans r3;have o6:=UD.own fl3 (λy=>y) o3
  have plain:¬((gV T' R' w[j] a).2.2=0/\(gV T' R' w[j] a).1=0)->bG.k1 (some ⟨fb,0,none⟩) a (j:Int) h3 (λa i hh=>∃(j:Nat) (F':NP) (T':TM) (R':List Int),i=j/\j<=w.length/\Fr (λy=>F y∨y=fb) h2 hh/\Gw h2 F hh F'/\Tx hh F' t d T'/\rd hh fb=hO t (ai n) R'/\dJ hh fb/\R'.length=15/\T'.ar.length<=T.ar.length+3*j/\bU (ai n) (w.drop j) T' R' a=bU (ai n) w T R 0) (λ_ i _=>((w.length:Int)-i).toNat) (gV T' R' w[j] a).1 (gV T' R' w[j] a).2.2 h6 K:=λQG=>by
   rw[if_neg QG]at ew;exact go h6 F' (T',R') _ _ f26 g36 x6 r6 o6 R3 (by show T'.ar.length<=_;omega) ew
  refine ce (λy=>ce (λy2=>?_) λy2=>plain λz=>y2 z.2) λy=>plain λz=>y z.1;rw[if_pos ⟨y,y2⟩]at ew;refine⟨Ir w[j],rfl,ah ((f6.rd n5.own.lt λy=>y).trans n5.rd),?_⟩;have f06:Fr (λy=>F y∨y=fb) h h6:=YS.no UD;obtain⟨c1,c2,c3⟩:=cp.lt;have cp6:WN h6 tb gb pb fb t (ai n):=cp.fr f06 (by rintro(y|y);exact hf.2.1 y;exact dp.1 y) (by rintro(y|y);exact hf.2.2.1 y;exact dp.2.1 y) (by rintro(y|y);exact hf.2.2.2 y;exact dp.2.2 y)
  have hb:w[j].1=3->(gV T' R' w[j] a).2.1.length=512/\Sl h6 1 sa sl sc ((gV T' R' w[j] a).2.1.map bv) (λy=>h5.size<=y/\¬F' y/\y≠fb):=λHE=>by
   refine⟨?_,s6.mono λy hy=>⟨hy,λz=>?_,?_⟩⟩
   ·rw[TA HE]at y ⊢
    by_cases hh:(T'.read a).2≠0
    ·rw[if_pos hh]at y;exact absurd y hh
    ·rw[if_neg hh];exact Tx.gX x3 (by omega)
   ·have hy:h5.size<=y:=hy;have:=x3.lt z;omega
   ·have hy:h5.size<=y:=hy;omega
  refine P5 (lo:=h5.size) (gl5.no f6) dm x6 r6 o6 R3 hs cp6 ⟨λz=>hf.1 ((Cf _ (by omega)).mp z),λz=>hf.2.1 ((Cf _ (by omega)).mp z),λz=>hf.2.2.1 ((Cf _ (by omega)).mp z),λz=>hf.2.2.2 ((Cf _ (by omega)).mp z)⟩ (λb wH z=>?_) (by omega) hb λh7 F7 f7 g7 x7 r7 o7=>⟨_,_,rfl,?_⟩
  ·exact(g0 b wH).1 ((Cf b (by omega)).mp z)
  ·have z7:=f7.size;have f27:Fr (λy=>F y∨y=fb) h2 h7:=f26.trans f7 λc hc z=>?_
   ·have hl7:=KF (T:=T') (g:=ai n) (R:=R') (a:=a) (b:=(gV T' R' w[j] a).2.1) hs;exact go h7 F7 _ _ _ f27 (g36.trans g7 f26.size) x7 r7 o7 (P3 hs R3) (by omega) ew
   ·rcases z with z|z|z
    ·exact .inl ((Cf c hc).mp z)
    ·exact .inr z
    ·omega
 ·have ej:j=w.length:=by omega
  subst ej;rw[List.drop_length]at ew;have ew:((T',R'),a,(0:Int))=bU (ai n) w T R 0:=ew;rw[<-ew]at hK;exact hK h3 F' YS (G2.trans g3 z2) x3 r3 o3 R3 (by show T'.ar.length<=_;omega)
structure Gd(h:ad)(ob tb mb:Nat)(t:OA)(m:Int×Int):Prop where
 o:rd h ob=[vI m.2]
 t:rd h tb=[vP t]
 m:rd h mb=[vI m.1]
def gdV(ob tb mb:Nat):Value:=.func (.func 268) ⟨[]⟩ ⟨[vP (some ⟨ob,0,none⟩),vP (some ⟨tb,0,none⟩),vP (some ⟨mb,0,none⟩)]⟩
theorem Gd.lt{m:Int×Int}(c:Gd h ob tb mb t m):ob<h.size/\tb<h.size/\mb<h.size:=
 ⟨gr (o:=0) (by rw[c.o];rfl),gr (o:=0) (by rw[c.t];rfl),gr (o:=0) (by rw[c.m];rfl)⟩
theorem Gd.fr{m:Int×Int}{G:NP}(c:Gd h ob tb mb t m)(f:Fr G h h')(h1:¬ G ob)(h2:¬ G tb)(h3:¬ G mb):Gd h' ob tb mb t m:=by
 obtain⟨l1,l2,l3⟩:=c.lt;exact⟨(f.rd l1 h1).trans c.o,(f.rd l2 h2).trans c.t,(f.rd l3 h3).trans c.m⟩
theorem Ei{T:TM}(x:Tx h F t d T)
  (hK:∀ob tb mb h',Fr No h h'->h.size<=ob->h.size<=tb->h.size<=mb->Gd h' ob tb mb t T.mark->K (gdV ob tb mb) h'):C.mM t h K:=by
 refine mM.ok (az.intro λh2 n2=>⟨t,cI n2.rd rfl,ng (x.no n2.fr) ⟨_,_,rfl,az.intro λh4 n4=>az.intro λh5 n5=>?_⟩⟩);have z2:=n2.size;have z4:=n4.size;have z5:=n5.size;refine aO.intro (n5.ow n4.own) (by rw[n5.at_ n4.own.lt,n4.rd];decide) λh6 d6=>aO.intro (d6.ow n5.own) (by rw[d6.at_ n5.own.lt (by omega),n5.rd];decide) λh7 d7=>?_;have z6:=d6.size;have F7:Fr No h h7:=(((n2.fr.new n4).new n5).did d6 λhl=>by omega).did d7 λhl=>by omega
 refine hK h4.size h.size h2.size h7 F7 (by omega) nL0 (by omega) ⟨?_,?_,?_⟩
 ·rw[d7.rd,d6.at_ n5.own.lt (by omega),n5.rd];rfl
 ·exact(d7.at_).trans ((d6.at_).trans ((n5.at_).trans ((n4.at_ n2.own.lt).trans n2.rd)))
 ·rw[d7.at_,d6.rd,n5.at_ n4.own.lt,n4.rd];rfl
theorem xS{T:TM}{m:Int×Int}(x:Tx h F t d T)(c:Gd h ob tb mb t m)(hu:T.ar.length<1000000000)
  (hK:∀h',Fr F h h'->Tx h' F t d (if e≠0/\m.2=0 then(T.back m.1).1 else T)->K (.tuple #[]) h'):cT Tryz.prog (gdV ob tb mb) [vI e] h K:=by
 show C.lZ e (some ⟨ob,0,none⟩) (some ⟨tb,0,none⟩) (some ⟨mb,0,none⟩) h K;refine lZ.ok (cn (λhe=>os ⟨_,cI c.o rfl,ce (λhm=>os ⟨t,cI c.t rfl,os ⟨_,cI c.m rfl,nh x hu λh2 f2 x2=>⟨_,rfl,?_⟩⟩⟩) λhm=>?_⟩) λhe=>?_)
 ·rw[if_pos ⟨he,hm⟩]at hK;exact hK h2 f2 x2
 ·rw[if_neg (λy=>hm y.2)]at hK;exact hK h (Fr.refl _ _) x
 ·rw[if_neg (λy=>y.1 he)]at hK;exact hK h (Fr.refl _ _) x
theorem TC(n:Nat):aN z3 n=List.replicate n (vI 0):=rfl
theorem CD : ∀v∈ints kS,v.oneCell'=true:=aA kS
theorem Ej{T:TM}{n:Nat}(gl:In.kJ h)(dm:uO n)(x:Tx h F t d T)(live:T.over=false)(hR:R.length=15)(g0:∀ b,b<1->¬ F b)(hu:T.ar.length<700000000)
  (hK:∀h' F',Fr F h h'->Gw h F h' F'->Tx h' F' t d (fL T (ai n) R k).1->K (.tuple #[.agg ⟨ints (fL T (ai n) R k).2.1⟩,vI (fL T (ai n) R k).2.2.1,vI (fL T (ai n) R k).2.2.2]) h') :
  C.mK t (ai n).v (ints R) k h K:=by
 have kY:=λy (hy:F y)=>x.lt hy;have WO:=gl.lt;refine mK.ok (az.intro λh2 n2=>az.intro λh3 n3=>az.intro λh4 n4=>az.intro λh5 n5=>az.intro λh6 n6=>az.intro λh7 n7=>?_);have z2:=n2.size;have z3:=n3.size;have z4:=n4.size;have z5:=n5.size;have z6:=n6.size;have z7:=n7.size;have F7:Fr No h h7:=((((n2.fr.new n3).new n4).new n5).new n6).new n7;have ry:rd h7 h4.size=ints kS:=(n7.at_).trans ((n6.at_).trans n5.rd);have oy:dJ h7 h4.size:=n7.ow (n6.ow n5.own);have rn:rd h7 h5.size=[vI 0]:=(n7.at_).trans n6.rd;have on:dJ h7 h5.size:=n7.ow n6.own;have re:rd h7 h6.size=[vI 0]:=n7.rd;have oe':dJ h7 h6.size:=n7.own
 by_cases hk:0<=k/\k<16522
 rotate_left
 ·have e0:fL T (ai n) R k=(T,kS,0,101):=by unfold fL;rw[if_pos (by omega)]
  rw[e0]at hK
  have GV:ax (bA h4) (ints kS) 15 h7 λh8=>aO (bA h5) (vI 0) h8 λh9=>aO (bA h6) (vI 101) h9 λcB=>
    ∃bL:LV,List.length bL=15/\aj cB (bA h4) bL/\∃(dY:Int),cellOf cB (bA h5)=some (vI dY)/\∃(fv:Int),cellOf cB (bA h6)=some (vI fv)/\K (.tuple #[.agg ⟨bL⟩,vI dY,vI fv]) cB:=by
   refine ax.intro oy rfl CD (by rw[ry];exact nL0) λh8 d8=>aO.intro (d8.ow on) (by rw[d8.at_,rn];decide) λh9 d9=>aO.intro (d9.ow (d8.ow oe')) (by rw[d9.at_ (by have:=d8.size;omega) (by omega),d8.at_,re];decide) λcB d10=>?_;have z8:=d8.size;have z9:=d9.size;have JX:Fr No h cB:=((F7.did d8 λhl=>by omega).did d9 λhl=>by omega).did d10 λhl=>by omega
   refine⟨ints kS,rfl,ah ?_,0,cI (xs:=[vI 0]) ?_ rfl,101,cI (xs:=[vI 101]) ?_ rfl,hK cB F (JX.mono λ_ _ y=>y.elim) (Gw.refl JX.size kY) (x.no JX)⟩
   ·rw[d10.at_,d9.at_,d8.rd,ry];exact dC _ _ rfl
   ·rw[d10.at_,d9.rd,d8.at_,rn];rfl
   ·rw[d10.rd,d9.at_,d8.at_,re];rfl
  exact cd (λ_=>GV) λy=>cd (λ_=>GV) λy2=>by exfalso;omega
 refine cd (λy=>by exfalso;omega) λ_=>cd (λy=>by exfalso;omega) λ_=>?_;have rt:rd h7 h.size=[vP t]:=(n7.at_).trans ((n6.at_).trans ((n5.at_).trans ((n4.at_).trans ((n3.at_).trans n2.rd))));have rg:rd h7 h2.size=(ai n).v:=(n7.at_).trans ((n6.at_).trans ((n5.at_).trans ((n4.at_).trans n3.rd)));have rx:rd h7 h3.size=ints R:=(n7.at_).trans ((n6.at_).trans ((n5.at_).trans n4.rd));unfold mK.k1;refine⟨t,cI rt rfl,Ei (x.no F7) λob tb mb fg f15 b1 b2 b3 gd=>⟨_,_,_,rfl,az.intro λiY n16=>?_⟩⟩;have z15':=f15.size;have z16:=n16.size;obtain⟨WQ,WR,WS⟩:=gd.lt;refine aO.intro n16.own (by rw[n16.rd];decide) λfw d17=>?_;have UB:=d17.size;have BC:∀b,b<fg.size->rd fw b=rd fg b:=λb hb=>(d17.at_).trans (n16.at_ hb);have q7:∀b,b<h7.size->rd fg b=rd h7 b:=λb hb=>f15.rd hb λy=>y;refine⟨t,cI ((BC _ (by omega)).trans ((q7 _ (by omega)).trans rt)) rfl,(ai n).v,rfl,ah ((BC _ (by omega)).trans ((q7 _ (by omega)).trans rg)),ints R,by rw[af,hR],ah ((BC _ (by omega)).trans ((q7 _ (by omega)).trans rx)),rfl,by rw[af,hR],az.intro λma n18=>az.intro λgm n19=>?_⟩;have z18:=n18.size;have z19:=n19.size;refine aO.intro n19.own (by rw[n19.rd];decide) λiK d20=>?_;have z20:=d20.size;have SZ:∀b,b<fw.size->rd iK b=rd fw b:=λb hb=>(d20.at_).trans ((n19.at_).trans (n18.at_ hb));have o20:∀{b},dJ fw b->dJ iK b:=λw=>d20.ow (n19.ow (n18.ow w));have o17:∀{b},dJ h7 b->dJ fw b:=λw=>d17.ow (n16.ow (f15.own w.lt (λy=>y) w));have Oj:Fr No h fw:=((F7.no f15).new n16).did d17 λhl=>by omega
 have YD:Fr No h iK:=((Oj.new n18).new n19).did d20 λhl=>by omega
 have s7:=F7.size;have MT:∀b,h.size<=b->¬F b:=λb hb y=>by have:=kY b y;omega
 have rf20:rd iK fw.size=hO t (ai n) R:=(d20.at_).trans ((n19.at_).trans n18.rd);have aaz:rd iK ma.size=[vP (some (bA fw))]:=by rw[d20.rd,n19.rd];rfl
 have cap:WN iK h.size h2.size ma.size fw.size t (ai n):=⟨(SZ _ (by omega)).trans ((BC _ (by omega)).trans ((q7 _ (by omega)).trans rt)),(SZ _ (by omega)).trans ((BC _ (by omega)).trans ((q7 _ (by omega)).trans rg)),aaz⟩;refine⟨_,cI aaz rfl,MS (gl.no YD) dm (x.no YD) rf20 (d20.ow (n19.ow n18.own)) hR hk.1 hk.2 cap ⟨MT _ (by omega),MT _ (by omega),MT _ (by omega),MT _ (by omega)⟩ ⟨by omega,by omega,by omega⟩ (λb hb=>⟨g0 b hb,by omega⟩) hu λnR F' f21 g21 x21 r21 o21 l21 u21=>⟨_,_,rfl,?_⟩⟩
 have ea:fL T (ai n) R k=if(bU (ai n) (eV k.toNat) T R 0).2.2≠0 then(((bU (ai n) (eV k.toNat) T R 0).1.1.back T.ar.length).1,kS,0,(bU (ai n) (eV k.toNat) T R 0).2.2)
   else((bU (ai n) (eV k.toNat) T R 0).1.1,(bU (ai n) (eV k.toNat) T R 0).1.2,(bU (ai n) (eV k.toNat) T R 0).2.1,0):=by unfold fL;rw[if_neg (by omega)]
 rw[ea]at hK;generalize bU (ai n) (eV k.toNat) T R 0=W at hK x21 r21 l21 u21;obtain⟨⟨T',R'⟩,n1,e1⟩:=W;simp only at hK x21 r21 l21 u21;have z21:=f21.size;have QO:∀b,h.size<=b->b<iK.size->b≠fw.size->rd nR b=rd iK b:=λb h1 h2 h3=>f21.rd h2 (by rintro(y|y);exact MT b h1 y;exact h3 y);have w21:∀{b},h.size<=b->b≠fw.size->dJ iK b->dJ nR b:=λh1 h3 w=>f21.own w.lt (by rintro(y|y);exact MT _ h1 y;exact h3 y) w;have aev:rd nR h5.size=[vI 0]:=(QO _ (by omega) (by omega) (by omega)).trans ((SZ _ (by omega)).trans ((BC _ (by omega)).trans ((q7 _ (by omega)).trans rn)));have aew:rd nR h6.size=[vI 0]:=(QO _ (by omega) (by omega) (by omega)).trans ((SZ _ (by omega)).trans ((BC _ (by omega)).trans ((q7 _ (by omega)).trans re)));have aex:rd nR h4.size=ints kS:=(QO _ (by omega) (by omega) (by omega)).trans ((SZ _ (by omega)).trans ((BC _ (by omega)).trans ((q7 _ (by omega)).trans ry)));have aey:dJ nR h5.size:=w21 (by omega) (by omega) (o20 (o17 on));have aez:dJ nR h6.size:=w21 (by omega) (by omega) (o20 (o17 oe'));have oy21:dJ nR h4.size:=w21 (by omega) (by omega) (o20 (o17 oy));have rp21:rd nR ma.size=[vP (some (bA fw))]:=(QO _ (by omega) (by omega) (by omega)).trans aaz;have rb21:rd nR fg.size=[gdV ob tb mb]:=(QO _ (by omega) (by omega) (by omega)).trans ((SZ _ (by omega)).trans (by rw[d17.rd,n16.rd];rfl))
 have F21:Fr F h nR:=(YD.mono λ_ _ y=>y.elim).trans f21 λb hb y=>by
  rcases y with y|y
  ·exact y
  ·omega
 have G21:Gw h F nR F':=(Gw.refl YD.size kY).trans g21 YD.size;have old:∀b,b<iK.size->(F' b↔F b):=g21.old;have BO:∀b,h.size<=b->b<iK.size->¬F' b:=λb h1 h2 y=>MT b h1 ((old b h2).mp y)
 have gd21:Gd nR ob tb mb t T.mark:=by
  have g17:Gd fw ob tb mb t T.mark:=⟨(BC _ WQ).trans gd.o,(BC _ WR).trans gd.t,(BC _ WS).trans gd.m⟩;have g20:Gd iK ob tb mb t T.mark:=⟨(SZ _ (by omega)).trans g17.o,(SZ _ (by omega)).trans g17.t,(SZ _ (by omega)).trans g17.m⟩;exact⟨(QO _ (by omega) (by omega) (by omega)).trans g20.o,(QO _ (by omega) (by omega) (by omega)).trans g20.t,(QO _ (by omega) (by omega) (by omega)).trans g20.m⟩
 have lr:R'.length=15:=l21;refine aO.intro aey (by rw[aev];decide) λnD d22=>aO.intro (d22.ow aez) (by rw[d22.at_,aew];decide) λjR d23=>?_;have z22:=d22.size;have z23:=d23.size;have S7:∀b,b<nR.size->b≠h5.size->b≠h6.size->rd jR b=rd nR b:=λb hb h1 h2=>(d23.at_ (by omega) h2).trans (d22.at_ hb h1);have aeA:rd jR h5.size=[vI n1]:=(d23.at_).trans (by rw[d22.rd,aev];rfl);have aeB:rd jR h6.size=[vI e1]:=by rw[d23.rd,d22.at_,aew];rfl
 have rf23:rd jR fw.size=hO t (ai n) R':=(S7 _ (by omega) (by omega) (by omega)).trans r21;refine⟨_,cI ((S7 _ (by omega) (by omega) (by omega)).trans rp21) rfl,os ⟨ints R',by rw[af,lr],uF rf23 ?_,n1,cI aeA rfl,e1,cI aeB rfl,?_⟩⟩
 ·show(ints R').take _=_;exact List.take_of_length_le nL0
 refine ax.intro (d23.ow (d22.ow oy21)) (by rw[af,lr]) (aA _) (by rw[S7 _ (by omega) (by omega) (by omega),aex];exact nL0) λmu d24=>?_;have z24:=d24.size;have ry24:rd mu h4.size=ints R':=by rw[d24.rd,S7 _ (by omega) (by omega) (by omega),aex];exact dC _ _ (by rw[af,lr];rfl)
 have aaA:rd mu h5.size=[vI n1]:=(d24.at_).trans aeA;have aeC:rd mu h6.size=[vI e1]:=(d24.at_).trans aeB;refine⟨cI aaA rfl,cI aeC rfl,aO.intro (d24.ow (d23.ow (d22.ow aey))) (by rw[aaA];exact Nat.zero_lt_one) λuH d25=>?_⟩;have z25:=d25.size;have aaB:rd uH h6.size=[vI e1]:=(d25.at_).trans aeC;have oe25:dJ uH h6.size:=d25.ow (d24.ow (d23.ow (d22.ow aez)));refine⟨cI aaB rfl,aO.intro oe25 (by rw[aaB];exact Nat.zero_lt_one) λqu d26=>?_⟩;have z26:=d26.size;have q26:∀b,b<nR.size->b≠h4.size->b≠h5.size->b≠h6.size->rd qu b=rd nR b:=λb hb h1 h2 h3=>(d26.at_ (by omega) h3).trans ((d25.at_ (by omega) h2).trans ((d24.at_ (by omega) h1).trans (S7 b hb h2 h3)));have WT:rd qu h6.size=[vI e1]:=by rw[d26.rd,aaB];rfl
 have aaC:rd qu h5.size=[vI n1]:=(d26.at_).trans (by rw[d25.rd,aaA];rfl);have aaD:rd qu h4.size=ints R':=(d26.at_).trans ((d25.at_).trans ry24);have oy26:dJ qu h4.size:=d26.ow (d25.ow d24.own);have MU:dJ qu h5.size:=d26.ow d25.own;have Oz:Fr (λb=>b=h4.size∨b=h5.size∨b=h6.size) nR qu:=((((Fr.refl _ _).did d22 λ_=>.inr (.inl rfl)).did d23 λ_=>.inr (.inr rfl)).did d24 λ_=>.inl rfl).did d25 (λ_=>.inr (.inl rfl)) |>.did d26 λ_=>.inr (.inr rfl)
 have x26:Tx qu F' t d T':=x21.fr Oz λb hb y=>by
  rcases y with rfl|rfl|rfl
  ·exact BO _ (by omega) (by omega) hb
  ·exact BO _ (by omega) (by omega) hb
  ·exact BO _ (by omega) (by omega) hb
 have gd26:Gd qu ob tb mb t T.mark:=gd21.fr Oz (by rintro(y|y|y) <;> omega) (by rintro(y|y|y) <;> omega) (by rintro(y|y|y) <;> omega);have F26:Fr F h qu:=F21.trans Oz λb hb y=>by rcases y with y|y|y <;> omega
 have G26:Gw h F qu F':=⟨G21.old,λb hb=>Nat.lt_of_lt_of_le (G21.lt b hb) Oz.size⟩;have em:T.mark=((T.ar.length:Int),0):=by unfold TM.mark;rw[live,if_neg (by simp)]
 refine dN.CN (os ⟨_,cI ((q26 _ (by omega) (by omega) (by omega) (by omega)).trans rb21) rfl,os ⟨_,cI WT rfl,xS x26 gd26 (by omega) λtx f27 YT=>⟨rfl,?_⟩⟩⟩);have z27:=f27.size;have WU:∀b,h.size<=b->b<iK.size->rd tx b=rd qu b:=λb h1 h2=>f27.rd (by omega) (BO b h1 h2);have F27:Fr F h tx:=F26.trans f27 λb hb y=>(old b (by omega)).mp y;have G27:Gw h F tx F':=⟨G26.old,λb hb=>Nat.lt_of_lt_of_le (G26.lt b hb) f27.size⟩;rw[em]at YT;refine os ⟨_,cI ((WU _ (by omega) (by omega)).trans WT) rfl,cn (λhe=>?_) λhe=>?_⟩
 ·rw[if_pos ⟨he,rfl⟩]at YT;rw[if_pos he]at hK;refine os (ax.intro (f27.own (by omega) (BO _ (by omega) (by omega)) oy26) rfl CD (by rw[WU _ (by omega) (by omega),aaD,af,lr];exact nL0) λAc d28=>os (aO.intro (d28.ow (f27.own (by omega) (BO _ (by omega) (by omega)) MU)) (by rw[d28.at_,WU _ (by omega) (by omega),aaC];exact Nat.zero_lt_one) λIV d29=>?_));have z28:=d28.size;have z29:=d29.size;have TD:Fr (λb=>b=h4.size∨b=h5.size) tx IV:=((Fr.refl _ _).did d28 λ_=>.inl rfl).did d29 λ_=>.inr rfl;refine⟨ints kS,rfl,ah ?_,0,cI (xs:=[vI 0]) ?_ rfl,e1,cI (xs:=[vI e1]) ?_ rfl,hK IV F' (F27.trans TD λb hb y=>by rcases y with y|y <;> omega) ⟨G27.old,λb hb=>Nat.lt_of_lt_of_le (G27.lt b hb) TD.size⟩ (YT.fr TD λb hb y=>?_)⟩
  ·rw[d29.at_,d28.rd,WU _ (by omega) (by omega),aaD];exact dC _ _ (by rw[af,lr];rfl)
  ·rw[d29.rd,d28.at_,WU _ (by omega) (by omega),aaC];rfl
  ·rw[d29.at_,d28.at_,WU _ (by omega) (by omega),WT]
  ·rcases y with rfl|rfl
   ·exact BO _ (by omega) (by omega) hb
   ·exact BO _ (by omega) (by omega) hb
 ·rw[if_neg (λy=>y.1 he)]at YT;rw[if_neg (λy=>y he)]at hK;have he:e1=0:=he;subst he;exact⟨ints R',by rw[af,lr],ah ((WU _ (by omega) (by omega)).trans aaD),n1,cI ((WU _ (by omega) (by omega)).trans aaC) rfl,0,cI ((WU _ (by omega) (by omega)).trans WT) rfl,hK tx F' F27 G27 YT⟩
def eO(T:TM)(g:G)(v:Int):TM×Int:=if bT g v≠0 then(T,bT g v)else Spc.mj T g v
def bI(b:cL):List Int:=(List.range 128).map λi=>((cN b i:Nat):Int)
theorem bM(b:cL):(bI b).length=128:=by unfold bI;rw[lM0,List.length_range]
theorem dZ{b:cL}(h:j<(bI b).length):(bI b)[j]=((cN b j:Nat):Int):=by
 simp only[bI,List.getElem_map,List.getElem_range]
abbrev lQ :=TM->Nat->Int->TM×Bool×Int
structure qm where
 T:TM
 b:cL
 left:Bool
 gq:Bool
def gJ(dM:lQ)(from_:Int):List Int->Nat->qm->qm×Int
 | [],_,S=>(S,0)
 | v::r,i,S=>if v=0 then gJ dM from_ r (i+1) S else if(i:Int)<from_ then gJ dM from_ r (i+1) { S with left:=true } else
   if(dM S.T i v).2.2≠0 then({ S with T:=(dM S.T i v).1 },(dM S.T i v).2.2)else
   gJ dM from_ r (i+1) ⟨(dM S.T i v).1,if(dM S.T i v).2.1=true then kH S.b i 0 else S.b,S.left || !(dM S.T i v).2.1,S.gq || (dM S.T i v).2.1⟩
def iV(g:G)(tab:Int)(C:qm×Int):TM×Bool×Int:=
 if C.2≠0 then(C.1.T,false,C.2)else if C.1.left=false then((Spc.mj C.1.T g tab).1,false,(Spc.mj C.1.T g tab).2)else
  if C.1.gq=true then((C.1.T.write tab C.1.b).1,true,(C.1.T.write tab C.1.b).2)else(C.1.T,true,0)
def mn(dM:lQ)(T:TM)(g:G)(tab from_:Int):TM×Bool×Int:=
 if bT g tab≠0 then(T,false,bT g tab)else if(T.read tab).2≠0 then(T,false,(T.read tab).2)else
  iV g tab (gJ dM from_ (bI (T.read tab).1) 0 ⟨T,(T.read tab).1,false,false⟩)
def kj(g:G):lQ:=λT _ v=>((eO T g v).1,true,(eO T g v).2)
def yG(g:G)(first:Int):lQ:=λT i v=>((mn (kj g) T g v (first-128*i)).1,!(mn (kj g) T g v (first-128*i)).2.1,(mn (kj g) T g v (first-128*i)).2.2)
theorem zP(T:TM)(g:G)(i:Int):(Spc.mj T g i).1.ar.length<=T.ar.length+1:=by
 unfold Spc.mj
 split
 ·exact Nat.le_add_right _ _
 ·split
  ·exact Nat.le_add_right _ _
  ·split
   ·exact Nat.le_add_right _ _
   ·exact xj _ _ _ _
theorem qN(T:TM)(g:G)(v:Int):(eO T g v).1.ar.length<=T.ar.length+1:=by
 unfold eO
 split
 ·exact Nat.le_add_right _ _
 ·exact zP _ _ _
theorem zQ{dM:lQ}{from_:Int}{u:Nat}(hd:∀ T i v,(dM T i v).1.ar.length<=T.ar.length+u):∀(l:List Int) (i:Nat) (S:qm),(gJ dM from_ l i S).1.T.ar.length<=S.T.ar.length+u*l.length
 | [],_,S=>Nat.le_add_right _ _
 | v::r,i,S=>by
  rw[List.length_cons,Nat.mul_succ];unfold gJ
  split
  ·have:=zQ (from_:=from_) hd r (i+1) S;omega
  ·split
   ·have:=zQ (from_:=from_) hd r (i+1) { S with left:=true };have this:(gJ dM from_ r (i+1) { S with left:=true }).1.T.ar.length<=S.T.ar.length+u*r.length:=this;omega
   ·have h1:=hd S.T i v
    split
    ·show(dM S.T i v).1.ar.length<=_;omega
    ·have:=zQ (from_:=from_) hd r (i+1) ⟨(dM S.T i v).1,if(dM S.T i v).2.1=true then kH S.b i 0 else S.b,S.left || !(dM S.T i v).2.1,S.gq || (dM S.T i v).2.1⟩;have this:_<=(dM S.T i v).1.ar.length+u*r.length:=this;omega
theorem sX{dM:lQ}{T:TM}{g:G}(hd:∀ T i v,(dM T i v).1.ar.length<=T.ar.length+u):(mn dM T g tab from_).1.ar.length<=T.ar.length+(u*128+1):=by
 unfold mn
 split
 ·exact Nat.le_add_right _ _
 ·split
  ·exact Nat.le_add_right _ _
  ·have h:=zQ (from_:=from_) hd (bI (T.read tab).1) 0 ⟨T,(T.read tab).1,false,false⟩;rw[bM]at h;have h:_<=T.ar.length+u*128:=h;generalize gJ dM from_ (bI (T.read tab).1) 0 ⟨T,(T.read tab).1,false,false⟩=C at h;unfold iV
   split
   ·show C.1.T.ar.length<=_;omega
   ·split
    ·have:=zP C.1.T g tab;show(Spc.mj C.1.T g tab).1.ar.length<=_;omega
    ·split
     ·have:=jb C.1.T tab C.1.b;show(C.1.T.write tab C.1.b).1.ar.length<=_;omega
     ·show C.1.T.ar.length<=_;omega
theorem qO(g:G)(T:TM)(i:Nat)(v:Int):(kj g T i v).1.ar.length<=T.ar.length+1:=qN T g v
theorem Iu(g:G)(first:Int)(T:TM)(i:Nat)(v:Int):(yG g first T i v).1.ar.length<=T.ar.length+129:=sX (qO g)
theorem uf{T:TM}{g:G}{fb:Nat}{v:Int}(x:Tx h F t d T)(ok:g.ok)(e:rd h fb=hO t g R)(hu:T.ar.length<1000000000)
  (hK:∀h' F',Fr F h h'->Gw h F h' F'->Tx h' F' t d (eO T g v).1->K (vI (eO T g v).2) h'):C.iF (some ⟨fb,0,none⟩) v h K:=by
 refine iF.ok (iM e ⟨_,rfl,cn (λy=>?_) λy=>os ⟨t,bJ e rfl,os ⟨g.v,rfl,uF e rfl,tV x ok hu λh3 F3 f3 g3 x3=>⟨_,rfl,?_⟩⟩⟩⟩)
 ·have e0:eO T g v=(T,bT g v):=by unfold eO;rw[if_pos y]
  rw[e0]at hK;exact hK h F (Fr.refl _ _) (Gw.refl nL0 λb hb=>x.lt hb) x
 ·have e0:eO T g v=Spc.mj T g v:=by unfold eO;rw[if_neg (λz=>z y)]
  rw[e0]at hK;exact hK h3 F3 f3 g3 x3
theorem pJ{T:TM}{g:G}{fb:Nat}(gl:In.kJ h)(x:Tx h F t d T)(e:rd h fb=hO t g R)
  (hE:(bT g tab≠0∨(T.read tab).2≠0)->∀h',Fr No h h'->K (.tuple #[vS none 0 0,vS none 0 0,vI (if bT g tab≠0 then bT g tab else(T.read tab).2)]) h')
  (hK:bT g tab=0->(T.read tab).2=0->(T.read tab).1.length=512->∀sa sc lb h',Fr No h h'->h.size<=lb->Sl h' 1 sa 512 sc ((T.read tab).1.map bv) (λy=>h.size<=y/\y≠lb)->rd h' lb=ints (bI (T.read tab).1)->dJ h' lb->
   K (.tuple #[vS sa 512 sc,vS (some ⟨lb,0,none⟩) 128 128,vI 0]) h'):C.fE (some ⟨fb,0,none⟩) tab h K:=by
 refine fE.ok (iM e ⟨_,rfl,cn (λy=>?_) λy=>os ⟨t,bJ e rfl,Tm.cD x λsa sl sc h3 f3 el s3=>⟨_,_,_,_,rfl,cn (λy2=>?_) λy2=>?_⟩⟩⟩)
 ·have:=hE (.inl y) h (Fr.refl _ _);rw[if_pos y]at this;exact this
 ·have:=hE (.inr y2) h3 f3;rw[if_neg (λz=>z y)]at this;exact this
 have hlen:(T.read tab).1.length=512:=Tx.gX x y2;have hK:=hK y y2 hlen;rw[hlen]at el;subst el;generalize(T.read tab).1=b at hK hlen s3;refine⟨⟨by decide,by decide,by decide,by decide⟩,az.intro λh4 n4=>?_⟩;have z3:=f3.size;have z4:=n4.size;have nl:=bM b
 have r4:rd h4 h3.size=ints (List.replicate 128 0):=by
  rw[n4.rd,ints,List.map_replicate];exact TC 128
 have s4:=s3.fr n4.fr λ_ _ _ y=>y;have s4:Sl h4 1 sa 512 sc (b.map bv) (λy=>h.size<=y/\y≠h3.size):=(ki s3).fr n4.fr (λ_ _ _ y=>y) |>.mono λy hy=>⟨hy.1,by have:=hy.2;omega⟩;refine⟨λi hh=>∃j:Nat,i=j/\j<=128/\Fr (λy=>y=h3.size) h4 hh/\dJ hh h3.size/\rd hh h3.size=ints ((bI b).take j++List.replicate (128-j) 0),λi _=>((128:Int)-i).toNat,⟨0,rfl,by decide,Fr.refl _ _,n4.own,r4⟩,?_⟩;intro i h5 hI;obtain⟨j,ei,hj,f5,o5,r5⟩:=hI;have F5:Fr No h h5:=((f3.new n4).trans f5 λc hc y=>by have y:c=h3.size:=y;omega);have s5:=s4.fr f5 λc _ hc y=>hc.2 y;have c128:((Int.toNat 128:Nat):Int)=128:=rfl;rw[c128];refine cd (λhl=>?_) λhl=>?_
 ·subst ei;have k7:j<(bI b).length:=by omega
  rw[wq (4*(j:Int))];refine In.Tu (gl.no F5) s5.str (by decide) (.inr (.inr (.inl rfl))) (by omega) (by omega) ⟨_,_,rfl,⟨by omega,hl⟩,?_⟩
  have en:AE ((b.drop (4*(j:Int)).toNat).take (Int.toNat 4))=cN b j:=by
   unfold cN;rw[show(4*(j:Int)).toNat=4*j by omega];rfl
  have lt:=np b j;rw[en,wq (((cN b j:Nat):Int)),wq ((j:Int)+1),tN0];have ll:(ints ((bI b).take j++List.replicate (128-j) 0)).length=128:=by rw[af,lA0,lT0,List.length_replicate];omega
  refine aO.add o5 (by rw[r5,ll];omega) λh6 d6=>⟨⟨j+1,by omega,by omega,f5.did d6 λ_=>rfl,d6.own,?_⟩,by show((128:Int)-((j:Int)+1)).toNat<((128:Int)-(j:Int)).toNat;omega⟩;rw[d6.rd,r5,Nat.zero_add,ints,<-List.map_set];show ints _=ints _;congr 1;have lt':((bI b).take j).length=j:=by rw[lT0];omega
  rw[List.set_append_right _ _ (by omega),lt',Nat.sub_self,dQ _ _ k7,dZ k7,show 128-j=(128-(j+1))+1 by omega,List.replicate_succ,List.set_cons_zero,List.append_assoc];rfl
 ·have ej:j=128:=by omega
  subst ej;rw[Nat.sub_self,List.replicate_zero,List.append_nil,List.take_of_length_le (by omega)]at r5;exact hK sa sc h3.size h5 F5 z3 s5 r5 o5
def TE(dv:Value)(dM:lQ)(h0:ad)(F0:NP)(t d:OA)(lim:Nat):Prop:=
 ∀(hh:ad) (F:NP) (T:TM) (i:Nat) (v:Int) (K:KT),Fr F0 h0 hh->Gw h0 F0 hh F->Tx hh F t d T->T.ar.length<lim->i<128->0<v->v<4294967296->
  (∀h' F',Fr F hh h'->Gw hh F h' F'->Tx h' F' t d (dM T i v).1->K (.tuple #[.bool (dM T i v).2.1,vI (dM T i v).2.2]) h')->cT Tryz.prog dv [vI (i:Int),vI v] hh K
def aeD(fb:Nat):Value:=.func (.func 229) ⟨[vP (some ⟨fb,0,none⟩)]⟩ ⟨[]⟩
theorem GY{g:G}{fb:Nat}(ok:g.ok)(e:rd h fb=hO t g R)(hf:¬ F fb):TE (aeD fb) (kj g) h F t d 1000000000:=by
 intro hh F' T i v K f gw x hu _ _ _ hK;show C.kP (some ⟨fb,0,none⟩) (i:Int) v hh K;have fl:fb<h.size:=gr (o:=0) (by rw[e];rfl);exact kP.ok (uf x ok ((f.rd fl hf).trans e) hu λh' F2 f2 g2 x2=>⟨_,rfl,hK h' F2 f2 g2 x2⟩)
theorem MV(dM:lQ)(from_ v:Int)(r:List Int)(i:Nat)(S:qm):gJ dM from_ (v::r) i S=if v=0 then gJ dM from_ r (i+1) S else if(i:Int)<from_ then gJ dM from_ r (i+1) { S with left:=true } else
   if(dM S.T i v).2.2≠0 then({ S with T:=(dM S.T i v).1 },(dM S.T i v).2.2)else
   gJ dM from_ r (i+1) ⟨(dM S.T i v).1,if(dM S.T i v).2.1=true then kH S.b i 0 else S.b,S.left || !(dM S.T i v).2.1,S.gq || (dM S.T i v).2.1⟩:=rfl
theorem qF{T:TM}{g:G}{fb:Nat}{dM:lQ}(gl:In.kJ h)(x:Tx h F t d T)(ok:g.ok)(e:rd h fb=hO t g R)(hf:¬ F fb)(g0:∀ b,b<1->¬ F b)
  (D:TE dv dM h F t d lim) (hun:∀T i v,(dM T i v).1.ar.length<=T.ar.length+u) (hu:T.ar.length+(u*128+1)<lim) (O':lim<=1000000000)
  (hK:∀h' F',Fr F h h'->Gw h F h' F'->Tx h' F' t d (mn dM T g tab from_).1->K (.tuple #[.bool (mn dM T g tab from_).2.1,vI (mn dM T g tab from_).2.2]) h') :
  C.dF (some ⟨fb,0,none⟩) tab from_ dv h K:=by
 have fl:fb<h.size:=gr (o:=0) (by rw[e];rfl);have WO:=gl.lt;have kY:=λy (hy:F y)=>x.lt hy;refine dF.ok (pJ gl x e (λhe h2 f2=>⟨_,_,_,_,_,_,_,rfl,cn (λ_=>?_) λy=>?_⟩) λy1 y2 hlen sa sc lb h2 f2 Φ s2 r2 o2=>⟨_,_,_,_,_,_,_,rfl,cn (λy=>absurd rfl y) λ_=>?_⟩)
 ·have hK:=hK h2 F (f2.mono λ_ _ y=>y.elim) (Gw.refl f2.size kY);unfold mn at hK
  by_cases h1:bT g tab≠0
  ·rw[if_pos h1]at hK ⊢;exact hK (x.no f2)
  ·rw[if_neg h1]at hK ⊢;have h3:(T.read tab).2≠0:=he.resolve_left h1;rw[if_pos h3]at hK;exact hK (x.no f2)
 ·exfalso
  by_cases h1:bT g tab≠0
  ·rw[if_pos h1]at y;exact h1 y
  ·rw[if_neg h1]at y;exact(he.resolve_left h1) y
 have e0:mn dM T g tab from_=iV g tab (gJ dM from_ (bI (T.read tab).1) 0 ⟨T,(T.read tab).1,false,false⟩):=by unfold mn;rw[if_neg (λz=>z y1),if_neg (λz=>z y2)]
 rw[e0]at hK;have nl:=bM (T.read tab).1
 have nlt:∀j (hj:j<(bI (T.read tab).1).length),0<=(bI (T.read tab).1)[j]/\(bI (T.read tab).1)[j]<4294967296:=λj hj=>by
  rw[dZ hj];have:=np (T.read tab).1 j;omega
 generalize(T.read tab).1=b0 at hK hlen s2 r2 nl nlt;generalize bI b0=ns at hK r2 nl nlt;have z2:=f2.size;have G2:Gw h F h2 F:=Gw.refl z2 kY;obtain⟨N,hN⟩:∃N:Int,N=128:=⟨_,rfl⟩
 refine⟨λleft gq i hh=>∃(j:Nat) (F':NP) (T':TM) (b':cL),i=j/\j<=128/\Fr (λy=>F y∨h.size<=y) h hh/\h2.size<=hh.size/\Gw h2 F hh F'/\Tx hh F' t d T'/\b'.length=512/\Sl hh 1 sa 512 sc (b'.map bv) (λy=>h.size<=y/\y≠lb/\y<h2.size)/\rd hh lb=ints ns/\T'.ar.length<=T.ar.length+u*j/\
   gJ dM from_ (ns.drop j) j ⟨T',b',left,gq⟩=gJ dM from_ ns 0 ⟨T,b0,false,false⟩,λ_ _ i _=>((128:Int)-i).toNat,
  ⟨0,F,T,b0,rfl,by decide,f2.mono (λ_ _ y=>y.elim),nL0,Gw.refl nL0 (λb hb=>Nat.lt_of_lt_of_le (kY b hb) z2),x.no f2,hlen,(ki s2).mono λy hy=>⟨hy.1.1,hy.1.2,hy.2⟩,r2,nL0,by rw[List.drop_zero]⟩,?_⟩
 intro left gq i h3 hI;obtain⟨j,F',T',b',ei,hj,f3,zz,g3,x3,lb',s3,r3,u3,ew⟩:=hI;have Cf:∀y,y<h2.size->(F' y↔F y):=g3.old;have F3:Fr F h h3:=f3.mono λc hc y=>y.resolve_right (by omega);have G3:Gw h F h3 F':=G2.trans g3 z2;have lbl:lb<h2.size:=o2.lt;have hju:u*j<=u*128:=Nat.mul_le_mul_left _ hj;refine cd (λhl=>?_) λhl=>?_
 ·subst ei;have k7:j<ns.length:=by omega
  have YU:j<128:=by omega
  rw[drop_cons k7,MV]at ew;have nj:=nlt j k7;rw[tN0];have cv:cellOf h3 (Addr.add ⟨lb,0,none⟩ j)=some (vI ns[j]):=bJ r3 (by rw[Nat.zero_add,ints,lG0,List.getElem?_eq_getElem k7];rfl);have wr:wI ((j:Int)+1)=((j+1:Nat):Int):=by rw[wrap_i64 (by omega) (by omega)];omega
  have me:((128:Int)-((j+1:Nat):Int)).toNat<((128:Int)-(j:Int)).toNat:=by omega
  have hu1:u*j<=u*(j+1):=Nat.mul_le_mul_left _ (Nat.le_succ j);refine⟨⟨by omega,hl⟩,os ⟨_,cv,ce (λy=>?_) λy=>cd (λy2=>?_) λy2=>?_⟩⟩
  ·rw[if_pos y]at ew;rw[wr];exact⟨⟨j+1,F',T',b',rfl,YU,f3,zz,g3,x3,lb',s3,r3,by omega,ew⟩,me⟩
  ·rw[if_neg y,if_pos y2]at ew;rw[wr];exact⟨⟨j+1,F',T',b',rfl,YU,f3,zz,g3,x3,lb',s3,r3,by omega,ew⟩,me⟩
  rw[if_neg y,if_neg y2]at ew;refine D h3 F' T' j (ns[j]'k7) _ F3 G3 x3 (by omega) YU (by omega) nj.2 λh4 F4 f4 g4 x4=>⟨_,_,rfl,?_⟩;have hd:=hun T' j (ns[j]'k7);have hm:u*(j+1)=u*j+u:=Nat.mul_succ u j;generalize dM T' j (ns[j]'k7)=W at ew x4 hd;obtain⟨T4,gone,e4⟩:=W;simp only at ew x4 hd;have z4:=f4.size;have F4':Fr F h h4:=F3.trans f4 λc hc y=>(Cf c (by omega)).mp y;have nF:∀c,h.size<=c->c<h2.size->¬F' c:=λc h1 tP y=>by have:=kY c ((Cf c tP).mp y);omega
  refine cn (λhe=>?_) λhe=>?_
  ·rw[if_pos he]at ew;rw[<-ew]at hK;have hK:=hK h4 F4 F4' (G3.trans g4 F3.size);unfold iV at hK;rw[if_pos he]at hK;exact hK x4
  rw[if_neg (λz=>z he)]at ew;have s4:=s3.fr f4 λc _ hc y=>nF c hc.1 hc.2.2 y;have r4:rd h4 lb=ints ns:=(f4.rd (by omega) (nF lb Φ lbl)).trans r3;have g24:Gw h2 F h4 F4:=g3.trans g4 zz;have fr4:Fr (λy=>F y∨h.size<=y) h h4:=F4'.mono λ_ _ y=>.inl y
  -- behind the drop, at h6
  have go:∀(h6:ad) (b6:cL),Fr (λy=>F y∨h.size<=y) h h6->h2.size<=h6.size->Gw h2 F h6 F4->Tx h6 F4 t d T4->b6.length=512->Sl h6 1 sa 512 sc (b6.map bv) (λy=>h.size<=y/\y≠lb/\y<h2.size)->rd h6 lb=ints ns->
    gJ dM from_ (ns.drop (j+1)) (j+1) ⟨T4,b6,left || !gone,gq || gone⟩=gJ dM from_ ns 0 ⟨T,b0,false,false⟩->
    dF.k1 left gq (j:Int) h3 (λleft gq i hh=>∃(j:Nat) (F':NP) (T':TM) (b':cL),i=j/\j<=128/\Fr (λy=>F y∨h.size<=y) h hh/\h2.size<=hh.size/\Gw h2 F hh F'/\Tx hh F' t d T'/\b'.length=512/\Sl hh 1 sa 512 sc (b'.map bv) (λy=>h.size<=y/\y≠lb/\y<h2.size)/\rd hh lb=ints ns/\T'.ar.length<=T.ar.length+u*j/\
     gJ dM from_ (ns.drop j) j ⟨T',b',left,gq⟩=gJ dM from_ ns 0 ⟨T,b0,false,false⟩) (λ_ _ i _=>((128:Int)-i).toNat) gone h6 K:=λh6 b6 a1 a2 a3 a4 a5 a6 a7 a8=>by
   unfold dF.k1;rw[wr]
   cases left <;> cases gq <;> exact⟨⟨j+1,F4,T4,b6,rfl,YU,a1,a2,a3,a4,a5,a6,a7,by omega,a8⟩,me⟩
  cases gone with
  | false=>exact go h4 b' fr4 (by omega) g24 x4 lb' s4 r4 ew
  | true=>
   obtain⟨⟨pb,po,sp⟩,ep,_⟩:=s4.get (by decide);subst ep;have DX:sp=none:=s4.2.1;subst DX;have k4:=s4.2.2.1;have k4:h.size<=pb/\pb≠lb/\pb<h2.size:=k4;have gl4:In.kJ h4:=gl.fr F4' g0;rw[wq (4*(j:Int))];refine In.GX (v:=0) gl4 s4 (by decide) (.inr (.inr rfl)) (by omega) (by omega) (by decide) λh5 f5 s5=>⟨_,rfl,?_⟩
   have e5:iH b' (4*(j:Int)).toNat (br (Int.toNat 4) 0)=kH b' j 0:=by
    unfold kH;rw[show(4*(j:Int)).toNat=4*j by omega];rfl
   rw[e5]at s5;have z5:=f5.size;refine go h5 (kH b' j 0) (fr4.trans f5 λc hc y=>?_) (by omega) ⟨g24.old,λb hb=>Nat.lt_of_lt_of_le (g24.lt b hb) z5⟩ (x4.fr f5 λc hc y=>?_) (kg lb' YU) s5 ((f5.rd (by omega) λy=>k4.2.1 y.symm).trans r4) ew
   ·have y:c=pb:=y;omega
   ·have y:c=pb:=y;rw[y]at hc;have:=(g24.old pb k4.2.2).mp hc;have:=kY _ this;omega
 ·have ej:j=128:=by omega
  subst ej;have ed:ns.drop 128=[]:=List.drop_eq_nil_of_le (by omega);rw[ed]at ew;have ew:((⟨T',b',left,gq⟩:qm),(0:Int))=gJ dM from_ ns 0 ⟨T,b0,false,false⟩:=ew;rw[<-ew]at hK;have rf:rd h3 fb=_:=(F3.rd fl hf).trans e;unfold iV at hK;rw[if_neg (λz=>z rfl)]at hK
  cases left with
  | false=>
   rw[if_pos rfl]at hK;refine ct rfl (os ⟨t,bJ rf rfl,os ⟨g.v,rfl,uF rf rfl,tV x3 ok (by omega) λh7 F7 f7 g7 x7=>⟨_,rfl,?_⟩⟩⟩);exact hK h7 F7 (F3.trans f7 λc hc y=>(Cf c (by omega)).mp y) (G3.trans g7 F3.size) x7
  | true=>
   rw[if_neg (by simp)]at hK;refine cf rfl ?_
   cases gq with
   | true=>
    rw[if_pos rfl]at hK;refine ct rfl (os ⟨t,bJ rf rfl,Tm.eF x3 s3.str (by decide) (λp ep y=>?_) (by omega) λh8 F8 f8 g8 x8=>⟨_,rfl,?_⟩⟩)
    ·have k3:h.size<=p.block/\p.block≠lb/\p.block<h2.size:=by
      rw[ep]at s3;exact s3.2.2.1
     have:=kY _ ((Cf _ k3.2.2).mp y);omega
    ·exact hK h8 F8 (F3.trans f8 λc hc y=>(Cf c (by omega)).mp y) (G3.trans g8 F3.size) x8
   | false=>
    rw[if_neg (by simp)]at hK;exact cf rfl (hK h3 F' F3 G3 x3)
def fQ(g:G):List Nat->TM->List Int->(TM×List Int)×Int
 | [],T,R=>((T,R),0)
 | i::r,T,R=>if R.getD (3+i) 0=0 then fQ g r T R else if(eO T g (R.getD (3+i) 0)).2≠0 then(((eO T g (R.getD (3+i) 0)).1,R),(eO T g (R.getD (3+i) 0)).2)else
   fQ g r (eO T g (R.getD (3+i) 0)).1 (R.set (3+i) 0)
def fI(i:Nat)(R:List Int)(C:TM×Bool×Int):(TM×List Int)×Int:=if C.2.2≠0 then((C.1,R),C.2.2)else((C.1,if C.2.1=true then R else R.set i 0),0)
def oN(g:G)(k:Int)(T:TM)(R:List Int):(TM×List Int)×Int:=if k<138/\R.getD 13 0≠0 then fI 13 R (mn (kj g) T g (R.getD 13 0) (k-10))else((T,R),0)
def firstM(k:Int):Int:=if k-138>0 then k-138 else 0
def sH(g:G)(k:Int)(T:TM)(R:List Int):(TM×List Int)×Int:=if k<16522/\R.getD 14 0≠0 then fI 14 R (mn (yG g (firstM k)) T g (R.getD 14 0) (firstM k/128))else((T,R),0)
def mr(k:Int):List Nat:=List.range' k.toNat (10-k.toNat)
def lK(g:G)(k:Int)(T:TM)(R:List Int):(TM×List Int)×Int:=
 if(fQ g (mr k) T R).2≠0 then fQ g (mr k) T R else
 if(oN g k (fQ g (mr k) T R).1.1 (fQ g (mr k) T R).1.2).2≠0 then oN g k (fQ g (mr k) T R).1.1 (fQ g (mr k) T R).1.2 else
  sH g k (oN g k (fQ g (mr k) T R).1.1 (fQ g (mr k) T R).1.2).1.1 (oN g k (fQ g (mr k) T R).1.1 (fQ g (mr k) T R).1.2).1.2
def fA(T:TM)(g:G)(R:List Int)(k:Int):TM×List Int×Int:=
 if k<0∨k>16522 then(T,kS,101)else if(lK g k T R).2≠0 then(((lK g k T R).1.1.back T.ar.length).1,kS,(lK g k T R).2)else((lK g k T R).1.1,(lK g k T R).1.2,0)
structure WV where
 yb:Nat
 eb:Nat
 ob:Nat
 tb:Nat
 mb:Nat
 bk:Nat
 fb:Nat
 pb:Nat
structure WV.Ok(I:WV):Prop where
 a1:I.yb<I.eb
 a2:I.eb<I.ob
 a3:I.eb<I.tb
 a4:I.eb<I.mb
 a5:I.ob<I.bk
 a6:I.tb<I.bk
 a7:I.mb<I.bk
 a8:I.bk<I.fb
 a9:I.fb<I.pb
structure CX(h:ad)(F:NP)(t d:OA)(T0:TM)(g:G)(I:WV)(hh:ad)(F':NP)(T':TM)(R':List Int)(u:Nat):Prop where
 ok:I.Ok
 lo:h.size<=I.yb
 hi:I.pb<hh.size
 fr:Fr F h hh
 gw:Gw h F hh F'
 x:Tx hh F' t d T'
 un:T'.ar.length<=u
 len:R'.length=15
 ry:rd hh I.yb=ints kS
 oy:dJ hh I.yb
 re:rd hh I.eb=[vI 0]
 oe:dJ hh I.eb
 rb:rd hh I.bk=[gdV I.ob I.tb I.mb]
 rp:rd hh I.pb=[vP (some ⟨I.fb,0,none⟩)]
 rf:rd hh I.fb=hO t g R'
 of_:dJ hh I.fb
 gd:Gd hh I.ob I.tb I.mb t T0.mark
 nF:∀b,I.yb<=b->b<=I.pb->¬F' b
theorem CX.call{vu:NP}{T0 T' OB:TM}{g:G}{I:WV}{u':Nat}(c:CX h F t d T0 g I hh F' T' R' u)(f:Fr F' hh h')(gw:Gw hh F' h' vu)(x:Tx h' vu t d OB)(un:OB.ar.length<=u'):CX h F t d T0 g I h' vu OB R' u':=by
 obtain⟨a1,a2,a3,a4,a5,a6,a7,a8,a9⟩:=c.ok;have hi:=c.hi;have z:=f.size;have q:∀b,I.yb<=b->b<=I.pb->rd h' b=rd hh b:=λb h1 h2=>f.rd (by omega) (c.nF b h1 h2);have w:∀b,I.yb<=b->b<=I.pb->dJ hh b->dJ h' b:=λb h1 h2 o=>f.own (by omega) (c.nF b h1 h2) o;have lo:=c.lo
 exact⟨c.ok,c.lo,by omega,c.fr.trans f λb hb y=>(c.gw.old b hb).mp y,c.gw.trans gw c.fr.size,x,un,c.len,(q _ (by omega) (by omega)).trans c.ry,w _ (by omega) (by omega) c.oy,(q _ (by omega) (by omega)).trans c.re,w _ (by omega) (by omega) c.oe,
  (q _ (by omega) (by omega)).trans c.rb,(q _ (by omega) (by omega)).trans c.rp,(q _ (by omega) (by omega)).trans c.rf,w _ (by omega) (by omega) c.of_,
  ⟨(q _ (by omega) (by omega)).trans c.gd.o,(q _ (by omega) (by omega)).trans c.gd.t,(q _ (by omega) (by omega)).trans c.gd.m⟩,λb h1 h2 y=>c.nF b h1 h2 ((gw.old b (by omega)).mp y)⟩
theorem CX.no{h hh h':ad}{F F':NP}{t d:OA}{T0 T':TM}{g:G}{I:WV}{R':List Int}{u:Nat}(c:CX h F t d T0 g I hh F' T' R' u)(f:Fr No hh h'):CX h F t d T0 g I h' F' T' R' u:=
 c.call (f.mono λ_ _ y=>y.elim) (Gw.refl f.size λb hb=>c.x.lt hb) (c.x.no f) c.un
theorem CX.aaF{T0 T':TM}{g:G}{I:WV}{WW:List Int}(c:CX h F t d T0 g I hh F' T' R' u)(dd:rW I.fb hh h' (hO t g WW))(hl:WW.length=15):CX h F t d T0 g I h' F' T' WW u:=by
 obtain⟨a1,a2,a3,a4,a5,a6,a7,a8,a9⟩:=c.ok;have hi:=c.hi;have lo:=c.lo;have z:=dd.size;have q:∀b,I.yb<=b->b<=I.pb->b≠I.fb->rd h' b=rd hh b:=λb h1 h2 h3=>dd.at_ (by omega) h3
 exact⟨c.ok,c.lo,by omega,c.fr.did dd λhl=>by omega,⟨c.gw.old,λb hb=>Nat.lt_of_lt_of_le (c.gw.lt b hb) dd.fr.size⟩,c.x.fr dd.fr λb hb y=>c.nF I.fb (by omega) (by omega) (by have y:b=I.fb:=y;rw[<-y];exact hb),c.un,hl,(q _ (by omega) (by omega) (by omega)).trans c.ry,dd.ow c.oy,(q _ (by omega) (by omega) (by omega)).trans c.re,dd.ow c.oe,
  (q _ (by omega) (by omega) (by omega)).trans c.rb,(q _ (by omega) (by omega) (by omega)).trans c.rp,dd.rd,dd.own,
  ⟨(q _ (by omega) (by omega) (by omega)).trans c.gd.o,(q _ (by omega) (by omega) (by omega)).trans c.gd.t,(q _ (by omega) (by omega) (by omega)).trans c.gd.m⟩,c.nF⟩
theorem CX.fin{T0 T':TM}{g:G}{I:WV}{Y:List Int}(c:CX h F t d T0 g I hh F' T' R' u)(hu:u<1000000000)(hY:Y.length=15)(em:T0.mark=((T0.ar.length:Int),0))
  (hK:∀h' F',Fr F h h'->Gw h F h' F'->Tx h' F' t d (if e≠0 then(T'.back T0.ar.length).1 else T')->K (.tuple #[.agg ⟨ints (if e≠0 then kS else Y)⟩,vI e]) h') :
  ax ⟨I.yb,0,none⟩ (ints Y) 15 hh λh1=>aO ⟨I.eb,0,none⟩ (vI e) h1 λh2=>D.bN (some ⟨I.bk,0,none⟩) (some ⟨I.eb,0,none⟩) (some ⟨I.yb,0,none⟩) h2 λh3=>
   ∃bL:LV,List.length bL=15/\aj h3 ⟨I.yb,0,none⟩ bL/\∃(dY:Int),cellOf h3 ⟨I.eb,0,none⟩=some (vI dY)/\K (.tuple #[.agg ⟨bL⟩,vI dY]) h3:=by
 obtain⟨a1,a2,a3,a4,a5,a6,a7,a8,a9⟩:=c.ok;have hi:=c.hi;have lo:=c.lo;refine ax.intro c.oy (by rw[af,hY]) (aA _) (by rw[c.ry];exact nL0) λh1 d1=>aO.intro (d1.ow c.oe) (by rw[d1.at_,c.re];exact Nat.zero_lt_one) λh2 d2=>?_;have z1:=d1.size;have z2:=d2.size;have f2:Fr (λb=>b=I.yb∨b=I.eb) hh h2:=((Fr.refl _ _).did d1 λ_=>.inl rfl).did d2 λ_=>.inr rfl;have ry:rd h2 I.yb=ints Y:=by rw[d2.at_,d1.rd,c.ry];exact dC _ _ (by rw[af,hY];rfl)
 have re:rd h2 I.eb=[vI e]:=by rw[d2.rd,d1.at_,c.re];rfl
 have oy:dJ h2 I.yb:=d2.ow d1.own
 have x2:Tx h2 F' t d T':=c.x.fr f2 λb hb y=>by
  rcases y with rfl|rfl
  ·exact c.nF _ (by omega) (by omega) hb
  ·exact c.nF _ (by omega) (by omega) hb
 have gd2:Gd h2 I.ob I.tb I.mb t T0.mark:=c.gd.fr f2 (by rintro(y|y) <;> omega) (by rintro(y|y) <;> omega) (by rintro(y|y) <;> omega);have rb:rd h2 I.bk=[gdV I.ob I.tb I.mb]:=(f2.rd (by omega) (by rintro(y|y) <;> omega)).trans c.rb;have un:=c.un;refine bN.CN (os ⟨_,cI rb rfl,os ⟨_,cI re rfl,xS x2 gd2 (by omega) λh3 f3 x3=>⟨rfl,?_⟩⟩⟩);have z3:=f3.size;have F3:Fr F h h3:=(c.fr.trans f2 λb hb y=>by rcases y with y|y <;> omega).trans f3 λb hb y=>(c.gw.old b hb).mp y;have G3:Gw h F h3 F':=⟨c.gw.old,λb hb=>Nat.lt_of_lt_of_le (c.gw.lt b hb) (by omega)⟩;have re3:rd h3 I.eb=[vI e]:=(f3.rd (by omega) (c.nF _ (by omega) (by omega))).trans re;have ry3:rd h3 I.yb=ints Y:=(f3.rd (by omega) (c.nF _ (by omega) (by omega))).trans ry;rw[em]at x3;refine os ⟨_,cI re3 rfl,cn (λhe=>?_) λhe=>?_⟩
 ·rw[if_pos ⟨he,rfl⟩]at x3;rw[if_pos he,if_pos he]at hK;refine os (ax.intro (f3.own (by omega) (c.nF _ (by omega) (by omega)) oy) rfl CD (by rw[ry3,af,hY];exact nL0) λh4 d4=>?_);have z4:=d4.size;refine⟨ints kS,rfl,ah ?_,e,cI (xs:=[vI e]) ((d4.at_).trans re3) rfl,hK h4 F' (F3.did d4 λhl=>by omega) ⟨G3.old,λb hb=>Nat.lt_of_lt_of_le (G3.lt b hb) d4.fr.size⟩ (x3.fr d4.fr λb hb y=>c.nF I.yb (by omega) (by omega) (by have y:b=I.yb:=y;rw[<-y];exact hb))⟩;rw[d4.rd,ry3];exact dC _ _ (by rw[af,hY];rfl)
 ·rw[if_neg (λy=>y.1 he)]at x3;rw[if_neg (λy=>y he),if_neg (λy=>y he)]at hK;exact⟨ints Y,by rw[af,hY],ah ry3,e,cI re3 rfl,hK h3 F' F3 G3 x3⟩
def tabV(pb xb:Nat):Value:=.func (.func 230) #[] ⟨[vP (some ⟨pb,0,none⟩),vP (some ⟨xb,0,none⟩)]⟩
theorem TF{g:G}{fb xb:Nat}{first:Int}(gl:In.kJ h)(ok:g.ok)(e:rd h fb=hO t g R)(hf:¬ F fb/\¬ F pb/\¬ F xb)(g0:∀ b,b<1->¬ F b)(rp:rd h pb=[vP (some ⟨fb,0,none⟩)])(rx:rd h xb=[vI first])
  (h0:0<=first) (h1:first<100000) (kY:∀b,F b->b<h.size):TE (tabV pb xb) (yG g first) h F t d 999999000:=by
 intro hh F' T i v K f gw x hu hi _ _ hK;show C.oY (i:Int) v (some ⟨pb,0,none⟩) (some ⟨xb,0,none⟩) hh K;have fl:fb<h.size:=gr (o:=0) (by rw[e];rfl);have pl:pb<h.size:=gr (o:=0) (by rw[rp];rfl);have xl:xb<h.size:=gr (o:=0) (by rw[rx];rfl);have WO:=gl.lt;have ef:rd hh fb=hO t g R:=(f.rd fl hf.1).trans e;have hf':¬F' fb:=λy=>hf.1 ((gw.old _ fl).mp y);have g0':∀b,b<1->¬F' b:=λb hb y=>g0 b hb ((gw.old b (by omega)).mp y);have rp':=(f.rd pl hf.2.1).trans rp;refine oY.ok (os ⟨_,cI rp' rfl,os ⟨_,cI ((f.rd xl hf.2.2).trans rx) rfl,os ⟨_,cI rp' rfl,?_⟩⟩⟩);rw[wq ((i:Int)*128),wq (first-(i:Int)*128),show first-(i:Int)*128=first-128*(i:Int) by omega];exact qF (gl.fr f g0) x ok ef hf' g0' (GY ok ef hf') (qO g) (by omega) nL0 λh' F2 f2 g2 x2=>⟨_,_,rfl,hK h' F2 f2 g2 x2⟩
theorem YV{k:Nat}{v:Value}(e:rd h b=xs)(hv:xs[i+(j+k)]?=some v):cellOf h (Addr.add (Addr.add (Addr.add ⟨b,0,none⟩ i) j) k)=some v:=by
 rw[bm,bm,bm,jX,e,show 0+i+j+k=i+(j+k) by omega];exact hv
def Goal(h:ad)(F:NP)(t d:OA)(T:TM)(K:KT)(E:(TM×List Int)×Int):Prop:=
 ∀h' F',Fr F h h'->Gw h F h' F'->Tx h' F' t d (if E.2≠0 then(E.1.1.back T.ar.length).1 else E.1.1)->K (.tuple #[.agg ⟨ints (if E.2≠0 then kS else E.1.2)⟩,vI E.2]) h'
theorem jj{fb:Nat}{g:G}(e:rd h fb=hO t g R):aj h (Addr.add ⟨fb,0,none⟩ 6) (ints R):=by
 refine uF e ?_;show(ints R).take _=_;exact List.take_of_length_le nL0
section
variable{h : ad}{F : Nat -> Prop}{t d : OA}{T : TM}{g : G}{I : WV}{K : Value -> ad -> Prop}{k : Int}
theorem TG(gl:In.kJ h)(ok:g.ok)(g0:∀ b,b<1->¬ F b)(em:T.mark=((T.ar.length:Int),0))(h0:0<=k)(h1:k<=16522){h3 h4 bQ cM hh:ad}{F':NP}{T':TM}{R':List Int}{u:Nat}(c:CX h F t d T g I hh F' T' R' u)(hu:u<999900000)
  (e1:h3.size=I.yb) (e2:h4.size=I.eb) (e3:bQ.size=I.bk) (e4:cM.size=I.pb) (hK:Goal h F t d T K (sH g k T' R')):gZ.k2 k h3 h4 bQ cM hh K:=by
 obtain⟨a1,a2,a3,a4,a5,a6,a7,a8,a9⟩:=c.ok;have lo:=c.lo;have hi:=c.hi;have WO:=gl.lt;have g0':∀b,b<1->¬F' b:=λb hb y=>g0 b hb ((c.gw.old b (by omega)).mp y);have glh:In.kJ hh:=gl.fr c.fr g0;unfold gZ.k2;rw[e1,e2,e3,e4]
 -- nothing to cut
 have none_:sH g k T' R'=((T',R'),0)->∃cs,List.length cs=15/\aj hh (Addr.add ⟨I.fb,0,none⟩ 6) cs/\ax ⟨I.yb,0,none⟩ cs 15 hh λh1=>aO ⟨I.eb,0,none⟩ (vI 0) h1 λh2=>D.bN (some ⟨I.bk,0,none⟩) (some ⟨I.eb,0,none⟩) (some ⟨I.yb,0,none⟩) h2 λh3=>
   ∃bL:LV,List.length bL=15/\aj h3 ⟨I.yb,0,none⟩ bL/\∃(dY:Int),cellOf h3 ⟨I.eb,0,none⟩=some (vI dY)/\K (.tuple #[.agg ⟨bL⟩,vI dY]) h3:=λe=>by
  rw[e]at hK;exact⟨ints R',by rw[af,c.len],jj c.rf,c.fin (e:=0) (by omega) c.len em hK⟩
 refine cd (λy=>⟨_,cI c.rp rfl,os ⟨_,Ef c.rf (rN (i:=14) (by rw[c.len];decide)),cn (λy2=>?_) λy2=>?_⟩⟩) λy=>⟨_,cI c.rp rfl,os (none_ ?_)⟩
 ·have e0:sH g k T' R'=fI 14 R' (mn (yG g (firstM k)) T' g (R'.getD 14 0) (firstM k/128)):=by unfold sH;rw[if_pos ⟨y,y2⟩]
  rw[e0]at hK;rw[wq (k-138)];have ef:(if k-138>0 then k-138 else 0)=firstM k:=rfl;rw[ef];have fr0:0<=firstM k/\firstM k<100000:=by unfold firstM;split <;> omega
  refine az.intro λIV n29=>aO.intro n29.own (by rw[n29.rd];decide) λEK d30=>?_;have z29:=n29.size;have z30:=d30.size;have F30:Fr No hh EK:=n29.fr.did d30 λhl=>by omega
  have WX:=c.no F30;have rx:rd EK hh.size=[vI (firstM k)]:=by rw[d30.rd,n29.rd];rfl
  have nx:¬F' hh.size:=λy=>by have:=c.x.lt y;omega
  refine⟨_,cI WX.rp rfl,_,cI WX.rp rfl,os ⟨_,Ef WX.rf (rN (i:=14) (by rw[c.len];decide)),_,cI rx rfl,?_⟩⟩;have ed:Int.tdiv (firstM k) 128=firstM k/128:=Int.tdiv_eq_ediv_of_nonneg fr0.1;rw[ed,wq (firstM k/128)];have un:=c.un;have nfb:=c.nF I.fb (by omega) (by omega);refine qF (u:=129) (lim:=999999000) (glh.no F30) WX.x ok WX.rf nfb g0' (TF (glh.no F30) ok WX.rf ⟨nfb,c.nF I.pb (by omega) (by omega),nx⟩ g0' WX.rp rx fr0.1 fr0.2 λb hb=>WX.x.lt hb) (Iu g (firstM k)) (by omega) (by decide) λwQ F31 f31 g31 x31=>⟨_,_,rfl,?_⟩;have hun:=sX (T:=T') (g:=g) (tab:=R'.getD 14 0) (from_:=firstM k/128) (Iu g (firstM k));generalize mn (yG g (firstM k)) T' g (R'.getD 14 0) (firstM k/128)=C at hK x31 hun;obtain⟨T3,left,er⟩:=C;simp only at x31 hun;have UF:=WX.call f31 g31 x31 (u':=u+20000) (by omega);unfold fI at hK;refine cn (λhe=>?_) λhe=>jV ?_
  ·rw[if_pos he]at hK
   exact⟨ints kS,rfl,ah UF.ry,UF.fin (Y:=kS) (e:=er) (by omega) rfl em (by
    intro h' F2 f2 g2 x2;have:=hK h' F2 f2 g2;simp only at this;rw[if_pos he]at x2 this;rw[if_pos he];rw[if_pos he]at this
    exact this x2)⟩
  ·have he:er=0:=he;rw[if_neg (λz=>z he)]at hK
   cases left with
   | true=>
    exact ct rfl ⟨_,cI UF.rp rfl,os ⟨ints R',by rw[af,c.len],jj UF.rf,UF.fin (e:=0) (by omega) c.len em hK⟩⟩
   | false=>
    refine cf rfl ⟨_,cI UF.rp rfl,os ?_⟩;rw[bm,bm];refine aO.intro UF.of_ (by rw[UF.rf,xn c.len];decide) λBD d35=>?_
    have d35:rW I.fb wQ BD (hO t g (R'.set 14 0)):=by
     have:=d35;rw[UF.rf,show 0+6+14=6+14 by rfl,xm]at this;exact this
    have c35:=UF.aaF d35 (by rw[List.length_set];exact c.len);exact⟨_,cI c35.rp rfl,os ⟨ints (R'.set 14 0),by rw[af,c35.len],jj c35.rf,c35.fin (e:=0) (by omega) c35.len em hK⟩⟩
 ·refine⟨_,cI c.rp rfl,os (none_ ?_)⟩;unfold sH;rw[if_neg (λz=>z.2 y2)]
 ·unfold sH;rw[if_neg (λz=>y z.1)]
end
theorem Ek{T:TM}{g:G}(gl:In.kJ h)(ok:g.ok)(x:Tx h F t d T)(live:T.over=false)(hR:R.length=15)(g0:∀ b,b<1->¬ F b)(hu:T.ar.length<900000000)
  (hK:∀h' F',Fr F h h'->Gw h F h' F'->Tx h' F' t d (fA T g R k).1->K (.tuple #[.agg ⟨ints (fA T g R k).2.1⟩,vI (fA T g R k).2.2]) h'):C.gZ t g.v (ints R) k h K:=by
 have kY:=λy (hy:F y)=>x.lt hy;have WO:=gl.lt;refine gZ.ok (az.intro λh2 n2=>az.intro λh3 n3=>az.intro λh4 n4=>az.intro λh5 n5=>?_);have z2:=n2.size;have z3:=n3.size;have z4:=n4.size;have z5:=n5.size;have F5:Fr No h h5:=((n2.fr.new n3).new n4).new n5;have ry:rd h5 h3.size=ints kS:=(n5.at_).trans n4.rd;have oy:dJ h5 h3.size:=n5.ow n4.own;have re:rd h5 h4.size=[vI 0]:=n5.rd;have oe':dJ h5 h4.size:=n5.own
 by_cases hk:0<=k/\k<=16522
 rotate_left
 ·have e0:fA T g R k=(T,kS,101):=by unfold fA;rw[if_pos (by omega)]
  rw[e0]at hK
  have GV:ax (bA h3) (ints kS) 15 h5 λh8=>aO (bA h4) (vI 101) h8 λcB=>
    ∃bL:LV,List.length bL=15/\aj cB (bA h3) bL/\∃(dY:Int),cellOf cB (bA h4)=some (vI dY)/\K (.tuple #[.agg ⟨bL⟩,vI dY]) cB:=by
   refine ax.intro oy rfl CD (by rw[ry];exact nL0) λh8 d8=>aO.intro (d8.ow oe') (by rw[d8.at_,re];decide) λcB d10=>?_;have z8:=d8.size;have JX:Fr No h cB:=(F5.did d8 λhl=>by omega).did d10 λhl=>by omega
   refine⟨ints kS,rfl,ah ?_,101,cI (xs:=[vI 101]) ?_ rfl,hK cB F (JX.mono λ_ _ y=>y.elim) (Gw.refl JX.size kY) (x.no JX)⟩
   ·rw[d10.at_,d8.rd,ry];exact dC _ _ rfl
   ·rw[d10.rd,d8.at_,re];rfl
  exact cd (λ_=>GV) λy=>cd (λ_=>GV) λy2=>by exfalso;omega
 refine cd (λy=>by exfalso;omega) λ_=>cd (λy=>by exfalso;omega) λ_=>?_;have rg:rd h5 h.size=g.v:=(n5.at_).trans ((n4.at_).trans ((n3.at_).trans n2.rd));have rx:rd h5 h2.size=ints R:=(n5.at_).trans ((n4.at_).trans n3.rd);unfold gZ.k1;refine Ei (x.no F5) λob tb mb bQ f11 b1 b2 b3 gd=>⟨_,_,_,rfl,az.intro λcG n12=>?_⟩;have Pz:=f11.size;have z12:=n12.size;obtain⟨WQ,WR,WS⟩:=gd.lt;refine aO.intro n12.own (by rw[n12.rd];decide) λcg d13=>?_;have V8:=d13.size;have BB:∀b,b<bQ.size->rd cg b=rd bQ b:=λb hb=>(d13.at_).trans (n12.at_ hb);have q5:∀b,b<h5.size->rd bQ b=rd h5 b:=λb hb=>f11.rd hb λy=>y;refine⟨g.v,rfl,ah ((BB _ (by omega)).trans ((q5 _ (by omega)).trans rg)),ints R,by rw[af,hR],ah ((BB _ (by omega)).trans ((q5 _ (by omega)).trans rx)),rfl,by rw[af,hR],az.intro λcM n14=>az.intro λfg n15=>?_⟩;have Sg:=n14.size;have z15':=n15.size;refine aO.intro n15.own (by rw[n15.rd];decide) λiY d16=>?_;have z16:=d16.size;have Lj:∀b,b<cg.size->rd iY b=rd cg b:=λb hb=>(d16.at_).trans ((n15.at_).trans (n14.at_ hb));have o16:∀{b},dJ h5 b->dJ iY b:=λw=>d16.ow (n15.ow (n14.ow (d13.ow (n12.ow (f11.own w.lt (λy=>y) w)))));have QM:Fr No h cg:=((F5.no f11).new n12).did d13 λhl=>by omega
 have F16:Fr No h iY:=((QM.new n14).new n15).did d16 λhl=>by omega
 have s5:=F5.size;have em:T.mark=((T.ar.length:Int),0):=by unfold TM.mark;rw[live,if_neg (by simp)]
 have c16:CX h F t d T g ⟨h3.size,h4.size,ob,tb,mb,bQ.size,cg.size,cM.size⟩ iY F T R T.ar.length:=by
  refine⟨⟨by show h3.size<h4.size;omega,by show h4.size<ob;omega,by show h4.size<tb;omega,by show h4.size<mb;omega,WQ,WR,WS,by show bQ.size<cg.size;omega,by show cg.size<cM.size;omega⟩,by show h.size<=h3.size;omega,by show cM.size<iY.size;omega,F16.mono λ_ _ y=>y.elim,Gw.refl F16.size kY,x.no F16,nL0,hR,
   (Lj h3.size (by omega)).trans ((BB _ (by omega)).trans ((q5 _ (by omega)).trans ry)),o16 oy,(Lj h4.size (by omega)).trans ((BB _ (by omega)).trans ((q5 _ (by omega)).trans re)),o16 oe',(Lj bQ.size (by omega)).trans (by rw[d13.rd,n12.rd];rfl),(show rd iY cM.size=_ by rw[d16.rd,n15.rd];rfl),
   (d16.at_ (c:=cg.size) (by omega) (by omega)).trans ((n15.at_).trans n14.rd),d16.ow (n15.ow n14.own),⟨(Lj ob (by omega)).trans ((BB _ WQ).trans gd.o),(Lj tb (by omega)).trans ((BB _ WR).trans gd.t),(Lj mb (by omega)).trans ((BB _ WS).trans gd.m)⟩,λb hb _ y=>?_⟩
  have hb:h3.size<=b:=hb;have:=kY b y;omega
 obtain⟨I,j1,j2,j3,j4,j5,c16⟩:∃I:WV,h3.size=I.yb/\h4.size=I.eb/\bQ.size=I.bk/\cM.size=I.pb/\cg.size=I.fb/\CX h F t d T g I iY F T R T.ar.length:=⟨_,rfl,rfl,rfl,rfl,rfl,c16⟩
 have ec:fA T g R k=if(lK g k T R).2≠0 then(((lK g k T R).1.1.back T.ar.length).1,kS,(lK g k T R).2)else((lK g k T R).1.1,(lK g k T R).1.2,0):=by unfold fA;rw[if_neg (by omega)]
 have hG:Goal h F t d T K (lK g k T R):=by
  intro h' F2 f2 g2 x2;have:=hK h' F2 f2 g2;rw[ec]at this
  by_cases he:(lK g k T R).2≠0
  ·rw[if_pos he]at x2 this ⊢;exact this x2
  ·have Θ:(lK g k T R).2=0:=Decidable.byContradiction he;rw[if_neg he]at x2 this ⊢;rw[Θ];exact this x2
 clear hK ec
 refine⟨λi hh=>∃(F':NP) (T':TM) (R':List Int),CX h F t d T g I hh F' T' R' (T.ar.length+(i-k).toNat)/\k<=i/\(i<=10∨i=k)/\fQ g (List.range' i.toNat (10-i.toNat)) T' R'=fQ g (mr k) T R,λi _=>((10:Int)-i).toNat,
  ⟨F,T,R,by rw[Int.sub_self];exact c16,Int.le_refl _,.inr rfl,rfl⟩,?_⟩
 rintro i fw ⟨F',T',R',c,i0,i1,ed⟩;obtain⟨a1,a2,a3,a4,a5,a6,a7,a8,a9⟩:=c.ok;have lo:=c.lo;have hi:=c.hi;have un:=c.un;have g0':∀b,b<1->¬F' b:=λb hb y=>g0 b hb ((c.gw.old b (by omega)).mp y);have glh:In.kJ fw:=gl.fr c.fr g0;rw[j1,j2,j3,j4];refine cd (λhl=>?_) λhl=>?_
 ·have el:List.range' i.toNat (10-i.toNat)=i.toNat::List.range' (i+1).toNat (10-(i+1).toNat):=by
   rw[show 10-i.toNat=(10-(i+1).toNat)+1 by omega,List.range'_succ,show(i+1).toNat=i.toNat+1 by omega]
  rw[el]at ed
  have ed:(if R'.getD (3+i.toNat) 0=0 then fQ g (List.range' (i+1).toNat (10-(i+1).toNat)) T' R' else if(eO T' g (R'.getD (3+i.toNat) 0)).2≠0 then(((eO T' g (R'.getD (3+i.toNat) 0)).1,R'),(eO T' g (R'.getD (3+i.toNat) 0)).2)else
   fQ g (List.range' (i+1).toNat (10-(i+1).toNat)) (eO T' g (R'.getD (3+i.toNat) 0)).1 (R'.set (3+i.toNat) 0))=fQ g (mr k) T R:=ed
  have cell:=rN (t:=t) (g:=g) (R:=R') (i:=3+i.toNat) (by rw[c.len];omega);have wr:wI (i+1)=i+1:=wrap_i64 (by omega) (by omega);rw[wr];refine⟨_,cI c.rp rfl,os ⟨⟨by omega,hl⟩,_,YV c.rf cell,cn (λy=>?_) λy=>?_⟩⟩
  ·rw[if_neg y]at ed;refine⟨_,cI c.rp rfl,_,cI c.rp rfl,os ⟨⟨by omega,hl⟩,_,YV c.rf cell,uf c.x ok c.rf (by omega) λma F8 f8 g8 x8=>⟨_,rfl,?_⟩⟩⟩;have gu:=qN T' g (R'.getD (3+i.toNat) 0);generalize eO T' g (R'.getD (3+i.toNat) 0)=W at ed x8 gu;obtain⟨T8,e8⟩:=W;simp only at ed x8 gu;have c8:=c.call f8 g8 x8 (u':=T.ar.length+(i+1-k).toNat) (by omega);refine cn (λhe=>?_) λhe=>?_
   ·rw[if_pos he]at ed;have es:lK g k T R=((T8,R'),e8):=(by unfold lK;rw[<-ed,if_pos he]);rw[es]at hG;refine⟨ints kS,rfl,ah c8.ry,c8.fin (Y:=kS) (e:=e8) (by omega) rfl em ?_⟩;intro h' F2 f2 g2 x2;have:=hG h' F2 f2 g2;simp only at this;rw[if_pos he]at x2;rw[if_pos he,if_pos he]at this;rw[if_pos he];exact this x2
   ·rw[if_neg (λz=>z he)]at ed;refine⟨_,cI c8.rp rfl,os ⟨⟨by omega,hl⟩,?_⟩⟩;rw[bm,bm,bm];refine aO.intro c8.of_ (by rw[c8.rf,xn c8.len];omega) λnD d22=>?_
    have d22:rW I.fb ma nD (hO t g (R'.set (3+i.toNat) 0)):=by
     have:=d22;rw[c8.rf,show 0+6+3+i.toNat=6+(3+i.toNat) by omega,xm]at this;exact this
    exact⟨⟨F8,T8,_,c8.aaF d22 (by rw[List.length_set];exact c8.len),by omega,by omega,ed⟩,by show((10:Int)-(i+1)).toNat<((10:Int)-i).toNat;omega⟩
  ·rw[if_pos y]at ed;exact⟨⟨F',T',R',⟨c.ok,c.lo,c.hi,c.fr,c.gw,c.x,by omega,c.len,c.ry,c.oy,c.re,c.oe,c.rb,c.rp,c.rf,c.of_,c.gd,c.nF⟩,by omega,by omega,ed⟩,by show((10:Int)-(i+1)).toNat<((10:Int)-i).toNat;omega⟩
 ·have el:List.range' i.toNat (10-i.toNat)=[]:=by rw[show 10-i.toNat=0 by omega];rfl
  rw[el]at ed;have ed:((T',R'),(0:Int))=fQ g (mr k) T R:=ed;have ubd:(i-k).toNat<=10:=by omega
  have es:lK g k T R=if(oN g k T' R').2≠0 then oN g k T' R' else sH g k (oN g k T' R').1.1 (oN g k T' R').1.2:=by unfold lK;rw[<-ed,if_neg (λz=>z rfl)]
  rw[es]at hG
  have skip:oN g k T' R'=((T',R'),0)->gZ.k2 k h3 h4 bQ cM fw K:=λe=>by
   rw[e,if_neg (λz=>z rfl)]at hG;exact TG gl ok g0 em hk.1 hk.2 c (by omega) j1 j2 j3 j4 hG
  refine cd (λy=>⟨_,cI c.rp rfl,os ⟨_,Ef c.rf (rN (i:=13) (by rw[c.len];decide)),cn (λy2=>?_) λy2=>skip ?_⟩⟩) λy=>skip ?_
  ·have e0:oN g k T' R'=fI 13 R' (mn (kj g) T' g (R'.getD 13 0) (k-10)):=(by unfold oN;rw[if_pos ⟨y,y2⟩]);rw[e0]at hG;have nfb:=c.nF I.fb (by omega) (by omega);refine⟨_,cI c.rp rfl,_,cI c.rp rfl,os ⟨_,Ef c.rf (rN (i:=13) (by rw[c.len];decide)),_,cI c.rp rfl,?_⟩⟩;rw[wq (k-10)];refine qF (u:=1) (lim:=1000000000) glh c.x ok c.rf nfb g0' (GY ok c.rf nfb) (qO g) (by omega) nL0 λjR F3 f3 g3 x3=>⟨_,_,rfl,?_⟩;have hun:=sX (T:=T') (g:=g) (tab:=R'.getD 13 0) (from_:=k-10) (qO g);generalize mn (kj g) T' g (R'.getD 13 0) (k-10)=C at hG x3 hun;obtain⟨T3,left,er⟩:=C;simp only at x3 hun;have UG:=c.call f3 g3 x3 (u':=T.ar.length+1000) (by omega);unfold fI at hG;refine cn (λhe=>?_) λhe=>jV ?_
   ·simp only at hG;rw[if_pos he,if_pos he]at hG;refine⟨ints kS,rfl,ah UG.ry,UG.fin (Y:=kS) (e:=er) (by omega) rfl em ?_⟩;intro h' F2 f2 g2 x2;have:=hG h' F2 f2 g2;simp only at this;rw[if_pos he]at x2;rw[if_pos he,if_pos he]at this;rw[if_pos he];exact this x2
   ·have he:er=0:=he;simp only at hG;rw[if_neg (show ¬(er≠0) from λz=>z he),if_neg (λz=>z rfl)]at hG
    cases left with
    | true=>exact ct rfl (TG gl ok g0 em hk.1 hk.2 UG (by omega) j1 j2 j3 j4 hG)
    | false=>
     refine cf rfl ⟨_,cI UG.rp rfl,os ?_⟩;rw[bm,bm];refine aO.intro UG.of_ (by rw[UG.rf,xn UG.len];decide) λtx d27=>?_
     have d27:rW I.fb jR tx (hO t g (R'.set 13 0)):=by
      have:=d27;rw[UG.rf,show 0+6+13=6+13 by rfl,xm]at this;exact this
     exact TG gl ok g0 em hk.1 hk.2 (UG.aaF d27 (by rw[List.length_set];exact UG.len)) (by omega) j1 j2 j3 j4 hG
  ·unfold oN;rw[if_neg (λz=>z.2 y2)]
  ·unfold oN;rw[if_neg (λz=>y z.1)]
structure gL where
 L:List (Int×Int)
 M:List Int
def gL.n(S:gL):Nat:=S.L.length+S.M.length
abbrev Lm :=gL->Nat->Int->gL×Int
def kW(g:G)(S:gL)(k v:Int):gL×Int:=if v=0 then(S,0)else(⟨S.L++[(k,v)],S.M⟩,bT g v)
def fB(dO:Lm):List Int->Nat->gL->gL×Int
 | [],_,S=>(S,0)
 | v::r,i,S=>if(dO S i v).2≠0 then dO S i v else fB dO r (i+1) (dO S i v).1
def fJ(T:TM)(g:G)(dO:Lm)(tab:Int)(S:gL):gL×Int:=
 if tab=0 then(S,0)else if bT g tab≠0 then(⟨S.L,S.M++[tab]⟩,bT g tab)else if(T.read tab).2≠0 then(⟨S.L,S.M++[tab]⟩,(T.read tab).2)else
  fB dO (bI (T.read tab).1) 0 ⟨S.L,S.M++[tab]⟩
def ug(g:G):Lm:=λS i v=>kW g S i v
def uQ(g:G):Lm:=λS i v=>kW g S (10+i) v
def inD(g:G)(i:Nat):Lm:=λS j v=>kW g S (138+(i:Int)*128+j) v
def yH(T:TM)(g:G):Lm:=λS i tab=>fJ T g (inD g i) tab S
def sy(T:TM)(g:G)(R:List Int):gL×Int:=
 if(fB (ug g) ((R.drop 3).take 10) 0 ⟨[],[]⟩).2≠0 then fB (ug g) ((R.drop 3).take 10) 0 ⟨[],[]⟩else
 if(fJ T g (uQ g) (R.getD 13 0) (fB (ug g) ((R.drop 3).take 10) 0 ⟨[],[]⟩).1).2≠0 then fJ T g (uQ g) (R.getD 13 0) (fB (ug g) ((R.drop 3).take 10) 0 ⟨[],[]⟩).1 else
  fJ T g (yH T g) (R.getD 14 0) (fJ T g (uQ g) (R.getD 13 0) (fB (ug g) ((R.drop 3).take 10) 0 ⟨[],[]⟩).1).1
def allM(T:TM)(g:G)(R:List Int):List (Int×Int)×List Int×Int:=if(sy T g R).2≠0 then([],[],(sy T g R).2)else((sy T g R).1.L,(sy T g R).1.M,0)
theorem uR(g:G)(S:gL)(k v:Int):(kW g S k v).1.n<=S.n+1:=by
 unfold kW
 split
 ·exact Nat.le_add_right _ _
 ·unfold gL.n;rw[lA0];show S.L.length+1+S.M.length<=_;omega
theorem zR{dO:Lm}{w:Nat}(hd:∀ S i v,(dO S i v).1.n<=S.n+w):∀(l:List Int) (i:Nat) (S:gL),(fB dO l i S).1.n<=S.n+w*l.length
 | [],_,S=>Nat.le_add_right _ _
 | v::r,i,S=>by
  rw[List.length_cons,Nat.mul_succ];have h1:=hd S i v;unfold fB
  split
  ·omega
  ·have:=zR hd r (i+1) (dO S i v).1;omega
theorem xo{T:TM}{g:G}{dO:Lm}{S:gL}(hd:∀ S i v,(dO S i v).1.n<=S.n+w):(fJ T g dO tab S).1.n<=S.n+(w*128+1):=by
 have e:(⟨S.L,S.M++[tab]⟩:gL).n=S.n+1:=by unfold gL.n;rw[lA0];show S.L.length+(S.M.length+1)=_;omega
 unfold fJ
 split
 ·exact Nat.le_add_right _ _
 ·split
  ·show(⟨S.L,S.M++[tab]⟩:gL).n<=_;omega
  ·split
   ·show(⟨S.L,S.M++[tab]⟩:gL).n<=_;omega
   ·have:=zR hd (bI (T.read tab).1) 0 ⟨S.L,S.M++[tab]⟩;rw[bM]at this;omega
def mo(p:Int×Int):LV:=[vI p.1,vI p.2]
structure yI where
 fb:Nat
 fp:Nat
 bc:Nat
 tc:Nat
 oc:Nat
 ec:Nat
def WY(I:yI):Value:=.func (.func 232) #[] ⟨[vP (some ⟨I.bc,0,none⟩),vP (some ⟨I.fp,0,none⟩)]⟩
def OC(I:yI):Value:=.func (.func 234) #[] ⟨[vP (some ⟨I.fp,0,none⟩),vP (some ⟨I.tc,0,none⟩)]⟩
structure AH(F:NP)(t d:OA)(T:TM)(g:G)(R:List Int)(I:yI)(hh:ad)(Q:NP)(S:gL):Prop where
 gl:In.kJ hh
 x:Tx hh F t d T
 rf:rd hh I.fb=hO t g R
 rp:rd hh I.fp=[vP (some ⟨I.fb,0,none⟩)]
 ro:rd hh I.oc=[WY I]
 re:rd hh I.ec=[OC I]
 ob:dJ hh I.bc
 ot:dJ hh I.tc
 ne:I.bc≠I.tc
 rows:∃P1 P2 a1 c1 a2 c2,rd hh I.bc=[vS a1 S.L.length c1]/\rd hh I.tc=[vS a2 S.M.length c2]/\Sl hh 2 a1 S.L.length c1 (S.L.flatMap mo) P1/\Sl hh 1 a2 S.M.length c2 (S.M.map (.int .i64)) P2/\(∀b,P1 b->b≠I.bc/\b≠I.tc/\¬P2 b)/\(∀b,P2 b->b≠I.bc/\b≠I.tc)/\∀b,Q b↔b=I.bc∨b=I.tc∨P1 b∨P2 b
 lt:∀b,Q b->b<hh.size
 nQ:∀b,Q b->¬F b/\b≠I.fb/\b≠I.fp/\b≠I.oc/\b≠I.ec/\1<=b
theorem AH.no{F:NP}{t d:OA}{T:TM}{g:G}{R:List Int}{I:yI}{hh h':ad}{Q:NP}{S:gL}(a:AH F t d T g R I hh Q S)(f:Fr No hh h'):AH F t d T g R I h' Q S:=by
 obtain⟨P1,P2,a1,c1,a2,c2,r1,r2,s1,s2,k1,k2,k3⟩:=a.rows;have q:∀{b xs v},rd hh b=v::xs->rd h' b=v::xs:=λe=>(f.rd (gr (o:=0) (by rw[e];rfl)) λy=>y).trans e;exact⟨a.gl.no f,a.x.no f,q a.rf,q a.rp,q a.ro,q a.re,f.own a.ob.lt (λy=>y) a.ob,f.own a.ot.lt (λy=>y) a.ot,a.ne,⟨P1,P2,a1,c1,a2,c2,q r1,q r2,s1.fr f (λ_ _ _ y=>y),s2.fr f (λ_ _ _ y=>y),k1,k2,k3⟩,λb hb=>Nat.lt_of_lt_of_le (a.lt b hb) f.size,a.nQ⟩
def DoS(dv:Value)(dO:Lm)(h0:ad)(Q0:NP)(F:NP)(t d:OA)(T:TM)(g:G)(R:List Int)(I:yI)(lim:Nat):Prop:=
 ∀(hh:ad) (Q:NP) (S:gL) (i:Nat) (v:Int) (K:KT),Fr Q0 h0 hh->Gw h0 Q0 hh Q->AH F t d T g R I hh Q S->S.n<lim->i<128-> -9223372036854775808<=v->v<=9223372036854775807->
  (∀h' Q',Fr Q hh h'->Gw hh Q h' Q'->AH F t d T g R I h' Q' (dO S i v).1->K (vI (dO S i v).2) h')->cT Tryz.prog dv [vI (i:Int),vI v] hh K
theorem A1{T:TM}{g:G}{I:yI}{Q:NP}{S:gL}{v:Int}(a:AH F t d T g R I hh Q S)(hn:S.n<1000000)
  (hK:∀h' Q',Fr Q hh h'->Gw hh Q h' Q'->AH F t d T g R I h' Q' (kW g S k v).1->K (vI (kW g S k v).2) h'):cT Tryz.prog (WY I) [vI k,vI v] hh K:=by
 show C.oZ k v (some ⟨I.bc,0,none⟩) (some ⟨I.fp,0,none⟩) hh K;obtain⟨P1,P2,a1,c1,a2,c2,r1,r2,s1,s2,k1,k2,k3⟩:=a.rows;refine oZ.ok (ce (λy=>?_) λy=>os ⟨_,_,_,cI r1 rfl,rfl,az.intro λh2 n2=>⟨mo (k,v),rfl,ah n2.rd,Vb rfl rfl,?_⟩⟩)
 ·have e0:kW g S k v=(S,0):=by unfold kW;rw[if_pos y]
  rw[e0]at hK;exact hK hh Q (Fr.refl _ _) (Gw.refl nL0 a.lt) a
 have e0:kW g S k v=(⟨S.L++[(k,v)],S.M⟩,bT g v):=by unfold kW;rw[if_neg y]
 rw[e0]at hK;have z2:=n2.size;have hSn:S.L.length<=S.n:=Nat.le_add_right _ _;refine dh (elem:=Dn) ((ki s1).fr n2.fr λ_ _ _ y=>y) rfl rfl (by show(_+1)*16<=_;omega) (by omega) λa' c' h3 f3 s3=>?_;have z3:=f3.size;have lb:=a.ob.lt;have ltc:=a.ot.lt;have q3:∀b,b<hh.size->¬P1 b->rd h3 b=rd hh b:=λb hb hp=>(f3.rd (by omega) λy=>hp y.1).trans (n2.at_ hb);have w3:∀b,¬P1 b->dJ hh b->dJ h3 b:=λb hp o=>f3.own (by have:=o.lt;omega) (λy=>hp y.1) (n2.ow o);have nb:¬P1 I.bc:=λy=>(k1 _ y).1 rfl;have nt:¬P1 I.tc:=λy=>(k1 _ y).2.1 rfl;have r3:rd h3 I.bc=_:=(q3 _ lb nb).trans r1;refine os (aO.intro (w3 _ nb a.ob) (by rw[r3];exact Nat.zero_lt_one) λh4 d4=>?_);have z4:=d4.size
 have WZ:∀b,(b=I.fb∨b=I.fp∨b=I.oc∨b=I.ec∨b<1∨F b)->¬Q b:=λb hb y=>by
  have n:=a.nQ b y
  rcases hb with h|h|h|h|h|h
  ·exact n.2.1 h
  ·exact n.2.2.1 h
  ·exact n.2.2.2.1 h
  ·exact n.2.2.2.2.1 h
  ·omega
  ·exact n.1 h
 have F4:Fr Q hh h4:=(((n2.fr.mono λ_ _ y=>y.elim).trans f3 λb _ y=>(k3 b).mpr (.inr (.inr (.inl y.1)))).did d4 λ_=>(k3 _).mpr (.inl rfl));have idl:∀{b v},rd hh b=[v]->(b=I.fb∨b=I.fp∨b=I.oc∨b=I.ec∨b<1∨F b)->rd h4 b=[v]:=λe hb=>(F4.rd (gr (o:=0) (by rw[e];rfl)) (WZ _ hb)).trans e;have rf4:rd h4 I.fb=hO t g R:=(F4.rd (gr (o:=0) (by rw[a.rf];rfl)) (WZ _ (.inl rfl))).trans a.rf;have rp4:=idl a.rp (.inr (.inl rfl));refine os ⟨_,cI rp4 rfl,iM rf4 ⟨_,rfl,?_⟩⟩
 have Wl:=(ki s3).fr d4.fr λb hb y e=>by
  have e:b=I.bc:=e;have y:=y.1
  rcases y with y|y
  ·exact nb (e▸y.1)
  ·rw[e]at y;omega
 have KG:Sl h4 1 a2 S.M.length c2 (S.M.map (.int .i64)) (λb=>P2 b/\b<hh.size):=(((ki s2).fr n2.fr λ_ _ _ y=>y).fr f3 λb _ y z=>(k1 b z.1).2.2 y.1).fr d4.fr λb _ y e=>(k2 b y.1).1 e;have rt4:rd h4 I.tc=[vS a2 S.M.length c2]:=(d4.at_ (by omega) a.ne.symm).trans ((q3 _ ltc nt).trans r2)
 refine hK h4 (λb=>b=I.bc∨b=I.tc∨((P1 b/\b<hh.size∨h2.size<=b)/\b<h3.size)∨(P2 b/\b<hh.size)) F4 ⟨λb hb=>?_,λb hb=>?_⟩ ⟨a.gl.fr F4 (λb hb=>WZ b (by omega)),a.x.fr F4 (λb hb=>WZ b (by simp[hb])),rf4,rp4,idl a.ro (by simp),idl a.re (by simp),d4.own,d4.ow (w3 _ nt a.ot),a.ne,
  ⟨_,_,a',c',a2,c2,?_,rt4,?_,KG,λb hb=>?_,λb hb=>k2 b hb.1,λb=>Iff.rfl⟩,λb hb=>?_,λb hb=>?_⟩
 ·show _↔Q b;rw[k3 b]
  constructor
  ·rintro(y|y|y|y)
   ·exact .inl y
   ·exact .inr (.inl y)
   ·rcases y.1 with z|z
    ·exact .inr (.inr (.inl z.1))
    ·omega
   ·exact .inr (.inr (.inr y.1))
  ·rintro(y|y|y|y)
   ·exact .inl y
   ·exact .inr (.inl y)
   ·exact .inr (.inr (.inl ⟨.inl ⟨y,hb⟩,by omega⟩))
   ·exact .inr (.inr (.inr ⟨y,hb⟩))
 ·rcases hb with y|y|y|y <;> omega
 ·show rd h4 I.bc=[vS a' (S.L++[(k,v)]).length c'];rw[d4.rd,r3,lA0];rfl
 ·show Sl h4 2 a' (S.L++[(k,v)]).length c' ((S.L++[(k,v)]).flatMap mo) _;rw[lA0,List.flatMap_append];exact Wl
 ·rcases hb with⟨y|y,z⟩
  ·have:=k1 b y.1;exact⟨this.1,this.2.1,λw=>this.2.2 w.1⟩
  ·exact⟨by omega,by omega,λw=>by omega⟩
 ·rcases hb with y|y|y|y <;> omega
 ·have new:h2.size<=b->¬F b/\b≠I.fb/\b≠I.fp/\b≠I.oc/\b≠I.ec/\1<=b:=λhl=>by
   have l1:I.fb<hh.size:=gr (o:=0) (by rw[a.rf];rfl);have l2:I.fp<hh.size:=gr (o:=0) (by rw[a.rp];rfl);have l3:I.oc<hh.size:=gr (o:=0) (by rw[a.ro];rfl);have l4:I.ec<hh.size:=gr (o:=0) (by rw[a.re];rfl);exact⟨λy=>by have:=a.x.lt y;omega,by omega,by omega,by omega,by omega,by omega⟩
  rcases hb with y|y|y|y
  ·exact a.nQ b ((k3 b).mpr (.inl y))
  ·exact a.nQ b ((k3 b).mpr (.inr (.inl y)))
  ·rcases y.1 with z|z
   ·exact a.nQ b ((k3 b).mpr (.inr (.inr (.inl z.1))))
   ·exact new z
  ·exact a.nQ b ((k3 b).mpr (.inr (.inr (.inr y.1))))
theorem AH.OD{T:TM}{g:G}{I:yI}{Q:NP}{S:gL}{X:HP}(a:AH F t d T g R I hh Q S)(hn:S.n<1000000)
  (hX:∀h' Q',Fr Q hh h'->Gw hh Q h' Q'->AH F t d T g R I h' Q' ⟨S.L,S.M++[tab]⟩->X h') :
  ∃(kD:OA) (j9:Nat) (lD:Nat),cellOf hh ⟨I.tc,0,none⟩=some (vS kD j9 lD)/\az [vI tab] 3 hh λh3=>
   ∃aG:LV,List.length aG=1*1/\ak h3 (some (bA hh)) aG/\(∀v∈aG,v.oneCell'=true)/\aH QH 3 kD j9 lD 1 aG h3 λuo uq vn h4=>ae (some (⟨I.tc,0,none⟩:Addr)) λp3=>aO p3 (vS uo uq vn) h4 λh5=>X h5:=by
 obtain⟨P1,P2,a1,c1,a2,c2,r1,r2,s1,s2,k1,k2,k3⟩:=a.rows;refine⟨_,_,_,cI r2 rfl,az.intro λh2 n2=>⟨[vI tab],rfl,ah n2.rd,(λv hv=>by rw[List.mem_singleton.mp hv];rfl),?_⟩⟩;have z2:=n2.size;have hSn:S.M.length<=S.n:=Nat.le_add_left _ _;refine dh (elem:=QH) ((ki s2).fr n2.fr λ_ _ _ y=>y) rfl rfl (by show(_+1)*8<=_;omega) (by omega) λa' c' h3 f3 s3=>?_;have z3:=f3.size;have lb:=a.ob.lt;have ltc:=a.ot.lt;have q3:∀b,b<hh.size->¬P2 b->rd h3 b=rd hh b:=λb hb hp=>(f3.rd (by omega) λy=>hp y.1).trans (n2.at_ hb);have w3:∀b,¬P2 b->dJ hh b->dJ h3 b:=λb hp o=>f3.own (by have:=o.lt;omega) (λy=>hp y.1) (n2.ow o);have nb:¬P2 I.bc:=λy=>(k2 _ y).1 rfl;have nt:¬P2 I.tc:=λy=>(k2 _ y).2 rfl;have r3:rd h3 I.tc=_:=(q3 _ ltc nt).trans r2;refine os (aO.intro (w3 _ nt a.ot) (by rw[r3];exact Nat.zero_lt_one) λh4 d4=>?_);have z4:=d4.size
 have WZ:∀b,(b=I.fb∨b=I.fp∨b=I.oc∨b=I.ec∨b<1∨F b)->¬Q b:=λb hb y=>by
  have n:=a.nQ b y
  rcases hb with h|h|h|h|h|h
  ·exact n.2.1 h
  ·exact n.2.2.1 h
  ·exact n.2.2.2.1 h
  ·exact n.2.2.2.2.1 h
  ·omega
  ·exact n.1 h
 have F4:Fr Q hh h4:=(((n2.fr.mono λ_ _ y=>y.elim).trans f3 λb _ y=>(k3 b).mpr (.inr (.inr (.inr y.1)))).did d4 λ_=>(k3 _).mpr (.inr (.inl rfl)));have idl:∀{b v},rd hh b=[v]->(b=I.fb∨b=I.fp∨b=I.oc∨b=I.ec∨b<1∨F b)->rd h4 b=[v]:=λe hb=>(F4.rd (gr (o:=0) (by rw[e];rfl)) (WZ _ hb)).trans e;have rf4:rd h4 I.fb=hO t g R:=(F4.rd (gr (o:=0) (by rw[a.rf];rfl)) (WZ _ (.inl rfl))).trans a.rf;have rp4:=idl a.rp (.inr (.inl rfl))
 have Wl:=(ki s3).fr d4.fr λb hb y e=>by
  have e:b=I.tc:=e;have y:=y.1
  rcases y with y|y
  ·exact nt (e▸y.1)
  ·rw[e]at y;omega
 have s14:Sl h4 2 a1 S.L.length c1 (S.L.flatMap mo) (λb=>P1 b/\b<hh.size):=(((ki s1).fr n2.fr λ_ _ _ y=>y).fr f3 λb _ y z=>(k1 b y.1).2.2 z.1).fr d4.fr λb _ y e=>(k1 b y.1).2.1 e;have rb4:rd h4 I.bc=[vS a1 S.L.length c1]:=(d4.at_ (by omega) a.ne).trans ((q3 _ lb nb).trans r1)
 refine hX h4 (λb=>b=I.bc∨b=I.tc∨(P1 b/\b<hh.size)∨((P2 b/\b<hh.size∨h2.size<=b)/\b<h3.size)) F4 ⟨λb hb=>?_,λb hb=>?_⟩ ⟨a.gl.fr F4 (λb hb=>WZ b (by omega)),a.x.fr F4 (λb hb=>WZ b (by simp[hb])),rf4,rp4,idl a.ro (by simp),idl a.re (by simp),d4.ow (w3 _ nb a.ob),d4.own,a.ne,
  ⟨_,_,a1,c1,a',c',rb4,?_,s14,?_,λb hb=>?_,λb hb=>?_,λb=>Iff.rfl⟩,λb hb=>?_,λb hb=>?_⟩
 ·show _↔Q b;rw[k3 b]
  constructor
  ·rintro(y|y|y|y)
   ·exact .inl y
   ·exact .inr (.inl y)
   ·exact .inr (.inr (.inl y.1))
   ·rcases y.1 with z|z
    ·exact .inr (.inr (.inr z.1))
    ·omega
  ·rintro(y|y|y|y)
   ·exact .inl y
   ·exact .inr (.inl y)
   ·exact .inr (.inr (.inl ⟨y,hb⟩))
   ·exact .inr (.inr (.inr ⟨.inl ⟨y,hb⟩,by omega⟩))
 ·rcases hb with y|y|y|y <;> omega
 ·show rd h4 I.tc=[vS a' (S.M++[tab]).length c'];rw[d4.rd,r3,lA0];rfl
 ·show Sl h4 1 a' (S.M++[tab]).length c' ((S.M++[tab]).map (.int .i64)) _;rw[lA0,List.map_append];exact Wl
 ·have:=k1 b hb.1;refine⟨this.1,this.2.1,λw=>?_⟩
  rcases w with⟨y|y,z⟩
  ·exact this.2.2 y.1
  ·have:=hb.2;omega
 ·rcases hb with⟨y|y,z⟩
  ·exact k2 b y.1
  ·exact⟨by omega,by omega⟩
 ·rcases hb with y|y|y|y <;> omega
 ·have new:h2.size<=b->¬F b/\b≠I.fb/\b≠I.fp/\b≠I.oc/\b≠I.ec/\1<=b:=λhl=>by
   have l1:I.fb<hh.size:=gr (o:=0) (by rw[a.rf];rfl);have l2:I.fp<hh.size:=gr (o:=0) (by rw[a.rp];rfl);have l3:I.oc<hh.size:=gr (o:=0) (by rw[a.ro];rfl);have l4:I.ec<hh.size:=gr (o:=0) (by rw[a.re];rfl);exact⟨λy=>by have:=a.x.lt y;omega,by omega,by omega,by omega,by omega,by omega⟩
  rcases hb with y|y|y|y
  ·exact a.nQ b ((k3 b).mpr (.inl y))
  ·exact a.nQ b ((k3 b).mpr (.inr (.inl y)))
  ·exact a.nQ b ((k3 b).mpr (.inr (.inr (.inl y.1))))
  ·rcases y.1 with z|z
   ·exact a.nQ b ((k3 b).mpr (.inr (.inr (.inr z.1))))
   ·exact new z
theorem k8(dO:Lm)(v:Int)(r:List Int)(i:Nat)(S:gL):fB dO (v::r) i S=if(dO S i v).2≠0 then dO S i v else fB dO r (i+1) (dO S i v).1:=rfl
theorem tW{T:TM}{g:G}{I:yI}{Q:NP}{S:gL}{dO:Lm}(a:AH F t d T g R I hh Q S)(D:DoS dv dO hh Q F t d T g R I lim)(hd:∀ S i v,(dO S i v).1.n<=S.n+w)(hn:S.n+(w*128+2)<lim)(O':lim<=1000000)
  (hK:∀h' Q',Fr Q hh h'->Gw hh Q h' Q'->AH F t d T g R I h' Q' (fJ T g dO tab S).1->K (vI (fJ T g dO tab S).2) h'):cT Tryz.prog (OC I) [vI tab,dv] hh K:=by
 show C.j8 tab dv (some ⟨I.fp,0,none⟩) (some ⟨I.tc,0,none⟩) hh K;refine j8.ok (ce (λy=>?_) λy=>os ⟨_,cI a.rp rfl,pJ a.gl a.x a.rf (λhe h2 f2=>⟨_,_,_,_,_,_,_,rfl,os ?_⟩) λy1 y2 hlen sa sc lb h2 f2 Φ s2 r2 o2=>⟨_,_,_,_,_,_,_,rfl,os ?_⟩⟩)
 ·have e0:fJ T g dO tab S=(S,0):=by unfold fJ;rw[if_pos y]
  rw[e0]at hK;exact hK hh Q (Fr.refl _ _) (Gw.refl nL0 a.lt) a
 ·have z2:=f2.size;refine(a.no f2).OD (by omega) λh5 Q5 f5 g5 a5=>?_;have F5:Fr Q hh h5:=(f2.mono λ_ _ y=>y.elim).trans f5 λ_ _ y=>y;have G5:Gw hh Q h5 Q5:=(Gw.refl z2 a.lt).trans g5 z2;have hK:=hK h5 Q5 F5 G5
  have e0:fJ T g dO tab S=(⟨S.L,S.M++[tab]⟩,if bT g tab≠0 then bT g tab else(T.read tab).2):=by
   unfold fJ;rw[if_neg y]
   by_cases h1:bT g tab≠0
   ·rw[if_pos h1,if_pos h1]
   ·rw[if_neg h1,if_neg h1,if_pos (he.resolve_left h1)]
  rw[e0]at hK;refine⟨λe i h6=>e=(if bT g tab≠0 then bT g tab else(T.read tab).2)/\i=0/\h6=h5,λ_ _ _=>0,⟨rfl,rfl,rfl⟩,?_⟩;rintro e i h6 ⟨rfl,rfl,rfl⟩;exact cd (λz=>absurd z (by decide)) λ_=>hK a5
 ·have z2:=f2.size;refine(a.no f2).OD (by omega) λh5 Q5 f5 g5 a5=>?_;have F5:Fr Q hh h5:=(f2.mono λ_ _ y=>y.elim).trans f5 λ_ _ y=>y;have G5:Gw hh Q h5 Q5:=(Gw.refl z2 a.lt).trans g5 z2;have z5:=f5.size;have e0:fJ T g dO tab S=fB dO (bI (T.read tab).1) 0 ⟨S.L,S.M++[tab]⟩:=by unfold fJ;rw[if_neg y,if_neg (λz=>z y1),if_neg (λz=>z y2)]
  rw[e0]at hK;have nl:=bM (T.read tab).1
  have nlt:∀j (hj:j<(bI (T.read tab).1).length),0<=(bI (T.read tab).1)[j]/\(bI (T.read tab).1)[j]<4294967296:=λj hj=>by
   rw[dZ hj];have:=np (T.read tab).1 j;omega
  generalize bI (T.read tab).1=ns at hK r2 nl nlt;have lbl:lb<h2.size:=o2.lt;have nlb:¬Q lb:=λy=>by have:=a.lt lb y;omega
  have r5:rd h5 lb=ints ns:=(f5.rd lbl nlb).trans r2;have n5:(⟨S.L,S.M++[tab]⟩:gL).n=S.n+1:=by unfold gL.n;rw[lA0];show S.L.length+(S.M.length+1)=_;omega
  refine⟨λe i h6=>∃(j:Nat) (Q6:NP) (S6:gL),i=j/\j<=128/\Fr Q hh h6/\Gw h2 Q h6 Q6/\h2.size<=h6.size/\AH F t d T g R I h6 Q6 S6/\rd h6 lb=ints ns/\S6.n<=S.n+1+w*j/\
    ((e=0/\fB dO (ns.drop j) j S6=fB dO ns 0 ⟨S.L,S.M++[tab]⟩)∨(e≠0/\(S6,e)=fB dO ns 0 ⟨S.L,S.M++[tab]⟩)),λ_ i _=>((128:Int)-i).toNat,
   ⟨0,Q5,_,rfl,by decide,F5,g5,z5,a5,r5,by rw[n5];exact nL0,.inl ⟨rfl,by rw[List.drop_zero]⟩⟩,?_⟩
  intro e i h6 hI;obtain⟨j,Q6,S6,ei,hj,f6,g6,zz,a6,r6,u6,hE⟩:=hI;have G6:Gw hh Q h6 Q6:=(Gw.refl z2 a.lt).trans g6 z2;have fin:(S6,e)=fB dO ns 0 ⟨S.L,S.M++[tab]⟩->K (vI e) h6:=λee=>by rw[<-ee]at hK;exact hK h6 Q6 f6 G6 a6
  refine cd (λhl=>ce (λh0=>?_) λh0=>fin ?_) λhl=>fin ?_
  ·subst ei;have ew:=(hE.resolve_right (λz=>z.1 h0)).2;have k7:j<ns.length:=(by omega);have YU:j<128:=(by omega);rw[drop_cons k7,k8]at ew;have nj:=nlt j k7;have cv:cellOf h6 (Addr.add ⟨lb,0,none⟩ j)=some (vI (ns[j]'k7)):=bJ r6 (by rw[Nat.zero_add,ints,lG0,List.getElem?_eq_getElem k7];rfl);have wr:wI ((j:Int)+1)=((j+1:Nat):Int):=(by rw[wrap_i64 (by omega) (by omega)];omega);have hju:w*j<=w*128:=Nat.mul_le_mul_left _ hj;have hm:w*(j+1)=w*j+w:=Nat.mul_succ w j;unfold j8.k1;rw[tN0,wr];refine⟨⟨by omega,hl⟩,os ⟨_,cv,D h6 Q6 S6 j (ns[j]'k7) _ f6 G6 a6 (by omega) YU (by omega) (by omega) λh7 Q7 f7 g7 a7=>⟨_,rfl,⟨j+1,Q7,_,rfl,YU,f6.trans f7 λc hc y=>(G6.old c hc).mp y,g6.trans g7 zz,by have:=f7.size;omega,a7,(f7.rd (by omega) λy=>nlb ((g6.old lb lbl).mp y)).trans r6,?_,?_⟩,by show((128:Int)-((j+1:Nat):Int)).toNat<((128:Int)-(j:Int)).toNat;omega⟩⟩⟩
   ·have:=hd S6 j (ns[j]'k7);omega
   ·by_cases he:(dO S6 j (ns[j]'k7)).2=0
    ·rw[if_neg (λz=>z he)]at ew;exact .inl ⟨he,ew⟩
    ·rw[if_pos he]at ew;exact .inr ⟨he,ew⟩
  ·exact(hE.resolve_left (λz=>h0 z.1)).2
  ·rcases hE with⟨h0,ew⟩|⟨_,ew⟩
   ·have ej:j=128:=(by omega);have ed:ns.drop j=[]:=List.drop_eq_nil_of_le (by omega);rw[ed]at ew;rw[h0];exact ew
   ·exact ew
def aeJ(I:yI):Value:=.func (.func 236) #[] ⟨[vP (some ⟨I.oc,0,none⟩)]⟩
def twoV(I:yI):Value:=.func (.func 237) #[] ⟨[vP (some ⟨I.ec,0,none⟩),vP (some ⟨I.oc,0,none⟩)]⟩
def inV(I:yI)(ib:Nat):Value:=.func (.func 238) #[] ⟨[vP (some ⟨I.oc,0,none⟩),vP (some ⟨ib,0,none⟩)]⟩
theorem aaH{T:TM}{g:G}{I:yI}:DoS (aeJ I) (uQ g) h0 Q0 F t d T g R I 1000000:=by
 intro hh Q S i v K _ _ a hn hi _ _ hK;show C.o9 (i:Int) v (some ⟨I.oc,0,none⟩) hh K;refine o9.ok (os ⟨_,cI a.ro rfl,?_⟩);rw[wrap_i64 (by omega) (by omega)];exact A1 a hn λh' Q' f gw a'=>⟨_,rfl,hK h' Q' f gw a'⟩
theorem aeK{T:TM}{g:G}{I:yI}{ib:Nat}(hi:i<128)(ri:rd h0 ib=[vI (i:Int)])(hq:¬ Q0 ib):DoS (inV I ib) (inD g i) h0 Q0 F t d T g R I 1000000:=by
 intro hh Q S j v K f _ a hn hj _ _ hK;show C.kQ (j:Int) v (some ⟨I.oc,0,none⟩) (some ⟨ib,0,none⟩) hh K;refine kQ.ok (os ⟨_,cI a.ro rfl,os ⟨_,cI ((f.rd (gr (o:=0) (by rw[ri];rfl)) hq).trans ri) rfl,?_⟩⟩);rw[wq ((i:Int)*128),wq (138+(i:Int)*128),wq (138+(i:Int)*128+j)];exact A1 a hn λh' Q' f gw a'=>⟨_,rfl,hK h' Q' f gw a'⟩
theorem YW(g:G)(i:Nat)(S:gL)(j:Nat)(v:Int):(inD g i S j v).1.n<=S.n+1:=uR g S _ v
theorem aaI{T:TM}{g:G}{I:yI}:DoS (twoV I) (yH T g) h0 Q0 F t d T g R I 999000:=by
 intro hh Q S i v K _ _ a hn hi _ _ hK;show C.pd (i:Int) v (some ⟨I.ec,0,none⟩) (some ⟨I.oc,0,none⟩) hh K;refine pd.ok (az.intro λh2 n2=>?_);have a2:=a.no n2.fr;have z2:=n2.size;have nq:¬Q hh.size:=λy=>by have:=a.lt _ y;omega
 refine os ⟨_,cI a2.re rfl,tW (w:=1) (lim:=1000000) a2 (aeK hi n2.rd nq) (YW g i) (by omega) nL0 λh3 Q3 f3 g3 a3=>⟨_,rfl,hK h3 Q3 ((n2.fr.mono λ_ _ y=>y.elim).trans f3 λ_ _ y=>y) ((Gw.refl n2.fr.size a.lt).trans g3 n2.fr.size) a3⟩⟩
theorem TH(g:G)(S:gL)(j:Nat)(v:Int):(uQ g S j v).1.n<=S.n+1:=uR g S _ v
theorem aaJ(T:TM)(g:G)(S:gL)(j:Nat)(v:Int):(yH T g S j v).1.n<=S.n+129:=xo (YW g j)
theorem El{T:TM}{g:G}(gl:In.kJ h)(x:Tx h F t d T)(hR:R.length=15)
  (hK:∀P1 P2 a1 c1 a2 c2 h',Fr No h h'->Sl h' 2 a1 (allM T g R).1.length c1 ((allM T g R).1.flatMap mo) P1->Sl h' 1 a2 (allM T g R).2.1.length c2 ((allM T g R).2.1.map (.int .i64)) P2->(∀b,P1 b->h.size<=b/\¬P2 b)->(∀b,P2 b->h.size<=b)->
   K (.tuple #[vS a1 (allM T g R).1.length c1,vS a2 (allM T g R).2.1.length c2,vI (allM T g R).2.2]) h'):C.dW t g.v (ints R) h K:=by
 have kY:=λy (hy:F y)=>x.lt hy;have WO:=gl.lt;refine dW.ok (az.intro λh2 n2=>az.intro λh3 n3=>⟨g.v,rfl,ah ((n3.at_ n2.own.lt).trans n2.rd),ints R,by rw[af,hR],ah n3.rd,rfl,by rw[af,hR],az.intro λh4 n4=>az.intro λh5 n5=>?_⟩);have z2:=n2.size;have z3:=n3.size;have z4:=n4.size;have z5:=n5.size;refine aO.intro n5.own (by rw[n5.rd];decide) λh6 d6=>az.intro λh7 n7=>az.intro λh8 n8=>az.intro λh9 n9=>?_;have z6:=d6.size;have z7:=n7.size;have z8:=n8.size;have z9:=n9.size;refine aO.intro n9.own (by rw[n9.rd];decide) λcB d10=>az.intro λbQ n11=>?_;have WJ:=d10.size;have Pz:=n11.size;refine aO.intro n11.own (by rw[n11.rd];decide) λcG d12=>?_;have z12:=d12.size;have Ph:∀b,b<cB.size->rd cG b=rd cB b:=λb hb=>(d12.at_).trans (n11.at_ hb);have Gm:∀b,b<h8.size->rd cB b=rd h8 b:=λb hb=>(d10.at_).trans (n9.at_ hb);have q8:∀b,b<h6.size->rd h8 b=rd h6 b:=λb hb=>(n8.at_).trans (n7.at_ hb);have F6:Fr No h h6:=((((n2.fr.new n3).new n4).new n5).did d6 λhl=>by omega);have Ae:Fr No h cG:=((((((F6.new n7).new n8).new n9).did d10 λhl=>by omega).new n11).did d12 λhl=>by omega);have rx:rd cG h2.size=ints R:=(Ph _ (by omega)).trans ((Gm _ (by omega)).trans ((q8 _ (by omega)).trans ((d6.at_).trans ((n5.at_).trans ((n4.at_).trans n3.rd)))));have rf:rd cG h3.size=hO t g R:=(Ph _ (by omega)).trans ((Gm _ (by omega)).trans ((q8 _ (by omega)).trans ((d6.at_).trans ((n5.at_).trans n4.rd))));have rp:rd cG h4.size=[vP (some (bA h3))]:=(Ph _ (by omega)).trans ((Gm _ (by omega)).trans ((q8 _ (by omega)).trans (by rw[d6.rd,n5.rd];rfl)));have rb:rd cG h6.size=[vS none 0 0]:=(Ph _ (by omega)).trans ((Gm _ (by omega)).trans ((n8.at_).trans n7.rd));have rt:rd cG h7.size=[vS none 0 0]:=(Ph _ (by omega)).trans ((Gm _ (by omega)).trans n8.rd);obtain⟨I,eI⟩:∃I:yI,I=⟨h3.size,h4.size,h6.size,h7.size,h8.size,cB.size⟩:=⟨_,rfl⟩;have ro:rd cG h8.size=[WY I]:=(Ph _ (by omega)).trans (by rw[d10.rd,n9.rd,eI];rfl);have re:rd cG cB.size=[OC I]:=by rw[d12.rd,n11.rd,eI];rfl
 have ob:dJ cG h6.size:=d12.ow (n11.ow (d10.ow (n9.ow (n8.ow n7.own))));have ot:dJ cG h7.size:=d12.ow (n11.ow (d10.ow (n9.ow n8.own)));obtain⟨Q,eQ⟩:∃Q:NP,∀b,Q b↔b=h6.size∨b=h7.size:=⟨_,λ_=>Iff.rfl⟩
 have a12:AH F t d T g R I cG Q ⟨[],[]⟩:=by
  rw[eI];rw[eI]at ro re;refine⟨gl.no Ae,x.no Ae,rf,rp,ro,re,ob,ot,by show h6.size≠h7.size;omega,⟨λ_=>False,λ_=>False,none,0,none,0,rb,rt,Sl.nil _ _ _,Sl.nil _ _ _,λ_ y=>y.elim,λ_ y=>y.elim,λb=>?_⟩,λb hb=>?_,λb hb=>?_⟩
  ·rw[eQ b];simp
  ·rcases(eQ b).mp hb with y|y <;> omega
  ·have k:h.size<=b/\b≠h3.size/\b≠h4.size/\b≠h8.size/\b≠cB.size:=(by rcases(eQ b).mp hb with y|y <;> omega);exact⟨λy=>by have:=kY b y;omega,k.2.1,k.2.2.1,k.2.2.2.1,k.2.2.2.2,by omega⟩
 have j1:h8.size=I.oc:=by rw[eI]
 have j2:cB.size=I.ec:=by rw[eI]
 have j3:h6.size=I.bc:=by rw[eI]
 have j4:h7.size=I.tc:=by rw[eI]
 have nqx:¬Q h2.size:=λy=>by rcases(eQ _).mp y with y|y <;> omega
 have base:∀b,Q b->h.size<=b:=λb y=>by rcases(eQ b).mp y with y|y <;> omega
 clear eI eQ
 -- the end
 have k4:∀(hh:ad) (Q':NP) (S:gL) (e:Int),Fr Q cG hh->Gw cG Q hh Q'->AH F t d T g R I hh Q' S->(S,e)=sy T g R->dW.k4 h6 h7 e hh K:=λhh Q' S e f gw a es=>by
  have F':Fr No h hh:=Ae.trans f λb hb y=>by have:=base b y;omega
  have em:allM T g R=if e≠0 then([],[],e)else(S.L,S.M,0):=by unfold allM;rw[<-es]
  rw[em]at hK;unfold dW.k4;refine cn (λhe=>?_) λhe=>?_
  ·rw[if_pos he]at hK;exact hK No No none 0 none 0 hh F' (Sl.nil _ _ _) (Sl.nil _ _ _) (λ_ y=>y.elim) λ_ y=>y.elim
  ·rw[if_neg (λz=>z he)]at hK;obtain⟨P1,P2,a1,c1,a2,c2,r1,r2,s1,s2,k1,k2,k3⟩:=a.rows;rw[j3,j4]
   have old:∀b,Q' b->h.size<=b:=λb y=>by
    rcases gw.new y with z|z
    ·exact base b z
    ·have:=Ae.size;omega
   refine⟨_,_,_,cI r1 rfl,_,_,_,cI r2 rfl,hK P1 P2 a1 c1 a2 c2 hh F' s1 s2 (λb hb=>⟨old b ((k3 b).mpr (.inr (.inr (.inl hb)))),(k1 b hb).2.2⟩) λb hb=>old b ((k3 b).mpr (.inr (.inr (.inr hb))))⟩
 have k3:∀(hh:ad) (Q':NP) (S:gL) (e:Int),Fr Q cG hh->Gw cG Q hh Q'->AH F t d T g R I hh Q' S->S.n<=500->((e≠0/\(S,e)=sy T g R)∨(e=0/\fJ T g (yH T g) (R.getD 14 0) S=sy T g R))->dW.k3 h2 h6 h7 h8 cB e hh K:=λhh Q' S e f gw a hn es=>by
  unfold dW.k3;refine ce (λhe=>?_) λhe=>k4 hh Q' S e f gw a (es.resolve_right λz=>he z.1).2;have es:=(es.resolve_left λz=>z.1 he).2;have rxh:rd hh h2.size=ints R:=(f.rd (by omega) nqx).trans rx;rw[j1,j2];refine⟨_,cI a.re rfl,_,bJ rxh (by rw[Nat.zero_add,ints,lG0,List.getElem?_eq_getElem (by omega)];rfl),?_⟩;have e14:R[14]'(by omega)=R.getD 14 0:=by rw[List.getD_eq_getElem?_getD,List.getElem?_eq_getElem (by omega)];rfl
  rw[e14];refine tW (w:=129) (lim:=999000) a aaI (aaJ T g) (by omega) (by decide) λh' Q2 f2 g2 a2=>⟨_,rfl,k4 h' Q2 _ _ (f.trans f2 λb hb y=>(gw.old b hb).mp y) (gw.trans g2 f.size) a2 es⟩
 have k2:∀(hh:ad) (Q':NP) (S:gL) (e:Int),Fr Q cG hh->Gw cG Q hh Q'->AH F t d T g R I hh Q' S->S.n<=10->(S,e)=fB (ug g) ((R.drop 3).take 10) 0 ⟨[],[]⟩->dW.k2 h2 h6 h7 h8 cB e hh K:=λhh Q' S e f gw a hn es=>by
  unfold dW.k2;refine ce (λhe=>?_) λhe=>k3 hh Q' S e f gw a (by omega) (.inl ⟨he,?_⟩)
  ·have rxh:rd hh h2.size=ints R:=(f.rd (by omega) nqx).trans rx;refine⟨_,cI (xs:=[OC I]) (by rw[j2];exact a.re) rfl,_,bJ rxh (by rw[Nat.zero_add,ints,lG0,List.getElem?_eq_getElem (by omega)];rfl),?_⟩;have e13:R[13]'(by omega)=R.getD 13 0:=(by rw[List.getD_eq_getElem?_getD,List.getElem?_eq_getElem (by omega)];rfl);rw[e13]
   have ea:sy T g R=if(fJ T g (uQ g) (R.getD 13 0) S).2≠0 then fJ T g (uQ g) (R.getD 13 0) S else fJ T g (yH T g) (R.getD 14 0) (fJ T g (uQ g) (R.getD 13 0) S).1:=by
    unfold sy;rw[<-es];show(if e≠0 then _ else _)=_;rw[if_neg (λz=>z he)]
   have en:=xo (T:=T) (g:=g) (tab:=R.getD 13 0) (S:=S) (TH g);have ev:aeJ I=Value.func (.func 236) #[] ⟨[vP (some ⟨h8.size,0,none⟩)]⟩:=(by rw[j1];rfl);rw[<-ev];refine tW (w:=1) (lim:=1000000) a aaH (TH g) (by omega) nL0 λh' Q2 f2 g2 a2=>⟨_,rfl,k3 h' Q2 _ _ (f.trans f2 λb hb y=>(gw.old b hb).mp y) (gw.trans g2 f.size) a2 (by omega) ?_⟩
   by_cases tP:(fJ T g (uQ g) (R.getD 13 0) S).2=0
   ·rw[if_neg (λz=>z tP)]at ea;exact .inr ⟨tP,ea.symm⟩
   ·rw[if_pos tP]at ea;exact .inl ⟨tP,ea.symm⟩
  ·unfold sy;rw[<-es];show _=(if e≠0 then _ else _);rw[if_pos he]
 generalize Ro:(R.drop 3).take 10=ds at k2;have dl:ds.length=10:=by rw[<-Ro,lT0,lD0,hR];rfl
 have dg:∀j (hj:j<ds.length),R[3+j]?=some (ds[j]'hj):=λj hj=>by
  subst Ro;rw[List.getElem_take,List.getElem_drop,List.getElem?_eq_getElem]
 refine⟨λe i hh=>∃(j:Nat) (Q':NP) (S':gL),i=j/\j<=10/\Fr Q cG hh/\Gw cG Q hh Q'/\AH F t d T g R I hh Q' S'/\S'.n<=j/\((e=0/\fB (ug g) (ds.drop j) j S'=fB (ug g) ds 0 ⟨[],[]⟩)∨(e≠0/\(S',e)=fB (ug g) ds 0 ⟨[],[]⟩)),λ_ i _=>((10:Int)-i).toNat,
  ⟨0,Q,_,rfl,by decide,Fr.refl _ _,Gw.refl nL0 a12.lt,a12,nL0,.inl ⟨rfl,by rw[List.drop_zero]⟩⟩,?_⟩
 intro e i hh hI;obtain⟨j,Q',S',ei,hj,f,gw,a,hn,hE⟩:=hI;refine cd (λhl=>ce (λh0=>?_) λh0=>k2 hh Q' S' e f gw a (by omega) (hE.resolve_left (λz=>h0 z.1)).2) λhl=>k2 hh Q' S' e f gw a (by omega) ?_
 ·subst ei;have ew:=(hE.resolve_right (λz=>z.1 h0)).2;have k7:j<ds.length:=by omega
  rw[drop_cons k7,k8]at ew;have rxh:rd hh h2.size=ints R:=(f.rd (by omega) nqx).trans rx;have wr:wI ((j:Int)+1)=((j+1:Nat):Int):=by rw[wrap_i64 (by omega) (by omega)];omega
  unfold dW.k1;rw[tN0,wr];refine⟨_,cI (xs:=[WY I]) (by rw[j1];exact a.ro) rfl,⟨by omega,by omega⟩,(ds[j]'k7),Ef rxh (by rw[ints,lG0,dg j k7];rfl),A1 a (by omega) λh' Q2 f2 g2 a2=>⟨_,rfl,⟨j+1,Q2,_,rfl,by omega,f.trans f2 λb hb y=>(gw.old b hb).mp y,gw.trans g2 f.size,a2,?_,?_⟩,by show((10:Int)-((j+1:Nat):Int)).toNat<((10:Int)-(j:Int)).toNat;omega⟩⟩
  ·have:=uR g S' (j:Int) (ds[j]'k7);omega
  ·have edr:ug g S' j (ds[j]'k7)=kW g S' (j:Int) (ds[j]'k7):=rfl;rw[edr]at ew
   by_cases he:(kW g S' (j:Int) (ds[j]'k7)).2=0
   ·rw[if_neg (λz=>z he)]at ew;exact .inl ⟨he,ew⟩
   ·rw[if_pos he]at ew;exact .inr ⟨he,ew⟩
 ·rcases hE with⟨h0,ew⟩|⟨_,ew⟩
  ·have ed:ds.drop j=[]:=List.drop_eq_nil_of_le (by omega);rw[ed]at ew;rw[h0];exact ew
  ·exact ew
end Bm
namespace Ino
open Hp W Ad Tm Bt Spc Re
open Hd (ints)
open In (kS oM lP qL aA af zL zM gW kJ mT sW nv)
def nM(g:G)(n:Int):Int:=(g.dT+n.toNat/8:Nat)
def rat(n:Int):Nat:=64*(n.toNat%8)
theorem Iv(n:Int):rat n+64<=512:=by unfold rat;omega
theorem mV(bs:cL):(qL bs).1.length=15:=by
 unfold qL;split
 ·exact List.length_replicate
 ·split
  ·exact mT bs
  ·exact List.length_replicate
def getM(T:TM)(g:G)(n:Int):List Int×Int:=
 if ¬(1<=n/\n<g.count)then(kS,110)else if(T.read (nM g n)).2≠0 then(kS,(T.read (nM g n)).2)else qL (((T.read (nM g n)).1.drop (rat n)).take 64)
theorem ko(T:TM)(g:G)(n:Int):(getM T g n).1.length=15:=by
 unfold getM
 split
 ·exact List.length_replicate
 ·split
  ·exact List.length_replicate
  ·exact mV _
def kA(T:TM)(g:G)(n:Int)(R:List Int):TM×Int:=
 if ¬(1<=n/\n<g.count)then(T,110)else if oM R=false then(T,111)else if(T.read (nM g n)).2≠0 then(T,(T.read (nM g n)).2)else
  T.write (nM g n) (iH (T.read (nM g n)).1 (rat n) (lP R))
structure Ix(g:G):Prop where
 ok:g.ok
 c:g.count<=1099511627776
theorem zS{g:G}{n:Int}(ok:Ix g)(hK:∀ h',Fr No h h'->K (.bool (decide (1<=n/\n<g.count))) h'):C.jz g.v n h K:=by
 have:=ok.c;refine jz.ok (az.intro λh2 n2=>⟨_,bJ n2.rd rfl,In.kZ ⟨_,rfl,?_⟩⟩);rw[wrap_i64 (by omega) (by omega)]
 have e:(decide (1<=n) && decide (n<=(g.count:Int)-1))=decide (1<=n/\n<g.count):=by
  rw[Bool.eq_iff_iff,Bool.and_eq_true,decide_eq_true_iff,decide_eq_true_iff,decide_eq_true_iff];omega
 rw[e];exact hK h2 n2.fr
theorem sY{g:G}{n:Int}(ok:Ix g)(h1:1<=n)(h2:n<g.count)(hK:∀ h',Fr No h h'->K (.tuple #[vI (nM g n),vI (rat n),vI 0]) h'):C.lB g.v n h K:=by
 have c1:=ok.c;have c2:=ok.ok.i;refine lB.ok (az.intro λh2 n2=>cf (decide_eq_false (by omega)) ⟨_,bJ n2.rd rfl,cf (decide_eq_false (by omega)) ⟨_,bJ n2.rd rfl,?_⟩⟩);have hK:=hK h2 n2.fr;have e1:Int.tdiv n 8=n/8:=Int.tdiv_eq_ediv_of_nonneg (by omega);have e2:Int.tmod n 8=n%8:=Int.tmod_eq_emod_of_nonneg (by omega);rw[e1,e2,wq (n/8),wq ((g.dT:Int)+n/8),wq (n%8*64)];have e3:n%8*64=((rat n:Nat):Int):=by unfold rat;omega
 have e4:(g.dT:Int)+n/8=nM g n:=by unfold nM;omega
 rw[e3,e4];exact hK
theorem Em{T:TM}{g:G}{n:Int}(x:Tx h F t d T)(ok:Ix g)(h1:1<=n)(h2:n<g.count)
  (hK:∀a l c h',Fr No h h'->l=(T.read (nM g n)).1.length->Sl h' 1 a l c ((T.read (nM g n)).1.map bv) (dG h.size)->K (.tuple #[vI (nM g n),vS a l c,vI (rat n),vI (T.read (nM g n)).2]) h'):C.kX t g.v n h K:=by
 refine kX.ok (az.intro λtP n2=>⟨g.v,rfl,ah n2.rd,sY ok h1 h2 λh3 f3=>⟨_,_,_,rfl,cn (λy=>absurd rfl y) λ_=>?_⟩⟩);have F3:=n2.fr.no f3;refine Tm.cD (x.no F3) λa l c h4 f4 hl s=>⟨_,_,_,_,rfl,?_⟩;exact hK a l c h4 (F3.no f4) hl (s.mono λb hb=>Nat.le_trans F3.size hb)
theorem wv{T:TM}{g:G}{n:Int}(gl:In.kJ h)(x:Tx h F t d T)(ok:Ix g)
  (hK:∀h',Fr No h h'->K (.tuple #[.agg ⟨ints (getM T g n).1⟩,vI (getM T g n).2]) h'):C.qg t g.v n h K:=by
 have ha:=Iv n;refine qg.ok (az.intro λtP n2=>az.intro λh3 n3=>⟨g.v,rfl,ah ((n3.at_ n2.own.lt).trans n2.rd),zS ok λh4 f4=>⟨_,rfl,jV ?_⟩⟩);have s2:=n2.size;have s3:=n3.size;have f3:Fr No h h3:=n2.fr.new n3;have F4:=f3.no f4;have z4:=f4.size
 have row:∀{h':ad},Fr No h4 h'->dJ h' tP.size/\(rd h' tP.size).length=15:=λf'=>by
  have f34:Fr No h3 _:=f4.no f';exact⟨f34.own n3.own.lt (λy=>y) n3.own,by rw[f34.rd n3.own.lt λy=>y,n3.rd];rfl⟩
 by_cases hn:1<=n/\n<g.count
 ·have e0:getM T g n=if(T.read (nM g n)).2≠0 then(kS,(T.read (nM g n)).2)else qL (((T.read (nM g n)).1.drop (rat n)).take 64):=by unfold getM;rw[if_neg (λy=>y hn)]
  rw[e0]at hK;refine ct (decide_eq_true hn) ⟨g.v,rfl,ah ((f4.r0).trans ((n3.at_ n2.own.lt).trans n2.rd)),Em (x.no F4) ok hn.1 hn.2 λa l c h6 f6 hl s6=>⟨_,_,_,_,_,_,rfl,cn (λhe=>?_) λhe=>?_⟩⟩
  ·rw[if_pos he]at hK;obtain⟨w,MW⟩:=row f6;exact nv (h3:=h) (F4.no f6) (by omega) w MW hK
  ·rw[if_neg (λy=>y he)]at hK;have hlen:(T.read (nM g n)).1.length=512:=Tx.gX x he;have hc:=s6.le;rw[wrap_i64 (by omega) (by omega)];refine⟨⟨by omega,by omega,by omega⟩,?_⟩;have B6:=aw.cut s6.str hc (i:=(rat n:Int).toNat) (j:=((rat n:Int)+64).toNat) (by omega) (by omega);rw[show((rat n:Int)+64).toNat-(rat n:Int).toNat=64 by omega]at B6 ⊢;refine In.KB (gl.no (F4.no f6)) B6 (by omega) λh8 f8=>⟨_,_,rfl,?_⟩;rw[show(rat n:Int).toNat=rat n by omega];obtain⟨w,MW⟩:=row (f6.no f8);refine ax.intro w (by rw[af,mV]) (aA _) (by omega) λh9 d9=>⟨_,by rw[af];exact mV _,ah ?_,hK h9 (((F4.no f6).no f8).did d9 λhl=>by omega)⟩;rw[d9.rd];exact dC _ _ (by rw[af,mV,MW])
 ·have e0:getM T g n=(kS,110):=by unfold getM;rw[if_pos hn]
  rw[e0]at hK;obtain⟨w,MW⟩:=row (Fr.refl _ _);exact cf (decide_eq_false hn) (nv (h3:=h) F4 (by omega) w MW hK)
theorem lO{T:TM}{g:G}{n:Int}(gl:In.kJ h)(x:Tx h F t d T)(ok:Ix g)(hR:R.length=15)(hu:T.ar.length<1000000000)
  (hK:∀h' F',Fr F h h'->Gw h F h' F'->Tx h' F' t d (kA T g n R).1->K (vI (kA T g n R).2) h'):C.oW t g.v n (ints R) h K:=by
 have ha:=Iv n
 have same:∀e h',Fr No h h'->kA T g n R=(T,e)->K (vI e) h':=λe h' f e0=>by
  rw[e0]at hK;exact hK h' F (f.mono λ_ _ y=>y.elim) (Gw.refl f.size λb hb=>x.lt hb) (x.no f)
 refine oW.ok (az.intro λtP n2=>az.intro λh3 n3=>⟨g.v,rfl,ah ((n3.at_ n2.own.lt).trans n2.rd),zS ok λh4 f4=>⟨_,rfl,jV ?_⟩⟩);have s2:=n2.size;have s3:=n3.size;have F4:=(n2.fr.new n3).no f4;have z4:=f4.size
 by_cases hn:1<=n/\n<g.count
 ·refine ct (decide_eq_true hn) ⟨ints R,by rw[af,hR],ah ((f4.r0).trans n3.rd),In.Kz (gl.no F4) hR (λhm h5 f5=>⟨_,_,_,_,rfl,cn (λ_=>?_) λy=>absurd (show(111:Int)=0 from y) (by decide)⟩) λhm eb h5 f5 heb s5=>⟨_,_,_,_,rfl,cn (λy=>absurd rfl y) λ_=>?_⟩⟩
  ·exact same _ h5 (F4.no f5) (by unfold kA;rw[if_neg (λy=>y hn),if_pos hm])
  have z5:=f5.size;have leb:eb<h5.size:=s5.lt;have F5:=F4.no f5;refine⟨g.v,rfl,ah ((f5.r0).trans ((f4.r0).trans ((n3.at_ n2.own.lt).trans n2.rd))),Em (x.no F5) ok hn.1 hn.2 λa l c h6 f6 hl s6=>⟨_,_,_,_,_,_,rfl,cn (λhe=>?_) λhe=>?_⟩⟩
  ·exact same _ h6 (F5.no f6) (by unfold kA;rw[if_neg (λy=>y hn),if_neg (by rw[hm];simp),if_pos he])
  have hlen:(T.read (nM g n)).1.length=512:=Tx.gX x he;have e0:kA T g n R=T.write (nM g n) (iH (T.read (nM g n)).1 (rat n) (lP R)):=by unfold kA;rw[if_neg (λy=>y hn),if_neg (by rw[hm];simp),if_neg (λy=>y he)]
  rw[e0]at hK;generalize T.read (nM g n)=rd0 at hl s6 hlen hK;obtain⟨bs,er⟩:=rd0;simp only at hl s6 hlen hK;obtain⟨p,ep,_⟩:=s6.get (by omega);subst ep;obtain⟨pb,po,sp⟩:=p;have DX:sp=none:=s6.2.1;subst DX;have z6:=f6.size;have hc:=s6.le;have F6:=F5.no f6;have le:=sW hR;refine⟨⟨by omega,by omega⟩,?_⟩;rw[if_neg (by omega)];show rP _ (some (Addr.add ⟨pb,po,none⟩ (rat n:Int).toNat)) _ _ _ _;rw[bm];have GR:h5.size<=pb:=s6.2.2.1;have e5:ak h6 (some ⟨eb,0,none⟩) ((lP R).map bv):=(s5.fr f6 λ_ _ _ y=>y).cells;obtain⟨w6,l6⟩:=s6.wr;refine rP.intro (new:=(lP R).map bv) (by rw[lM0,le];show 64=min 64 (l-_)*1;omega) e5 (ij _) w6 (by rw[lM0,le];omega) λh7 d7=>?_
  have s7:Sl h7 1 (some ⟨pb,po,none⟩) l c ((iH bs (rat n) (lP R)).map bv) (dG h5.size):=by
   have:=s6.putAt (new:=(lP R).map bv) (j:=rat n) (by rw[lM0,le];omega) (by rw[show po+rat n=po+(rat n:Int).toNat by omega];exact d7);rw[qD (by rw[hlen,le];omega)]at this;exact this
  have F7:=F6.did d7 λhl=>by omega
  refine Tm.eF (x.no F7) s7.str (by omega) (λq eq y=>?_) hu λh8 F8 f8 g8 x8=>⟨_,rfl,hK h8 F8 ?_ ?_ x8⟩
  ·cases eq
   have y:F pb:=y;have:=x.lt y;omega
  ·exact(F7.mono λ_ _ y=>y.elim).trans f8 λ_ _ y=>y
  ·exact(Gw.refl F7.size λb hb=>x.lt hb).trans g8 F7.size
 ·exact cf (decide_eq_false hn) (same _ h4 F4 (by unfold kA;rw[if_pos hn]))
end Ino
namespace Fi
open Hp W Ad Tm Spc Re Av
open Hd (ints)
open In (kJ af aA)
open Ino (getM kA Ix ko)
open Bm (fH fA fL allM mo)
theorem iaT(hi:i<R.length):(ints R)[i]?=some (vI (R.getD i 0)):=by
 unfold ints;rw[lG0,List.getD_eq_getElem?_getD,List.getElem?_eq_getElem hi];rfl
theorem ints_set{v:Int}:(ints R).set i (vI v)=ints (R.set i v):=by
 unfold ints;rw[List.map_set]
theorem stay(f:Fr F h h')(g:Gw h F h' F'){b:Nat}(hb:b<h.size)(hF:¬ F b):rd h' b=rd h b/\¬F' b/\b<h'.size/\(dJ h b->dJ h' b):=
 ⟨f.rd hb hF,λy=>hF ((g.old b hb).mp y),Nat.lt_of_lt_of_le hb f.size,f.own hb hF⟩
def dq(T:TM)(g:G)(n:Int):List Int×Int:=if(getM T g n).2=0/\(getM T g n).1.getD 0 0=0 then((getM T g n).1,110)else getM T g n
theorem sZ(T:TM)(g:G)(n:Int):(dq T g n).1.length=15:=by
 unfold dq
 split <;> exact ko T g n
theorem tX{T:TM}{g:G}{n:Int}(gl:In.kJ h)(x:Tx h F t d T)(ok:Ix g)
  (hK:∀h',Fr No h h'->K (.tuple #[.agg ⟨ints (dq T g n).1⟩,vI (dq T g n).2]) h'):C.nW t g.v n h K:=by
 have lR:=ko T g n;refine nW.ok (az.intro λh2 n2=>az.intro λh3 n3=>⟨g.v,rfl,ah ((n3.at_ n2.own.lt).trans n2.rd),Ino.wv (gl.no (n2.fr.new n3)) (x.no (n2.fr.new n3)) ok λh4 f4=>⟨_,_,rfl,aM.intro (by rw[af,lR]) (aA _) rfl λh6 n6=>?_⟩⟩);have z2:=n2.size;have z3:=n3.size;have z4:=f4.size;have z6:=n6.size;have F6:Fr No h h6:=((n2.fr.new n3).no f4).new n6;have w6:dJ h6 h2.size:=n6.ow (f4.own (by omega) (λy=>y) n3.own);have l6:(rd h6 h2.size).length=15:=by rw[n6.at_,f4.rd (by omega) λy=>y,n3.rd];rfl
 have fin:∀{e:Int} {k:HP},dq T g n=((getM T g n).1,e)->(∀h',K (.tuple #[.agg ⟨ints (dq T g n).1⟩,vI (dq T g n).2]) h'->K (.tuple #[.agg ⟨ints (getM T g n).1⟩,vI e]) h'):=λe h' hk=>by rw[e]at hk;exact hk
 have out:∀e,dq T g n=((getM T g n).1,e)->∃fV:LV,List.length fV=15/\aj h6 (bA h4) fV/\
   ax (bA h2) fV 15 h6 λh7=>∃bL:LV,List.length bL=15/\aj h7 (bA h2) bL/\K (.tuple #[.agg ⟨bL⟩,vI e]) h7:=λe he=>by
  rw[he]at hK;refine⟨_,by rw[af,lR],ah n6.rd,ax.intro w6 (by rw[af,lR]) (aA _) (by omega) λh7 d7=>⟨_,by rw[af,lR],ah ?_,hK h7 (F6.did d7 λhl=>by omega)⟩⟩;rw[d7.rd];exact dC _ _ (by rw[af,lR,l6])
 refine ce (λhe=>⟨_,bJ n6.rd (iaT (by rw[lR];decide)),ce (λh0=>?_) λh0=>?_⟩) λhe=>?_
 ·exact out 110 (by unfold dq;rw[if_pos ⟨he,h0⟩])
 ·exact out _ (by unfold dq;rw[if_neg λy=>h0 y.2])
 ·exact out _ (by unfold dq;rw[if_neg λy=>he y.1])
def kT(T:TM)(g:G)(R:List Int)(k:Int):cL×Int:=if(fH T g R k).2≠0 then([],(fH T g R k).2)else if(fH T g R k).1=0 then(aL,0)else T.read (fH T g R k).1
theorem MX{T:TM}{g:G}(gl:In.kJ h)(x:Tx h F t d T)(hR:R.length=15)
  (hK:∀a l c h',Fr No h h'->l=(kT T g R k).1.length->Sl h' 1 a l c ((kT T g R k).1.map bv) (dG h.size)->K (.tuple #[vS a l c,vI (kT T g R k).2]) h'):C.oH t g.v (ints R) k h K:=by
 refine oH.ok (az.intro λh2 n2=>az.intro λh3 n3=>⟨g.v,rfl,ah ((n3.at_ n2.own.lt).trans n2.rd),_,by rw[af,hR],ah n3.rd,?_⟩);have z2:=n2.size;have z3:=n3.size;have F3:=n2.fr.new n3;refine Bm.ue (gl.no F3) (x.no F3) hR λh4 f4=>⟨_,_,rfl,cn (λhe=>?_) λhe=>ce (λh0=>⟨by decide,az.intro λh5 n5=>?_⟩) λh0=>?_⟩
 ·have e0:kT T g R k=([],(fH T g R k).2):=by unfold kT;rw[if_pos he]
  rw[e0]at hK;exact hK none 0 0 h4 (F3.no f4) rfl (Sl.nil _ _ _)
 ·have e0:kT T g R k=(aL,0):=by unfold kT;rw[if_neg (λy=>y he),if_pos h0]
  rw[e0]at hK;have z4:=f4.size;have er:rd h5 h4.size=aL.map bv:=by rw[n5.rd,aL,List.map_replicate];rfl
  have el:(aL.map bv).length=512:=by rw[lM0];exact List.length_replicate
  refine hK (some (bA h4)) 512 512 h5 ((F3.no f4).new n5) (by exact List.length_replicate.symm) ⟨by rw[el],rfl,?_,n5.own,nL0,?_,?_⟩
  ·show h.size<=h4.size;omega
  ·show((rd h5 h4.size).drop 0).take _=_;rw[er,List.drop_zero,List.take_length]
  ·show 0+512*1<=(rd h5 h4.size).length;rw[er,el];decide
 ·have e0:kT T g R k=T.read (fH T g R k).1:=by unfold kT;rw[if_neg (λy=>y he),if_neg h0]
  rw[e0]at hK;have z4:=f4.size;refine Tm.cD (x.no (F3.no f4)) λa l c h6 f6 hl s=>⟨_,_,_,_,rfl,hK a l c h6 ((F3.no f4).no f6) hl (s.mono λb hb=>?_)⟩;have hb:h4.size<=b:=hb;show h.size<=b;omega
structure Ud(h:ad)(ub tb mb eb:Nat)(t:OA)(m:Int):Prop where
 u:rd h ub=[vP (some ⟨eb,0,none⟩)]
 t:rd h tb=[vP t]
 m:rd h mb=[vI m]
theorem Ud.lt(c:Ud h ub tb mb eb t m):ub<h.size/\tb<h.size/\mb<h.size:=
 ⟨gr (o:=0) (by rw[c.u];rfl),gr (o:=0) (by rw[c.t];rfl),gr (o:=0) (by rw[c.m];rfl)⟩
theorem Ud.fr{G:NP}(c:Ud h ub tb mb eb t m)(f:Fr G h h')(h1:¬ G ub)(h2:¬ G tb)(h3:¬ G mb):Ud h' ub tb mb eb t m:=by
 obtain⟨l1,l2,l3⟩:=c.lt;exact⟨(f.rd l1 h1).trans c.u,(f.rd l2 h2).trans c.t,(f.rd l3 h3).trans c.m⟩
def En(ub tb mb:Nat):LV:=[vP (some ⟨ub,0,none⟩),vP (some ⟨tb,0,none⟩),vP (some ⟨mb,0,none⟩)]
theorem wZ{T:TM}(x:Tx h F t d T)
  (hK:∀ub tb mb h',Fr No h h'->h.size<=ub->h.size<=tb->h.size<=mb->Ud h' ub tb mb eb t T.mark.1->K (.func (.func 215) ⟨[]⟩ ⟨En ub tb mb⟩) h'):C.oV t (some ⟨eb,0,none⟩) h K:=by
 refine oV.ok (az.intro λh2 n2=>az.intro λh3 n3=>⟨t,cI ((n3.at_ n2.own.lt).trans n2.rd) rfl,ng (x.no (n2.fr.new n3)) ⟨_,_,rfl,az.intro λh5 n5=>?_⟩⟩);have z2:=n2.size;have z3:=n3.size;have z5:=n5.size;refine aO.intro n5.own (by rw[n5.rd];decide) λh6 d6=>?_;have F6:Fr No h h6:=((n2.fr.new n3).new n5).did d6 λhl=>by omega
 refine hK h2.size h.size h3.size h6 F6 (by omega) nL0 (by omega) ⟨?_,?_,?_⟩
 ·exact(d6.at_).trans ((n5.at_).trans n3.rd)
 ·exact(d6.at_).trans ((n5.at_).trans ((n3.at_ n2.own.lt).trans n2.rd))
 ·rw[d6.rd,n5.rd];rfl
theorem aaK{T:TM}{K:HP}(x:Tx h F t d T)(c:Ud h ub tb mb eb t m)(re:rd h eb=[vI e])(hu:T.ar.length<1000000000)
  (hK:∀h',Fr F h h'->Tx h' F t d (if e≠0 then(T.back m).1 else T)->K h'):og Tryz.prog (.func (.func 215) ⟨[]⟩ ⟨En ub tb mb⟩) [] h K:=by
 show xU Tryz.prog 215 [vP (some ⟨ub,0,none⟩),vP (some ⟨tb,0,none⟩),vP (some ⟨mb,0,none⟩)] h K;refine Dg (c:=Tryz.f215.body.getD .skip) (JJ jh.lo jh.od) Tryz.func215 (by kernel_rfl) (by kernel_rfl) ?_;rw[jh.eq];refine os ⟨_,cI c.u rfl,os ⟨_,cI re rfl,cn (λhe=>os ⟨t,cI c.t rfl,os ⟨_,cI c.m rfl,nh x hu λh2 f2 x2=>⟨_,rfl,?_⟩⟩⟩) λhe=>?_⟩⟩
 ·rw[if_pos he]at hK;exact hK h2 f2 x2
 ·rw[if_neg (λy=>y he)]at hK;exact hK h (Fr.refl _ _) x
def pK(T:TM)(g:G)(n:Int):Int×Int:=if(dq T g n).2≠0 then(0,(dq T g n).2)else
 if(allM T g (dq T g n).1).2.2≠0 then(0,(allM T g (dq T g n).1).2.2)else(((allM T g (dq T g n).1).1.length:Int)+((allM T g (dq T g n).1).2.1.length:Int),0)
theorem iI{T:TM}{g:G}{n:Int}(gl:In.kJ h)(x:Tx h F t d T)(ok:Ix g)(hl:(dq T g n).2=0->(allM T g (dq T g n).1).1.length+(allM T g (dq T g n).1).2.1.length<1000000000000)
  (hK:∀h',Fr No h h'->K (.tuple #[vI (pK T g n).1,vI (pK T g n).2]) h'):C.mF t g.v n h K:=by
 have lR:=sZ T g n;refine mF.ok (az.intro λh2 n2=>⟨g.v,rfl,ah n2.rd,tX (gl.no n2.fr) (x.no n2.fr) ok λh3 f3=>⟨_,_,rfl,aM.intro (by rw[af,lR]) (aA _) rfl λh5 n5=>?_⟩⟩);have z2:=n2.size;have z3:=f3.size;have z5:=n5.size;have F5:Fr No h h5:=(n2.fr.no f3).new n5;refine cn (λhe=>?_) λhe=>⟨g.v,rfl,ah ((n5.at_).trans ((f3.r0).trans n2.rd)),_,by rw[af,lR],ah n5.rd,Bm.El (gl.no F5) (x.no F5) lR λP1 P2 a1 c1 a2 c2 h6 f6 s1 s2 _ _=>⟨_,_,_,_,_,_,_,rfl,cn (λh0=>?_) λh0=>?_⟩⟩
 ·have e0:pK T g n=(0,(dq T g n).2):=by unfold pK;rw[if_pos he]
  rw[e0]at hK;exact hK h5 F5
 ·have e0:pK T g n=(0,(allM T g (dq T g n).1).2.2):=by unfold pK;rw[if_neg (λy=>y he),if_pos h0]
  rw[e0]at hK;exact hK h6 (F5.no f6)
 ·have e0:pK T g n=(((allM T g (dq T g n).1).1.length:Int)+((allM T g (dq T g n).1).2.1.length:Int),0):=by unfold pK;rw[if_neg (λy=>y he),if_neg (λy=>y h0)]
  rw[e0]at hK;have hl:=hl (Classical.byContradiction λy=>y he);rw[wrap_i64 (by omega) (by omega)];exact hK h6 (F5.no f6)
def zf(b:cL)(r:Nat):Nat->cL
 | 0=>b
 | m+1=>(zf b r m).set (r+m) 0
def lT(T:TM)(g:G)(R:List Int)(size:Int):TM×Int:=if size%512=0 then(T,0)else if(fH T g R (size/512)).2≠0 then(T,(fH T g R (size/512)).2)else if(fH T g R (size/512)).1=0 then(T,0)else
 if(T.read (fH T g R (size/512)).1).2≠0 then(T,(T.read (fH T g R (size/512)).1).2)else T.write (fH T g R (size/512)).1 (zf (T.read (fH T g R (size/512)).1).1 (size%512).toNat (512-(size%512).toNat))
theorem P7{T:TM}{g:G}(gl:In.kJ h)(x:Tx h F t d T)(hR:R.length=15)(s0:0<=size)(s1:size<=8459264)(hu:T.ar.length<1000000000)
  (hK:∀h' F',Fr F h h'->Gw h F h' F'->Tx h' F' t d (lT T g R size).1->K (vI (lT T g R size).2) h'):C.lY t g.v (ints R) size h K:=by
 have same:∀e h',Fr No h h'->lT T g R size=(T,e)->K (vI e) h':=λe h' f e0=>by
  rw[e0]at hK;exact hK h' F (f.mono λ_ _ y=>y.elim) (Gw.refl f.size λb hb=>x.lt hb) (x.no f)
 have e1:Int.tdiv size 512=size/512:=Int.tdiv_eq_ediv_of_nonneg s0;have e2:Int.tmod size 512=size%512:=Int.tmod_eq_emod_of_nonneg s0;refine lY.ok (az.intro λh2 n2=>az.intro λh3 n3=>?_);have z2:=n2.size;have z3:=n3.size;have F3:=n2.fr.new n3;rw[e1,e2];refine ce (λhz=>same 0 h3 F3 (by unfold lT;rw[if_pos hz])) λhz=>⟨g.v,rfl,ah ((n3.at_ n2.own.lt).trans n2.rd),_,by rw[af,hR],ah n3.rd,?_⟩;rw[wrap_i64 (by omega) (by omega)];refine Bm.ue (gl.no F3) (x.no F3) hR λh4 f4=>⟨_,_,rfl,cn (λhe=>?_) λhe=>ce (λh0=>?_) λh0=>?_⟩
 ·exact same _ h4 (F3.no f4) (by unfold lT;rw[if_neg hz,if_pos he])
 ·rw[he];exact same _ h4 (F3.no f4) (by unfold lT;rw[if_neg hz,if_neg (λy=>y he),if_pos h0])
 have z4:=f4.size;have F4:=F3.no f4;unfold lY.k1;refine Tm.cD (x.no F4) λa l c h5 f5 hl s=>⟨_,_,_,_,rfl,cn (λh0'=>?_) λh0'=>?_⟩
 ·exact same _ h5 (F4.no f5) (by unfold lT;rw[if_neg hz,if_neg (λy=>y he),if_neg h0,if_pos h0'])
 have ew:lT T g R size=T.write (fH T g R (size/512)).1 (zf (T.read (fH T g R (size/512)).1).1 (size%512).toNat (512-(size%512).toNat)):=by unfold lT;rw[if_neg hz,if_neg (λy=>y he),if_neg h0,if_neg (λy=>y h0')]
 rw[ew]at hK;clear same ew;have hlen:(T.read (fH T g R (size/512)).1).1.length=512:=Tx.gX x h0';generalize(T.read (fH T g R (size/512)).1).1=bs at hl s hlen hK;generalize(fH T g R (size/512)).1=i at hK ⊢;obtain⟨r,er⟩:∃r:Nat,size%512=r:=⟨(size%512).toNat,by omega⟩;rw[e2];rw[er]at hK ⊢;rw[tN0]at hK;have hr:r<512:=by omega
 obtain⟨p,ep,_⟩:=s.get (by omega);subst ep;obtain⟨pb,po,sp⟩:=p;have DX:sp=none:=s.2.1;subst DX;have z5:=f5.size;have F5:=F4.no f5;have GR:h4.size<=pb:=s.2.2.1;refine⟨λk hh=>∃m:Nat,k=((r+m:Nat):Int)/\r+m<=512/\Fr No h hh/\Sl hh 1 (some ⟨pb,po,none⟩) l c ((zf bs r m).map bv) (dG h4.size),λk _=>(512-k).toNat,⟨0,rfl,by omega,F5,s⟩,?_⟩;rintro k h6 ⟨m,ek,hm,F6,s6⟩;obtain⟨w6,l6⟩:=s6.wr;have ekn:k.toNat=r+m:=by omega
 refine cd (λbK=>⟨⟨by omega,by omega⟩,os (aO.add w6 (by omega) λh7 d7=>?_)⟩) λbK=>?_
 ·rw[ekn]at d7;rw[wq (k+1)];refine⟨⟨m+1,by omega,by omega,F6.did d7 λhl=>by omega,?_⟩,by show(512-(k+1)).toNat<(512-k).toNat;omega⟩;have s7:=s6.putAt (new:=[bv 0]) (j:=r+m) (by show _+1<=_;omega) d7
  have e7:put ((zf bs r m).map bv) (r+m) [bv 0]=(zf bs r (m+1)).map bv:=by
   show((zf bs r m).map bv).set (r+m) (bv 0)=((zf bs r m).set (r+m) 0).map bv;rw[List.map_set]
  rw[e7]at s7;exact s7
 ·have em:m=512-r:=by omega
  subst em;refine Tm.eF (x.no F6) s6.str (by omega) (λq eq y=>?_) hu λh8 F8 f8 g8 x8=>⟨_,rfl,hK h8 F8 ((F6.mono λ_ _ y=>y.elim).trans f8 λ_ _ y=>y) ((Gw.refl F6.size λb hb=>x.lt hb).trans g8 F6.size) x8⟩
  cases eq
  have y:F pb:=y;have:=x.lt y;omega
end Fi
namespace Bm
open Hp W Ad Tm Bt Spc Re Av
theorem KH{T0 T:TM}(e:Ext T0 T)(g:G)(i:Int):Ext T0 (Spc.mj T g i).1:=by
 unfold Spc.mj
 split
 ·exact e
 ·split
  ·exact e
  ·split
   ·exact e
   ·exact kz e _ _ _
theorem KI(g:G):∀(l:List (Nat×Nat)) (T:TM) (R:List Int) (a:Int),(∀s∈l,zO s)->(bU g l T R a).1.1.ar.length<=T.ar.length+3*l.length
 | [],T,R,a,_=>Nat.le_add_right _ _
 | s::r,T,R,a,h=>by
  have ih:=λT' R' a'=>KI g r T' R' a' λx hx=>h x (List.mem_cons_of_mem _ hx)
  have nx:∀(TR:TM×List Int) (nu er:Int),TR.1.ar.length<=T.ar.length+3->(xR g TR nu er (bU g r)).1.1.ar.length<=T.ar.length+3*(r.length+1):=λTR nu er hle=>by
   unfold xR
   split
   ·show TR.1.ar.length<=_;omega
   ·split
    ·show TR.1.ar.length<=_;omega
    ·split
     ·show TR.1.ar.length<=_;omega
     ·have:=ih TR.1 TR.2 nu;omega
  rw[Eh,List.length_cons]
  split
  ·exact nx _ _ _ (KF (h s (List.mem_cons_self ..)))
  ·exact nx (T,R) _ _ (Nat.le_add_right _ _)
theorem OE(T:TM)(m:Int):(T.back m).1.ar.length<=T.ar.length:=by
 unfold TM.back
 split
 ·exact nL0
 ·split
  ·exact nL0
  ·show(T.ar.take _).length<=_;rw[lT0];omega
theorem zT{T:TM}{g:G}:(fL T g R k).1.ar.length<=T.ar.length+9:=by
 unfold fL
 split
 ·exact Nat.le_add_right _ _
 ·rename_i hk
  have hl:(eV k.toNat).length<=3:=by
   unfold eV
   split
   ·simp
   ·split <;> simp
  have:=KI g (eV k.toNat) T R 0 (Is (by omega))
  split
  ·have hb:=OE (bU g (eV k.toNat) T R 0).1.1 T.ar.length;exact Nat.le_trans hb (by omega)
  ·exact Nat.le_trans this (by omega)
theorem Eo(g:G):∀(l:List Nat) (T:TM) (R:List Int),(fQ g l T R).1.1.ar.length<=T.ar.length+l.length
 | [],T,R=>nL0
 | i::r,T,R=>by
  rw[List.length_cons];unfold fQ
  split
  ·have:=Eo g r T R;omega
  ·have h1:=qN T g (R.getD (3+i) 0)
   split
   ·show(eO T g (R.getD (3+i) 0)).1.ar.length<=_;omega
   ·have:=Eo g r (eO T g (R.getD (3+i) 0)).1 (R.set (3+i) 0);omega
theorem Ep(i:Nat)(R:List Int)(C:TM×Bool×Int):(fI i R C).1.1=C.1:=by
 unfold fI;split <;> rfl
theorem W5(g:G)(k:Int)(T:TM)(R:List Int):(lK g k T R).1.1.ar.length<=T.ar.length+16700+(10-k.toNat):=by
 have h1:=Eo g (mr k) T R;have hl:(mr k).length=10-k.toNat:=List.length_range'
 have h2:∀(T':TM) (R':List Int),(oN g k T' R').1.1.ar.length<=T'.ar.length+129:=λT' R'=>by
  unfold oN
  split
  ·rw[Ep];exact sX (qO g)
  ·exact Nat.le_add_right _ _
 have h3:∀(T':TM) (R':List Int),(sH g k T' R').1.1.ar.length<=T'.ar.length+16513:=λT' R'=>by
  unfold sH
  split
  ·rw[Ep];exact sX (Iu g (firstM k))
  ·exact Nat.le_add_right _ _
 unfold lK
 split
 ·omega
 ·have a:=h2 (fQ g (mr k) T R).1.1 (fQ g (mr k) T R).1.2
  split
  ·omega
  ·have b:=h3 (oN g k (fQ g (mr k) T R).1.1 (fQ g (mr k) T R).1.2).1.1 (oN g k (fQ g (mr k) T R).1.1 (fQ g (mr k) T R).1.2).1.2;omega
theorem uS{T:TM}{g:G}:(fA T g R k).1.ar.length<=T.ar.length+16710:=by
 have h:=W5 g k T R;unfold fA
 split
 ·exact Nat.le_add_right _ _
 ·split
  ·have hb:=OE (lK g k T R).1.1 T.ar.length;exact Nat.le_trans hb (by omega)
  ·exact Nat.le_trans h (by omega)
end Bm
namespace Fi
open Hp W Ad Tm Spc Re Av Rg
open Hd (ints)
open In (kJ af aA)
open Ino (getM kA Ix ko)
open Bm (fH fA fL allM mo jb uS)
def toP(off n a:Nat):Nat:=min 512 ((off+a)%512+n-a)
def vg(off n a:Nat):LV:=[vI ((off+a)/512:Nat),vI ((off+a)%512:Nat),vI (toP off n a:Nat),vI (a:Nat)]
def sB(off n a:Nat):Nat:=a+(toP off n a-(off+a)%512)
theorem toP_gt{n a:Nat}(h:a<n):(off+a)%512<toP off n a/\toP off n a<=512:=by
 unfold toP;omega
theorem qP{n a:Nat}(h:a<n):a<sB off n a/\sB off n a<=n:=by
 unfold sB toP;omega
theorem DW{P:Program}{args:LV}{k:KT}(y:qU P l args h k):cT P (.func (.yield l) #[] #[]) args h k:=y
theorem GZ{cn co:Nat}{n:Nat}(ho:off+n<=1000000000)(J:Nat->ad->Prop)
  (hc:∀a hh,J a hh->rd hh cn=[vI (n:Nat)]/\rd hh co=[vI (off:Nat)]/\cn<hh.size/\co<hh.size)
  (hY:∀a hh h',J a hh->a<n->Fr No hh h'->rd h' hh.size=vg off n a->hh.size<h'.size->
   qU Tryz.prog l [.agg ⟨vg off n a⟩] h' λv Se=>(v = .bool true/\J (sB off n a) Se/\rd Se hh.size=rd h' hh.size)∨(v = .bool false/\K (.tuple #[]) Se))
  (h0:J 0 h) (hK:∀hh,J n hh->K (.tuple #[]) hh):C.jy (.func (.yield l) #[] #[]) (some ⟨cn,0,none⟩) (some ⟨co,0,none⟩) h K:=by
 refine jy.ok ⟨λi hh=>∃a:Nat,i=a/\a<=n/\J a hh,λi _=>(n-i).toNat,⟨0,rfl,nZ0,h0⟩,?_⟩;rintro i h2 ⟨a,ei,ha,hJ⟩;obtain⟨rn,ro,ln,lo⟩:=hc a h2 hJ;refine os ⟨_,cI rn rfl,cd (λbK=>?_) λbK=>?_⟩
 ·have EV:a<n:=by omega
  obtain⟨t1,t2⟩:=toP_gt (off:=off) EV;obtain⟨x1,x2⟩:=qP (off:=off) EV;refine os ⟨_,cI ro rfl,os ⟨_,cI ro rfl,aM.intro rfl (by intro v hv;simp only[List.mem_cons,List.not_mem_nil,or_false]at hv;rcases hv with rfl|rfl|rfl|rfl <;> rfl) rfl λh4 n4=>?_⟩⟩;have z4:=n4.size;have e1:Int.tdiv ((off:Int)+i) 512=((off+a)/512:Nat):=by rw[Int.tdiv_eq_ediv_of_nonneg (by omega)];omega
  have e2:Int.tmod ((off:Int)+i) 512=((off+a)%512:Nat):=by rw[Int.tmod_eq_emod_of_nonneg (by omega)];omega
  have r4:=n4.rd;rw[wq ((off:Int)+i),e1,e2,wrap_i64 (by omega) (by omega),ei]at r4;refine⟨_,bJ r4 rfl,os ⟨_,cI ((n4.at_ ln).trans rn) rfl,aO.add n4.own (by rw[r4];show 2<4;decide) λh5 d5=>?_⟩⟩
  have r5:rd h5 h2.size=vg off n a:=by
   rw[d5.rd,r4]
   have e3:(if(wI ((wI ((((off+a)%512:Nat):Int)+(n:Nat)))-i))<512 then(wI ((wI ((((off+a)%512:Nat):Int)+(n:Nat)))-i))else 512)=((toP off n a:Nat):Int):=by
    rw[wq ((((off+a)%512:Nat):Int)+(n:Nat)),wrap_i64 (by omega) (by omega)];unfold toP
    split <;> omega
   rw[e3];rfl
  have f5:Fr No h2 h5:=n4.fr.did d5 λhl=>by omega
  have z5:=d5.size;refine⟨_,rfl,ah r5,DW (wo (hY a h2 h5 hJ EV f5 r5 (by omega)) λv h6 hv=>?_)⟩
  rcases hv with⟨rfl,hJ6,r6⟩|⟨rfl,hk⟩
  ·have r6:=r6.trans r5;refine⟨true,rfl,jV (ct rfl ⟨_,bJ r6 rfl,_,bJ r6 rfl,?_⟩)⟩
   have e6:wI (i+(wI (((toP off n a:Nat):Int)-(((off+a)%512:Nat):Int))))=((sB off n a:Nat):Int):=by
    rw[wq (((toP off n a:Nat):Int)-_)];unfold sB at x1 x2 ⊢;rw[wrap_i64 (by omega) (by omega)];omega
   rw[e6];exact⟨⟨_,rfl,x2,hJ6⟩,by show((n:Int)-((sB off n a:Nat):Int)).toNat<((n:Int)-i).toNat;omega⟩
  ·exact⟨false,rfl,jV (cf rfl hk)⟩
 ·have:a=n:=by omega
  subst this;exact hK h2 hJ
def pL(T:TM)(r:TM×Int):TM×Int:=if r.2≠0 then((r.1.back T.mark.1).1,r.2)else r
def vr(T:TM)(g:G)(i:Int)(R:List Int)(size:Int):TM×Int:=
 if size<R.getD 2 0 then
  if(fA T g R ((size+511)/512)).2.2≠0 then((fA T g R ((size+511)/512)).1,(fA T g R ((size+511)/512)).2.2)else
  if(lT (fA T g R ((size+511)/512)).1 g (fA T g R ((size+511)/512)).2.1 size).2≠0 then lT (fA T g R ((size+511)/512)).1 g (fA T g R ((size+511)/512)).2.1 size else
   kA (lT (fA T g R ((size+511)/512)).1 g (fA T g R ((size+511)/512)).2.1 size).1 g i ((fA T g R ((size+511)/512)).2.1.set 2 size)
 else kA T g i (R.set 2 size)
def rI(T:TM)(g:G)(i size:Int):TM×Int:=if size<0 then(T,1)else if(dq T g i).2≠0 then(T,(dq T g i).2)else if size>8459264 then(T,120)else if size=(dq T g i).1.getD 2 0 then(T,0)else
 pL T (vr T g i (dq T g i).1 size)
theorem KJ{T:TM}{g:G}:(lT T g R size).1.ar.length<=T.ar.length+1:=by
 unfold lT
 split
 ·exact Nat.le_add_right _ _
 ·split
  ·exact Nat.le_add_right _ _
  ·split
   ·exact Nat.le_add_right _ _
   ·split
    ·exact Nat.le_add_right _ _
    ·exact jb _ _ _
theorem Iy{T:TM}{g:G}{n:Int}:(kA T g n R).1.ar.length<=T.ar.length+1:=by
 unfold kA
 split
 ·exact Nat.le_add_right _ _
 ·split
  ·exact Nat.le_add_right _ _
  ·split
   ·exact Nat.le_add_right _ _
   ·exact jb _ _ _
theorem kU(g:G):∀(l:List Nat) (T:TM) (R:List Int),(Bm.fQ g l T R).1.2.length=R.length
 | [],_,_=>rfl
 | i::r,T,R=>by
  unfold Bm.fQ
  split
  ·exact kU g r T R
  ·split
   ·rfl
   ·rw[kU g r];exact List.length_set
theorem qQ(i:Nat)(R:List Int)(C:TM×Bool×Int):(Bm.fI i R C).1.2.length=R.length:=by
 unfold Bm.fI
 split
 ·rfl
 ·show(if C.2.1=true then R else R.set i 0).length=_
  split
  ·rfl
  ·exact List.length_set
theorem KK(g:G)(k:Int)(T:TM)(R:List Int):(Bm.oN g k T R).1.2.length=R.length:=by
 unfold Bm.oN
 split
 ·exact qQ _ _ _
 ·rfl
theorem TJ(g:G)(k:Int)(T:TM)(R:List Int):(Bm.sH g k T R).1.2.length=R.length:=by
 unfold Bm.sH
 split
 ·exact qQ _ _ _
 ·rfl
theorem KL{T:TM}{g:G}(hR:R.length=15):(fA T g R k).2.1.length=15:=by
 unfold fA
 split
 ·rfl
 ·split
  ·rfl
  ·show(Bm.lK g k T R).1.2.length=15;unfold Bm.lK
   split
   ·rw[kU,hR]
   ·split
    ·rw[KK,kU,hR]
    ·rw[TJ,KK,kU,hR]
theorem QQ{n:Nat}(d:uO n):Ix (ai n):=⟨Ik d.hi,by have:=d.hi;show 8*(n/64)<=_;omega⟩
theorem ru{e0:Int}{k:HP}(w:dJ h eb)(r:rd h eb=[vI e0])(H:∀ h',rW eb h h' [vI e]->k h'):aO ⟨eb,0,none⟩ (vI e) h k:=
 aO.intro w (by rw[r];exact Nat.zero_lt_one) λh' d=>by rw[r]at d;exact H h' d
structure Env(h:ad)(F:NP)(t:OA)(m:Int)(g:G)(gb eb ub tb mb:Nat)(hh:ad)(F':NP)(e:Int):Prop where
 h1:1<=h.size
 g0:∀b,b<1->¬F b
 fr:Fr F h hh
 gw:Gw h F hh F'
 gl:In.kJ hh
 rg:rd hh gb=g.v
 oe:dJ hh eb
 re:rd hh eb=[vI e]
 ud:Ud hh ub tb mb eb t m
 nf:¬F' gb/\¬F' eb/\¬F' ub/\¬F' tb/\¬F' mb
 ne:gb≠eb/\ub≠eb/\tb≠eb/\mb≠eb
 le:h.size<=eb
section
variable{h hh h' : ad}{F F' vu : Nat -> Prop}{t : OA}{m : Int}{g : G}{gb eb ub tb mb : Nat}{e : Int}
theorem Env.lg(E:Env h F t m g gb eb ub tb mb hh F' e):gb<hh.size:=gr (o:=0) (by rw[E.rg];rfl)
theorem Env.low(E:Env h F t m g gb eb ub tb mb hh F' e):∀b,b<1->¬F' b:=λb hb y=>by
 rcases E.gw.new y with y|y
 ·exact E.g0 b hb y
 ·have:=E.h1;omega
theorem Env.step(E:Env h F t m g gb eb ub tb mb hh F' e)(f:Fr F' hh h')(w:Gw hh F' h' vu):Env h F t m g gb eb ub tb mb h' vu e:=by
 obtain⟨n1,n2,n3,n4,n5⟩:=E.nf;obtain⟨l3,l4,l5⟩:=E.ud.lt;obtain⟨a1,a2,a3,a4⟩:=stay f w E.lg n1;obtain⟨b1,b2,b3,b4⟩:=stay f w E.oe.lt n2;exact⟨E.h1,E.g0,E.fr.trans f λb hb y=>(E.gw.old b hb).mp y,E.gw.trans w E.fr.size,E.gl.fr f E.low,a1.trans E.rg,b4 E.oe,b1.trans E.re,E.ud.fr f n3 n4 n5,⟨a2,b2,(stay f w l3 n3).2.1,(stay f w l4 n4).2.1,(stay f w l5 n5).2.1⟩,E.ne,E.le⟩
theorem Env.did(E:Env h F t m g gb eb ub tb mb hh F' e){b:Nat}{cs:LV}(d:rW b hh h' cs)(hb:h.size<=b)(n1:gb≠b)(n2:eb≠b)(n3:ub≠b)(n4:tb≠b)(n5:mb≠b):Env h F t m g gb eb ub tb mb h' F' e:=by
 have z:=d.size;have:=E.h1;exact⟨E.h1,E.g0,E.fr.did d λy=>by omega,⟨E.gw.old,λx hx=>by rw[z];exact E.gw.lt x hx⟩,E.gl.fr d.fr λx hx y=>by omega,(d.at_ E.lg n1).trans E.rg,d.ow E.oe,(d.at_ E.oe.lt n2).trans E.re,E.ud.fr d.fr n3 n4 n5,E.nf,E.ne,E.le⟩
theorem Env.set(E:Env h F t m g gb eb ub tb mb hh F' e){v:Int}(d:rW eb hh h' [vI v]):Env h F t m g gb eb ub tb mb h' F' v:=by
 have z:=d.size;have:=E.h1;have:=E.le;obtain⟨a1,a2,a3,a4⟩:=E.ne;exact⟨E.h1,E.g0,E.fr.did d λy=>by omega,⟨E.gw.old,λx hx=>by rw[z];exact E.gw.lt x hx⟩,E.gl.fr d.fr λx hx y=>by omega,(d.at_ E.lg a1).trans E.rg,d.own,d.rd,E.ud.fr d.fr a2 a3 a4,E.nf,E.ne,E.le⟩
theorem Env.leave(E:Env h F t m g gb eb ub tb mb hh F' e){d:OA}{T':TM}{K:KT}(x:Tx hh F' t d T')(hu:T'.ar.length<1000000000)
  (hK:∀h',Fr F h h'->Gw h F h' F'->Tx h' F' t d (if e≠0 then(T'.back m).1 else T')->K (vI e) h') :
  og Tryz.prog (.func (.func 215) ⟨[]⟩ ⟨En ub tb mb⟩) [] hh λfw=>∃(res:Int),cellOf fw ⟨eb,0,none⟩=some (vI res)/\K (vI res) fw:=
 aaK x E.ud E.re hu λh2 f2 x2=>by
  have w:Gw hh F' h2 F':=Gw.refl f2.size λb hb=>x.lt hb;have E2:=E.step f2 w;exact⟨_,cI E2.re rfl,hK h2 E2.fr E2.gw x2⟩
end
theorem TK{h5:ad}{T':TM}{n:Nat}{i:Int}(dm:uO n)(E:Env h F t m (ai n) h.size h2.size ub tb mb hh F' e)(x:Tx hh F' t d T')(hR:R.length=15)
  (rx:rd hh h5.size=ints R) (ox:dJ hh h5.size) (nx:¬F' h5.size) (hx:h.size<h5.size) (uH:h2.size<h5.size) (n3:ub≠h5.size) (n4:tb≠h5.size) (n5:mb≠h5.size) (hu:T'.ar.length<900000000)
  (hK:∀h' vu,Fr F h h'->Gw h F h' vu->Tx h' vu t d (if(kA T' (ai n) i (R.set 2 size)).2≠0 then((kA T' (ai n) i (R.set 2 size)).1.back m).1 else(kA T' (ai n) i (R.set 2 size)).1)->K (vI (kA T' (ai n) i (R.set 2 size)).2) h') :
  lN.k1 t i size h h2 h5 215 [] (En ub tb mb) hh K:=by
 unfold lN.k1;refine aO.add ox (by rw[rx,af,hR];decide) λjR d23=>?_;have E23:=E.did d23 (Nat.le_of_lt hx) (by omega) (by omega) n3 n4 n5;have x23:Tx jR F' t d T':=x.fr d23.fr λb hb y=>nx (y▸hb);have NZ:rd jR h5.size=ints (R.set 2 size):=by rw[d23.rd,rx];exact ints_set
 have lR:(R.set 2 size).length=15:=by rw[List.length_set,hR]
 have un:=Iy (T:=T') (g:=ai n) (n:=i) (R:=R.set 2 size);refine⟨(ai n).v,rfl,ah E23.rg,_,by rw[af,lR],ah NZ,Ino.lO E23.gl x23 (QQ dm) lR (by omega) λmu F24 f24 g24 x24=>⟨_,rfl,?_⟩⟩;have E24:=E23.step f24 g24;refine ru E24.oe E24.re λuH d25=>?_;have E25:=E24.set d25;exact E25.leave (x24.fr d25.fr λb hb y=>E24.nf.2.1 (y▸hb)) (by omega) λh' f' g' x'=>hK h' F24 f' g' x'
theorem P9{T:TM}{g:G}{n:Int}(h:(getM T g n).2=0):T.over=false:=by
 unfold getM at h
 split at h
 ·exact absurd h (by decide)
 ·split at h
  ·rename_i z;exact absurd h z
  ·rename_i z;exact TM.zu (Classical.byContradiction z)
theorem xp{T:TM}{g:G}{n:Int}(h:(dq T g n).2=0):T.over=false:=by
 unfold dq at h
 split at h
 ·exact absurd (show(110:Int)=0 from h) (by decide)
 ·exact P9 h
theorem Xa{T:TM}{n:Nat}{i:Int}(gl:In.kJ h)(dm:uO n)(x:Tx h F t d T)(g0:∀ b,b<1->¬ F b)(hu:T.ar.length<800000000)
  (hK:∀h' F',Fr F h h'->Gw h F h' F'->Tx h' F' t d (rI T (ai n) i size).1->K (vI (rI T (ai n) i size).2) h'):C.lN t (ai n).v i size h K:=by
 have kY:=λb (hb:F b)=>x.lt hb;have WO:=gl.lt
 have same:∀e h',Fr No h h'->rI T (ai n) i size=(T,e)->K (vI e) h':=λe h' f e0=>by
  rw[e0]at hK;exact hK h' F (f.mono λ_ _ y=>y.elim) (Gw.refl f.size λb hb=>x.lt hb) (x.no f)
 refine lN.ok (az.intro λh2 n2=>az.intro λh3 n3=>?_);have z2:=n2.size;have z3:=n3.size;have F3:=n2.fr.new n3;refine cd (λwA=>ru n3.own n3.rd λh4 d4=>⟨_,cI d4.rd rfl,same 1 h4 (F3.did d4 λhl=>by omega) (by unfold rI;rw[if_pos wA])⟩) λwA=>?_;have lR:=sZ T (ai n) i;refine⟨(ai n).v,rfl,ah ((n3.at_ n2.own.lt).trans n2.rd),tX (gl.no F3) (x.no F3) (QQ dm) λh5 f5=>⟨_,_,rfl,aM.intro (by rw[af,lR]) (aA _) rfl λh7 n7=>?_⟩⟩;have z5:=f5.size;have z7:=n7.size;have F7:Fr No h h7:=(F3.no f5).new n7;have o7:dJ h7 h2.size:=n7.ow (f5.own (by omega) (λy=>y) n3.own);have e7:rd h7 h2.size=[vI 0]:=(n7.at_).trans ((f5.r0).trans n3.rd);refine ru o7 e7 λh8 d8=>⟨_,cI d8.rd rfl,?_⟩;have z8:=d8.size;have F8:Fr No h h8:=F7.did d8 λhl=>by omega
 have ret:∀v,rI T (ai n) i size=(T,v)->aO (bA h2) (vI v) h8 λh9=>∃(res:Int),cellOf h9 (bA h2)=some (vI res)/\K (vI res) h9:=λv hv=>
  ru d8.own d8.rd λh9 d9=>⟨_,cI d9.rd rfl,same v h9 (F8.did d9 λhl=>by omega) hv⟩
 refine cn (λhe=>⟨_,cI d8.rd rfl,ret _ (by unfold rI;rw[if_neg wA,if_pos he])⟩) λhe=>cd (λvq=>ret _ (by unfold rI;rw[if_neg wA,if_neg (λy=>y he),if_pos vq])) λvq=>?_;have live:=xp he;have rx8:rd h8 h5.size=ints (dq T (ai n) i).1:=(d8.at_).trans n7.rd;refine⟨_,bJ rx8 (iaT (by rw[lR];decide)),ce (λmW=>ret _ (by unfold rI;rw[if_neg wA,if_neg (λy=>y he),if_neg vq,if_pos mW])) λmW=>?_⟩;have ec:rI T (ai n) i size=pL T (vr T (ai n) i (dq T (ai n) i).1 size):=by unfold rI;rw[if_neg wA,if_neg (λy=>y he),if_neg vq,if_neg mW]
 rw[ec]at hK;clear same ret ec;generalize(dq T (ai n) i).1=R at hK lR rx8 n7 mW ⊢;refine wZ (x.no F8) λub tb mb cG f12 l1 l2 l3 ud=>⟨_,[],_,rfl,?_⟩;have z12:=f12.size;have Ae:=F8.no f12;have TL:rd cG h5.size=ints R:=(f12.r0).trans rx8;have aeN:dJ cG h5.size:=f12.own (by omega) (λy=>y) (d8.ow n7.own)
 have E12:Env h F t T.mark.1 (ai n) h.size h2.size ub tb mb cG F _:=⟨WO,g0,Ae.mono λ_ _ y=>y.elim,Gw.refl Ae.size kY,gl.no Ae,
  (f12.r0).trans ((d8.at_).trans ((n7.at_).trans ((f5.r0).trans ((n3.at_ n2.own.lt).trans n2.rd)))),f12.own (by omega) (λy=>y) d8.own,(f12.r0).trans d8.rd,ud,
  ⟨λy=>by have:=kY _ y;omega,λy=>by have:=kY _ y;omega,λy=>by have:=kY _ y;omega,λy=>by have:=kY _ y;omega,λy=>by have:=kY _ y;omega⟩,⟨by omega,by omega,by omega,by omega⟩,by omega⟩
 have Ll:=x.no Ae;have aeO:¬F h5.size:=λy=>by have:=kY _ y;omega
 refine⟨_,bJ TL (iaT (by rw[lR];decide)),cd (λbK=>?_) λbK=>?_⟩
 ·-- shorter
  have e1:wI (Int.tdiv (wI ((wI (size+512))-1)) 512)=(size+511)/512:=by
   rw[wq (size+512),wq (size+512-1),Int.tdiv_eq_ediv_of_nonneg (by omega),wrap_i64 (by omega) (by omega)];congr 1;omega
  rw[e1];have un:=uS (T:=T) (g:=ai n) (R:=R) (k:=(size+511)/512);refine⟨(ai n).v,rfl,ah E12.rg,_,by rw[af,lR],ah TL,Bm.Ek E12.gl (Ik dm.hi) Ll live lR g0 (by omega) λcg QM f13 g13 x13=>⟨_,_,rfl,?_⟩⟩;have E13:=E12.step f13 g13;obtain⟨s1,s2,s3,s4⟩:=stay f13 g13 (by omega) aeO;have lC:(fA T (ai n) R ((size+511)/512)).2.1.length=15:=KL lR;refine ax.intro (s4 aeN) (by rw[af,lC]) (aA _) (by rw[s1,TL,af,lR];decide) λcM d14=>?_;have Sg:=d14.size;have E14:=E13.did d14 (by omega) (by omega) (by omega) (by omega) (by omega) (by omega);have x14:Tx cM QM t d _:=x13.fr d14.fr λb hb y=>s2 (y▸hb);have Yp:rd cM h5.size=ints (fA T (ai n) R ((size+511)/512)).2.1:=by rw[d14.rd,s1,TL];exact dC _ _ (by rw[af,af,lC,lR])
  refine ru E14.oe E14.re λfg d15=>⟨_,cI d15.rd rfl,?_⟩;have E15:=E14.set d15;have x15:Tx fg QM t d _:=x14.fr d15.fr λb hb y=>E14.nf.2.1 (y▸hb);refine cn (λhc=>⟨_,cI d15.rd rfl,ru E15.oe E15.re λiY d16=>?_⟩) λhc=>?_
  ·have E16:=E15.set d16
   have ec:pL T (vr T (ai n) i R size)=(((fA T (ai n) R ((size+511)/512)).1.back T.mark.1).1,(fA T (ai n) R ((size+511)/512)).2.2):=by
    have eB:vr T (ai n) i R size=((fA T (ai n) R ((size+511)/512)).1,(fA T (ai n) R ((size+511)/512)).2.2):=(by unfold vr;rw[if_pos bK,if_pos hc]);rw[eB];exact if_pos hc
   rw[ec]at hK;refine E16.leave (x15.fr d16.fr λb hb y=>E15.nf.2.1 (y▸hb)) (by omega) λh' f' g' x'=>?_;rw[if_pos hc]at x';exact hK h' QM f' g' x'
  have ι:rd fg h5.size=_:=(d15.at_).trans Yp;have o15:dJ fg h5.size:=d15.ow d14.own;have kS:=d15.size;have uw:=KJ (T:=(fA T (ai n) R ((size+511)/512)).1) (g:=ai n) (R:=(fA T (ai n) R ((size+511)/512)).2.1) (size:=size);refine⟨(ai n).v,rfl,ah E15.rg,_,by rw[af,lC],ah ι,P7 E15.gl x15 lC (by omega) (by omega) (by omega) λma F18 f18 g18 x18=>⟨_,rfl,?_⟩⟩;have E18:=E15.step f18 g18;obtain⟨q1,q2,q3,q4⟩:=stay f18 g18 (by omega) s2;refine ru E18.oe E18.re λgm d19=>⟨_,cI d19.rd rfl,?_⟩;have z18:=f18.size;have z19:=d19.size;have E19:=E18.set d19;have QN:Tx gm F18 t d _:=x18.fr d19.fr λb hb y=>E18.nf.2.1 (y▸hb);refine cn (λhw=>⟨_,cI d19.rd rfl,ru E19.oe E19.re λiK d20=>?_⟩) λhw=>?_
  ·have E20:=E19.set d20
   have ec:pL T (vr T (ai n) i R size)=(((lT (fA T (ai n) R ((size+511)/512)).1 (ai n) (fA T (ai n) R ((size+511)/512)).2.1 size).1.back T.mark.1).1,(lT (fA T (ai n) R ((size+511)/512)).1 (ai n) (fA T (ai n) R ((size+511)/512)).2.1 size).2):=by
    have eB:vr T (ai n) i R size=lT (fA T (ai n) R ((size+511)/512)).1 (ai n) (fA T (ai n) R ((size+511)/512)).2.1 size:=(by unfold vr;rw[if_pos bK,if_neg (λy=>y hc),if_pos hw]);rw[eB];exact if_pos hw
   rw[ec]at hK;refine E20.leave (QN.fr d20.fr λb hb y=>E19.nf.2.1 (y▸hb)) (by omega) λh' f' g' x'=>?_;rw[if_pos hw]at x';exact hK h' F18 f' g' x'
  have ec:vr T (ai n) i R size=kA (lT (fA T (ai n) R ((size+511)/512)).1 (ai n) (fA T (ai n) R ((size+511)/512)).2.1 size).1 (ai n) i ((fA T (ai n) R ((size+511)/512)).2.1.set 2 size):=by
   unfold vr;rw[if_pos bK,if_neg (λy=>y hc),if_neg (λy=>y hw)]
  rw[ec]at hK;refine TK dm E19 QN lC ((d19.at_).trans (q1.trans ι)) (d19.ow (q4 o15)) q2 (by omega) (by omega) (by omega) (by omega) (by omega) (by omega) λh' vu f' g' x'=>?_;unfold pL at hK
  split at hK
  ·rename_i hp;rw[if_pos hp]at x';exact hK h' vu f' g' x'
  ·rename_i hp;rw[if_neg hp]at x';exact hK h' vu f' g' x'
 ·have ec:vr T (ai n) i R size=kA T (ai n) i (R.set 2 size):=by unfold vr;rw[if_neg bK]
  rw[ec]at hK;refine TK dm E12 Ll lR TL aeN aeO (by omega) (by omega) (by omega) (by omega) (by omega) (by omega) λh' vu f' g' x'=>?_;unfold pL at hK
  split at hK
  ·rename_i hp;rw[if_pos hp]at x';exact hK h' vu f' g' x'
  ·rename_i hp;rw[if_neg hp]at x';exact hK h' vu f' g' x'
end Fi
end Go.Proofs.YtjdcbblgaoogmaaGreatDoor
namespace Go.Proofs
open Go Go.Shelf
def Tryz.lays240_ren : Go.Shelf.Ren:=⟨fun|240=>209|276=>264|n=>n,fun|0=>0|4=>4|9=>9|20=>20|70=>211|72=>213|164=>317|5=>5|37=>37|n=>n,λn=>n⟩
theorem Tryz.lays240 : Lays.n240 Tryz.prog Tryz.lays240_ren where
 mixed:=by kernel_rfl
 f240:=Tryz.func209.trans (congrArg some (by kernel_rfl))
 f276:=Tryz.func264.trans (congrArg some (by kernel_rfl))
 t0:=Tryz.underlying0
 a0:=Tryz.isAgg0
 z0:=Tryz.sizeOf0
 v0:=Tryz.zeroValue0
 t4:=Tryz.underlying4
 a4:=Tryz.isAgg4
 z4:=Tryz.sizeOf4
 v4:=Tryz.zeroValue4
 t9:=Tryz.underlying9
 a9:=Tryz.isAgg9
 z9:=Tryz.sizeOf9
 v9:=Tryz.zeroValue9
 t20:=Tryz.underlying20
 a20:=Tryz.isAgg20
 z20:=Tryz.sizeOf20
 v20:=Tryz.zeroValue20
 t70:=Tryz.underlying211
 a70:=Tryz.isAgg211
 z70:=Tryz.sizeOf211
 v70:=Tryz.zeroValue211
 t72:=Tryz.underlying213
 a72:=Tryz.isAgg213
 z72:=Tryz.sizeOf213
 v72:=Tryz.zeroValue213
 t164:=Tryz.underlying317
 a164:=Tryz.isAgg317
 z164:=Tryz.sizeOf317
 v164:=Tryz.zeroValue317
def Tryz.lays169_ren : Go.Shelf.Ren:=⟨fun|169=>164|n=>n,fun|0=>0|3=>3|9=>9|37=>37|70=>211|72=>213|127=>269|5=>5|n=>n,λn=>n⟩
theorem Tryz.lays169 : Lays.n169 Tryz.prog Tryz.lays169_ren where
 mixed:=by kernel_rfl
 f169:=Tryz.func164.trans (congrArg some (by kernel_rfl))
 t0:=Tryz.underlying0
 a0:=Tryz.isAgg0
 z0:=Tryz.sizeOf0
 v0:=Tryz.zeroValue0
 t3:=Tryz.underlying3
 a3:=Tryz.isAgg3
 z3:=Tryz.sizeOf3
 v3:=Tryz.zeroValue3
 t9:=Tryz.underlying9
 a9:=Tryz.isAgg9
 z9:=Tryz.sizeOf9
 v9:=Tryz.zeroValue9
 t37:=Tryz.underlying37
 a37:=Tryz.isAgg37
 z37:=Tryz.sizeOf37
 v37:=Tryz.zeroValue37
 t70:=Tryz.underlying211
 a70:=Tryz.isAgg211
 z70:=Tryz.sizeOf211
 v70:=Tryz.zeroValue211
 t72:=Tryz.underlying213
 a72:=Tryz.isAgg213
 z72:=Tryz.sizeOf213
 v72:=Tryz.zeroValue213
 t127:=Tryz.underlying269
 a127:=Tryz.isAgg269
 z127:=Tryz.sizeOf269
 v127:=Tryz.zeroValue269
theorem Tryz.extra240 : Builder.Extra Tryz.prog Tryz.lays240_ren where
 sizeBuilder:=by kernel_rfl
 liesBuilder:=by kernel_rfl
 t5:=Tryz.underlying5
 a5:=Tryz.isAgg5
 z5:=Tryz.sizeOf5
 v5:=Tryz.zeroValue5
 infoByte:=by kernel_rfl
 cellsByte:=by kernel_rfl
 sizeByte:=by kernel_rfl
 neB5:=by decide
theorem Tryz.extra169 : Builder.Extra Tryz.prog Tryz.lays169_ren where
 sizeBuilder:=by kernel_rfl
 liesBuilder:=by kernel_rfl
 t5:=Tryz.underlying5
 a5:=Tryz.isAgg5
 z5:=Tryz.sizeOf5
 v5:=Tryz.zeroValue5
 infoByte:=by kernel_rfl
 cellsByte:=by kernel_rfl
 sizeByte:=by kernel_rfl
 neB5:=by decide
end Go.Proofs
namespace Go.Proofs.YtjdcbblgaoogmaaGreatDoor
open Go Go.Proofs Wx
variable{h h' h3 hh h0 h2 h1:ad}{F F' Q0:NP}{K:KT}{a hi k e from_ tab m size:Int}{l c b cb i j sl sc tb gb pb ob mb u lim w ub eb off:Nat}{bs:LB}{R R':List Int}{t d sa r:OA}{xs:LV}{dv:Value}
namespace Fi
open Go Go.Proofs Go.Shelf Go.RowKit Wx Hp W Tm
def Fv(h:ad)(b:Nat)(Q:NP)(bs:cL):Prop:=
 ∃p v,h[b]?=some (.cells #[p,v] 213 (0,0))/\(p = vP none∨p = vP (some ⟨b,0,none⟩))/\
  ((v = vS none 0 0/\bs=[])∨∃g cap cur,v = vS (some ⟨g,0,none⟩) bs.length cap/\bs≠[]/\Q g/\g≠b/\h[g]?=some (.cells cur 5 (0,0))/\bs.length<=cap/\cur.size=cap/\cur.toList.take bs.length=bs.map bv)
theorem wB{x:Obj}(e:h[b]?=some x):b<h.size:=by
 rcases Nat.lt_or_ge b h.size with y|y
 ·exact y
 ·rw[Array.getElem?_eq_none y]at e;cases e
theorem Fv.lt{Q:NP}{bs:cL}(B:Fv h b Q bs):b<h.size:=by
 obtain⟨p,v,e,_⟩:=B;exact wB e
theorem Fv.mono{Q Q':NP}{bs:cL}(B:Fv h b Q bs)(hq:∀ g,Q g->g<h.size->Q' g):Fv h b Q' bs:=by
 obtain⟨p,v,e,hp,hv⟩:=B;refine⟨p,v,e,hp,?_⟩
 rcases hv with hv|⟨g,cap,cur,h1,h2,h3,h4,h5,h6⟩
 ·exact .inl hv
 ·exact .inr ⟨g,cap,cur,h1,h2,hq g h3 (wB h5),h4,h5,h6⟩
theorem Fv.fr{Q:NP}{bs:cL}{G:NP}(B:Fv h b Q bs)(f:Fr G h h')(hb:¬ G b)(hg:∀ g,Q g->g<h.size->¬ G g):Fv h' b Q bs:=by
 obtain⟨p,v,e,hp,hv⟩:=B;refine⟨p,v,(f.same b (wB e) hb).trans e,hp,?_⟩
 rcases hv with hv|⟨g,cap,cur,h1,h2,h3,h4,h5,h6⟩
 ·exact .inl hv
 ·exact .inr ⟨g,cap,cur,h1,h2,h3,h4,(f.same g (wB h5) (hg g h3 (wB h5))).trans h5,h6⟩
theorem Fv.new(h:ad)(Q:NP):Fv (qT h [vP none,vS none 0 0] 213) h.size Q []:=
 ⟨_,_,by rw[tJ,if_pos rfl],.inl rfl,.inl ⟨rfl,rfl⟩⟩
theorem Er{Q:NP}{bs:cL}(B:Fv h b Q bs)(hK:∀ h',h'.size=h.size->Fr (λx=>x=b) h h'->Fv h' b Q bs->K (.tuple #[]) h'):C.nw (some ⟨b,0,none⟩) h K:=by
 refine⟨⟨_,Tryz.func209,by kernel_rfl,by kernel_rfl⟩,λw hw=>?_⟩;subst hw;have B0:=B;obtain⟨p,v,e,hp,hv⟩:=B
 rcases hp with rfl|rfl
 ·refine(Any.Builder_copyCheck_fresh Tryz.lays240 Tryz.extra240.toX72 b w (by rw[Lib.cell_of_heap e];rfl) (by simp[World.shape?,e];rfl) (Lib.frozen_of_heap e 0)).mono ?_;rintro ex w' ⟨rfl,rfl⟩;refine⟨_,rfl,⟨rfl,rfl,rfl⟩,?_⟩;show K _ (setOf w.heap ⟨b,0,none⟩ (vP (some ⟨b,0,none⟩)));have f:Fr (λx=>x=b) w.heap (setOf w.heap ⟨b,0,none⟩ (vP (some ⟨b,0,none⟩))):=(Fr.refl _ _).setOf (.inl rfl);refine hK _ (size_setOf _ _ _) f ⟨vP (some ⟨b,0,none⟩),v,by rw[oQ,if_pos rfl,e];rfl,.inr rfl,?_⟩
  rcases hv with hv|⟨g,cap,cur,h1,h2,h3,h4,h5,h6⟩
  ·exact .inl hv
  ·exact .inr ⟨g,cap,cur,h1,h2,h3,h4,(f.same g (wB h5) h4).trans h5,h6⟩
 ·refine(Any.Builder_copyCheck_used Tryz.lays240 Tryz.extra240.toX72 b w (by rw[Lib.cell_of_heap e];rfl)).mono ?_;rintro ex w' ⟨rfl,rfl⟩;exact⟨_,rfl,.refl _,hK _ rfl (Fr.refl _ _) B0⟩
theorem Es{g:Nat}:∀(cs:LV) (h:ad) (o i:Nat) {c:Array Value} {T:TypeId} {f:Nat×Nat},h[g]?=some (.cells c T f)->
  ∃c',(setRow h ⟨g,o,none⟩ cs i)[g]?=some (.cells c' T f)/\c'.size=c.size
 | [],_,_,_,c,_,_,e=>⟨c,e,rfl⟩
 | v::r,h,o,i,c,T,f,e=>by
  rw[setRow,bm];obtain⟨c',e',s'⟩:=Es r (setOf h ⟨g,o+i,none⟩ v) o (i+1) (c:=c.setIfInBounds (o+i) v) (T:=T) (f:=f) (by rw[oQ,if_pos rfl,e];rfl);exact⟨c',e',by rw[s',Array.size_setIfInBounds]⟩
theorem yJ{g:Nat}{c:Array Value}{T:TypeId}{f:Nat×Nat}(e:h[g]?=some (.cells c T f)):rd h g=c.toList:=by unfold Hp.rd;rw[e]
theorem KO{Q:NP}{a:OA}{bs new:cL}(B:Fv h b Q bs)(S:aw h a l new)(hl:new≠[])(hs:∀ p,a=some p->p.block≠b)(hm:bs.length+l<=1000000000)
  (hK:∀v h',Fr (λx=>x=b∨Q x) h h'->Fv h' b (λx=>Q x∨h.size<=x) (bs++new)->K (.tuple #[vI l,v]) h'):C.eE (some ⟨b,0,none⟩) a l c h K:=by
 refine eE.ok (Er B λh2 z2 f2 B2=>⟨rfl,os ?_⟩);have S1:=S.1
 have sc:ak h2 a (new.map bv):=by
  cases a with
  | none=>exact S.2
  | some p=>
   intro i v hv;have hc:=S.2 i v hv;have hb:(p.add i).block=p.block:=(by unfold Addr.add;split <;> rfl);unfold cellOf at hc ⊢;rw[hb]at hc ⊢;rw[f2.same p.block ?_ (hs p rfl)]
   ·exact hc
   ·cases e:h[p.block]? with
    | none=>rw[e]at hc;cases hc
    | some x=>exact wB e
 obtain⟨p,v,eb,hp,hv⟩:=B2;have sf:=wB eb
 have fin:∀h3 a3 c3 (v3:Value),v3 = vS a3 (bs.length+l) c3->Fr (λx=>x≠b/\Q x) h2 h3->(∃g cap cur,v3 = vS (some ⟨g,0,none⟩) (bs++new).length cap/\(Q g∨h.size<=g)/\g≠b/\h3[g]?=some (.cells cur 5 (0,0))/\(bs++new).length<=cap/\cur.size=cap/\cur.toList.take (bs++new).length=(bs++new).map bv)->
   ae (some (⟨b,0,none⟩:Addr)) λp2=>Wx.aO (Addr.add p2 1) (vS a3 (bs.length+l) c3) h3 λh4=>K (.tuple #[vI (l:Int),.nilIface]) h4:=λh3 a3 c3 v3 ev f3 hg=>by
  have e3:h3[b]?=some (.cells #[p,v] 213 (0,0)):=(f3.same b sf λy=>y.1 rfl).trans eb;show Wx.aO (Addr.add ⟨b,0,none⟩ 1) _ _ _;rw[bm,<-ev];obtain⟨g,cap,cur,h1,tP,HE,h4,h5⟩:=hg;have f4:Fr (λx=>x=b∨Q x) h (setOf h3 ⟨b,0+1,none⟩ v3):=((f2.mono λ_ _ y=>.inl y).trans f3 λ_ _ y=>.inr y.2).setOf (.inl (.inl rfl));refine⟨RK ⟨_,_,_,e3,.inl rfl⟩ (by rw[yJ e3];exact Nat.lt_succ_self 1),hK _ _ f4 ⟨p,v3,by rw[oQ,if_pos rfl,e3];rfl,hp,.inr ⟨g,cap,cur,h1,λy=>hl (List.append_eq_nil_iff.mp y).2,tP,HE,?_,h5⟩⟩⟩;rw[oQ,if_neg HE];exact h4
 have grow:∀cap,bs.length+l<=cap->∃g Pd cur,vS (some (bA h2)) (bs.length+l) cap = vS (some ⟨g,0,none⟩) (bs++new).length Pd/\(Q g∨h.size<=g)/\g≠b/\(qT h2 (bs.map bv++new.map bv++aN tf.zero (cap-(bs.length+l))) 5)[g]?=some (.cells cur 5 (0,0))/\(bs++new).length<=Pd/\cur.size=Pd/\cur.toList.take (bs++new).length=(bs++new).map bv:=λcap xY=>by
  have el:(bs++new).length=bs.length+l:=by rw[lA0,S1]
  refine⟨h2.size,cap,_,by rw[el],.inr (by omega),by omega,by rw[tJ,if_pos rfl],by omega,?_,?_⟩
  ·show(bs.map bv++new.map bv++aN tf.zero (cap-(bs.length+l))).length=cap;rw[lA0,lA0,lM0,lM0,iO,S1];show bs.length+l+(cap-(bs.length+l))*1=cap;omega
  ·show(bs.map bv++new.map bv++aN tf.zero (cap-(bs.length+l))).take (bs++new).length=_;rw[<-List.map_append,List.take_left' (by rw[lM0])]
 have frN:∀xs,Fr (λx=>x≠b/\Q x) h2 (qT h2 xs 5):=λxs=>wP _ _
 have hl':0<l:=by
  rw[<-S1];exact List.length_pos_iff.mpr hl
 rcases hv with⟨rfl,rfl⟩|⟨g,cap,cur,rfl,dp,aaM,Ξ,eg,hle,Bk,Γ⟩
 ·refine⟨none,0,0,bJ (yJ eb) rfl,new.map bv,by rw[lM0,S1,Nat.mul_one],sc,ij _,[],rfl,rfl,?_,by omega,λhc=>by omega,λhc cap xY=>?_⟩
  ·show(0+l)*1<=_;omega
  ·have e:([]:cL).length+l=0+l:=rfl;exact fin _ _ _ _ (by rw[e]) (frN _) (grow cap xY)
 ·refine⟨some ⟨g,0,none⟩,bs.length,cap,bJ (yJ eb) rfl,new.map bv,by rw[lM0,S1,Nat.mul_one],sc,ij _,bs.map bv,by rw[lM0];exact(Nat.mul_one _).symm,aal (by rw[yJ eg,List.drop_zero,lM0,Γ]),?_,by omega,λhc=>?_,λhc Pd xY=>?_⟩
  ·show(bs.length+l)*1<=_;omega
  ·have lc:cur.toList.length=cap:=Bk;refine⟨?_,?_⟩
   ·simp only[Lf,bm];refine Au ⟨_,_,_,eg,.inl rfl⟩ ?_;rw[yJ eg,lc];show 0+bs.length*1+l*1<=cap;omega
   ·simp only[uu,bm];obtain⟨c',e',s'⟩:=Es (new.map bv) h2 (0+bs.length*tf.cells) 0 eg;have hr:=jY g (0+bs.length*tf.cells) (new.map bv) h2 0;rw[yJ e',yJ eg,put_eq _ _ _ (by rw[lM0,lc,S1];show 0+bs.length*1+0+l<=cap;omega)]at hr;have e0:0+bs.length*tf.cells+0=bs.length:=(by show 0+bs.length*1+0=_;omega);rw[e0,Γ]at hr;refine fin _ _ _ _ rfl ((Fr.refl _ h2).setRow (.inl ⟨Ξ,aaM⟩)) ⟨g,cap,c',by rw[lA0,S1],.inl aaM,Ξ,e',by rw[lA0,S1];exact hc,s'.trans Bk,?_⟩;rw[hr,<-List.map_append,List.take_left' (by rw[lM0])]
  ·exact fin _ _ _ _ rfl (frN _) (grow Pd xY)
theorem Xb{P:Program}{ρ:Ren}(L:Lays.n169 P ρ)(X:Builder.Extra P ρ)(b g cap:Nat)(p:Value)(cur:Array Value)(l:cL)(w:World)(hb:w.heap[b]?=some (.cells #[p,vS (some ⟨g,0,none⟩) l.length cap] (ρ.t 72) (0,0)))
  (hg:w.heap[g]?=some (.cells cur (ρ.t 5) (0,0))) (h0:l≠[]) (hc:l.length<=cap) (hs:cur.size=cap) (hm:l.length<=2000000000) (ht:cur.toList.take l.length=l.map bv) :
  Calls P (ρ.f 169) #[vP (some ⟨b,0,none⟩)] w λe w'=>e = .returned (.string ⟨l.toArray⟩)/\Below g w w':=by
 have hl0:l.length≠0:=by simpa using h0
 have c1:w.drew.cell? ⟨b,1,none⟩=some (vS (some ⟨g,0,none⟩) l.length cap):=by
  have:w.drew.heap[b]?=some (.cells #[p,vS (some ⟨g,0,none⟩) l.length cap] (ρ.t 72) (0,0)):=hb;rw[Lib.cell_of_heap this];rfl
 have XE:w.drew.heap[g]?=some (.cells cur (ρ.t 5) (0,0)):=hg
 have hSD:(Builtin.unsafeSliceData_ #[(ρ.t 37)] (ρ.t 127) #[vS (some ⟨g,0,none⟩) l.length cap]).run P w.drew = .ok (vP (some ⟨g,0,none⟩)) w.drew:=
  Lib.run_unsafeSliceData_row _ _ _ _ _ _ (by omega)
 have hUS:(Builtin.unsafeString_ #[(ρ.t 127),(ρ.t 3)] (ρ.t 9) #[vP (some ⟨g,0,none⟩),vI l.length]).run P w.drew = .ok (.string ⟨l.toArray⟩) (w.drew.freeze ⟨g,0,none⟩ l.length):=by
  refine Lib.run_unsafeString_row w.drew (ρ.t 127) (ρ.t 3) (ρ.t 9) (ρ.t 5) L.t127 X.cellsByte g cur.size (by simp[World.shape?,XE]) l h0 (by omega) (by omega) λj x hx=>?_;rw[bm,Nat.zero_add,Lib.cell_of_heap XE];have e:=congrArg (·[j]?) ht;simp only[lG0,hx,Option.map_some]at e;have hj:j<l.length:=(List.getElem?_eq_some_iff.mp hx).1;rw[List.getElem?_take_of_lt hj,Array.getElem?_toList]at e;exact e
 have mixed:=L.mixed;have t72:=L.t72;have a72:=L.a72;have z72:=L.z72;have v72:=L.v72;have u72:=run_underlying L.t72;have t70:=L.t70;have a70:=L.a70;have z70:=L.z70;have v70:=L.v70;have u70:=run_underlying L.t70;have t37:=L.t37;have a37:=L.a37;have z37:=L.z37;have v37:=L.v37;have u37:=run_underlying L.t37;have t127:=L.t127;have a127:=L.a127;have z127:=L.z127;have v127:=L.v127;have u127:=run_underlying L.t127;have t3:=L.t3;have a3:=L.a3;have z3:=L.z3;have v3:=L.v3;have u3:=run_underlying L.t3;have t9:=L.t9;have a9:=L.a9;have z9:=L.z9;have v9:=L.v9;have u9:=run_underlying L.t9;have t5:=X.t5;have a5:=X.a5;have z5:=X.z5;have v5:=X.v5;have u5:=run_underlying X.t5
 go_enter L.f169,Body.n169_ntmps ρ
 go_wp2
 go_region_o
 all_goals (go_wp2;go_ret;exact⟨rfl,Lib.below_freeze (Below.drew (Below.refl g w)) (p:=⟨g,0,none⟩) nL0 _⟩)
theorem Iz{lo:Nat}{bs:cL}(B:Fv h b (λx=>lo<=x) bs)(hm:bs.length<=2000000000)
  (hK:∀h',Fr (λx=>lo<=x) h h'->K (.string (mkStr bs)) h'):C.px (some ⟨b,0,none⟩) h K:=by
 refine⟨⟨_,Tryz.func164,by kernel_rfl,by kernel_rfl⟩,λw hw=>?_⟩;subst hw;obtain⟨p,v,eb,hp,hv⟩:=B
 rcases hv with⟨rfl,rfl⟩|⟨g,cap,cur,rfl,dp,aaM,Ξ,eg,hle,Bk,Γ⟩
 ·exact(Any.Builder_String_nil Tryz.lays169 Tryz.extra169 w.heap.size b p w eb).mono λe w' ⟨h1,k⟩=>⟨_,h1,⟨k.os,k.tape,k.output⟩,hK w'.heap ⟨k.size,λx hx _=>k.block x hx⟩⟩
 ·exact(Xb Tryz.lays169 Tryz.extra169 b g cap p cur bs w eb eg dp hle Bk hm Γ).mono λe w' ⟨h1,k⟩=>⟨_,h1,⟨k.os,k.tape,k.output⟩,hK w'.heap ⟨k.size,λx hx hF=>k.block x (by have hF:¬lo<=x:=hF;omega)⟩⟩
end Fi
namespace Fi
open Hp W Ad Tm Spc Re Av Rg
open Hd (ints)
open In (kJ af aA oM qL)
open Ino (getM kA Ix ko)
open Bm (fH fA fL allM mo jb uS)
theorem TN{T:TM}{g:G}{n:Int}(h:(getM T g n).2=0):oM (getM T g n).1=true:=by
 unfold getM at h ⊢
 split
 ·rename_i y;rw[if_pos y]at h;exact absurd h (by decide)
 ·rename_i y;rw[if_neg y]at h
  split
  ·rename_i z;rw[if_pos z]at h;exact absurd h z
  ·rename_i z;rw[if_neg z]at h;unfold qL at h ⊢
   split
   ·rename_i w;rw[if_pos w]at h;exact absurd h (by decide)
   ·rename_i w;rw[if_neg w]at h
    split
    ·rename_i v;unfold In.sx at v;rw[Bool.and_eq_true]at v;exact v.2
    ·rename_i v;rw[if_neg v]at h;exact absurd h (by decide)
theorem TO{T:TM}{g:G}{n:Int}(h:(dq T g n).2=0):dq T g n=getM T g n/\(getM T g n).2=0/\oM (getM T g n).1=true/\(getM T g n).1.getD 0 0≠0:=by
 unfold dq at h ⊢
 split
 ·rename_i y;rw[if_pos y]at h;exact absurd (show(110:Int)=0 from h) (by decide)
 ·rename_i y;rw[if_neg y]at h;exact⟨rfl,h,TN h,λz=>y ⟨h,z⟩⟩
theorem G0{T:TM}{g:G}{n:Int}(h:(dq T g n).2=0):0<=(dq T g n).1.getD 2 0/\(dq T g n).1.getD 2 0<=8459264:=by
 obtain⟨e,_,m,_⟩:=TO h;rw[e];obtain⟨_,_,_,_,a,b,_⟩:=In.wz (ko T g n) m;exact⟨a,b⟩
theorem MY{T:TM}{g:G}(x:Tx h F t d T)(e:(kT T g R k).2=0):(kT T g R k).1.length=512:=by
 unfold kT at e ⊢
 split
 ·rename_i y;rw[if_pos y]at e;exact absurd e y
 ·rename_i y;rw[if_neg y]at e
  split
  ·exact List.length_replicate
  ·rename_i z;rw[if_neg z]at e;exact Tx.gX x e
def nN(T:TM)(g:G)(R:List Int)(off n:Nat):Nat->Nat->cL->cL×Int
 | 0,_,s=>(s,0)
 | k+1,a,s=>if n<=a then(s,0)else if(kT T g R ((off+a)/512:Nat)).2≠0 then([],(kT T g R ((off+a)/512:Nat)).2)else
   nN T g R off n k (sB off n a) (s++((kT T g R ((off+a)/512:Nat)).1.drop ((off+a)%512)).take (toP off n a-(off+a)%512))
theorem MZ{T:TM}{g:G}{n a:Nat}{s:cL}(h:n<=a):∀k,nN T g R off n k a s=(s,0)
 | 0=>rfl
 | k+1=>by unfold nN;rw[if_pos h]
def vh(T:TM)(g:G)(i off size:Int):cL×Int:=if off<0∨size<0 then([],1)else if(dq T g i).2≠0 then([],(dq T g i).2)else if off>=(dq T g i).1.getD 2 0 then([],0)else
 nN T g (dq T g i).1 off.toNat (min size ((dq T g i).1.getD 2 0-off)).toNat (min size ((dq T g i).1.getD 2 0-off)).toNat 0 []
theorem Xc{Q:NP}{k:HP}(H:∀ h',sM h h' [vP none,vS none 0 0]->Fv h' h.size Q []->k h'):az [vP none,vS none 0 0] 213 h k:=
 H _ ⟨wO _ _ _,wP _ _,qA _ _ _,pU _ _ _⟩ (Fv.new h Q)
theorem rJ{R:Loop}{st:LoopState}{p:Option Code}(o:bX h l R st p):l<h.size:=GP o
theorem TP{s:ByteArray}{v:Value}{k:HP}(w:dJ h b)(r:rd h b=[v])(H:∀ h',rW b h h' [.string s]->k h'):aO ⟨b,0,none⟩ (.string s) h k:=
 aO.intro w (by rw[r];exact Nat.zero_lt_one) λh' d=>by rw[r]at d;exact H h' d
theorem cD{T:TM}{n:Nat}{i off:Int}(gl:In.kJ h)(dm:uO n)(x:Tx h F t d T)
  (hK:∀h',Fr No h h'->K (.tuple #[.string (mkStr (vh T (ai n) i off size).1),vI (vh T (ai n) i off size).2]) h'):C.lW t (ai n).v i off size h K:=by
 refine lW.ok (az.intro λh2 n2=>az.intro λh3 n3=>az.intro λh4 n4=>az.intro λh5 n5=>?_);have z2:=n2.size;have z3:=n3.size;have z4:=n4.size;have z5:=n5.size;have F5:Fr No h h5:=((n2.fr.new n3).new n4).new n5;have os5:dJ h5 h3.size:=n5.ow n4.own;have rs5:rd h5 h3.size=[.string (mkStr [])]:=(n5.at_).trans n4.rd
 -- what ends the call ahead of the loop
 have ret:∀e hh,Fr No h hh->dJ hh h3.size->rd hh h3.size=[.string (mkStr [])]->dJ hh h4.size->rd hh h4.size=[vI 0]->vh T (ai n) i off size=([],e)->
   aO (bA h3) (.string (mkStr [])) hh λh6=>aO (bA h4) (vI e) h6 λh7=>∃(bL:ByteArray),cellOf h7 (bA h3)=some (.string bL)/\
    ∃(dY:Int),cellOf h7 (bA h4)=some (vI dY)/\K (.tuple #[.string bL,vI dY]) h7:=λe hh f o1 r1 o2 r2 he=>by
  rw[he]at hK;refine TP o1 r1 λh6 d6=>ru (d6.ow o2) ((d6.at_ o2.lt (by omega)).trans r2) λh7 d7=>⟨_,cI ((d7.at_ d6.own.lt (by omega)).trans d6.rd) rfl,_,cI d7.rd rfl,hK h7 ((f.did d6 λhl=>by omega).did d7 λhl=>by omega)⟩
 refine cd (λwA=>ret 1 h5 F5 os5 rs5 n5.own n5.rd (by unfold vh;rw[if_pos (.inl wA)])) λho=>cd (λwA=>ret 1 h5 F5 os5 rs5 n5.own n5.rd (by unfold vh;rw[if_pos (.inr wA)])) λhz=>?_;unfold lW.k1;have rt5:rd h5 h.size=[vP t]:=(n5.at_).trans ((n4.at_).trans ((n3.at_).trans n2.rd));have M0:rd h5 h2.size=(ai n).v:=(n5.at_).trans ((n4.at_).trans n3.rd);have lR:=sZ T (ai n) i;refine⟨t,cI rt5 rfl,(ai n).v,rfl,ah M0,tX (gl.no F5) (x.no F5) (QQ dm) λbQ f11=>⟨_,_,rfl,aM.intro (by rw[af,lR]) (aA _) rfl λcg n13=>?_⟩⟩;have Pz:=f11.size;have V8:=n13.size;have QM:Fr No h cg:=(F5.no f11).new n13;have aeU:Fr No h5 cg:=f11.new n13;have BB:∀b,b<h5.size->rd cg b=rd h5 b:=λb hb=>aeU.rd hb λy=>y;have w13:∀b,dJ h5 b->dJ cg b:=λb o=>aeU.own o.lt (λy=>y) o;refine cn (λhe=>ret _ cg QM (w13 _ os5) ((BB _ (by omega)).trans rs5) (w13 _ n5.own) ((BB _ (by omega)).trans n5.rd) (by unfold vh;rw[if_neg (by omega),if_pos he])) λhe=>?_;obtain⟨R0,R1⟩:=G0 he;refine⟨_,bJ n13.rd (iaT (by rw[lR];decide)),cd (λUp=>ret _ cg QM (w13 _ os5) ((BB _ (by omega)).trans rs5) (w13 _ n5.own) ((BB _ (by omega)).trans n5.rd) (by unfold vh;rw[if_neg (by omega),if_neg (λy=>y he),if_pos Up])) λbK=>?_⟩;have bK:¬off>=(dq T (ai n) i).1.getD 2 0:=bK
 have er:vh T (ai n) i off size=nN T (ai n) (dq T (ai n) i).1 off.toNat (min size ((dq T (ai n) i).1.getD 2 0-off)).toNat (min size ((dq T (ai n) i).1.getD 2 0-off)).toNat 0 []:=by
  unfold vh;rw[if_neg (by omega),if_neg (λy=>y he),if_neg bK]
 rw[er]at hK;clear ret er he;obtain⟨nZ,eo⟩:∃k:Nat,off=k:=⟨off.toNat,by omega⟩;obtain⟨m,em⟩:∃k:Nat,min size ((dq T (ai n) i).1.getD 2 0-off)=k:=⟨(min size ((dq T (ai n) i).1.getD 2 0-off)).toNat,by omega⟩;rw[em,tN0,eo,tN0]at hK;have hb:nZ+m<=8459264:=by omega
 generalize hR:(dq T (ai n) i).1=R at hK lR n13 R0 R1 bK em hb ⊢;refine Xc (Q:=λx=>cg.size+5<=x) λma n18 B18=>⟨_,bJ ((n18.at_).trans n13.rd) (iaT (by rw[lR];decide)),?_⟩;have z18:=n18.size
 have emn:(if(wI (R.getD (0+2) 0-off))<size then(wI (R.getD (0+2) 0-off))else size)=(m:Int):=by
  have e2:R.getD (0+2) 0=R.getD 2 0:=rfl;rw[e2,wrap_i64 (by omega) (by omega)]
  split <;> omega
 rw[emn,eo];refine mJ.ok (az.intro λaeV TQ=>az.intro λgm n19=>⟨_,rfl,λL rounds=>?_⟩);have z19a:=TQ.size;have z19:=n19.size;have eb:gm.size=cg.size+3:=by omega
 have hc1:ma.size=cg.size+1:=by omega
 have hc2:aeV.size=cg.size+2:=by omega
 have F19:Fr No h gm:=((QM.new n18).new TQ).new n19;have Fb:=AP gm L;have on0:=AQ gm L;have d0:=DV gm L;have zb:(cE gm L).size=cg.size+5:=by rw[sU];omega
 have F0:Fr No h (cE gm L):=F19.no Fb;have aeW:Fr No cg (cE gm L):=((n18.fr.new TQ).new n19).no Fb;have qb:∀b,b<cg.size->rd (cE gm L) b=rd cg b:=λb hb=>aeW.rd hb λy=>y;have wb:∀b,dJ cg b->dJ (cE gm L) b:=λb o=>aeW.own o.lt (λy=>y) o;have rt:rd (cE gm L) h.size=[vP t]:=(qb _ (by omega)).trans ((BB _ (by omega)).trans rt5);have rg:rd (cE gm L) h2.size=(ai n).v:=(qb _ (by omega)).trans ((BB _ (by omega)).trans M0);have rs:rd (cE gm L) h3.size=[.string (mkStr [])]:=(qb _ (by omega)).trans ((BB _ (by omega)).trans rs5);have re:rd (cE gm L) h4.size=[vI 0]:=(qb _ (by omega)).trans ((BB _ (by omega)).trans n5.rd);have os:dJ (cE gm L) h3.size:=wb _ (w13 _ os5);have oe:dJ (cE gm L) h4.size:=wb _ (w13 _ n5.own);have rx:rd (cE gm L) bQ.size=ints R:=(qb _ (by omega)).trans n13.rd;have rco:rd (cE gm L) ma.size=[vI (nZ:Int)]:=(Fb.r0).trans ((n19.at_).trans TQ.rd);have rcn:rd (cE gm L) aeV.size=[vI (m:Int)]:=(Fb.r0).trans n19.rd;have Bb:Fv (cE gm L) cg.size (λx=>cg.size+5<=x) []:=B18.fr (((Fr.refl No ma).new TQ).new n19 |>.no Fb) (λy=>y) λ_ _ _ y=>y;have glb:=gl.no F0;generalize hbe:cE gm L=mi at *;have el:gm.size+1=cg.size+4:=by omega
 rw[el]at rounds on0 ⊢;rw[eb]at d0 ⊢;rw[hc1]at rco;rw[hc2]at rcn;rw[hc2,hc1];have xb:=x.no F0;show C.jy (.func (.yield (cg.size+4)) #[] #[]) (some ⟨cg.size+2,0,none⟩) (some ⟨cg.size+1,0,none⟩) mi _
 -- leaving the loop
 have leave:∀(v:cL) (e:Int) (qu:ad) (st:Option Code),Fr (λb=>b=cg.size∨b=cg.size+4∨b=h3.size∨b=h4.size) mi qu->rd qu h3.size=[.string (mkStr v)]->rd qu h4.size=[vI e]->
   (∀h',Fr No h h'->K (.tuple #[.string (mkStr v),vI e]) h')->
   zd (cg.size+3) qu λIW=>∃(xF:ByteArray),cellOf IW (bA h3)=some (.string xF)/\∃(BE:Int),cellOf IW (bA h4)=some (vI BE)/\K (.tuple #[.string xF,vI BE]) IW:=λv e qu st f26 r1 r2 hk=>by
  have z26:=f26.size;refine yD ((f26.same _ (by omega) (by omega)).trans d0) λIW z33 f33=>?_;refine⟨_,cI ((f33.rd (by omega) (by omega)).trans r1) rfl,_,cI ((f33.rd (by omega) (by omega)).trans r2) rfl,hk IW ?_⟩;exact((F0.trans f26 λb hb y=>by omega).trans f33 λb hb y=>by omega)
 refine GZ (off:=nZ) (n:=m) (by omega) (λa hh=>Fr (λb=>b=cg.size∨b=cg.size+4) mi hh/\bX hh (cg.size+4) L .ready none/\∃s k,Fv hh cg.size (λx=>cg.size+5<=x) s/\s.length=a/\m<=a+k/\nN T (ai n) R nZ m m 0 []=nN T (ai n) R nZ m k a s) (λa hh J=>?_) (λa hh h' J ha f' r' l'=>?_) ⟨Fr.refl _ _,on0,[],m,Bb,rfl,by omega,rfl⟩ λhh J=>?_
 ·obtain⟨f,_⟩:=J;have:=f.size;exact⟨(f.rd (by omega) (by omega)).trans rcn,(f.rd (by omega) (by omega)).trans rco,by omega,by omega⟩
 ·-- a round
  obtain⟨f,on,s,k,B,ls,hk,eq⟩:=J;have zf:=f.size;have zf':=f'.size;obtain⟨k,rfl⟩:∃k',k=k'+1:=⟨k-1,by omega⟩;refine rounds (vg nZ m a) h' _ (eN on f' λy=>y) (aM.intro rfl (by intro v hv;simp only[vg,List.mem_cons,List.not_mem_nil,or_false]at hv;rcases hv with rfl|rfl|rfl|rfl <;> rfl) rfl λnD n22=>⟨eN (eN on f' λy=>y) n22.fr λy=>y,mR (by have:=n22.size;omega) λjR t23=>?_⟩);have z22:=n22.size;have z23:=t23.size;have f23:Fr (λb=>b=cg.size∨b=cg.size+4) mi jR:=((f.no f').new n22).trans t23.fr λb hb y=>.inr y;have S7:∀b,b<mi.size->b≠cg.size->b≠cg.size+4->rd jR b=rd mi b:=λb hb h1 h2=>f23.rd hb λy=>y.elim h1 h2;have NZ:rd jR h'.size=vg nZ m a:=(t23.fr.rd (by omega) (by omega)).trans n22.rd;have aeX:Fr No h jR:=F0.trans f23 λb hb y=>by omega
  have B23:Fv jR cg.size (λx=>cg.size+5<=x) s:=((B.fr f' (λy=>y) λ_ _ _ y=>y).fr n22.fr (λy=>y) λ_ _ _ y=>y).fr t23.fr (by omega) λg h1 _ y=>by omega
  refine⟨t,cI ((S7 _ (by omega) (by omega) (by omega)).trans rt) rfl,(ai n).v,rfl,ah ((S7 _ (by omega) (by omega) (by omega)).trans rg),_,by rw[af,lR],ah ((S7 _ (by omega) (by omega) (by omega)).trans rx),_,bJ NZ rfl,?_⟩;refine MX (gl.no aeX) (x.no aeX) lR λa1 l1 c1 mu f24 hl KG=>⟨_,_,_,_,rfl,cn (λhb=>?_) λhb=>?_⟩
  ·-- it acs not read
   have ee:nN T (ai n) R nZ m m 0 []=([],(kT T (ai n) R ((nZ+a)/512:Nat)).2):=by
    rw[eq];unfold nN;rw[if_neg (by omega),if_pos hb]
   rw[ee]at hK;have aaP:Fr (λb=>b=cg.size∨b=cg.size+4) mi mu:=f23.no f24;have z24:=f24.size;have q24:∀b,b<mi.size->b≠cg.size->b≠cg.size+4->rd mu b=rd mi b:=λb hb h1 h2=>aaP.rd hb λy=>y.elim h1 h2;have w24:∀b,dJ mi b->b≠cg.size->b≠cg.size+4->dJ mu b:=λb o h1 h2=>aaP.own o.lt (λy=>y.elim h1 h2) o;refine TP (w24 _ os (by omega) (by omega)) ((q24 _ (by omega) (by omega) (by omega)).trans rs) λuH d25=>ru (d25.ow (w24 _ oe (by omega) (by omega))) ((d25.at_).trans ((q24 _ (by omega) (by omega) (by omega)).trans re)) λqu d26=>?_;have z25:=d25.size;have z26:=d26.size;have MU:bX qu (cg.size+4) L .busy none:=eN (eN (eN t23.on f24 λy=>y) d25.fr (by omega)) d26.fr (by omega);refine⟨MU,.inr ⟨rfl,.done,some .ret,sk (rJ MU) L _ _,by decide,?_⟩⟩;have t27:=gq (rJ MU) L .done (some .ret);have z27:=t27.size;refine mR (by omega) λE7 t34=>leave [] _ E7 none ?_ ?_ ?_ hK
   ·exact((((aaP.mono λb _ y=>by omega).trans d25.fr λb hb y=>by omega).trans d26.fr λb hb y=>by omega).trans t27.fr λb hb y=>by omega).trans t34.fr λb hb y=>by omega
   ·exact(t34.fr.rd (by omega) (by omega)).trans ((t27.fr.rd (by omega) (by omega)).trans ((d26.at_).trans d25.rd))
   ·exact(t34.fr.rd (by omega) (by omega)).trans ((t27.fr.rd (by omega) (by omega)).trans d26.rd)
  ·-- its bytes are taken
   obtain⟨t1,t2⟩:=toP_gt (off:=nZ) ha;have lb:=MY x hb;have hc:=KG.le;have z24:=f24.size;have YL:rd mu h'.size=vg nZ m a:=(f24.r0).trans NZ;refine⟨_,bJ YL rfl,_,bJ YL rfl,⟨by omega,by omega,by omega⟩,?_⟩;rw[tN0,tN0];have S:=aw.cut KG.str hc (i:=(nZ+a)%512) (j:=toP nZ m a) (by omega) (by omega)
   have M7:(((kT T (ai n) R ((nZ+a)/512:Nat)).1.drop ((nZ+a)%512)).take (toP nZ m a-(nZ+a)%512)).length=toP nZ m a-(nZ+a)%512:=by
    rw[lT0,lD0,lb];omega
   have lhh:=B.lt;have B24':Fv mu cg.size (λx=>cg.size+5<=x/\x<hh.size) s:=((((B.mono (Q':=λx=>cg.size+5<=x/\x<hh.size) λg h1 h2=>⟨h1,h2⟩).fr f' (λy=>y) λ_ _ _ y=>y).fr n22.fr (λy=>y) λ_ _ _ y=>y).fr t23.fr (by omega) λg h1 _ y=>by omega).fr f24 (λy=>y) λ_ _ _ y=>y;refine KO B24' S (λy=>by rw[y,List.length_nil]at M7;omega) (λp hp=>?_) (by omega) λv tx f27 B27=>⟨_,_,rfl,?_⟩
   ·obtain⟨p0,ep,_⟩:=KG.get (by omega);subst ep;obtain⟨pb,po,sp⟩:=p0;have DX:sp=none:=KG.2.1;subst DX;have GR:jR.size<=pb:=KG.2.2.1
    split at hp
    ·cases hp;show pb≠_;omega
    ·cases hp
     show(Addr.add ⟨pb,po,none⟩ _).block≠_;rw[bm];show pb≠_;omega
   have z27:=f27.size;have TS:bX tx (cg.size+4) L .busy none:=eN (eN t23.on f24 λy=>y) f27 (by omega);have t28:=gq (rJ TS) L .ready none;refine⟨TS,.inl ⟨rfl,⟨?_,t28.on,_,k,(B27.mono (Q':=λx=>cg.size+5<=x) λg h1 _=>by omega).fr t28.fr (by omega) λg h1 _ y=>by omega,?_,?_,?_⟩,?_⟩⟩
   ·exact((f23.no f24).trans f27 λb hb y=>by omega).trans t28.fr λb hb y=>.inr y
   ·rw[lA0,M7,ls];rfl
   ·have:=(qP (off:=nZ) ha).1;omega
   ·rw[eq]
    conv=>lhs;unfold nN
    rw[if_neg (by omega),if_neg (λy=>y hb)]
   ·have e1:rd (dr tx (cg.size+4) L .ready none) hh.size=rd tx hh.size:=t28.fr.rd (by omega) (by omega);exact e1.trans ((f27.rd (by omega) (by omega)).trans ((f24.r0).trans ((t23.fr.rd (by omega) (by omega)).trans (n22.at_))))
 ·-- all have come
  obtain⟨f,on,s,k,B,ls,hk,eq⟩:=J;rw[MZ (Nat.le_refl m)]at eq;rw[eq]at hK;have zf:=f.size;refine⟨.ready,none,on,by decide,AR (mR (by omega) λIV t29=>?_)⟩;have z29:=t29.size;have f29:Fr (λb=>b=cg.size∨b=cg.size+4) mi IV:=f.trans t29.fr λb hb y=>.inr y;refine Iz (B.fr t29.fr (by omega) λg h1 _ y=>by omega) (by omega) λEK f30=>⟨_,rfl,?_⟩;have z30:=f30.size;have aaQ:Fr (λb=>b=cg.size∨b=cg.size+4) mi EK:=f29.trans f30 λb hb y=>by omega
  have q30:∀b,b<mi.size->b≠cg.size->b≠cg.size+4->rd EK b=rd mi b:=λb hb h1 h2=>aaQ.rd hb λy=>y.elim h1 h2;have w30:∀b,dJ mi b->b≠cg.size->b≠cg.size+4->dJ EK b:=λb o h1 h2=>aaQ.own o.lt (λy=>y.elim h1 h2) o;refine TP (w30 _ os (by omega) (by omega)) ((q30 _ (by omega) (by omega) (by omega)).trans rs) λwQ d31=>ru (d31.ow (w30 _ oe (by omega) (by omega))) ((d31.at_).trans ((q30 _ (by omega) (by omega) (by omega)).trans re)) λDr d32=>?_;have z31:=d31.size;refine leave s 0 Dr none ?_ ((d32.at_).trans d31.rd) d32.rd hK;exact((aaQ.mono λb _ y=>by omega).trans d31.fr λb hb y=>by omega).trans d32.fr λb hb y=>by omega
end Fi
namespace Fi
open Hp W Ad Tm Spc Re Av Rg
open Hd (ints)
open In (kJ af aA oM qL)
open Ino (getM kA Ix ko)
open Bm (fH fA fL allM mo jb uS zT nK bU)
theorem tY(T:TM)(R:List Int)(s:Nat×Nat)(a:Int)(b:cL)(v:Int):(nK T R s a b v).1.2.length=R.length:=by
 unfold nK
 split
 ·exact List.length_set
 ·split
  ·exact List.length_set
  ·split
   ·exact List.length_set
   ·rfl
theorem uj(g:G):∀(l:List (Nat×Nat)) (T:TM) (R:List Int) (a:Int),(bU g l T R a).1.2.length=R.length
 | [],_,_,_=>rfl
 | s::r,T,R,a=>by
  unfold bU
  split
  ·rfl
  ·split
   ·split
    ·rfl
    ·exact uj g r T R _
   ·split
    ·rfl
    ·split
     ·exact tY ..
     ·split
      ·exact tY ..
      ·split
       ·exact tY ..
       ·rw[uj g r];exact tY ..
theorem KP{T:TM}{g:G}(hR:R.length=15):(fL T g R k).2.1.length=15:=by
 unfold fL
 split
 ·rfl
 ·split
  ·rfl
  ·show(bU g _ T R 0).1.2.length=15;rw[uj,hR]
theorem extract_mk(s:cL)(i j:Nat):ByteArray.extract (mkStr s) i j=mkStr ((s.drop i).take (j-i)):=by
 apply ByteArray.ext;rw[ByteArray.data_extract];apply Array.ext';simp[mkStr,List.extract]
theorem TT{elem:TI}(he:elem.cells=1){b o n m:Nat}{s:ByteArray}{new:cL}{h:ad}{k:Nat->ad->Prop}(hm:min s.size n=m)(hn:s.toList.take m=new)(hl':new.length=m)(w:dJ h b)(hl:o+m<=(rd h b).length)
  (H:∀h',rW b h h' (put (rd h b) o (new.map bv))->k m h'):rP elem (some ⟨b,o,none⟩) n (.string s) h k:=by
 subst hm;subst hn;refine⟨by rw[he];trivial,?_,?_⟩
 ·simp only[Lf,bm];exact Au w (by omega)
 ·simp only[uu,bm];exact H _ ⟨Hp.size_setRow _ _ _ _,Fr.setRow (F:=λx=>x=b) (Or.inl rfl) (Fr.refl _ h),pV w,by rw[jY];rfl⟩
def fS(g:G)(off:Nat)(s:cL):Nat->Nat->TM->List Int->(TM×List Int)×Int
 | 0,_,T,R=>((T,R),0)
 | k+1,a,T,R=>if s.length<=a then((T,R),0)else
  if(fL T g R ((off+a)/512:Nat)).2.2.2≠0 then(((fL T g R ((off+a)/512:Nat)).1,R),(fL T g R ((off+a)/512:Nat)).2.2.2)else
  if((fL T g R ((off+a)/512:Nat)).1.read (fL T g R ((off+a)/512:Nat)).2.2.1).2≠0 then(((fL T g R ((off+a)/512:Nat)).1,R),((fL T g R ((off+a)/512:Nat)).1.read (fL T g R ((off+a)/512:Nat)).2.2.1).2)else
  if((fL T g R ((off+a)/512:Nat)).1.write (fL T g R ((off+a)/512:Nat)).2.2.1 (iH ((fL T g R ((off+a)/512:Nat)).1.read (fL T g R ((off+a)/512:Nat)).2.2.1).1 ((off+a)%512) ((s.drop a).take (toP off s.length a-(off+a)%512)))).2≠0 then
   ((((fL T g R ((off+a)/512:Nat)).1.write (fL T g R ((off+a)/512:Nat)).2.2.1 (iH ((fL T g R ((off+a)/512:Nat)).1.read (fL T g R ((off+a)/512:Nat)).2.2.1).1 ((off+a)%512) ((s.drop a).take (toP off s.length a-(off+a)%512)))).1,R),((fL T g R ((off+a)/512:Nat)).1.write (fL T g R ((off+a)/512:Nat)).2.2.1 (iH ((fL T g R ((off+a)/512:Nat)).1.read (fL T g R ((off+a)/512:Nat)).2.2.1).1 ((off+a)%512) ((s.drop a).take (toP off s.length a-(off+a)%512)))).2)else
  fS g off s k (sB off s.length a) ((fL T g R ((off+a)/512:Nat)).1.write (fL T g R ((off+a)/512:Nat)).2.2.1 (iH ((fL T g R ((off+a)/512:Nat)).1.read (fL T g R ((off+a)/512:Nat)).2.2.1).1 ((off+a)%512) ((s.drop a).take (toP off s.length a-(off+a)%512)))).1 (fL T g R ((off+a)/512:Nat)).2.1
theorem wC{g:G}{a:Nat}{s:cL}{T:TM}(h:s.length<=a):∀k,fS g off s k a T R=((T,R),0)
 | 0=>rfl
 | k+1=>by unfold fS;rw[if_pos h]
theorem wD{g:G}{k a:Nat}{s:cL}{T T':TM}{v:Int}(h:a<s.length)(ea:fL T g R ((off+a) / 512:Nat)=(T',R',v,e)):fS g off s (k+1) a T R =
  if e≠0 then((T',R),e)else if(T'.read v).2≠0 then((T',R),(T'.read v).2)else
  if(T'.write v (iH (T'.read v).1 ((off+a)%512) ((s.drop a).take (toP off s.length a-(off+a)%512)))).2≠0 then(((T'.write v (iH (T'.read v).1 ((off+a)%512) ((s.drop a).take (toP off s.length a-(off+a)%512)))).1,R),(T'.write v (iH (T'.read v).1 ((off+a)%512) ((s.drop a).take (toP off s.length a-(off+a)%512)))).2)else
  fS g off s k (sB off s.length a) (T'.write v (iH (T'.read v).1 ((off+a)%512) ((s.drop a).take (toP off s.length a-(off+a)%512)))).1 R':=by
 conv=>lhs;unfold fS
 rw[if_neg (by omega),ea]
def pP(T:TM)(g:G)(i:Int)(R:List Int)(off:Nat)(s:cL):TM×Int:=
 if(fS g off s s.length 0 T R).2≠0 then((fS g off s s.length 0 T R).1.1,(fS g off s s.length 0 T R).2)else
  kA (fS g off s s.length 0 T R).1.1 g i ((fS g off s s.length 0 T R).1.2.set 2 (max ((fS g off s s.length 0 T R).1.2.getD 2 0) ((off+s.length:Nat):Int)))
def iW(T:TM)(g:G)(i off:Int)(s:cL):TM×Int:=if off<0 then(T,1)else if(dq T g i).2≠0 then(T,(dq T g i).2)else if(s.length:Int)>8459264-off then(T,120)else if s=[]then(T,0)else
 pL T (pP T g i (dq T g i).1 off.toNat s)
end Fi
namespace Fq
open Hp W Ad Tm Bt Spc Av Fi Bm
def bk(T:TM)(g:G)(R:List Int)(off j:Nat):cL×Int:=kT T g R ((off+j)/512:Nat)
def rb(T:TM)(g:G)(R:List Int)(off j:Nat):UInt8:=(bk T g R off j).1.getD ((off+j)%512) 0
theorem OI{T:TM}{g:G}(h:(off+i) / 512=(off+j) / 512):bk T g R off i=bk T g R off j:=by unfold bk;rw[h]
section
variable{T : TM}{g : G}{R : List Int}{off m : Nat}
theorem BR(hl:∀ j,j<m->(bk T g R off j).2=0/\(bk T g R off j).1.length=512):∀(k b:Nat) (s:cL),m<=b+k->b<=m->s=(List.range b).map (rb T g R off)->nN T g R off m k b s=((List.range m).map (rb T g R off),0)
 | 0,b,s,h1,h2,h3=>by
  have:b=m:=by omega
  subst this;rw[h3];rfl
 | k+1,b,s,h1,h2,h3=>by
  unfold nN
  by_cases hm:m<=b
  ·have:b=m:=(by omega);subst this;rw[if_pos hm,h3]
  ·rw[if_neg hm];obtain⟨e0,l0⟩:=hl b (by omega);unfold bk at e0 l0;rw[if_neg (by rw[e0];simp)];obtain⟨n1,n2⟩:=qP (off:=off) (n:=m) (a:=b) (by omega);obtain⟨t1,t2⟩:=toP_gt (off:=off) (n:=m) (a:=b) (by omega);refine BR hl k _ _ (by omega) n2 ?_;have en:sB off m b=b+(toP off m b-(off+b)%512):=rfl;refine List.ext_getElem ?_ λi i1 i2=>?_
   ·rw[lA0,h3,lM0,List.length_range,lT0,lD0,l0,lM0,List.length_range];omega
   ·rw[List.getElem_map,List.getElem_range];rw[lM0,List.length_range]at i2;have ls:s.length=b:=by rw[h3,lM0,List.length_range]
    by_cases hi:i<b
    ·rw[List.getElem_append_left (by omega)];simp only[h3,List.getElem_map,List.getElem_range]
    ·rw[List.getElem_append_right (by omega),List.getElem_take,List.getElem_drop];have hp:toP off m b-(off+b)%512<=512-(off+b)%512:=(by omega);have e1:(off+i)/512=(off+b)/512:=(by omega);have e2:(off+i)%512=(off+b)%512+(i-b):=(by omega);unfold rb;rw[OI e1,e2,List.getD_eq_getElem?_getD];unfold bk;rw[List.getElem?_eq_getElem (by omega)];simp only[ls];rfl
theorem Et{i:Nat}(hi:i<m)(hb:(bk T g R off i).2≠0)(hs:i=0∨(off+i) % 512=0)(hl:∀ j,j<i->(bk T g R off j).2=0):∀(k b:Nat) (s:cL),m<=b+k->b<=i->nN T g R off m k b s=([],(bk T g R off i).2)
 | 0,b,s,h1,h2=>by omega
 | k+1,b,s,h1,h2=>by
  unfold nN;rw[if_neg (by omega)]
  by_cases e:b=i
  ·subst e;unfold bk at hb ⊢;rw[if_pos hb]
  ·have:=hl b (by omega);unfold bk at this;rw[if_neg (by rw[this];simp)];obtain⟨t1,t2⟩:=toP_gt (off:=off) (n:=m) (a:=b) (by omega);have en:sB off m b=b+(toP off m b-(off+b)%512):=rfl;have et:toP off m b=min 512 ((off+b)%512+m-b):=rfl;refine Et hi hb hs hl k _ _ ?_ ?_
   ·obtain⟨n1,n2⟩:=qP (off:=off) (n:=m) (a:=b) (by omega);omega
   ·omega
end
end Fq
namespace In
open Hp W Su Re Hd
theorem kf{elem:TI}{e:Nat}{a:OA}{n:Nat}{new:LV}{k:OA->Nat->Nat->ad->Prop}(f:Fr No h0 h)
  (s:Sl h elem.cells a l c xs (dG h0.size)) (hn:new.length=n*elem.cells) (hz:elem.zero.length=elem.cells) (hb:(l+n)*elem.bytes<=140737488355328) (wH:l+n<=140737488355328)
  (hk:∀a' c' h',Fr No h0 h'->Sl h' elem.cells a' (l+n) c' (xs++new) (dG h0.size)->k a' (l+n) c' h') :
  aH elem e a l c n new h k:=by
 have hs:=f.size;refine dh s hn hz hb wH λa' c' h' f' s'=>hk a' c' h' (f.trans f' λb hb e=>by have:h0.size<=b:=e;omega) (s'.mono λb hb=>?_)
 rcases hb with hb|hb
 ·exact hb
 ·show h0.size<=b;omega
theorem DS(m:Nat):(Value.int .u8 (IntKind.wrap .u8 (m:Int)))=bv (UInt8.ofNat m):=by
 rw[Cy];congr 1;apply UInt8.toNat_inj.mp;rw[UInt8.toNat_ofNat',UInt8.toNat_ofNat'];omega
theorem aaR{n:Int}(h0:0<=n):(Value.int .u8 (IntKind.wrap .u8 (Int.tmod n 256)))=bv (UInt8.ofNat n.toNat):=by
 have e:Int.tmod n 256=((n.toNat%256:Nat):Int):=by rw[Int.tmod_eq_emod_of_nonneg h0];omega
 rw[e,DS];congr 1;apply UInt8.toNat_inj.mp;rw[UInt8.toNat_ofNat',UInt8.toNat_ofNat'];omega
theorem jk{v lo:Int}(hK:K (.bool (decide (lo<=v) && decide (v<=hi))) h):C.bP v lo hi h K:=by
 refine bP.ok (cd (λx=>?_) λx=>?_)
 ·rw[decide_eq_true (show lo<=v from x)]at hK;exact hK
 ·rw[decide_eq_false (show ¬lo<=v from x)]at hK;exact hK
theorem OJ(r:rd h b=ints R){i:Nat}(hi:3+i<R.length):cellOf h (Addr.add (Addr.add ⟨b,0,none⟩ 3) i)=some (vI (R.getD (3+i) 0)):=by
 rw[bm];refine bJ r ?_;rw[Nat.zero_add,ints,lG0,List.getD_eq_getElem?_getD,List.getElem?_eq_getElem hi];rfl
theorem G4(hR:R.length=15):(R.drop 3).all nL=true↔∀j,j<12->nL (R.getD (3+j) 0)=true:=by
 have e:∀j (hj:j<(R.drop 3).length),(R.drop 3)[j]=R.getD (3+j) 0:=λj hj=>by
  have:3+j<R.length:=by rw[lD0]at hj;omega
  rw[List.getElem_drop,List.getD_eq_getElem?_getD,List.getElem?_eq_getElem this];rfl
 have ld:(R.drop 3).length=12:=by rw[lD0,hR]
 constructor
 ·intro h j hj;rw[<-e j (by omega)];exact List.all_eq_true.mp h _ (List.getElem_mem _)
 ·intro h;refine List.all_eq_true.mpr λx hx=>?_;obtain⟨j,hj,rfl⟩:=List.mem_iff_getElem.mp hx;rw[e j hj];exact h j (by omega)
theorem TU(hR:R.length=15){j:Nat}(hj:j<12)(h:nL (R.getD (3+j) 0)=false):oM R=false:=by
 cases e:(R.drop 3).all nL with
 | false=>rw[oM,e];rfl
 | true=>rw[(G4 hR).mp e j hj]at h;cases h
theorem Xe(hR:R.length=15)(hw:(R.drop 3).all nL=true)(r3:rd h h1.size=ints R)(hK:K (.bool (oM R)) h):gz.k1 h1 h K:=by
 have em:oM R=kindOk (R.getD 0 0) (R.getD 1 0) (R.getD 2 0) R:=by rw[oM,hw,Bool.true_and]
 rw[em]at hK;unfold kindOk at hK;refine⟨_,gW r3 (by omega),ce (λh0=>?_) λh0=>?_⟩
 ·rw[if_pos h0]at hK;refine⟨ints R,by rw[af,hR],ah r3,zM hR (S:=kS) List.length_replicate,?_⟩;rw[show(gv:LV)=ints kS from rfl,zL];exact hK
 ·rw[if_neg h0]at hK;refine ce (λh1=>?_) λh1=>?_
  ·rw[if_pos h1]at hK;refine⟨_,gW r3 (by omega),jk ⟨_,rfl,?_⟩⟩
   cases hb:(decide (0<=R.getD 1 0) && decide (R.getD 1 0<=1000))with
   | false=>rw[hb]at hK;exact hK
   | true=>rw[hb]at hK;exact⟨_,gW r3 (by omega),jk ⟨_,rfl,hK⟩⟩
  ·rw[if_neg h1]at hK;refine ce (λtP=>?_) λtP=>?_
   ·rw[if_pos tP]at hK;refine⟨_,gW r3 (by omega),jk ⟨_,rfl,?_⟩⟩
    cases hb:(decide (2<=R.getD 1 0) && decide (R.getD 1 0<=65535))with
    | false=>rw[hb]at hK;exact hK
    | true=>
     rw[hb,Bool.true_and]at hK;refine⟨_,gW r3 (by omega),jk ⟨_,rfl,?_⟩⟩
     cases hc:(decide (0<=R.getD 2 0) && decide (R.getD 2 0<=8459264))with
     | false=>rw[hc]at hK;exact hK
     | true=>
      rw[hc,Bool.true_and]at hK;rw[Bool.and_eq_true,decide_eq_true_eq]at hc;refine⟨_,gW r3 (by omega),?_⟩;have e:(Int.tmod (R.getD 2 0) 512==0)=decide (R.getD 2 0%512=0):=(by rw[Int.tmod_eq_emod_of_nonneg hc.1];rfl);rw[e];exact hK
   ·rw[if_neg tP]at hK;refine ce (λHE=>?_) λHE=>?_
    ·rw[if_pos HE]at hK;refine⟨_,gW r3 (by omega),jk ⟨_,rfl,?_⟩⟩
     cases hb:(decide (1<=R.getD 1 0) && decide (R.getD 1 0<=1000))with
     | false=>rw[hb]at hK;exact hK
     | true=>rw[hb]at hK;exact⟨_,gW r3 (by omega),jk ⟨_,rfl,hK⟩⟩
    ·rw[if_neg HE]at hK;exact hK
theorem Qa(hR:R.length=15)(hK:∀ h',Fr No h h'->K (.bool (oM R)) h'):C.gz (ints R) h K:=by
 refine gz.ok (az.intro λh2 n2=>?_);have hK:=hK h2 n2.fr;refine⟨λi hh=>0<=i/\i<=10/\h2=hh/\∀j,j<i.toNat->nL (R.getD (3+j) 0)=true,λi _=>((10:Nat)-i).toNat,⟨by omega,by omega,rfl,λj hj=>absurd hj (Nat.not_lt_zero _)⟩,?_⟩;rintro i _ ⟨i0,i1,rfl,q⟩
 have bad:∀j,j<12->nL (R.getD (3+j) 0)=false->K (.bool false) h2:=λj hj e=>by
  rw[TU hR hj e]at hK;exact hK
 refine cd (λhi=>?_) λhi=>?_
 ·have hi:i<10:=hi;refine⟨⟨i0,hi⟩,_,OJ n2.rd (by omega),jk ⟨_,rfl,jV ?_⟩⟩
  cases hw:nL (R.getD (3+i.toNat) 0)with
  | false=>exact cf hw (bad i.toNat (by omega) hw)
  | true=>
   rw[wrap_i64 (by omega) (by omega)];refine ct hw ⟨⟨by omega,by omega,rfl,λj hj=>?_⟩,di (m:=10) hi⟩
   by_cases e:j<i.toNat
   ·exact q j e
   ·have:j=i.toNat:=(by omega);rw[this];exact hw
 ·have hi:¬i<10:=hi;have ei:i.toNat=10:=by omega
  rw[ei]at q;refine⟨_,gW n2.rd (by omega),jk ⟨_,rfl,jV ?_⟩⟩
  cases hw:nL (R.getD 13 0)with
  | false=>exact cf hw (bad 10 (by omega) hw)
  | true=>
   refine ct hw ⟨_,gW n2.rd (by omega),jk ⟨_,rfl,jV ?_⟩⟩
   cases hx:nL (R.getD 14 0)with
   | false=>exact cf hx (bad 11 (by omega) hx)
   | true=>
    refine ct hx (Xe hR ((G4 hR).mpr λj hj=>?_) n2.rd hK)
    by_cases e:j<10
    ·exact q j e
    ·by_cases e':j=10
     ·subst e';exact hw
     ·have:j=11:=(by omega);subst this;exact hx
theorem Ea(k v:Nat):br (k+1) v=br k v++[UInt8.ofNat (v/256 ^ k)]:=by
 rw[br,List.range_succ,List.map_append];rfl
theorem TV{n:Int}{k:Nat}(h0:0<=n)(h1:n<=9223372036854775807)(hk:k<=8)
  (hK:∀a' c' h',Fr No h h'->Sl h' 1 a' k c' ((br k n.toNat).map bv) (dG h.size)->K (vS a' k c') h'):C.eZ n (k:Int) h K:=by
 refine eZ.ok ⟨λm a l c i hh=>0<=i/\i<=k/\l=i.toNat/\0<=m/\m<=9223372036854775807/\m.toNat=n.toNat/256 ^ i.toNat/\Fr No h hh/\Sl hh 1 a l c ((br i.toNat n.toNat).map bv) (dG h.size),λ_ _ _ _ i _=>((k:Nat)-i).toNat,
  ⟨by omega,by omega,rfl,h0,h1,by show _=_/256 ^ 0;omega,Fr.refl _ _,Sl.nil _ _ _⟩,?_⟩
 rintro m a l c i h2 ⟨i0,i1,rfl,m0,m1,em,f2,s2⟩;refine cd (λhi=>?_) λhi=>?_
 ·have hi:i<k:=hi;refine az.intro λh3 n3=>⟨[bv (UInt8.ofNat m.toNat)],rfl,ah (by rw[n3.rd,aaR m0]),ij [UInt8.ofNat m.toNat],kf (f2.new n3) (s2.fr n3.fr λ_ _ _ x=>x) rfl rfl (by show(i.toNat+1)*1<=_;omega) (by omega) λa' c' h4 f4 s4=>?_⟩;have ed:Int.tdiv m 256=m/256:=Int.tdiv_eq_ediv_of_nonneg m0;rw[ed,wq (m/256),wrap_i64 (by omega) (by omega)];refine⟨⟨by omega,by omega,by omega,by omega,by omega,?_,f4,?_⟩,di (m:=k) hi⟩
  ·rw[show(i+1).toNat=i.toNat+1 by omega,Nat.pow_succ,<-Nat.div_div_eq_div_mul,<-em];omega
  ·rw[show(i+1).toNat=i.toNat+1 by omega,Ea,<-em,List.map_append];exact s4
 ·have hi:¬i<k:=hi;have:i.toNat=k:=by omega
  rw[this]at s2 ⊢;exact hK a c h2 f2 s2
theorem zU{n:Int}{k:Nat}{a:OA}{xs:LB}{K:OA->Nat->Nat->ad->Prop}(hn:0<=n)(nV:n<=9223372036854775807)(hk:k<=8)(hl:l+k<=1000)(f:Fr No h0 h)
  (s:Sl h 1 a l c (xs.map bv) (dG h0.size)) (hK:∀a' c' h',Fr No h0 h'->Sl h' 1 a' (l+k) c' ((xs++br k n.toNat).map bv) (dG h0.size)->K a' (l+k) c' h') :
  C.eZ n (k:Int) h λr1 h4=>∃(aI:OA) (aF:Nat) (aT:Nat),r1 = vS aI aF aT/\
   ∃aG:LV,List.length aG=aF*1/\ak h4 aI aG/\(∀v∈aG,v.oneCell'=true)/\aH tf 5 a l c aF aG h4 K:=by
 refine TV hn nV hk λa' c' h' f' s'=>⟨_,_,_,rfl,_,by rw[lM0,bB,Nat.mul_one],s'.cells,ij _,?_⟩;refine kf (f.no f') (s.fr f' λ_ _ _ x=>x) (by rw[lM0,bB];show k=k*1;omega) rfl (by show(l+k)*1<=_;omega) (by omega) λa2 c2 h2 f2 s2=>hK a2 c2 h2 f2 ?_;rw[List.map_append];exact s2
theorem M8(hR:R.length=15)(hm:oM R=true)
  (hK:∀a' c' h',Fr No h h'->Sl h' 1 a' 64 c' ((lP R).map bv) (dG h.size)->K (vS a' 64 c') h'):C.jK (ints R) h K:=by
 obtain⟨k0,k1,l0,l1,z0,z1,hw⟩:=wz hR hm
 have hx:∀j,j<12->0<=R.getD (3+j) 0/\R.getD (3+j) 0<=4294967295:=λj hj=>by
  have k7:3+j<R.length:=by omega
  have e:R.getD (3+j) 0=(R.drop 3)[j]'(by rw[lD0];omega):=by
   rw[List.getElem_drop,List.getD_eq_getElem?_getD,List.getElem?_eq_getElem k7];rfl
  rw[e];exact hw _ (List.getElem_mem _)
 have tk:∀j,j<12->(R.drop 3).take (j+1)=(R.drop 3).take j++[R.getD (3+j) 0]:=λj hj=>by
  have k7:3+j<R.length:=by omega
  rw[List.take_succ_eq_append_getElem (by rw[lD0];omega),List.getElem_drop,List.getD_eq_getElem?_getD,List.getElem?_eq_getElem k7];rfl
 have fk:∀j,j<12->bW ((R.drop 3).take (j+1))=bW ((R.drop 3).take j)++br 4 (R.getD (3+j) 0).toNat:=λj hj=>by
  rw[tk j hj,bW,List.flatMap_append];show _++(br 4 _++[])=_;rw[List.append_nil,bW]
 refine jK.ok (az.intro λh2 n2=>⟨_,gW n2.rd (by omega),az.intro λh3 n3=>?_⟩);have s2:=n2.size;have s3:=n3.size;have F3:=n2.fr.new n3;have kd:∀{hq:ad},Fr No h2 hq->rd hq h.size=ints R:=λfq=>(fq.rd n2.own.lt λx=>x).trans n2.rd
 have eK:(Value.int .u8 (IntKind.wrap .u8 (R.getD 0 0)))=bv (UInt8.ofNat (R.getD 0 0).toNat):=by
  rw[<-DS,Int.toNat_of_nonneg k0]
 have b3:Sl h3 1 (some (bA h2)) 2 2 ((br 1 (R.getD 0 0).toNat++[0]).map bv) (dG h2.size):=
  Sl.made (zs:=[]) n3 (by rw[CC,eK];rfl) nL0 (by rw[CC];rfl) nL0 rfl
 refine⟨_,gW (kd n3.fr) (by omega),zU (k:=2) l0 (by omega) (by omega) (by omega) n3.fr b3 λa5 c5 h5 f5 s5=>⟨_,gW (kd f5) (by omega),zU (k:=4) z0 (by omega) (by omega) (by omega) f5 s5 λa7 c7 h7 f7 s7=>?_⟩⟩;generalize hH:(br 1 (R.getD 0 0).toNat++[0])++br 2 (R.getD 1 0).toNat++br 4 (R.getD 2 0).toNat=H at s7;have eH:lP R=H++(bW (R.drop 3)++aL 8):=by rw[lP,<-hH];simp only[List.append_assoc]
 clear hH
 refine⟨λa l c i hh=>0<=i/\i<=10/\l=8+4*i.toNat/\Fr No h2 hh/\Sl hh 1 a l c ((H++bW ((R.drop 3).take i.toNat)).map bv) (dG h2.size),λ_ _ _ i _=>((10:Nat)-i).toNat,
  ⟨by omega,by omega,rfl,f7,by show Sl h7 1 _ _ _ ((H++[]).map bv) _;rw[List.append_nil];exact s7⟩,?_⟩
 rintro a8 l8 c8 i h8 ⟨i0,i1,rfl,f8,s8⟩;refine cd (λhi=>?_) λhi=>?_
 ·have hi:i<10:=hi;have hb:=hx i.toNat (by omega);refine⟨⟨i0,hi⟩,_,OJ (kd f8) (by omega),zU (k:=4) hb.1 (by omega) (by omega) (by omega) f8 s8 λa9 c9 h9 f9 s9=>?_⟩;rw[wrap_i64 (by omega) (by omega)];refine⟨⟨by omega,by omega,by omega,f9,?_⟩,di (m:=10) hi⟩;rw[show(i+1).toNat=i.toNat+1 by omega,fk _ (by omega),<-List.append_assoc];exact s9
 ·have hi:¬i<10:=hi;have ei:i.toNat=10:=by omega
  rw[ei]at s8 ⊢;refine⟨_,gW (kd f8) (by omega),zU (k:=4) (hx 10 (by omega)).1 (Int.le_trans (hx 10 (by omega)).2 (by decide)) (by omega) (by omega) f8 s8 λa9 c9 h9 f9 s9=>?_⟩;refine⟨_,gW (kd f9) (by omega),zU (k:=4) (hx 11 (by omega)).1 (Int.le_trans (hx 11 (by omega)).2 (by decide)) (by omega) (by omega) f9 s9 λa10 c10 cB f10 Ma=>?_⟩;refine az.intro λbQ n11=>⟨(aL 8).map bv,rfl,ah n11.rd,ij _,kf (f10.new n11) (Ma.fr n11.fr λ_ _ _ x=>x) rfl rfl (by decide) (by decide) λa12 c12 cG f12 QJ=>?_⟩;refine hK a12 c12 cG (n2.fr.no f12) ?_;have e12:R.drop 3=(R.drop 3).take 12:=(List.take_of_length_le (by rw[lD0];omega)).symm;rw[eH,e12,fk 11 (by omega),fk 10 (by omega)];rw[<-List.map_append]at QJ;simp only[List.append_assoc]at QJ ⊢;exact QJ.mono λb hb=>by have:h2.size<=b:=hb;show h.size<=b;omega
theorem uT(hR:R.length=15)(hN:oM R=false->∀ h',Fr No h h'->K (.tuple #[vS none 0 0,vI 111]) h')
  (hK:oM R=true->∀a' c' h',Fr No h h'->Sl h' 1 a' 64 c' ((lP R).map bv) (dG h.size)->K (.tuple #[vS a' 64 c',vI 0]) h'):C.fu (ints R) h K:=by
 refine fu.ok (az.intro λh2 n2=>⟨ints R,by rw[af,hR],ah n2.rd,Qa hR λh3 f3=>⟨_,rfl,jV ?_⟩⟩);have s2:=n2.size;have s3:=f3.size;have F3:=n2.fr.no f3;have r3:rd h3 h.size=ints R:=(f3.rd n2.own.lt λx=>x).trans n2.rd
 cases hm:oM R with
 | false=>exact hN hm h3 F3
 | true=>exact ct rfl ⟨ints R,by rw[af,hR],ah r3,M8 hR hm λa' c' h4 f4 s4=>⟨_,_,_,rfl,hK hm a' c' h4 (F3.no f4) (s4.mono λb hb=>by have:h3.size<=b:=hb;show h.size<=b;omega)⟩⟩
theorem mU{a:OA}(B:aw h a l bs)(hl:l<=7)(hK:K (vI (AE bs:Int)) h):C.aU a l c h K:=by
 have hb:=B.1;refine aU.ok ?_;unfold aU;rw[wrap_i64 (by omega) (by omega)];refine⟨λn i hh=>-1<=i/\i<l/\h=hh/\n=(AE (bs.drop (i+1).toNat):Int),λ_ i _=>(i+1).toNat,⟨by omega,by omega,rfl,?_⟩,?_⟩
 ·rw[show((l:Int)-1+1).toNat=bs.length by omega,List.drop_length];rfl
 rintro n i _ ⟨i0,i1,rfl,rfl⟩;refine cd (λhi=>?_) λhi=>?_
 ·have hi:0<=i:=hi;have hib:i.toNat<bs.length:=by omega
  obtain⟨p,rfl,c5⟩:∃p,a=some p/\cellOf h (p.add i.toNat)=some (bv bs[i.toNat]):=by
   obtain⟨_,B2⟩:=B
   cases a with
   | none=>have:bs.map bv=[]:=B2;rw[List.map_eq_nil_iff]at this;rw[this]at hib;exact absurd hib (Nat.not_lt_zero _)
   | some p=>exact⟨p,rfl,aj.cell B2 (by rw[lG0,List.getElem?_eq_getElem hib];rfl)⟩
  have ed:bs.drop i.toNat=bs[i.toNat]::bs.drop (i+1).toNat:=by rw[show(i+1).toNat=i.toNat+1 by omega];exact List.drop_eq_getElem_cons hib
  have lt1:=H5 (bs.drop i.toNat);have hp:256 ^ (bs.drop i.toNat).length<=256 ^ 7:=Nat.pow_le_pow_right (by decide) (by rw[lD0];omega);have el:AE (bs.drop i.toNat)=bs[i.toNat].toNat+256*AE (bs.drop (i+1).toNat):=by rw[ed];rfl
  have h7:(256:Nat) ^ 7=72057594037927936:=by decide
  have UX:=bs[i.toNat].toNat_lt;refine⟨⟨hi,i1⟩,os ⟨_,c5,?_⟩⟩;rw[wq ((AE (bs.drop (i+1).toNat):Int)*256),wq (((bs[i.toNat].toNat:Nat):Int)),wq (i-1),wrap_i64 (by omega) (by omega)];refine⟨⟨by omega,by omega,rfl,?_⟩,by show(i-1+1).toNat<(i+1).toNat;omega⟩;rw[show(i-1+1).toNat=i.toNat by omega,el];omega
 ·have hi:¬0<=i:=hi;rw[show(i+1).toNat=0 by omega,List.drop_zero];exact hK
theorem aaS(xs ys:LB):((mkStr xs).toList==(mkStr ys).toList)=decide (xs=ys):=by
 rw[toList_mkStr,toList_mkStr,Bool.eq_iff_iff,beq_iff_eq,decide_eq_true_eq]
theorem xq{a:OA}(B:aw h a l bs)(IX:l<=c)(NG:i<=j)(hj:j<=l)(h7:j - i<=7)(hK:K (vI (jO bs i (j - i):Nat)) h) :
  C.aU (if c=i then a else Option.map (Addr.add · i) a) (j-i) (c-i) h K:=mU (aw.cut B IX NG hj) h7 hK
theorem uU{a:OA}{h9:ad}(n2:sM h1 h2 (ints kS))(B:aw h2 a 64 bs)(hc:64<=c)(f:Fr No h2 h9)(hb:h2.size<=b)(w:dJ h9 b)
  (r:rd h9 b=ints ((kV bs).take 3++(List.replicate 12 0++[]))) (hK:∀h',Fr No h1 h'->K (.tuple #[.agg ⟨ints (qL bs).1⟩,vI (qL bs).2]) h'):cJ.k1 a 64 c h1 (some ⟨b,0,none⟩) h9 K:=by
 have aay:bs.length=64:=B.1;have gl:=mT bs;have s2:=n2.size;refine⟨λi hh=>0<=i/\i<=10/\Fr No h2 hh/\dJ hh b/\rd hh b=ints ((kV bs).take (3+i.toNat)++(List.replicate (12-i.toNat) 0++[])),λi _=>((10:Nat)-i).toNat,⟨by omega,by omega,f,w,r⟩,?_⟩;rintro i cB ⟨i0,i1,f10,w10,IU⟩
 have ll:∀k,k<=15->(ints ((kV bs).take k++(List.replicate (15-k) 0++[]))).length=15:=λk hk=>by
  rw[af,lA0,lA0,lT0,List.length_replicate,gl,List.length_nil];omega
 have fill:∀(k:Nat) (hk:k<15) (v:Int),(kV bs)[k]'(by omega)=v->(ints ((kV bs).take k++(List.replicate (15-k) 0++[]))).set k (vI v)=ints ((kV bs).take (k+1)++(List.replicate (15-(k+1)) 0++[])):=λk hk v e=>by
  have:=KA (kV bs) 0 [] k (15-k) (by omega) (by omega);rw[e]at this;rw[show 15-(k+1)=15-k-1 by omega,<-this,ints,ints,List.map_set]
 have l10:(rd cB b).length=15:=by
  have:=ll (3+i.toNat) (by omega);rw[IU,show 12-i.toNat=15-(3+i.toNat) by omega];exact this
 refine cd (λhi=>?_) λhi=>?_
 ·have hi:i<10:=hi;rw[wq (4*i),wq (8+4*i),wq (12+4*i),wq (i+1)];refine⟨⟨by omega,by omega,by omega⟩,xq (aw.fr f10 B λ_ _ x=>x) hc (by omega) (by omega) (by omega) ⟨_,rfl,os ⟨⟨i0,hi⟩,?_⟩⟩⟩;rw[bm];refine aO.add w10 (by omega) λcG d12=>⟨⟨by omega,by omega,f10.did d12 λbK=>by omega,d12.own,?_⟩,di (m:=10) hi⟩;have e:=fill (3+i.toNat) (by omega) _ (zN bs (i:=i.toNat) (by omega) (by omega))
  rw[d12.rd,IU,show 0+3+i.toNat=3+i.toNat by omega,show 12-i.toNat=15-(3+i.toNat) by omega,show 3+(i+1).toNat=3+i.toNat+1 by omega,show 12-(i+1).toNat=15-(3+i.toNat+1) by omega,<-e,
   show(8+4*i).toNat=8+4*i.toNat by omega,show(12+4*i).toNat-(8+4*i.toNat)=4 by omega]
 ·have hi:¬i<10:=hi;have ei:i.toNat=10:=by omega
  rw[ei]at IU;refine⟨⟨by omega,by omega,by omega⟩,xq (aw.fr f10 B λ_ _ x=>x) hc (by decide) (by decide) (by decide) ⟨_,rfl,os (aO.add w10 (by omega) λcM d14=>?_)⟩⟩;have e13:=fill 13 (by omega) _ (zN bs (i:=10) (by omega) (by omega));have Yp:rd cM b=ints ((kV bs).take 14++(List.replicate 1 0++[])):=by rw[d14.rd,IU];exact e13
  have f14:=f10.did d14 λbK=>by omega
  refine⟨⟨by omega,by omega,by omega⟩,xq (aw.fr f14 B λ_ _ x=>x) hc (by decide) (by decide) (by decide) ⟨_,rfl,os (aO.add d14.own (by rw[Yp,ll 14 (by omega)];omega) λiY d16=>?_)⟩⟩;have e14:=fill 14 (by omega) _ (zN bs (i:=11) (by omega) (by omega))
  have r16:rd iY b=ints (kV bs):=by
   rw[d16.rd,Yp];have:ints ((kV bs).take 15++(List.replicate 0 0++[]))=ints (kV bs):=(by rw[List.take_of_length_le (by omega)];simp);rw[<-this];exact e14
  have f16:=f14.did d16 λbK=>by omega
  have UB:∀{hq:ad},Fr No h2 hq->dJ hq h1.size/\(rd hq h1.size).length=15:=λfq=>⟨fq.own n2.own.lt (λx=>x) n2.own,by rw[fq.rd n2.own.lt (λx=>x),n2.rd];rfl⟩;refine os ⟨ints (kV bs),by rw[af,gl],ah r16,uT gl (λhm fw f17=>?_) λhm a17 c17 fw f17 s17=>?_⟩
  ·have Oj:=f16.no f17;refine⟨_,_,_,_,rfl,cn (λ_=>?_) λh=>absurd h (by decide)⟩;refine nv (h3:=h1) (n2.fr.no Oj) nL0 (UB Oj).1 (UB Oj).2 λh' f'=>?_;have:=hK h' f';rw[qL,if_neg (by omega),show sx bs=false by rw[sx,hm,Bool.and_false]]at this;exact this
  ·have Oj:=f16.no f17;refine⟨_,_,_,_,rfl,cn (λh=>absurd rfl h) λ_=>⟨_,s17.str,_,aw.fr Oj B λ_ _ x=>x,?_⟩⟩;rw[aaS];refine jV (cd (λhe=>?_) λhe=>?_)
   ·have Da:=(Kx aay).mp he;have r17:rd fw b=ints (kV bs):=(f17.rd d16.own.lt λx=>x).trans r16;refine os ?_;refine YR (h3:=h1) gl (n2.fr.no Oj) nL0 (UB Oj).1 (UB Oj).2 r17 λh' f'=>?_;have:=hK h' f';rw[qL,if_neg (by omega),show sx bs=true by rw[sx,hm,Da];rfl]at this;exact this
   ·have Da:clean bs=false:=by
     cases e:clean bs with
     | false=>rfl
     | true=>exact absurd ((Kx aay).mpr e) he
    refine nv (h3:=h1) (n2.fr.no Oj) nL0 (UB Oj).1 (UB Oj).2 λh' f'=>?_;have:=hK h' f';rw[qL,if_neg (by omega),show sx bs=false by rw[sx,Da,Bool.false_and]]at this;exact this
theorem IA{a:OA}(B:aw h a l bs)(IX:l<=c)(hK:∀ h',Fr No h h'->K (.tuple #[.agg ⟨ints (qL bs).1⟩,vI (qL bs).2]) h'):C.cJ a l c h K:=by
 have hb:=B.1;refine cJ.ok (az.intro λh2 n2=>cn (λhl=>?_) λhl=>?_)
 ·have e:qL bs=(kS,32):=by rw[qL,if_pos (by omega)]
  rw[e]at hK;exact nv (h3:=h) n2.fr nL0 n2.own (by rw[n2.rd];rfl) hK
 have hl:l=64:=by omega
 subst hl;have gl:=mT bs;have B2:=aw.fr n2.fr B λ_ _ x=>x;have e3:([vI (jO bs 0 (1-0):Nat),vI (jO bs 2 (4-2):Nat),vI (jO bs 4 (8-4):Nat),vI 0,vI 0,vI 0,vI 0,vI 0,vI 0,vI 0,vI 0,vI 0,vI 0,vI 0,vI 0]:LV)
   = ints ((kV bs).take 3++(List.replicate 12 0++[])):=rfl
 have gg:∀{hq:ad} {K:KT} (i j:Nat),Fr No h2 hq->i<=j->j<=64->j-i<=7->K (vI (jO bs i (j-i):Nat)) hq->C.aU (if c=i then a else Option.map (Addr.add · i) a) (j-i) (c-i) hq K:=λi j fq h1 h2 h4 hk=>
  xq (aw.fr fq B2 λ_ _ x=>x) IX h1 h2 h4 hk
 -- a block of one's own, made aaT, takes the row
 have TW:∀{hq hr:ad} {cs:LV} {k:HP},sM hq hr (ints kS)->cs=ints ((kV bs).take 3++(List.replicate 12 0++[]))->Fr No h2 hq->(∀h',Fr No h2 h'->dJ h' hq.size->rd h' hq.size=ints ((kV bs).take 3++(List.replicate 12 0++[]))->k h')->ax (bA hq) cs 15 hr k:=by
  intro hq hr cs k nq ec fq hk;subst ec;have sq:=fq.size;refine ax.intro nq.own (by rw[af,lA0,lT0,gl];rfl) (aA _) (by rw[nq.rd];exact nL0) λh' d'=>hk h' ((fq.new nq).did d' λbK=>by omega) d'.own ?_;rw[d'.rd,nq.rd];exact dC _ _ (by rw[af,lA0,lT0,gl];rfl)
 refine⟨⟨by omega,by omega,by omega⟩,⟨by omega,by omega,by omega⟩,⟨by omega,by omega,by omega⟩,?_⟩;refine⟨gg 0 1 (Fr.refl _ _) (by decide) (by decide) (by decide) ⟨_,rfl,⟨gg 2 4 (Fr.refl _ _) (by decide) (by decide) (by decide) ⟨_,rfl,⟨gg 4 8 (Fr.refl _ _) (by decide) (by decide) (by decide) ⟨_,rfl,?_⟩,?_⟩⟩,?_⟩⟩,?_⟩
 ·rw[e3];exact aM.intro (by rw[af,lA0,lT0,gl];rfl) (aA _) rfl λh8 n8=>uU n2 B2 IX n8.fr nL0 n8.own n8.rd hK
 ·exact az.intro λnR n21=>gg 4 8 n21.fr (by decide) (by decide) (by decide) ⟨_,rfl,TW n21 e3 (Fr.refl _ _) λjR f23 w23 NZ=>uU n2 B2 IX f23 nL0 w23 NZ hK⟩
 ·exact az.intro λnR n21=>gg 2 4 n21.fr (by decide) (by decide) (by decide) ⟨_,rfl,gg 4 8 n21.fr (by decide) (by decide) (by decide) ⟨_,rfl,TW n21 e3 (Fr.refl _ _) λjR f23 w23 NZ=>uU n2 B2 IX f23 nL0 w23 NZ hK⟩⟩
 ·exact az.intro λnR n21=>gg 0 1 n21.fr (by decide) (by decide) (by decide) ⟨_,rfl,gg 2 4 n21.fr (by decide) (by decide) (by decide) ⟨_,rfl,gg 4 8 n21.fr (by decide) (by decide) (by decide) ⟨_,rfl,TW n21 e3 (Fr.refl _ _) λjR f23 w23 NZ=>uU n2 B2 IX f23 nL0 w23 NZ hK⟩⟩⟩
end In
namespace Rx
open Hp W Ad Tm Spc Re Ino
open Hd (ints)
open In (kS oM lP qL sx aA af zL zM gW mT sW nv)
theorem zB : ∀(ys:LV) (X:LV) (o:Nat) (y:Value),put X o (ys++[y])=(put X o ys).set (o+ys.length) y
 | [],X,o,y=>rfl
 | a::r,X,o,y=>by
  show put (X.set o a) (o+1) (r++[y])=(put (X.set o a) (o+1) r).set _ y;rw[zB r,List.length_cons,show o+1+r.length=o+(r.length+1) by omega]
theorem sY{g:G}{n:Int}(ok:Ix g)
  (hK:∀h',Fr No h h'->K (if 1<=n/\n<g.count then .tuple #[vI (nM g n),vI (rat n),vI 0]else .tuple #[vI 0,vI 0,vI 110]) h'):C.dA g.v n h K:=by
 have c1:=ok.c;have c2:=ok.ok.i;refine dA.ok (az.intro λh2 n2=>?_);have hK:=hK h2 n2.fr;refine cd (λy=>?_) λy=>⟨_,bJ n2.rd rfl,cd (λy2=>?_) λy2=>?_⟩
 ·rw[if_neg (by omega)]at hK;exact hK
 ·rw[if_neg (by omega)]at hK;exact hK
 ·rw[if_pos (by omega)]at hK;unfold dA.k1;refine⟨_,bJ n2.rd rfl,?_⟩;have e1:Int.tdiv n 8=n/8:=Int.tdiv_eq_ediv_of_nonneg (by omega);have e2:Int.tmod n 8=n%8:=Int.tmod_eq_emod_of_nonneg (by omega);rw[e1,e2,wq (n/8),wq ((g.dT:Int)+n/8),wq (n%8*64)];have e3:n%8*64=((rat n:Nat):Int):=by unfold rat;omega
  have e4:(g.dT:Int)+n/8=nM g n:=by unfold nM;omega
  rw[e3,e4];exact hK
theorem wv{e:OA}{T:TM}{g:G}{n:Int}(x:jc h F r e T)(ok:Ix g)
  (hK:∀h',Fr No h h'->K (.tuple #[.agg ⟨ints (getM T g n).1⟩,vI (getM T g n).2]) h'):C.kv r g.v n h K:=by
 have ha:=Iv n;refine kv.ok (az.intro λtP n2=>az.intro λh3 n3=>⟨g.v,rfl,ah ((n3.at_ n2.own.lt).trans n2.rd),sY ok λh4 f4=>?_⟩);have s2:=n2.size;have s3:=n3.size;have f3:Fr No h h3:=n2.fr.new n3;have F4:=f3.no f4;have z4:=f4.size
 have row:∀{h':ad},Fr No h4 h'->dJ h' tP.size/\(rd h' tP.size).length=15:=λf'=>by
  have f34:Fr No h3 _:=f4.no f';exact⟨f34.own n3.own.lt (λy=>y) n3.own,by rw[f34.rd n3.own.lt λy=>y,n3.rd];rfl⟩
 by_cases hn:1<=n/\n<g.count
 ·have e0:getM T g n=if(T.read (nM g n)).2≠0 then(kS,(T.read (nM g n)).2)else qL (((T.read (nM g n)).1.drop (rat n)).take 64):=by unfold getM;rw[if_neg (λy=>y hn)]
  rw[e0]at hK;rw[if_pos hn];refine⟨_,_,_,rfl,cn (λy=>absurd rfl y) λ_=>cD (x.no F4) λa l c h6 f6 hl s6=>⟨_,_,_,_,rfl,cn (λhe=>?_) λhe=>?_⟩⟩
  ·rw[if_pos he]at hK;obtain⟨w,MW⟩:=row f6;exact nv (h3:=h) (F4.no f6) (by omega) w MW hK
  ·rw[if_neg (λy=>y he)]at hK;have hlen:(T.read (nM g n)).1.length=512:=x.gX he;have hc:=s6.le;rw[wrap_i64 (by omega) (by omega)];refine⟨⟨by omega,by omega,by omega⟩,?_⟩;have B6:=aw.cut s6.str hc (i:=(rat n:Int).toNat) (j:=((rat n:Int)+64).toNat) (by omega) (by omega);rw[show((rat n:Int)+64).toNat-(rat n:Int).toNat=64 by omega]at B6 ⊢;refine In.IA B6 (by omega) λh8 f8=>⟨_,_,rfl,?_⟩;rw[show(rat n:Int).toNat=rat n by omega];obtain⟨w,MW⟩:=row (f6.no f8);refine ax.intro w (by rw[af,mV]) (aA _) (by omega) λh9 d9=>⟨_,by rw[af];exact mV _,ah ?_,hK h9 (((F4.no f6).no f8).did d9 λhl=>by omega)⟩;rw[d9.rd];exact dC _ _ (by rw[af,mV,MW])
 ·have e0:getM T g n=(kS,110):=by unfold getM;rw[if_pos hn]
  rw[e0]at hK;rw[if_neg hn];obtain⟨w,MW⟩:=row (Fr.refl _ _);exact⟨_,_,_,rfl,cn (λ_=>nv (h3:=h) F4 (by omega) w MW hK) λy=>absurd (show(110:Int)=0 from y) (by decide)⟩
theorem lO{e:OA}{T:TM}{g:G}{n:Int}(x:jc h F r e T)(hN:98<=T.N)(ok:Ix g)(hR:R.length=15)(hu:T.ar.length<1000000000)
  (hK:∀h' F',Fr F h h'->Gw h F h' F'->jc h' F' r e (kA T g n R).1->K (vI (kA T g n R).2) h'):C.gC r g.v n (ints R) h K:=by
 have ha:=Iv n
 have same:∀e h',Fr No h h'->kA T g n R=(T,e)->K (vI e) h':=λe h' f e0=>by
  rw[e0]at hK;exact hK h' F (f.mono λ_ _ y=>y.elim) (Gw.refl f.size λb hb=>x.lt hb) (x.no f)
 refine gC.ok (az.intro λtP n2=>az.intro λh3 n3=>⟨g.v,rfl,ah ((n3.at_ n2.own.lt).trans n2.rd),sY ok λh4 f4=>?_⟩);have s2:=n2.size;have s3:=n3.size;have F4:=(n2.fr.new n3).no f4;have z4:=f4.size
 by_cases hn:1<=n/\n<g.count
 ·rw[if_pos hn];refine⟨_,_,_,rfl,cn (λy=>absurd rfl y) λ_=>⟨ints R,by rw[af,hR],ah ((f4.r0).trans n3.rd),In.uT hR (λhm h5 f5=>⟨_,_,_,_,rfl,cn (λ_=>?_) λy=>absurd (show(111:Int)=0 from y) (by decide)⟩) λhm ea ec h5 f5 s5=>⟨_,_,_,_,rfl,cn (λy=>absurd rfl y) λ_=>?_⟩⟩⟩
  ·exact same _ h5 (F4.no f5) (by unfold kA;rw[if_neg (λy=>y hn),if_pos hm])
  have z5:=f5.size;have F5:=F4.no f5;refine cD (x.no F5) λa l c h6 f6 hl s6=>⟨_,_,_,_,rfl,cn (λhe=>?_) λhe=>?_⟩
  ·exact same _ h6 (F5.no f6) (by unfold kA;rw[if_neg (λy=>y hn),if_neg (by rw[hm];simp),if_pos he])
  have hlen:(T.read (nM g n)).1.length=512:=x.gX he;have e0:kA T g n R=T.write (nM g n) (iH (T.read (nM g n)).1 (rat n) (lP R)):=by unfold kA;rw[if_neg (λy=>y hn),if_neg (by rw[hm];simp),if_neg (λy=>y he)]
  rw[e0]at hK;generalize T.read (nM g n)=rd0 at hl s6 hlen hK;obtain⟨bs,er⟩:=rd0;simp only at hl s6 hlen hK;obtain⟨p,ep,_⟩:=s6.get (by omega);subst ep;obtain⟨pb,po,sp⟩:=p;have DX:sp=none:=s6.2.1;subst DX;have z6:=f6.size;have hc:=s6.le;have F6:=F5.no f6;have le:=sW hR;have GR:h5.size<=pb:=s6.2.2.1;have e6:Sl h6 1 ea 64 ec ((lP R).map bv) (λb=>dG h4.size b/\b<h5.size):=(yC s5).fr f6 λ_ _ _ y=>y
  refine⟨λi hh=>∃j:Nat,i=j/\j<=64/\Fr (λb=>b=pb) h6 hh/\Sl hh 1 (some ⟨pb,po,none⟩) l c (put (bs.map bv) (rat n) (((lP R).take j).map bv)) (dG h5.size),λi _=>((64:Int)-i).toNat,
   ⟨0,rfl,by decide,Fr.refl _ _,by rw[List.take_zero];exact s6⟩,?_⟩
  rintro i h7 ⟨j,rfl,hj,f7,s7⟩;have z7:=f7.size;refine cd (λYA=>?_) λYA=>?_
  ·have k7:j<(lP R).length:=(by omega);have s7e:=e6.fr f7 λb _ y y2=>by have y:=y.2;have y2:b=pb:=y2;omega
   obtain⟨q,eq,cc⟩:=s7e.get (by decide);have ew:wI ((rat n:Int)+j)=((rat n+j:Nat):Int):=(by rw[wrap_i64 (by omega) (by omega)];omega);have ew2:wI ((j:Int)+1)=((j+1:Nat):Int):=(by rw[wrap_i64 (by omega) (by omega)];omega);rw[ew,ew2,tN0,tN0];refine⟨⟨by omega,by omega⟩,oe eq ⟨((lP R)[j].toNat:Int),aj.cell cc (by rw[lG0,List.getElem?_eq_getElem k7];rfl),⟨by omega,by omega⟩,os ?_⟩⟩;obtain⟨w7,l7⟩:=s7.wr;refine aO.add w7 (by omega) λh8 d8=>⟨⟨j+1,rfl,by omega,f7.did d8 λ_=>rfl,?_⟩,by show((64:Int)-((j+1:Nat):Int)).toNat<((64:Int)-(j:Int)).toNat;omega⟩;rw[dQ _ _ k7,List.map_append,List.map_singleton,zB,lM0,lT0,Nat.min_eq_left (by omega)];exact s7.putAt (j:=rat n+j) (new:=[bv (lP R)[j]]) (by rw[List.length_singleton];omega) d8
  ·have ej:j=64:=(by omega);subst ej;rw[List.take_of_length_le (by omega),qD (by rw[hlen,le];omega)]at s7;have F7:Fr No h h7:=F6.trans f7 λb hb y=>by have y:b=pb:=y;omega
   refine eF (x.no F7) hN s7.str hu λh9 F9 f9 g9 x9=>⟨_,rfl,hK h9 F9 ((F7.mono λ_ _ y=>y.elim).trans f9 λ_ _ y=>y) ((Gw.refl F7.size λb hb=>x.lt hb).trans g9 F7.size) x9⟩
 ·rw[if_neg hn];exact⟨_,_,_,rfl,cn (λ_=>same _ h4 F4 (by unfold kA;rw[if_pos hn])) λy=>absurd (show(110:Int)=0 from y) (by decide)⟩
end Rx
end Go.Proofs.YtjdcbblgaoogmaaGreatDoor
