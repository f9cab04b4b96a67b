/- filePlays_card -/
import Derived.Test.YtjdcbblgaoogmaaGreatDoorGp6
namespace Go.Proofs.YtjdcbblgaoogmaaGreatDoor
open Go Go.Proofs Wx
variable{l o p c i k qb qo j off:Nat}{a r e t d:OA}{h h' h2 h3 h0 hh:ad}{K:KT}{F F' F1:NP}{R R1:List Int}{tab from_ f:Int}
namespace Ry
open Hp W Ad Tm Spc Re Av Rx
open Hd (ints gn bW ji)
open In (af aA)
open Bm (cN kH np kg qK bI bM dZ bT gV nY bU nK eV fH fL kS zJ)
open Bt (rG)
theorem TX{l:cL}(h:o+4<=l.length):(l.drop o).take 4=[l.getD o 0,l.getD (o+1) 0,l.getD (o+2) 0,l.getD (o+3) 0]:=by
 refine List.ext_getElem (by rw[lT0,lD0];show min 4 _=4;omega) λi h1 h2=>?_;have h2:i<4:=h2;rw[List.getElem_take,List.getElem_drop]
 rcases(by omega:i=0∨i=1∨i=2∨i=3)with rfl|rfl|rfl|rfl <;> · rw[show ∀j,l.getD j 0=(l[j]?).getD 0 from λj=>List.getD_eq_getElem?_getD ..];simp only[List.getElem_cons_zero,List.getElem_cons_succ,List.getD_eq_getElem?_getD];rw[List.getElem?_eq_getElem (by omega)];rfl
theorem M9{b:cL}(hb:b.length=512)(hp:p<128):cN b p=(b.getD (4*p) 0).toNat+(b.getD (4*p+1) 0).toNat*256+(b.getD (4*p+2) 0).toNat*65536+(b.getD (4*p+3) 0).toNat*16777216:=by
 unfold Bm.cN;rw[TX (by omega)];show(b.getD (4*p) 0).toNat+256*((b.getD (4*p+1) 0).toNat+256*((b.getD (4*p+2) 0).toNat+256*((b.getD (4*p+3) 0).toNat+256*0)))=_;omega
theorem Na{bs:cL}(B:aw h a l bs)(hl:bs.length=512)(hK:∀ a' c' h',Fr No h h'->Sl h' 1 a' 128 c' (ints (bI bs)) (dG h.size)->K (vS a' 128 c') h') :
  C.iT a l c h K:=by
 have el:l=512:=by rw[<-B.1];exact hl
 refine iT.ok ⟨λla ll lc i hh=>∃m:Nat,i=m/\m<=128/\ll=m/\Fr No h hh/\Sl hh 1 la m lc (ints ((bI bs).take m)) (dG h.size),λ_ _ _ i _=>((128:Int)-i).toNat,⟨0,rfl,nZ0,rfl,Fr.refl _ _,Sl.nil _ _ _⟩,?_⟩;rintro la ll lc i h2 ⟨m,ei,hm,rfl,f2,s2⟩;refine cd (λbK=>?_) λbK=>?_
 ·have U4:ll<128:=by omega
  have B2:=aw.fr f2 B λ_ _ y=>y;have cl:∀j,j<4->∃p,a=some p/\cellOf h2 (p.add (4*ll+j))=some (.int .u8 ((bs.getD (4*ll+j) 0).toNat:Int)):=λj hj=>rG B2 (by omega);obtain⟨p,rfl,c0⟩:=cl 0 (by decide);obtain⟨_,e1,c1⟩:=cl 1 (by decide)
  cases e1
  obtain⟨_,e1,c2⟩:=cl 2 (by decide)
  cases e1
  obtain⟨_,e1,c3⟩:=cl 3 (by decide)
  cases e1
  rw[wq (4*i),wq (4*i+1),wq (4*i+2),wq (4*i+3)];have e0:(4*i).toNat=4*ll+0:=by omega
  have e1:(4*i+1).toNat=4*ll+1:=by omega
  have e2:(4*i+2).toNat=4*ll+2:=by omega
  have e3:(4*i+3).toNat=4*ll+3:=by omega
  rw[e0,e1,e2,e3];refine⟨by omega,os ⟨_,c0,by omega,os ⟨_,c1,by omega,os ⟨_,c2,by omega,os ⟨_,c3,az.intro λh3 n3=>⟨_,rfl,ah n3.rd,by intro v hv;rw[List.mem_singleton.mp hv];rfl,?_⟩⟩⟩⟩⟩⟩;have nb:=M9 hl U4;have b0:(bs.getD (4*ll+0) 0).toNat<256:=UInt8.toNat_lt _;have b1:(bs.getD (4*ll+1) 0).toNat<256:=UInt8.toNat_lt _;have b2:(bs.getD (4*ll+2) 0).toNat<256:=UInt8.toNat_lt _;have b3:(bs.getD (4*ll+3) 0).toNat<256:=UInt8.toNat_lt _;rw[Nat.add_zero]at b0
  have ev:wI ((wI ((wI ((wI ((bs.getD (4*ll+0) 0).toNat:Int))+(wI ((wI ((bs.getD (4*ll+1) 0).toNat:Int))*256))))+(wI ((wI ((bs.getD (4*ll+2) 0).toNat:Int))*65536))))+(wI ((wI ((bs.getD (4*ll+3) 0).toNat:Int))*16777216)))=((cN bs ll:Nat):Int):=by
   rw[nb,Nat.add_zero];generalize(bs.getD (4*ll) 0).toNat=x0 at b0;generalize(bs.getD (4*ll+1) 0).toNat=x1 at b1;generalize(bs.getD (4*ll+2) 0).toNat=x2 at b2;generalize(bs.getD (4*ll+3) 0).toNat=x3 at b3
   rw[wq ((x0:Int)),wq ((x1:Int)),wq ((x2:Int)),wq ((x3:Int)),wq ((x1:Int)*256),wq ((x2:Int)*65536),wq ((x3:Int)*16777216),
    wq ((x0:Int)+(x1:Int)*256),wq ((x0:Int)+(x1:Int)*256+(x2:Int)*65536),wrap_i64 (by omega) (by omega)]
   omega
  rw[ev];refine dh (s2.fr n3.fr λ_ _ _ y=>y) rfl rfl (by show(ll+1)*8<=_;omega) (by omega) λa' c' h4 f4 s4=>?_;rw[wrap_i64 (by omega) (by omega)];have z2:=f2.size;have z3:=n3.size;refine⟨⟨ll+1,by omega,by omega,rfl,(f2.new n3).trans f4 λb hb y=>by have y:h.size<=b:=y;omega,?_⟩,by show((128:Int)-(i+1)).toNat<((128:Int)-i).toNat;omega⟩
  have et:(bI bs).take (ll+1)=(bI bs).take ll++[((cN bs ll:Nat):Int)]:=by
   have bK:ll<(bI bs).length:=(by rw[bM];exact U4);rw[dQ _ _ bK,dZ bK]
  rw[et];have es:ints ((bI bs).take ll++[((cN bs ll:Nat):Int)])=ints ((bI bs).take ll)++[vI ((cN bs ll:Nat):Int)]:=by unfold Hd.ints;rw[List.map_append];rfl
  rw[es];exact s4.mono λb hb=>hb.elim id λy=>by show h.size<=b;omega
 ·have em:ll=128:=by omega
  subst em;rw[List.take_of_length_le (by rw[bM];exact nL0)]at s2;exact hK la lc h2 f2 s2
theorem Eu{l:List Int}(X:ak h a (ints l))(hl:l.length<=1000)(hr:∀ v ∈ l,0<=v)
  (hK:∀a' c' h',Fr No h h'->Sl h' 1 a' (4*l.length) c' ((bW l).map bv) (dG h.size)->K (vS a' (4*l.length) c') h'):C.gR a l.length c h K:=by
 refine gR.ok ⟨λba bl bc i hh=>∃m:Nat,i=m/\m<=l.length/\bl=4*m/\Fr No h hh/\Sl hh 1 ba (4*m) bc ((bW (l.take m)).map bv) (dG h.size),λ_ _ _ i _=>((l.length:Int)-i).toNat,⟨0,rfl,nZ0,rfl,Fr.refl _ _,Sl.nil _ _ _⟩,?_⟩;rintro ba bl bc i h2 ⟨m,rfl,hm,rfl,f2,s2⟩;refine cd (λbK=>?_) λbK=>?_
 ·have U4:m<l.length:=by omega
  obtain⟨p,rfl,c0⟩:=gn (ak.fr f2 X λ_ _ y=>y) U4;have v0:=hr l[m] (List.getElem_mem U4);obtain⟨v,ev⟩:∃v:Nat,l[m]=v:=⟨l[m].toNat,by omega⟩;rw[ev]at c0;rw[tN0];refine⟨by omega,os ⟨_,c0,by omega,os ⟨_,c0,by omega,os ⟨_,c0,by omega,os ⟨_,c0,az.intro λh3 n3=>?_⟩⟩⟩⟩⟩
  have eb:([.int .u8 (IntKind.wrap .u8 ((v:Nat):Int)),.int .u8 (IntKind.wrap .u8 ((Int.fdiv ((v:Nat):Int) (2 ^ min (Int.toNat 8) 64)))),.int .u8 (IntKind.wrap .u8 ((Int.fdiv ((v:Nat):Int) (2 ^ min (Int.toNat 16) 64)))),.int .u8 (IntKind.wrap .u8 ((Int.fdiv ((v:Nat):Int) (2 ^ min (Int.toNat 24) 64))))]:LV)=(Re.br 4 v).map bv:=by
   have d1:Int.fdiv ((v:Nat):Int) (2 ^ min (Int.toNat 8) 64)=((v/256:Nat):Int):=by
    have:(2:Int) ^ min (Int.toNat 8) 64=256:=(by decide);rw[this,Int.fdiv_eq_ediv_of_nonneg _ (by decide)];rfl
   have d2:Int.fdiv ((v:Nat):Int) (2 ^ min (Int.toNat 16) 64)=((v/256/256:Nat):Int):=by
    have:(2:Int) ^ min (Int.toNat 16) 64=65536:=(by decide);rw[this,Int.fdiv_eq_ediv_of_nonneg _ (by decide)];omega
   have d3:Int.fdiv ((v:Nat):Int) (2 ^ min (Int.toNat 24) 64)=((v/256/256/256:Nat):Int):=by
    have:(2:Int) ^ min (Int.toNat 24) 64=16777216:=(by decide);rw[this,Int.fdiv_eq_ediv_of_nonneg _ (by decide)];omega
   rw[d1,d2,d3,In.Ky];simp only[List.map_cons,List.map_nil,In.DS]
  have r3:=n3.rd;rw[eb]at r3;refine⟨(Re.br 4 v).map bv,by rw[lM0,Re.bB],ah r3,ij _,?_⟩;refine dh (s2.fr n3.fr λ_ _ _ y=>y) (by rw[lM0,Re.bB];rfl) rfl (by show(4*m+4)*1<=_;omega) (by omega) λa' c' h4 f4 s4=>?_;rw[wrap_i64 (by omega) (by omega)];have z2:=f2.size;have z3:=n3.size;refine⟨⟨m+1,by omega,by omega,by omega,(f2.new n3).trans f4 λb hb y=>by have y:h.size<=b:=y;omega,?_⟩,by show((l.length:Int)-((m:Int)+1)).toNat<((l.length:Int)-(m:Int)).toNat;omega⟩
  have et:bW (l.take (m+1))=bW (l.take m)++Re.br 4 v:=by
   rw[dQ _ _ U4,ev];unfold Hd.bW;rw[List.flatMap_append,List.flatMap_singleton,tN0]
  rw[et,List.map_append];exact s4.mono λb hb=>hb.elim id λy=>by show h.size<=b;omega
 ·have em:m=l.length:=by omega
  subst em;rw[List.take_length]at s2;exact hK ba bc h2 f2 s2
theorem Ha{b:cL}(hb:b.length=512):bW (bI b)=b:=by
 have:∀k,k<=128->bW ((List.range k).map λi=>((cN b i:Nat):Int))=b.take (4*k):=by
  intro k
  induction k with
  | zero=>intro _;rfl
  | succ k ih=>
   intro hk;rw[List.range_succ,List.map_append]
   have e:bW ((List.range k).map (λi=>((cN b i:Nat):Int))++[k].map λi=>((cN b i:Nat):Int))=bW ((List.range k).map λi=>((cN b i:Nat):Int))++Re.br 4 (cN b k):=by
    unfold Hd.bW;rw[List.flatMap_append];simp
   rw[e,ih (by omega)];have l4:((b.drop (4*k)).take 4).length=4:=by rw[lT0,lD0];omega
   have e2:Re.br 4 (cN b k)=(b.drop (4*k)).take 4:=by
    have:=Hd.zx ((b.drop (4*k)).take 4);rw[l4]at this;exact this
   rw[e2,show 4*(k+1)=4*k+4 by omega,List.take_add]
 unfold Bm.bI;rw[this 128 nL0,List.take_of_length_le (by omega)]
theorem KQ{b:cL}{v:Nat}(hb:b.length=512)(hp:p<128)(hv:v<4294967296):bI (kH b p v)=(bI b).set p (v:Int):=by
 refine List.ext_getElem (by rw[List.length_set,bM,bM]) λi h1 h2=>?_;have hi:i<128:=by rw[bM]at h1;exact h1
 rw[dZ h1,qK hb hp hi hv,List.getElem_set]
 by_cases e:i=p
 ·rw[if_pos e,if_pos e.symm]
 ·rw[if_neg e,if_neg λy=>e y.symm,dZ]
theorem iM{g:G}{v:Int}(hK:∀ h',Fr No h h'->K (vI (if v=0 then 0 else bT g v)) h'):C.cZ g.v v h K:=by
 refine cZ.ok (az.intro λh2 n2=>cn (λh0=>⟨_,bJ n2.rd rfl,cd (λh1=>?_) λh1=>⟨_,bJ n2.rd rfl,cd (λh3=>?_) λh3=>?_⟩⟩) λh0=>?_)
 ·have:=hK h2 n2.fr;rw[if_neg h0]at this;unfold Bm.bT at this;rw[if_pos (.inl h1)]at this;exact this
 ·have:=hK h2 n2.fr;rw[if_neg h0]at this;unfold Bm.bT at this;rw[if_pos (.inr h3)]at this;exact this
 ·have:=hK h2 n2.fr;rw[if_neg h0]at this;unfold Bm.bT at this;rw[if_neg (by omega)]at this;exact this
 ·have:=hK h2 n2.fr;rw[if_pos h0]at this;exact this
theorem uk{T:TM}{i:Int}(x:jc h F r e T)
  (h1:(T.read i).2≠0->∀h',Fr No h h'->K (.tuple #[vS none 0 0,vI (T.read i).2]) h')
  (h2:(T.read i).2=0->∀a c h',Fr No h h'->Sl h' 1 a 128 c (ints (bI (T.read i).1)) (dG h.size)->K (.tuple #[vS a 128 c,vI 0]) h'):C.eT r i h K:=by
 refine eT.ok (Rx.cD x λa l c h3 f3 hl s=>⟨_,_,_,_,rfl,cn (λhe=>h1 he h3 f3) λhe=>?_⟩);exact Na s.str (x.Ft he) λa' c' h4 f4 s4=>⟨_,_,_,rfl,h2 he a' c' h4 (f3.no f4) (s4.mono λb hb=>Nat.le_trans f3.size hb)⟩
def jS(k:Nat):Nat:=if k<10 then k else if k<138 then 10 else 11
def n'(k:Nat):List Nat:=if k<10 then[]else if k<138 then[k-10]else[(k-138)/128,(k-138)%128]
def qR(R:List Int)(i:Nat):Int:=if i=10 then R.getD 13 0 else if i=11 then R.getD 14 0 else R.getD (3+i) 0
def Hb(l:List Nat):List Int:=l.map λi:Nat=>((i:Nat):Int)
theorem BS(hk:k<16522)(hK:∀ a c h',Fr No h h'->ak h' a (ints (Hb (n' k)))->(∀ p,a=some p->h.size<=p.block/\p.block<h'.size)->K (.tuple #[vI (jS k:Nat),vS a (n' k).length c]) h'):C.gf k h K:=by
 obtain⟨k',ek⟩:∃k':Int,k'=(k:Int):=⟨_,rfl⟩;rw[<-ek];refine gf.ok (cd (λh1=>?_) λh1=>cd (λh2=>az.intro λh3 n3=>?_) λh2=>az.intro λh3 n3=>?_)
 ·have e1:jS k=k:=by unfold jS;rw[if_pos (by omega)]
  have e2:n' k=[]:=by unfold n';rw[if_pos (by omega)]
  rw[e1,e2,<-ek]at hK;exact hK none 0 h (Fr.refl _ _) rfl λp y=>by cases y
 ·have e1:jS k=10:=by unfold jS;rw[if_neg (by omega),if_pos (by omega)]
  have e2:n' k=[k-10]:=by unfold n';rw[if_neg (by omega),if_pos (by omega)]
  rw[e1,e2]at hK;have r3:=n3.rd;rw[wrap_i64 (by omega) (by omega)]at r3;refine hK _ 1 h3 n3.fr (ah (r3.trans ?_)) λp y=>by cases y;exact⟨nL0,n3.own.lt⟩
  show _=[vI ((k-10:Nat):Int)];rw[show((k-10:Nat):Int)=k' - 10 by omega]
 ·have e1:jS k=11:=by unfold jS;rw[if_neg (by omega),if_neg (by omega)]
  have e2:n' k=[(k-138)/128,(k-138)%128]:=by unfold n';rw[if_neg (by omega),if_neg (by omega)]
  rw[e1,e2]at hK;have r3:=n3.rd;rw[wq (k' - 10),wq (k' - 10-128),Int.tdiv_eq_ediv_of_nonneg (by omega),Int.tmod_eq_emod_of_nonneg (by omega),wrap_i64 (by omega) (by omega)]at r3;refine hK _ 2 h3 n3.fr (ah (r3.trans ?_)) λp y=>by cases y;exact⟨nL0,n3.own.lt⟩
  show _=[vI (((k-138)/128:Nat):Int),vI (((k-138)%128:Nat):Int)];rw[show(((k-138)/128:Nat):Int)=(k' - 10-128)/128 by omega,show(((k-138)%128:Nat):Int)=(k' - 10-128)%128 by omega]
theorem IB(k:Nat):jS k<12:=by
 unfold jS
 split
 ·omega
 ·split <;> omega
theorem mU(hR:R.length=15)(hi:i<12)(hK:∀ h',Fr No h h'->K (vI (qR R i)) h'):C.gh (ints R) i h K:=by
 have at_:∀j,j<15->(ints R)[j]?=some (vI (R.getD j 0)):=λj hj=>by
  unfold Hd.ints;rw[lG0,List.getD_eq_getElem?_getD,List.getElem?_eq_getElem (by omega)];rfl
 refine gh.ok (az.intro λh2 n2=>ce (λh0=>⟨_,bJ n2.rd (at_ 13 (by decide)),?_⟩) λh0=>ce (λh1=>⟨_,bJ n2.rd (at_ 14 (by decide)),?_⟩) λh1=>⟨by omega,R.getD (3+i) 0,?_,?_⟩)
 ·have:=hK h2 n2.fr;unfold qR at this;rw[if_pos (by omega)]at this;exact this
 ·have:=hK h2 n2.fr;unfold qR at this;rw[if_neg (by omega),if_pos (by omega)]at this;exact this
 ·rw[bm,bm,jX,n2.rd,Nat.zero_add,tN0];exact at_ (3+i) (by omega)
 ·have:=hK h2 n2.fr;unfold qR at this;rw[if_neg (by omega),if_neg (by omega)]at this;exact this
def Hc(T:TM)(g:G)(R:List Int)(n:Int)(ps:List Nat):Int×Int:=if n=0 then(0,0)else if bT g n≠0 then(0,bT g n)else nY T g R (ps.map λp=>(3,p)) n
theorem Qb{T:TM}{g:G}(hk:k<16522):fH T g R k=Hc T g R (qR R (jS k)) (n' k):=by
 have e:eV k=(if jS k=10 then(1,0)else if jS k=11 then(2,0)else(0,jS k))::(n' k).map λp=>(3,p):=by
  unfold Bm.eV jS n'
  by_cases h1:k<10
  ·rw[if_pos h1,if_pos h1,if_pos h1,if_neg (by omega),if_neg (by omega)];rfl
  ·rw[if_neg h1,if_neg h1,if_neg h1]
   by_cases h2:k<138
   ·rw[if_pos h2,if_pos h2,if_pos h2];rfl
   ·rw[if_neg h2,if_neg h2,if_neg h2];rfl
 unfold Bm.fH;rw[if_neg (by omega),tN0,e]
 have en:gV T R (if jS k=10 then(1,0)else if jS k=11 then(2,0)else(0,jS k)) 0=(qR R (jS k),[],0):=by
  unfold qR
  by_cases h1:jS k=10
  ·rw[if_pos h1,if_pos h1];rfl
  ·rw[if_neg h1,if_neg h1]
   by_cases h2:jS k=11
   ·rw[if_pos h2,if_pos h2];rfl
   ·rw[if_neg h2,if_neg h2];rfl
 unfold Bm.nY;rw[en,if_neg (λy=>y rfl)];rfl
end Ry
namespace Ry
open Hp W Ad Tm Spc Re Av Rx
open Hd (ints gn bW ji)
open In (af aA)
open Bm (cN kH np kg qK bI bM dZ bT gV nY bU nK eV fH fL kS zJ zK)
theorem OK(hk:k<16522):∀p∈n' k,p<128:=by
 intro p hp;unfold n' at hp
 split at hp
 ·cases hp
 ·split at hp
  ·rw[List.mem_singleton.mp hp];omega
  ·rcases List.mem_cons.mp hp with rfl|hp
   ·omega
   ·rw[List.mem_singleton.mp hp];omega
theorem KR(k:Nat):(n' k).length<=2:=by
 unfold n'
 split
 ·exact nZ0
 ·split
  ·show 1<=2;decide
  ·exact nL0
theorem IC{l:List Nat}(X:ak h a (ints (Hb l)))(hi:i<l.length):∃p,a=some p/\cellOf h (p.add i)=some (vI (l[i]:Nat)):=by
 have vt:i<(Hb l).length:=by unfold Hb;rw[lM0];exact hi
 obtain⟨p,e,c⟩:=gn X vt;refine⟨p,e,?_⟩;have:(Hb l)[i]=((l[i]:Nat):Int):=List.getElem_map _;rw[c,this]
theorem OL{T:TM}{a:Int}(he:(T.read a).2=0):gV T R (3,p) a=(((cN (T.read a).1 p:Nat):Int),(T.read a).1,0):=by
 rw[zK,if_neg (λy=>y he)]
theorem KS{T:TM}{a:Int}(he:(T.read a).2≠0):gV T R (3,p) a=(0,[],(T.read a).2):=by
 rw[zK,if_pos he]
theorem ue{T:TM}{g:G}{k:Int}(x:jc h F r e T)(hR:R.length=15)
  (hK:∀h',Fr No h h'->K (.tuple #[vI (fH T g R k).1,vI (fH T g R k).2]) h'):C.cO r g.v (ints R) k h K:=by
 refine cO.ok (az.intro λh2 n2=>az.intro λh3 n3=>?_);have z2:=n2.size;have z3:=n3.size;have F3:=n2.fr.new n3
 have GV:k<0∨k>=16522->K (.tuple #[vI 0,vI 101]) h3:=λy=>by
  have:=hK h3 F3;have e1:fH T g R k=(0,101):=by unfold Bm.fH;rw[if_pos y]
  rw[e1]at this;exact this
 refine cd (λy=>GV (.inl y)) λy0=>cd (λy=>GV (.inr y)) λy1=>?_;obtain⟨k,rfl⟩:∃m:Nat,k=m:=⟨k.toNat,by omega⟩;have hk:k<16522:=by omega
 rw[Qb hk]at hK;unfold cO.k1;refine BS hk λpa pc h4 f4 sp _=>⟨_,_,_,_,rfl,ints R,by rw[af,hR],ah ((f4.r0).trans n3.rd |> λq=>by have:h3.size=h2.size+1:=z3;exact q),mU hR (IB k) λh5 f5=>⟨_,rfl,?_⟩⟩;have F5:=(F3.no f4).no f5;have M0:rd h5 h.size=g.v:=(f5.rd (by have:=f4.size;omega) λy=>y).trans ((f4.r0).trans ((n3.at_).trans n2.rd));have tl:=KR k;have tlt:=OK hk;generalize n' k=ps at sp hK tl tlt;refine⟨λn i hh=>∃j:Nat,i=j/\j<=ps.length/\Fr No h5 hh/\Hc T g R n (ps.drop j)=Hc T g R (qR R (jS k)) ps,λ_ i _=>((ps.length:Int)-i).toNat,⟨0,rfl,nZ0,Fr.refl _ _,rfl⟩,?_⟩;rintro n i h6 ⟨j,rfl,hj,f6,er⟩;rw[<-er]at hK;have F6:=F5.no f6;have z5:=F5.size;have lt5:h.size<h5.size:=by have:=f4.size;have:=f5.size;omega
 refine⟨_,rfl,ah ((f6.rd lt5 λy=>y).trans M0),iM λh7 f7=>⟨_,rfl,?_⟩⟩;have F7:=F6.no f7;have UH:=hK h7 F7;unfold Hc at UH
 by_cases hn:n=0
 ·rw[if_pos hn]at UH ⊢;exact cn (λy=>absurd rfl y) λ_=>ct (by rw[beq_iff_eq];exact hn) UH
 ·rw[if_neg hn]at UH ⊢;refine cn (λdp=>by rw[if_pos dp]at UH;exact UH) λWI=>cf (by rw[beq_eq_false_iff_ne];exact hn) ?_;rw[if_neg (λy=>y WI)]at UH;unfold cO.k2;refine ce (λhl=>?_) λhl=>?_
  ·have:j=ps.length:=(by omega);rw[this,List.drop_length]at UH;exact UH
  ·have Bo:j<ps.length:=(by omega);rw[List.drop_eq_getElem_cons Bo,List.map_cons]at UH;have hp:=tlt _ (List.getElem_mem Bo);refine uk (x.no F7) (λhe h8 f8=>⟨_,_,_,_,rfl,ct (by rw[bne_iff_ne];exact he) ?_⟩) λhe a c h8 f8 s8=>⟨_,_,_,_,rfl,cn (λy=>absurd rfl y) λ_=>?_⟩
   ·have:=hK h8 (F7.no f8);unfold Hc at this;rw[if_neg hn,if_neg (λy=>y WI),List.drop_eq_getElem_cons Bo,List.map_cons]at this;unfold Bm.nY at this;rw[KS he,if_pos he]at this;exact this
   ·obtain⟨p,rfl,cp⟩:=IC (ak.fr ((f6.no f7).no f8) (ak.fr f5 sp λ_ _ y=>y) λ_ _ y=>y) Bo;obtain⟨q,rfl,cq⟩:=gn s8.cells (i:=ps[j]) (by rw[bM];exact hp);refine⟨by omega,os ⟨_,cp,by omega,os ⟨_,by rw[tN0];exact cq,?_⟩⟩⟩;rw[wrap_i64 (by omega) (by omega),dZ];refine⟨⟨j+1,by omega,by omega,(f6.no f7).no f8,?_⟩,by show((ps.length:Int)-((j:Int)+1)).toNat<((ps.length:Int)-(j:Int)).toNat;omega⟩;rw[<-er]
    conv=>rhs;unfold Hc
    rw[if_neg hn,if_neg (λy=>y WI),List.drop_eq_getElem_cons Bo,List.map_cons]
    conv=>rhs;unfold Bm.nY
    rw[OL he,if_neg (λy=>y rfl)];rfl
end Ry
namespace Ry
open Hp W Ad Tm Spc Re Av Rx
open Hd (ints gn bW ji)
open In (af aA)
open Bm (cN kH np kg qK bI bM dZ bT gV nY bU nK eV fH fL kS zJ zK tZ jb)
theorem KU(f:Fr F h h')(g:Gw h F h' F'){b:Nat}(hb:b<h.size)(hF:¬ F b):rd h' b=rd h b/\¬F' b/\b<h'.size/\(dJ h b->dJ h' b):=
 ⟨f.rd hb hF,λy=>hF ((g.old b hb).mp y),Nat.lt_of_lt_of_le hb f.size,f.own hb hF⟩
def zV(R:List Int)(i:Nat)(v:Int):List Int:=if i=10 then R.set 13 v else if i=11 then R.set 14 v else R.set (3+i) v
theorem KV(R:List Int)(i:Nat)(v:Int):(zV R i v).length=R.length:=by
 unfold zV
 split
 ·exact List.length_set
 ·split <;> exact List.length_set
theorem ints_set{v:Int}:(ints R).set i (vI v)=ints (R.set i v):=by
 unfold Hd.ints;rw[List.map_set]
theorem Qc{v:Int}(hR:R.length=15)(hi:i<12)(hK:∀ h',Fr No h h'->K (.agg ⟨ints (zV R i v)⟩) h'):C.jM (ints R) i v h K:=by
 refine jM.ok (az.intro λh2 n2=>az.intro λh3 n3=>?_);have z2:=n2.size;have z3:=n3.size;have r2:rd h3 h.size=ints R:=(n3.at_).trans n2.rd;have F3:=n2.fr.new n3
 have fin:∀(j:Nat) (h4:ad),j<15->zV R i v=R.set j v->rW h.size h3 h4 ((rd h3 h.size).set j (vI v))->∃aW:LV,List.length aW=15/\aj h4 (bA h) aW/\ax (bA h2) aW 15 h4 λh5=>∃bL:LV,List.length bL=15/\aj h5 (bA h2) bL/\K (.agg ⟨bL⟩) h5:=λj h4 hj ej d4=>by
  have r4:rd h4 h.size=ints (zV R i v):=by rw[d4.rd,r2,ints_set,ej]
  have l4:(ints (zV R i v)).length=15:=by rw[af,KV,hR]
  have l3:(rd h4 h2.size).length=15:=by rw[d4.at_,n3.rd];rfl
  refine⟨_,l4,ah r4,ax.intro (d4.ow n3.own) l4 (aA _) (by omega) λh5 d5=>⟨ints (zV R i v),l4,ah (by rw[d5.rd];exact dC _ _ (by rw[l4,l3])),?_⟩⟩;exact hK h5 ((F3.did d4 λy=>by omega).did d5 λy=>by omega)
 have l2:(rd h3 h.size).length=15:=by rw[r2,af,hR]
 refine ce (λh0=>aO.add (n3.ow n2.own) (by omega) λh4 d4=>fin 13 h4 (by decide) (by unfold zV;rw[if_pos (by omega)]) d4) λh0=>ce (λh1=>aO.add (n3.ow n2.own) (by omega) λh4 d4=>fin 14 h4 (by decide) (by unfold zV;rw[if_neg (by omega),if_pos (by omega)]) d4) λh1=>⟨by omega,?_⟩;rw[bm,tN0];exact aO.add (n3.ow n2.own) (by omega) λh4 d4=>fin (3+i) h4 (by omega) (by unfold zV;rw[if_neg (by omega),if_neg (by omega)]) (by rw[Nat.zero_add]at d4;exact d4)
theorem Ev{T:TM}{g:G}(h:(aP T g).2.2=0):∃m:Nat,(aP T g).2.1=m/\g.data<=m/\m<g.blocks:=by
 unfold aP at h ⊢
 split at h
 ·rename_i m hm;have hp:=List.find?_some hm;have hp:=of_decide_eq_true hp;refine⟨m,?_,hp.2.1,hp.2.2⟩;unfold jP at h ⊢
  split at h
  ·rename_i h1;exact absurd h h1
  ·rename_i h1;rw[if_neg h1]
   split at h
   ·rename_i h2;exact absurd h h2
   ·rename_i h2;rw[if_neg h2]
 ·cases h
theorem He{g:G}{m:Nat}(h1:g.data<=m)(h2:m<g.blocks):bT g m=0:=by
 unfold Bm.bT;rw[if_neg (by omega)]
def vi(T:TM)(g:G)(R:List Int)(n:Int)(ps:List Nat):(TM×List Int)×Int×Int:=bU g (ps.map λp=>(3,p)) T R n
theorem TY{T:TM}{n:Nat}(d:uO n){R:List Int}{k:Nat}:bU (ai n) (eV k) T R 0 =
  if qR R (jS k)≠0 then(if bT (ai n) (qR R (jS k))≠0 then((T,R),0,bT (ai n) (qR R (jS k)))else vi T (ai n) R (qR R (jS k)) (n' k))else
  if(aP T (ai n)).2.2≠0 then(((aP T (ai n)).1,R),0,(aP T (ai n)).2.2)else vi (aP T (ai n)).1 (ai n) (zV R (jS k) (aP T (ai n)).2.1) (aP T (ai n)).2.1 (n' k):=by
 have e:eV k=(if jS k=10 then(1,0)else if jS k=11 then(2,0)else(0,jS k))::(n' k).map λp=>(3,p):=by
  unfold Bm.eV jS n'
  by_cases h1:k<10
  ·rw[if_pos h1,if_pos h1,if_pos h1,if_neg (by omega),if_neg (by omega)];rfl
  ·rw[if_neg h1,if_neg h1,if_neg h1]
   by_cases h2:k<138
   ·rw[if_pos h2,if_pos h2,if_pos h2];rfl
   ·rw[if_neg h2,if_neg h2,if_neg h2];rfl
 have en:gV T R (if jS k=10 then(1,0)else if jS k=11 then(2,0)else(0,jS k)) 0=(qR R (jS k),[],0):=by
  unfold qR
  by_cases h1:jS k=10
  ·rw[if_pos h1,if_pos h1];rfl
  ·rw[if_neg h1,if_neg h1]
   by_cases h2:jS k=11
   ·rw[if_pos h2,if_pos h2];rfl
   ·rw[if_neg h2,if_neg h2];rfl
 have es:∀(T':TM) (v:Int),nK T' R (if jS k=10 then(1,0)else if jS k=11 then(2,0)else(0,jS k)) 0 [] v=((T',zV R (jS k) v),0):=λT' v=>by
  unfold zV
  by_cases h1:jS k=10
  ·rw[if_pos h1,if_pos h1];rfl
  ·rw[if_neg h1,if_neg h1]
   by_cases h2:jS k=11
   ·rw[if_pos h2,if_pos h2];rfl
   ·rw[if_neg h2,if_neg h2];rfl
 rw[e];unfold Bm.bU;rw[en,if_neg (λy=>y rfl)];show(if qR R (jS k)≠0 then _ else _)=_
 by_cases h0:qR R (jS k)≠0
 ·rw[if_pos h0,if_pos h0];rfl
 ·rw[if_neg h0,if_neg h0]
  by_cases h1:(aP T (ai n)).2.2≠0
  ·rw[if_pos h1,if_pos h1]
  ·rw[if_neg h1,if_neg h1];have h1:(aP T (ai n)).2.2=0:=Classical.byContradiction h1;obtain⟨m,em,m1,m2⟩:=Ev h1;have hd:=d.data;rw[es,if_neg (λy=>y rfl),em,if_neg (by omega),He m1 m2,if_neg (λy=>y rfl)];rfl
theorem TZ{T:TM}{n:Nat}(d:uO n){R:List Int}{p:Nat}{a:Int}{r:List Nat}:vi T (ai n) R a (p::r) =
  if(T.read a).2≠0 then((T,R),0,(T.read a).2)else if((cN (T.read a).1 p:Nat):Int)≠0 then(if bT (ai n) (cN (T.read a).1 p:Nat)≠0 then((T,R),0,bT (ai n) (cN (T.read a).1 p:Nat))else vi T (ai n) R (cN (T.read a).1 p:Nat) r)else
  if(aP T (ai n)).2.2≠0 then(((aP T (ai n)).1,R),0,(aP T (ai n)).2.2)else
  if((aP T (ai n)).1.write a (kH (T.read a).1 p (aP T (ai n)).2.1.toNat)).2≠0 then((((aP T (ai n)).1.write a (kH (T.read a).1 p (aP T (ai n)).2.1.toNat)).1,R),0,((aP T (ai n)).1.write a (kH (T.read a).1 p (aP T (ai n)).2.1.toNat)).2)else
   vi ((aP T (ai n)).1.write a (kH (T.read a).1 p (aP T (ai n)).2.1.toNat)).1 (ai n) R (aP T (ai n)).2.1 r:=by
 unfold vi;rw[List.map_cons]
 conv=>lhs;unfold Bm.bU
 by_cases he:(T.read a).2≠0
 ·rw[KS he,if_pos he,if_pos he]
 ·rw[OL (Classical.byContradiction he),if_neg (λy=>y rfl),if_neg he];show(if((cN (T.read a).1 p:Nat):Int)≠0 then _ else _)=_
  by_cases h0:((cN (T.read a).1 p:Nat):Int)≠0
  ·rw[if_pos h0,if_pos h0]
  ·rw[if_neg h0,if_neg h0]
   by_cases h1:(aP T (ai n)).2.2≠0
   ·rw[if_pos h1,if_pos h1]
   ·rw[if_neg h1,if_neg h1];have h1:(aP T (ai n)).2.2=0:=Classical.byContradiction h1;obtain⟨m,em,m1,m2⟩:=Ev h1;have hd:=d.data;have es:nK (aP T (ai n)).1 R (3,p) a (T.read a).1 (aP T (ai n)).2.1=(((((aP T (ai n)).1).write a (kH (T.read a).1 p (aP T (ai n)).2.1.toNat)).1,R),(((aP T (ai n)).1).write a (kH (T.read a).1 p (aP T (ai n)).2.1.toNat)).2):=rfl;rw[es]
    by_cases h2:(((aP T (ai n)).1).write a (kH (T.read a).1 p (aP T (ai n)).2.1.toNat)).2≠0
    ·rw[if_pos h2,if_pos h2]
    ·rw[if_neg h2,if_neg h2,if_neg (by rw[em];omega),em,He m1 m2,if_neg (λy=>y rfl)]
structure Aw(h:ad)(F:NP)(r e:OA)(g:G)(gb xb rb:Nat)(pa:OA)(ps:List Nat)(hh:ad)(F':NP)(T':TM)(R':List Int):Prop where
 fr:Fr F h hh
 gw:Gw h F hh F'
 x:jc hh F' r e T'
 rg:rd hh gb=g.v
 rx:rd hh xb=ints R'
 ox:dJ hh xb
 Xf:dJ hh rb
 lr:(rd hh rb).length=15
 sp:ak hh pa (ints (Hb ps))
 lp:∀p,pa=some p->p.block<hh.size
 nf:¬F' gb/\¬F' xb/\¬F' rb/\∀p,pa=some p->¬F' p.block
 ne:gb≠xb/\gb≠rb/\xb≠rb/\∀p,pa=some p->p.block≠xb/\p.block≠rb
 lo:h.size<=gb/\h.size<=xb/\h.size<=rb
 len:R'.length=15
section
variable{h hh h' : ad}{F F' vu : Nat -> Prop}{r e : OA}{g : G}{gb xb rb : Nat}{pa : OA}{ps : List Nat}{T' OB : TM}{R' WW : List Int}
theorem Aw.lg(A:Aw h F r e g gb xb rb pa ps hh F' T' R'):gb<hh.size:=gr (o:=0) (v:=vI g.blocks) (by rw[A.rg];rfl)
theorem Aw.call(A:Aw h F r e g gb xb rb pa ps hh F' T' R')(f:Fr F' hh h')(w:Gw hh F' h' vu)(x:jc h' vu r e OB):Aw h F r e g gb xb rb pa ps h' vu OB R':=by
 obtain⟨n1,n2,n3,n4⟩:=A.nf;obtain⟨a1,a2,a3,a4⟩:=KU f w A.lg n1;obtain⟨b1,b2,b3,b4⟩:=KU f w A.ox.lt n2;obtain⟨c1,c2,c3,c4⟩:=KU f w A.Xf.lt n3;exact⟨A.fr.trans f λb hb y=>(A.gw.old b hb).mp y,A.gw.trans w A.fr.size,x,a1.trans A.rg,b1.trans A.rx,b4 A.ox,c4 A.Xf,by rw[c1];exact A.lr,ak.fr f A.sp n4,λp ep=>Nat.lt_of_lt_of_le (A.lp p ep) f.size,⟨a2,b2,c2,λp ep y=>n4 p ep ((w.old _ (A.lp p ep)).mp y)⟩,A.ne,A.lo,A.len⟩
theorem Aw.no(A:Aw h F r e g gb xb rb pa ps hh F' T' R')(f:Fr No hh h'):Aw h F r e g gb xb rb pa ps h' F' T' R':=
 A.call (f.mono λ_ _ y=>y.elim) (Gw.refl f.size λb hb=>A.x.lt hb) (A.x.no f)
theorem Aw.own(A:Aw h F r e g gb xb rb pa ps hh F' T' R'){b:Nat}{cs:LV}(d:rW b hh h' cs)(hb:h.size<=b)(hF:¬ F' b)(h1:b≠gb)(h2:b≠xb)(h3:b≠rb)(h4:∀ p,pa=some p->p.block≠b):Aw h F r e g gb xb rb pa ps h' F' T' R':=by
 have z:=d.size;exact⟨A.fr.did d λy=>by omega,⟨A.gw.old,λx hx=>by rw[z];exact A.gw.lt x hx⟩,A.x.fr d.fr λx hx y=>hF (y▸hx),(d.at_ A.lg λy=>h1 y.symm).trans A.rg,(d.at_ A.ox.lt λy=>h2 y.symm).trans A.rx,d.ow A.ox,d.ow A.Xf,by rw[d.at_ A.Xf.lt λy=>h3 y.symm];exact A.lr,ak.fr d.fr A.sp λp ep y=>h4 p ep y,λp ep=>by rw[z];exact A.lp p ep,A.nf,A.ne,A.lo,A.len⟩
theorem Aw.ae0(A:Aw h F r e g gb xb rb pa ps hh F' T' R')(hl:WW.length=15)(d:rW xb hh h' (put (rd hh xb) 0 (ints WW))):Aw h F r e g gb xb rb pa ps h' F' T' WW:=by
 have z:=d.size;obtain⟨e1,e2,e3,e4⟩:=A.ne;exact⟨A.fr.did d λy=>by have:=A.lo.2.1;omega,⟨A.gw.old,λx hx=>by rw[z];exact A.gw.lt x hx⟩,A.x.fr d.fr λx hx y=>A.nf.2.1 (y▸hx),(d.at_ A.lg e1).trans A.rg,by rw[d.rd,A.rx];exact dC _ _ (by rw[af,af,hl,A.len]),d.own,d.ow A.Xf,by rw[d.at_ A.Xf.lt λy=>e3 y.symm];exact A.lr,ak.fr d.fr A.sp λp ep y=>(e4 p ep).1 y,λp ep=>by rw[z];exact A.lp p ep,A.nf,A.ne,A.lo,hl⟩
theorem Aw.fin(A:Aw h F r e g gb xb rb pa ps hh F' T' R'){K:KT}{f:LV->Value}(hK:∀ h',Fr F h h'->Gw h F h' F'->jc h' F' r e T'->K (f (ints R')) h') :
  ∃vX:LV,List.length vX=15/\aj hh ⟨xb,0,none⟩ vX/\ax ⟨rb,0,none⟩ vX 15 hh λiY=>∃fv:LV,List.length fv=15/\aj iY ⟨rb,0,none⟩ fv/\K (f fv) iY:=by
 have l:(ints R').length=15:=by rw[af,A.len]
 refine⟨_,l,ah A.rx,ax.intro A.Xf l (aA _) (by rw[A.lr];decide) λiY d16=>⟨ints R',l,ah (by rw[d16.rd];exact dC _ _ (by rw[l,A.lr])),?_⟩⟩;have z:=d16.size;exact hK iY (A.fr.did d16 λy=>by have:=A.lo.2.2;omega) ⟨A.gw.old,λx hx=>by rw[z];exact A.gw.lt x hx⟩ (A.x.fr d16.fr λx hx y=>A.nf.2.2.1 (y▸hx))
end
theorem Ew{T:TM}{g:G}:(aP T g).1.aK=T.aK:=by
 unfold aP
 split
 ·unfold jP
  split
  ·rfl
  ·split
   ·rfl
   ·exact((Ext.refl _).write _ _).aK.trans (kz (Ext.refl _)).aK
 ·rfl
theorem yK(T:TM)(i:Int)(bs:cL):(T.write i bs).1.aK=T.aK:=((Ext.refl T).write i bs).aK
theorem T5{cg:ad}{n:Nat}{pa:OA}{ps:List Nat}{T1:TM}{n6:Int}(d:uO n)(A:Aw h F r e (ai n) h.size h2.size h3.size pa ps cg F1 T1 R1)(hN:98<=T1.N)(hu:T1.ar.length<800000000)(Zt:∀ p ∈ ps,p<128)(V2:ps.length<=2)
  (hK:∀h' F',Fr F h h'->Gw h F h' F'->jc h' F' r e (vi T1 (ai n) R1 n6 ps).1.1->K (.tuple #[.agg ⟨ints (vi T1 (ai n) R1 n6 ps).1.2⟩,vI (vi T1 (ai n) R1 n6 ps).2.1,vI (vi T1 (ai n) R1 n6 ps).2.2]) h') :
  fe.k1 r h h2 h3 pa ps.length n6 cg K:=by
 have hd:=d.data;unfold fe.k1;refine⟨λnn i hh=>∃(j:Nat) (F':NP) (T':TM) (R':List Int),i=j/\j<=ps.length/\Aw h F r e (ai n) h.size h2.size h3.size pa ps hh F' T' R'/\98<=T'.N/\T'.ar.length<=T1.ar.length+3*j/\vi T' (ai n) R' nn (ps.drop j)=vi T1 (ai n) R1 n6 ps,λ_ i _=>((ps.length:Int)-i).toNat,⟨0,F1,T1,R1,rfl,nZ0,A,hN,nL0,rfl⟩,?_⟩;rintro nn i cM ⟨j,F',T',R',rfl,hj,A4,hN4,hu4,er⟩;rw[<-er]at hK;refine cd (λbK=>?_) λbK=>?_
 rotate_left
 ·have:j=ps.length:=by omega
  rw[this,List.drop_length]at hK;exact A4.fin (f:=λcs=>.tuple #[.agg ⟨cs⟩,vI nn,vI 0]) λh'=>hK h' F'
 have Bo:j<ps.length:=by omega
 have hp:=Zt _ (List.getElem_mem Bo);have z4:=A4.fr.size;obtain⟨pp,rfl,cp⟩:=IC A4.sp Bo;rw[List.drop_eq_getElem_cons Bo,TZ d]at hK er
 have cp':∀{hx:ad},Fr (λb=>b≠pp.block) cM hx->cellOf hx (pp.add j)=some (vI (ps[j]:Nat)):=λf=>by
  have:=(ak.fr f A4.sp λq eq y=>y (by cases eq;rfl):ak _ (some pp) _);obtain⟨q,eq,c⟩:=IC this Bo
  cases eq;exact c
 have nxt:wI ((j:Int)+1)=((j+1:Nat):Int):=by rw[wrap_i64 (by omega) (by omega)];omega
 have ID:((ps.length:Int)-((j+1:Nat):Int)).toNat<((ps.length:Int)-(j:Int)).toNat:=by omega
 generalize hpe:ps[j]=p at hp hK er cp cp';refine uk A4.x (λhe fg f15=>⟨_,_,_,_,rfl,ct (by rw[bne_iff_ne];exact he) ?_⟩) λhe sa sc fg f15 s15=>⟨_,_,_,_,rfl,cn (λy=>absurd rfl y) λ_=>?_⟩
 ·rw[if_pos he]at hK;exact(A4.no f15).fin (f:=λcs=>.tuple #[.agg ⟨cs⟩,vI 0,vI (T'.read nn).2]) λh'=>hK h' F'
 rw[if_neg (λy=>y he)]at hK er;have A5:=A4.no f15;have hlen:=A4.x.Ft he;obtain⟨q,rfl,cq⟩:=gn s15.cells (i:=p) (by rw[bM];exact hp);rw[dZ]at cq;have kS:=f15.size;refine⟨by omega,os ⟨_,by rw[tN0];exact cp' (f15.mono λ_ _ y=>y.elim),by omega,os ⟨_,by rw[tN0];exact cq,_,rfl,ah A5.rg,iM λfw f17=>⟨_,rfl,?_⟩⟩⟩⟩;have A7:=A5.no f17;have nl:=np (T'.read nn).1 p
 by_cases h0:((cN (T'.read nn).1 p:Nat):Int)=0
 ·-- nothing stands there
  rw[if_neg (λy=>y h0)]at hK er;refine cn (λy=>absurd (if_pos h0) y) λ_=>ct (by rw[beq_iff_eq];exact h0) ⟨_,rfl,ah A7.rg,?_⟩;have tu:=tZ T' (ai n);refine xh A7.x d hN4 (by omega) λgm F19 f19 g19 QN=>⟨_,_,rfl,?_⟩;have A9:=A7.call f19 g19 QN;refine cn (λdp=>?_) λXg=>?_
  ·rw[if_pos dp]at hK;exact A9.fin (f:=λcs=>.tuple #[.agg ⟨cs⟩,vI 0,vI (aP T' (ai n)).2.2]) λh'=>hK h' F19
  rw[if_neg (λy=>y Xg)]at hK er;obtain⟨m,em,m1,m2⟩:=Ev Xg;have hmn:(ai n).blocks=n:=rfl;have hhi:=d.hi;rw[em]at hK er ⊢;rw[tN0]at hK er;have cpq:=cp' (hx:=gm) (((f15.no f17).mono (G:=λb=>b≠pp.block) λ_ _ y=>y.elim).trans f19 λb hb y e=>(A4.nf.2.2.2 pp rfl) (e▸y))
  -- the local row stands
  have nq:∀b,b<fw.size->cM.size<=b->¬F' b:=λb _ hb y=>by have:=A4.x.lt y;omega
  have s19:=(s15.fr f17 λ_ _ _ y=>y).fr f19 λb hb y z=>nq b hb y z;obtain⟨qb,qo,sp⟩:=q;have DX:sp=none:=s19.2.1;subst DX;have hq:cM.size<=qb:=s19.2.2.1;obtain⟨w9,l9⟩:=s19.wr;have ql7:qb<fw.size:=Nat.lt_of_lt_of_le (s15.lt) f17.size;refine⟨by omega,os ⟨_,by rw[tN0];exact cpq,by omega,os (aO.add w9 (by rw[tN0];omega) λnR d21=>?_)⟩⟩;rw[tN0]at d21;have s21:=s19.putAt (new:=[vI (m:Int)]) (j:=p) (by show p+1<=128*1;omega) d21
  have e21:put (ints (bI (T'.read nn).1)) p [vI (m:Int)]=ints (bI (kH (T'.read nn).1 p m)):=by
   rw[KQ hlen hp (by omega)];exact ints_set
  rw[e21]at s21;have z9:=f19.size;obtain⟨n1,n2,n3,n4⟩:=A4.nf;have lgx:=A4.lg;have lxx:=A4.ox.lt;have lrr:=A4.Xf.lt;have A21:=A9.own d21 (by omega) (λy=>nq qb ql7 hq ((g19.old qb ql7).mp y)) (by omega) (by omega) (by omega) λp' ep'=>by have:=A4.lp p' ep';omega
  have hB:=fun {K'} hK'=>Eu (a:=some ⟨qb,qo,none⟩) (c:=sc) (l:=bI (kH (T'.read nn).1 p m)) (h:=nR) (K:=K') s21.cells (by rw[bM];decide) (λv hv=>by
   unfold Bm.bI at hv;obtain⟨i,_,rfl⟩:=List.mem_map.mp hv
   exact Int.natCast_nonneg _) hK'
  rw[bM,Ha (kg hlen hp)]at hB;refine hB λa22 c22 nD f22 s22=>⟨_,_,_,rfl,?_⟩;have A22:=A21.no f22;have hNt:98<=(aP T' (ai n)).1.N:=by unfold TM.N;rw[Ew];exact hN4
  refine Rx.eF A22.x hNt s22.str (by omega) λjR F23 f23 g23 x23=>⟨_,rfl,?_⟩;have A23:=A22.call f23 g23 x23;have wu:=jb (aP T' (ai n)).1 nn (kH (T'.read nn).1 p m);refine cn (λdp=>?_) λXF=>?_
  ·rw[if_pos dp]at hK;exact A23.fin (f:=λcs=>.tuple #[.agg ⟨cs⟩,vI 0,vI ((aP T' (ai n)).1.write nn (kH (T'.read nn).1 p m)).2]) λh'=>hK h' F23
  ·rw[if_neg (λy=>y XF)]at er;rw[nxt];exact⟨⟨j+1,F23,_,R',rfl,Bo,A23,by unfold TM.N;rw[yK];exact hNt,by omega,er⟩,ID⟩
 ·rw[if_pos h0]at hK er;refine cn (λdp=>?_) λXg=>?_
  ·rw[if_neg h0]at dp ⊢;rw[if_pos dp]at hK;exact A7.fin (f:=λcs=>.tuple #[.agg ⟨cs⟩,vI 0,vI (bT (ai n) (cN (T'.read nn).1 p:Nat))]) λh'=>hK h' F'
  ·rw[if_neg h0]at Xg;rw[if_neg (λy=>y Xg)]at er;refine cf (by rw[beq_eq_false_iff_ne];exact h0) ?_;rw[nxt];exact⟨⟨j+1,F',T',R',rfl,Bo,A7,hN4,by omega,er⟩,ID⟩
end Ry
namespace Ry
open Hp W Ad Tm Spc Re Av Rx
open Hd (ints gn bW)
open In (af aA)
open Bm (cN kH np kg qK bI bM dZ bT eO kj gJ iV mn qm lQ qN zP jb)
structure Hs(h:ad)(F:NP)(r e:OA)(hh:ad)(F':NP)(T':TM):Prop where
 fr:Fr F h hh
 gw:Gw h F hh F'
 x:jc hh F' r e T'
section
variable{h hh h' : ad}{F F' vu : Nat -> Prop}{r e : OA}{T T' OB : TM}
theorem Hs.start(x:jc h F r e T)(f:Fr No h h'):Hs h F r e h' F T:=⟨f.mono λ_ _ y=>y.elim,Gw.refl f.size λb hb=>x.lt hb,x.no f⟩
theorem Hs.call(A:Hs h F r e hh F' T')(f:Fr F' hh h')(w:Gw hh F' h' vu)(x:jc h' vu r e OB):Hs h F r e h' vu OB:=
 ⟨A.fr.trans f λb hb y=>(A.gw.old b hb).mp y,A.gw.trans w A.fr.size,x⟩
theorem Hs.no(A:Hs h F r e hh F' T')(f:Fr No hh h'):Hs h F r e h' F' T':=A.call (f.mono λ_ _ y=>y.elim) (Gw.refl f.size λb hb=>A.x.lt hb) (A.x.no f)
theorem Hs.own(A:Hs h F r e hh F' T'){b:Nat}{cs:LV}(d:rW b hh h' cs)(hb:h.size<=b)(hF:¬ F' b):Hs h F r e h' F' T':=by
 have z:=d.size;exact⟨A.fr.did d λy=>by omega,⟨A.gw.old,λx hx=>by rw[z];exact A.gw.lt x hx⟩,A.x.fr d.fr λx hx y=>hF (y▸hx)⟩
theorem Hs.out(A:Hs h F r e hh F' T'){k:HP}(hK:∀ h' F',Fr F h h'->Gw h F h' F'->jc h' F' r e T'->k h'):k hh:=hK hh F' A.fr A.gw A.x
end
structure Tr(h:ad)(hh:ad)(F':NP)(qb qo c:Nat)(b:cL):Prop where
 s:Sl hh 1 (some ⟨qb,qo,none⟩) 128 c (ints (bI b)) (dG h.size)
 nf:¬F' qb
section
variable{h hh h' : ad}{F' vu : Nat -> Prop}{qb qo c : Nat}{b : cL}
theorem Tr.lo(t:Tr h hh F' qb qo c b):h.size<=qb:=t.s.2.2.1
theorem Tr.lt(t:Tr h hh F' qb qo c b):qb<hh.size:=t.s.lt
theorem Tr.call(t:Tr h hh F' qb qo c b)(f:Fr F' hh h')(w:Gw hh F' h' vu):Tr h h' vu qb qo c b:=by
 obtain⟨s0,s1,s2,s3,s4,s5,s6⟩:=t.s;obtain⟨a1,a2,a3,a4⟩:=KU f w t.lt t.nf;refine⟨⟨s0,s1,s2,a4 s3,s4,?_,?_⟩,a2⟩
 ·show((rd h' qb).drop qo).take _=_;rw[a1];exact s5
 ·show qo+c*1<=(rd h' qb).length;rw[a1];exact s6
theorem Tr.no(t:Tr h hh F' qb qo c b)(f:Fr No hh h'):Tr h h' F' qb qo c b:=⟨t.s.fr f λ_ _ _ y=>y,t.nf⟩
theorem Tr.get(t:Tr h hh F' qb qo c b){j:Nat}(hj:j<128):cellOf hh (Addr.add ⟨qb,qo,none⟩ j)=some (vI (cN b j:Nat)):=by
 obtain⟨p,ep,cp⟩:=gn t.s.cells (i:=j) (by rw[bM];exact hj)
 cases ep
 rw[dZ]at cp;exact cp
theorem Tr.put(t:Tr h hh F' qb qo c b){j v:Nat}(hj:j<128)(hv:v<4294967296)(hb:b.length=512){k:HP}(H:∀ h' cs,rW qb hh h' cs->Tr h h' F' qb qo c (kH b j v)->k h'):aO (Addr.add ⟨qb,qo,none⟩ j) (vI (v:Int)) hh k:=by
 obtain⟨w,l⟩:=t.s.wr;refine aO.add w (by omega) λh' d=>?_;have s2:=t.s.putAt (new:=[vI (v:Int)]) (j:=j) (by show j+1<=128*1;omega) d;have e:Hp.put (ints (bI b)) j [vI (v:Int)]=ints (bI (kH b j v)):=by rw[KQ hb hj hv];exact ints_set
 rw[e]at s2;exact H h' _ d ⟨s2,t.nf⟩
end
theorem Ex(T:TM)(g:G)(v:Int):(eO T g v).1.aK=T.aK:=by
 unfold Bm.eO
 split
 ·rfl
 ·unfold Spc.mj
  split
  ·rfl
  ·split
   ·rfl
   ·split
    ·rfl
    ·exact(kz (Ext.refl _)).aK
theorem uf{T:TM}{n:Nat}{v:Int}(x:jc h F r e T)(d:uO n)(hN:98<=T.N)(hu:T.ar.length<900000000)(hv:v≠0)
  (hK:∀h' F',Fr F h h'->Gw h F h' F'->jc h' F' r e (eO T (ai n) v).1->K (vI (eO T (ai n) v).2) h'):C.iG r (ai n).v v h K:=by
 refine iG.ok (az.intro λh2 n2=>⟨_,rfl,ah n2.rd,iM λh3 f3=>⟨_,rfl,?_⟩⟩);have z2:=n2.size;have A3:Hs h F r e h3 F T:=Hs.start x (n2.fr.no f3);rw[if_neg hv];refine cn (λdp=>?_) λhe=>⟨_,rfl,ah ((f3.r0).trans n2.rd),tV A3.x d hN hu λh4 F4 f4 g4 x4=>⟨_,rfl,?_⟩⟩
 ·have e1:eO T (ai n) v=(T,bT (ai n) v):=by unfold Bm.eO;rw[if_pos dp]
  rw[e1]at hK;exact A3.out hK
 ·have e1:eO T (ai n) v=Spc.mj T (ai n) v:=by unfold Bm.eO;rw[if_neg (λy=>y he)]
  rw[e1]at hK;exact(A3.call f4 g4 x4).out hK
def sD(b:cL):Bool:=(List.range 128).any λi=>decide (cN b i≠0)
theorem Bc{b:cL}:sD b=true↔∃i,i<128/\cN b i≠0:=by
 unfold sD;rw[List.any_eq_true]
 constructor
 ·rintro⟨i,hi,h⟩;exact⟨i,List.mem_range.mp hi,of_decide_eq_true h⟩
 ·rintro⟨i,hi,h⟩;exact⟨i,List.mem_range.mpr hi,decide_eq_true h⟩
theorem xf{b:cL}(t:Tr h0 h F qb qo c b)(hK:K (.bool (sD b)) h):C.jN (some ⟨qb,qo,none⟩) 128 c h K:=by
 refine jN.ok ⟨λi hh=>∃j:Nat,i=j/\j<=128/\hh=h/\∀x,x<j->cN b x=0,λi _=>((128:Int)-i).toNat,⟨0,rfl,nZ0,rfl,λx hx=>absurd hx (Nat.not_lt_zero _)⟩,?_⟩;rintro i hh ⟨j,ei,hj,rfl,hz⟩;have Xh:(((128:Nat):Int))=128:=rfl;refine cd (λbK=>?_) λbK=>?_
 ·have k7:j<128:=by omega
  have Qd:i.toNat=j:=by omega
  refine⟨by omega,os ⟨_,by rw[Qd];exact t.get k7,cn (λdp=>?_) λh0=>?_⟩⟩
  ·have:sD b=true:=Bc.mpr ⟨j,k7,by omega⟩;rw[this]at hK;exact hK
  ·rw[wrap_i64 (by omega) (by omega)];refine⟨⟨j+1,by omega,by omega,rfl,λx hx=>?_⟩,by show((128:Int)-(i+1)).toNat<((128:Int)-i).toNat;omega⟩
   by_cases e:x=j
   ·rw[e];omega
   ·exact hz x (by omega)
 ·have:sD b=false:=by
   cases hl:sD b with
   | false=>rfl
   | true=>
    obtain⟨x,hx,dp⟩:=Bc.mp hl;exact absurd (hz x (by omega)) dp
  rw[this]at hK;exact hK
def vj(C:TM×Bool×Int):Bool:=decide (C.2.2=0) && !C.2.1
theorem BU{T:TM}{n:Nat}{b:cL}{ch:Bool}(x:jc h F r e T)(d:uO n)(hN:98<=T.N)(hu:T.ar.length<900000000)(t:Tr h0 h F qb qo c b)(hb:b.length=512)
  (hK:∀h' F',Fr F h h'->Gw h F h' F'->jc h' F' r e (iV (ai n) tab (⟨T,b,sD b,ch⟩,0)).1->K (.tuple #[.bool (vj (iV (ai n) tab (⟨T,b,sD b,ch⟩,0))),vI (iV (ai n) tab (⟨T,b,sD b,ch⟩,0)).2.2]) h') :
  C.gi r (ai n).v tab (some ⟨qb,qo,none⟩) 128 c ch h K:=by
 refine gi.ok (az.intro λh2 n2=>xf (t.no n2.fr) ⟨_,rfl,?_⟩);have A2:Hs h F r e h2 F T:=Hs.start x n2.fr;have t2:=t.no n2.fr
 cases hl:sD b with
 | false=>
  have e1:iV (ai n) tab (⟨T,b,sD b,ch⟩,0)=((Spc.mj T (ai n) tab).1,false,(Spc.mj T (ai n) tab).2):=by unfold Bm.iV;rw[hl];rfl
  rw[e1]at hK;refine ct rfl ⟨_,rfl,ah n2.rd,tV A2.x d hN hu λh4 F4 f4 g4 x4=>⟨_,rfl,?_⟩⟩;have:=(A2.call f4 g4 x4).out hK
  have eg:vj ((Spc.mj T (ai n) tab).1,false,(Spc.mj T (ai n) tab).2)=((Spc.mj T (ai n) tab).2==0):=by
   unfold vj;rw[Bool.not_false,Bool.and_true];exact Bool.eq_iff_iff.mpr (by rw[decide_eq_true_eq,beq_iff_eq])
  rw[eg]at this;exact this
 | true=>
  refine cf rfl ?_
  cases ch with
  | false=>
   have e1:iV (ai n) tab (⟨T,b,sD b,false⟩,0)=(T,true,0):=(by unfold Bm.iV;rw[hl];rfl);rw[e1]at hK;exact cf rfl (A2.out hK)
  | true=>
   have e1:iV (ai n) tab (⟨T,b,sD b,true⟩,0)=((T.write tab b).1,true,(T.write tab b).2):=(by unfold Bm.iV;rw[hl];rfl);rw[e1]at hK;refine ct rfl ?_
   have hB:=fun {K'} hK'=>Eu (a:=some ⟨qb,qo,none⟩) (c:=c) (l:=bI b) (h:=h2) (K:=K') t2.s.cells (by rw[bM];decide) (λv hv=>by
    unfold Bm.bI at hv;obtain⟨i,_,rfl⟩:=List.mem_map.mp hv
    exact Int.natCast_nonneg _) hK'
   rw[bM,Ha hb]at hB;refine hB λa5 c5 h5 f5 s5=>⟨_,_,_,rfl,?_⟩;have A5:=A2.no f5;refine Rx.eF A5.x hN s5.str (by omega) λh6 F6 f6 g6 x6=>⟨_,rfl,?_⟩;have:=(A5.call f6 g6 x6).out hK;have eg:vj ((T.write tab b).1,true,(T.write tab b).2)=false:=(by unfold vj;rw[Bool.not_true,Bool.and_false]);rw[eg]at this;exact this
structure Cj(dM:lQ)(from_:Int)(b0:cL)(T0:TM)(j:Nat)(S:qm):Prop where
 eq:gJ dM from_ (bI b0) 0 ⟨T0,b0,false,false⟩=gJ dM from_ ((bI b0).drop j) j S
 len:S.b.length=512
 hi:∀i,j<=i->i<128->cN S.b i=cN b0 i
 lf:S.left=true↔∃i,i<j/\cN S.b i≠0
theorem Cj.step{dM:lQ}{b0:cL}{T0:TM}{S:qm}(C:Cj dM from_ b0 T0 j S)(hj:j<128):gJ dM from_ (bI b0) 0 ⟨T0,b0,false,false⟩ =
  if((cN S.b j:Nat):Int)=0 then gJ dM from_ ((bI b0).drop (j+1)) (j+1) S else if(j:Int)<from_ then gJ dM from_ ((bI b0).drop (j+1)) (j+1) { S with left:=true } else
   if(dM S.T j (cN S.b j:Nat)).2.2≠0 then({ S with T:=(dM S.T j (cN S.b j:Nat)).1 },(dM S.T j (cN S.b j:Nat)).2.2)else
   gJ dM from_ ((bI b0).drop (j+1)) (j+1) ⟨(dM S.T j (cN S.b j:Nat)).1,if(dM S.T j (cN S.b j:Nat)).2.1=true then kH S.b j 0 else S.b,S.left || !(dM S.T j (cN S.b j:Nat)).2.1,S.gq || (dM S.T j (cN S.b j:Nat)).2.1⟩:=by
 rw[C.eq,List.drop_eq_getElem_cons (by rw[bM];exact hj),dZ,<-C.hi j nL0 hj]
 conv=>lhs;unfold Bm.gJ
theorem Cj.zero{dM:lQ}{b0:cL}{T0:TM}{S:qm}(C:Cj dM from_ b0 T0 j S)(hj:j<128)(h0:cN S.b j=0):Cj dM from_ b0 T0 (j+1) S:=by
 refine⟨by rw[C.step hj,if_pos (by omega)],C.len,λi h1 h2=>C.hi i (by omega) h2,C.lf.trans ⟨λ⟨i,h1,h2⟩=>⟨i,by omega,h2⟩,λ⟨i,h1,h2⟩=>⟨i,?_,h2⟩⟩⟩
 by_cases e:i=j
 ·rw[e]at h2;exact absurd h0 h2
 ·omega
theorem Cj.skip{dM:lQ}{b0:cL}{T0:TM}{S:qm}(C:Cj dM from_ b0 T0 j S)(hj:j<128)(h0:cN S.b j≠0)(hf:(j:Int)<from_):Cj dM from_ b0 T0 (j+1) { S with left:=true }:=
 ⟨by rw[C.step hj,if_neg (by omega),if_pos hf],C.len,λi h1 h2=>C.hi i (by omega) h2,λ_=>⟨j,by omega,h0⟩,λ_=>rfl⟩
theorem Cj.bad{dM:lQ}{b0:cL}{T0:TM}{S:qm}(C:Cj dM from_ b0 T0 j S)(hj:j<128)(h0:cN S.b j≠0)(hf:¬ (j:Int)<from_)(he:(dM S.T j (cN S.b j:Nat)).2.2≠0) :
  gJ dM from_ (bI b0) 0 ⟨T0,b0,false,false⟩=({ S with T:=(dM S.T j (cN S.b j:Nat)).1 },(dM S.T j (cN S.b j:Nat)).2.2):=by rw[C.step hj,if_neg (by omega),if_neg hf,if_pos he]
theorem Cj.drop{dM:lQ}{b0:cL}{T0:TM}{S:qm}(C:Cj dM from_ b0 T0 j S)(hj:j<128)(h0:cN S.b j≠0)(hf:¬ (j:Int)<from_)(he:(dM S.T j (cN S.b j:Nat)).2.2=0) :
  Cj dM from_ b0 T0 (j+1) ⟨(dM S.T j (cN S.b j:Nat)).1,if(dM S.T j (cN S.b j:Nat)).2.1=true then kH S.b j 0 else S.b,S.left || !(dM S.T j (cN S.b j:Nat)).2.1,S.gq || (dM S.T j (cN S.b j:Nat)).2.1⟩:=by
 have ns:=λi (hi:i<128)=>qK (b:=S.b) (o:=j) (q:=i) (v:=0) C.len hj hi (by decide);refine⟨by rw[C.step hj,if_neg (by omega),if_neg hf,if_neg (λy=>y he)],?_,λi h1 h2=>?_,?_⟩
 ·show(if _ then kH S.b j 0 else S.b).length=512
  split
  ·exact kg C.len hj
  ·exact C.len
 ·show cN (if _ then kH S.b j 0 else S.b) i=_
  split
  ·rw[ns i h2,if_neg (by omega)];exact C.hi i (by omega) h2
  ·exact C.hi i (by omega) h2
 ·show(S.left || !(dM S.T j (cN S.b j:Nat)).2.1)=true↔∃i,i<j+1/\cN (if(dM S.T j (cN S.b j:Nat)).2.1=true then kH S.b j 0 else S.b) i≠0
  cases hg:(dM S.T j (cN S.b j:Nat)).2.1 with
  | true=>
   rw[if_pos rfl,Bool.not_true,Bool.or_false,C.lf]
   constructor
   ·rintro⟨i,h1,h2⟩;exact⟨i,by omega,by rw[ns i (by omega),if_neg (by omega)];exact h2⟩
   ·rintro⟨i,h1,h2⟩;rw[ns i (by omega)]at h2
    by_cases e:i=j
    ·rw[if_pos e]at h2;exact absurd rfl h2
    ·rw[if_neg e]at h2;exact⟨i,by omega,h2⟩
  | false=>
   rw[if_neg (by simp),Bool.not_false,Bool.or_true];exact⟨λ_=>⟨j,by omega,h0⟩,λ_=>rfl⟩
theorem Cj.end_{dM:lQ}{b0:cL}{T0:TM}{S:qm}(C:Cj dM from_ b0 T0 128 S):gJ dM from_ (bI b0) 0 ⟨T0,b0,false,false⟩=(S,0)/\S.left=sD S.b:=by
 refine⟨?_,Bool.eq_iff_iff.mpr (C.lf.trans Bc.symm)⟩;rw[C.eq,List.drop_eq_nil_of_le (by rw[bM];exact nL0)];rfl
theorem Cj.Eb(dM:lQ)(from_:Int){b0:cL}(T0:TM)(hb:b0.length=512):∀j:Nat,j<=128->(j:Int)<=(if(0:Int)>from_ then 0 else from_)->∃L,Cj dM from_ b0 T0 j ⟨T0,b0,L,false⟩
 | 0,_,_=>⟨false,rfl,hb,λ_ _ _=>rfl,⟨λy=>(by cases y),λ⟨i,h,_⟩=>absurd h (Nat.not_lt_zero _)⟩⟩
 | j+1,h1,h2=>by
  obtain⟨L,C⟩:=Cj.Eb dM from_ T0 hb j (by omega) (by omega)
  by_cases h0:cN b0 j=0
  ·exact⟨L,C.zero (by omega) h0⟩
  ·refine⟨true,C.skip (by omega) h0 ?_⟩
   split at h2 <;> omega
theorem Be{T:TM}{b:Bool}{e:Int}(h:e≠0):vj (T,b,e)=false:=by
 unfold vj;rw[decide_eq_false h];rfl
theorem Tr.of{b:cL}(s:Sl hh 1 a 128 c (ints (bI b)) (dG h.size))(hx:h0.size<=h.size)(hF:∀ x,F' x->x<h.size):∃qb qo,a=some ⟨qb,qo,none⟩/\Tr h0 hh F' qb qo c b:=by
 cases a with
 | none=>exact absurd s.2.1 (by decide)
 | some p=>
  obtain⟨qb,qo,sp⟩:=p;have DX:sp=none:=s.2.1;subst DX;have lo:h.size<=qb:=s.2.2.1;exact⟨qb,qo,rfl,s.mono λx y=>Nat.le_trans hx y,λy=>by have:=hF _ y;omega⟩
structure Ke(hh:ad)(F':NP)(gb:Nat)(vs:LV):Prop where
 rd:rd hh gb=vs
 nf:¬F' gb
 lt:gb<hh.size
section
variable{h hh h' : ad}{F F' vu : Nat -> Prop}{gb : Nat}{vs : LV}
theorem Ke.call(k:Ke hh F' gb vs)(f:Fr F' hh h')(w:Gw hh F' h' vu):Ke h' vu gb vs:=by
 obtain⟨a1,a2,a3,a4⟩:=KU f w k.lt k.nf;exact⟨a1.trans k.rd,a2,a3⟩
theorem Ke.no(k:Ke hh F' gb vs)(f:Fr No hh h'):Ke h' F' gb vs:=⟨(f.rd k.lt λy=>y).trans k.rd,k.nf,Nat.lt_of_lt_of_le k.lt f.size⟩
theorem Ke.did(k:Ke hh F' gb vs){b:Nat}{cs:LV}(d:rW b hh h' cs)(h:b≠gb):Ke h' F' gb vs:=⟨(d.at_ k.lt λy=>h y.symm).trans k.rd,k.nf,by rw[d.size];exact k.lt⟩
end
theorem Ey{g:G}{S:qm}{e:Int}(h:e≠0):iV g tab (S,e)=(S.T,false,e):=by unfold Bm.iV;rw[if_pos h]
theorem qm.eta{S:qm}{L:Bool}(h:S.left=L):S=⟨S.T,S.b,L,S.gq⟩:=by cases S;cases h;rfl
theorem Ez{T:TM}{n:Nat}(x:jc h F r e T)(d:uO n)(hN:98<=T.N)(hu:T.ar.length<890000000)(h0:tab≠0)(hf:from_<=128)
  (hK:∀h' F',Fr F h h'->Gw h F h' F'->jc h' F' r e (mn (kj (ai n)) T (ai n) tab from_).1->K (.tuple #[.bool (vj (mn (kj (ai n)) T (ai n) tab from_)),vI (mn (kj (ai n)) T (ai n) tab from_).2.2]) h') :
  C.gS r (ai n).v tab from_ h K:=by
 refine gS.ok (az.intro λh2 n2=>⟨_,rfl,ah n2.rd,iM λh3 f3=>⟨_,rfl,?_⟩⟩);have z2:=n2.size;have z3:=f3.size;have A3:Hs h F r e h3 F T:=Hs.start x (n2.fr.no f3);have k3:Ke h3 F h.size (ai n).v:=⟨(f3.r0).trans n2.rd,λy=>by have:=x.lt y;omega,by omega⟩;rw[if_neg h0];unfold Bm.mn at hK;refine cn (λdp=>?_) λhe=>?_
 ·rw[if_pos dp,Be dp]at hK;exact A3.out hK
 rw[if_neg (λy=>y he)]at hK;refine uk A3.x (λhr h4 f4=>⟨_,_,_,_,rfl,ct (by rw[bne_iff_ne];exact hr) ?_⟩) λhr a c h4 f4 s4=>⟨_,_,_,_,rfl,cn (λy=>absurd rfl y) λ_=>?_⟩
 ·rw[if_pos hr,Be hr]at hK;exact(A3.no f4).out hK
 rw[if_neg (λy=>y hr)]at hK;have hb:=x.Ft hr;have A4:=A3.no f4;have k4:=k3.no f4;obtain⟨qb,qo,rfl,t4⟩:=Tr.of (h0:=h2) (F':=F) s4 f3.size λb hb=>by have:=x.lt hb;omega
 generalize(T.read tab).1=b0 at hK hb t4
 obtain⟨j0,ej0,hj0,hfj0⟩:∃j0:Nat,(if(0:Int)>from_ then 0 else from_)=j0/\j0<=128/\from_<=j0:=by
  by_cases y:(0:Int)>from_
  ·rw[if_pos y];exact⟨0,rfl,by omega,by omega⟩
  ·rw[if_neg y];exact⟨from_.toNat,by omega,by omega,by omega⟩
 obtain⟨L0,C0⟩:=Cj.Eb (kj (ai n)) from_ T hb j0 hj0 (by rw[ej0];exact Int.le_refl _);rw[ej0]
 refine⟨λch i hh=>∃(j:Nat) (F':NP) (S:qm),i=j/\j<=128/\from_<=i/\S.gq=ch/\Cj (kj (ai n)) from_ b0 T j S/\Hs h F r e hh F' S.T/\Tr h2 hh F' qb qo c S.b/\Ke hh F' h.size (ai n).v/\S.T.ar.length<=T.ar.length+j/\S.T.aK=T.aK,λ_ i _=>((128:Int)-i).toNat,
  ⟨j0,F,⟨T,b0,L0,false⟩,rfl,hj0,hfj0,rfl,C0,A4,t4,k4,Nat.le_add_right _ _,rfl⟩,?_⟩
 rintro ch i h5 ⟨j,F',S,ei,hj,hfj,ec,C,A5,t5,k5,u5,d5⟩;subst ec;have UI:98<=S.T.N:=by unfold TM.N;rw[d5];exact hN
 have lo5:=t5.lo;refine cd (λbK=>?_) λbK=>?_
 rotate_left
 ·have Xh:j=128:=by omega
  subst Xh;obtain⟨e1,e2⟩:=C.end_;have e3:=qm.eta e2;rw[e1,e3]at hK;exact⟨_,rfl,ah k5.rd,BU A5.x d UI (by omega) t5 C.len λh6 F6 f6 g6 x6=>⟨_,_,rfl,(A5.call f6 g6 x6).out hK⟩⟩
 have k7:j<128:=by omega
 have ew:wI (i+1)=((j+1:Nat):Int):=by rw[wrap_i64 (by omega) (by omega)];omega
 have ID:((128:Int)-((j+1:Nat):Int)).toNat<((128:Int)-i).toNat:=by omega
 have Qd:i.toNat=j:=by omega
 rw[Qd,ew];refine⟨by omega,os ⟨_,t5.get k7,ce (λhz=>?_) λhz=>?_⟩⟩
 ·exact⟨⟨j+1,F',S,rfl,by omega,by omega,rfl,C.zero k7 (by omega),A5,t5,k5,by omega,d5⟩,ID⟩
 have Uo:cN S.b j≠0:=by omega
 have T6:¬(j:Int)<from_:=by omega
 refine⟨_,rfl,ah k5.rd,by omega,os ⟨_,t5.get k7,uf A5.x d UI (by omega) hz λh6 F6 f6 g6 x6=>⟨_,rfl,?_⟩⟩⟩;have A6:=A5.call f6 g6 x6;have t6:=t5.call f6 g6;have k6:=k5.call f6 g6;refine cn (λdp=>?_) λXF=>?_
 ·have e1:=C.bad k7 Uo T6 dp;have e2:iV (ai n) tab (gJ (kj (ai n)) from_ (bI b0) 0 ⟨T,b0,false,false⟩)=((eO S.T (ai n) (cN S.b j:Nat)).1,false,(eO S.T (ai n) (cN S.b j:Nat)).2):=by rw[e1];exact Ey dp
  rw[e2,Be dp]at hK;exact A6.out hK
 ·have C':=C.drop k7 Uo T6 XF;rw[show kj (ai n) S.T j (cN S.b j:Nat)=((eO S.T (ai n) (cN S.b j:Nat)).1,true,(eO S.T (ai n) (cN S.b j:Nat)).2) from rfl,if_pos rfl,Bool.not_true,Bool.or_false,Bool.or_true]at C';have gu:=qN S.T (ai n) (cN S.b j:Nat);have gd:=Ex S.T (ai n) (cN S.b j:Nat);exact⟨by omega,os (t6.put (v:=0) k7 (by decide) C.len λh7 cs d7 t7=>⟨⟨j+1,F6,_,rfl,by omega,by omega,rfl,C',A6.own d7 (by omega) t6.nf,t7,k6.did d7 (by omega),by show(eO S.T (ai n) (cN S.b j:Nat)).1.ar.length<=_;omega,gd.trans d5⟩,ID⟩)⟩
end Ry
namespace Ry
open Hp W Ad Tm Spc Re Av Rx
open Hd (ints gn)
open In (af aA)
open Bm (bT bU eV fL kS tZ)
theorem T7{T:TM}{n:Nat}(x:jc h F r e T)(d:uO n)(hN:98<=T.N)(hR:R.length=15)(hk:k<16522)(hu:T.ar.length<700000000)
  (hK:∀h' F',Fr F h h'->Gw h F h' F'->jc h' F' r e (bU (ai n) (eV k) T R 0).1.1->K (.tuple #[.agg ⟨ints (bU (ai n) (eV k) T R 0).1.2⟩,vI (bU (ai n) (eV k) T R 0).2.1,vI (bU (ai n) (eV k) T R 0).2.2]) h') :
  C.fe r (ai n).v (ints R) k h K:=by
 have kY:=λb (hb:F b)=>x.lt hb;refine fe.ok (az.intro λh2 n2=>az.intro λh3 n3=>az.intro λh4 n4=>?_);have z2:=n2.size;have z3:=n3.size;have z4:=n4.size;have F4:Fr No h h4:=(n2.fr.new n3).new n4;rw[TY d]at hK;refine BS hk λpa pc h5 f5 sp lp=>⟨_,_,_,_,rfl,?_⟩;have z5:=f5.size
 have A5:Aw h F r e (ai n) h.size h2.size h3.size pa (n' k) h5 F T R:=⟨(F4.no f5).mono λ_ _ y=>y.elim,Gw.refl (F4.no f5).size kY,x.no (F4.no f5),(f5.r0).trans ((n4.at_).trans ((n3.at_).trans n2.rd)),(f5.r0).trans ((n4.at_).trans n3.rd),f5.own (by omega) (λy=>y) (n4.ow n3.own),f5.own (by omega) (λy=>y) n4.own,
  by rw[f5.rd (by omega) λy=>y,n4.rd];rfl,sp,λp ep=>(lp p ep).2,⟨λy=>by have:=kY _ y;omega,λy=>by have:=kY _ y;omega,λy=>by have:=kY _ y;omega,λp ep y=>by have:=kY _ y;have:=(lp p ep).1;omega⟩,⟨by omega,by omega,by omega,λp ep=>by have:=(lp p ep).1;omega⟩,by omega,hR⟩
 refine⟨ints R,by rw[af,hR],ah A5.rx,mU hR (IB k) λh6 f6=>⟨_,rfl,?_⟩⟩;have A6:=A5.no f6;refine⟨_,rfl,ah A6.rg,iM λh7 f7=>⟨_,rfl,?_⟩⟩;have A7:=A6.no f7;have tlt:=OK hk;have tle:=KR k;generalize qR R (jS k)=nn at hK ⊢
 by_cases h0:nn=0
 ·rw[if_neg (λy=>y h0)]at hK;refine cn (λy=>absurd (if_pos h0) y) λ_=>ct (by rw[beq_iff_eq];exact h0) ⟨_,rfl,ah A7.rg,?_⟩;have tu:=tZ T (ai n);refine xh A7.x d hN (by omega) λh9 F9 f9 g9 x9=>⟨_,_,rfl,?_⟩;have A9:=A7.call f9 g9 x9;refine cn (λdp=>?_) λXg=>?_
  ·rw[if_pos dp]at hK;exact A9.fin (f:=λcs=>.tuple #[.agg ⟨cs⟩,vI 0,vI (aP T (ai n)).2.2]) λh'=>hK h' F9
  rw[if_neg (λy=>y Xg)]at hK;refine⟨ints R,by rw[af,hR],ah A9.rx,Qc hR (IB k) λbQ f11=>⟨_,rfl,?_⟩⟩;have A11:=A9.no f11;have MW:(zV R (jS k) (aP T (ai n)).2.1).length=15:=by rw[KV,hR]
  refine ax.intro A11.ox (by rw[af,MW]) (aA _) (by rw[A11.rx,af,hR];decide) λcG d12=>?_;exact T5 d (A11.ae0 MW d12) (by unfold TM.N;rw[Ew];exact hN) (by omega) tlt tle hK
 ·rw[if_pos h0]at hK;rw[if_neg h0];refine cn (λdp=>?_) λXg=>cf (by rw[beq_eq_false_iff_ne];exact h0) ?_
  ·rw[if_pos dp]at hK;exact A7.fin (f:=λcs=>.tuple #[.agg ⟨cs⟩,vI 0,vI (bT (ai n) nn)]) λh'=>hK h' F
  ·rw[if_neg (λy=>y Xg)]at hK;exact T5 d A7 hN (by omega) tlt tle hK
theorem Hf{T T':TM}(h:T'.over=T.over):(T'.back T.mark.1).1=(T'.back T.ar.length).1:=by
 cases e:T.over with
 | false=>rw[Oi e]
 | true=>
  have:T'.over=true:=h.trans e;unfold TM.back;rw[if_pos this,if_pos this]
theorem Nc(g:G):∀(l:List (Nat×Nat)) (T0 T:TM) (R:List Int) (a:Int),T.over=T0.over->(bU g l T R a).1.1.over=T0.over:=by
 intro l
 induction l with
 | nil=>intro T0 T R a h;exact h
 | cons s r ih=>
  intro T0 T R a h
  have tk:∀T',T'.over=T0.over->(aP T' g).1.over=T0.over:=λT' h'=>by
   unfold aP
   split
   ·unfold jP
    split
    ·exact h'
    ·split
     ·exact h'
     ·exact(((Ext.refl _).write _ _).over.trans (kz (Ext.refl _)).over).trans h'
   ·exact h'
  have st:∀T' b v,T'.over=T0.over->(Bm.nK T' R s a b v).1.1.over=T0.over:=λT' b v h'=>by
   unfold Bm.nK
   split
   ·exact h'
   ·split
    ·exact h'
    ·split
     ·exact h'
     ·exact((Ext.refl T').write _ _).over.trans h'
  unfold Bm.bU
  split
  ·exact h
  ·split
   ·split
    ·exact h
    ·exact ih _ _ _ _ h
   ·split
    ·exact tk _ h
    ·split
     ·exact st _ _ _ (tk _ h)
     ·split
      ·exact st _ _ _ (tk _ h)
      ·split
       ·exact st _ _ _ (tk _ h)
       ·exact ih _ _ _ _ (st _ _ _ (tk _ h))
theorem Ej{T:TM}{n:Nat}{k:Int}(x:jc h F r e T)(d:uO n)(hN:98<=T.N)(hR:R.length=15)(hu:T.ar.length<700000000)
  (hK:∀h' F',Fr F h h'->Gw h F h' F'->jc h' F' r e (fL T (ai n) R k).1->K (.tuple #[.agg ⟨ints (fL T (ai n) R k).2.1⟩,vI (fL T (ai n) R k).2.2.1,vI (fL T (ai n) R k).2.2.2]) h') :
  C.gB r (ai n).v (ints R) k h K:=by
 have kY:=λb (hb:F b)=>x.lt hb;refine gB.ok (az.intro λh2 n2=>az.intro λh3 n3=>az.intro λh4 n4=>?_);have z2:=n2.size;have z3:=n3.size;have z4:=n4.size;have F4:Fr No h h4:=(n2.fr.new n3).new n4;have l4:(rd h4 h3.size).length=15:=by rw[n4.rd];rfl
 have GV:k<0∨k>=16522->ax (bA h3) gv 15 h4 λh5=>
   ∃bL:LV,List.length bL=15/\aj h5 (bA h3) bL/\K (.tuple #[.agg ⟨bL⟩,vI 0,vI 101]) h5:=λy=>by
  have e1:fL T (ai n) R k=(T,kS,0,101):=by unfold Bm.fL;rw[if_pos y]
  rw[e1]at hK;refine ax.intro n4.own rfl (aA kS) (by rw[l4];decide) λh5 d5=>⟨ints kS,rfl,ah (by rw[d5.rd];exact dC _ _ (by rw[l4];rfl)),?_⟩;have f5:Fr No h h5:=F4.did d5 λy=>by omega
  exact hK h5 F (f5.mono λ_ _ y=>y.elim) (Gw.refl f5.size kY) (x.no f5)
 refine cd (λy=>GV (.inl y)) λy0=>cd (λy=>GV (.inr y)) λy1=>?_;obtain⟨k,rfl⟩:∃m:Nat,k=m:=⟨k.toNat,by omega⟩;have hk:k<16522:=by omega
 have e1:fL T (ai n) R k=if(bU (ai n) (eV k) T R 0).2.2≠0 then(((bU (ai n) (eV k) T R 0).1.1.back T.ar.length).1,kS,0,(bU (ai n) (eV k) T R 0).2.2)else((bU (ai n) (eV k) T R 0).1.1,(bU (ai n) (eV k) T R 0).1.2,(bU (ai n) (eV k) T R 0).2.1,0):=by
  unfold Bm.fL;rw[if_neg (by omega),tN0]
 rw[e1]at hK;have ov:=Nc (ai n) (eV k) T T R 0 rfl;have lR:(bU (ai n) (eV k) T R 0).1.2.length=15:=by rw[Fi.uj,hR]
 unfold gB.k1;have rg4:rd h4 h.size=(ai n).v:=(n4.at_).trans ((n3.at_).trans n2.rd);have rx4:rd h4 h2.size=ints R:=(n4.at_).trans n3.rd;refine Rx.ng (x.no F4) ⟨_,_,rfl,_,rfl,ah rg4,ints R,by rw[af,hR],ah rx4,T7 (x.no F4) d hN hR hk hu λh9 F9 f9 g9 x9=>⟨_,_,_,rfl,?_⟩⟩;have z9:=f9.size;generalize bU (ai n) (eV k) T R 0=W at hK ov lR x9 ⊢;obtain⟨⟨T',R'⟩,v,er⟩:=W;have hF3:¬F h3.size:=λy=>by have:=kY _ y;omega
 refine aM.intro (by rw[af];exact lR) (aA _) rfl λbQ n11=>?_;have Pz:=n11.size;have o11:dJ bQ h3.size:=n11.ow (f9.own (by omega) hF3 n4.own);have l11:(rd bQ h3.size).length=15:=by rw[n11.at_,f9.rd (by omega) hF3];exact l4
 have J4:Fr F h bQ:=(((F4.mono λ_ _ y=>y.elim).trans f9 λ_ _ y=>y)).new n11;have Td:Gw h F bQ F9:=⟨λb hb=>(g9.old b (by omega)),λb hb=>by have:=g9.lt b hb;omega⟩;have Xi:¬F9 h3.size:=λy=>hF3 ((g9.old _ (by omega)).mp y);refine cn (λdp=>?_) λhe=>?_
 ·have aaX:er≠0:=dp;rw[if_pos aaX]at hK;refine Rx.nh (x9.no n11.fr) λcG Ae f12 g12 Ll=>⟨_,rfl,?_⟩;rw[Hf ov]at Ll;have z12:=f12.size;have WL:(rd cG h3.size).length=15:=by rw[f12.rd (by omega) Xi];exact l11
  refine ax.intro (f12.own (by omega) Xi o11) rfl (aA kS) (by rw[WL];decide) λcg d13=>⟨ints kS,rfl,ah (by rw[d13.rd];exact dC _ _ (by rw[WL];rfl)),?_⟩;have V8:=d13.size;have aaY:Fr F h cG:=J4.trans f12 λb hb y=>(Td.old b hb).mp y;have G12:=Td.trans g12 (by omega);have aaZ:¬Ae h3.size:=λy=>Xi ((g12.old _ (by omega)).mp y);exact hK cg Ae (aaY.did d13 λy=>by omega) ⟨G12.old,λb hb=>by rw[V8];exact G12.lt b hb⟩ (Ll.fr d13.fr λb hb y=>aaZ (y▸hb))
 ·have Θ:er=0:=he;rw[if_neg (λy=>y Θ)]at hK;refine⟨ints R',by rw[af];exact lR,ah n11.rd,ax.intro o11 (by rw[af];exact lR) (aA _) (by rw[l11];decide) λcM d14=>⟨ints R',by rw[af];exact lR,ah (by rw[d14.rd];exact dC _ _ (by rw[l11,af];exact lR)),?_⟩⟩;have Sg:=d14.size;exact hK cM F9 (J4.did d14 λy=>by omega) ⟨Td.old,λb hb=>by rw[Sg];exact Td.lt b hb⟩ ((x9.no n11.fr).fr d14.fr λb hb y=>Xi (y▸hb))
end Ry
namespace Ry
open Hp W Ad Tm Spc Re Av Rx
open Hd (ints gn bW)
open In (af aA)
open Bm (cN kH np kg qK bI bM dZ bT eO kj yG gJ iV mn qm lQ qN zP jb sX qO fQ fI oN sH firstM mr fA kS)
section
variable{α : Type}(p : TM -> α)(g : G)(hg : ∀ T i, p (Spc.mj T g i).1 = p T)(hw : ∀ (T : TM) i b, p (T.write i b).1 = p T)
include hg
theorem IE(T:TM)(v:Int):p (eO T g v).1=p T:=by
 unfold Bm.eO
 split
 ·rfl
 ·exact hg _ _
theorem CE(T:TM)(i:Nat)(v:Int):p (kj g T i v).1=p T:=IE p g hg T v
theorem zW : ∀(l:List Nat) (T:TM) (R:List Int),p (fQ g l T R).1.1=p T
 | [],_,_=>rfl
 | i::r,T,R=>by
  unfold Bm.fQ
  split
  ·exact zW r T R
  ·split
   ·exact IE p g hg _ _
   ·exact(zW r _ _).trans (IE p g hg _ _)
omit hg in
theorem CF{dM:lQ}{f:Int}(hd:∀ T i v,p (dM T i v).1=p T):∀(l:List Int) (i:Nat) (S:qm),p (gJ dM f l i S).1.T=p S.T
 | [],_,_=>rfl
 | v::r,i,S=>by
  unfold Bm.gJ
  split
  ·exact CF hd r _ _
  ·split
   ·exact CF hd r _ _
   ·split
    ·exact hd _ _ _
    ·exact(CF hd r _ _).trans (hd _ _ _)
include hw
theorem T9(tab:Int)(C:qm×Int):p (iV g tab C).1=p C.1.T:=by
 unfold Bm.iV
 split
 ·rfl
 ·split
  ·exact hg _ _
  ·split
   ·exact hw _ _ _
   ·rfl
theorem EA{dM:lQ}(hd:∀ T i v,p (dM T i v).1=p T)(T:TM)(tab f:Int):p (mn dM T g tab f).1=p T:=by
 unfold Bm.mn
 split
 ·rfl
 ·split
  ·rfl
  ·exact(T9 p g hg hw _ _).trans (CF p hd _ _ _)
theorem aa0(first:Int)(T:TM)(i:Nat)(v:Int):p (yG g first T i v).1=p T:=EA p g hg hw (CE p g hg) _ _ _
omit hg hw in
theorem xr{C:TM×Bool×Int}:(fI i R C).1.1=C.1:=by
 unfold Bm.fI
 split <;> rfl
theorem aa1(k:Int)(T:TM)(R:List Int):p (Bm.lK g k T R).1.1=p T:=by
 have one:∀T R,p (oN g k T R).1.1=p T:=λT R=>by
  unfold Bm.oN
  split
  ·rw[xr];exact EA p g hg hw (CE p g hg) _ _ _
  ·rfl
 have two:∀T R,p (sH g k T R).1.1=p T:=λT R=>by
  unfold Bm.sH
  split
  ·rw[xr];exact EA p g hg hw (aa0 p g hg hw _) _ _ _
  ·rfl
 unfold Bm.lK
 split
 ·exact zW p g hg _ _ _
 ·split
  ·exact(one _ _).trans (zW p g hg _ _ _)
  ·exact(two _ _).trans ((one _ _).trans (zW p g hg _ _ _))
end
theorem uV(T:TM)(g:G)(i:Int):(Spc.mj T g i).1.aK=T.aK:=by
 unfold Spc.mj
 split
 ·rfl
 ·split
  ·rfl
  ·split
   ·rfl
   ·exact(kz (Ext.refl _)).aK
theorem Nd(T:TM)(g:G)(i:Int):(Spc.mj T g i).1.over=T.over:=by
 unfold Spc.mj
 split
 ·rfl
 ·split
  ·rfl
  ·split
   ·rfl
   ·exact(kz (Ext.refl _)).over
theorem Nf(T:TM)(i:Int)(bs:cL):(T.write i bs).1.over=T.over:=((Ext.refl T).write i bs).over
section
variable{h hh h' : ad}{F F' vu : Nat -> Prop}{r e : OA}{g : G}{gb xb rb : Nat}{T' OB : TM}{R' WW : List Int}
theorem Aw.at_(A:Aw h F r e g gb xb rb none [] hh F' T' R'){q:Nat}(hq:q<15):cellOf hh ⟨xb,q,none⟩=some (vI (R'.getD q 0)):=by
 rw[jX,A.rx];unfold Hd.ints;rw[lG0,List.getD_eq_getElem?_getD,List.getElem?_eq_getElem (by rw[A.len];exact hq)];rfl
theorem Aw.put(A:Aw h F r e g gb xb rb none [] hh F' T' R'){q:Nat}(hq:q<15){k:HP}(H:∀ h' cs,rW xb hh h' cs->Aw h F r e g gb xb rb none [] h' F' T' (R'.set q 0)->k h'):aO ⟨xb,q,none⟩ (vI 0) hh k:=by
 have MW:(rd hh xb).length=15:=by rw[A.rx,af,A.len]
 have:=aO.add (o:=0) (n:=q) (v:=vI 0) (k:=k) A.ox (by omega) λh' d=>H h' _ d (A.ae0 (WW:=R'.set q 0) (by rw[List.length_set];exact A.len) (by
  have e1:Hp.put (rd hh xb) (0+q) [vI 0]=Hp.put (rd hh xb) 0 (ints (R'.set q 0)):=by
   rw[A.rx,dC _ _ (by rw[af,af,List.length_set]),Nat.zero_add];exact ints_set
  rw[<-e1];exact d))
 rw[bm,Nat.zero_add]at this;exact this
end
def CG(h:ad)(F:NP)(r e:OA)(K:KT)(E:(TM×List Int)×Int):Prop:=
 ∀h' F',Fr F h h'->Gw h F h' F'->jc h' F' r e E.1.1->K (.tuple #[.agg ⟨ints E.1.2⟩,vI E.2]) h'
theorem EB{C:TM×Bool×Int}(h:C.2.2=0):vj C = !C.2.1:=by
 unfold vj;rw[decide_eq_true h,Bool.true_and]
theorem Qe(k:Int):(if(0:Int)>k-10-128 then 0 else k-10-128)=firstM k:=by
 unfold Bm.firstM
 split <;> split <;> omega
theorem aa3{fg:ad}{n:Nat}{T1:TM}{k:Int}(d:uO n)(A:Aw h F r e (ai n) h.size h2.size h3.size none [] fg F1 T1 R1)(hN:98<=T1.N)(hu:T1.ar.length<800000000)(FM:0<=k)(hk:k<16522)(h0:R1.getD 14 0≠0)
  (hK:CG h F r e K (fI 14 R1 (mn (yG (ai n) (firstM k)) T1 (ai n) (R1.getD 14 0) (firstM k/128)))):bS.k2 r k h h2 h3 fg K:=by
 unfold bS.k2;refine⟨_,rfl,ah A.rg,_,by rw[bm];exact A.at_ (by decide),iM λiY f16=>⟨_,rfl,?_⟩⟩;have A6:=A.no f16;rw[if_neg h0];unfold Bm.mn at hK;refine cn (λdp=>?_) λhe=>?_
 ·rw[if_pos dp]at hK;have e1:fI 14 R1 (T1,false,bT (ai n) (R1.getD 14 0))=((T1,R1),bT (ai n) (R1.getD 14 0)):=by unfold Bm.fI;rw[if_pos dp]
  rw[e1]at hK;exact A6.fin (f:=λcs=>.tuple #[.agg ⟨cs⟩,vI (bT (ai n) (R1.getD 14 0))]) λh'=>hK h' F1
 rw[if_neg (λy=>y he)]at hK;refine⟨_,by rw[bm];exact A6.at_ (by decide),uk A6.x (λhr ma f18=>⟨_,_,_,_,rfl,ct (by rw[bne_iff_ne];exact hr) ?_⟩) λhr a c ma f18 s18=>⟨_,_,_,_,rfl,cn (λy=>absurd rfl y) λ_=>?_⟩⟩
 ·rw[if_pos hr]at hK;have e1:fI 14 R1 (T1,false,(T1.read (R1.getD 14 0)).2)=((T1,R1),(T1.read (R1.getD 14 0)).2):=by unfold Bm.fI;rw[if_pos hr]
  rw[e1]at hK;exact(A6.no f18).fin (f:=λcs=>.tuple #[.agg ⟨cs⟩,vI (T1.read (R1.getD 14 0)).2]) λh'=>hK h' F1
 rw[if_neg (λy=>y hr)]at hK;have hb:=A6.x.Ft hr;have A8:=A6.no f18;obtain⟨qb,qo,rfl,t8⟩:=Tr.of (h0:=iY) (F':=F1) s18 nL0 λb hb=>A6.x.lt hb;have lo8:=t8.lo;have lg6:=A6.lg;have lx6:=A6.ox.lt;have lr6:=A6.Xf.lt;have lh6:=A6.fr.size;rw[wq (k-10),wq (k-10-128),Qe];have fm0:0<=firstM k:=by unfold Bm.firstM;split <;> omega
 have fm1:firstM k<16384:=by unfold Bm.firstM;split <;> omega
 generalize(T1.read (R1.getD 14 0)).1=b0 at hK hb t8;generalize firstM k=fst at hK fm0 fm1 ⊢;rw[Int.tdiv_eq_ediv_of_nonneg fm0,wq (fst/128)];obtain⟨j0,ej0,hj0⟩:∃j0:Nat,fst/128=j0/\j0<=128:=⟨(fst/128).toNat,by omega,by omega⟩;obtain⟨L0,C0⟩:=Cj.Eb (yG (ai n) fst) (fst/128) T1 hb j0 hj0 (by rw[if_neg (by omega),ej0];exact Int.le_refl _)
 refine⟨λch i hh=>∃(j:Nat) (F':NP) (S:qm),i=j/\j<=128/\fst/128<=i/\S.gq=ch/\Cj (yG (ai n) fst) (fst/128) b0 T1 j S/\Aw h F r e (ai n) h.size h2.size h3.size none [] hh F' S.T R1/\Tr iY hh F' qb qo c S.b/\S.T.ar.length<=T1.ar.length+129*j/\S.T.aK=T1.aK,λ_ i _=>((128:Int)-i).toNat,
  ⟨j0,F1,⟨T1,b0,L0,false⟩,ej0,hj0,Int.le_refl _,rfl,C0,A8,t8,Nat.le_add_right _ _,rfl⟩,?_⟩
 rintro ch i iK ⟨j,F',S,ei,hj,hfj,ec,C,A5,t5,u5,d5⟩;subst ec;have UI:98<=S.T.N:=by unfold TM.N;rw[d5];exact hN
 refine cd (λbK=>?_) λbK=>?_
 rotate_left
 ·have Xh:j=128:=by omega
  subst Xh;obtain⟨e1,e2⟩:=C.end_;have e3:=qm.eta e2;rw[e1,e3]at hK;refine⟨_,rfl,ah A5.rg,_,by rw[bm];exact A5.at_ (by decide),BU A5.x d UI (by omega) t5 C.len λh6 F6 f6 g6 x6=>⟨_,_,rfl,?_⟩⟩;have A7:=A5.call f6 g6 x6;generalize iV (ai n) (R1.getD 14 0) (⟨S.T,S.b,sD S.b,S.gq⟩,0)=E at hK A7 ⊢;unfold Bm.fI at hK
  by_cases hE:E.2.2=0
  ·rw[if_neg (λy=>y hE)]at hK;rw[EB hE,hE]
   cases hg:E.2.1 with
   | false=>
    rw[hg,if_neg (by decide)]at hK;refine ct rfl ?_;rw[bm];exact A7.put (by decide) λuH cs d25 A25=>A25.fin (f:=λcs=>.tuple #[.agg ⟨cs⟩,vI 0]) λh'=>hK h' F6
   | true=>
    rw[hg,if_pos rfl]at hK;exact cf rfl (A7.fin (f:=λcs=>.tuple #[.agg ⟨cs⟩,vI 0]) λh'=>hK h' F6)
  ·rw[if_pos hE]at hK;have eg:vj E=false:=(by unfold vj;rw[decide_eq_false hE];rfl);rw[eg];exact cf rfl (A7.fin (f:=λcs=>.tuple #[.agg ⟨cs⟩,vI E.2.2]) λh'=>hK h' F6)
 have k7:j<128:=by omega
 have ew:wI (i+1)=((j+1:Nat):Int):=by rw[wrap_i64 (by omega) (by omega)];omega
 have ID:((128:Int)-((j+1:Nat):Int)).toNat<((128:Int)-i).toNat:=by omega
 have Qd:i.toNat=j:=by omega
 rw[Qd,ew,wq (i*128),wq (fst-i*128)];refine⟨by omega,os ⟨_,t5.get k7,ce (λhz=>?_) λhz=>?_⟩⟩
 ·exact⟨⟨j+1,F',S,rfl,by omega,by omega,rfl,C.zero k7 (by omega),A5,t5,by omega,d5⟩,ID⟩
 have Uo:cN S.b j≠0:=by omega
 have T6:¬(j:Int)<fst/128:=by omega
 have et:fst-i*128=fst-128*(j:Int):=by omega
 refine⟨_,rfl,ah A5.rg,by omega,os ⟨_,t5.get k7,Ez A5.x d UI (by omega) hz (by omega) λh6 F6 f6 g6 x6=>⟨_,_,rfl,?_⟩⟩⟩;have A6':=A5.call f6 g6 x6;have t6:=t5.call f6 g6;rw[et]at A6' ⊢;have cu:=sX (dM:=kj (ai n)) (T:=S.T) (g:=ai n) (tab:=(cN S.b j:Nat)) (from_:=fst-128*(j:Int)) (qO (ai n));have cd_:=EA TM.aK (ai n) (λT i=>uV T _ i) yK (CE TM.aK (ai n) λT i=>uV T _ i) S.T (cN S.b j:Nat) (fst-128*(j:Int));have et2:yG (ai n) fst S.T j (cN S.b j:Nat)=((mn (kj (ai n)) S.T (ai n) (cN S.b j:Nat) (fst-128*(j:Int))).1,!(mn (kj (ai n)) S.T (ai n) (cN S.b j:Nat) (fst-128*(j:Int))).2.1,(mn (kj (ai n)) S.T (ai n) (cN S.b j:Nat) (fst-128*(j:Int))).2.2):=rfl;have bad:=C.bad k7 Uo T6;have drop:=C.drop k7 Uo T6;rw[et2]at bad drop;generalize mn (kj (ai n)) S.T (ai n) (cN S.b j:Nat) (fst-128*(j:Int))=E at A6' cu cd_ bad drop ⊢;refine cn (λdp=>?_) λXF=>?_
 ·rw[bad dp,Ey dp]at hK;unfold Bm.fI at hK;rw[if_pos dp]at hK;exact A6'.fin (f:=λcs=>.tuple #[.agg ⟨cs⟩,vI E.2.2]) λh'=>hK h' F6
 ·have C':=drop XF;rw[EB XF];have lx5:=A5.ox.lt
  cases hg:E.2.1 with
  | false=>
   rw[hg]at C';have C'':Cj (yG (ai n) fst) (fst/128) b0 T1 (j+1) ⟨E.1,kH S.b j 0,S.left || false,S.gq || true⟩:=C';refine ct rfl ⟨by omega,os (t6.put (v:=0) k7 (by decide) C.len λh7 cs d7 t7=>⟨⟨j+1,F6,_,rfl,by omega,by omega,Bool.or_true _,C'',A6'.own d7 (by omega) t6.nf (by omega) (by omega) (by omega) (λp ep=>by cases ep),t7,by show E.1.ar.length<=_;omega,cd_.trans d5⟩,ID⟩)⟩
  | true=>
   rw[hg]at C';have C'':Cj (yG (ai n) fst) (fst/128) b0 T1 (j+1) ⟨E.1,S.b,S.left || true,S.gq || false⟩:=C';exact cf rfl ⟨⟨j+1,F6,_,rfl,by omega,by omega,Bool.or_false _,C'',A6',t6,by show E.1.ar.length<=_;omega,cd_.trans d5⟩,ID⟩
theorem Ng{cG:ad}{n:Nat}{T1:TM}{k:Int}(d:uO n)(A:Aw h F r e (ai n) h.size h2.size h3.size none [] cG F1 T1 R1)(hN:98<=T1.N)(hu:T1.ar.length<800000000)(FM:0<=k)
  (hK:CG h F r e K (sH (ai n) k T1 R1)):bS.k1 r k h h2 h3 cG K:=by
 unfold bS.k1;unfold Bm.sH at hK;refine cd (λUp=>?_) λUp=>⟨_,by rw[bm];exact A.at_ (by decide),ce (λhz=>?_) λhz=>?_⟩
 ·rw[if_neg (by omega)]at hK;exact A.fin (f:=λcs=>.tuple #[.agg ⟨cs⟩,vI 0]) λh'=>hK h' F1
 ·rw[if_neg (λy=>y.2 hz)]at hK;exact A.fin (f:=λcs=>.tuple #[.agg ⟨cs⟩,vI 0]) λh'=>hK h' F1
 ·rw[if_pos ⟨by omega,hz⟩]at hK;exact aa3 d A hN hu FM (by omega) hz hK
theorem qF{T:TM}{n:Nat}{k:Int}(x:jc h F r e T)(d:uO n)(hN:98<=T.N)(hR:R.length=15)(FM:0<=k)(hk:k<=16522)(hu:T.ar.length<700000000)
  (hK:CG h F r e K (Bm.lK (ai n) k T R)):C.bS r (ai n).v (ints R) k h K:=by
 have kY:=λb (hb:F b)=>x.lt hb;refine bS.ok (az.intro λh2 n2=>az.intro λh3 n3=>az.intro λh4 n4=>?_);have z2:=n2.size;have z3:=n3.size;have z4:=n4.size;have F4:Fr No h h4:=(n2.fr.new n3).new n4
 have A4:Aw h F r e (ai n) h.size h2.size h3.size none [] h4 F T R:=⟨F4.mono λ_ _ y=>y.elim,Gw.refl F4.size kY,x.no F4,(n4.at_).trans ((n3.at_).trans n2.rd),(n4.at_).trans n3.rd,n4.ow n3.own,n4.own,
  by rw[n4.rd];rfl,rfl,λp ep=>by(cases ep),⟨λy=>by have:=kY _ y;omega,λy=>by have:=kY _ y;omega,λy=>by have:=kY _ y;omega,λp ep=>by(cases ep)⟩,⟨by omega,by omega,by omega,λp ep=>by(cases ep)⟩,by omega,hR⟩
 unfold Bm.lK at hK
 refine⟨λi hh=>∃(F':NP) (T':TM) (R':List Int),k<=i/\i<=16522/\Aw h F r e (ai n) h.size h2.size h3.size none [] hh F' T' R'/\T'.ar.length<=T.ar.length+i.toNat/\T'.aK=T.aK/\fQ (ai n) (List.range' i.toNat (10-i.toNat)) T' R'=fQ (ai n) (mr k) T R,λi _=>((10:Int)-i).toNat,
  ⟨F,T,R,Int.le_refl _,hk,A4,Nat.le_add_right _ _,rfl,rfl⟩,?_⟩
 rintro i h5 ⟨F',T',R',hki,hi,A5,u5,d5,eD⟩;have UI:98<=T'.N:=by unfold TM.N;rw[d5];exact hN
 rw[<-eD]at hK;refine cd (λbK=>?_) λbK=>?_
 ·have ew:wI (i+1)=i+1:=wrap_i64 (by omega) (by omega)
  have er:List.range' i.toNat (10-i.toNat)=i.toNat::List.range' (i+1).toNat (10-(i+1).toNat):=by
   have:10-i.toNat=(10-(i+1).toNat)+1:=(by omega);rw[this,List.range'_succ,show i.toNat+1=(i+1).toNat by omega]
  have st:fQ (ai n) (i.toNat::List.range' (i+1).toNat (10-(i+1).toNat)) T' R'=if R'.getD (3+i.toNat) 0=0 then fQ (ai n) (List.range' (i+1).toNat (10-(i+1).toNat)) T' R' else if(eO T' (ai n) (R'.getD (3+i.toNat) 0)).2≠0 then(((eO T' (ai n) (R'.getD (3+i.toNat) 0)).1,R'),(eO T' (ai n) (R'.getD (3+i.toNat) 0)).2)else
    fQ (ai n) (List.range' (i+1).toNat (10-(i+1).toNat)) (eO T' (ai n) (R'.getD (3+i.toNat) 0)).1 (R'.set (3+i.toNat) 0):=rfl
  rw[er,st]at hK eD;rw[ew,bm,bm,Nat.zero_add];refine⟨by omega,_,A5.at_ (by omega),ce (λhz=>?_) λhz=>?_⟩
  ·rw[if_pos hz]at eD;exact⟨⟨F',T',R',by omega,by omega,A5,by omega,d5,eD⟩,by show((10:Int)-(i+1)).toNat<((10:Int)-i).toNat;omega⟩
  rw[if_neg hz]at eD hK;refine⟨_,rfl,ah A5.rg,by omega,_,A5.at_ (by omega),uf A5.x d UI (by omega) hz λh6 F6 f6 g6 x6=>⟨_,rfl,?_⟩⟩;have A6:=A5.call f6 g6 x6;refine cn (λdp=>?_) λhe=>?_
  ·rw[if_pos dp,if_pos dp]at hK;exact A6.fin (f:=λcs=>.tuple #[.agg ⟨cs⟩,vI (eO T' (ai n) (R'.getD (3+i.toNat) 0)).2]) λh'=>hK h' F6
  ·rw[if_neg (λy=>y he)]at eD;have gu:=qN T' (ai n) (R'.getD (3+i.toNat) 0);have gd:=Ex T' (ai n) (R'.getD (3+i.toNat) 0);exact⟨by omega,A6.put (by omega) λh7 cs d7 A7=>⟨⟨F6,_,_,by omega,by omega,A7,by omega,gd.trans d5,eD⟩,by show((10:Int)-(i+1)).toNat<((10:Int)-i).toNat;omega⟩⟩
 ·have er:List.range' i.toNat (10-i.toNat)=[]:=by rw[show 10-i.toNat=0 by omega];rfl
  rw[er]at hK;have e1:fQ (ai n) [] T' R'=((T',R'),0):=rfl;rw[e1,if_neg (λy=>y rfl)]at hK
  have none_:¬(k<138/\R'.getD 13 0≠0)->bS.k1 r k h h2 h3 h5 K:=λy=>by
   have e2:oN (ai n) k T' R'=((T',R'),0):=(by unfold Bm.oN;rw[if_neg y]);rw[e2,if_neg (λy=>y rfl)]at hK;exact Ng d A5 UI (by omega) FM hK
  refine cd (λUA=>⟨_,by rw[bm];exact A5.at_ (by decide),cn (λhz=>?_) λhz=>none_ λy=>y.2 hz⟩) λUA=>none_ λy=>UA y.1;rw[wq (k-10)];refine⟨_,rfl,ah A5.rg,_,by rw[bm];exact A5.at_ (by decide),Ez A5.x d UI (by omega) hz (by omega) λh6 F6 f6 g6 x6=>⟨_,_,rfl,?_⟩⟩;have A6:=A5.call f6 g6 x6;have e2:oN (ai n) k T' R'=fI 13 R' (mn (kj (ai n)) T' (ai n) (R'.getD 13 0) (k-10)):=by unfold Bm.oN;rw[if_pos ⟨UA,hz⟩]
  rw[e2]at hK;have cu:=sX (dM:=kj (ai n)) (T:=T') (g:=ai n) (tab:=R'.getD 13 0) (from_:=k-10) (qO (ai n));have cd_:=EA TM.aK (ai n) (λT i=>uV T _ i) yK (CE TM.aK (ai n) λT i=>uV T _ i) T' (R'.getD 13 0) (k-10);generalize mn (kj (ai n)) T' (ai n) (R'.getD 13 0) (k-10)=E at hK A6 cu cd_ ⊢;have hN6:98<=E.1.N:=by unfold TM.N;rw[cd_];exact UI
  unfold Bm.fI at hK;refine cn (λdp=>?_) λhe=>?_
  ·rw[if_pos dp,if_pos dp]at hK;exact A6.fin (f:=λcs=>.tuple #[.agg ⟨cs⟩,vI E.2.2]) λh'=>hK h' F6
  ·rw[if_neg (show ¬E.2.2≠0 from λy=>y he),if_neg (λy=>y rfl)]at hK;rw[EB he]
   cases hg:E.2.1 with
   | false=>
    rw[hg,if_neg (by decide)]at hK;refine ct rfl ?_;rw[bm];exact A6.put (by decide) λh7 cs d7 A7=>Ng d A7 hN6 (by omega) FM hK
   | true=>
    rw[hg,if_pos rfl]at hK;exact cf rfl (Ng d A6 hN6 (by omega) FM hK)
end Ry
namespace Ry
open Hp W Ad Tm Spc Re Av Rx
open Hd (ints gn)
open In (af aA)
open Bm (fA kS fQ eO fI)
theorem kU(g:G):∀(l:List Nat) (T:TM) (R:List Int),(fQ g l T R).1.2.length=R.length
 | [],_,_=>rfl
 | i::r,T,R=>by
  unfold Bm.fQ
  split
  ·exact kU g r T R
  ·split
   ·rfl
   ·rw[kU g r _ _,List.length_set]
theorem qQ{C:TM×Bool×Int}:(fI i R C).1.2.length=R.length:=by
 unfold Bm.fI
 split
 ·rfl
 ·show(if _ then R else R.set i 0).length=_
  split
  ·rfl
  ·exact List.length_set ..
theorem KW(g:G)(k:Int)(T:TM)(R:List Int):(Bm.lK g k T R).1.2.length=R.length:=by
 have one:∀T R,(Bm.oN g k T R).1.2.length=R.length:=λT R=>by
  unfold Bm.oN
  split
  ·exact qQ
  ·rfl
 have two:∀T R,(Bm.sH g k T R).1.2.length=R.length:=λT R=>by
  unfold Bm.sH
  split
  ·exact qQ
  ·rfl
 unfold Bm.lK
 split
 ·exact kU g _ _ _
 ·split
  ·exact(one _ _).trans (kU g _ _ _)
  ·exact(two _ _).trans ((one _ _).trans (kU g _ _ _))
theorem Ek{T:TM}{n:Nat}{k:Int}(x:jc h F r e T)(d:uO n)(hN:98<=T.N)(hR:R.length=15)(hu:T.ar.length<700000000)
  (hK:∀h' F',Fr F h h'->Gw h F h' F'->jc h' F' r e (fA T (ai n) R k).1->K (.tuple #[.agg ⟨ints (fA T (ai n) R k).2.1⟩,vI (fA T (ai n) R k).2.2]) h') :
  C.gD r (ai n).v (ints R) k h K:=by
 have kY:=λb (hb:F b)=>x.lt hb;refine gD.ok (az.intro λh2 n2=>az.intro λh3 n3=>az.intro λh4 n4=>?_);have z2:=n2.size;have z3:=n3.size;have z4:=n4.size;have F4:Fr No h h4:=(n2.fr.new n3).new n4;have l4:(rd h4 h3.size).length=15:=by rw[n4.rd];rfl
 have GV:k<0∨k>16522->ax (bA h3) gv 15 h4 λh5=>
   ∃bL:LV,List.length bL=15/\aj h5 (bA h3) bL/\K (.tuple #[.agg ⟨bL⟩,vI 101]) h5:=λy=>by
  have e1:fA T (ai n) R k=(T,kS,101):=by unfold Bm.fA;rw[if_pos y]
  rw[e1]at hK;refine ax.intro n4.own rfl (aA kS) (by rw[l4];decide) λh5 d5=>⟨ints kS,rfl,ah (by rw[d5.rd];exact dC _ _ (by rw[l4];rfl)),?_⟩;have f5:Fr No h h5:=F4.did d5 λy=>by omega
  exact hK h5 F (f5.mono λ_ _ y=>y.elim) (Gw.refl f5.size kY) (x.no f5)
 refine cd (λy=>GV (.inl y)) λy0=>cd (λy=>GV (.inr y)) λy1=>?_
 have e1:fA T (ai n) R k=if(Bm.lK (ai n) k T R).2≠0 then(((Bm.lK (ai n) k T R).1.1.back T.ar.length).1,kS,(Bm.lK (ai n) k T R).2)else((Bm.lK (ai n) k T R).1.1,(Bm.lK (ai n) k T R).1.2,0):=by
  unfold Bm.fA;rw[if_neg (by omega)]
 rw[e1]at hK;have ov:=aa1 TM.over (ai n) (λT i=>Nd T _ i) Nf k T R;have lR:(Bm.lK (ai n) k T R).1.2.length=15:=by rw[KW,hR]
 unfold gD.k1;have rg4:rd h4 h.size=(ai n).v:=(n4.at_).trans ((n3.at_).trans n2.rd);have rx4:rd h4 h2.size=ints R:=(n4.at_).trans n3.rd;refine Rx.ng (x.no F4) ⟨_,_,rfl,_,rfl,ah rg4,ints R,by rw[af,hR],ah rx4,qF (x.no F4) d hN hR (by omega) (by omega) hu λh9 F9 f9 g9 x9=>⟨_,_,rfl,?_⟩⟩;have z9:=f9.size;generalize Bm.lK (ai n) k T R=W at hK ov lR x9 ⊢;obtain⟨⟨T',R'⟩,er⟩:=W;have hF3:¬F h3.size:=λy=>by have:=kY _ y;omega
 refine aM.intro (by rw[af];exact lR) (aA _) rfl λbQ n11=>?_;have Pz:=n11.size;have o11:dJ bQ h3.size:=n11.ow (f9.own (by omega) hF3 n4.own);have l11:(rd bQ h3.size).length=15:=by rw[n11.at_,f9.rd (by omega) hF3];exact l4
 have J4:Fr F h bQ:=(((F4.mono λ_ _ y=>y.elim).trans f9 λ_ _ y=>y)).new n11;have Td:Gw h F bQ F9:=⟨λb hb=>(g9.old b (by omega)),λb hb=>by have:=g9.lt b hb;omega⟩;have Xi:¬F9 h3.size:=λy=>hF3 ((g9.old _ (by omega)).mp y);refine cn (λdp=>?_) λhe=>?_
 ·have aaX:er≠0:=dp;rw[if_pos aaX]at hK;refine Rx.nh (x9.no n11.fr) λcG Ae f12 g12 Ll=>⟨_,rfl,?_⟩;rw[Hf ov]at Ll;have z12:=f12.size;have WL:(rd cG h3.size).length=15:=by rw[f12.rd (by omega) Xi];exact l11
  refine ax.intro (f12.own (by omega) Xi o11) rfl (aA kS) (by rw[WL];decide) λcg d13=>⟨ints kS,rfl,ah (by rw[d13.rd];exact dC _ _ (by rw[WL];rfl)),?_⟩;have V8:=d13.size;have aaY:Fr F h cG:=J4.trans f12 λb hb y=>(Td.old b hb).mp y;have G12:=Td.trans g12 (by omega);have aaZ:¬Ae h3.size:=λy=>Xi ((g12.old _ (by omega)).mp y);exact hK cg Ae (aaY.did d13 λy=>by omega) ⟨G12.old,λb hb=>by rw[V8];exact G12.lt b hb⟩ (Ll.fr d13.fr λb hb y=>aaZ (y▸hb))
 ·have Θ:er=0:=he;rw[if_neg (λy=>y Θ)]at hK;refine⟨ints R',by rw[af];exact lR,ah n11.rd,ax.intro o11 (by rw[af];exact lR) (aA _) (by rw[l11];decide) λcM d14=>⟨ints R',by rw[af];exact lR,ah (by rw[d14.rd];exact dC _ _ (by rw[l11,af];exact lR)),?_⟩⟩;have Sg:=d14.size;exact hK cM F9 (J4.did d14 λy=>by omega) ⟨Td.old,λb hb=>by rw[Sg];exact Td.lt b hb⟩ ((x9.no n11.fr).fr d14.fr λb hb y=>Xi (y▸hb))
end Ry
namespace Ry
open Hp W Ad Tm Spc Re Av Rx
open Hd (ints gn)
open In (af aA)
open Bm (cN bI bM dZ bT gL kW fB fJ Lm mo ki uR zR xo np uP k8)
def Ua(r:OA)(g:G)(a1:OA)(l1 c1:Nat)(a2:OA)(l2 c2:Nat)(at_ er:Int):LV:=vP r::(g.v++[vS a1 l1 c1,vS a2 l2 c2,vI at_,vI er])
structure To(F:NP)(r e:OA)(T:TM)(ab:Nat)(g:G)(hh:ad)(Q:NP)(S:gL)(at_ er:Int):Prop where
 x:jc hh F r e T
 ow:dJ hh ab
 rows:∃P1 P2 a1 c1 a2 c2,rd hh ab=Ua r g a1 S.L.length c1 a2 S.M.length c2 at_ er/\Sl hh 2 a1 S.L.length c1 (S.L.flatMap mo) P1/\Sl hh 1 a2 S.M.length c2 (ints S.M) P2/\(∀b,P1 b->b≠ab/\¬P2 b)/\(∀b,P2 b->b≠ab)/\∀b,Q b↔b=ab∨P1 b∨P2 b
 lt:∀b,Q b->b<hh.size
 nQ:∀b,Q b->¬F b
section
variable{F : Nat -> Prop}{r e : OA}{T : TM}{ab : Nat}{g : G}{hh h' : ad}{Q : Nat -> Prop}{S : gL}{at_ er : Int}
theorem To.no(a:To F r e T ab g hh Q S at_ er)(f:Fr No hh h'):To F r e T ab g h' Q S at_ er:=by
 obtain⟨P1,P2,a1,c1,a2,c2,r1,s1,s2,k1,k2,k3⟩:=a.rows;exact⟨a.x.no f,f.own a.ow.lt (λy=>y) a.ow,⟨P1,P2,a1,c1,a2,c2,(f.rd a.ow.lt λy=>y).trans r1,s1.fr f (λ_ _ _ y=>y),s2.fr f (λ_ _ _ y=>y),k1,k2,k3⟩,λb hb=>Nat.lt_of_lt_of_le (a.lt b hb) f.size,a.nQ⟩
theorem To.refl(a:To F r e T ab g hh Q S at_ er)(f:Fr No hh h'):Gw hh Q h' Q:=Gw.refl f.size a.lt
theorem To.zX(a:To F r e T ab g hh Q S at_ er):cellOf hh (Addr.add ⟨ab,0,none⟩ 9)=some (vI er):=by
 obtain⟨P1,P2,a1,c1,a2,c2,r1,_⟩:=a.rows;exact bJ r1 rfl
theorem To.YY(a:To F r e T ab g hh Q S at_ er):cellOf hh (Addr.add ⟨ab,0,none⟩ 8)=some (vI at_):=by
 obtain⟨P1,P2,a1,c1,a2,c2,r1,_⟩:=a.rows;exact bJ r1 rfl
theorem To.at_r(a:To F r e T ab g hh Q S at_ er):cellOf hh (Addr.add ⟨ab,0,none⟩ 0)=some (vP r):=by
 obtain⟨P1,P2,a1,c1,a2,c2,r1,_⟩:=a.rows;exact bJ r1 rfl
theorem To.ae5(a:To F r e T ab g hh Q S at_ er):aj hh (Addr.add ⟨ab,0,none⟩ 1) g.v:=by
 obtain⟨P1,P2,a1,c1,a2,c2,r1,_⟩:=a.rows;exact uF r1 rfl
theorem To.Xj(a:To F r e T ab g hh Q S at_ er){v:Int}{k:HP}(H:∀ h',Fr Q hh h'->Gw hh Q h' Q->To F r e T ab g h' Q S at_ v->k h'):aO (Addr.add ⟨ab,0,none⟩ 9) (vI v) hh k:=by
 obtain⟨P1,P2,a1,c1,a2,c2,r1,s1,s2,k1,k2,k3⟩:=a.rows;have qa:Q ab:=(k3 _).mpr (.inl rfl);refine aO.add a.ow (by rw[r1];exact(by decide:9<10)) λh' d=>H h' (d.fr.mono λb _ e=>(k3 b).mpr (.inl e)) ⟨λ_ _=>Iff.rfl,λb hb=>by rw[d.size];exact a.lt b hb⟩ ⟨a.x.fr d.fr λb hb e=>a.nQ ab qa (e▸hb),d.own,⟨P1,P2,a1,c1,a2,c2,by rw[d.rd,r1];rfl,s1.fr d.fr λb _ y e=>(k1 b y).1 e,s2.fr d.fr λb _ y e=>k2 b y e,k1,k2,k3⟩,λb hb=>by rw[d.size];exact a.lt b hb,a.nQ⟩
theorem To.setAt(a:To F r e T ab g hh Q S at_ er){v:Int}{k:HP}(H:∀ h',Fr Q hh h'->Gw hh Q h' Q->To F r e T ab g h' Q S v er->k h'):aO (Addr.add ⟨ab,0,none⟩ 8) (vI v) hh k:=by
 obtain⟨P1,P2,a1,c1,a2,c2,r1,s1,s2,k1,k2,k3⟩:=a.rows;have qa:Q ab:=(k3 _).mpr (.inl rfl);refine aO.add a.ow (by rw[r1];exact(by decide:8<10)) λh' d=>H h' (d.fr.mono λb _ e=>(k3 b).mpr (.inl e)) ⟨λ_ _=>Iff.rfl,λb hb=>by rw[d.size];exact a.lt b hb⟩ ⟨a.x.fr d.fr λb hb e=>a.nQ ab qa (e▸hb),d.own,⟨P1,P2,a1,c1,a2,c2,by rw[d.rd,r1];rfl,s1.fr d.fr λb _ y e=>(k1 b y).1 e,s2.fr d.fr λb _ y e=>k2 b y e,k1,k2,k3⟩,λb hb=>by rw[d.size];exact a.lt b hb,a.nQ⟩
theorem To.ae6(a:To F r e T ab g hh Q S at_ er){v:Int}{X:HP}(hn:S.n<1000000)(hX:∀ h' Q',Fr Q hh h'->Gw hh Q h' Q'->To F r e T ab g h' Q' ⟨S.L++[(at_,v)],S.M⟩ at_ er->X h') :
  ∃(aI:OA) (aF:Nat) (aT:Nat),cellOf hh (Addr.add ⟨ab,0,none⟩ 6)=some (vS aI aF aT)/\
   az [vI at_,vI v] 291 hh λh4=>(cellOf h4 (Addr.add ⟨ab,0,none⟩ 6)=some (vS aI aF aT))/\
   ∃aG:LV,List.length aG=1*2/\ak h4 (some (bA hh)) aG/\(∀v∈aG,v.oneCell'=true)/\aH Dn 291 aI aF aT 1 aG h4 λdP dB ff h5=>ae (some (⟨ab,0,none⟩:Addr)) λp6=>aO (Addr.add p6 6) (vS dP dB ff) h5 λh6=>X h6:=by
 obtain⟨P1,P2,a1,c1,a2,c2,r1,s1,s2,k1,k2,k3⟩:=a.rows;have la:=a.ow.lt;refine⟨_,_,_,bJ r1 rfl,az.intro λh2 n2=>⟨bJ ((n2.at_ la).trans r1) rfl,mo (at_,v),rfl,ah n2.rd,Vb rfl rfl,?_⟩⟩;have z2:=n2.size;have hSn:S.L.length<=S.n:=Nat.le_add_right _ _;refine dh (elem:=Dn) ((ki s1).fr n2.fr λ_ _ _ y=>y) rfl rfl (by show(_+1)*16<=_;omega) (by omega) λa' c' h3 f3 s3=>?_;have z3:=f3.size;have na:¬P1 ab:=λy=>(k1 _ y).1 rfl;have r3:rd h3 ab=_:=((f3.rd (by omega) λy=>na y.1).trans (n2.at_ la)).trans r1;have o3:dJ h3 ab:=f3.own (by omega) (λy=>na y.1) (n2.ow a.ow);refine os (aO.add o3 (by rw[r3];exact(by decide:6<10)) λh4 d4=>?_);have z4:=d4.size;have F4:Fr Q hh h4:=(((n2.fr.mono λ_ _ y=>y.elim).trans f3 λb _ y=>(k3 b).mpr (.inr (.inl y.1))).did d4 λ_=>(k3 _).mpr (.inl rfl))
 have Wl:=(ki s3).fr d4.fr λb hb y e=>by
  have e:b=ab:=e;have y:=y.1
  rcases y with y|y
  ·exact na (e▸y.1)
  ·rw[e]at y;omega
 have KG:Sl h4 1 a2 S.M.length c2 (ints S.M) (λb=>P2 b/\b<hh.size):=(((ki s2).fr n2.fr λ_ _ _ y=>y).fr f3 λb _ y z=>(k1 b z.1).2 y.1).fr d4.fr λb _ y e=>k2 b y.1 e
 refine hX h4 (λb=>b=ab∨((P1 b/\b<hh.size∨h2.size<=b)/\b<h3.size)∨(P2 b/\b<hh.size)) F4 ⟨λb hb=>?_,λb hb=>?_⟩ ⟨a.x.fr F4 λb hb y=>a.nQ b y hb,d4.own,
  ⟨_,_,a',c',a2,c2,?_,?_,KG,λb hb=>?_,λb hb=>k2 b hb.1,λb=>Iff.rfl⟩,λb hb=>?_,λb hb=>?_⟩
 ·show _↔Q b;rw[k3 b]
  constructor
  ·rintro(y|y|y)
   ·exact .inl y
   ·rcases y.1 with z|z
    ·exact .inr (.inl z.1)
    ·omega
   ·exact .inr (.inr y.1)
  ·rintro(y|y|y)
   ·exact .inl y
   ·exact .inr (.inl ⟨.inl ⟨y,hb⟩,by omega⟩)
   ·exact .inr (.inr ⟨y,hb⟩)
 ·rcases hb with y|y|y <;> omega
 ·show rd h4 ab=Ua r g a' (S.L++[(at_,v)]).length c' a2 S.M.length c2 at_ er;rw[d4.rd,r3,lA0];rfl
 ·show Sl h4 2 a' (S.L++[(at_,v)]).length c' ((S.L++[(at_,v)]).flatMap mo) _;rw[lA0,List.flatMap_append];exact Wl
 ·rcases hb with⟨y|y,z⟩
  ·have:=k1 b y.1;exact⟨this.1,λw=>this.2 w.1⟩
  ·exact⟨by omega,λw=>by omega⟩
 ·rcases hb with y|y|y <;> omega
 ·have new:h2.size<=b->¬F b:=λhl y=>by have:=a.x.lt y;omega
  rcases hb with y|y|y
  ·exact a.nQ b ((k3 b).mpr (.inl y))
  ·rcases y.1 with z|z
   ·exact a.nQ b ((k3 b).mpr (.inr (.inl z.1)))
   ·exact new z
  ·exact a.nQ b ((k3 b).mpr (.inr (.inr y.1)))
theorem To.OD(a:To F r e T ab g hh Q S at_ er){v:Int}{X:HP}(hn:S.n<1000000)(hX:∀ h' Q',Fr Q hh h'->Gw hh Q h' Q'->To F r e T ab g h' Q' ⟨S.L,S.M++[v]⟩ at_ er->X h') :
  ∃(aI:OA) (aF:Nat) (aT:Nat),cellOf hh (Addr.add ⟨ab,0,none⟩ 7)=some (vS aI aF aT)/\
   az [vI v] 3 hh λh4=>
   ∃aG:LV,List.length aG=1*1/\ak h4 (some (bA hh)) aG/\(∀v∈aG,v.oneCell'=true)/\aH QH 3 aI aF aT 1 aG h4 λdP dB ff h5=>ae (some (⟨ab,0,none⟩:Addr)) λp6=>aO (Addr.add p6 7) (vS dP dB ff) h5 λh6=>X h6:=by
 obtain⟨P1,P2,a1,c1,a2,c2,r1,s1,s2,k1,k2,k3⟩:=a.rows;have la:=a.ow.lt;refine⟨_,_,_,bJ r1 rfl,az.intro λh2 n2=>⟨[vI v],rfl,ah n2.rd,(λv hv=>by rw[List.mem_singleton.mp hv];rfl),?_⟩⟩;have z2:=n2.size;have hSn:S.M.length<=S.n:=Nat.le_add_left _ _;refine dh (elem:=QH) ((ki s2).fr n2.fr λ_ _ _ y=>y) rfl rfl (by show(_+1)*8<=_;omega) (by omega) λa' c' h3 f3 s3=>?_;have z3:=f3.size;have na:¬P2 ab:=λy=>k2 _ y rfl;have r3:rd h3 ab=_:=((f3.rd (by omega) λy=>na y.1).trans (n2.at_ la)).trans r1;have o3:dJ h3 ab:=f3.own (by omega) (λy=>na y.1) (n2.ow a.ow);refine os (aO.add o3 (by rw[r3];exact(by decide:7<10)) λh4 d4=>?_);have z4:=d4.size;have F4:Fr Q hh h4:=(((n2.fr.mono λ_ _ y=>y.elim).trans f3 λb _ y=>(k3 b).mpr (.inr (.inr y.1))).did d4 λ_=>(k3 _).mpr (.inl rfl))
 have Wl:=(ki s3).fr d4.fr λb hb y e=>by
  have e:b=ab:=e;have y:=y.1
  rcases y with y|y
  ·exact na (e▸y.1)
  ·rw[e]at y;omega
 have s14:Sl h4 2 a1 S.L.length c1 (S.L.flatMap mo) (λb=>P1 b/\b<hh.size):=(((ki s1).fr n2.fr λ_ _ _ y=>y).fr f3 λb _ y z=>(k1 b y.1).2 z.1).fr d4.fr λb _ y e=>(k1 b y.1).1 e
 refine hX h4 (λb=>b=ab∨(P1 b/\b<hh.size)∨((P2 b/\b<hh.size∨h2.size<=b)/\b<h3.size)) F4 ⟨λb hb=>?_,λb hb=>?_⟩ ⟨a.x.fr F4 λb hb y=>a.nQ b y hb,d4.own,
  ⟨_,_,a1,c1,a',c',?_,s14,?_,λb hb=>?_,λb hb=>?_,λb=>Iff.rfl⟩,λb hb=>?_,λb hb=>?_⟩
 ·show _↔Q b;rw[k3 b]
  constructor
  ·rintro(y|y|y)
   ·exact .inl y
   ·exact .inr (.inl y.1)
   ·rcases y.1 with z|z
    ·exact .inr (.inr z.1)
    ·omega
  ·rintro(y|y|y)
   ·exact .inl y
   ·exact .inr (.inl ⟨y,hb⟩)
   ·exact .inr (.inr ⟨.inl ⟨y,hb⟩,by omega⟩)
 ·rcases hb with y|y|y <;> omega
 ·show rd h4 ab=Ua r g a1 S.L.length c1 a' (S.M++[v]).length c' at_ er;rw[d4.rd,r3,lA0];rfl
 ·show Sl h4 1 a' (S.M++[v]).length c' (ints (S.M++[v])) _;unfold Hd.ints;rw[lA0,List.map_append];exact Wl
 ·refine⟨(k1 b hb.1).1,λw=>?_⟩
  rcases w.1 with w|w
  ·exact(k1 b hb.1).2 w.1
  ·omega
 ·rcases hb.1 with y|y
  ·exact k2 b y.1
  ·omega
 ·rcases hb with y|y|y <;> omega
 ·have new:h2.size<=b->¬F b:=λhl y=>by have:=a.x.lt y;omega
  rcases hb with y|y|y
  ·exact a.nQ b ((k3 b).mpr (.inl y))
  ·exact a.nQ b ((k3 b).mpr (.inr (.inl y.1)))
  ·rcases y.1 with z|z
   ·exact a.nQ b ((k3 b).mpr (.inr (.inr z.1)))
   ·exact new z
end
section
variable{F : Nat -> Prop}{r e : OA}{T : TM}{ab : Nat}{g : G}{hh : ad}{Q : Nat -> Prop}{S : gL}{at_ er : Int}
theorem KX{v:Int}(a:To F r e T ab g hh Q S at_ er)(hn:S.n<1000000)(h1:0<=at_)(h2:at_<1000000)
  (hK:∀h' Q' S',Fr Q hh h'->Gw hh Q h' Q'->To F r e T ab g h' Q' S' (at_+1) (kW g S at_ v).2->((kW g S at_ v).2=0->S'=(kW g S at_ v).1)->S'.n<=S.n+1->K (.tuple #[]) h'):C.bH (some ⟨ab,0,none⟩) v hh K:=by
 have k1:∀hx Qx S',Fr Q hh hx->Gw hh Q hx Qx->To F r e T ab g hx Qx S' at_ (kW g S at_ v).2->((kW g S at_ v).2=0->S'=(kW g S at_ v).1)->S'.n<=S.n+1->bH.k1 (some ⟨ab,0,none⟩) hx K:=λhx Qx S' f w t e1 e2=>by
  unfold bH.k1;refine os ⟨_,t.YY,os ?_⟩;rw[wrap_i64 (by omega) (by omega)];exact t.setAt λh' f' w' t'=>hK h' Qx S' (f.trans f' λb hb y=>(w.old b hb).mp y) (w.trans w' f.size) t' e1 e2
 refine bH.ok (os ⟨_,rfl,a.ae5,iM λh2 f2=>⟨_,rfl,os ?_⟩⟩);have a2:=a.no f2;have hl:(if v=0 then 0 else bT g v)=(kW g S at_ v).2:=by unfold Bm.kW;split <;> rfl
 rw[hl];refine a2.Xj λh3 f3 w3 a3=>os ⟨_,a3.zX,?_⟩;have YS:Fr Q hh h3:=(f2.mono λ_ _ y=>y.elim).trans f3 λb hb y=>y;have w03:Gw hh Q h3 Q:=(a.refl f2).trans w3 f2.size;refine ce (λh0=>cn (λhv=>?_) λhv=>?_) λh0=>?_
 ·have eo:(kW g S at_ v).1=⟨S.L++[(at_,v)],S.M⟩:=by unfold Bm.kW;rw[if_neg hv]
  have en:=uR g S at_ v;obtain⟨sA,sL,sC,c6,N⟩:=a3.ae6 (v:=v) hn λh4 Q4 f4 w4 a4=>k1 h4 Q4 _ (YS.trans f4 λb hb y=>(w03.old b hb).mp y) (w03.trans w4 YS.size) a4 (λ_=>eo.symm) (by rw[<-eo];exact en);exact os ⟨sA,sL,sC,c6,os ⟨_,a3.YY,rfl,N⟩⟩
 ·have eo:(kW g S at_ v).1=S:=by unfold Bm.kW;rw[if_pos hv]
  exact k1 h3 Q S YS w03 a3 (λ_=>eo.symm) (Nat.le_add_right _ _)
 ·exact k1 h3 Q S YS w03 a3 (λy=>absurd y h0) (Nat.le_add_right _ _)
def Qf(T:TM)(tab:Int):cL:=if tab=0 then aL else(T.read tab).1
def Bf(T:TM)(g:G)(tab:Int):Int:=if tab=0 then 0 else if bT g tab≠0 then bT g tab else(T.read tab).2
def Qg(S:gL)(tab:Int):gL:=if tab=0 then S else⟨S.L,S.M++[tab]⟩
theorem Qh : (aN z3 (Int.toNat 128):LV)=ints (bI aL):=by
 have:bI aL=List.replicate 128 0:=by
  refine List.ext_getElem (by rw[bM,List.length_replicate]) λi h1 h2=>?_;rw[dZ h1,uP,List.getElem_replicate];rfl
 rw[this];rfl
theorem EC(a:To F r e T ab g hh Q S at_ er)(hn:S.n<1000000)
  (hK:∀h' Q' S' sa sc b,Fr Q hh h'->Gw hh Q h' Q'->To F r e T ab g h' Q' S' at_ (Bf T g tab)->Sl h' 1 sa 128 sc (ints (bI b)) (λx=>hh.size<=x/\¬Q' x)->b.length=512->(Bf T g tab=0->b=Qf T tab/\S'=Qg S tab)->S'.n<=S.n+1->K (vS sa 128 sc) h'):C.bV (some ⟨ab,0,none⟩) tab hh K:=by
 refine bV.ok ⟨⟨by decide,by decide,by decide,by decide⟩,az.intro λh2 n2=>os ⟨_,rfl,(a.no n2.fr).ae5,iM λh3 f3=>⟨_,rfl,os ?_⟩⟩⟩;have z2:=n2.size;have z3:=f3.size;have a3:=(a.no n2.fr).no f3;have F3:Fr No hh h3:=n2.fr.no f3
 have s3:Sl h3 1 (some (bA hh)) 128 128 (ints (bI aL)) (λx=>x=hh.size):=by
  have r3:rd h3 hh.size=ints (bI aL):=((f3.r0).trans n2.rd).trans Qh;have l3:(ints (bI aL)).length=128:=by rw[af,bM]
  refine⟨by rw[l3],rfl,rfl,f3.own (by show hh.size<h2.size;omega) (λy=>y) n2.own,nL0,?_,?_⟩
  ·show((rd h3 hh.size).drop 0).take _=_;rw[r3,List.drop_zero,List.take_length]
  ·show 0+128*1<=(rd h3 hh.size).length;rw[r3,l3];exact nL0
 refine a3.Xj λh4 f4 w4 a4=>os ⟨_,a4.zX,?_⟩;have nQ:¬Q hh.size:=λy=>by have:=a.lt _ y;omega
 have F4:Fr Q hh h4:=(F3.mono λ_ _ y=>y.elim).trans f4 λb hb y=>y;have W4:Gw hh Q h4 Q:=(a.refl F3).trans w4 F3.size;have s4:=s3.fr f4 λb _ y z=>nQ (y▸z);have zl:aL.length=512:=List.length_replicate ..;refine cn (λdp=>?_) λhe=>ce (λh0=>?_) λh0=>?_
 ·have ht:tab≠0:=λy=>dp (by rw[if_pos y])
  have et:Bf T g tab=bT g tab:=by
   rw[if_neg ht]at dp;unfold Bf;rw[if_neg ht,if_pos dp]
  rw[et]at hK;rw[if_neg ht]at a4 dp;exact hK h4 Q S _ _ aL F4 W4 a4 (s4.mono λb y=>by rw[y];exact⟨nL0,nQ⟩) zl (λy=>absurd y dp) (Nat.le_add_right _ _)
 ·have et:Bf T g tab=0:=by unfold Bf;rw[if_pos h0]
  rw[et]at hK;rw[if_pos h0]at a4;exact hK h4 Q S _ _ aL F4 W4 a4 (s4.mono λb y=>by rw[y];exact⟨nL0,nQ⟩) zl (λ_=>⟨by unfold Qf;rw[if_pos h0],by unfold Qg;rw[if_pos h0]⟩) (Nat.le_add_right _ _)
 ·rw[if_neg h0]at he;have et:Bf T g tab=(T.read tab).2:=by unfold Bf;rw[if_neg h0,if_neg (λy=>y he)]
  have es:Qg S tab=⟨S.L,S.M++[tab]⟩:=by unfold Qg;rw[if_neg h0]
  have eb:Qf T tab=(T.read tab).1:=by unfold Qf;rw[if_neg h0]
  rw[et,es,eb]at hK;have en:(⟨S.L,S.M++[tab]⟩:gL).n<=S.n+1:=by unfold gL.n;rw[lA0];show S.L.length+(S.M.length+1)<=_;omega
  unfold bV.k1;refine os (a4.OD (v:=tab) hn λh7 Q7 f7 w7 a7=>os ⟨_,a7.at_r,?_⟩);have F7:Fr Q hh h7:=F4.trans f7 λb hb y=>(W4.old b hb).mp y;have W7:Gw hh Q h7 Q7:=W4.trans w7 F4.size;refine uk a7.x (λhr h8 f8=>⟨_,_,_,_,rfl,os ?_⟩) λhr sa sc h8 f8 s8=>⟨_,_,_,_,rfl,os ?_⟩
  ·have a8:=a7.no f8;refine a8.Xj λh9 f9 w9 a9=>ct (by rw[bne_iff_ne];exact hr) ?_;have F9:Fr Q hh h9:=(F7.trans (f8.mono λ_ _ y=>y.elim) (λb hb (y:False)=>y.elim)).trans f9 λb hb y=>(W7.old b hb).mp y;have W9:Gw hh Q h9 Q7:=(W7.trans (a7.refl f8) F7.size).trans w9 (Nat.le_trans F7.size f8.size);have n4:¬Q hh.size:=nQ;have lt4:hh.size<h4.size:=(by have:=f4.size;omega);have n7:¬Q7 hh.size:=λy=>nQ ((w7.old _ lt4).mp y);have s9:=((s4.fr f7 λb _ y z=>nQ (y▸z)).fr f8 λ_ _ _ y=>y).fr f9 λb _ y z=>n7 (y▸z);exact hK h9 Q7 _ _ _ aL F9 W9 a9 (s9.mono λb y=>by rw[y];exact⟨nL0,n7⟩) zl (λy=>absurd y hr) en
  ·have a8:=a7.no f8;have lo7:hh.size<=h7.size:=F7.size;rw[<-hr];refine a8.Xj λh9 f9 w9 a9=>cn (λy=>absurd rfl y) λ_=>?_;have F9:Fr Q hh h9:=(F7.trans (f8.mono λ_ _ y=>y.elim) (λb hb (y:False)=>y.elim)).trans f9 λb hb y=>(W7.old b hb).mp y;have W9:Gw hh Q h9 Q7:=(W7.trans (a7.refl f8) F7.size).trans w9 (Nat.le_trans F7.size f8.size);have n7:∀b,h7.size<=b->¬Q7 b:=λb hb y=>by have:=a7.lt b y;omega
   have s9:=s8.fr f9 λb _ y z=>n7 b y z;exact hK h9 Q7 _ _ _ _ F9 W9 a9 (s9.mono λb y=>⟨Nat.le_trans lo7 y,n7 b y⟩) (a7.x.Ft hr) (λ_=>⟨rfl,rfl⟩) en
end
end Ry
namespace Ry
open Hp W Ad Tm Spc Re Av Rx
open Hd (ints gn)
open In (af aA)
open Bm (cN bI bM dZ bT gL kW fB fJ Lm mo uR np uP k8 ug uQ inD yH sy allM)
theorem Nh : bI aL=List.replicate 128 0:=by
 refine List.ext_getElem (by rw[bM,List.length_replicate]) λi h1 h2=>?_;rw[dZ h1,uP,List.getElem_replicate];rfl
theorem Hg{dO:Lm}(h:∀ S i,dO S i 0=(S,0)):∀(k i:Nat) (S:gL),fB dO (List.replicate k 0) i S=(S,0)
 | 0,_,_=>rfl
 | k+1,i,S=>by
  rw[List.replicate_succ,k8,h S i,if_neg (λy=>y rfl)];exact Hg h k (i+1) S
theorem Qi(g:G)(S:gL)(k:Int):kW g S k 0=(S,0):=by unfold Bm.kW;rw[if_pos rfl]
theorem Hh{T:TM}{g:G}{dO:Lm}{S:gL}(h:Bf T g tab≠0):(fJ T g dO tab S).2=Bf T g tab:=by
 unfold Bf at h ⊢;unfold Bm.fJ
 by_cases h0:tab=0
 ·rw[if_pos h0]at h;exact absurd rfl h
 ·rw[if_neg h0]at h ⊢;rw[if_neg h0]
  by_cases h1:bT g tab≠0
  ·rw[if_pos h1,if_pos h1]
  ·rw[if_neg h1]at h ⊢;rw[if_neg h1,if_pos h]
theorem KY{T:TM}{g:G}{dO:Lm}{S:gL}(hz:∀ S i,dO S i 0=(S,0))(h:Bf T g tab=0):fJ T g dO tab S=fB dO (bI (Qf T tab)) 0 (Qg S tab):=by
 unfold Bf at h;unfold Bm.fJ Qf Qg
 by_cases h0:tab=0
 ·rw[if_pos h0,if_pos h0,if_pos h0,Nh,Hg hz]
 ·rw[if_neg h0]at h;rw[if_neg h0,if_neg h0,if_neg h0]
  by_cases h1:bT g tab≠0
  ·rw[if_pos h1]at h;exact absurd h h1
  ·rw[if_neg h1]at h;rw[if_neg h1,if_neg (λy=>y h)]
theorem Tr.of'{b:cL}(s:Sl hh 1 a 128 c (ints (bI b)) (λx=>h0.size<=x/\¬ F' x)):∃qb qo,a=some ⟨qb,qo,none⟩/\Tr h0 hh F' qb qo c b:=by
 cases a with
 | none=>exact absurd s.2.1 (by decide)
 | some p=>
  obtain⟨qb,qo,sp⟩:=p;have DX:sp=none:=s.2.1;subst DX;have lo:h0.size<=qb/\¬F' qb:=s.2.2.1;exact⟨qb,qo,rfl,s.mono λx y=>y.1,lo.2⟩
theorem KZ{b:cL}(hj:j<128):(bI b).drop j=((cN b j:Nat):Int)::(bI b).drop (j+1):=by
 rw[List.drop_eq_getElem_cons (by rw[bM];exact hj),dZ]
section
variable{F : Nat -> Prop}{r e : OA}{T : TM}{ab : Nat}{g : G}{hh : ad}{Q : Nat -> Prop}{S : gL}{at_ er : Int}
theorem K0(a:To F r e T ab g hh Q S at_ er)(hn:S.n<900000)(h1:0<=from_)(h2:from_<900000)
  (hK:∀h' Q' S' at',Fr Q hh h'->Gw hh Q h' Q'->To F r e T ab g h' Q' S' at' (fJ T g (λS i v=>kW g S (from_+(i:Nat)) v) tab S).2->((fJ T g (λS i v=>kW g S (from_+(i:Nat)) v) tab S).2=0->S'=(fJ T g (λS i v=>kW g S (from_+(i:Nat)) v) tab S).1)->S'.n<=S.n+129->K (.tuple #[]) h') :
  C.cP (some ⟨ab,0,none⟩) tab from_ hh K:=by
 have bad:=λh=>Hh (T:=T) (g:=g) (dO:=λS i v=>kW g S (from_+(i:Nat)) v) (tab:=tab) (S:=S) h;have ok:=λh=>KY (T:=T) (g:=g) (dO:=λS i v=>kW g S (from_+(i:Nat)) v) (tab:=tab) (S:=S) (λS i=>Qi g S _) h;generalize fJ T g (λS i v=>kW g S (from_+(i:Nat)) v) tab S=E at hK bad ok;refine cP.ok (os (a.setAt λh2_ f2 w2 a2=>EC a2 (by omega) λh3 Q3 S3 sa sc b f3 w3 a3 s3 hb e3 n3=>⟨_,_,_,rfl,?_⟩));obtain⟨qb,qo,rfl,t3⟩:=Tr.of' s3;have F3:Fr Q hh h3:=f2.trans f3 λ_ _ y=>y;have W3:Gw hh Q h3 Q3:=w2.trans w3 f2.size
 refine⟨λi hx=>∃(j:Nat) (Qx:NP) (Sx:gL) (atx UJ:Int),i=j/\j<=128/\Fr Q hh hx/\Gw hh Q hx Qx/\To F r e T ab g hx Qx Sx atx UJ/\Tr h2_ hx Qx qb qo sc b/\(UJ≠0->E.2=UJ)/\(UJ=0->atx=from_+j/\fB (λS i v=>kW g S (from_+(i:Nat)) v) ((bI b).drop j) j Sx=E)/\Sx.n<=S.n+1+j,λi _=>((128:Int)-i).toNat,
  ⟨0,Q3,S3,from_,_,rfl,nZ0,F3,W3,a3,t3,bad,λh=>⟨by omega,by rw[List.drop_zero,(e3 h).1,(e3 h).2];exact(ok h).symm⟩,n3⟩,?_⟩
 rintro i h4 ⟨j,Q4,S4,at4,er4,ei,hj,f4,w4,a4,t4,b4,o4,n4⟩
 have fin:(er4≠0∨j=128)->K (.tuple #[]) h4:=λy=>by
  by_cases h0:er4=0
  ·have ej:j=128:=y.resolve_left λz=>z h0;obtain⟨o1,o2⟩:=o4 h0;rw[ej,List.drop_eq_nil_of_le (by rw[bM];exact nL0)]at o2;have o3:E=(S4,0):=o2.symm;rw[o3]at hK;exact hK h4 Q4 S4 at4 f4 w4 (h0▸a4) (λ_=>rfl) (by omega)
  ·have e1:=b4 h0;exact hK h4 Q4 S4 at4 f4 w4 (e1.symm▸a4) (λz=>absurd (e1.symm.trans z) h0) (by omega)
 refine cd (λbK=>os ⟨_,a4.zX,ce (λh0=>?_) λh0=>fin (.inl h0)⟩) λbK=>fin (.inr (by omega));have k7:j<128:=by omega
 have Qd:i.toNat=j:=by omega
 obtain⟨o1,o2⟩:=o4 h0;unfold cP.k1;rw[Qd,wq (i+1)];rw[KZ k7,k8,<-o1]at o2;refine⟨by omega,os ⟨_,t4.get k7,KX a4 (by omega) (by omega) (by omega) λh5 Q5 S5 f5 w5 a5 e5 n5=>⟨rfl,⟨j+1,Q5,S5,_,_,by omega,by omega,f4.trans f5 λb hb y=>(w4.old b hb).mp y,w4.trans w5 f4.size,a5,t4.call f5 w5,λdp=>?_,λhe=>⟨by omega,?_⟩,by omega⟩,by show((128:Int)-(i+1)).toNat<((128:Int)-i).toNat;omega⟩⟩⟩
 ·rw[if_pos dp]at o2;rw[<-o2]
 ·rw[if_neg (λy=>y he)]at o2;rw[e5 he];exact o2
end
def AG(h:ad)(T:TM)(g:G)(R:List Int)(K:KT):=
 ∀a1 c1 a2 c2 h',Fr No h h'->Sl h' 2 a1 (allM T g R).1.length c1 ((allM T g R).1.flatMap mo) (dG h.size)->Sl h' 1 a2 (allM T g R).2.1.length c2 (ints (allM T g R).2.1) (dG h.size)->K (.tuple #[vS a1 (allM T g R).1.length c1,vS a2 (allM T g R).2.1.length c2,vI (allM T g R).2.2]) h'
structure As(h h2 h3 h4:ad)(F:NP)(r e:OA)(T:TM)(g:G)(R:List Int)(hx:ad)(Q:NP)(S:gL)(at_ er:Int):Prop where
 fr:Fr (λb=>b=h3.size) h4 hx
 gw:Gw h4 (λb=>b=h3.size) hx Q
 t:To F r e T h3.size g hx Q S at_ er
 bad:er≠0->(sy T g R).2=er
section
variable{h h2 h3 h4 hx h' : ad}{F : Nat -> Prop}{r e : OA}{T : TM}{g : G}{R : List Int}{Q Q' : Nat -> Prop}{S S' : gL}{at_ er at' er' : Int}
theorem As.call(A:As h h2 h3 h4 F r e T g R hx Q S at_ er)(f:Fr Q hx h')(w:Gw hx Q h' Q')(t:To F r e T h3.size g h' Q' S' at' er')(b:er'≠0->(sy T g R).2=er'):As h h2 h3 h4 F r e T g R h' Q' S' at' er':=
 ⟨A.fr.trans f λb hb y=>(A.gw.old b hb).mp y,A.gw.trans w A.fr.size,t,b⟩
theorem Ub(A:As h h2 h3 h4 F r e T g R hx Q S at_ er)(f4:Fr No h h4)(l3:h.size<=h3.size)(hA:er=0->sy T g R=(S,0))(hK:AG h T g R K):aJ.k5 h3 hx K:=by
 unfold aJ.k5;have F1:Fr No h hx:=f4.trans A.fr λb hb (y:b=h3.size)=>(by omega:False)
 have lo:∀b,Q b->h.size<=b:=λb hb=>by
  by_cases hb4:b<h4.size
  ·have:b=h3.size:=(A.gw.old b hb4).mp hb;omega
  ·have:=f4.size;omega
 refine⟨_,A.t.zX,cn (λdp=>⟨_,A.t.zX,?_⟩) λhe=>?_⟩
 ·have e1:allM T g R=([],[],er):=by unfold Bm.allM;rw[if_pos (by rw[A.bad dp];exact dp),A.bad dp]
  have:=hK none 0 none 0 hx F1 (by rw[e1];exact Sl.nil _ _ _) (by rw[e1];exact Sl.nil _ _ _);rw[e1]at this;exact this
 ·have e1:allM T g R=(S.L,S.M,0):=by unfold Bm.allM;rw[hA he,if_neg (λy=>y rfl)]
  obtain⟨P1,P2,a1,c1,a2,c2,r1,s1,s2,k1,k2,k3⟩:=A.t.rows;refine⟨_,_,_,bJ r1 rfl,_,_,_,bJ r1 rfl,?_⟩;have:=hK a1 c1 a2 c2 hx F1 (by rw[e1];exact s1.mono λb y=>lo b ((k3 b).mpr (.inr (.inl y)))) (by rw[e1];exact s2.mono λb y=>lo b ((k3 b).mpr (.inr (.inr y))));rw[e1]at this;exact this
theorem As.rx(A:As h h2 h3 h4 F r e T g R hx Q S at_ er)(r4:rd h4 h2.size=ints R)(l4:h2.size<h4.size)(n3:h2.size≠h3.size){q:Nat}(hq:q<R.length):cellOf hx (Addr.add (bA h2) q)=some (vI (R.getD q 0)):=by
 rw[bm,jX,A.fr.rd l4 n3,r4,Nat.zero_add];unfold Hd.ints;rw[lG0,List.getD_eq_getElem?_getD,List.getElem?_eq_getElem hq];rfl
theorem Qj(S:gL)(i:Nat):yH T g S i 0=(S,0):=by unfold Bm.yH Bm.fJ;rw[if_pos rfl]
theorem Uc(A:As h h2 h3 h4 F r e T g R hx Q S at_ er)(hR:R.length=15)(r4:rd h4 h2.size=ints R)(l4:h2.size<h4.size)(n3:h2.size≠h3.size)(f4:Fr No h h4)(l3:h.size<=h3.size)(hn:S.n<=200)
  (hA:er=0->sy T g R=fJ T g (yH T g) (R.getD 14 0) S) (hK:AG h T g R K):aJ.k3 h2 h3 hx K:=by
 unfold aJ.k3;refine⟨_,A.t.zX,ce (λhe=>⟨_,A.rx r4 l4 n3 (by rw[hR];decide),EC A.t (by omega) λcB Q3 S3 sa sc b f3 w3 a3 s3 hb e3 n3'=>⟨_,_,_,rfl,?_⟩⟩) λhe=>Ub A f4 l3 (λy=>absurd y he) hK⟩;have hA:=hA he;have bad:=λh=>Hh (T:=T) (g:=g) (dO:=yH T g) (tab:=R.getD 14 0) (S:=S) h;have ok:=λh=>KY (T:=T) (g:=g) (dO:=yH T g) (tab:=R.getD 14 0) (S:=S) Qj h;rw[<-hA]at bad ok;obtain⟨qb,qo,rfl,t3⟩:=Tr.of' s3;have A3:=A.call f3 w3 a3 bad
 refine⟨λi hy=>∃(j:Nat) (Qx:NP) (Sx:gL) (atx UJ:Int),i=j/\j<=128/\As h h2 h3 h4 F r e T g R hy Qx Sx atx UJ/\Tr hx hy Qx qb qo sc b/\(UJ=0->fB (yH T g) ((bI b).drop j) j Sx=sy T g R)/\Sx.n<=201+129*j,λi _=>((128:Int)-i).toNat,
  ⟨0,Q3,S3,at_,_,rfl,nZ0,A3,t3,λh=>by rw[List.drop_zero,(e3 h).1,(e3 h).2];exact(ok h).symm,by omega⟩,?_⟩
 rintro i bQ ⟨j,Q4,S4,at4,er4,ei,hj,A4,t4,o4,n4⟩
 have fin:(er4≠0∨j=128)->aJ.k5 h3 bQ K:=λy=>Ub A4 f4 l3 (λh0=>by
  have ej:j=128:=y.resolve_left λz=>z h0;have o2:=o4 h0;rw[ej,List.drop_eq_nil_of_le (by rw[bM];exact nL0)]at o2
  exact o2.symm) hK
 refine cd (λbK=>⟨_,A4.t.zX,ce (λh0=>?_) λh0=>fin (.inl h0)⟩) λbK=>fin (.inr (by omega));have k7:j<128:=by omega
 have Qd:i.toNat=j:=by omega
 have o2:=o4 h0;unfold aJ.k4;rw[Qd,wq (i+1),wq (i*128),wq (138+i*128)];rw[KZ k7,k8]at o2;have et:∀v,yH T g S4 j v=fJ T g (λS x v=>kW g S (138+i*128+(x:Nat)) v) v S4:=λv=>by rw[ei];rfl
 rw[et]at o2;refine⟨by omega,os ⟨_,t4.get k7,K0 A4.t (by omega) (by omega) (by omega) λh5 Q5 S5 at5 f5 w5 a5 e5 n5=>⟨rfl,⟨j+1,Q5,S5,at5,_,by omega,by omega,A4.call f5 w5 a5 λdp=>?_,t4.call f5 w5,λhe=>?_,by omega⟩,by show((128:Int)-(i+1)).toNat<((128:Int)-i).toNat;omega⟩⟩⟩
 ·rw[if_pos dp]at o2;rw[<-o2]
 ·rw[if_neg (λy=>y he)]at o2;rw[e5 he];exact o2
theorem aa5(A:As h h2 h3 h4 F r e T g R hx Q S at_ er)(hR:R.length=15)(r4:rd h4 h2.size=ints R)(l4:h2.size<h4.size)(n3:h2.size≠h3.size)(f4:Fr No h h4)(l3:h.size<=h3.size)(hn:S.n<=20)
  (hA:er=0->sy T g R=if(fJ T g (uQ g) (R.getD 13 0) S).2≠0 then fJ T g (uQ g) (R.getD 13 0) S else fJ T g (yH T g) (R.getD 14 0) (fJ T g (uQ g) (R.getD 13 0) S).1) (hK:AG h T g R K):aJ.k2 h2 h3 hx K:=by
 unfold aJ.k2;refine⟨_,A.t.zX,ce (λhe=>⟨_,A.rx r4 l4 n3 (by rw[hR];decide),K0 A.t (by omega) (by decide) (by decide) λh8 Q3 S3 at3 f3 w3 a3 e3 n3'=>⟨rfl,?_⟩⟩) λhe=>Uc A hR r4 l4 n3 f4 l3 (by omega) (λy=>absurd y he) hK⟩;have hA:=hA he;have et:fJ T g (λS x v=>kW g S (10+(x:Nat)) v) (R.getD 13 0) S=fJ T g (uQ g) (R.getD 13 0) S:=rfl;have a3':To F r e T h3.size g h8 Q3 S3 at3 (fJ T g (uQ g) (R.getD 13 0) S).2:=a3;have e3':(fJ T g (uQ g) (R.getD 13 0) S).2=0->S3=(fJ T g (uQ g) (R.getD 13 0) S).1:=e3;exact Uc (A.call f3 w3 a3' λdp=>by rw[hA,if_pos dp]) hR r4 l4 n3 f4 l3 (by omega) (λhe3=>by rw[hA,if_neg (λy=>y he3),e3' he3]) hK
end
theorem Xk(hR:R.length=15)(hj:j<10):((R.drop 3).take 10).drop j=R.getD (3+j) 0::((R.drop 3).take 10).drop (j+1):=by
 have hl:((R.drop 3).take 10).length=10:=by rw[lT0,lD0,hR];rfl
 rw[List.drop_eq_getElem_cons (by omega),List.getElem_take,List.getElem_drop,List.getD_eq_getElem?_getD,List.getElem?_eq_getElem (by omega)];rfl
theorem El{T:TM}{g:G}(x:jc h F r e T)(hR:R.length=15)(hK:AG h T g R K):C.aJ r g.v (ints R) h K:=by
 refine aJ.ok (az.intro λh2 n2=>az.intro λh3 n3=>⟨_,rfl,ah ((n3.at_ (by rw[n2.size];exact Nat.lt_succ_self _)).trans n2.rd),rfl,az.intro λh4 n4=>?_⟩);have z2:=n2.size;have z3:=n3.size;have z4:=n4.size;have f4:Fr No h h4:=(n2.fr.new n3).new n4;have r4:rd h4 h2.size=ints R:=(n4.at_).trans n3.rd;have t4:To F r e T h3.size g h4 (λb=>b=h3.size) ⟨[],[]⟩ 0 0:=⟨x.no f4,n4.own,⟨λ_=>False,λ_=>False,none,0,none,0,n4.rd,Sl.nil _ _ _,Sl.nil _ _ _,λ_ y=>y.elim,λ_ y=>y.elim,λb=>⟨.inl,λy=>y.elim id λy=>y.elim False.elim False.elim⟩⟩,λb y=>by have y:b=h3.size:=y;omega,λb y w=>by have y:b=h3.size:=y;have:=x.lt w;omega⟩;have A4:As h h2 h3 h4 F r e T g R h4 (λb=>b=h3.size) ⟨[],[]⟩ 0 0:=⟨Fr.refl _ _,Gw.refl nL0 t4.lt,t4,λy=>absurd rfl y⟩
 refine⟨λi hx=>∃(j:Nat) (Qx:NP) (Sx:gL) (atx UJ:Int),i=j/\j<=10/\As h h2 h3 h4 F r e T g R hx Qx Sx atx UJ/\(UJ=0->atx=j/\fB (ug g) (((R.drop 3).take 10).drop j) j Sx=fB (ug g) ((R.drop 3).take 10) 0 ⟨[],[]⟩)/\Sx.n<=j,λi _=>((10:Int)-i).toNat,
  ⟨0,_,_,_,_,rfl,nZ0,A4,λ_=>⟨rfl,by rw[List.drop_zero]⟩,nL0⟩,?_⟩
 rintro i h5 ⟨j,Q5,S5,at5,er5,ei,hj,A5,o5,n5⟩
 have fin:(er5≠0∨j=10)->aJ.k2 h2 h3 h5 K:=λy=>aa5 A5 hR r4 (by omega) (by omega) f4 (by omega) (by omega) (λh0=>by
  have ej:j=10:=y.resolve_left λz=>z h0;have o2:=(o5 h0).2;rw[ej,List.drop_eq_nil_of_le (by rw[lT0,lD0,hR];decide)]at o2;have o3:fB (ug g) ((R.drop 3).take 10) 0 ⟨[],[]⟩=(S5,0):=o2.symm;unfold Bm.sy
  rw[o3,if_neg (λy=>y rfl)]) hK
 refine cd (λbK=>⟨_,A5.t.zX,ce (λh0=>?_) λh0=>fin (.inl h0)⟩) λbK=>fin (.inr (by omega));have k7:j<10:=by omega
 have Qd:i.toNat=j:=by omega
 obtain⟨o1,o2⟩:=o5 h0;unfold aJ.k1;have cx:=A5.rx r4 (by omega) (by omega) (q:=3+j) (by omega);rw[bm]at cx;rw[Qd,wq (i+1),bm,bm,Nat.add_assoc];rw[Xk hR k7,k8]at o2;have et:∀v,ug g S5 j v=kW g S5 at5 v:=λv=>by rw[o1];rfl
 rw[et]at o2;refine⟨by omega,_,cx,KX A5.t (by omega) (by omega) (by omega) λh6 Q6 S6 f6 w6 a6 e6 n6=>⟨rfl,⟨j+1,Q6,S6,_,_,by omega,by omega,A5.call f6 w6 a6 λdp=>?_,λhe=>⟨by omega,?_⟩,by omega⟩,by show((10:Int)-(i+1)).toNat<((10:Int)-i).toNat;omega⟩⟩
 ·rw[if_pos dp]at o2;have:fB (ug g) ((R.drop 3).take 10) 0 ⟨[],[]⟩=kW g S5 at5 (R.getD (3+j) 0):=o2.symm;unfold Bm.sy;rw[this,if_pos dp]
 ·rw[if_neg (λy=>y he)]at o2;rw[e6 he];exact o2
end Ry
namespace Fi
open Hp W Ad Tm Spc Re Av Rg
open Hd (ints)
open In (kJ af aA oM qL)
open Ino (getM kA Ix ko)
open Bm (fH fA fL allM mo jb uS zT nK bU)
theorem aa6{T T':TM}{n:Nat}{R':List Int}{k v er:Int}(gl:In.kJ h)(dm:uO n)(x:Tx h F t d T)(live:T.over=false)(hR:R.length=15)(g0:∀ b,b<1->¬ F b)(hu:T.ar.length<700000000)(e:fL T (ai n) R k=(T',R',v,er))
  (hK:∀h' F',Fr F h h'->Gw h F h' F'->Tx h' F' t d T'->K (.tuple #[.agg ⟨ints R'⟩,vI v,vI er]) h'):C.mK t (ai n).v (ints R) k h K:=by
 refine Bm.Ej gl dm x live hR g0 hu ?_;rw[e];exact hK
structure Wj(mi:ad)(F:NP)(t d:OA)(g:G)(off:Nat)(s:cL)(T:TM)(R:List Int)(xb lb:Nat)(L:Loop)(a:Nat)(hh:ad)(F':NP)(T':TM)(R':List Int)(k:Nat):Prop where
 fr:Fr (λb=>F b∨b=xb∨b=lb) mi hh
 gw:Gw mi F hh F'
 x:Tx hh F' t d T'
 live:T'.over=false
 lR:R'.length=15
 rx:rd hh xb=ints R'
 ox:dJ hh xb
 on:bX hh lb L .ready none
 hk:s.length<=a+k
 eq:fS g off s s.length 0 T R=fS g off s k a T' R'
 un:T'.ar.length<=T.ar.length+10*a
 ha:a<=s.length
theorem Qk{T:TM}{n:Nat}{i off:Int}{s:cL}(gl:In.kJ h)(dm:uO n)(x:Tx h F t d T)(g0:∀ b,b<1->¬ F b)(hu:T.ar.length<500000000)(ho2:off<=9223372036854775807)(HA:s.length<=9223372036854775807)
  (hK:∀h' F',Fr F h h'->Gw h F h' F'->Tx h' F' t d (iW T (ai n) i off s).1->K (vI (iW T (ai n) i off s).2) h'):C.oD t (ai n).v i off (mkStr s) h K:=by
 have kY:=λb (hb:F b)=>x.lt hb;have WO:=gl.lt
 have same:∀e h',Fr No h h'->iW T (ai n) i off s=(T,e)->K (vI e) h':=λe h' f e0=>by
  rw[e0]at hK;exact hK h' F (f.mono λ_ _ y=>y.elim) (Gw.refl f.size λb hb=>x.lt hb) (x.no f)
 refine oD.ok (az.intro λh2 n2=>az.intro λh3 n3=>az.intro λh4 n4=>az.intro λh5 n5=>?_);have z2:=n2.size;have z3:=n3.size;have z4:=n4.size;have z5:=n5.size;have F5:Fr No h h5:=((n2.fr.new n3).new n4).new n5;refine cd (λwA=>ru n5.own n5.rd λh6 d6=>⟨_,cI d6.rd rfl,same 1 h6 (F5.did d6 λhl=>by omega) (by unfold iW;rw[if_pos wA])⟩) λwA=>?_;have rt5:rd h5 h.size=[vP t]:=(n5.at_).trans ((n4.at_).trans ((n3.at_).trans n2.rd));have M0:rd h5 h2.size=(ai n).v:=(n5.at_).trans ((n4.at_).trans n3.rd);have rs5:rd h5 h3.size=[.string (mkStr s)]:=(n5.at_).trans n4.rd;have lR:=sZ T (ai n) i;refine⟨t,cI rt5 rfl,(ai n).v,rfl,ah M0,tX (gl.no F5) (x.no F5) (QQ dm) λh7 f7=>⟨_,_,rfl,aM.intro (by rw[af,lR]) (aA _) rfl λh9 n9=>?_⟩⟩;have z7:=f7.size;have z9:=n9.size;have F9:Fr No h h9:=(F5.no f7).new n9;have q9:∀b,b<h5.size->rd h9 b=rd h5 b:=λb hb=>(n9.at_).trans (f7.rd hb λy=>y);refine ru (n9.ow (f7.own (by omega) (λy=>y) n5.own)) ((q9 _ (by omega)).trans n5.rd) λcB d10=>⟨_,cI d10.rd rfl,?_⟩;have WJ:=d10.size;have JX:Fr No h cB:=F9.did d10 λhl=>by omega
 have Gm:∀b,b<h5.size->b≠h4.size->rd cB b=rd h5 b:=λb hb hn=>(d10.at_ (by omega) hn).trans (q9 b hb)
 have ret:∀v,iW T (ai n) i off s=(T,v)->aO (bA h4) (vI v) cB λh9=>∃(res:Int),cellOf h9 (bA h4)=some (vI res)/\K (vI res) h9:=λv hv=>
  ru d10.own d10.rd λh9 d9=>⟨_,cI d9.rd rfl,same v h9 (JX.did d9 λhl=>by omega) hv⟩
 refine cn (λhe=>⟨_,cI d10.rd rfl,ret _ (by unfold iW;rw[if_neg wA,if_pos he])⟩) λhe=>?_;have live:=xp he;have Xl:rd cB h3.size=[.string (mkStr s)]:=(Gm _ (by omega) (by omega)).trans rs5;have ae7:rd cB h.size=[vP t]:=(Gm _ (by omega) (by omega)).trans rt5;refine⟨_,cI Xl rfl,?_⟩;rw[show(mkStr s).size=s.length from rfl,wq (8459264-off)];refine cd (λvq=>ret _ (by unfold iW;rw[if_neg wA,if_neg (λy=>y he),if_pos vq])) λvq=>⟨_,cI Xl rfl,?_⟩;rw[toList_mkStr,toList_mkStr]
 by_cases Fw:s=[]
 ·exact ct (by rw[Fw];rfl) (ret _ (by unfold iW;rw[if_neg wA,if_neg (λy=>y he),if_neg vq,if_pos Fw]))
 refine cf (by rw[beq_eq_false_iff_ne];exact Fw) ?_;have ec:iW T (ai n) i off s=pL T (pP T (ai n) i (dq T (ai n) i).1 off.toNat s):=by unfold iW;rw[if_neg wA,if_neg (λy=>y he),if_neg vq,if_neg Fw]
 rw[ec]at hK;clear same ret ec;obtain⟨nZ,eo⟩:∃k:Nat,off=k:=⟨off.toNat,by omega⟩;rw[eo,tN0]at hK;have hb:nZ+s.length<=8459264:=by omega
 have Xm:rd cB h7.size=ints (dq T (ai n) i).1:=(d10.at_).trans n9.rd;have ox10:dJ cB h7.size:=d10.ow n9.own;clear Xm;have Xm:rd cB h7.size=ints (dq T (ai n) i).1:=(d10.at_).trans n9.rd;generalize(dq T (ai n) i).1=R at hK lR Xm n9;refine⟨t,cI ae7 rfl,wZ (x.no JX) λub tb mb cM f14 l1 l2 l3 ud=>⟨_,[],_,rfl,_,cI ((f14.r0).trans Xl) rfl,?_⟩⟩;have Sg:=f14.size;have lud:=ud.lt;rw[eo,show(mkStr s).size=s.length from rfl];refine mJ.ok (az.intro λae8 Ue=>az.intro λfg n15=>⟨_,rfl,λL rounds=>?_⟩);have z15a:=Ue.size;have kS:=n15.size;have F15:Fr No h fg:=((JX.no f14).new Ue).new n15;have Fb:=AP fg L;have on0:=AQ fg L;have d0:=DV fg L;have zb:(cE fg L).size=fg.size+2:=sU _ _;have F0:Fr No h (cE fg L):=F15.no Fb;have aa7:Fr No cB (cE fg L):=((f14.new Ue).new n15).no Fb;have f14b:Fr No cM (cE fg L):=((Fr.refl No cM).new Ue |>.new n15).no Fb;have qb:∀b,b<cB.size->rd (cE fg L) b=rd cB b:=λb hb=>aa7.rd hb λy=>y;have rt:rd (cE fg L) h.size=[vP t]:=(qb _ (by omega)).trans ae7;have rg:rd (cE fg L) h2.size=(ai n).v:=(qb _ (by omega)).trans ((Gm _ (by omega) (by omega)).trans M0);have rs:rd (cE fg L) h3.size=[.string (mkStr s)]:=(qb _ (by omega)).trans Xl;have re:rd (cE fg L) h4.size=[vI _]:=(qb _ (by omega)).trans d10.rd;have oe:dJ (cE fg L) h4.size:=aa7.own (by omega) (λy=>y) d10.own;have rx:rd (cE fg L) h7.size=ints R:=(qb _ (by omega)).trans Xm;have ox:dJ (cE fg L) h7.size:=aa7.own (by omega) (λy=>y) ox10;have rco:rd (cE fg L) cM.size=[vI (nZ:Int)]:=(Fb.r0).trans ((n15.at_).trans Ue.rd);have rcn:rd (cE fg L) ae8.size=[vI (s.length:Int)]:=(Fb.r0).trans n15.rd;have udb:Ud (cE fg L) ub tb mb h4.size t T.mark.1:=ud.fr f14b (λy=>y) (λy=>y) λy=>y;have glb:=gl.no F0;have xb:=x.no F0;generalize hbe:cE fg L=mi at *;obtain⟨lb,el⟩:∃lb,fg.size+1=lb:=⟨_,rfl⟩;rw[el]at rounds on0 ⊢;obtain⟨db,ed⟩:∃db,fg.size=db:=⟨_,rfl⟩;rw[ed]at d0 ⊢;obtain⟨xbk,ex⟩:∃xbk,h7.size=xbk:=⟨_,rfl⟩;have hxb:h5.size<=xbk/\xbk<cM.size/\xbk≠ub/\xbk≠tb/\xbk≠mb:=by omega
 have nF:∀b,h.size<=b->¬F b:=λb hb y=>by have:=kY b y;omega
 show C.jy (.func (.yield lb) #[] #[]) (some (bA ae8)) (some (bA cM)) mi _
 -- what the call has about it when the loop is left
 have nG:∀b,h.size<=b->b≠h7.size->b≠lb->b≠h4.size->b≠db->¬(F b∨b=h7.size∨b=lb∨b=h4.size∨b=db):=λb h1 h2 h3 h4 h5 y=>by
  rcases y with y|y
  ·exact nF b h1 y
  ·omega
 have ae9:∀hh F' e,Fr (λb=>F b∨b=h7.size∨b=lb∨b=h4.size∨b=db) mi hh->Gw mi F hh F'->dJ hh h4.size->rd hh h4.size=[vI e]->Env h F t T.mark.1 (ai n) h2.size h4.size ub tb mb hh F' e:=λhh F' e f w o r=>by
  have n0:∀b,h.size<=b->b<mi.size->¬F' b:=λb h1 h2 y=>nF b h1 ((w.old b h2).mp y)
  refine⟨WO,g0,(F0.mono λ_ _ y=>y.elim).trans f λb hb y=>?_,⟨λb hb=>w.old b (by have:=F0.size;omega),w.lt⟩,glb.fr f λb hb y=>?_,(f.rd (by omega) (nG _ (by omega) (by omega) (by omega) (by omega) (by omega))).trans rg,o,r,
   udb.fr f (nG _ (by omega) (by omega) (by omega) (by omega) (by omega)) (nG _ (by omega) (by omega) (by omega) (by omega) (by omega)) (nG _ (by omega) (by omega) (by omega) (by omega) (by omega)),
   ⟨n0 _ (by omega) (by omega),n0 _ (by omega) (by omega),n0 _ (by omega) (by omega),n0 _ (by omega) (by omega),n0 _ (by omega) (by omega)⟩,⟨by omega,by omega,by omega,by omega⟩,by omega⟩
  ·rcases y with y|y
   ·exact y
   ·omega
  ·rcases y with y|y
   ·exact g0 b hb y
   ·omega
 have fin:∀E7 F' T' e,Fr (λb=>F b∨b=h7.size∨b=lb∨b=h4.size) mi E7->Gw mi F E7 F'->Tx E7 F' t d T'->dJ E7 h4.size->rd E7 h4.size=[vI e]->T'.ar.length<1000000000->pL T (pP T (ai n) i R nZ s)=(if e≠0 then(T'.back T.mark.1).1 else T',e)->
   zd db E7 λBD=>og Tryz.prog (.func (.func 215) ⟨[]⟩ ⟨En ub tb mb⟩) [] BD λLR=>∃(lF:Int),cellOf LR (bA h4)=some (vI lF)/\K (vI lF) LR:=λE7 F' T' e f w x' o r O4 he=>by
  rw[he]at hK;have n0:∀b,h.size<=b->b<mi.size->¬F' b:=λb h1 h2 y=>nF b h1 ((w.old b h2).mp y);refine yD ((f.same db (by omega) λy=>?_).trans d0) λBD z35 f35=>?_
  ·rcases y with y|y
   ·exact nF _ (by omega) y
   ·omega
  have f':Fr (λb=>F b∨b=h7.size∨b=lb∨b=h4.size∨b=db) mi BD:=(f.mono λb _ y=>by rcases y with y|y|y|y <;> simp[y]).trans f35 λb _ y=>.inr (.inr (.inr (.inr y)));have E:=ae9 BD F' e f' ⟨w.old,λb hb=>by rw[z35];exact w.lt b hb⟩ (f35.own o.lt (by omega) o) ((f35.rd o.lt (by omega)).trans r);exact E.leave (x'.fr f35 λb hb y=>n0 _ (by omega) (by omega) (y▸hb)) O4 λh' f' g' x'=>hK h' F' f' g' x'
 -- the loop is left with an error
 have afa:∀jR F' T' e,bX jR lb L .busy none->Fr (λb=>F b∨b=h7.size∨b=lb∨b=h4.size) mi jR->Gw mi F jR F'->Tx jR F' t d T'->dJ jR h4.size->rd jR h4.size=[vI e]->T'.ar.length<1000000000->pL T (pP T (ai n) i R nZ s)=(if e≠0 then(T'.back T.mark.1).1 else T',e)->
   yn (dr jR lb L .done (some .ret)) lb L .exhausted (some .ret) λRV=>zd db RV λBD=>og Tryz.prog (.func (.func 215) ⟨[]⟩ ⟨En ub tb mb⟩) [] BD λLR=>∃(lF:Int),cellOf LR (bA h4)=some (vI lF)/\K (vI lF) LR:=λjR F' T' e on f w x' o r O4 he=>by
  have n0:∀b,h.size<=b->b<mi.size->¬F' b:=λb h1 h2 y=>nF b h1 ((w.old b h2).mp y);have t24:=gq (rJ on) L .done (some .ret);have z24:=t24.size;have zl:=rJ on;refine mR (by omega) λRV t37=>?_;have z37:=t37.size;refine fin RV F' T' e ((f.trans t24.fr λb _ y=>.inr (.inr (.inl y))).trans t37.fr λb _ y=>.inr (.inr (.inl y))) ⟨w.old,λb hb=>by have:=w.lt b hb;omega⟩ ((x'.fr t24.fr λb hb y=>n0 _ (by omega) (by omega) (y▸hb)).fr t37.fr λb hb y=>n0 _ (by omega) (by omega) (y▸hb)) ?_ ?_ O4 he
  ·exact t37.fr.own (by have:=o.lt;omega) (by omega) (t24.fr.own o.lt (by omega) o)
  ·exact(t37.fr.rd (by have:=o.lt;omega) (by omega)).trans ((t24.fr.rd o.lt (by omega)).trans r)
 have afb:∀T' R' e,e≠0->fS (ai n) nZ s s.length 0 T R=((T',R'),e)->pL T (pP T (ai n) i R nZ s)=(if e≠0 then(T'.back T.mark.1).1 else T',e):=λT' R' e he h=>by
  have eB:pP T (ai n) i R nZ s=(T',e):=by unfold pP;rw[h,if_pos he]
  rw[eB,if_pos he];exact if_pos he
 refine GZ (off:=nZ) (n:=s.length) (by omega) (λa hh=>∃F' T' R' k,Wj mi F t d (ai n) nZ s T R h7.size lb L a hh F' T' R' k) (λa hh J=>?_) (λa hh h' J ha f' r' l'=>?_) ⟨F,T,R,s.length,Fr.refl _ _,Gw.refl nL0 (λb hb=>xb.lt hb),xb,live,lR,rx,ox,on0,by omega,rfl,by omega,nZ0⟩ λhh J=>?_
 ·obtain⟨F',T',R',k,W⟩:=J;have:=W.fr.size;refine⟨(W.fr.rd (by omega) λy=>?_).trans rcn,(W.fr.rd (by omega) λy=>?_).trans rco,by omega,by omega⟩
  ·rcases y with y|y
   ·exact nF _ (by omega) y
   ·omega
  ·rcases y with y|y
   ·exact nF _ (by omega) y
   ·omega
 ·-- a round
  obtain⟨F',T',R',k,W⟩:=J;have zf:=W.fr.size;have zf':=f'.size;have lF':=λb (hb:F' b)=>W.x.lt hb;obtain⟨k,rfl⟩:∃k',k=k'+1:=⟨k-1,by have:=W.hk;omega⟩;refine rounds (vg nZ s.length a) h' _ (eN W.on f' λy=>y) (aM.intro rfl (by intro v hv;simp only[vg,List.mem_cons,List.not_mem_nil,or_false]at hv;rcases hv with rfl|rfl|rfl|rfl <;> rfl) rfl λma n18=>⟨eN (eN W.on f' λy=>y) n18.fr λy=>y,mR (by have:=n18.size;omega) λgm t19=>?_⟩);have z18:=n18.size;have z19:=t19.size;have n0:∀b,h.size<=b->b<mi.size->¬F' b:=λb h1 h2 y=>nF b h1 ((W.gw.old b h2).mp y);have f19:Fr (λb=>F b∨b=h7.size∨b=lb) mi gm:=((W.fr.no f').new n18).trans t19.fr λb hb y=>.inr (.inr y)
  have nH:∀b,h.size<=b->b≠h7.size->b≠lb->¬(F b∨b=h7.size∨b=lb):=λb h1 h2 h3 y=>by
   rcases y with y|y
   ·exact nF b h1 y
   ·omega
  have q19:∀b,h.size<=b->b<mi.size->b≠h7.size->b≠lb->rd gm b=rd mi b:=λb h0 hb h1 h2=>f19.rd hb (nH b h0 h1 h2);have Yn:rd gm h'.size=vg nZ s.length a:=(t19.fr.rd (by omega) (by omega)).trans n18.rd;have p19:rd gm hh.size=rd h' hh.size:=(t19.fr.rd (by omega) (by omega)).trans (n18.at_);have QN:Tx gm F' t d T':=((W.x.no f').no n18.fr).fr t19.fr λb hb y=>n0 _ (by omega) (by omega) (y▸hb);have afc:Gw mi F gm F':=⟨W.gw.old,λb hb=>QN.lt hb⟩
  have gl19:In.kJ gm:=glb.fr f19 λb hb y=>by
   rcases y with y|y
   ·exact g0 b hb y
   ·omega
  have afd:∀b,b<1->¬F' b:=λb hb y=>g0 b hb ((W.gw.old b (by omega)).mp y);have afe:rd gm h7.size=ints R':=(t19.fr.rd (by omega) (by omega)).trans ((n18.at_).trans ((f'.r0).trans W.rx));have ox19:dJ gm h7.size:=t19.fr.own (by omega) (by omega) (n18.ow (f'.own (by omega) (λy=>y) W.ox));have un19:=W.un;have ha2:=W.ha;have aa9:∀b,hh.size<=b->¬F' b:=λb hb y=>by have:=lF' b y;omega
  refine⟨t,cI ((q19 _ (by omega) (by omega) (by omega) (by omega)).trans rt) rfl,(ai n).v,rfl,ah ((q19 _ (by omega) (by omega) (by omega) (by omega)).trans rg),_,by rw[af,W.lR],ah afe,_,bJ Yn rfl,?_⟩;obtain⟨T2,R2,v,e,ea⟩:∃T2 R2 v e,fL T' (ai n) R' ((nZ+a)/512:Nat)=(T2,R2,v,e):=⟨_,_,_,_,rfl⟩;have l2:R2.length=15:=by have:=KP (T:=T') (g:=ai n) (k:=((nZ+a)/512:Nat)) W.lR;rw[ea]at this;exact this
  have un2:T2.ar.length<=T'.ar.length+9:=by have:=zT (T:=T') (g:=ai n) (R:=R') (k:=((nZ+a)/512:Nat));rw[ea]at this;exact this
  have ew:=W.eq.trans (wD ha ea);refine aa6 gl19 dm QN W.live W.lR afd (by omega) ea λiK F2 f20 g20 x20=>⟨_,_,_,rfl,aM.intro (by rw[af,l2]) (aA _) rfl λnD n22=>?_⟩;have z20:=f20.size;have z22:=n22.size;have aff:Gw mi F iK F2:=afc.trans g20 f19.size;have n2F:∀b,h.size<=b->b<mi.size->¬F2 b:=λb h1 h2 y=>nF b h1 ((aff.old b h2).mp y);have fF:∀{G:NP} {ha hb:ad} {Fx:NP},Fr (λb=>F b∨b=h7.size∨b=lb) mi ha->Gw mi F ha Fx->Fr Fx ha hb->Fr (λb=>F b∨b=h7.size∨b=lb) mi hb:=λfa ga fb=>fa.trans fb λb hb y=>.inl ((ga.old b hb).mp y);have f20':Fr (λb=>F b∨b=h7.size∨b=lb) mi iK:=f19.trans f20 λb hb y=>.inl ((afc.old b hb).mp y);have f22:=f20'.new n22;have UC:∀b,h.size<=b->b<mi.size->b≠h7.size->b≠lb->rd nD b=rd mi b:=λb h0 hb h1 h2=>f22.rd hb (nH b h0 h1 h2);have w22:∀b,h.size<=b->b<mi.size->b≠h7.size->b≠lb->dJ mi b->dJ nD b:=λb h0 hb h1 h2 o=>f22.own hb (nH b h0 h1 h2) o;have QP:=x20.no n22.fr;have aba:Gw mi F nD F2:=⟨aff.old,λb hb=>QP.lt hb⟩;have abb:bX nD lb L .busy none:=eN (eN t19.on f20 (n0 _ (by omega) (by omega))) n22.fr λy=>y;have r22:rd nD h'.size=vg nZ s.length a:=(n22.at_).trans ((f20.rd (by omega) (aa9 _ (by omega))).trans Yn);have p22:rd nD hh.size=rd h' hh.size:=(n22.at_).trans ((f20.rd (by omega) (aa9 _ (by omega))).trans p19);have sF:∀{b:Nat},b=h4.size->(F b∨b=h7.size∨b=lb∨b=h4.size):=λy=>.inr (.inr (.inr y));have wid:∀{hx:ad},Fr (λb=>F b∨b=h7.size∨b=lb) mi hx->Fr (λb=>F b∨b=h7.size∨b=lb∨b=h4.size) mi hx:=λf=>f.mono λb _ y=>by rcases y with y|y|y <;> simp[y]
  -- an error
  have err:∀hx Fx Tx' ex,ex≠0->Fr (λb=>F b∨b=h7.size∨b=lb) mi hx->Gw mi F hx Fx->Tx hx Fx t d Tx'->bX hx lb L .busy none->Tx'.ar.length<1000000000->(∃Rx,fS (ai n) nZ s s.length 0 T R=((Tx',Rx),ex))->∀P:HP,
    (∀jR,bX jR lb L .busy none->(yn (dr jR lb L .done (some .ret)) lb L .exhausted (some .ret) λRV=>zd db RV λBD=>og Tryz.prog (.func (.func 215) ⟨[]⟩ ⟨En ub tb mb⟩) [] BD λLR=>∃(lF:Int),cellOf LR (bA h4)=some (vI lF)/\K (vI lF) LR)->P jR)->
    aO (bA h4) (vI ex) hx P:=λhx Fx Tx' ex he fx gx xx onx hux hw P hP=>by
   have n3:∀b,h.size<=b->b<mi.size->¬Fx b:=λb h1 h2 y=>nF b h1 ((gx.old b h2).mp y);refine ru (fx.own (by omega) (nH _ (by omega) (by omega) (by omega)) oe) ((fx.rd (by omega) (nH _ (by omega) (by omega) (by omega))).trans re) λjR d23=>?_;have z23:=d23.size;have afh:=eN onx d23.fr (by omega);obtain⟨Rx,hw⟩:=hw;exact hP jR afh (afa jR Fx Tx' ex afh ((wid fx).trans d23.fr λb _ y=>sF y) ⟨gx.old,λb hb=>by rw[z23];exact gx.lt b hb⟩ (xx.fr d23.fr λb hb y=>n3 _ (by omega) (by omega) (y▸hb)) d23.own d23.rd hux (afb _ Rx _ he hw))
  refine cn (λhe=>?_) λhe=>?_
  ·rw[if_pos he]at ew;exact err nD F2 T2 e he f22 aba QP abb (by omega) ⟨R',ew⟩ _ λjR on hs=>⟨on,.inr ⟨rfl,.done,some .ret,sk (rJ on) L _ _,by decide,hs⟩⟩
  rw[if_neg (λy=>y he)]at ew;refine⟨t,cI ((UC _ (by omega) (by omega) (by omega) (by omega)).trans rt) rfl,Tm.cD QP λa1 l1 c1 mu f24 hl KG=>⟨_,_,_,_,rfl,cn (λhr=>?_) λhr=>?_⟩⟩
  ·rw[if_pos hr]at ew;exact err mu F2 T2 _ hr (f22.no f24) ⟨aba.old,λb hb=>(QP.no f24).lt hb⟩ (QP.no f24) (eN abb f24 λy=>y) (by omega) ⟨R',ew⟩ _ λjR on hs=>⟨on,.inr ⟨rfl,.done,some .ret,sk (rJ on) L _ _,by decide,hs⟩⟩
  rw[if_neg (λy=>y hr)]at ew;have hlen:(T2.read v).1.length=512:=Tx.gX QP hr;obtain⟨t1,t2⟩:=toP_gt (off:=nZ) ha;have z24:=f24.size;have hc:=KG.le;have YL:rd mu h'.size=vg nZ s.length a:=(f24.r0).trans r22;generalize hrd:(T2.read v).1=bs at hl KG hlen ew;obtain⟨p0,ep,_⟩:=KG.get (by omega);subst ep;obtain⟨pb,po,sp⟩:=p0;have DX:sp=none:=KG.2.1;subst DX;have GR:nD.size<=pb:=KG.2.2.1;refine⟨_,bJ YL rfl,_,bJ YL rfl,⟨by omega,by omega,by omega⟩,_,cI ((f24.r0).trans ((UC _ (by omega) (by omega) (by omega) (by omega)).trans rs)) rfl,_,bJ YL rfl,⟨by omega,by show(a:Int)<=(s.length:Int);omega⟩,?_⟩;rw[tN0,tN0,tN0,if_neg (by omega),show(mkStr s).size=s.length from rfl,extract_mk];show rP _ (some (Addr.add ⟨pb,po,none⟩ _)) _ _ _ _;rw[bm];obtain⟨w24,l24⟩:=KG.wr;have tn:toP nZ s.length a-(nZ+a)%512<=s.length-a:=by unfold toP;omega
  have M7:((s.drop a).take (toP nZ s.length a-(nZ+a)%512)).length=toP nZ s.length a-(nZ+a)%512:=by rw[lT0,lD0];omega
  refine TT rfl (m:=toP nZ s.length a-(nZ+a)%512) (new:=(s.drop a).take (toP nZ s.length a-(nZ+a)%512)) ?_ ?_ M7 w24 (by omega) λqu d26=>?_
  ·show min ((s.drop a).take (s.length-a)).length _=_;rw[lT0,lD0];omega
  ·rw[toList_mkStr,List.take_take];congr 1;omega
  generalize(s.drop a).take (toP nZ s.length a-(nZ+a)%512)=new at ew M7 d26
  have s26:Sl qu 1 (some ⟨pb,po,none⟩) l1 c1 ((iH bs ((nZ+a)%512) new).map bv) (dG nD.size):=by
   have:=KG.putAt (new:=new.map bv) (j:=(nZ+a)%512) (by rw[lM0,M7];omega) d26;rw[qD (by rw[hlen,M7];omega)]at this;exact this
  have z26:=d26.size;have f26:Fr (λb=>F b∨b=h7.size∨b=lb) mi qu:=(f22.no f24).did d26 λy=>by omega
  have x26:Tx qu F2 t d T2:=(QP.no f24).fr d26.fr λb hb y=>by have:=QP.lt hb;omega
  have afi:Gw mi F qu F2:=⟨aba.old,λb hb=>x26.lt hb⟩;have MU:bX qu lb L .busy none:=eN (eN abb f24 λy=>y) d26.fr (by omega);have un3:=jb T2 v (iH bs ((nZ+a)%512) new);refine⟨t,cI ((f26.rd (by omega) (nH _ (by omega) (by omega) (by omega))).trans rt) rfl,Tm.eF x26 s26.str (by omega) (λq eq y=>?_) (by omega) λtx F3 f27 g27 YT=>⟨_,rfl,?_⟩⟩
  ·cases eq
   have y:F2 pb:=y;have:=QP.lt y;omega
  have z27:=f27.size;have abc:Gw mi F tx F3:=afi.trans g27 f26.size;have afj:Fr (λb=>F b∨b=h7.size∨b=lb) mi tx:=f26.trans f27 λb hb y=>.inl ((afi.old b hb).mp y);have TS:bX tx lb L .busy none:=eN MU f27 (n2F _ (by omega) (by omega));refine cn (λhw=>?_) λhw=>?_
  ·rw[if_pos hw]at ew;exact err tx F3 _ _ hw afj abc YT TS (by omega) ⟨R',ew⟩ _ λjR on hs=>⟨on,.inr ⟨rfl,.done,some .ret,sk (rJ on) L _ _,by decide,hs⟩⟩
  rw[if_neg (λy=>y hw)]at ew;have nF2y:∀b,gm.size<=b->iK.size<=b->¬F2 b:=λb _ h2 y=>by have:=x20.lt y;omega
  have y27:rd tx iK.size=ints R2:=(f27.rd (by omega) λy=>by have:=x20.lt y;omega).trans ((d26.at_).trans ((f24.r0).trans n22.rd));have n2x:¬F2 h7.size:=n2F _ (by omega) (by omega);have n3F:∀b,h.size<=b->b<mi.size->¬F3 b:=λb h1 h2 y=>nF b h1 ((abc.old b h2).mp y);have e7:rd tx h7.size=ints R':=(f27.rd (by omega) n2x).trans ((d26.at_).trans ((f24.r0).trans ((n22.at_).trans ((f20.rd (by omega) (n0 _ (by omega) (by omega))).trans afe))));have o7:dJ tx h7.size:=f27.own (by omega) n2x (d26.ow (f24.own (by omega) (λy=>y) (n22.ow (f20.own (by omega) (n0 _ (by omega) (by omega)) ox19))));refine⟨_,by rw[af,l2],ah y27,ax.intro o7 (by rw[af,l2]) (aA _) (by rw[e7,af,W.lR];decide) λIV d29=>?_⟩;have z29:=d29.size;have afk:=eN TS d29.fr (by omega);have t30:=gq (rJ afk) L .ready none;have z30:=t30.size;have x30:Tx (dr IV lb L .ready none) F3 t d _:=(YT.fr d29.fr λb hb y=>n3F _ (by omega) (by omega) (y▸hb)).fr t30.fr λb hb y=>n3F _ (by omega) (by omega) (y▸hb);obtain⟨ov,_,_,_,_,ewr⟩:=TM.wg hw;refine⟨afk,.inl ⟨rfl,⟨F3,_,R2,k,?_,⟨abc.old,λb hb=>x30.lt hb⟩,x30,?_,l2,?_,?_,t30.on,?_,ew,?_,(qP ha).2⟩,?_⟩⟩
  ·exact(afj.trans d29.fr λb _ y=>.inr (.inl y)).trans t30.fr λb _ y=>.inr (.inr y)
  ·rw[ewr];exact ov
  ·refine(t30.fr.rd (by omega) (by omega)).trans (d29.rd.trans ?_);rw[e7];exact dC _ _ (by rw[af,af,l2,W.lR])
  ·exact t30.fr.own (by omega) (by omega) d29.own
  ·have:=(qP (off:=nZ) ha).1;have:=W.hk;omega
  ·have:=(qP (off:=nZ) ha).1;omega
  ·refine(t30.fr.rd (by omega) (by omega)).trans ((d29.at_).trans ((f27.rd (by omega) λy=>?_).trans ((d26.at_).trans ((f24.r0).trans p22))));have hy:hh.size<gm.size:=(by omega);exact aa9 _ nL0 ((g20.old _ hy).mp y)
 ·-- all is written
  obtain⟨F',T',R',k,W⟩:=J;have zf:=W.fr.size;have ew:=W.eq.trans (wC nL0 _);have n0:∀b,h.size<=b->b<mi.size->¬F' b:=λb h1 h2 y=>nF b h1 ((W.gw.old b h2).mp y)
  have nH:∀b,h.size<=b->b≠h7.size->b≠lb->¬(F b∨b=h7.size∨b=lb):=λb h1 h2 h3 y=>by
   rcases y with y|y
   ·exact nF b h1 y
   ·omega
  refine⟨.ready,none,W.on,by decide,AR (mR (by omega) λwQ t31=>?_)⟩;have z31:=t31.size;have f31:Fr (λb=>F b∨b=h7.size∨b=lb) mi wQ:=W.fr.trans t31.fr λb _ y=>.inr (.inr y);have abd:rd wQ h7.size=ints R':=(t31.fr.rd (by omega) (by omega)).trans W.rx;have ox31:dJ wQ h7.size:=t31.fr.own (by omega) (by omega) W.ox;have x31:Tx wQ F' t d T':=W.x.fr t31.fr λb hb y=>n0 _ (by omega) (by omega) (y▸hb);refine⟨_,bJ abd (iaT (by rw[W.lR];decide)),_,cI ((f31.rd (by omega) (nH _ (by omega) (by omega) (by omega))).trans rs) rfl,?_⟩
  have emx:(if(wI ((nZ:Int)+((mkStr s).size:Int)))>R'.getD (0+2) 0 then(wI ((nZ:Int)+((mkStr s).size:Int)))else R'.getD (0+2) 0)=max (R'.getD 2 0) ((nZ+s.length:Nat):Int):=by
   have e2:R'.getD (0+2) 0=R'.getD 2 0:=rfl;rw[e2,show(mkStr s).size=s.length from rfl,wrap_i64 (by omega) (by omega)]
   split <;> omega
  rw[emx];refine aO.add ox31 (by rw[abd,af,W.lR];decide) λDr d32=>?_;have z32:=d32.size;have rx32:rd Dr h7.size=ints (R'.set 2 (max (R'.getD 2 0) ((nZ+s.length:Nat):Int))):=by rw[d32.rd,abd];exact ints_set
  have f32:Fr (λb=>F b∨b=h7.size∨b=lb) mi Dr:=f31.trans d32.fr λb _ y=>.inr (.inl y);have x32:Tx Dr F' t d T':=x31.fr d32.fr λb hb y=>n0 _ (by omega) (by omega) (y▸hb);have lS:(R'.set 2 (max (R'.getD 2 0) ((nZ+s.length:Nat):Int))).length=15:=by rw[List.length_set,W.lR]
  have eB:pP T (ai n) i R nZ s=kA T' (ai n) i (R'.set 2 (max (R'.getD 2 0) ((nZ+s.length:Nat):Int))):=by unfold pP;rw[ew];exact if_neg (λy=>y rfl)
  have gl32:In.kJ Dr:=glb.fr f32 λb hb y=>by
   rcases y with y|y
   ·exact g0 b hb y
   ·omega
  have un:=W.un;have unp:=Iy (T:=T') (g:=ai n) (n:=i) (R:=R'.set 2 (max (R'.getD 2 0) ((nZ+s.length:Nat):Int)));have afl:Gw mi F Dr F':=⟨W.gw.old,λb hb=>x32.lt hb⟩;refine⟨t,cI ((f32.rd (by omega) (nH _ (by omega) (by omega) (by omega))).trans rt) rfl,(ai n).v,rfl,ah ((f32.rd (by omega) (nH _ (by omega) (by omega) (by omega))).trans rg),_,by rw[af,lS],ah rx32,Ino.lO gl32 x32 (QQ dm) lS (by omega) λIW F3 f33 g33 x33=>⟨_,rfl,?_⟩⟩;have z33:=f33.size;have abe:Gw mi F IW F3:=afl.trans g33 f32.size;have abf:Fr (λb=>F b∨b=h7.size∨b=lb) mi IW:=f32.trans f33 λb hb y=>.inl ((afl.old b hb).mp y);have n3F:∀b,h.size<=b->b<mi.size->¬F3 b:=λb h1 h2 y=>nF b h1 ((abe.old b h2).mp y);refine ru (abf.own (by omega) (nH _ (by omega) (by omega) (by omega)) oe) ((abf.rd (by omega) (nH _ (by omega) (by omega) (by omega))).trans re) λE7 d34=>?_;have z34:=d34.size;refine fin E7 F3 _ _ ((abf.mono λb _ y=>by rcases y with y|y|y <;> simp[y]).trans d34.fr λb _ y=>.inr (.inr (.inr y))) ⟨abe.old,λb hb=>by rw[z34];exact abe.lt b hb⟩ (x33.fr d34.fr λb hb y=>n3F _ (by omega) (by omega) (y▸hb)) d34.own d34.rd (by omega) ?_;rw[eB];unfold pL
  split
  ·rfl
  ·rename_i hp;have hp:(kA T' (ai n) i (R'.set 2 (max (R'.getD 2 0) ((nZ+s.length:Nat):Int)))).2=0:=Classical.byContradiction hp;exact Prod.ext rfl rfl
end Fi
namespace Fq
open Hp W Ad Tm Bt Spc Av Fi Bm Ino
open Hd (ints)
open In (af aA)
open Tp (CB xk wy)
theorem Xn{c d:Bool}{A B:Prop}(a:c=true∨d=true->A)(b:c=false->d=false->B):bif c then A else bif d then A else B:=by
 cases c with
 | true=>exact a (.inl rfl)
 | false=>
  cases d with
  | true=>exact a (.inr rfl)
  | false=>exact b rfl rfl
theorem xu{T:TM}{g:G}{n:Int}(x:Rx.jc h F r e T)(ok:Ix g)
  (hK:∀h' R,Fr No h h'->R.length=15->((dq T g n).2=0->R=(dq T g n).1)->K (.tuple #[.agg ⟨ints R⟩,vI (dq T g n).2]) h'):C.gA r g.v n h K:=by
 have lR:=ko T g n;refine gA.ok (az.intro λh2 n2=>az.intro λh3 n3=>?_);have z2:=n2.size;have z3:=n3.size;have F3:=n2.fr.new n3;refine⟨g.v,rfl,ah ((n3.at_ n2.own.lt).trans n2.rd),Rx.wv (x.no F3) ok λh4 f4=>⟨_,_,rfl,aM.intro (by rw[af,lR]) (aA _) rfl λh6 n6=>?_⟩⟩;have z4:=f4.size;have z6:=n6.size;have F6:=(F3.no f4).new n6;have o6:dJ h6 h2.size:=n6.ow (f4.own (by omega) (λy=>y) n3.own);have r6:rd h6 h2.size=ints kS:=(n6.at_).trans ((f4.r0).trans n3.rd)
 have put:∀(R:List Int) (k:HP),R.length=15->(∀h7,Fr No h h7->rd h7 h2.size=ints R->k h7)->ax (bA h2) (ints R) 15 h6 k:=λR k hR hk=>by
  refine ax.intro o6 (by rw[af,hR]) (aA _) (by rw[r6,af];decide) λh7 d7=>hk h7 (F6.did d7 λy=>by omega) ?_;rw[d7.rd,r6];exact dC _ _ (by rw[af,af,hR];decide)
 refine cn (λhe=>put kS _ rfl λh7 f7 r7=>⟨ints kS,rfl,ah r7,?_⟩) λhe=>⟨_,bJ n6.rd (iaT (by rw[lR];decide)),ce (λh0=>put kS _ rfl λh7 f7 r7=>⟨ints kS,rfl,ah r7,?_⟩) λh0=>⟨ints (getM T g n).1,by rw[af,lR],ah n6.rd,put _ _ lR λh7 f7 r7=>⟨ints (getM T g n).1,by rw[af,lR],ah r7,?_⟩⟩⟩
 ·have eg:dq T g n=getM T g n:=by unfold dq;rw[if_neg λy=>he y.1]
  rw[eg]at hK;exact hK h7 kS f7 rfl λy=>absurd y he
 ·have eg:dq T g n=((getM T g n).1,110):=by unfold dq;rw[if_pos ⟨he,h0⟩]
  rw[eg]at hK;exact hK h7 kS f7 rfl λy=>absurd (show(110:Int)=0 from y) (by decide)
 ·have eg:dq T g n=getM T g n:=by unfold dq;rw[if_neg λy=>h0 y.2]
  rw[eg]at hK;rw[he]at hK;exact hK h7 _ f7 lR λ_=>rfl
section
variable{h h3 h5 h6 : ad}{F : Nat -> Prop}{r e : OA}{T : TM}{g : G}{R : List Int}{off m : Nat}{K : Value -> ad -> Prop}
def RdI(T:TM)(g:G)(R:List Int)(off m:Nat)(h5:ad)(oa:OA)(ol oc:Nat)(ba:OA)(bl _bc:Nat)(i:Int)(hh:ad):Prop:=
 i=ol/\ol<=m/\Fr No h5 hh/\Sl hh 1 oa ol oc (((List.range ol).map (rb T g R off)).map bv) (dG h5.size)/\(∀j,j<ol->(bk T g R off j).2=0/\(bk T g R off j).1.length=512)/\
  (0<ol->bl=512/\aw hh ba 512 (bk T g R off (ol-1)).1/\∀b,CB ba b->b<hh.size/\¬CB oa b)
theorem OM{oa ba ba2:OA}{oc bl bc bc2:Nat}{cB:ad}(hj:j<m)(hm:off+m<=8459264)(f6:Fr No h5 cB)(s6:Sl cB 1 oa j oc (((List.range j).map (rb T g R off)).map bv) (dG h5.size))
  (hg:∀i,i<=j->(bk T g R off i).2=0/\(bk T g R off i).1.length=512) (B:aw cB ba2 512 (bk T g R off j).1) (ne:∀b,CB ba2 b->b<cB.size/\¬CB oa b) :
  bh.k3 off oa j oc ba bl bc j h6 (RdI T g R off m h5) (λ_ _ _ _ _ _ i _=>((m:Int)-i).toNat) ba2 512 bc2 cB K:=by
 unfold bh.k3;rw[wq ((off:Int)+j),wq ((j:Int)+1)];have em:Int.tmod ((off:Int)+j) 512=(((off+j)%512:Nat):Int):=by rw[show(off:Int)+j=((off+j:Nat):Int) by omega];rfl
 rw[em,tN0];obtain⟨p,ep,cp⟩:=rG B (j:=(off+j)%512) (by have:=(hg j nL0).2;omega);refine⟨⟨by omega,by omega⟩,Rz.oe ep ⟨_,cp,az.intro λbQ n11=>⟨[bv (rb T g R off j)],rfl,ah n11.rd,?_,?_⟩⟩⟩
 ·intro v hv
  rcases List.mem_singleton.mp hv with rfl
  rfl
 ·have Pz:=n11.size;have Fc:=xk (s6.fr n11.fr λ_ _ _ y=>y);refine dh Fc rfl rfl (by show(j+1)*1<=_;omega) (by omega) λa' c' cG f12 QJ=>⟨⟨by omega,by omega,(f6.new n11).trans f12 λb hb y=>?_,?_,λi hi=>hg i (by omega),λ_=>⟨rfl,?_,λb hb=>?_⟩⟩,by show((m:Int)-((j:Int)+1)).toNat<((m:Int)-(j:Int)).toNat;omega⟩
  ·have:h5.size<=b:=(wy s6 y).1;omega
  ·rw[List.range_succ,List.map_append,List.map_append];refine QJ.mono λb y=>?_
   rcases y with y|y
   ·exact(wy s6 y).1
   ·show h5.size<=b;have:=f6.size;omega
  ·rw[Nat.add_sub_cancel];exact aw.fr f12 (aw.fr n11.fr B λ_ _ y=>y) λp e y=>(ne p.block ⟨p,e,rfl⟩).2 y
  ·obtain⟨n1,n2⟩:=ne b hb;have:=f12.size;refine⟨by omega,λy=>?_⟩
   rcases(wy QJ y).1 with w|w
   ·exact n2 w
   ·omega
theorem Ni{n off many:Int}(x:Rx.jc h F r e T)(ok:Ix g)(ho:off<=9223372036854775807)
  (hK:∀h',Fr No h h'->K (.tuple #[.string (mkStr (vh T g n off many).1),vI (vh T g n off many).2]) h'):C.bh r g.v n off many h K:=by
 unfold vh at hK;refine bh.ok (az.intro λh2 n2=>cd (λh0=>?_) λh0=>cd (λh1=>?_) λh1=>?_)
 ·rw[if_pos (.inl h0)]at hK;exact hK h2 n2.fr
 ·rw[if_pos (.inr h1)]at hK;exact hK h2 n2.fr
 rw[if_neg (by omega)]at hK;unfold bh.k1;have z2:=n2.size;refine⟨g.v,rfl,ah n2.rd,xu (x.no n2.fr) ok λh3 R f3 hR e3=>⟨_,_,rfl,aM.intro (by rw[af,hR]) (aA _) rfl λh5 n5=>cn (λhe=>?_) λhe=>?_⟩⟩
 ·rw[if_pos he]at hK;exact hK h5 ((n2.fr.no f3).new n5)
 have sz:=G0 he;rw[if_neg (λy=>y he),<-e3 he]at hK;rw[<-e3 he]at sz;clear e3 he;have z3:=f3.size;have z5:=n5.size;have F5:=(n2.fr.no f3).new n5;generalize es:R.getD 2 0=s at hK sz;obtain⟨o,rfl⟩:∃o:Nat,off=o:=⟨off.toNat,by omega⟩;obtain⟨m,em⟩:∃m:Nat,m=(min many (s-o)).toNat:=⟨_,rfl⟩
 have er:(if(o:Int)>=s then(([]:cL),(0:Int))else nN T g R (o:Int).toNat (min many (s-o)).toNat (min many (s-o)).toNat 0 [])=nN T g R o m m 0 []:=by
  rw[<-em,tN0]
  split
  ·have:m=0:=(by omega);subst this;rfl
  ·rfl
 rw[er]at hK;have hm:o+m<=8459264∨m=0:=by omega
 have M0:rd h5 h.size=g.v:=(n5.at_).trans ((f3.r0).trans n2.rd);have x5:=x.no F5;refine⟨RdI T g R o m h5,λ_ _ _ _ _ _ i _=>((m:Int)-i).toNat,⟨rfl,nZ0,Fr.refl _ _,Sl.nil _ _ _,λj hj=>absurd hj (Nat.not_lt_zero _),λy=>absurd y (Nat.lt_irrefl _)⟩,?_⟩;intro oa j oc ba bl bc i h6 I;obtain⟨rfl,hj,f6,s6,hg,hb⟩:=I;have rR6:rd h6 h3.size=ints R:=(f6.r0).trans n5.rd;have rg6:rd h6 h.size=g.v:=(f6.r0).trans M0;have x6:=x5.no f6;have z6:=f6.size
 have fin:j=m->∃HV:LB,aw h6 oa j HV/\K (.tuple #[.string (mkStr HV),vI 0]) h6:=λej=>by
  subst ej;rw[BR hg j 0 [] (by omega) (by omega) rfl]at hK;exact⟨_,s6.str,hK h6 (F5.no f6)⟩
 refine cd (λbK=>⟨s,bJ rR6 (by have:=iaT (R:=R) (i:=2) (by omega);rw[es]at this;exact this),?_⟩) λbK=>fin (by omega);rw[wq (s-(j:Int))];refine cd (λQl=>?_) λQl=>fin (by omega);have hjm:j<m:=by omega
 have hm:o+m<=8459264:=by omega
 unfold bh.k2;rw[wq ((o:Int)+j)];have em5:Int.tmod ((o:Int)+j) 512=(((o+j)%512:Nat):Int):=by rw[show(o:Int)+j=((o+j:Nat):Int) by omega];rfl
 have ed5:wI (Int.tdiv ((o:Int)+j) 512)=(((o+j)/512:Nat):Int):=by
  rw[show(o:Int)+j=((o+j:Nat):Int) by omega,show Int.tdiv ((o+j:Nat):Int) 512=(((o+j)/512:Nat):Int) from rfl];exact wq _
 rw[em5,ed5];have eb:bk T g R o j=kT T g R ((o+j)/512:Nat):=rfl;unfold kT at eb;refine Xn (λhs=>?_) λe1 e2=>?_
 ·have hs:j=0∨(o+j)%512=0:=by
   rcases hs with y|y
   ·left;have:=eq_of_beq y;omega
   ·right;have:=eq_of_beq y;omega
  have bad:∀{h'},(bk T g R o j).2≠0->Fr No h6 h'->K (.tuple #[.string (mkStr []),vI (bk T g R o j).2]) h':=λy f=>by
   rw[Et hjm y hs (λi hi=>(hg i hi).1) m 0 [] (by omega) nZ0]at hK;exact hK _ (F5.no (f6.no f))
  refine⟨g.v,rfl,ah rg6,ints R,by rw[af,hR],ah rR6,Ry.ue x6 hR λh7 f7=>⟨_,_,rfl,cn (λhe7=>?_) λhe7=>⟨⟨by decide,by decide,by decide,by decide⟩,az.intro λh8 n8=>?_⟩⟩⟩
  ·rw[if_pos he7]at eb;have:=bad (by rw[eb];exact he7) f7;rw[eb]at this;exact this
  ·rw[if_neg (λy=>y he7)]at eb;have z7:=f7.size;have z8:=n8.size;have f8:=f7.new n8
   have EW:∀{ba2:OA} {bc2:Nat} {h9:ad},Fr No h6 h9->h6.size<=h9.size->(bk T g R o j).2=0->(bk T g R o j).1.length=512->aw h9 ba2 512 (bk T g R o j).1->(∀b,CB ba2 b->h6.size<=b/\b<h9.size)->
     bh.k3 o oa j oc ba bl bc j h6 (RdI T g R o m h5) (λ_ _ _ _ _ _ i _=>((m:Int)-i).toNat) ba2 512 bc2 h9 K:=λf9 z9 g1 g2 B9 ne=>by
    refine OM hjm hm (f6.no f9) (s6.fr f9 λ_ _ _ y=>y) (λi hi=>?_) B9 λb hb=>⟨(ne b hb).2,λy=>by have:=(wy s6 y).2;have:=(ne b hb).1;omega⟩
    rcases Nat.lt_or_ge i j with y|y
    ·exact hg i y
    ·have:i=j:=(by omega);subst this;exact⟨g1,g2⟩
   refine cn (λhn=>Rx.cD ((x6.no f7).no n8.fr) λa l c h9 f9 hl s9=>⟨_,_,_,_,rfl,cn (λLn=>?_) λLn=>?_⟩) λhn=>?_
   ·rw[if_neg hn]at eb;have:=bad (by rw[eb];exact Ln) (f8.no f9);rw[eb]at this;exact this
   ·rw[if_neg hn]at eb;have l9:=x6.gX Ln;have el:l=512:=(by omega);subst el;have z9:=f9.size;exact EW (f8.no f9) (by omega) (by rw[eb];exact Ln) (by rw[eb];exact l9) (by rw[eb];exact s9.str) λb hb=>⟨by have:h8.size<=b:=(wy s9 hb).1;omega,(wy s9 hb).2⟩
   ·rw[if_pos hn]at eb;refine EW f8 (by omega) (by rw[eb]) (by rw[eb];exact List.length_replicate) ?_ λb hb=>?_
    ·rw[eb];exact yo (n8.rd.trans AU) List.length_replicate
    ·obtain⟨p,ep,rfl⟩:=hb
     cases ep
     exact⟨by show h6.size<=h7.size;omega,by show h7.size<h8.size;omega⟩
 ·have hj0:j≠0:=λy=>by subst y;exact absurd e1 (by decide)
  have hmod:(o+j)%512≠0:=λy=>by rw[y]at e2;exact absurd e2 (by decide)
  obtain⟨hl,B,ne⟩:=hb (by omega);subst hl;have sm:bk T g R o (j-1)=bk T g R o j:=OI (by omega);rw[sm]at B;have gj:=hg (j-1) (by omega);rw[sm]at gj;refine OM hjm hm f6 s6 (λi hi=>?_) B ne
  rcases Nat.lt_or_ge i j with y|y
  ·exact hg i y
  ·have:i=j:=(by omega);subst this;exact gj
theorem IF{n:Int}(x:Rx.jc h F r e T)(ok:Ix g)(hl:(allM T g (dq T g n).1).1.length<=1000000/\(allM T g (dq T g n).1).2.1.length<=1000000)
  (hK:∀h',Fr No h h'->K (.tuple #[vI (pK T g n).1,vI (pK T g n).2]) h'):C.ik r g.v n h K:=by
 unfold pK at hK;refine ik.ok (az.intro λh2 n2=>?_);have z2:=n2.size;refine⟨g.v,rfl,ah n2.rd,xu (x.no n2.fr) ok λh3 R f3 hR e3=>⟨_,_,rfl,aM.intro (by rw[af,hR]) (aA _) rfl λh5 n5=>cn (λhe=>?_) λhe=>?_⟩⟩
 ·rw[if_pos he]at hK;exact hK h5 ((n2.fr.no f3).new n5)
 rw[if_neg (λy=>y he),<-e3 he]at hK;rw[<-e3 he]at hl;have z3:=f3.size;have F5:=(n2.fr.no f3).new n5;have M0:rd h5 h.size=g.v:=(n5.at_).trans ((f3.r0).trans n2.rd);refine⟨g.v,rfl,ah M0,ints R,by rw[af,hR],ah n5.rd,Ry.El (x.no F5) hR λa1 c1 a2 c2 h6 f6 s1 s2=>⟨_,_,_,_,_,_,_,rfl,cn (λhe6=>?_) λhe6=>?_⟩⟩
 ·rw[if_pos he6]at hK;exact hK h6 (F5.no f6)
 ·rw[if_neg (λy=>y he6)]at hK;rw[wrap_i64 (by omega) (by omega)];exact hK h6 (F5.no f6)
end
end Fq
namespace Bx
open Hp W Ad Tm Spc Re Av
open Hd (ints gn)
open In (af aA zM)
open Bm (mo ki fL fA bU eV kS fQ eO kj yG gJ iV mn qm lQ fI oN sH)
open Rx (jc)
theorem wE{T0 T:TM}(e:Ext T0 T)(g:G):Ext T0 (aP T g).1:=by
 unfold aP
 split
 ·exact MI e _ _
 ·exact e
theorem Hi(g:G){T0:TM}:∀(l:List (Nat×Nat)) (T:TM) (R:List Int) (a:Int),Ext T0 T->Ext T0 (bU g l T R a).1.1:=by
 intro l
 induction l with
 | nil=>intro T R a h;exact h
 | cons s r ih=>
  intro T R a h
  have st:∀T' b v,Ext T0 T'->Ext T0 (Bm.nK T' R s a b v).1.1:=λT' b v h'=>by
   unfold Bm.nK
   split
   ·exact h'
   ·split
    ·exact h'
    ·split
     ·exact h'
     ·exact h'.write _ _
  unfold Bm.bU
  split
  ·exact h
  ·split
   ·split
    ·exact h
    ·exact ih _ _ _ h
   ·split
    ·exact wE h g
    ·split
     ·exact st _ _ _ (wE h g)
     ·split
      ·exact st _ _ _ (wE h g)
      ·split
       ·exact st _ _ _ (wE h g)
       ·exact ih _ _ _ (st _ _ _ (wE h g))
theorem Bg{T0 T:TM}(e:Ext T0 T)(g:G)(v:Int):Ext T0 (eO T g v).1:=by
 unfold Bm.eO
 split
 ·exact e
 ·exact Bm.KH e g v
theorem Bh{T0:TM}(g:G):∀(l:List Nat) (T:TM) (R:List Int),Ext T0 T->Ext T0 (fQ g l T R).1.1
 | [],_,_,e=>e
 | i::r,T,R,e=>by
  unfold Bm.fQ
  split
  ·exact Bh g r T R e
  ·split
   ·exact Bg e _ _
   ·exact Bh g r _ _ (Bg e _ _)
theorem xv{T0:TM}{dM:lQ}{f:Int}(hd:∀ T i v,Ext T0 T->Ext T0 (dM T i v).1):∀(l:List Int) (i:Nat) (S:qm),Ext T0 S.T->Ext T0 (gJ dM f l i S).1.T
 | [],_,_,e=>e
 | v::r,i,S,e=>by
  unfold Bm.gJ
  split
  ·exact xv hd r _ _ e
  ·split
   ·exact xv hd r (i+1) { S with left:=true } e
   ·split
    ·exact hd _ _ _ e
    ·exact xv hd r (i+1) ⟨(dM S.T i v).1,_,_,_⟩ (hd _ _ _ e)
theorem ED{T0:TM}{g:G}{dM:lQ}(hd:∀ T i v,Ext T0 T->Ext T0 (dM T i v).1){T:TM}(e:Ext T0 T)(tab f:Int):Ext T0 (mn dM T g tab f).1:=by
 unfold Bm.mn
 split
 ·exact e
 ·split
  ·exact e
  ·have h:=xv hd (f:=f) (Bm.bI (T.read tab).1) 0 ⟨T,(T.read tab).1,false,false⟩ e;generalize gJ dM f (Bm.bI (T.read tab).1) 0 ⟨T,(T.read tab).1,false,false⟩=C at h;unfold Bm.iV
   split
   ·exact h
   ·split
    ·exact Bm.KH h _ _
    ·split
     ·exact h.write _ _
     ·exact h
theorem Hj{T0:TM}(g:G)(T:TM)(i:Nat)(v:Int)(e:Ext T0 T):Ext T0 (kj g T i v).1:=Bg e g v
theorem Uf{T0:TM}(g:G)(first:Int)(T:TM)(i:Nat)(v:Int)(e:Ext T0 T):Ext T0 (yG g first T i v).1:=ED (Hj g) e _ _
theorem K1{T0 T:TM}(g:G)(k:Int)(R:List Int)(e:Ext T0 T):Ext T0 (Bm.lK g k T R).1.1:=by
 have one:∀T R,Ext T0 T->Ext T0 (oN g k T R).1.1:=λT R e=>by
  unfold Bm.oN
  split
  ·rw[Ry.xr];exact ED (Hj g) e _ _
  ·exact e
 have two:∀T R,Ext T0 T->Ext T0 (sH g k T R).1.1:=λT R e=>by
  unfold Bm.sH
  split
  ·rw[Ry.xr];exact ED (Uf g _) e _ _
  ·exact e
 have d:=Bh g (Bm.mr k) T R e;unfold Bm.lK
 split
 ·exact d
 ·split
  ·exact one _ _ d
  ·exact two _ _ (one _ _ d)
theorem Ug{T:TM}{g:G}{k:Int}(h:T.over=false)(hR:R.length=15):Ext T (fL T g R k).1/\(fL T g R k).2.1.length=15:=by
 have w:=Hi g (eV k.toNat) T R 0 (Ext.refl T);unfold Bm.fL
 split
 ·exact⟨Ext.refl T,rfl⟩
 ·split
  ·show Ext T ((bU g (eV k.toNat) T R 0).1.1.back T.ar.length).1/\_;rw[w.back h];exact⟨Ext.refl T,rfl⟩
  ·exact⟨w,by show(bU g (eV k.toNat) T R 0).1.2.length=15;rw[Fi.uj,hR]⟩
theorem Uh{T:TM}{g:G}{k:Int}(h:T.over=false)(hR:R.length=15):Ext T (fA T g R k).1/\(fA T g R k).2.1.length=15:=by
 have w:=K1 (T0:=T) g k R (Ext.refl T);unfold Bm.fA
 split
 ·exact⟨Ext.refl T,rfl⟩
 ·split
  ·show Ext T ((Bm.lK g k T R).1.1.back T.ar.length).1/\_;rw[w.back h];exact⟨Ext.refl T,rfl⟩
  ·exact⟨w,by show(Bm.lK g k T R).1.2.length=15;rw[Ry.KW,hR]⟩
theorem Xo(T:TM)(g:G)(R:List Int):(Bm.allM T g R).1.length<=1000000/\(Bm.allM T g R).2.1.length<=1000000:=by
 have d:=Bm.zR (dO:=Bm.ug g) (w:=1) (λS i v=>Bm.uR g S i v) ((R.drop 3).take 10) 0 ⟨[],[]⟩;have l10:((R.drop 3).take 10).length<=10:=List.length_take_le ..;have d0:(⟨[],[]⟩:Bm.gL).n=0:=rfl;have one:=λS=>Bm.xo (T:=T) (g:=g) (dO:=Bm.uQ g) (tab:=R.getD 13 0) (S:=S) (w:=1) λS i v=>Bm.uR g S _ v;have two:=λS=>Bm.xo (T:=T) (g:=g) (dO:=Bm.yH T g) (tab:=R.getD 14 0) (S:=S) (w:=129) λS i v=>Bm.xo (T:=T) (g:=g) (dO:=Bm.inD g i) (tab:=v) (S:=S) (w:=1) λS i v=>Bm.uR g S _ v
 have hn:(Bm.sy T g R).1.n<=100000:=by
  unfold Bm.sy
  split
  ·omega
  ·split
   ·have:=one (Bm.fB (Bm.ug g) ((R.drop 3).take 10) 0 ⟨[],[]⟩).1;omega
   ·have a:=one (Bm.fB (Bm.ug g) ((R.drop 3).take 10) 0 ⟨[],[]⟩).1;have b:=two (Bm.fJ T g (Bm.uQ g) (R.getD 13 0) (Bm.fB (Bm.ug g) ((R.drop 3).take 10) 0 ⟨[],[]⟩).1).1;omega
 unfold Bm.gL.n at hn;unfold Bm.allM
 split
 ·exact⟨nZ0,nZ0⟩
 ·exact⟨by show(Bm.sy T g R).1.L.length<=_;omega,by show(Bm.sy T g R).1.M.length<=_;omega⟩
end Bx
namespace Fq
open Hp W Ad Tm Bt Spc Av Fi Bm Ino
open Hd (ints)
open In (af aA)
open Re (iH)
open Tp (CB xk wy)
theorem Qm{xs z:cL}(h:o+z.length<=xs.length)(q:Nat):(iH xs o z)[q]?=if q<o then xs[q]? else if q<o+z.length then z[q-o]? else xs[q]?:=by
 have hl:(xs.take o).length=o:=by rw[lT0];omega
 unfold iH
 by_cases h1:q<o
 ·rw[if_pos h1,List.append_assoc,List.getElem?_append_left (by omega),List.getElem?_take_of_lt h1]
 ·rw[if_neg h1]
  by_cases h2:q<o+z.length
  ·rw[if_pos h2,List.getElem?_append_left (by rw[lA0];omega),List.getElem?_append_right (by omega),hl]
  ·rw[if_neg h2,List.getElem?_append_right (by rw[lA0];omega),lA0,hl,List.getElem?_drop];congr 1;omega
def Nj(b:cL)(off:Nat)(s:cL)(k j:Nat):cL:=(List.range 512).map λi=>if i<j/\off<=k*512+i/\k*512+i<off+s.length then s.getD (k*512+i-off) 0 else b.getD i 0
theorem oO(b:cL)(off:Nat)(s:cL)(k j:Nat):(Nj b off s k j).length=512:=by unfold Nj;rw[lM0,List.length_range]
theorem xy(b:cL)(off:Nat)(s:cL)(k j:Nat){i:Nat}(hi:i<512):(Nj b off s k j)[i]?=some (if i<j/\off<=k*512+i/\k*512+i<off+s.length then s.getD (k*512+i-off) 0 else b.getD i 0):=by
 unfold Nj;rw[lG0,List.getElem?_range hi];rfl
theorem IG{a b:cL}(ha:a.length=512)(hb:b.length=512)(h:∀ i,i<512->a[i]?=b[i]?):a=b:=by
 refine List.ext_getElem? λi=>?_
 rcases Nat.lt_or_ge i 512 with y|y
 ·exact h i y
 ·rw[List.getElem?_eq_none (by omega),List.getElem?_eq_none (by omega)]
theorem getD_some{b:cL}(h:i<b.length):b[i]?=some (b.getD i 0):=by rw[List.getD_eq_getElem?_getD,List.getElem?_eq_getElem h];rfl
theorem Ui{b:cL}{s:cL}(h:b.length=512):Nj b off s k 0=b:=by
 refine IG (oO ..) h λi hi=>?_;rw[xy _ _ _ _ _ hi,if_neg (λy=>absurd y.1 (Nat.not_lt_zero _)),getD_some (by omega)]
theorem Xp{b:cL}{s:cL}(h0:off<=k*512+j)(h1:k*512+j<off+s.length):(Nj b off s k j).set j (s.getD (k*512+j-off) 0)=Nj b off s k (j+1):=by
 refine IG (by rw[List.length_set,oO]) (oO ..) λi hi=>?_;rw[List.getElem?_set,xy _ _ _ _ _ hi,xy _ _ _ _ _ hi,oO]
 by_cases e:j=i
 ·subst e;rw[if_pos rfl,if_pos hi,if_pos ⟨Nat.lt_succ_self _,h0,h1⟩]
 ·rw[if_neg e]
  by_cases c:i<j/\off<=k*512+i/\k*512+i<off+s.length
  ·rw[if_pos c,if_pos ⟨by omega,c.2⟩]
  ·rw[if_neg c,if_neg λy=>c ⟨by omega,y.2⟩]
theorem K2{b:cL}{s:cL}(h:¬ (off<=k*512+j/\k*512+j<off+s.length)):Nj b off s k j=Nj b off s k (j+1):=by
 refine IG (oO ..) (oO ..) λi hi=>?_;rw[xy _ _ _ _ _ hi,xy _ _ _ _ _ hi]
 by_cases c:i<j/\off<=k*512+i/\k*512+i<off+s.length
 ·rw[if_pos c,if_pos ⟨by omega,c.2⟩]
 ·rw[if_neg c,if_neg λy=>c ⟨?_,y.2⟩]
  rcases Nat.lt_or_ge i j with z|z
  ·exact z
  ·have:i=j:=(by omega);subst this;exact absurd y.2 h
theorem Xq{b:cL}{a:Nat}{s:cL}(hb:b.length=512)(hk:k=(off+a) / 512)(ha:a=k*512 - off)(hs:a<s.length) :
  Nj b off s k 512=iH b ((off+a)%512) ((s.drop a).take (toP off s.length a-(off+a)%512)):=by
 obtain⟨t1,t2⟩:=toP_gt (off:=off) (n:=s.length) (a:=a) hs;have et:toP off s.length a=min 512 ((off+a)%512+s.length-a):=rfl;have lz:((s.drop a).take (toP off s.length a-(off+a)%512)).length=toP off s.length a-(off+a)%512:=by rw[lT0,lD0];omega
 refine IG (oO ..) (by rw[Re.BG (by rw[lz,hb];omega),hb]) λi hi=>?_;rw[Qm (by rw[lz,hb];omega),lz,xy _ _ _ _ _ hi,getD_some (b:=b) (by omega)]
 by_cases c1:i<(off+a)%512
 ·rw[if_pos c1,if_neg (by omega)]
 ·rw[if_neg c1]
  by_cases c2:i<(off+a)%512+(toP off s.length a-(off+a)%512)
  ·rw[if_pos c2,if_pos (by omega),List.getElem?_take,if_pos (by omega),List.getElem?_drop,show a+(i-(off+a)%512)=k*512+i-off by omega,getD_some (by omega)]
  ·rw[if_neg c2,if_neg (by omega)]
def UK(off len k:Nat):Nat:=min (k*512-off) len
theorem K3{len a:Nat}(hk:off / 512<=k)(ha:a=k*512 - off)(hs:a<len):sB off len a=UK off len (k+1):=by
 unfold sB UK;have et:toP off len a=min 512 ((off+a)%512+len-a):=rfl;rw[et];have:(off+a)/512=k:=by omega
 omega
section
variable{h h2 h3 : ad}{F : Nat -> Prop}{r e : OA}{T : TM}{n off : Nat}{i : Int}{R : List Int}{s : cL}{K : Value -> ad -> Prop}
structure Wr6(h2 h3:ad)(g:G)(F:NP)(r e:OA)(off:Nat)(s:cL)(T:TM)(R:List Int)(hh:ad)(k:Nat)(F':NP)(T':TM)(R':List Int):Prop where
 fr:Fr (λb=>F b∨b=h2.size) h3 hh
 gw:Gw h3 F hh F'
 x:Rx.jc hh F' r e T'
 ext:Ext T T'
 lR:R'.length=15
 rx:rd hh h2.size=ints R'
 ox:dJ hh h2.size
 k0:off/512<=k
 k1:k<=16523
 eq:∃fuel,s.length<=UK off s.length k+fuel/\fS g off s s.length 0 T R=fS g off s fuel (UK off s.length k) T' R'
 un:T'.ar.length<=T.ar.length+10*k
theorem Ext.N{T T':TM}(e:Ext T T'):T'.N=T.N:=by unfold TM.N;rw[e.aK]
theorem Uj{T T':TM}(e:Ext T T')(g:G)(n:Int)(R:List Int):Ext T (kA T' g n R).1:=by
 unfold kA
 split
 ·exact e
 ·split
  ·exact e
  ·split
   ·exact e
   ·exact e.write _ _
theorem K4(x:Rx.jc h F r e T)(d:uO n)(hN:98<=T.N)(live:T.over=false)(hR:R.length=15)(hs:s≠[])(ho:off+s.length<=8459264)(hu:T.ar.length<500000000)
  (hK:∀h' F',Fr F h h'->Gw h F h' F'->Rx.jc h' F' r e (pP T (ai n) i R off s).1->K (vI (pP T (ai n) i R off s).2) h'):C.iS r (ai n).v i (ints R) off (mkStr s) h K:=by
 have UZ:0<s.length:=List.length_pos_iff.mpr hs;have kY:=λb (hb:F b)=>x.lt hb;refine iS.ok (az.intro λh2 n2=>az.intro λh3 n3=>?_);have z2:=n2.size;have z3:=n3.size;have F3:=n2.fr.new n3;have rg3:rd h3 h.size=(ai n).v:=(n3.at_ n2.own.lt).trans n2.rd;rw[show(mkStr s).size=s.length from rfl,toList_mkStr,wq ((off:Int)+(s.length:Int)),wq ((off:Int)+(s.length:Int)-1)];have ek0:wI (Int.tdiv (off:Int) 512)=((off/512:Nat):Int):=by rw[show Int.tdiv (off:Int) 512=((off/512:Nat):Int) from rfl];exact wq _
 have eq1:wI (Int.tdiv ((off:Int)+(s.length:Int)-1) 512)=(((off+s.length-1)/512:Nat):Int):=by
  rw[show(off:Int)+(s.length:Int)-1=((off+s.length-1:Nat):Int) by omega,show Int.tdiv ((off+s.length-1:Nat):Int) 512=(((off+s.length-1)/512:Nat):Int) from rfl];exact wq _
 rw[ek0,eq1]
 have out:∀{h' F' T' v},Fr (λb=>F b∨b=h2.size) h3 h'->Gw h3 F h' F'->Rx.jc h' F' r e T'->pP T (ai n) i R off s=(T',v)->K (vI v) h':=λf g y eb=>by
  rw[eb]at hK;refine hK _ _ ((F3.mono λ_ _ y=>y.elim).trans f λb hb y=>?_) ((Gw.refl F3.size kY).trans g F3.size) y
  rcases y with y|y
  ·exact y
  ·omega
 have fail:∀{T' R' v},fS (ai n) off s s.length 0 T R=((T',R'),v)->v≠0->pP T (ai n) i R off s=(T',v):=λh0 hv=>by unfold pP;rw[h0,if_pos hv]
 have e0:UK off s.length (off/512)=0:=by unfold UK;omega
 refine⟨λk hh=>∃(m:Nat) (F':NP) (T':TM) (R':List Int),k=m/\Wr6 h2 h3 (ai n) F r e off s T R hh m F' T' R',λk _=>(((16524:Nat):Int)-k).toNat,⟨_,F,T,R,rfl,Fr.refl _ _,Gw.refl nL0 λb hb=>by have:=kY b hb;omega,x.no F3,Ext.refl T,hR,n3.rd,n3.own,nL0,by omega,⟨s.length,by omega,by rw[e0]⟩,by omega⟩,?_⟩;intro k0 h4 I;obtain⟨k,F',T',R',ek,W⟩:=I;subst ek;have zf:=W.fr.size;have un:=W.un;have k1:=W.k1;have kk0:=W.k0;have hN':98<=T'.N:=by rw[Ext.N W.ext];exact hN
 have afn:T'.over=false:=W.ext.over.trans live;have nF:∀b,h.size<=b->b<h3.size->¬F' b:=λb h1 h2 y=>by have:=kY b ((W.gw.old b h2).mp y);omega
 have rg4:rd h4 h.size=(ai n).v:=(W.fr.rd (by omega) λy=>by
  rcases y with y|y
  ·have:=kY _ y;omega
  ·omega).trans rg3
 refine cd (λhle=>?_) λhle=>?_
 ·-- a block
  have ha:k*512-off<s.length:=by omega
  have UA:k<=16522:=by omega
  have ea:UK off s.length k=k*512-off:=by unfold UK;omega
  obtain⟨a,haE⟩:∃a,a=k*512-off:=⟨_,rfl⟩;rw[<-haE]at ha ea;have hkd:k=(off+a)/512:=by omega
  obtain⟨fuel,hf,ON⟩:=W.eq;rw[ea]at hf ON;obtain⟨fuel,rfl⟩:∃f,fuel=f+1:=⟨fuel-1,by omega⟩;obtain⟨T2,R2,v2,er2,ead⟩:∃T2 R2 v2 er2,fL T' (ai n) R' (k:Int)=(T2,R2,v2,er2):=⟨_,_,_,_,rfl⟩;have ea2:fL T' (ai n) R' ((off+a)/512:Nat)=(T2,R2,v2,er2):=by rw[<-hkd];exact ead
  rw[wD ha ea2]at ON;have uad:=zT (T:=T') (g:=ai n) (R:=R') (k:=(k:Int));obtain⟨xad,lad⟩:=Bx.Ug (g:=ai n) (R:=R') (k:=(k:Int)) afn W.lR;refine⟨(ai n).v,rfl,ah rg4,ints R',by rw[af,W.lR],ah W.rx,Ry.Ej W.x d hN' W.lR (by omega) λh5 F5 f5 g5 x5=>⟨_,_,_,rfl,?_⟩⟩;rw[ead]at uad xad lad x5 ⊢;simp only at uad xad lad x5 ⊢;have z5:=f5.size
  have xT2:Ext T T2:=⟨xad.aK.trans W.ext.aK,xad.over.trans W.ext.over,by
   obtain⟨us,e1,e2⟩:=W.ext.ar;obtain⟨ws,e3,e4⟩:=xad.ar;refine⟨us++ws,by rw[e3,e1,List.append_assoc],?_⟩;unfold df at e2 e4 ⊢
   rw[List.foldr_append,e4,e2]⟩
  refine aM.intro (by rw[af,lad]) (aA _) rfl λh7 n7=>?_;have z7:=n7.size;have f47:Fr F' h4 h7:=f5.trans n7.fr λ_ _ y=>y.elim;have x7:=x5.no n7.fr;have fr7:Fr (λb=>F b∨b=h2.size) h3 h7:=W.fr.trans f47 λb hb y=>.inl ((W.gw.old b hb).mp y);have gw7:Gw h3 F h7 F5:=⟨(W.gw.trans g5 zf).old,λb hb=>x7.lt hb⟩;have nF5:∀b,h.size<=b->b<h3.size->¬F5 b:=λb h1 h2 y=>by have:=kY b ((gw7.old b h2).mp y);omega
  have r7:rd h7 h2.size=ints R':=(n7.at_).trans ((f5.rd (by omega) (nF _ (by omega) (by omega))).trans W.rx);have o7:dJ h7 h2.size:=n7.ow (f5.own (by omega) (nF _ (by omega) (by omega)) W.ox);refine cn (λhe=>out fr7 gw7 x7 (fail (by rw[ON,if_pos he]) he)) λhe=>?_;rw[if_neg (λy=>y he)]at ON;refine⟨ints R2,by rw[af,lad],ah n7.rd,ax.intro o7 (by rw[af,lad]) (aA _) (by rw[r7,af,W.lR];decide) λh8 d8=>?_⟩;have z8:=d8.size;have r8:rd h8 h2.size=ints R2:=by rw[d8.rd,r7];exact dC _ _ (by rw[af,af,lad,W.lR])
  have x8:=x7.fr d8.fr λb hb y=>by have y:b=h2.size:=y;subst y;exact nF5 _ (by omega) (by omega) hb
  have fr8:Fr (λb=>F b∨b=h2.size) h3 h8:=fr7.trans d8.fr λb hb y=>.inr y;have gw8:Gw h3 F h8 F5:=⟨gw7.old,λb hb=>x8.lt hb⟩;refine Rx.cD x8 λsa sl sc h9 f9 hl s9=>⟨_,_,_,_,rfl,?_⟩;have z9:=f9.size;have x9:=x8.no f9;have fr9:Fr (λb=>F b∨b=h2.size) h3 h9:=fr8.no f9;have gw9:Gw h3 F h9 F5:=⟨gw7.old,λb hb=>x9.lt hb⟩;refine cn (λLn=>out fr9 gw9 x9 (fail (by rw[ON,if_pos Ln]) Ln)) λLn=>?_;rw[if_neg (λy=>y Ln)]at ON;have l9:=x8.gX Ln;have esl:sl=512:=by omega
  subst esl;clear hl;generalize(T2.read v2).1=B at ON l9 s9;rw[<-Xq l9 hkd haE ha]at ON;have Hk:∀b,CB sa b->h8.size<=b/\b<h9.size:=λb hb=>wy s9 hb;have s9':=xk s9;rw[<-Ui (off:=off) (k:=k) (s:=s) l9]at s9';refine⟨λj hh=>∃m:Nat,j=m/\m<=512/\Fr (CB sa) h9 hh/\Sl hh 1 sa 512 sc ((Nj B off s k m).map bv) (CB sa),λj _=>(((512:Nat):Int)-j).toNat,⟨0,rfl,nZ0,Fr.refl _ _,s9'⟩,?_⟩;intro j0 cB J;obtain⟨j,ej,hj,f10,Ma⟩:=J;subst ej;have WJ:=f10.size;generalize hq:decide ((j:Int)<512)=b512;refine cs (λbK=>?_) λbK=>?_
  ·have bK:=of_decide_eq_true (hq.trans bK);have hj5:j<512:=(by omega);rw[wq ((k:Int)*512),wq ((k:Int)*512+j),wq ((j:Int)+1)];have next:∀{hx:ad},Fr (CB sa) h9 hx->Sl hx 1 sa 512 sc ((Nj B off s k (j+1)).map bv) (CB sa)->(∃m:Nat,(j:Int)+1=m/\m<=512/\Fr (CB sa) h9 hx/\Sl hx 1 sa 512 sc ((Nj B off s k m).map bv) (CB sa))/\(((512:Nat):Int)-((j:Int)+1)).toNat<(((512:Nat):Int)-(j:Int)).toNat:=λf t=>⟨⟨j+1,rfl,hj5,f,t⟩,di (n:=(j:Int)) (m:=512) (by omega)⟩;refine cd (λUp=>cd (λQl=>?_) λQl=>?_) λUp=>?_
   ·rw[wq ((k:Int)*512+j-off),show((k:Int)*512+j-off).toNat=k*512+j-off by omega];have hx:k*512+j-off<s.length:=(by omega);refine⟨⟨by omega,by omega⟩,_,List.getElem?_eq_getElem hx,⟨by omega,bK⟩,?_⟩;rw[tN0];refine Wd.Tj Ma hj5 λbQ f11 Fc=>next (f10.trans f11 λb _ y=>y) ?_
    have ev:(Value.int .u8 ((UInt8.toNat s[k*512+j-off]:Nat):Int))=bv (s.getD (k*512+j-off) 0):=by
     rw[List.getD_eq_getElem?_getD,List.getElem?_eq_getElem hx];rfl
    rw[ev,<-List.map_set,Xp (by omega) (by omega)]at Fc;exact Fc
   ·exact next f10 (by rw[<-K2 (by omega)];exact Ma)
   ·exact next f10 (by rw[<-K2 (by omega)];exact Ma)
  ·have bK:=of_decide_eq_false (hq.trans bK);have hj5:j=512:=(by omega);subst hj5;have x10:=x9.fr f10 λb hb y=>by have:=Hk b y;have:=x8.lt hb;omega
   have afq:Fr (λb=>F b∨b=h2.size) h3 cB:=fr9.trans f10 λb hb y=>by have:=Hk b y;omega
   have afr:Gw h3 F cB F5:=⟨gw7.old,λb hb=>x10.lt hb⟩;have xw:=xT2.write v2 (Nj B off s k 512);have uw:=Tp.sv T2 v2 (Nj B off s k 512);refine Rx.sT x10 Ma.str (by omega) λcG Ae f12 g12 Ll=>⟨_,rfl,?_⟩;have afs:Fr (λb=>F b∨b=h2.size) h3 cG:=afq.trans f12 λb hb y=>.inl ((afr.old b hb).mp y);have aft:Gw h3 F cG Ae:=afr.trans g12 afq.size;refine cn (λYZ=>out afs aft Ll (fail (by rw[ON,if_pos YZ]) YZ)) λYZ=>?_;rw[if_neg (λy=>y YZ),K3 kk0 haE ha]at ON;rw[wq ((k:Int)+1)];have afu:¬F5 h2.size:=nF5 _ (by omega) (by omega);have nat:¬CB sa h2.size:=λy=>by have:=Hk _ y;omega
   refine⟨⟨k+1,Ae,_,R2,rfl,afs,aft,Ll,xw,lad,?_,?_,Nat.le_succ_of_le kk0,Nat.succ_le_succ UA,⟨fuel,?_,ON⟩,by omega⟩,di (n:=(k:Int)) (m:=16524) (by omega)⟩
   ·exact(f12.rd (by omega) afu).trans ((f10.rd (by omega) nat).trans ((f9.r0).trans r8))
   ·exact f12.own (by omega) afu (f10.own (by omega) nat (f9.own (by omega) (λy=>y) d8.own))
   ·have:=K3 kk0 haE ha;have:=(qP (off:=off) (n:=s.length) (a:=a) ha).1;omega
 ·-- the end
  have ea:UK off s.length k=s.length:=by unfold UK;omega
  obtain⟨fuel,hf,ON⟩:=W.eq;rw[ea,wC nL0]at ON
  have eb:pP T (ai n) i R off s=kA T' (ai n) i (R'.set 2 (max (R'.getD 2 0) ((off+s.length:Nat):Int))):=by
   unfold pP;rw[ON];exact if_neg (λy=>y rfl)
  have fin:∀{h5:ad} {S:List Int},Fr (λb=>b=h2.size) h4 h5->Rx.jc h5 F' r e T'->S.length=15->S=R'.set 2 (max (R'.getD 2 0) ((off+s.length:Nat):Int))->C.gC r (ai n).v i (ints S) h5 λr4 cM=>∃n7:Int,r4 = vI n7/\K (vI n7) cM:=λf y lS eS=>by
   have zf5:=f.size;refine Rx.lO y hN' (QQ d) lS (by omega) λcM F14 f14 g14 x14=>⟨_,rfl,?_⟩;have fr5:=W.fr.trans f λb hb y=>.inr y;exact out (fr5.trans f14 λb hb y=>.inl ((W.gw.old b hb).mp y)) ((⟨W.gw.old,λb hb=>y.lt hb⟩:Gw h3 F _ F').trans g14 fr5.size) x14 (by rw[eb,<-eS])
  refine⟨R'.getD 2 0,bJ W.rx (iaT (by rw[W.lR];decide)),cd (λhgt=>?_) λhgt=>?_⟩
  ·refine aO.add W.ox (by rw[W.rx,af,W.lR];decide) λcg d13=>?_
   have r13:rd cg h2.size=ints (R'.set 2 ((off+s.length:Nat):Int)):=by
    rw[d13.rd,W.rx,<-ints_set,show(off:Int)+(s.length:Int)=((off+s.length:Nat):Int) by omega]
   have x13:=W.x.fr d13.fr λb hb y=>by have y:b=h2.size:=y;subst y;exact nF _ (by omega) (by omega) hb
   refine⟨(ai n).v,rfl,ah ((d13.at_).trans rg4),_,by rw[af,List.length_set,W.lR],ah r13,?_⟩;exact fin d13.fr x13 (by rw[List.length_set,W.lR]) (by rw[Int.max_eq_right (by have:(off:Int)+(s.length:Int)>R'.getD 2 0:=hgt;omega)])
  ·refine⟨(ai n).v,rfl,ah rg4,_,by rw[af,W.lR],ah W.rx,?_⟩;refine fin ((Fr.refl _ _).mono λ_ _ y=>y) W.x W.lR ?_;rw[Int.max_eq_left (by have:¬(off:Int)+(s.length:Int)>R'.getD 2 0:=hgt;omega)];refine List.ext_getElem (by rw[List.length_set]) λq q1 q2=>?_;rw[List.getElem_set]
   split
   ·rename_i e2;subst e2;rw[List.getD_eq_getElem?_getD,List.getElem?_eq_getElem q1];rfl
   ·rfl
theorem K5{off:Int}(x:Rx.jc h F r e T)(d:uO n)(hN:98<=T.N)(hu:T.ar.length<500000000)(ho:off<=9223372036854775807)(hl:s.length<=9223372036854775807)
  (hK:∀h' F',Fr F h h'->Gw h F h' F'->Rx.jc h' F' r e (iW T (ai n) i off s).1->K (vI (iW T (ai n) i off s).2) h'):C.eW r (ai n).v i off (mkStr s) h K:=by
 have kY:=λb (hb:F b)=>x.lt hb
 have same:∀{v h'},Fr No h h'->iW T (ai n) i off s=(T,v)->K (vI v) h':=λf e0=>by
  rw[e0]at hK;exact hK _ F (f.mono λ_ _ y=>y.elim) (Gw.refl f.size kY) (x.no f)
 refine eW.ok (az.intro λh2 n2=>cd (λh0=>same n2.fr (by unfold iW;rw[if_pos h0])) λh0=>?_);have z2:=n2.size;refine⟨(ai n).v,rfl,ah n2.rd,xu (x.no n2.fr) (QQ d) λh3 R f3 hR e3=>⟨_,_,rfl,aM.intro (by rw[af,hR]) (aA _) rfl λh5 n5=>?_⟩⟩;have z3:=f3.size;have z5:=n5.size;have F5:=(n2.fr.no f3).new n5;refine cn (λhe=>same F5 (by unfold iW;rw[if_neg h0,if_pos he])) λhe=>?_;have live:=xp he;have e3:=e3 he;have x5:=x.no F5;have M0:rd h5 h.size=(ai n).v:=(n5.at_).trans ((f3.r0).trans n2.rd);refine cd (λh1=>same F5 (by unfold iW;rw[if_neg h0,if_neg (λy=>y he),if_pos (by omega)])) λh1=>?_;rw[show(mkStr s).size=s.length from rfl,wq (8459264-off)];refine cd (λhb=>same F5 (by unfold iW;rw[if_neg h0,if_neg (λy=>y he),if_pos hb])) λhb=>?_;unfold eW.k1;rw[toList_mkStr,toList_mkStr]
 by_cases Fw:s=[]
 ·exact ct (by rw[Fw];rfl) (same F5 (by unfold iW;rw[if_neg h0,if_neg (λy=>y he),if_neg hb,if_pos Fw]))
 refine cf (by rw[beq_eq_false_iff_ne];exact Fw) ?_;have ec:iW T (ai n) i off s=pL T (pP T (ai n) i R off.toNat s):=by unfold iW;rw[if_neg h0,if_neg (λy=>y he),if_neg hb,if_neg Fw,e3]
 rw[ec]at hK;obtain⟨o,rfl⟩:∃o:Nat,off=o:=⟨off.toNat,by omega⟩;rw[tN0]at hK;refine Rx.ng x5 ⟨_,_,rfl,(ai n).v,rfl,ah M0,ints R,by rw[af,hR],ah n5.rd,?_⟩;refine K4 x5 d hN live hR Fw (by omega) hu λh7 F7 f7 g7 x7=>⟨_,rfl,?_⟩;have Ti:Fr F h h7:=(F5.mono λ_ _ y=>y.elim).trans f7 λ_ _ y=>y;have g07:Gw h F h7 F7:=(Gw.refl F5.size kY).trans g7 F5.size;unfold pL at hK;refine cn (λhv=>Rx.nh x7 λh8 F8 f8 g8 x8=>⟨_,rfl,?_⟩) λhv=>?_
 ·rw[if_pos hv]at hK;exact hK h8 F8 (Ti.trans f8 λb hb y=>(g07.old b hb).mp y) (g07.trans g8 Ti.size) x8
 ·rw[if_neg (λy=>y hv)]at hK;exact hK h7 F7 Ti g07 x7
end
end Fq
namespace Fq
open Hp W Ad Tm Bt Spc Av Fi Bm Ino
open Hd (ints)
open In (af aA)
open Tp (CB xk wy)
section
variable{h h2 h3 hh : ad}{F F' : Nat -> Prop}{r e : OA}{T T' : TM}{n : Nat}{i size : Int}{R R' : List Int}{K : Value -> ad -> Prop}
structure Qn(h h2 h3:ad)(g:G)(F:NP)(r e:OA)(T:TM)(hh:ad)(F':NP)(T':TM)(R':List Int):Prop where
 fr:Fr (λb=>F b∨b=h2.size) h3 hh
 gw:Gw h3 F hh F'
 x:Rx.jc hh F' r e T'
 ext:Ext T T'
 lR:R'.length=15
 rg:rd hh h.size=g.v
 rx:rd hh h2.size=ints R'
 ox:dJ hh h2.size
theorem Qn.step{g:G}{vu:NP}{OB:TM}(W:Qn h h2 h3 g F r e T hh F' T' R')(hz:h.size<h2.size/\h2.size<h3.size)(hF:∀ b,F b->b<h.size)(f:Fr F' hh h')(g':Gw hh F' h' vu)(x:Rx.jc h' vu r e OB)(xt:Ext T OB):Qn h h2 h3 g F r e T h' vu OB R':=by
 have zf:=W.fr.size;have nF:∀b,h.size<=b->b<h3.size->¬F' b:=λb h1 h2 y=>by have:=hF b ((W.gw.old b h2).mp y);omega
 exact⟨W.fr.trans f λb hb y=>.inl ((W.gw.old b hb).mp y),W.gw.trans g' zf,x,xt,W.lR,(f.rd (by omega) (nF _ (by omega) (by omega))).trans W.rg,(f.rd (by omega) (nF _ (by omega) (by omega))).trans W.rx,f.own (by omega) (nF _ (by omega) (by omega)) W.ox⟩
theorem Qn.no{g:G}{h':ad}(W:Qn h h2 h3 g F r e T hh F' T' R')(hz:h.size<h2.size/\h2.size<h3.size)(f:Fr No hh h'):Qn h h2 h3 g F r e T h' F' T' R':=by
 have zf:=W.fr.size;have x:=W.x.no f;exact⟨W.fr.no f,⟨W.gw.old,λb hb=>x.lt hb⟩,x,W.ext,W.lR,(f.r0).trans W.rg,(f.r0).trans W.rx,f.own (by omega) (λy=>y) W.ox⟩
theorem Qn.did{g:G}{R2:List Int}(W:Qn h h2 h3 g F r e T hh F' T' R')(hz:h.size<h2.size/\h2.size<h3.size)(hF:∀ b,F b->b<h.size)(d:rW h2.size hh h' (ints R2))(hR:R2.length=15):Qn h h2 h3 g F r e T h' F' T' R2:=by
 have zf:=W.fr.size;have z:=d.size;have x:=W.x.fr d.fr λb hb y=>by have y:b=h2.size:=y;subst y;have:=hF _ ((W.gw.old _ (by omega)).mp hb);omega
 exact⟨W.fr.trans d.fr λb hb y=>.inr y,⟨W.gw.old,λb hb=>x.lt hb⟩,x,W.ext,hR,(d.at_ (by omega) (by omega)).trans W.rg,d.rd,d.own⟩
theorem II(W:Qn h h2 h3 (ai n) F r e T hh F' T' R')(hz:h.size<h2.size/\h2.size<h3.size)(hF:∀ b,F b->b<h.size)(d:uO n)(hN:98<=T.N)(hu:T'.ar.length<1000000000)
  (hK:∀h' F',Fr (λb=>F b∨b=h2.size) h3 h'->Gw h3 F h' F'->Rx.jc h' F' r e (kA T' (ai n) i (R'.set 2 size)).1->K (vI (kA T' (ai n) i (R'.set 2 size)).2) h'):bZ.k2 r i size h h2 hh K:=by
 unfold bZ.k2;refine aO.add W.ox (by rw[W.rx,af,W.lR];decide) λcg d13=>?_;have e13:(rd hh h2.size).set (0+2) (vI size)=ints (R'.set 2 size):=by rw[W.rx,<-ints_set]
 rw[e13]at d13;have Xr:=W.did hz hF d13 (by rw[List.length_set,W.lR]);refine⟨(ai n).v,rfl,ah Xr.rg,_,by rw[af,Xr.lR],ah Xr.rx,Rx.lO Xr.x (by rw[Ext.N W.ext];exact hN) (QQ d) Xr.lR hu λcM F14 f14 g14 x14=>⟨_,rfl,?_⟩⟩;exact hK cM F14 (Xr.fr.trans f14 λb hb y=>.inl ((Xr.gw.old b hb).mp y)) (Xr.gw.trans g14 Xr.fr.size) x14
def nB(T:TM)(v size:Int):TM×Int:=if v=0 then(T,0)else if(T.read v).2≠0 then(T,(T.read v).2)else T.write v (zf (T.read v).1 (size%512).toNat (512-(size%512).toNat))
theorem Qo{v:Int}(x:Ext T T'):Ext T (nB T' v size).1:=by
 unfold nB
 split
 ·exact x
 ·split
  ·exact x
  ·exact x.write _ _
theorem Uk(T:TM)(v size:Int):(nB T v size).1.ar.length<=T.ar.length+1:=by
 unfold nB
 split
 ·exact Nat.le_succ _
 ·split
  ·exact Nat.le_succ _
  ·exact(Tp.sv _ _ _).2
theorem OO{v:Int}(W:Qn h h2 h3 (ai n) F r e T hh F' T' R')(hz:h.size<h2.size/\h2.size<h3.size)(hF:∀ b,F b->b<h.size)(d:uO n)(hN:98<=T.N)(s0:0<=size)(hu:T'.ar.length<900000000)
  (hK1:∀h' F',Fr (λb=>F b∨b=h2.size) h3 h'->Gw h3 F h' F'->Rx.jc h' F' r e (nB T' v size).1->(nB T' v size).2≠0->K (vI (nB T' v size).2) h')
  (hK:∀h' F',Fr (λb=>F b∨b=h2.size) h3 h'->Gw h3 F h' F'->(nB T' v size).2=0->Rx.jc h' F' r e (kA (nB T' v size).1 (ai n) i (R'.set 2 size)).1->K (vI (kA (nB T' v size).1 (ai n) i (R'.set 2 size)).2) h'):bZ.k1 r i size h h2 v hh K:=by
 unfold bZ.k1;have xw:=Qo (v:=v) (size:=size) W.ext;have uw:=Uk T' v size
 have em:Int.tmod size 512=((size.toNat%512:Nat):Int):=by
  obtain⟨m,rfl⟩:∃m:Nat,size=m:=⟨size.toNat,by omega⟩;rfl
 refine cn (λhv=>?_) λhv=>?_
 ·refine Rx.cD W.x λsa sl sc h9 f9 hl s9=>⟨_,_,_,_,rfl,cn (λLn=>?_) λLn=>?_⟩
  ·have ew:nB T' v size=(T',(T'.read v).2):=(by unfold nB;rw[if_neg hv,if_pos Ln]);rw[ew]at hK1;have W9:=W.no hz f9;exact hK1 h9 F' W9.fr W9.gw W9.x Ln
  ·have ew:nB T' v size=T'.write v (zf (T'.read v).1 (size%512).toNat (512-(size%512).toNat)):=(by unfold nB;rw[if_neg hv,if_neg (λy=>y Ln)]);rw[ew]at hK1 hK xw uw;have l9:=W.x.gX Ln;have esl:sl=512:=(by omega);subst esl;clear hl ew;generalize(T'.read v).1=B at l9 s9 hK1 hK xw uw;have W9:=W.no hz f9;have es:(size%512).toNat=size.toNat%512:=(by omega);rw[es]at hK1 hK xw uw;obtain⟨q,hq⟩:∃q,q=size.toNat%512:=⟨_,rfl⟩;rw[<-hq]at hK1 hK xw uw em;have hq5:q<512:=(by omega);have Hk:∀b,CB sa b->hh.size<=b/\b<h9.size:=λb hb=>wy s9 hb;have s9':=xk s9;rw[em];refine⟨λj hx=>∃m:Nat,j=((q+m:Nat):Int)/\q+m<=512/\Fr (CB sa) h9 hx/\Sl hx 1 sa 512 sc ((zf B q m).map bv) (CB sa),λj _=>(((512:Nat):Int)-j).toNat,⟨0,rfl,by omega,Fr.refl _ _,s9'⟩,?_⟩;intro j0 cB J;obtain⟨m,ej,hj,f10,Ma⟩:=J;subst ej;generalize hdq:decide (((q+m:Nat):Int)<512)=b512;refine cs (λbK=>?_) λbK=>?_
   ·have bK:=of_decide_eq_true (hdq.trans bK);have hj5:q+m<512:=(by omega);rw[tN0,wq (((q+m:Nat):Int)+1)];refine⟨⟨by omega,bK⟩,Wd.Tj Ma hj5 λbQ f11 Fc=>⟨⟨m+1,by omega,by omega,f10.trans f11 λb _ y=>y,?_⟩,di (n:=((q+m:Nat):Int)) (m:=512) (by omega)⟩⟩;rw[show(Value.int .u8 0)=bv 0 from rfl,<-List.map_set]at Fc;exact Fc
   ·have bK:=of_decide_eq_false (hdq.trans bK);have hm:m=512-q:=(by omega);subst hm;have zf9:=W9.fr.size;have x10:=W9.x.fr f10 λb hb y=>by have:=Hk b y;have:=W.x.lt hb;omega
    have WJ:=f10.size
    have W10:Qn h h2 h3 (ai n) F r e T cB F' T' R':=by
     have GV:∀b,CB sa b->¬b<hh.size:=λb y=>by have:=Hk b y;omega
     have zh:=W.fr.size;have n1:¬CB sa h.size:=λy=>GV _ y (by omega);have n2:¬CB sa h2.size:=λy=>GV _ y (by omega);exact⟨W9.fr.trans f10 λb hb y=>by have:=GV b y;omega,⟨W.gw.old,λb hb=>x10.lt hb⟩,x10,W.ext,W.lR,(f10.rd (by omega) n1).trans W9.rg,(f10.rd (by omega) n2).trans W9.rx,f10.own (by omega) n2 W9.ox⟩
    refine Rx.sT x10 Ma.str (by omega) λcG Ae f12 g12 Ll=>⟨_,rfl,?_⟩;have W12:=W10.step hz hF f12 g12 Ll xw;refine cn (λYZ=>hK1 cG Ae W12.fr W12.gw Ll YZ) λYZ=>II W12 hz hF d hN (by omega) λh' F' f g x=>hK h' F' f g YZ x
 ·have ew:nB T' v size=(T',0):=by unfold nB;rw[if_pos hv]
  rw[ew]at hK;exact II W hz hF d hN (by omega) λh' F' f g x=>hK h' F' f g rfl x
theorem Qp(x:Rx.jc h F r e T)(d:uO n)(hN:98<=T.N)(live:T.over=false)(hR:R.length=15)(s0:0<=size)(s1:size<=8459264)(hu:T.ar.length<500000000)
  (hK:∀h' F',Fr F h h'->Gw h F h' F'->Rx.jc h' F' r e (vr T (ai n) i R size).1->K (vI (vr T (ai n) i R size).2) h'):C.bZ r (ai n).v i (ints R) size h K:=by
 have kY:=λb (hb:F b)=>x.lt hb;refine bZ.ok (az.intro λh2 n2=>az.intro λh3 n3=>?_);have z2:=n2.size;have z3:=n3.size;have F3:=n2.fr.new n3;have hz:h.size<h2.size/\h2.size<h3.size:=by omega
 have W:Qn h h2 h3 (ai n) F r e T h3 F T R:=⟨Fr.refl _ _,Gw.refl nL0 λb hb=>by have:=kY b hb;omega,x.no F3,Ext.refl T,hR,(n3.at_ n2.own.lt).trans n2.rd,n3.rd,n3.own⟩
 have out:∀{h' F' T' v},Fr (λb=>F b∨b=h2.size) h3 h'->Gw h3 F h' F'->Rx.jc h' F' r e T'->vr T (ai n) i R size=(T',v)->K (vI v) h':=λf g y eb=>by
  rw[eb]at hK;refine hK _ _ ((F3.mono λ_ _ y=>y.elim).trans f λb hb y=>?_) ((Gw.refl F3.size kY).trans g F3.size) y
  rcases y with y|y
  ·exact y
  ·omega
 unfold vr at out;refine⟨R.getD 2 0,bJ n3.rd (iaT (by rw[hR];decide)),cd (λbK=>?_) λbK=>?_⟩
 ·rw[if_pos bK]at out
  have e1:wI (Int.tdiv (wI ((wI (size+512))-1)) 512)=(size+511)/512:=by
   rw[wq (size+512),wq (size+512-1),Int.tdiv_eq_ediv_of_nonneg (by omega),wrap_i64 (by omega) (by omega)];congr 1;omega
  rw[e1];have un:=uS (T:=T) (g:=ai n) (R:=R) (k:=(size+511)/512);obtain⟨xc,lc⟩:=Bx.Uh (g:=ai n) (R:=R) (k:=(size+511)/512) live hR;refine⟨(ai n).v,rfl,ah W.rg,ints R,by rw[af,hR],ah W.rx,Ry.Ek W.x d hN hR (by omega) λh4 F4 f4 g4 x4=>⟨_,_,rfl,?_⟩⟩;generalize fA T (ai n) R ((size+511)/512)=cm at out un xc lc x4 ⊢;obtain⟨T4,R4,e4⟩:=cm;simp only at out un xc lc x4 ⊢;have W4:=W.step hz kY f4 g4 x4 xc;refine aM.intro (by rw[af,lc]) (aA _) rfl λh6 n6=>?_;have W6:=W4.no hz n6.fr;have zf6:=W6.fr.size;refine cn (λhe=>out W6.fr W6.gw W6.x (if_pos he)) λhe=>?_;rw[if_neg (λy=>y he)]at out;refine⟨ints R4,by rw[af,lc],ah n6.rd,ax.intro W6.ox (by rw[af,lc]) (aA _) (by rw[W6.rx,af,hR];decide) λh7 d7=>?_⟩;have e7:put (rd h6 h2.size) 0 (ints R4)=ints R4:=by rw[W6.rx];exact dC _ _ (by rw[af,af,lc,hR])
  rw[e7]at d7;have W7:=W6.did hz kY d7 lc;have em:Int.tmod size 512=size%512:=Int.tmod_eq_emod_of_nonneg s0;have ed:wI (Int.tdiv size 512)=size/512:=by rw[Int.tdiv_eq_ediv_of_nonneg s0,wrap_i64 (by omega) (by omega)]
  rw[em,ed];refine cn (λhm=>?_) λhm=>?_
  ·refine⟨(ai n).v,rfl,ah W7.rg,ints R4,by rw[af,lc],ah W7.rx,Ry.ue W7.x lc λh8 f8=>⟨_,_,rfl,?_⟩⟩;have W8:=W7.no hz f8
   have ew:lT T4 (ai n) R4 size=if(fH T4 (ai n) R4 (size/512)).2≠0 then(T4,(fH T4 (ai n) R4 (size/512)).2)else nB T4 (fH T4 (ai n) R4 (size/512)).1 size:=by unfold lT nB;rw[if_neg hm]
   rw[ew]at out;generalize fH T4 (ai n) R4 (size/512)=fm at out ⊢;obtain⟨v,ev⟩:=fm;simp only at out ⊢;refine cn (λhv=>?_) λhv=>?_
   ·refine out W8.fr W8.gw W8.x ?_;rw[if_pos hv,if_pos hv]
   ·have hv':(if ev≠0 then(T4,ev)else nB T4 v size)=nB T4 v size:=if_neg (λy=>y hv);rw[hv']at out;exact OO W8 hz kY d hN s0 (by omega) (λh' F' f g x dp=>out f g x (by rw[if_pos dp])) λh' F' f g WI x=>out f g x (by rw[if_neg (λy=>y WI)])
  ·have ew:lT T4 (ai n) R4 size=nB T4 0 size:=(by unfold lT nB;rw[if_pos hm,if_pos rfl]);rw[ew]at out;exact OO W7 hz kY d hN s0 (by omega) (λh' F' f g x dp=>out f g x (by rw[if_pos dp])) λh' F' f g WI x=>out f g x (by rw[if_neg (λy=>y WI)])
 ·rw[if_neg bK]at out;exact II W hz kY d hN (by omega) λh' F' f g x=>out f g x rfl
theorem Qq(x:Rx.jc h F r e T)(d:uO n)(hN:98<=T.N)(hu:T.ar.length<500000000)
  (hK:∀h' F',Fr F h h'->Gw h F h' F'->Rx.jc h' F' r e (rI T (ai n) i size).1->K (vI (rI T (ai n) i size).2) h'):C.ku r (ai n).v i size h K:=by
 have kY:=λb (hb:F b)=>x.lt hb
 have same:∀{v h'},Fr No h h'->rI T (ai n) i size=(T,v)->K (vI v) h':=λf e0=>by
  rw[e0]at hK;exact hK _ F (f.mono λ_ _ y=>y.elim) (Gw.refl f.size kY) (x.no f)
 refine ku.ok (az.intro λh2 n2=>cd (λh0=>same n2.fr (by unfold rI;rw[if_pos h0])) λh0=>?_);have z2:=n2.size;refine⟨(ai n).v,rfl,ah n2.rd,xu (x.no n2.fr) (QQ d) λh3 R f3 hR e3=>⟨_,_,rfl,aM.intro (by rw[af,hR]) (aA _) rfl λh5 n5=>?_⟩⟩;have z3:=f3.size;have z5:=n5.size;have F5:=(n2.fr.no f3).new n5;refine cn (λhe=>same F5 (by unfold rI;rw[if_neg h0,if_pos he])) λhe=>?_;have live:=xp he;have e3:=e3 he;have x5:=x.no F5;have M0:rd h5 h.size=(ai n).v:=(n5.at_).trans ((f3.r0).trans n2.rd);refine cd (λh1=>same F5 (by unfold rI;rw[if_neg h0,if_neg (λy=>y he),if_pos h1])) λh1=>?_;refine⟨R.getD 2 0,bJ n5.rd (iaT (by rw[hR];decide)),ce (λh4=>same F5 (by unfold rI;rw[if_neg h0,if_neg (λy=>y he),if_neg h1,<-e3,if_pos h4])) λh4=>?_⟩;have ec:rI T (ai n) i size=pL T (vr T (ai n) i R size):=by unfold rI;rw[if_neg h0,if_neg (λy=>y he),if_neg h1,<-e3,if_neg h4]
 rw[ec]at hK;refine Rx.ng x5 ⟨_,_,rfl,(ai n).v,rfl,ah M0,ints R,by rw[af,hR],ah n5.rd,?_⟩;refine Qp x5 d hN live hR (by omega) (by omega) hu λh7 F7 f7 g7 x7=>⟨_,rfl,?_⟩;have Ti:Fr F h h7:=(F5.mono λ_ _ y=>y.elim).trans f7 λ_ _ y=>y;have g07:Gw h F h7 F7:=(Gw.refl F5.size kY).trans g7 F5.size;unfold pL at hK;refine cn (λhv=>Rx.nh x7 λh8 F8 f8 g8 x8=>⟨_,rfl,?_⟩) λhv=>?_
 ·rw[if_pos hv]at hK;exact hK h8 F8 (Ti.trans f8 λb hb y=>(g07.old b hb).mp y) (g07.trans g8 Ti.size) x8
 ·rw[if_neg (λy=>y hv)]at hK;exact hK h7 F7 Ti g07 x7
end
end Fq
namespace Fq
open Hp W Ad Tm Bt Spc Av
open Hd (ints)
open In (af aA lP oM)
open Fi (iaT)
structure Iq(n:Nat)(h h2 h3 hh:ad):Prop where
 fr:Fr No h hh
 sz:h3.size<hh.size
 rg:rd hh h.size=(ai n).v
 ob:dJ hh h2.size
 bs:∃bs:LB,bs.length=n*512/\rd hh h2.size=bs.map bv
 oo:dJ hh h3.size
 on:∃on:List Bool,on.length=((ai n).dT-98)*4096/\rd hh h3.size=on.map .bool
section
variable{n N2 : Nat}{h h2 h3 hh h' : ad}
theorem Iq.no(X:Iq n h h2 h3 hh)(hz:h.size<h2.size/\h2.size<h3.size)(f:Fr No hh h'):Iq n h h2 h3 h':=by
 obtain⟨bs,b1,b2⟩:=X.bs;obtain⟨on,o1,o2⟩:=X.on;have sz:=X.sz;have z:=f.size;exact⟨X.fr.no f,by omega,(f.r0).trans X.rg,f.own (by omega) (λy=>y) X.ob,⟨bs,b1,(f.r0).trans b2⟩,f.own (by omega) (λy=>y) X.oo,on,o1,(f.r0).trans o2⟩
theorem Iq.put(X:Iq n h h2 h3 hh)(hz:h.size<h2.size/\h2.size<h3.size){i:Nat}{x:UInt8}(hi:i<n*512){k:HP}(hK:∀ h',Iq n h h2 h3 h'->Fr (λb=>b=h2.size) hh h'->k h'):aO (Addr.add (bA h2) i) (bv x) hh k:=by
 obtain⟨bs,e1,e2⟩:=X.bs;obtain⟨on,o1,o2⟩:=X.on;have sz:=X.sz;refine aO.add X.ob (by rw[e2,lM0];omega) λh' d=>hK h' ⟨X.fr.did d λy=>by omega,by rw[d.size];exact sz,(d.at_ (by omega) (by omega)).trans X.rg,d.own,⟨bs.set i x,by rw[List.length_set,e1],?_⟩,d.fr.own (by omega) (λy=>by have y:h3.size=h2.size:=y;omega) X.oo,on,o1,(d.at_ (by omega) (by omega)).trans o2⟩ d.fr;rw[d.rd,e2,Nat.zero_add,List.map_set]
theorem Iq.abl(X:Iq n h h2 h3 hh)(hz:h.size<h2.size/\h2.size<h3.size){i:Nat}{x:Bool}(hi:i<((ai n).dT - 98)*4096){k:HP}(hK:∀ h',Iq n h h2 h3 h'->Fr (λb=>b=h3.size) hh h'->k h'):aO (Addr.add (bA h3) i) (.bool x) hh k:=by
 obtain⟨bs,e1,e2⟩:=X.bs;obtain⟨on,o1,o2⟩:=X.on;have sz:=X.sz;refine aO.add X.oo (by rw[o2,lM0];omega) λh' d=>hK h' ⟨X.fr.did d λy=>by omega,by rw[d.size];exact sz,(d.at_ (by omega) (by omega)).trans X.rg,d.fr.own (by omega) (λy=>by have y:h2.size=h3.size:=y;omega) X.ob,⟨bs,e1,(d.at_ (by omega) (by omega)).trans e2⟩,d.own,on.set i x,by rw[List.length_set,o1],?_⟩ d.fr;rw[d.rd,o2,Nat.zero_add,List.map_set]
theorem Ul{qn:List (List Int)}(A:ak h a (qn.flatMap ints))(hR:∀ R ∈ qn,R.length=15){j:Nat}(hj:j<qn.length):∃p,a=some p/\aj h (p.add (j*15)) (ints qn[j]):=by
 have hl:∀l:List (List Int),(∀R∈l,R.length=15)->(l.flatMap ints).length=15*l.length:=by
  intro l
  induction l with
  | nil=>intro _;rfl
  | cons R r ih=>
   intro h;rw[List.flatMap_cons,lA0,af,h R (List.mem_cons_self ..),ih λx hx=>h x (List.mem_cons_of_mem _ hx),List.length_cons];omega
 have part:∀(l:List (List Int)) (j:Nat) (hj:j<l.length),(∀R∈l,R.length=15)->((l.flatMap ints).drop (j*15)).take 15=ints l[j]:=by
  intro l
  induction l with
  | nil=>intro j hj;exact absurd hj (Nat.not_lt_zero _)
  | cons R r ih=>
   intro j hj h;have lR:(ints R).length=15:=by rw[af,h R (List.mem_cons_self ..)]
   cases j with
   | zero=>rw[List.flatMap_cons,Nat.zero_mul,List.drop_zero,List.take_left' lR];rfl
   | succ j=>
    rw[List.flatMap_cons,show(j+1)*15=15+j*15 by omega,<-List.drop_drop,List.drop_left' lR];exact ih j (by rw[List.length_cons]at hj;omega) λx hx=>h x (List.mem_cons_of_mem _ hx)
 have l:=hl qn hR
 cases a with
 | none=>have A:qn.flatMap ints=[]:=A;rw[A]at l;exact absurd l (by simp;omega)
 | some p=>
  refine⟨p,rfl,?_⟩;have:=aj.part A (j*15) 15;rw[part qn j hj hR]at this;exact this
theorem Qr{h8 bQ:ad}{I:Int->ad->Prop}{M:Int->ad->Nat}(dm:uO n)(hz:h.size<h2.size/\h2.size<h3.size)(X:Iq n h h2 h3 bQ)(hN:N2=((ai n).dT - 98)*4096)(hk:k+1<(ai n).count)(hs:h3.size<h8.size/\h8.size<bQ.size)(lR:R.length=15)(r8:rd bQ h8.size=ints R)
  (s:Sl bQ 1 a 64 c ((lP R).map bv) (dG h8.size)) (hI:∀h',Iq n h h2 h3 h'->I ((k:Int)+1) h'/\M ((k:Int)+1) h'<M k h8) :
  dV.k1 h h2 n h3 (ai n).dT 98 k h8 I M bQ a 64 K:=by
 have hi:=dm.hi;have aea:(ai n).dT=98+(n+4095)/4096:=rfl;have hcnt:(ai n).count=8*(n/64):=rfl;obtain⟨dd1,dd2,dd3,dd4⟩:=dm.data;have en:((Int.toNat (wI ((n:Int)*512)):Nat):Int)=((n*512:Nat):Int):=by rw[wq ((n:Int)*512)];omega
 have e2:((Int.toNat (wI (wI ((((ai n).dT:Nat):Int)-98)*4096)):Nat):Int)=(N2:Int):=by
  rw[wq ((((ai n).dT:Nat):Int)-98),wrap_i64 (by omega) (by omega)];omega
 unfold dV.k1;rw[en,e2,wq ((k:Int)+1),wq (64*((k:Int)+1))];have lE:(lP R).length=64:=by have:=s.str.1;exact this
 refine⟨λj hx=>∃m:Nat,j=m/\m<=64/\Iq n h h2 h3 hx/\Fr (λb=>b=h2.size) bQ hx,λj _=>(((64:Nat):Int)-j).toNat,⟨0,rfl,nZ0,X,Fr.refl _ _⟩,?_⟩;rintro _ cG ⟨m,rfl,hm,X12,f12⟩;have z12:=f12.size;refine cd (λbK=>⟨_,bJ X12.rg rfl,⟨by omega,bK⟩,?_⟩) λbK=>?_
 ·have QJ:=s.fr f12 λb _ y e=>by have e:b=h2.size:=e;have y:h8.size<=b:=y;omega
  obtain⟨p,ep,cp⟩:=rG QJ.str (j:=m) (by omega);rw[tN0];refine Rz.oe ep ⟨_,cp,?_⟩;rw[wq ((((ai n).dT:Nat):Int)*512),wq ((((ai n).dT:Nat):Int)*512+64*((k:Int)+1)),wq ((((ai n).dT:Nat):Int)*512+64*((k:Int)+1)+(m:Int)),wq ((m:Int)+1)];have et:((((ai n).dT:Nat):Int)*512+64*((k:Int)+1)+(m:Int)).toNat=(ai n).dT*512+64*(k+1)+m:=by omega
  rw[et];exact⟨⟨by omega,by omega⟩,X12.put hz (by omega) λcg X13 f13=>⟨⟨m+1,rfl,by omega,X13,f12.trans f13 λ_ _ y=>y⟩,di bK⟩⟩
 ·have Pg:rd cG h8.size=ints R:=(f12.rd (by omega) (by omega)).trans r8;have C:=aj.part (ah Pg) 3 10;refine⟨_,by rw[lT0,lD0,af,lR];decide,C,?_⟩;refine⟨λj hx=>∃m:Nat,j=m/\m<=10/\Iq n h h2 h3 hx,λj _=>(((10:Nat):Int)-j).toNat,⟨0,rfl,nZ0,X12⟩,?_⟩;rintro _ cM ⟨q,rfl,hq,X14⟩;refine cd (λQl=>⟨⟨by omega,Ql⟩,R.getD (3+q) 0,?_,?_⟩) λ_=>hI cM X14
  ·rw[tN0,List.getElem?_take,if_pos (by omega),List.getElem?_drop];exact iaT (by omega)
  ·rw[wq ((q:Int)+1)];have next:∀{hx:ad},Iq n h h2 h3 hx->(∃m:Nat,(q:Int)+1=m/\m<=10/\Iq n h h2 h3 hx)/\(((10:Nat):Int)-((q:Int)+1)).toNat<(((10:Nat):Int)-(q:Int)).toNat:=λY=>⟨⟨q+1,rfl,by omega,Y⟩,di Ql⟩;refine⟨_,bJ X14.rg rfl,cd (λh5=>⟨_,bJ X14.rg rfl,cd (λh6=>⟨⟨by omega,?_⟩,?_⟩) λ_=>next X14⟩) λ_=>next X14⟩
   ·have:((ai n).blocks:Int)=n:=rfl;omega
   ·have:((ai n).blocks:Int)=n:=rfl;exact X14.abl hz (by omega) λfg X15 _=>next X15
theorem K6{qn:List (List Int)}{ra:OA}{rc:Nat}(dm:uO n)(Y:ak h ra (qn.flatMap ints))(hR:∀ R ∈ qn,R.length=15)(hl:qn.length<=140737488355328)
  (hK:∀h' b bs,Fr No h h'->h.size<=b->b<h'.size->bs.length=n*512->aw h' (some ⟨b,0,none⟩) (n*512) bs->K (vS (some ⟨b,0,none⟩) (n*512) (n*512)) h'):C.dV (ai n).v ra qn.length rc h K:=by
 have hi:=dm.hi;have aea:(ai n).dT=98+(n+4095)/4096:=rfl;have hcnt:(ai n).count=8*(n/64):=rfl;obtain⟨dd1,dd2,dd3,dd4⟩:=dm.data;have sf:(((ai n).blocks:Nat):Int)=n:=rfl;have hbm:(((ai n).bY:Nat):Int)=98:=rfl;refine dV.ok (az.intro λh2 n2=>⟨_,bJ n2.rd rfl,?_⟩);rw[sf];have e1:wI ((n:Int)*512)=((n*512:Nat):Int):=by rw[wq ((n:Int)*512)];omega
 refine⟨by rw[e1];exact⟨by omega,by omega,by omega,by omega⟩,az.intro λh3 n3=>?_⟩;have rg3:rd h3 h.size=(ai n).v:=(n3.at_ n2.own.lt).trans n2.rd;refine⟨_,bJ rg3 rfl,_,bJ rg3 rfl,?_⟩;rw[hbm];obtain⟨N2,hN⟩:∃N2,N2=((ai n).dT-98)*4096:=⟨_,rfl⟩
 have e2:wI (wI ((((ai n).dT:Nat):Int)-98)*4096)=(N2:Int):=by
  rw[wq ((((ai n).dT:Nat):Int)-98),wrap_i64 (by omega) (by omega)];omega
 refine⟨by rw[e2];exact⟨by omega,by omega,by omega,by omega⟩,az.intro λh4 n4=>?_⟩;have z2:=n2.size;have z3:=n3.size;have s4:=n4.size;have hz:h.size<h2.size/\h2.size<h3.size:=by omega
 have X4:Iq n h h2 h3 h4:=by
  refine⟨(n2.fr.new n3).new n4,by omega,(n4.at_).trans rg3,n4.ow n3.own,⟨List.replicate (n*512) 0,List.length_replicate,?_⟩,n4.own,List.replicate N2 false,by rw[List.length_replicate,hN],?_⟩
  ·rw[n4.at_ n3.own.lt,n3.rd,e1,tN0,show(z5:LV)=[bv 0] from rfl,Spc.CA,List.map_replicate]
  ·rw[n4.rd,e2,tN0,show(z4:LV)=[Value.bool false] from rfl,Spc.CA,List.map_replicate]
 rw[e2,tN0];refine⟨λi hx=>∃m:Nat,i=m/\m<=N2/\Iq n h h2 h3 hx,λi _=>((N2:Int)-i).toNat,⟨0,rfl,nZ0,X4⟩,?_⟩;rintro _ h5 ⟨m,rfl,hm,X5⟩;refine cd (λbK=>⟨_,bJ X5.rg rfl,?_⟩) λbK=>?_
 ·rw[wq ((m:Int)+1),tN0];refine cd (λ_=>⟨⟨by omega,bK⟩,X5.abl hz (by omega) λh6 X6 _=>⟨⟨m+1,rfl,by omega,X6⟩,di bK⟩⟩) λ_=>⟨_,bJ X5.rg rfl,⟨by omega,bK⟩,X5.abl hz (by omega) λh6 X6 _=>⟨⟨m+1,rfl,by omega,X6⟩,di bK⟩⟩
 clear bK hm m;refine⟨λi hx=>∃m:Nat,i=m/\m<=qn.length/\Iq n h h2 h3 hx,λi _=>((qn.length:Int)-i).toNat,⟨0,rfl,nZ0,X5⟩,?_⟩;rintro _ h8 ⟨k,rfl,hk,X8⟩;have z8:=X8.sz;refine cd (λbK=>?_) λbK=>?_
 ·have yM:k<qn.length:=by omega
  obtain⟨p,ep,cp⟩:=Ul (ak.fr X8.fr Y λ_ _ y=>y) hR yM;have lR:=hR _ (List.getElem_mem yM);generalize qn[k]=R at cp lR;rw[tN0];refine⟨⟨by omega,bK⟩,Rz.oe ep ⟨ints R,by rw[af,lR],cp,aM.intro (by rw[af,lR]) (aA _) rfl λcB n10=>⟨ints R,by rw[af,lR],ah n10.rd,?_⟩⟩⟩;have WJ:=n10.size;have next:∀{hx:ad},Iq n h h2 h3 hx->(∃m:Nat,(k:Int)+1=m/\m<=qn.length/\Iq n h h2 h3 hx)/\((qn.length:Int)-((k:Int)+1)).toNat<((qn.length:Int)-(k:Int)).toNat:=λY=>⟨⟨k+1,rfl,by omega,Y⟩,di bK⟩;have Ux:=X8.no hz n10.fr;have ek:wI ((k:Int)+1)=(k:Int)+1:=wq ((k:Int)+1);refine In.uT lR (λ_ bQ f11=>⟨_,_,_,_,rfl,cn (λ_=>?_) λy=>absurd y (by decide)⟩) λ_ a1 c1 bQ f11 Fc=>⟨_,_,_,_,rfl,cn (λy=>absurd rfl y) λ_=>?_⟩
  ·rw[ek];exact next (Ux.no hz f11)
  ·have X11:=Ux.no hz f11;have Pz:=f11.size;refine⟨_,bJ X11.rg rfl,?_⟩;rw[ek];refine cd (λ_=>next X11) λhc=>?_;exact Qr dm hz X11 hN (by omega) ⟨by omega,by omega⟩ lR ((f11.r0).trans n10.rd) (Fc.mono λb y=>by have y:cB.size<=b:=y;show h8.size<=b;omega) λh' Z=>next Z
 ·clear bK hk k;refine⟨λi hx=>∃m:Nat,i=m/\m<=N2/\Iq n h h2 h3 hx,λi _=>((N2:Int)-i).toNat,⟨0,rfl,nZ0,X8⟩,?_⟩;rintro _ iY ⟨j,rfl,hj,X⟩;obtain⟨bs,b1,b2⟩:=X.bs;refine cd (λbK=>?_) λbK=>?_
  ·obtain⟨on,o1,o2⟩:=X.on;have step:∀{hx:ad},Iq n h h2 h3 hx->(∃m:Nat,(j:Int)+1=m/\m<=N2/\Iq n h h2 h3 hx)/\((N2:Int)-((j:Int)+1)).toNat<((N2:Int)-(j:Int)).toNat:=λY=>⟨⟨j+1,rfl,by omega,Y⟩,di bK⟩;rw[wq ((j:Int)+1),tN0];refine⟨⟨by omega,bK⟩,on.getD j false,?_,cs (λ_=>?_) λ_=>step X⟩
   ·refine bJ o2 ?_;show(on.map Value.bool)[0+j]?=_;rw[Nat.zero_add,lG0,List.getElem?_eq_getElem (by omega),List.getD_eq_getElem?_getD,List.getElem?_eq_getElem (by omega)];rfl
   ·have em8:Int.tmod (j:Int) 8=((j%8:Nat):Int):=rfl;have e8:wI (Int.tdiv (j:Int) 8)=((j/8:Nat):Int):=(by rw[show Int.tdiv (j:Int) 8=((j/8:Nat):Int) from rfl];exact wq _);rw[em8];refine⟨λ_ q hx=>∃m:Nat,q=m/\m<=j%8/\iY=hx,λ_ q _=>(((j%8:Nat):Int)-q).toNat,⟨0,rfl,nZ0,rfl⟩,?_⟩;rintro v _ _ ⟨q,rfl,hq,rfl⟩;refine cd (λafv=>?_) λafv=>?_
    ·rw[wq ((q:Int)+1)];exact⟨⟨q+1,rfl,by omega,rfl⟩,di afv⟩
    ·refine⟨_,bJ X.rg rfl,_,bJ X.rg rfl,?_⟩;rw[hbm,e1,wrap_i64 (n:=98*512) (by decide) (by decide),e8,wq (98*512+((j/8:Nat):Int)),tN0];have et:((98:Int)*512+((j/8:Nat):Int)).toNat=98*512+j/8:=(by omega);have hlt9:98*512+j/8<n*512:=(by omega);rw[et];refine⟨⟨by omega,by omega⟩,((bs.getD (98*512+j/8) 0).toNat:Int),?_,⟨by omega,by omega⟩,?_⟩
     ·refine bJ b2 ?_;show(bs.map bv)[0+(98*512+j/8)]?=some (bv (bs.getD (98*512+j/8) 0));rw[Nat.zero_add,lG0,List.getElem?_eq_getElem (by omega),List.getD_eq_getElem?_getD,List.getElem?_eq_getElem (by omega)];rfl
     ·rw[Hd.Cy];exact X.put hz hlt9 λma X18 _=>step X18
  ·rw[e1,tN0];exact hK iY h2.size bs X.fr (by omega) (by have:=X.sz;omega) b1 (yo b2 b1)
end
end Fq
namespace Sx
open Hp W Ad Tm Spc Av Tp Fi Bm Ino
open Hd (ints)
theorem IJ{x:UInt8}(hK:∀ h',Fr No h h'->h.size<h'.size->aw h' (some (bA h)) 512 (List.replicate 512 x)->K (vS (some (bA h)) 512 512) h'):C.gP (x.toNat:Int) h K:=by
 refine gP.ok ⟨⟨by decide,by decide,by decide,by decide⟩,az.intro λh2 n2=>?_⟩;have z2:=n2.size;refine⟨λi hh=>∃j:Nat,i=j/\j<=512/\Fr No h hh/\dJ hh h.size/\h2.size<=hh.size/\rd hh h.size=(List.replicate j x++Hd.aL (512-j)).map bv,λi _=>(((512:Nat):Int)-i).toNat,⟨0,rfl,nZ0,n2.fr,n2.own,nL0,n2.rd.trans (Wd.aej _)⟩,?_⟩;intro i h3 I;obtain⟨j,ei,hj,f,o,z,r⟩:=I;subst ei;have rl:(rd h3 h.size).length=512:=by rw[r,lM0,lA0,List.length_replicate,Hd.eM];omega
 generalize hq:decide ((j:Int)<((Int.toNat 512:Nat):Int))=b;refine cs (λbK=>?_) λbK=>?_
 ·have bK:=of_decide_eq_true (hq.trans bK);have k7:j<512:=by have:((Int.toNat 512:Nat):Int)=512:=rfl;omega
  rw[tN0,wq ((j:Int)+1)];refine⟨⟨by omega,bK⟩,aO.add o (by rw[rl];omega) λh4 d4=>⟨⟨j+1,rfl,k7,f.did d4 λy=>by omega,d4.own,by have:=d4.size;omega,?_⟩,di (m:=512) (by omega)⟩⟩;rw[d4.rd,r,Nat.zero_add];show((List.replicate j x++Hd.aL (512-j)).map bv).set j (bv x)=_;rw[<-List.map_set,List.set_append_right _ _ (by rw[List.length_replicate];exact nL0),List.length_replicate,Nat.sub_self,show 512-j=(512-(j+1))+1 by omega];unfold Hd.aL;rw[List.replicate_succ,List.set_cons_zero,List.replicate_succ',List.append_assoc];rfl
 ·have bK:=of_decide_eq_false (hq.trans bK);have k7:j=512:=by have:((Int.toNat 512:Nat):Int)=512:=rfl;omega
  subst k7;rw[Nat.sub_self,show Hd.aL 0=[] from rfl,List.append_nil]at r;exact hK h3 f (by omega) (yo r (by rw[List.length_replicate]))
theorem Cg{b:OA}{l2 e:Nat}{ns:List Int}(A:ak h a (Ap.Ec ns))(B:ak h b (Ap.Ec ns))(π:ns.length=l)(YA:ns.length=l2)(hl:l<=1000000000000)(hK:K (.bool true) h):C.fT a l c b l2 e h K:=by
 refine fT.ok (cn (λy=>absurd (show(l:Int)=l2 by omega) y) λ_=>?_);refine⟨λi hh=>∃j:Nat,i=j/\j<=l/\hh=h,λi _=>((l:Int)-i).toNat,⟨0,rfl,nZ0,rfl⟩,?_⟩;rintro i _ ⟨j,ei,hj,rfl⟩;refine cd (λbK=>?_) λ_=>hK;have k7:j<ns.length:=by omega
 have Qd:i.toNat=j:=by omega
 obtain⟨p,rfl,cp⟩:=Ap.AY A k7;obtain⟨q,rfl,cq⟩:=Ap.AY B k7;rw[Qd,wq (i+1)];exact⟨⟨by omega,bK⟩,os ⟨_,cp,⟨by omega,by omega⟩,os ⟨_,cq,cn (λy=>absurd rfl y) λ_=>⟨⟨j+1,by omega,by omega,rfl⟩,by show((l:Int)-(i+1)).toNat<((l:Int)-i).toNat;omega⟩⟩⟩⟩
theorem EE{v n:Int}(h0:0<n)(hn:n<=4611686018427387904)(hK:K (vI (Wc.Ku v n)) h):C.iB v n h K:=by
 have h1:=Int.tmod_lt_of_pos v h0;have h2:=Int.lt_tmod_of_pos v h0;refine iB.ok ?_;unfold iB;rw[if_neg (by omega)];unfold Wc.Ku at hK;refine cd (λbK=>?_) λbK=>?_
 ·rw[if_pos bK]at hK;rw[wrap_i64 (by omega) (by omega)];exact hK
 ·rw[if_neg bK]at hK;exact hK
theorem Qs(T:TM)(g:G)(R:List Int)(k:Int):(fL T g R k).1.aK=T.aK:=by
 have w:=Bx.Hi g (eV k.toNat) T R 0 (Ext.refl T);unfold fL
 split
 ·rfl
 ·split
  ·exact(AZ _ _).1.trans w.aK
  ·exact w.aK
theorem Qu(T:TM)(g:G)(R:List Int)(k:Int):(fA T g R k).1.aK=T.aK:=by
 have w:=Bx.K1 (T0:=T) g k R (Ext.refl T);unfold fA
 split
 ·rfl
 ·split
  ·exact(AZ _ _).1.trans w.aK
  ·exact w.aK
theorem zY{g:G}{off:Nat}{s:cL}:∀(k a:Nat) (T:TM) (R:List Int),(fS g off s k a T R).1.1.aK=T.aK/\(fS g off s k a T R).1.1.ar.length<=T.ar.length+10*k
 | 0,a,T,R=>⟨rfl,nL0⟩
 | k+1,a,T,R=>by
  by_cases h:s.length<=a
  ·rw[wC h];exact⟨rfl,Nat.le_add_right _ _⟩
  ·have d1:=Qs T g R ((off+a)/512:Nat);have u1:=zT (T:=T) (g:=g) (R:=R) (k:=((off+a)/512:Nat));obtain⟨T2,R2,v2,e2,ea⟩:∃T2 R2 v2 e2,fL T g R ((off+a)/512:Nat)=(T2,R2,v2,e2):=⟨_,_,_,_,rfl⟩;rw[ea]at d1 u1;simp only at d1 u1;rw[wD (by omega) ea];obtain⟨d3,u3⟩:=sv T2 v2 (Re.iH (T2.read v2).1 ((off+a)%512) ((s.drop a).take (toP off s.length a-(off+a)%512)))
   split
   ·exact⟨d1,by show T2.ar.length<=_;omega⟩
   ·split
    ·exact⟨d1,by show T2.ar.length<=_;omega⟩
    ·split
     ·exact⟨d3.trans d1,by show(T2.write _ _).1.ar.length<=_;omega⟩
     ·obtain⟨d4,u4⟩:=zY (g:=g) (off:=off) (s:=s) k (sB off s.length a) (T2.write v2 (Re.iH (T2.read v2).1 ((off+a)%512) ((s.drop a).take (toP off s.length a-(off+a)%512)))).1 R2;exact⟨d4.trans (d3.trans d1),by omega⟩
theorem EF{T T0:TM}{r:TM×Int}(h:r.1.aK=T0.aK/\r.1.ar.length<=T0.ar.length+k):(pL T r).1.aK=T0.aK/\(pL T r).1.ar.length<=T0.ar.length+(k+1):=by
 unfold pL
 split
 ·obtain⟨a,b⟩:=AZ r.1 T.mark.1;exact⟨a.trans h.1,by show(r.1.back T.mark.1).1.ar.length<=_;omega⟩
 ·exact⟨h.1,by omega⟩
theorem Bi(T:TM)(g:G)(n:Int)(R:List Int):(kA T g n R).1.aK=T.aK/\(kA T g n R).1.ar.length<=T.ar.length+1:=⟨(Fq.Uj (Ext.refl T) g n R).aK,Iy⟩
theorem K7(T:TM)(g:G)(i off:Int)(s:cL):(iW T g i off s).1.aK=T.aK/\(iW T g i off s).1.ar.length<=T.ar.length+(10*s.length+2):=by
 have no:T.aK=T.aK/\T.ar.length<=T.ar.length+(10*s.length+2):=⟨rfl,by omega⟩;unfold iW
 split
 ·exact no
 ·split
  ·exact no
  ·split
   ·exact no
   ·split
    ·exact no
    ·refine EF ?_;obtain⟨a,b⟩:=zY (g:=g) (off:=off.toNat) (s:=s) s.length 0 T (dq T g i).1;unfold pP
     split
     ·exact⟨a,by show(fS _ _ _ _ _ _ _).1.1.ar.length<=_;omega⟩
     ·obtain⟨c,d⟩:=Bi (fS g off.toNat s s.length 0 T (dq T g i).1).1.1 g i ((fS g off.toNat s s.length 0 T (dq T g i).1).1.2.set 2 (max ((fS g off.toNat s s.length 0 T (dq T g i).1).1.2.getD 2 0) ((off.toNat+s.length:Nat):Int)));exact⟨c.trans a,by omega⟩
theorem Nk(T:TM)(g:G)(R:List Int)(size:Int):(lT T g R size).1.aK=T.aK:=by
 unfold lT
 split
 ·rfl
 ·split
  ·rfl
  ·split
   ·rfl
   ·split
    ·rfl
    ·exact(sv _ _ _).1
theorem Qv(T:TM)(g:G)(i size:Int):(rI T g i size).1.aK=T.aK/\(rI T g i size).1.ar.length<=T.ar.length+16713:=by
 have no:T.aK=T.aK/\T.ar.length<=T.ar.length+16713:=⟨rfl,by omega⟩;unfold rI
 split
 ·exact no
 ·split
  ·exact no
  ·split
   ·exact no
   ·split
    ·exact no
    ·refine EF (k:=16712) ?_;unfold vr
     split
     ·have a:=Qu T g (dq T g i).1 ((size+511)/512);have b:=uS (T:=T) (g:=g) (R:=(dq T g i).1) (k:=(size+511)/512);have c:=Nk (fA T g (dq T g i).1 ((size+511)/512)).1 g (fA T g (dq T g i).1 ((size+511)/512)).2.1 size;have e:=KJ (T:=(fA T g (dq T g i).1 ((size+511)/512)).1) (g:=g) (R:=(fA T g (dq T g i).1 ((size+511)/512)).2.1) (size:=size)
      split
      ·exact⟨a,by show(fA _ _ _ _).1.ar.length<=_;omega⟩
      ·split
       ·exact⟨c.trans a,by omega⟩
       ·obtain⟨p,q⟩:=Bi (lT (fA T g (dq T g i).1 ((size+511)/512)).1 g (fA T g (dq T g i).1 ((size+511)/512)).2.1 size).1 g i ((fA T g (dq T g i).1 ((size+511)/512)).2.1.set 2 size);exact⟨p.trans (c.trans a),by omega⟩
     ·obtain⟨p,q⟩:=Bi T g i ((dq T g i).1.set 2 size);exact⟨p,by omega⟩
section
variable{h1 hh : ad}{sb n c U : Nat}{d q t u : OA}{g : G}{T : TM}{S : RD}{ao : Nat -> Nat}{K : Value -> ad -> Prop}
theorem xT(X:Xd h1 sb d q t u g S hh ao)(hK:∀ h' ay t' u',Ag hh.size ao ay->hh.size<=h'.size->Xt h1 sb d q t' u' g ⟨S,[],[],false⟩ ⟨S,[],[],false⟩ h' ay->K (.bool true) h'):C.cV (some ⟨sb,0,none⟩) hh K:=by
 obtain⟨F,A,hF⟩:=X.x;refine cV.ok (os ⟨_,bJ X.sr rfl,Tm.yt A λtb h2 F2 f2 g2 x2=>⟨_,rfl,?_⟩⟩);obtain⟨col2,ag2,X2⟩:=X.prog (P':=λh F=>Tx h F (some ⟨tb,0,none⟩) d ⟨S,[],[],false⟩) (Oq q S) hF (f2.mono λ_ _ y=>y.elim) g2 x2;refine os (aO.add X2.so (by rw[X2.sr];show 0+2<9;omega) λh3 d3=>?_);have X3:=X2.did (sV _ _ _) (Oq q S) d3;obtain⟨G,R,hG⟩:=X3.y;refine os ⟨_,bJ (X3.sr.trans (congrArg (λl=>List.set l (0+2) _) X2.sr)) rfl,Rx.jc.Eb R λF4 h4 f4 x4 e4=>⟨_,rfl,?_⟩⟩;obtain⟨Ee,ag4,X4⟩:=X3.doc (Q':=λh F=>Rx.jc h F (some (bA h3)) q ⟨S,[],[],false⟩) (sV _ _ _) hG (f4.mono λ_ _ y=>y.elim) ⟨λb hb=>by rw[e4 b];exact⟨λy=>y.elim id λy=>by omega,.inl⟩,λb hb=>x4.lt hb⟩ x4;refine os (aO.add X4.so (by rw[X4.sr,X2.sr];show 0+3<9;omega) λh5 d5=>?_);have X5:=X4.did (sV _ _ _) (xQ _ _ _) d5;have e5:(rd h4 sb).set (0+3) (vP (some (bA h3)))=sxV d q (some ⟨tb,0,none⟩) (some (bA h3)) g:=by rw[X4.sr,X2.sr];rfl
 rw[e5]at X5;have z2:=f2.size;have z3:=d3.size;have z4:=f4.size;have z5:=d5.size;exact os ⟨_,bJ X5.sr rfl,hK h5 Ee _ _ ((ag2.trans (ag4.le (by omega)) z2)) (by omega) X5⟩
theorem uW(X:Xt h1 sb d q t u g T T hh ao)(hK:∀ h',Fr No hh h'->K (.bool true) h'):C.cQ (some ⟨sb,0,none⟩) hh K:=by
 have kp:=sV t d T;have kq:=xQ u q T;obtain⟨E,y,_⟩:=X.y;have mp:=Kw y;refine cQ.ok (os ⟨_,bJ X.sr rfl,Rx.Fo y λa2 c2 h2 f2 s2=>⟨_,_,_,rfl,?_⟩⟩);have X2:=X.no kp kq f2;obtain⟨F2,x2,_⟩:=X2.x;refine os ⟨_,bJ X2.sr rfl,Tm.zv x2 (by omega) λa3 l3 c3 h3 f3 el3 s3=>⟨_,_,_,rfl,?_⟩⟩;have X3:=X2.no kp kq f3;have s2':=s2.fr f3 λ_ _ _ y=>y;have e3:T.written.length=l3:=Ap.PY (vs:=T.written) s3;refine Cg (ns:=T.written) s3.cells s2'.cells e3 rfl (by omega) ⟨_,rfl,jV (ct rfl ?_)⟩;refine⟨λi hx=>∃j:Nat,i=j/\j<=T.written.length/\Fr No h3 hx,λi _=>((T.written.length:Int)-i).toNat,⟨0,rfl,nZ0,Fr.refl _ _⟩,?_⟩;rintro _ h5 ⟨j,rfl,hj,f5⟩;have X5:=X3.no kp kq f5;have f05:Fr No hh h5:=(f2.no f3).no f5;refine cd (λbK=>?_) λ_=>hK h5 f05;have k7:j<T.written.length:=by omega
 obtain⟨p,ep,cp⟩:=Ap.AY (ns:=T.written) (ak.fr f5 s2'.cells λ_ _ y=>y) k7;obtain⟨F5,x5,_⟩:=X5.x;rw[tN0,wq ((j:Int)+1)];refine⟨⟨by omega,bK⟩,Rz.oe ep ⟨_,cp,os ⟨_,bJ X5.sr rfl,Tm.cD x5 λa6 l6 c6 h6 f6 el6 s6=>⟨_,_,_,_,rfl,?_⟩⟩⟩⟩;have X6:=X5.no kp kq f6;obtain⟨E6,y6,_⟩:=X6.y;refine os ⟨_,bJ X6.sr rfl,Rx.cD y6 λa7 l7 c7 h7 f7 el7 s7=>⟨_,_,_,_,rfl,cn (λy=>absurd rfl y) λ_=>⟨_,(s6.fr f7 λ_ _ _ y=>y).str,_,s7.str,jV (ct (beq_self_eq_true _) ⟨⟨j+1,rfl,k7,(f5.no f6).no f7⟩,di bK⟩)⟩⟩⟩
end
structure yL where
 kind:Int
 n:Int
 off:Int
 size:Int
 s:cL
def yL.cells(o:yL):LV:=[vI o.kind,vI o.n,vI o.off,vI o.size,.string (mkStr o.s)]
section
variable{h1 hh : ad}{sb n c U : Nat}{d q t u : OA}{T : TM}{ao : Nat -> Nat}{K : Value -> ad -> Prop}
theorem EG(X:Xt h1 sb d q t u (ai n) T T hh ao)(hK:∀ h' ay t' u',Xt h1 sb d q t' u' (ai n) ⟨T.aK,[],[],false⟩ ⟨T.aK,[],[],false⟩ h' ay->K (.bool true) h'):aE.k2 (some ⟨sb,0,none⟩) hh K:=by
 unfold aE.k2;exact os ⟨_,bJ X.sr rfl,GW X λh2 col2 X2=>⟨rfl,xT (YQ X2) λh3 Ed t' u' _ _ X3=>⟨_,rfl,hK h3 Ed t' u' X3⟩⟩⟩
theorem K8{o:yL}{ob:Nat}(eo:h2.size=ob)(X:Xt h1 sb d q t u (ai n) T T hh ao)(ho:rd hh ob=o.cells)(hob:ob<hh.size/\ao ob=0)(hu:T.ar.length<900000000)
  (hK:∀h' ay T',Xt h1 sb d q t u (ai n) T' T' h' ay->T'.aK=T.aK/\T'.ar.length<=T.ar.length+96->K (.bool true) h') :
  C.gP (IntKind.wrap .u8 o.size) hh λYo cg=>∃(aI:OA) (aF:Nat) (aT:Nat),Yo = vS aI aF aT/\
   ∃(I1:Int->ad->Prop) (M1:Int->ad->Nat),I1 0 cg/\∀(i1:Int),∀cM:ad,I1 i1 cM->
   bif(i1==0)then(aE.k1 (some ⟨sb,0,none⟩) h2 aI aF aT i1 cM I1 M1 K)else(
   ∃(n33:Int),cellOf cM (Addr.add ⟨h2.size,0,none⟩ 2)=some (vI n33)/\
   bif(decide (i1<n33))then(
   bif(decide (i1<96))then(aE.k1 (some ⟨sb,0,none⟩) h2 aI aF aT i1 cM I1 M1 K)else(K (.bool true) cM))else(K (.bool true) cM)):=by
 rw[eo];obtain⟨x,ex⟩:∃x:UInt8,IntKind.wrap .u8 o.size=(x.toNat:Int):=⟨_,by have:=Hd.Cy o.size;injection this⟩;rw[ex];refine IJ λh3 f3 z3 B3=>⟨_,_,_,rfl,?_⟩;have X3:=X.no (sV _ _ _) (xQ _ _ _) f3;refine⟨λi hx=>∃(j:Nat) (T':TM) (ay:Nat->Nat),i=j/\j<=96/\Xt h1 sb d q t u (ai n) T' T' hx ay/\(T'.aK=T.aK/\T'.ar.length<=T.ar.length+j)/\aw hx (some (bA hh)) 512 (List.replicate 512 x)/\hh.size<hx.size/\ay hh.size=0/\rd hx ob=o.cells/\ay ob=0,λi _=>(((96:Nat):Int)-i).toNat,⟨0,T,ao,rfl,nZ0,X3,⟨rfl,nL0⟩,B3,z3,X.vp _ nL0,(f3.rd hob.1 λy=>y).trans ho,hob.2⟩,?_⟩;clear X3;intro i cM I;obtain⟨j,T',ay,ei,hj,X',sm,B,zb,cb,ro,co⟩:=I;subst ei;have fin:K (.bool true) cM:=hK cM ay T' X' ⟨sm.1,by have:=sm.2;omega⟩
 have step:j<96->aE.k1 (some ⟨sb,0,none⟩) h2 (some (bA hh)) 512 512 j cM (λi hx=>∃(j:Nat) (T':TM) (ay:Nat->Nat),i=j/\j<=96/\Xt h1 sb d q t u (ai n) T' T' hx ay/\(T'.aK=T.aK/\T'.ar.length<=T.ar.length+j)/\aw hx (some (bA hh)) 512 (List.replicate 512 x)/\hh.size<hx.size/\ay hh.size=0/\rd hx ob=o.cells/\ay ob=0) (λi _=>(((96:Nat):Int)-i).toNat) K:=λhj9=>by
  unfold aE.k1;rw[eo,wq ((j:Int)+1)];obtain⟨F,x1,hF⟩:=X'.x;have lo:ob<cM.size:=gr (o:=0) (by rw[ro];rfl);have nF:∀b,ay b=0->¬F b:=λb hb y=>by have:=hF _ y;omega
  refine os ⟨_,bJ X'.sr rfl,_,bJ ro rfl,os ⟨_,bJ X'.sr rfl,_,bJ ro rfl,Tm.eF x1 B (by decide) (λp e y=>by cases e;exact nF _ cb y) (by have:=sm.2;omega) λfg F15 f15 g15 x15=>⟨_,rfl,?_⟩⟩⟩;obtain⟨col5,ag5,X5⟩:=X'.prog (P':=λh F=>Tx h F t d (T'.write (wI (o.n+j)) (List.replicate 512 x)).1) (xQ _ _ _) hF f15 g15 x15;have kS:=f15.size;have ι:rd fg ob=o.cells:=(f15.rd lo (nF _ co)).trans ro;have B15:=aw.fr f15 B λp e y=>by cases e;exact nF _ cb y
  obtain⟨E,y5,hE⟩:=X5.y;have nE:∀b,b<cM.size->ay b=0->¬E b:=λb hl hb y=>by have:=hE _ y;have:=ag5 b hl;omega
  refine⟨bJ X5.sr rfl,bJ ι rfl,Rx.sT y5 B15 (by have:=sm.2;omega) λiY E16 f16 g16 y16=>⟨_,rfl,cn (λy=>absurd rfl y) λ_=>?_⟩⟩;obtain⟨aah,ag6,X6⟩:=X5.doc (Q':=λh F=>Rx.jc h F u q (T'.write (wI (o.n+j)) (List.replicate 512 x)).1) (sV _ _ _) hE f16 g16 y16;have w:=sv T' (wI (o.n+j)) (List.replicate 512 x);have z16:=f16.size;refine⟨⟨j+1,_,aah,rfl,hj9,X6,⟨w.1.trans sm.1,by have:=sm.2;have:=w.2;omega⟩,aw.fr f16 B15 (λp e y=>by cases e;exact nE _ zb cb y),by omega,((ag6 _ (by omega)).trans (ag5 _ zb)).trans cb,(f16.rd (by omega) (nE _ lo co)).trans ι,((ag6 _ (by omega)).trans (ag5 _ lo)).trans co⟩,di (n:=(j:Int)) (m:=96) (by omega)⟩
 refine ce (λe0=>step (by omega)) λ_=>⟨_,bJ ro rfl,cd (λ_=>?_) λ_=>fin⟩;generalize hdq:decide ((j:Int)<96)=b96;refine cs (λbK=>step ?_) λ_=>fin;have:=of_decide_eq_true (hdq.trans bK);omega
theorem IK{o:yL}(G:Re.kJ h1)(X:Xt h1 sb d q t u (ai n) T T hh ao)(dm:uO n)(iv:Iw c U n T)(hc:c<200000)(hU:U<400000000)(hs:o.s.length<=32768)(ok:o.off<=9223372036854775807)
  (hK:∀h' ay d' q' t' u' T',Xt h1 sb d' q' t' u' (ai n) T' T' h' ay->Iw (c+1) (U+400000) n T'->K (.bool true) h'):C.aE (some ⟨sb,0,none⟩) o.cells hh K:=by
 have kp:=sV t d T;have kq:=xQ u q T;have un:=iv.un;have hN:98<=T.N:=by have:=iv.n;have:=dm.lo;omega
 have gl:In.kJ hh:=⟨(G.no X.fr).wide⟩;have hp:1<=h1.size:=by have:=G.lt;omega
 refine aE.ok (az.intro λh2 n2=>⟨_,bJ n2.rd rfl,?_⟩);have X2:=X.no kp kq n2.fr;have gl2:=gl.no n2.fr;have z2:=n2.size;have c0:ao hh.size=0:=X.vp _ nL0;obtain⟨F,x,hF⟩:=X2.x;have nF:¬F hh.size:=λy=>by have:=hF _ y;omega
 have g0:∀b,b<1->¬F b:=λb hb y=>by have:=hF _ y;have:=X.base b (by omega);omega
 have next:∀{T':TM} {k:Nat},T'.aK=T.aK/\T'.ar.length<=T.ar.length+k->k<=400000->Iw (c+1) (U+400000) n T':=λh hk=>((iv.same h).le (Nat.le_succ c) (by omega));have OP:Iw (c+1) (U+400000) n T:=next (k:=0) ⟨rfl,nL0⟩ (by omega)
 -- Read
 refine ce (λ_=>os ⟨_,bJ X2.sr rfl,os ⟨(ai n).v,rfl,mf X2,_,bJ n2.rd rfl,_,bJ n2.rd rfl,_,bJ n2.rd rfl,Fi.cD gl2 dm x λh3 f3=>⟨_,_,rfl,?_⟩⟩⟩) λ_=>?_
 ·have X3:=X2.no kp kq f3;obtain⟨E3,y3,Tl⟩:=X3.y;have o3:rd h3 hh.size=o.cells:=(f3.r0).trans n2.rd;refine os ⟨_,bJ X3.sr rfl,os ⟨(ai n).v,rfl,mf X3,_,bJ o3 rfl,_,bJ o3 rfl,_,bJ o3 rfl,Fq.Ni y3 (QQ dm) ok λh4 f4=>⟨_,_,rfl,ct (beq_self_eq_true _) ?_⟩⟩⟩;rw[beq_self_eq_true];exact hK h4 ao d q t u _ (X3.no kp kq f4) OP
 -- Write
 refine ce (λ_=>os ⟨_,bJ X2.sr rfl,os ⟨(ai n).v,rfl,mf X2,_,bJ n2.rd rfl,_,bJ n2.rd rfl,_,bJ n2.rd rfl,os ⟨_,bJ X2.sr rfl,os ⟨(ai n).v,rfl,mf X2,_,bJ n2.rd rfl,_,bJ n2.rd rfl,_,bJ n2.rd rfl,?_⟩⟩⟩⟩) λ_=>?_
 ·refine Fi.Qk gl2 dm x g0 (by omega) ok (by omega) λh3 F3 f3 g3 x3=>⟨_,rfl,?_⟩;obtain⟨Ed,ag3,X3⟩:=X2.prog (P':=λh F=>Tx h F t d (iW T (ai n) o.n o.off o.s).1) kq hF f3 g3 x3;obtain⟨E3,y3,Tl⟩:=X3.y;have o3:rd h3 hh.size=o.cells:=(f3.rd (by omega) nF).trans n2.rd;refine⟨bJ X3.sr rfl,⟨rfl,mf X3⟩,bJ o3 rfl,bJ o3 rfl,bJ o3 rfl,Fq.K5 y3 dm hN (by omega) ok (by omega) λh4 F4 f4 g4 y4=>⟨_,rfl,ct (beq_self_eq_true _) ?_⟩⟩;obtain⟨Ee,ag4,X4⟩:=X3.doc (Q':=λh F=>Rx.jc h F u q (iW T (ai n) o.n o.off o.s).1) (sV _ _ _) Tl f4 g4 y4;exact uW X4 λh5 f5=>⟨_,rfl,hK h5 Ee d q t u _ (X4.no (sV _ _ _) (xQ _ _ _) f5) (next (K7 _ _ _ _ _) (by omega))⟩
 -- Cut
 refine ce (λ_=>os ⟨_,bJ X2.sr rfl,os ⟨(ai n).v,rfl,mf X2,_,bJ n2.rd rfl,_,bJ n2.rd rfl,os ⟨_,bJ X2.sr rfl,os ⟨(ai n).v,rfl,mf X2,_,bJ n2.rd rfl,_,bJ n2.rd rfl,?_⟩⟩⟩⟩) λ_=>?_
 ·refine Fi.Xa gl2 dm x g0 (by omega) λh3 F3 f3 g3 x3=>⟨_,rfl,?_⟩;obtain⟨Ed,ag3,X3⟩:=X2.prog (P':=λh F=>Tx h F t d (rI T (ai n) o.n o.size).1) kq hF f3 g3 x3;obtain⟨E3,y3,Tl⟩:=X3.y;have o3:rd h3 hh.size=o.cells:=(f3.rd (by omega) nF).trans n2.rd;refine⟨bJ X3.sr rfl,⟨rfl,mf X3⟩,bJ o3 rfl,bJ o3 rfl,Fq.Qq y3 dm hN (by omega) λh4 F4 f4 g4 y4=>⟨_,rfl,ct (beq_self_eq_true _) ?_⟩⟩;obtain⟨Ee,ag4,X4⟩:=X3.doc (Q':=λh F=>Rx.jc h F u q (rI T (ai n) o.n o.size).1) (sV _ _ _) Tl f4 g4 y4;exact uW X4 λh5 f5=>⟨_,rfl,hK h5 Ee d q t u _ (X4.no (sV _ _ _) (xQ _ _ _) f5) (next (Qv _ _ _ _) (by omega))⟩
 -- Blocks
 have al:=Bx.Xo T (ai n) (dq T (ai n) o.n).1;refine ce (λ_=>os ⟨_,bJ X2.sr rfl,os ⟨(ai n).v,rfl,mf X2,_,bJ n2.rd rfl,Fi.iI gl2 x (QQ dm) (λ_=>by omega) λh3 f3=>⟨_,_,rfl,?_⟩⟩⟩) λ_=>?_
 ·have X3:=X2.no kp kq f3;obtain⟨E3,y3,Tl⟩:=X3.y;have o3:rd h3 hh.size=o.cells:=(f3.r0).trans n2.rd;refine os ⟨_,bJ X3.sr rfl,os ⟨(ai n).v,rfl,mf X3,_,bJ o3 rfl,Fq.IF y3 (QQ dm) al λh4 f4=>⟨_,_,rfl,ct (beq_self_eq_true _) ?_⟩⟩⟩;rw[beq_self_eq_true];exact hK h4 ao d q t u _ (X3.no kp kq f4) OP
 -- aO
 refine ce (λ_=>⟨_,bJ n2.rd rfl,K8 (ob:=hh.size) rfl X2 n2.rd ⟨by omega,c0⟩ (by omega) λh' ay T' X' sm=>hK h' ay d q t u T' X' (next sm (by omega))⟩) λ_=>?_
 -- End
 refine ce (λ_=>⟨_,bJ n2.rd rfl,EE (by decide) (by decide) ⟨_,rfl,ce (λ_=>os ⟨_,bJ X2.sr rfl,os ⟨_,bJ X2.sr rfl,?_⟩⟩) λ_=>EG X2 λh' ay t' u' X'=>hK h' ay d q t' u' _ X' (next (k:=0) (T':=⟨T.aK,[],[],false⟩) ⟨rfl,nZ0⟩ (by omega))⟩⟩) λ_=>?_
 ·exact Ip G X2 iv (by omega) hc λh3 Ed X3 iv3=>EG X3 λh' ay t' u' X'=>hK h' ay d q t' u' _ X' ((iv3.same (k:=0) (T':=⟨T.gU.1.aK,[],[],false⟩) ⟨rfl,nZ0⟩).le nL0 (by omega))
 -- Over
 refine ce (λ_=>os ⟨_,bJ X2.sr rfl,GW X2 λh3 Ed X3=>⟨rfl,hK h3 Ed d q t u _ X3 (next (k:=0) (T':=TM.ended T.aK) ⟨rfl,nZ0⟩ (by omega))⟩⟩) λ_=>?_
 -- Crash
 refine ce (λ_=>os ⟨_,bJ X2.sr rfl,MN X2 λh3 Ed X3=>⟨rfl,hK h3 Ed d q t u _ X3 OP.cut⟩⟩) λ_=>hK h2 ao d q t u _ X2 OP
end
end Sx
namespace Sx
open Hp W Ad Tm Spc Av Tp
open Hd (ints)
structure Ck where
 n:Int
 ra:OA
 rc:Nat
 qn:List (List Int)
 sa:OA
 sc:Nat
 ops:List yL
def Ck.cells(c:Ck):LV:=[vI c.n,vS c.ra c.qn.length c.rc,vS c.sa c.ops.length c.sc]
section
variable{h1 hh : ad}{sb n : Nat}{c : Ck}{K : Value -> ad -> Prop}
theorem Qw{xs:List yL}(A:ak h a (xs.flatMap yL.cells)){j:Nat}(hj:j<xs.length):∃p,a=some p/\aj h (p.add (j*5)) xs[j].cells:=by
 have hl:=fW yL.cells 5 xs λ_ _=>rfl
 cases a with
 | none=>have A:xs.flatMap yL.cells=[]:=A;rw[A]at hl;exact absurd hl (by simp;omega)
 | some p=>
  refine⟨p,rfl,?_⟩;have:=aj.part A (j*5) 5;rw[m6 yL.cells 5 xs (λ_ _=>rfl) j hj]at this;exact this
theorem OQ{q u:OA}{h9:ad}{T:TM}{ao:Nat->Nat}(X:Xt h1 h9.size d q t u (ai n) T T hh ao)(hK:∀ h',Fr No hh h'->K (.bool true) h'):aV.k3 h9 hh K:=by
 unfold aV.k3;refine uW X λh2 f2=>⟨_,rfl,ct rfl ?_⟩;have Y:=(YQ X).no (YP _ _) (Oq _ _) f2;obtain⟨D,A,_⟩:=Y.x;refine⟨_,bJ Y.sr rfl,_,bJ Y.sr rfl,Wc.PX A λa3 c3 h3 f3 s3=>⟨_,_,_,rfl,?_⟩⟩;have Y3:=Y.no (YP _ _) (Oq _ _) f3;obtain⟨E3,R,_⟩:=Y3.y;refine⟨bJ Y3.sr rfl,_,s3.str,R.image λa4 l4 c4 h4 f4 s4=>⟨_,_,_,rfl,by rw[toList_mkStr];exact aw.fr f4 s3.str λ_ _ y=>y,_,s4.str,?_⟩⟩;rw[beq_self_eq_true];exact hK h4 ((f2.no f3).no f4)
theorem EH(G:Re.kJ h)(B:ak h c.ra (c.qn.flatMap ints))(hR:∀ R ∈ c.qn,R.length=15)(hl:c.qn.length<=140737488355328)(S:ak h c.sa (c.ops.flatMap yL.cells))(ok:∀ o ∈ c.ops,o.off<=9223372036854775807)
  (hK:∀h',Fr No h h'->K (.bool true) h'):C.aV c.cells h K:=by
 have hr:=Wc.MM (v:=c.n) (n:=100) (by decide);refine aV.ok (az.intro λh2 n2=>⟨_,bJ n2.rd rfl,EE (by decide) (by decide) ⟨_,rfl,?_⟩⟩);obtain⟨n,en⟩:∃n:Nat,(n:Int)=128+Wc.Ku c.n 100:=⟨(128+Wc.Ku c.n 100).toNat,by omega⟩;rw[wq (128+Wc.Ku c.n 100),<-en];have dm:uO n:=⟨by omega,by omega⟩;have z2:=n2.size;refine S8 (by omega) λh4 f4=>⟨_,rfl,aM.intro rfl (Spc.G.one _) rfl λh6 n6=>?_⟩;have z4:=f4.size;have z6:=n6.size;have f26:Fr No h2 h6:=f4.new n6;have rc6:rd h6 h.size=c.cells:=(f26.r0).trans n2.rd;refine⟨(ai n).v,rfl,ah n6.rd,_,_,_,bJ rc6 rfl,?_⟩;refine Fq.K6 dm (ak.fr (n2.fr.no f26) B λ_ _ y=>y) hR hl λh7 b bs f7 mi hb1 hbs B7=>⟨_,_,_,rfl,?_⟩;have z7:=f7.size;have ok2:¬(n*512%512≠0∨n*512=0∨16384<n*512/512):=by omega
 refine L8 B7 nL0 (by omega) (λy=>absurd y ok2) λ_ _ _ q8 h8 D8 f8 ge8 A8=>⟨_,_,rfl,?_⟩;refine Rf.pM.of (aw.fr f8 B7 λ_ _ y=>y) (by omega) (λy=>absurd y ok2) λ_ _ _ q9 h9 E9 f9 ge9 R9=>⟨_,_,rfl,cn (λy=>absurd rfl y) λ_=>cf rfl (cf rfl ?_)⟩;unfold aV.k1;have z8:=f8.size;have z9:=f9.size;have f69:Fr No h6 h9:=(f7.no f8).no f9;have r9:rd h9 h4.size=(ai n).v:=(f69.r0).trans n6.rd;refine⟨(ai n).v,rfl,ah r9,rfl,az.intro λcB n10=>?_⟩;have WJ:=n10.size;have A10:=(A8.no f9).no n10.fr;have R10:=R9.no n10.fr
 obtain⟨ao,k1,k2,k3,k0⟩:∃ao:Nat->Nat,ao h9.size=1/\(∀b,D8 b->ao b=2)/\(∀b,E9 b->ao b=3)/\∀b,b≠h9.size->¬D8 b->¬E9 b->ao b=0:=by
  refine⟨λb=>if b=h9.size then 1 else @ite _ (D8 b) (Classical.propDecidable _) 2 (@ite _ (E9 b) (Classical.propDecidable _) 3 0),if_pos rfl,λb y=>?_,λb y=>?_,λb y1 y2 y3=>?_⟩
  ·show(if b=h9.size then 1 else _)=2;rw[if_neg (by have:=A8.lt y;omega),if_pos y]
  ·show(if b=h9.size then 1 else _)=3;rw[if_neg (by have:=R9.lt y;omega),if_neg (λw=>by have:=A8.lt w;have:=ge9 b y;omega),if_pos y]
  ·show(if b=h9.size then 1 else _)=0;rw[if_neg y1,if_neg y2,if_neg y3]
 have X:Xd h2 h9.size (some q8) (some q9) none none (ai n) (fresh (chunks bs)) cB ao:=
  ⟨(f26.no f69).new n10,λb hb=>k0 b (by omega) (λy=>by have:=A10.lt y;omega) (λy=>by have:=R10.lt y;omega),λb hb=>k0 b (by omega) (λy=>by have:=ge8 b y;omega) (λy=>by have:=ge9 b y;omega),k1,n10.own,n10.rd,⟨D8,A10,k2⟩,⟨E9,R10,k3⟩⟩
 have hlen:(chunks bs).length=n:=by rw[jD,hbs];omega
 refine xT X λbQ afw t u ag11 Pz X11=>⟨_,rfl,jV (ct rfl ?_)⟩;have afx:Iw 0 0 n ⟨fresh (chunks bs),[],[],false⟩:=Iw.new hlen;have fin:∀{hh:ad} {ao:Nat->Nat} {d q t u:OA} {T:TM},Xt h2 h9.size d q t u (ai n) T T hh ao->∀h',Fr No hh h'->K (.bool true) h':=λY h' f=>hK _ ((n2.fr.no Y.fr).no f);refine⟨λi hh=>∃(j:Nat) (ao:Nat->Nat) (d q t u:OA) (T:TM),i=j/\j<=60/\Xt h2 h9.size d q t u (ai n) T T hh ao/\Iw j (400000*j) n T,λi _=>(((60:Nat):Int)-i).toNat,⟨0,afw,_,_,t,u,_,rfl,nZ0,X11,afx⟩,?_⟩;clear X11 afx ag11 Pz X k0 k1 k2 k3 A10 R10;rintro _ cG ⟨j,ay,d,q,t',u',T,rfl,hj,X,iv⟩;have rc:rd cG h.size=c.cells:=(X.fr.r0).trans n2.rd;refine⟨_,_,_,bJ rc rfl,cd (λbK=>?_) λ_=>OQ X (fin X)⟩;generalize hq:decide ((j:Int)<60)=b60;refine cs (λh60=>?_) λ_=>OQ X (fin X);have h60:=of_decide_eq_true (hq.trans h60);unfold aV.k2;have k7:j<c.ops.length:=by omega
 obtain⟨p,ep,cp⟩:=Qw (ak.fr X.fr (ak.fr n2.fr S λ_ _ y=>y) λ_ _ y=>y) k7;have kR:cellOf cG (Addr.add (Addr.add p (j*5)) 4)=some (.string (mkStr c.ops[j].s)):=cp 4 _ rfl;rw[tN0,wq ((j:Int)+1)];refine⟨_,_,_,bJ rc rfl,⟨by omega,bK⟩,Rz.oe ep ⟨_,kR,?_⟩⟩;refine cd (λvq=>⟨_,_,_,bJ rc rfl,⟨by omega,bK⟩,Rz.oe ep ⟨_,kR,?_⟩⟩) λvq=>⟨_,_,_,bJ rc rfl,⟨by omega,bK⟩,Rz.oe ep ⟨_,rfl,cp,?_⟩⟩
 ·rw[decide_eq_true vq];exact hK cG (n2.fr.no X.fr)
 ·have mW:c.ops[j].s.length<=32768:=by
   have:¬((c.ops[j].s.length:Nat):Int)>32768:=vq;omega
  exact IK (G.no n2.fr) X dm iv (by omega) (by omega) mW (ok _ (List.getElem_mem k7)) λcg afy d' q' t2 u2 T' X13 iv13=>⟨_,rfl,jV (ct rfl ⟨⟨j+1,afy,d',q',t2,u2,T',rfl,by omega,X13,iv13.le nL0 (by omega)⟩,di (n:=(j:Int)) (m:=60) (by omega)⟩)⟩
end
end Sx
end Go.Proofs.YtjdcbblgaoogmaaGreatDoor
