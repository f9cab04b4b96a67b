/- walkExact_card -/
import Derived.Test.YtiapingedfnlnaaGreatDoorGp7
namespace Go.Proofs.YtiapingedfnlnaaGreatDoor
open Go Go.Proofs Wx
variable{h6 h h10:ab}{a:OA}{ec c B j m cnt:Nat}{l nx:List Int}{xs:LV}{F:NP}{n k ht i:Int}{K:KT}{beh fl:Bool}{f:List Bool}
namespace Rq
open Hp W Ad Tm Spc Re Av Ss
open Hd (ints)
open In (ah av)
open Ino (getM su aF)
open Fi (iaT)
open Rx (qR)
open Sk (E bf)
open Di (bD lK lL aM cu gZ om cX nR xZ lV sJ Ej Ek wB sv RX sortE yH xK BF LF FK xI vd)
open Go.Op (bytesLess)
def lT(c x:E):Bool:=bytesLess x.name c.name || (x.name==c.name)
def wK(c:E):List E->List E
 | []=>[c]
 | x::r=>if lT c x=true then x::wK c r else c::x::r
def ni : List E->List E->List E
 | [],out=>out
 | c::r,out=>ni r (wK c out)
theorem rM(c:E):∀l,(wK c l).Perm (c::l)
 | []=>.refl _
 | x::r=>by
  unfold wK
  split
  ·exact((rM c r).cons x).trans (.swap c x r)
  ·exact .refl _
theorem Ij(c:E)(l:List E):(wK c l).length=l.length+1:=by rw[(rM c l).length_eq];rfl
theorem Vq{c x:E}(h:x.place<c.place):lT c x=true->wB c x=false:=λy=>by
 cases z:wB c x with
 | false=>rfl
 | true=>
  exfalso;unfold lT at y;rw[Bool.or_eq_true,beq_iff_eq]at y
  rcases sv.mp z with w|⟨w1,w2⟩
  ·rcases y with y|y
   ·rw[LF y]at w;cases w
   ·rw[y,BF]at w;cases w
  ·omega
theorem Vr{c x:E}(h:¬ lT c x=true):wB c x=true:=by
 unfold lT at h;rw[Bool.or_eq_true,beq_iff_eq]at h;refine sv.mpr (.inl ?_)
 cases z:bytesLess c.name x.name with
 | true=>rfl
 | false=>exact absurd (FK (by cases q:bytesLess x.name c.name with|false=>rfl|true=>exact absurd (.inl q) h) z) λy=>h (.inr y)
theorem zJ{c:E}:∀{l:List E},l.Pairwise RX->(∀x∈l,x.place<c.place)->(wK c l).Pairwise RX
 | [],_,_=>List.pairwise_singleton _ _
 | x::r,h,n=>by
  have⟨h1,h2⟩:=List.pairwise_cons.mp h;unfold wK
  by_cases q:lT c x=true
  ·rw[if_pos q];refine List.pairwise_cons.mpr ⟨λy hy=>?_,zJ h2 λy hy=>n y (List.mem_cons_of_mem _ hy)⟩
   rcases List.mem_cons.mp ((rM c r).mem_iff.mp hy)with rfl|hy
   ·exact Vq (n x (List.mem_cons_self ..)) q
   ·exact h1 y hy
  ·rw[if_neg q];refine List.pairwise_cons.mpr ⟨λy hy=>?_,h⟩;have cx:=Vr q;show wB y c=false
   cases z:wB y c with
   | false=>rfl
   | true=>
    rcases List.mem_cons.mp hy with rfl|hy
    ·have:=Di.pD cx z;rw[Di.FL]at this;cases this
    ·have:=Di.pD z cx;rw[show wB y x=false from h1 y hy]at this;cases this
theorem zK : ∀(l out:List E),(ni l out).Perm (l++out)
 | [],out=>.refl _
 | c::r,out=>(zK r (wK c out)).trans (((rM c out).append_left r).trans List.perm_middle)
theorem vP : ∀(l out:List E),xK l->out.Pairwise RX->(∀x∈out,∀c∈l,x.place<c.place)->(ni l out).Pairwise RX
 | [],out,_,h,_=>h
 | c::r,out,u,h,n=>by
  have⟨u1,u2⟩:=List.pairwise_cons.mp u;refine vP r (wK c out) u2 (zJ h λx hx=>n x hx c (List.mem_cons_self ..)) λx hx d hd=>?_
  rcases List.mem_cons.mp ((rM c out).mem_iff.mp hx)with rfl|hx
  ·exact u1 d hd
  ·exact n x hx d (List.mem_cons_of_mem _ hd)
theorem N3{l:List E}(u:xK l):ni l []=sortE l:=
 yH u (by have:=zK l [];rw[List.append_nil]at this;exact this) (vP l [] u .nil λx hx=>by cases hx)
theorem y5{c:E}:∀{k:Nat} {out:List E},k<=out.length->(∀j (hj:j<out.length),j<k->lT c out[j]=true)->(∀hj:k<out.length,lT c out[k]=false)->wK c out=out.take k++c::out.drop k
 | 0,[],_,_,_=>rfl
 | 0,x::r,_,_,h=>by
  have:=h (Nat.succ_pos _);unfold wK;rw[if_neg (by rw[show lT c x=false from this];decide)];rfl
 | k+1,[],hk,_,_=>absurd hk (Nat.not_succ_le_zero _)
 | k+1,x::r,hk,h1,h2=>by
  have h0:=h1 0 (Nat.succ_pos _) (Nat.succ_pos _);have ih:=y5 (c:=c) (k:=k) (out:=r) (Nat.le_of_succ_le_succ hk) (λj hj dh=>h1 (j+1) (Nat.succ_lt_succ hj) (Nat.succ_lt_succ dh)) λhj=>h2 (Nat.succ_lt_succ hj);unfold wK;rw[if_pos (show lT c x=true from h0),ih];rfl
theorem Q6(bs:LB):∀e∈(ry bs).1,e.name≠[]:=by
 unfold ry
 split
 ·intro e he;cases he
 ·rename_i hl
  cases hd:Sk.dec 16 bs with
  | none=>intro e he;cases he
  | some hs=>
   intro e he;obtain⟨_,_,x,hx,x0,en,_⟩:=Sk.wy hs 0 e he
   rcases(Sk.Ft (n:=16) (b:=bs) (by have:¬bs.length≠512:=hl;omega) hd).2.1 x hx with⟨y,_⟩|⟨_,_,y⟩
   ·exact absurd y x0
   ·intro z;rw[<-en,z]at y
    cases y
theorem Cg(T:TM)(g:G)(R:List Int):∀m k,iW T g R [] m k=(nR (cu T g R m k).1,(cu T g R m k).2)
 | 0,k=>rfl
 | m+1,k=>by
  have ih:=Cg T g R m (k+1);unfold iW cu
  by_cases he:(aM T g R k).2≠0
  ·rw[if_pos he,if_pos he];rfl
  ·rw[if_neg he,if_neg he]
   have ha:¬((aM T g R k).1.cells.any λc=>c.name == [])=true:=λy=>by
    obtain⟨c,c1,c2⟩:=List.any_eq_true.mp y;exact Q6 _ c c1 (eq_of_beq c2)
   rw[if_neg ha,ih,vd]
section
variable{h : ab}{F : Nat -> Prop}{r e : OA}{T : TM}{g : G}{n : Int}{K : Value -> ab -> Prop}
theorem N4{L:Nat}{l:List E}(hl:l.length=L)(hm:L<=1000000)(Z:ag h6 a (l.flatMap E.v))
  (hK:∀h' oa oc,Fr No h6 h'->Sl h' 3 oa (ni l []).length oc ((ni l []).flatMap E.v) (bZ h6.size)->K (.tuple #[.slice oa (ni l []).length oc,.int .i64 0]) h') :
  ∃(I1:OA->Nat->Nat->Int->ab->Prop) (M1:OA->Nat->Nat->Int->ab->Nat),I1 none 0 0 0 h6/\
   ∀(gU:OA) (gz:Nat) (iV:Nat) (n4:Int),∀h7:ab,I1 gU gz iV n4 h7->
   bif(decide (n4<(L:Int)))then(
   (0<=n4/\n4<(L:Int))/\
   ae a λp1=>
   ∃kx:LV,List.length kx=3/\ai h7 (Addr.add p1 ((Int.toNat n4)*3)) kx/\
   ax zP 113 kx 3 h7 λh9=>
   ∃(I2:Int->ab->Prop) (M2:Int->ab->Nat),I2 0 h9/\
   ∀(gv:Int),∀h10:ab,I2 gv h10->
   bif(decide (gv<(gz:Int)))then(
   (0<=gv/\gv<(gz:Int))/\
   ae gU λp2=>
   ∃(s1:ByteArray),cellOf h10 (Addr.add (Addr.add p2 ((Int.toNat gv)*3)) 1)=some (.string s1)/\
   ∃(s2:ByteArray),cellOf h10 (Addr.add ⟨h7.size,0,none⟩ 1)=some (.string s2)/\
   bif((Op.bytesLess s1.toList s2.toList) || (s1.toList==s2.toList))then(
   I2 (IntKind.wrap .i64 (gv+1)) h10/\M2 (IntKind.wrap .i64 (gv+1)) h10<M2 gv h10)else(
   cQ.k1 gU gz iV n4 h7 I1 M1 gv h10 K))else(
   cQ.k1 gU gz iV n4 h7 I1 M1 gv h10 K))else(
   K (.tuple #[.slice gU gz iV,.int .i64 0]) h7):=by
 refine⟨λoa ol oc j hh=>∃(p:Nat) (out:List E),j=p/\p<=L/\Fr No h6 hh/\ol=out.length/\out.length<=p/\Sl hh 3 oa ol oc (out.flatMap E.v) (bZ h6.size)/\ni l []=ni (l.drop p) out,λ_ _ _ j _=>((L:Int)-j).toNat,⟨0,[],rfl,Nat.zero_le _,Fr.refl _ _,rfl,Nat.zero_le _,Sl.nil _ _ _,rfl⟩,?_⟩;rintro oa ol oc j h2 ⟨p,out,rfl,hp,f2,rfl,ho,s2,e⟩;have z2:=f2.size;refine cd (λdh=>?_) λdh=>?_
 rotate_left
 ·have:p=L:=by omega
  rw[List.drop_of_length_le (by omega)]at e;have e:ni l []=out:=e;rw[e]at hK;exact hK h2 oa oc f2 s2
 have vn:p<l.length:=by omega
 obtain⟨a0,ea,ca⟩:=lV (ag.fr f2 Z λ_ _ y=>y) vn;subst ea;rw[List.drop_eq_getElem_cons vn]at e;have e:ni l []=ni (l.drop (p+1)) (wK l[p] out):=e;rw[Int.toNat_natCast];refine⟨⟨by omega,dh⟩,os ⟨_,E.len _,ca,ax.intro (E.len _) (E.one _) rfl λh4 n4=>?_⟩⟩;have z4:=n4.size;generalize l[p]=cell at e n4;have s4:Sl h4 3 oa out.length oc (out.flatMap E.v) (bZ h6.size):=s2.fr n4.fr λ_ _ _ y=>y
 -- the entry is put in
 have K1:∀(k:Nat),k<=out.length->wK cell out=out.take k++cell::out.drop k->cQ.k1 oa out.length oc (p:Int) h2 (λoa ol oc j hh=>∃(p:Nat) (out:List E),j=p/\p<=L/\Fr No h6 hh/\ol=out.length/\out.length<=p/\Sl hh 3 oa ol oc (out.flatMap E.v) (bZ h6.size)/\ni l []=ni (l.drop p) out) (λ_ _ _ j _=>((L:Int)-j).toNat) (k:Int) h4 K:=by
  intro k hk ei;have hco:=s4.le;have lt:((out.take k).flatMap E.v).length=k*3:=by rw[bw E.v 3 _ (λx _=>E.len x),List.length_take,Nat.min_eq_left hk]
  unfold cQ.k1;rw[Int.toNat_natCast];refine⟨⟨by omega,by omega⟩,(out.take k).flatMap E.v,lt,?_,sJ _,?_⟩
  ·rw[Ej];exact ag.take s4.cells _
  refine aT (elem:=mB) (F:=bZ h4.size) (xs:=[]) (Sl.nil _ _ _) lt rfl (by show(0+k)*32<=_;omega) (by omega) λa7 c7 h7 f7 s7=>?_;have z7:=f7.size;rw[List.nil_append]at s7;have s7:Sl h7 3 a7 (0+k) c7 ((out.take k).flatMap E.v) (bZ h4.size):=s7.mono λb hb=>hb.elim id id;have f47:Fr No h4 h7:=f7.mono λb hb y=>by have y:h4.size<=b:=y;omega
  have r7:rd h7 h2.size=E.v cell:=(f47.rd (by omega) λy=>y).trans n4.rd;refine⟨E.v cell,E.len _,aj r7,E.len _,aC.intro λh8 n8=>⟨E.v cell,E.len _,aj n8.rd,E.one _,?_⟩⟩;have z8:=n8.size;refine aT (elem:=mB) (s7.fr n8.fr λ_ _ _ y=>y) (E.len _) rfl (by show(0+k+1)*32<=_;omega) (by omega) λa9 c9 h9 f9 s9=>?_;have z9:=f9.size;have s9:Sl h9 3 a9 (0+k+1) c9 ((out.take k).flatMap E.v++E.v cell) (bZ h4.size):=s9.mono λb hb=>hb.elim id λy=>by show h4.size<=b;omega
  have f49:Fr No h4 h9:=(f47.new n8).trans f9 λb hb y=>by have y:h4.size<=b:=y;omega
  have ld:((out.drop k).flatMap E.v).length=(out.length-k)*3:=by rw[bw E.v 3 _ (λx _=>E.len x),List.length_drop]
  refine⟨⟨by omega,by omega⟩,(out.drop k).flatMap E.v,ld,?_,sJ _,?_⟩
  ·have s49:ag h9 oa (out.flatMap E.v):=ag.fr f49 s4.cells λ_ _ y=>y;rw[Ek _ _ hk]
   by_cases hc:oc=k
   ·rw[if_pos hc];have:(out.flatMap E.v).drop (k*3)=[]:=List.drop_of_length_le (by rw[bw E.v 3 _ (λx _=>E.len x)];omega);rw[this]
    cases oa with
    | none=>rfl
    | some q=>exact ai.nil _ _
   ·rw[if_neg hc];exact ag.drop s49 _
  refine aT (elem:=mB) s9 ld rfl (by show(0+k+1+(out.length-k))*32<=_;omega) (by omega) λa10 c10 h10 f10 s10=>?_;have Nj:=f10.size;rw[wrap_i64 (by omega) (by omega)];refine⟨⟨p+1,wK cell out,by omega,by omega,((f2.new n4).no f49).trans f10 λb hb y=>by have y:h4.size<=b:=y;omega,by rw[Ij];omega,by rw[Ij];omega,?_,e⟩,j8 dh⟩;rw[ei,List.flatMap_append,List.flatMap_cons,<-List.append_assoc];exact s10.mono λb hb=>hb.elim (λy=>by have y:h4.size<=b:=y;show h6.size<=b;omega) λy=>by show h6.size<=b;omega
 refine⟨λk hh=>∃q:Nat,k=q/\q<=out.length/\hh=h4/\∀j (hj:j<out.length),j<q->lT cell out[j]=true,λk _=>((out.length:Int)-k).toNat,⟨0,rfl,Nat.zero_le _,rfl,λj _ y=>absurd y (Nat.not_lt_zero _)⟩,?_⟩;rintro k _ ⟨q,rfl,hq,rfl,less⟩;refine cd (λhk=>?_) λhk=>?_
 ·have CG:q<out.length:=by omega
  obtain⟨b0,eb,cb⟩:=lV s4.cells CG;subst eb;refine⟨⟨by omega,hk⟩,os ⟨_,ai.cell cb (i:=1) rfl,_,bW n4.rd rfl,?_⟩⟩;rw[toList_mkStr,toList_mkStr];refine cs (λhb=>?_) λhb=>?_
  ·rw[wrap_i64 (by omega) (by omega)];refine⟨⟨q+1,by omega,by omega,rfl,λj hj JY=>?_⟩,j8 hk⟩
   rcases Nat.lt_or_ge j q with h|h
   ·exact less j hj h
   ·have:j=q:=(by omega);subst this;exact hb
  ·exact K1 q hq (y5 hq (λj hj JY=>less j hj JY) λhj=>hb)
 ·have:q=out.length:=by omega
  subst this;exact K1 _ (Nat.le_refl _) (y5 (Nat.le_refl _) (λj hj JY=>less j hj JY) λhj=>absurd hj (Nat.lt_irrefl _))
theorem yV(x:qR h F r e T)(ok:su g)
  (hK:∀h' a l c,Fr No h h'->l=(cX T g n).1.length->Sl h' 3 a l c ((cX T g n).1.flatMap E.v) (bZ h.size)->K (.tuple #[.slice a l c,.int .i64 (cX T g n).2]) h'):C.cQ r g.v n h K:=by
 refine cQ.ok (aC.intro λh2 n2=>⟨g.v,rfl,aj n2.rd,uU (x.no n2.fr) ok λh3 R f3 hR eR=>⟨_,_,rfl,ax.intro (by rw[ah,hR]) (av _) rfl λh5 n5=>?_⟩⟩);have z2:=n2.size;have z3:=f3.size;have z5:=n5.size;have F5:Fr No h h5:=(n2.fr.no f3).new n5;unfold Di.cX at hK;refine cn (λhe=>?_) λhe=>?_
 ·rw[if_pos he]at hK;exact hK h5 none 0 0 F5 rfl (Sl.nil _ _ _)
 rw[if_neg (λy=>y he)]at hK;have eR:=eR he;have sz:=lL he;rw[<-eR]at sz hK;have P2:rd h5 h.size=g.v:=(n5.at_ (by omega)).trans ((f3.rd (by omega) λy=>y).trans n2.rd);have al:=Cg T g R (R.getD 2 0/512).toNat 0;have Ng:=(om T g R (R.getD 2 0/512).toNat 0).1;have e1:(iW T g R [] (R.getD 2 0/512).toNat 0).1=nR (gZ T g R).1:=by rw[al];rfl
 have e2:(iW T g R [] (R.getD 2 0/512).toNat 0).2=(gZ T g R).2:=by rw[al];rfl
 have Ng:xK (nR (gZ T g R).1):=Ng
 have ll:(nR (gZ T g R).1).length<=1000000:=by
  have hb:∀m k,(nR (cu T g R m k).1).length<=16*m:=λm=>by
   induction m with
   | zero=>intro k;exact Nat.zero_le _
   | succ m ih=>
    intro k;have OM:(aM T g R k).1.cells.length<=16:=Di.xN _;have:=ih (k+1);unfold Di.cu
    split
    ·exact Nat.zero_le _
    ·rw[vd,List.length_append,List.length_map];omega
  have:=hb (R.getD 2 0/512).toNat 0;show(nR (cu T g R (R.getD 2 0/512).toNat 0).1).length<=_;omega
 refine⟨g.v,rfl,aj P2,ints R,by rw[ah,hR],aj n5.rd,Ih (s:=[]) (x.no F5) hR sz (λha h6 f6=>⟨_,_,_,_,rfl,cn (λ_=>?_) λy=>absurd y ha⟩) λha h6 a c f6 s6=>⟨_,_,_,_,rfl,cn (λy=>absurd rfl y) λ_=>?_⟩⟩
 ·rw[e2]at ha ⊢;rw[if_pos ha]at hK;exact hK h6 none 0 0 (F5.no f6) rfl (Sl.nil _ _ _)
 rw[e2]at ha;rw[if_neg (λy=>y ha)]at hK;rw[e1]at s6 ⊢;have z6:=f6.size;refine N4 rfl ll s6.cells λh' oa oc f s=>?_;rw[N3 Ng]at s ⊢;exact hK h' oa _ oc ((F5.no f6).no f) rfl (s.mono λb hb=>by have hb:h6.size<=b:=hb;show h.size<=b;omega)
end
end Rq
namespace Fq
open Hp W Ad Tm Bt Spc Av Fi Bm Ino
open Hd (ints)
open In (ah av)
theorem oe{α:Type}{a:Option α}{p:α}{k:α->Prop}(e:a=some p)(h:k p):ae a k:=by rw[e];exact h
def Z8(a:OA)(b:Nat):Prop:=∃p,a=some p/\p.block=b
theorem El{l b:Nat}(s:Sl h ec a l c xs F)(hb:Z8 a b):F b/\b<h.size:=by
 obtain⟨p,rfl,rfl⟩:=hb;exact⟨s.2.2.1,s.lt⟩
theorem Vs{l:Nat}(s:Sl h ec a l c xs F):Sl h ec a l c xs (Z8 a):=by
 obtain⟨h1,h2⟩:=s;refine⟨h1,?_⟩
 cases a with
 | none=>exact h2
 | some p=>obtain⟨a1,a2,a3⟩:=h2;exact⟨a1,⟨p,rfl,rfl⟩,a3⟩
theorem Vt{c d:Bool}{A B:Prop}(a:c=true∨d=true->A)(b:c=false->d=false->B):bif c then A else bif d then A else B:=by
 cases c with
 | true=>exact a (.inl rfl)
 | false=>
  cases d with
  | true=>exact a (.inr rfl)
  | false=>exact b rfl rfl
theorem N5{r e:OA}{T:TM}{g:G}(x:Rx.qR h F r e T)(ok:su g)
  (hK:∀h' R,Fr No h h'->R.length=15->((jE T g n).2=0->R=(jE T g n).1)->K (.tuple #[.agg ⟨ints R⟩,.int .i64 (jE T g n).2]) h'):C.jt r g.v n h K:=by
 have lR:=aF T g n;refine jt.ok (aC.intro λh2 n2=>aC.intro λh3 n3=>?_);have z2:=n2.size;have z3:=n3.size;have F3:=n2.fr.new n3;refine⟨g.v,rfl,aj ((n3.at_ n2.own.lt).trans n2.rd),Rx.jM (x.no F3) ok λh4 f4=>⟨_,_,rfl,ax.intro (by rw[ah,lR]) (av _) rfl λh6 n6=>?_⟩⟩;have z4:=f4.size;have z6:=n6.size;have F6:=(F3.no f4).new n6;have o6:du h6 h2.size:=n6.ow (f4.own (by omega) (λy=>y) n3.own);have r6:rd h6 h2.size=ints oO:=(n6.at_ (by omega)).trans ((f4.rd (by omega) λy=>y).trans n3.rd)
 have put:∀(R:List Int) (k:HP),R.length=15->(∀h7,Fr No h h7->rd h7 h2.size=ints R->k h7)->ar ⟨h2.size,0,none⟩ (ints R) 15 h6 k:=λR k hR hk=>by
  refine ar.intro o6 (by rw[ah,hR]) (av _) (by rw[r6,ah];decide) λh7 d7=>hk h7 (F6.did d7 λy=>by omega) ?_;rw[d7.rd,r6];exact cM _ _ (by rw[ah,ah,hR];decide)
 refine cn (λhe=>put oO _ rfl λh7 f7 r7=>⟨ints oO,rfl,aj r7,?_⟩) λhe=>⟨_,bW n6.rd (iaT (by rw[lR];decide)),ce (λh0=>put oO _ rfl λh7 f7 r7=>⟨ints oO,rfl,aj r7,?_⟩) λh0=>⟨ints (getM T g n).1,by rw[ah,lR],aj n6.rd,put _ _ lR λh7 f7 r7=>⟨ints (getM T g n).1,by rw[ah,lR],aj r7,?_⟩⟩⟩
 ·have eg:jE T g n=getM T g n:=by unfold jE;rw[if_neg λy=>he y.1]
  rw[eg]at hK;exact hK h7 oO f7 rfl λy=>absurd y he
 ·have eg:jE T g n=((getM T g n).1,110):=by unfold jE;rw[if_pos ⟨he,h0⟩]
  rw[eg]at hK;exact hK h7 oO f7 rfl λy=>absurd (show(110:Int)=0 from y) (by decide)
 ·have eg:jE T g n=getM T g n:=by unfold jE;rw[if_neg λy=>h0 y.2]
  rw[eg]at hK;rw[he]at hK;exact hK h7 _ f7 lR λ_=>rfl
section
variable{h h3 h5 h6 : ab}{F : Nat -> Prop}{r e : OA}{T : TM}{g : G}{R : List Int}{off m : Nat}{K : Value -> ab -> Prop}
def RdI(T:TM)(g:G)(R:List Int)(off m:Nat)(h5:ab)(oa:OA)(ol oc:Nat)(ba:OA)(bl _bc:Nat)(i:Int)(hh:ab):Prop:=
 i=ol/\ol<=m/\Fr No h5 hh/\Sl hh 1 oa ol oc (((List.range ol).map (rb T g R off)).map bv) (bZ h5.size)/\(∀j,j<ol->(bk T g R off j).2=0/\(bk T g R off j).1.length=512)/\
  (0<ol->bl=512/\aJ hh ba 512 (bk T g R off (ol-1)).1/\∀b,Z8 ba b->b<hh.size/\¬Z8 oa b)
theorem L2{oa ba Z9:OA}{oc bl bc bc2:Nat}(hj:j<m)(hm:off+m<=8459264)(f6:Fr No h5 h10)(s6:Sl h10 1 oa j oc (((List.range j).map (rb T g R off)).map bv) (bZ h5.size))
  (hg:∀i,i<=j->(bk T g R off i).2=0/\(bk T g R off i).1.length=512) (B:aJ h10 Z9 512 (bk T g R off j).1) (ne:∀b,Z8 Z9 b->b<h10.size/\¬Z8 oa b) :
  aY.k3 off oa j oc ba bl bc j h6 (RdI T g R off m h5) (λ_ _ _ _ _ _ i _=>((m:Int)-i).toNat) Z9 512 bc2 h10 K:=by
 unfold aY.k3;rw[wrap_i64 (n:=(off:Int)+j) (by omega) (by omega),wrap_i64 (n:=(j:Int)+1) (by omega) (by omega)];have em:Int.tmod ((off:Int)+j) 512=(((off+j)%512:Nat):Int):=by rw[show(off:Int)+j=((off+j:Nat):Int) by omega];rfl
 rw[em,Int.toNat_natCast];obtain⟨p,ep,cp⟩:=Fw B (j:=(off+j)%512) (by have:=(hg j (Nat.le_refl _)).2;omega);refine⟨⟨by omega,by omega⟩,oe ep ⟨_,cp,aC.intro λcg n11=>⟨[bv (rb T g R off j)],rfl,aj n11.rd,?_,?_⟩⟩⟩
 ·intro v hv
  rcases List.mem_singleton.mp hv with rfl
  rfl
 ·have OL:=n11.size;have s11:=Vs (s6.fr n11.fr λ_ _ _ y=>y);refine aT s11 rfl rfl (by show(j+1)*1<=_;omega) (by omega) λa' c' bb f12 Cw=>⟨⟨by omega,by omega,(f6.new n11).trans f12 λb hb y=>?_,?_,λi hi=>hg i (by omega),λ_=>⟨rfl,?_,λb hb=>?_⟩⟩,by show((m:Int)-((j:Int)+1)).toNat<((m:Int)-(j:Int)).toNat;omega⟩
  ·have:h5.size<=b:=(El s6 y).1;omega
  ·rw[List.range_succ,List.map_append,List.map_append];refine Cw.mono λb y=>?_
   rcases y with y|y
   ·exact(El s6 y).1
   ·show h5.size<=b;have:=f6.size;omega
  ·rw[Nat.add_sub_cancel];exact aJ.fr f12 (aJ.fr n11.fr B λ_ _ y=>y) λp e y=>(ne p.block ⟨p,e,rfl⟩).2 y
  ·obtain⟨n1,n2⟩:=ne b hb;have:=f12.size;refine⟨by omega,λy=>?_⟩
   rcases(El Cw y).1 with w|w
   ·exact n2 w
   ·omega
theorem Kc{off many:Int}(x:Rx.qR h F r e T)(ok:su g)(ho:off<=9223372036854775807)
  (hK:∀h',Fr No h h'->K (.tuple #[.string (mkStr (fF T g n off many).1),.int .i64 (fF T g n off many).2]) h'):C.aY r g.v n off many h K:=by
 unfold fF at hK;refine aY.ok (aC.intro λh2 n2=>cd (λh0=>?_) λh0=>cd (λh1=>?_) λh1=>?_)
 ·rw[if_pos (.inl h0)]at hK;exact hK h2 n2.fr
 ·rw[if_pos (.inr h1)]at hK;exact hK h2 n2.fr
 rw[if_neg (by omega)]at hK;unfold aY.k1;have z2:=n2.size;refine⟨g.v,rfl,aj n2.rd,N5 (x.no n2.fr) ok λh3 R f3 hR e3=>⟨_,_,rfl,ax.intro (by rw[ah,hR]) (av _) rfl λh5 n5=>cn (λhe=>?_) λhe=>?_⟩⟩
 ·rw[if_pos he]at hK;exact hK h5 ((n2.fr.no f3).new n5)
 have sz:=DM he;rw[if_neg (λy=>y he),<-e3 he]at hK;rw[<-e3 he]at sz;clear e3 he;have z3:=f3.size;have z5:=n5.size;have F5:=(n2.fr.no f3).new n5;generalize es:R.getD 2 0=s at hK sz;obtain⟨o,rfl⟩:∃o:Nat,off=o:=⟨off.toNat,by omega⟩;obtain⟨m,em⟩:∃m:Nat,m=(min many (s-o)).toNat:=⟨_,rfl⟩
 have er:(if(o:Int)>=s then(([]:ay),(0:Int))else iZ T g R (o:Int).toNat (min many (s-o)).toNat (min many (s-o)).toNat 0 [])=iZ T g R o m m 0 []:=by
  rw[<-em,Int.toNat_natCast]
  split
  ·have:m=0:=(by omega);subst this;rfl
  ·rfl
 rw[er]at hK;have hm:o+m<=8459264∨m=0:=by omega
 have P2:rd h5 h.size=g.v:=(n5.at_ (by omega)).trans ((f3.rd (by omega) λy=>y).trans n2.rd);have x5:=x.no F5;refine⟨RdI T g R o m h5,λ_ _ _ _ _ _ i _=>((m:Int)-i).toNat,⟨rfl,Nat.zero_le _,Fr.refl _ _,Sl.nil _ _ _,λj hj=>absurd hj (Nat.not_lt_zero _),λy=>absurd y (Nat.lt_irrefl _)⟩,?_⟩;intro oa j oc ba bl bc i h6 I;obtain⟨rfl,hj,f6,s6,hg,hb⟩:=I;have rR6:rd h6 h3.size=ints R:=(f6.rd (by omega) λy=>y).trans n5.rd;have rg6:rd h6 h.size=g.v:=(f6.rd (by omega) λy=>y).trans P2;have x6:=x5.no f6;have z6:=f6.size
 have fin:j=m->∃CW:LB,aJ h6 oa j CW/\K (.tuple #[.string (mkStr CW),.int .i64 0]) h6:=λej=>by
  subst ej;rw[zD hg j 0 [] (by omega) (by omega) rfl]at hK;exact⟨_,s6.str,hK h6 (F5.no f6)⟩
 refine cd (λdh=>⟨s,bW rR6 (by have:=iaT (R:=R) (i:=2) (by omega);rw[es]at this;exact this),?_⟩) λdh=>fin (by omega);rw[wrap_i64 (n:=s-(j:Int)) (by omega) (by omega)];refine cd (λJY=>?_) λJY=>fin (by omega);have hjm:j<m:=by omega
 have hm:o+m<=8459264:=by omega
 unfold aY.k2;rw[wrap_i64 (n:=(o:Int)+j) (by omega) (by omega)];have em5:Int.tmod ((o:Int)+j) 512=(((o+j)%512:Nat):Int):=by rw[show(o:Int)+j=((o+j:Nat):Int) by omega];rfl
 have ed5:IntKind.wrap .i64 (Int.tdiv ((o:Int)+j) 512)=(((o+j)/512:Nat):Int):=by
  rw[show(o:Int)+j=((o+j:Nat):Int) by omega,show Int.tdiv ((o+j:Nat):Int) 512=(((o+j)/512:Nat):Int) from rfl];exact wrap_i64 (by omega) (by omega)
 rw[em5,ed5];have eb:bk T g R o j=bC T g R ((o+j)/512:Nat):=rfl;unfold bC at eb;refine Vt (λhs=>?_) λe1 e2=>?_
 ·have hs:j=0∨(o+j)%512=0:=by
   rcases hs with y|y
   ·left;have:=eq_of_beq y;omega
   ·right;have:=eq_of_beq y;omega
  have bad:∀{h'},(bk T g R o j).2≠0->Fr No h6 h'->K (.tuple #[.string (mkStr []),.int .i64 (bk T g R o j).2]) h':=λy f=>by
   rw[BU hjm y hs (λi hi=>(hg i hi).1) m 0 [] (by omega) (Nat.zero_le _)]at hK;exact hK _ (F5.no (f6.no f))
  refine⟨g.v,rfl,aj rg6,ints R,by rw[ah,hR],aj rR6,Ry.jL x6 hR λh7 f7=>⟨_,_,rfl,cn (λhe7=>?_) λhe7=>⟨⟨by decide,by decide,by decide,by decide⟩,aC.intro λh8 n8=>?_⟩⟩⟩
  ·rw[if_pos he7]at eb;have:=bad (by rw[eb];exact he7) f7;rw[eb]at this;exact this
  ·rw[if_neg (λy=>y he7)]at eb;have z7:=f7.size;have z8:=n8.size;have f8:=f7.new n8
   have wc:∀{Z9:OA} {bc2:Nat} {h9:ab},Fr No h6 h9->h6.size<=h9.size->(bk T g R o j).2=0->(bk T g R o j).1.length=512->aJ h9 Z9 512 (bk T g R o j).1->(∀b,Z8 Z9 b->h6.size<=b/\b<h9.size)->
     aY.k3 o oa j oc ba bl bc j h6 (RdI T g R o m h5) (λ_ _ _ _ _ _ i _=>((m:Int)-i).toNat) Z9 512 bc2 h9 K:=λf9 z9 g1 g2 B9 ne=>by
    refine L2 hjm hm (f6.no f9) (s6.fr f9 λ_ _ _ y=>y) (λi hi=>?_) B9 λb hb=>⟨(ne b hb).2,λy=>by have:=(El s6 y).2;have:=(ne b hb).1;omega⟩
    rcases Nat.lt_or_ge i j with y|y
    ·exact hg i y
    ·have:i=j:=(by omega);subst this;exact⟨g1,g2⟩
   refine cn (λhn=>Rx.fM ((x6.no f7).no n8.fr) λa l c h9 f9 hl s9=>⟨_,_,_,_,rfl,cn (λhe9=>?_) λhe9=>?_⟩) λhn=>?_
   ·rw[if_neg hn]at eb;have:=bad (by rw[eb];exact he9) (f8.no f9);rw[eb]at this;exact this
   ·rw[if_neg hn]at eb;have l9:=x6.mZ he9;have el:l=512:=(by omega);subst el;have z9:=f9.size;exact wc (f8.no f9) (by omega) (by rw[eb];exact he9) (by rw[eb];exact l9) (by rw[eb];exact s9.str) λb hb=>⟨by have:h8.size<=b:=(El s9 hb).1;omega,(El s9 hb).2⟩
   ·rw[if_pos hn]at eb;refine wc f8 (by omega) (by rw[eb]) (by rw[eb];exact List.length_replicate) ?_ λb hb=>?_
    ·rw[eb];exact E4 (n8.rd.trans M7) List.length_replicate
    ·obtain⟨p,ep,rfl⟩:=hb
     cases ep
     exact⟨by show h6.size<=h7.size;omega,by show h7.size<h8.size;omega⟩
 ·have hj0:j≠0:=λy=>by subst y;exact absurd e1 (by decide)
  have hmod:(o+j)%512≠0:=λy=>by rw[y]at e2;exact absurd e2 (by decide)
  obtain⟨hl,B,ne⟩:=hb (by omega);subst hl;have sm:bk T g R o (j-1)=bk T g R o j:=LO (by omega);rw[sm]at B;have gj:=hg (j-1) (by omega);rw[sm]at gj;refine L2 hjm hm f6 s6 (λi hi=>?_) B ne
  rcases Nat.lt_or_ge i j with y|y
  ·exact hg i y
  ·have:i=j:=(by omega);subst this;exact gj
end
end Fq
namespace Rq
open Hp W Ad Tm Spc Re Av
open Hd (ints)
open In (ah av)
open Ino (getM su aF)
open Fi (fF)
open Rx (qR)
open Pa (aH bq fY Ls)
open Wl (St Pl kI here qJ more jg eQ mu xS ft yN mh)
def rV(t:OA)(g:G)(ia:OA)(il ic:Nat)(la:OA)(ll lc:Nat)(beh fl:Bool)(dH:Nat):LV:=[.pointer t]++(g.v++[.slice ia il ic,.slice la ll lc,.bool beh,.bool fl,.int .i64 (dH:Nat)])
structure Wk(h0 hh:ab)(wb rb:Nat)(t:OA)(g:G)(s:St)(fl beh:Bool):Prop where
 fr:Fr No h0 hh
 own:du hh wb
 lo:h0.size<=wb
 ex:∃ia ic la lc,rd hh wb=rV t g ia s.chain.length ic la s.left.length lc beh fl s.dH/\ag hh ia (ints s.chain)/\s.chain.length<=ic/\ag hh la (Ch.strs s.left)/\s.left.length<=lc/\
  (∀p,ia=some p->s.chain≠[]->p.block≠wb/\p.block≠rb)/\(∀p,la=some p->s.left≠[]->p.block≠wb/\p.block≠rb)
theorem L4(h:l≠[]):ints l≠[]:=λy=>h (List.map_eq_nil_iff.mp y)
theorem L5{l:List Tm.ay}(h:l≠[]):Ch.strs l≠[]:=λy=>h (List.map_eq_nil_iff.mp y)
theorem Ci{h':ab}{G:NP}(f:Fr G h h')(c:ag h a xs)(hG:xs≠[]->∀ p,a=some p->¬ G p.block):ag h' a xs:=by
 cases xs with
 | nil=>
  cases a with
  | none=>rfl
  | some p=>exact ai.nil _ _
 | cons x r=>exact ag.fr f c (hG (by simp))
section
variable{h0 hh h' : ab}{wb rb : Nat}{t e : OA}{g : G}{s : St}{fl beh : Bool}{K : Value -> ab -> Prop}{n : Int}{F : Nat -> Prop}{T : TM}
theorem Wk.lt(w:Wk h0 hh wb rb t g s fl beh):wb<hh.size:=w.own.lt
theorem Wk.no(w:Wk h0 hh wb rb t g s fl beh)(f:Fr No hh h'):Wk h0 h' wb rb t g s fl beh:=by
 obtain⟨ia,ic,la,lc,r,ch,cc,lf,OR,f1,f2⟩:=w.ex;exact⟨w.fr.no f,f.own w.lt (λy=>y) w.own,w.lo,ia,ic,la,lc,(f.rd w.lt λy=>y).trans r,ag.fr f ch λ_ _ y=>y,cc,ag.fr f lf λ_ _ y=>y,OR,f1,f2⟩
theorem Wk.res(w:Wk h0 hh wb rb t g s fl beh)(f:Fr (λb=>b=rb) hh h')(hr:h0.size<=rb)(hn:wb≠rb):Wk h0 h' wb wb t g s fl beh:=by
 obtain⟨ia,ic,la,lc,r,ch,cc,lf,OR,f1,f2⟩:=w.ex
 exact⟨w.fr.trans f λb hb y=>by have y:b=rb:=y;omega,f.own w.lt hn w.own,w.lo,ia,ic,la,lc,(f.rd w.lt hn).trans r,Ci f ch λhx p hp y=>(f1 p hp λz=>hx (by rw[z];rfl)).2 y,cc,Ci f lf λhx p hp y=>(f2 p hp λz=>hx (by rw[z];rfl)).2 y,OR,
  λp hp hx=>⟨(f1 p hp hx).1,(f1 p hp hx).1⟩,λp hp hx=>⟨(f2 p hp hx).1,(f2 p hp hx).1⟩⟩
theorem Wk.new(w:Wk h0 hh wb wb t g s fl beh)(hr:hh.size<=rb):Wk h0 hh wb rb t g s fl beh:=by
 obtain⟨ia,ic,la,lc,r,ch,cc,lf,OR,f1,f2⟩:=w.ex;refine⟨w.fr,w.own,w.lo,ia,ic,la,lc,r,ch,cc,lf,OR,λp hp hx=>⟨(f1 p hp hx).1,?_⟩,λp hp hx=>⟨(f2 p hp hx).1,?_⟩⟩
 ·subst hp;have:=L3.ag.lt ch (L4 hx);omega
 ·subst hp;have:=L3.ag.lt lf (L5 hx);omega
theorem Wk.did(w:Wk h0 hh wb rb t g s fl beh){cs:LV}(d:yw wb hh h' cs){s':St}{fl' Qf:Bool}{ia la:OA}{ic lc:Nat}(e:cs=rV t g ia s'.chain.length ic la s'.left.length lc Qf fl' s'.dH)
  (ch:ag hh ia (ints s'.chain)) (cc:s'.chain.length<=ic) (lf:ag hh la (Ch.strs s'.left)) (OR:s'.left.length<=lc)
  (f1:∀p,ia=some p->s'.chain≠[]->p.block≠wb/\p.block≠rb) (f2:∀p,la=some p->s'.left≠[]->p.block≠wb/\p.block≠rb):Wk h0 h' wb rb t g s' fl' Qf:=
 ⟨w.fr.did d λhl=>by have:=w.lo;omega,d.own,w.lo,ia,ic,la,lc,d.rd.trans e,Ci d.fr ch λhx p hp y=>(f1 p hp λz=>hx (by rw[z];rfl)).1 y,cc,Ci d.fr lf λhx p hp y=>(f2 p hp λz=>hx (by rw[z];rfl)).1 y,OR,f1,f2⟩
theorem F2(w:Wk h0 hh wb rb t g s fl beh)(fB:s.chain≠[])(hl:s.chain.length<=1000)(hK:K (.int .i64 (here s.chain)) hh):C.ey (some ⟨wb,0,none⟩) hh K:=by
 have hp:0<s.chain.length:=List.length_pos_iff.mpr fB;obtain⟨ia,ic,la,lc,r,ch,cc,lf,OR,f1,f2⟩:=w.ex;refine ey.ok (os ⟨_,_,_,bW r rfl,os ⟨_,_,_,bW r rfl,?_⟩⟩);rw[wrap_i64 (show -9223372036854775808<=(s.chain.length:Int)-1 by omega) (by omega)];refine⟨⟨by omega,by omega⟩,?_⟩
 cases ia with
 | none=>
  have ch:ints s.chain=[]:=ch;exact absurd ch (L4 fB)
 | some p=>
  refine os ⟨here s.chain,?_,hK⟩;have e:((s.chain.length:Int)-1).toNat=s.chain.length-1:=by omega
  rw[e];have c:ai hh p (ints s.chain):=ch;refine c (s.chain.length-1) _ ?_;unfold ints here;rw[List.getElem?_map,<-List.getLast?_eq_getElem?,List.getLastD_eq_getLast?]
  cases hq:s.chain.getLast? with
  | none=>exact absurd (List.getLast?_eq_none_iff.mp hq) fB
  | some v=>rfl
theorem nV(w:Wk h0 hh wb rb t g s fl beh)(fB:s.chain≠[])(hl:s.chain.length<=1000)
  (hK:∀h' a c,Fr No hh h'->hh.size<h'.size->Sl h' 1 a s.chain.length c (ints s.chain) (λb=>hh.size<b)->K (.agg ⟨xS a c ⟨s.chain,[],here s.chain⟩⟩) h'):C.dx (some ⟨wb,0,none⟩) hh K:=by
 refine dx.ok (aC.intro λh2 n2=>aC.intro λh3 n3=>?_);have w3:=(w.no n2.fr).no n3.fr;have z2:=n2.size;have z3:=n3.size;obtain⟨ia,ic,la,lc,r,ch,cc,lf,OR,f1,f2⟩:=w3.ex;refine os ⟨_,_,_,bW r rfl,ints s.chain,by rw[ah];exact(Nat.mul_one _).symm,ch,av _,?_⟩;have s3:Sl h3 1 (some ⟨h2.size,0,none⟩) 0 0 [] (λb=>b=h2.size):=⟨rfl,rfl,rfl,n3.own,Nat.le_refl _,by rw[n3.rd];rfl,by rw[n3.rd];exact Nat.le_refl _⟩;refine aT (elem:=qP) s3 (by rw[ah];exact(Nat.mul_one _).symm) rfl (by show(0+s.chain.length)*8<=_;omega) (by omega) λa' c' h4 f4 s4=>?_;have z4:=f4.size;have f24:Fr No h2 h4:=n3.fr.trans f4 λb hb y=>by have y:b=h2.size:=y;omega
 have w4:=(w.no n2.fr).no f24;rw[List.nil_append,Nat.zero_add]at s4;rw[Nat.zero_add];refine F2 w4 fB hl ⟨_,rfl,?_⟩;have r4:rd h4 hh.size=_:=(f24.rd (by omega) λy=>y).trans n2.rd;refine ar.intro (f24.own (by omega) (λy=>y) n2.own) rfl (ft (a:=a') (c:=c') (p:=⟨s.chain,[],here s.chain⟩)) (by rw[r4];exact Nat.le_refl _) λh6 d6=>?_;rw[r4]at d6;have z6:=d6.size;refine⟨_,rfl,aj (d6.rd.trans (cM _ _ rfl)),hK h6 a' c' ((n2.fr.no f24).did d6 λy=>by omega) (by omega) ((Sl.fr d6.fr s4 λb _ hb y=>?_).mono λb hb=>?_)⟩
 ·have y:b=hh.size:=y
  rcases hb with hb|hb <;> omega
 ·rcases hb with hb|hb <;> omega
theorem yP(x:qR h0 F t e T)(ok:su g)(w:Wk h0 hh wb rb t g s fl beh)(hrb:rb<hh.size)(fol8:s.dH<=8)(iH:s.chain.length+s.left.length<=700)(hc:¬ (more beh s.left=false/\fl=false))
  (he:(jg T g fl beh s n).2.1≠0->∀h' f',Fr (λb=>b=wb) hh h'->Wk h0 h' wb rb t g ⟨s.chain,s.left,f'⟩ fl beh->K (.int .i64 (jg T g fl beh s n).2.1) h')
  (hK:(jg T g fl beh s n).2.1=0->∀h',Fr (λb=>b=wb) hh h'->Wk h0 h' wb rb t g (jg T g fl beh s n).2.2 fl beh->K (.int .i64 0) h'):C.dy (some ⟨wb,0,none⟩) n hh K:=by
 unfold jg at he hK;rw[if_neg hc]at he hK;have ex:=w.ex;obtain⟨ia,ic,la,lc,r,ch,cc,lf,OR,f1,f2⟩:=ex;have wlt:=w.lt;have lo:=w.lo;refine dy.ok (os ⟨_,bW r rfl,os ?_⟩);rw[wrap_i64 (show -9223372036854775808<=(s.dH:Int)+1 by omega) (by omega),show(s.dH:Int)+1=((s.dH+1:Nat):Int) by omega];refine bQ.add w.own (by rw[r];exact(by decide:0+10<11)) λh2 d2=>?_;rw[r]at d2;have w2:Wk h0 h2 wb rb t g ⟨s.chain,s.left,s.dH+1⟩ fl beh:=w.did d2 rfl ch cc lf OR f1 f2;have z2:=d2.size;have r2:rd h2 wb=rV t g ia s.chain.length ic la s.left.length lc beh fl (s.dH+1):=d2.rd;refine os ⟨_,bW r2 rfl,cd (λh9=>?_) λh9=>os ⟨_,bW r2 rfl,os ⟨g.v,rfl,lS r2 rfl,?_⟩⟩⟩
 ·rw[if_pos (show s.dH=8 by omega)]at he;exact he (show(162:Int)≠0 by decide) h2 _ d2.fr w2
 rw[if_neg (show ¬s.dH=8 by omega)]at he hK;refine Fq.Kc (x.no w2.fr) ok (by decide) λh3 f3=>⟨_,_,rfl,cn (λe3=>?_) λe3=>?_⟩
 ·rw[if_pos e3]at he;exact he e3 h3 _ (d2.fr.no f3) (w2.no f3)
 rw[if_neg (λy=>y e3)]at he hK;have w3:=w2.no f3;have z3:=f3.size;refine Pa.JX (by have:=yN T g n;omega) λa l c h4 f4 Z=>⟨_,_,_,_,_,rfl,cn (λe4=>?_) λe4=>?_⟩
 ·rw[if_pos e4]at he;exact he e4 h4 _ ((d2.fr.no f3).no f4) (w3.no f4)
 rw[if_neg (λy=>y e4)]at hK;have hK:=hK rfl;have w4:=w3.no f4;have z4:=f4.size;have hp:=(fY (s:=(fF T g n 0 1024).1) (b:=false)).1;generalize(aH (fF T g n 0 1024).1 false).1=ps at hK Z hp;have e2:decide ((aH (fF T g n 0 1024).1 false).2=0)=true:=decide_eq_true e4;rw[e2,Bool.true_and];generalize(fF T g n 0 1024).1.head?=hd at hK ⊢;obtain⟨hl,Z⟩:=Z;have f24:Fr No h2 h4:=f3.no f4;have r4:rd h4 wb=_:=(f24.rd (by omega) λy=>y).trans r2;have Xz:ag h4 la (Ch.strs s.left):=ag.fr f24 (Ci d2.fr lf λhx p hp y=>(f2 p hp λz=>hx (by rw[z];rfl)).1 y) λ_ _ y=>y;have ch4:ag h4 ia (ints s.chain):=ag.fr f24 (Ci d2.fr ch λhx p hp y=>(f1 p hp λz=>hx (by rw[z];rfl)).1 y) λ_ _ y=>y;refine os ⟨_,_,_,bW r4 rfl,aC.intro λh5 n5=>?_⟩;have z5:=n5.size;have r5:rd h5 wb=_:=(n5.at_ (by omega)).trans r4;refine⟨bW r5 rfl,Ch.strs ps,by rw[hl];exact(List.length_map ..).trans (Nat.mul_one _).symm,ag.fr n5.fr Z.cells λ_ _ y=>y,mh _,?_⟩;have s5:Sl h5 1 (some ⟨h4.size,0,none⟩) 0 0 [] (λb=>b=h4.size):=⟨rfl,rfl,rfl,n5.own,Nat.le_refl _,by rw[n5.rd];rfl,by rw[n5.rd];exact Nat.le_refl _⟩;refine aT (elem:=tN) s5 (by rw[hl];exact(List.length_map ..).trans (Nat.mul_one _).symm) rfl (by show(0+l)*16<=_;omega) (by omega) λa6 c6 h6 f6 s6=>?_;have z6:=f6.size;have f46:Fr No h4 h6:=n5.fr.trans f6 λb hb y=>by have y:b=h4.size:=y;omega
 have r6:rd h6 wb=_:=(f46.rd (by omega) λy=>y).trans r4;refine⟨bW r6 rfl,Ch.strs s.left,(List.length_map ..).trans (Nat.mul_one _).symm,ag.fr f46 Xz λ_ _ y=>y,mh _,?_⟩;refine aT (elem:=tN) s6 ((List.length_map ..).trans (Nat.mul_one _).symm) rfl (by show(0+l+s.left.length)*16<=_;omega) (by omega) λa7 c7 h7 f7 s7=>os ?_;have en:0+l+s.left.length=(ps++s.left).length:=by rw[List.length_append];omega
 rw[en]at s7 ⊢;have z7:=f7.size;have f47:Fr No h4 h7:=f46.trans f7 λb hb y=>by rcases y with y|y <;> omega
 have w7:=w4.no f47;have r7:rd h7 wb=_:=(f47.rd (by omega) λy=>y).trans r4;have ch7:ag h7 ia (ints s.chain):=ag.fr f47 ch4 λ_ _ y=>y
 have lf7:ag h7 a7 (Ch.strs (ps++s.left)):=by
  have:=s7.cells;rw[List.nil_append]at this;rw[show Ch.strs (ps++s.left)=Ch.strs ps++Ch.strs s.left from List.map_append];exact this
 have Z':∀p,a7=some p->p.block≠wb/\p.block≠rb:=λp hp=>by
  subst hp;have:(p.block=h4.size∨h5.size<=p.block)∨h6.size<=p.block:=s7.2.2.1;omega
 refine bQ.add w7.own (by rw[r7];exact(by decide:0+7<11)) λh8 d8=>?_;rw[r7]at d8;have z8:=d8.size;have s7l:=s7.le
 have w8:Wk h0 h8 wb rb t g ⟨s.chain,ps++s.left,s.dH+1⟩ fl beh:=w7.did d8 (ia:=ia) (ic:=ic) (la:=a7) (lc:=c7) (by
  show _=rV t g ia s.chain.length ic a7 (ps++s.left).length c7 beh fl (s.dH+1)
  rfl) ch7 cc lf7 s7l f1 λp hp _=>Z' p hp
 have F8:Fr (λb=>b=wb) hh h8:=((d2.fr.no f24).no f47).trans d8.fr λb _ y=>y;refine cs (λVu=>aC.intro λh9 n9=>os ?_) λVu=>?_
 ·have e:hd=some 47:=eq_of_beq Vu;have r9:rd h9 wb=_:=(n9.at_ (by omega)).trans d8.rd;have w9:=w8.no n9.fr;have z9:=n9.size;refine bQ.add w9.own (by rw[r9];exact(by decide:0+6<11)) λh10 d10=>?_;rw[r9]at d10;rw[if_pos e]at hK
  refine hK h10 ((F8.no n9.fr).trans d10.fr λb _ y=>y) (w9.did d10 (ia:=some ⟨h8.size,0,none⟩) (ic:=1) (la:=a7) (lc:=c7) (by
   show _=rV t g (some ⟨h8.size,0,none⟩) 1 1 a7 (ps++s.left).length c7 beh fl (s.dH+1)
   rfl) (aj n9.rd) (Nat.le_refl _) (ag.fr n9.fr (Ci d8.fr lf7 λ_ p hp y=>(Z' p hp).1 y) λ_ _ y=>y) s7l (λp hp _=>?_) λp hp _=>Z' p hp)
  cases hp
  exact⟨by show h8.size≠wb;omega,by show h8.size≠rb;omega⟩
 ·have e:¬hd=some 47:=λy=>by rw[y]at Vu;cases Vu
  rw[if_neg e]at hK;exact hK h8 F8 w8
end
end Rq
namespace Rq
open Hp W Ad Tm Spc Re Av
open Hd (ints)
open In (ah av)
open Ino (getM su aF)
open Fi (iaT)
open Rx (qR)
open Di (findD)
open Wl (St Pl kI here qJ more jg eQ mu jy xR Ay yM rG xS ft mh Ok yQ)
def R8(wb:Nat)(h:ab):Nat:=match (rd h wb)[7]?,(rd h wb)[10]? with
 | some (Value.slice _ l _),some (Value.int _ f)=>33*(8-f.toNat)+l
 | _,_=>0
section
variable{h0 hh h' : ab}{wb rb : Nat}{t e : OA}{N : Nat}{s : St}{fl beh : Bool}{K : Value -> ab -> Prop}{F : Nat -> Prop}{T : TM}
theorem Wk.mu(w:Wk h0 hh wb rb t (af N) s fl beh):R8 wb hh=Wl.mu s:=by
 obtain⟨ia,ic,la,lc,r,_⟩:=w.ex;unfold R8;rw[r];show 33*(8-((s.dH:Nat):Int).toNat)+s.left.length=_;rw[Int.toNat_natCast];rfl
theorem Em(x:qR h0 F t e T)(ok:su (af N))(w:Wk h0 hh wb wb t (af N) s fl beh)(o:Ok s)(iH:s.chain.length+Wl.mu s<=600)
  (hK:∀h' s' a c,Fr (λb=>b=wb) hh h'->hh.size<h'.size->Wk h0 h' wb wb t (af N) s' fl beh->(s'.chain≠[]/\s'.chain.length<=700)->((jy T (af N) fl beh s).2=0->s'.chain=(jy T (af N) fl beh s).1.chain)->
   Sl h' 1 a (jy T (af N) fl beh s).1.chain.length c (ints (jy T (af N) fl beh s).1.chain) (λb=>hh.size<b)->K (.tuple #[.agg ⟨xS a c (jy T (af N) fl beh s).1⟩,.int .i64 (jy T (af N) fl beh s).2]) h') :
  C.au (some ⟨wb,0,none⟩) hh K:=by
 refine au.ok (aC.intro λh2 n2=>?_);have z2:=n2.size;have wlt:=w.lt;have lo:=w.lo;have fB:wb≠hh.size:=by omega
 have w2:Wk h0 h2 wb hh.size t (af N) s fl beh:=(w.new (Nat.le_refl _)).no n2.fr;generalize hq:jy T (af N) fl beh s=q at hK
 -- what is told last
 have fin:∀hx s1 a c e,Fr (λb=>b=wb) h2 hx->Wk h0 hx wb hh.size t (af N) s1 fl beh->(s1.chain≠[]/\s1.chain.length<=700)->q.2=e->(e=0->s1.chain=q.1.chain)->Sl hx 1 a q.1.chain.length c (ints q.1.chain) (λb=>hh.size<b)->
   ar ⟨hh.size,0,none⟩ (xS a c q.1) 3 hx λh8=>∃res:LV,List.length res=3/\ai h8 ⟨hh.size,0,none⟩ res/\K (.tuple #[.agg ⟨res⟩,.int .i64 e]) h8:=λhx s1 a c e f w1 hc he hs S=>by
  subst he;have zx:=f.size;have r0:rd hx hh.size=_:=(f.rd (by omega) λy=>fB (Eq.symm y)).trans n2.rd;refine ar.intro (f.own (by omega) (λy=>fB (Eq.symm y)) n2.own) rfl ft (by rw[r0];exact Nat.le_refl _) λh8 d8=>?_;rw[r0]at d8;have z8:=d8.size;refine⟨_,rfl,aj (d8.rd.trans (cM _ _ rfl)),hK h8 s1 a c (((n2.fr.mono λ_ _ y=>y.elim).trans f λb _ y=>y).trans d8.fr λb hb y=>by have y:b=hh.size:=y;omega) (by omega) (w1.res d8.fr (by have:=w.fr.size;omega) fB) hc hs (Sl.fr d8.fr S λb _ hb y=>?_)⟩;have y:b=hh.size:=y;have hb:hh.size<b:=hb;omega
 have err:∀hx s1 e,Fr (λb=>b=wb) h2 hx->Wk h0 hx wb hh.size t (af N) s1 fl beh->(s1.chain≠[]/\s1.chain.length<=700)->q=(kI,e)->e≠0->
   ar ⟨hh.size,0,none⟩ [.slice none 0 0,.string (mkStr []),.int .i64 0] 3 hx λh8=>∃res:LV,List.length res=3/\ai h8 ⟨hh.size,0,none⟩ res/\K (.tuple #[.agg ⟨res⟩,.int .i64 e]) h8:=λhx s1 e f w1 hc he fB=>by
  have:=fin hx s1 none 0 e f w1 hc (by rw[he]) (λy=>absurd y fB) (by rw[he];exact Sl.nil _ _ _);rw[he]at this;exact this
 obtain⟨I,hI⟩:∃I:HP,I=λhx=>∃s1,Fr (λb=>b=wb) h2 hx/\Wk h0 hx wb hh.size t (af N) s1 fl beh/\Ok s1/\s1.chain.length+Wl.mu s1<=600/\jy T (af N) fl beh s1=q:=⟨_,rfl⟩;refine⟨I,R8 wb,by rw[hI];exact⟨s,Fr.refl _ _,w2,o,iH,hq⟩,?_⟩;intro h3 i3;rw[hI]at i3;obtain⟨s1,f3,w1,o1,O3,e1⟩:=i3;have mu3:=w1.mu;have z3:=f3.size;obtain⟨ia,ic,la,lc,r3,ch,cc,lf,OR,f1,f2⟩:=w1.ex;refine os ⟨_,_,_,bW r3 rfl,cd (λRF=>?_) λhle=>?_⟩
 rotate_left
 ·have hl:s1.left=[]:=List.length_eq_zero_iff.mp (by omega);have es:=Ay (T:=T) (g:=af N) (fl:=fl) (beh:=beh) hl;rw[e1]at es;refine nV w1 o1.ne (by omega) λOJ a c f35 lt35 s35=>⟨_,rfl,?_⟩;have:=fin OJ s1 a c 0 (f3.no f35) (w1.no f35) ⟨o1.ne,by omega⟩ (by rw[es]) (λ_=>by rw[es]) (by rw[es];exact s35.mono λb hb=>by have hb:h3.size<b:=hb;show hh.size<b;omega);rw[es]at this;exact this
 have vu:0<s1.left.length:=by omega
 obtain⟨c,r,hl⟩:∃c r,s1.left=c::r:=by
  cases hx:s1.left with
  | nil=>rw[hx]at vu;exact absurd vu (Nat.lt_irrefl _)
  | cons c r=>exact⟨c,r,rfl⟩
 have es:=xR (T:=T) (g:=af N) (fl:=fl) (beh:=beh) o1 hl;rw[e1]at es;have hll:s1.left.length=r.length+1:=by rw[hl];rfl
 have hmu:Wl.mu s1=Wl.mu ⟨s1.chain,r,s1.dH⟩+1:=by
  unfold Wl.mu;rw[hll];rfl
 have mur:Wl.mu ⟨s1.chain,r,s1.dH⟩=33*(8-s1.dH)+r.length:=rfl
 obtain⟨p,ep⟩:∃p,la=some p:=by
  cases hx:la with
  | none=>rw[hx,hl]at lf;exact absurd lf (by simp[ag,Ch.strs])
  | some p=>exact⟨p,rfl⟩
 subst ep;have lfp:ai h3 p (Ch.strs (c::r)):=by rw[hl]at lf;exact lf
 have fp:=f2 p rfl (by rw[hl];simp);refine os ⟨_,_,_,bW r3 rfl,⟨Int.le_refl _,by omega⟩,os ⟨mkStr c,lfp 0 _ rfl,os ⟨_,_,_,bW r3 rfl,⟨by decide,by omega⟩,os (bQ.add w1.own (by rw[r3];exact(by decide:0+7<11)) λh4 d4=>?_)⟩⟩⟩;rw[r3]at d4;have z4:=d4.size;obtain⟨Nr,Xy⟩:∃Nr,(if lc=(1:Int).toNat then some p else Option.map (λx=>Addr.add x (1:Int).toNat) (some p))=Nr:=⟨_,rfl⟩
 have blk:∀p',Nr=some p'->p'.block=p.block:=λp' kA=>by
  rw[<-Xy]at kA
  split at kA
  ·exact congrArg Addr.block (Option.some.inj kA).symm
  ·have kA:=Option.some.inj kA;rw[<-kA,yQ]
 have Xz:ag h3 Nr (Ch.strs r):=by
  rw[<-Xy]
  split
  ·rename_i h1;have h1:lc=1:=h1;have:r=[]:=List.length_eq_zero_iff.mp (by omega);subst this;exact ai.nil _ _
  ·exact ag.drop (a:=some p) lfp 1
 have w4:Wk h0 h4 wb hh.size t (af N) ⟨s1.chain,r,s1.dH⟩ fl beh:=w1.did d4 (ia:=ia) (ic:=ic) (la:=Nr) (lc:=lc-1) (by
  rw[<-Xy];show _=rV t (af N) ia s1.chain.length ic _ r.length (lc-1) beh fl s1.dH
  rw[show r.length=s1.left.length-1 by omega];rfl) ch cc Xz (by show r.length<=lc-1;omega) f1 λp' kA _=>by rw[blk p' kA];exact fp
 have F4:Fr (λb=>b=wb) h2 h4:=f3.trans d4.fr λb _ y=>y
 have next:∀hx s2,Fr (λb=>b=wb) h2 hx->Wk h0 hx wb hh.size t (af N) s2 fl beh->Ok s2->s2.chain.length<=s1.chain.length+1->Wl.mu s2<=Wl.mu ⟨s1.chain,r,s1.dH⟩->jy T (af N) fl beh s2=q->I hx/\R8 wb hx<R8 wb h3:=λhx s2 f w2 o2 hc hm he=>by
  rw[hI];refine⟨⟨s2,f,w2,o2,by omega,he⟩,?_⟩;rw[w2.mu,mu3];omega
 clear Xz blk Xy d4 lfp fp Nr;obtain⟨ia4,ic4,la4,lc4,r4,ch4,cc4,Xz,lcc4,f14,f24⟩:=w4.ex;have r4:rd h4 wb=rV t (af N) ia4 s1.chain.length ic4 la4 r.length lc4 beh fl s1.dH:=r4;rw[toList_mkStr,toList_mkStr];refine Pa.sB (λhd=>?_) λhd=>?_
 ·rw[if_pos hd]at es;refine os ⟨_,_,_,bW r4 rfl,cd (λh1=>os ⟨_,_,_,bW r4 rfl,os ⟨_,_,_,bW r4 rfl,?_⟩⟩) λh1=>?_⟩
  ·rw[wrap_i64 (show -9223372036854775808<=(s1.chain.length:Int)-1 by omega) (by omega)];have cc4':s1.chain.length<=ic4:=cc4;refine⟨⟨by omega,by omega⟩,os (bQ.add w4.own (by rw[r4];exact(by decide:0+6<11)) λh5 d5=>?_)⟩;rw[r4]at d5;have eu:qJ s1.chain=s1.chain.dropLast:=(by unfold qJ;rw[if_pos (by omega)]);have el:((s1.chain.length:Int)-1).toNat=s1.chain.dropLast.length:=(by rw[List.length_dropLast];omega);have oU:=(show Ok s1 from o1).up (r:=r);rw[eu]at es oU;refine next h5 ⟨s1.chain.dropLast,r,s1.dH⟩ (F4.trans d5.fr λb _ y=>y) (w4.did d5 (ia:=ia4) (ic:=ic4) (la:=la4) (lc:=lc4) (by rw[el];rfl) ?_ (by show s1.chain.dropLast.length<=_;rw[List.length_dropLast];omega) Xz lcc4 (λp hp hx=>f14 p hp λy=>?_) f24) oU (by show s1.chain.dropLast.length<=_;rw[List.length_dropLast];omega) (Nat.le_refl _) es.symm
   ·have:ints s1.chain.dropLast=(ints s1.chain).take s1.chain.dropLast.length:=by
     unfold ints;rw[<-List.map_take,List.dropLast_eq_take,List.length_take,Nat.min_eq_left (by omega)]
    rw[show ints (⟨s1.chain.dropLast,r,s1.dH⟩:St).chain=ints s1.chain.dropLast from rfl,this];exact ag.take ch4 _
   ·exact o1.ne y
  ·have eu:qJ s1.chain=s1.chain:=(by unfold qJ;rw[if_neg (by omega)]);rw[eu]at es;exact next h4 _ F4 w4 ⟨o1.ne,o1.dH⟩ (Nat.le_succ _) (Nat.le_refl _) es.symm
 rw[if_neg hd]at es;have g4:∀{hx:ab},Fr No h4 hx->rd hx wb=rV t (af N) ia4 s1.chain.length ic4 la4 r.length lc4 beh fl s1.dH:=λf=>(f.rd w4.lt λy=>y).trans r4;refine os ⟨_,bW r4 rfl,os ⟨(af N).v,rfl,lS r4 rfl,F2 w4 o1.ne (by show s1.chain.length<=_;omega) ⟨here s1.chain,rfl,bW r4 rfl,⟨rfl,lS r4 rfl⟩,jL (x.no w4.fr) ok λh7 f7=>⟨_,_,rfl,cn (λhe=>?_) λhe=>?_⟩⟩⟩⟩
 ·rw[if_pos he]at es;exact err h7 _ _ (F4.no f7) (w4.no f7) ⟨o1.ne,by show s1.chain.length<=_;omega⟩ es he
 rw[if_neg (λy=>y he)]at es;generalize(findD T (af N) (here s1.chain) c).1=ino at es ⊢;have lR:=aF T (af N) ino;have c7:(⟨s1.chain,r,s1.dH⟩:St).chain≠[]/\(⟨s1.chain,r,s1.dH⟩:St).chain.length<=700:=⟨o1.ne,by show s1.chain.length<=_;omega⟩
 have kk:∀hx xb,Fr No h7 hx->rd hx xb=ints (getM T (af N) ino).1->au.k1 (some ⟨wb,0,none⟩) hh h3 I (R8 wb) (mkStr c) ino (getM T (af N) ino).2 (some ⟨xb,0,none⟩) hx K:=by
  intro hx xb fx rx;have wx:=w4.no (f7.no fx);have Fx:Fr (λb=>b=wb) h2 hx:=F4.no (f7.no fx);have gx:=g4 (f7.no fx);have zx:=Fx.size;unfold au.k1;refine cn (λCv=>?_) λCv=>?_
  ·rw[if_pos Cv]at es;exact err hx _ _ Fx wx c7 es Cv
  rw[if_neg (λy=>y Cv)]at es;have rk:cellOf hx (Addr.add ⟨xb,0,none⟩ 0)=some (.int .i64 ((getM T (af N) ino).1.getD 0 0)):=bW rx (iaT (by rw[lR];decide));generalize(getM T (af N) ino).1.getD 0 0=kind at es rk
  have k4s:(more beh r=true->q=(kI,161))->(more beh r=false->q=(⟨s1.chain,c,ino⟩,0))->au.k4 (some ⟨wb,0,none⟩) hh (mkStr c) ino (more beh r) hx K:=λm1 m0=>by
   unfold au.k4;refine cs (λhm=>err hx _ 161 Fx wx c7 (m1 hm) (by decide)) λhm=>nV wx c7.1 (by have:=c7.2;omega) λjG a c' f26 lt26 s26=>⟨_,rfl,ax.intro rfl ft rfl λog n28=>?_⟩;have q0:=m0 hm;have z26:=f26.size;have z28:=n28.size;refine bQ.add n28.own (by rw[n28.rd];exact(by decide:0+1<3)) λAl d29=>?_;rw[n28.rd]at d29;refine bQ.add d29.own (by rw[d29.rd];exact(by decide:0+2<3)) λnz d30=>?_;rw[d29.rd]at d30;have f30:Fr No hx nz:=((f26.new n28).did d29 λy=>by omega).did d30 λy=>by omega
   have fz:Fr (λb=>b=jG.size) jG nz:=((n28.fr.mono λ_ _ y=>y.elim).trans d29.fr λb _ y=>y).trans d30.fr λb _ y=>y;refine⟨xS a c' ⟨s1.chain,c,ino⟩,rfl,aj d30.rd,?_⟩
   have:=fin nz _ a c' 0 (Fx.no f30) (wx.no f30) c7 (by rw[q0]) (λ_=>by rw[q0]) (by
    rw[q0];exact(Sl.fr fz s26 λb hb _ y=>by have y:b=jG.size:=y;omega).mono λb hb=>by have hb:hx.size<b:=hb;show hh.size<b;omega)
   rw[q0]at this;exact this
  have k3s:(kind≠2∨more beh r=false)->au.k3 (some ⟨wb,0,none⟩) hh h3 I (R8 wb) (mkStr c) ino (some ⟨xb,0,none⟩) (more beh r) hx K:=λlu=>by
   unfold au.k3
   have lk:kind=3->¬(more beh r=false/\fl=false)->(∀k:Int->ab->Prop,(∀n h',n≠0->q=(kI,n)->Fr (λb=>b=wb) h2 h'->(∃f',Wk h0 h' wb hh.size t (af N) ⟨s1.chain,r,f'⟩ fl beh)->k n h')->(∀h',(I h'/\R8 wb h'<R8 wb h3)->k 0 h')->
     C.dy (some ⟨wb,0,none⟩) ino hx λrr h'=>∃n:Int,rr = .int .i64 n/\k n h'):=λk3 hc k ke k0=>by
    have mk:eQ T (af N) fl beh ⟨s1.chain,r,s1.dH⟩ kind ino=jg T (af N) fl beh ⟨s1.chain,r,s1.dH⟩ ino:=by
     unfold Wl.eQ;rw[if_neg (by omega),if_pos k3]
    have l1:(jg T (af N) fl beh ⟨s1.chain,r,s1.dH⟩ ino).1=false:=by
     unfold Wl.jg;rw[if_neg hc]
     split
     ·rfl
     ·split
      ·rfl
      ·split <;> rfl
    have mo:=yM (T:=T) (g:=af N) (fl:=fl) (beh:=beh) (s:=⟨s1.chain,r,s1.dH⟩) (kind:=kind) (n:=ino) ⟨o1.ne,o1.dH⟩;have mc:=rG (T:=T) (N:=N) (fl:=fl) (beh:=beh) (s:=⟨s1.chain,r,s1.dH⟩) (kind:=kind) (n:=ino) ⟨o1.ne,o1.dH⟩;rw[mk]at es mo mc;have f8:=o1.dH;refine yP (x.no (Fr.refl _ _)) ok wx (by omega) o1.dH (by show s1.chain.length+r.length<=_;omega) hc (λhe h' f' fr' w'=>⟨_,rfl,ke _ h' he ?_ (Fx.trans fr' λb _ y=>y) ⟨f',w'⟩⟩) λhe h' fr' w'=>⟨_,rfl,k0 h' ?_⟩
    ·rw[if_pos he]at es;exact es
    ·rw[if_neg (λy=>y he),if_neg (by rw[l1];decide)]at es;obtain⟨mo1,mo2⟩:=mo he l1;exact next h' _ (Fx.trans fr' λb _ y=>y) w' mo1 mc.2 mo2 es.symm
   refine os ⟨_,rk,ce (λk3=>?_) λk3=>?_⟩
   ·have lu:kind≠2:=(by omega);refine cs (λhm=>?_) λhm=>os ⟨fl,bW gx rfl,cs (λhf=>?_) λhf=>?_⟩
    ·exact lk k3 (λy=>by rw[y.1]at hm;cases hm) (λn h'=>bif n != 0 then _ else _) (λn h' hn hqe f ⟨f',w'⟩=>cn (λ_=>err h' _ n f w' c7 hqe hn) λy=>absurd y hn) λh' hi=>cn (λy=>absurd rfl y) λ_=>hi
    ·exact lk k3 (λy=>by rw[y.2]at hf;cases hf) (λn h'=>bif n != 0 then _ else _) (λn h' hn hqe f ⟨f',w'⟩=>cn (λ_=>err h' _ n f w' c7 hqe hn) λy=>absurd y hn) λh' hi=>cn (λy=>absurd rfl y) λ_=>hi
    ·have mk:eQ T (af N) fl beh ⟨s1.chain,r,s1.dH⟩ kind ino=(true,0,⟨s1.chain,r,s1.dH⟩):=by
      unfold Wl.eQ;rw[if_neg lu,if_pos k3];unfold Wl.jg;rw[if_pos ⟨hm,hf⟩]
     rw[mk]at es;exact k4s (λy=>by rw[y]at hm;cases hm) λ_=>es
   ·by_cases k2:kind=2
    ·have hm:more beh r=false:=lu.elim (λy=>absurd k2 y) id
     have mk:eQ T (af N) fl beh ⟨s1.chain,r,s1.dH⟩ kind ino=(true,0,⟨s1.chain,r,s1.dH⟩):=by
      unfold Wl.eQ;rw[if_pos k2,if_pos hm]
     rw[mk]at es;exact k4s (λy=>by rw[y]at hm;cases hm) λ_=>es
    ·refine k4s (λhm=>?_) λhm=>?_
     ·have mk:eQ T (af N) fl beh ⟨s1.chain,r,s1.dH⟩ kind ino=(false,161,⟨s1.chain,r,s1.dH⟩):=by
       unfold Wl.eQ;rw[if_neg k2,if_neg k3,if_pos hm]
      rw[mk]at es;exact es
     ·have mk:eQ T (af N) fl beh ⟨s1.chain,r,s1.dH⟩ kind ino=(true,0,⟨s1.chain,r,s1.dH⟩):=by
       unfold Wl.eQ;rw[if_neg k2,if_neg k3,if_neg (by show ¬more beh r=true;rw[hm];decide)]
      rw[mk]at es;exact es
  have k2s:au.k2 (some ⟨wb,0,none⟩) hh h3 I (R8 wb) (mkStr c) ino (some ⟨xb,0,none⟩) hx (more beh r) K:=by
   unfold au.k2;refine os ⟨_,rk,ce (λk2=>cs (λhm=>aC.intro λgh n14=>?_) λhm=>k3s (.inr hm)) λk2=>k3s (.inl k2)⟩;have XA:=wx.no n14.fr;have LI:=n14.size;obtain⟨ia5,ic5,la5,lc5,r5,ch5,cc5,lf5,lcc5,f15,f25⟩:=XA.ex;refine os ⟨_,_,_,bW r5 rfl,ints s1.chain,by rw[ah];exact(Nat.mul_one _).symm,ch5,av _,?_⟩;have s14:Sl gh 1 (some ⟨hx.size,0,none⟩) 0 0 [] (λb=>b=hx.size):=⟨rfl,rfl,rfl,n14.own,Nat.le_refl _,by rw[n14.rd];rfl,by rw[n14.rd];exact Nat.le_refl _⟩;refine aT (elem:=qP) s14 (by rw[ah];exact(Nat.mul_one _).symm) rfl (by show(0+s1.chain.length)*8<=_;omega) (by omega) λa15 c15 fg adE s15=>aC.intro λiS n16=>⟨[.int .i64 ino],rfl,aj n16.rd,λv hv=>by rw[List.mem_singleton.mp hv];rfl,?_⟩;have oO:=adE.size;have z16:=n16.size;rw[List.nil_append]at s15;have fx15:Fr No hx fg:=n14.fr.trans adE λb hb y=>by have y:b=hx.size:=y;omega
   refine aT (elem:=qP) (s15.fr n16.fr λ_ _ _ y=>y) rfl rfl (by show(0+s1.chain.length+1)*8<=_;omega) (by omega) λa17 c17 eM f17 XE=>os ?_;have z17:=f17.size;have γ:Fr No hx eM:=(fx15.no n16.fr).trans f17 λb hb y=>by rcases y with y|y <;> omega
   have w17:=wx.no γ;have ZJ:rd eM wb=_:=(γ.rd wx.lt λy=>y).trans gx;have en:0+s1.chain.length+1=(s1.chain++[ino]).length:=(by rw[List.length_append,Nat.zero_add];rfl);rw[en]at XE ⊢
   have ch17:ag eM a17 (ints (s1.chain++[ino])):=by
    rw[show ints (s1.chain++[ino])=ints s1.chain++[.int .i64 ino] from List.map_append];exact XE.cells
   have adG:∀p,a17=some p->p.block≠wb/\p.block≠hh.size:=λp hp=>by
    subst hp;have:(p.block=hx.size∨gh.size<=p.block)∨iS.size<=p.block:=XE.2.2.1;have:=wx.lt;omega
   have s17l:=XE.le;refine bQ.add w17.own (by rw[ZJ];exact(by decide:0+6<11)) λh18 d18=>?_;obtain⟨ia6,ic6,la6,lc6,r6,ch6,cc6,lf6,lcc6,f16,f26⟩:=w17.ex;rw[r6]at d18
   have mk:eQ T (af N) fl beh ⟨s1.chain,r,s1.dH⟩ kind ino=(false,0,⟨s1.chain++[ino],r,s1.dH⟩):=by
    unfold Wl.eQ;rw[if_pos k2,if_neg (by show ¬more beh r=false;rw[hm];decide)]
   rw[mk]at es;refine next h18 ⟨s1.chain++[ino],r,s1.dH⟩ ((Fx.no γ).trans d18.fr λb _ y=>y) (w17.did d18 (ia:=a17) (ic:=c17) (la:=la6) (lc:=lc6) rfl ch17 s17l lf6 lcc6 (λp hp _=>adG p hp) f26) ⟨by simp,o1.dH⟩ (by show(s1.chain++[ino]).length<=_;rw[List.length_append];exact Nat.le_refl _) (Nat.le_refl _) es.symm
  refine os ⟨beh,bW gx rfl,cs (λhb=>?_) λhb=>os ⟨_,_,_,bW gx rfl,?_⟩⟩
  ·have:more beh r=true:=(by unfold Wl.more;rw[hb];rfl);rw[this]at k2s;exact k2s
  ·have:more beh r=decide ((r.length:Int)>0):=by
    unfold Wl.more;rw[hb,Bool.false_or];exact decide_eq_decide.mpr (by omega)
   rw[this]at k2s;exact k2s
 have z7:=f7.size
 refine os ⟨_,bW (g4 f7) rfl,os ⟨(af N).v,rfl,lS (g4 f7) rfl,Rx.jM (x.no (w4.fr.no f7)) ok λh9 f9=>⟨_,_,rfl,aC.intro λh10 n10=>⟨bW (g4 ((f7.no f9).no n10.fr)) rfl,⟨rfl,lS (g4 ((f7.no f9).no n10.fr)) rfl⟩,ar.intro n10.own (by rw[ah,lR]) (av _) (by rw[n10.rd];decide) λcg d11=>kk cg h9.size ((f9.no n10.fr).did d11 λy=>?_) ?_⟩⟩,
  aC.intro λpj n32=>⟨bW (g4 (f7.no n32.fr)) rfl,⟨rfl,lS (g4 (f7.no n32.fr)) rfl⟩,Rx.jM (x.no ((w4.fr.no f7).no n32.fr)) ok λAq f33=>⟨_,_,rfl,?_⟩⟩⟩⟩
 ·have:=f9.size;omega
 ·rw[d11.rd,n10.rd];exact cM _ _ (by rw[ah,lR];rfl)
 ·have z32:=n32.size;have z33:=f33.size;have r33:rd Aq h7.size=_:=(f33.rd (by omega) λy=>y).trans n32.rd;refine ar.intro (f33.own (by omega) (λy=>y) n32.own) (by rw[ah,lR]) (av _) (by rw[r33];decide) λPz d34=>kk Pz h7.size ((n32.fr.no f33).did d34 λy=>by omega) ?_;rw[d34.rd,r33];exact cM _ _ (by rw[ah,lR];rfl)
end
end Rq
namespace Rq
open Hp W Ad Tm Spc Re Av
open Hd (ints)
open In (ah av)
open Ino (getM su aF)
open Fi (iaT)
open Rx (qR)
open Di (findD k8)
open Pa (aH bq fY)
open Wl (St Pl kI here qJ more mu jy toM jh xS ft mh Ok HJ u7)
theorem N6{T:TM}{g:G}{s:Tm.ay}(h:(findD T g n s).2≠0):(findD T g n s).1=0:=by
 unfold Di.findD at h ⊢
 cases hc:(k8 T g n s).1 with
 | some x=>exact absurd (Di.Qe hc).1 h
 | none=>rfl
section
variable{h : ab}{t e : OA}{N : Nat}{s : Tm.ay}{fl : Bool}{K : Value -> ab -> Prop}{F : Nat -> Prop}{T : TM}
theorem Ik{h4 h7:ab}{l:Nat}{ps:List Tm.ay}(f4:Fr No h h4)(n6:oM h4 h6 [.int .i64 1])(n7:oM h6 h7 (rV t (af N) (some ⟨h4.size,0,none⟩) 1 1 a l c beh fl 0))(hl:l=ps.length)(hc:l<=c)(lf:ag h4 a (Ch.strs ps)) :
  Wk h h7 h6.size h6.size t (af N) ⟨[1],ps,0⟩ fl beh:=by
 subst hl;have z4:=f4.size;have z6:=n6.size;refine⟨(f4.no n6.fr).no n7.fr,n7.own,by omega,some ⟨h4.size,0,none⟩,1,a,c,n7.rd,aj ((n7.at_ (by omega)).trans n6.rd),Nat.le_refl _,ag.fr n7.fr (ag.fr n6.fr lf λ_ _ y=>y) λ_ _ y=>y,hc,λp hp _=>?_,λp hp hx=>?_⟩
 ·cases hp
  exact⟨by show h4.size≠h6.size;omega,by show h4.size≠h6.size;omega⟩
 ·subst hp;have:=L3.ag.lt lf (L5 hx);omega
theorem Q7(x:qR h F t e T)(ok:su (af N))(hl:s.length<=1099511627776)
  (hK:∀h' a c,Fr No h h'->Sl h' 1 a (toM T (af N) s fl).1.chain.length c (ints (toM T (af N) s fl).1.chain) (bZ h.size)->K (.tuple #[.agg ⟨xS a c (toM T (af N) s fl).1⟩,.int .i64 (toM T (af N) s fl).2]) h') :
  C.jZ t (af N).v (mkStr s) fl h K:=by
 unfold Wl.toM at hK;refine jZ.ok (aC.intro λh2 n2=>aC.intro λh3 n3=>Pa.zE hl λa l c h4 f4 L=>⟨_,_,_,_,rfl,?_⟩);have z2:=n2.size;have z3:=n3.size;have z4:=f4.size;have F4:Fr No h h4:=(n2.fr.new n3).no f4;have o4:du h4 h2.size:=f4.own (by omega) (λy=>y) n3.own;have r4:rd h4 h2.size=_:=(f4.rd (by omega) λy=>y).trans n3.rd;refine cn (λhe=>?_) λhe=>?_
 ·rw[if_pos he]at hK;refine ar.intro o4 rfl (ft (a:=none) (c:=0) (p:=kI)) (by rw[r4];exact Nat.le_refl _) λh5 d5=>⟨_,rfl,aj (by rw[d5.rd,r4];exact cM _ _ rfl),hK h5 none 0 (F4.did d5 λy=>by omega) (Sl.nil _ _ _)⟩
 rw[if_neg (λy=>y he)]at hK;have W4:=(fY (s:=s) (b:=true)).1;generalize(aH s true).1=ps at hK L W4;obtain⟨hl4,L⟩:=L;refine⟨(af N).v,rfl,aj ((f4.rd (by omega) λy=>y).trans ((n3.at_ (by omega)).trans n2.rd)),aC.intro λh6 n6=>⟨rfl,aC.intro λh7 n7=>?_⟩⟩;have z6:=n6.size;have z7:=n7.size;have w7:=Ik (t:=t) (fl:=fl) (beh:=false) F4 n6 n7 hl4 L.le L.cells;refine Em x ok w7 (HJ ps) (by show 1+(33*(8-0)+ps.length)<=600;omega) λh8 s8 a8 c8 f8 lt8 w8 hs8 hc8 S8=>⟨_,_,rfl,?_⟩;have r8:rd h8 h2.size=_:=(f8.rd (by omega) λy=>by have y:h2.size=h6.size:=y;omega).trans ((n7.at_ (by omega)).trans ((n6.at_ (by omega)).trans r4));have o8:du h8 h2.size:=f8.own (by omega) (λy=>by have y:h2.size=h6.size:=y;omega) (n7.ow (n6.ow o4));refine ar.intro o8 rfl ft (by rw[r8];exact Nat.le_refl _) λh9 d9=>⟨_,rfl,aj (by rw[d9.rd,r8];exact cM _ _ rfl),hK h9 a8 c8 ((((F4.no n6.fr).no n7.fr).trans f8 λb hb y=>by have y:b=h6.size:=y;omega).did d9 λy=>by omega) ((Sl.fr d9.fr S8 λb _ hb y=>?_).mono λb hb=>?_)⟩
 ·have y:b=h2.size:=y;have hb:h7.size<b:=hb;omega
 ·have hb:h7.size<b:=hb;show h.size<=b;omega
theorem wF(x:qR h F t e T)(ok:su (af N))(hl:s.length<=1099511627776)
  (hK:∀h' a c,Fr No h h'->Sl h' 1 a (jh T (af N) s).1.chain.length c (ints (jh T (af N) s).1.chain) (bZ h.size)->K (.tuple #[.agg ⟨xS a c (jh T (af N) s).1⟩,.int .i64 (jh T (af N) s).2]) h') :
  C.dP t (af N).v (mkStr s) h K:=by
 unfold Wl.jh at hK;refine dP.ok (aC.intro λh2 n2=>aC.intro λh3 n3=>Pa.wF hl λa l c h4 f4 L lc4=>⟨_,_,_,_,_,rfl,?_⟩);have z2:=n2.size;have z3:=n3.size;have z4:=f4.size;have F4:Fr No h h4:=(n2.fr.new n3).no f4;have o4:du h4 h2.size:=f4.own (by omega) (λy=>y) n3.own;have r4:rd h4 h2.size=_:=(f4.rd (by omega) λy=>y).trans n3.rd;have fit:=u7 s;refine cn (λhe=>?_) λhe=>?_
 ·rw[if_pos he]at hK;refine ar.intro o4 rfl (ft (a:=none) (c:=0) (p:=kI)) (by rw[r4];exact Nat.le_refl _) λh5 d5=>⟨_,rfl,aj (by rw[d5.rd,r4];exact cM _ _ rfl),hK h5 none 0 (F4.did d5 λy=>by omega) (Sl.nil _ _ _)⟩
 rw[if_neg (λy=>y he)]at hK;generalize(bq s).1=ps at hK L fit;generalize(bq s).2.1=nm at hK ⊢;have Z7:rd h4 h.size=(af N).v:=(f4.rd (by omega) λy=>y).trans ((n3.at_ (by omega)).trans n2.rd);refine⟨(af N).v,rfl,aj Z7,aC.intro λh6 n6=>⟨rfl,aC.intro λh7 n7=>?_⟩⟩;have z6:=n6.size;have z7:=n7.size;have w7:=Ik (t:=t) (fl:=false) (beh:=true) F4 n6 n7 L.l.symm lc4 L.c;have F7:Fr No h h7:=(F4.no n6.fr).no n7.fr;have r7:rd h7 h2.size=_:=(n7.at_ (by omega)).trans ((n6.at_ (by omega)).trans r4);have o7:du h7 h2.size:=n7.ow (n6.ow o4);rw[toList_mkStr,toList_mkStr];refine Pa.sB (λhn=>?_) λhn=>?_
 ·rw[if_pos hn]at hK;refine nV w7 (by simp) (by simp) λh8 a8 c8 f8 lt8 s8=>⟨_,rfl,?_⟩;have r8:rd h8 h2.size=_:=(f8.rd (by omega) λy=>y).trans r7;have o8:du h8 h2.size:=f8.own (by omega) (λy=>y) o7;refine ar.intro o8 rfl ft (by rw[r8];exact Nat.le_refl _) λh9 d9=>⟨_,rfl,aj (by rw[d9.rd,r8];exact cM _ _ rfl),hK h9 a8 c8 ((F7.no f8).did d9 λy=>by omega) ((Sl.fr d9.fr s8 λb _ hb y=>?_).mono λb hb=>?_)⟩
  ·have y:b=h2.size:=y;have hb:h7.size<b:=hb;omega
  ·have hb:h7.size<b:=hb;show h.size<=b;omega
 rw[if_neg hn]at hK;refine Em x ok w7 (HJ ps) (by show 1+(33*(8-0)+ps.length)<=600;omega) λh10 s8 a8 c8 f8 lt8 w8 hs8 hc8 S8=>⟨_,_,rfl,ax.intro rfl ft rfl λbb n12=>?_⟩;generalize jy T (af N) false true ⟨[1],ps,0⟩=q at hK hc8 S8 n12 ⊢;have z12:=n12.size;have wm:∀{h':ab},Fr No bb h'->rd h' h2.size=_:=λf=>(f.rd (by omega) λy=>y).trans ((n12.at_ (by omega)).trans ((f8.rd (by omega) λy=>by have y:h2.size=h6.size:=y;omega).trans r7));have RY:∀{h':ab},Fr No bb h'->du h' h2.size:=λf=>f.own (by omega) (λy=>y) (n12.ow (f8.own (by omega) (λy=>by have y:h2.size=h6.size:=y;omega) o7));have xy:Fr No h bb:=((F7.trans f8 λb hb y=>by have y:b=h6.size:=y;omega)).new n12
 have zero:∀{h':ab} {er:Int},Fr No bb h'->(∀h5,Fr No h h5->K (.tuple #[.agg ⟨xS none 0 kI⟩,.int .i64 er]) h5)->
   ar ⟨h2.size,0,none⟩ [.slice none 0 0,.string (mkStr []),.int .i64 0] 3 h' λh5=>∃res:LV,List.length res=3/\ai h5 ⟨h2.size,0,none⟩ res/\K (.tuple #[.agg ⟨res⟩,.int .i64 er]) h5:=fun {h' er} f hk=>
  ar.intro (RY f) rfl (ft (a:=none) (c:=0) (p:=kI)) (by rw[wm f];exact Nat.le_refl _) λh5 d5=>⟨_,rfl,aj (by rw[d5.rd,wm f];exact cM _ _ rfl),hk h5 ((xy.no f).did d5 λy=>by omega)⟩
 refine cn (λCv=>?_) λCv=>?_
 ·rw[if_pos Cv]at hK;exact zero (Fr.refl _ _) λh5 f5=>hK h5 none 0 f5 (Sl.nil _ _ _)
 rw[if_neg (λy=>y Cv)]at hK;have hc8:=hc8 Cv;have PH:=w8.no n12.fr;have Kd:rd bb h.size=(af N).v:=(n12.at_ (by omega)).trans ((f8.rd (by omega) λy=>by have y:h.size=h6.size:=y;omega).trans ((n7.at_ (by omega)).trans ((n6.at_ (by omega)).trans Z7)));refine⟨(af N).v,rfl,aj Kd,F2 PH hs8.1 (by have:=hs8.2;omega) ⟨_,rfl,⟨rfl,aj Kd⟩,?_⟩⟩;rw[hc8];refine jL (x.no xy) ok λfg f15=>⟨_,_,rfl,?_⟩;have fz:=N6 (T:=T) (g:=af N) (n:=here q.1.chain) (s:=nm);generalize findD T (af N) (here q.1.chain) nm=fd at hK fz ⊢;have oO:=f15.size;have MC:rd fg h10.size=xS a8 c8 q.1:=(f15.rd (by omega) λy=>y).trans n12.rd;have ZC:du fg h10.size:=f15.own (by omega) (λy=>y) n12.own
 have k1:¬(fd.2≠0/\fd.2≠160)->dP.k1 h2 (mkStr nm) h10 fd.1 fd.2 fg K:=λhx=>by
  rw[if_neg hx]at hK;unfold dP.k1;refine bQ.add ZC (by rw[MC];exact(by decide:0+1<3)) λh18 d18=>?_;rw[MC]at d18;refine bQ.add d18.own (by rw[d18.rd];exact(by decide:0+2<3)) λfO d19=>?_;rw[d18.rd]at d19;have Xt:=d18.size;have z19:=d19.size
  have fin:∀hx,Fr (λb=>b=h10.size) fg hx->rd hx h10.size=xS a8 c8 ⟨q.1.chain,nm,fd.1⟩->∃kx:LV,List.length kx=3/\ai hx ⟨h10.size,0,none⟩ kx/\ar ⟨h2.size,0,none⟩ kx 3 hx λlx=>∃lG:LV,List.length lG=3/\ai lx ⟨h2.size,0,none⟩ lG/\K (.tuple #[.agg ⟨lG⟩,.int .i64 0]) lx:=λhx f r=>by
   have zx:=f.size;have rx:rd hx h2.size=_:=(f.rd (by omega) λy=>by have y:h2.size=h10.size:=y;omega).trans (wm f15);have ox:du hx h2.size:=f.own (by omega) (λy=>by have y:h2.size=h10.size:=y;omega) (RY f15);refine⟨_,rfl,aj r,ar.intro ox rfl ft (by rw[rx];exact Nat.le_refl _) λlx d21=>⟨_,rfl,aj (by rw[d21.rd,rx];exact cM _ _ rfl),hK lx a8 c8 (((xy.no f15).trans f λb hb y=>by have y:b=h10.size:=y;have:=F7.size;have:=f8.size;omega).did d21 λy=>by omega) ?_⟩⟩;have Cw:Sl fg 1 a8 q.1.chain.length c8 (ints q.1.chain) (λb=>h7.size<b/\b<h10.size):=((Di.uv S8).fr n12.fr λ_ _ _ y=>y).fr f15 λ_ _ _ y=>y;refine(Sl.fr d21.fr (Sl.fr f Cw λb _ hb y=>?_) λb _ hb y=>?_).mono λb hb=>?_
   ·have y:b=h10.size:=y;have hb:=hb.2;omega
   ·have y:b=h2.size:=y;have hb:=hb.1;omega
   ·have hb:=hb.1;show h.size<=b;omega
  have f19:Fr (λb=>b=h10.size) fg fO:=d18.fr.trans d19.fr λb _ y=>y;refine ce (λh0=>?_) λh0=>?_
  ·refine bQ.add d19.own (by rw[d19.rd];exact(by decide:0+2<3)) λgY d20=>fin gY (f19.trans d20.fr λb _ y=>y) ?_;rw[d20.rd,d19.rd];rfl
  ·refine fin fO f19 ?_;rw[d19.rd,fz h0];rfl
 refine cn (λh0=>cn (λh1=>?_) λh1=>k1 λy=>y.2 h1) λh0=>k1 λy=>y.1 h0;rw[if_pos ⟨h0,h1⟩]at hK;exact zero f15 λh5 f5=>hK h5 none 0 f5 (Sl.nil _ _ _)
end
end Rq
namespace Wl
open Hp W Re
open Hd (ints)
open In (ah)
open Tm (eD)
theorem nY(l:List Int):(eD l).Perm l:=List.mergeSort_perm ..
theorem Ke{l:Nat}{zs:List Int}(s:Sl h 1 a l c (ints zs) F)(hl:l<4611686018427387904)
  (hK:∀h',Fr (λb=>∃p,a=some p/\b=p.block) h h'->Sl h' 1 a l c (ints (eD zs)) F->K (.tuple #[]) h'):C.oN a l c h K:=by
 refine⟨⟨_,Tryz.func93,by kernel_rfl,by kernel_rfl⟩,λw hw=>?_⟩;subst hw
 have le:zs.length=l:=by
  have:=s.1;rw[ah,Nat.mul_one]at this;exact this
 cases a with
 | none=>
  have l0:l=0:=s.2.1;have c0:c=0:=s.2.2;subst l0 c0;refine(AnyM.slices_Sort_int_none Tryz.sortA none 0 w).mono λe w' ⟨he,Df⟩=>⟨_,he,?_⟩;subst Df;have e0:zs=[]:=List.length_eq_zero_iff.mp le;subst e0;have e1:eD []=[]:=List.mergeSort_nil;rw[e1]at hK;exact⟨⟨rfl,rfl,rfl⟩,hK _ (Fr.refl _ _) s⟩
 | some p=>
  obtain⟨b,o,sp⟩:=p;have ep:sp=none:=s.2.1;subst ep;have J1:=s.cells;obtain⟨_,_,hF,⟨cs,T,fz,hb,hfz⟩,wv,NF,zF⟩:=s;have erd:rd w.heap b=cs.toList:=by unfold rd;rw[hb]
  have mQ:w.heap[b]?=some (.cells cs T fz):=hb;simp only at zF;rw[erd,Array.length_toList,Nat.mul_one]at zF
  have hH:Go.Sort.Holds (Value.int .i64) w b o zs.toArray:=λj hj=>by
   have hj:j<zs.length:=hj;refine⟨?_,?_⟩
   ·have:=J1 j (.int .i64 zs[j]) (by unfold ints;rw[List.getElem?_map,List.getElem?_eq_getElem hj];rfl);rw[cI]at this;have e:zs.toArray[j]! = zs[j]:=(by rw[getElem!_pos zs.toArray j hj];rfl);rw[e];exact this
   ·show(match w.heap[b]? with
     | some (.cells _ _ (lo,hi))=>decide (lo<=o+j) && decide (o+j<hi)
     | _=>false)=false
    rw[mQ];show(decide (fz.1<=o+j) && decide (o+j<fz.2))=false
    rcases hfz with e|e
    ·rw[e,decide_eq_false (show ¬o+j<0 by omega),Bool.and_false]
    ·rw[decide_eq_false (by omega),Bool.false_and]
  have cS:=AnyM.slices_Sort_int Tryz.sortA b o c zs w hH (Array.getElem?_eq_some_iff.mp mQ).1 (by rw[le];exact hl);rw[le]at cS;refine cS.mono λe w' ⟨he,n,ws,Df⟩=>⟨_,he,?_⟩;have ls:(eD zs).length=l:=((nY zs).length_eq).trans le
  have hH':=Go.Sort.holds_grow (Value.int .i64) _ ws b o _ (by
   show b<(w.heap.modify b _).size
   rw[Array.size_modify];exact(Array.getElem?_eq_some_iff.mp mQ).1) (Go.Sort.holds_putRow (Value.int .i64) (Sort.ahead w n) b o zs.toArray (eD zs).toArray (Go.Sort.holds_ahead _ _ _ _ _ _ hH) (by show(eD zs).length=zs.length;omega))
  have δ:w'=Go.Sort.grow (Go.Sort.putRow (Value.int .i64) (Sort.ahead w n) b o (eD zs).toArray) ws:=Df;rw[<-δ]at hH';have eh:w'.heap=(w.heap.modify b (Go.Sort.onCells (Go.Sort.putCells (Value.int .i64) o (eD zs).toArray)))++ws:=by rw[δ];rfl
  have rest:aP w w':=by rw[δ];exact⟨rfl,rfl,rfl⟩
  have C1:=(Array.getElem?_eq_some_iff.mp mQ).1
  have eb:w'.heap[b]?=some (.cells (Go.Sort.putCells (Value.int .i64) o (eD zs).toArray cs) T fz):=by
   rw[eh,Array.getElem?_append_left (by rw[Array.size_modify];exact C1),Array.getElem?_modify,if_pos rfl,mQ];rfl
  have esz:(Go.Sort.putCells (Value.int .i64) o (eD zs).toArray cs).size=cs.size:=by unfold Go.Sort.putCells;rw[Array.size_mapIdx]
  refine⟨rest,hK _ ⟨by rw[eh,Array.size_append,Array.size_modify];omega,λb' hb1 Sr=>?_⟩ ⟨by rw[ah,ls,Nat.mul_one],rfl,hF,⟨_,T,fz,eb,by rw[esz];exact hfz⟩,wv,Di.QE λj v hv=>?_,?_⟩⟩
  ·rw[eh,Array.getElem?_append_left (by rw[Array.size_modify];exact hb1),Array.getElem?_modify,if_neg λy=>Sr ⟨_,rfl,y.symm⟩]
  ·have hj:j<(eD zs).length:=by
    have:=(List.getElem?_eq_some_iff.mp hv).1;rw[ah]at this;exact this
   unfold ints at hv;rw[List.getElem?_map,List.getElem?_eq_getElem hj]at hv;have:=(hH' j hj).1;have e:(eD zs).toArray[j]! = (eD zs)[j]:=(by rw[getElem!_pos (eD zs).toArray j hj];rfl);rw[e]at this;rw[<-Option.some.inj hv];exact this
  ·show o+c*1<=(rd w'.heap b).length;have:rd w'.heap b=(Go.Sort.putCells (Value.int .i64) o (eD zs).toArray cs).toList:=(by unfold rd;rw[eb]);rw[this,Array.length_toList,esz,Nat.mul_one];exact zF
end Wl
namespace Wl
open Hp Ad Tm Spc Re
open Ino (getM)
open Di (cX sortE k9 nR cu gZ aM bD xO lL)
open Sk (E)
section
variable(T : TM)(g : G)
def dj : List E->List Int×Int
 | []=>([],0)
 | c::r=>if(getM T g c.fu).2≠0 then([],(getM T g c.fu).2)else((if(getM T g c.fu).1.getD 0 0=2 then[c.fu]else[])++(dj r).1,(dj r).2)
def qM(h ht:Int)(es:List E):Int:=if 0<es.length then h else ht
def ji(h:Int):List Int->Int->List Int->Option (Int×Int)×Int×List Int
 | [],ht,nx=>(none,ht,nx)
 | d::r,ht,nx=>if(cX T g d).2≠0 then(some (0,(cX T g d).2),ht,nx)else if 32<qM h ht (cX T g d).1 then(some (qM h ht (cX T g d).1,0),ht,nx)else
  if(dj T g (cX T g d).1).2≠0 then(some (0,(dj T g (cX T g d).1).2),ht,nx)else ji h r (qM h ht (cX T g d).1) (nx++(dj T g (cX T g d).1).1)
def fZ : Nat->Int->Int->List Int->Int×Int
 | 0,_,ht,_=>(ht,0)
 | m+1,h,ht,l=>if l=[]then(ht,0)else match (ji T g h l ht []).1 with
  | some r=>r
  | none=>fZ m (h+1) (ji T g h l ht []).2.1 (fG (eD (ji T g h l ht []).2.2))
def iU(n:Int):Int×Int:=if(getM T g n).2≠0 then(0,(getM T g n).2)else if(getM T g n).1.getD 0 0≠2 then(0,161)else fZ T g 40 1 0 [n]
end
section
variable{T : TM}{g : G}
theorem Cj : ∀l:List E,(dj T g l).1.length<=l.length
 | []=>Nat.le_refl _
 | c::r=>by
  have:=Cj r;unfold dj
  split
  ·exact Nat.zero_le _
  ·rw[List.length_append,List.length_cons];have:∀b:Prop,[Decidable b]->(if b then[c.fu]else[]).length<=1:=λb _=>by split <;> simp
   have:=this ((getM T g c.fu).1.getD 0 0=2);omega
theorem yd(h:(getM T g n).2=0):1<=n/\n<g.count:=by
 unfold getM at h
 by_cases y:1<=n/\n<g.count
 ·exact y
 ·rw[if_pos y]at h;exact absurd h (by decide)
theorem ye : ∀l:List E,∀x∈(dj T g l).1,1<=x/\x<g.count
 | [],x,h=>by cases h
 | c::r,x,h=>by
  unfold dj at h
  split at h
  ·cases h
  ·rename_i y
   rcases List.mem_append.mp h with h|h
   ·split at h
    ·rw[List.mem_singleton.mp h];exact yd (Classical.byContradiction y)
    ·cases h
   ·exact ye r x h
theorem Q8{h:Int}:∀(l:List Int) (ht:Int) (nx:List Int),(ji T g h l ht nx).1=none->((ji T g h l ht nx).2.1=h∨((ji T g h l ht nx).2.1=ht/\(ji T g h l ht nx).2.2=nx))/\(ht<=32->(ji T g h l ht nx).2.1<=32)
 | [],ht,nx,_=>⟨.inr ⟨rfl,rfl⟩,λy=>y⟩
 | d::r,ht,nx,e=>by
  unfold ji at e ⊢
  split at e
  ·cases e
  ·rename_i h1;rw[if_neg h1]
   split at e
   ·cases e
   ·rename_i h2;rw[if_neg h2]
    split at e
    ·cases e
    ·rename_i h3;rw[if_neg h3];have ih:=Q8 r _ _ e;refine⟨?_,λ_=>ih.2 (by omega)⟩
     rcases ih.1 with y|⟨y1,y2⟩
     ·exact .inl y
     ·unfold qM at y1 y2 h2 ⊢
      by_cases hp:0<(cX T g d).1.length
      ·rw[if_pos hp]at y1 ⊢;exact .inl y1
      ·rw[if_neg hp]at y1 y2 ⊢;refine .inr ⟨y1,?_⟩;have e0:(cX T g d).1=[]:=List.length_eq_zero_iff.mp (by omega);rw[y2,e0];exact List.append_nil _
theorem qD : ∀(l acc:List Int),acc.Pairwise (· < ·)->l.Pairwise (· <= ·)->(∀a∈acc,∀x∈l,a<=x)->(l.foldl nB acc).Pairwise (· < ·)
 | [],acc,h,_,_=>h
 | y::r,acc,h,hl,hx=>by
  have hy:=List.pairwise_cons.mp hl;refine qD r (nB acc y) ?_ hy.2 λa ha x hxr=>?_
  ·unfold nB
   split
   ·exact h
   ·rename_i fB;refine List.pairwise_append.mpr ⟨h,List.pairwise_singleton _ _,λa ha b hb=>?_⟩;rw[List.mem_singleton.mp hb];have le:=hx a ha y List.mem_cons_self
    rcases Int.lt_or_eq_of_le le with lt|rfl
    ·exact lt
    ·exfalso;have ne:acc≠[]:=λe=>by rw[e]at ha;cases ha
     have e:=List.dropLast_concat_getLast ne;rw[List.getLast?_eq_some_getLast ne]at fB;have Xv:a∈acc.dropLast++[acc.getLast ne]:=by rw[e];exact ha
     rcases List.mem_append.mp Xv with Xv|Xv
     ·have hp:(acc.dropLast++[acc.getLast ne]).Pairwise (· < ·):=(by rw[e];exact h);have:=(List.pairwise_append.mp hp).2.2 a Xv _ (List.mem_singleton.mpr rfl);have:=hx _ (List.getLast_mem ne) a List.mem_cons_self;omega
     ·exact fB (by rw[List.mem_singleton.mp Xv])
  ·unfold nB at ha
   split at ha
   ·exact hx a ha x (List.mem_cons_of_mem _ hxr)
   ·rcases List.mem_append.mp ha with ha|ha
    ·exact hx a ha x (List.mem_cons_of_mem _ hxr)
    ·rw[List.mem_singleton.mp ha];exact hy.1 x hxr
theorem sK(l:List Int):(eD l).Pairwise (· <= ·):=by
 have:=List.pairwise_mergeSort (le:=λx y:Int=>decide (x<=y)) (λa b c h1 h2=>by rw[decide_eq_true_eq]at *;omega) (λa b=>by rw[Bool.or_eq_true,decide_eq_true_eq,decide_eq_true_eq];omega) l;exact this.imp λh=>by simpa using h
theorem En(h:∀ x ∈ nx,1<=x/\x<(m:Int)):(fG (eD nx)).length<=m/\∀x∈fG (eD nx),1<=x/\x<(m:Int):=by
 have mem:∀x∈fG (eD nx),1<=x/\x<(m:Int):=λx hx=>by
  rcases xY hx with y|y
  ·cases y
  ·exact h x ((nY nx).mem_iff.mp y)
 refine⟨?_,mem⟩;have nd:(fG (eD nx)).Nodup:=(qD (eD nx) [] .nil (sK nx) (λa ha=>by cases ha)).imp λh=>by omega
 have:=nd.length_le_of_subset (l₂:=(List.range m).map λk:Nat=>(k:Int)) λx hx=>by
  have:=mem x hx;exact List.mem_map.mpr ⟨x.toNat,List.mem_range.mpr (by omega),by omega⟩
 rw[List.length_map,List.length_range]at this;exact this
theorem Ck(T:TM)(g:G)(R:List Int):∀m k,(nR (cu T g R m k).1).length<=16*m
 | 0,_=>Nat.le_refl _
 | m+1,k=>by
  have ih:=Ck T g R m (k+1);unfold cu
  split
  ·exact Nat.zero_le _
  ·have:=xO T g R k;unfold nR at ih ⊢;rw[List.flatMap_cons,List.length_append,List.length_map];omega
theorem yf(T:TM)(g:G)(n:Int):(cX T g n).1.length<=264352:=by
 unfold cX
 split
 ·exact Nat.zero_le _
 ·rename_i h1
  split
  ·exact Nat.zero_le _
  ·have:=Ck T g (bD T g n).1 ((bD T g n).1.getD 2 0/512).toNat 0;have b:=(lL (Classical.byContradiction h1)).2;rw[(k9 _).length_eq];unfold gZ;omega
end
end Wl
namespace Wl
open Hp W Ad Tm Spc Re Av Ss
open Hd (ints)
open In (ah av)
open Ino (getM su aF)
open Fi (Iz)
open Di (cX lV uv)
open Sk (E)
section
variable{h h2 h8 h9 h10 : ab}{N : Nat}{t d : OA}{K : Value -> ab -> Prop}{F : Nat -> Prop}{T : TM}{n : Int}
theorem y6{g:G}{c:E}{r:List E}:dj T g (c::r)=if(getM T g c.fu).2≠0 then([],(getM T g c.fu).2)else((if(getM T g c.fu).1.getD 0 0=2 then[c.fu]else[])++(dj T g r).1,(dj T g r).2):=rfl
theorem N7{mV Q9 n4:Int}{na:OA}{nl nc:Nat}{es:List E}{ea:OA}{el:Nat}{R:Int×Int}(gl:In.pq h)(dm:Ab N)(X:Tx h F t d T)
  {I2:Int->OA->Nat->Nat->Int->ab->Prop} {M2:Int->OA->Nat->Nat->Int->ab->Nat}
  (FO:Fr No h h10) (rg:rd h10 h.size=(af N).v) (z9:h.size<h8.size) (z89:h8.size<=h9.size) (z910:h9.size<=h10.size)
  (S:Sl h10 1 na nl nc (ints nx) (λb=>h8.size<=b/\b<h9.size)) (B:Sl h10 3 ea el el (es.flatMap E.v) (bZ h9.size)∨ag h10 ea (es.flatMap E.v)/\∀p,ea=some p->h9.size<=p.block/\p.block<h10.size) (hel:es.length=el)
  (hes:el<=264352) (hnx:nx.length<=600000000) (ZP:n4=j) (hj:j<=100000000)
  (ε:32<Q9->R=(Q9,0)) (ζ:¬32<Q9->(dj T (af N) es).2≠0->R=(0,(dj T (af N) es).2))
  (Eo:¬32<Q9->(dj T (af N) es).2=0->∀hx XL R9 XM,Fr (λb=>(h8.size<=b/\b<h9.size)∨h10.size<=b) h10 hx->Sl hx 1 XL R9 XM (ints (nx++(dj T (af N) es).1)) (bZ h8.size)->I2 Q9 XL R9 XM ((j:Int)+1) hx/\M2 Q9 XL R9 XM ((j:Int)+1) hx<M2 mV na nl nc n4 h9)
  (hK:∀h',Fr No h h'->K (.tuple #[.int .i64 R.1,.int .i64 R.2]) h'):fK.k1 t h mV na nl nc n4 h9 I2 M2 h10 ea el Q9 K:=by
 subst ZP
 have B':ag h10 ea (es.flatMap E.v)/\∀p,ea=some p->h9.size<=p.block/\p.block<h10.size:=by
  rcases B with B|B
  ·refine⟨B.cells,λp hp=>?_⟩;subst hp;exact⟨B.2.2.1,B.lt⟩
  ·exact B
 have Nj:=FO.size;refine cd (λhb=>?_) λhb=>?_
 ·have e:=ε hb;rw[e]at hK;exact hK h10 FO
 have ζ:=ζ hb;have Eo:=Eo hb
 let Q:Nat->Prop:=λb=>(h8.size<=b/\b<h9.size)∨h10.size<=b
 have nQ:∀b,b<h8.size->¬Q b:=λb hb y=>by rcases y with y|y <;> omega
 refine⟨λXL R9 XM i hx=>∃(q:Nat) (Ra:List Int),i=q/\q<=es.length/\Fr Q h10 hx/\Sl hx 1 XL R9 XM (ints Ra) Q/\Ra.length<=nx.length+q/\Ra++(dj T (af N) (es.drop q)).1=nx++(dj T (af N) es).1/\(dj T (af N) (es.drop q)).2=(dj T (af N) es).2,
  λ_ _ _ i _=>((el:Int)-i).toNat,⟨0,nx,rfl,Nat.zero_le _,Fr.refl _ _,S.mono λb y=>.inl y,Nat.le_refl _,rfl,rfl⟩,?_⟩
 rintro XL R9 XM i hx ⟨q,Ra,rfl,hq,f,S3,l3,ek,ee⟩;have zx:=f.size
 have nl3:Ra.length=R9:=by
  have:=S3.1;rw[ah,Nat.mul_one]at this;exact this
 have Fx:Fr No h hx:=FO.trans f λb hb y=>absurd y (nQ b (by omega));have rgx:rd hx h.size=(af N).v:=(f.rd (by omega) (nQ _ z9)).trans rg;refine cd (λdh=>?_) λvF=>?_
 ·have Xx:q<es.length:=by omega
  have Bx:ag hx ea (es.flatMap E.v):=ag.fr f B'.1 λp hp y=>by
   have:=B'.2 p hp
   rcases y with y|y <;> omega
  obtain⟨p,ep,cp⟩:=lV Bx Xx;subst ep;rw[List.drop_eq_getElem_cons Xx]at ek ee;rw[y6]at ek ee;refine⟨⟨by omega,by omega⟩,os ⟨_,rfl,cp,ax.intro rfl (E.one _) rfl λbU n13=>?_⟩⟩;have z13:=n13.size;have rg13:rd bU h.size=(af N).v:=(n13.at_ (by omega)).trans rgx;have Xs:Fr No h bU:=Fx.new n13;refine⟨(af N).v,rfl,aj rg13,_,bW n13.rd rfl,Ino.jM (gl.no Xs) (X.no Xs) (Iz dm) λgh f14=>⟨_,_,rfl,?_⟩⟩;have LI:=f14.size;have Rl:(ints (getM T (af N) es[q].fu).1).length=15:=(ah _).trans (aF ..);refine ax.intro Rl (av _) rfl λiS n16=>?_;have z16:=n16.size;have f16:Fr No hx iS:=(n13.fr.no f14).new n16;have F16:Fr No h iS:=Fx.no f16;have S16:=Sl.fr f16 S3 λ_ _ _ y=>y;have stp:Fr Q h10 iS:=f.no f16;refine cn (λhg=>?_) λhg=>?_
  ·rw[if_pos hg]at ee;have e:=ζ (by rw[<-ee];exact hg);rw[<-ee]at e;rw[e]at hK;exact hK iS F16
  rw[if_neg (λy=>y hg)]at ek ee;have UP:rd iS hx.size=E.v es[q]:=(n16.at_ (by omega)).trans ((f14.rd (by omega) λy=>y).trans n13.rd);refine⟨_,In.gw n16.rd (i:=0) (by rw[aF];decide),ce (λhk=>⟨_,bW UP rfl,aC.intro λeM n17=>?_⟩) λhk=>?_⟩
  ·rw[if_pos hk]at ek;have z17:=n17.size;have S17:=Sl.fr n17.fr S16 λ_ _ _ y=>y;refine⟨[.int .i64 es[q].fu],rfl,aj n17.rd,λv hv=>by rw[List.mem_singleton.mp hv];rfl,aT (elem:=qP) S17 rfl rfl (by show(R9+1)*8<=_;omega) (by omega) λa' c' h18 f18 s18=>?_⟩;rw[wrap_i64 (show -9223372036854775808<=(q:Int)+1 by omega) (by omega)];refine⟨⟨q+1,Ra++[es[q].fu],by omega,by omega,(stp.new n17).trans f18 λb _ y=>y,?_,?_,?_,ee⟩,by show((el:Int)-((q:Int)+1)).toNat<((el:Int)-(q:Int)).toNat;omega⟩
   ·rw[show ints (Ra++[es[q].fu])=ints Ra++[.int .i64 es[q].fu] from List.map_append]
    exact s18.mono λb y=>by
     rcases y with y|y
     ·exact y
     ·exact .inr (by omega)
   ·rw[List.length_append];show Ra.length+1<=nx.length+(q+1);omega
   ·rw[<-ek,List.append_assoc]
  ·rw[if_neg hk,List.nil_append]at ek;rw[wrap_i64 (show -9223372036854775808<=(q:Int)+1 by omega) (by omega)];exact⟨⟨q+1,Ra,by omega,by omega,stp,S16,by omega,ek,ee⟩,by show((el:Int)-((q:Int)+1)).toNat<((el:Int)-(q:Int)).toNat;omega⟩
 ·have Xx:q=es.length:=by omega
  rw[Xx,List.drop_length]at ek ee;have ek:Ra++[]=nx++(dj T (af N) es).1:=ek;rw[List.append_nil]at ek;rw[wrap_i64 (show -9223372036854775808<=(j:Int)+1 by omega) (by omega)];rw[ek]at S3
  exact Eo ee.symm hx XL R9 XM f (S3.mono λb y=>by
   show h8.size<=b
   rcases y with y|y <;> omega)
end
section
variable{h : ab}{N : Nat}{t d : OA}{K : Value -> ab -> Prop}{F : Nat -> Prop}{T : TM}{n : Int}
theorem Cm{g:G}{d:Int}{r:List Int}:ji T g k (d::r) ht nx=if(cX T g d).2≠0 then(some (0,(cX T g d).2),ht,nx)else if 32<qM k ht (cX T g d).1 then(some (qM k ht (cX T g d).1,0),ht,nx)else
  if(dj T g (cX T g d).1).2≠0 then(some (0,(dj T g (cX T g d).1).2),ht,nx)else ji T g k r (qM k ht (cX T g d).1) (nx++(dj T g (cX T g d).1).1):=rfl
theorem uA{g:G}{r:Int×Int}(hl:l≠[])(e:(ji T g k l ht []).1=some r):fZ T g (m+1) k ht l=r:=by
 unfold fZ;rw[if_neg hl,e]
theorem uB{g:G}(hl:l≠[])(e:(ji T g k l ht []).1=none):fZ T g (m+1) k ht l=fZ T g m (k+1) (ji T g k l ht []).2.1 (fG (eD (ji T g k l ht []).2.2)):=by
 conv=>lhs;unfold fZ
 rw[if_neg hl,e]
theorem uC(gl:In.pq h)(dm:Ab N)(X:Tx h F t d T)(hK:∀ h',Fr No h h'->K (.tuple #[.int .i64 (iU T (af N) n).1,.int .i64 (iU T (af N) n).2]) h'):C.fK t (af N).v n h K:=by
 refine fK.ok (aC.intro λh2 n2=>⟨(af N).v,rfl,aj n2.rd,Ino.jM (gl.no n2.fr) (X.no n2.fr) (Iz dm) λh3 f3=>⟨_,_,rfl,?_⟩⟩);have z2:=n2.size;have z3:=f3.size;have Rl:(ints (getM T (af N) n).1).length=15:=(ah _).trans (aF ..);refine ax.intro Rl (av _) rfl λh5 n5=>?_;have z5:=n5.size;have F5:Fr No h h5:=(n2.fr.no f3).new n5
 have cnt:(af N).count<=2048:=by
  have:=dm.hi;have e:(af N).count=8*(N/64):=rfl;omega
 refine cn (λhg=>?_) λhg=>⟨_,In.gw n5.rd (i:=0) (by rw[aF];decide),cn (λhk=>?_) λhk=>aC.intro λh6 n6=>?_⟩
 ·have e:iU T (af N) n=(0,(getM T (af N) n).2):=if_pos hg;rw[e]at hK;exact hK h5 F5
 ·have e:iU T (af N) n=(0,161):=by unfold iU;rw[if_neg (λy=>y hg),if_pos hk]
  rw[e]at hK;exact hK h5 F5
 have e0:fZ T (af N) 40 1 0 [n]=iU T (af N) n:=by unfold iU;rw[if_neg (λy=>y hg),if_neg (λy=>y hk)]
 have nr:=yd hg;have z6:=n6.size;have f26:Fr No h2 h6:=(f3.new n5).new n6;generalize hR:iU T (af N) n=R at hK e0
 refine⟨λla ll lc ht hN hx=>∃(k:Nat) (level:List Int),hN=k/\1<=k/\k<=34/\Fr No h2 hx/\Sl hx 1 la ll lc (ints level) (bZ h2.size)/\level.length<=2048/\fZ T (af N) (41-k) k ht level=R/\(level=[]∨k=1∨ht=(k:Int)-1)/\ht<=32,
  λ_ _ _ _ hN _=>(40-hN).toNat,⟨1,[n],rfl,Nat.le_refl _,by decide,f26,⟨rfl,rfl,by show h2.size<=h5.size;omega,n6.own,Nat.le_refl _,by rw[n6.rd];rfl,by rw[n6.rd];exact Nat.le_refl _⟩,by show 1<=2048;decide,e0,.inr (.inl rfl),by decide⟩,?_⟩
 rintro la ll lc ht hN h8 ⟨k,level,rfl,k1,k34,f8,S8,lv,eR,hc,ht32⟩;have z8:=f8.size
 have ell:level.length=ll:=by
  have:=S8.1;rw[ah,Nat.mul_one]at this;exact this
 have F8:Fr No h h8:=n2.fr.no f8;refine cd (λvu=>?_) λvu=>?_
 ·have fB:level≠[]:=λy=>by rw[y]at ell;have:(0:Nat)=ll:=ell;omega
  have k33:k<=33:=by
   rcases hc with y|y|y
   ·exact absurd y fB
   ·omega
   ·omega
  obtain⟨p,ep⟩:∃p,la=some p:=by
   cases la with
   | none=>have:=S8.2.1;omega
   | some p=>exact⟨p,rfl⟩
  subst ep;have plt:p.block<h8.size:=S8.lt;obtain⟨m,em⟩:∃m,41-k=m+1:=⟨40-k,by omega⟩;rw[em]at eR;generalize hq:ji T (af N) k level ht []=q
  have Cn:∀r,q.1=some r->R=r:=λr e=>by
   rw[<-eR];exact uA fB (by rw[hq];exact e)
  refine⟨λSa na nl nc i hx=>∃(j:Nat) (nx:List Int),i=j/\j<=level.length/\Fr No h8 hx/\Sl hx 1 na nl nc (ints nx) (bZ h8.size)/\ji T (af N) k (level.drop j) Sa nx=q/\nx.length<=264352*j/\(∀x∈nx,1<=x/\x<(af N).count)/\Sa<=32,
   λ_ _ _ _ i _=>((level.length:Int)-i).toNat,⟨0,[],rfl,Nat.zero_le _,Fr.refl _ _,Sl.nil _ _ _,hq,Nat.le_refl _,(λx hx=>by cases hx),ht32⟩,?_⟩
  rintro Sa na nl nc i h9 ⟨j,nx,rfl,hj,f9,S9,e9,l9,r9,h92⟩;have z9:=f9.size;have F9:Fr No h h9:=F8.no f9;have Z1:rd h9 h.size=(af N).v:=((f8.no f9).rd (by omega) λy=>y).trans n2.rd;refine cd (λdh=>?_) λvF=>?_
  ·have Gh:j<level.length:=(by omega);have C9:ai h9 p (ints level):=ag.fr f9 S8.cells λ_ _ y=>y;rw[List.drop_eq_getElem_cons Gh,Cm]at e9;refine⟨⟨by omega,by omega⟩,os ⟨level[j],BW C9 (by rw[Int.toNat_natCast];exact List.getElem?_eq_getElem Gh),(af N).v,rfl,aj Z1,Di.yV (gl.no F9) dm (X.no F9) λh10 a l c f10 hl Z=>⟨_,_,_,_,rfl,?_⟩⟩⟩;have Nj:=f10.size;have FO:Fr No h h10:=F9.no f10;refine cn (λhe=>?_) λhe=>?_
   ·rw[if_pos he]at e9;have e:=Cn _ (by rw[<-e9]);rw[e]at hK;exact hK h10 FO
   rw[if_neg (λy=>y he)]at e9;have kk:∀Q9,qM (k:Int) Sa (cX T (af N) level[j]).1=Q9->fK.k1 t h Sa na nl nc j h9 (λSa na nl nc i hx=>∃(j:Nat) (nx:List Int),i=j/\j<=level.length/\Fr No h8 hx/\Sl hx 1 na nl nc (ints nx) (bZ h8.size)/\ji T (af N) k (level.drop j) Sa nx=q/\nx.length<=264352*j/\(∀x∈nx,1<=x/\x<(af N).count)/\Sa<=32)
     (λ_ _ _ _ i _=>((level.length:Int)-i).toNat) h10 a l Q9 K:=λQ9 e3=>by
    rw[e3]at e9;refine N7 (R:=R) (nx:=nx) (es:=(cX T (af N) level[j]).1) (h8:=h8) gl dm X FO ((f10.rd (by omega) λy=>y).trans Z1) (by omega) (by omega) (by omega) ((Sl.fr f10 (uv S9) λ_ _ _ y=>y)) (.inr ⟨Z.cells,λp hp=>?_⟩) hl.symm (by have:=yf T (af N) level[j];omega) (by omega) rfl (by omega) (λhb=>?_) (λhb hk=>?_) (λhb hk hx XL R9 XM f S=>?_) hK
    ·subst hp;exact⟨Z.2.2.1,Z.lt⟩
    ·rw[if_pos hb]at e9;exact Cn _ (by rw[<-e9])
    ·rw[if_neg hb,if_pos hk]at e9;exact Cn _ (by rw[<-e9])
    ·rw[if_neg hb,if_neg (λy=>y hk)]at e9;have kl:=Cj (T:=T) (g:=af N) (cX T (af N) level[j]).1;have ll:=yf T (af N) level[j];refine⟨⟨j+1,nx++(dj T (af N) (cX T (af N) level[j]).1).1,by omega,by omega,(f9.no f10).trans f λb hb y=>by rcases y with y|y <;> omega,S,e9,by rw[List.length_append];omega,λx hx=>?_,by omega⟩,by show((level.length:Int)-((j:Int)+1)).toNat<((level.length:Int)-(j:Int)).toNat;omega⟩
     rcases List.mem_append.mp hx with y|y
     ·exact r9 x y
     ·exact ye _ x y
   refine cd (λhp=>kk _ (if_pos (by omega))) λhp=>kk _ (if_neg (by omega))
  ·have Gh:j=level.length:=(by omega);rw[Gh,List.drop_length]at e9;have e9:q=(none,Sa,nx):=e9.symm;have lnx:nx.length<=600000000:=by omega
   have enl:nx.length=nl:=by
    have:=S9.1;rw[ah,Nat.mul_one]at this;exact this
   have blk:∀b,(∃p,na=some p/\b=p.block)->h8.size<=b:=λb ⟨p,hp,e⟩=>by
    subst hp;rw[e];exact S9.2.2.1
   refine Ke S9 (by omega) λfO f19 S19=>⟨rfl,FX S19 (by omega) λgY m' em' f20 S20=>⟨_,_,_,rfl,?_⟩⟩;have f220:Fr No h2 gY:=((f8.no f9).trans f19 λb hb y=>by have:=blk b y;omega).trans f20 λb hb y=>by have:=blk b y;omega
   have lv':=En (m:=(af N).count) r9;have step:=uB (m:=m) fB (by rw[hq,e9]);rw[hq,e9]at step;rw[wrap_i64 (show -9223372036854775808<=(k:Int)+1 by omega) (by omega)];have lh:=Q8 (T:=T) (g:=af N) (h:=k) level ht [] (by rw[hq,e9]);rw[hq,e9]at lh;refine⟨⟨k+1,fG (eD nx),by omega,by omega,by omega,f220,S20.mono λb y=>by have y:h8.size<=b:=y;show h2.size<=b;omega,by omega,?_,?_,h92⟩,by show(40-((k:Int)+1)).toNat<(40-(k:Int)).toNat;omega⟩
   ·rw[show 41-(k+1)=m by omega,show((k+1:Nat):Int)=(k:Int)+1 by omega,<-step];exact eR
   ·rcases lh.1 with y|⟨_,y⟩
    ·have y:Sa=k:=y;exact .inr (.inr (by omega))
    ·have y:nx=[]:=y;rw[y];exact .inl (by rw[show eD []=[] from List.mergeSort_nil];rfl)
 ·have hl:level=[]:=List.length_eq_zero_iff.mp (by omega);rw[hl]at eR;obtain⟨m,em⟩:∃m,41-k=m+1:=⟨40-k,by omega⟩;rw[em]at eR;have e:(ht,(0:Int))=R:=eR;rw[<-e]at hK;exact hK h8 F8
end
end Wl
namespace Tr
open Hp Ad Tm Spc Re
open Ino (getM)
open Fi (fF)
open Di (findD cX)
open Sk (bf fI)
open Pa (aH bq comps oR HT BI sA fits xW)
open Wl (St Pl kI here qJ more mu qy jy eQ jg toM jh Ok yM xR Ay)
def qN(x:Nd):Prop:=x.kind=3->vN x.text=true
theorem N8(t:Th):vN (iD t)=true:=by
 unfold iD
 split
 ·assumption
 ·decide +kernel
theorem η(t:Th)(d:Nat)(x:Nd):qN (jz t d x):=by
 unfold jz
 split
 ·exact λy=>absurd (show(2:Int)=3 from y) (by decide)
 ·split
  ·exact λ_=>N8 t
  ·exact λy=>absurd (show(1:Int)=3 from y) (by decide)
theorem Vv{i:Nat}{t:Th}{s:Ts}(h:∀ k,qN (s.nd k)):∀k,qN ((stepT cnt i t s).nd k):=by
 have ad:∀{y:Nd} {nm:Tm.ay} {m:Nat},qN y->qN (fJ y nm m):=λh=>h;have lk:∀{y:Nd},qN y->qN (bO y):=λh=>h
 have up:∀{f:Nat->Nd} {d:Nat} {y:Nd},(∀k,qN (f k))->qN y->∀k,qN (bP f d y k):=fun {f d y} hf hy k=>by
  by_cases e:k=d
  ·subst e;rw[dY];exact hy
  ·rw[cK _ _ e];exact hf k
 unfold stepT
 split
 ·exact h
 ·split
  ·exact h
  ·split
   ·exact up (up h (lk (h _))) (ad (h _))
   ·split
    ·exact h
    ·refine up (up h (ad ?_)) (η _ _ _)
     split
     ·exact lk (h _)
     ·exact h _
theorem Ep{cnt:Nat}:∀(l:List Th) (i:Nat) (s:Ts),(∀k,qN (s.nd k))->∀k,qN ((gJ cnt i l s).nd k)
 | [],_,_,h=>h
 | t::r,i,s,h=>by
  show ∀k,qN ((if 40<=i then s else gJ cnt (i+1) r (stepT cnt i t s)).nd k)
  split
  ·exact h
  ·exact Ep r (i+1) _ (Vv h)
theorem Vw(n:Nat)(l:List Th):∀k,qN ((iq n l).nd k):=Ep l 0 _ λk=>by
 show qN (bP (λ_=>C6) 1 kE k)
 by_cases e:k=1
 ·subst e;rw[dY];exact λy=>absurd y (by decide)
 ·rw[cK _ _ e];exact λy=>absurd y (by decide)
theorem Co{s:Tm.ay}(h:vN s=true):oR s false (comps s):=by
 unfold vN at h;simp only[Bool.and_eq_true,decide_eq_true_eq,List.all_eq_true,bne_iff_ne]at h;obtain⟨⟨⟨⟨h1,h2⟩,h3⟩,h4⟩,h5⟩:=h;refine oR.mk' (HT (λe=>by rw[e]at h3;exact absurd h3 (by decide)) h1 λy=>by cases y) h4 rfl ?_;rw[fits,Bool.and_eq_true,decide_eq_true_eq,List.all_eq_true];exact⟨λp hp=>decide_eq_true (h2 p hp),h5⟩
def wL(c:Tm.ay):Prop:=c=[46,46]∨bf c=true
theorem sL{s:Tm.ay}{b:Bool}{cs:List Tm.ay}(t:oR s b cs):∀c∈cs,wL c:=λc hc=>by
 obtain⟨h1,h2⟩:=t.part hc;obtain⟨a,b',d⟩:=sA.mp h1
 by_cases e:c=[46,46]
 ·exact .inl e
 ·exact .inr (fI.mpr ⟨List.length_pos_iff.mpr a,h2,b',e,d⟩)
def oJ(f:Nat->Nd)(fl beh:Bool):Nat->St->Pl×Int
 | 0,_=>(kI,0)
 | m+1,s=>match s.left with
  | []=>(⟨s.chain,[],here s.chain⟩,0)
  | c::r=>if c=[46,46]then oJ f fl beh m ⟨qJ s.chain,r,s.dH⟩else
   if kf (f (here s.chain).toNat).names (f (here s.chain).toNat).aU c=0 then(kI,160)else
   if(f (kf (f (here s.chain).toNat).names (f (here s.chain).toNat).aU c).toNat).kind=2/\more beh r=true then oJ f fl beh m ⟨s.chain++[kf (f (here s.chain).toNat).names (f (here s.chain).toNat).aU c],r,s.dH⟩else
   if(f (kf (f (here s.chain).toNat).names (f (here s.chain).toNat).aU c).toNat).kind=3/\(more beh r=true∨fl=true)then
    (if s.dH=8 then(kI,162)else oJ f fl beh m ⟨if(f (kf (f (here s.chain).toNat).names (f (here s.chain).toNat).aU c).toNat).text.head?=some 47 then[1]else s.chain,comps (f (kf (f (here s.chain).toNat).names (f (here s.chain).toNat).aU c).toNat).text++r,s.dH+1⟩)else
   if more beh r=true then(kI,161)else(⟨s.chain,c,kf (f (here s.chain).toNat).names (f (here s.chain).toNat).aU c⟩,0)
def rN(f:Nat->Nd)(fl beh:Bool)(s:St):Pl×Int:=oJ f fl beh (mu s+1) s
def L6(s:Ts)(x:Int):Prop:=∃k:Nat,x=k/\1<=k/\k<s.n/\(s.nd k).kind=2
structure On(s:Ts)(st:St):Prop where
 ne:st.chain≠[]
 dH:st.dH<=8
 dir:∀x∈st.chain,L6 s x
 left:∀c∈st.left,wL c
section
variable{n : Nat}{s : Ts}{T : TM}{fl beh : Bool}
theorem Il(h:l≠[]):here l∈l:=by
 unfold here;rw[List.getLastD_eq_getLast?,List.getLast?_eq_some_getLast h];exact List.getLast_mem h
theorem On.Rb{st:St}(o:On s st):L6 s (here st.chain):=o.dir _ (Il o.ne)
theorem Io : ∀{l:List Tm.ay} {m:List Int} {c:Tm.ay},kf l m c≠0->kf l m c∈m
 | [],m,_,h=>by cases m <;> exact absurd rfl h
 | _::_,[],_,h=>absurd rfl h
 | x::r,v::m,c,h=>by
  have h:(if x=c then v else kf r m c)≠0:=h;show(if x=c then v else kf r m c)∈v::m
  by_cases e:x=c
  ·rw[if_pos e];exact List.mem_cons_self
  ·rw[if_neg e]at h ⊢;exact List.mem_cons_of_mem _ (Io h)
theorem Good.L7(g:Good n s){k:Nat}(hk:k<s.n){c:Tm.ay}(h:kf (s.nd k).names (s.nd k).aU c≠0):∃q:Nat,kf (s.nd k).names (s.nd k).aU c=q/\1<=q/\q<s.n:=by
 have:=g.nu hk _ (Io h);exact⟨(kf (s.nd k).names (s.nd k).aU c).toNat,by omega,by omega,by omega⟩
theorem XN{st:St}{r:List Tm.ay}(o:On s st)(hr:∀ c ∈ r,wL c):On s ⟨qJ st.chain,r,st.dH⟩:=by
 refine⟨?_,o.dH,λx hx=>?_,hr⟩
 ·show qJ st.chain≠[];unfold qJ
  split
  ·intro y;have:=congrArg List.length y;rw[List.length_dropLast,List.length_nil]at this;omega
  ·exact o.ne
 ·have hx:x∈qJ st.chain:=hx;unfold qJ at hx
  split at hx
  ·exact o.dir x (List.dropLast_subset _ hx)
  ·exact o.dir x hx
theorem yg(g:Good n s)(tx:∀ k,qN (s.nd k))(S:vO T (af n) s):∀(m:Nat) (st:St),On s st->qy T (af n) fl beh m st=oJ s.nd fl beh m st
 | 0,_,_=>rfl
 | m+1,st,o=>by
  unfold qy oJ
  cases hl:st.left with
  | nil=>rfl
  | cons c r=>
   have hc:=o.left c (by rw[hl];exact List.mem_cons_self);have hr:∀x∈r,wL x:=λx hx=>o.left x (by rw[hl];exact List.mem_cons_of_mem _ hx);dsimp only
   by_cases c1:c=[46,46]
   ·rw[if_pos c1,if_pos c1];exact yg g tx S m _ (XN o hr)
   ·rw[if_neg c1,if_neg c1];obtain⟨k,ek,k1,k2,k3⟩:=o.Rb;have nk:bf c=true:=hc.resolve_left c1;rw[ek,Int.toNat_natCast,S.find k k1 k2 k3 c nk]
    by_cases c2:kf (s.nd k).names (s.nd k).aU c=0
    ·rw[if_pos c2,if_pos c2];rfl
    ·rw[if_neg c2,if_neg (λy=>y rfl),if_neg c2];obtain⟨q,eq,q1,q2⟩:=g.L7 k2 c2;rw[eq,Int.toNat_natCast];have gq:=S.get q q1 q2;show(if(getM T (af n) (q:Int)).2≠0 then _ else _)=_;rw[if_neg (by rw[gq.1];exact λy=>y rfl)];have kd:=g.tr.kd q q1 q2;rw[gq.2]
     by_cases Sb:(s.nd q).kind=2
     ·by_cases mo:more beh r=true
      ·have em:eQ T (af n) fl beh ⟨st.chain,r,st.dH⟩ (s.nd q).kind (q:Int)=(false,0,⟨st.chain++[(q:Int)],r,st.dH⟩):=by
        unfold eQ;rw[if_pos Sb,if_neg (by rw[mo];decide)]
       rw[em];dsimp only;rw[if_neg (λy=>y rfl),if_neg (by decide),if_pos (show(s.nd q).kind=2/\more beh r=true from⟨Sb,mo⟩)];refine yg g tx S m _ ⟨by simp,o.dH,λx hx=>?_,hr⟩
       rcases List.mem_append.mp hx with hx|hx
       ·exact o.dir x hx
       ·rw[List.mem_singleton.mp hx];exact⟨q,rfl,q1,q2,Sb⟩
      ·have mo':more beh r=false:=by simpa using mo
       have em:eQ T (af n) fl beh ⟨st.chain,r,st.dH⟩ (s.nd q).kind (q:Int)=(true,0,⟨st.chain,r,st.dH⟩):=by
        unfold eQ;rw[if_pos Sb,if_pos mo']
       rw[em];dsimp only;rw[if_neg (λy=>y rfl),if_pos rfl,if_neg (show ¬((s.nd q).kind=2/\more beh r=true) from λy=>mo y.2),if_neg (show ¬((s.nd q).kind=3/\(more beh r=true∨fl=true)) from λy=>by have:=y.1;omega),if_neg mo]
     ·rw[if_neg (show ¬((s.nd q).kind=2/\more beh r=true) from λy=>Sb y.1)]
      by_cases Vx:(s.nd q).kind=3
      ·by_cases mo:more beh r=false/\fl=false
       ·have e2:¬(more beh r=true∨fl=true):=by rw[mo.1,mo.2];decide
        have em:eQ T (af n) fl beh ⟨st.chain,r,st.dH⟩ (s.nd q).kind (q:Int)=(true,0,⟨st.chain,r,st.dH⟩):=by
         unfold eQ jg;rw[if_neg Sb,if_pos Vx,if_pos mo]
        rw[em];dsimp only;rw[if_neg (λy=>y rfl),if_pos rfl,if_neg (show ¬((s.nd q).kind=3/\(more beh r=true∨fl=true)) from λy=>e2 y.2),if_neg (show ¬more beh r=true from λy=>e2 (.inl y))]
       ·have e2:more beh r=true∨fl=true:=by
         cases h1:more beh r with
         | true=>exact .inl rfl
         | false=>
          cases h2:fl with
          | true=>exact .inr rfl
          | false=>exact absurd ⟨h1,h2⟩ mo
        rw[if_pos (show(s.nd q).kind=3/\(more beh r=true∨fl=true) from⟨Vx,e2⟩)]
        by_cases f8:st.dH=8
        ·have em:eQ T (af n) fl beh ⟨st.chain,r,st.dH⟩ (s.nd q).kind (q:Int)=(false,162,⟨st.chain,r,st.dH⟩):=by
          unfold eQ jg;rw[if_neg Sb,if_pos Vx,if_neg mo,if_pos f8]
         rw[em];dsimp only;rw[if_pos (by decide),if_pos f8]
        ·have tt:=Co (tx q Vx)
         have em:eQ T (af n) fl beh ⟨st.chain,r,st.dH⟩ (s.nd q).kind (q:Int)=(false,0,⟨if(s.nd q).text.head?=some 47 then[1]else st.chain,comps (s.nd q).text++r,st.dH+1⟩):=by
          unfold eQ jg;rw[if_neg Sb,if_pos Vx,if_neg mo,if_neg f8,S.read q q1 q2 Vx,if_neg (λy=>y rfl),tt.eq,if_neg (λy=>y rfl)]
         rw[em];dsimp only;rw[if_neg (λy=>y rfl),if_neg (by decide),if_neg f8];have f9:=o.dH;refine yg g tx S m _ ⟨?_,by show st.dH+1<=8;omega,λx hx=>?_,λx hx=>?_⟩
         ·show(if(s.nd q).text.head?=some 47 then[1]else st.chain)≠[]
          split
          ·simp
          ·exact o.ne
         ·have hx:x∈(if(s.nd q).text.head?=some 47 then[1]else st.chain):=hx
          split at hx
          ·rw[List.mem_singleton.mp hx];exact⟨1,rfl,Nat.le_refl _,g.tr.n2,g.tr.root.1⟩
          ·exact o.dir x hx
         ·rcases List.mem_append.mp hx with hx|hx
          ·exact sL tt x hx
          ·exact hr x hx
      ·rw[if_neg (show ¬((s.nd q).kind=3/\(more beh r=true∨fl=true)) from λy=>Vx y.1)]
       by_cases mo:more beh r=true
       ·have em:eQ T (af n) fl beh ⟨st.chain,r,st.dH⟩ (s.nd q).kind (q:Int)=(false,161,⟨st.chain,r,st.dH⟩):=by
         unfold eQ;rw[if_neg Sb,if_neg Vx,if_pos mo]
        rw[em];dsimp only;rw[if_pos (by decide),if_pos mo]
       ·have em:eQ T (af n) fl beh ⟨st.chain,r,st.dH⟩ (s.nd q).kind (q:Int)=(true,0,⟨st.chain,r,st.dH⟩):=by
         unfold eQ;rw[if_neg Sb,if_neg Vx,if_neg mo]
        rw[em];dsimp only;rw[if_neg (λy=>y rfl),if_pos rfl,if_neg mo]
theorem Er(g:Good n s)(tx:∀ k,qN (s.nd k))(S:vO T (af n) s){st:St}(o:On s st):jy T (af n) fl beh st=rN s.nd fl beh st:=yg g tx S _ st o
theorem L8(g:Good n s){l:List Tm.ay}{k:Nat}(hk:k<=8)(h:∀ c ∈ l,wL c):On s ⟨[1],l,k⟩:=
 ⟨by simp,hk,λx hx=>by rw[List.mem_singleton.mp hx];exact⟨1,rfl,Nat.le_refl _,g.tr.n2,g.tr.root.1⟩,h⟩
def toT(f:Nat->Nd)(p:Tm.ay)(fl:Bool):Pl×Int:=if(aH p true).2≠0 then(kI,(aH p true).2)else rN f fl false ⟨[1],(aH p true).1,0⟩
theorem AE(g:Good n s)(tx:∀ k,qN (s.nd k))(S:vO T (af n) s)(p:Tm.ay):toM T (af n) p fl=toT s.nd p fl:=by
 unfold toM toT
 by_cases h:(aH p true).2≠0
 ·rw[if_pos h,if_pos h]
 ·rw[if_neg h,if_neg h];exact Er g tx S (L8 g (Nat.zero_le _) (sL (xW (Classical.byContradiction h))))
end
end Tr
namespace Tr
open Hp Ad Tm Spc Re
open Ino (getM)
open Di (cX)
open Sk (E)
open Wl (dj qM ji fZ iU fG nY nB wG xY)
def Kf(f:Nat->Nd)(hg:Nat->Nat):List Int->Nat->Nat
 | [],h=>h
 | m::r,h=>Kf f hg r (if(f m.toNat).kind=2 then max (max h 1) (1+hg m.toNat)else max h 1)
def nj(f:Nat->Nd):Nat->Nat->Nat
 | 0,_=>0
 | m+1,d=>Kf f (nj f m) (f d).aU 0
section
variable{f : Nat -> Nd}{hg : Nat -> Nat}
theorem Ga : ∀(l:List Int) (h:Nat),h<=Kf f hg l h
 | [],h=>Nat.le_refl _
 | m::r,h=>by
  refine Nat.le_trans ?_ (Ga r _)
  split <;> omega
theorem Rc : ∀{l:List Int} {h:Nat},l≠[]->1<=Kf f hg l h
 | [],_,y=>absurd rfl y
 | m::r,h,_=>by
  refine Nat.le_trans ?_ (Ga r _)
  split <;> omega
theorem Ip : ∀{l:List Int} {h:Nat} {x:Int},x∈l->(f x.toNat).kind=2->1+hg x.toNat<=Kf f hg l h
 | [],_,_,y,_=>by cases y
 | m::r,h,x,hx,k=>by
  rcases List.mem_cons.mp hx with rfl|hx
  ·refine Nat.le_trans ?_ (Ga r _);rw[if_pos k];omega
  ·exact Ip (l:=r) hx k
theorem Iq{B:Nat}:∀{l:List Int} {h:Nat},h<=B->(l≠[]->1<=B)->(∀x∈l,(f x.toNat).kind=2->1+hg x.toNat<=B)->Kf f hg l h<=B
 | [],_,a,_,_=>a
 | m::r,h,a,b,c=>by
  have b:=b (by simp);refine Iq (l:=r) ?_ (λ_=>b) λx hx=>c x (List.mem_cons_of_mem _ hx)
  split
  ·rename_i k;have:=c m List.mem_cons_self k;omega
  ·omega
def top(hg:Nat->Nat)(l:List Int):Nat:=l.foldr (λd v=>max (hg d.toNat) v) 0
theorem Gb : ∀{l:List Int} {d:Int},d∈l->hg d.toNat<=top hg l
 | [],_,h=>by cases h
 | x::r,d,h=>by
  show _<=max (hg x.toNat) (top hg r)
  rcases List.mem_cons.mp h with rfl|h
  ·omega
  ·have:=Gb h;omega
theorem vg{B:Nat}:∀{l:List Int},(∀d∈l,hg d.toNat<=B)->top hg l<=B
 | [],_=>Nat.zero_le _
 | x::r,h=>by
  show max (hg x.toNat) (top hg r)<=B;have:=h x List.mem_cons_self;have:=vg (l:=r) λd hd=>h d (List.mem_cons_of_mem _ hd);omega
end
theorem Es : ∀{l acc:List Int} {x:Int},(x∈acc∨x∈l)->x∈l.foldl nB acc
 | [],acc,x,h=>by
  rcases h with h|h
  ·exact h
  ·cases h
 | y::r,acc,x,h=>by
  refine Es (l:=r) (acc:=nB acc y) ?_
  rcases h with h|h
  ·left
   unfold nB
   split
   ·exact h
   ·exact List.mem_append_left _ h
  ·rcases List.mem_cons.mp h with rfl|h
   ·exact .inl (List.mem_of_getLast? (wG acc x))
   ·exact .inr h
theorem rO{x:Int}:x∈fG (eD l)↔x∈l:=by
 constructor
 ·intro h
  rcases xY h with y|y
  ·cases y
  ·exact(nY l).mem_iff.mp y
 ·intro h;exact Es (.inr ((nY l).mem_iff.mpr h))
section
variable{n : Nat}{s : Ts}{T : TM}
theorem Et(S:vO T (af n) s):∀{es:List E},(∀c∈es,∃q:Nat,c.fu=q/\1<=q/\q<s.n)->(dj T (af n) es).2=0/\∀x,x∈(dj T (af n) es).1↔∃c∈es,c.fu=x/\(s.nd x.toNat).kind=2
 | [],_=>⟨rfl,λx=>⟨λh=>(by cases h),λ⟨c,h,_⟩=>(by cases h)⟩⟩
 | c::r,h=>by
  have ih:=Et S (es:=r) λx hx=>h x (List.mem_cons_of_mem _ hx);obtain⟨q,e,q1,q2⟩:=h c List.mem_cons_self;have gq:=S.get q q1 q2;unfold dj;rw[e,if_neg (by rw[gq.1];exact λy=>y rfl),gq.2];refine⟨ih.1,λx=>?_⟩;show x∈(if(s.nd q).kind=2 then[(q:Int)]else[])++(dj T (af n) r).1↔_;rw[List.mem_append,ih.2 x]
  constructor
  ·rintro(y|⟨d,hd,y⟩)
   ·split at y
    ·rename_i k2;have:=List.mem_singleton.mp y;subst this;exact⟨c,List.mem_cons_self,e,by rw[Int.toNat_natCast];exact k2⟩
    ·cases y
   ·exact⟨d,List.mem_cons_of_mem _ hd,y⟩
  ·rintro⟨d,hd,y1,y2⟩
   rcases List.mem_cons.mp hd with rfl|hd
   ·left
    have:x=(q:Int):=y1.symm.trans e;subst this;rw[Int.toNat_natCast]at y2;rw[if_pos y2];exact List.mem_singleton.mpr rfl
   ·exact .inr ⟨d,hd,y1,y2⟩
def Rh(s:Ts)(h:Nat)(x:Int):Prop:=∃k:Nat,x=k/\1<=k/\k<s.n/\(s.nd k).kind=2/\(h:Int)<=(s.nd k).depth+1
theorem Ir(g:Good n s)(S:vO T (af n) s){h:Nat}:∀{l:List Int} {ht:Int} {nx:List Int},(∀d∈l,Rh s h d)->ht<=32->∃wR Cu,ji T (af n) (h:Int) l ht nx=(none,Cu,wR)/\Cu<=32/\
  (∀x,x∈wR↔x∈nx∨∃d∈l,x∈(s.nd d.toNat).aU/\(s.nd x.toNat).kind=2)/\((∃d∈l,(s.nd d.toNat).aU≠[])->Cu=h)/\((∀d∈l,(s.nd d.toNat).aU=[])->Cu=ht)
 | [],ht,nx,_,h2=>⟨nx,ht,rfl,h2,λx=>⟨λy=>.inl y,λy=>y.elim id λ⟨d,hd,_⟩=>(by cases hd)⟩,λ⟨d,hd,_⟩=>(by cases hd),λ_=>rfl⟩
 | d::r,ht,nx,hd,h2=>by
  obtain⟨k,e,k1,k2,k3,k4⟩:=hd d List.mem_cons_self;subst e;have L:=S.list k k1 k2 k3
  have hl:(cX T (af n) (k:Int)).1.length=(s.nd k).aU.length:=by
   have:=L.2.length_eq;rw[List.length_map]at this;exact this
  have mem:∀x,(∃c∈(cX T (af n) (k:Int)).1,c.fu=x)↔x∈(s.nd k).aU:=λx=>by
   rw[<-L.2.mem_iff,List.mem_map]
  have K:=Et S (es:=(cX T (af n) (k:Int)).1) λc hc=>by
   have:=(mem c.fu).mp ⟨c,hc,rfl⟩;have:=g.nu k2 _ this;exact⟨c.fu.toNat,by omega,by omega,by omega⟩
  have pj:(s.nd k).aU≠[]->h<=32:=λy=>by
   have:=g.tr.d31 k k2 λz=>y (by
    have:=(g.len k).1;rw[z]at this
    exact List.length_eq_zero_iff.mp this.symm)
   omega
  have eht:qM (h:Int) ht (cX T (af n) (k:Int)).1=if(s.nd k).aU=[]then ht else(h:Int):=by
   unfold qM;rw[hl]
   by_cases y:(s.nd k).aU=[]
   ·rw[y,if_neg (by simp),if_pos rfl]
   ·rw[if_pos (List.length_pos_iff.mpr y),if_neg y]
  have ε:qM (h:Int) ht (cX T (af n) (k:Int)).1<=32:=by
   rw[eht]
   split
   ·exact h2
   ·rename_i y;have:=pj y;omega
  obtain⟨wR,Cu,e1,e0,e2,e3,e4⟩:=Ir g S (l:=r) (ht:=qM (h:Int) ht (cX T (af n) (k:Int)).1) (nx:=nx++(dj T (af n) (cX T (af n) (k:Int)).1).1) (λx hx=>hd x (List.mem_cons_of_mem _ hx)) ε;refine⟨wR,Cu,?_,e0,λx=>?_,λ⟨d,yq,fB⟩=>?_,λGA=>?_⟩
  ·unfold ji;rw[if_neg (by rw[L.1];exact λy=>y rfl),if_neg (by omega),if_neg (by rw[K.1];exact λy=>y rfl)];exact e1
  ·rw[e2 x,List.mem_append,K.2 x]
   constructor
   ·rintro((y|⟨c,hc,y1,y2⟩)|⟨d,yq,y⟩)
    ·exact .inl y
    ·exact .inr ⟨_,List.mem_cons_self,by rw[Int.toNat_natCast];exact(mem x).mp ⟨c,hc,y1⟩,y2⟩
    ·exact .inr ⟨d,List.mem_cons_of_mem _ yq,y⟩
   ·rintro(y|⟨d,yq,y1,y2⟩)
    ·exact .inl (.inl y)
    ·rcases List.mem_cons.mp yq with rfl|yq
     ·rw[Int.toNat_natCast]at y1;obtain⟨c,hc,y⟩:=(mem x).mpr y1;exact .inl (.inr ⟨c,hc,y,y2⟩)
     ·exact .inr ⟨d,yq,y1,y2⟩
  ·by_cases h':∃d∈r,(s.nd d.toNat).aU≠[]
   ·exact e3 h'
   ·have all:∀d∈r,(s.nd d.toNat).aU=[]:=λd hd=>Classical.byContradiction λy=>h' ⟨d,hd,y⟩
    rcases List.mem_cons.mp yq with rfl|yq
    ·rw[Int.toNat_natCast]at fB;rw[e4 all,eht,if_neg fB]
    ·exact absurd (all d yq) fB
  ·have h0:=GA _ List.mem_cons_self;rw[Int.toNat_natCast]at h0;rw[e4 λd hd=>GA d (List.mem_cons_of_mem _ hd),eht,if_pos h0]
theorem Eu(g:Good n s)(S:vO T (af n) s):∀(m h:Nat) (ht:Int) (l:List Int),(∀d∈l,Rh s h d)->ht<=32->fZ T (af n) m (h:Int) ht l=(if top (nj s.nd m) l=0 then ht else((h+top (nj s.nd m) l-1:Nat):Int),0)
 | 0,h,ht,l,_,_=>by
  have:top (nj s.nd 0) l=0:=Nat.le_zero.mp (vg λd _=>Nat.le_refl 0);rw[if_pos this];rfl
 | m+1,h,ht,l,hl,h2=>by
  unfold fZ
  by_cases e:l=[]
  ·subst e;rw[if_pos rfl];show _=(if(0:Nat)=0 then ht else _,(0:Int));rw[if_pos rfl]
  ·rw[if_neg e];obtain⟨wR,Cu,e1,e0,e2,e3,e4⟩:=Ir g S (h:=h) (nx:=[]) hl h2;rw[e1];show fZ T (af n) m ((h:Int)+1) Cu (fG (eD wR))=_
   have e2:∀x,x∈wR↔∃d∈l,x∈(s.nd d.toNat).aU/\(s.nd x.toNat).kind=2:=λx=>by
    rw[e2 x];exact⟨λy=>y.elim (λy=>by cases y) id,.inr⟩
   have nxt:∀d∈fG (eD wR),Rh s (h+1) d:=λx hx=>by
    obtain⟨d,hd,y1,y2⟩:=(e2 x).mp (rO.mp hx);obtain⟨k,e,k1,k2,k3,k4⟩:=hl d hd;subst e;rw[Int.toNat_natCast]at y1;have nu:=g.nu k2 _ y1;obtain⟨q,rfl⟩:∃q:Nat,x=q:=⟨x.toNat,by omega⟩;rw[Int.toNat_natCast]at y2;have ow:=(g.tr.own k k1 k2 q y1).2 y2;obtain⟨u,u1,u2,u3,u4,u5,u6⟩:=g.tr.par q ow.2 (by omega) y2;have:u=k:=(by have:=ow.1;omega);subst this;exact⟨q,rfl,by omega,by omega,y2,by rw[u6];omega⟩
   have ih:=Eu g S m (h+1) Cu (fG (eD wR)) nxt e0;rw[show((h:Int)+1)=((h+1:Nat):Int) by omega,ih]
   by_cases hn:∃d∈l,(s.nd d.toNat).aU≠[]
   ·have eq:top (nj s.nd (m+1)) l=1+top (nj s.nd m) (fG (eD wR)):=by
     refine Nat.le_antisymm (vg λd hd=>?_) ?_
     ·refine Iq (Nat.zero_le _) (λ_=>by omega) λx hx k2=>?_;have:=Gb (hg:=nj s.nd m) (rO.mpr ((e2 x).mpr ⟨d,hd,hx,k2⟩));omega
     ·obtain⟨d,hd,fB⟩:=hn;have a:=Gb (hg:=nj s.nd (m+1)) hd;have b:1<=nj s.nd (m+1) d.toNat:=Rc fB
      have c:top (nj s.nd m) (fG (eD wR))<=top (nj s.nd (m+1)) l-1:=vg λx hx=>by
       obtain⟨d',yq,y1,y2⟩:=(e2 x).mp (rO.mp hx);have a':=Gb (hg:=nj s.nd (m+1)) yq;have b':1+nj s.nd m x.toNat<=nj s.nd (m+1) d'.toNat:=Ip y1 y2;omega
      omega
    rw[e3 hn,eq,if_neg (show ¬1+top (nj s.nd m) (fG (eD wR))=0 by omega)]
    by_cases z:top (nj s.nd m) (fG (eD wR))=0
    ·rw[if_pos z,z,show h+(1+0)-1=h by omega]
    ·rw[if_neg z,show h+1+top (nj s.nd m) (fG (eD wR))-1=h+(1+top (nj s.nd m) (fG (eD wR)))-1 by omega]
   ·have all:∀d∈l,(s.nd d.toNat).aU=[]:=λd hd=>Classical.byContradiction λy=>hn ⟨d,hd,y⟩
    have z1:top (nj s.nd (m+1)) l=0:=Nat.le_zero.mp (vg λd hd=>by
     show Kf s.nd (nj s.nd m) (s.nd d.toNat).aU 0<=0
     rw[all d hd];exact Nat.le_refl _)
    have z2:top (nj s.nd m) (fG (eD wR))=0:=Nat.le_zero.mp (vg λx hx=>by
     obtain⟨d,hd,y1,_⟩:=(e2 x).mp (rO.mp hx)
     rw[all d hd]at y1;cases y1)
    rw[if_pos z1,if_pos z2,e4 all]
theorem Kg(g:Good n s)(S:vO T (af n) s){k:Nat}(k1:1<=k)(k2:k<s.n)(k3:(s.nd k).kind=2):iU T (af n) k=(((nj s.nd 40 k:Nat):Int),0):=by
 have gk:=S.get k k1 k2
 have h0:0<=(s.nd k).depth:=by
  obtain⟨j,hj,o⟩:=g.ok;exact(o.Nw k).1
 unfold iU;rw[if_neg (by rw[gk.1];exact λy=>y rfl),gk.2,if_neg (λy=>y k3)];have:=Eu g S 40 1 0 [(k:Int)] (λd hd=>by rw[List.mem_singleton.mp hd];exact⟨k,rfl,k1,k2,k3,by omega⟩) (by decide);refine(show fZ T (af n) 40 1 0 [(k:Int)]=fZ T (af n) 40 ((1:Nat):Int) 0 [(k:Int)] from rfl).trans (this.trans ?_)
 have et:top (nj s.nd 40) [(k:Int)]=nj s.nd 40 k:=by
  show max (nj s.nd 40 (k:Int).toNat) 0=_;rw[Int.toNat_natCast];omega
 rw[et]
 by_cases z:nj s.nd 40 k=0
 ·rw[if_pos z,z];rfl
 ·rw[if_neg z,show 1+nj s.nd 40 k-1=nj s.nd 40 k by omega]
end
end Tr
namespace Rq
open Hp W Ad Tm Spc Re Av Ss
open Hd (ints)
open In (ah av)
open Ino (getM su aF)
open Fi (iaT)
open Rx (qR)
open Sk (E)
open Di (cX lV)
open Wl (dj qM ji fZ iU fG y6 Cm uA uB yd ye qD sK nY En yf)
def IC(f:List Bool):LV:=f.map .bool
theorem L9(f:List Bool):(IC f).length=f.length:=List.length_map ..
theorem Vy{i:Nat}(h:i<f.length):(IC f)[i]?=some (.bool f[i]):=by unfold IC;rw[List.getElem?_map,List.getElem?_eq_getElem h];rfl
theorem Ev(m:Nat):aW z4 m=IC (List.replicate m false):=by
 unfold IC;rw[List.map_replicate,ot];show(List.replicate m [Value.bool false]).flatten=List.replicate m (.bool false)
 induction m with
 | zero=>rfl
 | succ m ih=>rw[List.replicate_succ,List.replicate_succ,List.flatten_cons,ih];rfl
structure Lv(m:Nat)(l:List Int)(f:List Bool):Prop where
 len:f.length=m
 at_:∀i (h:i<f.length),f[i]=decide ((i:Int)∈l)
theorem Lv.zero(m:Nat):Lv m [] (List.replicate m false):=⟨List.length_replicate,λi h=>by rw[List.getElem_replicate];rfl⟩
theorem Lv.set{m:Nat}{l:List Int}{f:List Bool}(v:Lv m l f){x:Int}(h0:0<=x)(h1:x<m):Lv m (l++[x]) (f.set x.toNat true):=by
 refine⟨by rw[List.length_set];exact v.len,λi h=>?_⟩;rw[List.length_set]at h;rw[List.getElem_set]
 split
 ·rename_i e;symm;exact decide_eq_true (List.mem_append.mpr (.inr (List.mem_singleton.mpr (by omega))))
 ·rename_i e;rw[v.at_ i h];refine decide_eq_decide.mpr ⟨λy=>List.mem_append.mpr (.inl y),λy=>?_⟩
  rcases List.mem_append.mp y with y|y
  ·exact y
  ·have:=List.mem_singleton.mp y;omega
theorem Lv.congr{l':List Int}(v:Lv m l f)(h:∀ x,x ∈ l↔x ∈ l'):Lv m l' f:=⟨v.len,λi hi=>by rw[v.at_ i hi];exact decide_eq_decide.mpr (h _)⟩
def rest(l:List Int)(i:Int):List Int:=l.filter λx=>decide (i<=x)
theorem Cp(h:∀ x ∈ l,i<=x):rest l i=l:=List.filter_eq_self.mpr λx hx=>decide_eq_true (h x hx)
theorem Ri(h:∀ x ∈ l,x<i):rest l i=[]:=List.filter_eq_nil_iff.mpr λx hx y=>by have:=h x hx;have:=of_decide_eq_true y;omega
theorem N9(h:i ∉ l):rest l (i+1)=rest l i:=by
 refine List.filter_congr λx hx=>decide_eq_decide.mpr ⟨λy=>by omega,λy=>?_⟩
 rcases Int.lt_or_eq_of_le y with y|y
 ·omega
 ·subst y;exact absurd hx h
theorem Ew : ∀{l:List Int} {i:Int},l.Pairwise (· < ·)->i∈l->rest l i=i::rest l (i+1)
 | x::r,i,hp,hi=>by
  obtain⟨h1,h2⟩:=List.pairwise_cons.mp hp
  rcases List.mem_cons.mp hi with rfl|oK
  ·have e1:rest (i::r) i=i::r:=Cp λy hy=>by
    rcases List.mem_cons.mp hy with rfl|hy
    ·exact Int.le_refl _
    ·have:=h1 y hy;omega
   have e2:rest (i::r) (i+1)=r:=by
    unfold rest;rw[List.filter_cons_of_neg (by rw[decide_eq_true_eq];omega)];exact Cp λy hy=>by have:=h1 y hy;omega
   rw[e1,e2]
  ·have:=h1 i oK;have ih:=Ew h2 oK;unfold rest at ih ⊢;rw[List.filter_cons_of_neg (by rw[decide_eq_true_eq];omega),List.filter_cons_of_neg (by rw[decide_eq_true_eq];omega)];exact ih
section
variable{h hh : ab}{t e : OA}{N : Nat}{n : Int}{K : Value -> ab -> Prop}{F : Nat -> Prop}{T : TM}
theorem Kh{h8 cg:ab}{n5:Int}{kS kT:Bool}{i1:Int}{I2:Bool->Bool->Int->ab->Prop}{M2:Bool->Bool->Int->ab->Nat}{l:Nat}{es:List E}
  (x:qR h F t e T) (ok:su (af N)) (Cy:Fr No h cg) (h8s:h.size<h8.size) (h8l:h8.size<cg.size) (rg:rd cg h.size=(af N).v) (hn5:n5.toNat=(af N).count) (hl:es.length=l) (hm:l<=1000000)
  (Z:ag cg a (es.flatMap E.v)) (zw:∀p,a=some p->es≠[]->p.block≠h8.size) (rf:rd cg h8.size=IC f) (of:du cg h8.size) (lv:Lv (af N).count nx f)
  (he:(dj T (af N) es).2≠0->∀h',Fr (λb=>b=h8.size) cg h'->K (.tuple #[.int .i64 0,.int .i64 (dj T (af N) es).2]) h')
  (hK:(dj T (af N) es).2=0->∀h' f',Fr (λb=>b=h8.size) cg h'->rd h' h8.size=IC f'->du h' h8.size->Lv (af N).count (nx++(dj T (af N) es).1) f'->
   I2 (kS || decide (0<es.length)) (kT || !(dj T (af N) es).1.isEmpty) (IntKind.wrap .i64 (i1+1)) h'/\M2 (kS || decide (0<es.length)) (kT || !(dj T (af N) es).1.isEmpty) (IntKind.wrap .i64 (i1+1)) h'<M2 kS kT i1 h10) :
  cv.k1 t h h8 n5 kS kT i1 h10 I2 M2 cg a l K:=by
 have OL:=Cy.size;generalize hq:dj T (af N) es=q at he hK;unfold cv.k1
 refine⟨λnm bl j hx=>∃(p:Nat) (pre:List Int) (f':List Bool),j=p/\p<=es.length/\Fr (λb=>b=h8.size) cg hx/\q=(pre++(dj T (af N) (es.drop p)).1,(dj T (af N) (es.drop p)).2)/\rd hx h8.size=IC f'/\du hx h8.size/\Lv (af N).count (nx++pre) f'/\
   nm=(kS || decide (0<p))/\bl=(kT || !pre.isEmpty),λ_ _ j _=>((l:Int)-j).toNat,⟨0,[],f,rfl,Nat.zero_le _,Fr.refl _ _,by rw[<-hq];rfl,rf,of,by rw[List.append_nil];exact lv,by cases kS <;> rfl,by cases kT <;> rfl⟩,?_⟩
 rintro nm bl j bb ⟨p,pre,f',rfl,hp,f12,eq,wm,RY,v12,rfl,rfl⟩;have z12:=f12.size;have xy:Fr No h bb:=Cy.trans f12 λb hb y=>by have y:b=h8.size:=y;omega
 have Kd:rd bb h.size=(af N).v:=(f12.rd (by omega) λy=>by have y:h.size=h8.size:=y;omega).trans rg;refine cd (λdh=>?_) λvF=>?_
 rotate_left
 ·have:p=es.length:=by omega
  subst this;rw[List.drop_length]at eq;have eq:q=(pre,0):=eq.trans (by show(pre++[],(0:Int))=_;rw[List.append_nil]);subst eq;exact hK rfl bb f' f12 wm RY v12
 have kA:p<es.length:=by omega
 obtain⟨p2,ep,cp⟩:=lV Z kA
 have adI:ai bb (p2.add (p*3)) (E.v es[p]):=by
  have ne:es≠[]:=λy=>by rw[y]at kA;exact absurd kA (Nat.not_lt_zero _)
  obtain⟨p3,ep3,cp3⟩:=lV (ag.fr f12 Z λp' kA y=>zw p' kA ne y) kA;rw[ep]at ep3
  cases ep3
  exact cp3
 refine⟨⟨by omega,dh⟩,?_⟩;rw[ep,Int.toNat_natCast];rw[List.drop_eq_getElem_cons kA,y6]at eq;generalize es[p]=c at eq adI;refine os ⟨_,E.len _,adI,ax.intro (E.len _) (E.one _) rfl λgh n14=>⟨(af N).v,rfl,aj ((n14.at_ (by omega)).trans Kd),_,bW n14.rd rfl,Rx.jM (x.no (xy.new n14)) ok λfg f15=>⟨_,_,rfl,ax.intro (by rw[ah,aF]) (av _) rfl λeM n17=>?_⟩⟩⟩;have LI:=n14.size;have oO:=f15.size;have z17:=n17.size;have f17:Fr No bb eM:=(n14.fr.no f15).no n17.fr;have fb:Fr (λb=>b=h8.size) cg eM:=f12.no f17;have ZJ:rd eM h8.size=IC f':=(f17.rd (by omega) λy=>y).trans wm;have o17:du eM h8.size:=f17.own (by omega) (λy=>y) RY;refine cn (λh0=>?_) λh0=>?_
 ·rw[if_pos h0]at eq;have e2:q.2=(getM T (af N) c.fu).2:=by rw[eq]
  rw[e2]at he;exact he h0 eM fb
 rw[if_neg (λy=>y h0)]at eq;have Cx:=yd h0;rw[wrap_i64 (by omega) (by omega)];refine⟨_,bW n17.rd (iaT (by rw[aF];decide)),ce (λk2=>⟨c.fu,bW (((f15.no n17.fr).rd (by omega) λy=>y).trans n14.rd) rfl,⟨by omega,by rw[hn5];omega⟩,?_⟩) λk2=>?_⟩
 ·rw[if_pos k2]at eq;have lf:f'.length=(af N).count:=v12.len;refine bQ.add o17 (by rw[ZJ,L9,lf];omega) λh18 d18=>⟨⟨p+1,pre++[c.fu],f'.set c.fu.toNat true,by omega,by omega,fb.trans d18.fr λb _ y=>y,by rw[eq,List.append_assoc],?_,d18.own,by rw[<-List.append_assoc];exact v12.set (by omega) Cx.2,?_,?_⟩,j8 dh⟩
  ·rw[d18.rd,ZJ,Nat.zero_add];exact List.map_set.symm
  ·rw[decide_eq_true (show 0<p+1 by omega),Bool.or_true]
  ·rw[show(pre++[c.fu]).isEmpty=false by cases pre <;> rfl,Bool.not_false,Bool.or_true]
 ·rw[if_neg k2]at eq;refine⟨⟨p+1,pre,f',by omega,by omega,fb,eq,ZJ,o17,v12,?_,rfl⟩,j8 dh⟩;rw[decide_eq_true (show 0<p+1 by omega),Bool.or_true]
theorem Cq{g:G}(m:Nat)(k ht:Int):fZ T g (m+1) k ht (fG (eD []))=(ht,0):=by
 have e0:fG (eD [])=[]:=by
  cases hz:fG (eD [])with
  | nil=>rfl
  | cons a r=>have:=Tr.rO.mp (show a∈fG (eD []) by rw[hz];exact List.mem_cons_self ..);cases this
 rw[e0];rfl
theorem Gc(x:qR h F t e T)(ok:su (af N))(hK:∀ h',Fr No h h'->K (.tuple #[.int .i64 (iU T (af N) n).1,.int .i64 (iU T (af N) n).2]) h'):C.cv t (af N).v n h K:=by
 refine cv.ok (aC.intro λh2 n2=>⟨(af N).v,rfl,aj n2.rd,Rx.jM (x.no n2.fr) ok λh3 f3=>⟨_,_,rfl,ax.intro (by rw[ah,aF]) (av _) rfl λh5 n5=>?_⟩⟩);have z2:=n2.size;have z3:=f3.size;have z5:=n5.size;have F5:Fr No h h5:=(n2.fr.no f3).new n5;have cc:=ok.c;unfold Wl.iU at hK;refine cn (λhe=>?_) λhe=>?_
 ·rw[if_pos he]at hK;exact hK h5 F5
 rw[if_neg (λy=>y he)]at hK;have Cx:=yd he;refine⟨_,bW n5.rd (iaT (by rw[aF];decide)),cn (λhk=>?_) λhk=>?_⟩
 ·rw[if_pos hk]at hK;exact hK h5 F5
 rw[if_neg (λy=>y hk)]at hK;have P2:rd h5 h.size=(af N).v:=(n5.at_ (by omega)).trans ((f3.rd (by omega) λy=>y).trans n2.rd);generalize hR:fZ T (af N) 40 1 0 [n]=R at hK;obtain⟨cN,hc⟩:∃cN:Nat,(af N).count=cN:=⟨_,rfl⟩;rw[hc]at cc Cx;refine⟨(cN:Int),bW P2 (by rw[<-hc];rfl),⟨by omega,by omega,by omega,by omega⟩,?_⟩;rw[Int.toNat_natCast,Ev];refine aC.intro λh6 n6=>⟨⟨by omega,by omega⟩,bQ.add n6.own (by rw[n6.rd,L9,List.length_replicate];omega) λh7 d7=>?_⟩;have z6:=n6.size;have z7:=d7.size;have F7:Fr No h h7:=(F5.new n6).did d7 λy=>by omega
 have rg7:rd h7 h.size=(af N).v:=(d7.at_ (by omega) (by omega)).trans ((n6.at_ (by omega)).trans P2);have v7:Lv cN [n] ((List.replicate cN false).set n.toNat true):=(Lv.zero cN).set (by omega) Cx.2
 have r7:rd h7 h5.size=IC ((List.replicate cN false).set n.toNat true):=by
  rw[d7.rd,n6.rd,Nat.zero_add];exact List.map_set.symm
 refine⟨λla ll lc dp hx=>∃(lb k:Nat) (l:List Int) (f:List Bool),la=some ⟨lb,0,none⟩/\cN=ll/\dp=k/\1<=k/\k<=33/\Fr No h7 hx/\rd hx lb=IC f/\lb<hx.size/\h5.size<=lb/\Lv cN l f/\l.Pairwise (· < ·)/\l≠[]/\(∀x∈l,1<=x/\x<(cN:Int))/\fZ T (af N) (41-k) k ((k:Int)-1) l=R,
  λ_ _ _ dp _=>(34-dp).toNat,⟨h5.size,1,[n],_,rfl,rfl,rfl,Nat.le_refl _,by omega,Fr.refl _ _,r7,by omega,Nat.le_refl _,v7,List.pairwise_singleton _ _,by simp,λx hx=>by rw[List.mem_singleton.mp hx];exact⟨Cx.1,Cx.2⟩,hR⟩,?_⟩
 rintro la ll lc dp h8 ⟨lb,k,l,f,rfl,rfl,rfl,k1,k33,f8,rl8,lbl,lb5,vl,pl,ln,lr,eR⟩;have z8:=f8.size;have F8:Fr No h h8:=F7.no f8;have R3:rd h8 h.size=(af N).v:=(f8.rd (by omega) λy=>y).trans rg7;refine⟨(cN:Int),bW R3 (by rw[<-hc];rfl),⟨by omega,by omega,by omega,by omega⟩,?_⟩;rw[Int.toNat_natCast,Ev];refine aC.intro λh9 n9=>?_;have z9:=n9.size;obtain⟨m,em⟩:∃m,41-k=m+2:=⟨39-k,by omega⟩;rw[em]at eR;generalize hq:ji T (af N) k l ((k:Int)-1) []=q
 have Cn:∀r,q.1=some r->R=r:=λr e=>by
  rw[<-eR];exact uA ln (by rw[hq];exact e)
 refine⟨λnm bl i hx=>∃(j:Nat) (nx:List Int) (f':List Bool),i=j/\1<=j/\(j=1∨j<=cN)/\Fr (λb=>b=h8.size) h9 hx/\rd hx h8.size=IC f'/\du hx h8.size/\Lv cN nx f'/\(∀x∈nx,1<=x/\x<(cN:Int))/\bl=(!nx.isEmpty)/\(nm=false->nx=[])/\(nm=true->k<=32)/\
   ji T (af N) k (rest l j) (if nm=true then(k:Int)else(k:Int)-1) nx=q,λ_ _ i _=>((cN:Int)-i).toNat,
  ⟨1,[],List.replicate cN false,rfl,Nat.le_refl _,.inl rfl,Fr.refl _ _,n9.rd,n9.own,Lv.zero cN,(λx hx=>by cases hx),rfl,λ_=>rfl,(λy=>by cases y),by rw[show rest l ((1:Nat):Int)=l from Cp λx hx=>(lr x hx).1];exact hq⟩,?_⟩
 rintro nm bl i h10 ⟨j,nx,f',rfl,j1,j2,f10,CL,XB,v10,nr,rfl,nm0,nm1,DV⟩;have Nj:=f10.size;have FO:Fr No h h10:=(F8.new n9).trans f10 λb hb y=>by have y:b=h8.size:=y;omega
 have θ:rd h10 h.size=(af N).v:=(f10.rd (by omega) λy=>by have y:h.size=h8.size:=y;omega).trans ((n9.at_ (by omega)).trans R3);have rl10:rd h10 lb=IC f:=(f10.rd (by omega) λy=>by have y:lb=h8.size:=y;omega).trans ((n9.at_ (by omega)).trans rl8);refine⟨(cN:Int),bW θ (by rw[<-hc];rfl),cd (λdh=>?_) λvF=>?_⟩
 ·have hj:j<f.length:=by rw[vl.len];omega
  have cj:cellOf h10 (Addr.add ⟨lb,0,none⟩ j)=some (.bool f[j]):=bW rl10 (by rw[Nat.zero_add];exact Vy hj);refine⟨⟨by omega,dh⟩,os ⟨f[j],by rw[Int.toNat_natCast];exact cj,jj (cs (λhf=>?_) λhf=>?_)⟩⟩
  ·rw[vl.at_ j hj]at hf;have hf:=of_decide_eq_true hf;rw[Ew pl hf,Cm]at DV;refine⟨(af N).v,rfl,aj θ,yV (x.no FO) ok λcg a l' c f11 RW S11=>⟨_,_,_,_,rfl,?_⟩⟩;have OL:=f11.size;have Cy:Fr No h cg:=FO.no f11;refine cn (λhe=>?_) λhe=>?_
   ·rw[if_pos he]at DV;have e:=Cn _ (by rw[<-DV]);rw[e]at hK;exact hK cg Cy
   rw[if_neg (λy=>y he)]at DV;have ll:=yf T (af N) (j:Int);generalize(cX T (af N) (j:Int)).1=es at DV RW S11 ll;subst RW
   have kk:(0<es.length->k<=32)->∀I2 M2,(∀Oa ι hx (wR:List Int) (Rj:List Bool),Fr (λb=>b=h8.size) h9 hx->rd hx h8.size=IC Rj->du hx h8.size->Lv cN wR Rj->(∀x∈wR,1<=x/\x<(cN:Int))->ι=(!wR.isEmpty)->(Oa=false->wR=[])->(Oa=true->k<=32)->
      ji T (af N) k (rest l ((j:Int)+1)) (if Oa=true then(k:Int)else(k:Int)-1) wR=q->I2 Oa ι (IntKind.wrap .i64 ((j:Int)+1)) hx/\M2 Oa ι (IntKind.wrap .i64 ((j:Int)+1)) hx<M2 nm (!nx.isEmpty) (j:Int) h10)->
     cv.k1 t h h8 (cN:Int) nm (!nx.isEmpty) (j:Int) h10 I2 M2 cg a es.length K:=λadJ I2 M2 hI=>by
    have ehe:¬32<qM (k:Int) (if nm=true then(k:Int)else(k:Int)-1) es:=by
     unfold Wl.qM
     split
     ·rename_i y;have:=adJ y;omega
     ·cases wP:nm with
      | true=>have:=nm1 wP;rw[if_pos rfl];omega
      | false=>rw[if_neg (by decide)];omega
    rw[if_neg ehe]at DV;refine Kh (f:=f') (nx:=nx) x ok Cy (by omega) (by omega) ((f11.rd (by omega) λy=>y).trans θ) (by rw[Int.toNat_natCast,hc]) rfl (by omega) S11.cells (λp hp fB=>?_) ((f11.rd (by omega) λy=>y).trans CL) (f11.own (by omega) (λy=>y) XB) (by rw[hc];exact v10) (λhb h' Rj=>?_) λhb h' Rj fr' rd' ow' lv'=>?_
    ·subst hp;have:h10.size<=p.block:=S11.2.2.1;omega
    ·rw[if_pos hb]at DV;have e:=Cn _ (by rw[<-DV]);rw[e]at hK;exact hK h' (Cy.trans Rj λb hb y=>by have y:b=h8.size:=y;omega)
    ·rw[if_neg (λy=>y hb)]at DV;rw[hc]at lv';have kr:=ye (T:=T) (g:=af N) es;rw[hc]at kr;have kl:=Wl.Cj (T:=T) (g:=af N) es;refine hI _ _ h' (nx++(dj T (af N) es).1) Rj ((f10.no f11).trans fr' λb _ y=>y) rd' ow' lv' (λx hx=>?_) ?_ (λy=>?_) (λy=>?_) ?_
     ·rcases List.mem_append.mp hx with y|y
      ·exact nr x y
      ·exact kr x y
     ·cases nx <;> rfl
     ·rw[Bool.or_eq_false_iff]at y;have l0:es.length=0:=(by have:=of_decide_eq_false y.2;omega);rw[nm0 y.1,List.nil_append];exact List.length_eq_zero_iff.mp (by omega)
     ·rw[Bool.or_eq_true]at y
      rcases y with y|y
      ·exact nm1 y
      ·exact adJ (of_decide_eq_true y)
     ·rw[<-DV];congr 1;unfold Wl.qM
      by_cases y:0<es.length
      ·rw[if_pos y,decide_eq_true y,Bool.or_true];exact if_pos rfl
      ·rw[if_neg y,decide_eq_false y,Bool.or_false]
   have Eo:∀Oa ι hx (wR:List Int) (Rj:List Bool),Fr (λb=>b=h8.size) h9 hx->rd hx h8.size=IC Rj->du hx h8.size->Lv cN wR Rj->(∀x∈wR,1<=x/\x<(cN:Int))->ι=(!wR.isEmpty)->(Oa=false->wR=[])->(Oa=true->k<=32)->
      ji T (af N) k (rest l ((j:Int)+1)) (if Oa=true then(k:Int)else(k:Int)-1) wR=q->
     (∃(j':Nat) (nx:List Int) (f':List Bool),IntKind.wrap .i64 ((j:Int)+1)=j'/\1<=j'/\(j'=1∨j'<=cN)/\Fr (λb=>b=h8.size) h9 hx/\rd hx h8.size=IC f'/\du hx h8.size/\Lv cN nx f'/\(∀x∈nx,1<=x/\x<(cN:Int))/\ι=(!nx.isEmpty)/\(Oa=false->nx=[])/\(Oa=true->k<=32)/\
      ji T (af N) k (rest l j') (if Oa=true then(k:Int)else(k:Int)-1) nx=q)/\((cN:Int)-IntKind.wrap .i64 ((j:Int)+1)).toNat<((cN:Int)-(j:Int)).toNat:=λOa ι hx wR Rj a1 a2 a3 a4 a5 a6 a7 a8 a9=>by
    rw[wrap_i64 (by omega) (by omega)];exact⟨⟨j+1,wR,Rj,by omega,by omega,.inr (by omega),a1,a2,a3,a4,a5,a6,a7,a8,a9⟩,j8 dh⟩
   refine cd (λvu=>ce (λAq=>?_) λAq=>kk (λ_=>by omega) _ _ Eo) λvu=>kk (λy=>by omega) _ _ Eo;have e33:k=33:=by omega
   have eh:32<qM (k:Int) (if nm=true then(k:Int)else(k:Int)-1) es:=by
    unfold Wl.qM;rw[if_pos (by omega)];omega
   rw[if_pos eh]at DV;have e:=Cn _ (by rw[<-DV])
   have eh2:qM (k:Int) (if nm=true then(k:Int)else(k:Int)-1) es=33:=by
    unfold Wl.qM;rw[if_pos (by omega)];omega
   rw[e,eh2]at hK;exact hK cg Cy
  ·rw[vl.at_ j hj]at hf;have hf:=of_decide_eq_false hf;rw[wrap_i64 (by omega) (by omega)];refine⟨⟨j+1,nx,f',by omega,by omega,.inr (by omega),f10,CL,XB,v10,nr,rfl,nm0,nm1,?_⟩,j8 dh⟩;rw[show((j+1:Nat):Int)=(j:Int)+1 by omega,N9 hf];exact DV
 ·rw[Ri λx hx=>by have:=(lr x hx).2;omega]at DV;have DV:q=(none,(if nm=true then(k:Int)else(k:Int)-1),nx):=DV.symm;have en:=uB (T:=T) (g:=af N) (m:=m+1) ln (show(ji T (af N) k l ((k:Int)-1) []).1=none by rw[hq,DV]);rw[eR,hq,DV]at en;refine jj (cs (λwP=>jj (cs (λC1=>?_) λC1=>?_)) λwP=>?_)
  ·rw[if_pos wP]at en;have nne:nx≠[]:=λy=>by rw[y]at C1;cases C1
   have k32:=nm1 wP;have cm:∀x,x∈nx↔x∈fG (eD nx):=λx=>Tr.rO.symm;rw[wrap_i64 (by omega) (by omega)];refine⟨⟨h8.size,k+1,fG (eD nx),f',rfl,rfl,by omega,by omega,by omega,(f8.new n9).trans f10 λb hb y=>by have y:b=h8.size:=y;omega,CL,by omega,by omega,v10.congr cm,qD (eD nx) [] .nil (sK nx) (λa ha=>by cases ha),λy=>?_,λx hx=>nr x ((cm x).mpr hx),?_⟩,by show(34-((k:Int)+1)).toNat<(34-(k:Int)).toNat;omega⟩
   ·cases nx with
    | nil=>exact nne rfl
    | cons a r=>have:=(cm a).mp (List.mem_cons_self ..);rw[y]at this;cases this
   ·rw[en,show 41-(k+1)=m+1 by omega,show((k+1:Nat):Int)-1=(k:Int) by omega,show((k+1:Nat):Int)=(k:Int)+1 by omega]
  ·have n0:nx=[]:=by
    cases nx with
    | nil=>rfl
    | cons a r=>cases C1
   rw[if_pos wP,n0]at en;have en:R=((k:Int),0):=en.trans (Cq _ _ _);rw[en]at hK;exact hK h10 FO
  ·rw[if_neg (by rw[wP];decide),nm0 wP]at en;have en:R=((k:Int)-1,0):=en.trans (Cq _ _ _);rw[en]at hK;rw[wrap_i64 (by omega) (by omega)];exact hK h10 FO
end
end Rq
namespace Tr
open Hp Ad Tm Spc Re
open Ino (getM)
open Di (findD)
open Sk (bf fI)
open Pa (aH bq comps jV gy sW nU pieces dG ix oR BV BI sA xW)
open Wl (St Pl kI here qJ more mu toM jh)
section
variable{n : Nat}{s : Ts}{T : TM}{fl beh : Bool}
theorem AF(g:Good n s)(tx:∀ k,qN (s.nd k)):∀(m:Nat) (st:St),On s st->mu st<m->(oJ s.nd fl beh m st).2=0->(oJ s.nd fl beh m st).1.chain≠[]/\(∀x∈(oJ s.nd fl beh m st).1.chain,L6 s x)/\1<=(oJ s.nd fl beh m st).1.ino/\(oJ s.nd fl beh m st).1.ino<(s.n:Int)
 | 0,_,_,h,_=>absurd h (Nat.not_lt_zero _)
 | m+1,st,o,h,e=>by
  unfold oJ at e ⊢
  cases hl:st.left with
  | nil=>
   obtain⟨k,ek,k1,k2,_⟩:=o.Rb;rw[hl]at e;exact⟨o.ne,o.dir,by show 1<=here st.chain;omega,by show here st.chain<(s.n:Int);omega⟩
  | cons c r=>
   rw[hl]at e;have hc:=o.left c (by rw[hl];exact List.mem_cons_self);have hr:∀x∈r,wL x:=λx hx=>o.left x (by rw[hl];exact List.mem_cons_of_mem _ hx)
   have em:∀x:List Int,mu ⟨x,r,st.dH⟩+1=mu st:=λx=>by
    unfold mu;rw[hl,List.length_cons];show 33*(8-st.dH)+r.length+1=_;omega
   dsimp only at e ⊢
   by_cases c1:c=[46,46]
   ·rw[if_pos c1]at e ⊢;have:=em (qJ st.chain);exact AF g tx m _ (XN o hr) (by omega) e
   ·rw[if_neg c1]at e ⊢;obtain⟨k,ek,k1,k2,k3⟩:=o.Rb;rw[ek,Int.toNat_natCast]at e ⊢
    by_cases c2:kf (s.nd k).names (s.nd k).aU c=0
    ·rw[if_pos c2]at e;exact absurd (show(160:Int)=0 from e) (by decide)
    ·rw[if_neg c2]at e ⊢;obtain⟨q,eq,q1,q2⟩:=g.L7 k2 c2;rw[eq,Int.toNat_natCast]at e ⊢
     by_cases c3:(s.nd q).kind=2/\more beh r=true
     ·rw[if_pos c3]at e ⊢;have:=em (st.chain++[(q:Int)]);refine AF g tx m _ ⟨by simp,o.dH,λx hx=>?_,hr⟩ (by omega) e
      rcases List.mem_append.mp hx with hx|hx
      ·exact o.dir x hx
      ·rw[List.mem_singleton.mp hx];exact⟨q,rfl,q1,q2,c3.1⟩
     ·rw[if_neg c3]at e ⊢
      by_cases c4:(s.nd q).kind=3/\(more beh r=true∨fl=true)
      ·rw[if_pos c4]at e ⊢
       by_cases f8:st.dH=8
       ·rw[if_pos f8]at e;exact absurd (show(162:Int)=0 from e) (by decide)
       ·rw[if_neg f8]at e ⊢;have f9:=o.dH;have tt:=Co (tx q c4.1);have tl:=tt.is.2.2
        have tl:(comps (s.nd q).text).length<=32:=by
         have:=tx q c4.1;unfold vN at this;simp only[Bool.and_eq_true,decide_eq_true_eq]at this;exact this.2
        have hm:=em st.chain;refine AF g tx m _ ⟨?_,by show st.dH+1<=8;omega,λx hx=>?_,λx hx=>?_⟩ ?_ e
        ·show(if(s.nd q).text.head?=some 47 then[1]else st.chain)≠[]
         split
         ·simp
         ·exact o.ne
        ·have hx:x∈(if(s.nd q).text.head?=some 47 then[1]else st.chain):=hx
         split at hx
         ·rw[List.mem_singleton.mp hx];exact⟨1,rfl,Nat.le_refl _,g.tr.n2,g.tr.root.1⟩
         ·exact o.dir x hx
        ·rcases List.mem_append.mp hx with hx|hx
         ·exact sL tt x hx
         ·exact hr x hx
        ·have hm:33*(8-st.dH)+r.length+1=mu st:=hm;show 33*(8-(st.dH+1))+(comps (s.nd q).text++r).length<m;rw[List.length_append];omega
      ·rw[if_neg c4]at e ⊢
       by_cases mo:more beh r=true
       ·rw[if_pos mo]at e;exact absurd (show(161:Int)=0 from e) (by decide)
       ·rw[if_neg mo]at e ⊢;exact⟨o.ne,o.dir,by show 1<=(q:Int);omega,by show(q:Int)<(s.n:Int);omega⟩
theorem Rk(g:Good n s)(tx:∀ k,qN (s.nd k)){st:St}(o:On s st)(e:(rN s.nd fl beh st).2=0):(rN s.nd fl beh st).1.chain≠[]/\(∀x∈(rN s.nd fl beh st).1.chain,L6 s x)/\1<=(rN s.nd fl beh st).1.ino/\(rN s.nd fl beh st).1.ino<(s.n:Int):=
 AF g tx _ st o (Nat.lt_succ_self _) e
end
theorem Ki{p:Tm.ay}(h:(bq p).2.2=0):(∀c∈(bq p).1,wL c)/\((bq p).2.1=[]∨bf (bq p).2.1=true):=by
 have hw:gy p true=false:=by
  cases hw:gy p true with
  | false=>rfl
  | true=>unfold bq at h;rw[hw,if_pos rfl]at h;cases h
 have hd:¬nU (sW p)=true:=λy=>by
  unfold bq at h;rw[hw,if_neg (by decide),if_pos y]at h;cases h
 obtain⟨cs,hc⟩:∃cs,jV p=some cs:=by
  cases hc:jV p with
  | none=>unfold bq at h;rw[hw,if_neg (by decide),if_neg hd,hc]at h;cases h
  | some cs=>exact⟨cs,rfl⟩
 have t:oR p true cs:=⟨hw,hc⟩;have co:=sL t;rw[BV t,if_neg hd]
 by_cases e:cs=[]
 ·rw[if_pos e];exact⟨λc hc=>(by cases hc),.inl rfl⟩
 ·rw[if_neg e];refine⟨λc hc=>co c (List.dropLast_subset _ hc),.inr ?_⟩;show bf (cs.getLastD [])=true
  have hm:cs.getLastD []∈cs:=by
   rw[List.getLastD_eq_getLast?,List.getLast?_eq_some_getLast e];exact List.getLast_mem e
  refine(co _ hm).resolve_left λy=>?_;have ec:=t.is.2.1;have ec:cs=dG (pieces p):=ec;have pne:pieces p≠[]:=λz=>e (by rw[ec,z];rfl);have RE:=List.dropLast_concat_getLast pne
  have hl:sW p=(pieces p).getLast pne:=by
   unfold sW;rw[List.getLastD_eq_getLast?,List.getLast?_eq_some_getLast pne];rfl
  have W5:¬(pieces p).getLast pne=[46]:=λz=>hd (by rw[hl,z];rfl);rw[ec,<-RE,ix,if_neg W5]at y;have y:(pieces p).getLast pne=[46,46]:=by simpa using y
  exact hd (by rw[hl,y];rfl)
def Rm(f:Nat->Nd)(p:Tm.ay):Pl×Int:=if(bq p).2.2≠0 then(kI,(bq p).2.2)else if(bq p).2.1=[]then(⟨[1],[],1⟩,0)else
 if(rN f false true ⟨[1],(bq p).1,0⟩).2≠0 then(kI,(rN f false true ⟨[1],(bq p).1,0⟩).2)else
 (⟨(rN f false true ⟨[1],(bq p).1,0⟩).1.chain,(bq p).2.1,kf (f (here (rN f false true ⟨[1],(bq p).1,0⟩).1.chain).toNat).names (f (here (rN f false true ⟨[1],(bq p).1,0⟩).1.chain).toNat).aU (bq p).2.1⟩,0)
theorem Ex{n:Nat}{s:Ts}{T:TM}(g:Good n s)(tx:∀ k,qN (s.nd k))(S:vO T (af n) s)(p:Tm.ay):jh T (af n) p=Rm s.nd p:=by
 unfold jh Rm
 by_cases h:(bq p).2.2≠0
 ·rw[if_pos h,if_pos h]
 ·rw[if_neg h,if_neg h];have mp:=Ki (Classical.byContradiction h)
  by_cases e:(bq p).2.1=[]
  ·rw[if_pos e,if_pos e]
  ·rw[if_neg e,if_neg e];have o:=L8 g (s:=s) (l:=(bq p).1) (Nat.zero_le 8) mp.1;rw[Er g tx S o]
   by_cases w:(rN s.nd false true ⟨[1],(bq p).1,0⟩).2≠0
   ·rw[if_pos w,if_pos w]
   ·rw[if_neg w,if_neg w];obtain⟨a,b,_⟩:=Rk g tx o (Classical.byContradiction w);obtain⟨k,ek,k1,k2,k3⟩:=b _ (Il a);rw[ek,Int.toNat_natCast,S.find k k1 k2 k3 _ (mp.2.resolve_left e)];rw[if_neg];rintro⟨y1,y2⟩
    by_cases z:kf (s.nd k).names (s.nd k).aU (bq p).2.1=0
    ·exact y2 (if_pos z)
    ·exact y1 (if_neg z)
def OS : List Th:=[⟨0,2,0,[97],[]⟩,⟨1,2,0,[98],[]⟩,⟨2,1,0,[102],[]⟩,⟨0,3,0,[108],[97,47,98]⟩,⟨1,3,0,[117,112],[46,46]⟩]
theorem Rn{x:Pl×Int}{c:List Int}{nm:Tm.ay}{e:Int}(h:x.1.chain=c/\x.1.name=nm/\x.1.ino=i/\x.2=e):x=(⟨c,nm,i⟩,e):=by
 obtain⟨⟨a,b,d⟩,f⟩:=x;obtain⟨h1,h2,h3,h4⟩:=h;subst h1 h2 h3 h4;rfl
theorem Ro : toT (iq 128 OS).nd [47,108,47,102] false=(⟨[1,2,3],[102],4⟩,0):=Rn (by decide +kernel)
theorem Ma : Rm (iq 128 OS).nd [47,108,47,120]=(⟨[1,2,3],[120],0⟩,0):=Rn (by decide +kernel)
theorem Rp : toT (iq 128 OS).nd [47,97,47,117,112] true=(⟨[1],[],1⟩,0):=Rn (by decide +kernel)
theorem Ob : nj (iq 128 OS).nd 40 1=3:=by decide +kernel
end Tr
namespace Tr
open Hp W Ad Tm Bt Spc Re Ss
open Hd (ints)
open In (ah av)
open Bm (Z0 Bp)
open Wl (Pl xS ft toM jh xT pE uC iU)
theorem Gd{n:Nat}{ts:List Th}(h:128<=n/\n<1128):vO ⟨fresh (chunks (Cb n (iq n ts))),[],[],false⟩ (af n) (iq n ts):=by
 have g:=vf h ts;have D:=H4 g.fit g.tr.n2;exact g.adt D (Bp D.len)
section
variable{h : ab}{more : Int}{ta pa : OA}{tl tc pl pc : Nat}{ts : List Th}{K : Value -> ab -> Prop}
theorem Mb{n:Nat}(hn:128<=n/\n<1128)(ts:List Th):(Cb n (iq n ts)).length=512*n:=by
 have g:=vf hn ts;exact(H4 g.fit g.tr.n2).len
theorem Kj(gl:In.pq h)(hK:∀ h',Fr No h h'->K (.bool true) h'):C.eU h K:=by
 refine eU.ok ⟨rfl,rfl,rfl,rfl,rfl,aC.intro λh2 n2=>ax.intro rfl QI rfl λh4 n4=>?_⟩;have z2:=n2.size;have z4:=n4.size;have Z4:ag h4 (some ⟨h.size,0,none⟩) (OS.flatMap FR):=aj ((n4.at_ n2.own.lt).trans n2.rd);have b0:bp 0=128:=rfl;have D:=Mb (n:=128) ⟨Nat.le_refl _,by decide⟩ OS;have S:=Gd (n:=128) (ts:=OS) ⟨Nat.le_refl _,by decide⟩;have g:=vf (n:=128) ⟨Nat.le_refl _,by decide⟩ OS;have tx:=Vw 128 OS;have F4:Fr No h h4:=n2.fr.new n4;refine⟨_,rfl,aj n4.rd,Ce (more:=0) (ts:=OS) (ps:=[]) Z4 rfl (by decide) (λt ht=>?_) rfl rfl (Nat.zero_le _) λB h5 f5 hB o5 r5=>⟨_,_,_,_,rfl,ax.intro rfl (Spc.G.one _) rfl λh7 n7=>?_⟩⟩
 ·have:∀t∈OS,t.name.length<=1000/\t.text.length<=1000:=by decide
  have:=this t ht;omega
 have z5:=f5.size;have z7:=n7.size;have e0:∀L,wJ 128 [] L=L:=λ_=>rfl;rw[b0,e0]at r5;rw[b0];generalize hI:Cb 128 (iq 128 OS)=I0 at r5 D S;have r7:rd h7 B=I0.map bv:=(n7.at_ o5.lt).trans r5;refine qd (E4 r7 D) (Nat.le_refl _) (by omega) (by omega) (by omega) (by omega) λtb dd F h8 f8 x8 hF=>⟨_,_,rfl,jj (ct rfl ?_)⟩;have z8:=f8.size;have F8:Fr No h h8:=((F4.no f5).new n7).no f8;have gl8:=gl.no F8;generalize hT:(⟨fresh (chunks I0),[],[],false⟩:TM)=T at x8 S;have R3:rd h8 h5.size=(af 128).v:=(f8.rd (by omega) λy=>y).trans n7.rd;refine⟨_,rfl,aj R3,xT gl8 g.NU x8 (by decide) λh9 a9 c9 f9 s9=>⟨_,_,rfl,ax.intro rfl ft rfl λcg n11=>?_⟩⟩;rw[AE g tx S,Ro]at s9;have n11:=n11;rw[AE g tx S,Ro]at n11 ⊢;have z9:=f9.size;have OL:=n11.size;have f11:Fr No h8 cg:=f9.new n11;have κ:rd cg h5.size=(af 128).v:=(f11.rd (by omega) λy=>y).trans R3;refine⟨_,rfl,aj κ,pE (gl8.no f11) g.NU (x8.no f11) (by decide) λbb a12 c12 f12 Cw=>⟨_,_,rfl,ax.intro rfl ft rfl λgh n14=>?_⟩⟩;rw[Ex g tx S,Ma]at Cw;have n14:=n14;rw[Ex g tx S,Ma]at n14 ⊢;have z12:=f12.size;have LI:=n14.size;have f14:Fr No h8 gh:=(f11.no f12).new n14;have Vz:rd gh h5.size=(af 128).v:=(f14.rd (by omega) λy=>y).trans R3;refine⟨_,rfl,aj Vz,xT (gl8.no f14) g.NU (x8.no f14) (by decide) λfg a15 c15 f15 s15=>⟨_,_,rfl,ax.intro rfl ft rfl λeM n17=>?_⟩⟩;rw[AE g tx S,Rp]at s15;have n17:=n17;rw[AE g tx S,Rp]at n17 ⊢;have oO:=f15.size;have z17:=n17.size;have f17:Fr No h8 eM:=(f14.no f15).new n17;have ν:rd eM h5.size=(af 128).v:=(f17.rd (by omega) λy=>y).trans R3;refine⟨_,rfl,aj ν,uC (gl8.no f17) g.NU (x8.no f17) λh18 f18=>⟨_,_,rfl,?_⟩⟩
 have eh:iU T (af 128) 1=(3,0):=by
  have:=Kg g S (k:=1) (Nat.le_refl _) g.tr.n2 g.tr.root.1;rw[Ob]at this;exact this
 rw[eh];have Xt:=f18.size;have r9:rd h18 h9.size=xS a9 c9 ⟨[1,2,3],[102],4⟩:=(f18.rd (by omega) λy=>y).trans (((f12.new n14).no (f15.new n17)).rd (by omega) (λy=>y) |>.trans n11.rd);have wm:rd h18 bb.size=xS a12 c12 ⟨[1,2,3],[120],0⟩:=(f18.rd (by omega) λy=>y).trans ((f15.new n17).rd (by omega) (λy=>y) |>.trans n14.rd);have MC:rd h18 fg.size=xS a15 c15 ⟨[1],[],1⟩:=(f18.rd (by omega) λy=>y).trans n17.rd;refine rH ⟨_,rfl,cn (λy=>absurd rfl y) λ_=>rH ⟨_,rfl,cn (λy=>absurd rfl y) λ_=>rH ⟨_,rfl,cn (λy=>absurd rfl y) λ_=>rH ⟨_,rfl,cn (λy=>absurd rfl y) λ_=>cn (λy=>absurd rfl y) λ_=>?_⟩⟩⟩⟩;refine⟨_,bW r9 rfl,?_⟩;rw[toList_mkStr];refine jj (ct (by decide) ⟨_,bW r9 rfl,cn (λy=>absurd rfl y) λ_=>⟨_,bW wm rfl,?_⟩⟩);rw[toList_mkStr];refine jj (ct (by decide) ⟨_,bW wm rfl,cn (λy=>absurd rfl y) λ_=>⟨_,bW MC rfl,?_⟩⟩);rw[toList_mkStr];refine jj (ct (by decide) ⟨_,bW MC rfl,cn (λy=>absurd rfl y) λ_=>?_⟩);have f918:Fr No h9 h18:=(((n11.fr.no f12).new n14).no (f15.new n17)).no f18;have adL:Fr No bb h18:=(n14.fr.no (f15.new n17)).no f18;have adM:Fr No fg h18:=n17.fr.no f18;unfold eU.k1;refine⟨_,_,_,bW r9 rfl,aC.intro λpz n24=>rJ (xs:=[1,2,3]) (ys:=[1,2,3]) (ag.fr (f918.new n24) s9.cells λ_ _ y=>y) rfl (aj n24.rd) rfl (by decide) ⟨_,rfl,ct rfl ?_⟩⟩;have z24:=n24.size;refine⟨_,_,_,bW ((n24.at_ (by omega)).trans wm) rfl,aC.intro λjG n26=>rJ (xs:=[1,2,3]) (ys:=[1,2,3]) (ag.fr ((adL.new n24).new n26) Cw.cells λ_ _ y=>y) rfl (aj n26.rd) rfl (by decide) ⟨_,rfl,ct rfl ?_⟩⟩;have z26:=n26.size;refine⟨_,_,_,bW ((n26.at_ (by omega)).trans ((n24.at_ (by omega)).trans MC)) rfl,aC.intro λog n28=>rJ (xs:=[1]) (ys:=[1]) (ag.fr (((adM.new n24).new n26).new n28) s15.cells λ_ _ y=>y) rfl (aj n28.rd) rfl (by decide) ⟨_,rfl,?_⟩⟩;exact hK og (((((F8.no f17).no f18).new n24).new n26).new n28)
end
end Tr
namespace Wo
open Hp W Spc Rz
open Tm (TM Tx)
open Hd (ints)
open In (ah av)
open Ino (getM)
open Fi (fF)
open Pa (aH bq fY)
open Di (findD)
open Wl (Pl kI here qJ more mu qy jy eQ jg toM jh xT pE)
variable{h0 hh h' : ab}{az bT : Nat -> Nat}
theorem rG{T:TM}{g:G}{s:Wl.St}{kind:Int}:(eQ T g fl beh s kind n).2.2.chain.length<=s.chain.length+1:=by
 unfold eQ
 split
 ·split
  ·exact Nat.le_succ _
  ·show(s.chain++[n]).length<=_;rw[List.length_append];exact Nat.le_refl _
 ·split
  ·unfold jg
   split
   ·exact Nat.le_succ _
   ·split
    ·exact Nat.le_succ _
    ·split
     ·exact Nat.le_succ _
     ·split
      ·exact Nat.le_succ _
      ·show(if _ then[1]else s.chain).length<=_
       split
       ·show 1<=_;omega
       ·exact Nat.le_succ _
  ·split <;> exact Nat.le_succ _
theorem vh{T:TM}{g:G}{fl beh:Bool}:∀(m:Nat) (s:Wl.St),(qy T g fl beh m s).1.chain.length<=s.chain.length+m
 | 0,_=>Nat.zero_le _
 | m+1,s=>by
  unfold qy
  cases s.left with
  | nil=>exact Nat.le_add_right _ _
  | cons c r=>
   dsimp only
   split
   ·have:=vh (T:=T) (g:=g) (fl:=fl) (beh:=beh) m ⟨qJ s.chain,r,s.dH⟩
    have h:(qJ s.chain).length<=s.chain.length:=by
     unfold qJ
     split
     ·rw[List.length_dropLast];omega
     ·exact Nat.le_refl _
    have e:(⟨qJ s.chain,r,s.dH⟩:Wl.St).chain.length=(qJ s.chain).length:=rfl;omega
   ·split
    ·exact Nat.zero_le _
    ·split
     ·exact Nat.zero_le _
     ·split
      ·exact Nat.zero_le _
      ·split
       ·show s.chain.length<=_;omega
       ·have:=vh (T:=T) (g:=g) (fl:=fl) (beh:=beh) m (eQ T g fl beh ⟨s.chain,r,s.dH⟩ ((getM T g (findD T g (here s.chain) c).1).1.getD 0 0) (findD T g (here s.chain) c).1).2.2;have h:=rG (T:=T) (g:=g) (fl:=fl) (beh:=beh) (s:=⟨s.chain,r,s.dH⟩) (kind:=(getM T g (findD T g (here s.chain) c).1).1.getD 0 0) (n:=(findD T g (here s.chain) c).1);have e:(⟨s.chain,r,s.dH⟩:Wl.St).chain.length=s.chain.length:=rfl;omega
theorem Rr(T:TM)(g:G)(p:Tm.ay)(fl:Bool):(toM T g p fl).1.chain.length<=400:=by
 have hp:=(fY (s:=p) (b:=true)).1;unfold toM
 split
 ·exact Nat.zero_le _
 ·refine Nat.le_trans (vh _ _) ?_;show 1+(33*(8-0)+(aH p true).1.length+1)<=400;omega
theorem Kk(T:TM)(g:G)(p:Tm.ay):(jh T g p).1.chain.length<=400:=by
 have hp:=Wl.u7 p;unfold jh
 split
 ·exact Nat.zero_le _
 ·split
  ·show 1<=400;decide
  ·split
   ·exact Nat.zero_le _
   ·split
    ·exact Nat.zero_le _
    ·refine Nat.le_trans (vh _ _) ?_;show 1+(33*(8-0)+(bq p).1.length+1)<=400;omega
end Wo
namespace Rx
open Hp W Ad Tm Spc Re
theorem qR.ξ{D:NP}{q:OA}{S:RD}(x:Rf.zC h D q S)
  (hK:∀F h',Fr No h h'->qR h' F (some ⟨h.size,0,none⟩) q ⟨S,[],[],false⟩->(∀b,F b↔D b∨b=h.size)->K (.pointer (some ⟨h.size,0,none⟩)) h'):C.gm q h K:=
 wz x λF h' f x' e=>hK F h' f ⟨_,Vl S,x'⟩ e
end Rx
namespace Rq
open Hp W Spc Re Av Tr
open Tm (TM Tx yb)
open Hd (ints)
open In (ah av)
open Rx (qR)
open Wl (Pl kI here toM jh iU xS ft)
structure Ak where
 path:Tm.ay
 dH:Bool
 n:Int
def ID(a:Ak):LV:=[.string (mkStr a.path),.bool a.dH,.int .i64 a.n]
theorem VA(a:Ak):∀v∈ID a,v.oneCell'=true:=λv hv=>by
 simp only[ID,List.mem_cons,List.not_mem_nil,or_false]at hv
 rcases hv with rfl|rfl|rfl <;> rfl
theorem adN{ts:List Ak}(Z:ag h a (ts.flatMap ID)){j:Nat}(hj:j<ts.length):∃p,a=some p/\ai h (p.add (j*3)) (ID ts[j]):=by
 cases a with
 | none=>
  have Z:ts.flatMap ID=[]:=Z;have:=bw ID 3 ts (λ_ _=>rfl);rw[Z,List.length_nil]at this;omega
 | some p=>
  refine⟨p,rfl,?_⟩;have:=ai.part (show ai h p (ts.flatMap ID) from Z) (j*3) 3;rw[kq ID 3 _ (λ_ _=>rfl) j hj]at this;exact this
section
variable{h h3 bb : ab}{n : Nat}{tb : Nat}{dd t e : OA}{F F' : Nat -> Prop}{T : TM}{a : Ak}{K : Value -> ab -> Prop}{I1 : Int -> ab -> Prop}{M1 : Int -> ab -> Nat}{n3 : Int}
theorem Rs{og:ab}(dm:Ab n)(gl:In.pq bb)(X:Tx bb F (some ⟨tb,0,none⟩) dd T)(R:qR bb F' t e T)(f28:Fr No bb og)(rg:rd bb h3.size=(af n).v)(gb:h3.size<bb.size)(ra:rd og bb.size=ID a)
  (hN:∀h',Fr No bb h'->I1 (IntKind.wrap .i64 (n3+1)) h'/\M1 (IntKind.wrap .i64 (n3+1)) h'<M1 n3 bb):aQ.k3 h3 (some ⟨tb,0,none⟩) t n3 bb I1 M1 og K:=by
 have ok:=Fi.Iz dm;have z28:=f28.size;have al:bb.size<og.size:=vH (o:=0) (v:=.string (mkStr a.path)) (by rw[ra];rfl);have Vk:rd og h3.size=(af n).v:=(f28.rd gb λy=>y).trans rg;unfold aQ.k3;refine⟨_,rfl,aj Vk,_,bW ra rfl,Wl.uC (gl.no f28) dm (X.no f28) λAl f29=>⟨_,_,rfl,?_⟩⟩;refine⟨_,rfl,aj ((f29.rd (by omega) λy=>y).trans Vk),_,bW ((f29.rd al λy=>y).trans ra) rfl,Gc (R.no (f28.no f29)) ok λnz f30=>⟨_,_,rfl,cn (λy=>absurd rfl y) λ_=>cn (λy=>absurd rfl y) λ_=>hN nz ((f28.no f29).no f30)⟩⟩
theorem Rt{fg h18 jC:ab}(dm:Ab n)(gl:In.pq bb)(X:Tx bb F (some ⟨tb,0,none⟩) dd T)(R:qR bb F' t e T)(f22:Fr No bb jC)(rg:rd bb h3.size=(af n).v)(gb:h3.size<bb.size)(ra:rd jC bb.size=ID a)
  (b15:bb.size<fg.size) (b18:fg.size<h18.size) (ZC:du jC fg.size) (o18:du jC h18.size) (JG:(rd jC fg.size).length=3) (l18:(rd jC h18.size).length=3) (hp:a.path.length<=1099511627776)
  (hN:∀h',Fr No bb h'->I1 (IntKind.wrap .i64 (n3+1)) h'/\M1 (IntKind.wrap .i64 (n3+1)) h'<M1 n3 bb):aQ.k2 h3 (some ⟨tb,0,none⟩) t n3 bb I1 M1 fg h18 jC K:=by
 have ok:=Fi.Iz dm;have z22:=f22.size;have al:bb.size<jC.size:=vH (o:=0) (v:=.string (mkStr a.path)) (by rw[ra];rfl);have rg22:rd jC h3.size=(af n).v:=(f22.rd gb λy=>y).trans rg;have adO:=ZC.lt;have lt18:=o18.lt;unfold aQ.k2;refine⟨_,rfl,aj rg22,_,bW ra rfl,Wl.pE (gl.no f22) dm (X.no f22) (by omega) λlu a1 c1 f23 S1=>⟨_,_,rfl,?_⟩⟩;have z23:=f23.size;have l23:(rd lu fg.size).length=3:=by rw[f23.rd adO λy=>y];exact JG
 refine ar.intro (f23.own adO (λy=>y) ZC) rfl ft (by rw[l23];exact Nat.le_refl _) λpz d24=>?_;have z24:=d24.size;have r24:rd pz fg.size=xS a1 c1 (jh T (af n) a.path).1:=by rw[d24.rd,cM _ _ (by rw[l23];rfl)]
 have F24:Fr No bb pz:=(f22.no f23).did d24 λy=>by omega
 have rg24:rd pz h3.size=(af n).v:=(F24.rd gb λy=>y).trans rg;have adP:rd pz bb.size=ID a:=(d24.at_ (by omega) (by omega)).trans ((f23.rd (by omega) λy=>y).trans ra)
 have S24:ag pz a1 (ints (jh T (af n) a.path).1.chain):=ag.fr d24.fr S1.cells λp hp y=>by
  subst hp;have y:p.block=fg.size:=y;have:jC.size<=p.block:=S1.2.2.1;omega
 refine⟨_,rfl,aj rg24,_,bW adP rfl,wF (R.no F24) ok hp λjv a2 c2 f25 S2=>⟨_,_,rfl,?_⟩⟩;have z25:=f25.size;have l25:(rd jv h18.size).length=3:=by rw[f25.rd (by omega) λy=>y,d24.at_ (by omega) (by omega),f23.rd (by omega) λy=>y];exact l18
 refine ar.intro (f25.own (by omega) (λy=>y) (d24.ow (f23.own lt18 (λy=>y) o18))) rfl ft (by rw[l25];exact Nat.le_refl _) λjG d26=>?_;have z26:=d26.size;have OO:rd jG h18.size=xS a2 c2 (jh T (af n) a.path).1:=by rw[d26.rd,cM _ _ (by rw[l25];rfl)]
 have ο:rd jG fg.size=xS a1 c1 (jh T (af n) a.path).1:=(d26.at_ (by omega) (by omega)).trans ((f25.rd (by omega) λy=>y).trans r24);have F26:Fr No bb jG:=(F24.no f25).did d26 λy=>by omega
 have A26:ag jG a1 (ints (jh T (af n) a.path).1.chain):=ag.fr d26.fr (ag.fr f25 S24 λ_ _ y=>y) λp hp y=>by
  subst hp;have y:p.block=h18.size:=y;have:jC.size<=p.block:=S1.2.2.1;omega
 have B26:ag jG a2 (ints (jh T (af n) a.path).1.chain):=ag.fr d26.fr S2.cells λp hp y=>by
  subst hp;have y:p.block=h18.size:=y;have:pz.size<=p.block:=S2.2.2.1;omega
 have ra26:rd jG bb.size=ID a:=(d26.at_ (by omega) (by omega)).trans ((f25.rd (by omega) λy=>y).trans adP);have bl:(jh T (af n) a.path).1.chain.length<=140737488355328:=by have:=Wo.Kk T (af n) a.path;omega
 refine cn (λy=>absurd rfl y) λ_=>⟨_,bW ο rfl,_,bW OO rfl,jj (ct (beq_self_eq_true _) ⟨_,bW ο rfl,_,bW OO rfl,cn (λy=>absurd rfl y) λ_=>⟨_,_,_,bW ο rfl,_,_,_,bW OO rfl,rJ A26 rfl B26 rfl bl ⟨_,rfl,jj (ct (decide_eq_true rfl) ?_)⟩⟩⟩)⟩;exact Rs dm gl X R F26 rg gb ra26 hN
theorem Cr{more:Int}{ta pa la:OA}{tl tc pl pc ll lc:Nat}{ts:List Th}{ps:List (Int×UInt8)}{qs:List Ak}(gl:In.pq h)(Z:ag h ta (ts.flatMap FR))(hl:ts.length=tl)(htl:tl<=1000000000)(ht:∀ t ∈ ts,t.name.length<=1000000000/\t.text.length<=1000000000)
  (Y:ag h pa (ps.flatMap QW)) (hpl:ps.length=pl) (hpb:pl<=140737488355328) (A:ag h la (qs.flatMap ID)) (hal:qs.length=ll) (wv:ll<=lc) (hx:∀x∈qs,x.path.length<=1099511627776) (hK:∀h',Fr No h h'->K (.bool true) h') :
  C.aQ (C8 more ta tl tc pa pl pc) la ll lc h K:=by
 have bn:=uo more;refine aQ.ok (aC.intro λh2 n2=>⟨_,rfl,aj n2.rd,Ce (ag.fr n2.fr Z λ_ _ y=>y) hl htl ht (ag.fr n2.fr Y λ_ _ y=>y) hpl hpb λB h3 f3 hB o3 r3=>⟨_,_,_,_,rfl,ax.intro rfl (Spc.G.one _) rfl λh5 n5=>?_⟩⟩);have lI:=Mb ⟨bn.1,bn.2⟩ ts;have lP:=(sI (bp more) ps (Cb (bp more) (iq (bp more) ts))).trans lI;generalize wJ (bp more) ps (Cb (bp more) (iq (bp more) ts))=img at r3 lP;generalize bp more=n at *;have dm:Ab n:=⟨by omega,by omega⟩;have z2:=n2.size;have z3:=f3.size;have z5:=n5.size;have r5:rd h5 B=img.map bv:=(n5.at_ o3.lt).trans r3;refine qd (E4 r5 lP) (Nat.le_refl _) (by omega) (by omega) (by omega) (by omega) λtb dd F h6 f6 x6 hF=>⟨_,_,rfl,Rf.zC.of (E4 ((f6.rd (n5.ow o3).lt λy=>y).trans r5) lP) (by omega) (λy=>by exfalso;omega) λ_ _ _ q h7 E f7 hE R7=>⟨_,_,rfl,jj (ct rfl (rH ⟨_,rfl,cn (λy=>absurd rfl y) λ_=>?_⟩))⟩⟩;have z6:=f6.size;have z7:=f7.size;have F7:Fr No h h7:=(((n2.fr.no f3).no n5.fr).no f6).no f7;refine Kj (gl.no F7) λh9 f9=>⟨_,rfl,jj (ct rfl ?_)⟩;have z9:=f9.size;have π:(⟨Ad.fresh (Ad.chunks img),[],[],false⟩:TM).put=[]:=rfl;unfold aQ.k1;refine Rx.qR.ξ (R7.no f9) λF' cg f11 R11 e11=>⟨_,rfl,?_⟩;have X11:=((x6.no f7).no f9).no f11;generalize(⟨Ad.fresh (Ad.chunks img),[],[],false⟩:TM)=T at X11 R11 π;have OL:=f11.size;have f511:Fr No h5 cg:=((f6.no f7).no f9).no f11;have Cy:Fr No h cg:=(F7.no f9).no f11;have κ:rd cg h3.size=(af n).v:=(f511.rd (by omega) λy=>y).trans n5.rd;have em:(if(60:Int)<(ll:Int)then 60 else(ll:Int))=((min ll 60:Nat):Int):=by split <;> omega
 rw[em,Int.toNat_natCast];refine⟨⟨by omega,by omega⟩,λi1 hx=>∃i:Nat,i1=i/\i<=min ll 60/\Fr No cg hx,λi1 _=>(((min ll 60:Nat):Int)-i1).toNat,⟨0,rfl,Nat.zero_le _,Fr.refl _ _⟩,?_⟩;rintro i1 bb ⟨i,rfl,hi,f12⟩;have z12:=f12.size;have xy:Fr No h bb:=Cy.no f12;have X12:=X11.no f12;have R12:=R11.no f12;have adQ:=gl.no xy;have Kd:rd bb h3.size=(af n).v:=(f12.rd (by omega) λy=>y).trans κ;refine cd (λdh=>?_) λvF=>?_
 ·have oK:i<qs.length:=by omega
  obtain⟨p,ep,cp⟩:=adN (ag.fr xy A λ_ _ y=>y) oK;have ZD:=hx _ (List.getElem_mem oK);rw[ep,Int.toNat_natCast];generalize qs[i]=x at cp ZD;refine⟨⟨by omega,by omega⟩,os ⟨_,rfl,cp,ax.intro rfl (VA x) rfl λgh n14=>?_⟩⟩;have LI:=n14.size;have Vz:rd gh h3.size=(af n).v:=(n14.at_ (by omega)).trans Kd;refine⟨_,rfl,aj Vz,_,bW n14.rd rfl,_,bW n14.rd rfl,Wl.xT (adQ.no n14.fr) dm (X12.no n14.fr) (by omega) λfg a1 c1 f15 S1=>⟨_,_,rfl,ax.intro rfl ft rfl λeM n17=>?_⟩⟩;have oO:=f15.size;have z17:=n17.size;have f17:Fr No gh eM:=f15.new n17;have ν:rd eM h3.size=(af n).v:=(f17.rd (by omega) λy=>y).trans Vz;have σ:rd eM bb.size=ID x:=(f17.rd (by omega) λy=>y).trans n14.rd;refine⟨_,rfl,aj ν,_,bW σ rfl,_,bW σ rfl,Q7 (R12.no (n14.fr.no f17)) (Fi.Iz dm) ZD λh18 a2 c2 f18 S2=>⟨_,_,rfl,ax.intro rfl ft rfl λgY n20=>?_⟩⟩;have Xt:=f18.size;have z20:=n20.size;have f20:Fr No eM gY:=f18.new n20;have R2:rd gY fg.size=xS a1 c1 (toM T (af n) x.path x.dH).1:=(f20.rd (by omega) λy=>y).trans n17.rd;have F20:Fr No bb gY:=(n14.fr.no f17).no f20;have A20:ag gY a1 (ints (toM T (af n) x.path x.dH).1.chain):=ag.fr (n17.fr.no f20) S1.cells λ_ _ y=>y;have B20:ag gY a2 (ints (toM T (af n) x.path x.dH).1.chain):=ag.fr n20.fr S2.cells λ_ _ y=>y;have bl:(toM T (af n) x.path x.dH).1.chain.length<=140737488355328:=by have:=Wo.Rr T (af n) x.path x.dH;omega
  refine cn (λy=>absurd rfl y) λ_=>⟨_,bW R2 rfl,_,bW n20.rd rfl,jj (ct (beq_self_eq_true _) ⟨_,bW R2 rfl,_,bW n20.rd rfl,cn (λy=>absurd rfl y) λ_=>⟨_,_,_,bW R2 rfl,_,_,_,bW n20.rd rfl,rJ A20 rfl B20 rfl bl ⟨_,rfl,jj (ct (decide_eq_true rfl) ?_)⟩⟩⟩)⟩;refine Rt (a:=x) dm adQ X12 R12 F20 Kd (by omega) ((f20.rd (by omega) λy=>y).trans σ) (by omega) (by omega) (f20.own (by omega) (λy=>y) n17.own) n20.own (by rw[R2];rfl) (by rw[n20.rd];rfl) ZD λh' f'=>?_;rw[wrap_i64 (show -9223372036854775808<=(i:Int)+1 by omega) (by omega)];exact⟨⟨i+1,by omega,by omega,f12.no f'⟩,by omega⟩
 ·refine yb X12 (by rw[π];exact Nat.zero_le _) λa l c GX f40 el S40=>⟨_,_,_,rfl,?_⟩;rw[π]at el;subst el;exact hK GX (xy.no f40)
end
end Rq
end Go.Proofs.YtiapingedfnlnaaGreatDoor
