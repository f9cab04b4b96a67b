/- walkExact_card -/
import Derived.Test.YtiapingedfnlnaaGreatDoorCards
import Derived.Test.YtiapingedfnlnaaGreatDoorTie
import Derived.RecoverIn
import Derived.WalkKit
import Derived.WalkLawsBesides
import Derived.Test.YtiapingedfnlnaaGreatDoorGp4
namespace Go.Proofs.YtiapingedfnlnaaGreatDoor
open Go Go.Proofs Wx
variable{R xs ys zs:List Int}{a:OA}{c l m i cnt d o k j n:Nat}{b:Bool}{bs:LB}{h h':ab}{K:KT}{az bT:Nat->Nat}{F:NP}{p:Addr}
namespace Wl
open Hp W Ad Tm Spc Re Av Ss
open Hd (ints)
open In (ah av lU kindOk)
open Ino (getM su aF)
open Fi (fF Iz nh)
open Pa (aH bq fY Ls)
open Di (findD C5 HB)
theorem Qj(h:lU R=true):0<=R.getD 0 0/\R.getD 0 0<4:=by
 unfold lU at h;rw[Bool.and_eq_true]at h;have k:=h.2
 by_cases k0:R.getD 0 0=0
 ·omega
 ·by_cases k1:R.getD 0 0=1
  ·omega
  ·by_cases k2:R.getD 0 0=2
   ·omega
   ·by_cases k3:R.getD 0 0=3
    ·omega
    ·rw[In.kindOk,if_neg k0,if_neg k1,if_neg k2,if_neg k3]at k;cases k
theorem yQ(a:Addr)(n:Nat):(Addr.add a n).block=a.block:=by
 unfold Addr.add;split <;> rfl
def xS(a:OA)(c:Nat)(p:Pl):LV:=[.slice a p.chain.length c,.string (mkStr p.name),.int .i64 p.ino]
theorem ft{p:Pl}:∀v∈xS a c p,v.oneCell'=true:=λv hv=>by
 simp only[xS,List.mem_cons,List.not_mem_nil,or_false]at hv
 rcases hv with rfl|rfl|rfl <;> rfl
def muH(wb:Nat)(h:ab):Nat:=match (rd h wb)[7]?,(rd h wb)[8]? with
 | some (Value.slice _ l _),some (Value.int _ f)=>33*(8-f.toNat)+l
 | _,_=>0
section
variable{h0 hh h' : ab}{N wb : Nat}{t d : OA}{s : St}{fl beh : Bool}{z z' : ZA}{K : Value -> ab -> Prop}{n kind : Int}{F : Nat -> Prop}{T : TM}
theorem Ws.mu(w:Ws h0 hh wb t (af N) s fl beh z):muH wb hh=mu s:=by
 unfold muH;rw[w.r];show 33*(8-((s.dH:Nat):Int).toNat)+s.left.length=_;rw[Int.toNat_natCast];rfl
theorem qd{ps:List Tm.ay}(f0:Fr No h0 hh)(hl:l=ps.length)(hc:l<=c)(lf:ag hh a (Ch.strs ps))(zw:∀ p,a=some p->h0.size<=p.block/\p.block<hh.size)
  (hK:∀h' wb z,hh.size<=wb->hh.size<=z.cb->Fr No hh h'->Ws h0 h' wb t (af N) ⟨[1],ps,0⟩ false false z->K (.pointer (some ⟨wb,0,none⟩)) h'):C.kO t (af N).v a l c hh K:=by
 subst hl;refine kO.ok (aC.intro λh2 n2=>⟨(af N).v,rfl,aj n2.rd,rfl,aC.intro λh3 n3=>?_⟩);have z0:=f0.size;have z2:=n2.size;have z3:=n3.size;show C.fT (some ⟨h2.size,0,none⟩) h3 _;refine fT.ok (aC.intro λh4 n4=>os ?_);have z4:=n4.size;have r4:rd h4 h2.size=_:=(n4.at_ (by omega)).trans n3.rd;refine bQ.add (n4.ow n3.own) (by rw[r4];exact Nat.succ_pos _) λh5 d5=>⟨rfl,?_⟩;rw[r4]at d5;have z5:=d5.size;refine hK h5 h2.size ⟨h3.size,0,1,a,c⟩ (by omega) (by show hh.size<=h3.size;omega) (((n2.fr.new n3).new n4).did d5 λhl=>by omega) ⟨(((f0.new n2).new n3).new n4).did d5 λhl=>by omega,d5.own,by omega,d5.rd,⟨rfl,rfl,rfl,?_,Nat.le_refl _,?_,?_⟩,?_,hc,λp hp=>?_,by show h0.size<=h3.size;omega,by show h3.size≠h2.size;omega⟩
 ·exact d5.fr.own (by show h3.size<_;omega) (λy=>by have y:h3.size=h2.size:=y;omega) n4.own
 ·show((rd h5 h3.size).drop 0).take _=_;rw[d5.at_ (by omega) (by omega),n4.rd];rfl
 ·show 0+1*1<=(rd h5 h3.size).length;rw[d5.at_ (by omega) (by omega),n4.rd];exact Nat.le_refl _
 ·exact ag.fr d5.fr (ag.fr ((n2.fr.new n3).new n4) lf λ_ _ y=>y) λp hp y=>by
   have:=(zw p hp).2;have y:p.block=h2.size:=y;omega
 ·obtain⟨x1,x2⟩:=zw p hp;exact⟨x1,by omega,by omega,by show p.block≠h3.size;omega⟩
theorem rG(o:Ok s):(eQ T (af N) fl beh s kind n).2.2.chain≠[]/\(eQ T (af N) fl beh s kind n).2.2.chain.length<=s.chain.length+1:=by
 have same:s.chain≠[]/\s.chain.length<=s.chain.length+1:=⟨o.ne,Nat.le_succ _⟩;unfold eQ
 split
 ·split
  ·exact same
  ·exact⟨by simp,by simp⟩
 ·split
  ·unfold jg
   split
   ·exact same
   ·split
    ·exact same
    ·split
     ·exact same
     ·split
      ·exact same
      ·dsimp only
       split
       ·exact⟨by simp,by simp⟩
       ·exact same
  ·split
   ·exact same
   ·exact same
theorem Qk(h:(eQ T (af N) fl beh s kind n).1=true):(eQ T (af N) fl beh s kind n).2.2=s:=by
 unfold eQ at h ⊢
 split at h
 ·rename_i k;rw[if_pos k]
  split at h
  ·rename_i k;rw[if_pos k]
  ·cases h
 ·rename_i k;rw[if_neg k]
  split at h
  ·rename_i k;rw[if_pos k];unfold jg at h ⊢
   split at h
   ·rename_i k;rw[if_pos k]
   ·split at h
    ·cases h
    ·split at h
     ·cases h
     ·split at h <;> cases h
  ·rename_i k;rw[if_neg k]
   split at h
   ·cases h
   ·rename_i k;rw[if_neg k]
theorem HI(gl:In.pq h0)(dm:Ab N)(X:Tx h0 F t d T)(w:Ws h0 hh wb t (af N) s fl beh z)(o:Ok s)(iH:s.chain.length+mu s<=600)
  (hK:∀h' s' z' a c,qQ hh h' wb z z'->Ws h0 h' wb t (af N) s' fl beh z'->(s'.chain.length<=700/\s'.chain≠[])->((jy T (af N) fl beh s).2=0->s'.chain=(jy T (af N) fl beh s).1.chain)->
   Sl h' 1 a (jy T (af N) fl beh s).1.chain.length c (ints (jy T (af N) fl beh s).1.chain) (bZ hh.size)->K (.tuple #[.agg ⟨xS a c (jy T (af N) fl beh s).1⟩,.int .i64 (jy T (af N) fl beh s).2]) h') :
  C.eW (some ⟨wb,0,none⟩) hh K:=by
 refine eW.ok (aC.intro λh2 n2=>?_);have z2:=n2.size;have wlt:=w.lt;have ON:=w.ON;have w2:=w.no n2.fr;have lo:=w.lo;generalize hq:jy T (af N) fl beh s=q at hK
 -- what is told last
 have fin:∀hx s' z' a c e,qQ h2 hx wb z z'->Ws h0 hx wb t (af N) s' fl beh z'->(s'.chain.length<=700/\s'.chain≠[])->q.2=e->(e=0->s'.chain=q.1.chain)->Sl hx 1 a q.1.chain.length c (ints q.1.chain) (bZ h2.size)->
   ar ⟨hh.size,0,none⟩ (xS a c q.1) 3 hx λh8=>∃res:LV,List.length res=3/\ai h8 ⟨hh.size,0,none⟩ res/\K (.tuple #[.agg ⟨res⟩,.int .i64 e]) h8:=λhx s' z' a c e st w' hc he hs S=>by
  subst he;obtain⟨r0,o0,ne0,lt0⟩:=st.rd (b:=hh.size) (by omega) (by omega) (by omega);rw[n2.rd]at r0;refine ar.intro (o0 n2.own) rfl ft (by rw[r0];exact Nat.le_refl _) λh8 d8=>?_;rw[r0]at d8;have st0:qQ hh hx wb z z':=(qQ.no n2.fr).trans st;refine⟨_,rfl,aj (d8.rd.trans (cM _ _ rfl)),hK h8 s' z' a c ⟨st0.fr.trans d8.fr λb hb y=>by have y:b=hh.size:=y;omega,st0.cb,st0.la⟩ (w'.frm d8.fr (λy=>by have y:wb=hh.size:=y;omega) (λy=>ne0 (Eq.symm y)) (λp hp y=>?_) λb hb y=>by have y:b=hh.size:=y;omega) hc hs ((Sl.fr d8.fr S λb _ hb y=>?_).mono λb hb=>?_)⟩
  ·have y:p.block=hh.size:=y
   rcases st.la p hp with⟨p0,h0',e⟩|e
   ·have:=(w.zw p0 h0').2.1;omega
   ·omega
  ·have y:b=hh.size:=y;have hb:h2.size<=b:=hb;omega
  ·have hb:h2.size<=b:=hb;show hh.size<=b;omega
 have err:∀hx s' z' e,qQ h2 hx wb z z'->Ws h0 hx wb t (af N) s' fl beh z'->(s'.chain.length<=700/\s'.chain≠[])->q=(kI,e)->e≠0->
   ar ⟨hh.size,0,none⟩ [.slice none 0 0,.string (mkStr []),.int .i64 0] 3 hx λh8=>∃res:LV,List.length res=3/\ai h8 ⟨hh.size,0,none⟩ res/\K (.tuple #[.agg ⟨res⟩,.int .i64 e]) h8:=λhx s' z' e st w' hc he fB=>by
  have:=fin hx s' z' none 0 e st w' hc (by rw[he]) (λy=>absurd y fB) (by rw[he];exact Sl.nil _ _ _);rw[he]at this;exact this
 refine⟨λhx=>∃s1 z1,qQ h2 hx wb z z1/\Ws h0 hx wb t (af N) s1 fl beh z1/\Ok s1/\s1.chain.length+mu s1<=600/\jy T (af N) fl beh s1=q,muH wb,⟨s,z,qQ.no (Fr.refl _ _),w2,o,iH,hq⟩,?_⟩;rintro h3 ⟨s1,z1,st1,w1,o1,O3,e1⟩;have mu3:=w1.mu;refine os ⟨_,_,_,bW w1.r rfl,cd (λRF=>?_) λhle=>?_⟩
 ·have vu:0<s1.left.length:=by omega
  obtain⟨c,r,hl⟩:∃c r,s1.left=c::r:=by
   cases hx:s1.left with
   | nil=>rw[hx]at vu;exact absurd vu (Nat.lt_irrefl _)
   | cons c r=>exact⟨c,r,rfl⟩
  have es:=xR (T:=T) (g:=af N) (fl:=fl) (beh:=beh) o1 hl;rw[e1]at es
  have hmu:mu s1=mu ⟨s1.chain,r,s1.dH⟩+1:=by
   unfold mu;rw[hl,List.length_cons];rfl
  have hll:s1.left.length=r.length+1:=by rw[hl];rfl
  have lf1:=w1.lf;have iY:=w1.cap;refine os ⟨_,_,_,bW w1.r rfl,⟨Int.le_refl _,by omega⟩,?_⟩
  obtain⟨p,ep⟩:∃p,z1.la=some p:=by
   cases hx:z1.la with
   | none=>rw[hx,hl]at lf1;exact absurd lf1 (by simp[ag,Ch.strs])
   | some p=>exact⟨p,rfl⟩
  have lfp:ai h3 p (Ch.strs (c::r)):=by rw[ep,hl]at lf1;exact lf1
  rw[ep];refine os ⟨mkStr c,lfp 0 _ rfl,os ⟨_,_,_,bW w1.r rfl,⟨by decide,by omega⟩,os (bQ.add w1.own (by rw[w1.r];exact(by decide:0+7<11)) λh4 d4=>?_)⟩⟩;rw[w1.r,ep]at d4;have z4:=d4.size;obtain⟨Nr,Xy⟩:∃Nr,(if z1.lc=(1:Int).toNat then some p else Option.map (λx=>Addr.add x (1:Int).toNat) (some p))=Nr:=⟨_,rfl⟩
  have blk:∀p',Nr=some p'->p'.block=p.block:=λp' kA=>by
   rw[<-Xy]at kA
   split at kA
   ·exact congrArg Addr.block (Option.some.inj kA).symm
   ·have kA:=Option.some.inj kA;rw[<-kA,yQ]
  have Xz:ag h3 Nr (Ch.strs r):=by
   rw[<-Xy]
   split
   ·rename_i h1;have h1:z1.lc=1:=h1;have:r=[]:=List.length_eq_zero_iff.mp (by omega);subst this;exact ai.nil _ _
   ·exact ag.drop (a:=some p) lfp 1
  have far1:=w1.zw p ep
  have w4:Ws h0 h4 wb t (af N) ⟨s1.chain,r,s1.dH⟩ fl beh ⟨z1.cb,z1.co,z1.ic,Nr,z1.lc-1⟩:=w1.did d4 (by
   rw[<-Xy];show _=wV _ s1.chain.length z1.ic t (af N) _ r.length (z1.lc-1) s1.dH fl beh
   rw[show r.length=s1.left.length-1 by omega];rfl) w1.ch Xz (by show r.length<=z1.lc-1;omega) (λp' kA=>by
    have:=blk p' kA;rw[this]
    exact far1) w1.clo w1.JS
  have st4:qQ h2 h4 wb z ⟨z1.cb,z1.co,z1.ic,Nr,z1.lc-1⟩:=st1.trans ⟨d4.fr.mono λb _ y=>.inl y,.inl rfl,λp' kA=>.inl ⟨p,ep,blk p' kA⟩⟩;have hc4:s1.chain.length<=700/\s1.chain≠[]:=⟨by omega,o1.ne⟩;rw[toList_mkStr];refine cs (λeq=>os ?_) λeq=>?_
  ·have eq:c=[46,46]:=(by rw[toList_mkStr]at eq;exact eq_of_beq eq);rw[if_pos eq]at es;show C.jS (some ⟨wb,0,none⟩) h4 _;refine UH w4 (by show s1.chain.length<=1000;omega) λh5 z5 st5 w5=>⟨rfl,⟨_,z5,st4.trans st5,w5,Ok.up o1,?_,es.symm⟩,?_⟩
   ·show(qJ s1.chain).length+mu ⟨qJ s1.chain,r,s1.dH⟩<=600
    have:(qJ s1.chain).length<=s1.chain.length:=by
     unfold qJ;split
     ·rw[List.length_dropLast];omega
     ·exact Nat.le_refl _
    have:mu ⟨qJ s1.chain,r,s1.dH⟩=mu ⟨s1.chain,r,s1.dH⟩:=rfl;omega
   ·rw[w5.mu,mu3];show mu ⟨qJ s1.chain,r,s1.dH⟩<mu s1;have:mu ⟨qJ s1.chain,r,s1.dH⟩=mu ⟨s1.chain,r,s1.dH⟩:=rfl;omega
  ·have eq:c≠[46,46]:=(by rw[toList_mkStr]at eq;exact λy=>by rw[y]at eq;simp at eq);rw[if_neg eq]at es;refine os ⟨_,bW w4.r rfl,os ⟨(af N).v,rfl,lS w4.r rfl,os ?_⟩⟩;show C.eX (some ⟨wb,0,none⟩) h4 _;refine nV w4 o1.ne (by show s1.chain.length<=1000;omega) ⟨_,rfl,bW w4.r rfl,⟨rfl,lS w4.r rfl⟩,Di.jL (gl.no w4.fr) dm (X.no w4.fr) λh7 f7=>⟨_,_,rfl,cn (λhe=>?_) λhe=>?_⟩⟩
   ·have he:(findD T (af N) (here s1.chain) c).2≠0:=he;rw[if_pos he]at es;exact err h7 _ _ _ (st4.trans (qQ.no f7)) (w4.no f7) hc4 es he
   have he:(findD T (af N) (here s1.chain) c).2=0:=he;rw[if_neg (λy=>y he)]at es;have w7:=w4.no f7;have st7:=st4.trans (qQ.no f7);have sO:=es;generalize hi:(findD T (af N) (here s1.chain) c).1=i at sO
   -- behind the record
   have kk:∀bb xb,Fr No h7 bb->h7.size<=xb->rd bb xb=ints (getM T (af N) i).1->eW.k1 (some ⟨wb,0,none⟩) hh h3 (λhx=>∃s1 z1,qQ h2 hx wb z z1/\Ws h0 hx wb t (af N) s1 fl beh z1/\Ok s1/\s1.chain.length+mu s1<=600/\jy T (af N) fl beh s1=q) (muH wb) (mkStr c) i (getM T (af N) i).2 (some ⟨xb,0,none⟩) bb K:=λbb xb f12 hxb rx=>by
    have PH:=w7.no f12;have Ql:=st7.trans (qQ.no f12);refine cn (λhg=>?_) λhg=>?_
    ·rw[if_pos hg]at sO;exact err bb _ _ _ Ql PH hc4 sO hg
    rw[if_neg (λy=>y hg)]at sO;refine os ⟨_,In.gw rx (i:=0) (by rw[aF];decide),?_⟩;have kr:=Qj (nh hg);have os1:Ok ⟨s1.chain,r,s1.dH⟩:=⟨o1.ne,o1.dH⟩;refine Qi gl dm X PH os1 (by show s1.chain.length+mu ⟨s1.chain,r,s1.dH⟩<=700;omega) kr λgh LI UJ XA=>⟨_,_,rfl,?_⟩;have z14s:=UJ.fr.size;have z12s:=Ql.fr.size;have mch:=rG (N:=N) (T:=T) (fl:=fl) (beh:=beh) (kind:=(getM T (af N) i).1.getD 0 0) (n:=i) os1;have cl:(⟨s1.chain,r,s1.dH⟩:St).chain.length=s1.chain.length:=rfl;refine cn (λhm=>?_) λhm=>?_
    ·rw[if_pos hm]at sO;exact err gh _ LI _ (Ql.trans UJ) XA ⟨by omega,mch.1⟩ sO hm
    rw[if_neg (λy=>y hm)]at sO;refine cs (λhb=>?_) λhb=>?_
    ·rw[if_pos hb]at sO;rw[Qk hb]at XA;refine nP XA (by show s1.chain.length<=1000;omega) λiS a cc f16 S16=>⟨_,rfl,?_⟩;have:=fin iS _ LI a cc 0 ((Ql.trans UJ).trans (qQ.no f16)) (XA.no f16) hc4 (by rw[sO]) (λ_=>by rw[sO]) (by rw[sO];exact S16.mono λb hb=>by have hb:gh.size<=b:=hb;show h2.size<=b;omega);rw[sO]at this;exact this
    ·rw[if_neg (by rw[hb];simp)]at sO;obtain⟨ok',mu'⟩:=yM os1 hm hb;refine⟨⟨_,LI,Ql.trans UJ,XA,ok',by omega,sO.symm⟩,?_⟩;rw[XA.mu,mu3];omega
   have z7:=f7.size;have Rl:(ints (getM T (af N) i).1).length=15:=(ah _).trans (aF ..);refine os ⟨_,bW w7.r rfl,os ⟨(af N).v,rfl,lS w7.r rfl,?_,?_⟩⟩
   ·refine Ino.jM (gl.no w7.fr) (X.no w7.fr) (Iz dm) λh9 f9=>⟨_,_,rfl,aC.intro λh10 n10=>?_⟩;have UI:=(w7.no f9).no n10.fr;have z9:=f9.size;have Nj:=n10.size;refine⟨bW UI.r rfl,⟨rfl,lS UI.r rfl⟩,ar.intro n10.own Rl (av _) (by rw[n10.rd];exact Nat.le_refl _) λcg d11=>?_⟩;rw[n10.rd]at d11;exact kk cg h9.size ((f9.new n10).did d11 λhl=>by omega) (by omega) (d11.rd.trans (cM _ _ (by rw[Rl];rfl)))
   ·refine aC.intro λh18 n18=>?_;have w18:=w7.no n18.fr;have Xt:=n18.size;refine⟨bW w18.r rfl,⟨rfl,lS w18.r rfl⟩,Ino.jM (gl.no w18.fr) (X.no w18.fr) (Iz dm) λfO f19=>⟨_,_,rfl,?_⟩⟩;have Zd:rd fO h7.size=_:=(f19.rd (by omega) λy=>y).trans n18.rd;refine ar.intro (f19.own (by omega) (λy=>y) n18.own) Rl (av _) (by rw[Zd];exact Nat.le_refl _) λgY d20=>?_;rw[Zd]at d20;exact kk gY h7.size ((n18.fr.no f19).did d20 λhl=>by omega) (Nat.le_refl _) (d20.rd.trans (cM _ _ (by rw[Rl];rfl)))
 ·have hl:s1.left=[]:=List.length_eq_zero_iff.mp (by omega);have es:=Ay (T:=T) (g:=af N) (fl:=fl) (beh:=beh) hl;rw[e1]at es;refine os ?_;show C.eX (some ⟨wb,0,none⟩) h3 _;have st1s:=st1.fr.size;refine nV w1 o1.ne (by omega) ⟨_,rfl,nP (nm:=[]) w1 (by omega) λjC a c f22 S=>⟨_,rfl,?_⟩⟩;have:=fin jC _ z1 a c 0 (st1.trans (qQ.no f22)) (w1.no f22) ⟨by omega,o1.ne⟩ (by rw[es]) (λ_=>by rw[es]) (by rw[es];exact S.mono λb hb=>by have hb:h3.size<=b:=hb;show h2.size<=b;omega);rw[es]at this;exact this
end
end Wl
namespace Wl
open Hp W Ad Tm Spc Re Av Ss
open Hd (ints)
open In (ah av)
open Fi (Iz)
open Pa (aH bq fY Ls)
open Di (findD C5 HB)
section
variable{h hh : ab}{N : Nat}{t d : OA}{fl : Bool}{K : Value -> ab -> Prop}{F : Nat -> Prop}{T : TM}{s : Tm.ay}
theorem u7(s:Tm.ay):(bq s).1.length<=32:=by
 unfold bq
 split
 ·exact Nat.zero_le _
 ·split
  ·exact Nat.zero_le _
  ·split
   ·exact Nat.zero_le _
   ·rename_i hw _ _ cs hc
    have e:aH s true=(cs,0):=by
     unfold aH;rw[if_neg hw,hc]
    have:=(fY (s:=s) (b:=true)).1;rw[e]at this;have this:cs.length<=32:=this
    split
    ·exact Nat.zero_le _
    ·show cs.dropLast.length<=32;rw[List.length_dropLast];omega
theorem HJ(ps:List Tm.ay):Ok ⟨[1],ps,0⟩:=⟨by simp,Nat.zero_le _⟩
theorem xT(gl:In.pq h)(dm:Ab N)(X:Tx h F t d T)(hl:s.length<=9223372036854775806)
  (hK:∀h' a c,Fr No h h'->Sl h' 1 a (toM T (af N) s fl).1.chain.length c (ints (toM T (af N) s fl).1.chain) (bZ h.size)->K (.tuple #[.agg ⟨xS a c (toM T (af N) s fl).1⟩,.int .i64 (toM T (af N) s fl).2]) h') :
  C.pg t (af N).v (mkStr s) fl h K:=by
 refine pg.ok (aC.intro λh2 n2=>aC.intro λh3 n3=>Pa.JP hl λa l c h4 f4 Z=>⟨_,_,_,_,rfl,?_⟩);have z2:=n2.size;have z3:=n3.size;have z4:=f4.size;have F4:Fr No h h4:=((n2.fr.new n3).no f4);have r4:rd h4 h2.size=[.slice none 0 0,.string (mkStr []),.int .i64 0]:=(f4.rd (by omega) λy=>y).trans n3.rd;have o4:du h4 h2.size:=f4.own (by omega) (λy=>y) n3.own;have fits:=(fY (s:=s) (b:=true)).1;refine cn (λhe=>?_) λhe=>?_
 ·refine ar.intro o4 rfl (λv hv=>by simp only[List.mem_cons,List.not_mem_nil,or_false]at hv;rcases hv with rfl|rfl|rfl <;> rfl) (by rw[r4];exact Nat.le_refl _) λh5 d5=>?_;rw[r4]at d5;have e:toM T (af N) s fl=(kI,(aH s true).2):=if_pos he;rw[e]at hK;exact⟨_,rfl,aj (d5.rd.trans (cM _ _ rfl)),hK h5 none 0 (F4.did d5 λhl=>by omega) (Sl.nil _ _ _)⟩
 ·have e:toM T (af N) s fl=jy T (af N) fl false ⟨[1],(aH s true).1,0⟩:=if_neg λy=>y he;rw[e]at hK;have g4:rd h4 h.size=(af N).v:=(f4.rd (by omega) λy=>y).trans ((n3.at_ (by omega)).trans n2.rd);refine⟨(af N).v,rfl,aj g4,qd (h0:=h3) f4 Z.1 (Sl.le Z.2) Z.2.cells (λp hp=>?_) λh6 wb z lo cl f6 w6=>⟨_,rfl,os ?_⟩⟩
  ·have Z2:=Z.2;rw[hp]at Z2;exact⟨Z2.2.2.1,Z2.lt⟩
  have F3:Fr No h h3:=n2.fr.new n3;refine bQ.add w6.own (by rw[w6.r];exact(by decide:0+9<11)) λh7 d7=>?_;rw[w6.r]at d7;have z6:=f6.size;have z7:=d7.size;have w7:Ws h3 h7 wb t (af N) ⟨[1],(aH s true).1,0⟩ fl false z:=w6.did d7 rfl w6.ch w6.lf w6.cap w6.zw w6.clo w6.JS;have r7:rd h7 h2.size=[.slice none 0 0,.string (mkStr []),.int .i64 0]:=(d7.at_ (by omega) (by omega)).trans ((f6.rd (by omega) λy=>y).trans r4);have o7:du h7 h2.size:=d7.fr.own (by omega) (λy=>by have y:h2.size=wb:=y;omega) (f6.own (by omega) (λy=>y) o4);refine HI (gl.no F3) dm (X.no F3) w7 (HJ _) (by show 1+(33*(8-0)+(aH s true).1.length)<=600;omega) λh8 s' z' a8 c8 st8 w8 _ _ S8=>⟨_,_,rfl,?_⟩;obtain⟨r8,o8,ne8,lt8⟩:=st8.rd (b:=h2.size) (by omega) (by omega) (by omega);rw[r7]at r8;refine ar.intro (o8 o7) rfl ft (by rw[r8];exact Nat.le_refl _) λh9 d9=>?_;rw[r8]at d9;have z8:=st8.fr.size;refine⟨_,rfl,aj (d9.rd.trans (cM _ _ rfl)),hK h9 a8 c8 ((F3.trans w8.fr λ_ _ y=>y.elim).did d9 λhl=>by omega) ((Sl.fr d9.fr S8 λb _ hb y=>?_).mono λb hb=>?_)⟩
  ·have hb:h7.size<=b:=hb;have y:b=h2.size:=y;omega
  ·have hb:h7.size<=b:=hb;show h.size<=b;omega
theorem pE(gl:In.pq h)(dm:Ab N)(X:Tx h F t d T)(hl:s.length<=9223372036854775806)
  (hK:∀h' a c,Fr No h h'->Sl h' 1 a (jh T (af N) s).1.chain.length c (ints (jh T (af N) s).1.chain) (bZ h.size)->K (.tuple #[.agg ⟨xS a c (jh T (af N) s).1⟩,.int .i64 (jh T (af N) s).2]) h') :
  C.mC t (af N).v (mkStr s) h K:=by
 refine mC.ok (aC.intro λh2 n2=>aC.intro λh3 n3=>Pa.pE hl λa l c h4 f4 Z=>⟨_,_,_,_,_,rfl,?_⟩);have z2:=n2.size;have z3:=n3.size;have z4:=f4.size;have F4:Fr No h h4:=((n2.fr.new n3).no f4);have r4:rd h4 h2.size=[.slice none 0 0,.string (mkStr []),.int .i64 0]:=(f4.rd (by omega) λy=>y).trans n3.rd;have o4:du h4 h2.size:=f4.own (by omega) (λy=>y) n3.own;have fits:=u7 s;have F3:Fr No h h3:=n2.fr.new n3
 -- the answer is laid down
 have fin:∀hx a c (p:Pl) (e:Int),Fr No h hx->rd hx h2.size=[.slice none 0 0,.string (mkStr []),.int .i64 0]->du hx h2.size->jh T (af N) s=(p,e)->Sl hx 1 a p.chain.length c (ints p.chain) (bZ h3.size)->
   ar ⟨h2.size,0,none⟩ (xS a c p) 3 hx λh8=>∃res:LV,List.length res=3/\ai h8 ⟨h2.size,0,none⟩ res/\K (.tuple #[.agg ⟨res⟩,.int .i64 e]) h8:=λhx a c p e fx rx ox eq S=>by
  rw[eq]at hK;refine ar.intro ox rfl ft (by rw[rx];exact Nat.le_refl _) λh8 d8=>?_;rw[rx]at d8;refine⟨_,rfl,aj (d8.rd.trans (cM _ _ rfl)),hK h8 a c (fx.did d8 λhl=>by omega) ((Sl.fr d8.fr S λb _ hb y=>?_).mono λb hb=>?_)⟩
  ·have hb:h3.size<=b:=hb;have y:b=h2.size:=y;omega
  ·have hb:h3.size<=b:=hb;show h.size<=b;omega
 have err:∀hx (e:Int),Fr No h hx->rd hx h2.size=[.slice none 0 0,.string (mkStr []),.int .i64 0]->du hx h2.size->jh T (af N) s=(kI,e)->
   ar ⟨h2.size,0,none⟩ [.slice none 0 0,.string (mkStr []),.int .i64 0] 3 hx λh8=>∃res:LV,List.length res=3/\ai h8 ⟨h2.size,0,none⟩ res/\K (.tuple #[.agg ⟨res⟩,.int .i64 e]) h8:=λhx e fx rx ox eq=>
  fin hx none 0 kI e fx rx ox eq (Sl.nil _ _ _)
 refine cn (λhe=>?_) λhe=>?_
 ·exact err h4 _ F4 r4 o4 (if_pos he)
 have e1:jh T (af N) s=_:=if_neg λy=>y he;have g4:rd h4 h.size=(af N).v:=(f4.rd (by omega) λy=>y).trans ((n3.at_ (by omega)).trans n2.rd);refine⟨(af N).v,rfl,aj g4,qd (h0:=h3) f4 Z.1 (Sl.le Z.2) Z.2.cells (λp hp=>?_) λh6 wb z lo cl f6 w6=>⟨_,rfl,?_⟩⟩
 ·have Z2:=Z.2;rw[hp]at Z2;exact⟨Z2.2.2.1,Z2.lt⟩
 have z6:=f6.size;have r6:=(f6.rd (b:=h2.size) (by omega) λy=>y).trans r4;have o6:du h6 h2.size:=f6.own (by omega) (λy=>y) o4;rw[toList_mkStr,toList_mkStr];refine cs (λen=>?_) λen=>?_
 ·have en:(bq s).2.1=[]:=eq_of_beq en;rw[if_pos en]at e1;refine nP (nm:=[]) w6 (by show 1<=1000;decide) λh7 a7 c7 f7 S7=>⟨_,rfl,?_⟩;exact fin h7 a7 c7 ⟨[1],[],1⟩ 0 ((F4.no f6).no f7) ((f7.rd (by omega) λy=>y).trans r6) (f7.own (by omega) (λy=>y) o6) e1 (S7.mono λb hb=>by have hb:h6.size<=b:=hb;show h3.size<=b;omega)
 have en:(bq s).2.1≠[]:=λy=>by rw[y]at en;simp at en
 rw[if_neg en]at e1;refine os ?_;refine bQ.add w6.own (by rw[w6.r];exact(by decide:0+10<11)) λh9 d9=>?_;rw[w6.r]at d9;have z9:=d9.size;have w9:Ws h3 h9 wb t (af N) ⟨[1],(bq s).1,0⟩ false true z:=w6.did d9 rfl w6.ch w6.lf w6.cap w6.zw w6.clo w6.JS;have r9:rd h9 h2.size=[.slice none 0 0,.string (mkStr []),.int .i64 0]:=(d9.at_ (by omega) (by omega)).trans r6;have o9:du h9 h2.size:=d9.fr.own (by omega) (λy=>by have y:h2.size=wb:=y;omega) o6;have g9:rd h9 h.size=(af N).v:=(d9.at_ (by omega) (by omega)).trans ((f6.rd (by omega) λy=>y).trans g4);refine HI (gl.no F3) dm (X.no F3) w9 (HJ _) (by show 1+(33*(8-0)+(bq s).1.length)<=600;omega) λh10 s' z' a10 c10 Qh UI hc10 he10 S10=>⟨_,_,rfl,?_⟩;have Nj:=Qh.fr.size;obtain⟨CL,XB,ne10,Qm⟩:=Qh.rd (b:=h2.size) (by omega) (by omega) (by omega);obtain⟨g10,_,neg10,ltg10⟩:=Qh.rd (b:=h.size) (by omega) (by omega) (by omega);rw[r9]at CL;rw[g9]at g10;refine ax.intro rfl ft rfl λbb n12=>?_;have z12:=n12.size;have PH:=UI.no n12.fr;have wm:=(n12.at_ (by omega)).trans CL;have RY:du bb h2.size:=n12.ow (XB o9);have g12:rd bb h.size=(af N).v:=(n12.at_ (by omega)).trans g10;have xy:Fr No h bb:=F3.trans PH.fr λ_ _ y=>y.elim;refine cn (λhq=>?_) λhq=>?_
 ·rw[if_pos hq]at e1;exact err bb _ xy wm RY e1
 rw[if_neg (λy=>y hq)]at e1;have Φ:=he10 hq;have hch':here s'.chain=here (jy T (af N) false true ⟨[1],(bq s).1,0⟩).1.chain:=by rw[Φ]
 refine⟨(af N).v,rfl,aj g12,os ?_⟩;show C.eX (some ⟨wb,0,none⟩) bb _;refine nV PH hc10.2 (by omega) ⟨_,rfl,⟨rfl,aj g12⟩,Di.jL (gl.no xy) dm (X.no xy) λfg f15=>⟨_,_,rfl,?_⟩⟩;have w15:=PH.no f15;have MC:=(f15.rd (by omega) λy=>y).trans wm;have ZC:du fg h2.size:=f15.own (by omega) (λy=>y) RY;have Zu:=xy.no f15;have oO:=f15.size;rw[hch']
 have last:(∀(hq:¬((findD T (af N) (here (jy T (af N) false true ⟨[1],(bq s).1,0⟩).1.chain) (bq s).2.1).2≠0/\(findD T (af N) (here (jy T (af N) false true ⟨[1],(bq s).1,0⟩).1.chain) (bq s).2.1).2≠160)),
   C.dz (some ⟨wb,0,none⟩) (mkStr (bq s).2.1) (findD T (af N) (here (jy T (af N) false true ⟨[1],(bq s).1,0⟩).1.chain) (bq s).2.1).1 fg λr7 eM=>∃(kx:LV),r7 = .agg ⟨kx⟩/\
    ar ⟨h2.size,0,none⟩ kx 3 eM λh18=>∃lG:LV,List.length lG=3/\ai h18 ⟨h2.size,0,none⟩ lG/\K (.tuple #[.agg ⟨lG⟩,.int .i64 0]) h18):=λhf=>by
  rw[if_neg hf]at e1;refine nP w15 (by omega) λeM a17 c17 f17 S17=>⟨_,rfl,?_⟩;rw[Φ]at S17 ⊢;exact fin eM a17 c17 _ 0 (Zu.no f17) ((f17.rd (by omega) λy=>y).trans MC) (f17.own (by omega) (λy=>y) ZC) e1 (S17.mono λb hb=>by have hb:fg.size<=b:=hb;show h3.size<=b;omega)
 refine cn (λh1=>cn (λh2=>?_) λh2=>last λy=>y.2 h2) λh1=>last λy=>y.1 h1;rw[if_pos ⟨h1,h2⟩]at e1;exact err fg _ Zu MC ZC e1
end
end Wl
namespace Tr
open Hp W Ad Tm Re Ss
open Hd (ints)
open In (ah av)
open Wl (Pl xS ft)
open Pa (pieces dJ dG comps)
open Sk (bf)
section
variable{h : ab}{K : Value -> ab -> Prop}
theorem rH{e:Int}(hK:K (.int .i64 e) h):C.eV e h K:=eV.ok hK
theorem rI(A:ag h a (ints xs)){j:Nat}(hj:j<xs.length):∃p,a=some p/\cellOf h (Addr.add p j)=some (.int .i64 xs[j]):=by
 cases a with
 | none=>
  have A:ints xs=[]:=A;have:=congrArg List.length A;rw[ah,List.length_nil]at this;omega
 | some p=>
  refine⟨p,rfl,A j _ ?_⟩;unfold ints;rw[List.getElem?_map,List.getElem?_eq_getElem hj];rfl
theorem yR{xs:List Tm.ay}(A:ag h a (Ch.strs xs)){j:Nat}(hj:j<xs.length):∃p,a=some p/\cellOf h (Addr.add p j)=some (.string (mkStr xs[j])):=by
 cases a with
 | none=>
  have A:Ch.strs xs=[]:=A;have:=congrArg List.length A;rw[Ch.strs,List.length_map,List.length_nil]at this;omega
 | some p=>
  refine⟨p,rfl,A j _ ?_⟩;unfold Ch.strs;rw[List.getElem?_map,List.getElem?_eq_getElem hj];rfl
theorem rJ{b:OA}{c2:Nat}(A:ag h a (ints xs))(ZD:xs.length=l)(B:ag h b (ints ys))(hyl:ys.length=m)(hl:l<=140737488355328)(hK:K (.bool (decide (xs=ys))) h):C.eG a l c b m c2 h K:=by
 refine eG.ok (cn (λfB=>?_) λheq=>?_)
 ·have:xs≠ys:=by rintro rfl;omega
  rw[decide_eq_false this]at hK;exact hK
 ·refine⟨λi hh=>0<=i/\i<=l/\h=hh/\xs.take i.toNat=ys.take i.toNat,λi _=>((l:Int)-i).toNat,⟨by omega,by omega,rfl,rfl⟩,?_⟩;rintro i _ ⟨i0,i1,rfl,e⟩;refine cd (λhi=>?_) λhi=>?_
  ·have hx:i.toNat<xs.length:=(by omega);have hy:i.toNat<ys.length:=(by omega);obtain⟨p,rfl,ca⟩:=rI A hx;obtain⟨q,rfl,cb⟩:=rI B hy;refine⟨⟨i0,hi⟩,os ⟨_,ca,⟨i0,by omega⟩,os ⟨_,cb,cn (λfB=>?_) λZE=>?_⟩⟩⟩
   ·have:xs≠ys:=(by rintro rfl;exact fB rfl);rw[decide_eq_false this]at hK;exact hK
   ·rw[wrap_i64 (by omega) (by omega)];refine⟨⟨by omega,by omega,rfl,?_⟩,j8 hi⟩;rw[show(i+1).toNat=i.toNat+1 by omega,List.take_succ_eq_append_getElem hx,List.take_succ_eq_append_getElem hy,e,ZE]
  ·rw[List.take_of_length_le (by omega),List.take_of_length_le (by omega)]at e;rw[decide_eq_true e]at hK;exact hK
theorem qd(B:aJ h a l bs)(wv:l<=c)(hl:l<=140737488355328)(h1:l % 512=0)(h2:0<l)(h3:l / 512<=16384)
  (hK:∀tb dd F h',Fr No h h'->Tx h' F (some ⟨tb,0,none⟩) dd ⟨fresh (chunks bs),[],[],false⟩->(∀b,F b->h.size<=b)->K (.tuple #[.pointer (some ⟨tb,0,none⟩),.bool true]) h'):C.dO a l c h K:=by
 refine dO.ok (JB B wv hl (λy=>by exfalso;omega) λ_ _ _ q h8 D f8 hD A=>⟨_,_,rfl,rH ⟨_,rfl,cn (λy=>absurd rfl y) λ_=>cf rfl ?_⟩⟩);unfold dO.k1;have z8:=f8.size;refine Tm.wz A λtb bb F f12 g12 x12=>⟨_,rfl,?_⟩;have z12:=f12.size
 have hF:∀b,F b->h.size<=b:=λb hb=>by
  rcases g12.new hb with y|y
  ·exact hD b y
  ·omega
 exact hK tb _ F bb (f8.no f12) x12 hF
def bp(more:Int):Nat:=128+((more%18446744073709551616)%1000).toNat
theorem uo(more:Int):128<=bp more/\bp more<1128:=by unfold bp;omega
theorem zy{more:Int}{r:LV}(hr:r.length=2)(hK:∀ h',Fr No h h'->K (.int .i64 (bp more:Nat)) h'):C.cO (.int .i64 more::r) h K:=by
 refine cO.ok (aC.intro λh2 n2=>⟨more,bW n2.rd rfl,?_⟩)
 have e:IntKind.wrap .u64 more=more%18446744073709551616:=by
  unfold IntKind.wrap;exact if_neg λy=>absurd y (by rw[show IntKind.u64.signed=false from rfl,Bool.false_and];decide)
 have p:=Int.emod_nonneg more (show(18446744073709551616:Int)≠0 by decide);rw[e,Int.tmod_eq_emod_of_nonneg p,wrap_i64 (show -9223372036854775808<=more%18446744073709551616%1000 by omega) (by omega),wrap_i64 (show -9223372036854775808<=128+more%18446744073709551616%1000 by omega) (by omega)];rw[show 128+more%18446744073709551616%1000=((bp more:Nat):Int) by unfold bp;omega];exact hK h2 n2.fr
end
end Tr
namespace Tr
open Hp W Ad Tm Re Ss
open Hd (ints)
open In (ah av)
open Pa (pieces dJ dG comps ix extract_mk)
open Sk (bf)
section
variable{h : ab}{K : Value -> ab -> Prop}{s : Tm.ay}
theorem qz(b:UInt8){m:Nat}(hm:m<256):((b.toNat:Nat):Int)=(m:Int)↔b=UInt8.ofNat m:=by
 constructor
 ·intro y;have y:b.toNat=m:=by omega
  rw[<-y];exact(UInt8.ofNat_toNat).symm
 ·intro y;rw[y,UInt8.toNat_ofNat'];omega
theorem Bf(hs:s.length<=1000000000000000000)(hK:K (.bool (bf s)) h):C.iA (mkStr s) h K:=by
 have iH:(mkStr s).size=s.length:=rfl;refine iA.ok ?_;unfold iA;rw[iH,toList_mkStr];refine⟨λi hx=>∃q:Nat,i=q/\q<=s.length/\hx=h/\(s.take q).all (λb=>b != 47 && b != 0)=true,λi _=>((s.length:Int)-i).toNat,⟨0,rfl,Nat.zero_le _,rfl,rfl⟩,?_⟩;rintro i hx ⟨q,rfl,hq,rfl,e⟩
 have bad:(∃b∈s,¬(b≠47/\b≠0))->K (.bool false) hx:=λ⟨b,hb,hn⟩=>by
  have:bf s=false:=by
   cases h:bf s with
   | false=>rfl
   | true=>exact absurd ((Sk.fI.mp h).all b hb) hn
  rw[this]at hK;exact hK
 refine cd (λdh=>?_) λvF=>?_
 ·have dh:q<s.length:=by omega
  have gq:s[(q:Int).toNat]?=some s[q]:=by rw[Int.toNat_natCast];exact List.getElem?_eq_getElem dh
  refine⟨⟨by omega,by omega⟩,_,gq,ce (λFc=>?_) λFc=>⟨⟨by omega,by omega⟩,_,gq,ce (λh0=>?_) λh0=>?_⟩⟩
  ·have:=(qz s[q] (m:=47) (by decide)).mp Fc;exact bad ⟨s[q],List.getElem_mem dh,λy=>y.1 this⟩
  ·have:=(qz s[q] (m:=0) (by decide)).mp h0;exact bad ⟨s[q],List.getElem_mem dh,λy=>y.2 this⟩
  ·rw[wrap_i64 (show -9223372036854775808<=(q:Int)+1 by omega) (by omega)];refine⟨⟨q+1,by omega,by omega,rfl,?_⟩,by show((s.length:Int)-((q:Int)+1)).toNat<((s.length:Int)-(q:Int)).toNat;omega⟩;rw[List.take_succ_eq_append_getElem dh,List.all_append,e,Bool.true_and];have a1:s[q]≠47:=λy=>Fc ((qz s[q] (m:=47) (by decide)).mpr y);have a2:s[q]≠0:=λy=>h0 ((qz s[q] (m:=0) (by decide)).mpr y);rw[List.all_cons,List.all_nil,Bool.and_true,bne_iff_ne.mpr a1,bne_iff_ne.mpr a2];rfl
 ·rw[List.take_of_length_le (by omega)]at e;unfold bf at hK;rw[e,Bool.and_true]at hK;refine cd (λh1=>cd (λsb=>?_) λsb=>?_) λh1=>?_
  ·rw[decide_eq_true (p:=1<=s.length) (by omega),decide_eq_true (p:=s.length<=27) (by omega),Bool.true_and,Bool.true_and]at hK;refine jj (cs (λhd=>?_) λhd=>?_)
   ·have hd:(s == [46])=true:=(by rw[toList_mkStr]at hd;exact hd);have:(s != [46])=false:=(by unfold bne;rw[hd];rfl);rw[this,Bool.false_and]at hK;exact hK
   ·have hd:(s == [46])=false:=(by rw[toList_mkStr]at hd;exact hd);have:(s != [46])=true:=(by unfold bne;rw[hd];rfl);rw[this,Bool.true_and]at hK;rw[toList_mkStr];exact hK
  ·rw[decide_eq_false (p:=s.length<=27) (by omega),Bool.and_false,Bool.false_and,Bool.false_and]at hK;exact hK
  ·rw[decide_eq_false (p:=1<=s.length) (by omega),Bool.false_and,Bool.false_and,Bool.false_and]at hK;exact hK
theorem Ns(l:List Tm.ay)(x:Tm.ay)(r:List Tm.ay):dG (x::r)=(if x=[46]then[]else[x])++dG r:=by
 unfold dG
 by_cases e:x=[46]
 ·rw[if_pos e,List.filter_cons_of_neg (by simp[e])];rfl
 ·rw[if_neg e,List.filter_cons_of_pos (by simp[e])];rfl
theorem HL(hs:s.length<=1000000000)(hK:∀ a l c h',Fr No h h'->l=(comps s).length->(comps s).length<=s.length+1->Sl h' 1 a l c (Ch.strs (comps s)) (bZ h.size)->K (.slice a l c) h'):C.cL (mkStr s) h K:=by
 have iH:(mkStr s).size=s.length:=rfl;refine cL.ok ?_;unfold cL;rw[iH,toList_mkStr]
 refine⟨λa l c fr i hx=>∃(f q:Nat) (ps:List Tm.ay),fr=f/\i=q/\f<=q/\(q<=s.length∨(f=q/\q=s.length+1))/\l=ps.length/\ps.length<=q/\Fr No h hx/\Sl hx 1 a l c (Ch.strs ps) (bZ h.size)/\comps s=ps++dG (dJ (s.drop q) ((s.drop f).take (q-f))),
  λ_ _ _ _ i _=>((s.length:Int)+1-i).toNat,⟨0,0,[],rfl,rfl,Nat.le_refl _,.inl (Nat.zero_le _),rfl,Nat.le_refl _,Fr.refl _ _,Sl.nil _ _ _,by rw[List.nil_append];rfl⟩,?_⟩
 rintro a l c fr i hx ⟨f,q,ps,rfl,rfl,hf,hq,hl,hpl,F,S,e⟩;refine cd (λhle=>?_) λRF=>?_
 ·have hle:q<=s.length:=by omega
  -- a acQ or the end
  have sep:(dJ (s.drop q) ((s.drop f).take (q-f))=(if(s.drop f).take (q-f)=[]then[]else[(s.drop f).take (q-f)])++dJ (s.drop (q+1)) [])->
    cL.k1 (mkStr s) a l c f q hx (λa l c fr i hx=>∃(f q:Nat) (ps:List Tm.ay),fr=f/\i=q/\f<=q/\(q<=s.length∨(f=q/\q=s.length+1))/\l=ps.length/\ps.length<=q/\Fr No h hx/\Sl hx 1 a l c (Ch.strs ps) (bZ h.size)/\comps s=ps++dG (dJ (s.drop q) ((s.drop f).take (q-f))))
     (λ_ _ _ _ i _=>((s.length:Int)+1-i).toNat) K:=λhp=>by
   have ZF:((s.drop f).take (q-f)).length=q-f:=(by rw[List.length_take,List.length_drop];omega);generalize Nt:(s.drop f).take (q-f)=cur at hp ZF
   have next:∀a' l' c' h' ps',l'=ps'.length->ps'.length<=q+1->Fr No h h'->Sl h' 1 a' l' c' (Ch.strs ps') (bZ h.size)->comps s=ps'++dG (dJ (s.drop (q+1)) [])->
     (∃(f q':Nat) (ps:List Tm.ay),IntKind.wrap .i64 ((q:Int)+1)=f/\IntKind.wrap .i64 ((q:Int)+1)=q'/\f<=q'/\(q'<=s.length∨(f=q'/\q'=s.length+1))/\l'=ps.length/\ps.length<=q'/\Fr No h h'/\Sl h' 1 a' l' c' (Ch.strs ps) (bZ h.size)/\comps s=ps++dG (dJ (s.drop q') ((s.drop f).take (q' - f))))/\
     ((s.length:Int)+1-IntKind.wrap .i64 ((q:Int)+1)).toNat<((s.length:Int)+1-(q:Int)).toNat:=λa' l' c' h' ps' h1 h2 h3 h4 h5=>by
    rw[wrap_i64 (show -9223372036854775808<=(q:Int)+1 by omega) (by omega)];exact⟨⟨q+1,q+1,ps',by omega,by omega,Nat.le_refl _,by omega,h1,h2,h3,h4,by rw[Nat.sub_self,List.take_zero];exact h5⟩,by omega⟩
   rw[Nt,hp]at e;refine cd (λhi=>⟨⟨by omega,by omega,by omega⟩,?_⟩) λhi=>?_
   ·have ne:cur≠[]:=λy=>by rw[y]at ZF;have:(0:Nat)=q-f:=ZF;omega
    rw[if_neg ne]at e;have e:comps s=ps++dG (cur::dJ (s.drop (q+1)) []):=e;rw[Ns []]at e;rw[extract_mk,Int.toNat_natCast,Int.toNat_natCast,Nt,toList_mkStr,toList_mkStr];refine jj (cs (λhd=>?_) λhd=>⟨⟨by omega,by omega,by omega⟩,aC.intro λh3 n3=>?_⟩)
    ·have hd:cur=[46]:=eq_of_beq hd;rw[if_pos hd,List.nil_append]at e;exact next a l c hx ps hl (by omega) F S e
    ·have hd:cur≠[46]:=λy=>by rw[y]at hd;simp at hd
     rw[if_neg hd]at e;refine⟨[.string (mkStr cur)],rfl,aj n3.rd,λv hv=>by rw[List.mem_singleton.mp hv];rfl,?_⟩;refine aT (elem:=tN) (Sl.fr n3.fr S λ_ _ _ y=>y) rfl rfl (by show(l+1)*16<=_;omega) (by omega) λa' c' h4 f4 s4=>?_;have z3:=n3.size;have zx:=F.size;refine next a' (l+1) c' h4 (ps++[cur]) (by rw[List.length_append,hl];rfl) (by rw[List.length_append];show ps.length+1<=q+1;omega) ((F.new n3).trans f4 λb hb y=>by have y:h.size<=b:=y;omega) ?_ (by rw[e,List.append_assoc]);rw[show Ch.strs (ps++[cur])=Ch.strs ps++[.string (mkStr cur)] from List.map_append]
     exact s4.mono λb y=>by
      rcases y with y|y
      ·exact y
      ·show h.size<=b;omega
   ·have ce:cur=[]:=List.length_eq_zero_iff.mp (by omega);rw[if_pos ce,List.nil_append]at e;exact next a l c hx ps hl (by omega) F S e
  refine cd (λdh=>?_) λvF=>?_
  ·have dh:q<s.length:=(by omega);have gq:s[(q:Int).toNat]?=some s[q]:=(by rw[Int.toNat_natCast];exact List.getElem?_eq_getElem dh);refine⟨⟨by omega,by omega⟩,_,gq,cn (λFc=>?_) λFc=>?_⟩
   ·have a1:s[q]≠47:=λy=>Fc ((qz s[q] (m:=47) (by decide)).mpr y);rw[wrap_i64 (show -9223372036854775808<=(q:Int)+1 by omega) (by omega)];refine⟨⟨f,q+1,ps,rfl,by omega,by omega,by omega,hl,by omega,F,S,?_⟩,by show((s.length:Int)+1-((q:Int)+1)).toNat<((s.length:Int)+1-(q:Int)).toNat;omega⟩;rw[e,List.drop_eq_getElem_cons dh];show ps++dG (if s[q]=47 then _ else dJ (s.drop (q+1)) ((s.drop f).take (q-f)++[s[q]]))=_;rw[if_neg a1]
    have:(s.drop f).take (q+1-f)=(s.drop f).take (q-f)++[s[q]]:=by
     rw[show q+1-f=(q-f)+1 by omega,List.take_succ_eq_append_getElem (by rw[List.length_drop];omega),List.getElem_drop];congr 3;omega
    rw[this]
   ·have a1:s[q]=47:=(qz s[q] (m:=47) (by decide)).mp Fc;refine sep ?_;rw[List.drop_eq_getElem_cons dh];show(if s[q]=47 then _ else _)=_;rw[if_pos a1]
  ·refine sep ?_;have d1:s.drop q=[]:=List.drop_of_length_le (by omega);have d2:s.drop (q+1)=[]:=List.drop_of_length_le (by omega);rw[d1,d2];exact(List.append_nil _).symm
 ·have:q=s.length+1:=by omega
  have:f=s.length+1:=by omega
  subst this;subst q;rw[List.drop_of_length_le (by omega),Nat.sub_self,List.take_zero]at e;have e:comps s=ps++[]:=e;rw[List.append_nil]at e;subst hl;refine hK a _ c hx F (by rw[e]) (by rw[e];omega) ?_;rw[e];exact S
end
def vN(s:Tm.ay):Bool:=s.all (λb=>b != 0) && (comps s).all (λp=>decide (p.length<=27)) && decide (1<=s.length) && decide (s.length<=1024) && decide ((comps s).length<=32)
def ltr(i:Nat):Tm.ay:=[110,UInt8.ofNat (97+i/26%26),UInt8.ofNat (97+i%26)]
structure Nd where
 kind:Int
 depth:Int
 dT:Int
 text:Tm.ay
 names:List Tm.ay
 aU:List Int
 up:Int
structure NdS where
 na:OA
 nc:Nat
 ma:OA
 mc:Nat
def JT(z:NdS)(x:Nd):LV:=[.int .i64 x.kind,.int .i64 x.depth,.int .i64 x.dT,.string (mkStr x.text),.slice z.na x.names.length z.nc,.slice z.ma x.aU.length z.mc,.int .i64 x.up]
def kf : List Tm.ay->List Int->Tm.ay->Int
 | x::r,n::m,s=>if x=s then n else kf r m s
 | _,_,_=>0
theorem LL : ∀{l:List Tm.ay} {m:List Int} {s:Tm.ay} {q:Nat} (h1:q<l.length) (h2:q<m.length),(∀j (hj:j<l.length),j<q->l[j]≠s)->l[q]=s->kf l m s=m[q]
 | x::r,n::m,s,0,_,_,_,e=>if_pos e
 | x::r,n::m,s,q+1,h1,h2,h,e=>by
  have h0:x≠s:=h 0 (Nat.succ_pos _) (Nat.succ_pos _);show(if x=s then n else kf r m s)=m[q]'_;rw[if_neg h0];exact LL (Nat.lt_of_succ_lt_succ h1) (Nat.lt_of_succ_lt_succ h2) (λj hj hq=>h (j+1) (Nat.succ_lt_succ hj) (Nat.succ_lt_succ hq)) e
theorem LM : ∀{l:List Tm.ay} {m:List Int} {s:Tm.ay},(∀x∈l,x≠s)->kf l m s=0
 | [],_,_,_=>by cases ‹List Int› <;> rfl
 | _::_,[],_,_=>rfl
 | x::r,n::m,s,h=>by
  show(if x=s then n else kf r m s)=0;rw[if_neg (h x List.mem_cons_self)];exact LM λy hy=>h y (List.mem_cons_of_mem _ hy)
section
variable{h : ab}{K : Value -> ab -> Prop}{s : Tm.ay}{nb : Nat}{z : NdS}{x : Nd}
structure Qn(h:ab)(nb:Nat)(z:NdS)(x:Nd):Prop where
 r:rd h nb=JT z x
 na:ag h z.na (Ch.strs x.names)
 ma:ag h z.ma (ints x.aU)
 len:x.names.length=x.aU.length
theorem xA(N:Qn h nb z x)(hl:x.names.length<=1000000)(hK:K (.int .i64 (kf x.names x.aU s)) h):C.cY (some ⟨nb,0,none⟩) (mkStr s) h K:=by
 have len:=N.len;refine cY.ok (os ⟨_,_,_,bW N.r rfl,λi hx=>∃q:Nat,i=q/\q<=x.names.length/\hx=h/\∀j (hj:j<x.names.length),j<q->x.names[j]≠s,λi _=>((x.names.length:Int)-i).toNat,⟨0,rfl,Nat.zero_le _,rfl,λj _ y=>absurd y (Nat.not_lt_zero _)⟩,?_⟩);rintro i hx ⟨q,rfl,hq,rfl,e⟩;refine cd (λdh=>?_) λvF=>?_
 ·have dh:q<x.names.length:=by omega
  obtain⟨p,ep,cp⟩:=yR N.na dh;obtain⟨p2,ep2,cp2⟩:=rI N.ma (j:=q) (by omega);rw[ep,Int.toNat_natCast];refine⟨⟨by omega,by omega⟩,os ⟨_,cp,?_⟩⟩;rw[toList_mkStr,toList_mkStr];refine cs (λhe=>os ⟨_,_,_,bW N.r rfl,⟨by omega,by omega⟩,?_⟩) λhe=>?_
  ·rw[ep2];refine os ⟨_,cp2,?_⟩;rw[<-LL dh (by omega) e (eq_of_beq he)];exact hK
  ·rw[wrap_i64 (show -9223372036854775808<=(q:Int)+1 by omega) (by omega)];refine⟨⟨q+1,by omega,by omega,rfl,λj hj y=>?_⟩,by show((x.names.length:Int)-((q:Int)+1)).toNat<((x.names.length:Int)-(q:Int)).toNat;omega⟩
   by_cases hjq:j=q
   ·subst hjq;exact λy=>by rw[y]at he;simp at he
   ·exact e j hj (by omega)
 ·rw[LM λy hy=>by
   obtain⟨j,hj,rfl⟩:=List.mem_iff_getElem.mp hy
   exact e j hj (by omega)]at hK
  exact hK
theorem bvN(hm:m<256):Value.int .u8 (m:Int)=bv (UInt8.ofNat m):=by
 unfold bv;rw[UInt8.toNat_ofNat',show m%2 ^ 8=m from Nat.mod_eq_of_lt hm]
theorem FQ(hi:i<1000)(hK:∀ h',Fr No h h'->K (.string (mkStr (ltr i))) h'):C.cR (i:Int) h K:=by
 refine cR.ok ?_;unfold cR;have t1:Int.tdiv (i:Int) 26=((i/26:Nat):Int):=rfl;have t2:Int.tmod (i:Int) 26=((i%26:Nat):Int):=rfl;rw[t1,t2,wrap_i64 (show -9223372036854775808<=((i/26:Nat):Int) by omega) (by omega)];have t3:Int.tmod ((i/26:Nat):Int) 26=((i/26%26:Nat):Int):=rfl
 rw[t3,wrap_i64 (show -9223372036854775808<=97+((i/26%26:Nat):Int) by omega) (by omega),wrap_i64 (show -9223372036854775808<=97+((i%26:Nat):Int) by omega) (by omega),
  wrap_u8 (by omega) (by omega),wrap_u8 (by omega) (by omega)]
 have b1:Value.int .u8 (97+((i/26%26:Nat):Int))=bv (UInt8.ofNat (97+i/26%26)):=bvN (m:=97+i/26%26) (by omega);have b2:Value.int .u8 (97+((i%26:Nat):Int))=bv (UInt8.ofNat (97+i%26)):=bvN (m:=97+i%26) (by omega);rw[b1,b2];refine aC.intro λh2 n2=>⟨[UInt8.ofNat (97+i/26%26),UInt8.ofNat (97+i%26)],⟨rfl,aj n2.rd⟩,by show((3:Nat):Int)<=_;decide,?_⟩
 rw[show mkStr [110]++mkStr [UInt8.ofNat (97+i/26%26),UInt8.ofNat (97+i%26)]=mkStr (ltr i) from by
  apply ByteArray.ext
  rfl]
 exact hK h2 n2.fr
theorem Nu(hs:s.length<=1000000000)(hK:∀ h',Fr No h h'->K (.bool (vN s)) h'):C.gP (mkStr s) h K:=by
 have iH:(mkStr s).size=s.length:=rfl;refine gP.ok (HL hs λa l c h2 f2 hl Gg S=>⟨_,_,_,rfl,?_⟩);rw[iH,toList_mkStr];refine⟨λi hx=>∃q:Nat,i=q/\q<=s.length/\hx=h2/\(s.take q).all (λb=>b != 0)=true,λi _=>((s.length:Int)-i).toNat,⟨0,rfl,Nat.zero_le _,rfl,rfl⟩,?_⟩;rintro i hx ⟨q,rfl,hq,rfl,e⟩;refine cd (λdh=>?_) λvF=>?_
 ·have dh:q<s.length:=by omega
  have gq:s[(q:Int).toNat]?=some s[q]:=by rw[Int.toNat_natCast];exact List.getElem?_eq_getElem dh
  refine⟨⟨by omega,by omega⟩,_,gq,ce (λh0=>?_) λh0=>?_⟩
  ·have a0:=(qz s[q] (m:=0) (by decide)).mp h0
   have:s.all (λb=>b != 0)=false:=by
    rw[List.all_eq_false];exact⟨s[q],List.getElem_mem dh,by rw[a0];simp⟩
   have:=hK hx f2;unfold vN at this;rw[‹s.all _=false›]at this;simp only[Bool.false_and]at this;exact this
  ·rw[wrap_i64 (show -9223372036854775808<=(q:Int)+1 by omega) (by omega)];refine⟨⟨q+1,by omega,by omega,rfl,?_⟩,by show((s.length:Int)-((q:Int)+1)).toNat<((s.length:Int)-(q:Int)).toNat;omega⟩;rw[List.take_succ_eq_append_getElem dh,List.all_append,e,Bool.true_and];have a2:s[q]≠0:=λy=>h0 ((qz s[q] (m:=0) (by decide)).mpr y);rw[List.all_cons,List.all_nil,Bool.and_true,bne_iff_ne.mpr a2]
 ·rw[List.take_of_length_le (by omega)]at e;subst hl;refine⟨λi Mq=>∃q:Nat,i=q/\q<=(comps s).length/\Mq=hx/\((comps s).take q).all (λp=>decide (p.length<=27))=true,λi _=>(((comps s).length:Int)-i).toNat,⟨0,rfl,Nat.zero_le _,rfl,rfl⟩,?_⟩;rintro i Mq ⟨q,rfl,hq,rfl,e2⟩;have K':=hK Mq f2;unfold vN at K';rw[e,Bool.true_and]at K';refine cd (λdh=>?_) λvF=>?_
  ·have dh:q<(comps s).length:=(by omega);obtain⟨p,ep,cp⟩:=yR S.cells dh;rw[ep,Int.toNat_natCast];have sz:(mkStr (comps s)[q]).size=(comps s)[q].length:=rfl;refine⟨⟨by omega,by omega⟩,os ⟨_,cp,?_⟩⟩;rw[sz];refine cd (λsb=>?_) λsb=>?_
   ·have:(comps s).all (λp=>decide (p.length<=27))=false:=by
     rw[List.all_eq_false];exact⟨(comps s)[q],List.getElem_mem dh,by rw[decide_eq_true_eq];omega⟩
    rw[this]at K';simp only[Bool.false_and]at K';exact K'
   ·rw[wrap_i64 (show -9223372036854775808<=(q:Int)+1 by omega) (by omega)];refine⟨⟨q+1,by omega,by omega,rfl,?_⟩,by show(((comps s).length:Int)-((q:Int)+1)).toNat<(((comps s).length:Int)-(q:Int)).toNat;omega⟩;rw[List.take_succ_eq_append_getElem dh,List.all_append,e2,Bool.true_and];rw[List.all_cons,List.all_nil,Bool.and_true,decide_eq_true_eq];omega
  ·rw[List.take_of_length_le (by omega)]at e2;rw[e2,Bool.true_and]at K';refine cd (λh1=>cd (λh2=>?_) λh2=>?_) λh1=>?_
   ·rw[decide_eq_true (p:=1<=s.length) (by omega),decide_eq_true (p:=s.length<=1024) (by omega),Bool.true_and,Bool.true_and]at K';rw[show decide (((comps s).length:Int)<=32)=decide ((comps s).length<=32) from decide_eq_decide.mpr (by omega)];exact K'
   ·rw[decide_eq_false (p:=s.length<=1024) (by omega)]at K';simp only[Bool.and_false,Bool.false_and]at K';exact K'
   ·rw[decide_eq_false (p:=1<=s.length) (by omega)]at K';simp only[Bool.false_and]at K';exact K'
end
end Tr
namespace Tr
open Hp W Ad Tm Re Ss
open Hd (ints)
open In (ah av)
open Sk (bf)
structure Th where
 Nv:Int
 kind:Int
 same:Int
 name:Tm.ay
 text:Tm.ay
def FR(t:Th):LV:=[.int .i64 t.Nv,.int .i64 t.kind,.int .i64 t.same,.string (mkStr t.name),.string (mkStr t.text)]
def jP(x:Int)(m:Nat):Nat:=((x%18446744073709551616)%(m:Int)).toNat
theorem va{x:Int}(h:0<m):jP x m<m:=by
 unfold jP;have a:=Int.emod_nonneg (x%18446744073709551616) (show(m:Int)≠0 by omega);have b:=Int.emod_lt_of_pos (x%18446744073709551616) (show(0:Int)<m by omega);omega
structure Ts where
 n:Nat
 nd:Nat->Nd
 bG:List Nat
 eS:List Nat
 left:Nat
def C6 : Nd:=⟨0,0,0,[],[],[],0⟩
def kE : Nd:=⟨2,0,2,[],[],[],1⟩
def bP{α:Type}(f:Nat->α)(k:Nat)(x:α):Nat->α:=λj=>if j=k then x else f j
def fJ(x:Nd)(s:Tm.ay)(m:Nat):Nd:={ x with names:=x.names++[s],aU:=x.aU++[(m:Int)] }
def bO(x:Nd):Nd:={ x with dT:=x.dT+1 }
def bR(t:Th):Nat:=1+jP (t.kind-1) 4
def iD(t:Th):Tm.ay:=if vN t.text=true then t.text else[120]
def sX(t:Th)(s:Ts):Nat:=if 32<=(s.nd (s.bG.getD (jP t.Nv s.bG.length) 0)).depth then 1 else s.bG.getD (jP t.Nv s.bG.length) 0
def oQ(i:Nat)(t:Th)(x:Nd):Tm.ay:=if bf t.name=true/\kf x.names x.aU t.name=0 then t.name else ltr i
def qe(t:Th)(x:Nd):Nat:=(if x.names.length%16=0 then 1 else 0)+(if bR t=3 then((iD t).length+511)/512 else 0)
def jz(t:Th)(d:Nat)(x:Nd):Nd:=
 if bR t=2 then⟨2,x.depth+1,2,[],[],[],d⟩else if bR t=3 then⟨3,x.depth+1,1,iD t,[],[],0⟩else⟨1,x.depth+1,1,[],[],[],0⟩
def stepT(cnt:Nat)(i:Nat)(t:Th)(s:Ts):Ts:=
 if kf (s.nd (sX t s)).names (s.nd (sX t s)).aU (oQ i t (s.nd (sX t s)))≠0 then s else
 if s.left<qe t (s.nd (sX t s))then s else
 if bR t=4/\s.eS≠[]then
  { s with nd:=bP (bP s.nd (s.eS.getD (jP t.same s.eS.length) 0) (bO (s.nd (s.eS.getD (jP t.same s.eS.length) 0)))) (sX t s) (fJ (s.nd (sX t s)) (oQ i t (s.nd (sX t s))) (s.eS.getD (jP t.same s.eS.length) 0)),left:=s.left-qe t (s.nd (sX t s)) }
 else if cnt<=s.n then s else
  { n:=s.n+1,nd:=bP (bP s.nd (sX t s) (fJ (if bR t=2 then bO (s.nd (sX t s))else s.nd (sX t s)) (oQ i t (s.nd (sX t s))) s.n)) s.n (jz t (sX t s) (s.nd (sX t s))),bG:=if bR t=2 then s.bG++[s.n]else s.bG,eS:=if bR t=2 then s.eS else s.eS++[s.n],left:=s.left-qe t (s.nd (sX t s)) }
def gJ(cnt:Nat):Nat->List Th->Ts->Ts
 | _,[],s=>s
 | i,t::r,s=>if 40<=i then s else gJ cnt (i+1) r (stepT cnt i t s)
def iq(n:Nat)(l:List Th):Ts:=gJ (Spc.af n).count 0 l ⟨2,bP (λ_=>C6) 1 kE,[1],[],n-(Spc.af n).data⟩
structure nv(i:Nat)(s:Ts):Prop where
 n2:2<=s.n
 nn:s.n<=i+2
 dn:s.bG≠[]
 dr:∀d∈s.bG,1<=d/\d<s.n/\(s.nd d).kind=2
 XC:∀d∈s.eS,1<=d/\d<s.n/\(s.nd d).kind≠2
 dl:s.bG.length<=i+1
 ol:s.eS.length<=i
 root:(s.nd 1).kind=2
 len:∀k,(s.nd k).names.length=(s.nd k).aU.length/\(s.nd k).names.length<=i
 Nw:∀k,0<=(s.nd k).depth/\(s.nd k).depth<=i
 HM:∀k,0<=(s.nd k).dT/\(s.nd k).dT<=i+2
 nm:∀k,k<s.n->∀x∈(s.nd k).names,bf x=true
 nu:∀k,k<s.n->∀x∈(s.nd k).aU,1<=x/\x<(s.n:Int)
theorem yS{s:Ts}(o:nv i s)(t:Th):1<=sX t s/\sX t s<s.n/\(s.nd (sX t s)).kind=2:=by
 unfold sX
 split
 ·exact⟨Nat.le_refl _,o.n2,o.root⟩
 ·have hp:0<s.bG.length:=List.length_pos_iff.mpr o.dn;have hm:=va (x:=t.Nv) hp
  have e:s.bG.getD (jP t.Nv s.bG.length) 0=s.bG[jP t.Nv s.bG.length]:=by
   rw[List.getD_eq_getElem?_getD,List.getElem?_eq_getElem hm];rfl
  rw[e];exact o.dr _ (List.getElem_mem hm)
theorem xU{s:Ts}(o:nv i s)(x:Int)(h:s.eS≠[]):1<=s.eS.getD (jP x s.eS.length) 0/\s.eS.getD (jP x s.eS.length) 0<s.n/\(s.nd (s.eS.getD (jP x s.eS.length) 0)).kind≠2:=by
 have hp:0<s.eS.length:=List.length_pos_iff.mpr h;have hm:=va (x:=x) hp
 have e:s.eS.getD (jP x s.eS.length) 0=s.eS[jP x s.eS.length]:=by
  rw[List.getD_eq_getElem?_getD,List.getElem?_eq_getElem hm];rfl
 rw[e];exact o.XC _ (List.getElem_mem hm)
end Tr
namespace Tr
open Hp Ad Tm
open Sk (bf)
theorem ZG : ∀i,i<100->bf (ltr i)=true:=by decide +kernel
theorem dY{α:Type}(f:Nat->α)(k:Nat)(x:α):bP f k x k=x:=if_pos rfl
theorem cK{α:Type}(f:Nat->α){k j:Nat}(x:α)(h:j≠k):bP f k x j=f j:=if_neg h
theorem nv.next{s:Ts}(o:nv i s):nv (i+1) s:=
 ⟨o.n2,by have:=o.nn;omega,o.dn,o.dr,o.XC,by have:=o.dl;omega,by have:=o.ol;omega,o.root,λk=>⟨(o.len k).1,by have:=(o.len k).2;omega⟩,λk=>by have:=o.Nw k;omega,λk=>by have:=o.HM k;omega,o.nm,o.nu⟩
theorem UK(hi:i<100)(t:Th)(x:Nd):bf (oQ i t x)=true:=by
 unfold oQ
 split
 ·rename_i h;exact h.1
 ·exact ZG i hi
theorem Az{t:Th}{s:Ts}(o:nv i s)(hi:i<40):nv (i+1) (stepT cnt i t s):=by
 have xm:=yS o t;have wP:=UK (i:=i) (by omega) t (s.nd (sX t s));unfold stepT;generalize oQ i t (s.nd (sX t s))=nm at wP;generalize qe t (s.nd (sX t s))=pv
 split
 ·exact o.next
 ·split
  ·exact o.next
  ·split
   ·rename_i h;have ho:=xU o t.same h.2;generalize s.eS.getD (jP t.same s.eS.length) 0=q at ho;generalize sX t s=d at xm;have dq:d≠q:=λy=>by subst y;exact ho.2.2 xm.2.2
    have e:∀k,bP (bP s.nd q (bO (s.nd q))) d (fJ (s.nd d) nm q) k=if k=d then fJ (s.nd d) nm q else if k=q then bO (s.nd q)else s.nd k:=λk=>rfl
    have all:∀(P:Nd->Prop) k,P (fJ (s.nd d) nm q)->P (bO (s.nd q))->P (s.nd k)->P (bP (bP s.nd q (bO (s.nd q))) d (fJ (s.nd d) nm q) k):=λP k a b c=>by
     rw[e]
     split
     ·exact a
     ·split
      ·exact b
      ·exact c
    have kd:∀k,(bP (bP s.nd q (bO (s.nd q))) d (fJ (s.nd d) nm q) k).kind=(s.nd k).kind:=λk=>by
     rw[e]
     split
     ·rename_i y;rw[y];rfl
     ·split
      ·rename_i y;rw[y];rfl
      ·rfl
    refine⟨o.n2,by have:=o.nn;show s.n<=_;omega,o.dn,λx hx=>?_,λx hx=>?_,by have:=o.dl;show s.bG.length<=_;omega,by have:=o.ol;show s.eS.length<=_;omega,(kd 1).trans o.root,λk=>?_,λk=>?_,λk=>?_,λk hk x hx=>?_,λk hk x hx=>?_⟩
    ·have:=o.dr x hx;exact⟨this.1,this.2.1,(kd x).trans this.2.2⟩
    ·have:=o.XC x hx;exact⟨this.1,this.2.1,λy=>this.2.2 ((kd x).symm.trans y)⟩
    ·have h1:=o.len d;have h2:=o.len k;have h3:=o.len q
     exact all (λy=>y.names.length=y.aU.length/\y.names.length<=i+1) k (by
      show((s.nd d).names++[nm]).length=((s.nd d).aU++[(q:Int)]).length/\((s.nd d).names++[nm]).length<=i+1;rw[List.length_append,List.length_append]
      exact⟨by rw[h1.1];rfl,by show(s.nd d).names.length+1<=i+1;omega⟩) ⟨h3.1,by show(s.nd q).names.length<=i+1;omega⟩ ⟨h2.1,by omega⟩
    ·have h1:=o.Nw d;have h2:=o.Nw k;have h3:=o.Nw q;exact all (λy=>0<=y.depth/\y.depth<=((i+1:Nat):Int)) k (by show 0<=(s.nd d).depth/\(s.nd d).depth<=((i+1:Nat):Int);omega) (by show 0<=(s.nd q).depth/\(s.nd q).depth<=((i+1:Nat):Int);omega) (by omega)
    ·have h1:=o.HM d;have h2:=o.HM k;have h3:=o.HM q;exact all (λy=>0<=y.dT/\y.dT<=((i+1:Nat):Int)+2) k (by show 0<=(s.nd d).dT/\(s.nd d).dT<=((i+1:Nat):Int)+2;omega) (by show 0<=(s.nd q).dT+1/\(s.nd q).dT+1<=((i+1:Nat):Int)+2;omega) (by omega)
    ·have hx:x∈(bP (bP s.nd q (bO (s.nd q))) d (fJ (s.nd d) nm q) k).names:=hx;rw[e]at hx
     split at hx
     ·rcases List.mem_append.mp hx with y|y
      ·exact o.nm d xm.2.1 x y
      ·rw[List.mem_singleton.mp y];exact wP
     ·split at hx
      ·exact o.nm q ho.2.1 x hx
      ·exact o.nm k hk x hx
    ·have hx:x∈(bP (bP s.nd q (bO (s.nd q))) d (fJ (s.nd d) nm q) k).aU:=hx;rw[e]at hx
     split at hx
     ·rcases List.mem_append.mp hx with y|y
      ·exact o.nu d xm.2.1 x y
      ·rw[List.mem_singleton.mp y];show 1<=(q:Int)/\(q:Int)<(s.n:Int);omega
     ·split at hx
      ·exact o.nu q ho.2.1 x hx
      ·exact o.nu k hk x hx
   ·split
    ·exact o.next
    ·generalize hd:sX t s=d at xm;have dn:d≠s.n:=by omega
     have e:∀k,bP (bP s.nd d (fJ (if bR t=2 then bO (s.nd d)else s.nd d) nm s.n)) s.n (jz t d (s.nd d)) k=if k=s.n then jz t d (s.nd d)else if k=d then fJ (if bR t=2 then bO (s.nd d)else s.nd d) nm s.n else s.nd k:=λk=>rfl
     have kd:∀k,k<s.n->(bP (bP s.nd d (fJ (if bR t=2 then bO (s.nd d)else s.nd d) nm s.n)) s.n (jz t d (s.nd d)) k).kind=(s.nd k).kind:=λk hk=>by
      rw[e,if_neg (by omega)]
      split
      ·rename_i y;rw[y];show(if bR t=2 then bO (s.nd d)else s.nd d).kind=_
       split <;> rfl
      ·rfl
     have kn:(bP (bP s.nd d (fJ (if bR t=2 then bO (s.nd d)else s.nd d) nm s.n)) s.n (jz t d (s.nd d)) s.n).kind=2↔bR t=2:=by
      rw[e,if_pos rfl];unfold jz
      split
      ·rename_i y;exact⟨λ_=>y,λ_=>rfl⟩
      ·rename_i y
       split
       ·exact⟨λz=>absurd (show(3:Int)=2 from z) (by decide),λz=>absurd z y⟩
       ·exact⟨λz=>absurd (show(1:Int)=2 from z) (by decide),λz=>absurd z y⟩
     have nw:(jz t d (s.nd d)).names=[]/\(jz t d (s.nd d)).aU=[]/\(jz t d (s.nd d)).depth=(s.nd d).depth+1/\0<=(jz t d (s.nd d)).dT/\(jz t d (s.nd d)).dT<=2:=by
      unfold jz
      split
      ·exact⟨rfl,rfl,rfl,by show(0:Int)<=2;decide,by show(2:Int)<=2;decide⟩
      ·split
       ·exact⟨rfl,rfl,rfl,by show(0:Int)<=1;decide,by show(1:Int)<=2;decide⟩
       ·exact⟨rfl,rfl,rfl,by show(0:Int)<=1;decide,by show(1:Int)<=2;decide⟩
     have ad:(fJ (if bR t=2 then bO (s.nd d)else s.nd d) nm s.n).names=(s.nd d).names++[nm]/\(fJ (if bR t=2 then bO (s.nd d)else s.nd d) nm s.n).aU=(s.nd d).aU++[(s.n:Int)]/\(fJ (if bR t=2 then bO (s.nd d)else s.nd d) nm s.n).depth=(s.nd d).depth/\
       (s.nd d).dT<=(fJ (if bR t=2 then bO (s.nd d)else s.nd d) nm s.n).dT/\(fJ (if bR t=2 then bO (s.nd d)else s.nd d) nm s.n).dT<=(s.nd d).dT+1:=by
      split
      ·exact⟨rfl,rfl,rfl,by show(s.nd d).dT<=(s.nd d).dT+1;omega,Int.le_refl _⟩
      ·exact⟨rfl,rfl,rfl,Int.le_refl _,by show(s.nd d).dT<=(s.nd d).dT+1;omega⟩
     generalize jz t d (s.nd d)=BM at e kd kn nw;generalize fJ (if bR t=2 then bO (s.nd d)else s.nd d) nm s.n=Cz at e kd kn ad
     have all:∀(P:Nd->Prop) k,P BM->P Cz->P (s.nd k)->P (bP (bP s.nd d Cz) s.n BM k):=λP k a b c=>by
      rw[e]
      split
      ·exact a
      ·split
       ·exact b
       ·exact c
     have n2:=o.n2;have nn:=o.nn;have dl:=o.dl;have ol:=o.ol;refine⟨by show 2<=s.n+1;omega,by show s.n+1<=i+1+2;omega,?_,λx hx=>?_,λx hx=>?_,?_,?_,(kd 1 (by omega)).trans o.root,λk=>?_,λk=>?_,λk=>?_,λk hk x hx=>?_,λk hk x hx=>?_⟩
     ·show(if bR t=2 then s.bG++[s.n]else s.bG)≠[]
      split
      ·simp
      ·exact o.dn
     ·have hx:x∈(if bR t=2 then s.bG++[s.n]else s.bG):=hx
      have Db:x∈s.bG->1<=x/\x<s.n+1/\(bP (bP s.nd d Cz) s.n BM x).kind=2:=λhx=>by
       have:=o.dr x hx;exact⟨this.1,by omega,(kd x this.2.1).trans this.2.2⟩
      split at hx
      ·rename_i k2
       rcases List.mem_append.mp hx with y|y
       ·exact Db y
       ·rw[List.mem_singleton.mp y];exact⟨by omega,Nat.lt_succ_self _,kn.mpr k2⟩
      ·exact Db hx
     ·have hx:x∈(if bR t=2 then s.eS else s.eS++[s.n]):=hx
      have Db:x∈s.eS->1<=x/\x<s.n+1/\(bP (bP s.nd d Cz) s.n BM x).kind≠2:=λhx=>by
       have:=o.XC x hx;exact⟨this.1,by omega,λy=>this.2.2 ((kd x this.2.1).symm.trans y)⟩
      split at hx
      ·exact Db hx
      ·rename_i k2
       rcases List.mem_append.mp hx with y|y
       ·exact Db y
       ·rw[List.mem_singleton.mp y];exact⟨by omega,Nat.lt_succ_self _,λz=>k2 (kn.mp z)⟩
     ·show(if bR t=2 then s.bG++[s.n]else s.bG).length<=i+1+1
      split
      ·rw[List.length_append];show s.bG.length+1<=_;omega
      ·omega
     ·show(if bR t=2 then s.eS else s.eS++[s.n]).length<=i+1
      split
      ·omega
      ·rw[List.length_append];show s.eS.length+1<=_;omega
     ·have h1:=o.len d;have h2:=o.len k
      exact all (λy=>y.names.length=y.aU.length/\y.names.length<=i+1) k (by rw[nw.1,nw.2.1];exact⟨rfl,Nat.zero_le _⟩) (by
       rw[ad.1,ad.2.1,List.length_append,List.length_append]
       exact⟨by rw[h1.1];rfl,by show(s.nd d).names.length+1<=i+1;omega⟩) ⟨h2.1,by omega⟩
     ·have h1:=o.Nw d;have h2:=o.Nw k;exact all (λy=>0<=y.depth/\y.depth<=((i+1:Nat):Int)) k (by rw[nw.2.2.1];omega) (by rw[ad.2.2.1];omega) (by omega)
     ·have h1:=o.HM d;have h2:=o.HM k;exact all (λy=>0<=y.dT/\y.dT<=((i+1:Nat):Int)+2) k (by have:=nw.2.2.2;omega) (by have:=ad.2.2.2;omega) (by omega)
     ·have hx:x∈(bP (bP s.nd d Cz) s.n BM k).names:=hx;rw[e]at hx
      split at hx
      ·rw[nw.1]at hx;cases hx
      ·rename_i kne
       split at hx
       ·rw[ad.1]at hx
        rcases List.mem_append.mp hx with y|y
        ·exact o.nm d xm.2.1 x y
        ·rw[List.mem_singleton.mp y];exact wP
       ·exact o.nm k (by have hk:k<s.n+1:=hk;omega) x hx
     ·have hx:x∈(bP (bP s.nd d Cz) s.n BM k).aU:=hx;show 1<=x/\x<((s.n+1:Nat):Int);rw[e]at hx
      split at hx
      ·rw[nw.2.1]at hx;cases hx
      ·rename_i kne
       split at hx
       ·rw[ad.2.1]at hx
        rcases List.mem_append.mp hx with y|y
        ·have:=o.nu d xm.2.1 x y;omega
        ·rw[List.mem_singleton.mp y];omega
       ·have:=o.nu k (by have hk:k<s.n+1:=hk;omega) x hx;omega
def dC(x:Nd):Nat:=if x.kind=3 then(x.text.length+511)/512 else(x.names.length+15)/16
def dD(f:Nat->Nd):Nat->Nat
 | 0=>0
 | k+1=>dD f k+dC (f k)
theorem BN{f g:Nat->Nd}:∀n,(∀k,k<n->dC (f k)=dC (g k))->dD f n=dD g n
 | 0,_=>rfl
 | n+1,h=>by
  show dD f n+dC (f n)=dD g n+dC (g n);rw[BN n λk hk=>h k (by omega),h n (Nat.lt_succ_self _)]
theorem BO{f g:Nat->Nd}{d a:Nat}(h1:∀ k,k≠d->dC (g k)=dC (f k))(h2:dC (g d)=dC (f d)+a):∀n,dD g n=dD f n+if d<n then a else 0
 | 0=>by rw[if_neg (Nat.not_lt_zero _)];rfl
 | n+1=>by
  show dD g n+dC (g n)=dD f n+dC (f n)+_;rw[BO h1 h2 n]
  by_cases e:n=d
  ·subst e;rw[h2,if_neg (Nat.lt_irrefl _),if_pos (Nat.lt_succ_self _)];omega
  ·rw[h1 n e]
   by_cases hd:d<n
   ·rw[if_pos hd,if_pos (by omega)];omega
   ·rw[if_neg hd,if_neg (by omega)];omega
theorem FT{x:Nd}{s:Tm.ay}(h:x.kind=2):dC (fJ x s m)=dC x+if x.names.length%16=0 then 1 else 0:=by
 unfold dC;rw[if_neg (show ¬(fJ x s m).kind=3 from λy=>by have y:x.kind=3:=y;omega),if_neg (by omega)];show((x.names++[s]).length+15)/16=_;rw[List.length_append];show(x.names.length+1+15)/16=_
 split <;> omega
theorem UL{t:Th}{x:Nd}:dC (jz t d x)=if bR t=3 then((iD t).length+511)/512 else 0:=by
 unfold jz
 by_cases k2:bR t=2
 ·rw[if_pos k2,if_neg (by omega)];unfold dC;rw[if_neg (show ¬((2:Int)=3) by decide)];exact(by decide:(0+15)/16=0)
 ·rw[if_neg k2]
  by_cases k3:bR t=3
  ·rw[if_pos k3,if_pos k3];rfl
  ·rw[if_neg k3,if_neg k3];unfold dC;rw[if_neg (show ¬((1:Int)=3) by decide)];exact(by decide:(0+15)/16=0)
theorem Qo{t:Th}{s:Ts}(o:nv i s):dD (stepT cnt i t s).nd (stepT cnt i t s).n+(stepT cnt i t s).left=dD s.nd s.n+s.left:=by
 have xm:=yS o t;unfold stepT;generalize hd:sX t s=d at xm;generalize oQ i t (s.nd d)=nm;have en:qe t (s.nd d)=(if(s.nd d).names.length%16=0 then 1 else 0)+(if bR t=3 then((iD t).length+511)/512 else 0):=rfl;generalize qe t (s.nd d)=pv at en
 split
 ·rfl
 ·split
  ·rfl
  ·rename_i XD
   split
   ·rename_i h;have ho:=xU o t.same h.2;generalize s.eS.getD (jP t.same s.eS.length) 0=q at ho;have dq:d≠q:=λy=>by subst y;exact ho.2.2 xm.2.2
    show dD (bP (bP s.nd q (bO (s.nd q))) d (fJ (s.nd d) nm q)) s.n+(s.left-pv)=_
    rw[BO (f:=s.nd) (d:=d) (a:=if(s.nd d).names.length%16=0 then 1 else 0) (λk hk=>by
     rw[cK _ _ hk]
     by_cases e:k=q
     ·subst e;rw[dY];rfl
     ·rw[cK _ _ e]) (by rw[dY];exact FT xm.2.2) s.n,if_pos xm.2.1]
    rw[if_neg (show ¬bR t=3 by omega)]at en;omega
   ·split
    ·rfl
    ·show dD (bP (bP s.nd d (fJ (if bR t=2 then bO (s.nd d)else s.nd d) nm s.n)) s.n (jz t d (s.nd d))) s.n+dC (bP (bP s.nd d (fJ (if bR t=2 then bO (s.nd d)else s.nd d) nm s.n)) s.n (jz t d (s.nd d)) s.n)+(s.left-pv)=_;rw[dY,UL,BN (g:=bP s.nd d (fJ (if bR t=2 then bO (s.nd d)else s.nd d) nm s.n)) s.n λk hk=>by rw[cK _ _ (by omega)]]
     rw[BO (f:=s.nd) (d:=d) (a:=if(s.nd d).names.length%16=0 then 1 else 0) (λk hk=>by rw[cK _ _ hk]) (by
      rw[dY]
      split
      ·exact FT (x:=bO (s.nd d)) xm.2.2
      ·exact FT xm.2.2) s.n,if_pos xm.2.1]
     omega
theorem DX{cnt:Nat}:∀(l:List Th) (i:Nat) (s:Ts),nv i s->i<=40->∃j,j<=40/\nv j (gJ cnt i l s)/\dD (gJ cnt i l s).nd (gJ cnt i l s).n+(gJ cnt i l s).left=dD s.nd s.n+s.left
 | [],i,s,o,hi=>⟨i,hi,o,rfl⟩
 | t::r,i,s,o,hi=>by
  show ∃j,j<=40/\nv j (if 40<=i then s else gJ cnt (i+1) r (stepT cnt i t s))/\dD (if 40<=i then s else gJ cnt (i+1) r (stepT cnt i t s)).nd (if 40<=i then s else gJ cnt (i+1) r (stepT cnt i t s)).n+(if 40<=i then s else gJ cnt (i+1) r (stepT cnt i t s)).left=_
  by_cases h:40<=i
  ·rw[if_pos h];exact⟨i,hi,o,rfl⟩
  ·rw[if_neg h];obtain⟨j,hj,oj,e⟩:=DX (cnt:=cnt) r (i+1) (stepT cnt i t s) (Az o (by omega)) (by omega);exact⟨j,hj,oj,e.trans (Qo o)⟩
end Tr
namespace Tr
open Hp W Ad Tm Re Ss
theorem Nx(k v:Nat):bH (k+1) v=bH k v++[UInt8.ofNat (v/256 ^ k)]:=by
 unfold bH;rw[List.range_succ,List.map_append];rfl
theorem Qp(X ys:LV)(o:Nat)(y:Value):put X o (ys++[y])=(put X o ys).set (o+ys.length) y:=by
 induction ys generalizing X o with
 | nil=>rfl
 | cons z r ih=>
  show put (X.set o z) (o+1) (r++[y])=(put (X.set o z) (o+1) r).set (o+(r.length+1)) y;rw[ih,show o+1+r.length=o+(r.length+1) by omega]
theorem rE{b v:Nat}(w:du h b)(hw:o+l<=(rd h b).length)(hl:l<=8)(hv:v<9223372036854775808)
  (hK:∀h',yw b h h' (put (rd h b) o ((bH l v).map bv))->K (.tuple #[]) h'):C.fD (some ⟨b,o,none⟩) l c (v:Int) h K:=by
 refine fD.ok ⟨λn2 n3 hx=>∃k:Nat,n3=k/\k<=l/\n2=((v/256 ^ k:Nat):Int)/\yw b h hx (put (rd h b) o ((bH k v).map bv)),λ_ n3 _=>((l:Int)-n3).toNat,⟨0,rfl,Nat.zero_le _,by rw[Nat.pow_zero,Nat.div_one],⟨rfl,Fr.refl _ _,w,rfl⟩⟩,?_⟩;rintro n2 n3 hx ⟨k,rfl,hk,rfl,d⟩;have vk:v/256 ^ k<=v:=Nat.div_le_self _ _;refine cd (λdh=>?_) λvF=>?_
 ·refine⟨⟨by omega,by omega⟩,os ?_⟩;rw[Int.toNat_natCast,In.BE];refine bQ.add d.own (by rw[d.rd,eE];omega) λh3 d3=>?_
  have e1:Int.tdiv ((v/256 ^ k:Nat):Int) 256=((v/256 ^ (k+1):Nat):Int):=by
   rw[Nat.pow_succ,<-Nat.div_div_eq_div_mul];rfl
  have vk1:v/256 ^ (k+1)<=v:=Nat.div_le_self _ _;obtain⟨w1,hw1⟩:∃w1,v/256 ^ (k+1)=w1:=⟨_,rfl⟩;rw[hw1]at e1 vk1;rw[e1,wrap_i64 (show -9223372036854775808<=(w1:Int) by omega) (by omega),wrap_i64 (show -9223372036854775808<=(k:Int)+1 by omega) (by omega)];refine⟨⟨k+1,by omega,by omega,by rw[hw1],⟨d3.size.trans d.size,d.fr.trans d3.fr λ_ _ y=>y,d3.own,?_⟩⟩,by show((l:Int)-((k:Int)+1)).toNat<((l:Int)-(k:Int)).toNat;omega⟩;rw[d3.rd,d.rd,Nx,List.map_append,List.map_cons,List.map_nil,Qp,List.length_map,aI]
 ·have:k=l:=by omega
  subst this;exact hK hx d
end Tr
section
open Go
theorem BP{P:Program}{f:FuncId}{fn:Func}{s:ChangeSpec}{c:OpenClaim}
  (h1:c.wf (OpenSpec.ofChange s)=true) (h2:laidOutB P=true) (h3:mapsRowed P=true)
  (h4:(fn.params.all (P.readableRec ·) && namedTie P c.named s.vars && (c.stops == []) && (P.stops == []) && (c.knobs == []) && (P.stopKnobs == []))=true)
  (h5:(c.inPlace==P.inPlace f)=true) (h6:P.unfollowed f=true) (h6':c.unfollowed=true) (h6'':c.recurses=true) (h7:(c.named==P.varsNamed f)=true)
  (h8:((c.maps==(fn.params.toList++s.plain.varTypes P).any (P.mapsRec ·)) && (c.ifaces==(fn.params.toList++s.plain.varTypes P).any (P.ifacesRec ·)) && (c.mapsOut==P.mapsAmong fn.resultTypes.toList) &&
 (c.loops==(fn.params.toList++s.plain.varTypes P).any (P.loopsFrom ·)) && (c.wideKeys==(fn.params.toList++s.plain.varTypes P++fn.resultTypes.toList).any (P.wideKeysFrom ·)) &&
 s.vars.all (P.varReadable ·) && fn.resultTypes.all (λt=>P.readableRec t && decide (t<P.types.size)) && (c.ifacesOut==fn.resultTypes.toList.any (P.ifacesRec ·)) && (c.loopsOut==fn.resultTypes.toList.any (P.loopsFrom ·)))=true)
  (h9:(c.plainKeys==P.plainKeys)=true)
  (h10:(c.shortTexts.isNone && P.stopsHeard && P.mayEnter && (c.lifted==P.liftsFinal) && (P.make==some c.make) && (c.kinds==(if c.domain.isEmpty then[]else fn.params.toList.map λt=>match P.underlying t with|some (.int k)=>some k|_=>none)) && (c.pinned==c.pinnedBy))=true)
  (cg:((c.veiled==(fn.params.toList++s.plain.varTypes P++fn.resultTypes.toList).any (P.veiledRec ·)) && c.veiledFits P fn.params.toList (fn.params.toList++s.plain.varTypes P++fn.resultTypes.toList))=true) :
  joinedFacts P f fn s c=true:=by
 have r:P.recurses f=true:=by unfold Program.recurses;rw[h6];rfl
 simp only[Bool.and_eq_true]at h4 h8 h10 cg;obtain⟨⟨⟨⟨⟨a1,a2⟩,a3⟩,a4⟩,a5⟩,a6⟩:=h4;obtain⟨⟨⟨⟨⟨⟨⟨⟨b1,b2⟩,b3⟩,b4⟩,b5⟩,b6⟩,b7⟩,b8⟩,b9⟩:=h8;obtain⟨⟨⟨⟨⟨⟨c1,c2⟩,c3⟩,c4⟩,c5⟩,c6⟩,c7⟩:=h10;obtain⟨d1,d2⟩:=cg;simp only[joinedFacts,Bool.and_eq_true];have e1:(c.unfollowed==P.unfollowed f)=true:=by rw[h6,h6'];rfl
 have e2:(c.recurses==P.recurses f)=true:=by rw[r,h6''];rfl
 exact⟨⟨⟨⟨⟨⟨⟨⟨⟨⟨⟨⟨⟨⟨⟨⟨⟨⟨⟨⟨⟨⟨⟨⟨⟨⟨⟨⟨⟨⟨⟨h1,h2⟩,h3⟩,a1⟩,a2⟩,a3⟩,a4⟩,a5⟩,a6⟩,h5⟩,e1⟩,e2⟩,h7⟩,b1⟩,b2⟩,b3⟩,b4⟩,b5⟩,b6⟩,b7⟩,b8⟩,b9⟩,h9⟩,c1⟩,c2⟩,c3⟩,c4⟩,c5⟩,c6⟩,c7⟩,d1⟩,d2⟩
end
namespace Ad
open Hp W
def sx(ls:List LB)(ps:List (Int×LB)):List LB:=ps.foldl (λl p=>l.set p.1.toNat p.2) ls
def ZH(ps:List (Int×LB))(gL:List Bool):List (Int×LB):=((ps.zip gL).filter (·.2)).map (·.1)
def RD.cut(S:RD)(gL:List Bool):RD:={ S with dg:=sx S.dg (ZH S.lJ gL),lJ:=[],gL:=[],left:=0,down:=true }
theorem BQ(ps:List (Int×LB)):∀ls,(sx ls ps).length=ls.length:=by
 induction ps with
 | nil=>intro ls;rfl
 | cons p r ih=>intro ls;simp only[sx,List.foldl_cons]at ih ⊢;rw[ih,List.length_set]
def RD.step(S:RD)(f:RD->RD):RD×Int:=
 if 0<S.left then(if S.left-1=0 then(RD.cut { S with left:=S.left-1 } S.gL,30)else(f { S with left:=S.left-1 },0))else(f S,0)
def RD.Qq(S:RD)(i:Int)(b:LB):RD:={ S with lJ:=S.lJ++[(i,b)],tape:=S.tape++[(1,i,b)],writes:=IntKind.wrap .i64 (S.writes+1) }
def RD.write(S:RD)(i:Int)(b:LB):RD×Int:=
 if S.down then(S,30)else if ¬(0<=i/\i<S.dg.length)then(S,31)else if b.length≠512 then(S,32)else(S.Qq i b).step id
def RD.AA(S:RD):RD:={ S with dg:=sx S.dg S.lJ,lJ:=[],tape:=S.tape++[(2,0,[])] }
def RD.flush(S:RD):RD×Int:=if S.down then(S,30)else RD.step { S with fX:=IntKind.wrap .i64 (S.fX+1) } RD.AA
end Ad
namespace Rf
open Hp W Ad
structure FD where
 first:LB
 oC:List (Int×Int×LB)
 gL:List Bool
 left:Int
 out:Bool
 writes:Int
 fX:Int
structure Ny where
 fa:OA
 fn:Nat
 fc:Nat
 aa:OA
 an:Nat
 ac:Nat
 ka:OA
 kn:Nat
 kc:Nat
 left:Int
 out:Bool
 writes:Int
 fX:Int
def Ny.cells(r:Ny):LV:=
 [.slice r.fa r.fn r.fc,.slice r.aa r.an r.ac,.slice r.ka r.kn r.kc,.int .i64 r.left,.bool r.out,.int .i64 r.writes,.int .i64 r.fX]
structure Ref(h:ab)(b:Nat)(S:FD)(az:Nat->Nat)(m:Nat)(r:Ny)(es:List wQ):Prop where
 sc:az b=m
 so:du h b
 sr:rd h b=r.cells
 left:r.left=S.left
 out:r.out=S.out
 writes:r.writes=S.writes
 fX:r.fX=S.fX
 f:Sl h 1 r.fa r.fn r.fc (S.first.map bv) (On az (m+1))
 fn:r.fn=S.first.length
 acT:S.first.length<=8388608
 a:Sl h 3 r.aa r.an r.ac (es.flatMap wQ.cells) (On az (m+2))
 an:r.an=es.length
 acU:es.length<=140737488355328
 ts:vt h az (m+3) es S.oC
 k:Sl h 1 r.ka r.kn r.kc (S.gL.map .bool) (On az (m+4))
 kn:r.kn=S.gL.length
def zz(h:ab)(d:OA)(S:FD)(az:Nat->Nat)(m:Nat):Prop:=∃b r es,d=some ⟨b,0,none⟩/\Ref h b S az m r es
theorem Ref.DG{b:Nat}{S:FD}{r:Ny}{es:List wQ}(d:Ref h b S az m r es)(f:Fr F h h')(g:Ag h.size az bT)
  (hF:∀b,m<=az b->az b<=m+5->¬F b):Ref h' b S bT m r es:=by
 have hb:=d.so.lt;have hs:¬F b:=hF b (by have:=d.sc;omega) (by have:=d.sc;omega)
 exact⟨(g _ hb).trans d.sc,f.own hb hs d.so,(f.rd hb hs).trans d.sr,d.left,d.out,d.writes,d.fX,d.f.gL f g (λb e=>hF b (by omega) (by omega)),d.fn,d.acT,
  d.a.gL f g (λb e=>hF b (by omega) (by omega)),d.an,d.acU,vt.gL f g (λb e=>hF b (by omega) (by omega)) d.ts,d.k.gL f g (λb e=>hF b (by omega) (by omega)),d.kn⟩
theorem zz.gL{d:OA}{S:FD}(D:zz h d S az m)(f:Fr F h h')(g:Ag h.size az bT)
  (hF:∀b,m<=az b->az b<=m+5->¬F b):zz h' d S bT m:=by
 obtain⟨b,r,es,e,D⟩:=D;exact⟨b,r,es,e,D.DG f g hF⟩
theorem Ref.field{b:Nat}{S:FD}{r:Ny}{es:List wQ}(d:Ref h b S az m r es)(k:Nat):cellOf h (Addr.add ⟨b,0,none⟩ k)=r.cells[k]?:=by
 rw[cI,ko,d.sr,Nat.zero_add]
def JU(bs:LB):FD:=⟨bs,[],[],0,false,0,0⟩
theorem uq(B:aJ h a l bs)(hl:l<=140737488355328)
  (hK:∀a' c' h',Fr No h h'->Sl h' 1 a' l c' (bs.map bv) (bZ h.size)->K (.slice a' l c') h'):C.fh a l c h K:=by
 obtain⟨s1,s2,s3⟩:=aJ.src B;refine fh.ok ⟨_,s1,s2,s3,append_nil s1 rfl (by show l*1<=_;omega) hl hK⟩
theorem UM(az:Nat->Nat)(m:Nat)(B:aJ h a l bs)(hl:l<=140737488355328)
  (h1:l%512≠0∨l=0∨16384<l/512->K (.tuple #[.pointer none,.int .i64 32]) h)
  (h2:l%512=0->0<l->l/512<=16384->∀q h' bT,Fr No h h'->Ag h.size az bT->zz h' (some q) (JU bs) bT m->K (.tuple #[.pointer (some q),.int .i64 0]) h') :
  C.je a l c h K:=by
 have C1:=B.1;have hd:Int.tdiv (l:Int) 512=((l/512:Nat):Int):=by rw[Int.tdiv_eq_ediv_of_nonneg (by omega)];omega
 have hmd:Int.tmod (l:Int) 512=((l%512:Nat):Int):=by rw[Int.tmod_eq_emod_of_nonneg (by omega)];omega
 have hw:IntKind.wrap .i64 (Int.tdiv (l:Int) 512)=((l/512:Nat):Int):=by rw[hd];exact wrap_i64 (by omega) (by omega)
 refine je.ok (ce (λx=>h1 (Or.inr (Or.inl (by omega)))) λx=>cn (λy=>h1 (Or.inl (by omega))) λy=>?_);rw[hw];refine cd (λz=>h1 (Or.inr (Or.inr (by omega)))) λz=>uq B hl λa' c' h3 f3 s3=>⟨_,_,_,rfl,aC.intro λh4 n4=>?_⟩;refine h2 (by omega) (by omega) (by omega) _ _ (RJ (RJ az h.size (m+1)) h3.size m) (f3.new n4) ((A' _ _ _).trans (A' _ _ _) f3.size) ?_;refine⟨_,⟨a',l,c',none,0,0,none,0,0,0,false,0,0⟩,[],rfl,E3 (Nat.le_refl _),n4.own,n4.rd,rfl,rfl,rfl,rfl,?_,C1.symm,?_,Sl.nil _ _ _,rfl,by simp,trivial,Sl.nil _ _ _,rfl⟩
 ·have s:Sl h3 1 a' l c' (bs.map bv) (On (RJ az h.size (m+1)) (m+1)):=s3.mono λb hb=>E3 hb;exact s.gL n4.fr (A' _ _ _) (λ_ _ x=>x)
 ·show bs.length<=8388608;omega
theorem mF{d:OA}{S:FD}(D:zz h d S az m)
  (hK:K (.int .i64 (S.first.length/512:Nat)) h):C.bS d h K:=by
 obtain⟨b,r,es,rfl,D⟩:=D;refine bS.ok ⟨_,_,_,D.field 0,?_⟩;have hm:=D.acT;have hd:Int.tdiv (r.fn:Int) 512=((S.first.length/512:Nat):Int):=by rw[D.fn,Int.tdiv_eq_ediv_of_nonneg (by omega)];omega
 have hw:IntKind.wrap .i64 (Int.tdiv (r.fn:Int) 512)=((S.first.length/512:Nat):Int):=by rw[hd];exact wrap_i64 (by omega) (by omega)
 rw[hw];exact hK
end Rf
namespace Ad
open Hp W
theorem vt.at_{h:ab}{az:Nat->Nat}{k:Nat}:∀{es:List wQ} {ts:List (Int×Int×LB)},vt h az k es ts->∀i (h1:i<es.length) (h2:i<ts.length),
  es[i].kind=ts[i].1/\es[i].at_=ts[i].2.1/\aJ h es[i].a es[i].l ts[i].2.2/\(∀p,es[i].a=some p->p.block<h.size/\az p.block=k):=by
 intro es
 induction es with
 | nil=>intro ts _ i h1;exact absurd h1 (Nat.not_lt_zero _)
 | cons x r ih=>
  intro ts e i h1 h2
  cases ts with
  | nil=>exact e.elim
  | cons t s=>
   cases i with
   | zero=>exact⟨e.1,e.2.1,e.2.2.1,e.2.2.2.1⟩
   | succ i=>exact ih e.2.2.2.2 i (Nat.lt_of_succ_lt_succ h1) (Nat.lt_of_succ_lt_succ h2)
end Ad
namespace L3
open Hp W Ad
theorem ag.lt{xs:LV}(c:ag h (some p) xs)(hx:xs≠[]):p.block<h.size:=by
 cases xs with
 | nil=>exact absurd rfl hx
 | cons x r=>
  have:=(zj (c 0 x rfl)).2;have hb:(p.add 0).block=p.block:=by rw[Addr.add_zero]
  rw[hb]at this;exact vH this
theorem HN(ps:List (Int×LB)):∀ls,(∀x∈ls,x.length=512)->(∀x∈ps,x.2.length=512)->∀x∈sx ls ps,x.length=512:=by
 induction ps with
 | nil=>intro ls h _;exact h
 | cons p r ih=>
  intro ls h hp;refine ih _ (λx hx=>?_) (λx hx=>hp x (List.mem_cons_of_mem _ hx))
  rcases List.mem_or_eq_of_mem_set hx with hx|rfl
  ·exact h x hx
  ·exact hp p (List.mem_cons_self ..)
structure Calm(S:RD):Prop where
 down:S.down=false
 left:S.left=0
 lw:∀x∈S.dg,x.length=512
 pw:∀x∈S.lJ,x.2.length=512
theorem Calm.fresh{ls:List LB}(h:∀ x ∈ ls,x.length=512):Calm (fresh ls):=⟨rfl,rfl,h,λx hx=>by simp[Ad.fresh]at hx⟩
theorem Calm.flush{S:RD}(c:Calm S):S.flush.1=RD.AA { S with fX:=IntKind.wrap .i64 (S.fX+1) }:=by
 rw[RD.flush,if_neg (by rw[c.down];exact Bool.false_ne_true),RD.step,if_neg (by show ¬0<S.left;rw[c.left];omega)]
theorem Calm.Qq{S:RD}(c:Calm S)(i:Int){b:LB}(h:b.length=512):Calm (S.Qq i b):=
 ⟨c.down,c.left,c.lw,λx hx=>by
  rcases List.mem_append.mp hx with hx|hx
  ·exact c.pw x hx
  ·rw[List.mem_singleton.mp hx];exact h⟩
def again(S:RD)(t:Int×Int×LB):RD:=if t.1=2 then S.flush.1 else(S.write t.2.1 t.2.2).1
def replay(S:RD)(ts:List (Int×Int×LB)):RD:=ts.foldl again S
theorem Qr{pa:OA}{xs:List wQ}(P:ag h pa (xs.flatMap wQ.cells))(hi:i<xs.length):∃p,pa=some p/\ai h (p.add (i*3)) (wQ.cells xs[i]):=by
 cases pa with
 | none=>
  have P:xs.flatMap wQ.cells=[]:=P;have:=bw wQ.cells 3 xs (λ_ _=>rfl);rw[P]at this;simp at this;omega
 | some p=>
  have:=ai.part P (i*3) 3;rw[kq wQ.cells 3 xs (λ_ _=>rfl) _ hi]at this;exact⟨p,rfl,this⟩
structure Rot(h:ab)(a:OA)(l:Nat)(xs:List wQ)(ts:List (Int×Int×LB)):Prop where
 cells:ag h a (xs.flatMap wQ.cells)
 num:ts.length=l
 len:xs.length=ts.length
 at_:∀i (h1:i<xs.length) (h2:i<ts.length),xs[i].kind=ts[i].1/\xs[i].at_=ts[i].2.1/\aJ h xs[i].a xs[i].l ts[i].2.2
abbrev Tt :=Int×Int×LB
def Qs(ts:List Tt):Bool:=ts.any λt=>t.1==2
def Qu(gL:List Bool):List LB->List Tt->Nat->List LB
 | ls,[],_=>ls
 | ls,t::r,k=>if t.1=1 then Qu gL (if Qs r || gL.getD k false then ls.set t.2.1.toNat t.2.2 else ls) r (k+1)else Qu gL ls r 0
def May(N:Int)(t:Tt):Prop:=t.1=2∨(t.1=1/\0<=t.2.1/\t.2.1<N/\t.2.2.length=512)
theorem Rot.cell{es:List wQ}{ts:List Tt}(R:Rot h a l es ts){i:Nat}(hi:i<l) :
  ∃p e,a=some p/\ai h (p.add (i*3)) (wQ.cells e)/\e.kind=(ts.getD i (0,0,[])).1/\e.at_=(ts.getD i (0,0,[])).2.1/\aJ h e.a e.l (ts.getD i (0,0,[])).2.2/\i<ts.length/\es[i]?=some e:=by
 have h1:=R.num;have h2:=R.len;have h3:i<es.length:=by omega
 have h4:i<ts.length:=by omega
 obtain⟨p,e,c⟩:=Qr R.cells h3;obtain⟨x1,x2,x3⟩:=R.at_ i h3 h4;rw[List.getD_eq_getElem?_getD,List.getElem?_eq_getElem h4];exact⟨p,es[i],e,c,x1,x2,x3,h4,List.getElem?_eq_getElem h3⟩
end L3
namespace Rf
open Hp W Ad L3
def FD.N(S:FD):Nat:=S.first.length/512
def qA(i:Int)(z:LB)(ts:List Tt):LB:=ts.foldl (λb t=>if t.1=1/\t.2.1=i then t.2.2 else b) z
theorem wE(i:Int)(z:LB)(ts:List Tt)(t:Tt):qA i z (ts++[t])=if t.1=1/\t.2.1=i then t.2.2 else qA i z ts:=by unfold qA;rw[List.foldl_append];rfl
def LN(ts:List Tt):List Int:=ts.foldl (λl t=>if t.1=2 then[]else l++[t.2.1]) []
theorem JV(ts:List Tt)(t:Tt):LN (ts++[t])=if t.1=2 then[]else LN ts++[t.2.1]:=by unfold LN;rw[List.foldl_append];rfl
def FD.my(S:FD)(i:Int):LB:=(S.first.drop (i.toNat*512)).take 512
structure FD.Ok(S:FD):Prop where
 len:S.first.length=S.N*512
 max:S.N<=16384
 may:∀t∈S.oC,May (S.N:Nat) t
theorem UN(B:aJ h a l bs)(wv:l<=c)(Iv:i<=j)(hj:j<=l):aJ h (if c=i then a else Option.map (Addr.add · i) a) (j-i) ((bs.drop i).take (j-i)):=by
 by_cases e:c=i
 ·rw[if_pos e];have:j-i=0:=by omega
  rw[this,List.take_zero];exact aJ.nil _ _
 ·rw[if_neg e];exact aJ.take (aJ.drop B i) (by omega)
section
variable{h : ab}{d : OA}{S : FD}{az : Nat -> Nat}{m : Nat}{b : Nat}{r : Ny}{es : List wQ}
theorem Ref.rot(D:Ref h b S az m r es):Rot h r.aa r.an es S.oC:=
 ⟨D.a.cells,(vt.length D.ts).symm.trans D.an.symm,vt.length D.ts,λi h1 h2=>by obtain⟨x1,x2,x3,_⟩:=vt.at_ D.ts i h1 h2;exact⟨x1,x2,x3⟩⟩
theorem Ref.str(D:Ref h b S az m r es):aJ h r.fa r.fn S.first:=D.f.str
theorem fM{i:Int}(D:zz h d S az m)(ok:S.Ok)(hw:∀ t ∈ S.oC,t.2.2.length<=140737488355328)
  (h1:S.out=true->K (.tuple #[.slice none 0 0,.int .i64 30]) h) (h2:S.out=false->¬(0<=i/\i<(S.N:Nat))->K (.tuple #[.slice none 0 0,.int .i64 31]) h)
  (h3:S.out=false->0<=i->i<(S.N:Nat)->∀a c h',Fr No h h'->Sl h' 1 a (qA i (S.my i) S.oC).length c ((qA i (S.my i) S.oC).map bv) (bZ h.size)->K (.tuple #[.slice a (qA i (S.my i) S.oC).length c,.int .i64 0]) h'):C.bM d i h K:=by
 obtain⟨b,r,es,rfl,D⟩:=D;have R:=D.rot;refine bM.ok (os ⟨_,D.field 4,?_⟩);rw[D.out];refine cs (λho=>h1 ho) λho=>cd (λhi=>h2 ho (by omega)) λhi=>mF ⟨b,r,es,rfl,D⟩ ⟨_,rfl,cd (λhj=>h2 ho (by have hj:i>=((S.N:Nat):Int):=hj;omega)) λhj=>?_⟩;have hj:¬i>=((S.N:Nat):Int):=hj;have h3:=h3 ho (by omega) (by omega);have hnum:=R.num;have hmx:=ok.max;have hln:=ok.len;have hfn:=D.fn;have hamax:=D.acU;have hel:=R.len;unfold bM.k1;refine os ⟨_,_,_,D.field 1,λj hh=>-1<=j/\j<S.oC.length/\hh=h/\qA i (S.my i) S.oC=qA i (S.my i) (S.oC.take (j+1).toNat),λj _=>(j+1).toNat,⟨?_,?_,rfl,?_⟩,?_⟩
 ·rw[wrap_i64 (by omega) (by omega)];omega
 ·rw[wrap_i64 (by omega) (by omega)];omega
 ·rw[wrap_i64 (by omega) (by omega),List.take_of_length_le (by omega)]
 rintro j hh ⟨j0,j1,rfl,e⟩;refine cd (λdh=>?_) λdh=>?_
 ·obtain⟨p,en,ep,c,x1,x2,x3,Oq,_⟩:=R.cell (i:=j.toNat) (by omega);have ek:(S.oC.getD j.toNat (0,0,[]))=S.oC[j.toNat]:=by rw[List.getD_eq_getElem?_getD,List.getElem?_eq_getElem Oq];rfl
  rw[ek]at x1 x2 x3;have et:(j+1).toNat=j.toNat+1:=by omega
  rw[et,uT _ _ Oq,wE]at e
  have nxt:¬(S.oC[j.toNat].1=1/\S.oC[j.toNat].2.1=i)->((-1<=j-1/\j-1<S.oC.length/\hh=hh/\qA i (S.my i) S.oC=qA i (S.my i) (S.oC.take (j-1+1).toNat))/\(j-1+1).toNat<(j+1).toNat):=λy=>by
   rw[if_neg y]at e;exact⟨⟨by omega,by omega,rfl,by rw[show(j-1+1).toNat=j.toNat by omega];exact e⟩,by omega⟩
  have bd:(0:Int)<=j/\j<(r.an:Int):=⟨by omega,by omega⟩;refine os ⟨_,_,_,D.field 1,bd,?_⟩;rw[ep];refine os ⟨_,ai.cell c (i:=0) rfl,ce (λhk=>?_) λhk=>?_⟩
  ·refine os ⟨_,_,_,D.field 1,bd,?_⟩;rw[ep];refine os ⟨_,ai.cell c (i:=1) rfl,ce (λha=>?_) λha=>?_⟩
   ·rw[if_pos ⟨by omega,by omega⟩]at e;rw[e]at h3;have l3:=hw _ (List.getElem_mem Oq);have hx3:=x3.1;refine os ⟨_,_,_,D.field 1,bd,?_⟩;rw[ep];refine os ⟨_,_,_,ai.cell c (i:=2) rfl,uq x3 (by omega) λa5 c5 h5 f5 s5=>⟨_,_,_,rfl,?_⟩⟩;rw[<-hx3]at s5 ⊢;exact h3 a5 c5 h5 f5 s5
   ·rw[wrap_i64 (by omega) (by omega)];exact nxt λy=>ha (by omega)
  ·rw[wrap_i64 (by omega) (by omega)];exact nxt λy=>hk (by omega)
 ·have ej:(j+1).toNat=0:=by omega
  rw[ej,List.take_zero]at e;have e:qA i (S.my i) S.oC=S.my i:=e;rw[e]at h3;have lc:=D.f.le;have w1:IntKind.wrap .i64 (i*512)=i*512:=wrap_i64 (by omega) (by omega);have w2:IntKind.wrap .i64 (i*512+512)=i*512+512:=wrap_i64 (by omega) (by omega);refine os ⟨_,_,_,D.field 0,?_⟩;rw[w1,w2];have n1:(i*512).toNat=i.toNat*512:=by omega
  have n2:(i*512+512).toNat=i.toNat*512+512:=by omega
  have hf:(S.my i).length=512:=by unfold FD.my;rw[List.length_take,List.length_drop];omega
  rw[n1,n2];refine⟨⟨by omega,by omega,by omega⟩,?_⟩;have B:=UN (i:=i.toNat*512) (j:=i.toNat*512+512) D.str lc (by omega) (by omega);have hd:i.toNat*512+512-i.toNat*512=512:=by omega
  rw[hd]at B ⊢;refine uq B (by decide) λa5 c5 h5 f5 s5=>⟨_,_,_,rfl,?_⟩;rw[hf]at h3;exact h3 a5 c5 h5 f5 s5
end
theorem HO(D:RD)(ts:List Tt)(t:Tt):replay D (ts++[t])=again (replay D ts) t:=by unfold replay;rw[List.foldl_append];rfl
def FD.Q(S:FD):RD:=replay (Ad.fresh (chunks S.first)) S.oC
theorem zA{D:RD}(c:L3.Calm D){i:Int}{b:LB}(h0:0<=i)(h1:i<D.dg.length)(h2:b.length=512):again D (1,i,b)=D.Qq i b:=by
 rw[again,if_neg (show ¬((1:Int),i,b).1=2 from(by decide:¬(1:Int)=2)),RD.write,if_neg (by rw[c.down];exact Bool.false_ne_true),if_neg (λx=>x ⟨h0,h1⟩),if_neg (λx=>x h2),RD.step,if_neg (by show ¬0<D.left;rw[c.left];omega)];rfl
theorem zB{D:RD}(c:L3.Calm D){i:Int}{b:LB}:again D (2,i,b)=RD.AA { D with fX:=IntKind.wrap .i64 (D.fX+1) }:=by rw[again,if_pos rfl,c.flush]
theorem HQ{D:RD}(N:Nat):∀(ts:List Tt),L3.Calm D->D.dg.length=N->(∀t∈ts,May N t)->L3.Calm (replay D ts)/\(replay D ts).dg.length=N:=by
 intro ts
 induction ts generalizing D with
 | nil=>intro c h _;exact⟨c,h⟩
 | cons t r ih=>
  intro c hN hm;have hr:∀t∈r,May N t:=λt ht=>hm t (List.mem_cons_of_mem _ ht);have pH:replay D (t::r)=replay (again D t) r:=rfl;rw[pH];obtain⟨k,i,b⟩:=t
  rcases hm _ (List.mem_cons_self ..)with h2|⟨h1,e0,e1,e2⟩
  ·have h2:k=2:=h2;subst h2;rw[zB c];exact ih ⟨c.down,c.left,HN _ _ c.lw c.pw,λx hx=>by simp[RD.AA]at hx⟩ ((BQ _ _).trans hN) hr
  ·have h1:k=1:=h1;subst h1;rw[zA c e0 (by rw[hN];exact e1) e2];exact ih (c.Qq _ e2) hN hr
structure Sm(D:RD)(S:FD):Prop where
 ok:S.Ok
 tape:D.tape=S.oC
 writes:D.writes=S.writes
 fX:D.fX=S.fX
 down:D.down=S.out
 left:S.out=false->D.left=S.left
 gL:S.out=false->S.left≠0->D.gL=S.gL
 PJ:0<=S.left/\S.left<=9223372036854775807
 len:D.dg.length=S.N
 up:S.out=false->D.dg=S.Q.dg/\D.lJ=S.Q.lJ
 dn:S.out=true->D.dg=Qu S.gL (chunks S.first) S.oC 0/\D.lJ=[]
theorem C7(b:LB)(i:Int)(ps:List (Int×LB))(p:Int×LB):ik b i (ps++[p])=if p.1=i then p.2 else ik b i ps:=by unfold ik;rw[List.foldl_append];rfl
theorem BR(i:Nat):∀(ps:List (Int×LB)) (ls:List LB),i<ls.length->(∀x∈ps,0<=x.1)->(sx ls ps).getD i []=ik (ls.getD i []) i ps
 | [],_,_,_=>rfl
 | p::r,ls,hi,h=>by
  have h0:=h p (List.mem_cons_self ..);show(sx (ls.set p.1.toNat p.2) r).getD i []=ik (if p.1=i then p.2 else ls.getD i []) i r;rw[BR i r _ (by rw[List.length_set];exact hi) λx hx=>h x (List.mem_cons_of_mem _ hx)];congr 1;rw[List.getD_eq_getElem?_getD,List.getD_eq_getElem?_getD]
  by_cases e:p.1=i
  ·rw[if_pos e,show p.1.toNat=i by omega,List.getElem?_set_self hi];rfl
  ·rw[if_neg e,List.getElem?_set_ne (by omega)]
theorem HR(N i:Nat)(z:LB)(D0:RD)(c0:L3.Calm D0)(hN:D0.dg.length=N)(h0:D0.lJ=[])(hz:D0.dg.getD i []=z)(hi:i<N):∀(n:Nat) (ts:List Tt),ts.length=n->(∀t∈ts,May N t)->
  j5 (replay D0 ts) i=qA i z ts/\(∀x∈(replay D0 ts).lJ,0<=x.1)/\(replay D0 ts).lJ.map (·.1)=LN ts:=by
 intro n
 induction n with
 | zero=>
  intro ts hl _;have:ts=[]:=List.length_eq_zero_iff.mp hl;subst this;refine⟨?_,?_,?_⟩
  ·show ik (D0.dg.getD i []) i D0.lJ=z;rw[h0,hz];rfl
  ·intro x hx;have hx:x∈D0.lJ:=hx;rw[h0]at hx;cases hx
  ·show D0.lJ.map (·.1)=[];rw[h0];rfl
 | succ n ih=>
  intro ts hl hm;have fB:ts≠[]:=λe=>by rw[e]at hl;cases hl
  obtain⟨us,t,rfl⟩:∃us t,ts=us++[t]:=⟨ts.dropLast,ts.getLast fB,(List.dropLast_concat_getLast fB).symm⟩;have hu:∀t∈us,May N t:=λx hx=>hm x (List.mem_append_left _ hx);obtain⟨i1,i2,i3⟩:=ih us (by rw[List.length_append]at hl;simpa using hl) hu;obtain⟨c,lq⟩:=HQ N us c0 hN hu;rw[HO,wE,JV];obtain⟨k,j,b⟩:=t
  rcases hm (k,j,b) (List.mem_append_right _ (List.mem_singleton.mpr rfl))with h2|⟨h1,e0,e1,e2⟩
  ·have h2:k=2:=h2;subst h2;rw[zB c,if_neg (λy=>by have:=y.1;simp at this),if_pos rfl];refine⟨?_,λx hx=>(by cases hx),rfl⟩;rw[<-i1];exact BR i _ _ (by rw[lq];exact hi) i2
  ·have h1:k=1:=h1;subst h1;rw[zA c e0 (by rw[lq];exact e1) e2,if_neg (show ¬((1:Int),j,b).1=2 from(by decide:¬(1:Int)=2))];refine⟨?_,λx hx=>?_,?_⟩
   ·show ik ((replay D0 us).dg.getD i []) i ((replay D0 us).lJ++[(j,b)])=_;rw[C7,<-i1]
    by_cases e:j=i
    ·rw[if_pos e,if_pos ⟨rfl,e⟩]
    ·rw[if_neg e,if_neg (λy=>e y.2)];rfl
   ·rcases List.mem_append.mp hx with hx|hx
    ·exact i2 x hx
    ·rw[List.mem_singleton.mp hx];exact e0
   ·show((replay D0 us).lJ++[(j,b)]).map (·.1)=_;rw[List.map_append,i3];rfl
theorem Sm.read{D:RD}{S:FD}(s:Sm D S)(ho:S.out=false){i:Nat}(hi:i<S.N):j5 D i=qA i (S.my i) S.oC:=by
 obtain⟨u1,u2⟩:=s.up ho;have hl:(chunks S.first).length=S.N:=by rw[mg];rfl
 have hz:(Ad.fresh (chunks S.first)).dg.getD i []=S.my i:=by
  show(chunks S.first).getD i []=_;rw[List.getD_eq_getElem?_getD,List.getElem?_eq_getElem (by rw[hl];exact hi),Option.getD_some,sj];rfl
 obtain⟨r1,_⟩:=HR S.N i (S.my i) (Ad.fresh (chunks S.first)) (L3.Calm.fresh (Jz _)) hl rfl hz hi S.oC.length S.oC rfl s.ok.may;rw[<-r1];unfold j5;rw[u1,u2];rfl
theorem Qv(h1:bs.length % 512=0)(h2:bs.length / 512<=16384):Sm (Ad.fresh (chunks bs)) (JU bs):=
 ⟨⟨by show bs.length=bs.length/512*512;omega,h2,λt ht=>(by cases ht)⟩,rfl,rfl,rfl,rfl,λ_=>rfl,λ_ y=>absurd rfl y,⟨Int.le_refl _,by show(0:Int)<=_;decide⟩,by show(chunks bs).length=_;rw[mg];rfl,λ_=>⟨rfl,rfl⟩,λy=>(by cases y)⟩
def zC(h:ab)(E:NP)(r:OA)(D:RD):Prop:=∃az S,zz h r S az 1/\Sm D S/\0<S.N/\(∀t∈S.oC,t.2.2.length<=512)/\(∀b,h.size<=b->az b=0)/\∀b,E b↔1<=az b/\az b<=6
section
variable{h h' : ab}{E F : Nat -> Prop}{r : OA}{D : RD}
theorem zC.mk{S:FD}(a:zz h r S az 1)(s:Sm D S)(p:0<S.N)(w:∀ t ∈ S.oC,t.2.2.length<=512):zC h (λb=>b<h.size/\1<=az b/\az b<=6) r D:=by
 refine⟨trim az h.size,S,a.gL (F:=No) (Fr.refl _ h) (Lr _ _) λ_ _ _ x=>x,s,p,w,λb hb=>Aw hb,λb=>⟨λhb=>by rw[Au hb.1];exact hb.2,λhb=>?_⟩⟩
 rcases Nat.lt_or_ge b h.size with h1|h1
 ·rw[Au h1]at hb;exact⟨h1,hb⟩
 ·rw[Aw h1]at hb;omega
theorem zC.lt(x:zC h E r D){b:Nat}(hb:E b):b<h.size:=by
 obtain⟨az,S,_,_,_,_,hz,hD⟩:=x
 rcases Nat.lt_or_ge b h.size with h1|h1
 ·exact h1
 ·have:=(hD b).mp hb;rw[hz b h1]at this;omega
theorem zC.fr(x:zC h E r D)(f:Fr F h h')(hF:∀ b,E b->¬ F b):zC h' E r D:=by
 obtain⟨az,S,a,s,p,w,hz,hD⟩:=x;have:=f.size;exact⟨az,S,a.gL f (Ag.refl _ _) λb h1 h2=>hF b ((hD b).mpr ⟨h1,by omega⟩),s,p,w,λb hb=>hz b (by omega),hD⟩
theorem zC.no(x:zC h E r D)(f:Fr No h h'):zC h' E r D:=x.fr f λ_ _ y=>y
theorem zC.blocks(x:zC h E r D)(hK:K (.int .i64 D.dg.length) h):C.bS r h K:=by
 obtain⟨az,S,A,s,p,w,hz,hD⟩:=x;refine mF A ?_;rw[s.len]at hK;exact hK
theorem zC.read{i:Int}{K:KT}(x:zC h E r D)
  (h1:D.down=true->K (.tuple #[.slice none 0 0,.int .i64 30]) h) (h2:D.down=false->¬(0<=i/\i<D.dg.length)->K (.tuple #[.slice none 0 0,.int .i64 31]) h)
  (h3:D.down=false->0<=i->i<D.dg.length->∀a l c h',Fr No h h'->Sl h' 1 a l c ((j5 D i.toNat).map bv) (bZ h.size)->K (.tuple #[.slice a l c,.int .i64 0]) h'):C.bM r i h K:=by
 obtain⟨az,S,A,s,p,w,hz,hD⟩:=x;rw[s.down,s.len]at *;refine fM A s.ok (λt ht=>Nat.le_trans (w t ht) (by decide)) h1 h2 λho i0 i1 a c h' f sl=>?_;have e:=s.read ho (i:=i.toNat) (by omega);rw[show((i.toNat:Nat):Int)=i by omega]at e;rw[e]at h3;exact h3 ho i0 i1 a _ c h' f sl
theorem UO(h0:0<bs.length)(h1:bs.length % 512=0):0<(JU bs).N:=by
 show 0<bs.length/512;omega
theorem zC.of(B:aJ h a l bs)(hl:l<=140737488355328)
  (h1:l%512≠0∨l=0∨16384<l/512->K (.tuple #[.pointer none,.int .i64 32]) h)
  (h2:l%512=0->0<l->l/512<=16384->∀q h' E,Fr No h h'->(∀b,E b->h.size<=b)->zC h' E (some q) (fresh (chunks bs))->K (.tuple #[.pointer (some q),.int .i64 0]) h'):C.je a l c h K:=by
 refine UM (λ_=>0) 1 B hl h1 λy1 y2 y3 q h' bT f g A=>?_;have bl:=B.1;refine h2 y1 y2 y3 q h' _ f (λb hb=>?_) (zC.mk A (Qv (by omega) (by omega)) (UO (by omega) (by omega)) λt ht=>by cases ht)
 rcases Nat.lt_or_ge b h.size with h1|h1
 ·have e:bT b=0:=g b h1;omega
 ·exact h1
end
end Rf
namespace Wd
open Hp W Ad Wc Rf
open L3 (Tt)
theorem DY{N:Int}{i:Int}:∀(n:Nat) (ts:List Tt) (z:LB),ts.length=n->z.length=512->(∀t∈ts,L3.May N t)->(qA i z ts).length=512
 | 0,ts,z,hn,hz,_=>by rw[List.eq_nil_of_length_eq_zero hn];exact hz
 | n+1,ts,z,hn,hz,hm=>by
  have ne:ts≠[]:=λe=>by rw[e]at hn;cases hn
  rw[<-List.dropLast_concat_getLast ne,wE];have hl:=hm _ (List.getLast_mem ne)
  split
  ·rename_i h
   rcases hl with h2|h2
   ·rw[h.1]at h2;exact absurd h2 (by decide)
   ·exact h2.2.2.2
  ·exact DY n _ z (by rw[List.length_dropLast,hn];rfl) hz λt ht=>hm t (List.dropLast_subset _ ht)
theorem zC.mZ{E:NP}{r:OA}{D:RD}(x:zC h E r D)(hd:D.down=false){i:Nat}(hi:i<D.dg.length):(j5 D i).length=512:=by
 obtain⟨az,S,_,s,_,_,_,_⟩:=x;have ho:S.out=false:=by rw[<-s.down];exact hd
 rw[s.len]at hi;rw[s.read ho hi];refine DY _ _ _ rfl ?_ s.ok.may;unfold FD.my;rw[List.length_take,List.length_drop,s.ok.len];have:(i+1)*512<=S.N*512:=Nat.mul_le_mul_right _ hi;have:((i:Int)).toNat=i:=Int.toNat_natCast i;rw[this];omega
end Wd
namespace In
open Hp W Su Re Hd
theorem kZ(B:aJ h a l bs)(hl:l<=7)(hK:K (.int .i64 (lT bs:Int)) h):C.aO a l c h K:=by
 have hb:=B.1;refine aO.ok ?_;unfold aO;rw[wrap_i64 (by omega) (by omega)];refine⟨λn i hh=>-1<=i/\i<l/\h=hh/\n=(lT (bs.drop (i+1).toNat):Int),λ_ i _=>(i+1).toNat,⟨by omega,by omega,rfl,?_⟩,?_⟩
 ·rw[show((l:Int)-1+1).toNat=bs.length by omega,List.drop_length];rfl
 rintro n i _ ⟨i0,i1,rfl,rfl⟩;refine cd (λhi=>?_) λhi=>?_
 ·have hi:0<=i:=hi;have hib:i.toNat<bs.length:=by omega
  obtain⟨p,rfl,c5⟩:∃p,a=some p/\cellOf h (p.add i.toNat)=some (bv bs[i.toNat]):=by
   obtain⟨_,B2⟩:=B
   cases a with
   | none=>have:bs.map bv=[]:=B2;rw[List.map_eq_nil_iff]at this;rw[this]at hib;exact absurd hib (Nat.not_lt_zero _)
   | some p=>exact⟨p,rfl,ai.cell B2 (by rw[List.getElem?_map,List.getElem?_eq_getElem hib];rfl)⟩
  have ed:bs.drop i.toNat=bs[i.toNat]::bs.drop (i+1).toNat:=by rw[show(i+1).toNat=i.toNat+1 by omega];exact List.drop_eq_getElem_cons hib
  have lt1:=tV (bs.drop i.toNat);have hp:256 ^ (bs.drop i.toNat).length<=256 ^ 7:=Nat.pow_le_pow_right (by decide) (by rw[List.length_drop];omega);have el:lT (bs.drop i.toNat)=bs[i.toNat].toNat+256*lT (bs.drop (i+1).toNat):=by rw[ed];rfl
  have h7:(256:Nat) ^ 7=72057594037927936:=by decide
  have X2:=bs[i.toNat].toNat_lt;refine⟨⟨hi,i1⟩,os ⟨_,c5,?_⟩⟩;rw[wrap_i64 (n:=(lT (bs.drop (i+1).toNat):Int)*256) (by omega) (by omega),wrap_i64 (n:=((bs[i.toNat].toNat:Nat):Int)) (by omega) (by omega),wrap_i64 (n:=i-1) (by omega) (by omega),wrap_i64 (by omega) (by omega)];refine⟨⟨by omega,by omega,rfl,?_⟩,by show(i-1+1).toNat<(i+1).toNat;omega⟩;rw[show(i-1+1).toNat=i.toNat by omega,el];omega
 ·have hi:¬0<=i:=hi;rw[show(i+1).toNat=0 by omega,List.drop_zero];exact hK
theorem ZI(xs ys:LB):((mkStr xs).toList==(mkStr ys).toList)=decide (xs=ys):=by
 rw[toList_mkStr,toList_mkStr,Bool.eq_iff_iff,beq_iff_eq,decide_eq_true_eq]
theorem vb(B:aJ h a l bs)(wv:l<=c)(Iv:i<=j)(hj:j<=l)(h7:j - i<=7)(hK:K (.int .i64 (gr bs i (j - i):Nat)) h) :
  C.aO (if c=i then a else Option.map (Addr.add · i) a) (j-i) (c-i) h K:=kZ (aJ.cut B wv Iv hj) h7 hK
theorem sy{b:Nat}{h1 h2 h9:ab}(n2:oM h1 h2 (ints oO))(B:aJ h2 a 64 bs)(hc:64<=c)(f:Fr No h2 h9)(hb:h2.size<=b)(w:du h9 b)
  (r:rd h9 b=ints ((jD bs).take 3++(List.replicate 12 0++[]))) (hK:∀h',Fr No h1 h'->K (.tuple #[.agg ⟨ints (mY bs).1⟩,.int .i64 (mY bs).2]) h'):cy.k1 a 64 c h1 (some ⟨b,0,none⟩) h9 K:=by
 have Zc:bs.length=64:=B.1;have gl:=kV bs;have s2:=n2.size;refine⟨λi hh=>0<=i/\i<=10/\Fr No h2 hh/\du hh b/\rd hh b=ints ((jD bs).take (3+i.toNat)++(List.replicate (12-i.toNat) 0++[])),λi _=>((10:Nat)-i).toNat,⟨by omega,by omega,f,w,r⟩,?_⟩;rintro i h10 ⟨i0,i1,f10,UI,CL⟩
 have ll:∀k,k<=15->(ints ((jD bs).take k++(List.replicate (15-k) 0++[]))).length=15:=λk hk=>by
  rw[ah,List.length_append,List.length_append,List.length_take,List.length_replicate,gl,List.length_nil];omega
 have fill:∀(k:Nat) (hk:k<15) (v:Int),(jD bs)[k]'(by omega)=v->(ints ((jD bs).take k++(List.replicate (15-k) 0++[]))).set k (.int .i64 v)=ints ((jD bs).take (k+1)++(List.replicate (15-(k+1)) 0++[])):=λk hk v e=>by
  have:=Ha (jD bs) 0 [] k (15-k) (by omega) (by omega);rw[e]at this;rw[show 15-(k+1)=15-k-1 by omega,<-this,ints,ints,List.map_set]
 have l10:(rd h10 b).length=15:=by
  have:=ll (3+i.toNat) (by omega);rw[CL,show 12-i.toNat=15-(3+i.toNat) by omega];exact this
 refine cd (λhi=>?_) λhi=>?_
 ·have hi:i<10:=hi;rw[wrap_i64 (n:=4*i) (by omega) (by omega),wrap_i64 (n:=8+4*i) (by omega) (by omega),wrap_i64 (n:=12+4*i) (by omega) (by omega),wrap_i64 (n:=i+1) (by omega) (by omega)];refine⟨⟨by omega,by omega,by omega⟩,vb (aJ.fr f10 B λ_ _ x=>x) hc (by omega) (by omega) (by omega) ⟨_,rfl,os ⟨⟨i0,hi⟩,?_⟩⟩⟩;rw[cI];refine bQ.add UI (by omega) λbb d12=>⟨⟨by omega,by omega,f10.did d12 λdh=>by omega,d12.own,?_⟩,j8 (m:=10) hi⟩;have e:=fill (3+i.toNat) (by omega) _ (xx bs (i:=i.toNat) (by omega) (by omega))
  rw[d12.rd,CL,show 0+3+i.toNat=3+i.toNat by omega,show 12-i.toNat=15-(3+i.toNat) by omega,show 3+(i+1).toNat=3+i.toNat+1 by omega,show 12-(i+1).toNat=15-(3+i.toNat+1) by omega,<-e,
   show(8+4*i).toNat=8+4*i.toNat by omega,show(12+4*i).toNat-(8+4*i.toNat)=4 by omega]
 ·have hi:¬i<10:=hi;have ei:i.toNat=10:=by omega
  rw[ei]at CL;refine⟨⟨by omega,by omega,by omega⟩,vb (aJ.fr f10 B λ_ _ x=>x) hc (by decide) (by decide) (by decide) ⟨_,rfl,os (bQ.add UI (by omega) λgh d14=>?_)⟩⟩;have e13:=fill 13 (by omega) _ (xx bs (i:=10) (by omega) (by omega));have r14:rd gh b=ints ((jD bs).take 14++(List.replicate 1 0++[])):=by rw[d14.rd,CL];exact e13
  have f14:=f10.did d14 λdh=>by omega
  refine⟨⟨by omega,by omega,by omega⟩,vb (aJ.fr f14 B λ_ _ x=>x) hc (by decide) (by decide) (by decide) ⟨_,rfl,os (bQ.add d14.own (by rw[r14,ll 14 (by omega)];omega) λiS d16=>?_)⟩⟩;have e14:=fill 14 (by omega) _ (xx bs (i:=11) (by omega) (by omega))
  have UP:rd iS b=ints (jD bs):=by
   rw[d16.rd,r14];have:ints ((jD bs).take 15++(List.replicate 0 0++[]))=ints (jD bs):=(by rw[List.take_of_length_le (by omega)];simp);rw[<-this];exact e14
  have f16:=f14.did d16 λdh=>by omega
  have z17:∀{hq:ab},Fr No h2 hq->du hq h1.size/\(rd hq h1.size).length=15:=λfq=>⟨fq.own n2.own.lt (λx=>x) n2.own,by rw[fq.rd n2.own.lt (λx=>x),n2.rd];rfl⟩;refine os ⟨ints (jD bs),by rw[ah,gl],aj UP,FI gl (λhm eM f17=>?_) λhm a17 c17 eM f17 XE=>?_⟩
  ·have Qw:=f16.no f17;refine⟨_,_,_,_,rfl,cn (λ_=>?_) λh=>absurd h (by decide)⟩;refine iv (h3:=h1) (n2.fr.no Qw) (Nat.le_refl _) (z17 Qw).1 (z17 Qw).2 λh' f'=>?_;have:=hK h' f';rw[mY,if_neg (by omega),show nA bs=false by rw[nA,hm,Bool.and_false]]at this;exact this
  ·have Qw:=f16.no f17;refine⟨_,_,_,_,rfl,cn (λh=>absurd rfl h) λ_=>⟨_,XE.str,_,aJ.fr Qw B λ_ _ x=>x,?_⟩⟩;rw[ZI];refine jj (cd (λhe=>?_) λhe=>?_)
   ·have Gg:=(G' Zc).mp he;have ZJ:rd eM b=ints (jD bs):=(f17.rd d16.own.lt λx=>x).trans UP;refine os ?_;refine DF (h3:=h1) gl (n2.fr.no Qw) (Nat.le_refl _) (z17 Qw).1 (z17 Qw).2 ZJ λh' f'=>?_;have:=hK h' f';rw[mY,if_neg (by omega),show nA bs=true by rw[nA,hm,Gg];rfl]at this;exact this
   ·have Gg:clean bs=false:=by
     cases e:clean bs with
     | false=>rfl
     | true=>exact absurd ((G' Zc).mpr e) he
    refine iv (h3:=h1) (n2.fr.no Qw) (Nat.le_refl _) (z17 Qw).1 (z17 Qw).2 λh' f'=>?_;have:=hK h' f';rw[mY,if_neg (by omega),show nA bs=false by rw[nA,Gg,Bool.false_and]]at this;exact this
theorem FU(B:aJ h a l bs)(wv:l<=c)(hK:∀ h',Fr No h h'->K (.tuple #[.agg ⟨ints (mY bs).1⟩,.int .i64 (mY bs).2]) h'):C.cy a l c h K:=by
 have hb:=B.1;refine cy.ok (aC.intro λh2 n2=>cn (λhl=>?_) λhl=>?_)
 ·have e:mY bs=(oO,32):=by rw[mY,if_pos (by omega)]
  rw[e]at hK;exact iv (h3:=h) n2.fr (Nat.le_refl _) n2.own (by rw[n2.rd];rfl) hK
 have hl:l=64:=by omega
 subst hl;have gl:=kV bs;have B2:=aJ.fr n2.fr B λ_ _ x=>x;have e3:([.int .i64 (gr bs 0 (1-0):Nat),.int .i64 (gr bs 2 (4-2):Nat),.int .i64 (gr bs 4 (8-4):Nat),.int .i64 0,.int .i64 0,.int .i64 0,.int .i64 0,.int .i64 0,.int .i64 0,.int .i64 0,.int .i64 0,.int .i64 0,.int .i64 0,.int .i64 0,.int .i64 0]:LV)
   = ints ((jD bs).take 3++(List.replicate 12 0++[])):=rfl
 have gg:∀{hq:ab} {K:KT} (i j:Nat),Fr No h2 hq->i<=j->j<=64->j-i<=7->K (.int .i64 (gr bs i (j-i):Nat)) hq->C.aO (if c=i then a else Option.map (Addr.add · i) a) (j-i) (c-i) hq K:=λi j fq h1 h2 h4 hk=>
  vb (aJ.fr fq B2 λ_ _ x=>x) wv h1 h2 h4 hk
 -- a block of one's own, made ZK, takes the row
 have Qx:∀{hq hr:ab} {cs:LV} {k:HP},oM hq hr (ints oO)->cs=ints ((jD bs).take 3++(List.replicate 12 0++[]))->Fr No h2 hq->(∀h',Fr No h2 h'->du h' hq.size->rd h' hq.size=ints ((jD bs).take 3++(List.replicate 12 0++[]))->k h')->ar ⟨hq.size,0,none⟩ cs 15 hr k:=by
  intro hq hr cs k nq ec fq hk;subst ec;have sq:=fq.size;refine ar.intro nq.own (by rw[ah,List.length_append,List.length_take,gl];rfl) (av _) (by rw[nq.rd];exact Nat.le_refl _) λh' d'=>hk h' ((fq.new nq).did d' λdh=>by omega) d'.own ?_;rw[d'.rd,nq.rd];exact cM _ _ (by rw[ah,List.length_append,List.length_take,gl];rfl)
 refine⟨⟨by omega,by omega,by omega⟩,⟨by omega,by omega,by omega⟩,⟨by omega,by omega,by omega⟩,?_⟩;refine⟨gg 0 1 (Fr.refl _ _) (by decide) (by decide) (by decide) ⟨_,rfl,⟨gg 2 4 (Fr.refl _ _) (by decide) (by decide) (by decide) ⟨_,rfl,⟨gg 4 8 (Fr.refl _ _) (by decide) (by decide) (by decide) ⟨_,rfl,?_⟩,?_⟩⟩,?_⟩⟩,?_⟩
 ·rw[e3];exact ax.intro (by rw[ah,List.length_append,List.length_take,gl];rfl) (av _) rfl λh8 n8=>sy n2 B2 wv n8.fr (Nat.le_refl _) n8.own n8.rd hK
 ·exact aC.intro λlx n21=>gg 4 8 n21.fr (by decide) (by decide) (by decide) ⟨_,rfl,Qx n21 e3 (Fr.refl _ _) λlu f23 w23 P4=>sy n2 B2 wv f23 (Nat.le_refl _) w23 P4 hK⟩
 ·exact aC.intro λlx n21=>gg 2 4 n21.fr (by decide) (by decide) (by decide) ⟨_,rfl,gg 4 8 n21.fr (by decide) (by decide) (by decide) ⟨_,rfl,Qx n21 e3 (Fr.refl _ _) λlu f23 w23 P4=>sy n2 B2 wv f23 (Nat.le_refl _) w23 P4 hK⟩⟩
 ·exact aC.intro λlx n21=>gg 0 1 n21.fr (by decide) (by decide) (by decide) ⟨_,rfl,gg 2 4 n21.fr (by decide) (by decide) (by decide) ⟨_,rfl,gg 4 8 n21.fr (by decide) (by decide) (by decide) ⟨_,rfl,Qx n21 e3 (Fr.refl _ _) λlu f23 w23 P4=>sy n2 B2 wv f23 (Nat.le_refl _) w23 P4 hK⟩⟩⟩
end In
namespace Ss
open Hp W Re Sk Ch
theorem Nz : ∀m,aW [Value.int .u8 0] m=(List.replicate m (0:UInt8)).map bv:=λm=>by
 induction m with
 | zero=>rfl
 | succ m ih=>rw[List.replicate_succ,List.map_cons,<-ih];rfl
theorem xV{s:LB}(hK:K (.bool (bf s)) h):C.dR (mkStr s) h K:=by
 have iH:(mkStr s).size=s.length:=rfl;refine dR.ok ?_;unfold dR;rw[iH,toList_mkStr,toList_mkStr,toList_mkStr];have no:bf s=false->K (.bool false) h:=λe=>by rw[<-e];exact hK
 have nn:∀x:Prop,(Jx s->x)->¬x->bf s=false:=λx hx hn=>by
  cases e:bf s with
  | false=>rfl
  | true=>exact absurd (hx (fI.mp e)) hn
 refine cd (λx=>no (nn _ (λe=>e.pos) (by omega))) λx1=>cd (λx=>no (nn _ (λe=>e.le) (by omega))) λx2=>cs (λx=>no (nn _ (λe=>e.dot) (by simpa using x))) λx3=>cs (λx=>no (nn _ (λe=>e.acd) (by simpa using x))) λx4=>?_;have x3:s≠[46]:=by simpa using x3
 have x4:s≠[46,46]:=by simpa using x4
 unfold dR.k1;rw[iH];refine⟨λi hh=>0<=i/\i<=s.length/\h=hh/\(s.take i.toNat).any jU=false,λi _=>((s.length:Int)-i).toNat,⟨by omega,by omega,rfl,rfl⟩,?_⟩;rintro i _ ⟨i0,i1,rfl,q⟩;refine cd (λhi=>?_) λhi=>?_
 ·have oK:i.toNat<s.length:=by omega
  have gs:(mkStr s).toList[i.toNat]?=some s[i.toNat]:=by rw[toList_mkStr,List.getElem?_eq_getElem oK]
  have mem:s[i.toNat]∈s:=List.getElem_mem oK;refine⟨⟨i0,hi⟩,_,gs,ce (λx=>no (nn _ (λe=>(e.all _ mem).1) ?_)) λx=>⟨⟨i0,hi⟩,_,gs,ce (λy=>no (nn _ (λe=>(e.all _ mem).2) ?_)) λy=>?_⟩⟩
  ·intro fB;exact fB (UInt8.toNat_inj.mp (by have:((s[i.toNat].toNat:Nat):Int)=47:=x;show _=47;omega))
  ·intro fB;exact fB (UInt8.toNat_inj.mp (by have:((s[i.toNat].toNat:Nat):Int)=0:=y;show _=0;omega))
  ·rw[wrap_i64 (by omega) (by omega)];refine⟨⟨by omega,by omega,rfl,?_⟩,by show((s.length:Int)-(i+1)).toNat<((s.length:Int)-i).toNat;omega⟩;rw[show(i+1).toNat=i.toNat+1 by omega,List.take_succ_eq_append_getElem oK,List.any_append,q,List.any_cons,<-FM,decide_eq_false (by omega),decide_eq_false (by omega)];rfl
 ·rw[List.take_of_length_le (by omega)]at q
  have:bf s=true:=fI.mpr ⟨by omega,by omega,x3,x4,λb hb=>by
   have:=List.any_eq_false.mp q b hb;unfold jU at this
   simpa using this⟩
  rw[this]at hK;exact hK
theorem kZ(B:aJ h a l bs)(hl:4<=l)(hK:K (.int .i64 (lT (bs.take 4):Nat)) h):C.gH a l c h K:=by
 have hb:=B.1;obtain⟨p,rfl,c0⟩:=qa B (i:=0) (by omega);obtain⟨_,e,c1⟩:=qa B (i:=1) (by omega)
 cases e
 obtain⟨_,e,c2⟩:=qa B (i:=2) (by omega)
 cases e
 obtain⟨_,e,c3⟩:=qa B (i:=3) (by omega)
 cases e
 have eb:bs.take 4=[bs[0],bs[1],bs[2],bs[3]]:=by
  apply List.ext_getElem
  ·rw[List.length_take];simp;omega
  ·intro i h1 h2;have h2:i<4:=h2;rw[List.getElem_take];obtain rfl|rfl|rfl|rfl:i=0∨i=1∨i=2∨i=3:=by omega
   all_goals rfl
 have t0:=(bs[0]).toNat_lt;have t1:=(bs[1]).toNat_lt;have t2:=(bs[2]).toNat_lt;have t3:=(bs[3]).toNat_lt;rw[eb]at hK;simp only[lT]at hK;refine gH.ok ⟨⟨by omega,by omega⟩,os ⟨_,c0,⟨by omega,by omega⟩,os ⟨_,c1,⟨by omega,by omega⟩,os ⟨_,c2,⟨by omega,by omega⟩,os ⟨_,c3,?_⟩⟩⟩⟩⟩;generalize bs[0].toNat=x0 at *;generalize bs[1].toNat=x1 at *;generalize bs[2].toNat=x2 at *;generalize bs[3].toNat=x3 at *
 rw[wrap_i64 (n:=(x0:Int)) (by omega) (by omega),wrap_i64 (n:=(x1:Int)) (by omega) (by omega),wrap_i64 (n:=(x2:Int)) (by omega) (by omega),wrap_i64 (n:=(x3:Int)) (by omega) (by omega),
  wrap_i64 (n:=256*(x1:Int)) (by omega) (by omega),wrap_i64 (n:=65536*(x2:Int)) (by omega) (by omega),wrap_i64 (n:=16777216*(x3:Int)) (by omega) (by omega),
  wrap_i64 (n:=(x0:Int)+256*x1) (by omega) (by omega),wrap_i64 (n:=(x0:Int)+256*x1+65536*x2) (by omega) (by omega),wrap_i64 (n:=(x0:Int)+256*x1+65536*x2+16777216*x3) (by omega) (by omega)]
 have:(x0:Int)+256*x1+65536*x2+16777216*x3=((x0+256*(x1+256*(x2+256*(x3+256*0))):Nat):Int):=by omega
 rw[this];exact hK
def XF : LB:=List.replicate 32 0
theorem BS : XF.length=32:=List.length_replicate
theorem NA{i:Int}{s:LB}(gd:Sk.Good (i.toNat,s))(i0:0<=i)
  (hK:∀h',Fr No h h'->Sl h' 1 (some ⟨h.size,0,none⟩) 32 32 ((form i.toNat s).map bv) (λx=>x=h.size)->K (.slice (some ⟨h.size,0,none⟩) 32 32) h'):C.gS i (mkStr s) h K:=by
 have iH:(mkStr s).size=s.length:=rfl;refine gS.ok ?_;unfold gS;rw[iH];refine⟨⟨by omega,by omega,by omega,by omega⟩,aC.intro λh2 n2=>?_⟩;have VL:=n2.size;have r2:rd h2 h.size=XF.map bv:=n2.rd.trans (Nz 32)
 have slice:∀{hh:ab} {xs:LB},xs.length=32->du hh h.size->rd hh h.size=xs.map bv->Sl hh 1 (some ⟨h.size,0,none⟩) 32 32 (xs.map bv) (λx=>x=h.size):=by
  intro hh xs hx w r;have e:(xs.map bv).length=32:=by rw[List.length_map,hx]
  refine⟨by omega,rfl,rfl,w,Nat.le_refl _,?_,?_⟩
  ·simp only[r,List.drop_zero,List.take_length]
  ·simp only[r];omega
 refine ce (λh0=>hK h2 n2.fr ?_) λh0=>?_
 ·have ef:form i.toNat s=XF:=by rw[form,if_pos (by omega)];rfl
  rw[ef];exact slice BS n2.own r2
 rcases gd with⟨x,_⟩|⟨g1,g2,g3⟩
 ·have x:i.toNat=0:=x;omega
 have g2:i.toNat<4294967296:=g2;have nm:=fI.mp g3;have nle:s.length<=27:=nm.le;have lB:=aI 4 i.toNat;have zl:(XF.map bv).length=32:=by rw[List.length_map,BS]
 refine⟨λv k hh=>0<=k/\k<=4/\v=((i.toNat/256 ^ k.toNat:Nat):Int)/\Fr No h hh/\du hh h.size/\rd hh h.size=put (XF.map bv) 0 (((bH 4 i.toNat).take k.toNat).map bv),λ_ k _=>((4:Nat)-k).toNat,
  ⟨by omega,by omega,by rw[show(0:Int).toNat=0 from rfl,Nat.pow_zero,Nat.div_one];omega,n2.fr,n2.own,r2⟩,?_⟩
 rintro v k h3 ⟨k0,k1,rfl,f3,w3,r3⟩;refine cd (λhk=>?_) λhk=>?_
 ·have hk:k<4:=hk;refine⟨⟨k0,by show k<32;omega⟩,bQ.add w3 (by rw[r3,eE,zl];omega) λh4 d4=>?_⟩;have hkB:k.toNat<(bH 4 i.toNat).length:=by omega
  have pl:256 ^ k.toNat<=256 ^ 4:=Nat.pow_le_pow_right (by decide) (by omega);have hq:i.toNat/256 ^ k.toNat<=i.toNat:=Nat.div_le_self _ _;have t1:∀q:Nat,Int.tmod (q:Int) 256=((q%256:Nat):Int):=λq=>by rw[Int.tmod_eq_emod_of_nonneg (by omega)];omega
  have t2:∀q:Nat,Int.tdiv (q:Int) 256=((q/256:Nat):Int):=λq=>by rw[Int.tdiv_eq_ediv_of_nonneg (by omega)];omega
  have t3:∀q:Nat,q<=i.toNat->IntKind.wrap .i64 (q:Int)=q:=λq hq=>wrap_i64 (by omega) (by omega);have e1:Int.tmod ((i.toNat/256 ^ k.toNat:Nat):Int) 256=((i.toNat/256 ^ k.toNat%256:Nat):Int):=t1 _
  have e2:Int.tdiv ((i.toNat/256 ^ k.toNat:Nat):Int) 256=((i.toNat/256 ^ (k.toNat+1):Nat):Int):=by
   rw[t2,Nat.pow_succ,<-Nat.div_div_eq_div_mul]
  have hq2:i.toNat/256 ^ (k.toNat+1)<=i.toNat:=Nat.div_le_self _ _
  have eb:Value.int .u8 (IntKind.wrap .u8 ((i.toNat/256 ^ k.toNat%256:Nat):Int))=bv (UInt8.ofNat (i.toNat/256 ^ k.toNat)):=by
   rw[wrap_u8 (by omega) (by omega)];show _=Value.int .u8 ((UInt8.ofNat (i.toNat/256 ^ k.toNat)).toNat:Int);rw[UInt8.toNat_ofNat']
  rw[e1,eb]at d4;rw[e2,wrap_i64 (n:=k+1) (by omega) (by omega),t3 _ hq2];refine⟨⟨by omega,by omega,by rw[show(k+1).toNat=k.toNat+1 by omega],f3.did d4 λx=>by omega,d4.own,?_⟩,j8 (m:=4) hk⟩;have hl1:((bH 4 i.toNat).take k.toNat).length=k.toNat:=by rw[List.length_take];omega
  have ee:(bH 4 i.toNat)[k.toNat]=UInt8.ofNat (i.toNat/256 ^ k.toNat):=by simp only[bH,List.getElem_map,List.getElem_range]
  rw[d4.rd,r3,show(k+1).toNat=k.toNat+1 by omega,List.take_succ_eq_append_getElem hkB,List.map_append,List.map_singleton,ee,Hc,List.length_map,hl1]
 ·have hk:¬k<4:=hk;rw[List.take_of_length_le (by omega)]at r3;refine⟨⟨by omega,by omega⟩,bQ.add w3 (by rw[r3,eE,zl];show 0+4<32;omega) λh5 d5=>?_⟩
  have ZL:Value.int .u8 (IntKind.wrap .u8 ((s.length:Nat):Int))=bv (UInt8.ofNat s.length):=by
   rw[wrap_u8 (by omega) (by omega)];show _=Value.int .u8 ((UInt8.ofNat s.length).toNat:Int);rw[UInt8.toNat_ofNat',Nat.mod_eq_of_lt (by omega)]
  rw[ZL,r3]at d5;have f5:Fr No h h5:=f3.did d5 λx=>by omega
  have r5:rd h5 h.size=put (put (XF.map bv) 0 ((bH 4 i.toNat).map bv)) 4 [bv (UInt8.ofNat s.length)]:=d5.rd
  refine⟨λj hh=>0<=j/\j<=s.length/\Fr No h hh/\du hh h.size/\rd hh h.size=put (put (put (XF.map bv) 0 ((bH 4 i.toNat).map bv)) 4 [bv (UInt8.ofNat s.length)]) 5 ((s.take j.toNat).map bv),λj _=>((s.length:Int)-j).toNat,
   ⟨by omega,by omega,f5,d5.own,r5⟩,?_⟩
  rintro j h6 ⟨j0,j1,f6,w6,r6⟩;refine cd (λhj=>?_) λhj=>?_
  ·have Gh:j.toNat<s.length:=(by omega);rw[wrap_i64 (n:=5+j) (by omega) (by omega),wrap_i64 (n:=j+1) (by omega) (by omega)];refine⟨⟨j0,hj⟩,s[j.toNat],by rw[toList_mkStr,List.getElem?_eq_getElem Gh],⟨by omega,by show 5+j<32;omega⟩,bQ.add w6 (by rw[r6,eE,eE,eE,zl];omega) λh7 d7=>?_⟩;refine⟨⟨by omega,by omega,f6.did d7 λx=>by omega,d7.own,?_⟩,by show((s.length:Int)-(j+1)).toNat<((s.length:Int)-j).toNat;omega⟩;have hl1:(s.take j.toNat).length=j.toNat:=(by rw[List.length_take];omega);rw[d7.rd,r6,show(j+1).toNat=j.toNat+1 by omega,List.take_succ_eq_append_getElem Gh,List.map_append,List.map_singleton,Hc,List.length_map,hl1,show 0+(5+j).toNat=5+j.toNat by omega];rfl
  ·rw[List.take_of_length_le (by omega)]at r6;have fl:(form i.toNat s).length=32:=kW (Or.inr ⟨g1,g2,g3⟩);refine hK h6 f6 (slice fl w6 (r6.trans ?_))
   have key:∀(X A B C:LV),A.length=4->B.length=1->put (put (put X 0 A) 4 B) 5 C=put X 0 (A++(B++C)):=by
    intro X A B C h1 h2;rw[Lp,Lp,h1,h2]
   rw[key _ _ _ _ (by rw[List.length_map];exact lB) rfl,put_eq _ _ _ (by rw[List.length_append,List.length_append,List.length_map,List.length_map,zl,lB,List.length_singleton];omega)];rw[form,if_neg (by omega),List.map_append,List.map_cons,List.map_append,List.take_zero,List.nil_append,List.append_assoc];congr 1;rw[List.append_assoc];show bv _::(s.map bv++_)=_;congr 2;rw[List.length_append,List.length_append,List.length_map,List.length_map,lB,List.length_singleton,XF,<-List.map_drop,List.drop_replicate];congr 2;omega
theorem Qy(hb:bs.length=32)(h0:lT (bs.take 4)=0):one bs=if bs=form 0 []then some (0,[])else none:=by
 split
 ·rename_i h;rw[h];exact Bh uS
 ·rename_i h;rw[one,if_pos h0]
  split
  ·rename_i hz;exfalso;apply h;have:=tY hz;rw[hb]at this;exact this
  ·rfl
theorem Qz(hb:bs.length=32)(h0:lT (bs.take 4)≠0)(hn:(bs.getD 4 0).toNat<=27)(wP:bf ((bs.drop 5).take (bs.getD 4 0).toNat)=true) :
  one bs=if bs=form (lT (bs.take 4)) ((bs.drop 5).take (bs.getD 4 0).toNat)then some (lT (bs.take 4),(bs.drop 5).take (bs.getD 4 0).toNat)else none:=by
 have lt:=tV (bs.take 4);rw[List.length_take,show min 4 bs.length=4 by omega]at lt;have pos:=(fI.mp wP).pos;rw[List.length_take]at pos
 split
 ·rename_i h;have:=Bh (x:=(lT (bs.take 4),(bs.drop 5).take (bs.getD 4 0).toNat)) (Or.inr ⟨by show 1<=lT _;omega,lt,wP⟩)
  conv=>lhs;rw[h]
  exact this
 ·rename_i h
  cases e:one bs with
  | none=>rfl
  | some x=>
   exfalso;apply h;have e':=e;obtain⟨_,e2⟩:=Hf hb e;rw[one,if_neg h0,if_neg (by omega)]at e'
   split at e'
   ·obtain rfl:=Option.some.inj e';exact e2
   ·cases e'
theorem QA(h0:lT (bs.take 4)≠0)(hn:27<(bs.getD 4 0).toNat∨bf ((bs.drop 5).take (bs.getD 4 0).toNat)=false):one bs=none:=by
 rw[one,if_neg h0]
 split
 ·rfl
 ·rename_i h
  rcases hn with hn|hn
  ·omega
  ·rw[hn,Bool.and_false];rfl
theorem QB{s:LB}(B:aJ h a 32 bs)(gd:Sk.Good (i,s))(ho:one bs=if bs=form i s then some (i,s) else none)
  (hK:∀h' x,Fr No h h'->one bs=some x->K (.tuple #[.int .i64 (x.1:Nat),.string (mkStr x.2),.bool true]) h') (hN:∀h' n s,Fr No h h'->one bs=none->K (.tuple #[.int .i64 n,.string s,.bool false]) h'):ff.k1 a 32 (i:Int) (mkStr s) h K:=by
 have hb:=B.1;have fl:(form i s).length=32:=kW gd;unfold ff.k1;refine NA (i:=(i:Int)) (by rw[Int.toNat_natCast];exact gd) (by omega) λh5 f5 s5=>⟨_,_,_,rfl,?_⟩;rw[Int.toNat_natCast]at s5;have B5:=aJ.fr f5 B λ_ _ x=>x;refine⟨λk hh=>0<=k/\k<=32/\h5=hh/\bs.take k.toNat=(form i s).take k.toNat,λk _=>((32:Nat)-k).toNat,⟨by omega,by omega,rfl,rfl⟩,?_⟩;rintro k _ ⟨k0,k1,rfl,e⟩;refine cd (λhk=>?_) λhk=>?_
 ·have hk:k<32:=hk;obtain⟨p,rfl,ca⟩:=qa B5 (i:=k.toNat) (by omega);obtain⟨_,eq,cb⟩:=qa s5.str (i:=k.toNat) (by omega)
  cases eq
  refine⟨⟨k0,by omega⟩,os ⟨_,ca,⟨k0,by omega⟩,os ⟨_,cb,cn (λfB=>hN h5 _ _ f5 ?_) λheq=>?_⟩⟩⟩
  ·rw[ho,if_neg];rintro rfl;exact fB rfl
  ·rw[wrap_i64 (by omega) (by omega)];refine⟨⟨by omega,by omega,rfl,?_⟩,j8 (m:=32) hk⟩;have:bs[k.toNat]'(by omega)=(form i s)[k.toNat]'(by omega):=UInt8.toNat_inj.mp (by exact_mod_cast heq);rw[show(k+1).toNat=k.toNat+1 by omega,List.take_succ_eq_append_getElem (show k.toNat<bs.length by omega),List.take_succ_eq_append_getElem (show k.toNat<(form i s).length by omega),e,this]
 ·have hk:¬k<32:=hk;rw[List.take_of_length_le (by omega),List.take_of_length_le (by omega)]at e;exact hK h5 (i,s) f5 (by rw[ho,if_pos e])
theorem HS(B:aJ h a 32 bs)(hc:32<=c)
  (hK:∀h' x,Fr No h h'->one bs=some x->K (.tuple #[.int .i64 (x.1:Nat),.string (mkStr x.2),.bool true]) h') (hN:∀h' n s,Fr No h h'->one bs=none->K (.tuple #[.int .i64 n,.string s,.bool false]) h'):C.ff a 32 c h K:=by
 have hb:=B.1;refine ff.ok (kZ B (by omega) ⟨_,rfl,?_⟩)
 have lt:lT (bs.take 4)<4294967296:=by
  have:=tV (bs.take 4);rw[List.length_take,show min 4 bs.length=4 by omega]at this;exact this
 have h4:4<bs.length:=by omega
 have e4:bs.getD 4 0=bs[4]:=by rw[List.getD_eq_getElem?_getD,List.getElem?_eq_getElem h4];rfl
 have bt:=(bs[4]).toNat_lt;refine cn (λh0=>?_) λh0=>?_
 ·have h0:lT (bs.take 4)≠0:=by omega
  obtain⟨p,rfl,c4⟩:=qa B h4;refine⟨⟨by omega,by omega⟩,os ⟨_,c4,?_⟩⟩;have nm:=Qz hb h0;have lo:=QA (bs:=bs) h0;rw[e4]at nm lo;generalize bs[4].toNat=n at bt nm lo;rw[wrap_i64 (n:=(n:Int)) (by omega) (by omega),wrap_i64 (n:=5+(n:Int)) (by omega) (by omega)];refine cd (λhn=>hN h _ _ (Fr.refl _ _) (lo (Or.inl (by omega)))) λhn=>⟨⟨by omega,by omega,by omega⟩,(bs.drop 5).take n,?_,?_⟩
  ·have:=aJ.cut B hc (i:=5) (j:=5+n) (by omega) (by omega);rw[show 5+n-5=n by omega]at this;rw[show(5+(n:Int)).toNat-Int.toNat 5=n by omega];exact this
  ·refine xV ⟨_,rfl,jj ?_⟩
   cases wP:bf ((bs.drop 5).take n)with
   | false=>exact hN h _ _ (Fr.refl _ _) (lo (Or.inr wP))
   | true=>exact ct rfl (QB B (Or.inr ⟨by show 1<=lT _;omega,lt,wP⟩) (nm (by omega) wP) hK hN)
 ·have h0:lT (bs.take 4)=0:=by omega
  rw[h0];exact QB (i:=0) (s:=[]) B uS (Qy hb h0) hK hN
theorem FV(B:aJ h a l bs)(wv:l<=c)
  (hK:∀h' a' l' c',Fr No h h'->Sl h' 3 a' l' c' ((ry bs).1.flatMap E.v) (bZ h.size)->K (.tuple #[.slice a' l' c',.int .i64 (ry bs).2]) h'):C.iM a l c h K:=by
 have hb:=B.1;refine iM.ok (cn (λhl=>?_) λhl=>?_)
 ·have e:ry bs=([],32):=by rw[ry,if_pos (by omega)]
  rw[e]at hK;exact hK h none 0 0 (Fr.refl _ _) (Sl.nil _ _ _)
 have hl:l=512:=by omega
 have e:ry bs=match dec 16 bs with
  | none=>([],140)
  | some hs=>(gW 0 hs,0):=by rw[ry,if_neg (by omega)];cases dec 16 bs <;> rfl
 refine⟨λla ll lc n hh=>0<=n/\n<=16/\Fr No h hh/\∃pre:List (Nat×ay),pre.length=n.toNat/\dec 16 bs=(dec (16-n.toNat) (bs.drop (32*n.toNat))).map (pre ++ ·)/\Sl hh 3 la ll lc ((gW 0 pre).flatMap E.v) (bZ h.size),λ_ _ _ n _=>(16-n).toNat,
  ⟨by omega,by omega,Fr.refl _ _,[],rfl,by rw[show(0:Int).toNat=0 from rfl,Nat.mul_zero,List.drop_zero];simp,Sl.nil _ _ _⟩,?_⟩
 rintro la ll lc n h2 ⟨n0,n1,f2,pre,pl,pd,ps⟩;have VL:=f2.size;have pll:=Bi pre 0
 have hll:ll=(gW 0 pre).length:=by
  have:=ps.1;rw[bw E.v 3 _ (λx _=>E.len x)]at this;omega
 refine cd (λhn=>?_) λhn=>?_
 ·rw[Hg (by omega)]at pd;rw[wrap_i64 (n:=32*n) (by omega) (by omega),wrap_i64 (n:=32*n+32) (by omega) (by omega),wrap_i64 (n:=n+1) (by omega) (by omega)];refine⟨⟨by omega,by omega,by omega⟩,?_⟩;have B2:=aJ.cut (aJ.fr f2 B λ_ _ x=>x) wv (i:=32*n.toNat) (j:=32*n.toNat+32) (by omega) (by omega);rw[show(32*n).toNat=32*n.toNat by omega,show(32*n+32).toNat-32*n.toNat=32 by omega];rw[show 32*n.toNat+32-32*n.toNat=32 by omega]at B2;refine HS B2 (by omega) (λh4 x f4 ho=>⟨_,_,_,rfl,?_⟩) λh4 m s f4 ho=>⟨_,_,_,rfl,?_⟩
  ·have f24:=f2.no f4;rw[ho]at pd
   have pd':dec 16 bs=(dec (16-(n+1).toNat) (bs.drop (32*(n+1).toNat))).map ((pre++[x]) ++ ·):=by
    rw[pd,show(n+1).toNat=n.toNat+1 by omega]
    cases dec (16-(n.toNat+1)) (bs.drop (32*(n.toNat+1)))with
    | none=>rfl
    | some r=>simp
   have ee:gW 0 (pre++[x])=gW 0 pre++(if x.1=0 then[]else[⟨n,x.2,x.1⟩]):=by
    rw[tZ,pl,gW,gW,show((0+n.toNat:Nat):Int)=n by omega]
   have ps4:=ps.fr f4 λ_ _ _ x=>x;refine cf rfl (cn (λhx=>⟨rfl,aC.intro λh5 n5=>⟨E.v ⟨n,x.2,x.1⟩,rfl,aj n5.rd,E.one _,?_⟩⟩) λhx=>⟨⟨by omega,by omega,f24,pre++[x],by rw[List.length_append,pl,List.length_singleton];omega,pd',?_⟩,by show(16-(n+1)).toNat<(16-n).toNat;omega⟩)
   ·have Zt:x.1≠0:=λe=>hx (by rw[e];rfl);rw[if_neg Zt]at ee;have f25:=f24.new n5;have hs5:=f25.size;have AO:(mB).bytes=32:=rfl;refine aT (elem:=mB) (ps4.fr n5.fr λ_ _ _ x=>x) rfl rfl (by rw[AO];omega) (by omega) λa' c' h6 f6 s6=>⟨⟨by omega,by omega,?_,pre++[x],by rw[List.length_append,pl,List.length_singleton];omega,pd',?_⟩,by show(16-(n+1)).toNat<(16-n).toNat;omega⟩
    ·exact f25.trans f6 λb hb hF=>by have:h.size<=b:=hF;omega
    ·rw[ee,List.flatMap_append];refine Sl.mono (s6:Sl h6 3 a' (ll+1) c' _ _) λb hF=>?_
     rcases hF with hF|hF
     ·exact hF
     ·show h.size<=b;omega
   ·have Zt:x.1=0:=(by omega);rw[if_pos Zt,List.append_nil]at ee;rw[ee];exact ps4
  ·rw[ho]at pd;have e2:ry bs=([],140):=(by rw[e,pd];rfl);rw[e2]at hK;exact ct rfl (hK h4 none 0 0 (f2.no f4) (Sl.nil _ _ _))
 ·have en:n.toNat=16:=by omega
  rw[en]at pd
  have e2:ry bs=(gW 0 pre,0):=by
   have z:dec (16-16) (bs.drop (32*16))=some []:=(by rw[Nat.sub_self];rfl);rw[e,pd,z,Option.map_some,List.append_nil]
  rw[e2]at hK;exact hK h2 la ll lc f2 ps
end Ss
namespace Fq
open Hp W Ad Tm Bt Spc Av Fi Bm
def bk(T:TM)(g:G)(R:List Int)(off j:Nat):ay×Int:=bC T g R ((off+j)/512:Nat)
def rb(T:TM)(g:G)(R:List Int)(off j:Nat):UInt8:=(bk T g R off j).1.getD ((off+j)%512) 0
theorem LO{T:TM}{g:G}{off:Nat}(h:(off+i) / 512=(off+j) / 512):bk T g R off i=bk T g R off j:=by unfold bk;rw[h]
section
variable{T : TM}{g : G}{R : List Int}{off m : Nat}
theorem zD(hl:∀ j,j<m->(bk T g R off j).2=0/\(bk T g R off j).1.length=512):∀(k b:Nat) (s:ay),m<=b+k->b<=m->s=(List.range b).map (rb T g R off)->iZ T g R off m k b s=((List.range m).map (rb T g R off),0)
 | 0,b,s,h1,h2,h3=>by
  have:b=m:=by omega
  subst this;rw[h3];rfl
 | k+1,b,s,h1,h2,h3=>by
  unfold iZ
  by_cases hm:m<=b
  ·have:b=m:=(by omega);subst this;rw[if_pos hm,h3]
  ·rw[if_neg hm];obtain⟨e0,l0⟩:=hl b (by omega);unfold bk at e0 l0;rw[if_neg (by rw[e0];simp)];obtain⟨n1,n2⟩:=uf (off:=off) (n:=m) (a:=b) (by omega);obtain⟨t1,t2⟩:=toP_gt (off:=off) (n:=m) (a:=b) (by omega);refine zD hl k _ _ (by omega) n2 ?_;have en:sV off m b=b+(toP off m b-(off+b)%512):=rfl;refine List.ext_getElem ?_ λi i1 i2=>?_
   ·rw[List.length_append,h3,List.length_map,List.length_range,List.length_take,List.length_drop,l0,List.length_map,List.length_range];omega
   ·rw[List.getElem_map,List.getElem_range];rw[List.length_map,List.length_range]at i2;have ls:s.length=b:=by rw[h3,List.length_map,List.length_range]
    by_cases hi:i<b
    ·rw[List.getElem_append_left (by omega)];simp only[h3,List.getElem_map,List.getElem_range]
    ·rw[List.getElem_append_right (by omega),List.getElem_take,List.getElem_drop];have hp:toP off m b-(off+b)%512<=512-(off+b)%512:=(by omega);have e1:(off+i)/512=(off+b)/512:=(by omega);have e2:(off+i)%512=(off+b)%512+(i-b):=(by omega);unfold rb;rw[LO e1,e2,List.getD_eq_getElem?_getD];unfold bk;rw[List.getElem?_eq_getElem (by omega)];simp only[ls];rfl
theorem BU{i:Nat}(hi:i<m)(hb:(bk T g R off i).2≠0)(hs:i=0∨(off+i) % 512=0)(hl:∀ j,j<i->(bk T g R off j).2=0):∀(k b:Nat) (s:ay),m<=b+k->b<=i->iZ T g R off m k b s=([],(bk T g R off i).2)
 | 0,b,s,h1,h2=>by omega
 | k+1,b,s,h1,h2=>by
  unfold iZ;rw[if_neg (by omega)]
  by_cases e:b=i
  ·subst e;unfold bk at hb ⊢;rw[if_pos hb]
  ·have:=hl b (by omega);unfold bk at this;rw[if_neg (by rw[this];simp)];obtain⟨t1,t2⟩:=toP_gt (off:=off) (n:=m) (a:=b) (by omega);have en:sV off m b=b+(toP off m b-(off+b)%512):=rfl;have et:toP off m b=min 512 ((off+b)%512+m-b):=rfl;refine BU hi hb hs hl k _ _ ?_ ?_
   ·obtain⟨n1,n2⟩:=uf (off:=off) (n:=m) (a:=b) (by omega);omega
   ·omega
end
end Fq
namespace Pa
open Hp W Sk Ch Rg
def Piece(p:ay):Prop:=p≠[]/\∀b∈p,b≠47
theorem ur : ∀(r cur:ay),(∀b∈cur,b≠47)->∀p∈dJ r cur,Piece p/\∀b∈p,b∈cur∨b∈r
 | [],cur,h,p,hp=>by
  unfold dJ at hp
  split at hp
  ·cases hp
  ·rename_i hc;rw[List.mem_singleton.mp hp];exact⟨⟨hc,h⟩,λb hb=>.inl hb⟩
 | x::r,cur,h,p,hp=>by
  unfold dJ at hp
  split at hp
  ·rcases List.mem_append.mp hp with hp|hp
   ·split at hp
    ·cases hp
    ·rename_i hc;rw[List.mem_singleton.mp hp];exact⟨⟨hc,h⟩,λb hb=>.inl hb⟩
   ·obtain⟨h1,h2⟩:=ur r [] (λb hb=>by cases hb) p hp;exact⟨h1,λb hb=>(h2 b hb).elim (λx=>by cases x) λx=>.inr (List.mem_cons_of_mem _ x)⟩
  ·rename_i hx
   obtain⟨h1,h2⟩:=ur r (cur++[x]) (λb hb=>by
    rcases List.mem_append.mp hb with hb|hb
    ·exact h b hb
    ·rw[List.mem_singleton.mp hb];exact hx) p hp
   refine⟨h1,λb hb=>?_⟩
   rcases h2 b hb with hb|hb
   ·rcases List.mem_append.mp hb with hb|hb
    ·exact .inl hb
    ·rw[List.mem_singleton.mp hb];exact .inr (List.mem_cons_self ..)
   ·exact .inr (List.mem_cons_of_mem _ hb)
theorem NB{s p:ay}(hp:p ∈ pieces s):Piece p/\∀b∈p,b∈s:=by
 obtain⟨h1,h2⟩:=ur s [] (λb hb=>by cases hb) p hp;exact⟨h1,λb hb=>(h2 b hb).elim (λx=>by cases x) id⟩
theorem sA{p:ay}:BI p=true↔p≠[]/\p≠[46]/\∀b∈p,b≠47/\b≠0:=by
 unfold BI;rw[Bool.and_eq_true,Bool.and_eq_true,Bool.not_eq_true',Bool.not_eq_true',Bool.not_eq_true',beq_eq_false_iff_ne,beq_eq_false_iff_ne,List.any_eq_false];refine and_congr Iff.rfl (and_congr Iff.rfl ⟨λh b hb=>?_,λh b hb=>?_⟩)
 ·have:=h b hb;unfold jU at this;rw[Bool.or_eq_true,beq_iff_eq,beq_iff_eq]at this;exact⟨λe=>this (.inl e),λe=>this (.inr e)⟩
 ·have:=h b hb;unfold jU;rw[Bool.or_eq_true,beq_iff_eq,beq_iff_eq];rintro(e|e)
  ·exact this.1 e
  ·exact this.2 e
theorem NC{s:ay}(h:gy s b=false):s≠[]/\(∀x∈s,x≠0)/\(b=true->s.head?=some 47):=by
 unfold gy at h;rw[Bool.or_eq_false_iff,Bool.or_eq_false_iff,beq_eq_false_iff_ne]at h;refine⟨h.1,λx hx e=>?_,λhb=>?_⟩
 ·have:s.contains 0=true:=by rw[List.contains_iff_mem,<-e];exact hx
  rw[this]at h;cases h.2.1
 ·have:=h.2.2;rw[hb,Bool.true_and,Bool.not_eq_false']at this;exact beq_iff_eq.mp this
theorem HT{s:ay}(h1:s≠[])(h2:∀ x ∈ s,x≠0)(h3:b=true->s.head?=some 47):gy s b=false:=by
 unfold gy;rw[Bool.or_eq_false_iff,Bool.or_eq_false_iff,beq_eq_false_iff_ne];refine⟨h1,?_,?_⟩
 ·cases e:s.contains 0 with
  | false=>rfl
  | true=>exact absurd rfl (h2 0 (List.contains_iff_mem.mp e))
 ·cases b with
  | false=>rfl
  | true=>rw[h3 rfl];rfl
structure oR(s:ay)(b:Bool)(cs:List ay):Prop where
 w:gy s b=false
 c:jV s=some cs
theorem xW{s:ay}(h:(aH s b).2=0):oR s b (aH s b).1:=by
 unfold aH at h ⊢
 cases hw:gy s b with
 | true=>rw[hw,if_pos rfl]at h;cases h
 | false=>
  rw[hw]at h;rw[if_neg (by simp)]at h ⊢
  cases hc:jV s with
  | none=>rw[hc]at h;cases h
  | some cs=>exact⟨hw,hc⟩
theorem oR.eq{s:ay}{cs:List ay}(t:oR s b cs):aH s b=(cs,0):=by
 rw[aH,t.w,if_neg (by simp),t.c]
theorem oR.is{s:ay}{cs:List ay}(t:oR s b cs):s.length<=1024/\cs=comps s/\fits cs=true:=by
 have:=t.c;unfold jV at this
 split at this
 ·split at this
  ·rename_i h1 h2
   cases this
   exact⟨h1,rfl,h2⟩
  ·cases this
 ·cases this
theorem oR.mk'{s:ay}{cs:List ay}(w:gy s b=false)(h1:s.length<=1024)(h2:comps s=cs)(h3:fits cs=true):oR s b cs:=
 ⟨w,by subst h2;rw[jV,if_pos h1,if_pos h3]⟩
theorem oR.part{s:ay}{cs:List ay}(t:oR s b cs){p:ay}(hp:p ∈ cs):BI p=true/\p.length<=27:=by
 obtain⟨h1,h2,h3⟩:=t.is;have kA:p∈(pieces s).filter λp=>!(p == [46]):=by rw[h2]at hp;exact hp
 rw[List.mem_filter,Bool.not_eq_true',beq_eq_false_iff_ne]at kA;obtain⟨q1,q2⟩:=NB kA.1;have hz:=(NC t.w).2.1;refine⟨sA.mpr ⟨q1.1,kA.2,λb hb=>⟨q1.2 b hb,hz b (q2 b hb)⟩⟩,?_⟩;rw[fits,Bool.and_eq_true,List.all_eq_true]at h3;simpa using h3.1 p hp
theorem BV{s:ay}{cs:List ay}(t:oR s true cs):bq s=if nU (sW s)=true then([],[],1)else if cs=[]then([],[],0)else(cs.dropLast,cs.getLastD [],0):=by
 rw[bq,t.w,if_neg (by simp),t.c]
theorem sB{x y:ay}{A B:Prop}(a:x=y->A)(b:x≠y->B):bif x==y then A else B:=by
 by_cases h:x=y
 ·exact ct (by rw[h,beq_self_eq_true]) (a h)
 ·exact cf (by rw[beq_eq_false_iff_ne.mpr h]) (b h)
structure Rd(h:ab)(ps:List ay)(a:OA)(l:Nat):Prop where
 c:ag h a (strs ps)
 l:ps.length=l
theorem nW{b:UInt8}(hk:k<256):(((UInt8.toNat b:Nat):Int)=(k:Int))↔b=UInt8.ofNat k:=by
 constructor
 ·intro h;apply UInt8.toNat_inj.mp;rw[UInt8.toNat_ofNat'];omega
 ·intro h;rw[h,UInt8.toNat_ofNat'];omega
theorem DZ{s:ay}(hl:s.length<=9223372036854775806)(hK:K (.bool (s.contains 0)) h):C.gQ (mkStr s) h K:=by
 refine gQ.ok ⟨λi hh=>0<=i/\i<=s.length/\h=hh/\(s.take i.toNat).contains 0=false,λi _=>(s.length-i).toNat,⟨by omega,by omega,rfl,rfl⟩,?_⟩;rintro i _ ⟨i0,i1,rfl,e⟩;rw[size_mk,toList_mkStr];refine cd (λhi=>?_) λhi=>?_
 ·have oK:i.toNat<s.length:=by omega
  have et:s.take (i.toNat+1)=s.take i.toNat++[s[i.toNat]]:=List.take_succ_eq_append_getElem oK;refine⟨⟨i0,hi⟩,_,List.getElem?_eq_getElem oK,ce (λhb=>?_) λhb=>?_⟩
  ·have hb:s[i.toNat]=0:=(nW (k:=0) (by decide)).mp hb;have:s.contains 0=true:=List.contains_iff_mem.mpr (hb▸List.getElem_mem oK);rw[this]at hK;exact hK
  ·rw[wrap_i64 (by omega) (by omega)];refine⟨⟨by omega,by omega,rfl,?_⟩,by show((s.length:Int)-(i+1)).toNat<((s.length:Int)-i).toNat;omega⟩;rw[show(i+1).toNat=i.toNat+1 by omega,et]
   have:¬(0∈s.take i.toNat++[s[i.toNat]]):=λx=>by
    rcases List.mem_append.mp x with x|x
    ·rw[List.contains_iff_mem.mpr x]at e;cases e
    ·exact hb ((nW (k:=0) (by decide)).mpr (List.mem_singleton.mp x).symm)
   cases hc:(s.take i.toNat++[s[i.toNat]]).contains 0 with
   | false=>rfl
   | true=>exact absurd (List.contains_iff_mem.mp hc) this
 ·rw[List.take_of_length_le (by omega)]at e;rw[e]at hK;exact hK
theorem qf : ∀(r cur:ay),(dJ r cur).length<=r.length+1
 | [],cur=>by unfold dJ;split <;> simp
 | b::r,cur=>by
  unfold dJ
  split
  ·have:=qf r [];rw[List.length_append,List.length_cons]
   split
   ·rw[List.length_nil];omega
   ·rw[List.length_singleton];omega
  ·have:=qf r (cur++[b]);rw[List.length_cons];omega
theorem sC(s:ay):(pieces s).length<=s.length+1:=qf s []
theorem xX{s:ay}(hl:s.length<=1099511627776)(hK:∀ a l c h',Fr No h h'->Ls h h' (pieces s) a l c->K (.slice a l c) h'):C.cw (mkStr s) h K:=by
 refine cw.ok ⟨λa l c f i hh=>0<=f/\f<=i/\i<=s.length+1/\Fr No h hh/\∃ps:List ay,Ls h hh ps a l c/\(i<=s.length->pieces s=ps++dJ (s.drop i.toNat) ((s.drop f.toNat).take (i.toNat-f.toNat)))/\(s.length<i->pieces s=ps),λ_ _ _ _ i _=>(s.length+1-i).toNat,
  ⟨by omega,by omega,by omega,Fr.refl _ _,[],nT _ _,λ_=>rfl,λx=>by omega⟩,?_⟩
 rintro a l c f i h2 ⟨f0,fi,i1,f2,ps,L,e1,e2⟩;rw[size_mk,toList_mkStr];have pc:=sC s;have hw:IntKind.wrap .i64 (i+1)=i+1:=wrap_i64 (by omega) (by omega);refine cd (λhi=>?_) λhi=>?_
 ·have e1:=e1 hi;have me:((s.length:Int)+1-(i+1)).toNat<((s.length:Int)+1-i).toNat:=by omega
  generalize Nt:(s.drop f.toNat).take (i.toNat-f.toNat)=cur at e1;have Gg:cur.length=(i-f).toNat:=by rw[<-Nt,List.length_take,List.length_drop];omega
  -- a acQ, or the end
  have cut:(i<s.length->s[i.toNat]?=some 47)->cw.k1 (mkStr s) a l c f i h2 (λa l c f i hh=>0<=f/\f<=i/\i<=s.length+1/\Fr No h hh/\∃ps:List ay,Ls h hh ps a l c/\(i<=s.length->pieces s=ps++dJ (s.drop i.toNat) ((s.drop f.toNat).take (i.toNat-f.toNat)))/\(s.length<i->pieces s=ps)) (λ_ _ _ _ i _=>(s.length+1-i).toNat) K:=by
   intro hs
   have nx:∀qs,qs=ps++(if cur=[]then[]else[cur])->(i+1<=s.length->pieces s=qs++dJ (s.drop (i+1).toNat) ((s.drop (i+1).toNat).take ((i+1).toNat-(i+1).toNat)))/\(s.length<i+1->pieces s=qs):=by
    rintro qs rfl;refine⟨λdh=>?_,λvF=>?_⟩
    ·have oK:i.toNat<s.length:=(by omega);have Fc:=hs (by omega);rw[List.getElem?_eq_getElem oK]at Fc;rw[Nat.sub_self,List.take_zero,e1,List.drop_eq_getElem_cons oK,Option.some.inj Fc,show(i+1).toNat=i.toNat+1 by omega];show ps++(if(47:UInt8)=47 then _ else _)=_;rw[if_pos rfl,List.append_assoc]
    ·rw[e1,List.drop_of_length_le (by omega)];rfl
   unfold cw.k1;rw[hw];refine cd (λRF=>?_) λRF=>?_
   ·have fB:cur≠[]:=λe=>by rw[e,List.length_nil]at Gg;omega
    rw[size_mk,extract_mk,Nt];refine⟨⟨f0,fi,hi⟩,aC.intro λh3 n3=>⟨strs [cur],rfl,aj n3.rd,mh _,?_⟩⟩;obtain⟨rfl,S⟩:=L;have z2:=f2.size;have z3:=n3.size;have pl:ps.length<=(pieces s).length:=(by rw[e1,List.length_append];omega);refine aT (S.fr n3.fr λ_ _ _ x=>x) rfl rfl (by have b16:tN.bytes<=16:=(by decide);have:=Nat.mul_le_mul (show ps.length+1<=1099511627778 from(by omega)) b16;exact Nat.le_trans this (by decide)) (by omega) λa' c' h4 f4 S4=>?_;have q:=nx (ps++[cur]) (by rw[if_neg fB]);refine⟨⟨by omega,by omega,by omega,(f2.new n3).trans f4 λb hb x=>by have x:h.size<=b:=x;omega,ps++[cur],⟨by rw[List.length_append,List.length_singleton],?_⟩,q.1,q.2⟩,me⟩;have S4:Sl h4 1 a' (ps.length+1) c' (strs (ps++[cur])) (λb=>bZ h.size b∨h3.size<=b):=by rw[strs,List.map_append];exact S4
    exact S4.mono λb hb=>by
     rcases hb with hb|hb
     ·exact hb
     ·show h.size<=b;omega
   ·have he:cur=[]:=List.eq_nil_of_length_eq_zero (by omega);have q:=nx ps (by rw[if_pos he,List.append_nil]);exact⟨⟨by omega,by omega,by omega,f2,ps,L,q.1,q.2⟩,me⟩
  refine cd (λdh=>?_) λvF=>cut λx=>absurd x vF;have oK:i.toNat<s.length:=by omega
  refine⟨⟨by omega,dh⟩,_,List.getElem?_eq_getElem oK,cn (λhb=>?_) λhb=>cut λ_=>?_⟩
  ·have hb:s[i.toNat]≠47:=λe=>hb ((nW (k:=47) (by decide)).mpr e);rw[hw];refine⟨⟨by omega,by omega,by omega,f2,ps,L,λ_=>?_,λx=>by omega⟩,me⟩;rw[e1,List.drop_eq_getElem_cons oK,show(i+1).toNat=i.toNat+1 by omega,show i.toNat+1-f.toNat=(i.toNat-f.toNat)+1 by omega,List.take_succ_eq_append_getElem (by rw[List.length_drop];omega),Nt,List.getElem_drop];show ps++(if s[i.toNat]=47 then _ else _)=_;rw[if_neg hb];simp only[show f.toNat+(i.toNat-f.toNat)=i.toNat by omega]
  ·rw[List.getElem?_eq_getElem oK,(nW (k:=47) (by decide)).mp hb];rfl
 ·rw[e2 (by omega)]at hK;exact hK a l c h2 f2 L
def oD(cs:List ay):Bool:=cs.all λp=>decide (p.length<=27)
theorem yT{s:ay}(hl:s.length<=1099511627776)(h1:oD (comps s)=false->∀ h',Fr No h h'->K (.tuple #[.slice none 0 0,.bool false]) h')
  (h2:oD (comps s)=true->∀a l c h',Fr No h h'->Ls h h' (comps s) a l c->K (.tuple #[.slice a l c,.bool (decide ((comps s).length<=32))]) h'):C.cT (mkStr s) h K:=by
 refine cT.ok (xX hl λa l c h3 f3 L=>⟨_,_,_,rfl,?_⟩);have pc:=sC s;have wO:comps s=dG (pieces s):=rfl;generalize pieces s=ps at L pc wO;obtain⟨rfl,S⟩:=L
 refine⟨λa1 l1 c1 n hh=>0<=n/\n<=ps.length/\Fr No h3 hh/\l1=(dG (ps.take n.toNat)).length/\oD (dG (ps.take n.toNat))=true/\Sl hh 1 a1 l1 c1 (strs (dG (ps.take n.toNat))) (bZ h3.size),λ_ _ _ n _=>(ps.length-n).toNat,
  ⟨by omega,by omega,Fr.refl _ _,rfl,rfl,Sl.nil _ _ _⟩,?_⟩
 rintro a1 l1 c1 n h4 ⟨n0,n1,f4,el,sh,S1⟩;refine cd (λhi=>?_) λhi=>?_
 ·have oK:n.toNat<ps.length:=by omega
  obtain⟨p,rfl,cl⟩:=u0 (ag.fr f4 S.cells λ_ _ x=>x) oK;have me:((ps.length:Int)-(n+1)).toNat<((ps.length:Int)-n).toNat:=by omega
  have en:dG (ps.take (n+1).toNat)=if ps[n.toNat]=[46]then dG (ps.take n.toNat)else dG (ps.take n.toNat)++[ps[n.toNat]]:=by
   rw[show(n+1).toNat=n.toNat+1 by omega,List.take_succ_eq_append_getElem oK,ix]
  have cnt:(dG (ps.take n.toNat)).length<=n.toNat:=by
   refine Nat.le_trans (List.length_filter_le _ _) ?_;rw[List.length_take];omega
  refine⟨⟨n0,hi⟩,os ⟨_,cl,?_⟩⟩;rw[toList_mkStr,toList_mkStr,size_mk,wrap_i64 (n:=n+1) (by omega) (by omega)];refine sB (λhd=>?_) λhd=>?_
  ·rw[if_pos hd]at en;exact⟨⟨by omega,by omega,f4,by rw[en];exact el,by rw[en];exact sh,by rw[en];exact S1⟩,me⟩
  ·rw[if_neg hd]at en;refine cd (λhg=>?_) λhg=>?_
   ·refine h1 ?_ h4 (f3.no f4);rw[wO,oD,List.all_eq_false];exact⟨ps[n.toNat],List.mem_filter.mpr ⟨List.getElem_mem oK,by simp[hd]⟩,by simp;omega⟩
   ·have z3:=f3.size;have z4:=f4.size;refine aC.intro λh5 n5=>⟨strs [ps[n.toNat]],rfl,aj n5.rd,mh _,?_⟩;have z5:=n5.size;refine aT (S1.fr n5.fr λ_ _ _ x=>x) rfl rfl (by have b16:tN.bytes<=16:=(by decide);have:=Nat.mul_le_mul (show l1+1<=1099511627778 from(by omega)) b16;exact Nat.le_trans this (by decide)) (by omega) λa' c' h6 f6 S6=>?_;refine⟨⟨by omega,by omega,(f4.new n5).trans f6 λb hb x=>by have x:h3.size<=b:=x;omega,?_,?_,?_⟩,me⟩
    ·rw[en,List.length_append,List.length_singleton,<-el]
    ·rw[en];rw[oD]at sh ⊢;rw[List.all_append,sh,List.all_cons,decide_eq_true (by omega)];rfl
    ·rw[en];have S6:Sl h6 1 a' (l1+1) c' (strs (dG (ps.take n.toNat)++[ps[n.toNat]])) (λb=>bZ h3.size b∨h5.size<=b):=by rw[strs,List.map_append];exact S6
     exact S6.mono λb hb=>by
      rcases hb with hb|hb
      ·exact hb
      ·show h3.size<=b;omega
 ·rw[List.take_of_length_le (by omega)]at el sh S1;rw[wO]at h2;have z3:=f3.size;have:=h2 sh a1 l1 c1 h4 (f3.no f4) ⟨el,S1.mono λb hb=>by have hb:h3.size<=b:=hb;show h.size<=b;omega⟩;rw[el]
  have e:decide (((dG ps).length:Int)<=32)=decide ((dG ps).length<=32):=by
   rw[Bool.eq_iff_iff,decide_eq_true_eq,decide_eq_true_eq];omega
  rw[e];rw[el]at this;exact this
theorem HU{s:ay}(h:oD (comps s)=false):jV s=none:=by
 have:fits (comps s)=false:=by
  unfold fits;unfold oD at h;rw[h];rfl
 unfold jV;rw[this]
 split <;> rfl
theorem JW{s:ay}(h:¬ (comps s).length<=32):jV s=none:=by
 have:fits (comps s)=false:=by
  unfold fits;rw[decide_eq_false h,Bool.and_false]
 unfold jV;rw[this]
 split <;> rfl
theorem uu{s:ay}{k:OA->Nat->Nat->ab->Prop}(hl:s.length<=1099511627776)(Yk:jV s=none->∀ h',Fr No h h'->K (.tuple #[.slice none 0 0,.int .i64 130]) h')
  (hk:∀cs,jV s=some cs->∀a l c h',Fr No h h'->Ls h h' cs a l c->k a l c h')
  {no:HP} (hn:∀h',K (.tuple #[.slice none 0 0,.int .i64 130]) h'->no h') :
  C.cT (mkStr s) h λr2 h4=>∃(aX:OA) (aK:Nat) (bJ:Nat) (b3:Bool),r2 = .tuple #[.slice aX aK bJ,.bool b3]/\bif(!b3)then no h4 else bif(decide (((mkStr s).size:Int)>1024))then no h4 else k aX aK bJ h4:=by
 refine yT hl (λhs h' f=>⟨_,_,_,_,rfl,ct rfl (hn _ (Yk (HU hs) h' f))⟩) λhs a l c h' f L=>⟨_,_,_,_,rfl,?_⟩
 by_cases hm:(comps s).length<=32
 ·rw[decide_eq_true hm];rw[size_mk];refine cf rfl (cd (λhg=>hn _ (Yk ?_ h' f)) λhg=>hk (comps s) ?_ a l c h' f L)
  ·unfold jV;rw[if_neg (by omega)]
  ·have:fits (comps s)=true:=(by unfold fits;rw[decide_eq_true hm];unfold oD at hs;rw[hs];rfl);unfold jV;rw[if_pos (by omega),if_pos this]
 ·rw[decide_eq_false hm];exact ct rfl (hn _ (Yk (JW hm) h' f))
theorem zE{s:ay}(hl:s.length<=1099511627776)(hK:∀ a l c h',Fr No h h'->Ls h h' (aH s true).1 a l c->K (.tuple #[.slice a l c,.int .i64 (aH s true).2]) h'):C.dA (mkStr s) h K:=by
 refine dA.ok ?_;unfold dA;rw[toList_mkStr,toList_mkStr,size_mk]
 have bad:gy s true=true->∀h',Fr No h h'->K (.tuple #[.slice none 0 0,.int .i64 1]) h':=λhw h' f=>by
  have e:aH s true=([],1):=by rw[aH,if_pos hw]
  rw[e]at hK;exact hK none 0 0 h' f (nT _ _)
 refine sB (λh0=>bad (by rw[h0];rfl) h (Fr.refl _ _)) λh0=>?_
 cases s with
 | nil=>exact absurd rfl h0
 | cons b r=>
  refine⟨⟨by omega,by rw[List.length_cons];omega⟩,b,rfl,cn (λhb=>bad ?_ h (Fr.refl _ _)) λhb=>?_⟩
  ·have:((b::r).head? == some 47)=false:=beq_eq_false_iff_ne.mpr λe=>hb ((nW (k:=47) (by decide)).mpr (Option.some.inj e));unfold gy;rw[this];simp
  ·have hb:b=47:=(nW (k:=47) (by decide)).mp hb;subst hb;refine DZ (by omega) ⟨_,rfl,Hp.cs (λhz=>bad ?_ h (Fr.refl _ _)) λhz=>?_⟩
   ·unfold gy;rw[hz];simp
   ·have hw:gy (47::r) true=false:=(by unfold gy;rw[hz];rfl);unfold dA.k1;refine uu hl (λhc h' f=>?_) (λcs hc a l c h' f L=>?_) λh' x=>x
    ·have e:aH (47::r) true=([],130):=(by rw[aH,if_neg (by rw[hw];simp),hc]);rw[e]at hK;exact hK none 0 0 h' f (nT _ _)
    ·have e:aH (47::r) true=(cs,0):=(by rw[aH,if_neg (by rw[hw];simp),hc]);rw[e]at hK;exact hK a l c h' f L
theorem JX{s:ay}(hl:s.length<=1099511627776)(hK:∀ a l c h',Fr No h h'->Ls h h' (aH s false).1 a l c ->
  K (.tuple #[.slice a l c,.bool (decide ((aH s false).2=0) && s.head? == some 47),.int .i64 (aH s false).2]) h'):C.cV (mkStr s) h K:=by
 refine cV.ok ?_;unfold cV;rw[toList_mkStr,toList_mkStr]
 have bad:gy s false=true->∀h',Fr No h h'->K (.tuple #[.slice none 0 0,.bool false,.int .i64 1]) h':=λhw h' f=>by
  have e:aH s false=([],1):=by rw[aH,if_pos hw]
  rw[e]at hK;exact hK none 0 0 h' f (nT _ _)
 refine sB (λh0=>bad (by rw[h0];rfl) h (Fr.refl _ _)) λh0=>?_;refine DZ (by omega) ⟨_,rfl,Hp.cs (λhz=>bad ?_ h (Fr.refl _ _)) λhz=>?_⟩
 ·unfold gy;rw[hz];simp
 ·have hw:gy s false=false:=by unfold gy;rw[hz,beq_eq_false_iff_ne.mpr h0];rfl
  unfold cV.k1
  have no:jV s=none->∀h',Fr No h h'->K (.tuple #[.slice none 0 0,.bool false,.int .i64 130]) h':=λhc h' f=>by
   have e:aH s false=([],130):=(by rw[aH,if_neg (by rw[hw];simp),hc]);rw[e]at hK;exact hK none 0 0 h' f (nT _ _)
  refine uu (K:=λ_ h'=>K (.tuple #[.slice none 0 0,.bool false,.int .i64 130]) h') hl no (λcs hc a l c h' f L=>?_) λh' x=>x;have e:aH s false=(cs,0):=by rw[aH,if_neg (by rw[hw];simp),hc]
  rw[e]at hK;unfold cV.k2
  cases s with
  | nil=>exact absurd rfl h0
  | cons b r=>
   refine⟨⟨by decide,by rw[size_mk];show(0:Int)<((r.length+1:Nat):Int);omega⟩,b,by rw[toList_mkStr];rfl,?_⟩
   have e2:(((UInt8.toNat b:Nat):Int)==47)=(decide ((cs,(0:Int)).2=0) && (b::r).head? == some 47):=by
    show _=(some b==some 47);rw[Bool.eq_iff_iff,beq_iff_eq,beq_iff_eq]
    constructor
    ·intro h;exact congrArg some ((nW (k:=47) (by decide)).mp h)
    ·intro h;rw[Option.some.inj h];rfl
   rw[e2];exact hK a l c h' f L
theorem HV{ps:List ay}(h:0<ps.length):ps[ps.length-1]'(by omega)=ps.getLastD []:=by
 rw[List.getLastD_eq_getLast?,List.getLast?_eq_getElem?,List.getElem?_eq_getElem (by omega)];rfl
theorem wF{s:ay}(hl:s.length<=1099511627776)(hK:∀ a l c h',Fr No h h'->Rd h' (bq s).1 a l->l<=c->K (.tuple #[.slice a l c,.string (mkStr (bq s).2.1),.int .i64 (bq s).2.2]) h'):C.dQ (mkStr s) h K:=by
 refine dQ.ok (xX hl λa l c h2 f2 L=>⟨_,_,_,rfl,?_⟩);have pc:=sC s
 have bad:nU (sW s)=true->K (.tuple #[.slice none 0 0,.string (mkStr []),.int .i64 1]) h2:=λhd=>by
  have e:bq s=([],[],1):=by rw[bq,if_pos hd];split <;> rfl
  rw[e]at hK;exact hK none 0 0 h2 f2 ⟨rfl,rfl⟩ (Nat.le_refl _)
 have wc:nU (sW s)=false->dQ.k1 (mkStr s) h2 K:=by
  intro hd;unfold dQ.k1;refine zE hl λa3 l3 c3 h3 f3 L3=>⟨_,_,_,_,rfl,?_⟩
  have em:bq s=if(aH s true).2=0 then(if(aH s true).1=[]then([],[],0)else((aH s true).1.dropLast,(aH s true).1.getLastD [],0))else([],[],(aH s true).2):=by
   unfold bq aH
   split
   ·rfl
   ·rw[if_neg (by rw[hd];simp)]
    cases jV s with
    | none=>rfl
    | some cs=>rfl
  rw[em]at hK;refine cn (λh0=>?_) λh0=>?_
  ·rw[if_neg h0]at hK;exact hK none 0 0 h3 (f2.no f3) ⟨rfl,rfl⟩ (Nat.le_refl _)
  ·rw[if_pos h0]at hK;have T:=xW h0;generalize(aH s true).1=cs at T L3 hK;have fl:=T.is.2.2;rw[fits,Bool.and_eq_true,decide_eq_true_eq]at fl;obtain⟨rfl,S⟩:=L3;refine ce (λhz=>?_) λhz=>?_
   ·have hz:cs=[]:=List.eq_nil_of_length_eq_zero (by omega);rw[if_pos hz]at hK;exact hK none 0 0 h3 (f2.no f3) ⟨rfl,rfl⟩ (Nat.le_refl _)
   ·have vu:0<cs.length:=(by omega);rw[if_neg (λe=>by rw[e]at vu;cases vu)]at hK;have qW:=S.le;rw[wrap_i64 (n:=(cs.length:Int)-1) (by omega) (by omega),show((cs.length:Int)-1).toNat=cs.length-1 by omega];obtain⟨p,rfl,cl⟩:=u0 S.cells (i:=cs.length-1) (by omega);rw[HV vu]at cl;refine⟨⟨by omega,by omega⟩,⟨by omega,by omega⟩,os ⟨_,cl,?_⟩⟩;refine hK (some p) _ c3 h3 (f2.no f3) ⟨?_,by rw[List.length_dropLast]⟩ (by omega);rw[List.dropLast_eq_take,<-DW];exact ag.take S.cells _
 obtain⟨el,S⟩:=L;have QC:sW s=(pieces s).getLastD []:=rfl;generalize pieces s=ps at el S pc QC;subst el;refine cd (λhp=>?_) λhp=>?_
 ·have vu:0<ps.length:=by omega
  rw[wrap_i64 (n:=(ps.length:Int)-1) (by omega) (by omega),show((ps.length:Int)-1).toNat=ps.length-1 by omega];obtain⟨p,rfl,cl⟩:=u0 S.cells (i:=ps.length-1) (by omega);rw[HV vu,<-QC]at cl;refine⟨⟨by omega,by omega⟩,os ⟨_,cl,?_⟩⟩;rw[toList_mkStr,toList_mkStr];refine sB (λhd=>bad (by rw[hd];rfl)) λhd=>⟨⟨by omega,by omega⟩,os ⟨_,cl,?_⟩⟩;rw[toList_mkStr,toList_mkStr];refine sB (λhd2=>bad (by rw[hd2];rfl)) λhd2=>wc ?_;unfold nU;rw[beq_eq_false_iff_ne.mpr hd,beq_eq_false_iff_ne.mpr hd2];rfl
 ·have:ps=[]:=List.eq_nil_of_length_eq_zero (by omega);exact wc (by rw[QC,this];rfl)
end Pa
namespace Wl
open Hp W Re Ss
open Hd (ints)
open In (ah av)
def nB(acc:List Int)(y:Int):List Int:=if acc.getLast?=some y then acc else acc++[y]
def fG(l:List Int):List Int:=l.foldl nB []
theorem wG(acc:List Int)(y:Int):(nB acc y).getLast?=some y:=by
 unfold nB
 split
 ·assumption
 ·simp
theorem yU(hn:n<zs.length):fG (zs.take (n+1))=nB (fG (zs.take n)) zs[n]:=by
 unfold fG;rw[List.take_succ_eq_append_getElem hn,List.foldl_append];rfl
theorem D2(h0:0<n)(hn:n<=zs.length):(fG (zs.take n)).getLast?=some (zs[n-1]'(by omega)):=by
 obtain⟨m,rfl⟩:∃m,n=m+1:=⟨n-1,by omega⟩;rw[yU (by omega),wG];rfl
theorem xY : ∀{l acc:List Int} {x:Int},x∈l.foldl nB acc->x∈acc∨x∈l
 | [],acc,x,h=>.inl h
 | y::r,acc,x,h=>by
  rcases xY (l:=r) h with h|h
  ·unfold nB at h
   split at h
   ·exact .inl h
   ·rcases List.mem_append.mp h with h|h
    ·exact .inl h
    ·rw[List.mem_singleton.mp h];exact .inr List.mem_cons_self
  ·exact .inr (List.mem_cons_of_mem _ h)
theorem ND{X C:LV}(h:k+C.length<=X.length):(put X k C).take k=X.take k:=by
 refine List.ext_getElem? λi=>?_;rw[List.getElem?_take,List.getElem?_take]
 by_cases hi:i<k
 ·rw[if_pos hi,if_pos hi,pf _ _ _ _ (by omega),if_neg (by omega)]
 ·rw[if_neg hi,if_neg hi]
theorem ZM{b:Nat}{K:HP}(w:du h b)(hw:o+l<=(rd h b).length)(hK:∀ h',yw b h h' (put (rd h b) o (ints (List.replicate l 0)))->K h'):EC qP (some ⟨b,o,none⟩) l h K:=by
 have erep:∀m,aW [Value.int .i64 0] m=ints (List.replicate m 0):=λm=>by
  unfold ints;rw[List.map_replicate];rfl
 refine⟨trivial,?_,?_⟩
 ·rw[show(qP).cells=1 from rfl,Nat.mul_one];simp only[Om,Addr.add_zero];exact yv w (by omega)
 ·show K (wW h _ 0 (aW [Value.int .i64 0] l));rw[erep];simp only[wW,Addr.add_zero];refine hK _ ⟨Hp.size_setRow _ _ _ _,Fr.setRow (F:=λx=>x=b) (Or.inl rfl) (Fr.refl _ _),nG w,?_⟩;rw[jd,Nat.add_zero]
theorem BW(c:ai h p (ints ys)){j:Nat}{v:Int}(hv:ys[j]?=some v):cellOf h (Addr.add p j)=some (.int .i64 v):=by
 refine c j _ ?_;unfold ints;rw[List.getElem?_map,hv];rfl
theorem FX(s:Sl h 1 a l c (ints zs) F)(hl:l<=1000000000000)
  (hK:∀h' m,m=(fG zs).length->Fr (λb=>∃p,a=some p/\b=p.block) h h'->Sl h' 1 a m c (ints (fG zs)) F->K (.slice a m c) h'):C.dM a l c h K:=by
 have le:zs.length=l:=by
  have:=s.1;rw[ah,Nat.mul_one]at this;exact this
 have lc:=s.le
 have done:fG zs=zs->K (.slice a l c) h:=λe=>by
  have:=hK h l (by rw[e,le]) (Fr.refl _ _);rw[e]at this;exact this s
 refine dM.ok (cd (λh2=>done ?_) λh2=>?_)
 ·match zs,le with
  | [],_=>rfl
  | [x],_=>rfl
  | _::_::_,le=>rw[List.length_cons,List.length_cons]at le;omega
 cases a with
 | none=>have:=s.2.1;omega
 | some p=>
  obtain⟨b,o,sp⟩:=p;have ep:sp=none:=s.2.1;subst ep;refine⟨λi hx=>∃k:Nat,i=k/\1<=k/\k<=l/\hx=h/\fG (zs.take k)=zs.take k,λi _=>((l:Int)-i).toNat,⟨1,rfl,Nat.le_refl _,by omega,rfl,?_⟩,?_⟩
  ·match zs,le with
   | [],le=>rw[List.length_nil]at le;omega
   | x::r,_=>rfl
  rintro i hx ⟨k,rfl,k1,kl,rfl,ek⟩;have C0:ai hx ⟨b,o,none⟩ (ints zs):=s.cells;refine cd (λdh=>?_) λvF=>?_
  ·have hk:k<zs.length:=(by omega);rw[wrap_i64 (show -9223372036854775808<=(k:Int)-1 by omega) (by omega),show((k:Int)-1).toNat=k-1 by omega,Int.toNat_natCast];refine⟨⟨by omega,by omega⟩,os ⟨zs[k],BW C0 (List.getElem?_eq_getElem hk),⟨by omega,by omega⟩,os ⟨zs[k-1]'(by omega),BW C0 (List.getElem?_eq_getElem (by omega)),?_⟩⟩⟩;have bV:=yU (zs:=zs) hk;have cl:=D2 (zs:=zs) (n:=k) (by omega) (by omega);refine ce (λheq=>?_) λfB=>?_
   ·-- the first that is told twice
    have e1:fG (zs.take (k+1))=zs.take k:=by
     rw[bV,nB,if_pos (by rw[cl,heq]),ek]
    have ck:c≠k:=(by omega);rw[if_neg ck,Option.map_some]
    refine⟨⟨by omega,by omega⟩,λi2 i3 hx2=>∃(q m:Nat) (ys:List Int),i3=q/\i2=m/\1<=q/\k+q<=l/\m=(fG (zs.take (k+q))).length/\m+1<=k+q/\ys.length=l/\ys.take m=fG (zs.take (k+q))/\(∀j,k+q<=j+1->ys[j]?=zs[j]?)/\
     Sl hx2 1 (some ⟨b,o,none⟩) l c (ints ys) F/\Fr (λx=>x=b) hx hx2,λ_ i3 _=>((l:Int)-i3).toNat,⟨1,k,zs,rfl,rfl,Nat.le_refl _,by omega,by rw[e1,List.length_take];omega,by omega,le,e1.symm,λ_ _=>rfl,s,Fr.refl _ _⟩,?_⟩
    rintro i2 i3 hx2 ⟨q,m,ys,rfl,rfl,q1,ql,em,hm,ly,et,ej,S,f⟩;have C2:ai hx2 ⟨b,o,none⟩ (ints ys):=S.cells;have UQ:=S.wr;refine cd (λJY=>?_) λhge2=>?_
    ·have hkq:k+q<zs.length:=(by omega);rw[wrap_i64 (show -9223372036854775808<=(q:Int)-1 by omega) (by omega),show((q:Int)-1).toNat=q-1 by omega,Int.toNat_natCast]
     have a1:cellOf hx2 (Addr.add (Addr.add ⟨b,o,none⟩ k) q)=some (.int .i64 zs[k+q]):=by
      rw[Addr.add_add];exact BW C2 ((ej _ (by omega)).trans (List.getElem?_eq_getElem hkq))
     have a2:cellOf hx2 (Addr.add (Addr.add ⟨b,o,none⟩ k) (q-1))=some (.int .i64 (zs[k+q-1]'(by omega))):=by
      rw[Addr.add_add,show k+(q-1)=k+q-1 by omega];exact BW C2 ((ej _ (by omega)).trans (List.getElem?_eq_getElem (by omega)))
     have eO:=yU (zs:=zs) hkq;have cl2:=D2 (zs:=zs) (n:=k+q) (by omega) (by omega);refine⟨⟨by omega,by omega⟩,os ⟨_,a1,⟨by omega,by omega⟩,os ⟨_,a2,cn (λfB=>?_) λZE=>?_⟩⟩⟩
     ·have e2:fG (zs.take (k+q+1))=fG (zs.take (k+q))++[zs[k+q]]:=by
       rw[eO,nB,if_neg (by rw[cl2];exact λy=>fB (Option.some.inj y).symm)]
      refine⟨⟨by omega,by omega⟩,os ⟨_,a1,⟨by omega,by omega⟩,os (bQ.add UQ.1 (by have:=UQ.2;omega) λh4 d4=>?_)⟩⟩;have S4:=S.putAt (new:=[.int .i64 zs[k+q]]) (j:=m) (by show m+1<=l*1;omega) d4;rw[show put (ints ys) m [.int .i64 zs[k+q]]=ints (ys.set m zs[k+q]) by unfold ints;rw[List.map_set];rfl]at S4;rw[wrap_i64 (show -9223372036854775808<=(m:Int)+1 by omega) (by omega),wrap_i64 (show -9223372036854775808<=(q:Int)+1 by omega) (by omega)];refine⟨⟨q+1,m+1,ys.set m zs[k+q],by omega,by omega,by omega,by omega,?_,by omega,by rw[List.length_set];exact ly,?_,λj hj=>?_,S4,f.trans d4.fr λ_ _ y=>y⟩,by show((l:Int)-((q:Int)+1)).toNat<((l:Int)-(q:Int)).toNat;omega⟩
      ·rw[show k+(q+1)=k+q+1 by omega,e2,List.length_append,<-em];rfl
      ·rw[show k+(q+1)=k+q+1 by omega,e2,<-et,List.take_succ_eq_append_getElem (by rw[List.length_set];omega),List.getElem_set_self,List.take_set_of_le (Nat.le_refl _)]
      ·rw[List.getElem?_set_ne (by omega)];exact ej j (by omega)
     ·have e2:fG (zs.take (k+q+1))=fG (zs.take (k+q)):=by
       rw[eO,nB,if_pos (by rw[cl2,ZE])]
      rw[wrap_i64 (show -9223372036854775808<=(q:Int)+1 by omega) (by omega)];refine⟨⟨q+1,m,ys,by omega,rfl,by omega,by omega,?_,by omega,ly,?_,λj hj=>ej j (by omega),S,f⟩,by show((l:Int)-((q:Int)+1)).toNat<((l:Int)-(q:Int)).toNat;omega⟩
      ·rw[show k+(q+1)=k+q+1 by omega,e2];exact em
      ·rw[show k+(q+1)=k+q+1 by omega,e2];exact et
    ·have eq:k+q=l:=(by omega);have ez:zs.take l=zs:=List.take_of_length_le (by omega);rw[eq,ez]at em et;have cm:c≠(m:Int).toNat:=(by rw[Int.toNat_natCast];omega);rw[if_neg cm,Option.map_some,Int.toNat_natCast,cI];refine⟨⟨by omega,by omega⟩,ZM UQ.1 (by have:=UQ.2;omega) λh5 d5=>⟨⟨by omega,by omega⟩,?_⟩⟩;have lr:(ints (List.replicate (l-m) 0)).length=l-m:=(by rw[ah,List.length_replicate]);have S5:=S.putAt (j:=m) (by rw[lr];omega) d5;have S6:=Pa.JR S5 (m:=m) (by omega) c (by omega) (Nat.le_refl _);rw[ND (by rw[lr,ah];omega),show(ints ys).take m=ints (fG zs) by rw[<-et];unfold ints;rw[List.map_take]]at S6;exact hK h5 m em ((f.trans d5.fr λ_ _ y=>y).mono λx _ y=>⟨_,rfl,y⟩) S6
   ·have e1:fG (zs.take (k+1))=zs.take (k+1):=by
     rw[bV,nB,if_neg (by rw[cl];exact λy=>fB (Option.some.inj y).symm),ek,List.take_succ_eq_append_getElem hk]
    rw[wrap_i64 (show -9223372036854775808<=(k:Int)+1 by omega) (by omega)];exact⟨⟨k+1,by omega,by omega,by omega,rfl,e1⟩,by show((l:Int)-((k:Int)+1)).toNat<((l:Int)-(k:Int)).toNat;omega⟩
  ·have:k=l:=(by omega);rw[this,List.take_of_length_le (by omega)]at ek;exact done ek
end Wl
end Go.Proofs.YtiapingedfnlnaaGreatDoor
