/- filePlays_card -/
import Derived.Test.YtjdcbblgaoogmaaGreatDoorGp4
namespace Go.Proofs.YtjdcbblgaoogmaaGreatDoor
open Go Go.Proofs Wx
variable{a ka e r t q A d u:OA}{l c kl kc j b m k n0 w ec o cb first U:Nat}{bs:LB}{h h' h0 hh EN:ad}{K k':KT}{i x B:Int}{ao ay:Nat->Nat}{F E E':NP}{p:Addr}{xs vs args:LV}{vm:Value}
namespace Rf
open Hp W Ad L3
theorem PH(l:List Bool):∀v∈l.map Value.bool,v.oneCell'=true:=λv hv=>by
 obtain⟨x,_,rfl⟩:=List.mem_map.mp hv;rfl
theorem Mm{bs:List Bool}(B:ak h a (bs.map .bool))(hl:bs.length=l)(hm:l<=140737488355328)
  (hK:∀a' c' h',Fr No h h'->Sl h' 1 a' l c' (bs.map .bool) (dG h.size)->K (vS a' l c') h'):C.iR a l c h K:=by
 have e:(bs.map Value.bool).length=l*1:=by rw[lM0,hl,Nat.mul_one]
 exact iR.ok ⟨_,e,B,PH bs,append_nil e rfl (by show l*1<=_;omega) hm hK⟩
section
variable{h : ad}{d : OA}{S : FD}{ao : Nat -> Nat}{m : Nat}
theorem yw(D:rj h d S ao m)(hl:0<=S.left/\S.left<=9223372036854775807)(hn:S.fy.length<1000000000)
  (hK:∀h' ay,Fr (Dk ao m) h h'->Ag h.size ao ay->rj h' d S.flush.1 ay m->K (vI S.flush.2) h'):C.cX d h K:=by
 obtain⟨b,r,es,rfl,D⟩:=D;refine cX.ok (os ⟨_,D.field 4,?_⟩);rw[D.out];refine cs (λho=>?_) λho=>?_
 ·have e1:S.flush=(S,30):=by unfold FD.flush;rw[if_pos ho]
  rw[e1]at hK;exact hK h ao (Fr.refl _ _) (Ag.refl _ _) ⟨b,r,es,rfl,D⟩
 unfold FD.flush at hK;rw[if_neg (by rw[ho];simp)]at hK;refine os ⟨_,D.field 6,os (aO.add D.so (by rw[D.len];decide) λh2 d2=>?_)⟩;rw[D.sr,D.av]at d2;have d2':rW b h h2 ({ r with left:=r.left,out:=r.out,writes:=r.writes,av:=wI (S.av+1) }:yy).cells:=d2;have D2:=D.re d2';have eS:({ S with left:=r.left,out:=r.out,writes:=r.writes,av:=wI (S.av+1) }:FD)={ S with av:=wI (S.av+1) }:=by rw[D.left,D.out,D.writes]
 rw[eS]at D2;have F2:Fr (Dk ao m) h h2:=(Fr.refl _ _).did d2 λ_=>D.dk;have YA:0<=({ S with av:=wI (S.av+1) }:FD).left/\({ S with av:=wI (S.av+1) }:FD).left<=9223372036854775807:=hl;have ha:(FD.goes { S with av:=wI (S.av+1) }).1.fy=S.fy:=by unfold FD.goes;split <;> rfl
 generalize({ S with av:=wI (S.av+1) }:FD)=S2 at hK D2 YA ha;refine GF D2 YA λh3 r3 f3 D3=>⟨_,rfl,cs (λhg=>?_) λhg=>?_⟩
 ·rw[if_pos hg]at hK;exact hK h3 ao (F2.trans f3 λ_ _ y=>y) (Ag.refl _ _) ⟨b,r3,es,rfl,D3⟩
 rw[if_neg (by rw[hg];simp)]at hK;have ZE:=nI.length D3.ts;rw[ha]at ZE;refine os ⟨_,_,_,D3.field 1,rfl,az.intro λh4 n4=>?_⟩;have D4:=D3.pE n4.fr (Ag.refl _ _) λ_ _ _ y=>y;have e0:([vI 2,vI 0,vS none 0 0]:LV)=kG.cells ⟨2,0,none,0,0⟩:=rfl;have r4:=n4.rd;refine⟨kG.cells ⟨2,0,none,0,0⟩,rfl,ah r4,Cz _,?_⟩;refine J6 D4 (e:=⟨2,0,none,0,0⟩) (t:=(2,0,[])) rfl rfl ⟨rfl,rfl⟩ (λp ep=>by cases ep) (by omega) λh6 aah r6 f6 g6 D6=>?_;exact hK h6 aah (((F2.trans f3 λ_ _ y=>y).new n4).trans f6 λ_ _ y=>y) (g6.le (Nat.le_trans d2.fr.size (Nat.le_trans f3.size n4.fr.size))) ⟨b,r6,_,rfl,D6⟩
theorem yv{keep:List Bool}(D:rj h d S ao m)(B:ak h ka (keep.map .bool))(EM:keep.length=kl)(hm:kl<=140737488355328)(We:∀ p,ka=some p->keep≠[]->¬ Dk ao m p.block)
  (hK:∀h' ay,Fr (Dk ao m) h h'->Ag h.size ao ay->rj h' d (S.rq keep) ay m->K (.tuple #[]) h'):C.cY d ka kl kc h K:=by
 obtain⟨b,r,es,rfl,D⟩:=D;refine cY.ok (os ⟨_,D.field 4,?_⟩);rw[D.out];refine cs (λho=>?_) λho=>?_
 ·have e1:S.rq keep=S:=by unfold FD.rq;rw[if_pos ho]
  rw[e1]at hK;exact hK h ao (Fr.refl _ _) (Ag.refl _ _) ⟨b,r,es,rfl,D⟩
 have e1:S.rq keep={ S with out:=true,keep:=keep }:=by unfold FD.rq;rw[if_neg (by rw[ho];simp)]
 rw[e1]at hK;refine os (aO.add D.so (by rw[D.len];decide) λh2 d2=>?_);rw[D.sr]at d2;have d2':rW b h h2 ({ r with left:=r.left,out:=true,writes:=r.writes,av:=r.av }:yy).cells:=d2;have D2:=D.re d2'
 have B2:ak h2 ka (keep.map .bool):=by
  cases ka with
  | none=>exact B
  | some p=>
   by_cases hk:keep=[]
   ·subst hk;exact aj.nil _ _
   ·exact ak.fr (a:=some p) d2.fr B λq eq y=>by
     cases eq
     exact We p rfl hk (by have y:p.block=b:=y;rw[y];exact D.dk)
 have z2:=d2.size;refine Mm B2 EM hm λa3 c3 h3 f3 s3=>⟨_,_,_,rfl,?_⟩;have g3:Ag h2.size ao (oR ao h2.size (m+4)):=pW _ _ _;have D3:=D2.pE f3 g3 λ_ _ _ y=>y;refine os (aO.add D3.so (by rw[D3.len];decide) λh4 d4=>?_);rw[D3.sr]at d4;have d4':rW b h3 h4 ({ r with out:=true,ka:=a3,kn:=kl,kc:=c3 }:yy).cells:=d4;have sc:=D3.sc;have ne:∀k,1<=k->∀x,oR ao h2.size (m+4) x=m+k->¬(λx=>x=b) x:=λk hk x hx (y:x=b)=>by rw[y,sc]at hx;omega
 have F4:Fr (Dk ao m) h h4:=((((Fr.refl _ _).did d2 λ_=>D.dk).no f3)).did d4 λ_=>D.dk;refine hK h4 (oR ao h2.size (m+4)) F4 (g3.le (Nat.le_of_eq z2.symm)) ⟨b,{ r with out:=true,ka:=a3,kn:=kl,kc:=c3 },es,rfl,⟨sc,d4.own,d4.rd,D.left,rfl,D.writes,D.av,D3.f.keep d4.fr (Ag.refl _ _) (ne 1 (by decide)),D.fn,D.St,D3.a.keep d4.fr (Ag.refl _ _) (ne 2 (by decide)),D.an,D.Sv,nI.keep d4.fr (Ag.refl _ _) (ne 3 (by decide)) D3.ts,?_,EM.symm⟩⟩;have Wl:Sl h3 1 a3 kl c3 (keep.map .bool) (On (oR ao h2.size (m+4)) (m+4)):=s3.mono λx hx=>uE hx;exact Wl.keep d4.fr (Ag.refl _ _) (ne 4 (by decide))
end
def sQ(i:Int)(z:LB)(ts:List Tt):LB:=ts.foldl (λb t=>if t.1=1/\t.2.1=i then t.2.2 else b) z
theorem yz(i:Int)(z:LB)(ts:List Tt)(t:Tt):sQ i z (ts++[t])=if t.1=1/\t.2.1=i then t.2.2 else sQ i z ts:=by unfold sQ;rw[List.foldl_append];rfl
def N9(ts:List Tt):List Int:=ts.foldl (λl t=>if t.1=2 then[]else l++[t.2.1]) []
theorem Mn(ts:List Tt)(t:Tt):N9 (ts++[t])=if t.1=2 then[]else N9 ts++[t.2.1]:=by unfold N9;rw[List.foldl_append];rfl
def FD.oL(S:FD)(i:Int):LB:=(S.first.drop (i.toNat*512)).take 512
structure FD.Ok(S:FD):Prop where
 len:S.first.length=S.N*512
 max:S.N<=16384
 may:∀t∈S.fy,Sy (S.N:Nat) t
theorem Wm{i:Nat}(B:aw h a l bs)(IX:l<=c)(NG:i<=j)(hj:j<=l):aw h (if c=i then a else Option.map (Addr.add · i) a) (j-i) ((bs.drop i).take (j-i)):=by
 by_cases e:c=i
 ·rw[if_pos e];have:j-i=0:=by omega
  rw[this,List.take_zero];exact aw.nil _ _
 ·rw[if_neg e];exact aw.take (aw.drop B i) (by omega)
section
variable{h : ad}{d : OA}{S : FD}{ao : Nat -> Nat}{m : Nat}{b : Nat}{r : yy}{es : List kG}
theorem Ref.rot(D:Ref h b S ao m r es):YE h r.aa r.an es S.fy:=
 ⟨D.a.cells,(nI.length D.ts).symm.trans D.an.symm,nI.length D.ts,λi h1 h2=>by obtain⟨x1,x2,x3,_⟩:=nI.at_ D.ts i h1 h2;exact⟨x1,x2,x3⟩⟩
theorem Ref.str(D:Ref h b S ao m r es):aw h r.fa r.fn S.first:=D.f.str
theorem cD(D:rj h d S ao m)(ok:S.Ok)(hw:∀ t ∈ S.fy,t.2.2.length<=140737488355328)
  (h1:S.out=true->K (.tuple #[vS none 0 0,vI 30]) h) (h2:S.out=false->¬(0<=i/\i<(S.N:Nat))->K (.tuple #[vS none 0 0,vI 31]) h)
  (h3:S.out=false->0<=i->i<(S.N:Nat)->∀a c h',Fr No h h'->Sl h' 1 a (sQ i (S.oL i) S.fy).length c ((sQ i (S.oL i) S.fy).map bv) (dG h.size)->K (.tuple #[vS a (sQ i (S.oL i) S.fy).length c,vI 0]) h'):C.bR d i h K:=by
 obtain⟨b,r,es,rfl,D⟩:=D;have R:=D.rot;refine bR.ok (os ⟨_,D.field 4,?_⟩);rw[D.out];refine cs (λho=>h1 ho) λho=>cd (λhi=>h2 ho (by omega)) λhi=>iI ⟨b,r,es,rfl,D⟩ ⟨_,rfl,cd (λhj=>h2 ho (by have hj:i>=((S.N:Nat):Int):=hj;omega)) λhj=>?_⟩;have hj:¬i>=((S.N:Nat):Int):=hj;have h3:=h3 ho (by omega) (by omega);have hnum:=R.num;have hmx:=ok.max;have hln:=ok.len;have hfn:=D.fn;have adY:=D.Sv;have ZE:=R.len;unfold bR.k1;refine os ⟨_,_,_,D.field 1,λj hh=>-1<=j/\j<S.fy.length/\hh=h/\sQ i (S.oL i) S.fy=sQ i (S.oL i) (S.fy.take (j+1).toNat),λj _=>(j+1).toNat,⟨?_,?_,rfl,?_⟩,?_⟩
 ·rw[wrap_i64 (by omega) (by omega)];omega
 ·rw[wrap_i64 (by omega) (by omega)];omega
 ·rw[wrap_i64 (by omega) (by omega),List.take_of_length_le (by omega)]
 rintro j hh ⟨j0,j1,rfl,e⟩;refine cd (λbK=>?_) λbK=>?_
 ·obtain⟨p,en,ep,c,x1,x2,x3,Bo,_⟩:=R.cell (i:=j.toNat) (by omega);have ek:(S.fy.getD j.toNat (0,0,[]))=S.fy[j.toNat]:=by rw[List.getD_eq_getElem?_getD,List.getElem?_eq_getElem Bo];rfl
  rw[ek]at x1 x2 x3;have et:(j+1).toNat=j.toNat+1:=by omega
  rw[et,dQ _ _ Bo,yz]at e
  have nxt:¬(S.fy[j.toNat].1=1/\S.fy[j.toNat].2.1=i)->((-1<=j-1/\j-1<S.fy.length/\hh=hh/\sQ i (S.oL i) S.fy=sQ i (S.oL i) (S.fy.take (j-1+1).toNat))/\(j-1+1).toNat<(j+1).toNat):=λy=>by
   rw[if_neg y]at e;exact⟨⟨by omega,by omega,rfl,by rw[show(j-1+1).toNat=j.toNat by omega];exact e⟩,by omega⟩
  have bd:(0:Int)<=j/\j<(r.an:Int):=⟨by omega,by omega⟩;refine os ⟨_,_,_,D.field 1,bd,?_⟩;rw[ep];refine os ⟨_,aj.cell c (i:=0) rfl,ce (λhk=>?_) λhk=>?_⟩
  ·refine os ⟨_,_,_,D.field 1,bd,?_⟩;rw[ep];refine os ⟨_,aj.cell c (i:=1) rfl,ce (λha=>?_) λha=>?_⟩
   ·rw[if_pos ⟨by omega,by omega⟩]at e;rw[e]at h3;have l3:=hw _ (List.getElem_mem Bo);have hx3:=x3.1;refine os ⟨_,_,_,D.field 1,bd,?_⟩;rw[ep];refine os ⟨_,_,_,aj.cell c (i:=2) rfl,qI x3 (by omega) λa5 c5 h5 f5 s5=>⟨_,_,_,rfl,?_⟩⟩;rw[<-hx3]at s5 ⊢;exact h3 a5 c5 h5 f5 s5
   ·rw[wrap_i64 (by omega) (by omega)];exact nxt λy=>ha (by omega)
  ·rw[wrap_i64 (by omega) (by omega)];exact nxt λy=>hk (by omega)
 ·have ej:(j+1).toNat=0:=by omega
  rw[ej,List.take_zero]at e;have e:sQ i (S.oL i) S.fy=S.oL i:=e;rw[e]at h3;have lc:=D.f.le;have w1:wI (i*512)=i*512:=wrap_i64 (by omega) (by omega);have w2:wI (i*512+512)=i*512+512:=wrap_i64 (by omega) (by omega);refine os ⟨_,_,_,D.field 0,?_⟩;rw[w1,w2];have n1:(i*512).toNat=i.toNat*512:=by omega
  have n2:(i*512+512).toNat=i.toNat*512+512:=by omega
  have hf:(S.oL i).length=512:=by unfold FD.oL;rw[lT0,lD0];omega
  rw[n1,n2];refine⟨⟨by omega,by omega,by omega⟩,?_⟩;have B:=Wm (i:=i.toNat*512) (j:=i.toNat*512+512) D.str lc (by omega) (by omega);have hd:i.toNat*512+512-i.toNat*512=512:=by omega
  rw[hd]at B ⊢;refine qI B (by decide) λa5 c5 h5 f5 s5=>⟨_,_,_,rfl,?_⟩;rw[hf]at h3;exact h3 a5 c5 h5 f5 s5
def FD.image(S:FD):List LB:=mq (if S.out=true then S.keep else[]) (chunks S.first) S.fy 0
theorem yu(D:rj h d S ao m)(ok:S.Ok) 
  (hK:∀a c h',Fr No h h'->Sl h' 1 a (S.N*512) c (S.image.flatten.map bv) (dG h.size)->K (vS a (S.N*512) c) h'):C.dK d h K:=by
 obtain⟨b,r,es,rfl,D⟩:=D;have R:=D.rot;have el:r.fn=S.N*512:=D.fn.trans ok.len;have hnum:=R.num;have adY:=D.Sv;have han:=D.an;unfold FD.image at hK;refine dK.ok (os ⟨_,D.field 4,?_⟩);rw[D.out];refine cs (λho=>?_) λho=>?_
 ·rw[if_pos ho]at hK;refine os ⟨_,_,_,D.field 0,os ⟨_,_,_,D.field 1,os ⟨_,_,_,D.field 2,?_⟩⟩⟩;refine xf D.str ok.max el R (by omega) ok.may D.k.cells D.kn.symm λa c h' f s=>⟨_,_,_,rfl,?_⟩;rw[el]at s ⊢;exact hK a c h' f s
 ·rw[if_neg (by rw[ho];simp)]at hK;refine os ⟨_,_,_,D.field 0,os ⟨_,_,_,D.field 1,?_⟩⟩;refine xf (keep:=[]) D.str ok.max el R (by omega) ok.may rfl rfl λa c h' f s=>⟨_,_,_,rfl,?_⟩;rw[el]at s ⊢;exact hK a c h' f s
end
theorem wi(D:RD)(ts:List Tt)(t:Tt):replay D (ts++[t])=again (replay D ts) t:=by unfold replay;rw[List.foldl_append];rfl
def FD.Q(S:FD):RD:=replay (Ad.fresh (chunks S.first)) S.fy
theorem wj{D:RD}(c:L3.Calm D){i:Int}{b:LB}(h0:0<=i)(h1:i<D.aB.length)(h2:b.length=512):again D (1,i,b)=D.pH i b:=by
 rw[again,if_neg (show ¬((1:Int),i,b).1=2 from(by decide:¬(1:Int)=2)),RD.write,if_neg (by rw[c.down];exact Bool.false_ne_true),if_neg (λx=>x ⟨h0,h1⟩),if_neg (λx=>x h2),RD.step,if_neg (by show ¬0<D.left;rw[c.left];omega)];rfl
theorem wk{D:RD}(c:L3.Calm D){i:Int}{b:LB}:again D (2,i,b)=RD.om { D with av:=wI (D.av+1) }:=by rw[again,if_pos rfl,c.flush]
theorem BK{D:RD}(N:Nat):∀(ts:List Tt),L3.Calm D->D.aB.length=N->(∀t∈ts,Sy N t)->L3.Calm (replay D ts)/\(replay D ts).aB.length=N:=by
 intro ts
 induction ts generalizing D with
 | nil=>intro c h _;exact⟨c,h⟩
 | cons t r ih=>
  intro c hN hm;have hr:∀t∈r,Sy N t:=λt ht=>hm t (List.mem_cons_of_mem _ ht);have qS:replay D (t::r)=replay (again D t) r:=rfl;rw[qS];obtain⟨k,i,b⟩:=t
  rcases hm _ (List.mem_cons_self ..)with h2|⟨h1,e0,e1,e2⟩
  ·have h2:k=2:=h2;subst h2;rw[wk c];exact ih ⟨c.down,c.left,BJ _ _ c.lw c.pw,λx hx=>by simp[RD.om]at hx⟩ ((dX _ _).trans hN) hr
  ·have h1:k=1:=h1;subst h1;rw[wj c e0 (by rw[hN];exact e1) e2];exact ih (c.pH _ e2) hN hr
theorem FD.Ok.calm{S:FD}(o:S.Ok):L3.Calm S.Q/\S.Q.aB.length=S.N:=
 BK S.N S.fy (L3.Calm.fresh (uL _)) (by show(chunks S.first).length=_;rw[jD];rfl) o.may
theorem FD.Ok.left{S:FD}(o:S.Ok)(keep:List Bool):(S.Q.cut keep).aB=mq keep (chunks S.first) S.fy 0:=
 Mi keep (uL _) (by rw[jD];rfl) S.fy o.may
structure Sm(D:RD)(S:FD):Prop where
 ok:S.Ok
 tape:D.tape=S.fy
 writes:D.writes=S.writes
 av:D.av=S.av
 down:D.down=S.out
 left:S.out=false->D.left=S.left
 keep:S.out=false->S.left≠0->D.keep=S.keep
 ny:0<=S.left/\S.left<=9223372036854775807
 len:D.aB.length=S.N
 up:S.out=false->D.aB=S.Q.aB/\D.bz=S.Q.bz
 dn:S.out=true->D.aB=mq S.keep (chunks S.first) S.fy 0/\D.bz=[]
theorem SB{N:Nat}{b:LB}:Fg (N:Nat) (1,i,b)=if ¬(0<=i/\i<(N:Nat))then 31 else if b.length≠512 then 32 else 0:=by
 unfold Fg qk;rw[if_neg (show ¬((1:Int)=2) by decide),if_neg (show ¬((1:Int)≠1) by decide)]
 by_cases h1:i<0
 ·rw[if_pos h1,if_pos (by omega)]
 ·rw[if_neg h1]
  by_cases h2:i>=(N:Nat)
  ·rw[if_pos h2,if_pos (by omega)]
  ·rw[if_neg h2];show(if b.length≠512 then(32:Int)else 0)=_;rw[if_neg (show ¬¬(0<=i/\i<(N:Nat)) from λy=>y ⟨by omega,by omega⟩)]
theorem N'{D1:RD}{S1:FD}{f:RD->RD}{g:FD->FD}(ho:S1.out=false)(hd:D1.down=false)(hl:D1.left=S1.left)(hb:0<=S1.left/\S1.left<=9223372036854775807)
  (ad0:S1.left≠0->S1.left-1=0->Sm (RD.cut { D1 with left:=S1.left-1 } D1.keep) { S1 with left:=S1.left-1,out:=true })
  (go:∀l,(l=S1.left∨S1.left≠0/\l=S1.left-1/\l≠0)->Sm (f { D1 with left:=l }) (g { S1 with left:=l,out:=false })) :
  (D1.step f).2=(if S1.goes.2=true then 30 else 0)/\Sm (D1.step f).1 (if S1.goes.2=true then S1.goes.1 else g S1.goes.1):=by
 unfold RD.step FD.goes;rw[hl]
 by_cases h0:S1.left=0
 ·rw[if_neg (by omega),if_pos h0];have:=go S1.left (.inl rfl);have e1:({ D1 with left:=S1.left }:RD)=D1:=by rw[<-hl]
  have e2:({ S1 with left:=S1.left,out:=false }:FD)=S1:=by rw[<-ho]
  rw[e1,e2]at this;exact⟨rfl,this⟩
 ·rw[if_pos (by omega),if_neg h0]
  by_cases h1:S1.left-1=0
  ·rw[if_pos h1];have e:(S1.left-1==0)=true:=beq_iff_eq.mpr h1;have c:=ad0 h0 h1;simp only[e,if_true];exact⟨by first|trivial|rfl,c⟩
  ·rw[if_neg h1];have e:(S1.left-1==0)=false:=beq_eq_false_iff_ne.mpr h1;have c:=go (S1.left-1) (.inr ⟨h0,rfl,h1⟩);simp only[e];exact⟨by first|trivial|rfl|simp,by simpa using c⟩
theorem Sm.write{D:RD}{S:FD}(s:Sm D S)(i:Int)(b:LB):(D.write i b).2=(S.write i b).2/\Sm (D.write i b).1 (S.write i b).1:=by
 unfold RD.write FD.write;rw[s.down,s.len,SB]
 by_cases ho:S.out=true
 ·rw[if_pos ho,if_pos ho];exact⟨rfl,s⟩
 rw[if_neg ho,if_neg ho];have ho:S.out=false:=by simpa using ho
 by_cases hi:0<=i/\i<(S.N:Nat)
 rotate_left
 ·rw[if_pos hi,if_pos hi,if_pos (by decide)];exact⟨rfl,s⟩
 have vt:¬¬(0<=i/\i<(S.N:Nat)):=λy=>y hi;rw[if_neg vt,if_neg vt]
 by_cases hb:b.length=512
 rotate_left
 ·rw[if_pos hb,if_pos hb,if_pos (by decide)];exact⟨rfl,s⟩
 have wH:¬b.length≠512:=λy=>y hb;rw[if_neg wH,if_neg wH,if_neg (show ¬((0:Int)≠0) from λy=>y rfl)]
 have ν:∀l o,FD.Ok { S.pH i b with left:=l,out:=o }:=λl o=>⟨s.ok.len,s.ok.max,λt ht=>by
  rcases List.mem_append.mp ht with ht|ht
  ·exact s.ok.may t ht
  ·rw[List.mem_singleton.mp ht];exact .inr ⟨rfl,hi.1,hi.2,hb⟩⟩
 obtain⟨c,lq⟩:=s.ok.calm;obtain⟨u1,u2⟩:=s.up ho
 have eQ:∀l o,FD.Q { S.pH i b with left:=l,out:=o }=S.Q.pH i b:=λl o=>by
  show replay _ (S.fy++[(1,i,b)])=_;rw[wi];exact wj (D:=S.Q) c hi.1 (by rw[show(S.Q).aB.length=S.N from lq];exact hi.2) hb
 have W:=N' (D1:=D.pH i b) (S1:=S.pH i b) (f:=id) (g:=id) ho (s.down.trans ho) (s.left ho) s.ny (λh0 h1=>?_) λl hl=>?_
 ·simpa using W
 ·have lk:=(ν (S.left-1) true).left S.keep;rw[eQ]at lk;refine⟨ν _ _,by show D.tape++_=S.fy++_;rw[s.tape],by show wI (D.writes+1)=_;rw[s.writes];rfl,s.av,rfl,λy=>(by cases y),λy=>(by cases y),⟨by show 0<=S.left-1;have:=s.ny;have h0:S.left≠0:=h0;omega,by show S.left-1<=_;have:=s.ny;omega⟩,by show(cy _ _).length=_;rw[dX];exact s.len,λy=>(by cases y),λ_=>⟨?_,rfl⟩⟩;show cy D.aB (iy (D.bz++[(i,b)]) D.keep)=mq S.keep (chunks S.first) (S.fy++[(1,i,b)]) 0;rw[u1,u2,s.keep ho h0];exact lk
 ·have Φ:0<=l/\l<=9223372036854775807:=by
   have:=s.ny;have hl:l=S.left∨S.left≠0/\l=S.left-1/\l≠0:=hl;omega
  refine⟨ν _ _,by show D.tape++_=S.fy++_;rw[s.tape],by show wI (D.writes+1)=_;rw[s.writes];rfl,s.av,s.down.trans ho,λ_=>rfl,λ_ h=>s.keep ho ?_,Φ,s.len,λ_=>?_,λy=>(by cases y)⟩
  ·have hl:l=S.left∨S.left≠0/\l=S.left-1/\l≠0:=hl;have h:l≠0:=h;omega
  ·have e:=eQ l false;rw[show FD.Q (id { S.pH i b with left:=l,out:=false })=S.Q.pH i b from e];exact⟨u1,by show D.bz++_=S.Q.bz++_;rw[u2]⟩
theorem Sm.flush{D:RD}{S:FD}(s:Sm D S):D.flush.2=S.flush.2/\Sm D.flush.1 S.flush.1:=by
 unfold RD.flush FD.flush;have hd:¬S.out=true->¬D.down=true:=λy=>by rw[s.down];exact y
 by_cases ho:S.out=true
 ·rw[if_pos (s.down.trans ho),if_pos ho];exact⟨rfl,s⟩
 rw[if_neg (hd ho),if_neg ho];have ho:S.out=false:=by simpa using ho
 obtain⟨c,lq⟩:=s.ok.calm;obtain⟨u1,u2⟩:=s.up ho;have W:=N' (D1:={ D with av:=wI (D.av+1) }) (S1:={ S with av:=wI (S.av+1) }) (f:=RD.om) (g:=λS=>{ S with fy:=S.fy++[(2,0,[])] }) ho (s.down.trans ho) (s.left ho) s.ny (λh0 h1=>?_) λl hl=>?_
 ·obtain⟨W1,W2⟩:=W;refine⟨W1.trans ?_,?_⟩
  ·split <;> rfl
  ·refine cast ?_ W2;congr 1
   split <;> rfl
 ·have lk:=s.ok.left S.keep;refine⟨⟨s.ok.len,s.ok.max,s.ok.may⟩,s.tape,s.writes,by show wI (D.av+1)=_;rw[s.av],rfl,λy=>(by cases y),λy=>(by cases y),⟨by show 0<=S.left-1;have:=s.ny;have h0:S.left≠0:=h0;omega,by show S.left-1<=_;have:=s.ny;omega⟩,by show(cy _ _).length=_;rw[dX];exact s.len,λy=>(by cases y),λ_=>⟨?_,rfl⟩⟩;show cy D.aB (iy D.bz D.keep)=mq S.keep (chunks S.first) S.fy 0;rw[u1,u2,s.keep ho h0];exact lk
 ·have Φ:0<=l/\l<=9223372036854775807:=by
   have:=s.ny;have hl:l=S.left∨S.left≠0/\l=S.left-1/\l≠0:=hl;omega
  have eQ:replay (Ad.fresh (chunks S.first)) (S.fy++[(2,0,[])])=RD.om { S.Q with av:=wI (S.Q.av+1) }:=by rw[wi];exact wk (D:=S.Q) c
  refine⟨⟨s.ok.len,s.ok.max,λt ht=>?_⟩,by show D.tape++_=S.fy++_;rw[s.tape],s.writes,by show wI (D.av+1)=_;rw[s.av],s.down.trans ho,λ_=>rfl,λ_ h=>s.keep ho ?_,Φ,by show(cy _ _).length=_;rw[dX];exact s.len,λ_=>?_,λy=>(by cases y)⟩
  ·rcases List.mem_append.mp ht with ht|ht
   ·exact s.ok.may t ht
   ·rw[List.mem_singleton.mp ht];exact .inl rfl
  ·have hl:l=S.left∨S.left≠0/\l=S.left-1/\l≠0:=hl;have h:l≠0:=h;omega
  ·show cy D.aB D.bz=(replay (Ad.fresh (chunks S.first)) (S.fy++[(2,0,[])])).aB/\[]=(replay (Ad.fresh (chunks S.first)) (S.fy++[(2,0,[])])).bz;rw[eQ,u1,u2];exact⟨rfl,rfl⟩
theorem Sm.rq{D:RD}{S:FD}(s:Sm D S)(keep:List Bool):Sm (if D.down=true then D else D.cut keep) (S.rq keep):=by
 unfold FD.rq;have hd:¬S.out=true->¬D.down=true:=λy=>by rw[s.down];exact y
 by_cases ho:S.out=true
 ·rw[if_pos (s.down.trans ho),if_pos ho];exact s
 rw[if_neg (hd ho),if_neg ho];have ho:S.out=false:=by simpa using ho
 obtain⟨u1,u2⟩:=s.up ho;have lk:=s.ok.left keep;refine⟨⟨s.ok.len,s.ok.max,s.ok.may⟩,s.tape,s.writes,s.av,rfl,λy=>(by cases y),λy=>(by cases y),s.ny,by show(cy _ _).length=_;rw[dX];exact s.len,λy=>(by cases y),λ_=>⟨?_,rfl⟩⟩;show cy D.aB (iy D.bz keep)=mq keep (chunks S.first) S.fy 0;rw[u1,u2];exact lk
theorem Sm.image{D:RD}{S:FD}(s:Sm D S):D.aB=S.image:=by
 unfold FD.image
 cases ho:S.out with
 | true=>rw[if_pos rfl];exact(s.dn ho).1
 | false=>
  rw[if_neg (by simp),(s.up ho).1,<-s.ok.left []];show _=cy S.Q.aB (iy S.Q.bz []);have:iy S.Q.bz []=[]:=by unfold iy;rw[List.zip_nil_right];rfl
  rw[this];rfl
theorem Fj(b:LB)(i:Int)(ps:List (Int×LB))(p:Int×LB):iZ b i (ps++[p])=if p.1=i then p.2 else iZ b i ps:=by unfold iZ;rw[List.foldl_append];rfl
theorem DL(i:Nat):∀(ps:List (Int×LB)) (ls:List LB),i<ls.length->(∀x∈ps,0<=x.1)->(cy ls ps).getD i []=iZ (ls.getD i []) i ps
 | [],_,_,_=>rfl
 | p::r,ls,hi,h=>by
  have h0:=h p (List.mem_cons_self ..);show(cy (ls.set p.1.toNat p.2) r).getD i []=iZ (if p.1=i then p.2 else ls.getD i []) i r;rw[DL i r _ (by rw[List.length_set];exact hi) λx hx=>h x (List.mem_cons_of_mem _ hx)];congr 1;rw[List.getD_eq_getElem?_getD,List.getD_eq_getElem?_getD]
  by_cases e:p.1=i
  ·rw[if_pos e,show p.1.toNat=i by omega,List.getElem?_set_self hi];rfl
  ·rw[if_neg e,List.getElem?_set_ne (by omega)]
theorem J8(N i:Nat)(z:LB)(D0:RD)(c0:L3.Calm D0)(hN:D0.aB.length=N)(h0:D0.bz=[])(hz:D0.aB.getD i []=z)(hi:i<N):∀(n:Nat) (ts:List Tt),ts.length=n->(∀t∈ts,Sy N t)->
  mh (replay D0 ts) i=sQ i z ts/\(∀x∈(replay D0 ts).bz,0<=x.1)/\(replay D0 ts).bz.map (·.1)=N9 ts:=by
 intro n
 induction n with
 | zero=>
  intro ts hl _;have:ts=[]:=List.length_eq_zero_iff.mp hl;subst this;refine⟨?_,?_,?_⟩
  ·show iZ (D0.aB.getD i []) i D0.bz=z;rw[h0,hz];rfl
  ·intro x hx;have hx:x∈D0.bz:=hx;rw[h0]at hx;cases hx
  ·show D0.bz.map (·.1)=[];rw[h0];rfl
 | succ n ih=>
  intro ts hl hm;have dp:ts≠[]:=λe=>by rw[e]at hl;cases hl
  obtain⟨us,t,rfl⟩:∃us t,ts=us++[t]:=⟨ts.dropLast,ts.getLast dp,(List.dropLast_concat_getLast dp).symm⟩;have hu:∀t∈us,Sy N t:=λx hx=>hm x (List.mem_append_left _ hx);obtain⟨i1,i2,i3⟩:=ih us (by rw[lA0]at hl;simpa using hl) hu;obtain⟨c,lq⟩:=BK N us c0 hN hu;rw[wi,yz,Mn];obtain⟨k,j,b⟩:=t
  rcases hm (k,j,b) (List.mem_append_right _ (List.mem_singleton.mpr rfl))with h2|⟨h1,e0,e1,e2⟩
  ·have h2:k=2:=h2;subst h2;rw[wk c,if_neg (λy=>by have:=y.1;simp at this),if_pos rfl];refine⟨?_,λx hx=>(by cases hx),rfl⟩;rw[<-i1];exact DL i _ _ (by rw[lq];exact hi) i2
  ·have h1:k=1:=h1;subst h1;rw[wj c e0 (by rw[lq];exact e1) e2,if_neg (show ¬((1:Int),j,b).1=2 from(by decide:¬(1:Int)=2))];refine⟨?_,λx hx=>?_,?_⟩
   ·show iZ ((replay D0 us).aB.getD i []) i ((replay D0 us).bz++[(j,b)])=_;rw[Fj,<-i1]
    by_cases e:j=i
    ·rw[if_pos e,if_pos ⟨rfl,e⟩]
    ·rw[if_neg e,if_neg (λy=>e y.2)];rfl
   ·rcases List.mem_append.mp hx with hx|hx
    ·exact i2 x hx
    ·rw[List.mem_singleton.mp hx];exact e0
   ·show((replay D0 us).bz++[(j,b)]).map (·.1)=_;rw[List.map_append,i3];rfl
theorem Sm.read{D:RD}{S:FD}(s:Sm D S)(ho:S.out=false){i:Nat}(hi:i<S.N):mh D i=sQ i (S.oL i) S.fy:=by
 obtain⟨u1,u2⟩:=s.up ho;have hl:(chunks S.first).length=S.N:=by rw[jD];rfl
 have hz:(Ad.fresh (chunks S.first)).aB.getD i []=S.oL i:=by
  show(chunks S.first).getD i []=_;rw[List.getD_eq_getElem?_getD,List.getElem?_eq_getElem (by rw[hl];exact hi),Option.getD_some,yq];rfl
 obtain⟨r1,_⟩:=J8 S.N i (S.oL i) (Ad.fresh (chunks S.first)) (L3.Calm.fresh (uL _)) hl rfl hz hi S.fy.length S.fy rfl s.ok.may;rw[<-r1];unfold mh;rw[u1,u2];rfl
theorem SC(h1:bs.length % 512=0)(h2:bs.length / 512<=16384):Sm (Ad.fresh (chunks bs)) (Mf bs):=
 ⟨⟨by show bs.length=bs.length/512*512;omega,h2,λt ht=>(by cases ht)⟩,rfl,rfl,rfl,rfl,λ_=>rfl,λ_ y=>absurd rfl y,⟨Int.le_refl _,by show(0:Int)<=_;decide⟩,by show(chunks bs).length=_;rw[jD];rfl,λ_=>⟨rfl,rfl⟩,λy=>(by cases y)⟩
theorem GG(S:FD):S.goes.1.fy=S.fy/\S.goes.1.first=S.first:=by unfold FD.goes;split <;> exact⟨rfl,rfl⟩
theorem Mo(S:FD)(i:Int)(bs:LB)(hw:∀ t ∈ S.fy,t.2.2.length<=512):(∀t∈(S.write i bs).1.fy,t.2.2.length<=512)/\(S.write i bs).1.first=S.first:=by
 unfold FD.write
 split
 ·exact⟨hw,rfl⟩
 ·split
  ·exact⟨hw,rfl⟩
  ·rename_i h1 h2;have h2:Fg (S.N:Nat) (1,i,bs)=0:=(by simpa using h2);obtain⟨e1,e2⟩:=GG (S.pH i bs);refine⟨λt ht=>?_,e2⟩;rw[e1]at ht;have ht:t∈S.fy++[(1,i,bs)]:=ht
   rcases List.mem_append.mp ht with ht|ht
   ·exact hw t ht
   ·rw[List.mem_singleton.mp ht]
    rcases Sz h2 with h|⟨_,_,_,h⟩
    ·have h:(1:Int)=2:=h;exact absurd h (by decide)
    ·have h:bs.length=512:=h;show bs.length<=512;omega
theorem Mp(S:FD)(hw:∀ t ∈ S.fy,t.2.2.length<=512):(∀t∈S.flush.1.fy,t.2.2.length<=512)/\S.flush.1.first=S.first:=by
 obtain⟨e1,e2⟩:=GG { S with av:=wI (S.av+1) };have e1:(FD.goes { S with av:=wI (S.av+1) }).1.fy=S.fy:=e1;have e2:(FD.goes { S with av:=wI (S.av+1) }).1.first=S.first:=e2;unfold FD.flush
 split
 ·exact⟨hw,rfl⟩
 ·split
  ·exact⟨by rw[e1];exact hw,e2⟩
  ·refine⟨λt ht=>?_,e2⟩;have ht:t∈(FD.goes { S with av:=wI (S.av+1) }).1.fy++[(2,0,[])]:=ht;rw[e1]at ht
   rcases List.mem_append.mp ht with ht|ht
   ·exact hw t ht
   ·rw[List.mem_singleton.mp ht];exact nZ0
theorem aai{S S':FD}(h:S'.first=S.first):S'.N=S.N:=by unfold FD.N;rw[h]
theorem Mq(S:FD)(keep:List Bool):(S.rq keep).fy=S.fy/\(S.rq keep).first=S.first:=by unfold FD.rq;split <;> exact⟨rfl,rfl⟩
def pM(h:ad)(E:NP)(r:OA)(D:RD):Prop:=∃ao S,rj h r S ao 1/\Sm D S/\0<S.N/\(∀t∈S.fy,t.2.2.length<=512)/\(∀b,h.size<=b->ao b=0)/\∀b,E b↔1<=ao b/\ao b<=6
section
variable{h h' : ad}{E F : Nat -> Prop}{r : OA}{D : RD}
theorem pM.mk{S:FD}(a:rj h r S ao 1)(s:Sm D S)(p:0<S.N)(w:∀ t ∈ S.fy,t.2.2.length<=512):pM h (λb=>b<h.size/\1<=ao b/\ao b<=6) r D:=by
 refine⟨trim ao h.size,S,a.keep (F:=No) (Fr.refl _ h) (N6 _ _) λ_ _ _ x=>x,s,p,w,λb hb=>zk hb,λb=>⟨λhb=>by rw[uN hb.1];exact hb.2,λhb=>?_⟩⟩
 rcases Nat.lt_or_ge b h.size with h1|h1
 ·rw[uN h1]at hb;exact⟨h1,hb⟩
 ·rw[zk h1]at hb;omega
theorem pM.lt(x:pM h E r D){b:Nat}(hb:E b):b<h.size:=by
 obtain⟨ao,S,_,_,_,_,hz,hD⟩:=x
 rcases Nat.lt_or_ge b h.size with h1|h1
 ·exact h1
 ·have:=(hD b).mp hb;rw[hz b h1]at this;omega
theorem pM.fr(x:pM h E r D)(f:Fr F h h')(hF:∀ b,E b->¬ F b):pM h' E r D:=by
 obtain⟨ao,S,a,s,p,w,hz,hD⟩:=x;have:=f.size;exact⟨ao,S,a.keep f (Ag.refl _ _) λb h1 h2=>hF b ((hD b).mpr ⟨h1,by omega⟩),s,p,w,λb hb=>hz b (by omega),hD⟩
theorem pM.no(x:pM h E r D)(f:Fr No h h'):pM h' E r D:=x.fr f λ_ _ y=>y
theorem Mr(hD:∀ b,E b↔1<=ao b/\ao b<=6)(f:Fr (Dk ao 1) h h'):Fr E h h':=f.mono λb _ hb=>(hD b).mpr ⟨hb.1,by have:=hb.2;omega⟩
theorem pM.gw{S':FD}(hD:∀ b,E b↔1<=ao b/\ao b<=6)(g:Ag h.size ao ay)(a:rj h' r S' ay 1)(s:Sm D S')(p:0<S'.N)(w:∀ t ∈ S'.fy,t.2.2.length<=512)(hs:h.size<=h'.size) :
  ∃E',Gw h E h' E'/\pM h' E' r D:=
 ⟨_,⟨λb hb=>by rw[hD b,g b hb];exact⟨λx=>x.2,λx=>⟨by omega,x⟩⟩,λb hb=>hb.1⟩,pM.mk a s p w⟩
theorem pM.write{i:Int}{a:OA}{l c:Nat}{bs:LB}{K:KT}(x:pM h E r D)(B:aw h a l bs)(hl:l<=140737488355328)(ht:D.tape.length<1000000000)
  (hK:∀h' E',Fr E h h'->Gw h E h' E'->pM h' E' r (D.write i bs).1->K (vI (D.write i bs).2) h'):C.cW r i a l c h K:=by
 obtain⟨ao,S,A,s,p,w,hz,hD⟩:=x;obtain⟨e,s'⟩:=s.write i bs;obtain⟨w',ef⟩:=Mo S i bs w;refine eF A B hl s.ny (by rw[<-s.tape];exact ht) λh' ay f g A'=>?_;obtain⟨E',G,X⟩:=pM.gw hD g A' s' (by rw[aai ef];exact p) w' f.size;rw[<-e];exact hK h' E' (Mr hD f) G X
theorem pM.flush{K:KT}(x:pM h E r D)(ht:D.tape.length<1000000000)
  (hK:∀h' E',Fr E h h'->Gw h E h' E'->pM h' E' r D.flush.1->K (vI D.flush.2) h'):C.cX r h K:=by
 obtain⟨ao,S,A,s,p,w,hz,hD⟩:=x;obtain⟨e,s'⟩:=s.flush;obtain⟨w',ef⟩:=Mp S w;refine yw A s.ny (by rw[<-s.tape];exact ht) λh' ay f g A'=>?_;obtain⟨E',G,X⟩:=pM.gw hD g A' s' (by rw[aai ef];exact p) w' f.size;rw[<-e];exact hK h' E' (Mr hD f) G X
theorem pM.rq{ka:OA}{kl kc:Nat}{keep:List Bool}{K:KT}(x:pM h E r D)(B:ak h ka (keep.map .bool))(EM:keep.length=kl)(hm:kl<=140737488355328)(We:∀ p,ka=some p->keep≠[]->¬ E p.block)
  (hK:∀h' E',Fr E h h'->Gw h E h' E'->pM h' E' r (if D.down=true then D else D.cut keep)->K (.tuple #[]) h'):C.cY r ka kl kc h K:=by
 obtain⟨ao,S,A,s,p,w,hz,hD⟩:=x;obtain⟨ea,ef⟩:=Mq S keep;refine yv A B EM hm (λq eq dp y=>We q eq dp ((hD _).mpr ⟨y.1,by have:=y.2;omega⟩)) λh' ay f g A'=>?_;obtain⟨E',G,X⟩:=pM.gw hD g A' (s.rq keep) (by rw[aai ef];exact p) (by rw[ea];exact w) f.size;exact hK h' E' (Mr hD f) G X
theorem pM.blocks(x:pM h E r D)(hK:K (vI D.aB.length) h):C.bp r h K:=by
 obtain⟨ao,S,A,s,p,w,hz,hD⟩:=x;refine iI A ?_;rw[s.len]at hK;exact hK
theorem pM.read{i:Int}{K:KT}(x:pM h E r D)
  (h1:D.down=true->K (.tuple #[vS none 0 0,vI 30]) h) (h2:D.down=false->¬(0<=i/\i<D.aB.length)->K (.tuple #[vS none 0 0,vI 31]) h)
  (h3:D.down=false->0<=i->i<D.aB.length->∀a l c h',Fr No h h'->Sl h' 1 a l c ((mh D i.toNat).map bv) (dG h.size)->K (.tuple #[vS a l c,vI 0]) h'):C.bR r i h K:=by
 obtain⟨ao,S,A,s,p,w,hz,hD⟩:=x;rw[s.down,s.len]at *;refine cD A s.ok (λt ht=>Nat.le_trans (w t ht) (by decide)) h1 h2 λho i0 i1 a c h' f sl=>?_;have e:=s.read ho (i:=i.toNat) (by omega);rw[show((i.toNat:Nat):Int)=i by omega]at e;rw[e]at h3;exact h3 ho i0 i1 a _ c h' f sl
theorem pM.image{K:KT}(x:pM h E r D)(hK:∀ a l c h',Fr No h h'->Sl h' 1 a l c (D.aB.flatten.map bv) (dG h.size)->K (vS a l c) h'):C.dK r h K:=by
 obtain⟨ao,S,A,s,p,w,hz,hD⟩:=x;rw[s.image]at hK;exact yu A s.ok λa c h' f sl=>hK a _ c h' f sl
theorem Wn(h0:0<bs.length)(h1:bs.length % 512=0):0<(Mf bs).N:=by
 show 0<bs.length/512;omega
theorem pM.of(B:aw h a l bs)(hl:l<=140737488355328)
  (h1:l%512≠0∨l=0∨16384<l/512->K (.tuple #[vP none,vI 32]) h)
  (h2:l%512=0->0<l->l/512<=16384->∀q h' E,Fr No h h'->(∀b,E b->h.size<=b)->pM h' E (some q) (fresh (chunks bs))->K (.tuple #[vP (some q),vI 0]) h'):C.jZ a l c h K:=by
 refine Cw (λ_=>0) 1 B hl h1 λy1 y2 y3 q h' ay f g A=>?_;have bl:=B.1;refine h2 y1 y2 y3 q h' _ f (λb hb=>?_) (pM.mk A (SC (by omega) (by omega)) (Wn (by omega) (by omega)) λt ht=>by cases ht)
 rcases Nat.lt_or_ge b h.size with h1|h1
 ·have e:ay b=0:=g b h1;omega
 ·exact h1
end
end Rf
namespace Wc
open Hp W Ad
theorem J9 : ∀(xs:List Me) (S:RD),(oK xs S).1.tape.length<=S.tape.length+xs.length/\(oK xs S).1.bz.length<=S.bz.length+xs.length
 | [],S=>⟨nL0,nL0⟩
 | s::r,S=>by
  obtain⟨a,b⟩:=xd S s
  have e:oK (s::r) S=if(s.on S).2=0 then oK r (s.on S).1 else s.on S:=rfl
  rw[e,List.length_cons]
  split
  ·obtain⟨c,d⟩:=J9 r (s.on S).1;omega
  ·omega
theorem PI{S:RD}(h:S.down=true):∀{xs:List Me},xs≠[]->oK xs S=(S,30)
 | [],hn=>absurd rfl hn
 | s::r,_=>by
  have e:s.on S=(S,30):=by
   cases s with
   | w i b=>show S.write i b=_;unfold RD.write;rw[if_pos h]
   | f=>show S.flush=_;unfold RD.flush;rw[if_pos h]
  show(if(s.on S).2=0 then oK r (s.on S).1 else s.on S)=_;rw[e];exact if_neg (show ¬(30:Int)=0 by decide)
theorem PJ(l:Nb):(GC l).length=l.length+3:=by unfold GC ws;rw[lA0,lM0];rfl
theorem wm(l:Nb)(Sr:LB):(pI l Sr).length=2*l.length+6:=by
 unfold pI;rw[lA0,lA0,PJ];unfold ws;rw[lM0,mP];show l.length+3+(l.length+3)=_;omega
theorem Ms(l:Nb)(Sr:LB):pI l Sr≠[]:=λe=>by have:=wm l Sr;rw[e]at this;cases this
theorem Wo{S:RD}{l:Nb}(h0:l≠[])(h1:AL l S.aB.length=true)(h2:(l.map (·.2)).all (λd=>d.length == 512)=true):AM S l=oK (pI l (nA l)) S:=by
 unfold AM;rw[if_neg h0,if_neg (by rw[h1];decide),if_neg (by rw[h2];decide)]
 split
 ·rename_i h;exact(PI h (Ms _ _)).symm
 ·rfl
theorem DM{l:Nb}{n:Int}(h:AL l n=true):l.length<=96:=by
 unfold AL at h;rw[Bool.and_eq_true,decide_eq_true_eq]at h;omega
theorem Wp(S:RD)(l:Nb):(AM S l).1.tape.length<=S.tape.length+198/\(AM S l).1.bz.length<=S.bz.length+198:=by
 unfold AM
 split
 ·exact⟨Nat.le_add_right _ _,Nat.le_add_right _ _⟩
 ·split
  ·exact⟨Nat.le_add_right _ _,Nat.le_add_right _ _⟩
  ·rename_i hm;have:=DM (l:=l) (n:=S.aB.length) (by cases e:AL l S.aB.length <;> simp_all)
   split
   ·exact⟨Nat.le_add_right _ _,Nat.le_add_right _ _⟩
   ·split
    ·exact⟨Nat.le_add_right _ _,Nat.le_add_right _ _⟩
    ·have:=J9 (pI l (nA l)) S;rw[wm]at this;omega
end Wc
namespace Cr
open Hp Su
def P : BitVec 32:=0xEDB88320#32
def T(w:BitVec 32):BitVec 32:=(w >>> 1) ^^^ (bif w.getLsbD 0 then P else 0#32)
theorem SD(a b:BitVec 32):T (a ^^^ b)=T a ^^^ T b:=by
 unfold T;rw[BitVec.ushiftRight_xor_distrib,BitVec.getLsbD_xor]
 cases a.getLsbD 0 <;> cases b.getLsbD 0 <;> simp only[Bool.xor_false,Bool.xor_true,Bool.not_false,Bool.not_true,cond_true,cond_false,BitVec.xor_zero]
 ·rw[BitVec.xor_assoc]
 ·rw[BitVec.xor_assoc,BitVec.xor_assoc,BitVec.xor_comm P]
 ·rw[BitVec.xor_assoc (a >>> 1) P,BitVec.xor_comm (b >>> 1) P,<-BitVec.xor_assoc P,BitVec.xor_self,BitVec.zero_xor]
def Tn : Nat->BitVec 32->BitVec 32
 | 0,w=>w
 | n+1,w=>Tn n (T w)
theorem Mt : ∀(n:Nat) (a b:BitVec 32),Tn n (a ^^^ b)=Tn n a ^^^ Tn n b
 | 0,_,_=>rfl
 | n+1,a,b=>by rw[Tn,SD,Mt n];rfl
theorem J'{x:BitVec 32}(h:x.toNat<2 ^ 31):T (x <<< 1)=x:=by
 have h0:(x <<< 1).getLsbD 0=false:=by rw[BitVec.getLsbD_shiftLeft];rfl
 rw[T,h0,cond_false,BitVec.xor_zero];apply BitVec.eq_of_toNat_eq;rw[BitVec.toNat_ushiftRight,BitVec.toNat_shiftLeft,Nat.shiftLeft_eq,Nat.shiftRight_eq_div_pow,Nat.mod_eq_of_lt (by omega)];omega
def bit(b:Bool):BitVec 32:=bif b then 1#32 else 0#32
def Fk : List Bool->Nat
 | []=>0
 | b::r=>b.toNat+2*Fk r
theorem Oa : ∀bs:List Bool,Fk bs<2 ^ bs.length
 | []=>by decide
 | b::r=>by
  have:=Oa r;have hb:b.toNat<=1:=by cases b <;> decide
  rw[Fk,List.length_cons,Nat.pow_succ];omega
def num(bs:List Bool):BitVec 32:=BitVec.ofNat 32 (Fk bs)
theorem SE(b:Bool)(r:List Bool)(h:Fk r<2 ^ 31):num (b::r)=bit b ^^^ (num r <<< 1):=by
 apply BitVec.eq_of_getLsbD_eq;intro i hi;rw[num,Fk,BitVec.getLsbD_ofNat,BitVec.getLsbD_xor,BitVec.getLsbD_shiftLeft,num,BitVec.getLsbD_ofNat]
 cases i with
 | zero=>
  have e:(b.toNat+2*Fk r).testBit 0=b:=by rw[Nat.testBit_zero];cases b <;> simp[Nat.add_mod]
  rw[e]
  cases b <;> simp[bit]
 | succ i=>
  have e:(b.toNat+2*Fk r).testBit (i+1)=(Fk r).testBit i:=by
   rw[Nat.testBit_succ];congr 1;have hb:b.toNat<=1:=(by cases b <;> decide);omega
  have e2:(bit b).getLsbD (i+1)=false:=by
   cases b
   ·simp[bit]
   ·simp[bit,BitVec.getLsbD_one]
  rw[e,e2];simp[hi,show i<32 by omega]
def g(D:BitVec 32)(b:Bool):BitVec 32:=T (D ^^^ bit b)
theorem Ka : ∀(bs:List Bool),bs.length<=32->∀D,bs.foldl g D=Tn bs.length (D ^^^ num bs)
 | [],_,D=>by
  have:num []=0#32:=rfl;rw[this,BitVec.xor_zero];rfl
 | b::r,h,D=>by
  have hl:r.length<=31:=by rw[List.length_cons]at h;omega
  have hn:Fk r<2 ^ 31:=Nat.lt_of_lt_of_le (Oa r) (Nat.pow_le_pow_right (by decide) hl)
  have hN:(num r).toNat<2 ^ 31:=by
   rw[num,BitVec.toNat_ofNat,Nat.mod_eq_of_lt (by omega)];exact hn
  rw[List.foldl_cons,Ka r (by omega),List.length_cons,Tn,SE b r hn,<-BitVec.xor_assoc,SD (D ^^^ bit b),J' hN];rfl
theorem sR(a b:BitVec 32):bw .xor .u32 (a.toNat:Int) (b.toNat:Int)=((a ^^^ b).toNat:Int):=by
 show IntKind.wrap .u32 (((BitVec.ofInt 32 (a.toNat:Int) ^^^ BitVec.ofInt 32 (b.toNat:Int)).toNat:Nat):Int)=_;rw[BitVec.ofInt_natCast,BitVec.ofInt_natCast,BitVec.ofNat_toNat,BitVec.ofNat_toNat,BitVec.setWidth_eq,BitVec.setWidth_eq];have:=(a ^^^ b).isLt;exact wrap_u32 ⟨by omega,by omega⟩
theorem Ob(a b:BitVec 32):bw .and .u32 (a.toNat:Int) (b.toNat:Int)=((a &&& b).toNat:Int):=by
 show IntKind.wrap .u32 (((BitVec.ofInt 32 (a.toNat:Int) &&& BitVec.ofInt 32 (b.toNat:Int)).toNat:Nat):Int)=_;rw[BitVec.ofInt_natCast,BitVec.ofInt_natCast,BitVec.ofNat_toNat,BitVec.ofNat_toNat,BitVec.setWidth_eq,BitVec.setWidth_eq];have:=(a &&& b).isLt;exact wrap_u32 ⟨by omega,by omega⟩
theorem Wq(a:BitVec 32):Int.fdiv (a.toNat:Int) (2 ^ min (Int.toNat 4) 32)=((a >>> 4).toNat:Int):=by
 have e:(2 ^ min (Int.toNat 4) 32:Int)=16:=by decide
 rw[e,BitVec.toNat_ushiftRight,Nat.shiftRight_eq_div_pow,Int.fdiv_eq_ediv_of_nonneg _ (by decide)];omega
theorem Mu : ∀n:Nat,n<16->half (n:Int)=((Tn 4 (BitVec.ofNat 32 n)).toNat:Int):=by decide
theorem Ws : ∀i,i<32->(15#32).getLsbD i=decide (i<4):=by decide
theorem low4(x:BitVec 32):x=(x &&& 15#32) ^^^ ((x >>> 4) <<< 4):=by
 apply BitVec.eq_of_getLsbD_eq;intro i hi;rw[BitVec.getLsbD_xor,BitVec.getLsbD_and,Ws i hi,BitVec.getLsbD_shiftLeft,BitVec.getLsbD_ushiftRight]
 by_cases h:i<4
 ·simp[h]
 ·rw[decide_eq_true hi,decide_eq_false h,show 4+(i-4)=i by omega];simp
theorem Wt{z:BitVec 32}(h:z.toNat<2 ^ 28):Tn 4 (z <<< 4)=z:=by
 have s:∀k,k<=3->(z <<< k).toNat<2 ^ 31:=λk hk=>by
  rw[BitVec.toNat_shiftLeft,Nat.shiftLeft_eq];refine Nat.lt_of_le_of_lt (Nat.mod_le _ _) ?_;have:2 ^ k<=2 ^ 3:=Nat.pow_le_pow_right (by decide) hk;have:=Nat.mul_le_mul_left z.toNat this;omega
 have e:∀k,z <<< (k+1)=(z <<< k) <<< 1:=λk=>by rw[BitVec.shiftLeft_add]
 show T (T (T (T (z <<< 4))))=z;rw[e 3,J' (s 3 (by decide)),e 2,J' (s 2 (by decide)),e 1,J' (s 1 (by decide)),e 0,J' (s 0 (by decide))];exact BitVec.shiftLeft_zero z
theorem GH(x:BitVec 32):bw .xor .u32 (half (bw .and .u32 (x.toNat:Int) 15)) (Int.fdiv (x.toNat:Int) (2 ^ min (Int.toNat 4) 32))=((Tn 4 x).toNat:Int):=by
 have e15:(15:Int)=((15#32).toNat:Int):=rfl
 have hx:(x &&& 15#32).toNat<16:=by
  rw[BitVec.toNat_and];exact Nat.lt_of_le_of_lt Nat.and_le_right (by decide)
 rw[e15,Ob,Mu _ hx,BitVec.ofNat_toNat,BitVec.setWidth_eq,Wq,sR]
 have hz:(x >>> 4).toNat<2 ^ 28:=by
  rw[BitVec.toNat_ushiftRight,Nat.shiftRight_eq_div_pow];have:=x.isLt;omega
 conv=>rhs;rw[low4 x,Mt,Wt hz]
theorem DN : ∀(m n:Nat) (w:BitVec 32),Tn (m+n) w=Tn n (Tn m w)
 | 0,n,w=>by rw[Nat.zero_add];rfl
 | m+1,n,w=>by rw[Nat.add_right_comm,Tn,DN m n];rfl
theorem AN(v:BitVec 32)(b:UInt8):xN (v.toNat:Int) b=((Tn 8 (v ^^^ BitVec.ofNat 32 b.toNat)).toNat:Int):=by
 have hb:b.toNat<256:=b.toNat_lt
 have e:IntKind.wrap .u32 (b.toNat:Int)=((BitVec.ofNat 32 b.toNat).toNat:Int):=by
  rw[wrap_u32 ⟨by omega,by omega⟩,BitVec.toNat_ofNat,Nat.mod_eq_of_lt (by omega)]
 unfold xN;rw[e,sR,GH,GH,show(8:Nat)=4+4 from rfl,DN]
def bitsOf(b:UInt8):List Bool:=(List.range 8).map λi=>b.toNat.testBit i
theorem SF : ∀n:Nat,n<256->num ((List.range 8).map λi=>n.testBit i)=BitVec.ofNat 32 n:=by decide +kernel
theorem tq(b:UInt8):(bitsOf b).length=8:=by rw[bitsOf,lM0,List.length_range]
theorem GI(v:BitVec 32)(b:UInt8):xN (v.toNat:Int) b=(((bitsOf b).foldl g v).toNat:Int):=by
 rw[AN,Ka _ (by rw[tq];decide),tq,bitsOf,SF _ b.toNat_lt]
def oq(bs:LB):List Bool:=bs.flatMap bitsOf
theorem DO(bs:LB):(oq bs).length=8*bs.length:=by
 induction bs with
 | nil=>rfl
 | cons b r ih=>
  have e:oq (b::r)=bitsOf b++oq r:=rfl;rw[e,lA0,tq,ih,List.length_cons];omega
theorem PK : ∀(bs:LB) (v:BitVec 32),bs.foldl xN (v.toNat:Int)=(((oq bs).foldl g v).toNat:Int):=by
 intro bs
 induction bs with
 | nil=>intro v;rfl
 | cons b r ih=>
  intro v;have e:oq (b::r)=bitsOf b++oq r:=rfl;rw[List.foldl_cons,GI,ih,e,List.foldl_append]
end Cr
namespace Cr
open Hp Su Re Hd
def Wu(m:List Int)(F:BitVec 32->BitVec 32):Prop:=m=(List.range 32).map λi=>((F (1#32 <<< i)).toNat:Int)
def Lin(F:BitVec 32->BitVec 32):Prop:=∀a b,F (a ^^^ b)=F a ^^^ F b
theorem Lin.zero{F:BitVec 32->BitVec 32}(h:Lin F):F 0#32=0#32:=by
 have:=h 0#32 0#32;rw[BitVec.xor_self]at this;rw[this,BitVec.xor_self]
def low(V:BitVec 32)(i:Nat):BitVec 32:=BitVec.ofNat 32 (V.toNat%2 ^ i)
theorem Oc(V:BitVec 32)(i j:Nat)(hj:j<32):(low V i).getLsbD j=(decide (j<i) && V.getLsbD j):=by
 rw[low,BitVec.getLsbD_ofNat,Nat.testBit_mod_two_pow,decide_eq_true hj,Bool.true_and];rfl
theorem SG(V:BitVec 32)(i:Nat)(hi:i<32):low V (i+1)=low V i ^^^ (bif V.getLsbD i then 1#32 <<< i else 0#32):=by
 apply BitVec.eq_of_getLsbD_eq;intro j hj;rw[BitVec.getLsbD_xor,Oc V _ j hj,Oc V _ j hj]
 have e1:(1#32 <<< i).getLsbD j=decide (j=i):=by
  rw[BitVec.getLsbD_shiftLeft,BitVec.getLsbD_one]
  by_cases h:j=i
  ·subst h;simp[hj]
  ·simp only[decide_eq_false h,decide_eq_true hj,Bool.true_and]
   by_cases h2:j<i
   ·simp[h2]
   ·simp[h2,show j-i≠0 by omega]
 by_cases h:j=i
 ·subst h;rw[decide_eq_true (show j<j+1 by omega),decide_eq_false (show ¬j<j by omega)]
  cases hb:V.getLsbD j with
  | true=>rw[cond_true,e1];simp
  | false=>simp
 ·have:decide (j<i+1)=decide (j<i):=by
   by_cases h2:j<i
   ·rw[decide_eq_true h2,decide_eq_true (show j<i+1 by omega)]
   ·rw[decide_eq_false h2,decide_eq_false (show ¬j<i+1 by omega)]
  rw[this]
  cases V.getLsbD i with
  | true=>rw[cond_true,e1,decide_eq_false h,Bool.xor_false]
  | false=>simp
theorem Wv{V:BitVec 32}{i:Nat}(h:V.toNat<2 ^ i):low V i=V:=by
 rw[low,Nat.mod_eq_of_lt h,BitVec.ofNat_toNat,BitVec.setWidth_eq]
theorem SH{m:List Int}{F:BitVec 32->BitVec 32}(hm:Wu m F)(hF:Lin F)(V:BitVec 32):∀(f i:Nat),f=33-i->i<=32->pC m f ((V >>> i).toNat:Int) ((F (low V i)).toNat:Int) i=((F V).toNat:Int):=by
 intro f
 induction f with
 | zero=>intro i h1 h2;omega
 | succ f ih=>
  intro i h1 h2;have hV:=V.isLt;have hsh:(V >>> i).toNat=V.toNat/2 ^ i:=by rw[BitVec.toNat_ushiftRight,Nat.shiftRight_eq_div_pow]
  unfold pC
  by_cases hz:(V >>> i).toNat=0
  ·have bK:V.toNat<2 ^ i:=by
    rw[hsh]at hz;exact(Nat.div_eq_zero_iff_lt (Nat.pow_pos (by decide))).mp hz
   rw[hz,Wv bK];rfl
  ·have hi:i<32:=by
    rcases Nat.lt_or_ge i 32 with h|h
    ·exact h
    ·exfalso;have:i=32:=(by omega);subst this;rw[hsh,Nat.div_eq_of_lt (by exact hV)]at hz;exact hz rfl
   have dp:(((V >>> i).toNat:Int) != 0)=true:=(by rw[bne_iff_ne];omega);rw[dp,cond_true];have e1:(2 ^ min (Int.toNat 1) 32:Int)=2:=by decide
   have hd:Int.fdiv ((V >>> i).toNat:Int) 2=((V >>> (i+1)).toNat:Int):=by
    rw[Int.fdiv_eq_ediv_of_nonneg _ (by decide),hsh,BitVec.toNat_ushiftRight,Nat.shiftRight_eq_div_pow,Nat.pow_succ,<-Nat.div_div_eq_div_mul];omega
   have V0:(bw .and .u32 ((V >>> i).toNat:Int) 1==1)=V.getLsbD i:=by
    have e:(1:Int)=((1#32).toNat:Int):=rfl
    conv=>lhs;rw[show bw .and .u32 ((V >>> i).toNat:Int) 1=bw .and .u32 ((V >>> i).toNat:Int) ((1#32).toNat:Int) from rfl,Ob]
    have hb:((V >>> i) &&& 1#32)=(bif V.getLsbD i then 1#32 else 0#32):=by
     apply BitVec.eq_of_getLsbD_eq;intro j hj;rw[BitVec.getLsbD_and,BitVec.getLsbD_one,BitVec.getLsbD_ushiftRight]
     cases j with
     | zero=>cases V.getLsbD i <;> simp
     | succ j=>cases V.getLsbD i <;> simp[BitVec.getLsbD_one]
    rw[hb]
    cases V.getLsbD i <;> rfl
   rw[e1,hd,V0]
   have hmi:m.getD i 0=((F (1#32 <<< i)).toNat:Int):=by
    rw[hm,List.getD_eq_getElem?_getD,lG0,List.getElem?_range hi];rfl
   have hr:(bif V.getLsbD i then bw .xor .u32 ((F (low V i)).toNat:Int) (m.getD i 0)else((F (low V i)).toNat:Int))=((F (low V (i+1))).toNat:Int):=by
    rw[SG V i hi,hmi]
    cases V.getLsbD i with
    | true=>rw[cond_true,cond_true,sR,hF]
    | false=>rw[cond_false,cond_false,BitVec.xor_zero]
   rw[hr];exact ih (i+1) (by omega) (by omega)
theorem GJ{m:List Int}{F:BitVec 32->BitVec 32}(hm:Wu m F)(hF:Lin F)(V:BitVec 32):uJ m (V.toNat:Int)=((F V).toNat:Int):=by
 have:=SH hm hF V 33 0 rfl (by omega);have e1:V >>> 0=V:=BitVec.ushiftRight_zero V;have e2:low V 0=0#32:=by rw[low,Nat.pow_zero,Nat.mod_one]
 rw[e1,e2,hF.zero]at this;exact this
theorem Mv{m:List Int}{F:BitVec 32->BitVec 32}(hm:Wu m F)(hF:Lin F):Wu (gp m) (λa=>F (F a)):=by
 unfold Wu gp
 conv=>lhs;rw[show m=(List.range 32).map λi=>((F (1#32 <<< i)).toNat:Int) from hm]
 rw[List.map_map];apply List.map_congr_left;intro i _;have:=GJ hm hF (F (1#32 <<< i));rw[show m=(List.range 32).map λi=>((F (1#32 <<< i)).toNat:Int) from hm]at this;exact this
theorem aaj : Wu m0 (Tn 8):=by
 unfold Wu m0;apply List.map_congr_left;intro i hi;have hi:=List.mem_range.mp hi;have h2:2 ^ i<2 ^ 32:=Nat.pow_lt_pow_right (by decide) hi
 have e:IntKind.wrap .u32 (1*2 ^ min i 32)=(((1#32 <<< i).toNat:Nat):Int):=by
  rw[Nat.min_eq_left (by omega),Int.one_mul,BitVec.toNat_shiftLeft,Nat.shiftLeft_eq];have e2:((2:Int) ^ i)=((2 ^ i:Nat):Int):=by simp
  rw[e2,wrap_u32 ⟨Int.natCast_nonneg _,Int.ofNat_lt.mpr (show 2 ^ i<4294967296 from h2)⟩];have:(1#32).toNat=1:=rfl;rw[this,Nat.one_mul,Nat.mod_eq_of_lt h2]
 rw[e,AN];have:BitVec.ofNat 32 (0:UInt8).toNat=0#32:=rfl;rw[this,BitVec.xor_zero]
end Cr
namespace Cr
open Hp W Su Re Hd
theorem and1{n:Int}(h0:0<=n)(h1:n<9223372036854775808):bw .and .i64 n 1=n%2:=by
 obtain⟨k,rfl⟩:=Int.eq_ofNat_of_zero_le h0;show wI (((BitVec.ofInt 64 (k:Int) &&& BitVec.ofInt 64 ((1:Nat):Int)).toNat:Nat):Int)=_;rw[BitVec.ofInt_natCast,BitVec.ofInt_natCast,BitVec.toNat_and,BitVec.toNat_ofNat,BitVec.toNat_ofNat]
 have hk:k<2 ^ 64:=by
  have:k<9223372036854775808:=by omega
  exact Nat.lt_trans this (by decide)
 rw[Nat.mod_eq_of_lt hk,show 1%2 ^ 64=1 by decide,Nat.and_one_is_mod];rw[wrap_i64 (by omega) (by omega)];omega
theorem SI(k:Nat):Lin (Tn k):=Mt k
theorem PL : ∀(f:Nat) (m:List Int) (k n:Nat) (V:BitVec 32),Wu m (Tn k)->n<2 ^ f->n<9223372036854775808->pD f m (V.toNat:Int) (n:Int)=((Tn (k*n) V).toNat:Int):=by
 intro f
 induction f with
 | zero=>
  intro m k n V _ hn _;have:n=0:=by simpa using hn
  subst this;rfl
 | succ f ih=>
  intro m k n V hm hn hb
  by_cases h0:n=0
  ·subst h0;rfl
  have hd:decide ((n:Int)>0)=true:=decide_eq_true (by omega)
  have sq:Wu (gp m) (Tn (2*k)):=by
   have:=Mv hm (SI k)
   have e:(λa=>Tn k (Tn k a))=Tn (2*k):=by
    funext a;rw[show 2*k=k+k by omega,DN]
   rw[e]at this;exact this
  have hdiv:(n:Int)/2=((n/2:Nat):Int):=by omega
  have bK:n/2<2 ^ f:=by rw[Nat.pow_succ]at hn;omega
  rw[pD,hd,cond_true,and1 (by omega) (by omega),hdiv]
  by_cases ho:n%2=1
  ·have:((n:Int)%2==1)=true:=beq_iff_eq.mpr (by omega);rw[this,cond_true,GJ hm (SI k),ih _ (2*k) (n/2) _ sq bK (by omega),<-DN];congr 3;have e:k*n=k*(1+2*(n/2)):=(by congr 1;omega);rw[e,Nat.mul_add,Nat.mul_one,<-Nat.mul_assoc,Nat.mul_comm k 2]
  ·have:((n:Int)%2==1)=false:=beq_eq_false_iff_ne.mpr (by omega);rw[this,cond_false,ih _ (2*k) (n/2) _ sq bK (by omega)];congr 3;have e:k*n=k*(2*(n/2)):=(by congr 1;omega);rw[e,<-Nat.mul_assoc,Nat.mul_comm k 2]
theorem Ic(V:BitVec 32){n:Nat}(hn:n<9223372036854775808):uK (V.toNat:Int) (n:Int)=((Tn (8*n) V).toNat:Int):=
 PL 64 m0 8 n V aaj (Nat.lt_trans hn (by decide)) hn
theorem Kb : ∀(xs:List Bool) (A B:BitVec 32),xs.foldl g (A ^^^ B)=xs.foldl g A ^^^ Tn xs.length B
 | [],_,_=>rfl
 | x::r,A,B=>by
  have e:g (A ^^^ B) x=g A x ^^^ T B:=by
   rw[g,g,<-SD];congr 1;rw[BitVec.xor_assoc,BitVec.xor_assoc,BitVec.xor_comm B]
  rw[List.foldl_cons,List.foldl_cons,e,Kb r,List.length_cons];rfl
def fb(bs:LB)(v:BitVec 32):BitVec 32:=(oq bs).foldl g v
theorem DP(xs ys:LB):oq (xs++ys)=oq xs++oq ys:=List.flatMap_append
theorem GK(xs ys:LB)(v:BitVec 32):fb (xs++ys) v=fb ys (fb xs v):=by rw[fb,DP,List.foldl_append];rfl
theorem aak(bs:LB)(A B:BitVec 32):fb bs (A ^^^ B)=fb bs A ^^^ Tn (8*bs.length) B:=by rw[fb,Kb,DO];rfl
def M : BitVec 32:=0xFFFFFFFF#32
theorem Oe(bs:LB):ofM bs=((M ^^^ fb bs M).toNat:Int):=by
 have e:(4294967295:Int)=(M.toNat:Int):=rfl;have em:(IntKind.max .u32)=(M.toNat:Int):=by decide
 rw[ofM,e,em,PK,sR];rfl
theorem PM(xs ys:LB)(h:ys.length<9223372036854775808):ofM (xs++ys)=xO (ofM xs) (ofM ys) ys.length:=by
 rw[xO,Oe,Oe,Oe,Ic _ h,sR,GK];congr 2
 have e:fb ys (fb xs M)=fb ys M ^^^ Tn (8*ys.length) (fb xs M ^^^ M):=by
  rw[<-aak];congr 1;rw[BitVec.xor_comm (fb xs M),<-BitVec.xor_assoc,BitVec.xor_self,BitVec.zero_xor]
 rw[e,BitVec.xor_comm M (fb xs M),<-BitVec.xor_assoc,BitVec.xor_comm M (fb ys M),BitVec.xor_comm]
theorem DQ : ∀(ds:List LB) (xs:LB),(∀d∈ds,d.length<9223372036854775808)->ds.foldl (λs d=>xO s (ofM d) d.length) (ofM xs)=ofM (xs++ds.flatten)
 | [],xs,_=>by rw[List.flatten_nil,List.append_nil];rfl
 | d::r,xs,h=>by
  rw[List.foldl_cons,<-PM xs d (h d List.mem_cons_self),DQ r (xs++d) (λe he=>h e (List.mem_cons_of_mem _ he)),List.flatten_cons,List.append_assoc]
theorem SJ(hd:LB)(ds:List LB)(h:∀ d ∈ ds,d.length<9223372036854775808):yx hd ds=ofM (iH hd 12 (br 4 0)++ds.flatten):=DQ ds _ h
theorem Ww(n:Nat)(w:BitVec 32):T (Tn n w)=Tn (n+1) w:=by rw[DN n 1];rfl
theorem DR(h:ad)(b:Nat):(qZ h b).size=h.size:=by
 unfold qZ;split
 ·rw[Array.size_modify]
 ·rfl
theorem SK(h:ad)(b c:Nat):rd (qZ h b) c=rd h c:=by
 unfold qZ;split
 ·rename_i cs e T hb;simp only[rd,Array.getElem?_modify]
  by_cases hc:b=c
  ·subst hc;rw[if_pos rfl,hb];rfl
  ·rw[if_neg hc]
 ·rfl
theorem Fr.qZ{F:NP}{h h':ad}{b:Nat}(f:Fr F h h')(hb:F b∨h.size<=b):Fr F h (qZ h' b):=by
 refine⟨by rw[DR];exact f.size,λc hc hF=>?_⟩;rw[<-f.same c hc hF];unfold Wx.qZ;split
 ·rw[Array.getElem?_modify,if_neg];intro e;subst e
  rcases hb with hb|hb
  ·exact hF hb
  ·omega
 ·rfl
theorem HU.intro{k:HP}(H:k (qZ h p.block)):HU p h k:=H
theorem Kc{elem:TI}{e:Nat}{n:Nat}{old new:LV}{k:OA->Nat->Nat->ad->Prop}
  (ho:old.length=l*elem.cells) (S:ak h a old) (hn:new.length=n*elem.cells) (hz:elem.zero.length=elem.cells) (hb:(l+n)*elem.bytes<=140737488355328) (wH:l+n<=140737488355328) (hc:c<l+n)
  (hk:∀c' h',Fr No h h'->Sl h' elem.cells (some (bA h)) (l+n) c' (old++new) (λb=>b=h.size)->k (some (bA h)) (l+n) c' h') :
  aH elem e a l c n new h k:=by
 refine⟨old,ho,S,hb,wH,λx=>absurd x (by omega),λ_ cap xY=>?_⟩;refine hk cap _ (wP _ _) (Sl.new h elem.cells e (l+n) cap (old++new) _ _ rfl (by rw[lA0,ho,hn,Nat.add_mul]) xY ?_);rw[iO,hz]
theorem kf{elem:TI}{e:Nat}{n:Nat}{new:LV}{k:OA->Nat->Nat->ad->Prop}(f:Fr No h0 h)
  (s:Sl h elem.cells a l c xs (dG h0.size)) (hn:new.length=n*elem.cells) (hz:elem.zero.length=elem.cells) (hb:(l+n)*elem.bytes<=140737488355328) (wH:l+n<=140737488355328)
  (hk:∀a' c' h',Fr No h0 h'->Sl h' elem.cells a' (l+n) c' (xs++new) (dG h0.size)->k a' (l+n) c' h') :
  aH elem e a l c n new h k:=by
 have hs:=f.size;refine dh s hn hz hb wH λa' c' h' f' s'=>hk a' c' h' (f.trans f' λb hb e=>by have:h0.size<=b:=e;omega) (s'.mono λb hb=>?_)
 rcases hb with hb|hb
 ·exact hb
 ·show h0.size<=b;omega
theorem DS(m:Nat):(Value.int .u8 (IntKind.wrap .u8 (m:Int)))=bv (UInt8.ofNat m):=by
 rw[Cy];congr 1;apply UInt8.toNat_inj.mp;rw[UInt8.toNat_ofNat',UInt8.toNat_ofNat'];omega
end Cr
namespace Rz
open Hp
theorem oe{α:Type}{a:Option α}{p:α}{k:α->Prop}(e:a=some p)(h:k p):ae a k:=by rw[e];exact h
variable{h0 hh h' : ad}{ao : Nat -> Nat}
end Rz
namespace Wd
open Hp W Ad Wc Rf
open L3 (Tt)
def sF(t:Tt):Me:=if t.1=1 then .w t.2.1 t.2.2 else .f
structure tt(h:ad)(E:NP)(es:List kG)(ts:List Tt):Prop where
 len:es.length=ts.length
 at_:∀i (h1:i<es.length) (h2:i<ts.length),es[i].kind=ts[i].1/\es[i].at_=ts[i].2.1/\aw h es[i].a es[i].l ts[i].2.2/\∀p,es[i].a=some p->es[i].l≠0->¬E p.block
theorem Ie(B:aw h (some p) l bs)(hl:l≠0):p.block<h.size:=
 L3.ak.lt B.2 λe=>by
  have:=B.1;rw[List.map_eq_nil_iff]at e;rw[e]at this;exact hl this.symm
theorem DT(B:aw h a l bs)(f:Fr F h h')(hF:∀ p,a=some p->l≠0->p.block<h.size->¬ F p.block):aw h' a l bs:=by
 by_cases hl:l=0
 ·subst hl;have e:bs=[]:=List.eq_nil_of_length_eq_zero B.1;subst e;exact aw.nil h' a
 ·exact aw.fr f B λp e=>by subst e;exact hF p rfl hl (Ie B hl)
theorem tt.step{es:List kG}{ts:List Tt}(t:tt h E es ts)(f:Fr E h h')(g:Gw h E h' E'):tt h' E' es ts:=by
 refine⟨t.len,λi h1 h2=>?_⟩;obtain⟨a,b,c,d⟩:=t.at_ i h1 h2;exact⟨a,b,DT c f λp e hl _=>d p e hl,λp e hl y=>d p e hl ((g.old _ (by rw[e]at c;exact Ie c hl)).mp y)⟩
theorem tt.no{es:List kG}{ts:List Tt}(t:tt h E es ts)(f:Fr No h h'):tt h' E es ts:=by
 refine⟨t.len,λi h1 h2=>?_⟩;obtain⟨a,b,c,d⟩:=t.at_ i h1 h2;exact⟨a,b,DT c f λ_ _ _ _ y=>y,d⟩
theorem tt.app{es IM:List kG}{ts ts':List Tt}(t:tt h E es ts)(t':tt h E IM ts'):tt h E (es++IM) (ts++ts'):=by
 refine⟨by rw[lA0,lA0,t.len,t'.len],λi h1 h2=>?_⟩;rw[lA0]at h1 h2
 by_cases hi:i<es.length
 ·have SL:i<ts.length:=by rw[<-t.len];exact hi
  simp only[List.getElem_append_left hi,List.getElem_append_left SL];exact t.at_ i hi SL
 ·have hl:=t.len;simp only[List.getElem_append_right (show es.length<=i by omega),List.getElem_append_right (show ts.length<=i by omega),hl];exact t'.at_ (i-ts.length) (by omega) (by omega)
theorem tt.nil(h:ad)(E:NP):tt h E [] []:=⟨rfl,λi h1=>absurd h1 (Nat.not_lt_zero _)⟩
theorem tt.one{e:kG}{t:Tt}(h1:e.kind=t.1)(h2:e.at_=t.2.1)(h3:aw h e.a e.l t.2.2)(h4:∀ p,e.a=some p->e.l≠0->¬ E p.block):tt h E [e] [t]:=
 ⟨rfl,λi g1 g2=>by
  have:i=0:=by have:i<1:=g1;omega
  subst this
  exact⟨h1,h2,h3,h4⟩⟩
theorem SM{es:List kG}(R:ak h a (es.flatMap kG.cells)){i:Nat}(hi:i<es.length):∃p,a=some p/\aj h (p.add (i*3)) es[i].cells:=by
 cases a with
 | none=>
  exfalso;have R:es.flatMap kG.cells=[]:=R;have:=fW kG.cells 3 es λ_ _=>rfl;rw[R,List.length_nil]at this;omega
 | some p=>
  refine⟨p,rfl,?_⟩;have:=aj.part (show aj h p (es.flatMap kG.cells) from R) (i*3) 3;rw[m6 kG.cells 3 es (λ_ _=>rfl) i hi]at this;exact this
structure Bx(h:ad)(a:OA)(rs:Rs):Prop where
 cells:ak h a (rs.flatMap jj)
 ok:∀r∈rs,aw h r.2.1.a r.2.1.l r.2.2
theorem Bx.no{rs:Rs}(b:Bx h a rs)(f:Fr No h h'):Bx h' a rs:=⟨ak.fr f b.cells λ_ _ y=>y,λr hr=>aw.fr f (b.ok r hr) λ_ _ y=>y⟩
theorem Bx.get{rs:Rs}(b:Bx h a rs){i:Nat}(hi:i<rs.length):∃p,a=some p/\aj h (p.add (i*2)) (jj rs[i]):=by
 have R:=b.cells
 cases a with
 | none=>
  exfalso;have R:rs.flatMap jj=[]:=R;have:=fW jj 2 rs λ_ _=>rfl;rw[R,List.length_nil]at this;omega
 | some p=>
  refine⟨p,rfl,?_⟩;have:=aj.part (show aj h p (rs.flatMap jj) from R) (i*2) 2;rw[m6 jj 2 rs (λ_ _=>rfl) i hi]at this;exact this
theorem zC(es:List kG):∀v∈es.flatMap kG.cells,v.oneCell'=true:=λv hv=>by
 obtain⟨e,_,hv⟩:=List.mem_flatMap.mp hv;unfold kG.cells at hv;simp only[List.mem_cons,List.not_mem_nil,or_false]at hv
 rcases hv with rfl|rfl|rfl <;> rfl
theorem Kd{n:Nat}{e:Nat}{elem:TI}{K:OA->Nat->Nat->ad->Prop}(r:Row n0 hh F w a l c xs)(hv:vs.length=n*w)
  (hz:elem.zero.length=elem.cells) (hc:elem.cells=w) (hby:elem.bytes<=64) (hl:l+n<1000000) (hn:n0<=hh.size)
  (hK:∀a' c' h' F',Fr F hh h'->(∀b,F' b->F b∨hh.size<=b)->Row n0 h' F' w a' (l+n) c' (xs++vs)->K a' (l+n) c' h'):aH elem e a l c n vs hh K:=by
 refine dh (show Sl hh elem.cells a l c xs F by rw[hc];exact r.s) (by rw[hc,hv]) hz (Nat.le_trans (Nat.mul_le_mul (show l+n<=1000000 by omega) hby) (by decide)) (by omega) λa' c' h5 f5 s5=>?_;rw[hc]at s5;have z5:=f5.size;refine hK a' c' h5 (λb=>(F b∨hh.size<=b)/\b<h5.size) f5 (λb hb=>hb.1) ⟨?_,λb hb=>⟨?_,hb.2⟩⟩
 ·obtain⟨q1,q2⟩:=s5;refine⟨q1,?_⟩
  cases a' with
  | none=>exact q2
  | some p=>obtain⟨a1,a2,a3,a4⟩:=q2;exact⟨a1,⟨a2,a3.lt⟩,a3,a4⟩
 ·rcases hb.1 with q|q
  ·exact(r.ge b q).1
  ·omega
def tv(n:Int)(a:OA)(l c:Nat):kG:=⟨1,n,a,l,c⟩
def tT : kG:=⟨2,0,none,0,0⟩
def wT(l:Nb):List Tt:=l.map λp=>(1,p.1,p.2)
def Kg(l:Nb):List Tt:=wT l++[(2,0,[]),(1,1,Hd.aL 512),(2,0,[])]
theorem ad1(l:Nb):(wT l).map sF=ws l:=by
 unfold wT ws;rw[List.map_map];rfl
theorem SN(l:Nb):(Kg l).map sF=GC l:=by
 unfold Kg GC;rw[List.map_append,ad1];rfl
def Fl(ds:List LB)(i:Nat):List Tt:=(List.range i).map λk:Nat=>((1:Int),2+(k:Int),ds.getD k [])
theorem PN(ds:List LB)(i:Nat):Fl ds (i+1)=Fl ds i++[((1:Int),2+(i:Int),ds.getD i [])]:=by unfold Fl;rw[List.range_succ,List.map_append];rfl
theorem Wy(l:Nb):(Fl (l.map (·.2)) l.length).map sF=ws (Ia l):=by
 unfold ws;refine List.ext_getElem (by unfold Fl;rw[lM0,lM0,lM0,List.length_range,mP]) λi h1 h2=>?_;rw[lM0,mP]at h2;rw[List.getElem_map,List.getElem_map,J2 _ (by rw[mP];exact h2)];unfold Fl;rw[List.getElem_map,List.getElem_range];show Me.w (2+(i:Int)) ((l.map (·.2)).getD i [])=Me.w (2+(i:Int)) l[i].2;rw[List.getD_eq_getElem?_getD,lG0,List.getElem?_eq_getElem h2];rfl
def xg(l:Nb)(Sr:LB):List Tt:=Fl (l.map (·.2)) l.length++[(2,0,[]),(1,1,Sr),(2,0,[])]++Kg l
theorem Mw(l:Nb)(Sr:LB):(xg l Sr).map sF=pI l Sr:=by
 unfold xg pI;rw[List.map_append,List.map_append,Wy,SN];rfl
theorem Wz(l:Nb)(p:Int×LB):wT (l++[p])=wT l++[(1,p.1,p.2)]:=by unfold wT;rw[List.map_append];rfl
theorem GL(es:List kG)(e:kG):(es++[e]).flatMap kG.cells=es.flatMap kG.cells++e.cells:=by rw[List.flatMap_append,List.flatMap_cons,List.flatMap_nil,List.append_nil]
theorem tt.tv{h:ad}{E:NP}{n:Int}{a:OA}{l c:Nat}{b:LB}(B:aw h a l b)(O:∀ p,a=some p->l≠0->¬ E p.block):tt h E [Wd.tv n a l c] [(1,n,b)]:=tt.one rfl rfl B O
theorem tt.tT(h:ad)(E:NP):tt h E [Wd.tT] [(2,0,[])]:=tt.one rfl rfl (aw.nil h none) λp e=>by cases e
theorem Ig(R:Row n0 h F w a l c xs)(f:Fr No h0 h)(e:n0=h0.size)(f':Fr F h h'):Fr No h0 h':=f.trans f' λb hb y=>by have:=(R.ge b y).1;omega
theorem tt.small{es:List kG}{ts:List Tt}(T:tt h E es ts)(hs:∀ t ∈ ts,t.2.2.length<=512):∀i (hi:i<es.length),es[i].l<=140737488355328:=λi hi=>by
 have SL:i<ts.length:=by rw[<-T.len];exact hi
 have:=(T.at_ i hi SL).2.2.1.1;have:=hs _ (List.getElem_mem SL);omega
theorem tt.aac{es:List kG}{ts:List Tt}(T:tt h E' es ts)(hE:∀ b,E b->E' b):tt h E es ts:=
 ⟨T.len,λi h1 h2=>by
  obtain⟨a,b,c,d⟩:=T.at_ i h1 h2
  exact⟨a,b,c,λp e hl y=>d p e hl (hE _ y)⟩⟩
theorem SO{l:Nb}(h:∀ p ∈ l,p.2.length<=512):∀t∈wT l,t.2.2.length<=512:=λt ht=>by
 obtain⟨p,hp,rfl⟩:=List.mem_map.mp ht;exact h p hp
theorem BL{b:LB}(hb:b.length<=512):∀t∈([((2:Int),(0:Int),([]:LB)),(1,1,b),(2,0,[])]:List Tt),t.2.2.length<=512:=λt ht=>by
 simp only[List.mem_cons,List.not_mem_nil,or_false]at ht
 rcases ht with rfl|rfl|rfl
 ·exact nZ0
 ·exact hb
 ·exact nZ0
theorem Kh{l:Nb}(h:∀ p ∈ l,p.2.length<=512):∀t∈Kg l,t.2.2.length<=512:=λt ht=>by
 rcases List.mem_append.mp ht with ht|ht
 ·exact SO h t ht
 ·exact BL (by rw[Hd.eM];exact nL0) t ht
theorem ad2(rs:Rs):(nb rs).map (·.1)=rs.map (·.1):=by unfold nb;rw[List.map_map];rfl
theorem SP(rs:Rs):(nb rs).map (·.2)=rs.map (·.2.2):=by unfold nb;rw[List.map_map];rfl
theorem GM{N:Int}{i:Int}:∀(n:Nat) (ts:List Tt) (z:LB),ts.length=n->z.length=512->(∀t∈ts,L3.Sy N t)->(sQ i z ts).length=512
 | 0,ts,z,hn,hz,_=>by rw[List.eq_nil_of_length_eq_zero hn];exact hz
 | n+1,ts,z,hn,hz,hm=>by
  have ne:ts≠[]:=λe=>by rw[e]at hn;cases hn
  rw[<-List.dropLast_concat_getLast ne,yz];have hl:=hm _ (List.getLast_mem ne)
  split
  ·rename_i h
   rcases hl with h2|h2
   ·rw[h.1]at h2;exact absurd h2 (by decide)
   ·exact h2.2.2.2
  ·exact GM n _ z (by rw[List.length_dropLast,hn];rfl) hz λt ht=>hm t (List.dropLast_subset _ ht)
theorem pM.gX{D:RD}(x:pM h E r D)(hd:D.down=false){i:Nat}(hi:i<D.aB.length):(mh D i).length=512:=by
 obtain⟨ao,S,_,s,_,_,_,_⟩:=x;have ho:S.out=false:=by rw[<-s.down];exact hd
 rw[s.len]at hi;rw[s.read ho hi];refine GM _ _ _ rfl ?_ s.ok.may;unfold FD.oL;rw[lT0,lD0,s.ok.len];have:(i+1)*512<=S.N*512:=Nat.mul_le_mul_right _ hi;have:((i:Int)).toNat=i:=Int.toNat_natCast i;rw[this];omega
theorem pM.max{h:ad}{E:NP}{r:OA}{D:RD}(x:pM h E r D):D.aB.length<=16384:=by
 obtain⟨ao,S,_,s,_,_,_,_⟩:=x;rw[s.len];exact s.ok.max
theorem Ki : ∀(ls:List LB),(∀x∈ls,x.length=512)->ls.flatten.length=ls.length*512
 | [],_=>rfl
 | x::r,h=>by
  rw[List.flatten_cons,lA0,Ki r λy hy=>h y (List.mem_cons_of_mem _ hy),h x (List.mem_cons_self ..),List.length_cons];omega
theorem tU{n:Nat}{e:Nat}{elem:TI}{K:OA->Nat->Nat->ad->Prop}(r:Row n0 hh F 1 a l c xs)(hv:vs.length=n)
  (hz:elem.zero.length=elem.cells) (hc:elem.cells=1) (hby:elem.bytes=1) (hl:l+n<=140737488355328) (hn:n0<=hh.size)
  (hK:∀a' c' h' F',Fr F hh h'->(∀b,F' b->F b∨hh.size<=b)->Row n0 h' F' 1 a' (l+n) c' (xs++vs)->K a' (l+n) c' h'):aH elem e a l c n vs hh K:=by
 refine dh (show Sl hh elem.cells a l c xs F by rw[hc];exact r.s) (by rw[hc,hv,Nat.mul_one]) hz (by rw[hby,Nat.mul_one];exact hl) hl λa' c' h5 f5 s5=>?_;rw[hc]at s5;have z5:=f5.size;refine hK a' c' h5 (λb=>(F b∨hh.size<=b)/\b<h5.size) f5 (λb hb=>hb.1) ⟨?_,λb hb=>⟨?_,hb.2⟩⟩
 ·obtain⟨q1,q2⟩:=s5;refine⟨q1,?_⟩
  cases a' with
  | none=>exact q2
  | some p=>obtain⟨a1,a2,a3,a4⟩:=q2;exact⟨a1,⟨a2,a3.lt⟩,a3,a4⟩
 ·rcases hb.1 with q|q
  ·exact(r.ge b q).1
  ·omega
end Wd
namespace Rx
open Hp W Ad Tm Spc Re
def mw(row:List (Int×cL))(i:Int):Option cL:=row.foldl (λo p=>if p.1=i then some p.2 else o) none
theorem AO(row:List (Int×cL))(p:Int×cL)(i:Int):mw (row++[p]) i=if p.1=i then some p.2 else mw row i:=by
 unfold mw;rw[List.foldl_append];rfl
theorem zD{i:Int}:∀{n:Nat} {row:List (Int×cL)},row.length=n->∀{b:cL},mw row i=some b->(i,b)∈row
 | 0,row,hn,b,e=>by rw[List.eq_nil_of_length_eq_zero hn]at e;cases e
 | n+1,row,hn,b,e=>by
  have ne:row≠[]:=by intro y;rw[y]at hn;cases hn
  rw[<-List.dropLast_concat_getLast ne]at e ⊢;rw[AO]at e
  split at e
  ·rename_i h;cases e;subst h;exact List.mem_append_right _ (List.mem_singleton.mpr rfl)
  ·exact List.mem_append_left _ (zD (n:=n) (by rw[List.length_dropLast,hn];rfl) e)
structure RM where
 aK:RD
 row:List (Int×cL)
 ends:Bool
def RM.N(M:RM):Nat:=M.aK.aB.length
def RM.read(M:RM)(i:Int):cL×Int:=
 if M.ends=true then([],61)else if i<0∨i>=M.N then([],31)else match mw M.row i with
  | some b=>(b,0)
  | none=>if M.aK.down=true then([],30)else(mh M.aK i.toNat,0)
def lJ(M:RM)(k:Nat):List Int:=((List.range' 98 k).filter λi=>(mw M.row ((i:Nat):Int)).isSome).map λi:Nat=>((i:Nat):Int)
theorem Kj(M:RM)(k:Nat):lJ M (k+1)=lJ M k++if(mw M.row ((98+k:Nat):Int)).isSome=true then[((98+k:Nat):Int)]else[]:=by
 unfold lJ;rw[List.range'_concat,List.filter_append,List.map_append,Nat.one_mul];congr 1
 by_cases h:(mw M.row ((98+k:Nat):Int)).isSome=true
 ·rw[if_pos h];simp only[List.filter,h,List.map]
 ·rw[if_neg h];simp only[List.filter,h,List.map]
def RM.written(M:RM):List Int:=if M.ends=true then[]else lJ M (M.N-98)
theorem yA{M:RM}:x∈lJ M k↔98<=x/\x<98+k/\(mw M.row x).isSome=true:=by
 unfold lJ;rw[List.mem_map]
 constructor
 ·rintro⟨a,ha,rfl⟩;rw[List.mem_filter,List.mem_range'_1]at ha;exact⟨by omega,by omega,ha.2⟩
 ·rintro⟨h1,h2,h3⟩;refine⟨x.toNat,?_,by omega⟩;rw[List.mem_filter,List.mem_range'_1];refine⟨by omega,?_⟩;rw[show((x.toNat:Nat):Int)=x by omega];exact h3
theorem GN(M:RM)(k:Nat):(lJ M k).Pairwise (· < ·):=by
 unfold lJ;rw[List.pairwise_map];have h:(List.range' 98 k).Pairwise (· < ·):=List.pairwise_lt_range';exact((h.sublist (List.filter_sublist)).imp λh=>by omega)
theorem Mx : ∀a b c:Int,decide (a<=b)=true->decide (b<=c)=true->decide (a<=c)=true:=λa b c h1 h2=>decide_eq_true (Int.le_trans (of_decide_eq_true h1) (of_decide_eq_true h2))
theorem My : ∀a b:Int,(decide (a<=b) || decide (b<=a))=true:=λa b=>by
 rcases Int.le_total a b with h|h
 ·rw[decide_eq_true h];rfl
 ·rw[decide_eq_true h,Bool.or_true]
theorem SQ{l m:List Int}(h:l.Nodup)(hm:m.Pairwise (· < ·))(hs:∀ x,x ∈ l↔x ∈ m):vd l=m:=by
 have Zd:(vd l).Perm l:=List.mergeSort_perm l _
 have bK:(vd l).Pairwise (· < ·):=by
  have h1:(vd l).Pairwise λx y=>decide (x<=y)=true:=List.pairwise_mergeSort Mx My l;have h2:(vd l).Nodup:=Zd.nodup_iff.mpr h;exact(h1.and h2).imp λ⟨a,b⟩=>by have:=of_decide_eq_true a;omega
 have hmn:m.Nodup:=hm.imp λh=>by omega
 have hp:(vd l).Perm m:=Zd.trans ((List.perm_ext_iff_of_nodup h hmn).mpr hs);exact List.Perm.eq_of_pairwise (le:=(· < ·)) (λa b _ _ h1 h2=>by omega) bK hm hp
structure vf(T:TM)(M:RM):Prop where
 ends:M.ends=T.over
 dk:M.aK=T.aK
 gone:T.over=true->T.put=[]/\T.ar=[]
 un:T.over=false->T.ar.length=M.row.length
 nd:T.over=false->∀k,k<=M.row.length->((df T.put (T.ar.drop k)).map (·.1)).Nodup
 mx:T.over=false->∀k,k<=M.row.length->(df T.put (T.ar.drop k)).length<=96
 get:T.over=false->∀k,k<=M.row.length->∀i,cR (df T.put (T.ar.drop k)) i=mw (M.row.take k) i
 rr:∀p∈M.row,98<=p.1/\p.1<T.N/\p.2.length=512
theorem vf.N{T:TM}{M:RM}(s:vf T M):M.N=T.N:=by unfold RM.N;rw[s.dk];rfl
theorem vf.now{T:TM}{M:RM}(s:vf T M)(h:T.over=false)(i:Int):cR T.put i=mw M.row i:=by
 have:=s.get h M.row.length nL0 i;rw[<-s.un h,List.drop_length,s.un h,List.take_length]at this;exact this
theorem vf.nodup{T:TM}{M:RM}(s:vf T M)(h:T.over=false):(T.put.map (·.1)).Nodup:=by
 have:=s.nd h M.row.length nL0;rw[<-s.un h,List.drop_length]at this;exact this
theorem vf.most{T:TM}{M:RM}(s:vf T M)(h:T.over=false):T.put.length<=96:=by
 have:=s.mx h M.row.length nL0;rw[<-s.un h,List.drop_length]at this;exact this
theorem vf.read{T:TM}{M:RM}(s:vf T M)(i:Int):M.read i=T.read i:=by
 unfold RM.read TM.read;rw[s.ends,s.N]
 split
 ·rfl
 ·rename_i h;have hl:T.over=false:=by cases e:T.over <;> simp_all
  split
  ·rfl
  ·rename_i h2;rw[<-s.now hl i]
   cases e:cR T.put i with
   | some b=>rw[TM.get_some e]
   | none=>
    rw[TM.get_none e,s.dk]
theorem SR{α:Type}{m:List (Int×α)}:i∈m.map (·.1)↔(cR m i).isSome=true:=by
 constructor
 ·intro h
  cases e:cR m i with
  | some b=>rfl
  | none=>
   obtain⟨p,hp,ep⟩:=List.mem_map.mp h;exact absurd ep (wV.mp e p hp)
 ·intro h
  cases e:cR m i with
  | some b=>exact List.mem_map.mpr ⟨_,tR e,rfl⟩
  | none=>rw[e]at h;cases h
theorem vf.written{T:TM}{M:RM}(s:vf T M):T.written=M.written:=by
 unfold TM.written RM.written;rw[s.ends]
 cases hl:T.over with
 | true=>rw[(s.gone hl).1,if_pos rfl];exact List.mergeSort_nil
 | false=>
  rw[if_neg (by simp)];refine SQ (s.nodup hl) (GN _ _) λx=>?_;rw[yA,SR,s.now hl,s.N]
  constructor
  ·intro h
   cases e:mw M.row x with
   | none=>rw[e]at h;cases h
   | some b=>
    have:=s.rr _ (zD rfl e);simp only at this;exact⟨this.1,by omega,rfl⟩
  ·exact λh=>h.2.2
theorem zE(l:List Int):(vd l).length=l.length:=(List.mergeSort_perm l _).length_eq
theorem vf.many{T:TM}{M:RM}(s:vf T M):M.written.length=T.put.length:=by rw[<-s.written];unfold TM.written;rw[zE,lM0]
def RM.write(M:RM)(i:Int)(bs:cL):RM×Int:=
 if M.ends=true then(M,61)else if i<98∨i>=M.N then(M,31)else if bs.length≠512 then(M,32)else if mw M.row i=none/\M.written.length>=96 then(M,60)else({ M with row:=M.row++[(i,bs)] },0)
theorem yB(m:List (Int×cL))(i:Int)(v:cL):pO (ja m i v) (i,cR m i)=m:=by
 unfold pO
 cases e:cR m i with
 | some b=>exact wX e
 | none=>exact wW e
theorem sS(m:List (Int×cL))(us vs:List (Int×Option cL)):df m (us++vs)=df (df m vs) us:=by unfold df;rw[List.foldr_append]
theorem Mz{α:Type}{m:List (Int×α)}(h:(m.map (·.1)).Nodup)(i:Int)(v:α):((ja m i v).map (·.1)).Nodup:=by
 rw[Gz]
 split
 ·rename_i e;rw[List.nodup_append];refine⟨h,by simp,λa ha b hb=>?_⟩;rw[List.mem_singleton]at hb;subst hb;obtain⟨p,hp,rfl⟩:=List.mem_map.mp ha;exact wV.mp e p hp
 ·exact h
theorem vf.write{T:TM}{M:RM}(s:vf T M)(i:Int)(bs:cL):(M.write i bs).2=(T.write i bs).2/\vf (T.write i bs).1 (M.write i bs).1:=by
 unfold RM.write TM.write;rw[s.ends,s.N,s.many]
 split
 ·exact⟨rfl,s⟩
 ·rename_i h;have hl:T.over=false:=by cases e:T.over <;> simp_all
  rw[<-s.now hl i]
  split
  ·exact⟨rfl,s⟩
  ·split
   ·exact⟨rfl,s⟩
   ·split
    ·exact⟨rfl,s⟩
    ·rename_i h2 h3 h4;refine⟨rfl,rfl,s.dk,λy=>absurd (hl.symm.trans y) (by simp),λ_=>?_,λ_ k hk=>?_,λ_ k hk=>?_,λ_ k hk j=>?_,λp hp=>?_⟩
     ·show(T.ar++[_]).length=(M.row++[_]).length;rw[lA0,lA0,s.un hl];rfl
     ·have hk:k<=(M.row++[(i,bs)]).length:=hk;rw[lA0,List.length_singleton]at hk;show((df (ja T.put i bs) ((T.ar++[(i,cR T.put i)]).drop k)).map _).Nodup
      rcases Nat.lt_or_ge M.row.length k with y|y
      ·rw[List.drop_eq_nil_of_le (by rw[lA0,s.un hl];show _+1<=k;omega)];exact Mz (s.nodup hl) i bs
      ·rw[List.drop_append_of_le_length (by rw[s.un hl];exact y),sS];show((df (pO (ja T.put i bs) (i,cR T.put i)) _).map _).Nodup;rw[yB];exact s.nd hl k y
     ·have hk:k<=(M.row++[(i,bs)]).length:=hk;rw[lA0,List.length_singleton]at hk;show(df (ja T.put i bs) ((T.ar++[(i,cR T.put i)]).drop k)).length<=96
      rcases Nat.lt_or_ge M.row.length k with y|y
      ·rw[List.drop_eq_nil_of_le (by rw[lA0,s.un hl];show _+1<=k;omega)];show(ja T.put i bs).length<=96;have:=s.most hl;rw[BH]
       split
       ·rename_i z;have:¬T.put.length>=96:=λw=>h4 ⟨z,w⟩;omega
       ·exact this
      ·rw[List.drop_append_of_le_length (by rw[s.un hl];exact y),sS];show(df (pO (ja T.put i bs) (i,cR T.put i)) _).length<=96;rw[yB];exact s.mx hl k y
     ·have hk:k<=(M.row++[(i,bs)]).length:=hk;rw[lA0,List.length_singleton]at hk;show cR (df (ja T.put i bs) ((T.ar++[(i,cR T.put i)]).drop k)) j=mw ((M.row++[(i,bs)]).take k) j
      rcases Nat.lt_or_ge M.row.length k with y|y
      ·rw[List.drop_eq_nil_of_le (by rw[lA0,s.un hl];show _+1<=k;omega),List.take_of_length_le (by rw[lA0];show _+1<=k;omega),AO];show cR (ja T.put i bs) j=_;rw[Gu,s.now hl j]
       by_cases e:j=i
       ·rw[if_pos e,if_pos (show(i,bs).1=j from e.symm)]
       ·rw[if_neg e,if_neg (show ¬(i,bs).1=j from λy=>e y.symm)]
      ·rw[List.drop_append_of_le_length (by rw[s.un hl];exact y),sS,List.take_append_of_le_length y];show cR (df (pO (ja T.put i bs) (i,cR T.put i)) _) j=_;rw[yB];exact s.get hl k y j
     ·have hp:p∈M.row++[(i,bs)]:=hp
      rcases List.mem_append.mp hp with y|y
      ·exact s.rr p y
      ·rw[List.mem_singleton.mp y];show 98<=i/\i<(T.N:Int)/\bs.length=512;omega
def RM.back(M:RM)(m:Int):RM×Int:=if M.ends=true then(M,61)else if m<0∨m>M.row.length then(M,62)else({ M with row:=M.row.take m.toNat },0)
theorem vf.back{T:TM}{M:RM}(s:vf T M)(m:Int):(M.back m).2=(T.back m).2/\vf (T.back m).1 (M.back m).1:=by
 unfold RM.back TM.back;rw[s.ends]
 split
 ·exact⟨rfl,s⟩
 ·rename_i h;have hl:T.over=false:=by cases e:T.over <;> simp_all
  rw[s.un hl]
  split
  ·exact⟨rfl,s⟩
  ·rename_i h2;have hm:m.toNat<=M.row.length:=by omega
   have key:∀k,k<=m.toNat->df (df T.put (T.ar.drop m.toNat)) ((T.ar.take m.toNat).drop k)=df T.put (T.ar.drop k):=λk hk=>by
    have e:T.ar.drop k=(T.ar.take m.toNat).drop k++T.ar.drop m.toNat:=by
     have e1:T.ar=T.ar.take m.toNat++T.ar.drop m.toNat:=(List.take_append_drop _ _).symm;rw(config:={ occs:=.pos [1] }) [e1];rw[List.drop_append_of_le_length (by rw[lT0,s.un hl];omega)]
    rw[e,sS]
   have lt:(M.row.take m.toNat).length=m.toNat:=(by rw[lT0];omega);refine⟨rfl,rfl,s.dk,λy=>absurd (hl.symm.trans y) (by simp),λ_=>?_,λ_ k hk=>?_,λ_ k hk=>?_,λ_ k hk j=>?_,λp hp=>s.rr p (List.mem_of_mem_take hp)⟩
   ·show(T.ar.take m.toNat).length=(M.row.take m.toNat).length;rw[lt,lT0,s.un hl];omega
   ·have hk:k<=(M.row.take m.toNat).length:=hk;rw[lt]at hk;show((df (df T.put (T.ar.drop m.toNat)) ((T.ar.take m.toNat).drop k)).map _).Nodup;rw[key k hk];exact s.nd hl k (by omega)
   ·have hk:k<=(M.row.take m.toNat).length:=hk;rw[lt]at hk;show(df (df T.put (T.ar.drop m.toNat)) ((T.ar.take m.toNat).drop k)).length<=96;rw[key k hk];exact s.mx hl k (by omega)
   ·have hk:k<=(M.row.take m.toNat).length:=hk;rw[lt]at hk;show cR (df (df T.put (T.ar.drop m.toNat)) ((T.ar.take m.toNat).drop k)) j=mw ((M.row.take m.toNat).take k) j;rw[key k hk,s.get hl k (by omega) j,List.take_take,Nat.min_eq_left hk]
theorem vf.mark{T:TM}{M:RM}(s:vf T M):(if M.ends=true then((0:Int),(61:Int))else((M.row.length:Int),0))=T.mark:=by
 unfold TM.mark;rw[s.ends]
 split
 ·rfl
 ·rename_i h;have hl:T.over=false:=by cases e:T.over <;> simp_all
  rw[s.un hl]
theorem vf.over{T:TM}{M:RM}(s:vf T M){S:RD}(h:S.aB.length=T.N):vf ⟨S,[],[],true⟩ { M with aK:=S,ends:=true }:=
 ⟨rfl,rfl,λ_=>⟨rfl,rfl⟩,λy=>(by cases y),λy=>(by cases y),λy=>(by cases y),λy=>(by cases y),λp hp=>by
  have e:TM.N ⟨S,[],[],true⟩=T.N:=h
  rw[e];exact s.rr p hp⟩
theorem vf.ql{T:TM}{M:RM}(s:vf T M){S:RD}(h:S.aB.length=T.N):vf { T with aK:=S } { M with aK:=S }:=by
 have hN:TM.N { T with aK:=S }=T.N:=h;exact⟨s.ends,rfl,s.gone,s.un,s.nd,s.mx,s.get,λp hp=>by rw[hN];exact s.rr p hp⟩
theorem WA(S:RD):vf ⟨S,[],[],false⟩ ⟨S,[],false⟩:=
 ⟨rfl,rfl,λy=>(by cases y),λ_=>rfl,λ_ k _=>by
  show((df [] (([]:List (Int×Option cL)).drop k)).map _).Nodup
  rw[List.drop_nil];exact List.nodup_nil,λ_ k _=>by
  show(df [] (([]:List (Int×Option cL)).drop k)).length<=96
  rw[List.drop_nil];exact nZ0,λ_ k _ i=>by
  show cR (df [] (([]:List (Int×Option cL)).drop k)) i=mw (([]:List (Int×cL)).take k) i
  rw[List.drop_nil,List.take_nil];rfl,λp hp=>(by cases hp)⟩
theorem DU{bs:cL}{t:Nat}{k:Nat->ad->Prop}(H:∀ cap h',Fr No h h'->Sl h' 1 (some (bA h)) bs.length cap (bs.map bv) (λb=>b=h.size)->k cap h'):Va (mkStr bs) t h k:=by
 intro cap xY;have xY:bs.length<=cap:=xY;show k cap (vz h ((mkStr bs).toList.map bv++List.replicate (cap-bs.length) (bv 0)) t);rw[toList_mkStr];generalize Bk:bs.map bv++List.replicate (cap-bs.length) (bv 0)=cs;have hg:(vz h cs t)[h.size]?=some (.cells ⟨cs⟩ t (cs.length,cs.length+1)):=by simp[vz]
 have hr:rd (vz h cs t) h.size=cs:=by simp only[rd,hg]
 refine H cap _ ⟨by simp[vz],λx hx _=>by simp[vz,Array.getElem?_push,show x≠h.size by omega]⟩ ⟨by rw[lM0,Nat.mul_one],rfl,rfl,⟨_,_,_,hg,.inr nL0⟩,xY,?_,?_⟩
 ·show((rd (vz h cs t) h.size).drop 0).take _=_;rw[hr,<-Bk,List.drop_zero];exact List.take_left
 ·show 0+cap*1<=(rd (vz h cs t) h.size).length;rw[hr,<-Bk,lA0,lM0,List.length_replicate];omega
def mQ(p:Int×cL):LV:=[vI p.1,.string (mkStr p.2)]
theorem GO(p:Int×cL):∀v∈mQ p,v.oneCell'=true:=Vb rfl rfl
structure RR where
 rb:Nat
 q:OA
 ra:OA
 rc:Nat
structure Fm(h:ad)(ao:Nat->Nat)(R:RR)(M:RM):Prop where
 vp:∀b,h.size<=b->ao b=0
 rc:ao R.rb=1
 ro:dJ h R.rb
 rr:rd h R.rb=[vP R.q,vS R.ra M.row.length R.rc,.bool M.ends]
 dk:Rf.pM h (λb=>ao b=3) R.q M.aK
 row:Sl h 2 R.ra M.row.length R.rc (M.row.flatMap mQ) (On ao 4)
 rm:M.row.length<=1000000000
def Rx(h:ad)(F:NP)(r e:OA)(M:RM):Prop:=∃ao R,r=some ⟨R.rb,0,none⟩/\e=R.q/\Fm h ao R M/\∀b,F b↔1<=ao b/\ao b<=4
theorem WB{D:RD}(x:Rf.pM h E r D)(g:∀ b,E' b↔E b):Rf.pM h E' r D:=by
 obtain⟨ao,S,a,s,p,w,hz,hD⟩:=x;exact⟨ao,S,a,s,p,w,hz,λb=>(g b).trans (hD b)⟩
theorem Fm.max{h:ad}{ao:Nat->Nat}{R:RR}{M:RM}(X:Fm h ao R M):M.N<=16384:=Wd.pM.max X.dk
theorem Fm.keep{R:RR}{M:RM}{G:NP}(X:Fm h ao R M)(f:Fr G h h')(hG:∀ b,b<h.size->1<=ao b->ao b<=4->¬ G b):Fm h' ao R M:=by
 have c1:=X.rc;have l1:=X.ro.lt;have g1:=hG _ l1 (by omega) (by omega)
 exact⟨λb hb=>X.vp b (Nat.le_trans f.size hb),c1,f.own l1 g1 X.ro,(f.rd l1 g1).trans X.rr,
  X.dk.fr f (λb hb=>hG b (X.dk.lt hb) (by have hb:ao b=3:=hb;omega) (by have hb:ao b=3:=hb;omega)),X.row.fr f (λb hb e=>hG b hb (by have e:ao b=4:=e;omega) (by have e:ao b=4:=e;omega)),X.rm⟩
theorem Rx.fr{G:NP}{M:RM}(x:Rx h F r e M)(f:Fr G h h')(hG:∀ b,F b->¬ G b):Rx h' F r e M:=by
 obtain⟨ao,R,e1,e2,X,hF⟩:=x;exact⟨ao,R,e1,e2,X.keep f λb _ h1 h2=>hG b ((hF b).mpr ⟨h1,h2⟩),hF⟩
theorem Rx.lt{M:RM}(x:Rx h F r e M){b:Nat}(hb:F b):b<h.size:=by
 obtain⟨ao,R,e1,e2,X,hF⟩:=x
 rcases Nat.lt_or_ge b h.size with y|y
 ·exact y
 ·have:=X.vp b y;have:=(hF b).mp hb;omega
theorem yC(s:Sl h ec a l c xs F):Sl h ec a l c xs (λb=>F b/\b<h.size):=by
 obtain⟨h1,h2⟩:=s;refine⟨h1,?_⟩
 cases a with
 | none=>exact h2
 | some p=>exact⟨h2.1,⟨h2.2.1,h2.2.2.1.lt⟩,h2.2.2.1,h2.2.2.2.1,h2.2.2.2.2⟩
theorem yt{D:NP}{S:RD}(x:Rf.pM h D q S)
  (hK:∀F h',Fr No h h'->Rx h' F (some (bA h)) q ⟨S,[],false⟩->(∀b,F b↔D b∨b=h.size)->K (vP (some (bA h))) h'):C.gO q h K:=by
 have l:=λb (hb:D b)=>x.lt hb;refine gO.ok (az.intro λh2 n2=>?_);have z:=n2.size
 obtain⟨ao,c1,c3,c4⟩:∃ao:Nat->Nat,ao h.size=1/\(∀b,D b->ao b=3)/\∀b,¬D b->b≠h.size->ao b=0:=
  ⟨λb=>if b=h.size then 1 else @ite _ (D b) (Classical.propDecidable _) 3 0,if_pos rfl,
   (λb hb=>by have:=l b hb;show(if b=h.size then 1 else @ite _ (D b) (Classical.propDecidable _) 3 0)=3;rw[if_neg (by omega),if_pos hb]),(λb hb dp=>by show(if b=h.size then 1 else @ite _ (D b) (Classical.propDecidable _) 3 0)=0;rw[if_neg dp,if_neg hb])⟩
 refine hK (λb=>1<=ao b/\ao b<=4) h2 n2.fr ⟨ao,⟨h.size,q,none,0⟩,rfl,rfl,⟨λb hb=>c4 b (λy=>by have:=l b y;omega) (by omega),c1,n2.own,n2.rd,WB (x.no n2.fr) λb=>⟨λe=>?_,c3 b⟩,Sl.nil _ _ _,nZ0⟩,λb=>Iff.rfl⟩ λb=>⟨λhb=>?_,λhb=>?_⟩
 ·refine Classical.byContradiction λy=>?_;have e:ao b=3:=e
  by_cases y2:b=h.size
  ·rw[y2]at e;omega
  ·have:=c4 b y y2;omega
 ·by_cases y:D b
  ·exact .inl y
  ·refine .inr (Classical.byContradiction λne=>?_);have:=c4 b y ne;omega
 ·rcases hb with y|rfl
  ·have:=c3 b y;omega
  ·omega
theorem Fm.mQ{h:ad}{ao:Nat->Nat}{R:RR}{M:RM}(X:Fm h ao R M){j:Nat}(hj:j<M.row.length):∃p,R.ra=some p/\aj h (p.add (j*2)) (mQ M.row[j]):=by
 obtain⟨p,ep,cc⟩:=X.row.get (by omega);refine⟨p,ep,?_⟩;have:=aj.take (aj.drop cc (j*2)) 2;rw[m6 Rx.mQ 2 M.row (λx _=>rfl) j hj]at this;exact this
theorem iI{R:RR}{M:RM}(X:Fm h ao R M)(hK:K (vI M.N) h):C.bp R.q h K:=X.dk.blocks hK
def AtR(row:List (Int×cL))(i:Int)(a:Int):Prop:=(a = -1/\mw row i=none)∨∃k:Nat,∃hk:k<row.length,a=k/\mw row i=some row[k].2
theorem zF{R:RR}{M:RM}(X:Fm h ao R M)(hK:∀ a,AtR M.row i a->K (vI a) h):C.dE (some ⟨R.rb,0,none⟩) i h K:=by
 have rm:=X.rm
 refine dE.ok ⟨λa k hh=>∃j:Nat,k=j/\j<=M.row.length/\h=hh/\((a = -1/\mw (M.row.take j) i=none)∨∃k:Nat,∃hk:k<M.row.length,a=k/\mw (M.row.take j) i=some M.row[k].2),λ_ k _=>((M.row.length:Int)-k).toNat,
  ⟨0,rfl,nZ0,rfl,.inl ⟨rfl,rfl⟩⟩,?_⟩
 rintro a k _ ⟨j,rfl,hj,rfl,ha⟩;refine os ⟨_,_,_,bJ X.rr rfl,cd (λhl=>?_) λhl=>?_⟩
 ·have hl':j<M.row.length:=by omega
  obtain⟨p,ep,cc⟩:=X.mQ hl';refine os ⟨_,_,_,bJ X.rr rfl,⟨by omega,hl⟩,oe ep ⟨_,aj.cell cc rfl,?_⟩⟩
  have es:mw (M.row.take (j+1)) i=if M.row[j].1=i then some M.row[j].2 else mw (M.row.take j) i:=by rw[dQ _ _ hl',AO]
  have ew:wI ((j:Int)+1)=((j+1:Nat):Int):=by rw[wrap_i64 (by omega) (by omega)];omega
  rw[ew];refine ce (λe=>⟨⟨j+1,rfl,hl',rfl,.inr ⟨j,hl',rfl,by rw[es,if_pos e]⟩⟩,(by show((M.row.length:Int)-((j+1:Nat):Int)).toNat<((M.row.length:Int)-(j:Int)).toNat;omega)⟩) λe=>⟨⟨j+1,rfl,hl',rfl,?_⟩,(by show((M.row.length:Int)-((j+1:Nat):Int)).toNat<((M.row.length:Int)-(j:Int)).toNat;omega)⟩;rw[es,if_neg e];exact ha
 ·have e:j=M.row.length:=by omega
  subst e;rw[List.take_length]at ha;exact hK a ha
theorem AtR.neg{row:List (Int×cL)}{a:Int}(x:AtR row i a):a<0↔mw row i=none:=by
 rcases x with⟨rfl,e⟩|⟨k,hk,rfl,e⟩
 ·exact⟨λ_=>e,λ_=>by decide⟩
 ·exact⟨λy=>by omega,λy=>by rw[y]at e;cases e⟩
theorem MA{R:RR}{M:RM}(X:Fm h ao R M)(h0:0<=i)(h1:i<M.N)
  (hK:∀a l c h',Fr No h h'->l=(if M.aK.down=true then([]:cL)else mh M.aK i.toNat).length->Sl h' 1 a l c ((if M.aK.down=true then([]:cL)else mh M.aK i.toNat).map bv) (dG h.size)->K (.tuple #[vS a l c,vI (if M.aK.down=true then 30 else 0)]) h') :
  C.bR R.q i h K:=by
 refine X.dk.read (λho=>?_) (λ_ y=>absurd ⟨h0,h1⟩ y) λho _ _ a l c h' f s=>?_
 ·rw[ho]at hK;exact hK none 0 0 h (Fr.refl _ _) rfl (Sl.nil _ _ _)
 ·rw[ho,if_neg (by simp),if_neg (by simp)]at hK;exact hK a l c h' f (by have:=s.1;rw[lM0]at this;omega) s
theorem MB{M:RM}(x:Rx h F r e M)
  (hK:∀a l c h',Fr No h h'->l=(M.read i).1.length->Sl h' 1 a l c ((M.read i).1.map bv) (dG h.size)->K (.tuple #[vS a l c,vI (M.read i).2]) h'):C.aD r i h K:=by
 obtain⟨ao,R,rfl,rfl,X,hF⟩:=x
 have bad:∀e,M.read i=([],e)->K (.tuple #[vS none 0 0,vI e]) h:=λe h2=>by
  rw[h2]at hK;exact hK none 0 0 h (Fr.refl _ _) rfl (Sl.nil _ _ _)
 refine aD.ok (os ⟨_,bJ X.rr rfl,?_⟩)
 cases he:M.ends with
 | true=>exact ct rfl (bad _ (by unfold RM.read;rw[if_pos he]))
 | false=>
  have e0:M.read i=if i<0∨i>=M.N then(([],31):cL×Int)else match mw M.row i with
   | some b=>(b,0)
   | none=>if M.aK.down=true then([],30)else(mh M.aK i.toNat,0):=by unfold RM.read;rw[if_neg (by rw[he];simp)] <;> rfl
  refine cf rfl (cd (λy=>bad _ (by rw[e0,if_pos (.inl y)])) λy0=>os ⟨_,bJ X.rr rfl,iI X ⟨_,rfl,cd (λy=>bad _ (by rw[e0,if_pos (.inr y)])) λy1=>?_⟩⟩);rw[if_neg (by omega)]at e0;unfold aD.k1;refine zF X λa ha=>⟨_,rfl,cd (λy=>?_) λy=>?_⟩
  ·rcases ha with⟨rfl,_⟩|⟨k,hk,rfl,eg⟩
   ·exact absurd y (by decide)
   ·rw[eg]at e0;simp only at e0;rw[e0]at hK;obtain⟨p,ep,cc⟩:=X.mQ hk;refine os ⟨_,_,_,bJ X.rr rfl,⟨by omega,by omega⟩,oe ep ⟨_,aj.cell cc rfl,DU λcap h5 f5 s5=>?_⟩⟩;exact hK _ _ cap h5 f5 rfl (s5.mono λb hb=>by have hb:b=h.size:=hb;show h.size<=b;omega)
  ·have eg:mw M.row i=none:=ha.neg.mp (by omega);rw[eg]at e0;simp only at e0;refine os ⟨_,bJ X.rr rfl,MA X (by omega) (by omega) λa l c h6 f6 hl s6=>⟨_,_,_,_,rfl,?_⟩⟩;rw[e0]at hK
   cases ho:M.aK.down with
   | true=>rw[ho]at hK hl s6;exact hK a l c h6 f6 hl s6
   | false=>rw[ho]at hK hl s6;exact hK a l c h6 f6 hl s6
theorem MC{M:RM}(x:Rx h F r e M)
  (hK:K (.tuple #[vI (if M.ends=true then((0:Int),(61:Int))else((M.row.length:Int),0)).1,vI (if M.ends=true then((0:Int),(61:Int))else((M.row.length:Int),0)).2]) h):C.ca r h K:=by
 obtain⟨ao,R,rfl,rfl,X,hF⟩:=x;refine ca.ok (os ⟨_,bJ X.rr rfl,?_⟩)
 cases he:M.ends with
 | true=>rw[he]at hK;exact ct rfl hK
 | false=>rw[he]at hK;exact cf rfl (os ⟨_,_,_,bJ X.rr rfl,hK⟩)
theorem SS{elem:TI}{e:Nat}{n:Nat}{new:LV}{k:OA->Nat->Nat->ad->Prop}(f:Fr No h0 h)
  (s:Sl h elem.cells a l c xs (dG h0.size)) (hn:new.length=n*elem.cells) (hz:elem.zero.length=elem.cells) (hb:(l+n)*elem.bytes<=140737488355328) (wH:l+n<=140737488355328)
  (hk:∀a' c' h',Fr No h0 h'->Sl h' elem.cells a' (l+n) c' (xs++new) (dG h0.size)->k a' (l+n) c' h') :
  aH elem e a l c n new h k:=by
 have hs:=f.size;refine dh s hn hz hb wH λa' c' h' f' s'=>hk a' c' h' (f.trans f' λb hb e=>by have:h0.size<=b:=e;omega) (s'.mono λb hb=>?_)
 rcases hb with hb|hb
 ·exact hb
 ·show h0.size<=b;omega
theorem tw{R:RR}{M:RM}(X:Fm h ao R M)
  (hK:∀a c h',Fr No h h'->Sl h' 1 a M.written.length c (M.written.map (.int .i64)) (dG h.size)->K (vS a M.written.length c) h'):C.bo (some ⟨R.rb,0,none⟩) h K:=by
 have hNm:=X.max
 refine bo.ok ⟨λa l c i hh=>∃j:Nat,i=((98+j:Nat):Int)/\j<=M.N-98/\Fr No h hh/\l=(lJ M j).length/\Sl hh 1 a l c ((lJ M j).map (.int .i64)) (dG h.size)/\((M.ends=true∨M.row=[])->lJ M j=[]/\(M.ends=true->j=0)),λ_ _ _ i _=>((M.N:Int)-i).toNat,
  ⟨0,rfl,nZ0,Fr.refl _ _,rfl,Sl.nil _ _ _,λ_=>⟨rfl,λ_=>rfl⟩⟩,?_⟩
 rintro a l c i h2 ⟨j,rfl,hj,f2,rfl,s2,hz⟩;have X2:=X.keep f2 λ_ _ _ _ y=>y
 have fin:M.written=lJ M j->K (vS a (lJ M j).length c) h2:=λe=>by
  rw[e]at hK;exact hK a c h2 f2 s2
 refine os ⟨_,bJ X2.rr rfl,iI X2 ⟨_,rfl,cd (λhl=>os ⟨_,bJ X2.rr rfl,jV ?_⟩) λhl=>fin ?_⟩⟩
 ·cases he:M.ends with
  | true=>exact ct rfl (fin (by unfold RM.written;rw[if_pos he,(hz (.inl he)).1]))
  | false=>
   refine cf rfl (os ⟨_,_,_,bJ X2.rr rfl,cd (λhr=>?_) λhr=>fin ?_⟩)
   ·unfold bo.k1;have ew:wI (((98+j:Nat):Int)+1)=((98+(j+1):Nat):Int):=(by rw[wrap_i64 (by omega) (by omega)];omega);have es:=Kj M j;have me:((M.N:Int)-((98+(j+1):Nat):Int)).toNat<((M.N:Int)-((98+j:Nat):Int)).toNat:=by omega
    have dp:¬(false=true∨M.row=[]):=by
     rintro(y|y)
     ·cases y
     ·rw[y]at hr;exact absurd hr (by decide)
    refine zF X2 λn2 ha=>⟨_,rfl,?_⟩;rw[ew];refine cd (λy=>?_) λy=>?_
    ·have hs:(mw M.row ((98+j:Nat):Int)).isSome=true:=by
      cases e:mw M.row ((98+j:Nat):Int)with
      | some b=>rfl
      | none=>have:=ha.neg.mpr e;omega
     rw[if_pos hs]at es
     have EM:(lJ M j).length<=j:=by
      have:(lJ M j).length<=(List.range' 98 j).length:=(by unfold lJ;rw[lM0];exact List.length_filter_le ..);rw[List.length_range']at this;exact this
     refine az.intro λh6 n6=>⟨[vI ((98+j:Nat):Int)],rfl,ah n6.rd,(λv hv=>by rw[List.mem_singleton.mp hv];rfl),?_⟩;refine SS (f2.new n6) (s2.fr n6.fr λ_ _ _ y=>y) rfl rfl (by show(_+1)*8<=_;omega) (by omega) λa' c' h7 f7 s7=>⟨⟨j+1,rfl,by omega,f7,by rw[es,lA0];rfl,?_,λy=>absurd y dp⟩,me⟩;rw[es,List.map_append];exact s7
    ·have hs:¬(mw M.row ((98+j:Nat):Int)).isSome=true:=by
      rw[ha.neg.mp (by omega)];simp
     rw[if_neg hs,List.append_nil]at es;exact⟨⟨j+1,rfl,by omega,f2,by rw[es],by rw[es];exact s2,λy=>absurd y dp⟩,me⟩
   ·have er:M.row=[]:=by
     cases e:M.row with
     | nil=>rfl
     | cons p r=>rw[e]at hr;exact absurd (show(0:Int)<((r.length+1:Nat):Int) by omega) hr
    have all:∀k,lJ M k=[]:=λk=>by
     cases e:lJ M k with
     | nil=>rfl
     | cons x r=>
      have:x∈lJ M k:=(by rw[e];exact List.mem_cons_self ..);rw[yA,er]at this;exact absurd this.2.2 (by simp[mw])
    unfold RM.written;rw[if_neg (by rw[he];simp),all,all]
 ·have ej:j=M.N-98:=by omega
  unfold RM.written
  cases he:M.ends with
  | true=>rw[if_pos rfl,(hz (.inl he)).1]
  | false=>rw[if_neg (by simp),ej]
theorem Kk{M:RM}{bs:cL}(x:Rx h F r e M)(B:aw h a l bs)(hu:M.ends=false->M.row.length<1000000000)
  (hK:∀h' F',Fr F h h'->Gw h F h' F'->Rx h' F' r e (M.write i bs).1->K (vI (M.write i bs).2) h'):C.aC r i a l c h K:=by
 have bK:=λb hb=>x.lt (b:=b) hb;obtain⟨ao,R,rfl,rfl,X,hF⟩:=x
 have bad:∀e h',Fr No h h'->M.write i bs=(M,e)->K (vI e) h':=λe h' f h2=>by
  rw[h2]at hK;exact hK h' F (f.mono λ_ _ y=>y.elim) (Gw.refl f.size bK) ⟨ao,R,rfl,rfl,X.keep f λ_ _ _ _ y=>y,hF⟩
 refine aC.ok (os ⟨_,bJ X.rr rfl,?_⟩)
 cases he:M.ends with
 | true=>exact ct rfl (bad _ h (Fr.refl _ _) (by unfold RM.write;rw[if_pos he]))
 | false=>
 have hu:=hu he
 have e0:M.write i bs=if i<98∨i>=M.N then(M,31)else if bs.length≠512 then(M,32)else if mw M.row i=none/\M.written.length>=96 then(M,60)else({ M with row:=M.row++[(i,bs)] },0):=by unfold RM.write;rw[if_neg (by rw[he];simp)]
 refine cf rfl (cd (λy=>bad _ h (Fr.refl _ _) (by rw[e0,if_pos (.inl y)])) λy0=>os ⟨_,bJ X.rr rfl,iI X ⟨_,rfl,cd (λy=>bad _ h (Fr.refl _ _) (by rw[e0,if_pos (.inr y)])) λy1=>?_⟩⟩);rw[if_neg (by omega)]at e0;have sf:=B.1;unfold aC.k1;refine cn (λy=>bad _ h (Fr.refl _ _) (by rw[e0,if_pos (by omega)])) λy=>?_;rw[if_neg (by omega)]at e0;refine zF X λn2 ha=>⟨_,rfl,tw X λwa wc h5 f5 sw=>⟨_,_,_,rfl,?_⟩⟩
 have fin:¬(mw M.row i=none/\M.written.length>=96)->aC.k2 (some ⟨R.rb,0,none⟩) i a l h5 K:=λQG=>by
  rw[if_neg QG]at e0;rw[e0]at hK;have X5:=X.keep f5 λ_ _ _ _ y=>y;have z5:=f5.size;have c1:=X.rc;have hm:=X.rm;unfold aC.k2;refine os ⟨_,_,_,bJ X5.rr rfl,bs,aw.fr f5 B λ_ _ y=>y,rfl,az.intro λh6 n6=>⟨bJ ((n6.at_ X5.ro.lt).trans X5.rr) rfl,mQ (i,bs),rfl,ah n6.rd,GO _,?_⟩⟩;have z6:=n6.size;have nb:∀b,h6.size<=b->ao b=0:=λb hb=>X5.vp b (by omega);have s6:Sl h6 2 R.ra M.row.length R.rc (M.row.flatMap mQ) (On ao 4):=X5.row.fr n6.fr λ_ _ _ y=>y;refine rV (elem:=Gc) s6 rfl rfl (by show(_+1)*24<=_;omega) (by omega) λa' c' h7 f7 s7=>?_;have z7:=f7.size;have l1:R.rb<h6.size:=by have:=X5.ro.lt;omega
  have k1:¬On ao 4 R.rb:=λy=>by have y:ao R.rb=4:=y;omega
  have o7:dJ h7 R.rb:=f7.own l1 k1 (n6.ow X5.ro);have r7:rd h7 R.rb=[vP R.q,vS R.ra M.row.length R.rc,.bool M.ends]:=(f7.rd l1 k1).trans ((n6.at_ X5.ro.lt).trans X5.rr);refine os (aO.add o7 (by rw[r7];show 0+1<3;omega) λh8 d8=>?_);have z8:=d8.size;obtain⟨cl,YG⟩:∃cl,cl=trim (oR ao h6.size 4) h7.size:=⟨_,rfl⟩;have old:∀b,b<h6.size->cl b=ao b:=λb hb=>by rw[YG,uN (by omega),Dh hb]
  have new:∀b,h6.size<=b->b<h7.size->cl b=4:=λb h1 h2=>by rw[YG,uN h2,uE h1]
  have top:∀b,h7.size<=b->cl b=0:=λb h1=>by rw[YG,zk h1]
  have f8:Fr F h h8:=by
   have fa:Fr F h h6:=(f5.mono λ_ _ y=>y.elim).new n6;refine(fa.trans f7 λb hb y=>(hF b).mpr ?_).did d8 λ_=>(hF _).mpr ⟨by omega,by omega⟩;have y:ao b=4:=y;omega
  refine hK h8 (λb=>1<=cl b/\cl b<=4) f8 ⟨λb hb=>by show 1<=cl b/\cl b<=4↔F b;rw[old b (by omega),hF b],λb hb=>?_⟩ ⟨cl,{ R with ra:=a',rc:=c' },rfl,rfl,
   ⟨λb hb=>top b (by omega),(old _ l1).trans c1,d8.own,?_,?_,?_,?_⟩,λb=>Iff.rfl⟩
  ·rcases Nat.lt_or_ge b h7.size with y|y
   ·omega
   ·have:=top b y;have hb:1<=cl b/\cl b<=4:=hb;omega
  ·show rd h8 R.rb=[vP R.q,vS a' (M.row++[(i,bs)]).length c',.bool M.ends];rw[d8.rd,r7,lA0];rfl
  ·have x7:=(X5.dk.no n6.fr).fr f7 λb y y2=>by have y:ao b=3:=y;have y2:ao b=4:=y2;omega
   have x8:=x7.fr d8.fr λb y y2=>by have y:ao b=3:=y;have y2:b=R.rb:=y2;rw[y2]at y;omega
   refine WB x8 λb=>?_;show cl b=3↔ao b=3
   rcases Nat.lt_or_ge b h6.size with y|y
   ·rw[old b y]
   ·have e:=nb b y
    rcases Nat.lt_or_ge b h7.size with y2|y2
    ·rw[new b y y2,e];omega
    ·rw[top b y2,e]
  ·have e2:(M.row++[(i,bs)]).flatMap mQ=M.row.flatMap mQ++mQ (i,bs):=(by rw[List.flatMap_append];rfl);show Sl h8 2 a' (M.row++[(i,bs)]).length c' ((M.row++[(i,bs)]).flatMap mQ) (On cl 4);rw[e2,lA0]
   have s8:=(yC s7).fr d8.fr λb _ y y2=>by
    have y2:b=R.rb:=y2;have y:=y.1;have y:oR ao h6.size 4 b=4:=y;rw[y2,Dh l1]at y;omega
   refine s8.mono λb hb=>?_;have h1:oR ao h6.size 4 b=4:=hb.1;show cl b=4;rw[YG,uN hb.2];exact h1
  ·show(M.row++[(i,bs)]).length<=_;rw[lA0];show M.row.length+1<=_;omega
 refine cd (λy=>cd (λy2=>bad _ h5 f5 ?_) λy2=>fin ?_) λy=>fin ?_
 ·rw[e0,if_pos ⟨ha.neg.mp y,by omega⟩]
 ·rintro⟨_,y3⟩;omega
 ·rintro⟨y3,_⟩;exact y (ha.neg.mpr y3)
theorem MD{M:RM}{m:Int}(x:Rx h F r e M)
  (hK:∀h' F',Fr F h h'->Gw h F h' F'->Rx h' F' r e (M.back m).1->K (vI (M.back m).2) h'):C.bu r m h K:=by
 have bK:=λb hb=>x.lt (b:=b) hb;obtain⟨ao,R,rfl,rfl,X,hF⟩:=x
 have bad:∀e,M.back m=(M,e)->K (vI e) h:=λe h2=>by
  rw[h2]at hK;exact hK h F (Fr.refl _ _) (Gw.refl nL0 bK) ⟨ao,R,rfl,rfl,X,hF⟩
 refine bu.ok (os ⟨_,bJ X.rr rfl,?_⟩)
 cases he:M.ends with
 | true=>exact ct rfl (bad _ (by unfold RM.back;rw[if_pos he]))
 | false=>
 have e0:M.back m=if m<0∨m>M.row.length then(M,62)else({ M with row:=M.row.take m.toNat },0):=by unfold RM.back;rw[if_neg (by rw[he];simp)]
 refine cf rfl (cd (λy=>bad _ (by rw[e0,if_pos (.inl y)])) λy0=>os ⟨_,_,_,bJ X.rr rfl,cd (λy=>bad _ (by rw[e0,if_pos (.inr y)])) λy1=>?_⟩);rw[if_neg (by omega)]at e0;rw[e0]at hK;have c1:=X.rc;have hm:=X.rm;have cap:=X.row.le;have lt:(M.row.take m.toNat).length=m.toNat:=by rw[lT0];omega
 have l2:=fW mQ 2 (M.row.take m.toNat) λ_ _=>rfl;unfold bu.k1;refine os ⟨_,_,_,bJ X.rr rfl,⟨by omega,by omega⟩,(M.row.take m.toNat).flatMap mQ,by rw[l2,lt],?_,λv hv=>?_,?_⟩
 ·have:=ak.take X.row.cells (m.toNat*2);rw[show(M.row.flatMap mQ).take (m.toNat*2)=(M.row.take m.toNat).flatMap mQ from ?_]at this
  ·exact this
  ·have e1:M.row.flatMap mQ=(M.row.take m.toNat).flatMap mQ++(M.row.drop m.toNat).flatMap mQ:=(by rw[<-List.flatMap_append,List.take_append_drop]);rw[e1,show m.toNat*2=((M.row.take m.toNat).flatMap mQ).length by rw[l2,lt],List.take_left]
 ·obtain⟨p,_,hp⟩:=List.mem_flatMap.mp hv;exact GO p v hp
 refine append_nil (elem:=Gc) (by rw[l2,lt];rfl) rfl (by show _*24<=_;omega) (by omega) λa' c' h2 f2 s2=>?_;have z2:=f2.size;have X2:=X.keep f2 λ_ _ _ _ y=>y;refine os (aO.add X2.ro (by rw[X2.rr];show 0+1<3;omega) λh3 d3=>?_);have z3:=d3.size;have r1:=X.ro.lt
 obtain⟨cl,YG⟩:∃cl:Nat->Nat,cl=λb=>if b<h.size then(if ao b=4 then 2 else ao b)else if b<h2.size then 4 else 0:=⟨_,rfl⟩
 have old:∀b,b<h.size->cl b=if ao b=4 then 2 else ao b:=λb hb=>by rw[YG];show(if b<h.size then _ else _)=_;rw[if_pos hb]
 have new:∀b,h.size<=b->b<h2.size->cl b=4:=λb h1 tP=>by rw[YG];show(if b<h.size then _ else if b<h2.size then 4 else 0)=_;rw[if_neg (by omega),if_pos tP]
 have top:∀b,h2.size<=b->cl b=0:=λb h1=>by rw[YG];show(if b<h.size then _ else if b<h2.size then 4 else 0)=_;rw[if_neg (by omega),if_neg (by omega)]
 refine hK h3 (λb=>1<=cl b/\cl b<=4) ((f2.mono λ_ _ y=>y.elim).did d3 λ_=>(hF _).mpr ⟨by omega,by omega⟩) ⟨λb hb=>?_,λb hb=>?_⟩ ⟨cl,{ R with ra:=a',rc:=c' },rfl,rfl,
  ⟨λb hb=>top b (by omega),?_,d3.own,?_,?_,?_,?_⟩,λb=>Iff.rfl⟩
 ·show 1<=cl b/\cl b<=4↔F b;rw[old b hb,hF b]
  split <;> omega
 ·have hb:1<=cl b/\cl b<=4:=hb
  rcases Nat.lt_or_ge b h2.size with y|y
  ·omega
  ·have:=top b y;omega
 ·show cl R.rb=1;rw[old _ r1,if_neg (by omega)];exact c1
 ·show rd h3 R.rb=[vP R.q,vS a' (M.row.take m.toNat).length c',.bool M.ends];rw[d3.rd,X2.rr,lt];rfl
 ·have x3:=X2.dk.fr d3.fr λb y y2=>by have y:ao b=3:=y;have y2:b=R.rb:=y2;rw[y2]at y;omega
  refine WB x3 λb=>?_;show cl b=3↔ao b=3
  rcases Nat.lt_or_ge b h.size with y|y
  ·rw[old b y];split <;> omega
  ·have e:=X.vp b y
   rcases Nat.lt_or_ge b h2.size with y2|y2
   ·rw[new b y y2,e];omega
   ·rw[top b y2,e]
 ·have s3:=(yC s2).fr d3.fr λb _ y y2=>by have y:h.size<=b:=y.1;have y2:b=R.rb:=y2;omega
  show Sl h3 2 a' (M.row.take m.toNat).length c' ((M.row.take m.toNat).flatMap mQ) (On cl 4);rw[lt];exact s3.mono λb hb=>new b hb.1 hb.2
 ·show(M.row.take m.toNat).length<=_;omega
def jc(h:ad)(F:NP)(r e:OA)(T:TM):Prop:=∃M,vf T M/\Rx h F r e M
theorem jc.fr{h h':ad}{F G:NP}{r e:OA}{T:TM}(x:jc h F r e T)(f:Fr G h h')(hG:∀ b,F b->¬ G b):jc h' F r e T:=by
 obtain⟨M,s,x⟩:=x;exact⟨M,s,x.fr f hG⟩
theorem jc.no{T:TM}(x:jc h F r e T)(f:Fr No h h'):jc h' F r e T:=x.fr f λ_ _ y=>y
theorem jc.lt{h:ad}{F:NP}{r e:OA}{T:TM}(x:jc h F r e T){b:Nat}(hb:F b):b<h.size:=by
 obtain⟨M,s,x⟩:=x;exact x.lt hb
theorem cD{T:TM}(x:jc h F r e T)
  (hK:∀a l c h',Fr No h h'->l=(T.read i).1.length->Sl h' 1 a l c ((T.read i).1.map bv) (dG h.size)->K (.tuple #[vS a l c,vI (T.read i).2]) h'):C.aD r i h K:=by
 obtain⟨M,s,x⟩:=x;rw[<-s.read i]at hK;exact MB x hK
theorem sT{T:TM}{bs:cL}(x:jc h F r e T)(B:aw h a l bs)(hu:T.ar.length<1000000000)
  (hK:∀h' F',Fr F h h'->Gw h F h' F'->jc h' F' r e (T.write i bs).1->K (vI (T.write i bs).2) h'):C.aC r i a l c h K:=by
 obtain⟨M,s,x⟩:=x;have w:=s.write i bs;refine Kk x B (λhe=>by rw[<-s.un (by rw[<-s.ends];exact he)];exact hu) λh' F' f g x'=>?_;rw[w.1];exact hK h' F' f g ⟨_,w.2,x'⟩
theorem eF{T:TM}{bs:cL}(x:jc h F r e T)(_:98<=T.N)(B:aw h a l bs)(hu:T.ar.length<1000000000)
  (hK:∀h' F',Fr F h h'->Gw h F h' F'->jc h' F' r e (T.write i bs).1->K (vI (T.write i bs).2) h'):C.aC r i a l c h K:=sT x B hu hK
theorem Fo{T:TM}(x:jc h F r e T)
  (hK:∀a c h',Fr No h h'->Sl h' 1 a T.written.length c (T.written.map (.int .i64)) (dG h.size)->K (vS a T.written.length c) h'):C.bo r h K:=by
 obtain⟨M,s,ao,R,rfl,rfl,X,hF⟩:=x;rw[s.written]at hK;exact tw X hK
theorem ng{T:TM}(x:jc h F r e T)(hK:K (.tuple #[vI T.mark.1,vI T.mark.2]) h):C.ca r h K:=by
 obtain⟨M,s,x⟩:=x;rw[<-s.mark]at hK;exact MC x hK
theorem nh{T:TM}{m:Int}(x:jc h F r e T)
  (hK:∀h' F',Fr F h h'->Gw h F h' F'->jc h' F' r e (T.back m).1->K (vI (T.back m).2) h'):C.bu r m h K:=by
 obtain⟨M,s,x⟩:=x;have w:=s.back m;refine MD x λh' F' f g x'=>?_;rw[w.1];exact hK h' F' f g ⟨_,w.2,x'⟩
theorem jc.gX{h:ad}{F:NP}{r e:OA}{T:TM}(x:jc h F r e T){i:Int}(e0:(T.read i).2=0):(T.read i).1.length=512:=by
 obtain⟨M,s,ao,R,rfl,rfl,X,hF⟩:=x;have hN:=s.N;rw[<-s.read i]at e0 ⊢;unfold RM.read at e0 ⊢
 split at e0
 ·cases e0
 ·rename_i h1;rw[if_neg h1]
  split at e0
  ·cases e0
  ·rename_i h2;rw[if_neg h2]
   cases eg:mw M.row i with
   | some b=>exact(s.rr _ (zD rfl eg)).2.2
   | none=>
    rw[eg]at e0;simp only at e0 ⊢
    split at e0
    ·cases e0
    ·rename_i h3;rw[if_neg h3];exact Wd.pM.gX X.dk (by simpa using h3) (by have e:M.N=M.aK.aB.length:=rfl;omega)
end Rx
namespace Rg
open Hp
theorem wo{P:Program}{k:KT}(y:qU P l args h k)(hk:∀ v h',k v h'->k' v h'):qU P l args h k':=
 λw hw=>by
  obtain⟨fn,tmps,a,b,h1,h2⟩:=y w hw;exact⟨fn,tmps,a,b,h1,h2.mono λ_ _ ⟨v,e,r,x⟩=>⟨v,e,r,hk v _ x⟩⟩
theorem GP{R:Loop}{st:LoopState}{p:Option Code}(o:bX h l R st p):l<h.size:=(Array.getElem?_eq_some_iff.mp o).1
theorem eN{R:Loop}{st:LoopState}{p:Option Code}(o:bX h l R st p)(f:Fr F h h')(hF:¬ F l):bX h' l R st p:=(f.same l (GP o) hF).trans o
theorem zG(h:ad)(l:Nat)(R:Loop)(st:LoopState)(p:Option Code):(dr h l R st p).size=h.size:=by simp[dr]
theorem ME(h:ad)(l:Nat)(R:Loop)(st:LoopState)(p:Option Code):Fr (λb=>b=l) h (dr h l R st p):=
 ⟨by rw[zG];exact nL0,λb _ hb=>by simp only[dr];rw[Array.getElem?_setIfInBounds_ne λe=>hb e.symm]⟩
theorem sk(hl:l<h.size)(R:Loop)(st:LoopState)(p:Option Code):bX (dr h l R st p) l R st p:=by
 simp[bX,dr,hl]
structure MF(l:Nat)(R:Loop)(st:LoopState)(p:Option Code)(h h':ad):Prop where
 size:h'.size=h.size
 fr:Fr (λb=>b=l) h h'
 on:bX h' l R st p
theorem gq(hl:l<h.size)(R:Loop)(st:LoopState)(p:Option Code):MF l R st p h (dr h l R st p):=⟨zG h l R st p,ME h l R st p,sk hl R st p⟩
theorem mR{R:Loop}{st:LoopState}{p:Option Code}{k:HP}(hl:l<h.size)(H:∀ h',MF l R st p h h'->k h'):yn h l R st p k:=H _ (gq hl R st p)
theorem sU(h:ad)(R:Loop):(cE h R).size=h.size+2:=by simp[cE]
theorem AP(h:ad)(R:Loop):Fr No h (cE h R):=
 ⟨by rw[sU];omega,λb hb _=>by simp only[cE];rw[Array.getElem?_push,if_neg (by rw[Array.size_push];omega),Array.getElem?_push,if_neg (by omega)]⟩
theorem AQ(h:ad)(R:Loop):bX (cE h R) (h.size+1) R .ready none:=by
 simp only[bX,cE];rw[Array.getElem?_push,if_pos (by rw[Array.size_push])]
theorem DV(h:ad)(R:Loop):(cE h R)[h.size]?=some (.deferred (some [])):=by
 simp only[cE];rw[Array.getElem?_push,if_neg (by rw[Array.size_push];omega),Array.getElem?_push,if_pos rfl]
theorem GQ(h:ad)(b:Nat):(OT h b).size=h.size:=by simp[OT]
theorem WC(h:ad)(b:Nat):Fr (λx=>x=b) h (OT h b):=
 ⟨by rw[GQ];exact nL0,λc _ hc=>by simp only[OT];rw[Array.getElem?_setIfInBounds_ne λe=>hc e.symm]⟩
theorem yD{k:HP}(hd:h[b]?=some (.deferred (some [])))(H:∀ h',h'.size=h.size->Fr (λx=>x=b) h h'->k h'):zd b h k:=⟨hd,H _ (GQ h b) (WC h b)⟩
theorem AR{n r:Prop}{e:NP}(h:n):CH none n r e:=h
theorem SU{n r:Prop}{e:NP}(h:r):CH (some .ret) n r e:=h
end Rg
namespace Bt
open Hp W Rg
def mS(bs:LB)(i:Nat):Bool:=(bs.getD (i/8) 0).toNat.testBit (i%8)
def yE(n s:Nat)(on:Bool):Nat:=if on=true then n ||| 2 ^ s else n &&& (255-2 ^ s)
def yF(bs:LB)(i:Nat)(on:Bool):LB:=bs.set (i/8) (UInt8.ofNat (yE (bs.getD (i/8) 0).toNat (i%8) on))
theorem SX : ∀n:Fin 256,∀s:Fin 8,((bw .and .u8 (Int.fdiv (n.val:Int) (2 ^ min (Int.toNat (s.val:Int)) 8)) 1)==1)=n.val.testBit s.val:=by decide +kernel
theorem aam : ∀n:Fin 256,∀s:Fin 8,bw .or .u8 (n.val:Int) (IntKind.wrap .u8 (1*2 ^ min (Int.toNat (s.val:Int)) 8))=(yE n.val s.val true:Nat):=by decide +kernel
theorem WD : ∀n:Fin 256,∀s:Fin 8,bw .andNot .u8 (n.val:Int) (IntKind.wrap .u8 (1*2 ^ min (Int.toNat (s.val:Int)) 8))=(yE n.val s.val false:Nat):=by decide +kernel
theorem Of : ∀n:Fin 256,∀s:Fin 8,yE n.val s.val true<256/\yE n.val s.val false<256:=by decide +kernel
theorem Kl{n s:Nat}(hn:n<256)(hs:s<8)(on:Bool):yE n s on<256:=by
 cases on
 ·exact(Of ⟨n,hn⟩ ⟨s,hs⟩).2
 ·exact(Of ⟨n,hn⟩ ⟨s,hs⟩).1
theorem yC(s:Sl h ec a l c xs F):Sl h ec a l c xs (λb=>F b/\b<h.size):=by
 cases a with
 | none=>exact⟨s.1,s.2⟩
 | some p=>exact⟨s.1,s.2.1,⟨s.2.2.1,s.lt⟩,s.2.2.2⟩
theorem YH(n:Nat):Int.tdiv (n:Int) 8=((n/8:Nat):Int):=rfl
theorem YI(n:Nat):Int.tmod (n:Int) 8=((n%8:Nat):Int):=rfl
theorem si(hl:l<=1099511627776)(hK:K (.bool (decide (0<=i/\i<8*l))) h):C.nX A l c i h K:=by
 refine nX.ok (cd (λh0=>?_) λh0=>?_)
 ·rw[wrap_i64 (by omega) (by omega)]
  have:decide (0<=i/\i<8*(l:Int))=decide (i<8*(l:Int)):=by
   apply decide_eq_decide.mpr;constructor
   ·exact λx=>x.2
   ·exact λx=>⟨h0,x⟩
  rw[this]at hK;exact hK
 ·have:decide (0<=i/\i<8*(l:Int))=false:=decide_eq_false λx=>h0 x.1;rw[this]at hK;exact hK
theorem rG(B:aw h A l bs){j:Nat}(hj:j<bs.length):∃p,A=some p/\cellOf h (p.add j)=some (bv (bs.getD j 0)):=by
 obtain⟨B1,B2⟩:=B
 cases A with
 | none=>
  have B2:bs.map bv=[]:=B2;rw[List.map_eq_nil_iff.mp B2]at hj;exact absurd hj (Nat.not_lt_zero _)
 | some p=>
  refine⟨p,rfl,aj.cell B2 ?_⟩;rw[lG0,List.getD_eq_getElem?_getD,List.getElem?_eq_getElem hj];rfl
theorem oe{α:Type}{a:Option α}{p:α}{k:α->Prop}(e:a=some p)(h:k p):ae a k:=by rw[e];exact h
theorem Ih{i:Nat}(B:aw h A l bs)(hl:l<=1099511627776)(hi:i<8*l)(hK:K (.bool (mS bs i)) h):C.qq A l c i h K:=by
 have e:=B.1;obtain⟨p,ep,hc⟩:=rG B (j:=i/8) (by omega);refine qq.ok ?_;unfold qq;rw[YH,YI,wrap_i64 (by omega) (by omega)];refine⟨⟨by omega,by omega⟩,oe ep ⟨_,hc,?_⟩⟩;rw[if_neg (by omega)];have:=SX ⟨(bs.getD (i/8) 0).toNat,UInt8.toNat_lt _⟩ ⟨i%8,by omega⟩;unfold mS at hK;rw[<-this]at hK;exact hK
theorem wv(B:aw h A l bs)(hl:l<=1099511627776)
  (h1:¬(0<=i/\i<8*l)->K (.tuple #[.bool false,vI 80]) h) (h2:0<=i->i<8*l->K (.tuple #[.bool (mS bs i.toNat),vI 0]) h):C.rX A l c i h K:=by
 refine rX.ok (si hl ⟨_,rfl,jV (cd (λhi=>?_) h1)⟩);obtain⟨n,rfl⟩:=Int.eq_ofNat_of_zero_le hi.1;exact Ih B hl (by omega) ⟨_,rfl,h2 hi.1 hi.2⟩
theorem MG(bs:LB)(j:Nat)(x:UInt8):put (bs.map bv) j [bv x]=(bs.set j x).map bv:=by
 show(bs.map bv).set j (bv x)=_;rw[List.map_set]
theorem lO{on:Bool}(S:Sl h 1 (some ⟨b,o,none⟩) l c (bs.map bv) F)(hl:l<=1099511627776)
  (h1:¬(0<=i/\i<8*l)->K (vI 80) h) (h2:0<=i->i<8*l->∀h',Fr (λx=>x=b) h h'->h'.size=h.size->Sl h' 1 (some ⟨b,o,none⟩) l c ((yF bs i.toNat on).map bv) F->K (vI 0) h') :
  C.aab (some ⟨b,o,none⟩) l c i on h K:=by
 refine aab.ok (si hl ⟨_,rfl,jV (cd (λhi=>?_) h1)⟩);obtain⟨n,rfl⟩:=Int.eq_ofNat_of_zero_le hi.1;have h2:=h2 hi.1 hi.2;have B:=S.str;have e:=B.1;have hn:n/8<bs.length:=by omega
 obtain⟨p,ep,hc⟩:=rG B hn
 cases ep
 obtain⟨w1,w2⟩:=S.wr;have hx:(bs.getD (n/8) 0).toNat<256:=UInt8.toNat_lt _;rw[YH,YI,wrap_i64 (by omega) (by omega)]
 have go:∀v:Int,v=(yE (bs.getD (n/8) 0).toNat (n%8) on:Nat)->aO (Addr.add ⟨b,o,none⟩ (Int.toNat ((n/8:Nat):Int))) (.int .u8 v) h λh3=>K (vI 0) h3:=by
  intro v ev;subst ev;have et:Int.toNat ((n/8:Nat):Int)=n/8:=rfl;rw[et];refine aO.add w1 (by omega) λh3 d3=>h2 h3 d3.fr d3.size ?_
  have ex:(.int .u8 ((yE (bs.getD (n/8) 0).toNat (n%8) on:Nat):Int):Value)=bv (UInt8.ofNat (yE (bs.getD (n/8) 0).toNat (n%8) on)):=by
   show _=Value.int .u8 _;rw[UInt8.toNat_ofNat_of_lt' (Kl hx (by omega) on)]
  rw[ex]at d3;have:=S.putAt (j:=n/8) (new:=[bv (UInt8.ofNat (yE (bs.getD (n/8) 0).toNat (n%8) on))]) (by show n/8+1<=l*1;omega) d3;rw[MG]at this;exact this
 have ob:=aam ⟨(bs.getD (n/8) 0).toNat,hx⟩ ⟨n%8,by omega⟩;have nb:=WD ⟨(bs.getD (n/8) 0).toNat,hx⟩ ⟨n%8,by omega⟩
 cases on
 ·refine cf rfl ⟨⟨by omega,by omega⟩,os ⟨_,hc,?_⟩⟩;rw[if_neg (by omega)];exact⟨⟨by omega,by omega⟩,os (go _ nb)⟩
 ·refine ct rfl ⟨⟨by omega,by omega⟩,os ⟨_,hc,?_⟩⟩;rw[if_neg (by omega)];exact⟨⟨by omega,by omega⟩,os (go _ ob)⟩
theorem DW{P:Program}{k:KT}(y:qU P l args h k):cT P (.func (.yield l) #[] #[]) args h k:=y
theorem Og{P:Program}{v:Value}{k:KT}(H:cT P v args h k)(hk:∀ v h',k v h'->k' v h'):cT P v args h k':=by
 cases v with
 | func fn fs cs=>
  cases fn with
  | func g=>exact pQ.mono H hk
  | yield l=>exact wo H hk
  | _=>exact H.elim
 | _=>exact H.elim
theorem PO{sl:Nat}(hl:sl<=1099511627776)(J:Nat->ad->Prop)(hc:∀ i hh,J i hh->rd hh cb=[vS A sl c]/\aw hh A sl bs)
  (hY:∀i f n hh,J i hh->i<=f->0<n->f+n<=8*sl->(∀t,i<=t->t<f->mS bs t=true)->(∀t,f<=t->t<f+n->mS bs t=false)->
   qU Tryz.prog l [vI f,vI n] hh λv h'=>(v = .bool true/\J (f+n) h')∨(v = .bool false/\K (.tuple #[]) h'))
  (h0:J 0 h) (hK:∀i hh,J i hh->i<=8*sl->(∀t,i<=t->t<8*sl->mS bs t=true)->K (.tuple #[]) hh):C.dS (.func (.yield l) #[] #[]) (some ⟨cb,0,none⟩) h K:=by
 refine dS.ok ⟨λi hh=>0<=i/\i<=8*sl/\J i.toNat hh,λi _=>(8*sl-i).toNat,⟨by omega,by omega,h0⟩,?_⟩;rintro i h2 ⟨i0,i1,hJ⟩;obtain⟨r,B⟩:=hc _ _ hJ;have C2:cellOf h2 ⟨cb,0,none⟩=some (vS A sl c):=cI r rfl;refine⟨λf hh=>h2=hh/\i<=f/\f<=8*sl/\∀t,i.toNat<=t->t<f.toNat->mS bs t=true,λf _=>(8*sl-f).toNat,⟨rfl,by omega,i1,λt h1 h2=>by omega⟩,?_⟩;rintro f _ ⟨rfl,f0,f1,Jr⟩
 have YJ:(f=8*sl∨mS bs f.toNat=false)->dS.k1 (.func (.yield l) #[] #[]) (some ⟨cb,0,none⟩) i h2 (λi hh=>0<=i/\i<=8*sl/\J i.toNat hh) (λi _=>(8*sl-i).toNat) f h2 K:=by
  intro hf;refine⟨λe hh=>h2=hh/\f<=e/\e<=8*sl/\∀t,f.toNat<=t->t<e.toNat->mS bs t=false,λe _=>(8*sl-e).toNat,⟨rfl,by omega,f1,λt h1 h2=>by omega⟩,?_⟩;rintro e _ ⟨rfl,e0,e1,Ii⟩
  have last:(e=f->f=8*sl)->dS.k2 (.func (.yield l) #[] #[]) i h2 (λi hh=>0<=i/\i<=8*sl/\J i.toNat hh) (λi _=>(8*sl-i).toNat) f e h2 K:=by
   intro hq;refine ce (λhe=>?_) λhe=>?_
   ·have:=hq he;exact hK i.toNat h2 hJ (by omega) λt h1 h3=>Jr t h1 (by omega)
   ·rw[wq (e-f)];have y:=hY i.toNat f.toNat (e-f).toNat h2 hJ (by omega) (by omega) (by omega) Jr λt h1 h3=>Ii t h1 (by omega);rw[show((f.toNat:Nat):Int)=f by omega,show(((e-f).toNat:Nat):Int)=e-f by omega]at y;refine DW (wo y λv h5 hv=>?_)
    rcases hv with⟨rfl,hJ5⟩|⟨rfl,hk⟩
    ·refine⟨true,rfl,jV (ct rfl ⟨⟨by omega,e1,?_⟩,by show((8*sl:Int)-e).toNat<((8*sl:Int)-i).toNat;omega⟩)⟩;rw[show f.toNat+(e-f).toNat=e.toNat by omega]at hJ5;exact hJ5
    ·exact⟨false,rfl,jV (cf rfl hk)⟩
  refine os ⟨_,_,_,C2,si hl ⟨_,rfl,cd (λhi=>os ⟨_,_,_,C2,?_⟩) λhi=>?_⟩⟩
  ·obtain⟨n,rfl⟩:=Int.eq_ofNat_of_zero_le hi.1;refine Ih B hl (by omega) ⟨_,rfl,jV (cs (λhb=>?_) λhb=>?_)⟩
   ·refine last λhe=>?_
    rcases hf with hf|hf
    ·exact hf
    ·rw[<-he]at hf;rw[show((n:Int)).toNat=n from rfl,hb]at hf;cases hf
   ·rw[wq ((n:Int)+1)];refine⟨⟨rfl,by omega,by omega,λt h1 h3=>?_⟩,by show((8*sl:Int)-((n:Int)+1)).toNat<((8*sl:Int)-(n:Int)).toNat;omega⟩
    by_cases ht:t=n
    ·rw[ht];exact hb
    ·exact Ii t h1 (by omega)
  ·exact last λhe=>by omega
 refine os ⟨_,_,_,C2,si hl ⟨_,rfl,cd (λhi=>os ⟨_,_,_,C2,?_⟩) λhi=>YJ (.inl (by omega))⟩⟩;obtain⟨n,rfl⟩:=Int.eq_ofNat_of_zero_le hi.1;refine Ih B hl (by omega) ⟨_,rfl,cs (λhb=>?_) λhb=>YJ (.inr hb)⟩;rw[wq ((n:Int)+1)];refine⟨⟨rfl,by omega,by omega,λt h1 h3=>?_⟩,by show((8*sl:Int)-((n:Int)+1)).toNat<((8*sl:Int)-(n:Int)).toNat;omega⟩
 by_cases ht:t=n
 ·rw[ht];exact hb
 ·exact Jr t h1 (by omega)
end Bt
namespace Spc
open Hp W Ad Tm Bt
structure G where
 blocks:Nat
 bY:Nat
 dT:Nat
 data:Nat
 count:Nat
def G.v(g:G):LV:=[vI g.blocks,vI g.bY,vI g.dT,vI g.data,vI g.count]
structure G.ok(g:G):Prop where
 b:g.blocks<=1099511627776
 m:g.bY<=1099511627776
 i:g.dT<=1099511627776
 d:g.data<=1099511627776
theorem Ij{g:G}(ok:g.ok)(h1:¬ (0<=i/\i<g.blocks)->∀ h',Fr No h h'->K (.tuple #[vI 0,vI 0,vI 31]) h')
  (h2:0<=i->i<g.blocks->∀h',Fr No h h'->K (.tuple #[vI (g.bY+i.toNat/4096:Nat),vI (i.toNat%4096:Nat),vI 0]) h'):C.rD g.v i h K:=by
 have b1:=ok.b;have b2:=ok.m;refine rD.ok (az.intro λh3 n3=>?_);refine cd (λhn=>h1 (by omega) h3 n3.fr) λh0=>⟨_,bJ n3.rd rfl,cd (λhn=>h1 (by omega) h3 n3.fr) λhb=>⟨_,bJ n3.rd rfl,?_⟩⟩;obtain⟨n,rfl⟩:=Int.eq_ofNat_of_zero_le (show 0<=i by omega);have e1:Int.tdiv (n:Int) 4096=((n/4096:Nat):Int):=rfl;have e2:Int.tmod (n:Int) 4096=((n%4096:Nat):Int):=rfl;have h2:=h2 (by omega) (by omega) h3 n3.fr;rw[e1,e2,wq (((n/4096:Nat):Int)),wrap_i64 (by omega) (by omega)];rw[show((n:Int)).toNat=n from rfl]at h2;rw[show((g.bY+n/4096:Nat):Int)=(g.bY:Int)+((n/4096:Nat):Int) by omega]at h2;exact h2
def G.at_(g:G)(i:Nat):Int:=(g.bY+i/4096:Nat)
def cj(T:TM)(g:G)(i:Nat)(on:Bool):TM×Int:=
 if(T.read (g.at_ i)).2≠0 then(T,(T.read (g.at_ i)).2)else T.write (g.at_ i) (yF (T.read (g.at_ i)).1 (i%4096) on)
def mj(T:TM)(g:G)(i:Int):TM×Int:=
 if i<g.data∨i>=g.blocks then(T,91)else if(T.read (g.at_ i.toNat)).2≠0 then(T,(T.read (g.at_ i.toNat)).2)else
  if mS (T.read (g.at_ i.toNat)).1 (i.toNat%4096)=false then(T,91)else cj T g i.toNat false
theorem wx{T:TM}{g:G}(x:Tx h F t d T)(ok:g.ok)
  (h1:¬(0<=i/\i<g.blocks)->∀h',Fr No h h'->K (.tuple #[vI 0,vS none 0 0,vI 0,vI 31]) h')
  (h2:0<=i->i<g.blocks->∀a l c h',Fr No h h'->l=(T.read (g.at_ i.toNat)).1.length->Sl h' 1 a l c ((T.read (g.at_ i.toNat)).1.map bv) (dG h.size)->
   K (.tuple #[vI (g.at_ i.toNat),vS a l c,vI (i.toNat%4096:Nat),vI (T.read (g.at_ i.toNat)).2]) h'):C.oU t g.v i h K:=by
 refine oU.ok (az.intro λh3 n3=>⟨g.v,rfl,ah n3.rd,?_⟩);refine Ij ok (λhb h4 f4=>⟨_,_,_,rfl,ct rfl (h1 hb h4 (n3.fr.no f4))⟩) λh0 hb h4 f4=>⟨_,_,_,rfl,cf rfl ?_⟩;have f:=n3.fr.no f4;refine cD (x.no f) λa l c h5 f5 hl s=>⟨_,_,_,_,rfl,?_⟩;exact h2 h0 hb a l c h5 (f.no f5) hl (s.mono λb hb=>Nat.le_trans f.size hb)
theorem PQ{T:TM}{g:G}(x:Tx h F t d T)(ok:g.ok)
  (h1:¬(0<=i/\i<g.blocks)->∀h',Fr No h h'->K (.tuple #[.bool false,vI 31]) h')
  (h2:0<=i->i<g.blocks->(T.read (g.at_ i.toNat)).2≠0->∀h',Fr No h h'->K (.tuple #[.bool false,vI (T.read (g.at_ i.toNat)).2]) h')
  (h3:0<=i->i<g.blocks->(T.read (g.at_ i.toNat)).2=0->∀h',Fr No h h'->K (.tuple #[.bool (mS (T.read (g.at_ i.toNat)).1 (i.toNat%4096)),vI 0]) h'):C.oC t g.v i h K:=by
 refine oC.ok (az.intro λh4 n4=>⟨g.v,rfl,ah n4.rd,?_⟩);refine wx (x.no n4.fr) ok (λhb h5 f5=>⟨_,_,_,_,_,_,rfl,ct rfl (h1 hb h5 (n4.fr.no f5))⟩) λh0 hb a l c h5 f5 hl s=>⟨_,_,_,_,_,_,rfl,cn (λhe=>h2 h0 hb he h5 (n4.fr.no f5)) λhe=>?_⟩;have hlen:=Tx.gX x he;refine wv s.str (by omega) (λhn=>absurd ⟨by omega,by omega⟩ hn) λ_ _=>⟨_,_,rfl,?_⟩;exact h3 h0 hb he h5 (n4.fr.no f5)
theorem su{T:TM}{g:G}{on:Bool}(x:Tx h F t d T)(ok:g.ok)(h0:0<=i)(h1:i<g.blocks)(hu:T.ar.length<1000000000)
  (hK:∀h' F',Fr F h h'->Gw h F h' F'->Tx h' F' t d (cj T g i.toNat on).1->K (vI (cj T g i.toNat on).2) h'):C.oT t g.v i on h K:=by
 refine oT.ok (az.intro λh4 n4=>⟨g.v,rfl,ah n4.rd,?_⟩);have x4:=x.no n4.fr;refine wx x4 ok (λhb=>absurd ⟨h0,h1⟩ hb) λ_ _ a l c h5 f5 hl s=>⟨_,_,_,_,_,_,rfl,cn (λhe=>?_) λhe=>?_⟩
 ·have e:cj T g i.toNat on=(T,(T.read (g.at_ i.toNat)).2):=by unfold cj;rw[if_pos he]
  rw[e]at hK;have f:=n4.fr.no f5;exact hK h5 F (f.mono λ_ _ y=>y.elim) (Gw.refl f.size λb hb=>x.lt hb) (x.no f)
 ·have hlen:=Tx.gX x he;have e:cj T g i.toNat on=T.write (g.at_ i.toNat) (yF (T.read (g.at_ i.toNat)).1 (i.toNat%4096) on):=by unfold cj;rw[if_neg (by rw[he];simp)]
  rw[e]at hK;obtain⟨p,ep,_⟩:=s.get (by omega);subst ep;obtain⟨pb,po,sp⟩:=p;have DX:sp=none:=s.2.1;subst DX;refine lO s (by omega) (λhn=>absurd ⟨by omega,by omega⟩ hn) λ_ _ h6 f6 z6 s6=>⟨_,rfl,cf rfl ?_⟩;have f:=n4.fr.no f5;have GR:h4.size<=pb:=s.2.2.1;have f6':Fr No h h6:=f.trans f6 λb hb e=>by have:=n4.size;omega
  have e2:((i.toNat%4096:Nat):Int).toNat=i.toNat%4096:=rfl;rw[e2]at s6;refine Tm.eF (x.no f6') s6.str (by omega) (λq eq y=>?_) hu λh7 F7 f7 g7 x7=>⟨_,rfl,hK h7 F7 ?_ ?_ x7⟩
  ·cases eq
   have y:F pb:=y;have:=x.lt y;have:=n4.size;omega
  ·exact(f6'.mono λ_ _ y=>y.elim).trans f7 λ_ _ y=>y
  ·exact(Gw.refl f6'.size λb hb=>x.lt hb).trans g7 f6'.size
theorem tV{T:TM}{g:G}(x:Tx h F t d T)(ok:g.ok)(hu:T.ar.length<1000000000)
  (hK:∀h' F',Fr F h h'->Gw h F h' F'->Tx h' F' t d (mj T g i).1->K (vI (mj T g i).2) h'):C.kr t g.v i h K:=by
 refine kr.ok (az.intro λh4 n4=>⟨_,bJ n4.rd rfl,?_⟩)
 have same:∀e h5,Fr No h h5->mj T g i=(T,e)->K (vI e) h5:=λe h5 f e0=>by
  rw[e0]at hK;exact hK h5 F (f.mono λ_ _ y=>y.elim) (Gw.refl f.size λb hb=>x.lt hb) (x.no f)
 refine cd (λhn=>same 91 h4 n4.fr (by unfold mj;rw[if_pos (.inl hn)])) λh0=>⟨_,bJ n4.rd rfl,cd (λhn=>same 91 h4 n4.fr (by unfold mj;rw[if_pos (.inr hn)])) λhb=>?_⟩;have hr:¬(i<g.data∨i>=g.blocks):=by omega
 refine⟨g.v,rfl,ah n4.rd,PQ (x.no n4.fr) ok (λhn=>absurd ⟨by omega,by omega⟩ hn) (λ_ _ he h5 f5=>⟨_,_,rfl,cn (λ_=>?_) λe=>absurd e he⟩) λ_ _ he h5 f5=>⟨_,_,rfl,cf rfl (jV (cs (λJr=>?_) λIi=>?_))⟩⟩
 ·exact same _ h5 (n4.fr.no f5) (by unfold mj;rw[if_neg hr,if_pos he])
 ·have e0:mj T g i=cj T g i.toNat false:=by unfold mj;rw[if_neg hr,if_neg (by rw[he];simp),if_neg (by rw[Jr];simp)]
  rw[e0]at hK;have f:=n4.fr.no f5;refine⟨g.v,rfl,aj.fr f5 (ah n4.rd) (λy=>y),su (x.no f) ok (by omega) (by omega) hu λh6 F6 f6 g6 x6=>⟨_,rfl,hK h6 F6 ?_ ?_ x6⟩⟩
  ·exact(f.mono λ_ _ y=>y.elim).trans f6 λ_ _ y=>y
  ·exact(Gw.refl f.size λb hb=>x.lt hb).trans g6 f.size
 ·exact same _ h5 (n4.fr.no f5) (by unfold mj;rw[if_neg hr,if_neg (by rw[he];simp),if_pos Ii])
end Spc
namespace Spc
open Hp W Ad Tm Bt Rg
theorem PR{bs:cL}(B:aw h A l bs)(h0:0<l)(hl:l<=140737488355328)
  (hK:∀cb A' c' h',Fr No h h'->h.size<=cb->cb<h'.size->rd h' cb=[vS A' l c']->Sl h' 1 A' l c' (bs.map bv) (λb=>h.size<=b/\b<h'.size)->K (.func (.func 261) #[] ⟨[vP (some ⟨cb,0,none⟩)]⟩) h'):C.qe A l c h K:=by
 refine qe.ok (az.intro λh2 n2=>?_);have z2:=n2.size;obtain⟨s1,s2,s3⟩:=aw.src (aw.fr n2.fr B (λ_ _ x=>x));have S0:Sl h2 1 (some (bA h)) 0 0 [] (λb=>b=h.size):=⟨rfl,rfl,rfl,n2.own,nL0,rfl,nZ0⟩;refine⟨_,s1,s2,s3,dh S0 s1 rfl (by show(0+l)*1<=_;omega) (by omega) λa' c' h3 f3 s=>az.intro λh4 n4=>?_⟩;have z3:=f3.size;have z4:=n4.size;rw[Nat.zero_add]at s ⊢;rw[List.nil_append]at s;have s:=yC s;refine aO.intro n4.own (by rw[n4.rd];exact Nat.one_pos) λh5 d5=>?_;have z5:=d5.size;have f:Fr No h h5:=((n2.fr.trans f3 λb hb e=>by have e:b=h.size:=e;omega).new n4).did d5 λhh=>by omega
 refine hK h3.size a' c' h5 f (by omega) (by omega) (by rw[d5.rd,n4.rd];rfl) (((s.fr n4.fr λ_ _ _ x=>x).fr d5.fr λb hb hF e=>?_).mono λb hb=>?_)
 ·have e:b=h3.size:=e;have:=hF.2;omega
 ·obtain⟨hb,XB⟩:=hb;refine⟨?_,by omega⟩
  rcases hb with hb|hb
  ·omega
  ·omega
structure Rw(n cb e:Nat)(g:G)(first:Nat)(vm:Value)(A:OA)(l c:Nat)(bs:cL)(hh:ad):Prop where
 size:e+1<hh.size
 n1:n+3<=cb
 n2:cb<e
 r1:rd hh n=g.v
 r2:rd hh (n+1)=[vI first]
 r3:rd hh (n+2)=[vm]
 r4:rd hh cb=[vS A l c]
 s:aw hh A l bs
 sb:∀p,A=some p->n+3<=p.block/\p.block<e
 d:hh[e]?=some (.deferred (some []))
theorem Rw.step{n e:Nat}{g:G}{bs:cL}(b:Rw n cb e g first vm A l c bs hh)(f:Fr F hh EN)(hF:∀ x,F x->x<n∨x=e+1):Rw n cb e g first vm A l c bs EN:=by
 have z:=f.size;have s:=b.size;have n1:=b.n1;have n2:=b.n2;have k:∀x,n<=x->x<=e->¬F x:=λx h1 h2 y=>by have:=hF x y;omega
 exact⟨by omega,n1,n2,(f.rd (by omega) (k _ (by omega) (by omega))).trans b.r1,(f.rd (by omega) (k _ (by omega) (by omega))).trans b.r2,(f.rd (by omega) (k _ (by omega) (by omega))).trans b.r3,(f.rd (by omega) (k _ (by omega) (by omega))).trans b.r4,
  aw.fr f b.s λp ep=>k _ (by have:=b.sb p ep;omega) (by have:=b.sb p ep;omega),b.sb,(f.same _ (by omega) (k _ (by omega) (by omega))).trans b.d⟩
def isF(g:G)(first:Nat)(bs:cL)(t:Nat):Prop:=mS bs t=false/\g.data<=first+t/\first+t<g.blocks
theorem PS{g:G}{bs:cL}(B:aw h A l bs)(hl0:0<l)(hl:l<=1099511627776)(ok:g.ok)(hf:first<=9007199254740992)(hdo:kK vm=[vm])
  (J:Nat->ad->Prop) (E:HP) (hJ:∀i hh EN,J i hh->Fr (dG h.size) hh EN->J i EN) (hE:∀hh EN,E hh->Fr (dG h.size) hh EN->E EN)
  (YK:∀i j hh,J i hh->i<=j->j<=8*l->(∀t,i<=t->t<j->¬isF g first bs t)->J j hh)
  (hD:∀(i j a b:Nat) hh,J i hh->i<=j->j<=8*l->first+i<=a->a<b->b<=first+j->(∀t,i<=t->t<j->(isF g first bs t↔a<=first+t/\first+t<b))->
   cT Tryz.prog vm [vI a,vI b] hh λv h'=>∃r,v = .bool r/\Fr (λx=>x<h.size) hh h'/\(r=true->J j h')/\(r=false->E h'))
  (h0:J 0 h) (hK:∀hh,(J (8*l) hh∨E hh)->K (.tuple #[]) hh):C.oF g.v first A l c vm h K:=by
 refine oF.ok (az.intro λh2 n2=>az.intro λh3 n3=>az.intro λh4 n4=>?_);have z2:=n2.size;have z3:=n3.size;have z4:=n4.size;have e2:h2.size=h.size+1:=z2;have e3:h3.size=h.size+2:=by omega
 have F4:Fr No h h4:=(n2.fr.new n3).new n4;have B4:=aw.fr F4 B λ_ _ x=>x;refine PR B4 hl0 (by omega) λcb A' c' h5 f5 cb1 cb2 r5 s5=>⟨_,rfl,λR rounds=>?_⟩;have z5:=f5.size;have F5:Fr No h h5:=F4.no f5;rw[e2,e3]at rounds;have Fb:=AP h5 R;have on0:=AQ h5 R;have d0:=DV h5 R;have zb:=sU h5 R;have fb:∀b,b<h5.size->rd (cE h5 R) b=rd h5 b:=λb hb=>Fb.rd hb λx=>x;have g1:rd h5 h.size=g.v:=(f5.rd (by omega) λx=>x).trans ((n4.at_).trans ((n3.at_).trans n2.rd));have g2:rd h5 (h.size+1)=[vI first]:=by have:=n3.rd;rw[e2]at this;exact(f5.rd (by omega) λx=>x).trans ((n4.at_).trans this)
 have g3:rd h5 (h.size+2)=[vm]:=by have:=n4.rd;rw[e3,hdo]at this;exact(f5.rd (by omega) λx=>x).trans this
 have W0:Rw h.size cb h5.size g first vm A' l c' bs (cE h5 R):=by
  refine⟨by omega,by omega,cb2,(fb _ (by omega)).trans g1,(fb _ (by omega)).trans g2,(fb _ (by omega)).trans g3,(fb _ (by omega)).trans r5,aw.fr Fb s5.str λ_ _ x=>x,λp ep=>?_,d0⟩;subst ep;have:=s5.2.2.1;have h1:h4.size<=p.block:=this.1;have h2:p.block<h5.size:=this.2;exact⟨by omega,h2⟩
 have J0:J 0 (cE h5 R):=hJ _ _ _ h0 ((F5.no Fb).mono λ_ _ x=>x.elim);show C.dS (.func (.yield (h5.size+1)) #[] #[]) (some ⟨cb,0,none⟩) (cE h5 R) _
 have fin:∀(st:LoopState) (bz:Option Code) (h9:ad),(st = .ready/\bz=none∨st = .done/\bz=some .ret)->bX h9 (h5.size+1) R st bz->Rw h.size cb h5.size g first vm A' l c' bs h9->(J (8*l) h9∨E h9)->
   ∃(RW:LoopState) (pB:Option Code),bX h9 (h5.size+1) R RW pB/\RW≠.busy/\CH pB (yn h9 (h5.size+1) R .exhausted pB λcB=>zd h5.size cB λbQ=>K (.tuple #[]) bQ) (yn h9 (h5.size+1) R .exhausted pB λcG=>zd h5.size cG λcg=>K (.tuple #[]) cg) (λ_=>False):=by
  intro st bz h9 hs on9 W9 je;have ad3:=W9.size
  have out:yn h9 (h5.size+1) R .exhausted bz λcB=>zd h5.size cB λbQ=>K (.tuple #[]) bQ:=by
   refine mR ad3 λcB t10=>?_;have W10:=W9.step t10.fr λb e=>.inr e;refine yD W10.d λbQ Pz f11=>hK bQ ?_;have f:Fr (dG h.size) h9 bQ:=(t10.fr.mono λb _ e=>by show h.size<=b;omega).trans f11 λb _ e=>by show h.size<=b;omega
   rcases je with j|j
   ·exact .inl (hJ _ _ _ j f)
   ·exact .inr (hE _ _ j f)
  rcases hs with⟨rfl,rfl⟩|⟨rfl,rfl⟩
  ·exact⟨.ready,none,on9,(by intro x;cases x),AR out⟩
  ·exact⟨.done,some .ret,on9,(by intro x;cases x),SU out⟩
 refine PO (l:=h5.size+1) (A:=A') (sl:=l) (c:=c') (bs:=bs) hl (λi hh=>J i hh/\Rw h.size cb h5.size g first vm A' l c' bs hh/\bX hh (h5.size+1) R .ready none) (λi hh q=>⟨q.2.1.r4,q.2.1.s⟩) (λi f n hh q hif hn hfl Jr Ii=>?_) ⟨J0,W0,on0⟩ λi hh q hi Jr=>?_
 ·obtain⟨j,W,o⟩:=q;have b1:=ok.b;have b2:=ok.d;refine rounds (f:Int) (n:Int) hh _ o ⟨o,mR W.size λh7 t7=>?_⟩;have W7:=W.step t7.fr λb e=>.inr e;have j7:J i h7:=hJ _ _ _ j (t7.fr.mono λb _ e=>by show h.size<=b;omega);have s7:=W7.size;refine⟨_,cI W7.r2 rfl,_,bJ W7.r1 rfl,_,cI W7.r2 rfl,_,bJ W7.r1 rfl,?_⟩;rw[wq ((first:Int)+f),wq ((first:Int)+f+n)]
  obtain⟨a,ea,la,la2,la3⟩:∃a:Nat,(if(g.data:Int)>(first:Int)+f then(g.data:Int)else(first:Int)+f)=(a:Int)/\g.data<=a/\first+f<=a/\(a=g.data∨a=first+f):=by
   split
   ·exact⟨g.data,rfl,nL0,by omega,.inl rfl⟩
   ·exact⟨first+f,by omega,by omega,nL0,.inr rfl⟩
  obtain⟨b,eb,lb,lb2,lb3⟩:∃b:Nat,(if(g.blocks:Int)<(first:Int)+f+n then(g.blocks:Int)else(first:Int)+f+n)=(b:Int)/\b<=g.blocks/\b<=first+f+n/\(b=g.blocks∨b=first+f+n):=by
   split
   ·exact⟨g.blocks,rfl,nL0,by omega,.inl rfl⟩
   ·exact⟨first+f+n,by omega,by omega,nL0,.inr rfl⟩
  rw[ea,eb]
  have iff:∀t,i<=t->t<f+n->(isF g first bs t↔a<=first+t/\first+t<b):=by
   intro t h1 h2;unfold isF
   rcases Nat.lt_or_ge t f with h3|h3
   ·rw[Jr t h1 h3];exact⟨λx=>absurd x.1 (by simp),λx=>by omega⟩
   ·rw[Ii t h3 h2];exact⟨λx=>by omega,λx=>⟨rfl,by omega,by omega⟩⟩
  refine cd (λhab=>?_) λhab=>?_
  ·refine⟨_,cI W7.r3 rfl,?_⟩;refine Og (hD i (f+n) a b h7 j7 (by omega) (by omega) (by omega) (by omega) (by omega) iff) λv h8 q=>?_;obtain⟨r,rfl,f8,q1,q2⟩:=q;have W8:=W7.step f8 λb e=>.inl e;have s8:=W8.size;have on8:bX h8 (h5.size+1) R .busy none:=eN t7.on f8 (by omega);have t9:∀st p,MF (h5.size+1) R st p h8 (dr h8 (h5.size+1) R st p):=λst p=>gq s8 R st p;refine⟨r,rfl,jV ?_⟩
   cases r with
   | true=>
    have t9:=t9 .ready none;refine ct rfl ⟨on8,.inl ⟨rfl,hJ _ _ _ (q1 rfl) (t9.fr.mono λb _ e=>by show h.size<=b;omega),W8.step t9.fr λb e=>.inr e,t9.on⟩⟩
   | false=>
    have t9:=t9 .done (some .ret);exact cf rfl ⟨on8,.inr ⟨rfl,fin .done (some .ret) _ (.inr ⟨rfl,rfl⟩) t9.on (W8.step t9.fr λb e=>.inr e) (.inr (hE _ _ (q2 rfl) (t9.fr.mono λb _ e=>by show h.size<=b;omega)))⟩⟩
  ·have t9:=gq s7 R .ready none;have j':J (f+n) h7:=YK i (f+n) h7 j7 (by omega) (by omega) λt h1 h2 y=>by have:=(iff t h1 h2).mp y;omega
   exact⟨t7.on,.inl ⟨rfl,hJ _ _ _ j' (t9.fr.mono λb _ e=>by show h.size<=b;omega),W7.step t9.fr λb e=>.inr e,t9.on⟩⟩
 ·obtain⟨j,W,o⟩:=q;exact fin .ready none hh (.inl ⟨rfl,rfl⟩) o W (.inl (YK i (8*l) hh j hi nL0 λt h1 h2 y=>by have:=y.1;rw[Jr t h1 h2]at this;cases this))
theorem tW{g:G}{T:TM}(ok:g.ok)(hbi:g.bY<=g.dT)
  (J:Nat->ad->Prop) (E:HP) (hx:∀k hh,J k hh->Tx hh F t d T) (hJ:∀k hh EN,J k hh->Fr (dG h.size) hh EN->J k EN)
  (hD:∀k hh A l c,J k hh->g.bY<=k->k<g.dT->(T.read k).2=0->aw hh A l (T.read k).1->
   cT Tryz.prog vm [vI (4096*(k-g.bY):Nat),vS A l c] hh λv h'=>∃r,v = .bool r/\Fr (λx=>x<h.size) hh h'/\(r=true->J (k+1) h')/\(r=false->E h'))
  (h0:J g.bY h) (hend:∀hh,J g.dT hh->K (vI 0) hh) (hE:∀hh,E hh->K (vI 0) hh)
  (aao:∀k hh,J k hh->g.bY<=k->k<g.dT->(T.read k).2≠0->K (vI (T.read k).2) hh):C.oE t g.v vm h K:=by
 have b2:=ok.m;have b3:=ok.i;refine oE.ok (az.intro λh2 n2=>⟨_,bJ n2.rd rfl,?_⟩);have z2:=n2.size
 refine⟨λk hh=>∃n:Nat,k=n/\g.bY<=n/\n<=g.dT/\J n hh/\rd hh h.size=g.v/\h.size<hh.size,λk _=>(g.dT-k).toNat,
  ⟨g.bY,rfl,nL0,hbi,hJ _ _ _ h0 (n2.fr.mono λ_ _ x=>x.elim),n2.rd,by omega⟩,?_⟩
 rintro _ h3 ⟨k,rfl,k0,k1,j,r,s3⟩;refine⟨_,bJ r rfl,cd (λhk=>?_) λhk=>?_⟩
 ·refine cD (hx _ _ j) λa l c h4 f4 hl s=>⟨_,_,_,_,rfl,?_⟩;have j4:J k h4:=hJ _ _ _ j (f4.mono λ_ _ x=>x.elim);have z4:=f4.size;have r4:rd h4 h.size=g.v:=(f4.rd s3 λx=>x).trans r;refine cn (λhe=>aao k h4 j4 k0 (by omega) he) λhe=>⟨_,bJ r4 rfl,?_⟩;rw[wq ((k:Int)-g.bY),wq (4096*((k:Int)-g.bY))];rw[show 4096*((k:Int)-g.bY)=((4096*(k-g.bY):Nat):Int) by omega];refine Og (hD k h4 a l c j4 k0 (by omega) he s.str) λv h5 q=>?_;obtain⟨b,rfl,f5,q1,q2⟩:=q;refine⟨b,rfl,jV ?_⟩
  cases b with
  | true=>
   refine ct rfl ?_;rw[wq ((k:Int)+1)];have z5:=f5.size;refine⟨⟨k+1,rfl,by omega,by omega,q1 rfl,(f5.rd (by omega) (by omega)).trans r4,by omega⟩,by show((g.dT:Int)-((k:Int)+1)).toNat<((g.dT:Int)-(k:Int)).toNat;omega⟩
  | false=>exact cf rfl (hE h5 (q2 rfl))
 ·have:k=g.dT:=by omega
  subst this;exact hend h3 j
def gI(T:TM)(g:G)(m:Nat):Prop:=mS (T.read (g.at_ m)).1 (m%4096)=false/\g.data<=m/\m<g.blocks
instance(T : TM)(g:G)(m:Nat):Decidable (gI T g m):=by unfold gI;exact inferInstance
theorem Oh{T:TM}{g:G}{t:Nat}(hk:g.bY<=k)(ht:t<4096):isF g (4096*(k-g.bY)) (T.read k).1 t↔gI T g (4096*(k-g.bY)+t):=by
 unfold isF gI
 have e1:g.at_ (4096*(k-g.bY)+t)=(k:Int):=by
  unfold G.at_;have:(4096*(k-g.bY)+t)/4096=k-g.bY:=by omega
  rw[this];omega
 have e2:(4096*(k-g.bY)+t)%4096=t:=by omega
 rw[e1,e2]
def ad4(T:TM)(g:G):Nat->Nat
 | 0=>0
 | m+1=>ad4 T g m+if gI T g m then 1 else 0
theorem SY{T:TM}{p:List (Int×cL)}{u:List (Int×Option cL)}(h1:p=T.put)(h2:u=T.ar):{ T with put:=p,ar:=u }=T:=by subst h1;subst h2;rfl
theorem WE(T:TM):(T.back T.ar.length).1=T:=by
 unfold TM.back
 split
 ·rfl
 ·split
  ·rfl
  ·refine SY ?_ ?_
   ·rw[show((T.ar.length:Nat):Int).toNat=T.ar.length from rfl,List.drop_length];rfl
   ·rw[show((T.ar.length:Nat):Int).toNat=T.ar.length from rfl,List.take_length]
theorem MH{T:TM}{bs:cL}(e:(T.write i bs).2=0):((T.write i bs).1.back T.ar.length).1=T:=by
 obtain⟨h1,h2,h3,h4,h5,ew⟩:=TM.wg e;rw[ew];unfold TM.back;show(if T.over=true then _ else if((T.ar.length:Nat):Int)<0∨((T.ar.length:Nat):Int)>((T.ar++[(i,cR T.put i)]).length:Nat)then _ else _:TM×Int).1=T;rw[if_neg (by rw[h1];simp),if_neg (by rw[lA0];simp only[List.length_singleton];omega)];refine SY (T:=T) ?_ ?_
 ·show df (ja T.put i bs) ((T.ar++[(i,cR T.put i)]).drop T.ar.length)=T.put;rw[List.drop_left];show pO (ja T.put i bs) (i,cR T.put i)=_;unfold pO
  cases ea:cR T.put i with
  | none=>exact wW ea
  | some b=>exact wX ea
 ·show(T.ar++[(i,cR T.put i)]).take T.ar.length=T.ar;exact List.take_left
theorem CA(v:Value):∀n,aN [v] n=List.replicate n v
 | 0=>rfl
 | n+1=>by
  show[v]++aN [v] n=_;rw[CA v n];rfl
theorem DY{T:TM}{g:G}{on:Bool}(e:(cj T g m on).2≠0):(cj T g m on).1=T:=by
 unfold cj at e ⊢
 split
 ·rfl
 ·rename_i h;rw[if_neg h]at e;exact TM.xa e
theorem BM{T:TM}{g:G}{on:Bool}(e:(cj T g m on).2=0):(T.read (g.at_ m)).2=0/\cj T g m on=T.write (g.at_ m) (yF (T.read (g.at_ m)).1 (m%4096) on):=by
 unfold cj at e ⊢
 by_cases h:(T.read (g.at_ m)).2≠0
 ·rw[if_pos h]at e;exact absurd e h
 ·rw[if_neg h];exact⟨by omega,rfl⟩
theorem Km{T:TM}{g:G}{on:Bool}(e:(cj T g m on).2=0):((cj T g m on).1.back T.ar.length).1=T:=by
 obtain⟨h1,h2⟩:=BM e;rw[h2]at e ⊢;exact MH e
theorem Kn(T:TM)(g:G)(m:Nat)(on:Bool):(cj T g m on).1.ar.length<=T.ar.length+1:=by
 by_cases e:(cj T g m on).2=0
 ·obtain⟨h1,h2⟩:=BM e;rw[h2]at e ⊢;obtain⟨_,_,_,_,_,ew⟩:=TM.wg e;rw[ew];show(T.ar++[_]).length<=_;rw[lA0];exact nL0
 ·rw[DY e];omega
theorem AU : aN [.int .u8 0] (Int.toNat 512)=(List.replicate 512 (0:UInt8)).map bv:=by
 rw[List.map_replicate];show aN [.int .u8 0] 512=List.replicate 512 (.int .u8 0);exact CA _ 512
def qJ : cL:=List.replicate 512 0
def jP(T:TM)(g:G)(m:Nat):TM×Int×Int:=
 if(cj T g m true).2≠0 then(T,0,(cj T g m true).2)else
 if((cj T g m true).1.write m qJ).2≠0 then(T,0,((cj T g m true).1.write m qJ).2)else
  (((cj T g m true).1.write m qJ).1,m,0)
structure Tk(n:Nat)(h:ad)(t:OA)(g:G)(x:Int)(hh:ad):Prop where
 f:Fr No h hh
 e:n=h.size
 size:n+4<=hh.size
 r1:rd hh n=[vP t]
 r2:rd hh (n+1)=g.v
 o3:dJ hh (n+2)
 r3:rd hh (n+2)=[vI 0]
 o4:dJ hh (n+3)
 r4:rd hh (n+3)=[vI x]
theorem Tk.step{n:Nat}{g:G}(a:Tk n h t g x hh)(f:Fr F hh EN)(hF:∀ b,F b->n+4<=b):Tk n h t g x EN:=by
 have z:=f.size;have s:=a.size;have e:=a.e;have k:∀b,b<n+4->¬F b:=λb hb y=>by have:=hF b y;omega
 exact⟨a.f.trans f λb hb y=>(k b (by omega) y).elim,e,by omega,(f.rd (by omega) (k _ (by omega))).trans a.r1,(f.rd (by omega) (k _ (by omega))).trans a.r2,
  f.own a.o3.lt (k _ (by omega)) a.o3,(f.rd (by omega) (k _ (by omega))).trans a.r3,f.own a.o4.lt (k _ (by omega)) a.o4,(f.rd (by omega) (k _ (by omega))).trans a.r4⟩
theorem Tk.put{n:Nat}{g:G}{y:Int}(a:Tk n h t g x hh)(d:rW (n+3) hh EN ((rd hh (n+3)).set 0 (vI y))):Tk n h t g y EN:=by
 have s:=a.size;have e:=a.e;exact⟨a.f.did d λhb=>by omega,e,by rw[d.size];exact s,(d.at_ (by omega) (by omega)).trans a.r1,(d.at_ (by omega) (by omega)).trans a.r2,d.ow a.o3,(d.at_ (by omega) (by omega)).trans a.r3,d.own,by rw[d.rd,a.r4];rfl⟩
structure Tq(n q:Nat)(t:OA)(g:G)(x mk:Int)(hh:ad):Prop where
 lt:n+4<=q/\q<hh.size
 r1:rd hh n=[vP t]
 r2:rd hh (n+1)=g.v
 o3:dJ hh (n+2)
 l3:(rd hh (n+2)).length=1
 r4:rd hh (n+3)=[vI x]
 r5:rd hh q=[vI mk]
theorem Tq.step{n q:Nat}{g:G}{mk:Int}(a:Tq n q t g x mk hh)(f:Fr F hh EN)(hF:∀ b,F b->n<=b->b<=q->False):Tq n q t g x mk EN:=by
 have z:=f.size;have s:=a.lt;have k:∀b,n<=b->b<=q->¬F b:=λb h1 h2 y=>hF b y h1 h2
 exact⟨by omega,(f.rd (by omega) (k _ (by omega) (by omega))).trans a.r1,(f.rd (by omega) (k _ (by omega) (by omega))).trans a.r2,f.own a.o3.lt (k _ (by omega) (by omega)) a.o3,by rw[f.rd (by omega) (k _ (by omega) (by omega))];exact a.l3,
  (f.rd (by omega) (k _ (by omega) (by omega))).trans a.r4,(f.rd (by omega) (k _ (by omega) (by omega))).trans a.r5⟩
theorem Tq.put{n q:Nat}{g:G}{mk:Int}{v:Value}(a:Tq n q t g x mk hh)(d:rW (n+2) hh EN ((rd hh (n+2)).set 0 v)):Tq n q t g x mk EN/\rd EN (n+2)=[v]:=by
 have s:=a.lt;have l3:=a.l3
 have e:rd EN (n+2)=[v]:=by
  rw[d.rd]
  match rd hh (n+2),l3 with
  | [_],_=>rfl
 exact⟨⟨by rw[d.size];exact s,(d.at_ (by omega) (by omega)).trans a.r1,(d.at_ (by omega) (by omega)).trans a.r2,d.own,by rw[e];rfl,(d.at_ (by omega) (by omega)).trans a.r4,(d.at_ (by omega) (by omega)).trans a.r5⟩,e⟩
theorem xh{T:TM}{g:G}(x:Tx h F t d T)(ok:g.ok)(hbi:g.bY<=g.dT)(hd0:0<g.data)(hu:T.ar.length<900000000)
  (aao:∀k:Nat,g.bY<=k->k<g.dT->(∀m,m<4096*(k-g.bY)->¬gI T g m)->(T.read k).2≠0->∀h',Fr No h h'->K (.tuple #[vI 0,vI (T.read k).2]) h')
  (ad5:(∀m,m<4096*(g.dT-g.bY)->¬gI T g m)->∀h',Fr No h h'->K (.tuple #[vI 0,vI 90]) h')
  (Fp:∀m,m<4096*(g.dT-g.bY)->gI T g m->(∀m',m'<m->¬gI T g m')->(T.read (g.at_ m)).2=0->∀h' F',Fr F h h'->Gw h F h' F'->Tx h' F' t d (jP T g m).1->
   K (.tuple #[vI (jP T g m).2.1,vI (jP T g m).2.2]) h'):C.mE t g.v h K:=by
 refine mE.ok (az.intro λh2 n2=>az.intro λh3 n3=>az.intro λh4 n4=>az.intro λh5 n5=>?_);have z2:=n2.size;have z3:=n3.size;have z4:=n4.size;have z5:=n5.size;have e2:h2.size=h.size+1:=z2;have e3:h3.size=h.size+2:=by omega
 have e4:h4.size=h.size+3:=by omega
 have b2:=ok.m;have b3:=ok.i;refine aO.intro n5.own (by rw[n5.rd];exact Nat.one_pos) λh6 d6=>?_;have z6:=d6.size
 have k6:Tk h.size h t g 0 h6:=by
  have r4:=d6.rd;have o4:=d6.own;rw[n5.rd]at r4;rw[e4]at r4 o4;have r3:=n4.rd;have o3:=n4.own;rw[e3]at r3 o3;have r2:=n3.rd;rw[e2]at r2;refine⟨(((n2.fr.new n3).new n4).new n5).did d6 λhb=>by omega,rfl,by omega,?_,?_,d6.ow (n5.ow o3),?_,o4,r4⟩
  ·exact(d6.at_).trans ((n5.at_).trans ((n4.at_).trans ((n3.at_).trans n2.rd)))
  ·exact(d6.at_).trans ((n5.at_).trans ((n4.at_).trans r2))
  ·exact(d6.at_).trans ((n5.at_).trans r3)
 rw[e2,e3,e4];refine⟨_,cI k6.r1 rfl,g.v,rfl,ah k6.r2,?_⟩
 -- e is put
 have pe:∀{hh:ad} {y v:Int} {k:HP},Tk h.size h t g y hh->(∀h8,h8.size=hh.size->Fr No h h8->rd h8 (h.size+2)=[vI v]->dJ h8 (h.size+2)->rd h8 h.size=[vP t]->rd h8 (h.size+1)=g.v->rd h8 (h.size+3)=[vI y]->k h8)->aO ⟨h.size+2,0,none⟩ (vI v) hh k:=by
  intro hh y v k a H;have s:=a.size;refine aO.intro a.o3 (by rw[a.r3];exact Nat.one_pos) λh8 d8=>?_;exact H h8 d8.size (a.f.did d8 λhb=>by omega) (by rw[d8.rd,a.r3];rfl) d8.own ((d8.at_).trans a.r1) ((d8.at_).trans a.r2) ((d8.at_).trans a.r4)
 refine tW (T:=T) (F:=F) (d:=d) ok hbi (λk hh=>Tk h.size h t g 0 hh/\∀m,m<4096*(k-g.bY)->¬gI T g m)
  (λhh=>∃m:Nat,Tk h.size h t g m hh/\m<4096*(g.dT-g.bY)/\gI T g m/\(∀m',m'<m->¬gI T g m')/\(T.read (g.at_ m)).2=0)
  (λk hh j=>x.no j.1.f) (λk hh EN j f=>⟨j.1.step f λb hb=>by have hb:h6.size<=b:=hb;omega,j.2⟩) (λk hh A l c j FM UA he B=>?_) ⟨k6,λm hm=>by omega⟩ (λhh j=>?_) (λhh j=>?_) λk hh j FM UA he=>?_
 ·have hlen:=Tx.gX x he;have hl:l=512:=by rw[<-B.1];exact hlen
  subst hl;obtain⟨j,jn⟩:=j;have sz:=j.size;show C.lX _ A 512 c (some ⟨h.size+1,0,none⟩) (some ⟨h.size+3,0,none⟩) hh _;refine lX.ok (os ⟨g.v,rfl,ah j.r2,?_⟩);refine PS B (by omega) (by omega) ok (by omega) rfl (λi hx=>Tk h.size h t g 0 hx/\Fr (λb=>b=h.size+3) hh hx/\∀m,m<4096*(k-g.bY)+i->¬gI T g m)
   (λhx=>∃m:Nat,Tk h.size h t g m hx/\Fr (λb=>b=h.size+3) hh hx/\m<4096*(k-g.bY)+4096/\4096*(k-g.bY)<=m/\gI T g m/\∀m',m'<m->¬gI T g m')
   (λi hx Zl q f=>⟨q.1.step f λb hb=>by have hb:hh.size<=b:=hb;omega,q.2.1.trans f λb hb y=>by have y:hh.size<=b:=y;omega,q.2.2⟩)
   (λhx Zl q f=>?_) (λi j' hx q h1 h2 h3=>⟨q.1,q.2.1,λm hm z=>?_⟩) (λi j' a b hx q h1 h2 h3 h4 h5 h7=>?_) ⟨j,Fr.refl _ _,λm hm=>jn m (by omega)⟩ λhx q=>⟨rfl,os ?_⟩
  ·obtain⟨m,q1,q2,q3⟩:=q;exact⟨m,q1.step f λb hb=>by have hb:hh.size<=b:=hb;omega,q2.trans f λb hb y=>by have y:hh.size<=b:=y;omega,q3⟩
  ·rcases Nat.lt_or_ge m (4096*(k-g.bY)+i)with hm2|hm2
   ·exact q.2.2 m hm2 z
   ·refine h3 (m-4096*(k-g.bY)) (by omega) (by omega) ((Oh FM (by omega)).mpr ?_);rw[show 4096*(k-g.bY)+(m-4096*(k-g.bY))=m by omega];exact z
  ·show C.jH _ _ (some ⟨h.size+3,0,none⟩) hx _
   have fr:∀m,4096*(k-g.bY)+i<=m->m<4096*(k-g.bY)+j'->(gI T g m↔a<=m/\m<b):=λm x y=>by
    have:=h7 (m-4096*(k-g.bY)) (by omega) (by omega);rw[Oh FM (by omega),show 4096*(k-g.bY)+(m-4096*(k-g.bY))=m by omega]at this;exact this
   refine jH.ok (os (aO.intro q.1.o4 (by rw[q.1.r4];exact Nat.one_pos) λh8 d8=>⟨false,rfl,d8.fr.mono λb _ e=>by show b<hh.size;omega,λe=>(by cases e),λ_=>⟨a,q.1.put d8,q.2.1.trans d8.fr λ_ _ e=>e,by omega,by omega,(fr a (by omega) (by omega)).mpr ⟨nL0,by omega⟩,λm' U4 z=>?_⟩⟩))
   rcases Nat.lt_or_ge m' (4096*(k-g.bY)+i)with hm2|hm2
   ·exact q.2.2 m' hm2 z
   ·have:=(fr m' hm2 (by omega)).mp z;omega
  ·rcases q with q|⟨m,q1,q2,q3,q4,q5,q6⟩
   ·refine⟨_,cI q.1.r4 rfl,true,rfl,q.2.1.mono λb _ e=>by show b<h6.size;omega,λ_=>⟨q.1,λm hm=>q.2.2 m (by omega)⟩,λe=>by cases e⟩
   ·have hm0:0<m:=(by have:=q5.2.1;omega);refine⟨_,cI q1.r4 rfl,false,?_,q2.mono λb _ e=>by show b<h6.size;omega,λe=>(by cases e),λ_=>⟨m,q1,by omega,q5,q6,?_⟩⟩
    ·have:((m:Int)==0)=false:=beq_eq_false_iff_ne.mpr (by omega);rw[this]
    ·have e:g.at_ m=(k:Int):=by
      unfold G.at_;have:m/4096=k-g.bY:=(by omega);rw[this];omega
     rw[e];exact he
 ·-- all are taken
  obtain⟨j,jn⟩:=j;refine⟨_,rfl,pe j λh8 z8 f8 r3 o3 r1 r2 r4=>⟨_,cI r3 rfl,cf rfl ⟨_,cI r4 rfl,ct rfl ?_⟩⟩⟩;refine aO.intro o3 (by rw[r3];exact Nat.one_pos) λh9 d9=>⟨90,cI (xs:=[vI 90]) (by rw[d9.rd,r3];rfl) rfl,ad5 jn h9 (f8.did d9 λhb=>by omega)⟩
 ·-- m is the lowest
  obtain⟨m,j,jm,jf,jl,jr⟩:=j;have hm0:0<m:=by have:=jf.2.1;omega
  have sz:=j.size;have live:=TM.zu jr;have ad6:T.mark=((T.ar.length:Int),0):=by unfold TM.mark;rw[live,if_neg (by simp)]
  refine⟨_,rfl,pe j λh8 z8 f8 r3 o3 r1 r2 r4=>⟨_,cI r3 rfl,cf rfl ⟨_,cI r4 rfl,cf (beq_eq_false_iff_ne.mpr (by omega)) ⟨_,cI r1 rfl,ng (x.no f8) ⟨_,_,rfl,?_⟩⟩⟩⟩⟩;rw[ad6];refine az.intro λcG n12=>?_;have z12:=n12.size;refine aO.intro n12.own (by rw[n12.rd];exact Nat.one_pos) λcg d13=>?_;have V8:=d13.size
  have BB:Tq h.size h8.size t g m T.ar.length cg:=by
   refine⟨by omega,(d13.at_).trans ((n12.at_).trans r1),(d13.at_).trans ((n12.at_).trans r2),d13.ow (n12.ow o3),?_,(d13.at_).trans ((n12.at_).trans r4),by rw[d13.rd,n12.rd];rfl⟩;rw[d13.at_,n12.at_,r3];rfl
  have f13:Fr No h cg:=(f8.new n12).did d13 λhb=>by omega
  refine aO.intro BB.o3 (by rw[BB.l3];exact Nat.one_pos) λcM d14=>?_;obtain⟨Uu,Yp⟩:=BB.put d14;have Sg:=d14.size;have f14:Fr No h cM:=f13.did d14 λhb=>by omega
  refine⟨0,cI Yp rfl,cf rfl ⟨_,cI Uu.r1 rfl,g.v,rfl,ah Uu.r2,_,cI Uu.r4 rfl,?_⟩⟩;have mb:=jf.2.2
  -- refused: it goes back
  have refuse:∀(hs:ad) (Fs:NP) (Ts:TM) (e:Int) (k':HP),e≠0->Fr F h hs->Gw h F hs Fs->Tx hs Fs t d Ts->Ts.ar.length<1000000000->(Ts.back T.ar.length).1=T->(∀b,h.size<=b->b<=h8.size->¬Fs b)->Tq h.size h8.size t g m T.ar.length hs->rd hs (h.size+2)=[vI e]->
    (∀gm F',Fr F h gm->Gw h F gm F'->Tx gm F' t d T->rd gm (h.size+2)=[vI e]->k' gm)->D.bC (some (bA h)) (some (bA h8)) (some ⟨h.size+2,0,none⟩) hs k':=by
   intro hs Fs Ts e k' he fs gs xs us eb nq qs rs H;refine bC.CN (os ⟨_,cI qs.r1 rfl,os ⟨_,cI qs.r5 rfl,oG.ok (os ⟨_,cI rs rfl,cn (λ_=>?_) λe0=>absurd e0 he⟩)⟩⟩);refine nh xs us λgm f19 QN=>⟨_,rfl,rfl,?_⟩;rw[eb]at QN;have lq:=qs.lt;have nF:¬Fs (h.size+2):=nq _ (by omega) (by omega);exact H gm Fs (fs.trans f19 λb hb y=>(gs.old b hb).mp y) ⟨gs.old,λb hb=>Nat.lt_of_lt_of_le (gs.lt b hb) f19.size⟩ QN ((f19.rd (by omega) nF).trans rs)
  refine su (x.no f14) ok (by omega) (by omega) (by omega) λiY F6 f6 g6 x6=>⟨_,rfl,?_⟩;have x6:Tx iY F6 t d (cj T g m true).1:=x6;have em:((m:Nat):Int).toNat=m:=rfl;rw[em];have z16:=f6.size
  have nq6:∀b,h.size<=b->b<=h8.size->¬F6 b:=λb h1 h2 y=>by
   have:=x.lt ((g6.old b (by omega)).mp y);omega
  have nF6:∀b,F b->h.size<=b->b<=h8.size->False:=λb y h1 h2=>by have:=x.lt y;omega
  have Lj:Tq h.size h8.size t g m T.ar.length iY:=Uu.step f6 nF6;have g16:Gw h F iY F6:=(Gw.refl f14.size λb hb=>x.lt hb).trans g6 f14.size;have f16:Fr F h iY:=(f14.mono λ_ _ y=>y.elim).trans f6 λ_ _ y=>y;refine aO.intro Lj.o3 (by rw[Lj.l3];exact Nat.one_pos) λfw d17=>?_;obtain⟨BC,r17⟩:=Lj.put d17;have UB:=d17.size;have x17:Tx fw F6 t d (cj T g m true).1:=x6.fr d17.fr λb hb e=>nq6 b (by omega) (by omega) hb;have f17:Fr F h fw:=f16.did d17 λhb=>by omega
  have g17:Gw h F fw F6:=⟨g16.old,λb hb=>by rw[UB];exact g16.lt b hb⟩;have u17:(cj T g m true).1.ar.length<=T.ar.length+1:=Kn T g m true;refine⟨_,cI r17 rfl,cn (λhe=>?_) λhe=>?_⟩
  ·refine⟨_,cI r17 rfl,aO.intro BC.o3 (by rw[BC.l3];exact Nat.one_pos) λma d18=>?_⟩;obtain⟨q18,r18⟩:=BC.put d18;have z18:=d18.size;have et:jP T g m=(T,0,(cj T g m true).2):=(by unfold jP;rw[if_pos he]);have Fp:=Fp m jm jf jl jr;rw[et]at Fp;refine refuse ma F6 (cj T g m true).1 _ _ he (f17.did d18 λhb=>by omega) ⟨g17.old,λb hb=>by rw[z18];exact g17.lt b hb⟩ (x17.fr d18.fr λb hb e=>nq6 b (by omega) (by omega) hb) (by omega) (by rw[DY he];exact WE T) nq6 q18 r18 λgm F' f19 g19 QN Yn=>⟨_,cI Yn rfl,Fp gm F' f19 g19 QN⟩
  ·refine⟨_,cI BC.r1 rfl,_,cI BC.r4 rfl,by decide,az.intro λiK n20=>⟨cI ((n20.at_).trans BC.r1) rfl,cI ((n20.at_).trans BC.r4) rfl,?_⟩⟩;have z20:=n20.size;have B20:aw iK (some (bA fw)) 512 qJ:=yo (by rw[n20.rd];exact AU) List.length_replicate;have ua:(cj T g m true).1.ar.length<1000000000:=(by omega);refine Tm.eF (x17.no n20.fr) B20 (by decide) (λp ep y=>?_) ua λnR F7 f21 g21 x21=>⟨_,rfl,?_⟩
   ·cases ep
    have:=x17.lt y;have y:F6 fw.size:=y;have:=g17.lt _ y;omega
   have z21:=f21.size;have SZ:Tq h.size h8.size t g m T.ar.length iK:=BC.step n20.fr λ_ y=>y.elim;have QO:Tq h.size h8.size t g m T.ar.length nR:=SZ.step f21 λb y h1 h2=>nq6 b h1 h2 y;have f20:Fr F h iK:=f17.new n20;have f21':Fr F h nR:=f20.trans f21 λb hb y=>(g17.old b hb).mp y;have g20:Gw h F iK F6:=⟨g17.old,λb hb=>by have:=g17.lt b hb;omega⟩;have ad9:Gw h F nR F7:=g20.trans g21 f20.size;have nq7:∀b,h.size<=b->b<=h8.size->¬F7 b:=λb h1 h2 y=>nq6 b h1 h2 ((g21.old b (by omega)).mp y);refine aO.intro QO.o3 (by rw[QO.l3];exact Nat.one_pos) λnD d22=>?_;obtain⟨UC,r22⟩:=QO.put d22;have z22:=d22.size;have QP:Tx nD F7 t d ((cj T g m true).1.write m qJ).1:=x21.fr d22.fr λb hb e=>nq7 b (by omega) (by omega) hb;have f22:Fr F h nD:=f21'.did d22 λhb=>by omega
   have g22:Gw h F nD F7:=⟨ad9.old,λb hb=>by rw[z22];exact ad9.lt b hb⟩;have Fp:=Fp m jm jf jl jr;refine⟨_,cI r22 rfl,cn (λhw=>?_) λhw=>?_⟩
   ·refine⟨_,cI r22 rfl,aO.intro UC.o3 (by rw[UC.l3];exact Nat.one_pos) λjR d23=>?_⟩;obtain⟨S7,NZ⟩:=UC.put d23;have z23:=d23.size;have et:jP T g m=(T,0,((cj T g m true).1.write m qJ).2):=(by unfold jP;rw[if_neg (by rw[he];simp),if_pos hw]);rw[et]at Fp;have x23:=QP.fr d23.fr λb hb e=>nq7 b (by omega) (by omega) hb;rw[TM.xa hw]at x23;refine refuse jR F7 (cj T g m true).1 _ _ hw (f22.did d23 λhb=>by omega) ⟨g22.old,λb hb=>by rw[z23];exact g22.lt b hb⟩ x23 ua (Km he) nq7 S7 NZ λmu F' f24 g24 x24 YL=>⟨_,cI YL rfl,Fp mu F' f24 g24 x24⟩
   ·have et:jP T g m=(((cj T g m true).1.write m qJ).1,(m:Int),0):=(by unfold jP;rw[if_neg (by rw[he];simp),if_neg (by rw[hw];simp)]);rw[et]at Fp;refine⟨_,cI UC.r4 rfl,aO.intro UC.o3 (by rw[UC.l3];exact Nat.one_pos) λuH d25=>?_⟩;obtain⟨q25,r25⟩:=UC.put d25;have z25:=d25.size;have x25:=QP.fr d25.fr λb hb e=>nq7 b (by omega) (by omega) hb;refine bC.CN (os ⟨_,cI q25.r1 rfl,os ⟨_,cI q25.r5 rfl,oG.ok (os ⟨_,cI r25 rfl,cf rfl ⟨rfl,0,cI r25 rfl,?_⟩⟩)⟩⟩);exact Fp uH F7 (f22.did d25 λhb=>by omega) ⟨g22.old,λb hb=>by rw[z25];exact g22.lt b hb⟩ x25
 ·obtain⟨j,jn⟩:=j;refine⟨_,rfl,pe j λh8 z8 f8 r3 o3 r1 r2 r4=>⟨_,cI r3 rfl,cn (λ_=>⟨_,cI r3 rfl,?_⟩) λe=>absurd e he⟩⟩;refine aO.intro o3 (by rw[r3];exact Nat.one_pos) λh9 d9=>⟨_,cI (xs:=[vI (T.read k).2]) (by rw[d9.rd,r3];rfl) rfl,aao k FM UA jn he h9 (f8.did d9 λhb=>by omega)⟩
def ai(n:Nat):G:=⟨n,98,98+(n+4095)/4096,98+(n+4095)/4096+n/64,8*(n/64)⟩
theorem Ik{n:Nat}(h:n<=16384):(ai n).ok:=by
 refine⟨?_,?_,?_,?_⟩
 ·show n<=_;omega
 ·show 98<=_;omega
 ·show 98+(n+4095)/4096<=_;omega
 ·show 98+(n+4095)/4096+n/64<=_;omega
theorem G.one(g:G):∀v∈g.v,v.oneCell'=true:=by
 intro v hv;simp only[G.v,List.mem_cons,List.not_mem_nil,or_false]at hv
 rcases hv with rfl|rfl|rfl|rfl|rfl <;> rfl
theorem S8{n:Nat}(hn:n<=1099511627776)(hK:∀ h',Fr No h h'->K (.agg ⟨(ai n).v⟩) h'):C.jt n h K:=by
 refine jt.ok ?_;unfold jt
 have e1:Int.tdiv ((n:Int)+4096-1) 4096=(((n+4095)/4096:Nat):Int):=by
  rw[show(n:Int)+4096-1=((n+4095:Nat):Int) by omega];rfl
 have e2:Int.tdiv (n:Int) 64=((n/64:Nat):Int):=rfl
 rw[wq ((n:Int)+4096),wq ((n:Int)+4096-1),e1,e2,wq ((((n+4095)/4096:Nat):Int)),
  wq (98+(((n+4095)/4096:Nat):Int)),wq (((n/64:Nat):Int)),wq (98+(((n+4095)/4096:Nat):Int)+((n/64:Nat):Int)),wq (8*((n/64:Nat):Int))]
 rw[show(98:Int)+(((n+4095)/4096:Nat):Int)=((98+(n+4095)/4096:Nat):Int) by omega,show((98+(n+4095)/4096:Nat):Int)+((n/64:Nat):Int)=((98+(n+4095)/4096+n/64:Nat):Int) by omega,show 8*((n/64:Nat):Int)=((8*(n/64):Nat):Int) by omega];exact aM.intro (cs:=(ai n).v) rfl (G.one _) rfl λh3 n3=>⟨(ai n).v,rfl,ah n3.rd,hK h3 n3.fr⟩
structure Ext(T T':TM):Prop where
 aK:T'.aK=T.aK
 over:T'.over=T.over
 ar:∃us,T'.ar=T.ar++us/\df T'.put us=T.put
theorem Ext.refl(T:TM):Ext T T:=⟨rfl,rfl,[],(List.append_nil _).symm,rfl⟩
theorem Ext.write{T T':TM}(e:Ext T T')(i:Int)(bs:cL):Ext T (T'.write i bs).1:=by
 by_cases h:(T'.write i bs).2=0
 ·obtain⟨h1,h2,h3,h4,h5,ew⟩:=TM.wg h;obtain⟨us,e1,e2⟩:=e.ar;rw[ew];refine⟨e.aK,e.over,us++[(i,cR T'.put i)],?_,?_⟩
  ·show T'.ar++[_]=_;rw[e1,List.append_assoc]
  ·show df (ja T'.put i bs) (us++[(i,cR T'.put i)])=T.put;unfold df;rw[List.foldr_append]
   have:List.foldr (λu m=>pO m u) (ja T'.put i bs) [(i,cR T'.put i)]=T'.put:=by
    show pO (ja T'.put i bs) (i,cR T'.put i)=_;unfold pO
    cases ea:cR T'.put i with
    | none=>exact wW ea
    | some b=>exact wX ea
   rw[this];exact e2
 ·rw[TM.xa h];exact e
theorem Ext.back{T T':TM}(e:Ext T T')(h:T.over=false):T'.back T.ar.length=(T,0):=by
 obtain⟨us,e1,e2⟩:=e.ar;have ho:T'.over=false:=e.over.trans h;unfold TM.back;rw[if_neg (by rw[ho];simp),if_neg (by rw[e1,lA0];omega)];have et:((T.ar.length:Nat):Int).toNat=T.ar.length:=rfl;rw[et,e1,List.drop_left,List.take_left,e2];have hd:=e.aK;have hv:=e.over
 cases T;cases T';simp_all
theorem kz{T T':TM}(e:Ext T T')(g:G)(i:Nat)(on:Bool):Ext T (cj T' g i on).1:=by
 unfold cj
 split
 ·exact e
 ·exact e.write _ _
theorem MI{T T':TM}(e:Ext T T')(g:G)(m:Nat):Ext T (jP T' g m).1:=by
 unfold jP
 split
 ·exact e
 ·split
  ·exact e
  ·exact(kz e g m true).write _ _
end Spc
namespace Av
open Hp W Ad Tm Bt Spc
structure uO(n:Nat):Prop where
 lo:128<=n
 hi:n<=16384
theorem uO.data{n:Nat}(d:uO n):(ai n).data=98+(n+4095)/4096+n/64/\(ai n).data<n/\(ai n).data<4096/\101<=(ai n).data:=by
 have:=d.lo;have:=d.hi;have e:(ai n).data=98+(n+4095)/4096+n/64:=rfl;omega
theorem GS(n i:Nat):(ai n).at_ i=((98+i/4096:Nat):Int):=rfl
def aL : cL:=List.replicate 512 0
theorem AV(i:Nat):mS [] i=false:=by
 unfold mS;rw[List.getD_nil];exact Nat.zero_testBit _
def aP(T:TM)(g:G):TM×Int×Int:=
 match (List.range g.blocks).find? (λm=>decide (gI T g m))with
 | some m=>jP T g m
 | none=>(T,0,90)
theorem S9{p:Nat->Bool}{n:Nat}(h:m<n)(hp:p m=true)(hl:∀ k,k<m->p k=false):(List.range n).find? p=some m:=by
 rw[List.find?_eq_some_iff_getElem];refine⟨hp,m,by rw[List.length_range];exact h,List.getElem_range _,λj hj=>?_⟩;rw[List.getElem_range,hl j hj];rfl
theorem PT{p:Nat->Bool}{n:Nat}(h:∀ k,k<n->p k=false):(List.range n).find? p=none:=by
 rw[List.find?_eq_none];intro x hx;rw[h x (List.mem_range.mp hx)];simp
theorem xi{T:TM}{g:G}(h:gI T g m)(hl:∀ k,k<m->¬ gI T g k):aP T g=jP T g m:=by
 unfold aP;rw[S9 h.2.2 (decide_eq_true h) λk hk=>decide_eq_false (hl k hk)]
theorem DZ{T:TM}{g:G}(h:∀ k,¬ gI T g k):aP T g=(T,0,90):=by
 unfold aP;rw[PT λk _=>decide_eq_false (h k)]
theorem AW{T:TM}(h:(T.read i).2≠0):(T.read i).1=[]:=by
 unfold TM.read at h ⊢
 split
 ·rfl
 ·rename_i h1;rw[if_neg h1]at h
  split
  ·rfl
  ·rename_i h2;rw[if_neg h2]at h;unfold TM.get at h ⊢
   split
   ·rename_i e;rw[e]at h;exact absurd rfl h
   ·rename_i e;rw[e]at h;simp only at h
    split
    ·rfl
    ·rename_i h3;rw[if_neg h3]at h;exact absurd rfl h
theorem Ta{T:TM}{n:Nat}(x:Tx h F t d T)(dm:uO n)(hu:T.ar.length<900000000)
  (hK:∀h' F',Fr F h h'->Gw h F h' F'->Tx h' F' t d (aP T (ai n)).1->K (.tuple #[vI (aP T (ai n)).2.1,vI (aP T (ai n)).2.2]) h'):C.mE t (ai n).v h K:=by
 have hd:=dm.data;have UP:=dm.lo;have hhi:=dm.hi;have aea:(ai n).dT=98+(n+4095)/4096:=rfl;have hbm:(ai n).bY=98:=rfl;have sf:(ai n).blocks=n:=rfl
 have same:∀e h',Fr No h h'->aP T (ai n)=(T,0,e)->K (.tuple #[vI 0,vI e]) h':=λe h' f e0=>by
  rw[e0]at hK;exact hK h' F (f.mono λ_ _ y=>y.elim) (Gw.refl f.size λb hb=>x.lt hb) (x.no f)
 refine xh x (Ik hhi) (by omega) (by omega) hu (λk h1 h2 QG he h' f=>same _ h' f ?_) (λQG h' f=>same _ h' f (DZ λk hk=>?_)) (λm hm Jz hlow hr h' F' f g x'=>?_)
 ·rw[hbm]at h1 QG
  -- the first data block of this bY block reads as free
  have ex:∃m,gI T (ai n) m/\m/4096=k-98:=by
   refine⟨max (4096*(k-98)) (ai n).data,⟨?_,Nat.le_max_right _ _,by omega⟩,by omega⟩;have:(ai n).at_ (max (4096*(k-98)) (ai n).data)=(k:Int):=(by rw[GS];omega);rw[this,AW he];exact AV _
  obtain⟨m0,hm0,FM⟩:=ex
  obtain⟨m,hm,hl⟩:∃m,gI T (ai n) m/\∀k,k<m->¬gI T (ai n) k:=by
   clear FM
   induction m0 using Nat.strongRecOn with
   | ind m0 ih=>
    by_cases h:∃k,k<m0/\gI T (ai n) k
    ·obtain⟨k,h1,h2⟩:=h;exact ih k h1 h2
    ·exact⟨m0,hm0,λk h1 h2=>h ⟨k,h1,h2⟩⟩
  have hle:m<=m0:=by
   rcases Nat.lt_or_ge m0 m with h|h
   ·exact absurd hm0 (hl _ h)
   ·exact h
  have Up:4096*(k-98)<=m:=by
   rcases Nat.lt_or_ge m (4096*(k-98))with h|h
   ·exact absurd hm (QG m h)
   ·exact h
  have ea:(ai n).at_ m=(k:Int):=by rw[GS];omega
  rw[xi hm hl];unfold jP Spc.cj;rw[ea,if_pos he,if_pos he]
 ·have h3:=hk.2.2;exact QG k (by omega) hk
 ·rw[xi Jz hlow]at hK;exact hK h' F' f g x'
end Av
namespace Ry
open Hp W Ad Tm Bt Spc Re Av Rx
theorem _root_.Go.Proofs.YtjdcbblgaoogmaaGreatDoor.Rx.jc.Ft{T:TM}(x:jc h F r e T){i:Int}(e0:(T.read i).2=0):(T.read i).1.length=512:=by
 exact x.gX e0
theorem Tb : ∀n:Fin 256,∀s:Fin 8,(Int.tmod ((n.val/2 ^ s.val:Nat):Int) 2==1)=n.val.testBit s.val:=by decide +kernel
theorem WG : ∀n:Fin 256,∀s:Fin 8,bw .xor .u8 (n.val:Int) ((2 ^ s.val:Nat):Int)=(yE n.val s.val (!n.val.testBit s.val):Nat):=by decide +kernel
theorem Tc : ∀s:Fin 7,IntKind.wrap .u8 (((2 ^ s.val:Nat):Int)*2)=((2 ^ (s.val+1):Nat):Int):=by decide +kernel
theorem zH{n i:Nat}(d:uO n)(hi:i<n):wI (((ai n).bY:Int)+(wI (Int.tdiv (i:Int) 4096)))=(ai n).at_ i:=by
 have:=d.hi;have e:Int.tdiv (i:Int) 4096=((i/4096:Nat):Int):=rfl;have e2:(ai n).bY=98:=rfl;rw[e,e2,wq (((i/4096:Nat):Int)),wrap_i64 (by omega) (by omega),GS];omega
theorem AX(i:Nat):wI (Int.tdiv (Int.tmod (i:Int) 4096) 8)=((i%4096/8:Nat):Int):=by
 have e:Int.tdiv (Int.tmod (i:Int) 4096) 8=((i%4096/8:Nat):Int):=rfl;rw[e,wrap_i64 (by omega) (by omega)]
theorem wx{T:TM}{n i:Nat}(x:jc h F r e T)(d:uO n)(hi:i<n)
  (hK:∀h',Fr No h h'->K (.tuple #[.bool (mS (T.read ((ai n).at_ i)).1 (i%4096)),vI (T.read ((ai n).at_ i)).2]) h'):C.jv r (ai n).v i h K:=by
 refine jv.ok (az.intro λh2 n2=>⟨_,bJ n2.rd rfl,?_⟩);rw[zH d hi,AX];refine Rx.cD (x.no n2.fr) λa l c h3 f3 hl s=>⟨_,_,_,_,rfl,cn (λhe=>?_) λhe=>?_⟩
 ·have:=hK h3 (n2.fr.no f3);rw[AW he,AV]at this;exact this
 ·have hlen:=x.Ft he;generalize(T.read ((ai n).at_ i)).1=bs at hl s hlen hK;obtain⟨p,rfl,cp⟩:=rG s.str (j:=i%4096/8) (by omega);refine⟨by omega,os ⟨((bs.getD (i%4096/8) 0).toNat:Int),by rw[tN0];exact cp,?_⟩⟩;have hb:(bs.getD (i%4096/8) 0).toNat<256:=UInt8.toNat_lt _;have em:Int.tmod (i:Int) 8=((i%8:Nat):Int):=rfl;rw[wq (((bs.getD (i%4096/8) 0).toNat:Int)),em];have eb:mS bs (i%4096)=(bs.getD (i%4096/8) 0).toNat.testBit (i%8):=by unfold mS;rw[Nat.mod_mod_of_dvd i (by decide:8∣4096)]
  rw[eb,he]at hK;generalize(bs.getD (i%4096/8) 0).toNat=b at hb hK;refine⟨λv k hh=>∃j:Nat,k=j/\j<=i%8/\v=((b/2 ^ j:Nat):Int)/\hh=h3,λ_ k _=>(((i%8:Nat):Int)-k).toNat,⟨0,rfl,nZ0,by rw[Nat.pow_zero,Nat.div_one],rfl⟩,?_⟩;rintro v k hh ⟨j,rfl,hj,rfl,rfl⟩;refine cd (λbK=>?_) λbK=>?_
  ·have hle:b/2 ^ j/2<=255:=Nat.le_trans (Nat.div_le_self _ _) (Nat.le_trans (Nat.div_le_self _ _) (by omega))
   have e1:wI (Int.tdiv ((b/2 ^ j:Nat):Int) 2)=((b/2 ^ j/2:Nat):Int):=by
    rw[show Int.tdiv ((b/2 ^ j:Nat):Int) 2=((b/2 ^ j/2:Nat):Int) from rfl];generalize b/2 ^ j/2=y at hle ⊢;exact wq _
   rw[e1,wq ((j:Int)+1)];exact⟨⟨j+1,by omega,by omega,by rw[Nat.pow_succ,Nat.div_div_eq_div_mul],rfl⟩,by show(((i%8:Nat):Int)-((j:Int)+1)).toNat<(((i%8:Nat):Int)-(j:Int)).toNat;omega⟩
  ·have ej:j=i%8:=(by omega);subst ej;have:=Tb ⟨b,hb⟩ ⟨i%8,Nat.mod_lt _ (by decide)⟩;simp only at this;rw[this];exact hK hh (n2.fr.no f3)
theorem su{T:TM}{n i:Nat}{on:Bool}(x:jc h F r e T)(d:uO n)(hN:98<=T.N)(hi:i<n)(hu:T.ar.length<1000000000)(hb:(T.read ((ai n).at_ i)).2=0->mS (T.read ((ai n).at_ i)).1 (i % 4096) = !on)
  (hK:∀h' F',Fr F h h'->Gw h F h' F'->jc h' F' r e (cj T (ai n) i on).1->K (vI (cj T (ai n) i on).2) h'):C.jx r (ai n).v i h K:=by
 have kY:=λb (hb:F b)=>x.lt hb;refine jx.ok (az.intro λh2 n2=>⟨_,bJ n2.rd rfl,?_⟩);rw[zH d hi,AX];refine Rx.cD (x.no n2.fr) λa l c h3 f3 hl s=>⟨_,_,_,_,rfl,cn (λhe=>?_) λhe=>?_⟩
 ·have e0:cj T (ai n) i on=(T,(T.read ((ai n).at_ i)).2):=by unfold Spc.cj;rw[if_pos he]
  rw[e0]at hK;have f:=n2.fr.no f3;exact hK h3 F (f.mono λ_ _ y=>y.elim) (Gw.refl f.size kY) (x.no f)
 ·have hlen:=x.Ft he;have hb:=hb he;have e0:cj T (ai n) i on=T.write ((ai n).at_ i) (yF (T.read ((ai n).at_ i)).1 (i%4096) on):=by unfold Spc.cj;rw[if_neg (λy=>y he)]
  rw[e0]at hK;generalize(T.read ((ai n).at_ i)).1=bs at hl s hlen hK hb;have em:Int.tmod (i:Int) 8=((i%8:Nat):Int):=rfl;rw[em];have z2:=n2.size;have z3:=f3.size;refine⟨λv k hh=>∃j:Nat,k=j/\j<=i%8/\v=((2 ^ j:Nat):Int)/\hh=h3,λ_ k _=>(((i%8:Nat):Int)-k).toNat,⟨0,rfl,nZ0,rfl,rfl⟩,?_⟩;rintro v k hh ⟨j,rfl,hj,rfl,rfl⟩;refine cd (λbK=>?_) λbK=>?_
  ·have:=Tc ⟨j,by omega⟩;simp only at this;rw[this,wrap_i64 (by omega) (by omega)];exact⟨⟨j+1,by omega,by omega,rfl,rfl⟩,by show(((i%8:Nat):Int)-((j:Int)+1)).toNat<(((i%8:Nat):Int)-(j:Int)).toNat;omega⟩
  ·have ej:j=i%8:=(by omega);subst ej;obtain⟨p,rfl,cp⟩:=rG s.str (j:=i%4096/8) (by omega);obtain⟨pb,po,sp⟩:=p;have DX:sp=none:=s.2.1;subst DX;have GR:h2.size<=pb:=s.2.2.1;obtain⟨w6,l6⟩:=s.wr;have UX:(bs.getD (i%4096/8) 0).toNat<256:=UInt8.toNat_lt _;have eb:(bs.getD (i%4096/8) 0).toNat.testBit (i%8) = !on:=(by rw[<-hb];unfold mS;rw[Nat.mod_mod_of_dvd i (by decide:8∣4096)]);refine⟨by omega,os ⟨((bs.getD (i%4096/8) 0).toNat:Int),by rw[tN0];exact cp,by omega,os (aO.add w6 (by rw[tN0];omega) λh5 d5=>?_)⟩⟩;rw[tN0]at d5;have ex:=WG ⟨_,UX⟩ ⟨i%8,Nat.mod_lt _ (by decide)⟩;simp only at ex;rw[ex,eb,Bool.not_not]at d5;have z5:=d5.size
   have e5:(Value.int .u8 ((yE (bs.getD (i%4096/8) 0).toNat (i%8) on:Nat):Int))=bv (UInt8.ofNat (yE (bs.getD (i%4096/8) 0).toNat (i%8) on)):=by
    unfold bv;rw[UInt8.toNat_ofNat_of_lt' (Kl UX (Nat.mod_lt _ (by decide)) on)]
   rw[e5]at d5;have s5:=s.putAt (new:=[bv (UInt8.ofNat (yE (bs.getD (i%4096/8) 0).toNat (i%8) on))]) (j:=i%4096/8) (by show _+1<=_;omega) d5
   have e7:put (bs.map bv) (i%4096/8) [bv (UInt8.ofNat (yE (bs.getD (i%4096/8) 0).toNat (i%8) on))]=(yF bs (i%4096) on).map bv:=by
    show(bs.map bv).set _ _=_;unfold yF;rw[List.map_set,Nat.mod_mod_of_dvd i (by decide:8∣4096)]
   rw[e7]at s5;refine⟨_,bJ ((d5.at_).trans ((f3.r0).trans n2.rd)) rfl,?_⟩;rw[zH d hi];have f5:Fr No h h5:=(n2.fr.no f3).did d5 λy=>by omega
   refine Rx.eF (x.no f5) hN s5.str hu λh6 F6 f6 g6 x6=>⟨_,rfl,hK h6 F6 ((f5.mono λ_ _ y=>y.elim).trans f6 λ_ _ y=>y) ((Gw.refl f5.size kY).trans g6 f5.size) x6⟩
theorem kz{T0 T:TM}{g:G}{i:Nat}{on:Bool}(x:Ext T0 T):Ext T0 (cj T g i on).1:=by
 unfold Spc.cj
 split
 ·exact x
 ·exact x.write _ _
theorem xj{T:TM}{g:G}{i:Nat}{on:Bool}:(cj T g i on).1.ar.length<=T.ar.length+1:=by
 unfold Spc.cj
 split
 ·exact Nat.le_add_right _ _
 ·unfold TM.write
  split
  ·exact Nat.le_add_right _ _
  ·split
   ·exact Nat.le_add_right _ _
   ·split
    ·exact Nat.le_add_right _ _
    ·split
     ·exact Nat.le_add_right _ _
     ·show(T.ar++[_]).length<=_;rw[lA0];exact nL0
theorem WH{T:TM}(h:(T.read i).2=0):T.over=false:=by
 unfold TM.read at h
 split at h
 ·cases h
 ·rename_i y;cases e:T.over <;> simp_all
theorem Oi{T:TM}(h:T.over=false):T.mark.1=(T.ar.length:Int):=by unfold TM.mark;rw[h];rfl
theorem xh{T:TM}{n:Nat}(x:jc h F r e T)(d:uO n)(hN:98<=T.N)(hu:T.ar.length<900000000)
  (hK:∀h' F',Fr F h h'->Gw h F h' F'->jc h' F' r e (aP T (ai n)).1->K (.tuple #[vI (aP T (ai n)).2.1,vI (aP T (ai n)).2.2]) h'):C.bE r (ai n).v h K:=by
 have kY:=λb (hb:F b)=>x.lt hb;have hd:=d.data;have hhi:=d.hi
 have same:∀er h',Fr No h h'->aP T (ai n)=(T,0,er)->K (.tuple #[vI 0,vI er]) h':=λer h' f e0=>by
  rw[e0]at hK;exact hK h' F (f.mono λ_ _ y=>y.elim) (Gw.refl f.size kY) (x.no f)
 -- a block of the map that can't be read
 have bad:∀m,(ai n).data<=m->m<n->(∀k,k<m->¬gI T (ai n) k)->(T.read ((ai n).at_ m)).2≠0->aP T (ai n)=(T,0,(T.read ((ai n).at_ m)).2):=λm h1 h2 hl he=>by
  rw[xi ⟨by rw[AW he];exact AV _,h1,h2⟩ hl];unfold jP Spc.cj;rw[if_pos he,if_pos he]
 refine bE.ok (az.intro λh2 n2=>⟨_,bJ n2.rd rfl,?_⟩);have z2:=n2.size;have a0:(ai n).at_ (ai n).data=((ai n).bY:Int):=by rw[GS];show((98+(ai n).data/4096:Nat):Int)=((98:Nat):Int);omega
 have YM:∀k,k<(ai n).data->¬gI T (ai n) k:=λk hk y=>by have:=y.2.1;omega
 refine Rx.cD (x.no n2.fr) λa l c h3 f3 hl s=>⟨_,_,_,_,rfl,cn (λhe=>?_) λhe=>?_⟩
 ·have:=bad (ai n).data nL0 hd.2.1 YM (by rw[a0];exact he);rw[a0]at this;exact same _ h3 (n2.fr.no f3) this
 have live:=WH he;have F3:=n2.fr.no f3;refine⟨_,bJ ((f3.r0).trans n2.rd) rfl,?_⟩
 refine⟨λba bl bc i hh=>∃m:Nat,i=m/\(ai n).data<=m/\m<=n/\Fr No h hh/\h.size<hh.size/\rd hh h.size=(ai n).v/\(∀k,k<m->¬gI T (ai n) k)/\(m%4096≠0->m≠(ai n).data->(T.read ((ai n).at_ m)).2=0/\bl=512/\Sl hh 1 ba bl bc ((T.read ((ai n).at_ m)).1.map bv) (dG h.size)),λ_ _ _ i _=>((n:Int)-i).toNat,
  ⟨(ai n).data,rfl,nL0,by omega,F3,by have:=f3.size;omega,(f3.r0).trans n2.rd,YM,λ_ y=>absurd rfl y⟩,?_⟩
 rintro ba bl bc i h4 ⟨m,rfl,hm1,hm2,F4,z4,r4,low,hb⟩;refine⟨_,bJ r4 rfl,cd (λbK=>?_) λbK=>same 90 h4 F4 (DZ λk y=>?_)⟩
 rotate_left
 ·have:=y.2.2;have sf:(ai n).blocks=n:=rfl;rw[sf]at this;have bK:¬(m:Int)<((ai n).blocks:Int):=bK;rw[sf]at bK;exact low k (by omega) y
 have bK:m<n:=by have bK:(m:Int)<((ai n).blocks:Int):=bK;have sf:(ai n).blocks=n:=rfl;rw[sf]at bK;omega
 -- the af7 bytes are at hand
 have go:∀{b2:OA} {l2 c2:Nat} {h6:ad},Fr No h4 h6->(T.read ((ai n).at_ m)).2=0->l2=512->Sl h6 1 b2 l2 c2 ((T.read ((ai n).at_ m)).1.map bv) (dG h.size)->bE.k1 r h ba bl bc (m:Int) h4 (λba bl bc i hh=>∃m:Nat,i=m/\(ai n).data<=m/\m<=n/\Fr No h hh/\h.size<hh.size/\rd hh h.size=(ai n).v/\(∀k,k<m->¬gI T (ai n) k)/\(m%4096≠0->m≠(ai n).data->(T.read ((ai n).at_ m)).2=0/\bl=512/\Sl hh 1 ba bl bc ((T.read ((ai n).at_ m)).1.map bv) (dG h.size))) (λ_ _ _ i _=>((n:Int)-i).toNat) b2 l2 c2 h6 K:=fun {b2} {l2} {c2} {h6} f6 he6 el s6=>by
  subst el;have hlen:=x.Ft he6;have F6:=F4.no f6;have r6:rd h6 h.size=(ai n).v:=(f6.rd z4 λy=>y).trans r4;have z6:h.size<h6.size:=by have:=f6.size;omega
  have next:∀h7,Fr No h6 h7->mS (T.read ((ai n).at_ m)).1 (m%4096)=true->(∃YN:Nat,wI ((m:Int)+1)=YN/\(ai n).data<=YN/\YN<=n/\Fr No h h7/\h.size<h7.size/\rd h7 h.size=(ai n).v/\(∀k,k<YN->¬gI T (ai n) k)/\(YN%4096≠0->YN≠(ai n).data->(T.read ((ai n).at_ YN)).2=0/\(512:Nat)=512/\Sl h7 1 b2 512 c2 ((T.read ((ai n).at_ YN)).1.map bv) (dG h.size)))/\((n:Int)-wI ((m:Int)+1)).toNat<((n:Int)-(m:Int)).toNat:=λh7 f7 Jr=>by
   rw[wrap_i64 (by omega) (by omega)];refine⟨⟨m+1,by omega,by omega,by omega,F6.no f7,by have:=f7.size;omega,(f7.rd z6 λy=>y).trans r6,λk hk y=>?_,λh1 _=>?_⟩,by omega⟩
   ·by_cases ek:k=m
    ·rw[ek]at y;have:=y.1;rw[Jr]at this;cases this
    ·exact low k (by omega) y
   ·have:(ai n).at_ (m+1)=(ai n).at_ m:=(by rw[GS,GS];omega);rw[this];exact⟨he6,rfl,s6.fr f7 λ_ _ _ y=>y⟩
  unfold bE.k1;rw[AX];generalize hbs:(T.read ((ai n).at_ m)).1=bs at s6 hlen next;obtain⟨p,rfl,cp⟩:=rG s6.str (j:=m%4096/8) (by omega);refine⟨by omega,os ⟨((bs.getD (m%4096/8) 0).toNat:Int),by rw[tN0];exact cp,ce (λh255=>?_) λ_=>?_⟩⟩
  ·refine next h6 (Fr.refl _ _) ?_;unfold mS;have:(bs.getD (m%4096/8) 0).toNat=255:=(by omega);rw[this];have:∀s:Fin 8,Nat.testBit 255 s.val=true:=(by decide);exact this ⟨m%4096%8,Nat.mod_lt _ (by decide)⟩
  ·refine⟨(ai n).v,rfl,ah r6,wx (x.no F6) d bK λh7 f7=>⟨_,_,rfl,cn (λy=>absurd he6 y) λ_=>cs (λJr=>next h7 f7 (by rw[<-hbs];exact Jr)) λIi=>?_⟩⟩
   -- free: it is taken
   have tk:=xi (T:=T) (g:=ai n) (m:=m) ⟨Ii,hm1,bK⟩ low;have F7:=F6.no f7;have r7:rd h7 h.size=(ai n).v:=(f7.rd z6 λy=>y).trans r6;have x7:=x.no F7;have hmk:=Oi live
   have fin:∀(T2:TM×Int) h' F',Fr F h7 h'->Gw h7 F h' F'->Ext T T2.1->jc h' F' r e T2.1->(T2.2≠0->aP T (ai n)=(T,0,T2.2))->(T2.2=0->aP T (ai n)=(T2.1,(m:Int),0))->bE.k2 r (m:Int) T.mark.1 T2.2 h' K:=λT2 h' F' f g ex xx h1 h2=>by
    unfold bE.k2;have Fh:Fr F h h':=(F7.mono λ_ _ y=>y.elim).trans f λ_ _ y=>y;have Gh:Gw h F h' F':=(Gw.refl F7.size kY).trans g F7.size;refine cn (λdp=>?_) λWI=>?_
    ·rw[hmk];refine Rx.nh xx λSe vu f'' g'' x''=>⟨_,rfl,?_⟩;rw[ex.back live]at x'';have:=h1 dp;rw[this]at hK;exact hK Se vu (Fh.trans f'' λb hb y=>(Gh.old b hb).mp y) (Gh.trans g'' Fh.size) x''
    ·rw[h2 WI]at hK;exact hK h' F' Fh Gh xx
   refine Rx.ng x7 ⟨_,_,rfl,(ai n).v,rfl,ah r7,su (on:=true) x7 d hN bK (by omega) (λ_=>Ii) λh9 F9 f9 g9 x9=>⟨_,rfl,ce (λh0=>⟨by decide,az.intro λcB n10=>?_⟩) λh0=>?_⟩⟩
   ·have z9:=f9.size;have WJ:=n10.size;have un:=xj (T:=T) (g:=ai n) (i:=m) (on:=true);have ex:=kz (g:=ai n) (i:=m) (on:=true) (Ext.refl T);have hN9:98<=(cj T (ai n) m true).1.N:=(by unfold TM.N;rw[ex.aK];exact hN);refine Rx.eF (bs:=qJ) (x9.no n10.fr) hN9 (yo (n10.rd.trans Spc.AU) List.length_replicate) (by omega) λbQ J4 f11 g11 x11=>⟨_,rfl,?_⟩;have G10:Gw h7 F cB F9:=⟨g9.old,λb hb=>by have:=g9.lt b hb;omega⟩;have Td:Gw h7 F bQ J4:=G10.trans g11 (by omega);have f711:Fr F h7 bQ:=(f9.no n10.fr).trans f11 λb hb y=>(g9.old b hb).mp y;refine fin _ bQ J4 f711 Td (ex.write _ _) x11 (λh1=>?_) λh1=>?_
    ·rw[tk];unfold jP;rw[if_neg (λy=>y h0),if_pos h1]
    ·rw[tk];unfold jP;rw[if_neg (λy=>y h0),if_neg (λy=>y h1)]
   ·refine fin _ h9 F9 f9 g9 (kz (Ext.refl T)) x9 (λh1=>?_) λh1=>absurd h1 h0;rw[tk];unfold jP;rw[if_pos h1]
 by_cases h0:m%4096=0
 ·refine ct (by rw[beq_iff_eq];show Int.tmod (m:Int) 4096=0;have:Int.tmod (m:Int) 4096=((m%4096:Nat):Int):=rfl;omega) ⟨_,bJ r4 rfl,?_⟩;rw[zH d bK];exact Rx.cD (x.no F4) λa l c h5 f5 hl s=>⟨_,_,_,_,rfl,cn (λhe=>same _ h5 (F4.no f5) (bad m hm1 bK low he)) λhe=>go f5 he (by rw[hl];exact x.Ft he) (s.mono λb hb=>Nat.le_trans F4.size hb)⟩
 ·refine cf (by rw[beq_eq_false_iff_ne];show Int.tmod (m:Int) 4096≠0;have:Int.tmod (m:Int) 4096=((m%4096:Nat):Int):=rfl;omega) ⟨_,bJ r4 rfl,ce (λhdm=>⟨_,bJ r4 rfl,?_⟩) λhdm=>?_⟩
  ·rw[zH d bK];exact Rx.cD (x.no F4) λa l c h5 f5 hl s=>⟨_,_,_,_,rfl,cn (λhe=>same _ h5 (F4.no f5) (bad m hm1 bK low he)) λhe=>go f5 he (by rw[hl];exact x.Ft he) (s.mono λb hb=>Nat.le_trans F4.size hb)⟩
  ·obtain⟨he,el,s⟩:=hb h0 λy=>hdm (by rw[y]);exact go (Fr.refl _ _) he el s
theorem tV{T:TM}{n:Nat}(x:jc h F r e T)(d:uO n)(hN:98<=T.N)(hu:T.ar.length<900000000)
  (hK:∀h' F',Fr F h h'->Gw h F h' F'->jc h' F' r e (Spc.mj T (ai n) i).1->K (vI (Spc.mj T (ai n) i).2) h'):C.eR r (ai n).v i h K:=by
 have kY:=λb (hb:F b)=>x.lt hb
 have same:∀er h',Fr No h h'->Spc.mj T (ai n) i=(T,er)->K (vI er) h':=λer h' f e0=>by
  rw[e0]at hK;exact hK h' F (f.mono λ_ _ y=>y.elim) (Gw.refl f.size kY) (x.no f)
 have sf:((ai n).blocks:Int)=n:=rfl;refine eR.ok (az.intro λh2 n2=>⟨_,bJ n2.rd rfl,cd (λh0=>same 91 h2 n2.fr (by unfold Spc.mj;rw[if_pos (.inl h0)])) λh0=>⟨_,bJ n2.rd rfl,cd (λh1=>same 91 h2 n2.fr (by unfold Spc.mj;rw[if_pos (.inr h1)])) λh1=>?_⟩⟩);obtain⟨m,rfl⟩:∃m:Nat,i=m:=⟨i.toNat,by omega⟩;have bK:m<n:=by omega
 have e1:Spc.mj T (ai n) m=if(T.read ((ai n).at_ m)).2≠0 then(T,(T.read ((ai n).at_ m)).2)else if mS (T.read ((ai n).at_ m)).1 (m%4096)=false then(T,91)else cj T (ai n) m false:=by
  unfold Spc.mj;rw[if_neg (by omega),tN0]
 unfold eR.k1;refine⟨_,rfl,ah n2.rd,wx (x.no n2.fr) d bK λh3 f3=>⟨_,_,rfl,cn (λhe=>same _ h3 (n2.fr.no f3) (by rw[e1,if_pos he])) λhe=>?_⟩⟩;rw[if_neg (λy=>y he)]at e1;have z2:=n2.size;refine jV (cs (λhb=>?_) λhb=>same _ h3 (n2.fr.no f3) (by rw[e1,if_pos hb]));rw[if_neg (by rw[hb];simp)]at e1;rw[e1]at hK;have f:=n2.fr.no f3;refine⟨_,rfl,ah ((f3.r0).trans n2.rd),su (on:=false) (x.no f) d hN bK (by omega) (λ_=>hb) λh4 F4 f4 g4 x4=>⟨_,rfl,hK h4 F4 ((f.mono λ_ _ y=>y.elim).trans f4 λ_ _ y=>y) ((Gw.refl f.size kY).trans g4 f.size) x4⟩⟩
end Ry
namespace Cr
open Hp W Su Re Hd
open Wc (Rs nb jj Row nA)
theorem one6{w:BitVec 32}{k:Int->Prop}(hK:k ((T w).toNat:Int)):bif(Int.tmod (w.toNat:Int) 2)==1 then k (bw .xor .u32 (IntKind.wrap .u32 (Int.tdiv (w.toNat:Int) 2)) 3988292384)else k (IntKind.wrap .u32 (Int.tdiv (w.toNat:Int) 2)):=by
 have hw:=w.isLt
 have ed:Int.tdiv (w.toNat:Int) 2=(((w >>> 1).toNat:Nat):Int):=by
  rw[BitVec.toNat_ushiftRight,Nat.shiftRight_eq_div_pow,Int.tdiv_eq_ediv_of_nonneg (by omega)];omega
 have em:Int.tmod (w.toNat:Int) 2=((w.toNat%2:Nat):Int):=by rw[Int.tmod_eq_emod_of_nonneg (by omega)];omega
 have hs:=(w >>> 1).isLt;have wr:IntKind.wrap .u32 (Int.tdiv (w.toNat:Int) 2)=(((w >>> 1).toNat:Nat):Int):=by rw[ed,wrap_u32 ⟨by omega,by omega⟩]
 have bt:w.getLsbD 0=decide (w.toNat%2=1):=by rw[BitVec.getLsbD,Nat.testBit_zero]
 refine ce (λhb=>?_) λhb=>?_
 ·rw[em]at hb;have wH:w.getLsbD 0=true:=by rw[bt];exact decide_eq_true (by omega)
  rw[T,wH,cond_true]at hK;have eP:(3988292384:Int)=(P.toNat:Int):=by decide
  rw[wr,eP,sR];exact hK
 ·rw[em]at hb;have wH:w.getLsbD 0=false:=by rw[bt];exact decide_eq_false (by omega)
  rw[T,wH,cond_false,BitVec.xor_zero]at hK;rw[wr];exact hK
theorem PU(B:aw h a l bs)(hl:l<=140737488355328)(hK:K (.int .u32 (ofM bs)) h):C.ky a l c h K:=by
 have hb:=B.1;refine ky.ok ⟨λv n hh=>0<=n/\n<=l/\h=hh/\v=((fb (bs.take n.toNat) M).toNat:Int),λ_ n _=>((l:Int)-n).toNat,⟨by omega,by omega,rfl,rfl⟩,?_⟩;rintro v n _ ⟨n0,n1,rfl,rfl⟩;refine cd (λhn=>?_) λhn=>?_
 ·have nV:n.toNat<bs.length:=by omega
  obtain⟨p,rfl,c5⟩:∃p,a=some p/\cellOf h (p.add n.toNat)=some (bv bs[n.toNat]):=by
   have c:=B.2
   cases a with
   | none=>have c:bs.map bv=[]:=c;have:=List.map_eq_nil_iff.mp c;rw[this]at nV;exact absurd nV (by simp)
   | some p=>exact⟨p,rfl,c n.toNat _ (by rw[lG0,List.getElem?_eq_getElem nV];rfl)⟩
  refine⟨⟨n0,hn⟩,os ⟨_,c5,?_⟩⟩;have sf:bs[n.toNat].toNat<256:=bs[n.toNat].toNat_lt
  have e1:IntKind.wrap .u32 (bs[n.toNat].toNat:Int)=((BitVec.ofNat 32 bs[n.toNat].toNat).toNat:Int):=by
   rw[wrap_u32 ⟨by omega,by omega⟩,BitVec.toNat_ofNat,Nat.mod_eq_of_lt (by omega)]
  rw[e1,sR];refine⟨λw k hh=>0<=k/\k<=((8:Nat):Int)/\h=hh/\w=((Tn k.toNat (fb (bs.take n.toNat) M ^^^ BitVec.ofNat 32 bs[n.toNat].toNat)).toNat:Int),λ_ k _=>(((8:Nat):Int)-k).toNat,⟨by omega,by omega,rfl,rfl⟩,?_⟩;rintro w k _ ⟨k0,k1,rfl,rfl⟩;refine cd (λhk=>?_) λhk=>?_
  ·rw[wq (k+1)];refine one6 (k:=λx=>(_/\_/\_/\x=_)/\(((8:Nat):Int)-(k+1)).toNat<(((8:Nat):Int)-k).toNat) ?_;rw[Ww,show k.toNat+1=(k+1).toNat by omega];exact⟨⟨by omega,by omega,rfl,rfl⟩,di (m:=8) hk⟩
  ·have e8:k.toNat=8:=(by omega);rw[e8,wrap_i64 (by omega) (by omega)];refine⟨⟨by omega,by omega,rfl,?_⟩,di hn⟩;rw[show(n+1).toNat=n.toNat+1 by omega,List.take_succ_eq_append_getElem nV,GK];have:=GI (fb (bs.take n.toNat) M) bs[n.toNat];rw[AN]at this;rw[this];have e:oq [bs[n.toNat]]=bitsOf bs[n.toNat]:=(by rw[oq,List.flatMap_cons,List.flatMap_nil,List.append_nil]);have e2:∀x,fb [bs[n.toNat]] x=(bitsOf bs[n.toNat]).foldl g x:=λx=>by rw[fb,e]
   rw[e2]
 ·rw[List.take_of_length_le (by omega)];have em:(IntKind.max .u32)=(M.toNat:Int):=by decide
  rw[em,sR,<-Oe];exact hK
theorem Ea(n v:Nat):Re.br (n+1) v=Re.br n v++[UInt8.ofNat (v/256 ^ n)]:=by unfold Re.br;rw[List.range_succ,List.map_append];rfl
theorem aeb(x:Nat):Int.tmod (x:Int) 256=((x%256:Nat):Int):=by rw[Int.tmod_eq_emod_of_nonneg (by omega)];omega
theorem aec(x:Nat):Int.tdiv (x:Int) 256=((x/256:Nat):Int):=by rw[Int.tdiv_eq_ediv_of_nonneg (by omega)];omega
theorem WK(x:Nat):UInt8.ofNat (x%256)=UInt8.ofNat x:=by
 apply UInt8.toNat_inj.mp;rw[UInt8.toNat_ofNat',UInt8.toNat_ofNat'];omega
theorem Te{x:Nat}(h:x<=9223372036854775807):wI (x:Int)=(x:Int):=wrap_i64 (by omega) (by omega)
theorem GU{v:Nat}(hv:v<=9223372036854775807)(hm:m<=1000)
  (hK:∀a c h',Fr No h h'->Sl h' 1 a m c ((Re.br m v).map bv) (dG h.size)->K (vS a m c) h'):C.gE (v:Int) (m:Int) h K:=by
 refine gE.ok ⟨λn a l c i hh=>∃k:Nat,i=k/\k<=m/\n=((v/256 ^ k:Nat):Int)/\k=l/\Fr No h hh/\Sl hh 1 a k c ((Re.br k v).map bv) (dG h.size),λ_ _ _ _ i _=>((m:Int)-i).toNat,
  ⟨0,rfl,nZ0,by rw[Nat.pow_zero,Nat.div_one],rfl,Fr.refl _ _,Sl.nil _ _ _⟩,?_⟩
 rintro _ a _ c _ h2 ⟨k,rfl,hk,rfl,rfl,f,s⟩;have hle:v/256 ^ k<=v:=Nat.div_le_self _ _;refine cd (λbK=>?_) λbK=>?_
 ·have ed:Int.tdiv ((v/256 ^ k:Nat):Int) 256=((v/256 ^ (k+1):Nat):Int):=by rw[aec,Nat.pow_succ,<-Nat.div_div_eq_div_mul]
  have hle2:v/256 ^ (k+1)<=v:=Nat.div_le_self _ _;refine az.intro λh3 n3=>⟨[bv (UInt8.ofNat (v/256 ^ k))],rfl,ah (by rw[n3.rd,aeb,DS,WK]),ij [UInt8.ofNat (v/256 ^ k)],kf (f.new n3) (s.fr n3.fr λ_ _ _ y=>y) rfl rfl (by show(k+1)*1<=_;omega) (by omega) λa' c' h4 f4 s4=>?_⟩;rw[ed,Te (Nat.le_trans hle2 hv),wq ((k:Int)+1)];refine⟨⟨k+1,rfl,by omega,rfl,rfl,f4,?_⟩,di bK⟩;rw[Ea,List.map_append];exact s4
 ·have:k=m:=by omega
  subst this;exact hK a c h2 f s
theorem YO{n:Int}(h0:0<=n)(hv:n<=9223372036854775807)(hm:m<=1000)
  (hK:∀a c h',Fr No h h'->Sl h' 1 a m c ((Re.br m n.toNat).map bv) (dG h.size)->K (vS a m c) h'):C.gE n (m:Int) h K:=by
 obtain⟨v,rfl⟩:=Int.eq_ofNat_of_zero_le h0;exact GU (by omega) hm hK
theorem ji(ns:List Int):(bW ns).length=4*ns.length:=by
 induction ns with
 | nil=>rfl
 | cons a r ih=>
  have e:bW (a::r)=Re.br 4 a.toNat++bW r:=rfl;rw[e,lA0,bB,ih,List.length_cons];omega
theorem Tg{h':ad}(s:Sl h 1 a l c xs (dG n0)):Row n0 h (λb=>n0<=b/\b<h.size) 1 a l c xs:=by
 refine⟨(Rx.yC s).mono λb hb=>hb,λb hb=>hb⟩
def rH(l:Nat):LB:=iU++Re.br 2 l++aL 2
theorem BN(l:Nat):(rH l).length=12:=by simp only[rH,lA0,bB,eM];rfl
theorem Il{rs:Rs}(b:Wd.Bx h a rs)(hl:rs.length<=96)(hx:∀ r ∈ rs,0<=r.1/\r.1<4294967296)(h5:∀ r ∈ rs,r.2.2.length=512)
  (hK:∀a' c' h',Fr No h h'->Sl h' 1 a' 512 c' ((nA (nb rs)).map bv) (dG h.size)->K (vS a' 512 c') h'):C.iw a rs.length c h K:=by
 refine iw.ok (az.intro λh2 n2=>?_);have HA:=n2.size;refine HU.intro (GU (v:=rs.length) (m:=2) (by omega) (by decide) λla lc h4 f4 s4=>⟨_,_,_,rfl,?_⟩);have ND:(qZ h2 (Addr.block (bA h))).size=h.size+1:=by rw[DR,HA]
 have F3:Fr No h (qZ h2 (Addr.block (bA h))):=Fr.qZ n2.fr (Or.inr nL0);have F4:=F3.no f4;have z4:=f4.size
 have r4:rd h4 h.size=iU.map bv:=by
  rw[f4.rd (by omega) λy=>y,SK,n2.rd];rfl
 have m8:ak h4 (some (bA h)) (iU.map bv):=ah r4;refine⟨(Re.br 2 rs.length).map bv,by rw[lM0,bB],s4.cells,ij _,Kc (old:=iU.map bv) rfl m8 (by rw[lM0,bB];rfl) rfl (by decide) (by decide) (by decide) λc5 h5' f5 s5=>?_⟩;have F5:=F4.no f5;refine az.intro λh6 n6=>?_;have F6:=F5.new n6
 have s5':Sl h5' 1 (some (bA h4)) 10 c5 ((iU++Re.br 2 rs.length).map bv) (dG h.size):=by
  have:=s5.mono (G:=dG h.size) λb hb=>by show h.size<=b;omega
  rw[<-List.map_append]at this;exact this
 refine⟨(aL 2).map bv,rfl,ah n6.rd,ij _,kf F6 (s5'.fr n6.fr λ_ _ _ y=>y) rfl rfl (by decide) (by decide) λfa fc h7 F7 s7=>?_⟩;rw[<-List.map_append]at s7;have s7:Sl h7 1 fa 12 fc ((rH rs.length).map bv) (dG h.size):=s7;clear s5 s5' s4 m8 r4 F3 F4 F5 F6 f4 f5 n6 n2;have z7:=F7.size;have RFr:Row h.size h7 (λb=>h.size<=b/\b<h7.size) 1 fa 12 fc ((rH rs.length).map bv):=Tg (h':=h7) s7
 refine⟨λba bl bc da dl dc n hh=>∃i:Nat,n=i/\i<=rs.length/\4*i=bl/\512*i=dl/\Fr No h7 hh/\∃F G,Row h7.size hh F 1 ba (4*i) bc ((bW ((rs.take i).map (·.1))).map bv)/\Row h7.size hh G 1 da (512*i) dc ((((rs.take i).map (·.2.2)).flatten).map bv)/\∀b,F b->¬G b,λ_ _ _ _ _ _ n _=>((rs.length:Int)-n).toNat,
  ⟨0,rfl,nZ0,rfl,rfl,Fr.refl _ _,No,No,Row.nil _ _ _,Row.nil _ _ _,λ_ y=>y.elim⟩,?_⟩
 rintro ba _ bc da _ dc _ h8 ⟨i,rfl,hi,rfl,rfl,f8,F,G,RF,RG,dis⟩;have z8:=f8.size;refine cd (λbK=>?_) λbK=>?_
 ·have vt:i<rs.length:=by omega
  obtain⟨p,ep,cp⟩:=((b.no F7).no f8).get vt;have B0:=(b.ok _ (List.getElem_mem vt));have x0:=hx _ (List.getElem_mem vt);have x5:=h5 _ (List.getElem_mem vt);have el:rs[i].2.1.l=512:=by have:=B0.1;omega
  rw[tN0,wq ((i:Int)+1)];refine⟨⟨by omega,bK⟩,Rz.oe ep ⟨_,rfl,cp,aM.intro rfl (Wc.lI _) rfl λcB n10=>⟨_,ah n10.rd 0 _ rfl,?_⟩⟩⟩;have WJ:=n10.size;refine YO (n:=rs[i].1) (m:=4) x0.1 (by omega) (by decide) λla lc bQ f11 Fc=>⟨_,_,_,rfl,_,by rw[lM0,bB],Fc.cells,ij _,?_⟩;have Pz:=f11.size;have q:=n10.fr.no f11;have R1:=RF.keep q λ_ _ y=>y;refine Wd.tU R1 (n:=4) (by rw[lM0,bB]) rfl rfl rfl (by omega) (by omega) λba' bc' cG Ae f12 g12 R12=>?_;have z12:=f12.size;have G2:=(RG.keep q λ_ _ y=>y).keep f12 λx hx y=>dis x y hx;have aed:Fr No h7 cG:=(f8.no q).trans f12 λx hx y=>by have:=(R1.ge x y).1;omega
  have Ll:cellOf cG (Addr.add (bA h8) 1)=some rs[i].2.1.v:=by
   have e:rd cG h8.size=jj rs[i]:=by
    rw[f12.rd (by omega) (λy=>by have:=(RF.ge _ y).2;omega),f11.rd (by omega) λy=>y];exact n10.rd
   exact ah e 1 _ rfl
  have B12:=((b.no F7).no aed).ok _ (List.getElem_mem vt);obtain⟨q1,q2,q3⟩:=aw.src B12
  have aee:∀x,Ae x->¬G x:=λx hx y=>by
   rcases g12 x hx with w|w
   ·exact dis x w y
   ·have:=(RG.ge x y).2;omega
  refine⟨_,_,_,Ll,_,q1,q2,q3,Wd.tU G2 (by rw[q1,Nat.mul_one]) rfl rfl rfl (by omega) (by omega) λda' dc' cg G13 f13 g13 R13=>?_⟩;have V8:=f13.size;have f13':Fr No h7 cg:=aed.trans f13 λx hx y=>by have:=(RG.ge x y).1;omega
  refine⟨⟨i+1,rfl,by omega,by omega,by omega,f13',Ae,G13,?_,?_,λx hx y=>?_⟩,di bK⟩
  ·have e2:bW ((rs.take (i+1)).map (·.1))=bW ((rs.take i).map (·.1))++Re.br 4 rs[i].1.toNat:=by
    rw[Ad.dQ _ _ vt,List.map_append];simp only[bW,List.flatMap_append,List.map_cons,List.map_nil,List.flatMap_cons,List.flatMap_nil,List.append_nil]
   rw[e2,List.map_append,show 4*(i+1)=4*i+4 by omega];exact R12.keep f13 λx hx y=>aee x hx y
  ·have e2:((rs.take (i+1)).map (·.2.2)).flatten=((rs.take i).map (·.2.2)).flatten++rs[i].2.2:=by
    rw[Ad.dQ _ _ vt,List.map_append,List.flatten_append];simp only[List.map_cons,List.map_nil,List.flatten_cons,List.flatten_nil,List.append_nil]
   rw[e2,List.map_append,show 512*(i+1)=512*i+rs[i].2.1.l by omega];exact R13
  ·rcases g13 x y with w|w
   ·exact aee x hx w
   ·have:=(R12.ge x hx).2;omega
 have ei:i=rs.length:=by omega
 subst ei;rw[List.take_length]at RF RG;obtain⟨ns,ens⟩:∃ns,ns=rs.map (·.1):=⟨_,rfl⟩;obtain⟨ds,eds⟩:∃ds,ds=rs.map (·.2.2):=⟨_,rfl⟩;have nl:ns.length=rs.length:=by rw[ens,lM0]
 have dsl:ds.length=rs.length:=by rw[eds,lM0]
 rw[<-ens]at RF;rw[<-eds]at RG
 have dfl:ds.flatten.length=512*rs.length:=by
  rw[Wd.Ki _ λy hy=>by
   rw[eds]at hy;obtain⟨r,hr,rfl⟩:=List.mem_map.mp hy
   exact h5 r hr,dsl];omega
 refine⟨λb9 l9 c9 hh=>4*rs.length<=l9/\l9<=496/\Fr No h7 hh/\∃F,Row h7.size hh F 1 b9 l9 c9 ((bW ns++aL (l9-4*rs.length)).map bv)/\Row h7.size hh G 1 da (512*rs.length) dc (ds.flatten.map bv)/\∀b,F b->¬G b,λ_ l9 _ _=>496-l9,⟨by omega,by omega,f8,F,?_,RG,dis⟩,?_⟩
 ·rw[Nat.sub_self];rw[show aL 0=[] from rfl,List.append_nil];exact RF
 clear RF RG dis;intro b9 l9 c9 h9 I9;obtain⟨k0,k1,f9,F9,RF,RG,dis⟩:=I9;have z9:=f9.size
 have ew:wI (wI (((12:Nat):Int)+4)+(l9:Int))=16+(l9:Int):=by
  rw[wq (((12:Nat):Int)+4),wrap_i64 (by omega) (by omega)];omega
 rw[ew];generalize hq:decide (16+(l9:Int)<512)=q;refine cs (λhk=>?_) λhk=>?_
 ·have hk:=of_decide_eq_true (hq.trans hk);refine az.intro λcB n10=>⟨[bv 0],rfl,ah n10.rd,ij [0],?_⟩;have WJ:=n10.size;have R1:=RF.keep n10.fr λ_ _ y=>y;have G1:=RG.keep n10.fr λ_ _ y=>y;refine Wd.tU R1 (n:=1) rfl rfl rfl rfl (by omega) (by omega) λb11 c11 bQ J4 f11 g11 R11=>?_;have Pz:=f11.size;refine⟨⟨by omega,by omega,(f9.new n10).trans f11 λx hx y=>by have:=(R1.ge x y).1;omega,J4,?_,G1.keep f11 λx hx y=>dis x y hx,λx hx y=>?_⟩,by show 496-(l9+1)<496-l9;omega⟩
  ·rw[show l9+1-4*rs.length=(l9-4*rs.length)+1 by omega,rM,<-List.append_assoc,List.map_append];exact R11
  ·rcases g11 x hx with w|w
   ·exact dis x w y
   ·have:=(G1.ge x y).2;omega
 have hk:=of_decide_eq_false (hq.trans hk);have e9:l9=496:=by omega
 subst e9;obtain⟨back,eb⟩:∃back,back=bW ns++aL (496-4*rs.length):=⟨_,rfl⟩;rw[<-eb]at RF;have bl:back.length=496:=by rw[eb,lA0,ji,eM,nl];omega
 have RF0:=(RFr.keep f9 λ_ _ y=>y).s;refine⟨_,by rw[lM0,BN],RF0.cells,ij _,append_nil (by rw[lM0,BN];rfl) rfl (by decide) (by decide) λa10 c10 cB f10 Ma=>?_⟩;refine az.intro λbQ n11=>⟨(aL 4).map bv,rfl,ah n11.rd,ij _,kf (f10.new n11) (Ma.fr n11.fr λ_ _ _ y=>y) rfl rfl (by decide) (by decide) λa12 c12 cG f12 QJ=>?_⟩;have RB12:=(RF.keep f12 λ_ _ y=>y).s;refine⟨_,by rw[lM0,bl],RB12.cells,ij _,kf f12 QJ (by rw[lM0,bl];rfl) rfl (by decide) (by decide) λa13 c13 cg f13 s13=>?_⟩;have RD13:=(RG.keep f13 λ_ _ y=>y).s;refine⟨_,by rw[lM0,dfl,Nat.mul_one],RD13.cells,ij _,kf f13 s13 (by rw[lM0,dfl];show _=_*1;omega) rfl (by show(512+512*rs.length)*1<=_;omega) (by omega) λa14 c14 cM f14 s14=>?_⟩
 have aad:rH rs.length++aL 4++back++ds.flatten=jT ns 0++ds.flatten:=by
  rw[eb,<-J1];unfold rH jT;rw[nl];simp only[List.append_assoc]
 rw[<-List.map_append,<-List.map_append,<-List.map_append,aad]at s14
 have esum:ofM (jT ns 0++ds.flatten)=yx (jT ns 0) ds:=by
  have e:=SJ (jT ns 0) ds (λd hd=>by
   rw[eds]at hd;obtain⟨r,hr,rfl⟩:=List.mem_map.mp hd
   rw[h5 r hr];decide)
  rw[JZ]at e;exact e.symm
 have us:=GB (jT ns 0) ds;obtain⟨u0,u1⟩:=us;refine PU s14.str (by omega) ⟨_,rfl,?_⟩;rw[esum,wq (yx (jT ns 0) ds)];refine YO (m:=4) u0 (by omega) (by decide) λa15 c15 fg f15 s15=>⟨_,_,_,rfl,_,by rw[lM0,bB],s15.cells,ij _,?_⟩;have Sg:=f14.size;have kS:=f15.size;have f9':Fr No h fg:=((F7.no f9).no f14).no f15;have RB15:=((RF.keep f14 λ_ _ y=>y).keep f15 λ_ _ y=>y);have aas:=((RFr.keep f9 λ_ _ y=>y).keep f14 λ_ _ y=>y).keep f15 λ_ _ y=>y;refine Wd.tU aas (n:=4) (by rw[lM0,bB]) rfl rfl rfl (by omega) (by have:=F7.size;omega) λa16 c16 iY F16 f16 g16 R16=>?_;have z16:=f16.size;have RB16:=(RB15.keep f16 λx hx y=>by have:=(aas.ge x y).2;have:=(RF.ge x hx).1;omega).s;refine⟨_,by rw[lM0,bl],RB16.cells,ij _,?_⟩;refine Wd.tU R16 (n:=496) (by rw[lM0,bl]) rfl rfl rfl (by omega) (by have:=F7.size;omega) λa17 c17 fw Oj f17 g17 R17=>?_;have F16':Fr No h iY:=f9'.trans f16 λx hx y=>by have:=(aas.ge x y).1;omega
 refine hK a17 c17 fw (F16'.trans f17 λx hx y=>by have:=(R16.ge x y).1;omega) ?_
 have eh:nA (nb rs)=rH rs.length++Re.br 4 (yx (jT ns 0) ds).toNat++back:=by
  unfold nA;rw[Wd.ad2,Wd.SP,<-ens,<-eds,eb]
  have e:∀s,jT ns s=rH ns.length++Re.br 4 s++(bW ns++aL (496-4*ns.length)):=λs=>by
   unfold jT rH;simp only[List.append_assoc]
  refine(e _).trans ?_;rw[nl]
 rw[eh,List.map_append,List.map_append];exact R17.s.mono λx hx=>(R17.ge x hx).1
end Cr
namespace Wd
open Hp W Ad Wc Rf
open L3 (Tt)
theorem tt.grow{F':NP}{es:List kG}{ts:List Tt}(T:tt h (λb=>E b∨F b) es ts)(f:Fr F h h')(g:∀ b,F' b->F b∨h.size<=b):tt h' (λb=>E b∨F' b) es ts:=by
 refine⟨T.len,λi h1 h2=>?_⟩;obtain⟨a,b,c,d⟩:=T.at_ i h1 h2;refine⟨a,b,DT c f λp e hl _ y=>d p e hl (.inr y),λp e hl y=>?_⟩
 rcases y with y|y
 ·exact d p e hl (.inl y)
 ·rcases g _ y with w|w
  ·exact d p e hl (.inr w)
  ·rw[e]at c;have:=Ie c hl;omega
theorem aej(m:Nat):aN z5 m=(Hd.aL m).map bv:=by
 unfold Hd.aL;rw[List.map_replicate,qy];show(List.replicate m [Value.int .u8 0]).flatten=List.replicate m (bv 0)
 induction m with
 | zero=>rfl
 | succ m ih=>rw[List.replicate_succ,List.flatten_cons,ih,List.replicate_succ];rfl
theorem aek(rs:Rs){i:Nat}(h:i<rs.length):(nb rs).take (i+1)=(nb rs).take i++[(rs[i].1,rs[i].2.2)]:=by
 rw[dQ _ _ (by unfold nb;rw[lM0];exact h),Ss rs h]
theorem MJ{D:RD}{es:List kG}{ts:List Tt}(x:pM h E r D)(R:ak h a (es.flatMap kG.cells))(off:∀ p,a=some p->p.block<h.size/\¬ E p.block)(t:tt h E es ts)
  (hl:es.length<100000) (sf:∀i (hi:i<es.length),es[i].l<=140737488355328) (ht:D.tape.length+es.length<1000000000)
  (hK:∀h' E',Fr E h h'->Gw h E h' E'->pM h' E' r (oK (ts.map sF) D).1->K (vI (oK (ts.map sF) D).2) h') :
  ∃(I3:Int->ad->Prop) (M3:Int->ad->Nat),I3 0 h/\
   ∀(n4:Int),∀iK:ad,I3 n4 iK->
   bif(decide (n4<(es.length:Int)))then(
   (0<=n4/\n4<(es.length:Int))/\
   ae a λp3=>
   ∃vo:LV,List.length vo=3/\aj iK (Addr.add p3 ((Int.toNat n4)*3)) vo/\
   aM Pe 122 vo 3 iK λnD=>
   ∃(n5:Int),cellOf nD (Addr.add (bA iK) 0)=some (vI n5)/\
   bif(n5==1)then(
   ∃(n6:Int),cellOf nD (Addr.add (bA iK) 1)=some (vI n6)/\
   ∃(Gj:OA) (Gk:Nat) (IQ:Nat),cellOf nD (Addr.add (bA iK) 2)=some (vS Gj Gk IQ)/\
   C.cW r n6 Gj Gk IQ nD λr2 jR=>
   ∃(n7:Int),r2 = vI n7/\
   bif(n7 != 0)then(
   K (vI n7) jR)else(
   I3 (wI (n4+1)) jR/\M3 (wI (n4+1)) jR<M3 n4 iK))else(
   C.cX r nD λr3 mu=>
   ∃(n8:Int),r3 = vI n8/\
   bif(n8 != 0)then(
   K (vI n8) mu)else(
   I3 (wI (n4+1)) mu/\M3 (wI (n4+1)) mu<M3 n4 iK)))else(
   K (vI 0) iK):=by
 refine⟨λm hh=>∃n:Nat,m=n/\n<=es.length/\∃E' D',pM hh E' r D'/\Fr E h hh/\Gw h E hh E'/\D'.tape.length<=D.tape.length+n/\oK (ts.map sF) D=oK ((ts.drop n).map sF) D',λm _=>((es.length:Int)-m).toNat,
  ⟨0,rfl,nZ0,E,D,x,Fr.refl _ _,Gw.refl nL0 (λb hb=>x.lt hb),nL0,rfl⟩,?_⟩
 rintro _ h2 ⟨n,rfl,hn,E',D',x',f,g,t1,e⟩;refine cd (λbK=>?_) λbK=>?_
 ·have hi:n<es.length:=by omega
  have SL:n<ts.length:=by rw[<-t.len];exact hi
  obtain⟨p,ep,cp⟩:=SM (ak.fr f R λp e=>(off p e).2) hi;have hb:=sf n hi;rw[tN0,wq ((n:Int)+1)];have hd:(ts.drop n).map sF=sF ts[n]::(ts.drop (n+1)).map sF:=by rw[List.drop_eq_getElem_cons SL];rfl
  have er:oK (ts.map sF) D=if((sF ts[n]).on D').2=0 then oK ((ts.drop (n+1)).map sF) ((sF ts[n]).on D').1 else(sF ts[n]).on D':=by rw[e,hd];rfl
  refine⟨⟨by omega,bK⟩,Rz.oe ep ⟨_,rfl,cp,aM.intro rfl (λv hv=>by
   unfold kG.cells at hv;simp only[List.mem_cons,List.not_mem_nil,or_false]at hv
   rcases hv with rfl|rfl|rfl <;> rfl) rfl λh4 n4=>⟨_,ah n4.rd 0 _ rfl,?_⟩⟩⟩
  have z4:=n4.size;have x4:=x'.no n4.fr;have f4:Fr E h h4:=f.new n4;have g4:Gw h E h4 E':=⟨g.old,λb y=>by have:=g.lt b y;omega⟩;obtain⟨k1,k2,k3,k4⟩:=(t.step f4 g4).at_ n hi SL;refine ce (λh1=>⟨_,ah n4.rd 1 _ rfl,_,_,_,ah n4.rd 2 _ rfl,?_⟩) λh1=>?_
  ·have es1:sF ts[n] = .w ts[n].2.1 ts[n].2.2:=(by unfold sF;rw[if_pos (by rw[<-k1];exact h1)]);rw[es1]at er;rw[k2];refine x4.write k3 hb (by omega) λh3 E3 f3 g3 x3=>⟨_,rfl,?_⟩;have F3:Fr E h h3:=f4.trans f3 λb hb y=>(g.old b hb).mp y;have G3:=g4.trans g3 f4.size;refine cn (λdp=>?_) λh0=>⟨⟨n+1,rfl,by omega,E3,_,x3,F3,G3,?_,?_⟩,di bK⟩
   ·have er:oK (ts.map sF) D=D'.write ts[n].2.1 ts[n].2.2:=er.trans (if_neg dp);rw[er]at hK;exact hK h3 E3 F3 G3 x3
   ·have:=(xd D' (.w ts[n].2.1 ts[n].2.2)).1;have this:(D'.write ts[n].2.1 ts[n].2.2).1.tape.length<=D'.tape.length+1:=this;omega
   ·exact er.trans (if_pos h0)
  ·have es1:sF ts[n] = .f:=(by unfold sF;rw[if_neg (by rw[<-k1];exact h1)]);rw[es1]at er;refine x4.flush (by omega) λh3 E3 f3 g3 x3=>⟨_,rfl,?_⟩;have F3:Fr E h h3:=f4.trans f3 λb hb y=>(g.old b hb).mp y;have G3:=g4.trans g3 f4.size;refine cn (λdp=>?_) λh0=>⟨⟨n+1,rfl,by omega,E3,_,x3,F3,G3,?_,?_⟩,di bK⟩
   ·have er:oK (ts.map sF) D=D'.flush:=er.trans (if_neg dp);rw[er]at hK;exact hK h3 E3 F3 G3 x3
   ·have:=(xd D' .f).1;have this:D'.flush.1.tape.length<=D'.tape.length+1:=this;omega
   ·exact er.trans (if_pos h0)
 ·have en:n=ts.length:=by have:=t.len;omega
  rw[en,List.drop_length]at e;have e:oK (ts.map sF) D=(D',0):=e;rw[e]at hK;exact hK h2 E' f g x'
theorem Im{D:RD}{rs:Rs}(x:pM h E r D)(b:Bx h a rs)(off:∀ r ∈ rs,∀ p,r.2.1.a=some p->r.2.1.l≠0->¬ E p.block)
  (hm:rs≠[]->AL (nb rs) D.aB.length=true) (h5:∀r∈rs,r.2.2.length=512) (hx:∀r∈rs,0<=r.1/\r.1<4294967296) (ht:D.tape.length<100000000)
  (hK:∀h' E',Fr E h h'->Gw h E h' E'->pM h' E' r (AM D (nb rs)).1->K (vI (AM D (nb rs)).2) h'):C.iq r a rs.length c h K:=by
 have hE:∀b,E b->b<h.size:=λb y=>x.lt y;have hb:(vb).bytes<=64:=by decide
 refine iq.ok (ce (λh0=>?_) λh0=>?_)
 ·have e:rs=[]:=List.eq_nil_of_length_eq_zero (by omega);have ew:AM D (nb rs)=(D,0):=by rw[e];exact if_pos rfl
  rw[ew]at hK;exact hK h E (Fr.refl _ _) (Gw.refl nL0 hE) x
 have dp:rs≠[]:=λe=>by subst e;exact h0 rfl
 have hm:=hm dp;have hl:=DM hm;have nbl:(nb rs).length=rs.length:=by unfold nb;rw[lM0]
 rw[nbl]at hl;have dl:(rs.map (·.2.2)).length=rs.length:=List.length_map ..
 refine aM.intro rfl (λv hv=>by
  simp only[List.mem_cons,List.not_mem_nil,or_false]at hv
  rcases hv with rfl|rfl|rfl <;> rfl) rfl λh3 n3=>?_
 have z3:=n3.size;have b3:=b.no n3.fr;have fl:∀{hh:ad},Fr No h3 hh->rd hh h.size=[vI 2,vI 0,vS none 0 0]:=fun {hh} f=>(f.r0).trans n3.rd
 -- what the ael blocks are
 have dat:∀{hh:ad} {F:NP} (i:Nat) (hi:i<rs.length),Fr No h3 hh->(∀b,F b->h3.size<=b)->aw hh rs[i].2.1.a rs[i].2.1.l rs[i].2.2/\∀p,rs[i].2.1.a=some p->rs[i].2.1.l≠0->¬(E p.block∨F p.block):=fun {hh F} i hi f g=>by
  have B:=b3.ok _ (List.getElem_mem hi);refine⟨aw.fr f B λ_ _ y=>y,λp e hl y=>?_⟩
  rcases y with y|y
  ·exact off _ (List.getElem_mem hi) p e hl y
  ·rw[e]at B;have:=Ie B hl;have:=g _ y;omega
 refine⟨λa l c m hh=>∃es F,m=(List.length es:Int)/\es.length<=rs.length/\es.length=l/\Fr No h3 hh/\Row h3.size hh F 3 a es.length c (es.flatMap kG.cells)/\tt hh (λb=>E b∨F b) es (Fl (rs.map (·.2.2)) es.length),λ_ _ _ m _=>((rs.length:Int)-m).toNat,
  ⟨[],No,rfl,nZ0,rfl,Fr.refl _ _,Row.nil _ _ _,tt.nil _ _⟩,?_⟩
 rintro aa _ ac _ h4 ⟨es,F,rfl,hi,rfl,f,R,T⟩;have z4:=f.size;refine cd (λbK=>?_) λbK=>?_
 ·have vt:es.length<rs.length:=by omega
  have hd:es.length<(rs.map (·.2.2)).length:=by omega
  obtain⟨p,ep,cp⟩:=(b3.no f).get vt;rw[tN0,wq ((es.length:Int)+1),wq (2+(es.length:Int))];refine⟨⟨by omega,bK⟩,Rz.oe ep ⟨_,rfl,cp,aM.intro rfl (lI _) rfl λh6 n6=>⟨_,_,_,ah n6.rd 1 _ rfl,rfl,?_⟩⟩⟩;have z6:=n6.size;have R6:=R.keep n6.fr λ_ _ y=>y;obtain⟨B,O⟩:=dat (F:=F) es.length vt (f.new n6) λb y=>(R.ge b y).1;refine xe R6 (vs:=(tv (2+(es.length:Int)) rs[es.length].2.1.a rs[es.length].2.1.l rs[es.length].2.1.c).cells) rfl (λv hv=>zC [tv (2+(es.length:Int)) rs[es.length].2.1.a rs[es.length].2.1.l rs[es.length].2.1.c] v (by rw[List.flatMap_cons,List.flatMap_nil,List.append_nil];exact hv)) rfl rfl hb (by omega) (by omega) λa' c' h8 F8 f8 g8 R8=>?_;have el:(es++[tv (2+(es.length:Int)) rs[es.length].2.1.a rs[es.length].2.1.l rs[es.length].2.1.c]).length=es.length+1:=by rw[lA0];rfl
  refine⟨⟨es++[tv (2+(es.length:Int)) rs[es.length].2.1.a rs[es.length].2.1.l rs[es.length].2.1.c],F8,by rw[el];rfl,by omega,el,Ig R6 (f.new n6) rfl f8,by rw[el,GL];exact R8,?_⟩,di bK⟩;rw[el,PN];have eg:(rs.map (·.2.2)).getD es.length []=rs[es.length].2.2:=by rw[List.getD_eq_getElem?_getD,List.getElem?_eq_getElem hd,List.getElem_map];rfl
  rw[eg];exact((T.no n6.fr).app (tt.tv B O)).grow f8 g8
 have ei:es.length=rs.length:=by omega
 refine⟨_,rfl,ah (fl f),_,rfl,ah (fl f),Cr.Il (b3.no f) hl hx h5 λha hc h9 f9 sh=>⟨_,_,_,rfl,⟨rfl,ah (fl (f.no f9))⟩,⟨rfl,ah (fl (f.no f9))⟩,rfl,rfl,rfl,az.intro λcB n10=>⟨[tT,tv 1 ha 512 hc,tT].flatMap kG.cells,rfl,ah n10.rd,zC _,?_⟩⟩⟩;have q:=f9.new n10;have z9:=f9.size;have WJ:=q.size;have R10:=R.keep q λ_ _ y=>y;have hlen:(nA (nb rs)).length=512:=by have:=sh.1;rw[lM0]at this;omega
 have aem:∀{hh:ad} {F:NP} {p:Addr},hh.size<=p.block->(∀b,F b->b<hh.size)->h3.size<=hh.size->¬(E p.block∨F p.block):=fun {hh F p} g l z y=>by
  rcases y with y|y
  ·have:=hE _ y;omega
  ·have:=l _ y;omega
 have Th:tt cB (λb=>E b∨F b) [tT,tv 1 ha 512 hc,tT] [(2,0,[]),(1,1,nA (nb rs)),(2,0,[])]:=
  (tt.tT _ _).app ((tt.tv ⟨hlen,ak.fr n10.fr sh.cells λ_ _ y=>y⟩ λp e _=>by
   subst e
   exact aem (hh:=h4) sh.2.2.1 (λb y=>(R.ge b y).2) z4).app (tt.tT _ _))
 have T10:=(T.no q).app Th;have el2:(es++[tT,tv 1 ha 512 hc,tT]).length=es.length+3:=by rw[lA0];rfl
 refine Kd R10 (n:=3) rfl rfl rfl hb (by omega) (by omega) λa11 c11 bQ J4 f11 g11 R11=>?_;have T11:=T10.grow f11 g11;have F3':Fr No h3 bQ:=Ig R10 (f.no q) rfl f11;obtain⟨XA,aau⟩:∃XA,XA=es++[tT,tv 1 ha 512 hc,tT]:=⟨_,rfl⟩;obtain⟨t2,et2⟩:∃t2,t2=Fl (rs.map (·.2.2)) es.length++[(2,0,[]),(1,1,nA (nb rs)),(2,0,[])]:=⟨_,rfl⟩;rw[<-aau,<-et2]at T11;rw[<-aau]at el2;have R11:Row h3.size bQ J4 3 a11 (es.length+3) c11 (XA.flatMap kG.cells):=by rw[aau,List.flatMap_append];exact R11
 clear R10 T10 Th sh n10 q f9 R T f bK
 refine⟨λa l c m hh=>∃fs F,m=(List.length fs:Int)/\fs.length<=rs.length/\es.length+3+fs.length=l/\Fr No h3 hh/\Row h3.size hh F 3 a (es.length+3+fs.length) c ((XA++fs).flatMap kG.cells)/\tt hh (λb=>E b∨F b) (XA++fs) (t2++wT ((nb rs).take fs.length)),λ_ _ _ m _=>((rs.length:Int)-m).toNat,
  ⟨[],J4,rfl,nZ0,rfl,F3',by rw[List.append_nil];exact R11,by rw[List.append_nil,List.length_nil,List.take_zero];unfold wT;rw[List.map_nil,List.append_nil];exact T11⟩,?_⟩
 rintro aa2 _ ac2 _ cG ⟨fs,F,rfl,SL,rfl,f,R,T⟩;have z12:=f.size;refine cd (λbK=>?_) λbK=>?_
 ·have vt:fs.length<rs.length:=by omega
  obtain⟨p,ep,cp⟩:=(b3.no f).get vt;rw[tN0,wq ((fs.length:Int)+1)];refine⟨⟨by omega,bK⟩,Rz.oe ep ⟨_,rfl,cp,aM.intro rfl (lI _) rfl λcM n14=>⟨_,ah n14.rd 0 _ rfl,_,_,_,ah n14.rd 1 _ rfl,rfl,?_⟩⟩⟩;have Sg:=n14.size;have R14:=R.keep n14.fr λ_ _ y=>y;obtain⟨B,O⟩:=dat (F:=F) fs.length vt (f.new n14) λb y=>(R.ge b y).1;refine xe R14 (vs:=(tv rs[fs.length].1 rs[fs.length].2.1.a rs[fs.length].2.1.l rs[fs.length].2.1.c).cells) rfl (λv hv=>zC [tv rs[fs.length].1 rs[fs.length].2.1.a rs[fs.length].2.1.l rs[fs.length].2.1.c] v (by rw[List.flatMap_cons,List.flatMap_nil,List.append_nil];exact hv)) rfl rfl hb (by omega) (by omega) λa' c' iY F16 f16 g16 R16=>?_;have el:(fs++[tv rs[fs.length].1 rs[fs.length].2.1.a rs[fs.length].2.1.l rs[fs.length].2.1.c]).length=fs.length+1:=by rw[lA0];rfl
  refine⟨⟨fs++[tv rs[fs.length].1 rs[fs.length].2.1.a rs[fs.length].2.1.l rs[fs.length].2.1.c],F16,by rw[el];rfl,by omega,by omega,Ig R14 (f.new n14) rfl f16,by rw[el,<-List.append_assoc,GL];exact R16,?_⟩,di bK⟩;rw[el,aek rs vt,Wz,<-List.append_assoc,<-List.append_assoc];exact((T.no n14.fr).app (tt.tv B O)).grow f16 g16
 have ef:fs.length=rs.length:=by omega
 rw[List.take_of_length_le (by omega)]at T;refine⟨_,rfl,ah (fl f),_,rfl,ah (fl f),⟨by decide,by decide,by decide,by decide⟩,az.intro λfw n17=>⟨⟨rfl,ah (fl (f.new n17))⟩,⟨rfl,ah (fl (f.new n17))⟩,rfl,rfl,rfl,az.intro λma n18=>⟨[tT,tv 1 (some (bA cG)) 512 512,tT].flatMap kG.cells,rfl,ah n18.rd,zC _,?_⟩⟩⟩;have UB:=n17.size;have z18:=n18.size;have q:=n17.fr.new n18;have R18:=R.keep q λ_ _ y=>y;have er17:rd fw cG.size=(Hd.aL 512).map bv:=n17.rd.trans (aej _)
 have Tz:tt ma (λb=>E b∨F b) [tT,tv 1 (some (bA cG)) 512 512,tT] [(2,0,[]),(1,1,Hd.aL 512),(2,0,[])]:=
  (tt.tT _ _).app ((tt.tv (yo (by rw[n18.at_];exact er17) (Hd.eM _)) λp e _=>by
   cases e
   exact aem (hh:=cG) nL0 (λb y=>(R.ge b y).2) z12).app (tt.tT _ _))
 have T18:=(T.no q).app Tz;refine Kd R18 (n:=3) rfl rfl rfl hb (by omega) (by omega) λa19 c19 gm F19 f19 g19 YC=>?_;have T19:=T18.grow f19 g19;have F3':Fr No h3 gm:=Ig R18 (f.no q) rfl f19;have Fh:Fr No h gm:=n3.fr.no F3';have z19:=Fh.size;obtain⟨es3,aav⟩:∃es3,es3=(XA++fs)++[tT,tv 1 (some (bA cG)) 512 512,tT]:=⟨_,rfl⟩;have el3:es3.length=es.length+3+fs.length+3:=by rw[aav,lA0,lA0,el2];rfl
 have ets:(t2++wT (nb rs))++[(2,0,[]),(1,1,Hd.aL 512),(2,0,[])]=xg (nb rs) (nA (nb rs)):=by
  rw[et2,ei];unfold xg Kg;rw[SP,nbl];simp only[List.append_assoc]
 rw[<-aav,ets]at T19;have YC:Row h3.size gm F19 3 a19 (es.length+3+fs.length+3) c19 (es3.flatMap kG.cells):=by rw[aav,List.flatMap_append];exact YC
 have Tf:tt gm E es3 (xg (nb rs) (nA (nb rs))):=T19.aac λb y=>.inl y
 have h5n:∀p∈nb rs,p.2.length<=512:=λp hp=>by
  obtain⟨r,hr,rfl⟩:=List.mem_map.mp hp;have:=h5 r hr;show r.2.2.length<=512;omega
 have ew:=Wo (S:=D) (l:=nb rs) (λe=>dp (by unfold nb at e;exact List.map_eq_nil_iff.mp e)) hm (List.all_eq_true.mpr λd hd=>by
  rw[SP]at hd;obtain⟨r,hr,rfl⟩:=List.mem_map.mp hd
  exact beq_iff_eq.mpr (h5 r hr))
 rw[<-el3]
 refine MJ (x.no Fh) YC.s.cells (λp e=>by
  subst e;refine⟨YC.s.lt,λy=>?_⟩;have:=hE _ y;have:=(YC.ge _ YC.s.2.2.1).1
  omega) Tf (by omega) (Tf.small λt ht=>?_) (by omega) λh5' E5 f5 g5 x5=>?_
 ·unfold xg at ht
  rcases List.mem_append.mp ht with ht|ht
  ·rcases List.mem_append.mp ht with ht|ht
   ·unfold Fl at ht;obtain⟨k,hk,rfl⟩:=List.mem_map.mp ht;show(((nb rs).map (·.2)).getD k []).length<=512;rw[List.getD_eq_getElem?_getD]
    rcases Nat.lt_or_ge k ((nb rs).map (·.2)).length with h|h
    ·rw[List.getElem?_eq_getElem h,List.getElem_map];exact h5n _ (List.getElem_mem _)
    ·rw[List.getElem?_eq_none h];exact nZ0
   ·exact BL (by omega) t ht
  ·exact Kh h5n t ht
 ·rw[Mw,<-ew]at x5 ⊢;exact hK h5' E5 ((Fh.mono λ_ _ y=>y.elim).trans f5 λ_ _ y=>y) ⟨λb hb=>g5.old b (by omega),g5.lt⟩ x5
end Wd
namespace Tm
open Hp W Ad
def TM.ended(S:RD):TM:=⟨S,[],[],true⟩
theorem zI{q x y z:Value}(o:dJ h b)(e:rd h b=[q,x,y,z])(hK:∀ h',rW b h h' [q,.map none,vS none 0 0,.bool true]->K (.tuple #[]) h'):aZ (some ⟨b,0,none⟩) K h:=by
 refine os (aO.add o (by rw[e];show 1<4;omega) λh2 d2=>?_);rw[e]at d2;refine os (aO.add d2.own (by rw[d2.rd];show 2<4;omega) λh3 d3=>?_);rw[d2.rd]at d3;refine os (aO.add d3.own (by rw[d3.rd];show 3<4;omega) λh4 d4=>?_);rw[d3.rd]at d4;exact hK h4 ⟨by rw[d4.size,d3.size,d2.size],(d2.fr.trans d3.fr λ_ _ x=>x).trans d4.fr λ_ _ x=>x,d4.own,d4.rd⟩
theorem IY.shut{h7 h8:ad}{r:TR}{T:TM}{S:RD}{D:NP}(X:IY h ao d r T)(hF:∀ b,F b↔1<=ao b/\ao b<=5)(f:Fr (λb=>ao b=5) h h7)(g:Gw h (λb=>ao b=5) h7 D)(A:cw h7 D d S)
  (d8:rW r.tb h7 h8 [vP d,.map none,vS none 0 0,.bool true]):∃F',Fr F h h8/\Gw h F h8 F'/\Tx h8 F' (some ⟨r.tb,0,none⟩) d (TM.ended S):=by
 have tl:=X.own.lt;have s1:=X.sc;have z7:=f.size;have z8:=d8.size
 obtain⟨ay,k1,k2⟩:∃ay:Nat->Nat,(∀b,D b->ay b=5)/\∀b,¬D b->ay b=if b<h.size/\ao b≠5 then ao b else 0:=
  ⟨λb=>@ite _ (D b) (Classical.propDecidable _) 5 (if b<h.size/\ao b≠5 then ao b else 0),λb x=>if_pos x,λb x=>if_neg x⟩
 have old:∀b,b<h.size->ay b=ao b:=λb hb=>by
  by_cases x:D b
  ·rw[k1 b x];exact((g.old b hb).mp x).symm
  ·have:ao b≠5:=λe=>x ((g.old b hb).mpr e);rw[k2 b x,if_pos ⟨hb,this⟩]
 have Io:∀b,ay b=5↔D b:=λb=>⟨λe=>by
  by_cases x:D b
  ·exact x
  ·rw[k2 b x]at e
   split at e
   ·rename_i y;exact absurd e y.2
   ·exact absurd e (by decide),k1 b⟩
 have Fu:∀b,h8.size<=b->ay b=0:=λb hb=>by
  have x:¬D b:=λx=>by have:=A.lt x;omega
  rw[k2 b x,if_neg (by omega)]
 refine⟨λb=>1<=ay b/\ay b<=5,?_,⟨λb hb=>by rw[old b hb];exact(hF b).symm,λb hb=>?_⟩,.inr ⟨ay,r.tb,rfl,⟨Fu,(old _ tl).trans s1,d8.own,d8.rd,⟨rfl,rfl⟩,rfl,?_⟩,λb=>Iff.rfl⟩⟩
 ·refine(f.mono λb _ e=>(hF b).mpr ?_).trans d8.fr λb _ e=>(hF b).mpr ?_
  ·have e:ao b=5:=e;omega
  ·have e:b=r.tb:=e;subst e;omega
 ·rcases Nat.lt_or_ge b h8.size with x|x
  ·exact x
  ·rw[Fu b x]at hb;omega
 ·refine(A.fr d8.fr λb hb e=>?_).iff Io;have e:b=r.tb:=e;subst e;have:=(g.old _ tl).mp hb;have this:ao r.tb=5:=this;omega
theorem MK{T:TM}(x:Tx h F t d T)(hK:∀ h' F',Fr F h h'->Gw h F h' F'->Tx h' F' t d (TM.ended T.aK)->K (.tuple #[]) h'):C.gy t h K:=by
 have bK:=λb hb=>x.lt (b:=b) hb
 rcases x with⟨ao,r,rfl,X,hF⟩|⟨ao,tb,rfl,X,hF⟩
 ·refine gy.ok (aZ.ok (zI X.own X.cell λh2 d2=>⟨rfl,?_⟩));obtain⟨F',f,g,y⟩:=X.shut hF (Fr.refl _ _) (Gw.refl nL0 λb hb=>X.dk.lt hb) X.dk d2;exact hK h2 F' f g y
 ·refine gy.ok (aZ.ok (zI X.own X.cell λh2 d2=>⟨rfl,?_⟩));have s1:=X.sc;have f2:Fr F h h2:=d2.fr.mono λb _ e=>by have e:b=tb:=e;subst e;exact(hF _).mpr (by omega)
  have z2:=d2.size
  exact hK h2 F f2 (Gw.refl f2.size bK) (.inr ⟨ao,tb,rfl,⟨λb hb=>X.vp b (by omega),s1,d2.own,d2.rd,⟨rfl,rfl⟩,rfl,X.dk.fr d2.fr λb hb e=>by
   have e:b=tb:=e;subst e;have hb:ao b=5:=hb
   omega⟩,hF⟩)
end Tm
namespace Tm
open Hp W Ad Spc
def TM.blocks(T:TM):Wc.Nb:=T.written.map λi=>(i,(cR T.put i).getD [])
def TM.gU(T:TM):TM×Int:=
 if T.over=true then(T,61)else if T.put=[]then(TM.ended T.aK,0)else(TM.ended (Wc.AM T.aK T.blocks).1,(Wc.AM T.aK T.blocks).2)
theorem ML(l:List Int):(vd l).Perm l:=List.mergeSort_perm l _
theorem Ol{n:Int}:∀(l:List Int) (last:Int),l.Pairwise (· < ·)->(∀x∈l,last<x/\x<n)->Hd.tm n last l=true
 | [],_,_,_=>rfl
 | a::r,last,hp,h=>by
  rw[List.pairwise_cons]at hp;have h1:=h a (List.mem_cons_self ..);show(!(decide (a<=last) || decide (a>=n)) && Hd.tm n a r)=true;rw[Ol r a hp.2 λx hx=>⟨hp.1 x hx,(h x (List.mem_cons_of_mem _ hx)).2⟩,decide_eq_false (by omega),decide_eq_false (by omega)];rfl
theorem PV{α:Type}{m:List (Int×α)}(h:i ∈ m.map (·.1)):∃b,cR m i=some b:=by
 cases e:cR m i with
 | some b=>exact⟨b,rfl⟩
 | none=>
  obtain⟨p,hp,ep⟩:=List.mem_map.mp h;exact absurd ep (wV.mp e p hp)
end Tm
namespace Tm
open Hp W Ad
def Ko(ps:List (Int×(Sc×cL)))(l:List Int):Wc.Rs:=l.map λi=>(i,(cR ps i).getD (⟨none,0,0⟩,[]))
theorem PW{r:TR}{T:TM}(X:IY h ao d r T):Wc.nb (Ko r.ps T.written)=T.blocks:=by
 unfold Wc.nb Ko TM.blocks;rw[List.map_map];refine List.map_congr_left λi _=>?_;show(i,((cR r.ps i).getD _).2)=(i,(cR T.put i).getD []);rw[X.put,zm (λx:Sc×cL=>x.2) i r.ps]
 cases cR r.ps i <;> rfl
theorem qH{h:ad}{F:NP}{t d:OA}{T:TM}{K:KT}(G:Re.kJ h)(x:Tx h F t d T)(hp:T.put.length<10000)(hq:T.aK.bz.length<100000000)(ht:T.aK.tape.length<100000000)
  (hK:∀h' F',Fr F h h'->Gw h F h' F'->Tx h' F' t d T.gU.1->K (vI T.gU.2) h'):C.gH t h K:=by
 have bK:=λb hb=>x.lt (b:=b) hb;have x0:=x
 rcases x with⟨ao,r,rfl,X,hF⟩|⟨ao,tb,rfl,X,hF⟩
 rotate_left
 ·refine gH.ok (os ⟨_,bJ X.cell rfl,ct rfl ?_⟩);have e0:T.gU=(T,61):=by unfold TM.gU;rw[X.over,if_pos rfl]
  rw[e0]at hK;exact hK h F (Fr.refl _ _) (Gw.refl nL0 bK) (.inr ⟨ao,tb,rfl,X,hF⟩)
 have live:=X.live;have L9:T.put.length=r.ps.length:=by rw[X.put,lM0]
 have em:(mm (λx:Sc×cL=>x.1.v) r.ps).length=r.ps.length:=wY _ _;refine gH.ok (os ⟨_,bJ X.cell rfl,cf rfl (os ⟨_,bJ X.cell rfl,_,X.map,ce (λh0=>?_) λh0=>?_⟩)⟩)
 ·have e:T.put=[]:=List.eq_nil_of_length_eq_zero (by omega);have e0:T.gU=(TM.ended T.aK,0):=by unfold TM.gU;rw[live,if_neg (by simp),if_pos e]
  rw[e0]at hK;refine aZ.CN (zI X.own X.cell λh2 d2=>?_);obtain⟨F',f,g,y⟩:=X.shut hF (Fr.refl _ _) (Gw.refl nL0 λb hb=>X.dk.lt hb) X.dk d2;exact hK h2 F' f g y
 have dp:T.put≠[]:=λe=>by rw[e]at L9;have:(0:Nat)=r.ps.length:=L9;omega
 have e0:T.gU=(TM.ended (Wc.AM T.aK T.blocks).1,(Wc.AM T.aK T.blocks).2):=by unfold TM.gU;rw[live,if_neg (by simp),if_neg dp]
 rw[e0]at hK;refine zv x0 (by omega) λa l c h3 f3 el s3=>⟨_,_,_,rfl,?_⟩;have wl:T.written.length=l:=by have:=s3.1;rw[lM0]at this;omega
 have z3:=f3.size
 have mem:∀i∈T.written,∃x,cR r.ps i=some x/\(i,x)∈r.ps:=λi hi=>by
  have hi:i∈T.put.map (·.1):=(ML _).mem_iff.mp hi;rw[X.put,List.map_map]at hi;obtain⟨v,e⟩:=PV (m:=r.ps) hi;exact⟨v,e,tR e⟩
 have rl:(Ko r.ps T.written).length=l:=by unfold Ko;rw[lM0,wl]
 refine⟨λla ll lc n hh=>0<=n/\n<=l/\ll=n.toNat/\Fr No h3 hh/\∃F1:NP,Wc.Row h3.size hh F1 2 la ll lc (((Ko r.ps T.written).take n.toNat).flatMap Wc.jj),
  λ_ _ _ n _=>((l:Int)-n).toNat,⟨by omega,by omega,rfl,Fr.refl _ _,No,Wc.Row.nil _ _ _⟩,?_⟩
 rintro la ll lc n h4 ⟨n0,n1,rfl,f4,F1,r1⟩;have z4:=f4.size;have f34:=f3.no f4;refine cd (λhn=>?_) λhn=>?_
 ·have nV:n.toNat<T.written.length:=by omega
  have cc:=ak.fr f4 s3.cells λ_ _ x=>x;obtain⟨p,rfl,cv⟩:=Hd.gn (ns:=T.written) cc nV;obtain⟨v,ev,mv⟩:=mem _ (List.getElem_mem nV);refine⟨⟨n0,hn⟩,os ⟨_,cv,os ⟨_,bJ ((f34.rd X.own.lt λx=>x).trans X.cell) rfl,_,tj X.map f34 (λx=>x),v.1.a,v.1.l,v.1.c,?_,rfl,?_⟩⟩⟩
  ·rw[zn,ev];rfl
  have erg:(Ko r.ps T.written)[n.toNat]'(by rw[rl,<-wl];exact nV)=(T.written[n.toNat],v):=by
   unfold Ko;rw[List.getElem_map,ev];rfl
  refine Wc.xe (vs:=[vI T.written[n.toNat],v.1.v]) r1 rfl (Wc.lI (T.written[n.toNat],v)) rfl rfl (Nat.le_of_ble_eq_true rfl) (by omega) (by omega) λla' lc' h6 F1' f6 g6 χ=>?_;rw[wrap_i64 (by omega) (by omega)];have en:(n+1).toNat=n.toNat+1:=by omega
  refine⟨⟨by omega,by omega,en.symm,f4.trans f6 λb hb y=>by have:=r1.ge b y;omega,F1',?_⟩,di hn⟩;rw[en,dQ _ _ (by rw[rl];omega),List.flatMap_append,erg,List.flatMap_cons,List.flatMap_nil,List.append_nil];exact χ
 have ln:n.toNat=l:=by omega
 rw[List.take_of_length_le (by omega),ln]at r1;rw[ln,<-rl];have A4:cw h4 (λb=>ao b=5) d T.aK:=X.dk.no f34
 have bl:Wc.Bl h4 (λb=>ao b=5) la (Ko r.ps T.written):=by
  refine⟨r1.s.cells,λp e=>?_,λq hq=>?_⟩
  ·subst e;obtain⟨_,_,k,o,_⟩:=r1.s;refine⟨o.lt,λy=>?_⟩;have y:ao p.block=5:=y;have:=X.vp p.block (by have:=(r1.ge _ k).1;omega);omega
  ·obtain⟨i,hi,rfl⟩:=List.mem_map.mp hq;obtain⟨v,ev,mv⟩:=mem i hi;show aw h4 ((cR r.ps i).getD _).1.a _ _/\_;rw[ev];have bk:=X.V5 _ mv;refine⟨aw.fr f34 bk.s λ_ _ x=>x,λp e=>⟨by have:=(bk.at_ p e).1;omega,λy=>?_⟩⟩;have y:ao p.block=5:=y;have:=(bk.at_ p e).2;omega
 refine os ⟨_,bJ ((f34.rd X.own.lt λx=>x).trans X.cell) rfl,Wc.qH (G.no f34) A4 bl (by omega) hq ht λh7 D7 f7 g7 A7=>⟨_,rfl,?_⟩⟩;rw[PW X]at A7 ⊢;have Ti:Fr (λb=>ao b=5) h h7:=(f34.mono λ_ _ x=>x.elim).trans f7 λ_ _ x=>x;have s1:=X.sc;have tl:=X.own.lt;have nt:¬ao r.tb=5:=by omega
 refine aZ.CN (zI (Ti.own tl nt X.own) ((Ti.rd tl nt).trans X.cell) λh8 d8=>?_);obtain⟨F',f,g,y⟩:=X.shut hF Ti ⟨λb hb=>g7.old b (by omega),g7.lt⟩ A7 d8;exact hK h8 F' f g y
theorem Kq{D:NP}(g:Gw h (λb=>ao b=5) h' D)(hs:h.size<=h'.size)(vp:∀ b,h.size<=b->ao b=0) :
  ∃ay:Nat->Nat,Ag h.size ao ay/\(∀b,h'.size<=b->ay b=0)/\(∀b,ay b=5↔D b)/\∀b,h.size<=b->ay b=0∨ay b=5:=by
 obtain⟨ay,k1,k2⟩:∃ay:Nat->Nat,(∀b,D b->ay b=5)/\∀b,¬D b->ay b=if b<h.size/\ao b≠5 then ao b else 0:=
  ⟨λb=>@ite _ (D b) (Classical.propDecidable _) 5 (if b<h.size/\ao b≠5 then ao b else 0),λb x=>if_pos x,λb x=>if_neg x⟩
 have old:∀b,b<h.size->ay b=ao b:=λb hb=>by
  by_cases x:D b
  ·rw[k1 b x];exact((g.old b hb).mp x).symm
  ·have:ao b≠5:=λe=>x ((g.old b hb).mpr e);rw[k2 b x,if_pos ⟨hb,this⟩]
 refine⟨ay,old,λb hb=>?_,λb=>⟨λe=>?_,k1 b⟩,λb hb=>?_⟩
 ·have x:¬D b:=λx=>by have:=g.lt b x;omega
  rw[k2 b x,if_neg (by omega)]
 ·by_cases x:D b
  ·exact x
  ·rw[k2 b x]at e
   split at e
   ·rename_i y;exact absurd e y.2
   ·exact absurd e (by decide)
 ·by_cases x:D b
  ·exact .inr (k1 b x)
  ·rw[k2 b x,if_neg (by omega)];exact .inl rfl
theorem IY.ql{r:TR}{T:TM}{S:RD}{D:NP}(X:IY h ao d r T)(f:Fr (λb=>ao b=5) h h')(g:Gw h (λb=>ao b=5) h' D)(A:cw h' D d S)(hN:S.aB.length=T.N) :
  ∃ay,Ag h.size ao ay/\(∀b,h.size<=b->ay b=0∨ay b=5)/\(∀b,h'.size<=b->ay b=0)/\(∀b,ay b=5↔D b)/\IY h' ay d r { T with aK:=S }:=by
 obtain⟨ay,old,Fu,Io,new⟩:=Kq g f.size X.vp;have s1:=X.sc;have s2:=X.mc;have tl:=X.own.lt;have ml:=map_lt X.map;have k4:∀b,b<h.size->ao b=4->¬ao b=5:=λb _ e=>by omega
 refine⟨ay,old,new,Fu,Io,⟨Fu,(old _ tl).trans s1,f.own tl (by omega) X.own,(f.rd tl (by omega)).trans X.cell,(old _ ml).trans s2,tj X.map f (by omega),?_,
  λp hp=>(X.V5 p hp).keep f old k4,λu hu=>(X.uok u hu).keep f old k4,X.put,X.ar,X.live,A.iff Io,λp hp=>?_,λu hu=>?_⟩⟩
 ·have s':=Hp.Sl.fr f X.un (λb hb hk=>by have hk:ao b=3:=hk;omega);obtain⟨h1,h2⟩:=s';refine⟨h1,?_⟩;have ul:=X.un
  revert h2 ul
  cases r.ua with
  | none=>intro h2 _;exact h2
  | some p=>intro h2 ul;obtain⟨a1,a2,a3,a4⟩:=h2;exact⟨a1,(old _ ul.lt).trans a2,a3,a4⟩
 ·have:=X.pk p hp;exact⟨this.1,by show p.1<(S.aB.length:Int);rw[hN];exact this.2⟩
 ·have:=X.ui u hu;exact⟨this.1,by show u.i<(S.aB.length:Int);rw[hN];exact this.2⟩
theorem φ.ql{tb:Nat}{T:TM}{S:RD}{D:NP}(X:φ h ao d tb T)(f:Fr (λb=>ao b=5) h h')(g:Gw h (λb=>ao b=5) h' D)(A:cw h' D d S) :
  ∃ay,Ag h.size ao ay/\(∀b,h.size<=b->ay b=0∨ay b=5)/\(∀b,h'.size<=b->ay b=0)/\(∀b,ay b=5↔D b)/\φ h' ay d tb { T with aK:=S }:=by
 obtain⟨ay,old,Fu,Io,new⟩:=Kq g f.size X.vp;have s1:=X.sc;have tl:=X.own.lt;exact⟨ay,old,new,Fu,Io,⟨Fu,(old _ tl).trans s1,f.own tl (by omega) X.own,(f.rd tl (by omega)).trans X.cell,X.gone,X.over,A.iff Io⟩⟩
theorem Tx.ql{h:ad}{F:NP}{t d:OA}{T:TM}(x:Tx h F t d T):∃D,cw h D d T.aK/\(∀b,D b->F b)/\
  ∀h' D' S,Fr D h h'->Gw h D h' D'->cw h' D' d S->S.aB.length=T.N->∃F',Gw h F h' F'/\Tx h' F' t d { T with aK:=S }:=by
 rcases x with⟨ao,r,e,X,hF⟩|⟨ao,tb,e,X,hF⟩
 ·refine⟨_,X.dk,λb y=>(hF b).mpr (by have y:ao b=5:=y;omega),λh' D' S f g A hN=>?_⟩;obtain⟨ay,old,new,Fu,Io,X'⟩:=X.ql f g A hN;refine⟨λb=>1<=ay b/\ay b<=5,⟨λb hb=>by rw[old b hb];exact(hF b).symm,λb hb=>?_⟩,.inl ⟨ay,r,e,X',λb=>Iff.rfl⟩⟩
  rcases Nat.lt_or_ge b h'.size with y|y
  ·exact y
  ·rw[Fu b y]at hb;omega
 ·refine⟨_,X.dk,λb y=>(hF b).mpr (by have y:ao b=5:=y;omega),λh' D' S f g A hN=>?_⟩;obtain⟨ay,old,new,Fu,Io,X'⟩:=X.ql f g A;refine⟨λb=>1<=ay b/\ay b<=5,⟨λb hb=>by rw[old b hb];exact(hF b).symm,λb hb=>?_⟩,.inr ⟨ay,tb,e,X',λb=>Iff.rfl⟩⟩
  rcases Nat.lt_or_ge b h'.size with y|y
  ·exact y
  ·rw[Fu b y]at hb;omega
end Tm
namespace Rx
open Hp W Ad Tm Spc Re
theorem aaw{D:NP}(hk:k≠0)(g:Gw h (λb=>ao b=k) h' D)(vp:∀ b,h.size<=b->ao b=0) :
  ∃ay:Nat->Nat,Ag h.size ao ay/\(∀b,h'.size<=b->h.size<=h'.size->ay b=0)/\(∀b,ay b=k↔D b)/\∀b,h.size<=b->ay b=0∨ay b=k:=by
 obtain⟨ay,k1,k2⟩:∃ay:Nat->Nat,(∀b,D b->ay b=k)/\∀b,¬D b->ay b=if b<h.size/\ao b≠k then ao b else 0:=
  ⟨λb=>@ite _ (D b) (Classical.propDecidable _) k (if b<h.size/\ao b≠k then ao b else 0),λb x=>if_pos x,λb x=>if_neg x⟩
 have old:∀b,b<h.size->ay b=ao b:=λb hb=>by
  by_cases x:D b
  ·rw[k1 b x];exact((g.old b hb).mp x).symm
  ·have:ao b≠k:=λe=>x ((g.old b hb).mpr e);rw[k2 b x,if_pos ⟨hb,this⟩]
 refine⟨ay,old,λb hb hs=>?_,λb=>⟨λe=>?_,k1 b⟩,λb hb=>?_⟩
 ·have x:¬D b:=λx=>by have:=g.lt b x;omega
  rw[k2 b x,if_neg (by omega)]
 ·by_cases x:D b
  ·exact x
  ·rw[k2 b x]at e
   split at e
   ·rename_i y;exact absurd e y.2
   ·exact absurd e.symm hk
 ·by_cases x:D b
  ·exact .inr (k1 b x)
  ·rw[k2 b x,if_neg (by omega)];exact .inl rfl
theorem Fm.ql{R:RR}{M:RM}{S:RD}{D:NP}(X:Fm h ao R M)(f:Fr (λb=>ao b=3) h h')(g:Gw h (λb=>ao b=3) h' D)(A:Rf.pM h' D R.q S) :
  ∃ay,Ag h.size ao ay/\(∀b,h.size<=b->ay b=0∨ay b=3)/\(∀b,h'.size<=b->ay b=0)/\Fm h' ay R { M with aK:=S }:=by
 obtain⟨ay,old,Fu,three,new⟩:=aaw (k:=3) (by decide) g X.vp;have s1:=X.rc;have tl:=X.ro.lt;have hs:=f.size;refine⟨ay,old,new,λb hb=>Fu b hb hs,λb hb=>Fu b hb hs,(old _ tl).trans s1,f.own tl (by omega) X.ro,(f.rd tl (by omega)).trans X.rr,WB A three,?_,X.rm⟩;refine(yC (X.row.fr f λb _ hk y=>by have hk:ao b=4:=hk;omega)).mono λb hb=>?_;have h1:ao b=4:=hb.1;show ay b=4
 rcases Nat.lt_or_ge b h.size with y|y
 ·rw[old b y];exact h1
 ·have:=X.vp b y;omega
theorem Fm.gw(hF:∀ b,F b↔1<=ao b/\ao b<=4)(old:Ag h.size ao ay)(Fu:∀ b,h'.size<=b->ay b=0):Gw h F h' λb=>1<=ay b/\ay b<=4:=by
 refine⟨λb hb=>by rw[old b hb];exact(hF b).symm,λb hb=>?_⟩
 rcases Nat.lt_or_ge b h'.size with y|y
 ·exact y
 ·rw[Fu b y]at hb;omega
theorem Fm.ended{R:RR}{M:RM}(X:Fm h ao R M)(d:rW R.rb h h' [vP R.q,vS R.ra M.row.length R.rc,.bool true]):Fm h' ao R { M with ends:=true }:=by
 have s1:=X.rc;have z:=d.size;refine⟨λb hb=>X.vp b (by omega),s1,d.own,d.rd,X.dk.fr d.fr λb y e=>?_,X.row.fr d.fr λb _ y e=>?_,X.rm⟩
 ·have y:ao b=3:=y;have e:b=R.rb:=e;rw[e]at y;omega
 ·have y:ao b=4:=y;have e:b=R.rb:=e;rw[e]at y;omega
theorem jc.Eb{D:NP}{S:RD}(x:Rf.pM h D q S)
  (hK:∀F h',Fr No h h'->jc h' F (some (bA h)) q ⟨S,[],[],false⟩->(∀b,F b↔D b∨b=h.size)->K (vP (some (bA h))) h'):C.gO q h K:=
 yt x λF h' f x' e=>hK F h' f ⟨_,WA S,x'⟩ e
theorem jc.ql{h:ad}{F:NP}{r e:OA}{T:TM}(x:jc h F r e T):∃D,Rf.pM h D e T.aK/\(∀b,D b->F b)/\
  ∀h' D' S,Fr D h h'->Gw h D h' D'->Rf.pM h' D' e S->S.aB.length=T.N->∃F',Gw h F h' F'/\jc h' F' r e { T with aK:=S }:=by
 obtain⟨M,s,ao,R,rfl,rfl,X,hF⟩:=x;refine⟨_,by rw[<-s.dk];exact X.dk,λb y=>(hF b).mpr (by have y:ao b=3:=y;omega),λh' D' S f g A hN=>?_⟩;obtain⟨ay,old,new,Fu,X'⟩:=X.ql f g A;exact⟨_,Fm.gw hF old Fu,_,s.ql hN,ay,R,rfl,rfl,X',λb=>Iff.rfl⟩
theorem Kr{T:TM}(x:jc h F r e T)
  (hK:∀h',Fr F h h'->jc h' F r e (TM.ended T.aK)->K (.tuple #[]) h'):C.dx r h K:=by
 obtain⟨M,s,ao,R,rfl,rfl,X,hF⟩:=x;have s1:=X.rc;refine dx.ok (os (aO.add X.ro (by rw[X.rr];show 0+2<3;omega) λh2 d2=>?_));rw[X.rr]at d2;have X2:=X.ended d2;have s2:=s.over (S:=T.aK) rfl;rw[<-s.dk]at s2;refine hK h2 (d2.fr.mono λb _ y=>(hF b).mpr (by have y:b=R.rb:=y;rw[y];omega)) ⟨_,?_,ao,R,rfl,rfl,X2,hF⟩;rw[<-s.dk];exact s2
theorem vf.keys{T:TM}{M:RM}(s:vf T M)(hl:T.over=false){i:Int}(hi:i ∈ M.written):∃b,mw M.row i=some b/\(i,b)∈M.row:=by
 unfold RM.written at hi;rw[s.ends,hl,if_neg (by simp),yA]at hi
 cases e:mw M.row i with
 | none=>rw[e]at hi;exact absurd hi.2.2 (by simp)
 | some b=>exact⟨b,rfl,zD rfl e⟩
theorem vf.gU{T:TM}{M:RM}(s:vf T M)(hl:T.over=false):T.gU=(TM.ended (Wc.AM T.aK T.blocks).1,(Wc.AM T.aK T.blocks).2):=by
 unfold TM.gU;rw[hl,if_neg (by simp)]
 split
 ·rename_i e;have hw:T.written=[]:=by unfold TM.written;rw[e];exact List.mergeSort_nil
  have:T.blocks=[]:=by unfold TM.blocks;rw[hw];rfl
  rw[this];have:Wc.AM T.aK []=(T.aK,0):=if_pos rfl;rw[this]
 ·rfl
theorem vf.may{T:TM}{M:RM}(s:vf T M)(hl:T.over=false):Wc.AL T.blocks (T.N:Int)=true:=by
 have hw:(T.written).Pairwise (· < ·):=by rw[s.written];unfold RM.written;rw[s.ends,hl,if_neg (by simp)];exact GN _ _
 have hr:∀x∈T.written,97<x/\x<T.N:=λx hx=>by
  rw[s.written]at hx;obtain⟨b,_,hb⟩:=s.keys hl hx;have:=s.rr _ hb;simp only at this;omega
 have fst:T.blocks.map (·.1)=T.written:=by
  unfold TM.blocks;rw[List.map_map];exact List.map_id'' (λ_=>rfl) _
 have len:T.blocks.length=T.put.length:=by
  unfold TM.blocks TM.written;rw[lM0,zE,lM0]
 unfold Wc.AL;rw[fst,Ol T.written 97 hw hr,len,decide_eq_true (by have:=s.most hl;omega)];rfl
theorem vf.block{T:TM}{M:RM}(s:vf T M)(hl:T.over=false):T.blocks=M.written.map λi=>(i,(mw M.row i).getD []):=by
 unfold TM.blocks;rw[s.written];exact List.map_congr_left λi _=>by rw[s.now hl]
theorem qH{T:TM}(x:jc h F r e T)(ht:T.aK.tape.length<100000000)(hW:(Wc.AM T.aK T.blocks).1.aB.length=T.N)
  (hK:∀h' F',Fr F h h'->Gw h F h' F'->jc h' F' r e T.gU.1->K (vI T.gU.2) h'):C.dL r h K:=by
 have bK:=λb hb=>x.lt (b:=b) hb;obtain⟨M,s,ao,R,rfl,rfl,X,hF⟩:=x;have s1:=X.rc;refine dL.ok (os ⟨_,bJ X.rr rfl,?_⟩)
 cases hl:T.over with
 | true=>
  have e0:T.gU=(T,61):=by unfold TM.gU;rw[hl,if_pos rfl]
  rw[e0]at hK;rw[s.ends,hl];exact ct rfl (hK h F (Fr.refl _ _) (Gw.refl nL0 bK) ⟨M,s,ao,R,rfl,rfl,X,hF⟩)
 | false=>
 rw[s.gU hl]at hK;rw[s.ends,hl];refine cf rfl (tw X λwa wc h2 f2 sw=>⟨_,_,_,rfl,?_⟩);have z2:=f2.size;have X2:=X.keep f2 λ_ _ _ _ y=>y;have wl96:M.written.length<=96:=by rw[s.many];exact s.most hl
 have rm:=X.rm
 refine⟨λla ll lc m hh=>∃(rs:Wc.Rs) (G:NP),m=(List.length rs:Int)/\rs.length<=M.written.length/\rs.length=ll/\Fr No h2 hh/\Wc.Row h2.size hh G 2 la rs.length lc (rs.flatMap Wc.jj)/\Wc.nb rs=(M.written.take rs.length).map (λi=>(i,(mw M.row i).getD []))/\
   ∀r∈rs,aw hh r.2.1.a r.2.1.l r.2.2/\∀p,r.2.1.a=some p->h2.size<=p.block/\p.block<hh.size/\¬G p.block,λ_ _ _ m _=>((M.written.length:Int)-m).toNat,
  ⟨[],No,rfl,nZ0,rfl,Fr.refl _ _,Wc.Row.nil _ _ _,rfl,λr hr=>by cases hr⟩,?_⟩
 rintro la _ lc _ h3 ⟨rs,G,rfl,hi,rfl,f3,RG,en,ok⟩;have z3:=f3.size;refine cd (λbK=>?_) λbK=>?_
 ·have vt:rs.length<M.written.length:=by omega
  obtain⟨p,ep,cp⟩:=Hd.gn (ns:=M.written) (ak.fr f3 sw.cells λ_ _ y=>y) vt;obtain⟨b,eb,mb⟩:=s.keys hl (List.getElem_mem vt);have hb:=(s.rr _ mb).2.2;have hb:b.length=512:=hb;have X3:=X2.keep f3 λ_ _ _ _ y=>y;rw[tN0,wq ((rs.length:Int)+1)];refine⟨⟨by omega,bK⟩,Rz.oe ep ⟨_,cp,os ⟨_,_,_,bJ X3.rr rfl,zF X3 λn3 ha=>⟨_,rfl,bJ X3.rr rfl,?_⟩⟩⟩⟩
  rcases ha with⟨_,y⟩|⟨k,hk,rfl,ek⟩
  ·rw[eb]at y;cases y
  have ebk:M.row[k].2=b:=by rw[eb]at ek;exact(Option.some.inj ek).symm
  obtain⟨p2,ep2,cc2⟩:=X3.mQ hk;rw[tN0];refine⟨⟨by omega,by omega⟩,Rz.oe ep2 ⟨_,aj.cell cc2 (i:=1) rfl,?_⟩⟩;rw[ebk];refine DU λcap h5 f5 s5=>⟨rfl,?_⟩;have z5:h3.size<h5.size:=s5.lt;have R5:=RG.keep f5 λ_ _ y=>y;refine Wc.xe R5 (vs:=Wc.jj (M.written[rs.length],⟨some (bA h3),b.length,cap⟩,b)) rfl (Wc.lI _) rfl rfl (by decide) (by omega) (by omega) λla' lc' h7 G7 f7 g7 R7=>?_;have z7:=f7.size;have el:(rs++[((M.written[rs.length]:Int),(⟨some (bA h3),b.length,cap⟩:Tm.Sc),b)]:Wc.Rs).length=rs.length+1:=by rw[lA0];rfl
  have nG:∀{p:Addr},h2.size<=p.block->p.block<h5.size->¬G p.block->¬G7 p.block:=fun {p} _ tP HE y=>by
   rcases g7 _ y with w|w
   ·exact HE w
   ·omega
  refine⟨⟨rs++[((M.written[rs.length]:Int),(⟨some (bA h3),b.length,cap⟩:Tm.Sc),b)],G7,by rw[el];rfl,by omega,el,(f3.no f5).trans f7 λx hx y=>by have:=(R5.ge x y).1;omega,?_,?_,λr hr=>?_⟩,di bK⟩
  ·rw[el,List.flatMap_append];simp only[List.flatMap_cons,List.flatMap_nil,List.append_nil];exact R7
  ·rw[el,dQ _ _ vt,List.map_append,<-en];unfold Wc.nb;rw[List.map_append,List.map_cons,List.map_nil,List.map_cons,List.map_nil,eb];rfl
  ·rcases List.mem_append.mp hr with hr|hr
   ·obtain⟨B,O⟩:=ok r hr;refine⟨aw.fr f7 (aw.fr f5 B λ_ _ y=>y) λp e=>(O p e).2.2,λp e=>?_⟩;obtain⟨o1,o2,o3⟩:=O p e;exact⟨o1,by omega,nG o1 (by omega) o3⟩
   ·rw[List.mem_singleton.mp hr];have o3:¬G h3.size:=λy=>by have:=(RG.ge _ y).2;omega
    refine⟨aw.fr f7 s5.str λp e=>by cases e;exact o3,λp e=>?_⟩
    cases e
    exact⟨z3,by show h3.size<h7.size;omega,nG (p:=(bA h3)) z3 z5 o3⟩
 ·have ei:rs.length=M.written.length:=by omega
  rw[ei,List.take_length,<-s.block hl]at en;have X3:=X2.keep f3 λ_ _ _ _ y=>y;refine os (aO.add X3.ro (by rw[X3.rr];show 0+2<3;omega) λh8 d8=>?_);rw[X3.rr]at d8;have X8:=X3.ended d8;have z8:=d8.size;have nr:∀{p:Addr},h2.size<=p.block->¬p.block=R.rb:=fun {p} hp y=>by have:=X.ro.lt;omega
  have b8:Wd.Bx h8 la rs:=⟨ak.fr d8.fr RG.s.cells λp e=>by
   have sg:=RG.s;subst e
   exact nr (RG.ge _ sg.2.2.1).1,λr hr=>aw.fr d8.fr (ok r hr).1 λp e=>nr ((ok r hr).2 p e).1⟩
  have h5:∀r∈rs,r.2.2.length=512/\98<=r.1/\r.1<T.N:=λr hr=>by
   have hm:(r.1,r.2.2)∈Wc.nb rs:=List.mem_map.mpr ⟨r,hr,rfl⟩;rw[en,s.block hl]at hm;obtain⟨i,hi,ei⟩:=List.mem_map.mp hm;obtain⟨b,eb,mb⟩:=s.keys hl hi;rw[eb]at ei;have:=s.rr _ mb;simp only[Prod.mk.injEq,Option.getD_some]at ei this;rw[<-ei.1,<-ei.2];exact⟨this.2.2,this.1,this.2.1⟩
  have adL:=X.max;rw[s.N]at adL
  have mayE:Wc.AL (Wc.nb rs) (M.aK.aB.length:Int)=true:=by
   rw[en,s.dk];exact s.may hl
  refine os ⟨_,bJ d8.rd rfl,Wd.Im X8.dk b8 (λr hr p e _ y=>?_) (λ_=>mayE) (λr hr=>(h5 r hr).1) (λr hr=>by have:=(h5 r hr).2;omega) (by show M.aK.tape.length<_;rw[s.dk];exact ht) λh9 E9 f9 g9 x9=>⟨_,rfl,?_⟩⟩
  ·have y:ao p.block=3:=y;have:=X.vp p.block (by have:=((ok r hr).2 p e).1;omega);omega
  have x9:Rf.pM h9 E9 R.q (Wc.AM M.aK (Wc.nb rs)).1:=x9;show K (vI (Wc.AM M.aK (Wc.nb rs)).2) h9;rw[en,s.dk]at x9 ⊢;obtain⟨ay,old,new,Fu,X9⟩:=X8.ql f9 g9 x9;have f8:Fr F h h8:=(((f2.no f3).mono λ_ _ y=>y.elim).trans d8.fr λb _ y=>(hF b).mpr (by have y:b=R.rb:=y;rw[y];omega));refine hK h9 _ (f8.trans f9 λb _ y=>(hF b).mpr (by have y:ao b=3:=y;omega)) (Fm.gw hF (λb hb=>old b (by omega)) Fu) ⟨_,s.over hW,ay,R,rfl,rfl,X9,λb=>Iff.rfl⟩
end Rx
namespace Wc
open Hp W Ad Pn
theorem PX{D:NP}{S:RD}(A:cw h D d S)(hK:∀ a c h',Fr No h h'->Sl h' 1 a (S.aB.length*512) c (S.aB.flatten.map bv) (dG h.size)->K (vS a (S.aB.length*512) c) h'):C.fX d h K:=by
 obtain⟨ao,A,_⟩:=A;exact yu A hK
def Ku(v n:Int):Int:=if Int.tmod v n<0 then Int.tmod v n+n else Int.tmod v n
theorem MM{v n:Int}(h:0<n):0<=Ku v n/\Ku v n<n:=by
 unfold Ku;have h1:=Int.tmod_lt_of_pos v h
 have h2 : -n<Int.tmod v n:=by
  have h3:=Int.tmod_lt_of_pos (-v) h;rw[Int.neg_tmod]at h3;omega
 split <;> omega
end Wc
namespace Wd
open Hp W Ad Wc Rf
open L3 (Tt)
variable{h1 hh h' : ad}{c c' : Nat -> Nat}{pb : Nat}{q1 q2 ta wa : OA}{tc wc : Nat}{is : List Sc}{cs bs : List LB}{zs : List (Nat × LV)}
variable{D1 D2 D1' D2' : RD}{E1 E2 E1' E2' : Nat -> Prop}
open Classical in
theorem cw.rq{D:NP}{S:RD}{keep:List Bool}(A:cw h D d S)(EM:keep.length=kl)(hk:ak h ka (keep.map .bool))(We:∀ p,ka=some p->keep≠[]->¬ D p.block)
  (hK:∀h',Fr D h h'->cw h' D d (if S.down=true then S else S.cut keep)->K (.tuple #[]) h'):C.fj d ka kl kc h K:=by
 obtain⟨ao,A,hz,hD⟩:=A;refine Ad.yv A EM hk (λp e dp y=>We p e dp ((hD _).mpr (by omega))) λh' f A'=>?_;exact hK h' (f.mono λb _ x=>(hD b).mpr ⟨x.1,x.2⟩) ⟨ao,A',λb hb=>hz b (by have:=f.size;omega),hD⟩
end Wd
namespace Wd
open Hp W Ad Wc Rf
theorem Tj{cc:Nat}{ys:LV}{v:Value}{X:HP}(s:Sl h 1 a l cc ys F)(hj:j<l)
  (hX:∀h',Fr F h h'->Sl h' 1 a l cc (ys.set j v) F->X h'):ae a λp=>aO (Addr.add p j) v h X:=by
 obtain⟨p,rfl,cp⟩:=s.get (by omega);have e:=s.mk;obtain⟨b,o,sp⟩:=p;have e:sp=none:=by simpa using e
 subst e;obtain⟨w1,w2⟩:=s.wr;have hb:F b:=s.2.2.1;refine os (aO.add w1 (by omega) λh6 d6=>hX h6 ((Fr.refl _ _).did d6 λ_=>hb) ?_);exact s.putAt (j:=j) (new:=[v]) (by rw[List.length_singleton];omega) d6
end Wd
namespace Wc
open Hp W Ad
structure Cn(B:Int)(S:RD):Prop where
 w0:0<=S.writes
 w1:S.writes<=B
 f0:0<=S.av
 f1:S.av<=B
 l0:0<=S.left
theorem Cn.mono{C:Int}{S:RD}(c:Cn B S)(h:B<=C):Cn C S:=⟨c.w0,Int.le_trans c.w1 h,c.f0,Int.le_trans c.f1 h,c.l0⟩
theorem Om{S:RD}{f:RD->RD}(c:Cn B S)(hf:∀ S',Cn B S'->Cn B (f S')/\(f S').aB.length=S'.aB.length):Cn B (S.step f).1/\(S.step f).1.aB.length=S.aB.length:=by
 unfold RD.step;have l0:=c.l0
 by_cases a:0<S.left
 ·rw[if_pos a]
  by_cases b:S.left-1=0
  ·rw[if_pos b];exact⟨⟨c.w0,c.w1,c.f0,c.f1,Int.le_refl _⟩,dX _ _⟩
  ·rw[if_neg b];exact hf { S with left:=S.left-1 } ⟨c.w0,c.w1,c.f0,c.f1,by show 0<=S.left-1;omega⟩
 ·rw[if_neg a];exact hf S c
theorem aeo{S:RD}(s:Me)(c:Cn B S)(hB:B<1000000000):Cn (B+1) (s.on S).1/\(s.on S).1.aB.length=S.aB.length:=by
 have no:Cn (B+1) S/\S.aB.length=S.aB.length:=⟨c.mono (by omega),rfl⟩;have w0:=c.w0;have w1:=c.w1;have f0:=c.f0;have f1:=c.f1
 cases s with
 | w i b=>
  show Cn (B+1) (S.write i b).1/\(S.write i b).1.aB.length=_;unfold RD.write
  split
  ·exact no
  ·split
   ·exact no
   ·split
    ·exact no
    ·refine Om (S:=S.pH i b) ⟨?_,?_,c.f0,by show S.av<=_;omega,c.l0⟩ λS' h=>⟨h,rfl⟩
     ·show 0<=wI (S.writes+1);rw[wrap_i64 (by omega) (by omega)];omega
     ·show wI (S.writes+1)<=_;rw[wrap_i64 (by omega) (by omega)];omega
 | f=>
  show Cn (B+1) S.flush.1/\S.flush.1.aB.length=_;unfold RD.flush
  split
  ·exact no
  ·refine Om (S:={ S with av:=wI (S.av+1) }) ⟨c.w0,by show S.writes<=_;omega,?_,?_,c.l0⟩ λS' h=>⟨⟨h.w0,h.w1,h.f0,h.f1,h.l0⟩,dX _ _⟩
   ·show 0<=wI (S.av+1);rw[wrap_i64 (by omega) (by omega)];omega
   ·show wI (S.av+1)<=_;rw[wrap_i64 (by omega) (by omega)];omega
theorem Oo : ∀(xs:List Me) {S:RD} {B:Int},Cn B S->B+xs.length<1000000000->Cn (B+xs.length) (oK xs S).1/\(oK xs S).1.aB.length=S.aB.length
 | [],S,B,c,_=>⟨c.mono (by omega),rfl⟩
 | s::r,S,B,c,hB=>by
  rw[List.length_cons]at hB ⊢;obtain⟨a,b⟩:=aeo s c (by omega)
  have e:oK (s::r) S=if(s.on S).2=0 then oK r (s.on S).1 else s.on S:=rfl
  rw[e]
  split
  ·obtain⟨c2,d⟩:=Oo r a (by omega);exact⟨c2.mono (by omega),d.trans b⟩
  ·exact⟨a.mono (by omega),b⟩
theorem aax{S:RD}(c:Cn B S)(hB:B+198<1000000000)(l:Nb):Cn (B+198) (AM S l).1/\(AM S l).1.aB.length=S.aB.length:=by
 have no:Cn (B+198) S/\S.aB.length=S.aB.length:=⟨c.mono (by omega),rfl⟩;unfold AM
 split
 ·exact no
 ·split
  ·exact no
  ·rename_i hm;have:=DM (l:=l) (n:=S.aB.length) (by cases e:AL l S.aB.length <;> simp_all)
   split
   ·exact no
   ·split
    ·exact no
    ·have hl:=wm l (nA l);obtain⟨a,b⟩:=Oo (pI l (nA l)) c (by rw[hl];omega);rw[hl]at a;exact⟨a.mono (by omega),b⟩
theorem Cn.new(L:List LB):Cn 0 (fresh L):=⟨Int.le_refl _,Int.le_refl _,Int.le_refl _,Int.le_refl _,Int.le_refl _⟩
end Wc
namespace Ap
open Hp W Ad L3 Rf
def Ec(l:List Int):LV:=l.map (.int .i64)
section
variable{h : ad}{ao : Nat -> Nat}{kb c : Nat}{K : Value -> ad -> Prop}
theorem PY{vs:List Int}(s:Sl h 1 a l c (Ec vs) F):vs.length=l:=by
 have:=s.1;unfold Ec at this;rw[lM0]at this;omega
theorem AY{ns:List Int}(A:ak h a (Ec ns)){i:Nat}(hi:i<ns.length):∃p,a=some p/\cellOf h (p.add i)=some (vI ns[i]):=by
 cases a with
 | none=>have A:Ec ns=[]:=A;have:=List.map_eq_nil_iff.mp A;rw[this]at hi;exact absurd hi (by simp)
 | some p=>exact⟨p,rfl,A i _ (by unfold Ec;rw[lG0,List.getElem?_eq_getElem hi];rfl)⟩
end
end Ap
namespace Tp
open Hp W Ad Tm
def Kp(P:ad->(NP)->Prop):Prop:=(∀{h h' F G},P h F->Fr G h h'->(∀b,F b->¬G b)->P h' F)/\∀{h F b},P h F->F b->b<h.size
theorem sV(t d:OA)(T:TM):Kp λh F=>Tx h F t d T:=⟨λx f hG=>x.fr f hG,λx hb=>x.lt hb⟩
theorem xQ(u q:OA)(T:TM):Kp λh F=>Rx.jc h F u q T:=⟨λx f hG=>x.fr f hG,λx hb=>x.lt hb⟩
theorem YP(d:OA)(S:RD):Kp λh F=>cw h F d S:=⟨λx f hG=>x.fr f hG,λx hb=>x.lt hb⟩
theorem Oq(q:OA)(S:RD):Kp λh F=>Rf.pM h F q S:=⟨λx f hG=>x.fr f hG,λx hb=>x.lt hb⟩
noncomputable def more(ao:Nat->Nat)(n k:Nat)(F:NP):Nat->Nat:=λb=>if b<n then ao b else @ite _ (F b) (Classical.propDecidable _) k 0
theorem Ot(ao:Nat->Nat)(n k:Nat)(F:NP):Ag n ao (more ao n k F):=λb hb=>if_pos hb
theorem Kv{n:Nat}(h:n<=b)(hF:F b):more ao n k F b=k:=by unfold more;rw[if_neg (by omega),if_pos hF]
theorem Ou{n:Nat}(h:n<=b)(hF:¬ F b):more ao n k F b=0:=by unfold more;rw[if_neg (by omega),if_neg hF]
def CB(a:OA)(b:Nat):Prop:=∃p,a=some p/\p.block=b
theorem wy(s:Sl h ec a l c xs F)(hb:CB a b):F b/\b<h.size:=by
 obtain⟨p,rfl,rfl⟩:=hb;exact⟨s.2.2.1,s.lt⟩
theorem Kw{T:TM}(x:Rx.jc h F u q T):T.put.length<=96:=by
 obtain⟨M,s,_⟩:=x
 cases hl:T.over with
 | true=>rw[(s.gone hl).1];exact nZ0
 | false=>exact s.most hl
theorem xk(s:Sl h ec a l c xs F):Sl h ec a l c xs (CB a):=by
 obtain⟨h1,h2⟩:=s;refine⟨h1,?_⟩
 cases a with
 | none=>exact h2
 | some p=>obtain⟨a1,a2,a3⟩:=h2;exact⟨a1,⟨p,rfl,rfl⟩,a3⟩
theorem sv(T:TM)(i:Int)(bs:cL):(T.write i bs).1.aK=T.aK/\(T.write i bs).1.ar.length<=T.ar.length+1:=by
 unfold TM.write
 split
 ·exact⟨rfl,Nat.le_succ _⟩
 ·split
  ·exact⟨rfl,Nat.le_succ _⟩
  ·split
   ·exact⟨rfl,Nat.le_succ _⟩
   ·split
    ·exact⟨rfl,Nat.le_succ _⟩
    ·exact⟨rfl,by show(T.ar++[_]).length<=_;rw[lA0];exact nL0⟩
theorem AZ(T:TM)(m:Int):(T.back m).1.aK=T.aK/\(T.back m).1.ar.length<=T.ar.length+1:=by
 unfold TM.back
 split
 ·exact⟨rfl,Nat.le_succ _⟩
 ·split
  ·exact⟨rfl,Nat.le_succ _⟩
  ·exact⟨rfl,by show(T.ar.take m.toNat).length<=_;rw[lT0];omega⟩
end Tp
namespace Sx
open Hp W Ad Tm Spc Av Tp
structure Sx(h1:ad)(sb:Nat)(vs:LV)(P Q:ad->(NP)->Prop)(hh:ad)(ao:Nat->Nat):Prop where
 fr:Fr No h1 hh
 vp:∀b,hh.size<=b->ao b=0
 base:∀b,b<h1.size->ao b=0
 sc:ao sb=1
 so:dJ hh sb
 sr:rd hh sb=vs
 x:∃F,P hh F/\∀b,F b->ao b=2
 y:∃F,Q hh F/\∀b,F b->ao b=3
section
variable{h1 hh h' : ad}{sb : Nat}{vs : LV}{P Q P' Q' : ad -> (Nat -> Prop) -> Prop}{ao ay : Nat -> Nat}
theorem Sx.GV(X:Sx h1 sb vs P Q hh ao)(kp:Kp P)(kq:Kp Q){F:NP}(f:Fr F hh h')(g:Ag hh.size ao ay)(n:∀ b,h'.size<=b->ay b=0)(h0:∀ b,F b->(ao b=0∨4<=ao b)/\h1.size<=b):Sx h1 sb vs P Q h' ay:=by
 obtain⟨G,p,pG⟩:=X.x;obtain⟨E,q,qE⟩:=X.y;have l:=X.so.lt;have sc:=X.sc;have ns:¬F sb:=λy=>by have:=(h0 _ y).1;omega
 exact⟨X.fr.trans f λb hb y=>by have:=(h0 _ y).2;omega,n,λb hb=>(g b (Nat.lt_of_lt_of_le hb X.fr.size)).trans (X.base b hb),(g _ l).trans sc,f.own l ns X.so,(f.rd l ns).trans X.sr,⟨G,kp.1 p f (λb y z=>by have:=pG _ y;have:=(h0 _ z).1;omega),λb hb=>(g _ (kp.2 p hb)).trans (pG b hb)⟩,⟨E,kq.1 q f (λb y z=>by have:=qE _ y;have:=(h0 _ z).1;omega),λb hb=>(g _ (kq.2 q hb)).trans (qE b hb)⟩⟩
theorem Sx.no(X:Sx h1 sb vs P Q hh ao)(kp:Kp P)(kq:Kp Q)(f:Fr No hh h'):Sx h1 sb vs P Q h' ao:=X.GV kp kq f (Ag.refl _ _) (λb hb=>X.vp b (Nat.le_trans f.size hb)) λ_ y=>y.elim
theorem Sx.prog(X:Sx h1 sb vs P Q hh ao)(kq:Kp Q){F F':NP}(pF:∀ b,F b->ao b=2)(f:Fr F hh h')(g:Gw hh F h' F')(p:P' h' F'):∃ay,Ag hh.size ao ay/\Sx h1 sb vs P' Q h' ay:=by
 obtain⟨G,q,qG⟩:=X.y;have l:=X.so.lt;have ag:=Ot ao hh.size 2 F';have ns:¬F sb:=λy=>by have:=pF _ y;have:=X.sc;omega
 have hs:=f.size;refine⟨more ao hh.size 2 F',ag,⟨X.fr.trans f λb hb y=>?_,λb hb=>Ou (by omega) λy=>?_,λb hb=>(ag b (Nat.lt_of_lt_of_le hb X.fr.size)).trans (X.base b hb),(ag _ l).trans X.sc,f.own l ns X.so,(f.rd l ns).trans X.sr,⟨F',p,λb hb=>?_⟩,⟨G,kq.1 q f (λb y z=>?_),λb hb=>(ag _ (kq.2 q hb)).trans (qG b hb)⟩⟩⟩
 ·have:=pF _ y;have:=X.base b hb;omega
 ·have:=g.lt b y;omega
 ·rcases Nat.lt_or_ge b hh.size with y|y
  ·rw[ag b y];exact pF b ((g.old b y).mp hb)
  ·exact Kv y hb
 ·have:=qG _ y;have:=pF _ z;omega
theorem Sx.doc(X:Sx h1 sb vs P Q hh ao)(kp:Kp P){F F':NP}(pF:∀ b,F b->ao b=3)(f:Fr F hh h')(g:Gw hh F h' F')(p:Q' h' F'):∃ay,Ag hh.size ao ay/\Sx h1 sb vs P Q' h' ay:=by
 obtain⟨G,q,qG⟩:=X.x;have l:=X.so.lt;have ag:=Ot ao hh.size 3 F';have ns:¬F sb:=λy=>by have:=pF _ y;have:=X.sc;omega
 have hs:=f.size;refine⟨more ao hh.size 3 F',ag,⟨X.fr.trans f λb hb y=>?_,λb hb=>Ou (by omega) λy=>?_,λb hb=>(ag b (Nat.lt_of_lt_of_le hb X.fr.size)).trans (X.base b hb),(ag _ l).trans X.sc,f.own l ns X.so,(f.rd l ns).trans X.sr,⟨G,kp.1 q f (λb y z=>?_),λb hb=>(ag _ (kp.2 q hb)).trans (qG b hb)⟩,⟨F',p,λb hb=>?_⟩⟩⟩
 ·have:=pF _ y;have:=X.base b hb;omega
 ·have:=g.lt b y;omega
 ·have:=qG _ y;have:=pF _ z;omega
 ·rcases Nat.lt_or_ge b hh.size with y|y
  ·rw[ag b y];exact pF b ((g.old b y).mp hb)
  ·exact Kv y hb
theorem Sx.did{ws:LV}(X:Sx h1 sb vs P Q hh ao)(kp:Kp P)(kq:Kp Q)(d:rW sb hh h' ws):Sx h1 sb ws P Q h' ao:=by
 obtain⟨F,p,pF⟩:=X.x;obtain⟨G,q,qG⟩:=X.y;have sc:=X.sc;have z:=d.size;refine⟨X.fr.trans d.fr λb hb y=>?_,λb hb=>X.vp b (by omega),X.base,sc,d.own,d.rd,⟨F,kp.1 p d.fr (λb y e=>?_),pF⟩,⟨G,kq.1 q d.fr (λb y e=>?_),qG⟩⟩
 ·have y:b=sb:=y;have:=X.base b hb;rw[y]at this;omega
 ·have e:b=sb:=e;have:=pF _ y;rw[e]at this;omega
 ·have e:b=sb:=e;have:=qG _ y;rw[e]at this;omega
theorem Sx.map(X:Sx h1 sb vs P Q hh ao)(hp:∀ F,P hh F->∃ F',P' hh F'/\∀ b,F' b->F b)(hq:∀ F,Q hh F->∃ F',Q' hh F'/\∀ b,F' b->F b):Sx h1 sb vs P' Q' hh ao:=by
 obtain⟨F,p,pF⟩:=X.x;obtain⟨G,q,qG⟩:=X.y;obtain⟨F',p',e1⟩:=hp F p;obtain⟨G',q',e2⟩:=hq G q;exact⟨X.fr,X.vp,X.base,X.sc,X.so,X.sr,⟨F',p',λb hb=>pF b (e1 b hb)⟩,⟨G',q',λb hb=>qG b (e2 b hb)⟩⟩
end
def sxV(d q t u:OA)(g:G):LV:=[vP d,vP q,vP t,vP u]++g.v
abbrev Xd(h1:ad)(sb:Nat)(d q t u:OA)(g:G)(S:RD):=Sx h1 sb (sxV d q t u g) (λh F=>cw h F d S) (λh F=>Rf.pM h F q S)
abbrev Xt(h1:ad)(sb:Nat)(d q t u:OA)(g:G)(T U:TM):=Sx h1 sb (sxV d q t u g) (λh F=>Tx h F t d T) (λh F=>Rx.jc h F u q U)
theorem YQ{h1:ad}{sb:Nat}{g:G}{T:TM}(X:Xt h1 sb d q t u g T T hh ao):Xd h1 sb d q t u g T.aK hh ao:=
 X.map (λF x=>by obtain⟨D,a,b⟩:=x.dk;exact⟨D,a,b⟩) λF x=>by obtain⟨D,a,b,_⟩:=x.ql;exact⟨D,a,b⟩
end Sx
namespace Sx
open Hp W Ad Tm Bt Spc Av Tp
structure Iw(c U n:Nat)(T:TM):Prop where
 cn:Wc.Cn (200*(c:Int)) T.aK
 tp:T.aK.tape.length<=200*c
 pe:T.aK.bz.length<=200*c
 un:T.ar.length<=U
 n:T.N=n
theorem Iw.le{c' U' n:Nat}{T:TM}(i:Iw c U n T)(h:c<=c')(hU:U<=U'):Iw c' U' n T:=⟨i.cn.mono (by omega),by have:=i.tp;omega,by have:=i.pe;omega,by have:=i.un;omega,i.n⟩
theorem Iw.same{n:Nat}{T T':TM}(i:Iw c U n T)(h:T'.aK=T.aK/\T'.ar.length<=T.ar.length+k):Iw c (U+k) n T':=by
 have hn:T'.N=T.N:=by unfold TM.N;rw[h.1]
 exact⟨by rw[h.1];exact i.cn,by rw[h.1];exact i.tp,by rw[h.1];exact i.pe,by have:=i.un;omega,hn.trans i.n⟩
theorem Iw.new{L:List LB}{n:Nat}(hn:L.length=n):Iw 0 0 n ⟨fresh L,[],[],false⟩:=⟨(Wc.Cn.new L).mono (by omega),nZ0,nZ0,nZ0,hn⟩
theorem Iw.cut{c U n:Nat}{T:TM}(i:Iw c U n T):Iw c U n { T with aK:=if T.aK.down=true then T.aK else T.aK.cut [] }:=by
 by_cases h:T.aK.down=true
 ·rw[if_pos h];exact i
 ·rw[if_neg h];exact⟨⟨i.cn.w0,i.cn.w1,i.cn.f0,i.cn.f1,Int.le_refl _⟩,i.tp,nZ0,i.un,(dX _ _).trans i.n⟩
theorem Iw.gU{c U n:Nat}{T:TM}(i:Iw c U n T)(hc:c<200000){h:ad}{F:NP}{u q:OA}(x:Rx.jc h F u q T):Iw (c+1) U n T.gU.1/\(Wc.AM T.aK T.blocks).1.aB.length=T.N:=by
 have w:=Wc.aax i.cn (by omega) T.blocks;have l:=Wc.Wp T.aK T.blocks;have tp:=i.tp;have pe:=i.pe;refine⟨?_,w.2⟩
 cases hl:T.over with
 | true=>
  have e0:T.gU=(T,61):=by unfold TM.gU;rw[hl,if_pos rfl]
  rw[e0];exact i.le (by omega) nL0
 | false=>
  obtain⟨M,s,y⟩:=x;rw[s.gU hl];refine⟨w.1.mono (by omega),?_,?_,nZ0,w.2.trans i.n⟩
  ·show(Wc.AM T.aK T.blocks).1.tape.length<=_;omega
  ·show(Wc.AM T.aK T.blocks).1.bz.length<=_;omega
section
variable{h1 hh : ad}{sb n c U : Nat}{d q t u : OA}{g : G}{T : TM}{ao : Nat -> Nat}{K : Value -> ad -> Prop}
theorem GW(X:Xt h1 sb d q t u g T T hh ao)(hK:∀ h' ay,Xt h1 sb d q t u g (TM.ended T.aK) (TM.ended T.aK) h' ay->K (.tuple #[]) h') :
  C.gy t hh λr h2=>r = .tuple #[]/\ae (some ⟨sb,0,none⟩) λp=>∃q1:OA,cellOf h2 (Addr.add p 3)=some (vP q1)/\C.dx q1 h2 K:=by
 obtain⟨F,x,hF⟩:=X.x;refine Tm.MK x λh3 F3 f3 g3 x3=>⟨rfl,?_⟩;obtain⟨Ed,ag3,X3⟩:=X.prog (P':=λh F=>Tx h F t d (TM.ended T.aK)) (xQ _ _ _) hF f3 g3 x3;obtain⟨E3,y3,Tl⟩:=X3.y;refine os ⟨_,bJ X3.sr rfl,Rx.Kr y3 λh4 f4 y4=>?_⟩;obtain⟨Ee,ag4,X4⟩:=X3.doc (Q':=λh F=>Rx.jc h F u q (TM.ended T.aK)) (sV _ _ _) Tl f4 (Gw.refl f4.size λb hb=>y3.lt hb) y4;exact hK h4 Ee X4
theorem MN(X:Xt h1 sb d q t u g T T hh ao)(hK:∀ h' ay,Xt h1 sb d q t u g { T with aK:=if T.aK.down=true then T.aK else T.aK.cut [] } { T with aK:=if T.aK.down=true then T.aK else T.aK.cut [] } h' ay->K (.tuple #[]) h') :
  C.fj d none 0 0 hh λr h2=>r = .tuple #[]/\ae (some ⟨sb,0,none⟩) λp=>∃q1:OA,cellOf h2 (Addr.add p 1)=some (vP q1)/\C.cY q1 none 0 0 h2 K:=by
 obtain⟨F,x,hF⟩:=X.x;obtain⟨D,dk,sub,back⟩:=x.ql
 have hl:(if T.aK.down=true then T.aK else T.aK.cut []).aB.length=T.N:=by
  split
  ·rfl
  ·exact dX _ _
 refine Wd.cw.rq (keep:=[]) dk rfl rfl (λp e=>by cases e) λh3 f3 A3=>⟨rfl,?_⟩;obtain⟨F3,gF3,x3⟩:=back h3 D _ f3 (Gw.refl f3.size λb hb=>dk.lt hb) A3 hl;obtain⟨Ed,ag3,X3⟩:=X.prog (P':=λh F=>Tx h F t d { T with aK:=if T.aK.down=true then T.aK else T.aK.cut [] }) (xQ _ _ _) hF (f3.mono λb _ y=>sub b y) gF3 x3;obtain⟨E3,y3,Tl⟩:=X3.y;obtain⟨D4,rk,sub4,aep⟩:=y3.ql;refine os ⟨_,bJ X3.sr rfl,rk.rq (keep:=[]) rfl rfl (by decide) (λp e=>by cases e) λh4 E4 f4 g4 R4=>?_⟩;obtain⟨F4,gF4,y4⟩:=aep h4 E4 _ f4 g4 R4 hl;obtain⟨Ee,ag4,X4⟩:=X3.doc (Q':=λh F=>Rx.jc h F u q { T with aK:=if T.aK.down=true then T.aK else T.aK.cut [] }) (sV _ _ _) Tl (f4.mono λb _ y=>sub4 b y) gF4 y4;exact hK h4 Ee X4
theorem Ip(G:Re.kJ h1)(X:Xt h1 sb d q t u g T T hh ao)(iv:Iw c U n T)(hU:U<800000000)(hc:c<200000){Kf Kt:HP}(hK:∀ h' ay,Xt h1 sb d q t u g T.gU.1 T.gU.1 h' ay->Iw (c+1) U n T.gU.1->Kt h') :
  C.gH t hh λr h2=>∃n:Int,r = vI n/\cellOf h2 (Addr.add ⟨sb,0,none⟩ 3)=some (vP u)/\C.dL u h2 λr2 h3=>∃m:Int,r2 = vI m/\bif(n != m)then Kf h3 else Kt h3:=by
 have un:=iv.un;have tp:=iv.tp;have pe:=iv.pe;obtain⟨F,x,hF⟩:=X.x;obtain⟨E,y,hE⟩:=X.y;refine Tm.qH (G.no X.fr) x (by have:=Kw y;omega) (by omega) (by omega) λh3 F3 f3 g3 x3=>⟨_,rfl,?_⟩;obtain⟨iv3,hW⟩:=iv.gU hc y;obtain⟨Ed,ag3,X3⟩:=X.prog (P':=λh F=>Tx h F t d T.gU.1) (xQ _ _ _) hF f3 g3 x3;obtain⟨E3,y3,Tl⟩:=X3.y;refine⟨bJ X3.sr rfl,Rx.qH y3 (by omega) hW λh4 E4 f4 g4 y4=>⟨_,rfl,cn (λy=>absurd rfl y) λ_=>?_⟩⟩;obtain⟨Ee,ag4,X4⟩:=X3.doc (Q':=λh F=>Rx.jc h F u q T.gU.1) (sV _ _ _) Tl f4 g4 y4;exact hK h4 Ee X4 iv3
theorem mf{P Q:ad->(NP)->Prop}(X:Sx h1 sb (sxV d q t u g) P Q hh ao):aj hh (Addr.add ⟨sb,0,none⟩ 4) g.v:=aj.part (ah X.sr) 4 5
end
end Sx
namespace Bm
open Hp W Ad Tm Bt Spc Re Av
theorem Ov(v:Nat):∀n,AE (br n v)=v%256 ^ n
 | 0=>by show 0=v%1;omega
 | n+1=>by
  have e:br (n+1) v=br n v++[UInt8.ofNat (v/256 ^ n)]:=by unfold br;rw[List.range_succ,List.map_append];rfl
  rw[e,JQ,bB,Ov v n,Nat.mod_pow_succ];have:(UInt8.ofNat (v/256 ^ n)).toNat=v/256 ^ n%256:=by simp
  rw[this,Nat.mul_comm]
def cN(b:cL)(p:Nat):Nat:=AE ((b.drop (4*p)).take 4)
def kH(b:cL)(p v:Nat):cL:=iH b (4*p) (br 4 v)
theorem np(b:cL)(p:Nat):cN b p<4294967296:=by
 have h:=H5 ((b.drop (4*p)).take 4);have hl:((b.drop (4*p)).take 4).length<=4:=by rw[lT0];omega
 exact Nat.lt_of_lt_of_le h (Nat.le_trans (Nat.pow_le_pow_right (by decide) hl) (by decide))
theorem kg{b:cL}{p v:Nat}(hb:b.length=512)(hp:p<128):(kH b p v).length=512:=by
 unfold kH;rw[BG (by rw[bB];omega),hb]
theorem zJ{b z:cL}{q:Nat}(hz:z.length=4)(hb:b.length=512)(ho:4*o+4<=512)(hq:4*q+4<=512):((iH b (4*o) z).drop (4*q)).take 4=if q=o then z else(b.drop (4*q)).take 4:=by
 unfold iH;have l1:(b.take (4*o)).length=4*o:=by rw[lT0];omega
 by_cases h:q=o
 ·rw[if_pos h,h,List.append_assoc,List.drop_append_of_le_length (by omega),List.drop_of_length_le (by omega),List.nil_append,List.take_append_of_le_length (by omega),List.take_of_length_le (by omega)]
 ·rw[if_neg h]
  rcases Nat.lt_or_ge q o with h1|h1
  ·rw[List.append_assoc,List.drop_append_of_le_length (by omega),List.take_append_of_le_length (by rw[lD0];omega),List.drop_take,List.take_take,Nat.min_eq_left (by omega)]
  ·have l2:(b.take (4*o)++z).length=4*o+4:=(by rw[lA0];omega);rw[List.drop_append,List.drop_of_length_le (by omega),List.nil_append,List.drop_drop,l2,hz,show 4*o+4+(4*q-(4*o+4))=4*q by omega]
theorem qK{b:cL}{q v:Nat}(hb:b.length=512)(ho:o<128)(hq:q<128)(hv:v<4294967296):cN (kH b o v) q=if q=o then v else cN b q:=by
 unfold cN kH;rw[zJ (bB 4 v) hb (by omega) (by omega)]
 split
 ·rw[Ov];exact Nat.mod_eq_of_lt hv
 ·rfl
theorem uP(p:Nat):cN aL p=0:=by
 unfold cN aL;rw[List.drop_replicate,List.take_replicate];generalize min 4 (512-4*p)=k
 induction k with
 | zero=>rfl
 | succ k ih=>rw[List.replicate_succ];show(0:UInt8).toNat+256*AE (List.replicate k 0)=0;rw[ih];rfl
def gV(T:TM)(R:List Int)(s:Nat×Nat)(at_:Int):Int×cL×Int:=
 if s.1=0 then(R.getD (3+s.2) 0,[],0)else if s.1=1 then(R.getD 13 0,[],0)else if s.1=2 then(R.getD 14 0,[],0)else
  if(T.read at_).2≠0 then(0,[],(T.read at_).2)else((cN (T.read at_).1 s.2:Nat),(T.read at_).1,0)
def bT(g:G)(v:Int):Int:=if v<g.data∨v>=g.blocks then 100 else 0
def nK(T:TM)(R:List Int)(s:Nat×Nat)(at_:Int)(b:cL)(v:Int):(TM×List Int)×Int:=
 if s.1=0 then((T,R.set (3+s.2) v),0)else if s.1=1 then((T,R.set 13 v),0)else if s.1=2 then((T,R.set 14 v),0)else
  (((T.write at_ (kH b s.2 v.toNat)).1,R),(T.write at_ (kH b s.2 v.toNat)).2)
def nY(T:TM)(g:G)(R:List Int):List (Nat×Nat)->Int->Int×Int
 | [],a=>(a,0)
 | s::r,a=>if(gV T R s a).2.2≠0 then(0,(gV T R s a).2.2)else if(gV T R s a).1=0 then(0,0)else
   if bT g (gV T R s a).1≠0 then(0,bT g (gV T R s a).1)else nY T g R r (gV T R s a).1
def bU(g:G):List (Nat×Nat)->TM->List Int->Int->(TM×List Int)×Int×Int
 | [],T,R,a=>((T,R),a,0)
 | s::r,T,R,a=>if(gV T R s a).2.2≠0 then((T,R),0,(gV T R s a).2.2)else if(gV T R s a).1≠0 then
   if bT g (gV T R s a).1≠0 then((T,R),0,bT g (gV T R s a).1)else bU g r T R (gV T R s a).1
  else if(aP T g).2.2≠0 then(((aP T g).1,R),0,(aP T g).2.2)else
   if(nK (aP T g).1 R s a (gV T R s a).2.1 (aP T g).2.1).2≠0 then((nK (aP T g).1 R s a (gV T R s a).2.1 (aP T g).2.1).1,0,(nK (aP T g).1 R s a (gV T R s a).2.1 (aP T g).2.1).2)else
   if(aP T g).2.1=0 then((nK (aP T g).1 R s a (gV T R s a).2.1 (aP T g).2.1).1,0,0)else
   if bT g (aP T g).2.1≠0 then((nK (aP T g).1 R s a (gV T R s a).2.1 (aP T g).2.1).1,0,bT g (aP T g).2.1)else
    bU g r (nK (aP T g).1 R s a (gV T R s a).2.1 (aP T g).2.1).1.1 (nK (aP T g).1 R s a (gV T R s a).2.1 (aP T g).2.1).1.2 (aP T g).2.1
def eV(k:Nat):List (Nat×Nat):=if k<10 then[(0,k)]else if k<138 then[(1,0),(3,k-10)]else[(2,0),(3,(k-138)/128),(3,(k-138)%128)]
def kS : List Int:=List.replicate 15 0
def fH(T:TM)(g:G)(R:List Int)(k:Int):Int×Int:=if k<0∨k>=16522 then(0,101)else nY T g R (eV k.toNat) 0
def fL(T:TM)(g:G)(R:List Int)(k:Int):TM×List Int×Int×Int:=
 if k<0∨k>=16522 then(T,kS,0,101)else
  if(bU g (eV k.toNat) T R 0).2.2≠0 then(((bU g (eV k.toNat) T R 0).1.1.back T.ar.length).1,kS,0,(bU g (eV k.toNat) T R 0).2.2)
   else((bU g (eV k.toNat) T R 0).1.1,(bU g (eV k.toNat) T R 0).1.2,(bU g (eV k.toNat) T R 0).2.1,0)
theorem zK(T:TM)(R:List Int)(p:Nat)(a:Int):gV T R (3,p) a=if(T.read a).2≠0 then((0:Int),([]:cL),(T.read a).2)else(((cN (T.read a).1 p:Nat):Int),(T.read a).1,(0:Int)):=rfl
end Bm
namespace In
open Go Go.Proofs Re Hd
def kS : List Int:=List.replicate 15 0
def kindOk(k l s:Int)(R:List Int):Bool:=
 if k=0 then decide (R=kS)else if k=1 then(decide (0<=l) && decide (l<=1000)) && (decide (0<=s) && decide (s<=8459264))
 else if k=2 then(decide (2<=l) && decide (l<=65535)) && ((decide (0<=s) && decide (s<=8459264)) && decide (s%512=0))
 else if k=3 then(decide (1<=l) && decide (l<=1000)) && (decide (1<=s) && decide (s<=1024))else false
def nL(n:Int):Bool:=decide (0<=n) && decide (n<=4294967295)
def oM(R:List Int):Bool:=(R.drop 3).all nL && kindOk (R.getD 0 0) (R.getD 1 0) (R.getD 2 0) R
def lP(R:List Int):LB:=br 1 (R.getD 0 0).toNat++([0]++(br 2 (R.getD 1 0).toNat++(br 4 (R.getD 2 0).toNat++(bW (R.drop 3)++aL 8))))
def kV(bs:LB):List Int:=[(jO bs 0 1:Int),(jO bs 2 2:Int),(jO bs 4 4:Int)]++(List.range 12).map λi=>(jO bs (8+4*i) 4:Int)
theorem mT(bs:LB):(kV bs).length=15:=by rw[kV,lA0,lM0,List.length_range];rfl
def clean(bs:LB):Bool:=lG ((bs.drop 1).take 1) && lG ((bs.drop 56).take 8)
def sx(bs:LB):Bool:=clean bs && oM (kV bs)
def qL(bs:LB):List Int×Int:=if bs.length≠64 then(kS,32)else if sx bs then(kV bs,0)else(kS,111)
theorem wz{R:List Int}(h:R.length=15)(m:oM R=true):0<=R.getD 0 0/\R.getD 0 0<=3/\0<=R.getD 1 0/\R.getD 1 0<=65535/\0<=R.getD 2 0/\R.getD 2 0<=8459264/\∀n∈R.drop 3,0<=n/\n<=4294967295:=by
 rw[oM,Bool.and_eq_true]at m
 have hw:∀n∈R.drop 3,0<=n/\n<=4294967295:=λn hn=>by
  have:=List.all_eq_true.mp m.1 n hn;rw[nL,Bool.and_eq_true,decide_eq_true_eq,decide_eq_true_eq]at this;exact this
 have k:=m.2;unfold kindOk at k
 split at k
 ·rename_i h0;have e:=of_decide_eq_true k;subst e;refine⟨by decide,by decide,by decide,by decide,by decide,by decide,hw⟩
 ·split at k
  ·simp only[Bool.and_eq_true,decide_eq_true_eq]at k;exact⟨by omega,by omega,by omega,by omega,by omega,by omega,hw⟩
  ·split at k
   ·simp only[Bool.and_eq_true,decide_eq_true_eq]at k;exact⟨by omega,by omega,by omega,by omega,by omega,by omega,hw⟩
   ·split at k
    ·simp only[Bool.and_eq_true,decide_eq_true_eq]at k;exact⟨by omega,by omega,by omega,by omega,by omega,by omega,hw⟩
    ·cases k
theorem sW{R:List Int}(h:R.length=15):(lP R).length=64:=by
 simp only[lP,lA0,bB,ji,eM,lD0,h,List.length_singleton]
theorem MO{R:List Int}(h:R.length=15):(lP R).drop 1=[0]++(br 2 (R.getD 1 0).toNat++(br 4 (R.getD 2 0).toNat++(bW (R.drop 3)++aL 8)))/\(lP R).drop 2=br 2 (R.getD 1 0).toNat++(br 4 (R.getD 2 0).toNat++(bW (R.drop 3)++aL 8))/\
  (lP R).drop 4=br 4 (R.getD 2 0).toNat++(bW (R.drop 3)++aL 8)/\(lP R).drop 8=bW (R.drop 3)++aL 8/\(lP R).drop 56=aL 8:=by
 have d1:(lP R).drop 1=[0]++(br 2 (R.getD 1 0).toNat++(br 4 (R.getD 2 0).toNat++(bW (R.drop 3)++aL 8))):=zy (bB 1 _);have d2:(lP R).drop 2=br 2 (R.getD 1 0).toNat++(br 4 (R.getD 2 0).toNat++(bW (R.drop 3)++aL 8)):=by rw[show 2=1+1 by rfl,<-List.drop_drop,d1];rfl
 have d4:(lP R).drop 4=br 4 (R.getD 2 0).toNat++(bW (R.drop 3)++aL 8):=by rw[show 4=2+2 by rfl,<-List.drop_drop,d2];exact zy (bB 2 _)
 have d8:(lP R).drop 8=bW (R.drop 3)++aL 8:=by rw[show 8=4+4 by rfl,<-List.drop_drop,d4];exact zy (bB 4 _)
 refine⟨d1,d2,d4,d8,?_⟩;rw[show 56=8+48 by rfl,<-List.drop_drop,d8];exact zy (by rw[ji,lD0,h])
theorem PZ(bs:LB):∀k,8+4*k<=bs.length->bW ((List.range k).map λi=>(jO bs (8+4*i) 4:Int))=(bs.drop 8).take (4*k):=by
 intro k
 induction k with
 | zero=>intro _;rfl
 | succ k ih=>
  intro hk;have e:=ih (by omega);rw[List.range_succ,List.map_append,bW,List.flatMap_append];rw[bW]at e;rw[e];have l4:((bs.drop (8+4*k)).take 4).length=4:=by rw[lT0,lD0];omega
  have:br 4 (jO bs (8+4*k) 4)=(bs.drop (8+4*k)).take 4:=by
   have:=zx ((bs.drop (8+4*k)).take 4);rw[l4]at this;exact this
  show _++(br 4 ((jO bs (8+4*k) 4:Int)).toNat++[])=_;rw[tN0,this,List.append_nil,show 4*(k+1)=4*k+4 by omega,List.take_add,List.drop_drop]
theorem Ow{xs:LB}(h:lG xs=true):xs=aL xs.length:=Ff h
theorem Kx(hb:bs.length=64):lP (kV bs)=bs↔clean bs=true:=by
 have g0:br 1 (jO bs 0 1)=bs.take 1:=by
  have:=zx (bs.take 1);rw[lT0,show min 1 bs.length=1 by omega]at this;rw[jO,List.drop_zero];exact this
 have g1:br 2 (jO bs 2 2)=(bs.drop 2).take 2:=by
  have:=zx ((bs.drop 2).take 2);rw[lT0,lD0,show min 2 (bs.length-2)=2 by omega]at this;exact this
 have g2:br 4 (jO bs 4 4)=(bs.drop 4).take 4:=by
  have:=zx ((bs.drop 4).take 4);rw[lT0,lD0,show min 4 (bs.length-4)=4 by omega]at this;exact this
 have g3:bW ((kV bs).drop 3)=(bs.drop 8).take 48:=by
  have:=PZ bs 12 (by omega);exact this
 have ee:lP (kV bs)=bs.take 1++([0]++((bs.drop 2).take 2++((bs.drop 4).take 4++((bs.drop 8).take 48++aL 8)))):=by
  rw[lP,g3];show br 1 ((jO bs 0 1:Nat):Int).toNat++([0]++(br 2 ((jO bs 2 2:Nat):Int).toNat++(br 4 ((jO bs 4 4:Nat):Int).toNat++_)))=_;rw[tN0,tN0,tN0,g0,g1,g2]
 have eb:bs=bs.take 1++((bs.drop 1).take 1++((bs.drop 2).take 2++((bs.drop 4).take 4++((bs.drop 8).take 48++(bs.drop 56).take 8)))):=by
  have t8:(bs.drop 56).take 8=bs.drop 56:=List.take_of_length_le (by rw[lD0];omega);rw[t8];have s1:=sj bs 8 48;have s2:=sj bs 4 4;have s3:=sj bs 2 2;have s4:=sj bs 1 1;have s5:=sj bs 0 1;rw[List.drop_zero]at s5
  conv=>lhs;rw[s5,s4,s3,s2,s1]
 have l1:((bs.drop 1).take 1).length=1:=by rw[lT0,lD0];omega
 have l8:((bs.drop 56).take 8).length=8:=by rw[lT0,lD0];omega
 constructor
 ·intro h;obtain⟨d1,_,_,_,d56⟩:=MO (mT bs);rw[<-congrArg clean h,clean,d1,d56];rfl
 ·intro h;rw[clean,Bool.and_eq_true]at h;have z1:=Ow h.1;have z2:=Ow h.2;rw[l1]at z1;rw[l8]at z2;rw[ee]
  conv=>rhs;rw[eb,z1,z2]
  rfl
end In
end Go.Proofs.YtjdcbblgaoogmaaGreatDoor
