/- walkExact_card -/
import Derived.Shelf.Spec.BuilderWrite
import Derived.Ground.NamesProg
import Derived.Test.YtiapingedfnlnaaGreatDoorGp3
namespace Go.Proofs.YtiapingedfnlnaaGreatDoor
open Go Go.Proofs Wx
variable{i r b k tb l c n s q p j fb off o m bl bc cl cc cb:Nat}{h h' h0 hh Xp:ab}{F:NP}{az bT:Nat->Nat}{d t a ba ca:OA}{K:KT}{bs ss:LB}{P:Program}{args xs:LV}{R:List Int}{e:Int}
namespace Tm
open Hp W Ad
abbrev ay :=LB
def rz{α:Type}:List (Int×α)->Int->Option α
 | [],_=>none
 | (k,v)::r,x=>bif x==k then some v else rz r x
def acf{α:Type}:List (Int×α)->Int->α->List (Int×α)
 | [],x,v=>[(x,v)]
 | (k,u)::r,x,v=>bif x==k then(x,v)::r else(k,u)::acf r x v
def acg{α:Type}:List (Int×α)->Int->List (Int×α)
 | [],_=>[]
 | (k,u)::r,x=>bif x==k then r else(k,u)::acg r x
theorem Bj{α:Type}{i:Int}{v:α}:∀{m:List (Int×α)},rz m i=some v->(i,v)∈m
 | [],h=>by cases h
 | (k,u)::r,h=>by
  have h:(bif i==k then some u else rz r i)=some v:=h
  by_cases e:i=k
  ·rw[e,beq_self_eq_true]at h
   cases h
   rw[e];exact List.mem_cons_self ..
  ·rw[beq_eq_false_iff_ne.mpr e]at h;exact List.mem_cons_of_mem _ (Bj h)
theorem Hh{α β:Type}(f:α->β)(i:Int):∀m:List (Int×α),rz (m.map λp=>(p.1,f p.2)) i=(rz m i).map f
 | []=>rfl
 | (k,u)::r=>by
  show(bif i==k then some (f u)else rz (r.map λp=>(p.1,f p.2)) i)=(bif i==k then some u else rz r i).map f;rw[Hh f i r]
  cases i==k <;> rfl
def mm{α:Type}(f:α->Value)(m:List (Int×α)):qj:=m.map λp=>(.i p.1,f p.2)
theorem Lt{α:Type}(f:α->Value)(i:Int):∀m:List (Int×α),rQ (mm f m) (.i i)=(rz m i).map f
 | []=>rfl
 | (k,u)::r=>by
  show(bif i==k then some (f u)else rQ (mm f r) (.i i))=(bif i==k then some u else rz r i).map f;rw[Lt f i r]
  cases i==k <;> rfl
theorem MX{α:Type}(f:α->Value)(m:List (Int×α)):(mm f m).length=m.length:=List.length_map ..
abbrev DI : D:=.int .i64
theorem map_lt{d:D}{m:qj}(a:kK d h r m):r<h.size:=by
 obtain⟨es,ck,e,_⟩:=a;exact(Array.getElem?_eq_some_iff.mp e).1
theorem JC{d:D}{m:qj}(a:kK d h r m)(f:Fr F h h')(hF:¬ F r):kK d h' r m:=by
 have hl:=map_lt a;obtain⟨es,ck,e,q⟩:=a;exact⟨es,ck,(f.same r hl hF).trans e,q⟩
theorem DJ(h:ab):(EE h).size=h.size+1:=by simp[EE]
theorem Ur(h:ab):Fr No h (EE h):=⟨by rw[DJ];omega,λb hb _=>by simp only[EE];rw[Array.getElem?_push,if_neg (by omega)]⟩
theorem Us(h:ab):kK DI (EE h) h.size []:=⟨#[],0,by simp[EE],rfl,(λp hp=>by cases hp),MapKept.stamped_empty 0⟩
structure TM where
 oB:RD
 put:List (Int×ay)
 Fu:List (Int×Option ay)
 over:Bool
def TM.N(T:TM):Nat:=T.oB.dg.length
def TM.get(T:TM)(i:Int):ay×Int:=match rz T.put i with
 | some b=>(b,0)
 | none=>if T.oB.down=true then([],30)else(j5 T.oB i.toNat,0)
theorem TM.get_some{T:TM}{i:Int}{b:ay}(e:rz T.put i=some b):T.get i=(b,0):=by unfold TM.get;rw[e]
theorem TM.get_none{T:TM}{i:Int}(e:rz T.put i=none):T.get i=if T.oB.down=true then([],30)else(j5 T.oB i.toNat,0):=by unfold TM.get;rw[e]
def TM.read(T:TM)(i:Int):ay×Int:=
 if T.over=true then([],61)else if i<0∨i>=T.N then([],31)else T.get i
def ach(m:List (Int×ay))(u:Int×Option ay):List (Int×ay):=match u.2 with
 | some b=>acf m u.1 b
 | none=>acg m u.1
def uV(m:List (Int×ay))(us:List (Int×Option ay)):List (Int×ay):=us.foldr (λu m=>ach m u) m
structure Sc where
 a:OA
 l:Nat
 c:Nat
def Sc.v(s:Sc):Value:=.slice s.a s.l s.c
structure Blk(h:ab)(az:Nat->Nat)(k:Nat)(x:Sc×ay):Prop where
 s:aJ h x.1.a x.1.l x.2
 l:x.2.length=512
 at_:∀p,x.1.a=some p->p.block<h.size/\az p.block=k
theorem Blk.gL{x:Sc×ay}(b:Blk h az k x)(f:Fr F h h')(g:Ag h.size az bT)(hF:∀ b,b<h.size->az b=k->¬ F b):Blk h' bT k x:=
 ⟨aJ.fr f b.s λp e=>hF _ (b.at_ p e).1 (b.at_ p e).2,b.l,λp e=>⟨Nat.lt_of_lt_of_le (b.at_ p e).1 f.size,(g _ (b.at_ p e).1).trans (b.at_ p e).2⟩⟩
structure UR where
 i:Int
 was:Option (Sc×ay)
 ok:Nat
 w:Nat
 tc:Nat
 ic:Nat
def UR.v(u:UR):Value:=.func (.func 188) #[] ⟨[.pointer (some ⟨u.ok,0,none⟩),.pointer (some ⟨u.w,0,none⟩),.pointer (some ⟨u.tc,0,none⟩),.pointer (some ⟨u.ic,0,none⟩)]⟩
def wasV(w:Option (Sc×ay)):Value:=match w with
 | some x=>x.1.v
 | none=>.slice none 0 0
structure Und(h:ab)(az:Nat->Nat)(tb:Nat)(u:UR):Prop where
 ok:rd h u.ok=[.bool u.was.isSome]
 w:rd h u.w=[wasV u.was]
 tc:rd h u.tc=[.pointer (some ⟨tb,0,none⟩)]
 ic:rd h u.ic=[.int .i64 u.i]
 at_:∀b,b=u.ok∨b=u.w∨b=u.tc∨b=u.ic->b<h.size/\az b=4
 b:∀x,u.was=some x->Blk h az 4 x
theorem Und.gL{h h':ab}{az bT:Nat->Nat}{tb:Nat}{u:UR}{F:NP}(a:Und h az tb u)(f:Fr F h h')(g:Ag h.size az bT)(hF:∀ b,b<h.size->az b=4->¬ F b):Und h' bT tb u:=by
 have k:∀b,b=u.ok∨b=u.w∨b=u.tc∨b=u.ic->rd h' b=rd h b:=λb hb=>f.rd (a.at_ b hb).1 (hF b (a.at_ b hb).1 (a.at_ b hb).2);exact⟨(k _ (by simp)).trans a.ok,(k _ (by simp)).trans a.w,(k _ (by simp)).trans a.tc,(k _ (by simp)).trans a.ic,λb hb=>⟨Nat.lt_of_lt_of_le (a.at_ b hb).1 f.size,(g _ (a.at_ b hb).1).trans (a.at_ b hb).2⟩,λx e=>(a.b x e).gL f g hF⟩
structure TR where
 tb:Nat
 mb:Nat
 ua:OA
 uc:Nat
 ps:List (Int×(Sc×ay))
 us:List UR
structure TxC(h:ab)(az:Nat->Nat)(d:OA)(r:TR)(T:TM):Prop where
 Ut:∀b,h.size<=b->az b=0
 sc:az r.tb=1
 own:du h r.tb
 cell:rd h r.tb=[.pointer d,.map (some r.mb),.slice r.ua r.us.length r.uc,.bool false]
 mc:az r.mb=2
 map:kK DI h r.mb (mm (λx=>x.1.v) r.ps)
 un:Sl h 1 r.ua r.us.length r.uc (r.us.map UR.v) (On az 3)
 pok:∀p∈r.ps,Blk h az 4 p.2
 uok:∀u∈r.us,Und h az r.tb u
 put:T.put=r.ps.map λp=>(p.1,p.2.2)
 Fu:T.Fu=r.us.map λu=>(u.i,u.was.map (·.2))
 live:T.over=false
 dk:jB h (λb=>az b=5) d T.oB
 pk:∀p∈T.put,98<=p.1/\p.1<T.N
 ui:∀u∈r.us,98<=u.i/\u.i<T.N
structure TxO(h:ab)(az:Nat->Nat)(d:OA)(tb:Nat)(T:TM):Prop where
 Ut:∀b,h.size<=b->az b=0
 sc:az tb=1
 own:du h tb
 cell:rd h tb=[.pointer d,.map none,.slice none 0 0,.bool true]
 gone:T.put=[]/\T.Fu=[]
 over:T.over=true
 dk:jB h (λb=>az b=5) d T.oB
def Tx(h:ab)(F:NP)(t d:OA)(T:TM):Prop:=
 (∃az r,t=some ⟨r.tb,0,none⟩/\TxC h az d r T/\∀b,F b↔1<=az b/\az b<=5)∨(∃az tb,t=some ⟨tb,0,none⟩/\TxO h az d tb T/\∀b,F b↔1<=az b/\az b<=5)
theorem TxC.gL{h h':ab}{az bT:Nat->Nat}{d:OA}{r:TR}{T:TM}{F:NP}(t:TxC h az d r T)(f:Fr F h h')(g:Ag h.size az bT)(hz:∀ b,h'.size<=b->bT b=0)(hn:∀ b,h.size<=b->¬ (1<=bT b/\bT b<=5))(hF:∀ b,b<h.size->1<=az b->az b<=5->¬ F b):TxC h' bT d r T:=by
 have hl:=t.own.lt;have s1:=t.sc;have s2:=t.mc;have ml:=map_lt t.map;have k4:∀b,b<h.size->az b=4->¬F b:=λb hb e=>hF b hb (by omega) (by omega)
 refine⟨hz,(g _ hl).trans s1,f.own hl (hF _ hl (by omega) (by omega)) t.own,(f.rd hl (hF _ hl (by omega) (by omega))).trans t.cell,(g _ ml).trans s2,JC t.map f (hF _ ml (by omega) (by omega)),?_,
  λp hp=>(t.pok p hp).gL f g k4,λu hu=>(t.uok u hu).gL f g k4,t.put,t.Fu,t.live,?_,t.pk,t.ui⟩
 ·have s':=Hp.Sl.fr f t.un (λb hb hk=>hF b hb (by have hk:az b=3:=hk;omega) (by have hk:az b=3:=hk;omega));obtain⟨h1,h2⟩:=s';refine⟨h1,?_⟩;have ul:=t.un
  revert h2 ul
  cases r.ua with
  | none=>intro h2 _;exact h2
  | some p=>intro h2 ul;obtain⟨a1,a2,a3,a4⟩:=h2;exact⟨a1,(g _ ul.lt).trans a2,a3,a4⟩
 ·refine(t.dk.fr f λb hb=>hF b (t.dk.lt hb) (by have hb:az b=5:=hb;omega) (by have hb:az b=5:=hb;omega)).iff λb=>?_
  rcases Nat.lt_or_ge b h.size with h1|h1
  ·show bT b=5↔az b=5;rw[g b h1]
  ·have:=hn b h1;have:=t.Ut b h1;show bT b=5↔az b=5;omega
theorem TxO.gL{T:TM}(t:TxO h az d tb T)(f:Fr F h h')(hF:∀ b,b<h.size->1<=az b->az b<=5->¬ F b):TxO h' az d tb T:=by
 have hl:=t.own.lt;have s1:=t.sc;have hs:=f.size
 exact⟨λb hb=>t.Ut b (by omega),s1,f.own hl (hF _ hl (by omega) (by omega)) t.own,(f.rd hl (hF _ hl (by omega) (by omega))).trans t.cell,t.gone,t.over,
  t.dk.fr f λb hb=>hF b (t.dk.lt hb) (by have hb:az b=5:=hb;omega) (by have hb:az b=5:=hb;omega)⟩
theorem Tx.lt{T:TM}(x:Tx h F t d T){b:Nat}(hb:F b):b<h.size:=by
 rcases Nat.lt_or_ge b h.size with h1|h1
 ·exact h1
 ·exfalso
  rcases x with⟨az,r,_,c,hF⟩|⟨az,tb,_,c,hF⟩
  ·have:=(hF b).mp hb;rw[c.Ut b h1]at this;omega
  ·have:=(hF b).mp hb;rw[c.Ut b h1]at this;omega
theorem Tx.fr{G:NP}{T:TM}(x:Tx h F t d T)(f:Fr G h h')(hG:∀ b,F b->¬ G b):Tx h' F t d T:=by
 have hs:=f.size
 rcases x with⟨az,r,e,c,hF⟩|⟨az,tb,e,c,hF⟩
 ·exact .inl ⟨az,r,e,c.gL f (Ag.refl _ _) (λb hb=>c.Ut b (by omega)) (λb hb y=>by rw[c.Ut b hb]at y;omega) λb _ h1 h2=>hG b ((hF b).mpr ⟨h1,h2⟩),hF⟩
 ·exact .inr ⟨az,tb,e,c.gL f λb _ h1 h2=>hG b ((hF b).mpr ⟨h1,h2⟩),hF⟩
theorem Tx.no{T:TM}(x:Tx h F t d T)(f:Fr No h h'):Tx h' F t d T:=x.fr f λ_ _ y=>y
theorem Tx.dk{h:ab}{F:NP}{t d:OA}{T:TM}(x:Tx h F t d T):∃D,jB h D d T.oB/\∀b,D b->F b:=by
 rcases x with⟨az,r,e,c,hF⟩|⟨az,tb,e,c,hF⟩
 ·exact⟨_,c.dk,λb hb=>(hF b).mpr (by have hb:az b=5:=hb;omega)⟩
 ·exact⟨_,c.dk,λb hb=>(hF b).mpr (by have hb:az b=5:=hb;omega)⟩
theorem oe{α:Type}{a:Option α}{p:α}{k:α->Prop}(e:a=some p)(h:k p):ae a k:=by rw[e];exact h
theorem PL(D:NP)(x y:Nat):∃c:Nat->Nat,(∀b,D b->c b=x)/\∀b,¬D b->c b=y:=
 ⟨λb=>@ite _ (D b) (Classical.propDecidable _) x y,λb h=>if_pos h,λb h=>if_neg h⟩
theorem wz{D:NP}{S:RD}(a:jB h D d S)
  (hK:∀tb h' F,Fr No h h'->Gw h D h' F->Tx h' F (some ⟨tb,0,none⟩) d ⟨S,[],[],false⟩->K (.pointer (some ⟨tb,0,none⟩)) h'):C.nH d h K:=by
 refine nH.ok ?_;show aC _ _ (EE h) _;refine aC.intro λh3 n3=>?_;have sm:=DJ h;have s3:=n3.size;have F:=(Ur h).new n3;have e:=n3.rd;have o:=n3.own;rw[sm]at e o ⊢;obtain⟨c,c1,c2⟩:=PL D 5 0;have dh:∀b,D b->b<h.size:=λb hb=>a.lt hb;have cz:∀b,h.size<=b->c b=0:=λb hb=>c2 b λx=>by have:=dh b x;omega
 have cr:∀b,1<=c b->D b:=λb x=>by
  by_cases hd:D b
  ·exact hd
  ·rw[c2 b hd]at x;omega
 have cd:∀b,c b=5↔D b:=λb=>⟨λx=>cr b (by omega),c1 b⟩
 obtain⟨az,k1,k2,k3⟩:∃az:Nat->Nat,(∀b,b≠h.size->b≠h.size+1->az b=c b)/\az h.size=2/\az (h.size+1)=1:=
  ⟨λb=>if b=h.size then 2 else if b=h.size+1 then 1 else c b,λb x y=>by show(if _ then _ else if _ then _ else _)=_;rw[if_neg x,if_neg y],if_pos rfl,by show(if _ then _ else if _ then _ else _)=_;rw[if_neg (by omega),if_pos rfl]⟩
 refine hK (h.size+1) h3 (λb=>1<=az b/\az b<=5) F ⟨λb hb=>?_,λb hb=>?_⟩ (.inl ⟨az,⟨h.size+1,h.size,none,0,[],[]⟩,rfl,⟨λb hb=>?_,k3,o,e,k2,JC (Us h) n3.fr λx=>x,Sl.nil _ _ _,λp hp=>(by cases hp),λu hu=>(by cases hu),rfl,rfl,rfl,?_,λp hp=>(by cases hp),λu hu=>(by cases hu)⟩,λb=>Iff.rfl⟩)
 ·show 1<=az b/\az b<=5↔D b;rw[k1 b (by omega) (by omega)];exact⟨λx=>cr b x.1,λx=>by rw[c1 b x];omega⟩
 ·have hb:1<=az b/\az b<=5:=hb
  by_cases x:b=h.size
  ·omega
  ·by_cases y:b=h.size+1
   ·omega
   ·rw[k1 b x y]at hb;have:=dh b (cr b hb.1);omega
 ·rw[k1 b (by omega) (by omega)];exact cz b (by omega)
 ·refine(a.no F).iff λb=>?_;show az b=5↔D b
  by_cases x:b=h.size
  ·subst x;rw[k2];exact⟨λx=>(by omega),λx=>by have:=dh _ x;omega⟩
  ·by_cases y:b=h.size+1
   ·subst y;rw[k3];exact⟨λx=>(by omega),λx=>by have:=dh _ x;omega⟩
   ·rw[k1 b x y];exact cd b
theorem MY(B:aJ h a l bs)(hl:l<=140737488355328)
  (hK:∀a' c' h',Fr No h h'->Sl h' 1 a' l c' (bs.map bv) (bZ h.size)->K (.slice a' l c') h'):C.cU a l c h K:=JA B hl hK
theorem fM{T:TM}{i:Int}(x:Tx h F t d T)
  (hK:∀a l c h',Fr No h h'->l=(T.read i).1.length->Sl h' 1 a l c ((T.read i).1.map bv) (bZ h.size)->K (.tuple #[.slice a l c,.int .i64 (T.read i).2]) h'):C.eA t i h K:=by
 rcases x with⟨az,r,rfl,c,hF⟩|⟨az,tb,rfl,c,hF⟩
 ·refine eA.ok (os ⟨_,bW c.cell rfl,cf rfl ?_⟩)
  have e0:T.read i=if i<0∨i>=T.N then([],31)else T.get i:=by
   unfold TM.read;rw[c.live,if_neg (by simp)]
  have bad:(i<0∨i>=T.N)->K (.tuple #[.slice none 0 0,.int .i64 31]) h:=λhb=>by
   rw[e0,if_pos hb]at hK;exact hK none 0 0 h (Fr.refl _ _) rfl (Sl.nil _ _ _)
  refine cd (λhn=>bad (.inl hn)) λh0=>os ⟨_,bW c.cell rfl,c.dk.blocks ⟨_,rfl,cd (λhn=>bad (.inr hn)) λh1=>?_⟩⟩
  have e1:¬(i<0∨i>=T.N):=by
   rintro(x|x)
   ·exact h0 x
   ·exact h1 x
  rw[e0,if_neg e1]at hK;unfold eA.k1;refine os ⟨_,bW c.cell rfl,_,c.map,?_⟩;dsimp only;rw[Lt];have aci:rz T.put i=(rz r.ps i).map (·.2):=by rw[c.put];exact Hh (λx:Sc×ay=>x.2) i r.ps
  cases e:rz r.ps i with
  | none=>
   rw[TM.get_none (by rw[aci,e];rfl)]at hK;refine⟨none,0,0,rfl,cf rfl (os ⟨_,bW c.cell rfl,c.dk.read (λhd=>?_) (λ_ Yk=>absurd ⟨by omega,by have:¬i>=(T.N:Int):=h1;have e:T.N=T.oB.dg.length:=rfl;omega⟩ Yk) λhd _ _ b h' f s hl=>?_⟩)⟩
   ·rw[if_pos hd]at hK;exact⟨_,_,_,_,rfl,hK none 0 0 h (Fr.refl _ _) rfl (Sl.nil _ _ _)⟩
   ·rw[if_neg (by rw[hd];simp)]at hK;exact⟨_,_,_,_,rfl,hK _ 512 512 h' f hl.symm s⟩
  | some x=>
   rw[TM.get_some (b:=x.2) (by rw[aci,e];rfl)]at hK;have B:=c.pok _ (Bj e);have B:Blk h az 4 x:=B;have hl:x.1.l=512:=(by rw[<-B.s.1];exact B.l);refine⟨x.1.a,x.1.l,x.1.c,rfl,ct rfl (MY B.s (by omega) λa' c' h' f s=>⟨_,_,_,rfl,?_⟩)⟩;exact hK a' x.1.l c' h' f B.s.1.symm s
 ·refine eA.ok (os ⟨_,bW c.cell rfl,ct rfl ?_⟩);have e0:T.read i=([],61):=by unfold TM.read;rw[c.over,if_pos rfl]
  rw[e0]at hK;exact hK none 0 0 h (Fr.refl _ _) rfl (Sl.nil _ _ _)
end Tm
namespace Spc
open Hp W Ad Tm
theorem xB{i:Int}:∀(ps:List (Int×LB)) (b:LB),b.length=512->(∀p∈ps,p.2.length=512)->(ik b i ps).length=512
 | [],b,h,_=>h
 | p::r,b,h,hp=>by
  show(ik (if p.1=i then p.2 else b) i r).length=512;refine xB r _ ?_ λq hq=>hp q (List.mem_cons_of_mem _ hq)
  split
  ·exact hp p (List.mem_cons_self ..)
  ·exact h
theorem jB.mZ{D:NP}{S:RD}(a:jB h D d S){i:Nat}(hi:i<S.dg.length):(j5 S i).length=512:=by
 obtain⟨az,⟨b,r,es,_,P⟩,_⟩:=a;refine xB _ _ ?_ P.pw;rw[List.getD_eq_getElem?_getD,List.getElem?_eq_getElem hi];exact P.lw _ (List.getElem_mem hi)
theorem Tx.Zg{T:TM}(x:Tx h F t d T):∀p∈T.put,p.2.length=512:=by
 rcases x with⟨az,r,_,c,_⟩|⟨az,tb,_,c,_⟩
 ·intro p hp;rw[c.put]at hp;obtain⟨q,hq,rfl⟩:=List.mem_map.mp hp;exact(c.pok q hq).l
 ·intro p hp;rw[c.gone.1]at hp;cases hp
theorem Tx.mZ{h:ab}{F:NP}{t d:OA}{T:TM}(x:Tx h F t d T){i:Int}(e:(T.read i).2=0):(T.read i).1.length=512:=by
 obtain⟨D,dk,_⟩:=x.dk;unfold TM.read at e ⊢
 split at e
 ·cases e
 ·rename_i h1;rw[if_neg h1]
  split at e
  ·cases e
  ·rename_i h2;rw[if_neg h2]
   cases eg:rz T.put i with
   | some b=>rw[TM.get_some eg];exact Tx.Zg x _ (Bj eg)
   | none=>
    rw[TM.get_none eg]at e ⊢
    split at e
    ·cases e
    ·rename_i h3;rw[if_neg h3];exact jB.mZ dk (by have:T.N=T.oB.dg.length:=rfl;omega)
theorem TM.MZ{T:TM}(h:T.over=false)(i:Int):T.read i=if i<0∨i>=T.N then([],31)else T.get i:=by
 unfold TM.read;rw[if_neg (by rw[h];simp)]
end Spc
namespace Rg
open Hp
theorem ub{k k':KT}(y:mj P l args h k)(hk:∀ v h',k v h'->k' v h'):mj P l args h k':=
 λw hw=>by
  obtain⟨fn,tmps,a,b,h1,h2⟩:=y w hw;exact⟨fn,tmps,a,b,h1,h2.mono λ_ _ ⟨v,e,r,x⟩=>⟨v,e,r,hk v _ x⟩⟩
theorem pC{R:Loop}{st:LoopState}{p:Option Code}(o:br h l R st p):l<h.size:=(Array.getElem?_eq_some_iff.mp o).1
theorem cH{R:Loop}{st:LoopState}{p:Option Code}(o:br h l R st p)(f:Fr F h h')(hF:¬ F l):br h' l R st p:=(f.same l (pC o) hF).trans o
theorem xC(h:ab)(l:Nat)(R:Loop)(st:LoopState)(p:Option Code):(cZ h l R st p).size=h.size:=by simp[cZ]
theorem JD(h:ab)(l:Nat)(R:Loop)(st:LoopState)(p:Option Code):Fr (λb=>b=l) h (cZ h l R st p):=
 ⟨by rw[xC];exact Nat.le_refl _,λb _ hb=>by simp only[cZ];rw[Array.getElem?_setIfInBounds_ne λe=>hb e.symm]⟩
theorem pV(hl:l<h.size)(R:Loop)(st:LoopState)(p:Option Code):br (cZ h l R st p) l R st p:=by
 simp[br,cZ,hl]
structure PM(l:Nat)(R:Loop)(st:LoopState)(p:Option Code)(h h':ab):Prop where
 size:h'.size=h.size
 fr:Fr (λb=>b=l) h h'
 on:br h' l R st p
theorem qI(hl:l<h.size)(R:Loop)(st:LoopState)(p:Option Code):PM l R st p h (cZ h l R st p):=⟨xC h l R st p,JD h l R st p,pV hl R st p⟩
theorem gI{R:Loop}{st:LoopState}{p:Option Code}{k:HP}(hl:l<h.size)(H:∀ h',PM l R st p h h'->k h'):td h l R st p k:=H _ (qI hl R st p)
theorem mG(h:ab)(R:Loop):(bN h R).size=h.size+2:=by simp[bN]
theorem rA(h:ab)(R:Loop):Fr No h (bN h R):=
 ⟨by rw[mG];omega,λb hb _=>by simp only[bN];rw[Array.getElem?_push,if_neg (by rw[Array.size_push];omega),Array.getElem?_push,if_neg (by omega)]⟩
theorem rB(h:ab)(R:Loop):br (bN h R) (h.size+1) R .ready none:=by
 simp only[br,bN];rw[Array.getElem?_push,if_pos (by rw[Array.size_push])]
theorem ud(h:ab)(R:Loop):(bN h R)[h.size]?=some (.deferred (some [])):=by
 simp only[bN];rw[Array.getElem?_push,if_neg (by rw[Array.size_push];omega),Array.getElem?_push,if_pos rfl]
theorem DK(h:ab)(b:Nat):(Me h b).size=h.size:=by simp[Me]
theorem Uu(h:ab)(b:Nat):Fr (λx=>x=b) h (Me h b):=
 ⟨by rw[DK];exact Nat.le_refl _,λc _ hc=>by simp only[Me];rw[Array.getElem?_setIfInBounds_ne λe=>hc e.symm]⟩
theorem iR{k:HP}(hd:h[b]?=some (.deferred (some [])))(H:∀ h',h'.size=h.size->Fr (λx=>x=b) h h'->k h'):qm b h k:=⟨hd,H _ (DK h b) (Uu h b)⟩
theorem rC{n r:Prop}{e:NP}(h:n):vz none n r e:=h
theorem PN{n r:Prop}{e:NP}(h:r):vz (some .ret) n r e:=h
end Rg
namespace Bt
open Hp W Rg
def vK(bs:LB)(i:Nat):Bool:=(bs.getD (i/8) 0).toNat.testBit (i%8)
def yC(n s:Nat)(on:Bool):Nat:=if on=true then n ||| 2 ^ s else n &&& (255-2 ^ s)
def oH(bs:LB)(i:Nat)(on:Bool):LB:=bs.set (i/8) (UInt8.ofNat (yC (bs.getD (i/8) 0).toNat (i%8) on))
theorem vL(bs:LB)(i:Nat)(on:Bool):(oH bs i on).length=bs.length:=List.length_set
theorem Zh : ∀n:Fin 256,∀s:Fin 8,oo .or .u8 (n.val:Int) (IntKind.wrap .u8 (1*2 ^ min (Int.toNat (s.val:Int)) 8))=(yC n.val s.val true:Nat):=by decide +kernel
theorem Lu : ∀n:Fin 256,∀s:Fin 8,yC n.val s.val true<256/\yC n.val s.val false<256:=by decide +kernel
theorem PO : ∀n:Fin 256,∀s t:Fin 8,(yC n.val s.val true).testBit t.val=(if t=s then true else n.val.testBit t.val)/\(yC n.val s.val false).testBit t.val=(if t=s then false else n.val.testBit t.val):=by decide +kernel
theorem Hi(hn:n<256)(hs:s<8)(on:Bool):yC n s on<256:=by
 cases on
 ·exact(Lu ⟨n,hn⟩ ⟨s,hs⟩).2
 ·exact(Lu ⟨n,hn⟩ ⟨s,hs⟩).1
theorem M0{t:Nat}(hn:n<256)(hs:s<8)(ht:t<8)(on:Bool):(yC n s on).testBit t=if t=s then on else n.testBit t:=by
 have e:((⟨t,ht⟩:Fin 8)=⟨s,hs⟩)=(t=s):=by rw[Fin.mk.injEq]
 have:=PO ⟨n,hn⟩ ⟨s,hs⟩ ⟨t,ht⟩;simp only[Fin.mk.injEq]at this
 cases on
 ·exact this.2
 ·exact this.1
theorem Fv(bs:LB)(i j:Nat)(on:Bool)(hi:i<8*bs.length):vK (oH bs i on) j=if j=i then on else vK bs j:=by
 have hn:(bs.getD (i/8) 0).toNat<256:=UInt8.toNat_lt _;have hl:i/8<bs.length:=by omega
 unfold vK oH
 by_cases h:j/8=i/8
 ·rw[h]
  have:(bs.set (i/8) (UInt8.ofNat (yC (bs.getD (i/8) 0).toNat (i%8) on))).getD (i/8) 0=UInt8.ofNat (yC (bs.getD (i/8) 0).toNat (i%8) on):=by
   rw[List.getD_eq_getElem?_getD,List.getElem?_set_self hl];rfl
  rw[this,UInt8.toNat_ofNat_of_lt' (Hi hn (by omega) on),M0 hn (by omega) (by omega)]
  by_cases e:j=i
  ·rw[if_pos e,if_pos (by omega)]
  ·rw[if_neg e,if_neg (by omega)]
 ·rw[if_neg (by rintro rfl;exact h rfl),List.getD_eq_getElem?_getD,List.getElem?_set_ne (by omega),<-List.getD_eq_getElem?_getD]
theorem acj(n:Nat):Int.tdiv (n:Int) 8=((n/8:Nat):Int):=rfl
theorem ack(n:Nat):Int.tmod (n:Int) 8=((n%8:Nat):Int):=rfl
theorem Fw{A:OA}(B:aJ h A l bs){j:Nat}(hj:j<bs.length):∃p,A=some p/\cellOf h (p.add j)=some (bv (bs.getD j 0)):=by
 obtain⟨B1,B2⟩:=B
 cases A with
 | none=>
  have B2:bs.map bv=[]:=B2;rw[List.map_eq_nil_iff.mp B2]at hj;exact absurd hj (Nat.not_lt_zero _)
 | some p=>
  refine⟨p,rfl,ai.cell B2 ?_⟩;rw[List.getElem?_map,List.getD_eq_getElem?_getD,List.getElem?_eq_getElem hj];rfl
end Bt
namespace Spc
open Hp W Ad Tm Bt
structure G where
 blocks:Nat
 PQ:Nat
 aN:Nat
 data:Nat
 count:Nat
def G.v(g:G):LV:=[.int .i64 g.blocks,.int .i64 g.PQ,.int .i64 g.aN,.int .i64 g.data,.int .i64 g.count]
structure G.ok(g:G):Prop where
 b:g.blocks<=1099511627776
 m:g.PQ<=1099511627776
 i:g.aN<=1099511627776
 d:g.data<=1099511627776
end Spc
namespace Spc
open Hp W Ad Tm Bt Rg
theorem Lw(v:Value):∀n,aW [v] n=List.replicate n v
 | 0=>rfl
 | n+1=>by
  show[v]++aW [v] n=_;rw[Lw v n];rfl
theorem M7 : aW [.int .u8 0] (Int.toNat 512)=(List.replicate 512 (0:UInt8)).map bv:=by
 rw[List.map_replicate];show aW [.int .u8 0] 512=List.replicate 512 (.int .u8 0);exact Lw _ 512
def af(n:Nat):G:=⟨n,98,98+(n+4095)/4096,98+(n+4095)/4096+n/64,8*(n/64)⟩
theorem Uv(h:n<=16384):(af n).ok:=by
 refine⟨?_,?_,?_,?_⟩
 ·show n<=_;omega
 ·show 98<=_;omega
 ·show 98+(n+4095)/4096<=_;omega
 ·show 98+(n+4095)/4096+n/64<=_;omega
theorem G.one(g:G):∀v∈g.v,v.oneCell'=true:=by
 intro v hv;simp only[G.v,List.mem_cons,List.not_mem_nil,or_false]at hv
 rcases hv with rfl|rfl|rfl|rfl|rfl <;> rfl
theorem Hj(hn:n<=1099511627776)(hK:∀ h',Fr No h h'->K (.agg ⟨(af n).v⟩) h'):C.gM n h K:=by
 refine gM.ok ?_;unfold gM
 have e1:Int.tdiv ((n:Int)+4096-1) 4096=(((n+4095)/4096:Nat):Int):=by
  rw[show(n:Int)+4096-1=((n+4095:Nat):Int) by omega];rfl
 have e2:Int.tdiv (n:Int) 64=((n/64:Nat):Int):=rfl
 rw[wrap_i64 (n:=(n:Int)+4096) (by omega) (by omega),wrap_i64 (n:=(n:Int)+4096-1) (by omega) (by omega),e1,e2,wrap_i64 (n:=(((n+4095)/4096:Nat):Int)) (by omega) (by omega),
  wrap_i64 (n:=98+(((n+4095)/4096:Nat):Int)) (by omega) (by omega),wrap_i64 (n:=((n/64:Nat):Int)) (by omega) (by omega),wrap_i64 (n:=98+(((n+4095)/4096:Nat):Int)+((n/64:Nat):Int)) (by omega) (by omega),wrap_i64 (n:=8*((n/64:Nat):Int)) (by omega) (by omega)]
 rw[show(98:Int)+(((n+4095)/4096:Nat):Int)=((98+(n+4095)/4096:Nat):Int) by omega,show((98+(n+4095)/4096:Nat):Int)+((n/64:Nat):Int)=((98+(n+4095)/4096+n/64:Nat):Int) by omega,show 8*((n/64:Nat):Int)=((8*(n/64):Nat):Int) by omega];exact ax.intro (cs:=(af n).v) rfl (G.one _) rfl λh3 n3=>⟨(af n).v,rfl,aj n3.rd,hK h3 n3.fr⟩
end Spc
namespace Av
open Hp W Ad Tm Bt Spc
def ks(T:TM):List Int:=T.put.map (·.1)
structure Av(n:Nat)(Z:Nat->ay)(T:TM):Prop where
 live:T.over=false
 N:T.N=n
 z:∀k:Nat,k<n->T.read k=(Z k,0)
 len:∀k:Nat,k<n->(Z k).length=512
 keys:(ks T).Nodup
 Cx:∀x∈ks T,98<=x/\x<n
structure Ab(n:Nat):Prop where
 lo:128<=n
 hi:n<=16384
theorem Ab.data{n:Nat}(d:Ab n):(af n).data=98+(n+4095)/4096+n/64/\(af n).data<n/\(af n).data<4096/\101<=(af n).data:=by
 have:=d.lo;have:=d.hi;have e:(af n).data=98+(n+4095)/4096+n/64:=rfl;omega
def bit(Z:Nat->ay)(j:Nat):Bool:=vK (Z (98+j/4096)) (j%4096)
def ij : ay:=List.replicate 512 0
end Av
namespace Bm
open Hp W Ad Tm Bt Spc Re Av
def sk(b:ay)(p:Nat):Nat:=lT ((b.drop (4*p)).take 4)
theorem Fy(b:ay)(p:Nat):sk b p<4294967296:=by
 have h:=tV ((b.drop (4*p)).take 4);have hl:((b.drop (4*p)).take 4).length<=4:=by rw[List.length_take];omega
 exact Nat.lt_of_lt_of_le h (Nat.le_trans (Nat.pow_le_pow_right (by decide) hl) (by decide))
def nS : Nat:=16652
def par(s:Nat):Option (Nat×Nat):=
 if s<10 then none else if s<138 then some (16522,s-10)else if s<16522 then some (16524+(s-138)/128,(s-138)%128)else if s<16524 then none else some (16523,s-16524)
def root(R:List Int)(s:Nat):Int:=if s<10 then R.getD (3+s) 0 else if s=16522 then R.getD 13 0 else R.getD 14 0
def sub(Z:Nat->ay)(b p:Nat):Nat:=if b=0 then 0 else sk (Z b) p
def Uw(R:List Int)(s:Nat):Nat:=(root R s).toNat
def te(Z:Nat->ay)(R:List Int)(s:Nat):Nat:=match par s with
 | none=>Uw R s
 | some (q,p)=>sub Z (Uw R q) p
def num(Z:Nat->ay)(R:List Int)(s:Nat):Nat:=match par s with
 | none=>Uw R s
 | some (q,p)=>sub Z (te Z R q) p
theorem Bk(h:par s=some (q,p))(hs:s<nS):p<128/\((q=16522/\s=10+p)∨(q=16523/\s=16524+p)∨(16524<=q/\q<nS/\s=138+(q-16524)*128+p)):=by
 unfold par at h;unfold nS at *
 split at h
 ·cases h
 ·split at h
  ·cases h;omega
  ·split at h
   ·cases h;omega
   ·split at h
    ·cases h
    ·cases h;omega
theorem xD(h:par s=none):s<10∨s=16522∨s=16523:=by
 unfold par at h
 split at h
 ·omega
 ·split at h
  ·cases h
  ·split at h
   ·cases h
   ·split at h
    ·omega
    ·cases h
theorem DL(_:p<128):par (16524+p)=some (16523,p):=by
 unfold par;rw[if_neg (by omega),if_neg (by omega),if_neg (by omega),if_neg (by omega),Nat.add_sub_cancel_left]
theorem Fz(h:par s=some (q,p))(hs:s<nS):q≠s/\q<nS/\16522<=q:=by
 have a:=Bk h hs;unfold nS at *;omega
theorem Bl{Z:Nat->ay}(h:par s=none):num Z R s=(root R s).toNat:=by unfold num;rw[h];rfl
theorem PR{Z:Nat->ay}(hq:16522<=q)(hn:q<nS):te Z R q=num Z R q:=by
 unfold te num
 rcases Nat.lt_or_ge q 16524 with h|h
 ·have:par q=none:=by unfold par;rw[if_neg (by omega),if_neg (by omega),if_neg (by omega),if_pos h]
  rw[this]
 ·have e:par q=some (16523,q-16524):=by
   have:=DL (p:=q-16524) (by unfold nS at hn;omega);rw[show 16524+(q-16524)=q by omega]at this;exact this
  rw[e];show sub Z (Uw R 16523) _=sub Z (te Z R 16523) _;rfl
theorem xE{Z:Nat->ay}(h:par s=some (q,p))(hs:s<nS):num Z R s=sub Z (num Z R q) p:=by
 have a:=Fz h hs;unfold num;rw[h];show sub Z (te Z R q) p=sub Z (num Z R q) p;rw[PR a.2.2 a.2.1]
theorem Xq{P:NP}(h0:∀ s,s<nS->par s=none->P s)(h1:∀ s q p,s<nS->par s=some (q,p)->P q->P s):∀s,s<nS->P s:=by
 have two:P 16523:=h0 _ (by decide) (by decide)
 have tab:∀q,16522<=q->q<nS->P q:=λq hq hn=>by
  cases e:par q with
  | none=>exact h0 q hn e
  | some x=>
   obtain⟨q',p⟩:=x;have:=Bk e hn;have:q'=16523:=(by unfold nS at *;omega);subst this;exact h1 q _ p hn e two
 intro s hs
 cases e:par s with
 | none=>exact h0 s hs e
 | some x=>
  obtain⟨q,p⟩:=x;have:=Fz e hs;exact h1 s q p hs e (tab q this.2.2 this.2.1)
structure Wf(n:Nat)(Z:Nat->ay)(R:List Int):Prop where
 rl:R.length=15
 rr:∀i,3<=i->i<15->0<=R.getD i 0
 Cx:∀s,s<nS->num Z R s≠0->(af n).data<=num Z R s/\num Z R s<n/\bit Z (num Z R s)=true
 inj:∀s s',s<nS->s'<nS->num Z R s≠0->num Z R s=num Z R s'->s=s'
def nO(T:TM)(R:List Int)(s:Nat×Nat)(at_:Int):Int×ay×Int:=
 if s.1=0 then(R.getD (3+s.2) 0,[],0)else if s.1=1 then(R.getD 13 0,[],0)else if s.1=2 then(R.getD 14 0,[],0)else
  if(T.read at_).2≠0 then(0,[],(T.read at_).2)else((sk (T.read at_).1 s.2:Nat),(T.read at_).1,0)
def kX(g:G)(v:Int):Int:=if v<g.data∨v>=g.blocks then 100 else 0
def kY(T:TM)(g:G)(R:List Int):List (Nat×Nat)->Int->Int×Int
 | [],a=>(a,0)
 | s::r,a=>if(nO T R s a).2.2≠0 then(0,(nO T R s a).2.2)else if(nO T R s a).1=0 then(0,0)else
   if kX g (nO T R s a).1≠0 then(0,kX g (nO T R s a).1)else kY T g R r (nO T R s a).1
def pt(k:Nat):List (Nat×Nat):=if k<10 then[(0,k)]else if k<138 then[(1,0),(3,k-10)]else[(2,0),(3,(k-138)/128),(3,(k-138)%128)]
def oO : List Int:=List.replicate 15 0
def dI(T:TM)(g:G)(R:List Int)(k:Int):Int×Int:=if k<0∨k>=16522 then(0,101)else kY T g R (pt k.toNat) 0
def stepOf(s:Nat):Nat×Nat:=if s<10 then(0,s)else if s=16522 then(1,0)else if s=16523 then(2,0)else(3,((par s).getD (0,0)).2)
def path(k:Nat):List Nat:=if k<10 then[k]else if k<138 then[16522,k]else[16523,16524+(k-138)/128,k]
def Hk : Option Nat->List Nat->Prop
 | _,[]=>True
 | o,s::r=>s<nS/\(match o with|none=>par s=none|some q=>∃p,par s=some (q,p))/\s ∉ r/\Hk (some s) r
theorem Bn(hk:k<16522):Hk none (path k)/\(path k).map stepOf=pt k:=by
 unfold path pt
 by_cases h1:k<10
 ·rw[if_pos h1,if_pos h1];refine⟨⟨by unfold nS;omega,by unfold par;exact if_pos h1,by simp,trivial⟩,?_⟩;simp only[List.map_cons,List.map_nil,stepOf,if_pos h1]
 ·rw[if_neg h1,if_neg h1]
  by_cases h2:k<138
  ·rw[if_pos h2,if_pos h2];have e:par k=some (16522,k-10):=(by unfold par;rw[if_neg h1,if_pos h2]);refine⟨⟨by decide,by decide,by simp;omega,by unfold nS;omega,⟨_,e⟩,by simp,trivial⟩,?_⟩;simp only[List.map_cons,List.map_nil,stepOf,if_neg h1,e];rw[if_neg (show ¬16522<10 by decide),if_pos trivial,if_neg (by omega),if_neg (by omega)];rfl
  ·rw[if_neg h2,if_neg h2];have e:par k=some (16524+(k-138)/128,(k-138)%128):=(by unfold par;rw[if_neg h1,if_neg h2,if_pos hk]);have e2:par (16524+(k-138)/128)=some (16523,(k-138)/128):=DL (by omega);refine⟨⟨by decide,by decide,by simp;omega,by unfold nS;omega,⟨_,e2⟩,by simp;omega,by unfold nS;omega,⟨_,e⟩,by simp,trivial⟩,?_⟩;simp only[List.map_cons,List.map_nil,stepOf,if_neg h1,e,e2];rw[if_neg (show ¬16523<10 by decide),if_neg (show ¬16523=16522 by decide),if_pos trivial,if_neg (by omega),if_neg (by omega),if_neg (by omega),if_neg (by omega),if_neg (by omega)];rfl
theorem PS{Z:Nat->ay}(w:Wf n Z R)(hs:s<nS)(h:par s=none):root R s=(num Z R s:Nat):=by
 rw[Bl h];have a:=xD h
 have:0<=root R s:=by
  unfold root
  split
  ·exact w.rr _ (by omega) (by omega)
  ·split
   ·exact w.rr _ (by omega) (by omega)
   ·exact w.rr _ (by omega) (by omega)
 omega
def at_(Z:Nat->ay)(R:List Int):Option Nat->Int
 | none=>0
 | some q=>(num Z R q:Nat)
def tabO(Z:Nat->ay)(R:List Int):Option Nat->ay
 | none=>[]
 | some q=>Z (num Z R q)
theorem xF(T:TM)(R:List Int)(p:Nat)(a:Int):nO T R (3,p) a=if(T.read a).2≠0 then((0:Int),([]:ay),(T.read a).2)else(((sk (T.read a).1 p:Nat):Int),(T.read a).1,(0:Int)):=rfl
theorem FA(h:par s=some (q,p))(hs:s<nS):stepOf s=(3,p):=by
 have b:=Bk h hs;unfold stepOf;rw[h,if_neg (by omega),if_neg (by unfold nS at *;omega),if_neg (by unfold nS at *;omega)];rfl
theorem PT{Z:Nat->ay}{T:TM}{o:Option Nat}{r:List Nat}(a:Av n Z T)(w:Wf n Z R)(c:Hk o (s::r))(ho:∀ q,o=some q->q<nS/\num Z R q≠0) :
  nO T R (stepOf s) (at_ Z R o)=(((num Z R s:Nat):Int),tabO Z R o,0):=by
 obtain⟨hs,hp,_,_⟩:=c
 cases o with
 | none=>
  have hp:par s=none:=hp;have e:=PS w hs hp;have b:=xD hp
  rcases b with h1|rfl|rfl
  ·have es:stepOf s=(0,s):=(by unfold stepOf;rw[if_pos h1]);rw[es,<-e];unfold root;rw[if_pos h1];rfl
  ·rw[<-e];rfl
  ·rw[<-e];rfl
 | some q=>
  obtain⟨p,hp⟩:=hp;obtain⟨hq,h0⟩:=ho q rfl;have ru:=w.Cx q hq h0;rw[FA hp hs,xF];have ez:at_ Z R (some q)=((num Z R q:Nat):Int):=rfl;rw[ez,a.z _ ru.2.1,if_neg (λy=>y rfl),xE hp hs];unfold sub;rw[if_neg h0];rfl
theorem look_ok{v:Nat}(h1:(af n).data<=v)(h2:v<n):kX (af n) (v:Int)=0:=by
 unfold kX;have:(af n).blocks=n:=rfl;rw[if_neg (by omega)]
theorem Hl{n:Nat}{Z:Nat->ay}{R:List Int}{T:TM}(a:Av n Z T)(w:Wf n Z R):∀(r:List Nat) (o:Option Nat),Hk o r->(∀q,o=some q->q<nS/\num Z R q≠0)->
  kY T (af n) R (r.map stepOf) (at_ Z R o)=(((match r.getLast? with|none=>at_ Z R o|some s=>(num Z R s:Nat)):Int),0)
 | [],o,_,_=>rfl
 | s::r,o,c,ho=>by
  have e:=PT a w c ho;show kY T (af n) R (stepOf s::r.map stepOf) (at_ Z R o)=_;unfold kY;rw[e];simp only;rw[if_neg (λy=>y rfl)];obtain⟨hs,_,_,c'⟩:=c
  have below:num Z R s=0->∀(l:List Nat) (x:Nat),Hk (some x) l->num Z R x=0->∀y∈l,num Z R y=0:=λ_ l=>by
   induction l with
   | nil=>intro x _ _ y hy;cases hy
   | cons y l ih=>
    intro x c h0 z hz;obtain⟨h1,⟨p,h2⟩,_,h4⟩:=c;have hy:num Z R y=0:=by rw[xE h2 h1,h0];exact if_pos rfl
    rcases List.mem_cons.mp hz with rfl|hz
    ·exact hy
    ·exact ih y h4 hy z hz
  by_cases h0:num Z R s=0
  ·rw[if_pos (by omega)]
   have hl:(match (s::r).getLast? with|none=>at_ Z R o|some s=>((num Z R s:Nat):Int))=0:=by
    cases hg:(s::r).getLast? with
    | none=>rw[List.getLast?_eq_none_iff]at hg;cases hg
    | some x=>
     have hx:=List.mem_of_getLast? hg;show((num Z R x:Nat):Int)=0
     rcases List.mem_cons.mp hx with rfl|hx
     ·omega
     ·rw[below h0 r s c' h0 x hx];rfl
   rw[hl]
  ·have ru:=w.Cx s hs h0;rw[if_neg (by omega),look_ok ru.1 ru.2.1,if_neg (λy=>y rfl)];have:=Hl a w r (some s) c' λq e=>by cases e;exact⟨hs,h0⟩
   have ea:at_ Z R (some s)=((num Z R s:Nat):Int):=rfl;rw[ea]at this;rw[this]
   cases r with
   | nil=>rfl
   | cons y r=>
    rw[List.getLast?_cons_cons]
    cases hg:(y::r).getLast? with
    | none=>rw[List.getLast?_eq_none_iff]at hg;cases hg
    | some x=>rfl
theorem M8(k:Nat):(path k).getLast?=some k:=by
 unfold path
 split
 ·rfl
 ·split <;> rfl
theorem Ax{Z:Nat->ay}{T:TM}(a:Av n Z T)(w:Wf n Z R){k:Nat}(hk:k<16522):dI T (af n) R k=(((num Z R k:Nat):Int),0):=by
 obtain⟨c,e⟩:=Bn hk;unfold dI;rw[if_neg (by omega)];have:=Hl a w (path k) none c λq y=>by cases y
 rw[e,M8]at this;exact this
end Bm
namespace Bm
open Hp W Ad Tm Spc Re Av
open Hd (ints)
open In (pq ah av)
def OK(s:Nat×Nat):LV:=[.int .i64 s.1,.int .i64 s.2]
def Lx(t:OA)(g:G)(R:List Int):LV:=.pointer t::(g.v++ints R)
theorem M9{g:G}(hi:i<R.length):(Lx t g R)[6+i]?=some (.int .i64 (R.getD i 0)):=by
 rw[Nat.add_comm 6 i];show(ints R)[i]?=_;rw[ints,List.getElem?_map,List.getD_eq_getElem?_getD,List.getElem?_eq_getElem hi];rfl
theorem Xr{v:Value}(e:rd h b=xs)(hv:xs[i+j]?=some v):cellOf h (Addr.add (Addr.add ⟨b,0,none⟩ i) j)=some v:=by
 rw[cI,cI,ko,e,Nat.zero_add];exact hv
theorem yD{g:G}{v:Int}(e:rd h fb=Lx t g R)(hK:K (.int .i64 (kX g v)) h):C.iI (some ⟨fb,0,none⟩) v h K:=by
 refine iI.ok (os ⟨g.data,Xr e rfl,cd (λy=>?_) λy=>os ⟨g.blocks,Xr e rfl,cd (λy2=>?_) λy2=>?_⟩⟩)
 ·have:kX g v=100:=by unfold kX;rw[if_pos (.inl y)]
  rw[this]at hK;exact hK
 ·have:kX g v=100:=by unfold kX;rw[if_pos (.inr y2)]
  rw[this]at hK;exact hK
 ·have:kX g v=0:=by unfold kX;rw[if_neg (by omega)]
  rw[this]at hK;exact hK
theorem PU{k:Int}(h0:0<=k)(h1:k<16522)
  (hK:∀h',Fr No h h'->h.size<h'.size->rd h' h.size=(pt k.toNat).flatMap OK->K (.slice (some ⟨h.size,0,none⟩) (pt k.toNat).length (pt k.toNat).length) h'):C.pQ k h K:=by
 have cast:((k.toNat:Nat):Int)=k:=by omega
 refine pQ.ok (cd (λy=>⟨rfl,aC.intro λh2 n2=>?_⟩) λy=>cd (λy2=>⟨rfl,rfl,aC.intro λh2 n2=>?_⟩) λy2=>⟨rfl,rfl,rfl,aC.intro λh2 n2=>?_⟩)
 ·have e:pt k.toNat=[(0,k.toNat)]:=by unfold pt;rw[if_pos (by omega)]
  rw[e]at hK;refine hK h2 n2.fr n2.own.lt (n2.rd.trans ?_);show _=[Value.int .i64 ((0:Nat):Int),.int .i64 ((k.toNat:Nat):Int)];rw[cast];rfl
 ·have e:pt k.toNat=[(1,0),(3,k.toNat-10)]:=by unfold pt;rw[if_neg (by omega),if_pos (by omega)]
  rw[e]at hK;refine hK h2 n2.fr n2.own.lt (n2.rd.trans ?_);show _=[Value.int .i64 ((1:Nat):Int),.int .i64 ((0:Nat):Int),.int .i64 ((3:Nat):Int),.int .i64 ((k.toNat-10:Nat):Int)];rw[wrap_i64 (by omega) (by omega),show((k.toNat-10:Nat):Int)=k-10 by omega];rfl
 ·have e:pt k.toNat=[(2,0),(3,(k.toNat-138)/128),(3,(k.toNat-138)%128)]:=by unfold pt;rw[if_neg (by omega),if_neg (by omega)]
  rw[e]at hK;refine hK h2 n2.fr n2.own.lt (n2.rd.trans ?_);show _=[Value.int .i64 ((2:Nat):Int),.int .i64 ((0:Nat):Int),.int .i64 ((3:Nat):Int),.int .i64 (((k.toNat-138)/128:Nat):Int),.int .i64 ((3:Nat):Int),.int .i64 (((k.toNat-138)%128:Nat):Int)];have e1:Int.tdiv (k-138) 128=(((k.toNat-138)/128:Nat):Int):=by rw[Int.tdiv_eq_ediv_of_nonneg (by omega)];omega
  have e2:Int.tmod (k-138) 128=(((k.toNat-138)%128:Nat):Int):=by rw[Int.tmod_eq_emod_of_nonneg (by omega)];omega
  rw[wrap_i64 (n:=k-138) (by omega) (by omega),e1,e2,wrap_i64 (by omega) (by omega)];rfl
def Na(s:Nat×Nat):Prop:=s.1=0/\s.2<10∨s.1=1∨s.1=2∨s.1=3/\s.2<128
theorem Ux(h:k<16522):∀s∈pt k,Na s:=by
 unfold pt Na;intro s hs
 split at hs
 ·simp at hs;subst hs;exact .inl ⟨rfl,by assumption⟩
 ·split at hs
  ·simp at hs;rcases hs with rfl|rfl
   ·exact .inr (.inl rfl)
   ·exact .inr (.inr (.inr ⟨rfl,by simp only;omega⟩))
  ·simp at hs;rcases hs with rfl|rfl|rfl
   ·exact .inr (.inr (.inl rfl))
   ·exact .inr (.inr (.inr ⟨rfl,by simp only;omega⟩))
   ·exact .inr (.inr (.inr ⟨rfl,by simp only;omega⟩))
def Bo(s:Nat×Nat):Nat:=if s.1=0 then 3+s.2 else if s.1=1 then 13 else 14
theorem Uy{s:Nat×Nat}(hs:Na s):Bo s<15:=by
 unfold Bo
 rcases hs with⟨h1,h2⟩|h1|h1|⟨h1,_⟩
 ·rw[if_pos h1];omega
 ·rw[if_neg (by omega),if_pos h1];decide
 ·rw[if_neg (by omega),if_neg (by omega)];decide
 ·rw[if_neg (by omega),if_neg (by omega)];decide
theorem PV{s:Nat×Nat}(hs:Na s)(hK:∀ h',Fr No h h'->K (.pointer (some ⟨fb,6+Bo s,none⟩)) h'):C.jq (some ⟨fb,0,none⟩) (OK s) h K:=by
 refine jq.ok (aC.intro λh2 n2=>⟨_,bW n2.rd rfl,ce (λy=>⟨_,bW n2.rd rfl,os ⟨⟨by omega,?_⟩,?_⟩⟩) λy=>ce (λy2=>os ?_) λy2=>os ?_⟩)
 ·rcases hs with⟨_,h2⟩|h1|h1|⟨h1,_⟩ <;> omega
 ·have e:Bo s=3+s.2:=by unfold Bo;rw[if_pos (by omega)]
  have hK:=hK h2 n2.fr;rw[cI,cI,cI,Int.toNat_natCast];rw[e]at hK;rw[show 0+6+3+s.2=6+(3+s.2) by omega];exact hK
 ·have e:Bo s=13:=by unfold Bo;rw[if_neg (by omega),if_pos (by omega)]
  have hK:=hK h2 n2.fr;rw[e]at hK;rw[cI,cI];exact hK
 ·have e:Bo s=14:=by unfold Bo;rw[if_neg (by omega),if_neg (by omega)]
  have hK:=hK h2 n2.fr;rw[e]at hK;rw[cI,cI];exact hK
theorem PW{T:TM}{s:Nat×Nat}{a:Int}(hs:Na s)(h:s.1≠3):nO T R s a=(R.getD (Bo s) 0,[],0):=by
 unfold nO Bo
 rcases hs with⟨h1,_⟩|h1|h1|⟨h1,_⟩
 ·rw[if_pos h1,if_pos h1]
 ·rw[if_neg (by omega),if_pos h1,if_neg (by omega),if_pos h1]
 ·rw[if_neg (by omega),if_neg (by omega),if_pos h1,if_neg (by omega),if_neg (by omega)]
 ·exact absurd h1 h
theorem Zi{T:TM}{s:Nat×Nat}{a:Int}(h:s.1=3):nO T R s a=if(T.read a).2≠0 then((0:Int),([]:ay),(T.read a).2)else(((sk (T.read a).1 s.2:Nat):Int),(T.read a).1,(0:Int)):=by
 unfold nO;rw[if_neg (by omega),if_neg (by omega),if_neg (by omega)]
theorem kZ{T:TM}{g:G}{s:Nat×Nat}{a:Int}(gl:In.pq h)(x:Tx h F t d T)(e:rd h fb=Lx t g R)(hR:R.length=15)(hs:Na s)
  (hK:∀sa sl sc h',Fr No h h'->sl=(nO T R s a).2.1.length->Sl h' 1 sa sl sc ((nO T R s a).2.1.map bv) (bZ h.size)->K (.tuple #[.int .i64 (nO T R s a).1,.slice sa sl sc,.int .i64 (nO T R s a).2.2]) h'):C.gE (some ⟨fb,0,none⟩) (OK s) a h K:=by
 have fl:fb<h.size:=vH (o:=0) (by rw[e];rfl);refine gE.ok (aC.intro λh2 n2=>⟨_,bW n2.rd rfl,cn (λy=>⟨OK s,rfl,aj n2.rd,PV hs λh3 f3=>⟨_,rfl,os ?_⟩⟩) λy=>os ?_⟩)
 ·rw[PW hs (by omega)]at hK;have F3:=n2.fr.no f3;refine⟨_,nt ((F3.rd fl λy=>y).trans e) (M9 (by rw[hR];exact Uy hs)),hK none 0 0 h3 F3 rfl (Sl.nil _ _ _)⟩
 ·have Ψ:s.1=3:=by omega
  have VL:s.2<128:=by rcases hs with⟨h1,_⟩|h1|h1|⟨_,h2⟩ <;> omega
  rw[Zi Ψ]at hK;refine⟨t,bW ((n2.at_ fl).trans e) rfl,Tm.fM (x.no n2.fr) λsa sl sc h4 f4 el s4=>⟨_,_,_,_,rfl,cn (λhe=>?_) λhe=>?_⟩⟩
  ·rw[if_pos he]at hK;exact hK none 0 0 h4 (n2.fr.no f4) rfl (Sl.nil _ _ _)
  ·rw[if_neg (λy=>y he)]at hK;have hlen:(T.read a).1.length=512:=Tx.mZ x he;have F4:=n2.fr.no f4;have z2:=n2.size;refine⟨_,bW ((f4.rd n2.own.lt λy=>y).trans n2.rd) rfl,?_⟩;rw[wrap_i64 (n:=4*(s.2:Int)) (by omega) (by omega)];refine In.Ln (gl.no F4) s4.str (by omega) (.inr (.inr (.inl rfl))) (by omega) (by omega) ⟨_,_,rfl,?_⟩
   have en:lT (((T.read a).1.drop (4*(s.2:Int)).toNat).take (Int.toNat 4))=sk (T.read a).1 s.2:=by
    unfold sk;rw[show(4*(s.2:Int)).toNat=4*s.2 by omega];rfl
   rw[en];have lt:=Fy (T.read a).1 s.2;rw[wrap_i64 (by omega) (by omega)];exact hK sa sl sc h4 F4 el (s4.mono λb hb=>by have:h2.size<=b:=hb;show h.size<=b;omega)
theorem FB{s:LV}{a:Int}{sa:OA}{sl sc:Nat}(hK:∀ h',Fr No h h'->K (.tuple #[.int .i64 0,.int .i64 0]) h'):C.lF s a sa sl sc h K:=
 lF.ok (aC.intro λh2 n2=>hK h2 n2.fr)
theorem PX{l:List (Nat×Nat)}(e:rd h b=l.flatMap OK){j:Nat}(hj:j<l.length):ai h (Addr.add ⟨b,0,none⟩ (j*2)) (OK l[j]):=by
 have c:ai h ⟨b,0,none⟩ (l.flatMap OK):=aj e;have:=ai.take (ai.drop c (j*2)) 2;rw[kq OK 2 l (λ_ _=>rfl) j hj]at this;exact this
theorem drop_cons{α:Type}{l:List α}(h:j<l.length):l.drop j=l[j]::l.drop (j+1):=List.drop_eq_getElem_cons h
theorem JE(T:TM)(g:G)(R:List Int)(s:Nat×Nat)(r:List (Nat×Nat))(a:Int):kY T g R (s::r) a=if(nO T R s a).2.2≠0 then(0,(nO T R s a).2.2)else if(nO T R s a).1=0 then(0,0)else
   if kX g (nO T R s a).1≠0 then(0,kX g (nO T R s a).1)else kY T g R r (nO T R s a).1:=rfl
theorem Zj(s:Nat×Nat):∀v∈OK s,v.oneCell'=true:=abl rfl rfl
theorem JF{T:TM}{g:G}{k:Int}(gl:In.pq h)(x:Tx h F t d T)(e:rd h fb=Lx t g R)(hR:R.length=15)(h0:0<=k)(h1:k<16522)
  (hK:∀h',Fr No h h'->K (.tuple #[.int .i64 (kY T g R (pt k.toNat) 0).1,.int .i64 (kY T g R (pt k.toNat) 0).2]) h'):C.dB (some ⟨fb,0,none⟩) k (Value.func (.func 204) #[] ⟨[]⟩) h K:=by
 have fl:fb<h.size:=vH (o:=0) (by rw[e];rfl);refine dB.ok (PU h0 h1 λh2 f2 l2 rw2=>⟨_,_,_,rfl,?_⟩);have qO:=Ux (k:=k.toNat) (by omega)
 have hwl:(pt k.toNat).length<=3:=by
  unfold pt
  split
  ·simp
  ·split <;> simp
 generalize pt k.toNat=w at hK rw2 qO hwl;refine⟨λa i hh=>∃j:Nat,i=j/\j<=w.length/\Fr No h2 hh/\kY T g R (w.drop j) a=kY T g R w 0,λ_ i _=>((w.length:Int)-i).toNat,⟨0,rfl,Nat.zero_le _,Fr.refl _ _,by rw[List.drop_zero]⟩,?_⟩;rintro a i h3 ⟨j,rfl,hj,f3,ew⟩;refine cd (λhl=>?_) λhl=>?_
 ·have Gh:j<w.length:=by omega
  rw[drop_cons Gh,JE]at ew;have F3:=f2.no f3;have hs:=qO _ (List.getElem_mem Gh);have z3:=f3.size;rw[Int.toNat_natCast];refine⟨⟨by omega,hl⟩,os ⟨OK w[j],rfl,PX ((f3.rd l2 λy=>y).trans rw2) Gh,ax.intro rfl (Zj _) rfl λh5 n5=>⟨OK w[j],rfl,aj n5.rd,?_⟩⟩⟩;have F5:=F3.new n5;refine kZ (gl.no F5) (x.no F5) ((F5.rd fl λy=>y).trans e) hR hs λsa sl sc h6 f6 el s6=>⟨_,_,_,_,_,rfl,?_⟩;have F6:=F5.no f6;have z5:=n5.size;have z6:=f6.size;have wr:IntKind.wrap .i64 ((j:Int)+1)=((j+1:Nat):Int):=by rw[wrap_i64 (by omega) (by omega)];omega
  have go:∀h8,Fr No h3 h8->∀(nu er:Int),(if er≠0 then((0:Int),er)else if nu=0 then(0,0)else if kX g nu≠0 then(0,kX g nu)else kY T g R (w.drop (j+1)) nu)=kY T g R w 0->
    dB.k1 (some ⟨fb,0,none⟩) a (j:Int) h3 (λa i hh=>∃j:Nat,i=j/\j<=w.length/\Fr No h2 hh/\kY T g R (w.drop j) a=kY T g R w 0) (λ_ i _=>((w.length:Int)-i).toNat) nu er h8 K:=λh8 f8 nu er e8=>by
   have F8:=F3.no f8;unfold dB.k1;refine cn (λy=>?_) λy=>ce (λy2=>?_) λy2=>?_
   ·rw[if_pos y]at e8;rw[<-e8]at hK;exact hK h8 F8
   ·rw[if_neg (λz=>z y),if_pos y2]at e8;rw[<-e8]at hK;exact hK h8 F8
   ·rw[if_neg (λz=>z y),if_neg y2]at e8;refine yD ((F8.rd fl λy=>y).trans e) ⟨_,rfl,cn (λy3=>?_) λy3=>?_⟩
    ·rw[if_pos y3]at e8;rw[<-e8]at hK;exact hK h8 F8
    ·rw[if_neg (λz=>z y3)]at e8;rw[wr];exact⟨⟨j+1,rfl,Gh,f3.no f8,e8⟩,by show((w.length:Int)-((j+1:Nat):Int)).toNat<((w.length:Int)-(j:Int)).toNat;omega⟩
  have F36:Fr No h3 h6:=n5.fr.no f6;refine ce (λy=>ce (λy2=>?_) λy2=>go h6 F36 _ _ ew) λy=>go h6 F36 _ _ ew;rw[if_neg (λz=>z y),if_pos y2]at ew;refine⟨OK w[j],rfl,aj ((f6.rd n5.own.lt λy=>y).trans n5.rd),FB λh7 f7=>⟨_,_,rfl,go h7 (F36.no f7) 0 0 ?_⟩⟩;rw[if_neg (λz=>z rfl),if_pos rfl];exact ew
 ·have ej:j=w.length:=by omega
  subst ej;rw[List.drop_length]at ew;have ew:(a,(0:Int))=kY T g R w 0:=ew;rw[<-ew]at hK;exact hK h3 (f2.no f3)
theorem jL{T:TM}{g:G}{k:Int}(gl:In.pq h)(x:Tx h F t d T)(hR:R.length=15)
  (hK:∀h',Fr No h h'->K (.tuple #[.int .i64 (dI T g R k).1,.int .i64 (dI T g R k).2]) h'):C.jK t g.v (ints R) k h K:=by
 refine jK.ok (aC.intro λh2 n2=>aC.intro λh3 n3=>cd (λy=>?_) λy=>cd (λy2=>?_) λy2=>?_)
 ·have e:dI T g R k=(0,101):=by unfold dI;rw[if_pos (.inl y)]
  rw[e]at hK;exact hK h3 (n2.fr.new n3)
 ·have e:dI T g R k=(0,101):=by unfold dI;rw[if_pos (.inr y2)]
  rw[e]at hK;exact hK h3 (n2.fr.new n3)
 ·have e:dI T g R k=kY T g R (pt k.toNat) 0:=by unfold dI;rw[if_neg (by omega)]
  rw[e]at hK;unfold jK.k1;refine⟨g.v,rfl,aj ((n3.at_ n2.own.lt).trans n2.rd),ints R,by rw[ah,hR],aj n3.rd,rfl,by rw[ah,hR],aC.intro λh4 n4=>?_⟩;have F4:=(n2.fr.new n3).new n4;exact JF (gl.no F4) (x.no F4) n4.rd hR (by omega) (by omega) λh5 f5=>⟨_,_,rfl,hK h5 (F4.no f5)⟩
def pW(b:ay):List Int:=(List.range 128).map λi=>((sk b i:Nat):Int)
theorem rD(b:ay):(pW b).length=128:=by unfold pW;rw[List.length_map,List.length_range]
theorem uW{b:ay}(h:j<(pW b).length):(pW b)[j]=((sk b j:Nat):Int):=by
 simp only[pW,List.getElem_map,List.getElem_range]
end Bm
namespace Ino
open Hp W Ad Tm Bt Spc Re
open Hd (ints)
open In (oO lU kU mY av ah xw Ar gw pq kV qw iv)
def pX(g:G)(n:Int):Int:=(g.aN+n.toNat/8:Nat)
def rat(n:Int):Nat:=64*(n.toNat%8)
theorem PY(n:Int):rat n+64<=512:=by unfold rat;omega
theorem k7(bs:ay):(mY bs).1.length=15:=by
 unfold mY;split
 ·exact List.length_replicate
 ·split
  ·exact kV bs
  ·exact List.length_replicate
def getM(T:TM)(g:G)(n:Int):List Int×Int:=
 if ¬(1<=n/\n<g.count)then(oO,110)else if(T.read (pX g n)).2≠0 then(oO,(T.read (pX g n)).2)else mY (((T.read (pX g n)).1.drop (rat n)).take 64)
theorem aF(T:TM)(g:G)(n:Int):(getM T g n).1.length=15:=by
 unfold getM
 split
 ·exact List.length_replicate
 ·split
  ·exact List.length_replicate
  ·exact k7 _
structure su(g:G):Prop where
 ok:g.ok
 c:g.count<=1099511627776
theorem FC{g:G}{n:Int}(ok:su g)(hK:∀ h',Fr No h h'->K (.bool (decide (1<=n/\n<g.count))) h'):C.jm g.v n h K:=by
 have:=ok.c;refine jm.ok (aC.intro λh2 n2=>⟨_,bW n2.rd rfl,In.jT ⟨_,rfl,?_⟩⟩);rw[wrap_i64 (by omega) (by omega)]
 have e:(decide (1<=n) && decide (n<=(g.count:Int)-1))=decide (1<=n/\n<g.count):=by
  rw[Bool.eq_iff_iff,Bool.and_eq_true,decide_eq_true_iff,decide_eq_true_iff,decide_eq_true_iff];omega
 rw[e];exact hK h2 n2.fr
theorem ue{g:G}{n:Int}(ok:su g)(h1:1<=n)(h2:n<g.count)(hK:∀ h',Fr No h h'->K (.tuple #[.int .i64 (pX g n),.int .i64 (rat n),.int .i64 0]) h'):C.j4 g.v n h K:=by
 have c1:=ok.c;have c2:=ok.ok.i;refine j4.ok (aC.intro λh2 n2=>cf (decide_eq_false (by omega)) ⟨_,bW n2.rd rfl,cf (decide_eq_false (by omega)) ⟨_,bW n2.rd rfl,?_⟩⟩);have hK:=hK h2 n2.fr;have e1:Int.tdiv n 8=n/8:=Int.tdiv_eq_ediv_of_nonneg (by omega);have e2:Int.tmod n 8=n%8:=Int.tmod_eq_emod_of_nonneg (by omega);rw[e1,e2,wrap_i64 (n:=n/8) (by omega) (by omega),wrap_i64 (n:=(g.aN:Int)+n/8) (by omega) (by omega),wrap_i64 (n:=n%8*64) (by omega) (by omega)];have e3:n%8*64=((rat n:Nat):Int):=by unfold rat;omega
 have e4:(g.aN:Int)+n/8=pX g n:=by unfold pX;omega
 rw[e3,e4];exact hK
theorem nP{T:TM}{g:G}{n:Int}(x:Tx h F t d T)(ok:su g)(h1:1<=n)(h2:n<g.count)
  (hK:∀a l c h',Fr No h h'->l=(T.read (pX g n)).1.length->Sl h' 1 a l c ((T.read (pX g n)).1.map bv) (bZ h.size)->K (.tuple #[.int .i64 (pX g n),.slice a l c,.int .i64 (rat n),.int .i64 (T.read (pX g n)).2]) h'):C.kQ t g.v n h K:=by
 refine kQ.ok (aC.intro λAa n2=>⟨g.v,rfl,aj n2.rd,ue ok h1 h2 λh3 f3=>⟨_,_,_,rfl,cn (λy=>absurd rfl y) λ_=>?_⟩⟩);have F3:=n2.fr.no f3;refine Tm.fM (x.no F3) λa l c h4 f4 hl s=>⟨_,_,_,_,rfl,?_⟩;exact hK a l c h4 (F3.no f4) hl (s.mono λb hb=>Nat.le_trans F3.size hb)
theorem jM{T:TM}{g:G}{n:Int}(gl:In.pq h)(x:Tx h F t d T)(ok:su g)
  (hK:∀h',Fr No h h'->K (.tuple #[.agg ⟨ints (getM T g n).1⟩,.int .i64 (getM T g n).2]) h'):C.ja t g.v n h K:=by
 have ha:=PY n;refine ja.ok (aC.intro λAa n2=>aC.intro λh3 n3=>⟨g.v,rfl,aj ((n3.at_ n2.own.lt).trans n2.rd),FC ok λh4 f4=>⟨_,rfl,jj ?_⟩⟩);have s2:=n2.size;have s3:=n3.size;have f3:Fr No h h3:=n2.fr.new n3;have F4:=f3.no f4;have z4:=f4.size
 have row:∀{h':ab},Fr No h4 h'->du h' Aa.size/\(rd h' Aa.size).length=15:=λf'=>by
  have f34:Fr No h3 _:=f4.no f';exact⟨f34.own n3.own.lt (λy=>y) n3.own,by rw[f34.rd n3.own.lt λy=>y,n3.rd];rfl⟩
 by_cases hn:1<=n/\n<g.count
 ·have e0:getM T g n=if(T.read (pX g n)).2≠0 then(oO,(T.read (pX g n)).2)else mY (((T.read (pX g n)).1.drop (rat n)).take 64):=by unfold getM;rw[if_neg (λy=>y hn)]
  rw[e0]at hK;refine ct (decide_eq_true hn) ⟨g.v,rfl,aj ((f4.rd (by omega) λy=>y).trans ((n3.at_ n2.own.lt).trans n2.rd)),nP (x.no F4) ok hn.1 hn.2 λa l c h6 f6 hl s6=>⟨_,_,_,_,_,_,rfl,cn (λhe=>?_) λhe=>?_⟩⟩
  ·rw[if_pos he]at hK;obtain⟨w,JG⟩:=row f6;exact iv (h3:=h) (F4.no f6) (by omega) w JG hK
  ·rw[if_neg (λy=>y he)]at hK;have hlen:(T.read (pX g n)).1.length=512:=Tx.mZ x he;have hc:=s6.le;rw[wrap_i64 (by omega) (by omega)];refine⟨⟨by omega,by omega,by omega⟩,?_⟩;have B6:=aJ.cut s6.str hc (i:=(rat n:Int).toNat) (j:=((rat n:Int)+64).toNat) (by omega) (by omega);rw[show((rat n:Int)+64).toNat-(rat n:Int).toNat=64 by omega]at B6 ⊢;refine In.Hb (gl.no (F4.no f6)) B6 (by omega) λh8 f8=>⟨_,_,rfl,?_⟩;rw[show(rat n:Int).toNat=rat n by omega];obtain⟨w,JG⟩:=row (f6.no f8);refine ar.intro w (by rw[ah,k7]) (av _) (by omega) λh9 d9=>⟨_,by rw[ah];exact k7 _,aj ?_,hK h9 (((F4.no f6).no f8).did d9 λhl=>by omega)⟩;rw[d9.rd];exact cM _ _ (by rw[ah,k7,JG])
 ·have e0:getM T g n=(oO,110):=by unfold getM;rw[if_pos hn]
  rw[e0]at hK;obtain⟨w,JG⟩:=row (Fr.refl _ _);exact cf (decide_eq_false hn) (iv (h3:=h) F4 (by omega) w JG hK)
end Ino
namespace Fi
open Hp W Ad Tm Spc Re Av
open Hd (ints)
open In (pq ah av)
open Ino (getM su aF)
open Bm (dI)
theorem iaT(hi:i<R.length):(ints R)[i]?=some (.int .i64 (R.getD i 0)):=by
 unfold ints;rw[List.getElem?_map,List.getD_eq_getElem?_getD,List.getElem?_eq_getElem hi];rfl
def jE(T:TM)(g:G)(n:Int):List Int×Int:=if(getM T g n).2=0/\(getM T g n).1.getD 0 0=0 then((getM T g n).1,110)else getM T g n
theorem Hm(T:TM)(g:G)(n:Int):(jE T g n).1.length=15:=by
 unfold jE
 split <;> exact aF T g n
theorem Bg{T:TM}{g:G}{n:Int}(gl:In.pq h)(x:Tx h F t d T)(ok:su g)
  (hK:∀h',Fr No h h'->K (.tuple #[.agg ⟨ints (jE T g n).1⟩,.int .i64 (jE T g n).2]) h'):C.pP t g.v n h K:=by
 have lR:=aF T g n;refine pP.ok (aC.intro λh2 n2=>aC.intro λh3 n3=>⟨g.v,rfl,aj ((n3.at_ n2.own.lt).trans n2.rd),Ino.jM (gl.no (n2.fr.new n3)) (x.no (n2.fr.new n3)) ok λh4 f4=>⟨_,_,rfl,ax.intro (by rw[ah,lR]) (av _) rfl λh6 n6=>?_⟩⟩);have z2:=n2.size;have z3:=n3.size;have z4:=f4.size;have z6:=n6.size;have F6:Fr No h h6:=((n2.fr.new n3).no f4).new n6;have w6:du h6 h2.size:=n6.ow (f4.own (by omega) (λy=>y) n3.own);have l6:(rd h6 h2.size).length=15:=by rw[n6.at_ (by omega),f4.rd (by omega) λy=>y,n3.rd];rfl
 have fin:∀{e:Int} {k:HP},jE T g n=((getM T g n).1,e)->(∀h',K (.tuple #[.agg ⟨ints (jE T g n).1⟩,.int .i64 (jE T g n).2]) h'->K (.tuple #[.agg ⟨ints (getM T g n).1⟩,.int .i64 e]) h'):=λe h' hk=>by rw[e]at hk;exact hk
 have out:∀e,jE T g n=((getM T g n).1,e)->∃gV:LV,List.length gV=15/\ai h6 ⟨h4.size,0,none⟩ gV/\
   ar ⟨h2.size,0,none⟩ gV 15 h6 λh7=>∃bL:LV,List.length bL=15/\ai h7 ⟨h2.size,0,none⟩ bL/\K (.tuple #[.agg ⟨bL⟩,.int .i64 e]) h7:=λe he=>by
  rw[he]at hK;refine⟨_,by rw[ah,lR],aj n6.rd,ar.intro w6 (by rw[ah,lR]) (av _) (by omega) λh7 d7=>⟨_,by rw[ah,lR],aj ?_,hK h7 (F6.did d7 λhl=>by omega)⟩⟩;rw[d7.rd];exact cM _ _ (by rw[ah,lR,l6])
 refine ce (λhe=>⟨_,bW n6.rd (iaT (by rw[lR];decide)),ce (λh0=>?_) λh0=>?_⟩) λhe=>?_
 ·exact out 110 (by unfold jE;rw[if_pos ⟨he,h0⟩])
 ·exact out _ (by unfold jE;rw[if_neg λy=>h0 y.2])
 ·exact out _ (by unfold jE;rw[if_neg λy=>he y.1])
def bC(T:TM)(g:G)(R:List Int)(k:Int):ay×Int:=if(dI T g R k).2≠0 then([],(dI T g R k).2)else if(dI T g R k).1=0 then(ij,0)else T.read (dI T g R k).1
theorem JH{T:TM}{g:G}{k:Int}(gl:In.pq h)(x:Tx h F t d T)(hR:R.length=15)
  (hK:∀a l c h',Fr No h h'->l=(bC T g R k).1.length->Sl h' 1 a l c ((bC T g R k).1.map bv) (bZ h.size)->K (.tuple #[.slice a l c,.int .i64 (bC T g R k).2]) h'):C.mw t g.v (ints R) k h K:=by
 refine mw.ok (aC.intro λh2 n2=>aC.intro λh3 n3=>⟨g.v,rfl,aj ((n3.at_ n2.own.lt).trans n2.rd),_,by rw[ah,hR],aj n3.rd,?_⟩);have z2:=n2.size;have z3:=n3.size;have F3:=n2.fr.new n3;refine Bm.jL (gl.no F3) (x.no F3) hR λh4 f4=>⟨_,_,rfl,cn (λhe=>?_) λhe=>ce (λh0=>⟨by decide,aC.intro λh5 n5=>?_⟩) λh0=>?_⟩
 ·have e0:bC T g R k=([],(dI T g R k).2):=by unfold bC;rw[if_pos he]
  rw[e0]at hK;exact hK none 0 0 h4 (F3.no f4) rfl (Sl.nil _ _ _)
 ·have e0:bC T g R k=(ij,0):=by unfold bC;rw[if_neg (λy=>y he),if_pos h0]
  rw[e0]at hK;have z4:=f4.size;have er:rd h5 h4.size=ij.map bv:=by rw[n5.rd,ij,List.map_replicate];rfl
  have el:(ij.map bv).length=512:=by rw[List.length_map];exact List.length_replicate
  refine hK (some ⟨h4.size,0,none⟩) 512 512 h5 ((F3.no f4).new n5) (by exact List.length_replicate.symm) ⟨by rw[el],rfl,?_,n5.own,Nat.le_refl _,?_,?_⟩
  ·show h.size<=h4.size;omega
  ·show((rd h5 h4.size).drop 0).take _=_;rw[er,List.drop_zero,List.take_length]
  ·show 0+512*1<=(rd h5 h4.size).length;rw[er,el];decide
 ·have e0:bC T g R k=T.read (dI T g R k).1:=by unfold bC;rw[if_neg (λy=>y he),if_neg h0]
  rw[e0]at hK;have z4:=f4.size;refine Tm.fM (x.no (F3.no f4)) λa l c h6 f6 hl s=>⟨_,_,_,_,rfl,hK a l c h6 ((F3.no f4).no f6) hl (s.mono λb hb=>?_)⟩;have hb:h4.size<=b:=hb;show h.size<=b;omega
end Fi
namespace Bm
open Hp W Ad Tm Bt Spc Re Av
def Z0(L:ay):Nat->ay:=λk=>(L.drop (k*512)).take 512
theorem Bp{L:ay}(hL:L.length=512*n):Av n (Z0 L) ⟨fresh (chunks L),[],[],false⟩:=by
 have hn:(chunks L).length=n:=by rw[mg,hL];omega
 refine⟨rfl,hn,λk hk=>?_,λk hk=>by unfold Z0;rw[List.length_take,List.length_drop,hL];omega,List.nodup_nil,λx hx=>(by cases hx)⟩;have hN:TM.N ⟨fresh (chunks L),[],[],false⟩=n:=hn;rw[TM.MZ rfl,hN,if_neg (by omega),TM.get_none rfl,if_neg (by intro y;cases y)]
 have:j5 (fresh (chunks L)) ((k:Nat):Int).toNat=Z0 L k:=by
  show(chunks L).getD k []=_;rw[List.getD_eq_getElem?_getD,List.getElem?_eq_getElem (by omega),Option.getD_some,sj];rfl
 rw[this]
theorem Hn(L:ay)(k t:Nat)(ht:t<4096):vK (Z0 L k) t=vK L (4096*k+t):=by
 unfold vK Z0;rw[List.getD_eq_getElem?_getD,List.getElem?_take,if_pos (by omega),List.getElem?_drop,<-List.getD_eq_getElem?_getD,show k*512+t/8=(4096*k+t)/8 by omega,show t%8=(4096*k+t)%8 by omega]
end Bm
namespace Fi
open Hp W Ad Tm Spc Re Av Rg
open Hd (ints)
open In (pq ah av)
open Ino (getM su aF)
open Bm (dI)
def toP(off n a:Nat):Nat:=min 512 ((off+a)%512+n-a)
def Bq(off n a:Nat):LV:=[.int .i64 ((off+a)/512:Nat),.int .i64 ((off+a)%512:Nat),.int .i64 (toP off n a:Nat),.int .i64 (a:Nat)]
def sV(off n a:Nat):Nat:=a+(toP off n a-(off+a)%512)
theorem toP_gt{a:Nat}(h:a<n):(off+a)%512<toP off n a/\toP off n a<=512:=by
 unfold toP;omega
theorem uf{a:Nat}(h:a<n):a<sV off n a/\sV off n a<=n:=by
 unfold sV toP;omega
theorem pY{k:KT}(y:mj P l args h k):oV P (.func (.yield l) #[] #[]) args h k:=y
theorem uX{cn co:Nat}(ho:off+n<=1000000000)(J:Nat->ab->Prop)
  (hc:∀a hh,J a hh->rd hh cn=[.int .i64 (n:Nat)]/\rd hh co=[.int .i64 (off:Nat)]/\cn<hh.size/\co<hh.size)
  (hY:∀a hh h',J a hh->a<n->Fr No hh h'->rd h' hh.size=Bq off n a->hh.size<h'.size->
   mj Tryz.prog l [.agg ⟨Bq off n a⟩] h' λv h''=>(v = .bool true/\J (sV off n a) h''/\rd h'' hh.size=rd h' hh.size)∨(v = .bool false/\K (.tuple #[]) h''))
  (h0:J 0 h) (hK:∀hh,J n hh->K (.tuple #[]) hh):C.ju (.func (.yield l) #[] #[]) (some ⟨cn,0,none⟩) (some ⟨co,0,none⟩) h K:=by
 refine ju.ok ⟨λi hh=>∃a:Nat,i=a/\a<=n/\J a hh,λi _=>(n-i).toNat,⟨0,rfl,Nat.zero_le _,h0⟩,?_⟩;rintro i h2 ⟨a,ei,ha,hJ⟩;obtain⟨rn,ro,ln,lo⟩:=hc a h2 hJ;refine os ⟨_,nt rn rfl,cd (λdh=>?_) λdh=>?_⟩
 ·have vn:a<n:=by omega
  obtain⟨t1,t2⟩:=toP_gt (off:=off) vn;obtain⟨x1,x2⟩:=uf (off:=off) vn;refine os ⟨_,nt ro rfl,os ⟨_,nt ro rfl,ax.intro rfl (by intro v hv;simp only[List.mem_cons,List.not_mem_nil,or_false]at hv;rcases hv with rfl|rfl|rfl|rfl <;> rfl) rfl λh4 n4=>?_⟩⟩;have z4:=n4.size;have e1:Int.tdiv ((off:Int)+i) 512=((off+a)/512:Nat):=by rw[Int.tdiv_eq_ediv_of_nonneg (by omega)];omega
  have e2:Int.tmod ((off:Int)+i) 512=((off+a)%512:Nat):=by rw[Int.tmod_eq_emod_of_nonneg (by omega)];omega
  have r4:=n4.rd;rw[wrap_i64 (n:=(off:Int)+i) (by omega) (by omega),e1,e2,wrap_i64 (by omega) (by omega),ei]at r4;refine⟨_,bW r4 rfl,os ⟨_,nt ((n4.at_ ln).trans rn) rfl,bQ.add n4.own (by rw[r4];show 2<4;decide) λh5 d5=>?_⟩⟩
  have r5:rd h5 h2.size=Bq off n a:=by
   rw[d5.rd,r4]
   have e3:(if(IntKind.wrap .i64 ((IntKind.wrap .i64 ((((off+a)%512:Nat):Int)+(n:Nat)))-i))<512 then(IntKind.wrap .i64 ((IntKind.wrap .i64 ((((off+a)%512:Nat):Int)+(n:Nat)))-i))else 512)=((toP off n a:Nat):Int):=by
    rw[wrap_i64 (n:=(((off+a)%512:Nat):Int)+(n:Nat)) (by omega) (by omega),wrap_i64 (by omega) (by omega)];unfold toP
    split <;> omega
   rw[e3];rfl
  have f5:Fr No h2 h5:=n4.fr.did d5 λhl=>by omega
  have z5:=d5.size;refine⟨_,rfl,aj r5,pY (ub (hY a h2 h5 hJ vn f5 r5 (by omega)) λv h6 hv=>?_)⟩
  rcases hv with⟨rfl,hJ6,r6⟩|⟨rfl,hk⟩
  ·have r6:=r6.trans r5;refine⟨true,rfl,jj (ct rfl ⟨_,bW r6 rfl,_,bW r6 rfl,?_⟩)⟩
   have e6:IntKind.wrap .i64 (i+(IntKind.wrap .i64 (((toP off n a:Nat):Int)-(((off+a)%512:Nat):Int))))=((sV off n a:Nat):Int):=by
    rw[wrap_i64 (n:=((toP off n a:Nat):Int)-_) (by omega) (by omega)];unfold sV at x1 x2 ⊢;rw[wrap_i64 (by omega) (by omega)];omega
   rw[e6];exact⟨⟨_,rfl,x2,hJ6⟩,by show((n:Int)-((sV off n a:Nat):Int)).toNat<((n:Int)-i).toNat;omega⟩
  ·exact⟨false,rfl,jj (cf rfl hk)⟩
 ·have:a=n:=by omega
  subst this;exact hK h2 hJ
theorem Iz(d:Ab n):su (af n):=⟨Uv d.hi,by have:=d.hi;show 8*(n/64)<=_;omega⟩
theorem PZ{eb:Nat}{e0:Int}{k:HP}(w:du h eb)(r:rd h eb=[.int .i64 e0])(H:∀ h',yw eb h h' [.int .i64 e]->k h'):bQ ⟨eb,0,none⟩ (.int .i64 e) h k:=
 bQ.intro w (by rw[r];exact Nat.zero_lt_one) λh' d=>by rw[r]at d;exact H h' d
end Fi
end Go.Proofs.YtiapingedfnlnaaGreatDoor
namespace Go.Proofs
open Go Go.Shelf
def Tryz.lays240_ren : Go.Shelf.Ren:=⟨fun|240=>335|276=>346|n=>n,fun|0=>0|4=>4|9=>9|20=>20|70=>401|72=>403|164=>438|5=>5|37=>86|n=>n,λn=>n⟩
theorem Tryz.lays240 : Lays.n240 Tryz.prog Tryz.lays240_ren where
 mixed:=by kernel_rfl
 f240:=Tryz.func335.trans (congrArg some (by kernel_rfl))
 f276:=Tryz.func346.trans (congrArg some (by kernel_rfl))
 t0:=Tryz.underlying0
 a0:=Tryz.isAgg0
 z0:=Tryz.sizeOf0
 v0:=Tryz.zeroValue0
 t4:=Tryz.underlying4
 a4:=Tryz.isAgg4
 z4:=Tryz.sizeOf4
 v4:=Tryz.zeroValue4
 t9:=Tryz.underlying9
 a9:=Tryz.isAgg9
 z9:=Tryz.sizeOf9
 v9:=Tryz.zeroValue9
 t20:=Tryz.underlying20
 a20:=Tryz.isAgg20
 z20:=Tryz.sizeOf20
 v20:=Tryz.zeroValue20
 t70:=Tryz.underlying401
 a70:=Tryz.isAgg401
 z70:=Tryz.sizeOf401
 v70:=Tryz.zeroValue401
 t72:=Tryz.underlying403
 a72:=Tryz.isAgg403
 z72:=Tryz.sizeOf403
 v72:=Tryz.zeroValue403
 t164:=Tryz.underlying438
 a164:=Tryz.isAgg438
 z164:=Tryz.sizeOf438
 v164:=Tryz.zeroValue438
def Tryz.lays169_ren : Go.Shelf.Ren:=⟨fun|169=>318|n=>n,fun|0=>0|3=>3|9=>9|37=>86|70=>401|72=>403|127=>428|5=>5|n=>n,λn=>n⟩
theorem Tryz.lays169 : Lays.n169 Tryz.prog Tryz.lays169_ren where
 mixed:=by kernel_rfl
 f169:=Tryz.func318.trans (congrArg some (by kernel_rfl))
 t0:=Tryz.underlying0
 a0:=Tryz.isAgg0
 z0:=Tryz.sizeOf0
 v0:=Tryz.zeroValue0
 t3:=Tryz.underlying3
 a3:=Tryz.isAgg3
 z3:=Tryz.sizeOf3
 v3:=Tryz.zeroValue3
 t9:=Tryz.underlying9
 a9:=Tryz.isAgg9
 z9:=Tryz.sizeOf9
 v9:=Tryz.zeroValue9
 t37:=Tryz.underlying86
 a37:=Tryz.isAgg86
 z37:=Tryz.sizeOf86
 v37:=Tryz.zeroValue86
 t70:=Tryz.underlying401
 a70:=Tryz.isAgg401
 z70:=Tryz.sizeOf401
 v70:=Tryz.zeroValue401
 t72:=Tryz.underlying403
 a72:=Tryz.isAgg403
 z72:=Tryz.sizeOf403
 v72:=Tryz.zeroValue403
 t127:=Tryz.underlying428
 a127:=Tryz.isAgg428
 z127:=Tryz.sizeOf428
 v127:=Tryz.zeroValue428
theorem Tryz.extra240 : Builder.Extra Tryz.prog Tryz.lays240_ren where
 sizeBuilder:=by kernel_rfl
 liesBuilder:=by kernel_rfl
 t5:=Tryz.underlying5
 a5:=Tryz.isAgg5
 z5:=Tryz.sizeOf5
 v5:=Tryz.zeroValue5
 infoByte:=by kernel_rfl
 cellsByte:=by kernel_rfl
 sizeByte:=by kernel_rfl
 neB5:=by decide
theorem Tryz.extra169 : Builder.Extra Tryz.prog Tryz.lays169_ren where
 sizeBuilder:=by kernel_rfl
 liesBuilder:=by kernel_rfl
 t5:=Tryz.underlying5
 a5:=Tryz.isAgg5
 z5:=Tryz.sizeOf5
 v5:=Tryz.zeroValue5
 infoByte:=by kernel_rfl
 cellsByte:=by kernel_rfl
 sizeByte:=by kernel_rfl
 neB5:=by decide
end Go.Proofs
namespace Go.Proofs.YtiapingedfnlnaaGreatDoor
open Go Go.Proofs Wx
variable{i r b k tb l c n s q p j fb off o m bl bc cl cc cb:Nat}{h h' h0 hh Xp:ab}{F:NP}{az bT:Nat->Nat}{d t a ba ca:OA}{K:KT}{bs ss:LB}{P:Program}{args xs:LV}{R:List Int}{e:Int}
namespace Fi
open Go Go.Proofs Go.Shelf Go.RowKit Wx Hp W Tm
def C3(h:ab)(b:Nat)(Q:NP)(bs:ay):Prop:=
 ∃p v,h[b]?=some (.cells #[p,v] 403 (0,0))/\(p = .pointer none∨p = .pointer (some ⟨b,0,none⟩))/\
  ((v = .slice none 0 0/\bs=[])∨∃g cap cur,v = .slice (some ⟨g,0,none⟩) bs.length cap/\bs≠[]/\Q g/\g≠b/\h[g]?=some (.cells cur 5 (0,0))/\bs.length<=cap/\cur.size=cap/\cur.toList.take bs.length=bs.map bv)
theorem ug{x:Obj}(e:h[b]?=some x):b<h.size:=by
 rcases Nat.lt_or_ge b h.size with y|y
 ·exact y
 ·rw[Array.getElem?_eq_none y]at e;cases e
theorem C3.lt{Q:NP}{bs:ay}(B:C3 h b Q bs):b<h.size:=by
 obtain⟨p,v,e,_⟩:=B;exact ug e
theorem C3.mono{Q Q':NP}{bs:ay}(B:C3 h b Q bs)(hq:∀ g,Q g->g<h.size->Q' g):C3 h b Q' bs:=by
 obtain⟨p,v,e,hp,hv⟩:=B;refine⟨p,v,e,hp,?_⟩
 rcases hv with hv|⟨g,cap,cur,h1,h2,h3,h4,h5,h6⟩
 ·exact .inl hv
 ·exact .inr ⟨g,cap,cur,h1,h2,hq g h3 (ug h5),h4,h5,h6⟩
theorem C3.fr{Q:NP}{bs:ay}{G:NP}(B:C3 h b Q bs)(f:Fr G h h')(hb:¬ G b)(hg:∀ g,Q g->g<h.size->¬ G g):C3 h' b Q bs:=by
 obtain⟨p,v,e,hp,hv⟩:=B;refine⟨p,v,(f.same b (ug e) hb).trans e,hp,?_⟩
 rcases hv with hv|⟨g,cap,cur,h1,h2,h3,h4,h5,h6⟩
 ·exact .inl hv
 ·exact .inr ⟨g,cap,cur,h1,h2,h3,h4,(f.same g (ug h5) (hg g h3 (ug h5))).trans h5,h6⟩
theorem C3.new(h:ab)(Q:NP):C3 (oF h [.pointer none,.slice none 0 0] 403) h.size Q []:=
 ⟨_,_,by rw[rq,if_pos rfl],.inl rfl,.inl ⟨rfl,rfl⟩⟩
theorem Br{Q:NP}{bs:ay}(B:C3 h b Q bs)(hK:∀ h',h'.size=h.size->Fr (λx=>x=b) h h'->C3 h' b Q bs->K (.tuple #[]) h'):C.lM (some ⟨b,0,none⟩) h K:=by
 refine⟨⟨_,Tryz.func335,by kernel_rfl,by kernel_rfl⟩,λw hw=>?_⟩;subst hw;have B0:=B;obtain⟨p,v,e,hp,hv⟩:=B
 rcases hp with rfl|rfl
 ·refine(Any.Builder_copyCheck_fresh Tryz.lays240 Tryz.extra240.toX72 b w (by rw[Lib.cell_of_heap e];rfl) (by simp[World.shape?,e];rfl) (Lib.frozen_of_heap e 0)).mono ?_;rintro ex w' ⟨rfl,rfl⟩;refine⟨_,rfl,⟨rfl,rfl,rfl⟩,?_⟩;show K _ (setOf w.heap ⟨b,0,none⟩ (.pointer (some ⟨b,0,none⟩)));have f:Fr (λx=>x=b) w.heap (setOf w.heap ⟨b,0,none⟩ (.pointer (some ⟨b,0,none⟩))):=(Fr.refl _ _).setOf (.inl rfl);refine hK _ (size_setOf _ _ _) f ⟨.pointer (some ⟨b,0,none⟩),v,by rw[mA,if_pos rfl,e];rfl,.inr rfl,?_⟩
  rcases hv with hv|⟨g,cap,cur,h1,h2,h3,h4,h5,h6⟩
  ·exact .inl hv
  ·exact .inr ⟨g,cap,cur,h1,h2,h3,h4,(f.same g (ug h5) h4).trans h5,h6⟩
 ·refine(Any.Builder_copyCheck_used Tryz.lays240 Tryz.extra240.toX72 b w (by rw[Lib.cell_of_heap e];rfl)).mono ?_;rintro ex w' ⟨rfl,rfl⟩;exact⟨_,rfl,.refl _,hK _ rfl (Fr.refl _ _) B0⟩
theorem Bu{g:Nat}:∀(cs:LV) (h:ab) (o i:Nat) {c:Array Value} {T:TypeId} {f:Nat×Nat},h[g]?=some (.cells c T f)->
  ∃c',(setRow h ⟨g,o,none⟩ cs i)[g]?=some (.cells c' T f)/\c'.size=c.size
 | [],_,_,_,c,_,_,e=>⟨c,e,rfl⟩
 | v::r,h,o,i,c,T,f,e=>by
  rw[setRow,cI];obtain⟨c',e',s'⟩:=Bu r (setOf h ⟨g,o+i,none⟩ v) o (i+1) (c:=c.setIfInBounds (o+i) v) (T:=T) (f:=f) (by rw[mA,if_pos rfl,e];rfl);exact⟨c',e',by rw[s',Array.size_setIfInBounds]⟩
theorem wA{g:Nat}{c:Array Value}{T:TypeId}{f:Nat×Nat}(e:h[g]?=some (.cells c T f)):rd h g=c.toList:=by unfold Hp.rd;rw[e]
theorem Ho{Q:NP}{bs new:ay}(B:C3 h b Q bs)(S:aJ h a l new)(hl:new≠[])(hs:∀ p,a=some p->p.block≠b)(hm:bs.length+l<=1000000000)
  (hK:∀v h',Fr (λx=>x=b∨Q x) h h'->C3 h' b (λx=>Q x∨h.size<=x) (bs++new)->K (.tuple #[.int .i64 l,v]) h'):C.dX (some ⟨b,0,none⟩) a l c h K:=by
 refine dX.ok (Br B λh2 z2 f2 B2=>⟨rfl,os ?_⟩);have S1:=S.1
 have sc:ag h2 a (new.map bv):=by
  cases a with
  | none=>exact S.2
  | some p=>
   intro i v hv;have hc:=S.2 i v hv;have hb:(p.add i).block=p.block:=(by unfold Addr.add;split <;> rfl);unfold cellOf at hc ⊢;rw[hb]at hc ⊢;rw[f2.same p.block ?_ (hs p rfl)]
   ·exact hc
   ·cases e:h[p.block]? with
    | none=>rw[e]at hc;cases hc
    | some x=>exact ug e
 obtain⟨p,v,eb,hp,hv⟩:=B2;have C1:=ug eb
 have fin:∀h3 a3 c3 (v3:Value),v3 = .slice a3 (bs.length+l) c3->Fr (λx=>x≠b/\Q x) h2 h3->(∃g cap cur,v3 = .slice (some ⟨g,0,none⟩) (bs++new).length cap/\(Q g∨h.size<=g)/\g≠b/\h3[g]?=some (.cells cur 5 (0,0))/\(bs++new).length<=cap/\cur.size=cap/\cur.toList.take (bs++new).length=(bs++new).map bv)->
   ae (some (⟨b,0,none⟩:Addr)) λp2=>Wx.bQ (Addr.add p2 1) (.slice a3 (bs.length+l) c3) h3 λh4=>K (.tuple #[.int .i64 (l:Int),.nilIface]) h4:=λh3 a3 c3 v3 ev f3 hg=>by
  have e3:h3[b]?=some (.cells #[p,v] 403 (0,0)):=(f3.same b C1 λy=>y.1 rfl).trans eb;show Wx.bQ (Addr.add ⟨b,0,none⟩ 1) _ _ _;rw[cI,<-ev];obtain⟨g,cap,cur,h1,Aa,IQ,h4,h5⟩:=hg;have f4:Fr (λx=>x=b∨Q x) h (setOf h3 ⟨b,0+1,none⟩ v3):=((f2.mono λ_ _ y=>.inl y).trans f3 λ_ _ y=>.inr y.2).setOf (.inl (.inl rfl));refine⟨Pn ⟨_,_,_,e3,.inl rfl⟩ (by rw[wA e3];exact Nat.lt_succ_self 1),hK _ _ f4 ⟨p,v3,by rw[mA,if_pos rfl,e3];rfl,hp,.inr ⟨g,cap,cur,h1,λy=>hl (List.append_eq_nil_iff.mp y).2,Aa,IQ,?_,h5⟩⟩⟩;rw[mA,if_neg IQ];exact h4
 have grow:∀cap,bs.length+l<=cap->∃g Nb cur,Value.slice (some ⟨h2.size,0,none⟩) (bs.length+l) cap = .slice (some ⟨g,0,none⟩) (bs++new).length Nb/\(Q g∨h.size<=g)/\g≠b/\(oF h2 (bs.map bv++new.map bv++aW yx.zero (cap-(bs.length+l))) 5)[g]?=some (.cells cur 5 (0,0))/\(bs++new).length<=Nb/\cur.size=Nb/\cur.toList.take (bs++new).length=(bs++new).map bv:=λcap qW=>by
  have el:(bs++new).length=bs.length+l:=by rw[List.length_append,S1]
  refine⟨h2.size,cap,_,by rw[el],.inr (by omega),by omega,by rw[rq,if_pos rfl],by omega,?_,?_⟩
  ·show(bs.map bv++new.map bv++aW yx.zero (cap-(bs.length+l))).length=cap;rw[List.length_append,List.length_append,List.length_map,List.length_map,j6,S1];show bs.length+l+(cap-(bs.length+l))*1=cap;omega
  ·show(bs.map bv++new.map bv++aW yx.zero (cap-(bs.length+l))).take (bs++new).length=_;rw[<-List.map_append,List.take_left' (by rw[List.length_map])]
 have frN:∀xs,Fr (λx=>x≠b/\Q x) h2 (oF h2 xs 5):=λxs=>xo _ _
 have RW:0<l:=by
  rw[<-S1];exact List.length_pos_iff.mpr hl
 rcases hv with⟨rfl,rfl⟩|⟨g,cap,cur,rfl,fB,Zk,Zl,eg,hle,wO,htk⟩
 ·refine⟨none,0,0,bW (wA eb) rfl,new.map bv,by rw[List.length_map,S1,Nat.mul_one],sc,pM _,[],rfl,rfl,?_,by omega,λhc=>by omega,λhc cap qW=>?_⟩
  ·show(0+l)*1<=_;omega
  ·have e:([]:ay).length+l=0+l:=rfl;exact fin _ _ _ _ (by rw[e]) (frN _) (grow cap qW)
 ·refine⟨some ⟨g,0,none⟩,bs.length,cap,bW (wA eb) rfl,new.map bv,by rw[List.length_map,S1,Nat.mul_one],sc,pM _,bs.map bv,by rw[List.length_map];exact(Nat.mul_one _).symm,tM (by rw[wA eg,List.drop_zero,List.length_map,htk]),?_,by omega,λhc=>?_,λhc Nb qW=>?_⟩
  ·show(bs.length+l)*1<=_;omega
  ·have lc:cur.toList.length=cap:=wO;refine⟨?_,?_⟩
   ·simp only[Om,cI];refine yv ⟨_,_,_,eg,.inl rfl⟩ ?_;rw[wA eg,lc];show 0+bs.length*1+l*1<=cap;omega
   ·simp only[wW,cI];obtain⟨c',e',s'⟩:=Bu (new.map bv) h2 (0+bs.length*yx.cells) 0 eg;have hr:=jd g (0+bs.length*yx.cells) (new.map bv) h2 0;rw[wA e',wA eg,put_eq _ _ _ (by rw[List.length_map,lc,S1];show 0+bs.length*1+0+l<=cap;omega)]at hr;have e0:0+bs.length*yx.cells+0=bs.length:=(by show 0+bs.length*1+0=_;omega);rw[e0,htk]at hr;refine fin _ _ _ _ rfl ((Fr.refl _ h2).setRow (.inl ⟨Zl,Zk⟩)) ⟨g,cap,c',by rw[List.length_append,S1],.inl Zk,Zl,e',by rw[List.length_append,S1];exact hc,s'.trans wO,?_⟩;rw[hr,<-List.map_append,List.take_left' (by rw[List.length_map])]
  ·exact fin _ _ _ _ rfl (frN _) (grow Nb qW)
theorem Uz{ρ:Ren}(L:Lays.n169 P ρ)(X:Builder.Extra P ρ)(b g cap:Nat)(p:Value)(cur:Array Value)(l:ay)(w:World)(hb:w.heap[b]?=some (.cells #[p,.slice (some ⟨g,0,none⟩) l.length cap] (ρ.t 72) (0,0)))
  (hg:w.heap[g]?=some (.cells cur (ρ.t 5) (0,0))) (h0:l≠[]) (hc:l.length<=cap) (hs:cur.size=cap) (hm:l.length<=2000000000) (ht:cur.toList.take l.length=l.map bv) :
  Calls P (ρ.f 169) #[.pointer (some ⟨b,0,none⟩)] w λe w'=>e = .returned (.string ⟨l.toArray⟩)/\Below g w w':=by
 have hl0:l.length≠0:=by simpa using h0
 have c1:w.drew.cell? ⟨b,1,none⟩=some (.slice (some ⟨g,0,none⟩) l.length cap):=by
  have:w.drew.heap[b]?=some (.cells #[p,.slice (some ⟨g,0,none⟩) l.length cap] (ρ.t 72) (0,0)):=hb;rw[Lib.cell_of_heap this];rfl
 have VO:w.drew.heap[g]?=some (.cells cur (ρ.t 5) (0,0)):=hg
 have hSD:(Builtin.unsafeSliceData_ #[(ρ.t 37)] (ρ.t 127) #[.slice (some ⟨g,0,none⟩) l.length cap]).run P w.drew = .ok (.pointer (some ⟨g,0,none⟩)) w.drew:=
  Lib.run_unsafeSliceData_row _ _ _ _ _ _ (by omega)
 have hUS:(Builtin.unsafeString_ #[(ρ.t 127),(ρ.t 3)] (ρ.t 9) #[.pointer (some ⟨g,0,none⟩),.int .i64 l.length]).run P w.drew = .ok (.string ⟨l.toArray⟩) (w.drew.freeze ⟨g,0,none⟩ l.length):=by
  refine Lib.run_unsafeString_row w.drew (ρ.t 127) (ρ.t 3) (ρ.t 9) (ρ.t 5) L.t127 X.cellsByte g cur.size (by simp[World.shape?,VO]) l h0 (by omega) (by omega) λj x hx=>?_;rw[cI,Nat.zero_add,Lib.cell_of_heap VO];have e:=congrArg (·[j]?) ht;simp only[List.getElem?_map,hx,Option.map_some]at e;have hj:j<l.length:=(List.getElem?_eq_some_iff.mp hx).1;rw[List.getElem?_take_of_lt hj,Array.getElem?_toList]at e;exact e
 have mixed:=L.mixed;have t72:=L.t72;have a72:=L.a72;have z72:=L.z72;have v72:=L.v72;have u72:=run_underlying L.t72;have t70:=L.t70;have a70:=L.a70;have z70:=L.z70;have v70:=L.v70;have u70:=run_underlying L.t70;have t37:=L.t37;have a37:=L.a37;have z37:=L.z37;have v37:=L.v37;have u37:=run_underlying L.t37;have t127:=L.t127;have a127:=L.a127;have z127:=L.z127;have v127:=L.v127;have u127:=run_underlying L.t127;have t3:=L.t3;have a3:=L.a3;have z3:=L.z3;have v3:=L.v3;have u3:=run_underlying L.t3;have t9:=L.t9;have a9:=L.a9;have z9:=L.z9;have v9:=L.v9;have u9:=run_underlying L.t9;have t5:=X.t5;have a5:=X.a5;have z5:=X.z5;have v5:=X.v5;have u5:=run_underlying X.t5
 go_enter L.f169,Body.n169_ntmps ρ
 go_wp2
 go_region_o
 all_goals (go_wp2;go_ret;exact⟨rfl,Lib.below_freeze (Below.drew (Below.refl g w)) (p:=⟨g,0,none⟩) (Nat.le_refl _) _⟩)
theorem FE{lo:Nat}{bs:ay}(B:C3 h b (λx=>lo<=x) bs)(hm:bs.length<=2000000000)
  (hK:∀h',Fr (λx=>lo<=x) h h'->K (.string (mkStr bs)) h'):C.mT (some ⟨b,0,none⟩) h K:=by
 refine⟨⟨_,Tryz.func318,by kernel_rfl,by kernel_rfl⟩,λw hw=>?_⟩;subst hw;obtain⟨p,v,eb,hp,hv⟩:=B
 rcases hv with⟨rfl,rfl⟩|⟨g,cap,cur,rfl,fB,Zk,Zl,eg,hle,wO,htk⟩
 ·exact(Any.Builder_String_nil Tryz.lays169 Tryz.extra169 w.heap.size b p w eb).mono λe w' ⟨h1,k⟩=>⟨_,h1,⟨k.os,k.tape,k.output⟩,hK w'.heap ⟨k.size,λx hx _=>k.block x hx⟩⟩
 ·exact(Uz Tryz.lays169 Tryz.extra169 b g cap p cur bs w eb eg fB hle wO hm htk).mono λe w' ⟨h1,k⟩=>⟨_,h1,⟨k.os,k.tape,k.output⟩,hK w'.heap ⟨k.size,λx hx hF=>k.block x (by have hF:¬lo<=x:=hF;omega)⟩⟩
end Fi
namespace Fi
open Hp W Ad Tm Spc Re Av Rg
open Hd (ints)
open In (pq ah av lU mY)
open Ino (getM su aF)
open Bm (dI)
theorem nh{T:TM}{g:G}{n:Int}(h:(getM T g n).2=0):lU (getM T g n).1=true:=by
 unfold getM at h ⊢
 split
 ·rename_i y;rw[if_pos y]at h;exact absurd h (by decide)
 ·rename_i y;rw[if_neg y]at h
  split
  ·rename_i z;rw[if_pos z]at h;exact absurd h z
  ·rename_i z;rw[if_neg z]at h;unfold mY at h ⊢
   split
   ·rename_i w;rw[if_pos w]at h;exact absurd h (by decide)
   ·rename_i w;rw[if_neg w]at h
    split
    ·rename_i v;unfold In.nA at v;rw[Bool.and_eq_true]at v;exact v.2
    ·rename_i v;rw[if_neg v]at h;exact absurd h (by decide)
theorem P0{T:TM}{g:G}{n:Int}(h:(jE T g n).2=0):jE T g n=getM T g n/\(getM T g n).2=0/\lU (getM T g n).1=true/\(getM T g n).1.getD 0 0≠0:=by
 unfold jE at h ⊢
 split
 ·rename_i y;rw[if_pos y]at h;exact absurd (show(110:Int)=0 from h) (by decide)
 ·rename_i y;rw[if_neg y]at h;exact⟨rfl,h,nh h,λz=>y ⟨h,z⟩⟩
theorem DM{T:TM}{g:G}{n:Int}(h:(jE T g n).2=0):0<=(jE T g n).1.getD 2 0/\(jE T g n).1.getD 2 0<=8459264:=by
 obtain⟨e,_,m,_⟩:=P0 h;rw[e];obtain⟨_,_,_,_,a,b,_⟩:=In.qv (aF T g n) m;exact⟨a,b⟩
theorem Bv{T:TM}{g:G}{k:Int}(x:Tx h F t d T)(e:(bC T g R k).2=0):(bC T g R k).1.length=512:=by
 unfold bC at e ⊢
 split
 ·rename_i y;rw[if_pos y]at e;exact absurd e y
 ·rename_i y;rw[if_neg y]at e
  split
  ·exact List.length_replicate
  ·rename_i z;rw[if_neg z]at e;exact Tx.mZ x e
def iZ(T:TM)(g:G)(R:List Int)(off n:Nat):Nat->Nat->ay->ay×Int
 | 0,_,s=>(s,0)
 | k+1,a,s=>if n<=a then(s,0)else if(bC T g R ((off+a)/512:Nat)).2≠0 then([],(bC T g R ((off+a)/512:Nat)).2)else
   iZ T g R off n k (sV off n a) (s++((bC T g R ((off+a)/512:Nat)).1.drop ((off+a)%512)).take (toP off n a-(off+a)%512))
theorem JI{T:TM}{g:G}{a:Nat}{s:ay}(h:n<=a):∀k,iZ T g R off n k a s=(s,0)
 | 0=>rfl
 | k+1=>by unfold iZ;rw[if_pos h]
def fF(T:TM)(g:G)(i off size:Int):ay×Int:=if off<0∨size<0 then([],1)else if(jE T g i).2≠0 then([],(jE T g i).2)else if off>=(jE T g i).1.getD 2 0 then([],0)else
 iZ T g (jE T g i).1 off.toNat (min size ((jE T g i).1.getD 2 0-off)).toNat (min size ((jE T g i).1.getD 2 0-off)).toNat 0 []
theorem UA{Q:NP}{k:HP}(H:∀ h',oM h h' [.pointer none,.slice none 0 0]->C3 h' h.size Q []->k h'):aC [.pointer none,.slice none 0 0] 403 h k:=
 H _ ⟨uJ _ _ _,xo _ _,ov _ _ _,nF _ _ _⟩ (C3.new h Q)
theorem FF{R:Loop}{st:LoopState}{p:Option Code}(o:br h l R st p):l<h.size:=pC o
theorem P1{s:ByteArray}{v:Value}{k:HP}(w:du h b)(r:rd h b=[v])(H:∀ h',yw b h h' [.string s]->k h'):bQ ⟨b,0,none⟩ (.string s) h k:=
 bQ.intro w (by rw[r];exact Nat.zero_lt_one) λh' d=>by rw[r]at d;exact H h' d
theorem fM{T:TM}{i off size:Int}(gl:In.pq h)(dm:Ab n)(x:Tx h F t d T)
  (hK:∀h',Fr No h h'->K (.tuple #[.string (mkStr (fF T (af n) i off size).1),.int .i64 (fF T (af n) i off size).2]) h'):C.kv t (af n).v i off size h K:=by
 refine kv.ok (aC.intro λh2 n2=>aC.intro λh3 n3=>aC.intro λh4 n4=>aC.intro λh5 n5=>?_);have z2:=n2.size;have z3:=n3.size;have z4:=n4.size;have z5:=n5.size;have F5:Fr No h h5:=((n2.fr.new n3).new n4).new n5;have os5:du h5 h3.size:=n5.ow n4.own;have rs5:rd h5 h3.size=[.string (mkStr [])]:=(n5.at_ (by omega)).trans n4.rd
 -- what ends the call ahead of the loop
 have ret:∀e hh,Fr No h hh->du hh h3.size->rd hh h3.size=[.string (mkStr [])]->du hh h4.size->rd hh h4.size=[.int .i64 0]->fF T (af n) i off size=([],e)->
   bQ ⟨h3.size,0,none⟩ (.string (mkStr [])) hh λh6=>bQ ⟨h4.size,0,none⟩ (.int .i64 e) h6 λh7=>∃(bL:ByteArray),cellOf h7 ⟨h3.size,0,none⟩=some (.string bL)/\
    ∃(di:Int),cellOf h7 ⟨h4.size,0,none⟩=some (.int .i64 di)/\K (.tuple #[.string bL,.int .i64 di]) h7:=λe hh f o1 r1 o2 r2 he=>by
  rw[he]at hK;refine P1 o1 r1 λh6 d6=>PZ (d6.ow o2) ((d6.at_ o2.lt (by omega)).trans r2) λh7 d7=>⟨_,nt ((d7.at_ d6.own.lt (by omega)).trans d6.rd) rfl,_,nt d7.rd rfl,hK h7 ((f.did d6 λhl=>by omega).did d7 λhl=>by omega)⟩
 refine cd (λZm=>ret 1 h5 F5 os5 rs5 n5.own n5.rd (by unfold fF;rw[if_pos (.inl Zm)])) λho=>cd (λZm=>ret 1 h5 F5 os5 rs5 n5.own n5.rd (by unfold fF;rw[if_pos (.inr Zm)])) λhz=>?_;unfold kv.k1;have rt5:rd h5 h.size=[.pointer t]:=(n5.at_ (by omega)).trans ((n4.at_ (by omega)).trans ((n3.at_ (by omega)).trans n2.rd));have P2:rd h5 h2.size=(af n).v:=(n5.at_ (by omega)).trans ((n4.at_ (by omega)).trans n3.rd);have lR:=Hm T (af n) i;refine⟨t,nt rt5 rfl,(af n).v,rfl,aj P2,Bg (gl.no F5) (x.no F5) (Iz dm) λcg f11=>⟨_,_,rfl,ax.intro (by rw[ah,lR]) (av _) rfl λbU n13=>?_⟩⟩;have OL:=f11.size;have z13:=n13.size;have Xs:Fr No h bU:=(F5.no f11).new n13;have acp:Fr No h5 bU:=f11.new n13;have Iy:∀b,b<h5.size->rd bU b=rd h5 b:=λb hb=>acp.rd hb λy=>y;have w13:∀b,du h5 b->du bU b:=λb o=>acp.own o.lt (λy=>y) o;refine cn (λhe=>ret _ bU Xs (w13 _ os5) ((Iy _ (by omega)).trans rs5) (w13 _ n5.own) ((Iy _ (by omega)).trans n5.rd) (by unfold fF;rw[if_neg (by omega),if_pos he])) λhe=>?_;obtain⟨R0,R1⟩:=DM he;refine⟨_,bW n13.rd (iaT (by rw[lR];decide)),cd (λvF=>ret _ bU Xs (w13 _ os5) ((Iy _ (by omega)).trans rs5) (w13 _ n5.own) ((Iy _ (by omega)).trans n5.rd) (by unfold fF;rw[if_neg (by omega),if_neg (λy=>y he),if_pos vF])) λdh=>?_⟩;have dh:¬off>=(jE T (af n) i).1.getD 2 0:=dh
 have er:fF T (af n) i off size=iZ T (af n) (jE T (af n) i).1 off.toNat (min size ((jE T (af n) i).1.getD 2 0-off)).toNat (min size ((jE T (af n) i).1.getD 2 0-off)).toNat 0 []:=by
  unfold fF;rw[if_neg (by omega),if_neg (λy=>y he),if_neg dh]
 rw[er]at hK;clear ret er he;obtain⟨DN,eo⟩:∃k:Nat,off=k:=⟨off.toNat,by omega⟩;obtain⟨m,em⟩:∃k:Nat,min size ((jE T (af n) i).1.getD 2 0-off)=k:=⟨(min size ((jE T (af n) i).1.getD 2 0-off)).toNat,by omega⟩;rw[em,Int.toNat_natCast,eo,Int.toNat_natCast]at hK;have hb:DN+m<=8459264:=by omega
 generalize hR:(jE T (af n) i).1=R at hK lR n13 R0 R1 dh em hb ⊢;refine UA (Q:=λx=>bU.size+5<=x) λh18 n18 B18=>⟨_,bW ((n18.at_ (by omega)).trans n13.rd) (iaT (by rw[lR];decide)),?_⟩;have Xt:=n18.size
 have emn:(if(IntKind.wrap .i64 (R.getD (0+2) 0-off))<size then(IntKind.wrap .i64 (R.getD (0+2) 0-off))else size)=(m:Int):=by
  have e2:R.getD (0+2) 0=R.getD 2 0:=rfl;rw[e2,wrap_i64 (by omega) (by omega)]
  split <;> omega
 rw[emn,eo];refine nM.ok (aC.intro λacr P3=>aC.intro λfO n19=>⟨_,rfl,λL rounds=>?_⟩);have z19a:=P3.size;have z19:=n19.size;have eb:fO.size=bU.size+3:=by omega
 have hc1:h18.size=bU.size+1:=by omega
 have hc2:acr.size=bU.size+2:=by omega
 have F19:Fr No h fO:=((Xs.new n18).new P3).new n19;have Fb:=rA fO L;have Ly:=rB fO L;have d0:=ud fO L;have zb:(bN fO L).size=bU.size+5:=by rw[mG];omega
 have F0:Fr No h (bN fO L):=F19.no Fb;have acs:Fr No bU (bN fO L):=((n18.fr.new P3).new n19).no Fb;have qb:∀b,b<bU.size->rd (bN fO L) b=rd bU b:=λb hb=>acs.rd hb λy=>y;have wb:∀b,du bU b->du (bN fO L) b:=λb o=>acs.own o.lt (λy=>y) o;have rt:rd (bN fO L) h.size=[.pointer t]:=(qb _ (by omega)).trans ((Iy _ (by omega)).trans rt5);have rg:rd (bN fO L) h2.size=(af n).v:=(qb _ (by omega)).trans ((Iy _ (by omega)).trans P2);have rs:rd (bN fO L) h3.size=[.string (mkStr [])]:=(qb _ (by omega)).trans ((Iy _ (by omega)).trans rs5);have re:rd (bN fO L) h4.size=[.int .i64 0]:=(qb _ (by omega)).trans ((Iy _ (by omega)).trans n5.rd);have os:du (bN fO L) h3.size:=wb _ (w13 _ os5);have oe:du (bN fO L) h4.size:=wb _ (w13 _ n5.own);have rx:rd (bN fO L) cg.size=ints R:=(qb _ (by omega)).trans n13.rd;have rco:rd (bN fO L) h18.size=[.int .i64 (DN:Int)]:=(Fb.rd (by omega) λy=>y).trans ((n19.at_ (by omega)).trans P3.rd);have rcn:rd (bN fO L) acr.size=[.int .i64 (m:Int)]:=(Fb.rd (by omega) λy=>y).trans n19.rd;have Bb:C3 (bN fO L) bU.size (λx=>bU.size+5<=x) []:=B18.fr (((Fr.refl No h18).new P3).new n19 |>.no Fb) (λy=>y) λ_ _ _ y=>y;have glb:=gl.no F0;generalize hbe:bN fO L=Hq at *;have el:fO.size+1=bU.size+4:=by omega
 rw[el]at rounds Ly ⊢;rw[eb]at d0 ⊢;rw[hc1]at rco;rw[hc2]at rcn;rw[hc2,hc1];have xb:=x.no F0;show C.ju (.func (.yield (bU.size+4)) #[] #[]) (some ⟨bU.size+2,0,none⟩) (some ⟨bU.size+1,0,none⟩) Hq _
 -- leaving the loop
 have leave:∀(v:ay) (e:Int) (jG:ab) (st:Option Code),Fr (λb=>b=bU.size∨b=bU.size+4∨b=h3.size∨b=h4.size) Hq jG->rd jG h3.size=[.string (mkStr v)]->rd jG h4.size=[.int .i64 e]->
   (∀h',Fr No h h'->K (.tuple #[.string (mkStr v),.int .i64 e]) h')->
   qm (bU.size+3) jG λAq=>∃(PC:ByteArray),cellOf Aq ⟨h3.size,0,none⟩=some (.string PC)/\∃(G7:Int),cellOf Aq ⟨h4.size,0,none⟩=some (.int .i64 G7)/\K (.tuple #[.string PC,.int .i64 G7]) Aq:=λv e jG st f26 r1 r2 hk=>by
  have z26:=f26.size;refine iR ((f26.same _ (by omega) (by omega)).trans d0) λAq z33 f33=>?_;refine⟨_,nt ((f33.rd (by omega) (by omega)).trans r1) rfl,_,nt ((f33.rd (by omega) (by omega)).trans r2) rfl,hk Aq ?_⟩;exact((F0.trans f26 λb hb y=>by omega).trans f33 λb hb y=>by omega)
 refine uX (off:=DN) (n:=m) (by omega) (λa hh=>Fr (λb=>b=bU.size∨b=bU.size+4) Hq hh/\br hh (bU.size+4) L .ready none/\∃s k,C3 hh bU.size (λx=>bU.size+5<=x) s/\s.length=a/\m<=a+k/\iZ T (af n) R DN m m 0 []=iZ T (af n) R DN m k a s) (λa hh J=>?_) (λa hh h' J ha f' r' l'=>?_) ⟨Fr.refl _ _,Ly,[],m,Bb,rfl,by omega,rfl⟩ λhh J=>?_
 ·obtain⟨f,_⟩:=J;have:=f.size;exact⟨(f.rd (by omega) (by omega)).trans rcn,(f.rd (by omega) (by omega)).trans rco,by omega,by omega⟩
 ·-- a round
  obtain⟨f,on,s,k,B,ls,hk,eq⟩:=J;have zf:=f.size;have zf':=f'.size;obtain⟨k,rfl⟩:∃k',k=k'+1:=⟨k-1,by omega⟩;refine rounds (Bq DN m a) h' _ (cH on f' λy=>y) (ax.intro rfl (by intro v hv;simp only[Bq,List.mem_cons,List.not_mem_nil,or_false]at hv;rcases hv with rfl|rfl|rfl|rfl <;> rfl) rfl λjC n22=>⟨cH (cH on f' λy=>y) n22.fr λy=>y,gI (by have:=n22.size;omega) λlu t23=>?_⟩);have z22:=n22.size;have z23:=t23.size;have f23:Fr (λb=>b=bU.size∨b=bU.size+4) Hq lu:=((f.no f').new n22).trans t23.fr λb hb y=>.inr y;have q23:∀b,b<Hq.size->b≠bU.size->b≠bU.size+4->rd lu b=rd Hq b:=λb hb h1 h2=>f23.rd hb λy=>y.elim h1 h2;have P4:rd lu h'.size=Bq DN m a:=(t23.fr.rd (by omega) (by omega)).trans n22.rd;have acu:Fr No h lu:=F0.trans f23 λb hb y=>by omega
  have B23:C3 lu bU.size (λx=>bU.size+5<=x) s:=((B.fr f' (λy=>y) λ_ _ _ y=>y).fr n22.fr (λy=>y) λ_ _ _ y=>y).fr t23.fr (by omega) λg h1 _ y=>by omega
  refine⟨t,nt ((q23 _ (by omega) (by omega) (by omega)).trans rt) rfl,(af n).v,rfl,aj ((q23 _ (by omega) (by omega) (by omega)).trans rg),_,by rw[ah,lR],aj ((q23 _ (by omega) (by omega) (by omega)).trans rx),_,bW P4 rfl,?_⟩;refine JH (gl.no acu) (x.no acu) lR λa1 l1 c1 pz f24 hl s24=>⟨_,_,_,_,rfl,cn (λhb=>?_) λhb=>?_⟩
  ·-- it Yj not read
   have ee:iZ T (af n) R DN m m 0 []=([],(bC T (af n) R ((DN+a)/512:Nat)).2):=by
    rw[eq];unfold iZ;rw[if_neg (by omega),if_pos hb]
   rw[ee]at hK;have Zn:Fr (λb=>b=bU.size∨b=bU.size+4) Hq pz:=f23.no f24;have z24:=f24.size;have q24:∀b,b<Hq.size->b≠bU.size->b≠bU.size+4->rd pz b=rd Hq b:=λb hb h1 h2=>Zn.rd hb λy=>y.elim h1 h2;have w24:∀b,du Hq b->b≠bU.size->b≠bU.size+4->du pz b:=λb o h1 h2=>Zn.own o.lt (λy=>y.elim h1 h2) o;refine P1 (w24 _ os (by omega) (by omega)) ((q24 _ (by omega) (by omega) (by omega)).trans rs) λjv d25=>PZ (d25.ow (w24 _ oe (by omega) (by omega))) ((d25.at_ (by omega) (by omega)).trans ((q24 _ (by omega) (by omega) (by omega)).trans re)) λjG d26=>?_;have z25:=d25.size;have z26:=d26.size;have Zo:br jG (bU.size+4) L .busy none:=cH (cH (cH t23.on f24 λy=>y) d25.fr (by omega)) d26.fr (by omega);refine⟨Zo,.inr ⟨rfl,.done,some .ret,pV (FF Zo) L _ _,by decide,?_⟩⟩;have t27:=qI (FF Zo) L .done (some .ret);have z27:=t27.size;refine gI (by omega) λPz t34=>leave [] _ Pz none ?_ ?_ ?_ hK
   ·exact((((Zn.mono λb _ y=>by omega).trans d25.fr λb hb y=>by omega).trans d26.fr λb hb y=>by omega).trans t27.fr λb hb y=>by omega).trans t34.fr λb hb y=>by omega
   ·exact(t34.fr.rd (by omega) (by omega)).trans ((t27.fr.rd (by omega) (by omega)).trans ((d26.at_ (by omega) (by omega)).trans d25.rd))
   ·exact(t34.fr.rd (by omega) (by omega)).trans ((t27.fr.rd (by omega) (by omega)).trans d26.rd)
  ·-- its bytes are taken
   obtain⟨t1,t2⟩:=toP_gt (off:=DN) ha;have lb:=Bv x hb;have hc:=s24.le;have z24:=f24.size;have r24:rd pz h'.size=Bq DN m a:=(f24.rd (by omega) λy=>y).trans P4;refine⟨_,bW r24 rfl,_,bW r24 rfl,⟨by omega,by omega,by omega⟩,?_⟩;rw[Int.toNat_natCast,Int.toNat_natCast];have S:=aJ.cut s24.str hc (i:=(DN+a)%512) (j:=toP DN m a) (by omega) (by omega)
   have acw:(((bC T (af n) R ((DN+a)/512:Nat)).1.drop ((DN+a)%512)).take (toP DN m a-(DN+a)%512)).length=toP DN m a-(DN+a)%512:=by
    rw[List.length_take,List.length_drop,lb];omega
   have lhh:=B.lt;have B24':C3 pz bU.size (λx=>bU.size+5<=x/\x<hh.size) s:=((((B.mono (Q':=λx=>bU.size+5<=x/\x<hh.size) λg h1 h2=>⟨h1,h2⟩).fr f' (λy=>y) λ_ _ _ y=>y).fr n22.fr (λy=>y) λ_ _ _ y=>y).fr t23.fr (by omega) λg h1 _ y=>by omega).fr f24 (λy=>y) λ_ _ _ y=>y;refine Ho B24' S (λy=>by rw[y,List.length_nil]at acw;omega) (λp hp=>?_) (by omega) λv sb f27 B27=>⟨_,_,rfl,?_⟩
   ·obtain⟨p0,ep,_⟩:=s24.get (by omega);subst ep;obtain⟨pb,po,sp⟩:=p0;have esp:sp=none:=s24.2.1;subst esp;have hfrom:lu.size<=pb:=s24.2.2.1
    split at hp
    ·cases hp;show pb≠_;omega
    ·cases hp
     show(Addr.add ⟨pb,po,none⟩ _).block≠_;rw[cI];show pb≠_;omega
   have z27:=f27.size;have acx:br sb (bU.size+4) L .busy none:=cH (cH t23.on f24 λy=>y) f27 (by omega);have t28:=qI (FF acx) L .ready none;refine⟨acx,.inl ⟨rfl,⟨?_,t28.on,_,k,(B27.mono (Q':=λx=>bU.size+5<=x) λg h1 _=>by omega).fr t28.fr (by omega) λg h1 _ y=>by omega,?_,?_,?_⟩,?_⟩⟩
   ·exact((f23.no f24).trans f27 λb hb y=>by omega).trans t28.fr λb hb y=>.inr y
   ·rw[List.length_append,acw,ls];rfl
   ·have:=(uf (off:=DN) ha).1;omega
   ·rw[eq]
    conv=>lhs;unfold iZ
    rw[if_neg (by omega),if_neg (λy=>y hb)]
   ·have e1:rd (cZ sb (bU.size+4) L .ready none) hh.size=rd sb hh.size:=t28.fr.rd (by omega) (by omega);exact e1.trans ((f27.rd (by omega) (by omega)).trans ((f24.rd (by omega) λy=>y).trans ((t23.fr.rd (by omega) (by omega)).trans (n22.at_ (by omega)))))
 ·-- all have acy
  obtain⟨f,on,s,k,B,ls,hk,eq⟩:=J;rw[JI (Nat.le_refl m)]at eq;rw[eq]at hK;have zf:=f.size;refine⟨.ready,none,on,by decide,rC (gI (by omega) λAl t29=>?_)⟩;have z29:=t29.size;have f29:Fr (λb=>b=bU.size∨b=bU.size+4) Hq Al:=f.trans t29.fr λb hb y=>.inr y;refine FE (B.fr t29.fr (by omega) λg h1 _ y=>by omega) (by omega) λnz f30=>⟨_,rfl,?_⟩;have z30:=f30.size;have Zp:Fr (λb=>b=bU.size∨b=bU.size+4) Hq nz:=f29.trans f30 λb hb y=>by omega
  have q30:∀b,b<Hq.size->b≠bU.size->b≠bU.size+4->rd nz b=rd Hq b:=λb hb h1 h2=>Zp.rd hb λy=>y.elim h1 h2;have w30:∀b,du Hq b->b≠bU.size->b≠bU.size+4->du nz b:=λb o h1 h2=>Zp.own o.lt (λy=>y.elim h1 h2) o;refine P1 (w30 _ os (by omega) (by omega)) ((q30 _ (by omega) (by omega) (by omega)).trans rs) λsT d31=>PZ (d31.ow (w30 _ oe (by omega) (by omega))) ((d31.at_ (by omega) (by omega)).trans ((q30 _ (by omega) (by omega) (by omega)).trans re)) λpj d32=>?_;have z31:=d31.size;refine leave s 0 pj none ?_ ((d32.at_ (by omega) (by omega)).trans d31.rd) d32.rd hK;exact((Zp.mono λb _ y=>by omega).trans d31.fr λb hb y=>by omega).trans d32.fr λb hb y=>by omega
theorem P5{elem:TI}(he:elem.cells=1){b o n m:Nat}{s:ByteArray}{new:ay}{h:ab}{k:Nat->ab->Prop}(hm:min s.size n=m)(hn:s.toList.take m=new)(RW:new.length=m)(w:du h b)(hl:o+m<=(rd h b).length)
  (H:∀h',yw b h h' (put (rd h b) o (new.map bv))->k m h'):qU elem (some ⟨b,o,none⟩) n (.string s) h k:=by
 subst hm;subst hn;refine⟨by rw[he];trivial,?_,?_⟩
 ·simp only[Om,cI];exact yv w (by omega)
 ·simp only[wW,cI];exact H _ ⟨Hp.size_setRow _ _ _ _,Fr.setRow (F:=λx=>x=b) (Or.inl rfl) (Fr.refl _ h),nG w,by rw[jd];rfl⟩
end Fi
namespace Di
open Go Go.Proofs Ad Tm Bt Spc Av Fi Bm Ino Sk Ss
def bD(T:TM)(g:G)(n:Int):List Int×Int:=
 if(getM T g n).2≠0 then getM T g n else if(getM T g n).1.getD 0 0=0 then((getM T g n).1,110)else if(getM T g n).1.getD 0 0≠2 then((getM T g n).1,161)else getM T g n
theorem xG{T:TM}{g:G}{n:Int}(h:(bD T g n).2=0):bD T g n=getM T g n/\(getM T g n).2=0/\(getM T g n).1.getD 0 0=2:=by
 unfold bD at h ⊢
 split
 ·rename_i y;rw[if_pos y]at h;exact absurd h y
 ·rename_i y;rw[if_neg y]at h
  split
  ·rename_i z;rw[if_pos z]at h;exact absurd (show(110:Int)=0 from h) (by decide)
  ·rename_i z;rw[if_neg z]at h
   split
   ·rename_i w;rw[if_pos w]at h;exact absurd (show(161:Int)=0 from h) (by decide)
   ·rename_i w;exact⟨rfl,Classical.byContradiction y,Classical.byContradiction w⟩
theorem lK(T:TM)(g:G)(n:Int):(bD T g n).1.length=15:=by
 have l:=aF T g n;unfold bD
 split
 ·exact l
 ·split
  ·exact l
  ·split <;> exact l
structure uh where
 index:Nat
 block:Int
 bytes:Tm.ay
 cells:List E
def aM(T:TM)(g:G)(R:List Int)(k:Nat):uh×Int:=(⟨k,(dI T g R k).1,(bC T g R k).1,(ry (bC T g R k).1).1⟩,if(bC T g R k).2≠0 then(bC T g R k).2 else(ry (bC T g R k).1).2)
def cu(T:TM)(g:G)(R:List Int):Nat->Nat->List uh×Int
 | 0,_=>([],0)
 | m+1,k=>if(aM T g R k).2≠0 then([],(aM T g R k).2)else((aM T g R k).1::(cu T g R m (k+1)).1,(cu T g R m (k+1)).2)
def gZ(T:TM)(g:G)(R:List Int):List uh×Int:=cu T g R (R.getD 2 0/512).toNat 0
def ib(l:uh)(s:Tm.ay):Option E:=l.cells.find? λc=>c.name==s
def jx(T:TM)(g:G)(R:List Int)(s:Tm.ay):Nat->Nat->Option (uh×E)×Int
 | 0,_=>(none,160)
 | m+1,k=>if(aM T g R k).2≠0 then(none,(aM T g R k).2)else match ib (aM T g R k).1 s with
  | some c=>(some ((aM T g R k).1,c),0)
  | none=>jx T g R s m (k+1)
def k8(T:TM)(g:G)(n:Int)(s:Tm.ay):Option (uh×E)×Int:=
 if bf s=false then(none,1)else if(bD T g n).2≠0 then(none,(bD T g n).2)else jx T g (bD T g n).1 s ((bD T g n).1.getD 2 0/512).toNat 0
theorem zn{T:TM}{g:G}{R:List Int}{s:Tm.ay}:∀(m k:Nat) (x:uh×E),(jx T g R s m k).1=some x->(jx T g R s m k).2=0/\x.2.name=s/\x.2∈x.1.cells/\∃j,k<=j/\j<k+m/\x.1=(aM T g R j).1/\(aM T g R j).2=0
 | 0,k,x,h=>by cases h
 | m+1,k,x,h=>by
  unfold jx at h ⊢
  split at h
  ·cases h
  ·rename_i y;rw[if_neg y]
   split at h
   ·rename_i c hc
    cases h
    refine⟨rfl,?_,List.mem_of_find?_eq_some (by unfold ib at hc;exact hc),k,Nat.le_refl _,by omega,rfl,Classical.byContradiction y⟩;unfold ib at hc;have q:=List.find?_some hc;exact eq_of_beq q
   ·obtain⟨a,b,c,j,j0,j1,j2⟩:=zn m (k+1) x h;exact⟨a,b,c,j,by omega,by omega,j2⟩
def findD(T:TM)(g:G)(n:Int)(s:Tm.ay):Int×Int:=((match (k8 T g n s).1 with
 | some x=>x.2.fu
 | none=>0),(k8 T g n s).2)
def nR(l:List uh):List E:=l.flatMap λx=>x.cells.map λc=>⟨c.place+16*x.index,c.name,c.fu⟩
end Di
namespace Bm
open Hp W Ad Tm Bt Spc Re Av
open Hd (ints)
open In (pq ah av)
structure Im(n:Nat)(U:Nat->Bool)(L:ay):Prop where
 len:L.length=512*n
 bits:∀j,j<4096*((af n).aN-98)->vK L (98*4096+j)=U j
def P6(U:Nat->Bool)(i:Nat):Nat->Bool:=λj=>if j=i then true else U j
theorem Im.put{U:Nat->Bool}{L:ay}(a:Im n U L)(hn:128<=n/\n<4428)(hi:i<4096*((af n).aN - 98)):Im n (P6 U i) (oH L (98*4096+i) true):=by
 have hle:(af n).aN*512<=n*512:=by show(98+(n+4095)/4096)*512<=_;omega
 have h98:98<=(af n).aN:=by show 98<=98+_;omega
 refine⟨(vL ..).trans a.len,λj hj=>?_⟩;rw[Fv _ _ _ _ (by rw[a.len];omega)];unfold P6
 by_cases h:j=i
 ·rw[if_pos (by omega),if_pos h]
 ·rw[if_neg (by omega),if_neg h,a.bits j hj]
theorem Im.congr{U U':Nat->Bool}{L:ay}(a:Im n U L)(h:∀ j,U j=U' j):Im n U' L:=⟨a.len,λj hj=>(a.bits j hj).trans (h j)⟩
theorem Im.copy{U:Nat->Bool}{L ys:ay}(a:Im n U L)(h1:512*(af n).aN<=o)(h2:o+ys.length<=512*n):Im n U (gA L o ys):=by
 have hl:=a.len;refine⟨(dW (by omega)).trans hl,λj hj=>?_⟩;have h98:98<=(af n).aN:=by show 98<=98+_;omega
 rw[<-a.bits j hj];unfold vK gA;have hi:(98*4096+j)/8<o:=by omega
 rw[List.getD_eq_getElem?_getD,List.getD_eq_getElem?_getD,List.append_assoc,List.getElem?_append_left (by rw[List.length_take];omega),List.getElem?_take,if_pos hi]
theorem Im.bit{n:Nat}{U:Nat->Bool}{L:ay}(a:Im n U L)(hn:128<=n/\n<4428){j:Nat}(hj:j<n):Av.bit (Z0 L) j=U j:=by
 have hino:(af n).aN=98+(n+4095)/4096:=rfl;rw[<-a.bits j (by omega)];unfold Av.bit;rw[Hn _ _ _ (Nat.mod_lt _ (by decide))];congr 1;omega
end Bm
namespace Fi
open Hp W Ad Tm Bt Spc Re Av
open Hd (ints)
open In (pq ah av lU mY kU qw nA G9 oO)
open Ino (getM su aF pX rat)
open Bm (dI num sk nS Wf path Ax Bn par)
def Bw(n k:Nat):Nat:=(af n).aN+k/8
def Bz(n:Nat)(Z:Nat->ay)(k:Nat):List Int×Int:=mY (((Z (Bw n k)).drop (64*(k%8))).take 64)
theorem Hr(d:Ab n)(h:k<(af n).count):(af n).aN<=Bw n k/\Bw n k<(af n).data/\Bw n k<n/\98<=Bw n k:=by
 have hd:=d.data;have e:(af n).count=8*(n/64):=rfl;have e2:(af n).data=98+(n+4095)/4096+n/64:=rfl;have e3:(af n).aN=98+(n+4095)/4096:=rfl;unfold Bw;omega
theorem Hs{P:List Int}(hP:P.length=15)(hm:lU P=true):mY (kU P)=(P,0):=by
 obtain⟨e1,e2⟩:=G9 hP hm;have:nA (kU P)=true:=by rw[nA,e1,e2,hm];rfl
 rw[mY,if_neg (by rw[qw hP];decide),if_pos this,e1]
theorem uY{Z:Nat->ay}{T:TM}(a:Av n Z T)(d:Ab n)(h1:1<=k)(h2:k<(af n).count):getM T (af n) k=Bz n Z k:=by
 have r:=Hr d h2;have e:pX (af n) (k:Int)=((Bw n k:Nat):Int):=rfl;unfold getM;rw[if_neg (λy=>y ⟨by omega,by omega⟩),e,a.z _ r.2.2.1,if_neg (λy=>y rfl)];rfl
def pc(Z:Nat->ay)(R:List Int)(k:Nat):ay:=if num Z R k=0 then ij else Z (num Z R k)
def BA(Z:Nat->ay)(R:List Int)(q:Nat):UInt8:=(pc Z R (q/512)).getD (q%512) 0
theorem P7{Z:Nat->ay}{T:TM}(a:Av n Z T)(w:Wf n Z R)(hk:k<nS):(pc Z R k).length=512:=by
 unfold pc
 split
 ·exact List.length_replicate
 ·rename_i h;exact a.len _ (w.Cx k hk h).2.1
theorem yE{Z:Nat->ay}{T:TM}(a:Av n Z T)(w:Wf n Z R)(hk:k<16522):bC T (af n) R k=(pc Z R k,0):=by
 unfold bC pc;rw[Ax a w hk,if_neg (λy=>y rfl)]
 by_cases h:num Z R k=0
 ·rw[if_pos (by show((num Z R k:Nat):Int)=0;omega),if_pos h]
 ·rw[if_neg (by show ¬((num Z R k:Nat):Int)=0;omega),if_neg h];exact a.z _ (w.Cx k (by unfold nS;omega) h).2.1
theorem yF{n off m:Nat}{Z:Nat->ay}{R:List Int}{T:TM}(a:Av n Z T)(w:Wf n Z R)(ho:off+m<=8459264):∀(k b:Nat) (s:ay),m<=b+k->b<=m->s=(List.range b).map (λi=>BA Z R (off+i))->iZ T (af n) R off m k b s=((List.range m).map (λi=>BA Z R (off+i)),0)
 | 0,b,s,h1,h2,h3=>by
  have:b=m:=by omega
  subst this;rw[h3];rfl
 | k+1,b,s,h1,h2,h3=>by
  unfold iZ
  by_cases hb:m<=b
  ·have:b=m:=(by omega);subst this;rw[if_pos hb,h3]
  ·have hk:(off+b)/512<16522:=(by omega);rw[if_neg hb,yE a w hk,if_neg (λy=>y rfl)];obtain⟨n1,n2⟩:=uf (off:=off) (show b<m by omega);obtain⟨t1,t2⟩:=toP_gt (off:=off) (show b<m by omega);refine yF a w ho k _ _ (by omega) n2 ?_;have lp:=P7 a w (k:=(off+b)/512) (by unfold nS;omega);refine List.ext_getElem ?_ λi i1 i2=>?_
   ·rw[List.length_append,h3,List.length_map,List.length_range,List.length_take,List.length_drop,lp,List.length_map,List.length_range];unfold sV;omega
   ·rw[List.getElem_map,List.getElem_range];rw[List.length_map,List.length_range]at i2;have ls:s.length=b:=by rw[h3,List.length_map,List.length_range]
    by_cases hi:i<b
    ·rw[List.getElem_append_left (by omega)];simp only[h3,List.getElem_map,List.getElem_range]
    ·rw[List.getElem_append_right (by omega),List.getElem_take,List.getElem_drop];unfold sV at i2;unfold BA;have e1:(off+i)/512=(off+b)/512:=(by omega);have e2:(off+i)%512=(off+b)%512+(i-b):=(by omega);rw[e1,e2,List.getD_eq_getElem?_getD,List.getElem?_eq_getElem (by omega)];simp only[ls];rfl
end Fi
namespace Di
open Go Go.Proofs Ad Tm Bt Spc Av Ss
open Fi (bC uY Bz pc P7 yE)
open Bm (dI num nS Wf Ax)
open Ino (getM)
open Sk (E gW bf dec Lq pU)
abbrev Cl :=Nat×Tm.ay
def BB(H:List Cl)(k:Nat):List Cl:=(H.drop (16*k)).take 16
theorem FG{H:List Cl}(h6:H.length % 16=0)(hk:16*k<H.length):(BB H k).length=16:=by
 unfold BB;rw[List.length_take,List.length_drop];omega
theorem Lz{H:List Cl}{x:Cl}(h:x ∈ BB H k):x∈H:=List.mem_of_mem_drop (List.mem_of_mem_take h)
theorem Ht(H:List Cl)(k:Nat):H.drop (16*k)=BB H k++H.drop (16*(k+1)):=by
 unfold BB;rw[show 16*(k+1)=16*k+16 by omega,<-List.drop_drop,List.take_append_drop]
structure P8(Z:Nat->Tm.ay)(R:List Int)(H:List Cl):Prop where
 kind:R.getD 0 0=2
 dT:2<=R.getD 1 0/\R.getD 1 0<=65535
 size:R.getD 2 0=((32*H.length:Nat):Int)
 JJ:H.length%16=0
 most:H.length<=160
 wc:∀x∈H,Sk.Good x
 dom:∀s,s<nS->(num Z R s≠0↔16*s<H.length)
 blk:∀k,16*k<H.length->pc Z R k=Sk.blk (BB H k)
theorem LA{hs:List Cl}(hl:hs.length=16)(g:∀ x ∈ hs,Sk.Good x):ry (Sk.blk hs)=(gW 0 hs,0):=by
 have e:=Lq g;rw[hl]at e;unfold ry;rw[if_neg (λy=>y (by rw[pU g,hl])),e]
def pos(s:Tm.ay):List Cl->Option Nat
 | []=>none
 | x::r=>if x.1≠0/\x.2=s then some 0 else(pos s r).map (· + 1)
theorem BC(s:Tm.ay)(b:List Cl):∀a:List Cl,pos s (a++b)=match pos s a with
  | some p=>some p
  | none=>(pos s b).map (· + a.length)
 | []=>by
  show pos s b=(pos s b).map (· + 0)
  cases pos s b <;> rfl
 | x::r=>by
  have ih:=BC s b r
  show(if x.1≠0/\x.2=s then some 0 else(pos s (r++b)).map (· + 1))=match (if x.1≠0/\x.2=s then some 0 else(pos s r).map (· + 1))with
   | some p=>some p
   | none=>(pos s b).map (· + (r.length+1))
  by_cases h:x.1≠0/\x.2=s
  ·rw[if_pos h,if_pos h]
  ·rw[if_neg h,if_neg h,ih]
   cases pos s r with
   | some p=>rfl
   | none=>
    cases pos s b with
    | none=>rfl
    | some q=>show some (q+r.length+1)=some (q+(r.length+1));rw[Nat.add_assoc]
theorem Hu{s:Tm.ay}:∀{H:List Cl} {p:Nat},pos s H=some p->p<H.length/\(H.getD p (0,[])).1≠0/\(H.getD p (0,[])).2=s
 | [],p,h=>by cases h
 | x::r,p,h=>by
  unfold pos at h
  by_cases c:x.1≠0/\x.2=s
  ·rw[if_pos c]at h
   cases h
   exact⟨Nat.succ_pos _,c⟩
  ·rw[if_neg c]at h;obtain⟨q,hq,rfl⟩:=Option.map_eq_some_iff.mp h;obtain⟨a,b⟩:=Hu hq;exact⟨Nat.succ_lt_succ a,b⟩
theorem DO(s:Tm.ay):∀(hs:List Cl) (k:Nat),(gW k hs).find? (λc=>c.name==s)=match pos s hs with
  | some p=>some ⟨((k+p:Nat):Int),s,(((hs.getD p (0,[])).1:Nat):Int)⟩
  | none=>none
 | [],k=>rfl
 | x::r,k=>by
  have ih:=DO s r (k+1)
  show(gW k (x::r)).find? _=match (if x.1≠0/\x.2=s then some 0 else(pos s r).map (· + 1))with
   | some p=>some ⟨((k+p:Nat):Int),s,((((x::r).getD p (0,[])).1:Nat):Int)⟩
   | none=>none
  have rest:(match (pos s r).map (· + 1)with
   | some p=>some (⟨((k+p:Nat):Int),s,((((x::r).getD p (0,[])).1:Nat):Int)⟩:E)
   | none=>none)=match pos s r with
   | some p=>some ⟨((k+1+p:Nat):Int),s,(((r.getD p (0,[])).1:Nat):Int)⟩
   | none=>none:=by
   cases pos s r with
   | none=>rfl
   | some p=>
    show some (⟨((k+(p+1):Nat):Int),s,((((x::r).getD (p+1) (0,[])).1:Nat):Int)⟩:E)=_;rw[show k+(p+1)=k+1+p by omega];rfl
  unfold gW
  by_cases h0:x.1=0
  ·rw[if_pos h0,if_neg (λy=>y.1 h0),rest];exact ih
  ·rw[if_neg h0]
   by_cases e:x.2=s
   ·rw[if_pos ⟨h0,e⟩,List.find?_cons_of_pos (by show(x.2==s)=true;rw[e];exact beq_self_eq_true s),e];rfl
   ·rw[if_neg (λy=>e y.2),rest,List.find?_cons_of_neg (by show ¬(x.2==s)=true;rw[beq_iff_eq];exact e)];exact ih
def uj(Z:Nat->Tm.ay)(R:List Int)(H:List Cl)(k:Nat):uh:=⟨k,((num Z R k:Nat):Int),Sk.blk (BB H k),gW 0 (BB H k)⟩
section
variable{n : Nat}{Z : Nat -> Tm.ay}{T : TM}{R : List Int}{H : List Cl}
theorem FH(a:Av n Z T)(d:Ab n)(r1:1<=i)(r2:i<(af n).count)(gi:Bz n Z i=(R,0))(D:P8 Z R H):bD T (af n) i=(R,0):=by
 have k:=D.kind;unfold bD;rw[uY a d r1 r2,gi,if_neg (λy=>y rfl),if_neg (λy=>by have y:R.getD 0 0=0:=y;omega),if_neg (λy=>y k)]
theorem LC(a:Av n Z T)(w:Wf n Z R)(D:P8 Z R H)(hk:16*k<H.length):aM T (af n) R k=(uj Z R H k,0):=by
 have m:=D.most;have e:=LA (FG D.JJ hk) λx hx=>D.wc x (Lz hx);unfold aM uj;rw[Ax a w (by omega),yE a w (by omega),D.blk k hk,if_neg (λy=>y rfl)];show(({ index:=k,block:=((num Z R k:Nat):Int),bytes:=Sk.blk (BB H k),cells:=(ry (Sk.blk (BB H k))).1 }:uh),(ry (Sk.blk (BB H k))).2)=_;rw[e]
def Xu(Z:Nat->Tm.ay)(R:List Int)(H:List Cl)(s:Tm.ay)(p:Nat):uh×E:=(uj Z R H (p/16),⟨((p%16:Nat):Int),s,(((H.getD p (0,[])).1:Nat):Int)⟩)
theorem DP{s:Tm.ay}(a:Av n Z T)(w:Wf n Z R)(D:P8 Z R H):∀m k,16*(k+m)=H.length->jx T (af n) R s m k=match pos s (H.drop (16*k))with
  | some p=>(some (Xu Z R H s (16*k+p)),0)
  | none=>(none,160)
 | 0,k,h=>by
  rw[List.drop_of_length_le (by omega)];rfl
 | m+1,k,h=>by
  have ih:=DP (s:=s) a w D m (k+1) (by omega);have hk:16*k<H.length:=by omega
  have OM:=FG D.JJ hk;unfold jx;rw[LC a w D hk,if_neg (λy=>y rfl),Ht,BC]
  have ec:ib (uj Z R H k,(0:Int)).1 s=match pos s (BB H k)with
   | some p=>some ⟨((0+p:Nat):Int),s,((((BB H k).getD p (0,[])).1:Nat):Int)⟩
   | none=>none:=DO s (BB H k) 0
  rw[ec]
  cases hp:pos s (BB H k)with
  | some p=>
   have acz:=(Hu hp).1;rw[OM]at acz
   have eg:(BB H k).getD p (0,[])=H.getD (16*k+p) (0,[]):=by
    unfold BB;rw[List.getD_eq_getElem?_getD,List.getElem?_take,if_pos acz,List.getElem?_drop,<-List.getD_eq_getElem?_getD]
   show(some (uj Z R H k,(⟨((0+p:Nat):Int),s,((((BB H k).getD p (0,[])).1:Nat):Int)⟩:E)),(0:Int))=(some (Xu Z R H s (16*k+p)),0);unfold Xu;rw[eg,show(16*k+p)/16=k by omega,show(16*k+p)%16=p by omega,Nat.zero_add]
  | none=>
   show jx T (af n) R s m (k+1)=_;rw[ih]
   cases pos s (H.drop (16*(k+1)))with
   | none=>rfl
   | some q=>
    show(some (Xu Z R H s (16*(k+1)+q)),(0:Int))=(some (Xu Z R H s (16*k+(q+(BB H k).length))),0);rw[OM,show 16*(k+1)+q=16*k+(q+16) by omega]
theorem P9(D:P8 Z R H):(R.getD 2 0/512).toNat=H.length/16:=by
 have:=D.size;have:=D.JJ;omega
theorem UB{s:Tm.ay}(a:Av n Z T)(d:Ab n)(w:Wf n Z R)(r1:1<=i)(r2:i<(af n).count)(gi:Bz n Z i=(R,0))(D:P8 Z R H)(hs:bf s=true):k8 T (af n) i s=match pos s H with
  | some p=>(some (Xu Z R H s p),0)
  | none=>(none,160):=by
 have h6:=D.JJ;unfold k8;rw[if_neg (by rw[hs];simp),FH a d r1 r2 gi D,if_neg (λy=>y rfl),P9 D,DP a w D (H.length/16) 0 (by omega),Nat.mul_zero,List.drop_zero]
 cases pos s H with
 | none=>rfl
 | some p=>show(some (Xu Z R H s (0+p)),(0:Int))=_;rw[Nat.zero_add]
theorem Hv{s:Tm.ay}(a:Av n Z T)(d:Ab n)(w:Wf n Z R)(r1:1<=i)(r2:i<(af n).count)(gi:Bz n Z i=(R,0))(D:P8 Z R H)(hs:bf s=true):findD T (af n) i s=match pos s H with
  | some p=>((((H.getD p (0,[])).1:Nat):Int),0)
  | none=>(0,160):=by
 unfold findD;rw[UB a d w r1 r2 gi D hs]
 cases pos s H <;> rfl
theorem zo(a:Av n Z T)(w:Wf n Z R)(D:P8 Z R H):∀m k,16*(k+m)=H.length->cu T (af n) R m k=((List.range' k m).map (uj Z R H),0)
 | 0,k,h=>rfl
 | m+1,k,h=>by
  have ih:=zo a w D m (k+1) (by omega);unfold cu;rw[LC a w D (by omega),if_neg (λy=>y rfl),ih];rfl
theorem DQ(a:Av n Z T)(w:Wf n Z R)(D:P8 Z R H):gZ T (af n) R=((List.range' 0 (H.length/16)).map (uj Z R H),0):=by
 have:=D.JJ;unfold gZ;rw[P9 D];exact zo a w D _ 0 (by omega)
theorem BD(a:Nat):∀(hs:List Cl) (k:Nat),(gW k hs).map (λc=>(⟨c.place+16*(a:Int),c.name,c.fu⟩:E))=gW (16*a+k) hs
 | [],k=>rfl
 | x::r,k=>by
  have ih:=BD a r (k+1);unfold gW
  by_cases h:x.1=0
  ·rw[if_pos h,if_pos h];exact ih
  ·rw[if_neg h,if_neg h,List.map_cons,ih];congr 1;rw[Sk.E.mk.injEq];exact⟨by show(k:Int)+16*(a:Int)=((16*a+k:Nat):Int);omega,rfl,rfl⟩
theorem JK(D:P8 Z R H):∀m k,16*(k+m)=H.length->nR ((List.range' k m).map (uj Z R H))=gW (16*k) (H.drop (16*k))
 | 0,k,h=>by rw[List.drop_of_length_le (by omega)];rfl
 | m+1,k,h=>by
  have ih:=JK D m (k+1) (by omega);have OM:=FG (H:=H) (k:=k) D.JJ (by omega);rw[List.range'_succ,List.map_cons,Ht,Sk.tZ,OM,show 16*k+16=16*(k+1) by omega,<-ih];show((gW 0 (BB H k)).map λc=>(⟨c.place+16*((k:Nat):Int),c.name,c.fu⟩:E))++_=_;rw[BD];rfl
end
end Di
namespace In
open Hp W Su Re Hd
theorem uk{elem:TI}{e:Nat}{new:LV}{k:OA->Nat->Nat->ab->Prop}(f:Fr No h0 h)
  (s:Sl h elem.cells a l c xs (bZ h0.size)) (hn:new.length=n*elem.cells) (hz:elem.zero.length=elem.cells) (hb:(l+n)*elem.bytes<=140737488355328) (mQ:l+n<=140737488355328)
  (hk:∀a' c' h',Fr No h0 h'->Sl h' elem.cells a' (l+n) c' (xs++new) (bZ h0.size)->k a' (l+n) c' h') :
  aw elem e a l c n new h k:=by
 have hs:=f.size;refine aT s hn hz hb mQ λa' c' h' f' s'=>hk a' c' h' (f.trans f' λb hb e=>by have:h0.size<=b:=e;omega) (s'.mono λb hb=>?_)
 rcases hb with hb|hb
 ·exact hb
 ·show h0.size<=b;omega
theorem BE(m:Nat):(Value.int .u8 (IntKind.wrap .u8 (m:Int)))=bv (UInt8.ofNat m):=by
 rw[Up];congr 1;apply UInt8.toNat_inj.mp;rw[UInt8.toNat_ofNat',UInt8.toNat_ofNat'];omega
theorem Zq{n:Int}(h0:0<=n):(Value.int .u8 (IntKind.wrap .u8 (Int.tmod n 256)))=bv (UInt8.ofNat n.toNat):=by
 have e:Int.tmod n 256=((n.toNat%256:Nat):Int):=by rw[Int.tmod_eq_emod_of_nonneg h0];omega
 rw[e,BE];congr 1;apply UInt8.toNat_inj.mp;rw[UInt8.toNat_ofNat',UInt8.toNat_ofNat'];omega
theorem iw{v lo hi:Int}(hK:K (.bool (decide (lo<=v) && decide (v<=hi))) h):C.bK v lo hi h K:=by
 refine bK.ok (cd (λx=>?_) λx=>?_)
 ·rw[decide_eq_true (show lo<=v from x)]at hK;exact hK
 ·rw[decide_eq_false (show ¬lo<=v from x)]at hK;exact hK
theorem LD(r:rd h b=ints R){i:Nat}(hi:3+i<R.length):cellOf h (Addr.add (Addr.add ⟨b,0,none⟩ 3) i)=some (.int .i64 (R.getD (3+i) 0)):=by
 rw[cI];refine bW r ?_;rw[Nat.zero_add,ints,List.getElem?_map,List.getD_eq_getElem?_getD,List.getElem?_eq_getElem hi];rfl
theorem DR(hR:R.length=15):(R.drop 3).all kB=true↔∀j,j<12->kB (R.getD (3+j) 0)=true:=by
 have e:∀j (hj:j<(R.drop 3).length),(R.drop 3)[j]=R.getD (3+j) 0:=λj hj=>by
  have:3+j<R.length:=by rw[List.length_drop]at hj;omega
  rw[List.getElem_drop,List.getD_eq_getElem?_getD,List.getElem?_eq_getElem this];rfl
 have ld:(R.drop 3).length=12:=by rw[List.length_drop,hR]
 constructor
 ·intro h j hj;rw[<-e j (by omega)];exact List.all_eq_true.mp h _ (List.getElem_mem _)
 ·intro h;refine List.all_eq_true.mpr λx hx=>?_;obtain⟨j,hj,rfl⟩:=List.mem_iff_getElem.mp hx;rw[e j hj];exact h j (by omega)
theorem P'(hR:R.length=15){j:Nat}(hj:j<12)(h:kB (R.getD (3+j) 0)=false):lU R=false:=by
 cases e:(R.drop 3).all kB with
 | false=>rw[lU,e];rfl
 | true=>rw[(DR hR).mp e j hj]at h;cases h
theorem UC{h1:ab}(hR:R.length=15)(hw:(R.drop 3).all kB=true)(r3:rd h h1.size=ints R)(hK:K (.bool (lU R)) h):fP.k1 h1 h K:=by
 have em:lU R=kindOk (R.getD 0 0) (R.getD 1 0) (R.getD 2 0) R:=by rw[lU,hw,Bool.true_and]
 rw[em]at hK;unfold kindOk at hK;refine⟨_,gw r3 (by omega),ce (λh0=>?_) λh0=>?_⟩
 ·rw[if_pos h0]at hK;refine⟨ints R,by rw[ah,hR],aj r3,Ar hR (S:=oO) List.length_replicate,?_⟩;rw[show(gC:LV)=ints oO from rfl,xw];exact hK
 ·rw[if_neg h0]at hK;refine ce (λh1=>?_) λh1=>?_
  ·rw[if_pos h1]at hK;refine⟨_,gw r3 (by omega),iw ⟨_,rfl,?_⟩⟩
   cases hb:(decide (0<=R.getD 1 0) && decide (R.getD 1 0<=1000))with
   | false=>rw[hb]at hK;exact hK
   | true=>rw[hb]at hK;exact⟨_,gw r3 (by omega),iw ⟨_,rfl,hK⟩⟩
  ·rw[if_neg h1]at hK;refine ce (λAa=>?_) λAa=>?_
   ·rw[if_pos Aa]at hK;refine⟨_,gw r3 (by omega),iw ⟨_,rfl,?_⟩⟩
    cases hb:(decide (2<=R.getD 1 0) && decide (R.getD 1 0<=65535))with
    | false=>rw[hb]at hK;exact hK
    | true=>
     rw[hb,Bool.true_and]at hK;refine⟨_,gw r3 (by omega),iw ⟨_,rfl,?_⟩⟩
     cases hc:(decide (0<=R.getD 2 0) && decide (R.getD 2 0<=8459264))with
     | false=>rw[hc]at hK;exact hK
     | true=>
      rw[hc,Bool.true_and]at hK;rw[Bool.and_eq_true,decide_eq_true_eq]at hc;refine⟨_,gw r3 (by omega),?_⟩;have e:(Int.tmod (R.getD 2 0) 512==0)=decide (R.getD 2 0%512=0):=(by rw[Int.tmod_eq_emod_of_nonneg hc.1];rfl);rw[e];exact hK
   ·rw[if_neg Aa]at hK;refine ce (λIQ=>?_) λIQ=>?_
    ·rw[if_pos IQ]at hK;refine⟨_,gw r3 (by omega),iw ⟨_,rfl,?_⟩⟩
     cases hb:(decide (1<=R.getD 1 0) && decide (R.getD 1 0<=1000))with
     | false=>rw[hb]at hK;exact hK
     | true=>rw[hb]at hK;exact⟨_,gw r3 (by omega),iw ⟨_,rfl,hK⟩⟩
    ·rw[if_neg IQ]at hK;exact hK
theorem Nc(hR:R.length=15)(hK:∀ h',Fr No h h'->K (.bool (lU R)) h'):C.fP (ints R) h K:=by
 refine fP.ok (aC.intro λh2 n2=>?_);have hK:=hK h2 n2.fr;refine⟨λi hh=>0<=i/\i<=10/\h2=hh/\∀j,j<i.toNat->kB (R.getD (3+j) 0)=true,λi _=>((10:Nat)-i).toNat,⟨by omega,by omega,rfl,λj hj=>absurd hj (Nat.not_lt_zero _)⟩,?_⟩;rintro i _ ⟨i0,i1,rfl,q⟩
 have bad:∀j,j<12->kB (R.getD (3+j) 0)=false->K (.bool false) h2:=λj hj e=>by
  rw[P' hR hj e]at hK;exact hK
 refine cd (λhi=>?_) λhi=>?_
 ·have hi:i<10:=hi;refine⟨⟨i0,hi⟩,_,LD n2.rd (by omega),iw ⟨_,rfl,jj ?_⟩⟩
  cases hw:kB (R.getD (3+i.toNat) 0)with
  | false=>exact cf hw (bad i.toNat (by omega) hw)
  | true=>
   rw[wrap_i64 (by omega) (by omega)];refine ct hw ⟨⟨by omega,by omega,rfl,λj hj=>?_⟩,j8 (m:=10) hi⟩
   by_cases e:j<i.toNat
   ·exact q j e
   ·have:j=i.toNat:=(by omega);rw[this];exact hw
 ·have hi:¬i<10:=hi;have ei:i.toNat=10:=by omega
  rw[ei]at q;refine⟨_,gw n2.rd (by omega),iw ⟨_,rfl,jj ?_⟩⟩
  cases hw:kB (R.getD 13 0)with
  | false=>exact cf hw (bad 10 (by omega) hw)
  | true=>
   refine ct hw ⟨_,gw n2.rd (by omega),iw ⟨_,rfl,jj ?_⟩⟩
   cases hx:kB (R.getD 14 0)with
   | false=>exact cf hx (bad 11 (by omega) hx)
   | true=>
    refine ct hx (UC hR ((DR hR).mpr λj hj=>?_) n2.rd hK)
    by_cases e:j<10
    ·exact q j e
    ·by_cases e':j=10
     ·subst e';exact hw
     ·have:j=11:=(by omega);subst this;exact hx
theorem Qa(k v:Nat):bH (k+1) v=bH k v++[UInt8.ofNat (v/256 ^ k)]:=by
 rw[bH,List.range_succ,List.map_append];rfl
theorem rE{n:Int}(h0:0<=n)(h1:n<=9223372036854775807)(hk:k<=8)
  (hK:∀a' c' h',Fr No h h'->Sl h' 1 a' k c' ((bH k n.toNat).map bv) (bZ h.size)->K (.slice a' k c') h'):C.fe n (k:Int) h K:=by
 refine fe.ok ⟨λm a l c i hh=>0<=i/\i<=k/\l=i.toNat/\0<=m/\m<=9223372036854775807/\m.toNat=n.toNat/256 ^ i.toNat/\Fr No h hh/\Sl hh 1 a l c ((bH i.toNat n.toNat).map bv) (bZ h.size),λ_ _ _ _ i _=>((k:Nat)-i).toNat,
  ⟨by omega,by omega,rfl,h0,h1,by show _=_/256 ^ 0;omega,Fr.refl _ _,Sl.nil _ _ _⟩,?_⟩
 rintro m a l c i h2 ⟨i0,i1,rfl,m0,m1,em,f2,s2⟩;refine cd (λhi=>?_) λhi=>?_
 ·have hi:i<k:=hi;refine aC.intro λh3 n3=>⟨[bv (UInt8.ofNat m.toNat)],rfl,aj (by rw[n3.rd,Zq m0]),pM [UInt8.ofNat m.toNat],uk (f2.new n3) (s2.fr n3.fr λ_ _ _ x=>x) rfl rfl (by show(i.toNat+1)*1<=_;omega) (by omega) λa' c' h4 f4 s4=>?_⟩;have ed:Int.tdiv m 256=m/256:=Int.tdiv_eq_ediv_of_nonneg m0;rw[ed,wrap_i64 (n:=m/256) (by omega) (by omega),wrap_i64 (by omega) (by omega)];refine⟨⟨by omega,by omega,by omega,by omega,by omega,?_,f4,?_⟩,j8 (m:=k) hi⟩
  ·rw[show(i+1).toNat=i.toNat+1 by omega,Nat.pow_succ,<-Nat.div_div_eq_div_mul,<-em];omega
  ·rw[show(i+1).toNat=i.toNat+1 by omega,Qa,<-em,List.map_append];exact s4
 ·have hi:¬i<k:=hi;have:i.toNat=k:=by omega
  rw[this]at s2 ⊢;exact hK a c h2 f2 s2
theorem xH{n:Int}{xs:LB}{K:OA->Nat->Nat->ab->Prop}(hn:0<=n)(Gf:n<=9223372036854775807)(hk:k<=8)(hl:l+k<=1000)(f:Fr No h0 h)
  (s:Sl h 1 a l c (xs.map bv) (bZ h0.size)) (hK:∀a' c' h',Fr No h0 h'->Sl h' 1 a' (l+k) c' ((xs++bH k n.toNat).map bv) (bZ h0.size)->K a' (l+k) c' h') :
  C.fe n (k:Int) h λr1 h4=>∃(aX:OA) (aK:Nat) (bJ:Nat),r1 = .slice aX aK bJ/\
   ∃aR:LV,List.length aR=aK*1/\ag h4 aX aR/\(∀v∈aR,v.oneCell'=true)/\aw yx 5 a l c aK aR h4 K:=by
 refine rE hn Gf hk λa' c' h' f' s'=>⟨_,_,_,rfl,_,by rw[List.length_map,aI,Nat.mul_one],s'.cells,pM _,?_⟩;refine uk (f.no f') (s.fr f' λ_ _ _ x=>x) (by rw[List.length_map,aI];show k=k*1;omega) rfl (by show(l+k)*1<=_;omega) (by omega) λa2 c2 h2 f2 s2=>hK a2 c2 h2 f2 ?_;rw[List.map_append];exact s2
theorem JL(hR:R.length=15)(hm:lU R=true)
  (hK:∀a' c' h',Fr No h h'->Sl h' 1 a' 64 c' ((kU R).map bv) (bZ h.size)->K (.slice a' 64 c') h'):C.iK (ints R) h K:=by
 obtain⟨k0,k1,l0,l1,z0,z1,hw⟩:=qv hR hm
 have hx:∀j,j<12->0<=R.getD (3+j) 0/\R.getD (3+j) 0<=4294967295:=λj hj=>by
  have Gh:3+j<R.length:=by omega
  have e:R.getD (3+j) 0=(R.drop 3)[j]'(by rw[List.length_drop];omega):=by
   rw[List.getElem_drop,List.getD_eq_getElem?_getD,List.getElem?_eq_getElem Gh];rfl
  rw[e];exact hw _ (List.getElem_mem _)
 have tk:∀j,j<12->(R.drop 3).take (j+1)=(R.drop 3).take j++[R.getD (3+j) 0]:=λj hj=>by
  have Gh:3+j<R.length:=by omega
  rw[List.take_succ_eq_append_getElem (by rw[List.length_drop];omega),List.getElem_drop,List.getD_eq_getElem?_getD,List.getElem?_eq_getElem Gh];rfl
 have fk:∀j,j<12->fL ((R.drop 3).take (j+1))=fL ((R.drop 3).take j)++bH 4 (R.getD (3+j) 0).toNat:=λj hj=>by
  rw[tk j hj,fL,List.flatMap_append];show _++(bH 4 _++[])=_;rw[List.append_nil,fL]
 refine iK.ok (aC.intro λh2 n2=>⟨_,gw n2.rd (by omega),aC.intro λh3 n3=>?_⟩);have s2:=n2.size;have s3:=n3.size;have F3:=n2.fr.new n3;have kd:∀{hq:ab},Fr No h2 hq->rd hq h.size=ints R:=λfq=>(fq.rd n2.own.lt λx=>x).trans n2.rd
 have eK:(Value.int .u8 (IntKind.wrap .u8 (R.getD 0 0)))=bv (UInt8.ofNat (R.getD 0 0).toNat):=by
  rw[<-BE,Int.toNat_of_nonneg k0]
 have b3:Sl h3 1 (some ⟨h2.size,0,none⟩) 2 2 ((bH 1 (R.getD 0 0).toNat++[0]).map bv) (bZ h2.size):=
  Sl.made (zs:=[]) n3 (by rw[As,eK];rfl) (Nat.le_refl _) (by rw[As];rfl) (Nat.le_refl _) rfl
 refine⟨_,gw (kd n3.fr) (by omega),xH (k:=2) l0 (by omega) (by omega) (by omega) n3.fr b3 λa5 c5 h5 f5 s5=>⟨_,gw (kd f5) (by omega),xH (k:=4) z0 (by omega) (by omega) (by omega) f5 s5 λa7 c7 h7 f7 s7=>?_⟩⟩;generalize hH:(bH 1 (R.getD 0 0).toNat++[0])++bH 2 (R.getD 1 0).toNat++bH 4 (R.getD 2 0).toNat=H at s7;have eH:kU R=H++(fL (R.drop 3)++ij 8):=by rw[kU,<-hH];simp only[List.append_assoc]
 clear hH
 refine⟨λa l c i hh=>0<=i/\i<=10/\l=8+4*i.toNat/\Fr No h2 hh/\Sl hh 1 a l c ((H++fL ((R.drop 3).take i.toNat)).map bv) (bZ h2.size),λ_ _ _ i _=>((10:Nat)-i).toNat,
  ⟨by omega,by omega,rfl,f7,by show Sl h7 1 _ _ _ ((H++[]).map bv) _;rw[List.append_nil];exact s7⟩,?_⟩
 rintro a8 l8 c8 i h8 ⟨i0,i1,rfl,f8,s8⟩;refine cd (λhi=>?_) λhi=>?_
 ·have hi:i<10:=hi;have hb:=hx i.toNat (by omega);refine⟨⟨i0,hi⟩,_,LD (kd f8) (by omega),xH (k:=4) hb.1 (by omega) (by omega) (by omega) f8 s8 λa9 c9 h9 f9 s9=>?_⟩;rw[wrap_i64 (by omega) (by omega)];refine⟨⟨by omega,by omega,by omega,f9,?_⟩,j8 (m:=10) hi⟩;rw[show(i+1).toNat=i.toNat+1 by omega,fk _ (by omega),<-List.append_assoc];exact s9
 ·have hi:¬i<10:=hi;have ei:i.toNat=10:=by omega
  rw[ei]at s8 ⊢;refine⟨_,gw (kd f8) (by omega),xH (k:=4) (hx 10 (by omega)).1 (Int.le_trans (hx 10 (by omega)).2 (by decide)) (by omega) (by omega) f8 s8 λa9 c9 h9 f9 s9=>?_⟩;refine⟨_,gw (kd f9) (by omega),xH (k:=4) (hx 11 (by omega)).1 (Int.le_trans (hx 11 (by omega)).2 (by decide)) (by omega) (by omega) f9 s9 λa10 c10 h10 f10 s10=>?_⟩;refine aC.intro λcg n11=>⟨(ij 8).map bv,rfl,aj n11.rd,pM _,uk (f10.new n11) (s10.fr n11.fr λ_ _ _ x=>x) rfl rfl (by decide) (by decide) λa12 c12 bb f12 Cw=>?_⟩;refine hK a12 c12 bb (n2.fr.no f12) ?_;have e12:R.drop 3=(R.drop 3).take 12:=(List.take_of_length_le (by rw[List.length_drop];omega)).symm;rw[eH,e12,fk 11 (by omega),fk 10 (by omega)];rw[<-List.map_append]at Cw;simp only[List.append_assoc]at Cw ⊢;exact Cw.mono λb hb=>by have:h2.size<=b:=hb;show h.size<=b;omega
theorem FI(hR:R.length=15)(hN:lU R=false->∀ h',Fr No h h'->K (.tuple #[.slice none 0 0,.int .i64 111]) h')
  (hK:lU R=true->∀a' c' h',Fr No h h'->Sl h' 1 a' 64 c' ((kU R).map bv) (bZ h.size)->K (.tuple #[.slice a' 64 c',.int .i64 0]) h'):C.gD (ints R) h K:=by
 refine gD.ok (aC.intro λh2 n2=>⟨ints R,by rw[ah,hR],aj n2.rd,Nc hR λh3 f3=>⟨_,rfl,jj ?_⟩⟩);have s2:=n2.size;have s3:=f3.size;have F3:=n2.fr.no f3;have r3:rd h3 h.size=ints R:=(f3.rd n2.own.lt λx=>x).trans n2.rd
 cases hm:lU R with
 | false=>exact hN hm h3 F3
 | true=>exact ct rfl ⟨ints R,by rw[ah,hR],aj r3,JL hR hm λa' c' h4 f4 s4=>⟨_,_,_,rfl,hK hm a' c' h4 (F3.no f4) (s4.mono λb hb=>by have:h3.size<=b:=hb;show h.size<=b;omega)⟩⟩
end In
namespace Di
open Go Go.Proofs Ad Tm Bt Spc Av Ss Re
open Bm (num nS)
open Sk (E gW bf Jx fI uS)
open Go.Op (bytesLess)
theorem BF : ∀x:Tm.ay,bytesLess x x=false
 | []=>rfl
 | a::r=>by
  unfold bytesLess;rw[BF r,Bool.and_false,Bool.or_false,decide_eq_false_iff_not];exact UInt8.lt_irrefl a
theorem FJ(a b:UInt8)(x y:Tm.ay):bytesLess (a::x) (b::y)=true↔a<b∨(a=b/\bytesLess x y=true):=by
 show(decide (a<b) || (a==b && bytesLess x y))=true↔_;rw[Bool.or_eq_true,Bool.and_eq_true,decide_eq_true_eq,beq_iff_eq]
theorem Qb(x:Tm.ay):bytesLess x []=false:=by cases x <;> rfl
theorem xI : ∀{x y z:Tm.ay},bytesLess x y=true->bytesLess y z=true->bytesLess x z=true
 | _,_,[],_,h=>by rw[Qb]at h;cases h
 | _,[],_::_,h,_=>by rw[Qb]at h;cases h
 | [],_::_,_::_,_,_=>rfl
 | a::x,b::y,c::z,h1,h2=>by
  rw[FJ]at h1 h2 ⊢
  rcases h1 with h1|⟨rfl,h1⟩
  ·rcases h2 with h2|⟨rfl,h2⟩
   ·exact .inl (UInt8.lt_trans h1 h2)
   ·exact .inl h1
  ·rcases h2 with h2|⟨rfl,h2⟩
   ·exact .inl h2
   ·exact .inr ⟨rfl,xI h1 h2⟩
theorem FK : ∀{x y:Tm.ay},bytesLess x y=false->bytesLess y x=false->x=y
 | [],[],_,_=>rfl
 | [],_::_,h,_=>by cases h
 | _::_,[],_,h=>by cases h
 | a::x,b::y,h1,h2=>by
  have h1:¬(a<b∨(a=b/\bytesLess x y=true)):=λz=>by rw[(FJ a b x y).mpr z]at h1;cases h1
  have h2:¬(b<a∨(b=a/\bytesLess y x=true)):=λz=>by rw[(FJ b a y x).mpr z]at h2;cases h2
  have e:a=b:=by
   have n1:¬a<b:=λz=>h1 (.inl z);have n2:¬b<a:=λz=>h2 (.inl z);rw[UInt8.lt_iff_toNat_lt]at n1 n2;exact UInt8.toNat_inj.mp (by omega)
  subst e;have:=FK (x:=x) (y:=y) (by cases q:bytesLess x y with|false=>rfl|true=>exact absurd (.inr ⟨rfl,q⟩) h1) (by cases q:bytesLess y x with|false=>rfl|true=>exact absurd (.inr ⟨rfl,q⟩) h2);rw[this]
theorem LF{x y:Tm.ay}(h:bytesLess x y=true):bytesLess y x=false:=by
 cases q:bytesLess y x with
 | false=>rfl
 | true=>have:=xI h q;rw[BF]at this;cases this
def wB(a b:E):Bool:=bytesLess a.name b.name || (a.name==b.name && decide (a.place<b.place))
theorem sv{a b:E}:wB a b=true↔bytesLess a.name b.name=true∨(a.name=b.name/\a.place<b.place):=by
 unfold wB;rw[Bool.or_eq_true,Bool.and_eq_true,decide_eq_true_eq,beq_iff_eq]
theorem FL(a:E):wB a a=false:=by
 cases q:wB a a with
 | false=>rfl
 | true=>
  rcases sv.mp q with h|⟨_,h⟩
  ·rw[BF]at h;cases h
  ·omega
theorem pD{a b c:E}(h1:wB a b=true)(h2:wB b c=true):wB a c=true:=by
 rw[sv]at h1 h2 ⊢
 rcases h1 with h1|⟨e1,h1⟩
 ·rcases h2 with h2|⟨e2,h2⟩
  ·exact .inl (xI h1 h2)
  ·rw[<-e2];exact .inl h1
 ·rcases h2 with h2|⟨e2,h2⟩
  ·rw[e1];exact .inl h2
  ·exact .inr ⟨e1.trans e2,by omega⟩
theorem LG{a b:E}(h1:wB a b=false)(h2:wB b a=false):a.name=b.name/\a.place=b.place:=by
 have h1:¬(bytesLess a.name b.name=true∨(a.name=b.name/\a.place<b.place)):=λz=>by rw[sv.mpr z]at h1;cases h1
 have h2:¬(bytesLess b.name a.name=true∨(b.name=a.name/\b.place<a.place)):=λz=>by rw[sv.mpr z]at h2;cases h2
 have e:a.name=b.name:=FK (by cases q:bytesLess a.name b.name with|false=>rfl|true=>exact absurd (.inl q) h1) (by cases q:bytesLess b.name a.name with|false=>rfl|true=>exact absurd (.inl q) h2);refine⟨e,?_⟩;have n1:¬a.place<b.place:=λz=>h1 (.inr ⟨e,z⟩);have n2:¬b.place<a.place:=λz=>h2 (.inr ⟨e.symm,z⟩);omega
def RX(a b:E):Prop:=wB b a=false
def Nf(c:E):List E->List E
 | []=>[c]
 | x::r=>if wB c x=true then c::x::r else x::Nf c r
def sortE : List E->List E
 | []=>[]
 | c::r=>Nf c (sortE r)
theorem yG(c:E):∀l,(Nf c l).Perm (c::l)
 | []=>.refl _
 | x::r=>by
  unfold Nf
  split
  ·exact .refl _
  ·exact((yG c r).cons x).trans (.swap c x r)
theorem k9 : ∀l,(sortE l).Perm l
 | []=>.refl _
 | c::r=>(yG c (sortE r)).trans ((k9 r).cons c)
theorem zp{c:E}:∀{l:List E},l.Pairwise RX->(Nf c l).Pairwise RX
 | [],_=>List.pairwise_singleton _ _
 | x::r,h=>by
  have⟨h1,h2⟩:=List.pairwise_cons.mp h;unfold Nf
  by_cases q:wB c x=true
  ·rw[if_pos q];refine List.pairwise_cons.mpr ⟨λy hy=>?_,h⟩
   have nx:wB x c=false:=by
    cases z:wB x c with
    | false=>rfl
    | true=>have:=pD q z;rw[FL]at this;cases this
   rcases List.mem_cons.mp hy with rfl|hy
   ·exact nx
   ·show wB y c=false
    cases z:wB y c with
    | false=>rfl
    | true=>have:=pD z q;rw[show wB y x=false from h1 y hy]at this;cases this
  ·rw[if_neg q];refine List.pairwise_cons.mpr ⟨λy hy=>?_,zp h2⟩
   rcases List.mem_cons.mp ((yG c r).mem_iff.mp hy)with rfl|hy
   ·show wB y x=false
    cases z:wB y x with
    | false=>rfl
    | true=>exact absurd z q
   ·exact h1 y hy
theorem xJ : ∀l:List E,(sortE l).Pairwise RX
 | []=>.nil
 | _::r=>zp (xJ r)
def xK(l:List E):Prop:=l.Pairwise λa b=>a.place<b.place
theorem xK.inj : ∀{l:List E},xK l->∀a∈l,∀b∈l,a.place=b.place->a=b
 | [],_,a,ha,_,_,_=>by cases ha
 | x::r,h,a,ha,b,hb,e=>by
  have⟨h1,h2⟩:=List.pairwise_cons.mp h
  rcases List.mem_cons.mp ha with ea|Xv
  ·rcases List.mem_cons.mp hb with eb|mQ
   ·rw[ea,eb]
   ·have:=h1 b mQ;rw[ea]at e;omega
  ·rcases List.mem_cons.mp hb with eb|mQ
   ·have:=h1 a Xv;rw[eb]at e;omega
   ·exact xK.inj h2 a Xv b mQ e
theorem yH{l m:List E}(u:xK l)(p:m.Perm l)(s:m.Pairwise RX):m=sortE l:=
 List.Perm.eq_of_pairwise (λa b ha hb h1 h2=>u.inj a (p.mem_iff.mp ha) b ((k9 l).mem_iff.mp hb) (LG h2 h1).2) s (xJ l) (p.trans (k9 l).symm)
theorem yI : ∀(hs:List Cl) (k:Nat),xK (gW k hs)
 | [],_=>.nil
 | x::r,k=>by
  unfold gW
  split
  ·exact yI r (k+1)
  ·refine List.pairwise_cons.mpr ⟨λy hy=>?_,yI r (k+1)⟩;obtain⟨a,_,_⟩:=Sk.wy r (k+1) y hy;show(k:Int)<y.place;omega
theorem rF(bs:LB):xK (ry bs).1/\∀e∈(ry bs).1,0<=e.place/\e.place<16:=by
 unfold ry
 split
 ·exact⟨.nil,λ_ h=>by cases h⟩
 ·rename_i hl
  cases hd:Sk.dec 16 bs with
  | none=>exact⟨.nil,λ_ h=>by cases h⟩
  | some hs=>
   refine⟨yI hs 0,λe he=>?_⟩;obtain⟨a,b,_⟩:=Sk.wy hs 0 e he;have:=(Sk.Ft (n:=16) (b:=bs) (by have:¬bs.length≠512:=hl;omega) hd).1;omega
structure Zr(l:uh):Prop where
 Ng:xK l.cells
 Cx:∀e∈l.cells,0<=e.place/\e.place<16
theorem Hw(T:TM)(g:G)(R:List Int)(k:Nat):Zr (aM T g R k).1:=⟨(rF _).1,(rF _).2⟩
theorem om(T:TM)(g:G)(R:List Int):∀m k,xK (nR (cu T g R m k).1)/\∀e∈nR (cu T g R m k).1,16*(k:Int)<=e.place/\e.place<16*((k+m:Nat):Int)
 | 0,k=>⟨.nil,λ_ h=>by cases h⟩
 | m+1,k=>by
  unfold cu
  split
  ·exact⟨.nil,λ_ h=>by cases h⟩
  ·obtain⟨a,b⟩:=om T g R m (k+1);obtain⟨c1,c2⟩:=Hw T g R k
   have key:∀e∈(aM T g R k).1.cells.map (λc=>(⟨c.place+16*((aM T g R k).1.index:Int),c.name,c.fu⟩:E)),16*(k:Int)<=e.place/\e.place<16*((k:Nat):Int)+16:=λe he=>by
    obtain⟨c,hc,rfl⟩:=List.mem_map.mp he;have:=c2 c hc;show 16*(k:Int)<=c.place+16*(k:Int)/\c.place+16*(k:Int)<_;omega
   show xK ((aM T g R k).1.cells.map _++nR _)/\∀e∈(aM T g R k).1.cells.map _++nR _,_;refine⟨List.pairwise_append.mpr ⟨List.pairwise_map.mpr (c1.imp λh=>?_),a,λx hx y hy=>?_⟩,λe he=>?_⟩
   ·rename_i x y;show x.place+16*(k:Int)<y.place+16*(k:Int);omega
   ·have:=key x hx;have:=b y hy;show x.place<y.place;omega
   ·rcases List.mem_append.mp he with h|h
    ·have:=key e h;omega
    ·have:=b e h;omega
def cX(T:TM)(g:G)(n:Int):List E×Int:=if(bD T g n).2≠0 then([],(bD T g n).2)else if(gZ T g (bD T g n).1).2≠0 then([],(gZ T g (bD T g n).1).2)else(sortE (nR (gZ T g (bD T g n).1).1),0)
end Di
namespace Ch
open Hp W Re
theorem JM(hj:j<ss.length):(mkStr ss).get! j=ss[j]:=by
 simp[mkStr,ByteArray.get!,hj]
theorem wC(hi:i<ss.length)(h:ss[i].toNat<128):Utf8.decode (mkStr ss) i=(ss[i].toNat,1):=by
 have g:=JM hi;simp only[Utf8.decode,Nat.add_zero,g,if_pos (show ss[i].toNat<0x80 from h)]
theorem decode_high(hi:i<ss.length)(h:128<=ss[i].toNat) :
  128<=(Utf8.decode (mkStr ss) i).1/\1<=(Utf8.decode (mkStr ss) i).2/\∀k,k<(Utf8.decode (mkStr ss) i).2->∃h:i+k<ss.length,128<=ss[i+k].toNat:=by
 have g:=JM hi
 have c:∀k,(decide (i+k<(mkStr ss).size) && ((mkStr ss).get! (i+k)).toNat/64==2)=true->∃h:i+k<ss.length,128<=ss[i+k].toNat:=by
  intro k hk;rw[Bool.and_eq_true,decide_eq_true_eq,beq_iff_eq]at hk;have h1:i+k<ss.length:=hk.1;refine⟨h1,?_⟩;have:=hk.2;rw[JM h1]at this;omega
 have z:∀k,k<1->∃h:i+k<ss.length,128<=ss[i+k].toNat:=by
  intro k hk;obtain rfl:k=0:=by omega
  exact⟨hi,h⟩
 have e:128<=Utf8.runeError:=by decide
 simp only[Utf8.decode,Nat.add_zero,g,if_neg (show ¬ss[i].toNat<0x80 by omega)]
 split
 ·rename_i h1;rw[Bool.and_eq_true]at h1;have c1:=c 1 h1.2
  split
  ·rename_i h2;refine⟨h2,by show 1<=2;omega,λk hk=>?_⟩;have hk:k<2:=hk;obtain rfl|rfl:k=0∨k=1:=by omega
   ·exact⟨hi,h⟩
   ·exact c1
  ·exact⟨e,Nat.le_refl _,z⟩
 ·split
  ·rename_i _ h1;rw[Bool.and_eq_true,Bool.and_eq_true]at h1;have c1:=c 1 h1.1.2;have c2:=c 2 h1.2
   split
   ·rename_i h2;rw[Bool.and_eq_true,decide_eq_true_eq]at h2;refine⟨Nat.le_trans (by omega) h2.1,by show 1<=3;omega,λk hk=>?_⟩;have hk:k<3:=hk;obtain rfl|rfl|rfl:k=0∨k=1∨k=2:=by omega
    ·exact⟨hi,h⟩
    ·exact c1
    ·exact c2
   ·exact⟨e,Nat.le_refl _,z⟩
  ·split
   ·rename_i _ _ h1;rw[Bool.and_eq_true,Bool.and_eq_true,Bool.and_eq_true]at h1;have c1:=c 1 h1.1.1.2;have c2:=c 2 h1.1.2;have c3:=c 3 h1.2
    split
    ·rename_i h2;rw[Bool.and_eq_true,decide_eq_true_eq]at h2;refine⟨Nat.le_trans (by omega) h2.1,by show 1<=4;omega,λk hk=>?_⟩;have hk:k<4:=hk;obtain rfl|rfl|rfl|rfl:k=0∨k=1∨k=2∨k=3:=by omega
     ·exact⟨hi,h⟩
     ·exact c1
     ·exact c2
     ·exact c3
    ·exact⟨e,Nat.le_refl _,z⟩
   ·exact⟨e,Nat.le_refl _,z⟩
theorem Hx{r:Int}(h:128<=r):∃l b,Utf8.encode r=mkStr (l++[b])/\1<=l.length/\l.length<=3/\128<=b.toNat:=by
 have hc:128<=(if Utf8.valid r then r.toNat else Utf8.runeError):=by
  split
  ·omega
  ·show 128<=65533;omega
 have hb:∀c:Nat,128<=(UInt8.ofNat (0x80+c%64)).toNat:=λc=>by rw[UInt8.toNat_ofNat'];omega
 unfold Utf8.encode;dsimp only;generalize(if Utf8.valid r=true then r.toNat else Utf8.runeError)=c at hc ⊢;rw[if_neg (by omega)]
 split
 ·exact⟨[_],_,rfl,by simp,by simp,hb _⟩
 ·split
  ·exact⟨[_,_],_,rfl,by simp,by simp,hb _⟩
  ·exact⟨[_,_,_],_,rfl,by simp,by simp,hb _⟩
def zq : LB:=[47,0]
def jU(b:UInt8):Bool:=b==47 || b==0
theorem LH(o:Obj):Fr No h (h.push o):=⟨by rw[Array.size_push];omega,λb hb _=>by rw[Array.getElem?_push,if_neg (by omega)]⟩
theorem Hy(o:Obj):(h.push o)[h.size]?=some o:=by rw[Array.getElem?_push,if_pos rfl]
theorem Jh.intro{s:ByteArray}{k:HP}(H:∀ h',Fr No h h'->h'.size=h.size+1->h'[h.size]?=some (.stringIter s 0)->k h'):Jh s h k:=H _ (LH _) (Array.size_push _) (Hy _)
theorem Hz{pos:Nat}(h:pos<2):Utf8.decode (mkStr zq) pos=((zq[pos]'h).toNat,1)/\(zq[pos]'h).toNat<128:=by
 obtain rfl|rfl:pos=0∨pos=1:=by omega
 ·exact⟨wC (ss:=zq) (i:=0) (by decide) (by show(47:UInt8).toNat<128;decide),by show(47:UInt8).toNat<128;decide⟩
 ·exact⟨wC (ss:=zq) (i:=1) (by decide) (by show(0:UInt8).toNat<128;decide),by show(0:UInt8).toNat<128;decide⟩
theorem pZ{c:UInt8}(hK:K (.int .i64 (lO ss c)) h):C.dF (mkStr ss) (c.toNat:Int) h K:=by
 refine dF.ok (cA.ok ⟨rfl,_,rfl,?_⟩)
 have e:UInt8.ofNat ((c.toNat:Int)).toNat=c:=by
  rw[Int.toNat_natCast];apply UInt8.toNat_inj.mp;have:=c.toNat_lt;rw[UInt8.toNat_ofNat'];omega
 rw[toList_mkStr,e];exact hK
theorem BG(hr:r<=1114111)(hK:∀ h' n,Fr No h h'->decide (n>=0)=(decide (r=47) || decide (r=0))->K (.int .i64 n) h'):C.bE (mkStr zq) (r:Int) h K:=by
 generalize hri:((r:Nat):Int)=ri;refine bE.ok (ct (decide_eq_true (by omega)) (cd (λdh=>?_) λvF=>?_))
 ·have e:IntKind.wrap .u8 ri=((UInt8.ofNat r).toNat:Int):=by
   rw[wrap_u8 (by omega) (by omega),UInt8.toNat_ofNat'];omega
  rw[e];refine pZ ⟨_,rfl,hK h _ (Fr.refl _ _) ?_⟩;have:∀k:Fin 128,decide (lO zq (UInt8.ofNat k.val)>=0)=(decide (k.val=47) || decide (k.val=0)):=by decide +kernel
  exact this ⟨r,by omega⟩
 ·have no:(decide (r=47) || decide (r=0))=false:=by
   rw[decide_eq_false (by omega),decide_eq_false (by omega)];rfl
  rw[no]at hK;have fin:∀h',Fr No h h'->K (.int .i64 (-1)) h':=λh' f=>hK h' (-1) f (by decide);refine ce (λ_=>?_) λfB=>?_
  ·refine Jh.intro λh3 f3 _ g3=>?_;refine⟨λhh=>∃pos,Fr No h hh/\hh[h.size]?=some (.stringIter (mkStr zq) pos),λhh=>match hh[h.size]? with|some (.stringIter _ pos)=>2-pos|_=>0,⟨0,f3,g3⟩,?_⟩;rintro h4 ⟨pos,f4,g4⟩;refine⟨rfl,_,_,g4,λhp h5 it=>?_,λ_=>fin h4 f4⟩;have hp:pos<2:=hp;obtain⟨e1,e2⟩:=Hz hp;have f5:Fr No h h5:=f4.trans (G:=λx=>x=h.size) ⟨by rw[it.size];exact Nat.le_refl _,λb _ hb=>it.same b hb⟩ (λb hb e=>by omega);refine ce (λx=>?_) λ_=>⟨⟨_,f5,it.at_⟩,?_⟩
   ·exfalso;rw[e1]at x;have x:(((zq[pos]'hp).toNat:Nat):Int)=65533:=x;omega
   ·have i1:h5[h.size]?=some (.stringIter (mkStr zq) (pos+(Utf8.decode (mkStr zq) pos).2)):=it.at_;rw[e1]at i1;simp only[i1,g4];omega
  ·have vr:∀(K':KT),(∀b,K' (.bool b) h)->C.cW ri h K':=λK' hk=>by
    refine cW.ok (ct (decide_eq_true (by omega)) (cd (λ_=>hk _) λ_=>cd (λ_=>cd (λ_=>hk _) λ_=>hk _) λ_=>hk _))
   refine vr _ λb=>⟨b,rfl,?_⟩
   cases b with
   | false=>exact fin h (Fr.refl _ _)
   | true=>
    show ∃_,_;obtain⟨l,b,ee,l1,l3,hb⟩:=Hx (r:=ri) (by omega);have es:(Utf8.encode ri).size=l.length+1:=(by rw[ee];show(l++[b]).length=_;rw[List.length_append];rfl);rw[es,wrap_i64 (n:=((l.length+1:Nat):Int)-1) (by omega) (by omega)];refine⟨λi hh=>h=hh/\i=l.length,λ_ _=>0,⟨rfl,by omega⟩,?_⟩;rintro i _ ⟨rfl,rfl⟩;refine cd (λhi=>?_) λhi=>fin h (Fr.refl _ _);have hi:((l.length:Nat):Int)<2:=hi;have e1:l.length=1:=by omega
    have gl:(Utf8.encode ri).toList[(((l.length+1:Nat):Int)-1).toNat]?=some b:=by
     rw[ee,toList_mkStr,show(((l.length+1:Nat):Int)-1).toNat=l.length by omega,List.getElem?_append_right (Nat.le_refl _),Nat.sub_self];rfl
    refine⟨⟨by omega,by show((l.length:Nat):Int)<2;omega⟩,0,?_,⟨by omega,by omega⟩,b,gl,?_⟩
    ·rw[toList_mkStr,Int.toNat_natCast,e1];rfl
    ·refine cn (λ_=>?_) λx=>?_
     ·rw[wrap_i64 (n:=((l.length:Nat):Int)+1) (by omega) (by omega)];refine⟨⟨by omega,by show((l.length:Nat):Int)+1<=2;omega⟩,⟨by omega,by omega⟩,b,gl,?_⟩
      have ex:ByteArray.extract (mkStr zq) (((l.length:Nat):Int)+1).toNat (mkStr zq).size=mkStr []:=by
       rw[show(((l.length:Nat):Int)+1).toNat=2 by omega];show(mkStr zq).extract 2 2=_;decide +kernel
      rw[ex];refine pZ ⟨_,rfl,ct (decide_eq_true (by show(-1:Int)<0;decide)) (fin h (Fr.refl _ _))⟩
     ·exfalso;have x:(0:Int)=(b.toNat:Int):=x;omega
theorem JN(s:ByteArray)(pos:Nat):(Utf8.decode s pos).1<=1114111:=by
 have v:∀c:Nat,(decide (c>=2048) && Utf8.valid (c:Int))=true->c<=1114111:=by
  intro c h;rw[Bool.and_eq_true]at h;have:=h.2;simp only[Utf8.valid,Bool.or_eq_true,Bool.and_eq_true,decide_eq_true_eq]at this;omega
 have v4:∀c:Nat,(decide (c>=65536) && Utf8.valid (c:Int))=true->c<=1114111:=by
  intro c h;rw[Bool.and_eq_true]at h;have:=h.2;simp only[Utf8.valid,Bool.or_eq_true,Bool.and_eq_true,decide_eq_true_eq]at this;omega
 have e:Utf8.runeError<=1114111:=by decide
 have b:∀k,(s.get! k).toNat<256:=λk=>(s.get! k).toNat_lt;simp only[Utf8.decode]
 split
 ·have:=b (pos+0);show(s.get! (pos+0)).toNat<=_;omega
 ·split
  ·split
   ·show _<=1114111;have:=b (pos+1);have:=Nat.mod_lt (s.get! (pos+0)).toNat (show 0<32 by omega);have:=Nat.mod_lt (s.get! (pos+1)).toNat (show 0<64 by omega);simp only[Nat.add_zero]at *;omega
   ·exact e
  ·split
   ·split
    ·rename_i h;exact v _ h
    ·exact e
   ·split
    ·split
     ·rename_i h;exact v4 _ h
     ·exact e
    ·exact e
def BH : List Bool:=(List.range 256).map λk=>decide (k=47) || decide (k=0)
theorem xL(hK:∀ h',Fr No h h'->K (.tuple #[.agg ⟨BH.map .bool⟩,.bool true]) h'):C.eJ (mkStr zq) h K:=by
 refine eJ.ok (aC.intro λh2 n2=>?_);have VL:=n2.size;refine⟨λi hh=>0<=i/\i<=2/\Fr No h hh/\du hh h.size/\rd hh h.size=(((zq.take i.toNat).foldl (λ(l:List Bool) b=>l.set b.toNat true) (List.replicate 256 false)).map .bool),λi _=>(2-i).toNat,⟨by omega,by omega,n2.fr,n2.own,n2.rd.trans (by kernel_rfl)⟩,?_⟩;rintro i h3 ⟨i0,i2,f3,o3,r3⟩;have Ψ:=f3.size
 have lf:∀l:LB,(l.foldl (λ(l:List Bool) b=>l.set b.toNat true) (List.replicate 256 false)).length=256:=by
  have:∀(l:LB) (x:List Bool),(l.foldl (λ(l:List Bool) b=>l.set b.toNat true) x).length=x.length:=by
   intro l
   induction l with
   | nil=>intro x;rfl
   | cons b r ih=>intro x;rw[List.foldl_cons,ih,List.length_set]
  intro l;rw[this,List.length_replicate]
 refine cd (λhi=>?_) λhi=>?_
 ·have hi:i<2:=hi;have oK:i.toNat<zq.length:=by show i.toNat<2;omega
  refine⟨⟨i0,hi⟩,zq[i.toNat],by rw[toList_mkStr,List.getElem?_eq_getElem oK],?_⟩;have hb:(zq[i.toNat]).toNat<128:=(Hz (pos:=i.toNat) oK).2;generalize X2:zq[i.toNat]=b at hb;refine cf (decide_eq_false (by omega)) ⟨⟨by omega,by omega⟩,bQ.add o3 (by rw[r3,List.length_map,lf];omega) λh5 d5=>?_⟩;rw[wrap_i64 (by omega) (by omega)];refine⟨⟨by omega,by omega,f3.did d5 (λx=>by omega),d5.own,?_⟩,by show(2-(i+1)).toNat<(2-i).toNat;omega⟩;rw[d5.rd,r3,show(i+1).toNat=i.toNat+1 by omega,List.take_succ_eq_append_getElem oK,List.foldl_append,X2];show _=(List.set (List.foldl (λ(l:List Bool) b=>l.set b.toNat true) (List.replicate 256 false) (zq.take i.toNat)) b.toNat true).map Value.bool;rw[List.map_set,Nat.zero_add,Int.toNat_natCast]
 ·have hi:¬i<2:=hi;have e:zq.take i.toNat=zq:=List.take_of_length_le (by show 2<=i.toNat;omega);have es:zq.foldl (λ(l:List Bool) b=>l.set b.toNat true) (List.replicate 256 false)=BH:=by decide +kernel
  rw[e,es]at r3;have ml:(BH.map Value.bool).length=256:=by rw[List.length_map,BH,List.length_map,List.length_range]
  refine⟨BH.map .bool,ml,aj r3,ar.intro o3 ml (λv hv=>by obtain⟨b,_,rfl⟩:=List.mem_map.mp hv;rfl) (by rw[r3,ml];omega) λh6 d6=>⟨BH.map .bool,ml,aj ?_,hK h6 (f3.did d6 λx=>by omega)⟩⟩;rw[d6.rd,cM _ _ (by rw[r3])]
theorem HA(b:UInt8):(BH.map Value.bool)[b.toNat]?=some (.bool (jU b)):=by
 have hb:=b.toNat_lt;rw[List.getElem?_map,BH,List.getElem?_map,List.getElem?_range hb];show some (Value.bool (decide (b.toNat=47) || decide (b.toNat=0)))=_;congr 2;unfold jU;congr 1
 ·by_cases h:b=47
  ·subst h;decide
  ·rw[beq_eq_false_iff_ne.mpr h];exact decide_eq_false (λe=>h (UInt8.toNat_inj.mp e))
 ·by_cases h:b=0
  ·subst h;decide
  ·rw[beq_eq_false_iff_ne.mpr h];exact decide_eq_false (λe=>h (UInt8.toNat_inj.mp e))
theorem FM(b:UInt8):(decide (b.toNat=47) || decide (b.toNat=0))=jU b:=by
 have:=HA b;have hb:=b.toNat_lt;rw[List.getElem?_map,BH,List.getElem?_map,List.getElem?_range hb]at this;have this:=Option.some.inj this;have this:Value.bool (decide (b.toNat=47) || decide (b.toNat=0)) = .bool (jU b):=this;exact Value.bool.inj this
theorem C4{h10:ab}(f10:Fr No h h10)(hK:∀ h' n,Fr No h h'->decide (n>=0)=ss.any jU->K (.int .i64 n) h'):dV.k1 (mkStr ss) (mkStr zq) h10 K:=by
 have hs10:=f10.size;refine Jh.intro λcg f11 s11 g11=>?_;refine⟨λhh=>∃pos,Fr No h hh/\h10.size<hh.size/\hh[h10.size]?=some (.stringIter (mkStr ss) pos)/\(ss.take pos).any jU=false,λhh=>match hh[h10.size]? with|some (.stringIter _ pos)=>ss.length-pos|_=>0,⟨0,f10.no f11,by omega,g11,rfl⟩,?_⟩;rintro bb ⟨pos,f12,Cw,g12,nb⟩;refine⟨rfl,_,_,g12,λhp bU it=>?_,λhp=>?_⟩
 ·have hp:pos<ss.length:=hp;have f13:Fr No h bU:=f12.trans (G:=λx=>x=h10.size) ⟨by rw[it.size];exact Nat.le_refl _,λb _ hb=>it.same b hb⟩ (λb hb e=>by omega);have g13:=it.at_
  have Zs:ss.any jU=(ss.drop pos).any jU:=by
   conv=>lhs;rw[<-List.take_append_drop pos ss,List.any_append,nb,Bool.false_or]
  refine BG (JN _ _) λgh n f14 hn=>⟨n,rfl,?_⟩;have s13:h10.size<bU.size:=by rw[it.size];exact Cw
  have g14:gh[h10.size]?=some (.stringIter (mkStr ss) (pos+(Utf8.decode (mkStr ss) pos).2)):=(f14.same _ s13 λx=>x).trans g13
  have go:1<=(Utf8.decode (mkStr ss) pos).2->(ss.take (pos+(Utf8.decode (mkStr ss) pos).2)).any jU=false->
    (∃p,Fr No h gh/\h10.size<gh.size/\gh[h10.size]?=some (.stringIter (mkStr ss) p)/\(ss.take p).any jU=false)/\(match gh[h10.size]? with|some (.stringIter _ pos)=>ss.length-pos|_=>0)<(match bb[h10.size]? with|some (.stringIter _ pos)=>ss.length-pos|_=>0):=by
   intro w1 w2;refine⟨⟨_,f13.no f14,by have:=f14.size;omega,g14,w2⟩,?_⟩;simp only[g14,g12];exact Nat.sub_lt_sub_left hp (by omega)
  rcases Nat.lt_or_ge ss[pos].toNat 128 with hlow|acA
  ·have e1:=wC hp hlow;rw[e1]at hn go;have hn:decide (n>=0)=(decide (ss[pos].toNat=47) || decide (ss[pos].toNat=0)):=hn;rw[FM]at hn
   cases hb:jU ss[pos]with
   | true=>
    rw[hb]at hn;refine ct hn (hK gh _ (f13.no f14) ?_);rw[Zs,List.drop_eq_getElem_cons hp,List.any_cons,hb,decide_eq_true (by omega)];rfl
   | false=>
    rw[hb]at hn;refine cf hn (go (Nat.le_refl _) ?_);show(ss.take (pos+1)).any jU=false;rw[List.take_succ_eq_append_getElem hp,List.any_append,nb,List.any_cons,hb];rfl
  ·obtain⟨e1,e2,e3⟩:=decode_high hp acA;have a1:¬(Utf8.decode (mkStr ss) pos).1=47:=(by omega);have a2:¬(Utf8.decode (mkStr ss) pos).1=0:=(by omega);rw[decide_eq_false a1,decide_eq_false a2]at hn;refine cf hn (go e2 ?_);generalize(Utf8.decode (mkStr ss) pos).2=w at e2 e3;clear hn go g14 g13 it e1 e2
   induction w with
   | zero=>exact nb
   | succ w ih=>
    obtain⟨hl,hb⟩:=e3 w (by omega);rw[<-Nat.add_assoc,List.take_succ_eq_append_getElem hl,List.any_append,ih λk hk=>e3 k (by omega),List.any_cons];have:jU ss[pos+w]=false:=(by rw[<-FM,decide_eq_false (by omega),decide_eq_false (by omega)];rfl);rw[this];rfl
 ·have hp:¬pos<ss.length:=hp;refine hK bb _ f12 ?_;rw[List.take_of_length_le (by omega)]at nb;rw[nb];decide
theorem yJ(hl:ss.length<=140737488355328)(hK:∀ h',Fr No h h'->K (.bool (ss.any jU)) h'):C.fv (mkStr ss) (mkStr zq) h K:=by
 have fin:∀h' n,Fr No h h'->decide (n>=0)=ss.any jU->(λv h'=>∃n:Int,v = .int .i64 n/\K (.bool (decide (n>=0))) h') (Value.int .i64 n) h':=λh' n f e=>⟨n,rfl,by rw[e];exact hK h' f⟩;refine fv.ok (dV.ok (cf (by rw[toList_mkStr,toList_mkStr];rfl) (cf (by show((2:Int)==1)=false;decide) ?_)));refine dK.ok ⟨_,rfl,?_⟩;refine cs (λhb=>?_) λ_=>C4 (Fr.refl _ _) fin;refine xL λh5 f5=>⟨_,_,rfl,?_⟩;have ml:(BH.map Value.bool).length=256:=by rw[List.length_map,BH,List.length_map,List.length_range]
 refine ax.intro ml (λv hv=>by obtain⟨b,_,rfl⟩:=List.mem_map.mp hv;rfl) (by kernel_rfl) λh7 n7=>ct rfl ?_;have f7:=f5.new n7;have iH:((mkStr ss).size:Int)=ss.length:=rfl;rw[iH];refine⟨λi hh=>0<=i/\i<=ss.length/\h7=hh/\ss.any jU=(ss.drop i.toNat).any jU,λi _=>(ss.length-i).toNat,⟨by omega,by omega,rfl,rfl⟩,?_⟩;rintro i _ ⟨i0,i1,rfl,e⟩;refine cd (λhi=>?_) λhi=>?_
 ·have oK:i.toNat<ss.length:=by omega
  refine⟨⟨i0,hi⟩,ss[i.toNat],by rw[toList_mkStr,List.getElem?_eq_getElem oK],dL.ok (os ⟨⟨by omega,by have:=(ss[i.toNat]).toNat_lt;omega⟩,jU ss[i.toNat],?_,_,rfl,?_⟩)⟩
  ·refine bW n7.rd ?_;rw[Nat.zero_add,Int.toNat_natCast];exact HA _
  ·rw[List.drop_eq_getElem_cons oK,List.any_cons]at e
   cases hb:jU ss[i.toNat]with
   | true=>
    rw[hb]at e;exact ct rfl (fin h7 _ f7 (by rw[e,decide_eq_true (by omega)];rfl))
   | false=>
    rw[hb,Bool.false_or]at e;rw[wrap_i64 (by omega) (by omega)];refine cf rfl ⟨⟨by omega,by omega,rfl,by rw[e,show(i+1).toNat=i.toNat+1 by omega]⟩,by show((ss.length:Int)-(i+1)).toNat<((ss.length:Int)-i).toNat;omega⟩
 ·rw[List.drop_of_length_le (by omega)]at e;exact fin h7 _ f7 (by rw[e];decide)
theorem xM{d:D}{m:qj}(t:y8 d h r m h'):Fr (λx=>x=r) h h':=⟨by rw[t.size];exact Nat.le_refl _,λb _ hb=>t.same b hb⟩
theorem Mz.intro{d:D}{k:HP}(H:∀ h',Fr No h h'->h'.size=h.size+1->kK d h' h.size []->k h'):Mz h k:=
 H _ (LH _) (Array.size_push _) ⟨#[],0,Hy _,rfl,λ_ h=>absurd h (by simp),MapKept.stamped_empty _⟩
theorem Nh(hK:∀ h' v,Fr No h h'->K (.tuple #[v,.bool (ss == [46] || ss == [46,46])]) h'):C.jb (mkStr ss) h K:=by
 refine jb.ok ?_;unfold jb;simp only[toList_mkStr];refine Mz.intro (d:=.str) λh2 f2 s2 m2=>⟨[],m2,λh3 m3=>⟨_,m3.at_,λh4 m4=>⟨_,m4.at_,_,rfl,?_⟩⟩⟩;have f4:Fr No h h4:=(f2.trans (xM m3) λb hb e=>by omega).trans (xM m4) λb hb e=>by omega
 refine(show ∀b v,b=(ss == [46] || ss == [46,46])->K (.tuple #[v,.bool b]) h4 from λb v e=>by rw[e];exact hK h4 v f4) _ _ ?_;show(rQ (bif jI.same (.s [46,46]) (.s [46])then _ else _) (.s ss)).isSome=_;rw[show jI.same (.s [46,46]) (.s [46])=false from by decide];show(bif ss == [46]then some _ else bif ss == [46,46]then some _ else none).isSome=_
 cases h1:ss == [46] <;> cases h2:ss == [46,46] <;> rfl
theorem DS(hK:∀ h',Fr No h h'->K (.bool (Sk.bf ss)) h'):C.mD (mkStr ss) h K:=by
 have iH:(mkStr ss).size=ss.length:=rfl;refine mD.ok (Nh λh2 v f2=>⟨_,_,rfl,?_⟩);rw[iH];have no:Sk.bf ss=false->K (.bool false) h2:=λe=>by rw[<-e];exact hK h2 f2
 have nn:∀x,(Sk.bf ss=true->x)->(¬x)->Sk.bf ss=false:=λx hx hn=>by
  cases e:Sk.bf ss with
  | false=>rfl
  | true=>exact absurd (hx e) hn
 refine cd (λh1=>cd (λh3=>jj ?_) λh3=>?_) λh1=>?_
 ·cases hd:(ss == [46] || ss == [46,46])with
  | true=>
   refine no (nn (¬((ss == [46] || ss == [46,46])=true)) (λe=>?_) (by rw[hd];simp));have:=Sk.fI.mp e;rw[Bool.or_eq_true,beq_iff_eq,beq_iff_eq];rintro(x|x)
   ·exact this.dot x
   ·exact this.acd x
  | false=>
   rw[Bool.or_eq_false_iff,beq_eq_false_iff_ne,beq_eq_false_iff_ne]at hd;refine yJ (by omega) λIQ f3=>⟨_,rfl,?_⟩
   have e:(!ss.any jU)=Sk.bf ss:=by
    unfold Sk.bf;rw[decide_eq_true (by omega),decide_eq_true (by omega),show(ss != [46])=true from bne_iff_ne.mpr hd.1,show(ss != [46,46])=true from bne_iff_ne.mpr hd.2];rw[Bool.true_and,Bool.true_and,Bool.true_and,List.not_any_eq_all_not];congr 1;funext b;unfold jU;rw[Bool.not_or];rfl
   rw[e];exact hK IQ (f2.no f3)
 ·exact no (nn _ (λe=>(Sk.fI.mp e).le) (by omega))
 ·exact no (nn _ (λe=>(Sk.fI.mp e).pos) (by omega))
end Ch
namespace Ss
open Hp W Re Sk Ch
def E.v(e:E):LV:=[.int .i64 e.place,.string (mkStr e.name),.int .i64 e.fu]
theorem E.len(e:E):(E.v e).length=3:=rfl
theorem E.one(e:E):∀v∈E.v e,v.oneCell'=true:=by
 intro v hv;simp only[E.v,List.mem_cons,List.not_mem_nil,or_false]at hv
 rcases hv with rfl|rfl|rfl <;> rfl
theorem Ni{k:Int}(B:aJ h a l bs)(hl:l=512)(wv:l<=c)(h0:0<=k)(h1:k<16)
  (hK:aJ h (Option.map (Addr.add · (32*k.toNat)) a) 32 ((bs.drop (32*k.toNat)).take 32)->K (.slice (Option.map (Addr.add · (32*k.toNat)) a) 32 32) h):C.kP a l c k h K:=by
 refine kP.ok ?_;unfold kP;rw[wrap_i64 (n:=32*k) (by omega) (by omega),wrap_i64 (n:=32*k+32) (by omega) (by omega)];refine⟨⟨by omega,by omega,by omega,by omega⟩,?_⟩;rw[if_neg (by omega),show(32*k+32).toNat-(32*k).toNat=32 by omega,show(32*k).toNat=32*k.toNat by omega];exact hK (aJ.take (aJ.drop B (32*k.toNat)) (by omega))
theorem yK(g:In.pq h)(B:aJ h a 32 bs)
  (hK:∀h' x,Fr No h h'->one bs=some x->K (.tuple #[.int .i64 (x.1:Nat),.string (mkStr x.2),.bool true]) h') (hN:∀h' n s,Fr No h h'->one bs=none->K (.tuple #[.int .i64 n,.string s,.bool false]) h'):C.jn a 32 32 h K:=by
 have hb:=B.1;have e0:one bs=one bs:=rfl;refine jn.ok (In.Ln g B (by omega) (by omega) (by omega) (by omega) ⟨_,_,rfl,In.Ln g B (by omega) (by omega) (by omega) (by omega) ⟨_,_,rfl,?_⟩⟩);rw[show(0:Int).toNat=0 from rfl,show(4:Int).toNat=4 from rfl,show(1:Int).toNat=1 from rfl,List.drop_zero];have h4:4<bs.length:=by omega
 have e1:lT ((bs.drop 4).take 1)=(bs.getD 4 0).toNat:=by
  rw[List.drop_eq_getElem_cons h4,List.getD_eq_getElem?_getD,List.getElem?_eq_getElem h4];show bs[4].toNat+256*0=bs[4].toNat;omega
 rw[e1]
 have lt:lT (bs.take 4)<4294967296:=by
  have:=tV (bs.take 4);rw[List.length_take,show min 4 bs.length=4 by omega]at this;exact this
 conv at e0=>rhs;unfold one
 generalize lT (bs.take 4)=i at lt e0 ⊢;have bt:=(bs.getD 4 0).toNat_lt;generalize(bs.getD 4 0).toNat=n at bt e0 ⊢;refine ce (λhi=>?_) λhi=>?_
 ·refine uP B (by omega) (by omega) (by omega) (by omega) (by omega) ⟨_,_,rfl,?_⟩;rw[if_pos (by omega)]at e0;rw[show(0:Int).toNat=0 from rfl,show(32:Int).toNat=32 from rfl,List.drop_zero,List.take_of_length_le (by omega)]
  cases hz:fW bs with
  | true=>rw[hz]at e0;exact hK h _ (Fr.refl _ _) e0
  | false=>rw[hz]at e0;exact hN h _ _ (Fr.refl _ _) e0
 ·rw[if_neg (by omega)]at e0;refine cd (λhn=>hN h _ _ (Fr.refl _ _) (by rw[e0,if_pos (by omega)])) λhn=>cd (λhn2=>hN h _ _ (Fr.refl _ _) (by rw[e0,if_pos (by omega)])) λhn2=>?_;rw[if_neg (by omega)]at e0
  have wu:IntKind.wrap .u64 (5+(n:Int))=5+n:=by
   show(5+(n:Int))%18446744073709551616=_;omega
  unfold jn.k1;rw[wu,wrap_i64 (n:=(n:Int)) (by omega) (by omega),wrap_i64 (n:=5+(n:Int)) (by omega) (by omega),wrap_i64 (n:=27-(n:Int)) (by omega) (by omega),wrap_i64 (n:=(i:Int)) (by omega) (by omega)];refine⟨⟨by omega,by omega,by omega,by omega⟩,(bs.drop 5).take n,?_,?_⟩
  ·have:=aJ.cut B (c:=32) (by omega) (i:=5) (j:=5+n) (by omega) (by omega);rw[show(5+(n:Int)).toNat=5+n by omega,show(5:Int).toNat=5 from rfl,if_neg (by omega)];rw[if_neg (by omega),show 5+n-5=n by omega]at this;rw[show 5+n-5=n by omega];exact this
  ·refine uP B (by omega) (by omega) (by omega) (by omega) (by omega) ⟨_,_,rfl,?_⟩
   have ez:List.take (27-(n:Int)).toNat (List.drop (5+(n:Int)).toNat bs)=bs.drop (5+n):=by
    rw[show(5+(n:Int)).toNat=5+n by omega,List.take_of_length_le (by rw[List.length_drop];omega)]
   rw[ez]
   cases hz:fW (bs.drop (5+n))with
   | false=>
    rw[hz]at e0;exact hN h _ _ (Fr.refl _ _) e0
   | true=>
    refine DS λh' f'=>⟨_,rfl,?_⟩;rw[hz,Bool.true_and]at e0
    cases hn:bf ((bs.drop 5).take n)with
    | true=>rw[hn]at e0;exact hK h' _ f' e0
    | false=>rw[hn]at e0;exact hN h' _ _ f' e0
theorem fM(g:In.pq h)(B:aJ h a l bs)(wv:l<=c)
  (hK:∀h' a' l' c',Fr No h h'->Sl h' 3 a' l' c' ((ry bs).1.flatMap E.v) (bZ h.size)->K (.tuple #[.slice a' l' c',.int .i64 (ry bs).2]) h'):C.mv a l c h K:=by
 have hb:=B.1;refine mv.ok (cn (λhl=>?_) λhl=>?_)
 ·have e:ry bs=([],32):=by rw[ry,if_pos (by omega)]
  rw[e]at hK;exact hK h none 0 0 (Fr.refl _ _) (Sl.nil _ _ _)
 have hl:l=512:=by omega
 have e:ry bs=match dec 16 bs with
  | none=>([],140)
  | some hs=>(gW 0 hs,0):=by
  rw[ry,if_neg (by omega)]
  cases dec 16 bs <;> rfl
 refine⟨λla ll lc n hh=>0<=n/\n<=16/\Fr No h hh/\∃pre:List (Nat×ay),pre.length=n.toNat/\dec 16 bs=(dec (16-n.toNat) (bs.drop (32*n.toNat))).map (pre ++ ·)/\Sl hh 3 la ll lc ((gW 0 pre).flatMap E.v) (bZ h.size),λ_ _ _ n _=>(16-n).toNat,
  ⟨by omega,by omega,Fr.refl _ _,[],rfl,by rw[show(0:Int).toNat=0 from rfl,Nat.mul_zero,List.drop_zero];simp,Sl.nil _ _ _⟩,?_⟩
 rintro la ll lc n h2 ⟨n0,n1,f2,pre,pl,pd,ps⟩;have VL:=f2.size;have pll:=Bi pre 0
 have hll:ll=(gW 0 pre).length:=by
  have:=ps.1;rw[bw E.v 3 _ (λx _=>E.len x)]at this;omega
 refine cd (λhn=>?_) λhn=>?_
 ·rw[Hg (by omega)]at pd;refine Ni (aJ.fr f2 B λ_ _ x=>x) hl wv n0 hn λB2=>⟨_,_,_,rfl,?_⟩;rw[wrap_i64 (n:=n+1) (by omega) (by omega)];refine yK (g.no f2) B2 (λh4 x f4 ho=>⟨_,_,_,rfl,?_⟩) λh4 m s f4 ho=>⟨_,_,_,rfl,?_⟩
  ·have f24:=f2.no f4;rw[ho]at pd
   have pd':dec 16 bs=(dec (16-(n+1).toNat) (bs.drop (32*(n+1).toNat))).map ((pre++[x]) ++ ·):=by
    rw[pd,show(n+1).toNat=n.toNat+1 by omega]
    cases dec (16-(n.toNat+1)) (bs.drop (32*(n.toNat+1)))with
    | none=>rfl
    | some r=>simp
   have ee:gW 0 (pre++[x])=gW 0 pre++(if x.1=0 then[]else[⟨n,x.2,x.1⟩]):=by
    rw[tZ,pl,gW,gW,show((0+n.toNat:Nat):Int)=n by omega]
   have ps4:=ps.fr f4 λ_ _ _ x=>x;refine cf rfl (cn (λhx=>⟨rfl,aC.intro λh5 n5=>⟨E.v ⟨n,x.2,x.1⟩,rfl,aj n5.rd,E.one _,?_⟩⟩) λhx=>⟨⟨by omega,by omega,f24,pre++[x],by rw[List.length_append,pl,List.length_singleton];omega,pd',?_⟩,by show(16-(n+1)).toNat<(16-n).toNat;omega⟩)
   ·have Zt:x.1≠0:=λe=>hx (by rw[e];rfl);rw[if_neg Zt]at ee;have f25:=f24.new n5;have hs5:=f25.size;have AO:(mB).bytes=32:=rfl;refine aT (elem:=mB) (ps4.fr n5.fr λ_ _ _ x=>x) rfl rfl (by rw[AO];omega) (by omega) λa' c' h6 f6 s6=>⟨⟨by omega,by omega,?_,pre++[x],by rw[List.length_append,pl,List.length_singleton];omega,pd',?_⟩,by show(16-(n+1)).toNat<(16-n).toNat;omega⟩
    ·exact f25.trans f6 λb hb hF=>by have:h.size<=b:=hF;omega
    ·rw[ee,List.flatMap_append];refine Sl.mono (s6:Sl h6 3 a' (ll+1) c' _ _) λb hF=>?_
     rcases hF with hF|hF
     ·exact hF
     ·show h.size<=b;omega
   ·have Zt:x.1=0:=(by omega);rw[if_pos Zt,List.append_nil]at ee;rw[ee];exact ps4
  ·rw[ho]at pd;have e2:ry bs=([],140):=(by rw[e,pd];rfl);rw[e2]at hK;exact ct rfl (hK h4 none 0 0 (f2.no f4) (Sl.nil _ _ _))
 ·have en:n.toNat=16:=by omega
  rw[en]at pd
  have e2:ry bs=(gW 0 pre,0):=by
   have z:dec (16-16) (bs.drop (32*16))=some []:=(by rw[Nat.sub_self];rfl);rw[e,pd,z,Option.map_some,List.append_nil]
  rw[e2]at hK;exact hK h2 la ll lc f2 ps
theorem qa(B:aJ h a l bs){i:Nat}(hi:i<bs.length):∃p,a=some p/\cellOf h (p.add i)=some (bv bs[i]):=by
 obtain⟨_,B2⟩:=B
 cases a with
 | none=>have B2:bs.map bv=[]:=B2;have:=List.map_eq_nil_iff.mp B2;rw[this]at hi;exact absurd hi (by simp)
 | some p=>exact⟨p,rfl,B2 i (bv bs[i]) (by rw[List.getElem?_map,List.getElem?_eq_getElem hi];rfl)⟩
end Ss
namespace Di
open Hp W Ad Tm Spc Re Av Rg Ss
open Hd (ints)
open In (pq ah av)
open Ino (getM su aF)
open Bm (dI)
open Fi (bC Bv pY nh)
open Sk (E)
def qc(t:OA)(g:G)(n:Int)(R:List Int)(e:Int):LV:=.pointer t::(g.v++(.int .i64 n::(ints R++[.int .i64 e])))
theorem UD(h:R.length=15):∃a b c d e f g i j k l m n o p,R=[a,b,c,d,e,f,g,i,j,k,l,m,n,o,p]:=by
 match R,h with
 | [a,b,c,d,e,f,g,i,j,k,l,m,n,o,p],_=>exact⟨a,b,c,d,e,f,g,i,j,k,l,m,n,o,p,rfl⟩
section
variable{t : OA}{g : G}{n e e' : Int}{R : List Int}{rest : LV}
theorem iT(hR:R.length=15):(qc t g n R e).length=23:=by
 obtain⟨_,_,_,_,_,_,_,_,_,_,_,_,_,_,_,rfl⟩:=UD hR;rfl
theorem zr(hR:R.length=15):(qc t g n R e++rest)[22]?=some (.int .i64 e):=by
 obtain⟨_,_,_,_,_,_,_,_,_,_,_,_,_,_,_,rfl⟩:=UD hR;rfl
theorem acD : ((qc t g n R e++rest).drop 1).take 5=g.v:=rfl
theorem acE(hR:R.length=15):((qc t g n R e++rest).drop 7).take 15=ints R:=by
 obtain⟨_,_,_,_,_,_,_,_,_,_,_,_,_,_,_,rfl⟩:=UD hR;rfl
theorem Xw(hR:R.length=15):(qc t g n R e++rest)[7]?=some (.int .i64 (R.getD 0 0)):=by
 obtain⟨_,_,_,_,_,_,_,_,_,_,_,_,_,_,_,rfl⟩:=UD hR;rfl
theorem acF(hR:R.length=15):(qc t g n R e++rest)[9]?=some (.int .i64 (R.getD 2 0)):=by
 obtain⟨_,_,_,_,_,_,_,_,_,_,_,_,_,_,_,rfl⟩:=UD hR;rfl
theorem uZ(hR:R.length=15):(qc t g n R e++rest).set 22 (.int .i64 e')=qc t g n R e'++rest:=by
 obtain⟨_,_,_,_,_,_,_,_,_,_,_,_,_,_,_,rfl⟩:=UD hR;rfl
theorem UE{R':List Int}(hR:R.length=15)(hR':R'.length=15):put (qc t g n R e++rest) 7 (ints R')=qc t g n R' e++rest:=by
 rw[put_eq _ _ _ (by rw[ah,List.length_append,iT hR];omega),ah,hR'];obtain⟨_,_,_,_,_,_,_,_,_,_,_,_,_,_,_,rfl⟩:=UD hR;unfold qc;simp[G.v,ints]
theorem FN : ∀v∈qc t g n R e,v.oneCell'=true:=by
 intro v hv;unfold qc at hv
 rcases List.mem_cons.mp hv with rfl|hv
 ·rfl
 ·rcases List.mem_append.mp hv with h|h
  ·exact G.one g v h
  ·rcases List.mem_cons.mp h with rfl|h
   ·rfl
   ·rcases List.mem_append.mp h with h|h
    ·exact av R v h
    ·rw[List.mem_singleton.mp h];rfl
end
theorem C5{v:Value}(e:rd h b=xs)(hv:xs[o+m+n]?=some v):cellOf h (Addr.add (Addr.add ⟨b,o,none⟩ m) n)=some v:=by rw[cI];exact bW e hv
theorem DT{T:TM}{g:G}{n:Int}(gl:In.pq h)(x:Tx h F t d T)(ok:su g)
  (hK:∀h',Fr No h h'->K (.agg ⟨qc t g n (bD T g n).1 (bD T g n).2⟩) h'):C.oA t g.v n h K:=by
 have lR:=aF T g n;refine oA.ok (aC.intro λh2 n2=>aC.intro λh3 n3=>⟨g.v,rfl,aj ((n3.at_ n2.own.lt).trans n2.rd),rfl,ax.intro (z:=GU) rfl ?_ rfl λh5 n5=>?_⟩)
 ·intro v hv;have hz:∀v∈gC,v.oneCell'=true:=by decide
  rcases List.mem_append.mp hv with h|h
  ·rw[List.mem_singleton.mp h];rfl
  ·rcases List.mem_append.mp h with h|h
   ·exact G.one g v h
   ·rcases List.mem_append.mp h with h|h
    ·rw[List.mem_singleton.mp h];rfl
    ·rcases List.mem_append.mp h with h|h
     ·exact hz v h
     ·rw[List.mem_singleton.mp h];rfl
 have z2:=n2.size;have z3:=n3.size;have z5:=n5.size;have F5:Fr No h h5:=(n2.fr.new n3).new n5;have r5:rd h5 h3.size=qc t g n (List.replicate 15 0) 0:=n5.rd;refine⟨g.v,rfl,aj ((n5.at_ (by omega)).trans ((n3.at_ n2.own.lt).trans n2.rd)),Ino.jM (gl.no F5) (x.no F5) ok λh6 f6=>⟨_,_,rfl,?_⟩⟩;have z6:=f6.size;have r6:rd h6 h3.size=qc t g n (List.replicate 15 0) 0:=(f6.rd (by omega) λy=>y).trans r5;have o6:du h6 h3.size:=f6.own (by omega) (λy=>y) n5.own;refine ar.add o6 (by rw[ah,lR]) (av _) (by rw[r6,iT List.length_replicate];decide) λh7 d7=>bQ.add d7.own (by rw[d7.rd,eE,r6,iT List.length_replicate];decide) λh8 d8=>?_
 have r8:rd h8 h3.size=qc t g n (getM T g n).1 (getM T g n).2:=by
  have e1:rd h6 h3.size=qc t g n (List.replicate 15 0) 0++[]:=by rw[r6,List.append_nil]
  rw[d8.rd,d7.rd,e1,show 0+7=7 from rfl,show 0+22=22 from rfl,UE List.length_replicate lR,uZ lR,List.append_nil]
 have r8':rd h8 h3.size=qc t g n (getM T g n).1 (getM T g n).2++[]:=by rw[List.append_nil];exact r8
 have z7:=d7.size;have z8:=d8.size;have F8:Fr No h h8:=((F5.no f6).did d7 λhl=>by omega).did d8 λhl=>by omega
 have q8:rd h8 h2.size=GU:=(d8.at_ (by omega) (by omega)).trans ((d7.at_ (by omega) (by omega)).trans ((f6.rd (by omega) λy=>y).trans ((n5.at_ (by omega)).trans n3.rd)));have p8:du h8 h2.size:=d8.ow (d7.ow (f6.own (by omega) (λy=>y) (n5.ow n3.own)))
 -- the answer
 have out:∀(hh:ab) (e:Int),Fr No h hh->rd hh h3.size=qc t g n (getM T g n).1 e->rd hh h2.size=GU->du hh h2.size->bD T g n=((getM T g n).1,e)->
   ∃cs:LV,List.length cs=23/\ai hh ⟨h3.size,0,none⟩ cs/\ar ⟨h2.size,0,none⟩ cs 23 hh λh9=>∃res:LV,List.length res=23/\ai h9 ⟨h2.size,0,none⟩ res/\K (.agg ⟨res⟩) h9:=λhh e f r q p ho=>by
  rw[ho]at hK;refine⟨_,iT lR,aj r,ar.intro p (iT lR) FN (by rw[q];decide) λh9 d9=>⟨_,iT lR,aj ?_,hK h9 (f.did d9 λhl=>by omega)⟩⟩;rw[d9.rd];exact cM _ _ (by rw[iT lR,q];rfl)
 refine⟨_,bW r8' (zr lR),cn (λhe=>out h8 _ F8 r8 q8 p8 (by unfold bD;rw[if_pos he])) λhe=>⟨_,C5 r8' (Xw lR),ce (λh0=>?_) λh0=>⟨_,C5 r8' (Xw lR),cn (λAa=>?_) λAa=>?_⟩⟩⟩
 ·refine bQ.add d8.own (by rw[r8,iT lR];decide) λh10 d10=>out h10 110 (F8.did d10 λhl=>by omega) ?_ ((d10.at_ (by omega) (by omega)).trans q8) (d10.ow p8) (by unfold bD;rw[if_neg (λy=>y he),if_pos h0]);rw[d10.rd,r8'];exact(uZ lR).trans (List.append_nil _)
 ·refine bQ.add d8.own (by rw[r8,iT lR];decide) λh10 d10=>out h10 161 (F8.did d10 λhl=>by omega) ?_ ((d10.at_ (by omega) (by omega)).trans q8) (d10.ow p8) (by unfold bD;rw[if_neg (λy=>y he),if_neg h0,if_pos Aa]);rw[d10.rd,r8'];exact(uZ lR).trans (List.append_nil _)
 ·exact out h8 _ F8 r8 q8 p8 (by unfold bD;rw[if_neg (λy=>y he),if_neg h0,if_neg (λy=>y Aa)])
theorem um{rb:Nat}{g:G}{n e':Int}{rest:LV}(hR:R.length=15)(w:du h rb)(r:rd h rb=qc t g n R e++rest)
  (hK:∀h',yw rb h h' (qc t g n R e'++rest)->K (.bool (e' != 0)) h'):C.eB (some ⟨rb,0,none⟩) e' h K:=by
 refine eB.ok (os (bQ.add w (by rw[r,List.length_append,iT hR];omega) λh2 d2=>hK h2 ?_));rw[r,show 0+22=22 from rfl,uZ hR]at d2;exact d2
structure It(hh:ab)(F:NP)(t d:OA)(T:TM)(g:G)(n:Int)(R:List Int)(e:Int)(rest:LV)(cb rb:Nat):Prop where
 gl:In.pq hh
 x:Tx hh F t d T
 cap:rd hh cb=[.pointer (some ⟨rb,0,none⟩)]
 ob:du hh rb
 r:rd hh rb=qc t g n R e++rest
 nf:¬F rb
 b1:1<=rb
 ne:cb≠rb
section
variable{hh h' : ab}{F : Nat -> Prop}{t d : OA}{T : TM}{g : G}{n e e' : Int}{R : List Int}{rest : LV}{cb rb : Nat}
theorem It.ON(i:It hh F t d T g n R e rest cb rb):cb<hh.size:=vH (o:=0) (by rw[i.cap];rfl)
theorem It.fr(i:It hh F t d T g n R e rest cb rb){G:NP}(f:Fr G hh h')(h1:¬ G rb)(h2:¬ G cb)(h3:∀ b,F b->¬ G b)(h4:∀ b,b<1->¬ G b):It h' F t d T g n R e rest cb rb:=
 ⟨i.gl.fr f h4,i.x.fr f h3,(f.rd i.ON h2).trans i.cap,f.own i.ob.lt h1 i.ob,(f.rd i.ob.lt h1).trans i.r,i.nf,i.b1,i.ne⟩
theorem It.no(i:It hh F t d T g n R e rest cb rb)(f:Fr No hh h'):It h' F t d T g n R e rest cb rb:=i.fr f (λy=>y) (λy=>y) (λ_ _ y=>y) λ_ _ y=>y
theorem It.did(i:It hh F t d T g n R e rest cb rb)(f:yw rb hh h' (qc t g n R e'++rest)):It h' F t d T g n R e' rest cb rb:=
 ⟨i.gl.fr f.fr λb hb y=>by have:=i.b1;omega,i.x.fr f.fr λb hb y=>i.nf (y▸hb),(f.at_ i.ON i.ne).trans i.cap,f.own,f.rd,i.nf,i.b1,i.ne⟩
end
def oP(k:Nat)(b:Int)(ba:OA)(bl bc:Nat)(ca:OA)(cl cc:Nat):LV:=[.int .i64 k,.int .i64 b,.slice ba bl bc,.slice ca cl cc]
theorem yL{b:Int}:∀v∈oP k b ba bl bc ca cl cc,v.oneCell'=true:=by
 intro v hv;simp only[oP,List.mem_cons,List.not_mem_nil,or_false]at hv
 rcases hv with rfl|rfl|rfl|rfl <;> rfl
structure Lf(h0 h:ab)(l:uh)(ba:OA)(bl bc:Nat)(ca:OA)(cl cc:Nat):Prop where
 s:Sl h 1 ba bl bc (l.bytes.map bv) (bZ h0.size)
 c:Sl h 3 ca cl cc (l.cells.flatMap E.v) (bZ h0.size)
theorem Lf.fr{h0 h h':ab}{l:uh}{ba:OA}{bl bc:Nat}{ca:OA}{cl cc:Nat}{G:NP}(x:Lf h0 h l ba bl bc ca cl cc)(f:Fr G h h')(hG:∀ b,b<h.size->h0.size<=b->¬ G b):Lf h0 h' l ba bl bc ca cl cc:=
 ⟨x.s.fr f hG,x.c.fr f hG⟩
theorem Qc{z:Int}(h0:0<=z)(h1:z<=8459264):IntKind.wrap .i64 (Int.tdiv z 512)=z/512:=by
 rw[Int.tdiv_eq_ediv_of_nonneg h0,wrap_i64 (by omega) (by omega)]
theorem zt{rb:Nat}{T:TM}{g:G}{n:Int}{rest:LV}(hR:R.length=15)(hs0:0<=R.getD 2 0)(O3:R.getD 2 0<=8459264)(J:Nat->ab->Prop)
  (hc:∀k hh,J k hh->It hh F t d T g n R 0 rest cb rb)
  (hY:∀k hh h' ba bl bc ca cl cc,J k hh->k<(R.getD 2 0/512).toNat->(aM T g R k).2=0->Fr (λb=>b=rb) hh h'->rd h' rb=qc t g n R 0++rest->du h' rb->Lf hh h' (aM T g R k).1 ba bl bc ca cl cc->
   mj Tryz.prog l [.agg ⟨oP k (aM T g R k).1.block ba bl bc ca cl cc⟩] h' λv h''=>(v = .bool true/\J (k+1) h'')∨(v = .bool false/\K (.tuple #[]) h''))
  (h0:J 0 h) (hK:∀hh,J (R.getD 2 0/512).toNat hh->K (.tuple #[]) hh)
  (hE:∀k hh h',J k hh->k<(R.getD 2 0/512).toNat->(aM T g R k).2≠0->Fr (λb=>b=rb) hh h'->rd h' rb=qc t g n R (aM T g R k).2++rest->du h' rb->K (.tuple #[]) h') :
  C.aD (.func (.yield l) #[] #[]) (some ⟨cb,0,none⟩) h K:=by
 obtain⟨m,em⟩:∃m:Nat,R.getD 2 0/512=m:=⟨(R.getD 2 0/512).toNat,by omega⟩;have hm:m<=16522:=by omega
 rw[em,Int.toNat_natCast]at hY hK hE;refine aD.ok ⟨λi hh=>∃k:Nat,i=k/\k<=m/\J k hh,λi _=>(m-i).toNat,⟨0,rfl,Nat.zero_le _,h0⟩,?_⟩;rintro i h2 ⟨k,ei,hk,hJ⟩;have I2:=hc k h2 hJ;refine os ⟨_,nt I2.cap rfl,os ⟨_,bW I2.r (zr hR),ce (λ_=>os ⟨_,nt I2.cap rfl,os ⟨_,C5 I2.r (acF hR),?_⟩⟩) λy=>absurd rfl y⟩⟩;rw[Qc hs0 O3,em];refine cd (λdh=>?_) λdh=>?_
 rotate_left
 ·have:k=m:=by omega
  subst this;exact hK h2 hJ
 have dh:k<m:=by omega
 unfold aD.k1;refine⟨by decide,aC.intro λh3 n3=>ax.intro rfl ?_ rfl λh5 n5=>?_⟩
 ·intro v hv;simp only[List.mem_cons,List.not_mem_nil,or_false]at hv
  rcases hv with rfl|rfl|rfl|rfl <;> rfl
 have z3:=n3.size;have z5:=n5.size;have F5:Fr No h2 h5:=n3.fr.new n5;have I5:=I2.no F5;refine os ⟨_,nt I5.cap rfl,os ⟨t,bW I5.r rfl,os ⟨_,nt I5.cap rfl,os ⟨g.v,rfl,lS I5.r acD,os ⟨_,nt I5.cap rfl,os ⟨ints R,by rw[ah,hR],lS I5.r ?_,?_⟩⟩⟩⟩⟩⟩
 ·rw[ah,hR];exact acE hR
 rw[ei];refine Bm.jL I5.gl I5.x hR λh6 f6=>⟨_,_,rfl,?_⟩;have z6:=f6.size;have o6:du h6 h3.size:=f6.own (by omega) (λy=>y) n5.own
 have l6:rd h6 h3.size=[.int .i64 k,.int .i64 0,.slice (some ⟨h2.size,0,none⟩) 512 512,.slice none 0 0]:=by
  rw[f6.rd (by omega) λy=>y,n5.rd,ei];rfl
 have I6:=I5.no f6;refine bQ.add o6 (by rw[l6];show 1<4;decide) λh7 d7=>?_;have z7:=d7.size;have l7:rd h7 h3.size=[.int .i64 k,.int .i64 (dI T g R k).1,.slice (some ⟨h2.size,0,none⟩) 512 512,.slice none 0 0]:=by rw[d7.rd,l6];rfl
 have rl2:=I2.ob.lt;have cl2:=I2.ON;have xl2:∀b,F b->b<h2.size:=λb hb=>I2.x.lt hb;have g2:=I2.gl.lt;have I7:It h7 F t d T g n R 0 rest cb rb:=I6.fr d7.fr (by omega) (by omega) (λb hb y=>by have:=xl2 b hb;omega) λb hb y=>by omega
 have F7:Fr No h2 h7:=(F5.no f6).did d7 λhl=>by omega
 refine os ⟨_,nt I7.cap rfl,um hR I7.ob I7.r λh8 d8=>⟨_,rfl,?_⟩⟩;have I8:=I7.did d8;have F8:Fr (λb=>b=rb) h2 h8:=(F7.mono λ_ _ y=>y.elim).trans d8.fr λ_ _ y=>y;have z8:=d8.size;have l8:=(d8.at_ (c:=h3.size) (by omega) (by omega)).trans l7;have o8:du h8 h3.size:=d8.ow d7.own;refine cn (λhe=>?_) λhe=>?_
 ·-- Find says no
  have e2:(aM T g R k).2=(dI T g R k).2:=by
   unfold aM;have:(bC T g R k).2=(dI T g R k).2:=(by unfold bC;rw[if_pos he]);show(if(bC T g R k).2≠0 then _ else _)=_;rw[this,if_pos he]
  refine hE k h2 h8 hJ dh (by rw[e2];exact he) F8 ?_ I8.ob;rw[e2];exact I8.r
 rw[he]at I8
 -- what is done with the bytes
 have K2:∀(bb:ab) (ba:OA) (bl bc:Nat),It bb F t d T g n R 0 rest cb rb->Fr (λb=>b=rb) h2 bb->h3.size<bb.size->rd bb h3.size=[.int .i64 k,.int .i64 (dI T g R k).1,.slice ba bl bc,.slice none 0 0]->du bb h3.size->
   (bC T g R k).2=0->Sl bb 1 ba bl bc ((bC T g R k).1.map bv) (bZ h2.size)->(∀p,ba=some p->p.block≠h3.size)->aD.k2 (.func (.yield l) #[] #[]) (some ⟨cb,0,none⟩) (k:Int) h2 (λi hh=>∃k:Nat,i=k/\k<=m/\J k hh) (λi _=>(m-i).toNat) h3 bb K:=by
  intro bb ba bl bc I12 xy Cw l12 RY Hq S12 hn12;unfold aD.k2;refine⟨_,_,_,bW l12 rfl,Ss.fM I12.gl S12.str S12.le λbU ca cl cc f13 C13=>⟨_,_,_,_,rfl,?_⟩⟩;have z13:=f13.size;have o13:du bU h3.size:=f13.own Cw (λy=>y) RY;have l13:=(f13.rd Cw λy=>y).trans l12;refine bQ.add o13 (by rw[l13];show 3<4;decide) λgh d14=>?_;have LI:=d14.size;have l14:rd gh h3.size=oP k (dI T g R k).1 ba bl bc ca cl cc:=by rw[d14.rd,l13];rfl
  have I13:=I12.no f13;have I14:It gh F t d T g n R 0 rest cb rb:=I13.fr d14.fr (by omega) (by omega) (λb hb y=>by have:=xl2 b hb;omega) λb hb y=>by omega
  have F14:Fr (λb=>b=rb) h2 gh:=(xy.no f13).did d14 λhl=>by omega
  refine os ⟨_,nt I14.cap rfl,um hR I14.ob I14.r λfg d15=>⟨_,rfl,?_⟩⟩;have oO:=d15.size;have I15:=I14.did d15;have Zu:Fr (λb=>b=rb) h2 fg:=F14.trans d15.fr λ_ _ y=>y
  have e2:(aM T g R k).2=(ry (bC T g R k).1).2:=by
   unfold aM;show(if(bC T g R k).2≠0 then _ else _)=_;rw[if_neg λy=>y Hq]
  refine cn (λhe=>hE k h2 fg hJ dh (by rw[e2];exact he) Zu (by rw[e2];exact I15.r) I15.ob) λhe=>?_;rw[he]at I15;have JG:=(d15.at_ (c:=h3.size) (by omega) (by omega)).trans l14;refine⟨_,rfl,aj JG,pY (ub (hY k h2 fg ba bl bc ca cl cc hJ dh (by rw[e2];exact he) Zu I15.r I15.ob ⟨?_,?_⟩) λv iS hv=>?_)⟩
  ·show Sl fg 1 ba bl bc ((bC T g R k).1.map bv) (bZ h2.size);refine((S12.fr f13 λ_ _ _ y=>y).mono (G:=λb=>h2.size<=b/\∀p,ba=some p->b=p.block->True) λb hb=>⟨hb,λ_ _ _=>trivial⟩) |>.mono (G:=bZ h2.size) (λb hb=>hb.1) |> λS=>?_;refine Sl.fr d15.fr (G:=λb=>b=rb) (?_:Sl gh 1 ba bl bc _ (bZ h2.size)) λb hb hF y=>by have hF:h2.size<=b:=hF;omega
   cases ba with
   | none=>exact⟨S.1,S.2⟩
   | some p=>
    obtain⟨a1,a2,a3,a4,a5,a6⟩:=S.2;have hp:=hn12 p rfl;exact⟨S.1,a1,a2,d14.ow a3,a4,by rw[d14.at_ a3.lt hp];exact a5,by rw[d14.at_ a3.lt hp];exact a6⟩
  ·show Sl fg 3 ca cl cc ((ry (bC T g R k).1).1.flatMap E.v) (bZ h2.size);refine((C13.fr d14.fr λb _ hb y=>?_).fr d15.fr λb _ hb y=>?_).mono λb hb=>?_
   ·have hb:bb.size<=b:=hb;omega
   ·have hb:bb.size<=b:=hb;have:=xy.size;omega
   ·have hb:bb.size<=b:=hb;have:=xy.size;show h2.size<=b;omega
  ·rcases hv with⟨rfl,hJ6⟩|⟨rfl,hk⟩
   ·refine⟨true,rfl,jj (ct rfl ?_)⟩;rw[wrap_i64 (by omega) (by omega)];exact⟨⟨k+1,by omega,dh,hJ6⟩,by show((m:Int)-((k:Int)+1)).toNat<((m:Int)-(k:Int)).toNat;omega⟩
   ·exact⟨false,rfl,jj (cf rfl hk)⟩
 refine⟨_,bW l8 rfl,cn (λhb=>os ⟨_,nt I8.cap rfl,os ⟨t,bW I8.r rfl,_,bW l8 rfl,Tm.fM I8.x λba bl bc h9 f9 hl9 S9=>⟨_,_,_,_,rfl,?_⟩⟩⟩) λhb=>?_⟩
 ·-- its block is read
  have eb:bC T g R k=T.read (dI T g R k).1:=by unfold bC;rw[if_neg (λy=>y he),if_neg hb]
  have z9:=f9.size;have I9:=I8.no f9;have l9:=(f9.rd (b:=h3.size) (by omega) λy=>y).trans l8;have o9:du h9 h3.size:=f9.own (by omega) (λy=>y) o8;refine bQ.add o9 (by rw[l9];show 2<4;decide) λh10 d10=>?_;have Nj:=d10.size;have l10:rd h10 h3.size=[.int .i64 k,.int .i64 (dI T g R k).1,.slice ba bl bc,.slice none 0 0]:=by rw[d10.rd,l9];rfl
  have I10:It h10 F t d T g n R 0 rest cb rb:=I9.fr d10.fr (by omega) (by omega) (λb hb y=>by have:=xl2 b hb;omega) λb hb y=>by omega
  have FO:Fr (λb=>b=rb) h2 h10:=(F8.no f9).did d10 λhl=>by omega
  refine os ⟨_,nt I10.cap rfl,um hR I10.ob I10.r λcg d11=>⟨_,rfl,?_⟩⟩;have OL:=d11.size;have I11:=I10.did d11;have Cy:Fr (λb=>b=rb) h2 cg:=FO.trans d11.fr λ_ _ y=>y;refine cn (λCv=>?_) λCv=>?_
  ·have e2:(aM T g R k).2=(T.read (dI T g R k).1).2:=by
    unfold aM;show(if(bC T g R k).2≠0 then _ else _)=_;rw[eb,if_pos Cv]
   exact hE k h2 cg hJ dh (by rw[e2];exact Cv) Cy (by rw[e2];exact I11.r) I11.ob
  ·rw[Cv]at I11;refine K2 cg ba bl bc I11 Cy (by omega) ((d11.at_ (by omega) (by omega)).trans l10) (d11.ow d10.own) (by rw[eb];exact Cv) ?_ λp hp=>?_
   ·rw[eb];refine((S9.fr d10.fr λb _ hb y=>?_).fr d11.fr λb _ hb y=>?_).mono λb hb=>?_
    ·have hb:h8.size<=b:=hb;omega
    ·have hb:h8.size<=b:=hb;omega
    ·have hb:h8.size<=b:=hb;show h2.size<=b;omega
   ·subst hp;have hb:h8.size<=p.block:=S9.2.2.1;omega
 ·-- a hole
  have eb:bC T g R k=(ij,0):=by unfold bC;rw[if_neg (λy=>y he),if_pos hb]
  have r8:rd h8 h2.size=ij.map bv:=by
   rw[d8.at_ (by omega) (by omega),d7.at_ (by omega) (by omega),f6.rd (by omega) λy=>y,n5.at_ (by omega),n3.rd,ij,List.map_replicate];rfl
  have el:(ij.map bv).length=512:=by rw[List.length_map];exact List.length_replicate
  refine K2 h8 _ _ _ I8 F8 (by omega) l8 o8 (by rw[eb]) ?_ λp hp=>by cases hp;show ¬h2.size=h3.size;omega
  rw[eb];have w8:du h8 h2.size:=d8.ow (d7.ow (f6.own (by omega) (λy=>y) (n5.ow n3.own)));refine⟨by rw[el],rfl,Nat.le_refl _,w8,Nat.le_refl _,?_,?_⟩
  ·show((rd h8 h2.size).drop 0).take _=_;rw[r8,List.drop_zero,List.take_length]
  ·show 0+512*1<=(rd h8 h2.size).length;rw[r8,el];decide
theorem zu{r:OA}(hK:∀ h',oM h h' [.pointer r]->K (.func (.func 135) #[] ⟨[.pointer (some ⟨h.size,0,none⟩)]⟩) h'):C.fw r h K:=
 fw.ok (aC.intro λh2 n2=>hK h2 n2)
end Di
namespace Di
open Hp W Ad Tm Spc Re Av Rg Ss
open Hd (ints)
open In (pq ah av)
open Ino (getM su aF)
open Bm (dI)
open Fi (bC pY nh Iz)
open Sk (E bf)
theorem zv{y:Value}{rb:Nat}{T:TM}{g:G}{n:Int}{rest:LV}(hR:R.length=15)(i:It h F t d T g n R e rest cb rb)(he:e≠0)
  (hK:K (.tuple #[]) h):C.aD y (some ⟨cb,0,none⟩) h K:=by
 refine aD.ok ⟨λ_ hh=>hh=h,λ_ _=>0,rfl,?_⟩;rintro k h2 rfl;exact os ⟨_,nt i.cap rfl,os ⟨_,bW i.r (zr hR),ce (λy=>absurd y he) λ_=>hK⟩⟩
theorem lL{T:TM}{g:G}{n:Int}(h:(bD T g n).2=0):0<=(bD T g n).1.getD 2 0/\(bD T g n).1.getD 2 0<=8459264:=by
 obtain⟨e,e2,_⟩:=xG h;rw[e];obtain⟨_,_,_,_,a,b,_⟩:=In.qv (aF T g n) (nh e2);exact⟨a,b⟩
theorem lV{es:List E}(Z:ag h a (es.flatMap E.v)){j:Nat}(hj:j<es.length):∃p,a=some p/\ai h (p.add (j*3)) (E.v es[j]):=by
 cases a with
 | none=>
  have Z:es.flatMap E.v=[]:=Z;have:=bw E.v 3 es (λx _=>E.len x);rw[Z,List.length_nil]at this;omega
 | some p=>
  refine⟨p,rfl,?_⟩;have:=ai.part (show ai h p (es.flatMap E.v) from Z) (j*3) 3;rw[kq E.v 3 _ (λx _=>E.len x) j hj]at this;exact this
theorem HB{v:Value}{k:HP}(w:du h b)(hl:o+m+n<(rd h b).length)(H:∀ h',yw b h h' ((rd h b).set (o+m+n) v)->k h'):bQ (Addr.add (Addr.add ⟨b,o,none⟩ m) n) v h k:=by
 rw[cI];exact bQ.add w hl H
def qx : LV:=[.int .i64 0,.int .i64 0,.slice none 0 0,.slice none 0 0,.int .i64 0,.string (mkStr []),.int .i64 0]
theorem UF{g:G}{n:Int}(hR:R.length=15){xs:LV}{c:E}(hx:xs.length=4):put (put (qc t g n R e++qx) 23 xs) 27 (E.v c)=qc t g n R e++(xs++E.v c):=by
 have l:=iT (t:=t) (g:=g) (n:=n) (e:=e) hR;have lt:qx.length=7:=rfl;rw[put_eq _ _ _ (by rw[eE,List.length_append,l,lt,E.len];omega),put_eq _ _ _ (by rw[List.length_append,l,lt,hx];omega),hx,E.len];have e1:List.take 23 (qc t g n R e++qx)=qc t g n R e:=List.take_left' l;have e2:(List.drop (23+4) (qc t g n R e++qx)).length=3:=by rw[List.length_drop,List.length_append,l,lt]
 rw[e1];generalize hz:List.drop (23+4) (qc t g n R e++qx)=zs at e2;rw[List.take_left' (l₁:=qc t g n R e++xs) (by rw[List.length_append,l,hx]),List.drop_of_length_le (by rw[List.length_append,List.length_append,l,hx,e2];omega),List.append_nil,List.append_assoc]
theorem LJ{α:Type}{p:α->Bool}{l:List α}(hi:i<l.length)(np:(l.take i).find? p=none)(hp:p l[i]=true):l.find? p=some l[i]:=by
 have e:l.find? p=(l.take i++l.drop i).find? p:=by rw[List.take_append_drop]
 rw[e,List.find?_append,np,Option.none_or,List.drop_eq_getElem_cons hi,List.find?_cons_of_pos hp]
theorem Nk{g:G}{n:Int}(hR:R.length=15){k:Nat}{b:Int}{ba:OA}{bl bc:Nat}{ca:OA}{cl cc:Nat}{c:E} :
  (qc t g n R e++(oP k b ba bl bc ca cl cc++E.v c))[29]?=some (.int .i64 c.fu)/\(qc t g n R e++(oP k b ba bl bc ca cl cc++E.v c))[0]?=some (.pointer t)/\(qc t g n R e++(oP k b ba bl bc ca cl cc++E.v c))[24]?=some (.int .i64 b)/\
   (qc t g n R e++(oP k b ba bl bc ca cl cc++E.v c))[25]?=some (.slice ba bl bc)/\(qc t g n R e++(oP k b ba bl bc ca cl cc++E.v c))[27]?=some (.int .i64 c.place):=by
 obtain⟨_,_,_,_,_,_,_,_,_,_,_,_,_,_,_,rfl⟩:=UD hR;exact⟨rfl,rfl,rfl,rfl,rfl⟩
theorem xN(bs:LB):(ry bs).1.length<=16:=by
 unfold ry
 split
 ·exact Nat.zero_le _
 ·rename_i hl
  cases hd:Sk.dec 16 bs with
  | none=>exact Nat.zero_le _
  | some hs=>
   have h1:=Bi hs 0;have h2:=(Sk.Ft (n:=16) (b:=bs) (by have:¬bs.length≠512:=hl;omega) hd).1;show(Sk.gW 0 hs).length<=16;omega
theorem xO(T:TM)(g:G)(R:List Int)(k:Nat):(aM T g R k).1.cells.length<=16:=xN _
structure Fnd(h h':ab)(t:OA)(fb:Nat)(r:Option (uh×E)×Int)(ba:OA)(bl bc:Nat):Prop where
 lo:h.size<=fb
 ow:du h' fb
 e:(rd h' fb)[22]?=some (.int .i64 r.2)
 ino:(rd h' fb)[29]?=some (.int .i64 (match r.1 with
  | some x=>x.2.fu
  | none=>0))
 Xu:∀x,r.1=some x->(rd h' fb)[0]?=some (.pointer t)/\(rd h' fb)[24]?=some (.int .i64 x.1.block)/\(rd h' fb)[25]?=some (.slice ba bl bc)/\(rd h' fb)[27]?=some (.int .i64 x.2.place)/\Sl h' 1 ba bl bc (x.1.bytes.map bv) (λb=>h.size<=b/\b≠fb)
theorem Fnd.none{h h':ab}{t t':OA}{fb:Nat}{e n:Int}{g:G}{R:List Int}(hR:R.length=15)(lo:h.size<=fb)(ow:du h' fb)(r:rd h' fb=qc t' g n R e++qx):Fnd h h' t fb (none,e) none 0 0:=by
 refine⟨lo,ow,by rw[r];exact zr hR,?_,λx hx=>by cases hx⟩;rw[r];obtain⟨_,_,_,_,_,_,_,_,_,_,_,_,_,_,_,rfl⟩:=UD hR;rfl
theorem find_spec{T:TM}{i:Int}{s:Tm.ay}(gl:In.pq h)(dm:Ab n)(x:Tx h F t d T)
  (hK:∀h' fb ba bl bc,Fr No h h'->Fnd h h' t fb (k8 T (af n) i s) ba bl bc->K (.pointer (some ⟨fb,0,none⟩)) h'):C.pO t (af n).v i (mkStr s) h K:=by
 refine pO.ok (aC.intro λh2 n2=>aC.intro λh3 n3=>aC.intro λh4 n4=>aC.intro λh5 n5=>aC.intro λh6 n6=>bQ.intro n6.own (by rw[n6.rd];exact Nat.zero_lt_one) λh7 d7=>?_);have z2:=n2.size;have z3:=n3.size;have z4:=n4.size;have z5:=n5.size;have z6:=n6.size;have z7:=d7.size;have xl:∀b,F b->b<h.size:=λb hb=>x.lt hb;have gl1:=gl.lt;have F7:Fr No h h7:=(((((n2.fr.new n3).new n4).new n5).new n6).did d7 λhl=>by omega);have g7:rd h7 h.size=(af n).v:=(d7.at_ (by omega) (by omega)).trans ((n6.at_ (by omega)).trans ((n5.at_ (by omega)).trans ((n4.at_ (by omega)).trans ((n3.at_ (by omega)).trans n2.rd))));have s7:rd h7 h2.size=[.string (mkStr s)]:=(d7.at_ (by omega) (by omega)).trans ((n6.at_ (by omega)).trans ((n5.at_ (by omega)).trans ((n4.at_ (by omega)).trans n3.rd)));have q7:rd h7 h3.size=[.pointer none]:=(d7.at_ (by omega) (by omega)).trans ((n6.at_ (by omega)).trans ((n5.at_ (by omega)).trans n4.rd));have w7:du h7 h3.size:=d7.ow (n6.ow (n5.ow n4.own));have r7:rd h7 h4.size=qc none ⟨0,0,0,0,0⟩ 0 (List.replicate 15 0) 0++qx:=(d7.at_ (by omega) (by omega)).trans ((n6.at_ (by omega)).trans n5.rd);have o7:du h7 h4.size:=d7.ow (n6.ow n5.own);have p7:rd h7 h5.size=[.pointer (some ⟨h4.size,0,none⟩)]:=by rw[d7.rd,n6.rd];rfl
 refine⟨_,nt s7 rfl,Ch.DS λh8 f8=>⟨_,rfl,jj ?_⟩⟩;have z8:=f8.size;have F8:Fr No h h8:=F7.no f8;have q8:=(f8.rd (b:=h3.size) (by omega) λy=>y).trans q7;have r8:=(f8.rd (b:=h4.size) (by omega) λy=>y).trans r7;have p8:=(f8.rd (b:=h5.size) (by omega) λy=>y).trans p7;have w8:du h8 h3.size:=f8.own (by omega) (λy=>y) w7;have o8:du h8 h4.size:=f8.own (by omega) (λy=>y) o7;refine cs (λhn=>?_) λhn=>?_
 rotate_left
 ·-- no name
  have es:k8 T (af n) i s=(none,1):=by unfold k8;rw[if_pos hn]
  rw[es]at hK;refine⟨_,nt p8 rfl,os (HB o8 (by rw[r8];decide +revert) λh9 d9=>⟨_,nt ((d9.at_ (by omega) (by omega)).trans p8) rfl,bQ.intro (d9.ow w8) (by rw[d9.at_ (by omega) (by omega),q8];exact Nat.zero_lt_one) λh10 d10=>⟨_,nt (show rd h10 h3.size=[.pointer (some ⟨h4.size,0,none⟩)] by rw[d10.rd,d9.at_ (by omega) (by omega),q8];rfl) rfl,?_⟩⟩)⟩;have z9:=d9.size;refine hK h10 h4.size none 0 0 ((F8.did d9 λhl=>by omega).did d10 λhl=>by omega) (Fnd.none (t':=none) (g:=⟨0,0,0,0,0⟩) (n:=0) (R:=List.replicate 15 0) List.length_replicate (by omega) (d10.ow d9.own) ?_);rw[d10.at_ (by omega) (by omega),d9.rd,r8];exact uZ List.length_replicate
 refine⟨_,nt p8 rfl,(af n).v,rfl,aj ((f8.rd (by omega) λy=>y).trans g7),DT (gl.no F8) (x.no F8) (Iz dm) λcg f11=>⟨_,rfl,?_⟩⟩;have lR:=lK T (af n) i;have OL:=f11.size;have Jl:=(f11.rd (b:=h5.size) (by omega) λy=>y).trans p8;have Pu:=(f11.rd (b:=h4.size) (by omega) λy=>y).trans r8;have o11:du cg h4.size:=f11.own (by omega) (λy=>y) o8;refine⟨nt Jl rfl,os (ar.add o11 (iT lR) FN (by rw[Pu];decide +revert) λbb d12=>?_)⟩;have z12:=d12.size
 have wm:rd bb h4.size=qc t (af n) i (bD T (af n) i).1 (bD T (af n) i).2++qx:=by
  rw[d12.rd,Pu,put_eq _ _ _ (by rw[iT lR];decide +revert),iT lR];rfl
 have sU:=(d12.at_ (c:=h5.size) (by omega) (by omega)).trans Jl;refine⟨_,nt sU rfl,os ?_⟩;rw[show Addr.add ⟨h4.size,0,none⟩ 0=⟨h4.size,0,none⟩ from cI ..];refine zu λbU n13=>⟨_,rfl,λL rounds=>?_⟩;have z13:=n13.size;have xy:Fr No h bb:=(F8.no f11).did d12 λhl=>by omega
 have Xs:Fr No h bU:=xy.new n13;have Fb:=rA bU L;have Ly:=rB bU L;have d0:=ud bU L;have zb:=mG bU L;have F0:Fr No h (bN bU L):=Xs.no Fb;have fb:Fr No bb (bN bU L):=n13.fr.no Fb;have cb0:rd (bN bU L) bb.size=[.pointer (some ⟨h4.size,0,none⟩)]:=(Fb.rd (by omega) λy=>y).trans n13.rd;have rb0:=(fb.rd (b:=h4.size) (by omega) λy=>y).trans wm;have ob0:du (bN bU L) h4.size:=fb.own (by omega) (λy=>y) d12.own;have qb0:rd (bN bU L) h3.size=[.pointer none]:=(fb.rd (by omega) λy=>y).trans ((d12.at_ (by omega) (by omega)).trans ((f11.rd (by omega) λy=>y).trans q8));have wb0:du (bN bU L) h3.size:=fb.own (by omega) (λy=>y) (d12.ow (f11.own (by omega) (λy=>y) w8));have sb0:rd (bN bU L) h2.size=[.string (mkStr s)]:=(fb.rd (by omega) λy=>y).trans ((d12.at_ (by omega) (by omega)).trans ((f11.rd (by omega) λy=>y).trans ((f8.rd (by omega) λy=>y).trans s7)));have pb0:=(fb.rd (b:=h5.size) (by omega) λy=>y).trans sU;have glb:=gl.no F0;have xb:=x.no F0;have I0:It (bN bU L) F t d T (af n) i (bD T (af n) i).1 (bD T (af n) i).2 qx bb.size h4.size:=⟨glb,xb,cb0,ob0,rb0,λy=>by have:=xl _ y;omega,by omega,by omega⟩;generalize hbe:bN bU L=hb at *;show C.aD (.func (.yield (bU.size+1)) #[] #[]) (some ⟨bb.size,0,none⟩) hb _
 -- what is behind the loop
 have fin:∀(hh:ab) (e:Int),Fr (λb=>b=h4.size∨b=bU.size+1) hb hh->br hh (bU.size+1) L .ready none->rd hh h4.size=qc t (af n) i (bD T (af n) i).1 e++qx->du hh h4.size->k8 T (af n) i s=(none,if e=0 then 160 else e)->
   ∃(st1:LoopState) (iP:Option Code),br hh (bU.size+1) L st1 iP/\st1≠.busy/\vz iP (
    td hh (bU.size+1) L .exhausted iP λjv=>∃(q8:OA),cellOf jv ⟨h5.size,0,none⟩=some (.pointer q8)/\ae q8 λp7=>∃(n3:Int),cellOf jv (Addr.add (Addr.add p7 0) 22)=some (.int .i64 n3)/\
    bif(n3==0)then(∃(q9:OA),cellOf jv ⟨h5.size,0,none⟩=some (.pointer q9)/\ae q9 λp8=>bQ (Addr.add (Addr.add p8 0) 22) (.int .i64 160) jv λjG=>∃(Oz:OA),cellOf jG ⟨h5.size,0,none⟩=some (.pointer Oz)/\
     bQ ⟨h3.size,0,none⟩ (.pointer Oz) jG λsb=>qm bU.size sb λog=>∃(di:OA),cellOf og ⟨h3.size,0,none⟩=some (.pointer di)/\K (.pointer di) og)else(
     ∃(Ap:OA),cellOf jv ⟨h5.size,0,none⟩=some (.pointer Ap)/\bQ ⟨h3.size,0,none⟩ (.pointer Ap) jv λAl=>qm bU.size Al λnz=>∃(fA:OA),cellOf nz ⟨h3.size,0,none⟩=some (.pointer fA)/\K (.pointer fA) nz)) (
    td hh (bU.size+1) L .exhausted iP λsT=>qm bU.size sT λpj=>∃(jf:OA),cellOf pj ⟨h3.size,0,none⟩=some (.pointer jf)/\K (.pointer jf) pj) (λ_=>False):=by
  intro hh e f on r o es;have zf:=f.size;rw[es]at hK;refine⟨.ready,none,on,by decide,rC (gI (by omega) λjv t25=>?_)⟩;have z25:=t25.size;have f25:Fr (λb=>b=h4.size∨b=bU.size+1) hb jv:=f.trans t25.fr λb _ y=>.inr y;have q25:∀b,b<hb.size->b≠h4.size->b≠bU.size+1->rd jv b=rd hb b:=λb mQ h1 h2=>f25.rd mQ λy=>y.elim h1 h2;have w25:∀b,du hb b->b≠h4.size->b≠bU.size+1->du jv b:=λb o h1 h2=>f25.own o.lt (λy=>y.elim h1 h2) o;have Qd:=(t25.fr.rd (b:=h4.size) (by omega) (by omega)).trans r;have Zv:du jv h4.size:=t25.fr.own (by omega) (by omega) o;have p25:=(q25 h5.size (by omega) (by omega) (by omega)).trans pb0;have a25:=(q25 h3.size (by omega) (by omega) (by omega)).trans qb0;have b25:=w25 h3.size wb0 (by omega) (by omega)
  -- the pointer is told
  have out:∀(jG:ab) (e':Int),jG.size=jv.size->Fr (λb=>b=h4.size∨b=bU.size+1) hb jG->rd jG h4.size=qc t (af n) i (bD T (af n) i).1 e'++qx->du jG h4.size->rd jG h3.size=[.pointer none]->du jG h3.size->e'=(if e=0 then 160 else e)->
    bQ ⟨h3.size,0,none⟩ (.pointer (some ⟨h4.size,0,none⟩)) jG λsb=>qm bU.size sb λog=>∃(di:OA),cellOf og ⟨h3.size,0,none⟩=some (.pointer di)/\K (.pointer di) og:=λjG e' z26 f26 OO o26 a26 b26 he=>by
   refine bQ.intro b26 (by rw[a26];exact Nat.zero_lt_one) λsb d27=>iR ((d27.fr.same _ (by omega) (by omega)).trans ((f26.same _ (by omega) (by omega)).trans d0)) λog z28 f28=>?_;have z27:=d27.size;refine⟨_,nt (show rd og h3.size=[.pointer (some ⟨h4.size,0,none⟩)] by rw[f28.rd (by omega) (by omega),d27.rd,a26];rfl) rfl,?_⟩;rw[<-he]at hK;refine hK og h4.size none 0 0 (((F0.trans f26 λb hb y=>by omega).did d27 λhl=>by omega).trans f28 λb hb y=>by omega) (Fnd.none lR (by omega) (f28.own (by omega) (by omega) (d27.ow o26)) ((f28.rd (by omega) (by omega)).trans ((d27.at_ (by omega) (by omega)).trans OO)))
  refine⟨_,nt p25 rfl,os ⟨_,C5 Qd (zr lR),ce (λhe=>?_) λhe=>?_⟩⟩
  ·refine⟨_,nt p25 rfl,os (HB Zv (by rw[Qd,List.length_append,iT lR];omega) λjG d26=>⟨_,nt ((d26.at_ (by omega) (by omega)).trans p25) rfl,out jG 160 d26.size (f25.trans d26.fr λb _ y=>.inl y) ?_ d26.own ((d26.at_ (by omega) (by omega)).trans a25) (d26.ow b25) (by rw[if_pos he])⟩)⟩;rw[d26.rd,Qd];exact uZ lR
  ·exact⟨_,nt p25 rfl,out jv e rfl f25 Qd Zv a25 b25 (by rw[if_neg he])⟩
 by_cases HC:(bD T (af n) i).2=0
 rotate_left
 ·refine zv lR I0 HC (fin hb _ (Fr.refl _ _) Ly I0.r I0.ob ?_);rw[if_neg HC];unfold k8;rw[if_neg (by rw[hn];decide),if_pos HC]
 obtain⟨R0,R1⟩:=lL HC
 have Sq:k8 T (af n) i s=jx T (af n) (bD T (af n) i).1 s ((bD T (af n) i).1.getD 2 0/512).toNat 0:=by
  unfold k8;rw[if_neg (by rw[hn];decide),if_neg (λy=>y HC)]
 rw[HC]at I0;generalize hR:(bD T (af n) i).1=R at *;generalize hm:(R.getD 2 0/512).toNat=m at *;refine zt lR R0 R1 (λk hh=>It hh F t d T (af n) i R 0 qx bb.size h4.size/\Fr (λb=>b=h4.size∨b=bU.size+1) hb hh/\br hh (bU.size+1) L .ready none/\∃q,m=k+q/\k8 T (af n) i s=jx T (af n) R s q k)
  (λk hh J=>J.1) (λk hh h' ba bl bc ca cl cc J hk he f' r' o' lf=>?_) ⟨I0,Fr.refl _ _,Ly,m,by omega,Sq⟩ (λhh J=>?_) λk hh h' J hk he f' r' o'=>?_
 ·-- an index
  obtain⟨I,f,on,q,eq,es⟩:=J;rw[hm]at hk;obtain⟨q,rfl⟩:∃q',q=q'+1:=⟨q-1,by omega⟩;have zf:=f.size;have zf':=f'.size;have on':br h' (bU.size+1) L .ready none:=cH on f' (by omega);refine rounds (oP k (aM T (af n) R k).1.block ba bl bc ca cl cc) h' _ on' (ax.intro rfl yL rfl λiS n16=>⟨cH on' n16.fr λy=>y,gI (by have:=n16.size;omega) λeM t17=>?_⟩);have z16:=n16.size;have z17:=t17.size;have f17:Fr (λb=>b=h4.size∨b=bU.size+1) hb eM:=((f.trans f' λb _ y=>.inl y).new n16).trans t17.fr λb _ y=>.inr y;have v17:rd eM h'.size=oP k (aM T (af n) R k).1.block ba bl bc ca cl cc:=(t17.fr.rd (by omega) (by omega)).trans n16.rd;have Zw:Lf hh eM (aM T (af n) R k).1 ba bl bc ca cl cc:=(lf.fr n16.fr λ_ _ _ y=>y).fr t17.fr λb _ hb y=>by omega
  have lc:(aM T (af n) R k).1.cells.length=cl:=by
   have:=Zw.c.1;rw[bw E.v 3 _ (λx _=>E.len x)]at this;omega
  refine⟨_,_,_,bW v17 rfl,λj hx=>∃p:Nat,j=p/\p<=cl/\Fr No eM hx/\((aM T (af n) R k).1.cells.take p).find? (λc=>c.name==s)=none,λj _=>((cl:Int)-j).toNat,⟨0,rfl,Nat.zero_le _,Fr.refl _ _,rfl⟩,?_⟩;rintro j h18 ⟨p,rfl,hp,f18,np⟩;have Xt:=f18.size;have Zx:Fr (λb=>b=h4.size∨b=bU.size+1) hb h18:=f17.no f18;have Zy:br h18 (bU.size+1) L .busy none:=cH t17.on f18 λy=>y
  have I17:It eM F t d T (af n) i R 0 qx bb.size h4.size:=by
   have A:It h' F t d T (af n) i R 0 qx bb.size h4.size:=⟨I.gl.fr f' λb hb y=>by omega,I.x.fr f' λb hb y=>by have:=xl b hb;omega,(f'.rd I.ON (by omega)).trans I.cap,o',r',I.nf,I.b1,I.ne⟩;exact(A.no n16.fr).fr t17.fr (by omega) (by omega) (λb hb y=>by have:=xl b hb;omega) λb hb y=>by omega
  refine cd (λdh=>?_) λdh=>?_
  ·have vn:p<(aM T (af n) R k).1.cells.length:=(by omega);obtain⟨a,ea,ca⟩:=lV (Zw.fr f18 λ_ _ _ y=>y).c.cells vn;subst ea;refine⟨⟨by omega,dh⟩,os ⟨_,rfl,ca,ax.intro rfl (E.one _) rfl λgY n20=>⟨_,bW n20.rd rfl,_,nt (show rd gY h2.size=[.string (mkStr s)] from((Zx.new n20).rd (by omega) (by omega)).trans sb0) rfl,?_⟩⟩⟩;rw[toList_mkStr,toList_mkStr];have z20:=n20.size;have f20:Fr (λb=>b=h4.size∨b=bU.size+1) hb gY:=Zx.new n20;refine cs (λheq=>?_) λfB=>?_
   ·-- it is here
    have I20:=(I17.no f18).no n20.fr
    have ec:ib (aM T (af n) R k).1 s=some ((aM T (af n) R k).1.cells[p]):=by
     unfold ib;exact LJ vn np heq
    have es2:k8 T (af n) i s=(some ((aM T (af n) R k).1,(aM T (af n) R k).1.cells[p]),0):=by
     rw[es];unfold jx;rw[if_neg (λy=>y he),ec]
    rw[es2]at hK;have UG:=(f20.rd (b:=h5.size) (by omega) (by omega)).trans pb0;have v20:=(n20.at_ (by omega)).trans ((f18.rd (by omega) λy=>y).trans v17);refine⟨_,nt UG rfl,_,nt UG rfl,_,rfl,aj v20,_,rfl,aj n20.rd,os (ar.add I20.ob rfl yL (by rw[I20.r,List.length_append,iT lR];decide) λlx d21=>?_)⟩;have z21:=d21.size;refine⟨nt ((d21.at_ (by omega) (by omega)).trans UG) rfl,⟨rfl,aj ((d21.at_ (by omega) (by omega)).trans n20.rd)⟩,os (ar.add d21.own rfl (E.one _) (by rw[d21.rd,eE,I20.r,List.length_append,iT lR];decide) λjC d22=>?_)⟩;have z22:=d22.size
    have r22:rd jC h4.size=qc t (af n) i R 0++(oP k (aM T (af n) R k).1.block ba bl bc (some a) cl cc++E.v (aM T (af n) R k).1.cells[p]):=by
     rw[d22.rd,d21.rd,I20.r];exact UF lR rfl
    have MN:=(d22.at_ (c:=h3.size) (by omega) (by omega)).trans ((d21.at_ (c:=h3.size) (by omega) (by omega)).trans ((f20.rd (by omega) (by omega)).trans qb0));have w22:du jC h3.size:=d22.ow (d21.ow (f20.own (by omega) (by omega) wb0));refine⟨_,nt ((d22.at_ (by omega) (by omega)).trans ((d21.at_ (by omega) (by omega)).trans UG)) rfl,bQ.intro w22 (by rw[MN];exact Nat.zero_lt_one) λlu d23=>?_⟩;have z23:=d23.size;have Zz:br lu (bU.size+1) L .busy none:=cH (cH (cH (cH Zy n20.fr λy=>y) d21.fr (by omega)) d22.fr (by omega)) d23.fr (by omega);refine⟨Zz,.inr ⟨rfl,.done,some .ret,pV (pC Zz) L _ _,by decide,?_⟩⟩;have t24:=qI (pC Zz) L .done (some .ret);generalize cZ lu (bU.size+1) L .done (some .ret)=pz at t24;have z24:=t24.size;refine PN (gI (by omega) λjv t25=>?_);have z25:=t25.size;have f23:Fr (λb=>b=h4.size∨b=h3.size∨b=bU.size+1) hb jv:=((((f20.mono λb _ y=>by omega).trans d21.fr λb _ y=>by omega).trans d22.fr λb _ y=>by omega).trans d23.fr λb _ y=>by omega).trans (t24.fr.trans t25.fr λb _ y=>y) λb _ y=>by omega
    refine iR ((f23.same _ (by omega) (by omega)).trans d0) λjG z26 f26=>⟨_,nt (show rd jG h3.size=[.pointer (some ⟨h4.size,0,none⟩)] by rw[f26.rd (by omega) (by omega),t25.fr.rd (by omega) (by omega),t24.fr.rd (by omega) (by omega),d23.rd,MN];rfl) rfl,?_⟩;have F26:Fr No h jG:=(F0.trans f23 λb hb y=>by omega).trans f26 λb hb y=>by omega
    have OO:rd jG h4.size=qc t (af n) i R 0++(oP k (aM T (af n) R k).1.block ba bl bc (some a) cl cc++E.v (aM T (af n) R k).1.cells[p]):=by
     rw[f26.rd (by omega) (by omega),t25.fr.rd (by omega) (by omega),t24.fr.rd (by omega) (by omega),d23.at_ (by omega) (by omega)];exact r22
    have o26:du jG h4.size:=f26.own (by omega) (by omega) (t25.fr.own (by omega) (by omega) (t24.fr.own (by omega) (by omega) (d23.ow d22.own)));obtain⟨c29,c0,c24,c25,c27⟩:=Nk (t:=t) (g:=af n) (n:=i) (e:=0) lR (k:=k) (b:=(aM T (af n) R k).1.block) (ba:=ba) (bl:=bl) (bc:=bc) (ca:=some a) (cl:=cl) (cc:=cc) (c:=(aM T (af n) R k).1.cells[p]);refine hK jG h4.size ba bl bc F26 ⟨by omega,o26,by rw[OO];exact zr lR,by rw[OO];exact c29,λy hy=>?_⟩
    ·cases hy
     refine⟨by rw[OO];exact c0,by rw[OO];exact c24,by rw[OO];exact c25,by rw[OO];exact c27,?_⟩
     ·have S:=((((((Zw.s.fr f18 λ_ _ _ y=>y).fr n20.fr λ_ _ _ y=>y).mono (G:=bZ hh.size) λ_ y=>y).fr d21.fr λb _ hb y=>by have hb:hh.size<=b:=hb;omega).fr d22.fr λb _ hb y=>by have hb:hh.size<=b:=hb;omega).fr d23.fr λb _ hb y=>by have hb:hh.size<=b:=hb;omega);refine(((S.fr t24.fr λb _ hb y=>?_).fr t25.fr λb _ hb y=>?_).fr f26 λb _ hb y=>?_).mono λb hb=>?_
      ·have hb:hh.size<=b:=hb;omega
      ·have hb:hh.size<=b:=hb;omega
      ·have hb:hh.size<=b:=hb;omega
      ·have hb:hh.size<=b:=hb;show h.size<=b/\b≠h4.size;omega
   ·have OM:=xO T (af n) R k;rw[wrap_i64 (by omega) (by omega)];refine⟨⟨p+1,by omega,by omega,f18.no n20.fr,?_⟩,j8 dh⟩;rw[List.take_succ_eq_append_getElem vn,List.find?_append,np,Option.none_or,List.find?_cons_of_neg (by rw[fB];decide)];rfl
  ·have:p=cl:=(by omega);subst this;refine⟨Zy,.inl ⟨rfl,?_⟩⟩;have t24:=qI (pC Zy) L .ready none;generalize cZ h18 (bU.size+1) L .ready none=pz at t24;refine⟨(I17.no f18).fr t24.fr (by omega) (by omega) (λb hb y=>by have:=xl b hb;omega) λb hb y=>by omega,Zx.trans t24.fr λb _ y=>.inr y,t24.on,q,by omega,?_⟩;rw[es]
   conv=>lhs;unfold jx
   rw[List.take_of_length_le (by omega)]at np;rw[if_neg (λy=>y he),show ib (aM T (af n) R k).1 s=none from np]
 ·-- it is aes
  obtain⟨I,f,on,q,eq,es⟩:=J;rw[hm]at eq es;have:q=0:=by omega
  subst this;exact fin hh 0 f on I.r I.ob (by rw[es,if_pos rfl];rfl)
 ·-- an index that Yj not read
  obtain⟨I,f,on,q,eq,es⟩:=J;rw[hm]at hk;obtain⟨q,rfl⟩:∃q',q=q'+1:=⟨q-1,by omega⟩;have zf:=f.size;refine fin h' _ (f.trans f' λb _ y=>.inl y) (cH on f' (by omega)) r' o' ?_;rw[es,if_neg he];unfold jx;rw[if_pos he]
theorem jL{T:TM}{i:Int}{s:Tm.ay}(gl:In.pq h)(dm:Ab n)(x:Tx h F t d T)
  (hK:∀h',Fr No h h'->K (.tuple #[.int .i64 (findD T (af n) i s).1,.int .i64 (findD T (af n) i s).2]) h'):C.oz t (af n).v i (mkStr s) h K:=by
 refine oz.ok (aC.intro λh2 n2=>⟨(af n).v,rfl,aj n2.rd,find_spec (gl.no n2.fr) dm (x.no n2.fr) λh3 fb ba bl bc f3 A=>⟨_,rfl,os ⟨_,C5 rfl A.ino,os ⟨_,C5 rfl A.e,hK h3 (n2.fr.no f3)⟩⟩⟩⟩)
theorem Qe{T:TM}{g:G}{n:Int}{s:Tm.ay}{x:uh×E}(h:(k8 T g n s).1=some x):(k8 T g n s).2=0/\x.1.bytes.length=512:=by
 unfold k8 at h ⊢
 split at h
 ·cases h
 ·rename_i y;rw[if_neg y]
  split at h
  ·cases h
  ·rename_i z;rw[if_neg z];obtain⟨a,_,b,j,_,_,e,_⟩:=zn _ _ _ h;refine⟨a,?_⟩;rw[e]at b ⊢;have b:x.2∈(ry (bC T g (bD T g n).1 j).1).1:=b;show(bC T g (bD T g n).1 j).1.length=512;unfold ry at b
   split at b
   ·cases b
   ·rename_i w;exact Classical.byContradiction w
end Di
namespace Ch
open Hp
def strs(ps:List LB):LV:=ps.map λp=>.string (mkStr p)
end Ch
namespace Pa
open Hp W Sk Ch Rg
def dJ : ay->ay->List ay
 | [],cur=>if cur=[]then[]else[cur]
 | b::r,cur=>if b=47 then(if cur=[]then[]else[cur])++dJ r []else dJ r (cur++[b])
def pieces(s:ay):List ay:=dJ s []
theorem vM(r:ay):∀(w cur:ay),(∀b∈w,b≠47)->dJ (w++r) cur=dJ r (cur++w)
 | [],cur,_=>by rw[List.append_nil];rfl
 | b::w,cur,h=>by
  show(if b=47 then _ else dJ (w++r) (cur++[b]))=_;rw[if_neg (h b (by simp)),vM r w _ λx hx=>h x (by simp[hx]),List.append_assoc];rfl
theorem FP(r:ay):pieces (47::r)=pieces r:=rfl
theorem HD{w r:ay}(hw:w≠[])(h:∀ b ∈ w,b≠47)(hr:r=[]∨∃ r',r=47::r'):pieces (w++r)=w::pieces r:=by
 rw[pieces,vM r w [] h,List.nil_append]
 rcases hr with rfl|⟨r',rfl⟩
 ·show(if w=[]then[]else[w])=_;rw[if_neg hw];rfl
 ·show(if(47:UInt8)=47 then(if w=[]then[]else[w])++dJ r' []else _)=_;rw[if_pos rfl,if_neg hw];rfl
theorem extract_mk(s:ay)(i j:Nat):ByteArray.extract (mkStr s) i j=mkStr ((s.drop i).take (j-i)):=by
 apply ByteArray.ext;rw[ByteArray.data_extract];apply Array.ext';simp[mkStr,List.extract]
theorem size_mk(s:ay):(mkStr s).size=s.length:=rfl
theorem pY{k:KT}(y:mj P l args h k):oV P (.func (.yield l) #[] #[]) args h k:=y
theorem uX{s:ay}(hl:s.length<=9223372036854775806)(J:List ay->ab->Prop)(hc:∀ pre hh,J pre hh->rd hh cb=[.string (mkStr s)])
  (hY:∀pre x rest hh,J pre hh->pieces s=pre++x::rest->mj Tryz.prog l [.string (mkStr x)] hh λv h'=>(v = .bool true/\J (pre++[x]) h')∨(v = .bool false/\K (.tuple #[]) h'))
  (h0:J [] h) (hK:∀hh,J (pieces s) hh->K (.tuple #[]) hh):C.dS (.func (.yield l) #[] #[]) (some ⟨cb,0,none⟩) h K:=by
 refine dS.ok ⟨λi hh=>0<=i/\i<=s.length/\∃pre,J pre hh/\pieces s=pre++pieces (s.drop i.toNat),λi _=>(s.length-i).toNat,⟨by omega,by omega,[],h0,rfl⟩,?_⟩;rintro i h2 ⟨i0,i1,pre,hJ,hp⟩;have C2:cellOf h2 ⟨cb,0,none⟩=some (.string (mkStr s)):=nt (hc pre h2 hJ) rfl;refine os ⟨_,C2,?_⟩;rw[size_mk];refine cd (λhi=>?_) λhi=>?_
 ·have oK:i.toNat<s.length:=by omega
  have ed:s.drop i.toNat=s[i.toNat]::s.drop (i.toNat+1):=List.drop_eq_getElem_cons oK;refine os ⟨_,C2,⟨i0,by rw[size_mk];exact hi⟩,s[i.toNat],by rw[toList_mkStr,List.getElem?_eq_getElem oK],ce (λhb=>?_) λhb=>?_⟩
  ·have hb:s[i.toNat]=47:=UInt8.toNat_inj.mp (show(s[i.toNat]).toNat=47 by omega);rw[wrap_i64 (by omega) (by omega)];refine⟨⟨by omega,by omega,pre,hJ,?_⟩,by show((s.length:Int)-(i+1)).toNat<((s.length:Int)-i).toNat;omega⟩;rw[hp,ed,hb,FP,show(i+1).toNat=i.toNat+1 by omega]
  ·have hb:s[i.toNat]≠47:=λe=>by rw[e]at hb;exact hb rfl
   refine⟨λe hh=>h2=hh/\i<=e/\e<=s.length/\∀b∈(s.drop i.toNat).take (e.toNat-i.toNat),b≠47,λe _=>(s.length-e).toNat,⟨rfl,by omega,by omega,λb hb=>by rw[Nat.sub_self,List.take_zero]at hb;cases hb⟩,?_⟩;rintro e _ ⟨rfl,e0,e1,hw⟩
   -- the piece is handed over
   have fin:i<e->(s.drop e.toNat=[]∨∃r',s.drop e.toNat=47::r')->dS.k1 (.func (.yield l) #[] #[]) (some ⟨cb,0,none⟩) i h2 (λi hh=>0<=i/\i<=s.length/\∃pre,J pre hh/\pieces s=pre++pieces (s.drop i.toNat)) (λi _=>(s.length-i).toNat) e h2 K:=by
    intro dh hr;refine os ⟨_,C2,⟨i0,e0,by rw[size_mk];exact e1⟩,?_⟩;rw[extract_mk]
    have RE:s.drop i.toNat=(s.drop i.toNat).take (e.toNat-i.toNat)++s.drop e.toNat:=by
     conv=>lhs;rw[<-List.take_append_drop (e.toNat-i.toNat) (s.drop i.toNat)]
     rw[List.drop_drop,show i.toNat+(e.toNat-i.toNat)=e.toNat by omega]
    have fB:(s.drop i.toNat).take (e.toNat-i.toNat)≠[]:=λx=>by
     have:=congrArg List.length x;rw[List.length_take,List.length_drop,List.length_nil]at this;omega
    have hp2:pieces s=pre++(s.drop i.toNat).take (e.toNat-i.toNat)::pieces (s.drop e.toNat):=by
     rw[hp];conv=>lhs;rw[RE];rw[HD fB hw hr]
    refine pY (ub (hY pre _ _ h2 hJ hp2) λv h5 hv=>?_)
    rcases hv with⟨rfl,hJ5⟩|⟨rfl,hk⟩
    ·exact⟨true,rfl,jj (ct rfl ⟨⟨by omega,e1,_,hJ5,by rw[hp2,List.append_assoc];rfl⟩,by show((s.length:Int)-e).toNat<((s.length:Int)-i).toNat;omega⟩)⟩
    ·exact⟨false,rfl,jj (cf rfl hk)⟩
   refine os ⟨_,C2,?_⟩;rw[size_mk];refine cd (λhe=>?_) λhe=>?_
   ·have he':e.toNat<s.length:=(by omega);refine os ⟨_,C2,⟨by omega,by rw[size_mk];exact he⟩,s[e.toNat],by rw[toList_mkStr,List.getElem?_eq_getElem he'],cn (λhc=>?_) λhc=>?_⟩
    ·have hc:s[e.toNat]≠47:=λx=>by rw[x]at hc;exact hc rfl
     rw[wrap_i64 (by omega) (by omega)];refine⟨⟨rfl,by omega,by omega,λb hb=>?_⟩,by show((s.length:Int)-(e+1)).toNat<((s.length:Int)-e).toNat;omega⟩;rw[show(e+1).toNat-i.toNat=(e.toNat-i.toNat)+1 by omega,List.take_succ_eq_append_getElem (by rw[List.length_drop];omega)]at hb
     rcases List.mem_append.mp hb with hb|hb
     ·exact hw b hb
     ·rw[List.mem_singleton.mp hb,List.getElem_drop];have:i.toNat+(e.toNat-i.toNat)=e.toNat:=(by omega);simp only[this];exact hc
    ·have hc:s[e.toNat]=47:=UInt8.toNat_inj.mp (show(s[e.toNat]).toNat=47 by omega)
     have dh:i<e:=by
      rcases Int.lt_or_le i e with h|h
      ·exact h
      ·have:e.toNat=i.toNat:=(by omega);simp only[this]at hc;exact absurd hc hb
     exact fin dh (.inr ⟨s.drop (e.toNat+1),by rw[List.drop_eq_getElem_cons he',hc]⟩)
   ·exact fin (by omega) (.inl (List.drop_of_length_le (by omega)))
 ·rw[List.drop_of_length_le (by omega)]at hp;rw[show pieces []=[] from rfl,List.append_nil]at hp;rw[<-hp]at hJ;exact hK h2 hJ
def dG(ps:List ay):List ay:=ps.filter λp=>!(p == [46])
def comps(s:ay):List ay:=dG (pieces s)
def fits(cs:List ay):Bool:=cs.all (λp=>decide (p.length<=27)) && decide (cs.length<=32)
def jV(s:ay):Option (List ay):=if s.length<=1024 then(if fits (comps s)=true then some (comps s)else none)else none
theorem ix(ps:List ay)(x:ay):dG (ps++[x])=if x=[46]then dG ps else dG ps++[x]:=by
 rw[dG,List.filter_append]
 by_cases h:x=[46]
 ·rw[if_pos h,h];show _++[]=_;rw[List.append_nil,dG]
 ·rw[if_neg h,List.filter_cons_of_pos (by simp[h])];rfl
theorem xP{cs ds:List ay}(h:fits cs=false):fits (cs++ds)=false:=by
 cases e:fits (cs++ds)with
 | false=>rfl
 | true=>
  rw[fits,Bool.and_eq_true,List.all_append,Bool.and_eq_true,decide_eq_true_eq,List.length_append]at e;rw[fits,e.1.1,decide_eq_true (by omega)]at h;cases h
theorem HE(pre:List ay)(x:ay)(rest:List ay):dG (pre++x::rest)=dG (pre++[x])++dG rest:=by
 rw[show pre++x::rest=(pre++[x])++rest by simp,dG,List.filter_append];rfl
theorem DU(c:UInt8):∀l:LB,-1<=lO l c/\decide (lO l c>=0)=l.contains c
 | []=>⟨Int.le_refl _,rfl⟩
 | b::r=>by
  obtain⟨h1,h2⟩:=DU c r;show -1<=(if b==c then(0:Int)else if lO r c == -1 then -1 else lO r c+1)/\decide ((if b==c then(0:Int)else if lO r c == -1 then -1 else lO r c+1)>=0)=_;rw[List.contains_cons]
  cases hb:b==c with
  | true=>
   rw[if_pos rfl];have:c==b:=(by rw[beq_iff_eq]at hb ⊢;exact hb.symm);rw[this];exact⟨by decide,rfl⟩
  | false=>
   have hn:(c==b)=false:=by
    rw[beq_eq_false_iff_ne]at hb ⊢;exact λe=>hb e.symm
   rw[if_neg (by simp),hn,Bool.false_or,<-h2]
   cases h:lO r c == -1 with
   | true=>
    rw[if_pos rfl];rw[beq_iff_eq]at h;rw[h];decide
   | false=>
    rw[if_neg (by simp)];rw[beq_eq_false_iff_ne]at h;refine⟨by omega,?_⟩;rw[Bool.eq_iff_iff,decide_eq_true_eq,decide_eq_true_eq];omega
def gy(s:ay)(JO:Bool):Bool:=(s == []) || (s.contains 0 || (JO && !(s.head? == some 47)))
theorem wD{s:ay}{p:Bool}(hK:K (.bool (gy s p)) h):C.jk (mkStr s) p h K:=by
 refine jk.ok ?_;unfold jk;rw[toList_mkStr,toList_mkStr];unfold gy at hK
 cases h0:(s == [])with
 | true=>rw[h0,Bool.true_or]at hK;exact hK
 | false=>
  rw[h0,Bool.false_or]at hK;refine pZ (c:=0) ⟨_,rfl,?_⟩;rw[(DU 0 s).2]
  cases hc:s.contains 0 with
  | true=>rw[hc,Bool.true_or]at hK;exact hK
  | false=>
   rw[hc,Bool.false_or]at hK
   cases p with
   | false=>exact hK
   | true=>
    cases s with
    | nil=>cases h0
    | cons b r=>
     refine⟨⟨by decide,by rw[size_mk];show(0:Int)<((r.length+1:Nat):Int);omega⟩,b,rfl,?_⟩
     have e:(((UInt8.toNat b:Nat):Int) != 47) = !((b::r).head? == some 47):=by
      show _ = !(some b==some 47);rw[Bool.eq_iff_iff,bne_iff_ne,Bool.not_eq_true',beq_eq_false_iff_ne]
      constructor
      ·intro h e;rw[Option.some.inj e]at h;exact h rfl
      ·intro h e;exact h (congrArg some (UInt8.toNat_inj.mp (show b.toNat=47 by omega)))
     rw[e];exact hK
structure Bs(h:ab)(s:ay)(hh:ab):Prop where
 fr:Fr No h hh
 size:h.size+6<=hh.size
 o1:du hh h.size
 l1:(rd hh h.size).length=1
 o2:du hh (h.size+1)
 l2:(rd hh (h.size+1)).length=1
 o3:du hh (h.size+2)
 l3:(rd hh (h.size+2)).length=1
 r4:rd hh (h.size+3)=[.string (mkStr s)]
 d:hh[h.size+4]?=some (.deferred (some []))
theorem Bs.step{s:ay}(b:Bs h s hh)(f:Fr F hh Xp)(hF:∀ x,F x->x=h.size+5∨h.size+6<=x):Bs h s Xp:=by
 have hs:=b.size;have hs':=f.size;have n:∀k,k<=4->¬F (h.size+k):=λk hk x=>by have:=hF _ x;omega
 exact⟨b.fr.trans f λx hx e=>by have:=hF x e;omega,by omega,f.own b.o1.lt (n 0 (by omega)) b.o1,by rw[f.rd b.o1.lt (n 0 (by omega))];exact b.l1,f.own b.o2.lt (n 1 (by omega)) b.o2,by rw[f.rd b.o2.lt (n 1 (by omega))];exact b.l2,
  f.own b.o3.lt (n 2 (by omega)) b.o3,by rw[f.rd b.o3.lt (n 2 (by omega))];exact b.l3,(f.rd (by omega) (n 3 (by omega))).trans b.r4,(f.same _ (by omega) (n 4 (by omega))).trans b.d⟩
theorem Bs.wrote{s:ay}{v:Value}(b:Bs h s hh)(hk:k<=2)(d:yw (h.size+k) hh Xp ((rd hh (h.size+k)).set 0 v)):Bs h s Xp/\rd Xp (h.size+k)=[v]:=by
 have hs:=b.size;have hz:=d.size
 have lk:(rd hh (h.size+k)).length=1:=by
  have:k=0∨k=1∨k=2:=by omega
  rcases this with rfl|rfl|rfl
  ·exact b.l1
  ·exact b.l2
  ·exact b.l3
 have e:rd Xp (h.size+k)=[v]:=by
  rw[d.rd]
  match rd hh (h.size+k),lk with
  | [_],_=>rfl
 have len:∀j,j<=2->(rd hh (h.size+j)).length=1->(rd Xp (h.size+j)).length=1:=λj hj hl=>by
  by_cases hjk:j=k
  ·subst hjk;rw[e];rfl
  ·rw[d.at_ (by omega) (by omega)];exact hl
 exact⟨⟨b.fr.did d λx=>by omega,by omega,d.ow b.o1,len 0 (by omega) b.l1,d.ow b.o2,len 1 (by omega) b.l2,d.ow b.o3,len 2 (by omega) b.l3,(d.at_ (by omega) (by omega)).trans b.r4,(d.fr.same _ (by omega) (by omega)).trans b.d⟩,e⟩
structure Js(h:ab)(s:ay)(R:Loop)(pre:List ay)(hh:ab):Prop where
 b:Bs h s hh
 on:br hh (h.size+5) R .ready none
 fit:fits (dG pre)=true
 l:∃a c,rd hh (h.size+2)=[.slice a (dG pre).length c]/\Sl hh 1 a (dG pre).length c (strs (dG pre)) (bZ (h.size+6))
theorem oI{s:ay}(hl:s.length<=9223372036854775806)(hN:jV s=none->∀ h',Fr No h h'->K (.tuple #[.slice none 0 0,.int .i64 130]) h')
  (hK:∀cs,jV s=some cs->∀a c h',Fr No h h'->Sl h' 1 a cs.length c (strs cs) (bZ h.size)->K (.tuple #[.slice a cs.length c,.int .i64 0]) h'):C.fH (mkStr s) 1024 h K:=by
 refine fH.ok (aC.intro λh2 n2=>aC.intro λh3 n3=>?_);have s2:=n2.size;have s3:=n3.size;rw[size_mk,s2];have o1:du h3 h.size:=n3.ow n2.own;have r1:rd h3 h.size=[.slice none 0 0]:=(n3.at_ (by omega)).trans n2.rd;have o2:du h3 (h.size+1):=by have:=n3.own;rw[s2]at this;exact this
 have r2:rd h3 (h.size+1)=[.int .i64 0]:=by have:=n3.rd;rw[s2]at this;exact this
 refine cd (λRF=>?_) λRF=>?_
 ·refine bQ.intro o1 (by rw[r1];exact Nat.one_pos) λh4 d4=>bQ.intro (d4.ow o2) (by rw[d4.at_ (by omega) (by omega),r2];exact Nat.one_pos) λh5 d5=>?_;have e1:rd h5 h.size=[.slice none 0 0]:=by rw[d5.at_ (by have:=d4.size;omega) (by omega),d4.rd,r1];rfl
  have e2:rd h5 (h.size+1)=[.int .i64 130]:=by rw[d5.rd,d4.at_ (by omega) (by omega),r2];rfl
  refine⟨_,_,_,nt e1 rfl,_,nt e2 rfl,hN (by rw[jV,if_neg (by omega)]) h5 (((n2.fr.new n3).did d4 λx=>by omega).did d5 λx=>by omega)⟩
 ·refine aC.intro λh6 n6=>jR.ok (aC.intro λh7 n7=>⟨_,rfl,λR rounds=>?_⟩);have s6:=n6.size;have s7:=n7.size;have e3:h3.size=h.size+2:=by omega
  have e6:h6.size=h.size+3:=by omega
  have e7:h7.size=h.size+4:=by omega
  rw[e7]at rounds ⊢;rw[e3]at rounds ⊢;rw[e6];have F7:Fr No h h7:=((n2.fr.new n3).new n6).new n7;have q:∀b,b<h3.size->rd h7 b=rd h3 b:=λb hb=>(n7.at_ (by omega)).trans (n6.at_ hb);have Fb:=rA h7 R;have Ly:=rB h7 R;have d0:=ud h7 R;rw[e7]at Ly d0;have r6:rd h7 (h.size+2)=[.slice none 0 0]:=by have:=n6.rd;rw[e3]at this;exact(n7.at_ (by omega)).trans this
  have o6:du h7 (h.size+2):=by have:=n6.own;rw[e3]at this;exact n7.ow this
  have r7:rd h7 (h.size+3)=[.string (mkStr s)]:=by have:=n7.rd;rw[e6]at this;exact this
  have fb:∀b,b<h7.size->rd (bN h7 R) b=rd h7 b:=λb hb=>Fb.rd hb λx=>x
  have B0:Bs h s (bN h7 R):=by
   refine⟨F7.no Fb,by rw[mG];omega,Fb.own (by omega) (λx=>x) (n7.ow (n6.ow o1)),?_,Fb.own (by omega) (λx=>x) (n7.ow (n6.ow o2)),?_,Fb.own (by omega) (λx=>x) o6,?_,?_,d0⟩
   ·rw[fb _ (by omega),q _ (by omega),r1];rfl
   ·rw[fb _ (by omega),q _ (by omega),r2];rfl
   ·rw[fb _ (by omega),r6];rfl
   ·rw[fb _ (by omega)];exact r7
  have J0:Js h s R [] (bN h7 R):=⟨B0,Ly,rfl,none,0,by rw[fb _ (by omega),r6];rfl,Sl.nil _ _ _⟩;show C.dS (.func (.yield (h.size+4+1)) #[] #[]) (some ⟨h.size+3,0,none⟩) (bN h7 R) _;refine uX (s:=s) hl (Js h s R) (λpre hh J=>J.b.r4) (λpre x rest hh J hp=>?_) J0 λhh J=>?_
  ·-- a round
   have B:=J.b;have hs:=B.size;refine rounds (mkStr x) hh _ J.on ⟨J.on,gI (by omega) λh9 t9=>?_⟩;have z9:=t9.size;have B9:=B.step t9.fr λb e=>Or.inl e;obtain⟨a,c,r3,S3⟩:=J.l;have r3':rd h9 (h.size+2)=[.slice a (dG pre).length c]:=(t9.fr.rd (by omega) (by omega)).trans r3;have S9:Sl h9 1 a (dG pre).length c (strs (dG pre)) (bZ (h.size+6)):=S3.fr t9.fr λb _ hb e=>by have hb:h.size+6<=b:=hb;omega
   have IK:=J.fit
   -- the round says that it is too much
   have stop:fits (dG (pre++[x]))=false->∀{K':HP},(∀cg,Bs h s cg->br cg (h.size+5) R .busy none->rd cg h.size=[.slice none 0 0]->rd cg (h.size+1)=[.int .i64 130]->K' cg)->
     bQ ⟨h.size,0,none⟩ (.slice none 0 0) h9 λh10=>bQ ⟨h.size+1,0,none⟩ (.int .i64 130) h10 K':=by
    intro _ K' hk;refine bQ.intro B9.o1 (by rw[B9.l1];exact Nat.one_pos) λh10 d10=>?_;obtain⟨B10,DV⟩:=B9.wrote (k:=0) (by omega) d10;refine bQ.intro B10.o2 (by rw[B10.l2];exact Nat.one_pos) λcg d11=>?_;obtain⟨RZ,e11⟩:=B10.wrote (k:=1) (by omega) d11;exact hk cg RZ (cH (cH t9.on d10.fr (by omega)) d11.fr (by omega)) ((d11.at_ (by have:=B10.size;omega) (by omega)).trans DV) e11
   -- the loop is left
   have leave:fits (dG (pre++[x]))=false->∀cg,Bs h s cg->br cg (h.size+5) R .busy none->rd cg h.size=[.slice none 0 0]->rd cg (h.size+1)=[.int .i64 130]->
     td (cZ cg (h.size+5) R .done (some .ret)) (h.size+5) R .exhausted (some .ret) λjC=>qm (h.size+4) jC λlu=>
      ∃(G4:OA) (G5:Nat) (G6:Nat),cellOf lu ⟨h.size,0,none⟩=some (.slice G4 G5 G6)/\
      ∃(fA:Int),cellOf lu ⟨h.size+1,0,none⟩=some (.int .i64 fA)/\K (.tuple #[.slice G4 G5 G6,.int .i64 fA]) lu:=by
    intro hf cg RZ Nl e1 e2;have OL:=RZ.size;have t12:=qI (show h.size+5<cg.size by omega) R .done (some .ret);have z12:=t12.size;have B12:=RZ.step t12.fr λb e=>Or.inl e;refine gI (by omega) λjC t22=>?_;have z22:=t22.size;have B22:=B12.step t22.fr λb e=>Or.inl e;refine iR B22.d λlu z23 f23=>?_;have e1':rd lu h.size=[.slice none 0 0]:=(f23.rd (by omega) (by omega)).trans ((t22.fr.rd (by omega) (by omega)).trans ((t12.fr.rd (by omega) (by omega)).trans e1));have e2':rd lu (h.size+1)=[.int .i64 130]:=(f23.rd (by omega) (by omega)).trans ((t22.fr.rd (by omega) (by omega)).trans ((t12.fr.rd (by omega) (by omega)).trans e2));refine⟨_,_,_,nt e1' rfl,_,nt e2' rfl,hN ?_ lu (B22.fr.trans f23 λb hb e=>by omega)⟩;have hc:comps s=dG (pre++[x])++dG rest:=(by rw[comps,hp,HE]);rw[jV,hc,xP hf]
    split <;> rfl
   rw[toList_mkStr,toList_mkStr,size_mk]
   cases hx:(x == [46])with
   | true=>
    rw[beq_iff_eq]at hx;have t10:=qI (show h.size+5<h9.size by omega) R .ready none;refine⟨t9.on,.inl ⟨rfl,B9.step t10.fr λb e=>Or.inl e,t10.on,?_,?_⟩⟩
    ·rw[ix,if_pos hx];exact IK
    ·rw[ix,if_pos hx];exact⟨a,c,(t10.fr.rd (by omega) (by omega)).trans r3',S9.fr t10.fr λb _ hb e=>by have hb:h.size+6<=b:=hb;omega⟩
   | false=>
    have Mq:x≠[46]:=λe=>by rw[e]at hx;cases hx
    refine cd (λhg=>?_) λhg=>?_
    ·have hf:fits (dG (pre++[x]))=false:=by
      rw[ix,if_neg Mq,fits,List.all_append,List.all_cons,decide_eq_false (by omega)];simp
     exact stop hf λcg RZ Nl e1 e2=>⟨Nl,.inr ⟨rfl,.done,some .ret,pV (by have:=RZ.size;omega) R _ _,by decide,leave hf cg RZ Nl e1 e2⟩⟩
    ·refine⟨_,_,_,nt r3' rfl,ce (λpj=>?_) λpj=>?_⟩
     ·have hf:fits (dG (pre++[x]))=false:=by
       rw[ix,if_neg Mq,fits,decide_eq_false (by rw[List.length_append,List.length_singleton];omega),Bool.and_false]
      exact stop hf λcg RZ Nl e1 e2=>⟨Nl,.inr ⟨rfl,.done,some .ret,pV (by have:=RZ.size;omega) R _ _,by decide,leave hf cg RZ Nl e1 e2⟩⟩
     ·have hle:(dG pre).length<=32:=by
       rw[fits,Bool.and_eq_true,decide_eq_true_eq]at IK;exact IK.2
      refine⟨_,_,_,nt r3' rfl,aC.intro λgh n14=>⟨strs [x],rfl,aj n14.rd,by intro v hv;rw[List.mem_singleton.mp hv];rfl,?_⟩⟩;have LI:=n14.size;have S14:=S9.fr n14.fr λ_ _ _ x=>x;have B14:=B9.step n14.fr λb e=>e.elim;refine aT S14 rfl rfl (by have b16:tN.bytes<=16:=(by decide);have:=Nat.mul_le_mul (show(dG pre).length+1<=40 from(by omega)) b16;exact Nat.le_trans this (by decide)) (by omega) λa' c' fg f15 S15=>?_;have B15:=B14.step f15 λb e=>Or.inr e;have on15:=cH (cH t9.on n14.fr λx=>x) f15 λe=>by have e:h.size+6<=h.size+5:=e;omega
      refine bQ.intro B15.o3 (by rw[B15.l3];exact Nat.one_pos) λiS d16=>?_;obtain⟨B16,e16⟩:=B15.wrote (k:=2) (by omega) d16;have z16:=B16.size;have t17:=qI (show h.size+5<iS.size by omega) R .ready none;have ed:dG (pre++[x])=dG pre++[x]:=(by rw[ix,if_neg Mq]);refine⟨cH on15 d16.fr (by omega),.inl ⟨rfl,B16.step t17.fr λb e=>Or.inl e,t17.on,?_,a',c',?_,?_⟩⟩
      ·rw[ed,fits,List.all_append,List.all_cons,decide_eq_true (show x.length<=27 by omega),decide_eq_true (show(dG pre++[x]).length<=32 by rw[List.length_append,List.length_singleton];omega)];rw[fits,Bool.and_eq_true]at IK;rw[IK.1];rfl
      ·rw[ed,List.length_append,List.length_singleton];exact(t17.fr.rd (by omega) (by omega)).trans e16
      ·rw[ed,List.length_append,List.length_singleton]
       have S15:Sl fg 1 a' ((dG pre).length+1) c' (strs (dG pre++[x])) (λb=>bZ (h.size+6) b∨gh.size<=b):=by
        rw[strs,List.map_append];exact S15
       have S15':=S15.mono (G:=bZ (h.size+6)) λb hb=>by
        rcases hb with hb|hb
        ·exact hb
        ·show h.size+6<=b;omega
       exact(S15'.fr d16.fr λb _ hb e=>by have hb:h.size+6<=b:=hb;omega).fr t17.fr λb _ hb e=>by have hb:h.size+6<=b:=hb;omega
  ·-- all have acy
   have B:=J.b;have hs:=B.size;obtain⟨a,c,r3,S3⟩:=J.l;refine⟨.ready,none,J.on,by decide,?_⟩;refine rC (gI (by omega) λh18 t18=>?_);have Xt:=t18.size;have B18:=B.step t18.fr λb e=>Or.inl e;have S18:Sl h18 1 a (comps s).length c (strs (comps s)) (bZ (h.size+6)):=S3.fr t18.fr λb _ hb e=>by have hb:h.size+6<=b:=hb;omega
   refine⟨_,_,_,nt ((t18.fr.rd (by omega) (by omega)).trans r3) rfl,?_⟩;refine bQ.intro B18.o1 (by rw[B18.l1];exact Nat.one_pos) λfO d19=>?_;obtain⟨B19,e19⟩:=B18.wrote (k:=0) (by omega) d19;refine bQ.intro B19.o2 (by rw[B19.l2];exact Nat.one_pos) λgY d20=>?_;obtain⟨B20,e20⟩:=B19.wrote (k:=1) (by omega) d20;have z19:=d19.size;have z20:=d20.size;refine iR B20.d λlx z21 f21=>?_;have e1:rd lx h.size=[.slice a (comps s).length c]:=(f21.rd (by omega) (by omega)).trans ((d20.at_ (by omega) (by omega)).trans e19);have e2:rd lx (h.size+1)=[.int .i64 0]:=(f21.rd (by omega) (by omega)).trans e20;refine⟨_,_,_,nt e1 rfl,_,nt e2 rfl,?_⟩;have zw:∀b,b<h18.size->bZ (h.size+6) b->¬b=h.size/\¬b=h.size+1/\¬b=h.size+4:=λb _ hb=>by have hb:h.size+6<=b:=hb;omega
   refine hK (comps s) ?_ a c lx (B20.fr.trans f21 λb hb e=>by omega) ?_
   ·rw[jV,if_pos (by omega),if_pos (show fits (comps s)=true from J.fit)]
   ·exact(((S18.fr d19.fr λb hb h e=>by have h:_<=b:=h;omega).fr d20.fr λb hb h e=>by have h:_<=b:=h;omega).fr f21 λb hb h e=>by have h:_<=b:=h;omega).mono λb hb=>by have hb:h.size+6<=b:=hb;show h.size<=b;omega
def aH(s:ay)(JO:Bool):List ay×Int:=if gy s JO=true then([],1)else match jV s with|none=>([],130)|some cs=>(cs,0)
def Ls(h0 h:ab)(ps:List ay)(a:OA)(l c:Nat):Prop:=l=ps.length/\Sl h 1 a l c (strs ps) (bZ h0.size)
theorem nT(h0 h:ab):Ls h0 h [] none 0 0:=⟨rfl,Sl.nil _ _ _⟩
theorem JP{s:ay}(hl:s.length<=9223372036854775806)(hK:∀ a l c h',Fr No h h'->Ls h h' (aH s true).1 a l c->K (.tuple #[.slice a l c,.int .i64 (aH s true).2]) h'):C.mr (mkStr s) h K:=by
 refine mr.ok (wD ⟨_,rfl,?_⟩)
 cases hw:gy s true with
 | true=>
  have e:aH s true=([],1):=by rw[aH,if_pos hw]
  rw[e]at hK;exact hK none 0 0 h (Fr.refl _ _) (nT _ _)
 | false=>
  refine oI hl (λhc h' f=>?_) λcs hc a c h' f S=>?_
  ·have e:aH s true=([],130):=(by rw[aH,if_neg (by rw[hw];simp),hc]);rw[e]at hK;exact⟨_,_,_,_,rfl,hK none 0 0 h' f (nT _ _)⟩
  ·have e:aH s true=(cs,0):=(by rw[aH,if_neg (by rw[hw];simp),hc]);rw[e]at hK;exact⟨_,_,_,_,rfl,hK a _ c h' f ⟨rfl,S⟩⟩
theorem Nn{s:ay}(hl:s.length<=9223372036854775806)(hK:∀ a l c h',Fr No h h'->Ls h h' (aH s false).1 a l c ->
  K (.tuple #[.slice a l c,.bool (decide ((aH s false).2=0) && s.head? == some 47),.int .i64 (aH s false).2]) h'):C.nK (mkStr s) h K:=by
 refine nK.ok (wD ⟨_,rfl,?_⟩)
 cases hw:gy s false with
 | true=>
  have e:aH s false=([],1):=by rw[aH,if_pos hw]
  rw[e]at hK;exact hK none 0 0 h (Fr.refl _ _) (nT _ _)
 | false=>
  refine oI hl (λhc h' f=>?_) λcs hc a c h' f S=>?_
  ·have e:aH s false=([],130):=(by rw[aH,if_neg (by rw[hw];simp),hc]);rw[e]at hK;exact⟨_,_,_,_,rfl,ct rfl (hK none 0 0 h' f (nT _ _))⟩
  ·have e:aH s false=(cs,0):=(by rw[aH,if_neg (by rw[hw];simp),hc]);rw[e]at hK
   cases s with
   | nil=>rw[show gy [] false=true from rfl]at hw;cases hw
   | cons b r=>
    refine⟨_,_,_,_,rfl,cf rfl ⟨⟨by decide,by rw[size_mk];show(0:Int)<((r.length+1:Nat):Int);omega⟩,b,by rw[toList_mkStr];rfl,?_⟩⟩
    have e2:(((UInt8.toNat b:Nat):Int)==47)=(decide ((cs,(0:Int)).2=0) && (b::r).head? == some 47):=by
     show _=(some b==some 47);rw[Bool.eq_iff_iff,beq_iff_eq,beq_iff_eq]
     constructor
     ·intro h;exact congrArg some (UInt8.toNat_inj.mp (show b.toNat=47 by omega))
     ·intro h;rw[Option.some.inj h];rfl
    rw[e2];exact hK a _ c h' f ⟨rfl,S⟩
def nU(p:ay):Bool:=p == [46] || p == [46,46]
theorem JQ{ss:ay}(hK:∀ h' v,Fr No h h'->(ss=[46]->v = .func (.func 182) #[] #[])->(ss=[46,46]->v = .func (.func 183) #[] #[])->K (.tuple #[v,.bool (nU ss)]) h'):C.jb (mkStr ss) h K:=by
 refine jb.ok ?_;unfold jb;simp only[toList_mkStr];refine Mz.intro (d:=.str) λh2 f2 s2 m2=>⟨[],m2,λh3 m3=>⟨_,m3.at_,λh4 m4=>⟨_,m4.at_,_,rfl,?_⟩⟩⟩;have f4:Fr No h h4:=(f2.trans (xM m3) λb hb e=>by omega).trans (xM m4) λb hb e=>by omega
 generalize hm:rQ _ (jI.s ss)=o;have ho:o=(bif ss == [46]then some (.func (.func 182) #[] #[])else bif ss == [46,46]then some (.func (.func 183) #[] #[])else none):=hm.symm;subst ho
 by_cases h1:ss=[46]
 ·subst h1;exact hK h4 _ f4 (λ_=>rfl) λe=>by cases e
 ·have e1:(ss == [46])=false:=beq_eq_false_iff_ne.mpr h1;rw[e1]
  by_cases h2:ss=[46,46]
  ·subst h2;exact hK h4 _ f4 (λe=>by cases e) λ_=>rfl
  ·have e2:(ss == [46,46])=false:=beq_eq_false_iff_ne.mpr h2;rw[e2];have:=hK h4 (Option.getD none (zeroV KU)) f4 (λe=>absurd e h1) λe=>absurd e h2;rw[nU,e1,e2]at this;exact this
theorem JR(s:Sl h 1 a l c xs F)(hm:m<=l)(d:Nat)(hd:m<=d)(yq:d<=c):Sl h 1 a m d (xs.take m) F:=by
 cases a with
 | none=>
  obtain⟨h1,h2,h3⟩:=s;have:m=0:=by omega
  have hd0:d=0:=by omega
  subst this;subst hd0;exact⟨rfl,rfl,rfl⟩
 | some p=>
  obtain⟨h1,a1,a2,a3,a4,a5,a6⟩:=s;rw[Nat.mul_one]at h1;refine⟨by rw[List.length_take];omega,a1,a2,a3,hd,?_,by rw[Nat.mul_one]at a6 ⊢;omega⟩;rw[List.length_take,h1,Nat.min_eq_left hm]
  conv=>rhs;rw[<-a5]
  rw[List.take_take,h1,Nat.min_eq_left hm]
theorem DW(ps:List ay)(m:Nat):(strs ps).take m=strs (ps.take m):=by rw[strs,strs,List.map_take]
theorem HF(ps:List ay):(strs ps).length=ps.length:=List.length_map ..
theorem mh(ps:List ay):∀v∈strs ps,v.oneCell'=true:=by
 intro v hv;obtain⟨p,_,rfl⟩:=List.mem_map.mp hv;rfl
theorem u0{ps:List ay}(c:ag h a (strs ps)){i:Nat}(hi:i<ps.length):∃p,a=some p/\cellOf h (p.add i)=some (.string (mkStr ps[i])):=by
 cases a with
 | none=>have c:strs ps=[]:=c;have:=congrArg List.length c;rw[HF,List.length_nil]at this;omega
 | some p=>exact⟨p,rfl,c i _ (by rw[strs,List.getElem?_map,List.getElem?_eq_getElem hi];rfl)⟩
def sW(s:ay):ay:=(pieces s).getLastD []
def bq(s:ay):List ay×ay×Int:=
 if gy s true=true then([],[],1)else if nU (sW s)=true then([],[],1)else match jV s with
  | none=>([],[],130)
  | some cs=>if cs=[]then([],[],0)else(cs.dropLast,cs.getLastD [],0)
structure Ms(h:ab)(s:ay)(R:Loop)(pre:List ay)(hh:ab):Prop where
 fr:Fr No h hh
 size:h.size+4<=hh.size
 o1:du hh h.size
 r1:rd hh h.size=[.string (mkStr (pre.getLastD []))]
 r2:rd hh (h.size+1)=[.string (mkStr s)]
 d:hh[h.size+2]?=some (.deferred (some []))
 on:br hh (h.size+3) R .ready none
theorem Ac{α:Type}(xs:List α)(x d:α):(xs++[x]).getLastD d=x:=by simp
theorem pE{s:ay}(hl:s.length<=9223372036854775806)(hK:∀ a l c h',Fr No h h'->Ls h h' (bq s).1 a l c->K (.tuple #[.slice a l c,.string (mkStr (bq s).2.1),.int .i64 (bq s).2.2]) h'):C.ku (mkStr s) h K:=by
 refine ku.ok (wD ⟨_,rfl,?_⟩)
 cases hw:gy s true with
 | true=>
  have e:bq s=([],[],1):=by rw[bq,if_pos hw]
  rw[e]at hK;exact hK none 0 0 h (Fr.refl _ _) (nT _ _)
 | false=>
  have Df:¬gy s true=true:=by rw[hw];simp
  refine cf rfl (aC.intro λh3 n3=>?_);refine bQ.intro n3.own (by rw[n3.rd];exact Nat.one_pos) λh4 d4=>?_;refine jR.ok (aC.intro λh5 n5=>⟨_,rfl,λR rounds=>?_⟩);have s3:=n3.size;have s4:=d4.size;have s5:=n5.size;have e4:h4.size=h.size+1:=by omega
  have e5:h5.size=h.size+2:=by omega
  rw[e5]at rounds ⊢;rw[e4];have F5:Fr No h h5:=(n3.fr.did d4 λx=>by omega).new n5;have Fb:=rA h5 R;have Ly:=rB h5 R;have d0:=ud h5 R;rw[e5]at Ly d0;have r5:rd h5 h.size=[.string (mkStr [])]:=(n5.at_ (by omega)).trans (by rw[d4.rd,n3.rd];rfl);have r6:rd h5 (h.size+1)=[.string (mkStr s)]:=by have:=n5.rd;rw[e4]at this;exact this
  have J0:Ms h s R [] (bN h5 R):=⟨F5.no Fb,by rw[mG];omega,Fb.own (by omega) (λx=>x) (n5.ow d4.own),(Fb.rd (by omega) λx=>x).trans r5,(Fb.rd (by omega) λx=>x).trans r6,d0,Ly⟩;show C.dS (.func (.yield (h.size+2+1)) #[] #[]) (some ⟨h.size+1,0,none⟩) (bN h5 R) _;refine uX (s:=s) hl (Ms h s R) (λpre hh J=>J.r2) (λpre x rest hh J hp=>?_) J0 λhh J=>?_
  ·have hs:=J.size;refine rounds (mkStr x) hh _ J.on ⟨J.on,gI (by omega) λh7 t7=>?_⟩;have z7:=t7.size;have o7:=t7.fr.own J.o1.lt (by omega) J.o1;have r7:=(t7.fr.rd J.o1.lt (by omega)).trans J.r1;refine bQ.intro o7 (by rw[r7];exact Nat.one_pos) λh8 d8=>?_;have z8:=d8.size;have t9:=qI (show h.size+3<h8.size by omega) R .ready none;refine⟨cH t7.on d8.fr (by omega),.inl ⟨rfl,((J.fr.trans t7.fr λb hb e=>by omega).did d8 λx=>by omega).trans t9.fr λb hb e=>by omega,Nat.le_trans (show h.size+4<=h8.size by omega) (Nat.le_of_eq t9.size.symm),t9.fr.own d8.own.lt (by omega) d8.own,?_,?_,?_,t9.on⟩⟩
   ·rw[t9.fr.rd d8.own.lt (by omega),d8.rd,r7,Ac];rfl
   ·exact(t9.fr.rd (by omega) (by omega)).trans ((d8.at_ (by omega) (by omega)).trans ((t7.fr.rd (by omega) (by omega)).trans J.r2))
   ·exact(t9.fr.same _ (by omega) (by omega)).trans ((d8.fr.same _ (by omega) (by omega)).trans ((t7.fr.same _ (by omega) (by omega)).trans J.d))
  ·have hs:=J.size;refine⟨.ready,none,J.on,by decide,rC (gI (by omega) λh10 t10=>?_)⟩;have Nj:=t10.size;have FO:Fr No h h10:=J.fr.trans t10.fr λb hb e=>by omega
   have d10:h10[h.size+2]?=some (.deferred (some [])):=(t10.fr.same _ (by omega) (by omega)).trans J.d;refine⟨_,nt ((t10.fr.rd (by omega) (by omega)).trans J.r1) rfl,JQ λcg v f11 _ _=>⟨_,_,rfl,?_⟩⟩;have OL:=f11.size;have Cy:=FO.no f11;have d11:cg[h.size+2]?=some (.deferred (some [])):=(f11.same _ (by omega) λx=>x).trans d10;have el:nU ((pieces s).getLastD [])=nU (sW s):=rfl;rw[el]
   cases hd:nU (sW s)with
   | true=>
    have e:bq s=([],[],1):=(by rw[bq,if_neg Df,if_pos hd]);rw[e]at hK;exact iR d11 λbb z12 f12=>hK none 0 0 bb (Cy.trans f12 λb hb e=>by omega) (nT _ _)
   | false=>
    have yq:¬nU (sW s)=true:=(by rw[hd];simp);refine oI hl (λhc bU f13=>?_) λcs hc a c bU f13 S=>?_
    ·have e:bq s=([],[],130):=(by rw[bq,if_neg Df,if_neg yq,hc]);rw[e]at hK;have d13:=(f13.same _ (by omega) λx=>x).trans d11;exact⟨_,_,_,_,rfl,ct rfl (iR d13 λgh LI f14=>hK none 0 0 gh ((Cy.no f13).trans f14 λb hb e=>by omega) (nT _ _))⟩
    ·have d13:=(f13.same _ (by omega) λx=>x).trans d11;refine⟨_,_,_,_,rfl,cf rfl (ce (λh0=>?_) λh0=>?_)⟩
     ·have h0:cs=[]:=List.eq_nil_of_length_eq_zero (by omega);have e:bq s=([],[],0):=(by rw[bq,if_neg Df,if_neg yq,hc];show(if cs=[]then _ else _)=_;rw[if_pos h0]);rw[e]at hK;exact iR d13 λfg oO f15=>hK none 0 0 fg ((Cy.no f13).trans f15 λb hb e=>by omega) (nT _ _)
     ·have h1:cs≠[]:=λe=>by rw[e]at h0;exact h0 rfl
      have vu:0<cs.length:=List.length_pos_iff.mpr h1;have e:bq s=(cs.dropLast,cs.getLastD [],0):=(by rw[bq,if_neg Df,if_neg yq,hc];show(if cs=[]then _ else _)=_;rw[if_neg h1]);rw[e]at hK;unfold ku.k1;have qW:=S.le
      have wO:cs.length<=32:=by
       have:fits cs=true:=by
        unfold jV at hc
        split at hc
        ·split at hc
         ·rename_i h;cases hc;exact h
         ·cases hc
        ·cases hc
       rw[fits,Bool.and_eq_true,decide_eq_true_eq]at this;exact this.2
      rw[wrap_i64 (n:=(cs.length:Int)-1) (by omega) (by omega)];have et:((cs.length:Int)-1).toNat=cs.length-1:=(by omega);rw[et];obtain⟨p,rfl,cl⟩:=u0 S.cells (i:=cs.length-1) (by omega);refine⟨⟨by omega,by omega,by omega⟩,⟨by omega,by omega⟩,os ⟨_,cl,iR (by rw[e5];exact d13) λiS z16 f16=>?_⟩⟩
      have eg:cs[cs.length-1]'(by omega)=cs.getLastD []:=by
       rw[List.getLastD_eq_getLast?,List.getLast?_eq_getElem?,List.getElem?_eq_getElem (by omega)];rfl
      rw[eg];refine hK (some p) (cs.length-1) (cs.length-1) iS ((Cy.no f13).trans f16 λb hb e=>by omega) ⟨by rw[List.length_dropLast],?_⟩;have S2:=JR S (m:=cs.length-1) (by omega) (cs.length-1) (Nat.le_refl _) (by omega);rw[DW,<-List.dropLast_eq_take]at S2;exact(S2.fr f16 λb hb h e=>by have h:cg.size<=b:=h;omega).mono λb hb=>by have hb:cg.size<=b:=hb;show h.size<=b;omega
def BI(p:ay):Bool:=!(p == []) && (!(p == [46]) && !(p.any jU))
theorem fY{s:ay}{b:Bool}:(aH s b).1.length<=32/\(∀p∈(aH s b).1,p≠[46]/\p.length<=27):=by
 unfold aH
 split
 ·exact⟨Nat.zero_le _,λp hp=>by cases hp⟩
 ·split
  ·exact⟨Nat.zero_le _,λp hp=>by cases hp⟩
  ·rename_i cs hc;unfold jV at hc
   split at hc
   ·split at hc
    ·rename_i hf
     cases hc
     rw[fits,Bool.and_eq_true,decide_eq_true_eq,List.all_eq_true]at hf;refine⟨hf.2,λp hp=>⟨λe=>?_,by simpa using hf.1 p hp⟩⟩;have hp:p∈(pieces s).filter λp=>!(p == [46]):=hp;have:=(List.mem_filter.mp hp).2;rw[e]at this;cases this
    ·cases hc
   ·cases hc
end Pa
namespace Wl
open Hp Ad Tm Spc Re
open Ino (getM)
open Fi (fF iZ toP nh)
open Pa (aH bq fY)
open Di (findD)
structure St where
 chain:List Int
 left:List Tm.ay
 dH:Nat
structure Pl where
 chain:List Int
 name:Tm.ay
 ino:Int
def kI : Pl:=⟨[],[],0⟩
def here(c:List Int):Int:=c.getLastD 0
def qJ(c:List Int):List Int:=if 1<c.length then c.dropLast else c
def more(beh:Bool)(l:List Tm.ay):Bool:=beh || decide (0<l.length)
section
variable(T : TM)(g : G)(fl beh : Bool)
def jg(s:St)(n:Int):Bool×Int×St:=
 if more beh s.left=false/\fl=false then(true,0,s)else if s.dH=8 then(false,162,s)else if(fF T g n 0 1024).2≠0 then(false,(fF T g n 0 1024).2,s)else
 if(aH (fF T g n 0 1024).1 false).2≠0 then(false,(aH (fF T g n 0 1024).1 false).2,s)else
  (false,0,⟨if(fF T g n 0 1024).1.head?=some 47 then[1]else s.chain,(aH (fF T g n 0 1024).1 false).1++s.left,s.dH+1⟩)
def eQ(s:St)(kind n:Int):Bool×Int×St:=
 if kind=2 then(if more beh s.left=false then(true,0,s)else(false,0,⟨s.chain++[n],s.left,s.dH⟩))else if kind=3 then jg T g fl beh s n else
  if more beh s.left=true then(false,161,s)else(true,0,s)
def qy : Nat->St->Pl×Int
 | 0,_=>(kI,0)
 | m+1,s=>match s.left with
  | []=>(⟨s.chain,[],here s.chain⟩,0)
  | c::r=>if c=[46,46]then qy m ⟨qJ s.chain,r,s.dH⟩else
   if(findD T g (here s.chain) c).2≠0 then(kI,(findD T g (here s.chain) c).2)else
   if(getM T g (findD T g (here s.chain) c).1).2≠0 then(kI,(getM T g (findD T g (here s.chain) c).1).2)else
   if(eQ T g fl beh ⟨s.chain,r,s.dH⟩ ((getM T g (findD T g (here s.chain) c).1).1.getD 0 0) (findD T g (here s.chain) c).1).2.1≠0 then
    (kI,(eQ T g fl beh ⟨s.chain,r,s.dH⟩ ((getM T g (findD T g (here s.chain) c).1).1.getD 0 0) (findD T g (here s.chain) c).1).2.1)else
   if(eQ T g fl beh ⟨s.chain,r,s.dH⟩ ((getM T g (findD T g (here s.chain) c).1).1.getD 0 0) (findD T g (here s.chain) c).1).1=true then(⟨s.chain,c,(findD T g (here s.chain) c).1⟩,0)else
    qy m (eQ T g fl beh ⟨s.chain,r,s.dH⟩ ((getM T g (findD T g (here s.chain) c).1).1.getD 0 0) (findD T g (here s.chain) c).1).2.2
def mu(s:St):Nat:=33*(8-s.dH)+s.left.length
def jy(s:St):Pl×Int:=qy T g fl beh (mu s+1) s
end
section
variable{T : TM}{g : G}{fl beh : Bool}{s : St}{kind n : Int}
structure Ok(s:St):Prop where
 ne:s.chain≠[]
 dH:s.dH<=8
theorem Ok.up(o:Ok s){r:List Tm.ay}:Ok ⟨qJ s.chain,r,s.dH⟩:=⟨by
 show qJ s.chain≠[];unfold qJ
 split
 ·intro y;have:=congrArg List.length y;rw[List.length_dropLast,List.length_nil]at this;omega
 ·exact o.ne,o.dH⟩
theorem yM(o:Ok s)(e:(eQ T g fl beh s kind n).2.1=0)(h:(eQ T g fl beh s kind n).1=false):Ok (eQ T g fl beh s kind n).2.2/\mu (eQ T g fl beh s kind n).2.2<=mu s:=by
 unfold eQ at e h ⊢
 by_cases k2:kind=2
 ·rw[if_pos k2]at e h ⊢
  by_cases m:more beh s.left=false
  ·rw[if_pos m]at h;cases h
  ·rw[if_neg m];exact⟨⟨by simp,o.dH⟩,Nat.le_refl _⟩
 ·rw[if_neg k2]at e h ⊢
  by_cases k3:kind=3
  ·rw[if_pos k3]at e h ⊢;unfold jg at e h ⊢
   by_cases c1:more beh s.left=false/\fl=false
   ·rw[if_pos c1]at h;cases h
   ·rw[if_neg c1]at e h ⊢
    by_cases c2:s.dH=8
    ·rw[if_pos c2]at e;exact absurd (show(162:Int)=0 from e) (by decide)
    ·rw[if_neg c2]at e h ⊢
     by_cases c3:(fF T g n 0 1024).2≠0
     ·rw[if_pos c3]at e;exact absurd e c3
     ·rw[if_neg c3]at e h ⊢
      by_cases c4:(aH (fF T g n 0 1024).1 false).2≠0
      ·rw[if_pos c4]at e;exact absurd e c4
      ·rw[if_neg c4];have:=o.dH;refine⟨⟨?_,by show s.dH+1<=8;omega⟩,?_⟩
       ·show(if(fF T g n 0 1024).1.head?=some 47 then[1]else s.chain)≠[]
        split
        ·simp
        ·exact o.ne
       ·have:=(fY (s:=(fF T g n 0 1024).1) (b:=false)).1;show 33*(8-(s.dH+1))+((aH (fF T g n 0 1024).1 false).1++s.left).length<=33*(8-s.dH)+s.left.length;rw[List.length_append];omega
  ·rw[if_neg k3]at e h ⊢
   by_cases m:more beh s.left=true
   ·rw[if_pos m]at e;exact absurd (show(161:Int)=0 from e) (by decide)
   ·rw[if_neg m]at h;cases h
theorem xQ : ∀(m m':Nat) (s:St),Ok s->mu s<m->mu s<m'->qy T g fl beh m s=qy T g fl beh m' s
 | 0,_,_,_,h,_=>absurd h (Nat.not_lt_zero _)
 | _,0,_,_,_,h=>absurd h (Nat.not_lt_zero _)
 | m+1,m'+1,s,o,h1,h2=>by
  unfold qy
  cases hl:s.left with
  | nil=>rfl
  | cons c r=>
   have e:∀x:List Int,mu ⟨x,r,s.dH⟩+1=mu s:=λx=>by
    unfold mu;rw[hl,List.length_cons];show 33*(8-s.dH)+r.length+1=_;omega
   have e0:=e s.chain;dsimp only
   split
   ·have:=e (qJ s.chain);exact xQ m m' _ o.up (by omega) (by omega)
   ·split
    ·rfl
    ·split
     ·rfl
     ·split
      ·rfl
      ·rename_i hq
       split
       ·rfl
       ·rename_i hb;have q:=yM (T:=T) (g:=g) (fl:=fl) (beh:=beh) (s:=⟨s.chain,r,s.dH⟩) (kind:=(getM T g (findD T g (here s.chain) c).1).1.getD 0 0) (n:=(findD T g (here s.chain) c).1) ⟨o.ne,o.dH⟩ (Classical.byContradiction hq) (by simpa using hb);exact xQ m m' _ q.1 (by omega) (by omega)
theorem xR{c:Tm.ay}{r:List Tm.ay}(o:Ok s)(hl:s.left=c::r):jy T g fl beh s=if c=[46,46]then jy T g fl beh ⟨qJ s.chain,r,s.dH⟩else
   if(findD T g (here s.chain) c).2≠0 then(kI,(findD T g (here s.chain) c).2)else
   if(getM T g (findD T g (here s.chain) c).1).2≠0 then(kI,(getM T g (findD T g (here s.chain) c).1).2)else
   if(eQ T g fl beh ⟨s.chain,r,s.dH⟩ ((getM T g (findD T g (here s.chain) c).1).1.getD 0 0) (findD T g (here s.chain) c).1).2.1≠0 then
    (kI,(eQ T g fl beh ⟨s.chain,r,s.dH⟩ ((getM T g (findD T g (here s.chain) c).1).1.getD 0 0) (findD T g (here s.chain) c).1).2.1)else
   if(eQ T g fl beh ⟨s.chain,r,s.dH⟩ ((getM T g (findD T g (here s.chain) c).1).1.getD 0 0) (findD T g (here s.chain) c).1).1=true then(⟨s.chain,c,(findD T g (here s.chain) c).1⟩,0)else
    jy T g fl beh (eQ T g fl beh ⟨s.chain,r,s.dH⟩ ((getM T g (findD T g (here s.chain) c).1).1.getD 0 0) (findD T g (here s.chain) c).1).2.2:=by
 have e:∀x:List Int,mu ⟨x,r,s.dH⟩+1=mu s:=λx=>by
  unfold mu;rw[hl,List.length_cons];show 33*(8-s.dH)+r.length+1=_;omega
 have e0:=e s.chain
 conv=>lhs;unfold jy qy
 rw[hl];dsimp only
 by_cases c1:c=[46,46]
 ·rw[if_pos c1,if_pos c1];have:=e (qJ s.chain);exact xQ _ _ _ o.up (by omega) (Nat.lt_succ_self _)
 ·rw[if_neg c1,if_neg c1]
  by_cases c2:(findD T g (here s.chain) c).2≠0
  ·rw[if_pos c2,if_pos c2]
  ·rw[if_neg c2,if_neg c2]
   by_cases c3:(getM T g (findD T g (here s.chain) c).1).2≠0
   ·rw[if_pos c3,if_pos c3]
   ·rw[if_neg c3,if_neg c3]
    by_cases c4:(eQ T g fl beh ⟨s.chain,r,s.dH⟩ ((getM T g (findD T g (here s.chain) c).1).1.getD 0 0) (findD T g (here s.chain) c).1).2.1≠0
    ·rw[if_pos c4,if_pos c4]
    ·rw[if_neg c4,if_neg c4]
     by_cases c5:(eQ T g fl beh ⟨s.chain,r,s.dH⟩ ((getM T g (findD T g (here s.chain) c).1).1.getD 0 0) (findD T g (here s.chain) c).1).1=true
     ·rw[if_pos c5,if_pos c5]
     ·rw[if_neg c5,if_neg c5];have q:=yM (T:=T) (g:=g) (fl:=fl) (beh:=beh) (s:=⟨s.chain,r,s.dH⟩) (kind:=(getM T g (findD T g (here s.chain) c).1).1.getD 0 0) (n:=(findD T g (here s.chain) c).1) ⟨o.ne,o.dH⟩ (Classical.byContradiction c4) (by simpa using c5);exact xQ _ _ _ q.1 (by omega) (Nat.lt_succ_self _)
theorem Ay(hl:s.left=[]):jy T g fl beh s=(⟨s.chain,[],here s.chain⟩,0):=by
 unfold jy qy;rw[hl]
end
def toM(T:TM)(g:G)(s:Tm.ay)(fl:Bool):Pl×Int:=if(aH s true).2≠0 then(kI,(aH s true).2)else jy T g fl false ⟨[1],(aH s true).1,0⟩
def jh(T:TM)(g:G)(s:Tm.ay):Pl×Int:=if(bq s).2.2≠0 then(kI,(bq s).2.2)else if(bq s).2.1=[]then(⟨[1],[],1⟩,0)else
 if(jy T g false true ⟨[1],(bq s).1,0⟩).2≠0 then(kI,(jy T g false true ⟨[1],(bq s).1,0⟩).2)else
 if(findD T g (here (jy T g false true ⟨[1],(bq s).1,0⟩).1.chain) (bq s).2.1).2≠0/\(findD T g (here (jy T g false true ⟨[1],(bq s).1,0⟩).1.chain) (bq s).2.1).2≠160 then
  (kI,(findD T g (here (jy T g false true ⟨[1],(bq s).1,0⟩).1.chain) (bq s).2.1).2)else
 (⟨(jy T g false true ⟨[1],(bq s).1,0⟩).1.chain,(bq s).2.1,(findD T g (here (jy T g false true ⟨[1],(bq s).1,0⟩).1.chain) (bq s).2.1).1⟩,0)
theorem BJ(T:TM)(g:G)(R:List Int)(off n:Nat):∀k a s,(iZ T g R off n k a s).1.length<=s.length+512*k
 | 0,_,s=>Nat.le_add_right _ _
 | k+1,a,s=>by
  unfold iZ
  split
  ·exact Nat.le_add_right _ _
  ·split
   ·exact Nat.zero_le _
   ·refine Nat.le_trans (BJ T g R off n k _ _) ?_;rw[List.length_append,List.length_take];have:toP off n a<=512:=(by unfold toP;omega);omega
theorem yN(T:TM)(g:G)(i:Int):(fF T g i 0 1024).1.length<=524288:=by
 unfold fF
 split
 ·exact Nat.zero_le _
 ·split
  ·exact Nat.zero_le _
  ·split
   ·exact Nat.zero_le _
   ·refine Nat.le_trans (BJ T g _ _ _ _ _ _) ?_;rw[List.length_nil];omega
end Wl
namespace Wl
open Hp W Ad Tm Spc Re Av Ss
open Hd (ints)
open In (ah av)
open Ino (getM su aF)
open Fi (fF Iz nh)
open Pa (aH bq fY Ls)
open Di (findD C5 HB)
theorem mh(l:List Tm.ay):∀v∈Ch.strs l,v.oneCell'=true:=λv hv=>by
 obtain⟨p,_,rfl⟩:=List.mem_map.mp hv;rfl
theorem HG(hx:xs.length=l)(B:ag h a xs)(h1:∀ v ∈ xs,v.oneCell'=true)(hl:l<=100000000)
  (hK:∀a' c' h',Fr No h h'->Sl h' 1 a' l c' xs (bZ h.size)->K (.slice a' l c') h'):C.eI a l c h K:=by
 refine eI.ok (cs (λe=>?_) λ_=>aC.intro λh2 n2=>?_)
 ·cases a with
  | none=>
   have B:xs=[]:=B;subst B;have:l=0:=hx.symm;subst this;exact hK none 0 h (Fr.refl _ _) (Sl.nil _ _ _)
  | some p=>simp at e
 ·refine⟨xs,by rw[hx,Nat.mul_one],ag.fr n2.fr B (λ_ _ x=>x),h1,?_⟩;refine aT (elem:=qP) (xs:=[]) (F:=bZ h.size) (Sl.made n2 rfl (Nat.le_refl _) rfl (Nat.le_refl _) rfl) (by rw[hx];exact(Nat.mul_one _).symm) rfl (by show(0+l)*8<=_;omega) (by omega) λa' c' h' f s=>?_;rw[Nat.zero_add,List.nil_append]at s;rw[Nat.zero_add];have:=n2.size;exact hK a' c' h' (n2.fr.trans f λb hb e=>by have:h.size<=b:=e;omega) (s.mono λb hb=>by rcases hb with hb|hb;exact hb;show h.size<=b;omega)
theorem HH(hx:xs.length=l)(B:ag h a xs)(h1:∀ v ∈ xs,v.oneCell'=true)(hl:l<=100000000)
  (hK:∀a' c' h',Fr No h h'->Sl h' 1 a' l c' xs (bZ h.size)->K (.slice a' l c') h'):C.cC a l c h K:=by
 refine cC.ok (cs (λe=>?_) λ_=>aC.intro λh2 n2=>?_)
 ·cases a with
  | none=>
   have B:xs=[]:=B;subst B;have:l=0:=hx.symm;subst this;exact hK none 0 h (Fr.refl _ _) (Sl.nil _ _ _)
  | some p=>simp at e
 ·refine⟨xs,by rw[hx,Nat.mul_one],ag.fr n2.fr B (λ_ _ x=>x),h1,?_⟩;refine aT (elem:=tN) (xs:=[]) (F:=bZ h.size) (Sl.made n2 rfl (Nat.le_refl _) rfl (Nat.le_refl _) rfl) (by rw[hx];exact(Nat.mul_one _).symm) rfl (by show(0+l)*16<=_;omega) (by omega) λa' c' h' f s=>?_;rw[Nat.zero_add,List.nil_append]at s;rw[Nat.zero_add];have:=n2.size;exact hK a' c' h' (n2.fr.trans f λb hb e=>by have:h.size<=b:=e;omega) (s.mono λb hb=>by rcases hb with hb|hb;exact hb;show h.size<=b;omega)
def wV(ia:OA)(il ic:Nat)(t:OA)(g:G)(la:OA)(ll lc:Nat)(dH:Nat)(fl beh:Bool):LV:=[.slice ia il ic]++([.pointer t]++(g.v++[.slice la ll lc,.int .i64 (dH:Nat),.bool fl,.bool beh]))
structure ZA where
 cb:Nat
 co:Nat
 ic:Nat
 la:OA
 lc:Nat
structure Ws(h0 hh:ab)(wb:Nat)(t:OA)(g:G)(s:St)(fl beh:Bool)(z:ZA):Prop where
 fr:Fr No h0 hh
 own:du hh wb
 lo:h0.size<=wb
 r:rd hh wb=wV (some ⟨z.cb,z.co,none⟩) s.chain.length z.ic t g z.la s.left.length z.lc s.dH fl beh
 ch:Sl hh 1 (some ⟨z.cb,z.co,none⟩) s.chain.length z.ic (ints s.chain) (λb=>b=z.cb)
 lf:ag hh z.la (Ch.strs s.left)
 cap:s.left.length<=z.lc
 zw:∀p,z.la=some p->h0.size<=p.block/\p.block<hh.size/\p.block≠wb/\p.block≠z.cb
 clo:h0.size<=z.cb
 JS:z.cb≠wb
section
variable{h0 hh h' : ab}{wb : Nat}{t d : OA}{g : G}{s : St}{fl beh : Bool}{z z' : ZA}{K : Value -> ab -> Prop}{n kind : Int}{F : Nat -> Prop}{T : TM}
theorem Ws.lt(w:Ws h0 hh wb t g s fl beh z):wb<hh.size:=w.own.lt
theorem Ws.ON(w:Ws h0 hh wb t g s fl beh z):z.cb<hh.size:=w.ch.2.2.2.1.lt
theorem Ws.no(w:Ws h0 hh wb t g s fl beh z)(f:Fr No hh h'):Ws h0 h' wb t g s fl beh z:=
 ⟨w.fr.no f,f.own w.lt (λy=>y) w.own,w.lo,(f.rd w.lt λy=>y).trans w.r,Sl.fr f w.ch λ_ _ _ y=>y,ag.fr f w.lf λ_ _ y=>y,w.cap,λp hp=>by
  obtain⟨a,b,c,e⟩:=w.zw p hp;have:=f.size
  exact⟨a,by omega,c,e⟩,w.clo,w.JS⟩
theorem Ws.frm(w:Ws h0 hh wb t g s fl beh z){G:NP}(f:Fr G hh h')(h1:¬ G wb)(h2:¬ G z.cb)(h3:∀ p,z.la=some p->¬ G p.block)(h4:∀ b,b<h0.size->¬ G b):Ws h0 h' wb t g s fl beh z:=
 ⟨w.fr.trans f λb hb y=>absurd y (h4 b hb),f.own w.lt h1 w.own,w.lo,(f.rd w.lt h1).trans w.r,Sl.fr f w.ch λb _ hb y=>h2 (hb▸y),ag.fr f w.lf h3,w.cap,λp hp=>by
  obtain⟨a,b,c,e⟩:=w.zw p hp;have:=f.size
  exact⟨a,by omega,c,e⟩,w.clo,w.JS⟩
theorem Ws.did(w:Ws h0 hh wb t g s fl beh z){cs:LV}(d:yw wb hh h' cs){s':St}{fl' Qf:Bool}{z':ZA}(e:cs=wV (some ⟨z'.cb,z'.co,none⟩) s'.chain.length z'.ic t g z'.la s'.left.length z'.lc s'.dH fl' Qf)
  (ch:Sl hh 1 (some ⟨z'.cb,z'.co,none⟩) s'.chain.length z'.ic (ints s'.chain) (λb=>b=z'.cb)) (lf:ag hh z'.la (Ch.strs s'.left)) (cap:s'.left.length<=z'.lc)
  (zw:∀p,z'.la=some p->h0.size<=p.block/\p.block<hh.size/\p.block≠wb/\p.block≠z'.cb) (clo:h0.size<=z'.cb) (JS:z'.cb≠wb):Ws h0 h' wb t g s' fl' Qf z':=
 ⟨w.fr.did d λhl=>by have:=w.lo;omega,d.own,w.lo,d.rd.trans e,Sl.fr d.fr ch λb _ hb e=>JS (by rw[<-hb];exact e),ag.fr d.fr lf λp hp e=>(zw p hp).2.2.1 e,cap,λp hp=>by
  obtain⟨a,b,c,e⟩:=zw p hp;have:=d.size
  exact⟨a,by omega,c,e⟩,clo,JS⟩
structure qQ(hh h':ab)(wb:Nat)(z z':ZA):Prop where
 fr:Fr (λb=>b=wb∨b=z.cb) hh h'
 cb:z'.cb=z.cb∨hh.size<=z'.cb
 la:∀p,z'.la=some p->(∃q,z.la=some q/\p.block=q.block)∨hh.size<=p.block
theorem qQ.no(f:Fr No hh h'):qQ hh h' wb z z:=⟨f.mono λ_ _ y=>y.elim,.inl rfl,λp hp=>.inl ⟨p,hp,rfl⟩⟩
theorem qQ.trans{h2:ab}{z1 z2:ZA}(a:qQ hh h' wb z z1)(b:qQ h' h2 wb z1 z2):qQ hh h2 wb z z2:=by
 have:=a.fr.size;refine⟨a.fr.trans b.fr λx hx y=>?_,?_,λp hp=>?_⟩
 ·rcases y with y|y
  ·exact .inl y
  ·rcases a.cb with e|e
   ·exact .inr (y.trans e)
   ·omega
 ·rcases b.cb with e|e
  ·rcases a.cb with e'|e'
   ·exact .inl (e.trans e')
   ·exact .inr (by omega)
  ·exact .inr (by omega)
 ·rcases b.la p hp with⟨q,hq,e⟩|e
  ·rcases a.la q hq with⟨q',Xx,e'⟩|e'
   ·exact .inl ⟨q',Xx,e.trans e'⟩
   ·exact .inr (by omega)
  ·exact .inr (by omega)
theorem qQ.rd(a:qQ hh h' wb z z'){b:Nat}(hb:b<hh.size)(h1:b≠wb)(h2:b≠z.cb):rd h' b=rd hh b/\(du hh b->du h' b)/\b≠z'.cb/\b<h'.size:=by
 have:=a.fr.size;refine⟨a.fr.rd hb λy=>by rcases y with y|y <;> contradiction,a.fr.own hb λy=>by rcases y with y|y <;> contradiction,?_,by omega⟩
 rcases a.cb with e|e
 ·rw[e];exact h2
 ·omega
theorem yO(w:Ws h0 hh wb t g s fl beh z)(hK:K (.bool (more beh s.left)) hh):C.fV (some ⟨wb,0,none⟩) hh K:=by
 refine fV.ok (os ⟨beh,bW w.r rfl,cs (λe=>?_) λe=>os ⟨_,_,_,bW w.r rfl,?_⟩⟩)
 ·subst e;exact hK
 ·subst e
  have:more false s.left=decide ((s.left.length:Int)>0):=by
   unfold more;rw[Bool.false_or];exact decide_eq_decide.mpr (by omega)
  rw[<-this];exact hK
theorem nV(w:Ws h0 hh wb t g s fl beh z)(fB:s.chain≠[])(hl:s.chain.length<=1000)(hK:K (.int .i64 (here s.chain)) hh):C.eX (some ⟨wb,0,none⟩) hh K:=by
 have hp:0<s.chain.length:=List.length_pos_iff.mpr fB;refine eX.ok (os ⟨_,_,_,bW w.r rfl,os ⟨_,_,_,bW w.r rfl,?_⟩⟩);rw[wrap_i64 (show -9223372036854775808<=(s.chain.length:Int)-1 by omega) (by omega)];refine⟨⟨by omega,by omega⟩,os ⟨here s.chain,?_,hK⟩⟩;have e:((s.chain.length:Int)-1).toNat=s.chain.length-1:=by omega
 rw[e];have c:=w.ch.cells;have c:ai hh ⟨z.cb,z.co,none⟩ (ints s.chain):=c;refine c (s.chain.length-1) _ ?_;unfold ints here;rw[List.getElem?_map,<-List.getLast?_eq_getElem?,List.getLastD_eq_getLast?]
 cases hq:s.chain.getLast? with
 | none=>exact absurd (List.getLast?_eq_none_iff.mp hq) fB
 | some v=>rfl
theorem Np(w:Ws h0 hh wb t g s fl beh z)(hl:s.chain.length<=1000)(hK:∀ h' z',qQ hh h' wb z z'->Ws h0 h' wb t g ⟨s.chain++[n],s.left,s.dH⟩ fl beh z'->K (.tuple #[]) h'):C.iC (some ⟨wb,0,none⟩) n hh K:=by
 refine iC.ok (os ⟨_,_,_,bW w.r rfl,aC.intro λh2 n2=>⟨[.int .i64 n],rfl,aj n2.rd,λv hv=>by rw[List.mem_singleton.mp hv];rfl,?_⟩⟩);have w2:=w.no n2.fr;refine aT (elem:=qP) w2.ch rfl rfl (by show(s.chain.length+1)*8<=_;omega) (by omega) λa' c' h3 f3 s3=>os ?_;have ON:=w2.ON;have wlt:=w2.lt;have JS:=w2.JS;have z2:=n2.size;have z3:=f3.size;have lo:=w2.lo;have clo:=w2.clo;have r3:rd h3 wb=_:=(f3.rd wlt λy=>JS y.symm).trans w2.r;have o3:du h3 wb:=f3.own wlt (λy=>JS y.symm) w2.own;have F3:Fr No h0 h3:=w2.fr.trans f3 λb hb y=>by have y:b=z.cb:=y;omega
 refine bQ.add o3 (by rw[r3];exact Nat.succ_pos _) λh4 d4=>?_
 cases a' with
 | none=>
  have:=s3.2.1;omega
 | some p=>
  obtain⟨Nq,co',sp⟩:=p;have sp0:sp=none:=s3.2.1;subst sp0;have lt':Nq<h3.size:=s3.2.2.2.1.lt;have hb:Nq=z.cb∨h2.size<=Nq:=s3.2.2.1
  have acP:∀p,z.la=some p->h0.size<=p.block/\p.block<h3.size/\p.block≠wb/\p.block≠Nq:=λp hp=>by
   obtain⟨a,b,c,e⟩:=w2.zw p hp;exact⟨a,by omega,c,λy=>by rcases hb with hb|hb <;> omega⟩
  have lf3:ag h3 z.la (Ch.strs s.left):=ag.fr f3 w2.lf λp hp y=>(w2.zw p hp).2.2.2 y
  have ZB:Sl h3 1 (some ⟨Nq,co',none⟩) (s.chain++[n]).length c' (ints (s.chain++[n])) (λb=>b=Nq):=by
   rw[List.length_append,show ints (s.chain++[n])=ints s.chain++[.int .i64 n] from List.map_append];obtain⟨q1,q2,q3,q4⟩:=s3;exact⟨q1,q2,rfl,q4⟩
  refine hK h4 ⟨Nq,co',c',z.la,z.lc⟩ ⟨(((n2.fr.mono λ_ _ y=>y.elim).trans f3 λb _ y=>.inr y).trans d4.fr λb _ y=>.inl y),by show Nq=z.cb∨hh.size<=Nq;omega,λp hp=>.inl ⟨p,hp,rfl⟩⟩ ⟨F3.did d4 λhl=>by omega,d4.own,lo,?_,?_,?_,w2.cap,?_,by show h0.size<=Nq;rcases hb with hb|hb <;> omega,by show Nq≠wb;rcases hb with hb|hb <;> omega⟩
  ·rw[d4.rd,r3];show _=wV (some ⟨Nq,co',none⟩) (s.chain++[n]).length c' t g z.la s.left.length z.lc s.dH fl beh;rw[List.length_append];rfl
  ·exact Sl.fr d4.fr ZB λb _ mQ e=>by have mQ:b=Nq:=mQ;have e:b=wb:=e;rcases hb with hb|hb <;> omega
  ·exact ag.fr d4.fr lf3 λp hp e=>(acP p hp).2.2.1 e
  ·intro p hp;obtain⟨a,b,c,e⟩:=acP p hp;have:=d4.size;exact⟨a,by omega,c,e⟩
theorem Qg(w:Ws h0 hh wb t g s fl beh z)(hK:∀ h' z',qQ hh h' wb z z'->Ws h0 h' wb t g ⟨[1],s.left,s.dH⟩ fl beh z'->K (.tuple #[]) h'):C.fT (some ⟨wb,0,none⟩) hh K:=by
 refine fT.ok (aC.intro λh2 n2=>os ?_);have w2:=w.no n2.fr;have z2:=n2.size;have wlt:=w.lt;have lo:=w.lo;refine bQ.add w2.own (by rw[w2.r];exact Nat.succ_pos _) λh3 d3=>?_;rw[w2.r]at d3;refine hK h3 ⟨hh.size,0,1,z.la,z.lc⟩ ⟨((n2.fr.mono λ_ _ y=>y.elim).trans d3.fr λb _ y=>.inl y),.inr (Nat.le_refl _),λp hp=>.inl ⟨p,hp,rfl⟩⟩ (w2.did d3 rfl ⟨rfl,rfl,rfl,n2.own,Nat.le_refl _,by rw[n2.rd];rfl,by rw[n2.rd];exact Nat.le_refl _⟩ w2.lf w2.cap (λp hp=>?_) (by show h0.size<=hh.size;omega) (by show hh.size≠wb;omega));obtain⟨a,b,c,_⟩:=w.zw p hp;exact⟨a,by omega,c,by show p.block≠hh.size;omega⟩
theorem UH(w:Ws h0 hh wb t g s fl beh z)(hl:s.chain.length<=1000)(hK:∀ h' z',qQ hh h' wb z z'->Ws h0 h' wb t g ⟨qJ s.chain,s.left,s.dH⟩ fl beh z'->K (.tuple #[]) h'):C.jS (some ⟨wb,0,none⟩) hh K:=by
 refine jS.ok (os ⟨_,_,_,bW w.r rfl,cd (λh1=>os ⟨_,_,_,bW w.r rfl,os ⟨_,_,_,bW w.r rfl,?_⟩⟩) λh1=>?_⟩)
 ·have le:=w.ch.le;rw[wrap_i64 (show -9223372036854775808<=(s.chain.length:Int)-1 by omega) (by omega),show((s.chain.length:Int)-1).toNat=s.chain.length-1 by omega];refine⟨⟨by omega,by omega⟩,os ?_⟩;refine bQ.add w.own (by rw[w.r];exact Nat.succ_pos _) λh2 d2=>?_;rw[w.r]at d2;have e:qJ s.chain=s.chain.dropLast:=if_pos (by omega);have el:(qJ s.chain).length=s.chain.length-1:=by rw[e,List.length_dropLast]
  refine hK h2 z ⟨d2.fr.mono λb _ y=>.inl y,.inl rfl,λp hp=>.inl ⟨p,hp,rfl⟩⟩ (w.did d2 (by show _=wV _ (qJ s.chain).length _ _ _ _ _ _ _ _ _;rw[el];rfl) ?_ w.lf w.cap w.zw w.clo w.JS);show Sl hh 1 _ (qJ s.chain).length z.ic (ints (qJ s.chain)) _;rw[el,e,show ints s.chain.dropLast=(ints s.chain).take (s.chain.length-1) by unfold ints;rw[List.dropLast_eq_take,List.map_take]];exact Pa.JR w.ch (by omega) z.ic (by omega) (Nat.le_refl _)
 ·have e:qJ s.chain=s.chain:=if_neg (by omega);have:=hK hh z;rw[e]at this;exact this (qQ.no (Fr.refl _ _)) w
end
section
variable{h0 hh h' : ab}{N wb : Nat}{t d : OA}{s : St}{fl beh : Bool}{z z' : ZA}{K : Value -> ab -> Prop}{n kind : Int}{F : Nat -> Prop}{T : TM}
theorem BK(w:Ws h0 hh wb t (af N) s fl beh z)(h2:kind≠2)(h3:kind≠3)(hK:∀ h' z',qQ hh h' wb z z'->Ws h0 h' wb t (af N) (eQ T (af N) fl beh s kind n).2.2 fl beh z'->K (.tuple #[.bool (eQ T (af N) fl beh s kind n).1,.int .i64 (eQ T (af N) fl beh s kind n).2.1]) h') :
  C.jc (some ⟨wb,0,none⟩) n hh K:=by
 refine jc.ok (yO w ⟨_,rfl,cs (λe=>?_) λe=>?_⟩)
 ·have q:eQ T (af N) fl beh s kind n=(false,161,s):=by unfold eQ;rw[if_neg h2,if_neg h3,if_pos e]
  rw[q]at hK;exact hK hh z (qQ.no (Fr.refl _ _)) w
 ·have q:eQ T (af N) fl beh s kind n=(true,0,s):=by unfold eQ;rw[if_neg h2,if_neg h3,if_neg (by rw[e];simp)]
  rw[q]at hK;exact hK hh z (qQ.no (Fr.refl _ _)) w
theorem BL(w:Ws h0 hh wb t (af N) s fl beh z)(hl:s.chain.length<=1000)(hK:∀ h' z',qQ hh h' wb z z'->Ws h0 h' wb t (af N) (eQ T (af N) fl beh s 2 n).2.2 fl beh z'->K (.tuple #[.bool (eQ T (af N) fl beh s 2 n).1,.int .i64 (eQ T (af N) fl beh s 2 n).2.1]) h') :
  C.ga (some ⟨wb,0,none⟩) n hh K:=by
 refine ga.ok (yO w ⟨_,rfl,jj (cs (λe=>?_) λe=>?_)⟩)
 ·have q:eQ T (af N) fl beh s 2 n=(false,0,⟨s.chain++[n],s.left,s.dH⟩):=by unfold eQ;rw[if_pos rfl,if_neg (by rw[e];simp)]
  rw[q]at hK;refine os ?_;show C.iC (some ⟨wb,0,none⟩) n hh _;exact Np w hl λh' z' st w'=>⟨rfl,hK h' z' st w'⟩
 ·have q:eQ T (af N) fl beh s 2 n=(true,0,s):=by unfold eQ;rw[if_pos rfl,if_pos e]
  rw[q]at hK;exact hK hh z (qQ.no (Fr.refl _ _)) w
theorem LK(gl:In.pq h0)(dm:Ab N)(X:Tx h0 F t d T)(w:Ws h0 hh wb t (af N) s fl beh z)(o:Ok s)(iH:s.chain.length+mu s<=700)(hc:¬ (more beh s.left=false/\fl=false))
  (hK:∀h' z',qQ hh h' wb z z'->Ws h0 h' wb t (af N) (jg T (af N) fl beh s n).2.2 fl beh z'->K (.tuple #[.bool (jg T (af N) fl beh s n).1,.int .i64 (jg T (af N) fl beh s n).2.1]) h') :
  fE.k1 (some ⟨wb,0,none⟩) n hh K:=by
 have hm:mu s=33*(8-s.dH)+s.left.length:=rfl;have ho:=o.dH;unfold jg at hK;rw[if_neg hc]at hK;refine os ⟨_,bW w.r rfl,ce (λe8=>?_) λe8=>os ⟨_,bW w.r rfl,os ⟨(af N).v,rfl,lS w.r rfl,?_⟩⟩⟩
 ·rw[if_pos (by omega)]at hK;exact hK hh z (qQ.no (Fr.refl _ _)) w
 rw[if_neg (by omega)]at hK;refine Fi.fM (gl.no w.fr) dm (X.no w.fr) λh4 f4=>⟨_,_,rfl,cn (λhe=>?_) λhe=>?_⟩
 ·rw[if_pos he]at hK;exact hK h4 z (qQ.no f4) (w.no f4)
 rw[if_neg (λy=>y he)]at hK;have w4:=w.no f4;refine Pa.Nn (by have:=yN T (af N) n;omega) λa l c h5 f5 Z=>⟨_,_,_,_,_,rfl,cn (λCv=>?_) λCv=>?_⟩
 ·rw[if_pos Cv]at hK;exact hK h5 z ((qQ.no f4).trans (qQ.no f5)) (w4.no f5)
 rw[if_neg (λy=>y Cv)]at hK;have w5:=w4.no f5;have hp:=(fY (s:=(fF T (af N) n 0 1024).1) (b:=false)).1;generalize(aH (fF T (af N) n 0 1024).1 false).1=ps at hK Z hp;generalize(fF T (af N) n 0 1024).1.head?=hd at hK ⊢;have e2:decide ((aH (fF T (af N) n 0 1024).1 false).2=0)=true:=decide_eq_true Cv;rw[e2,Bool.true_and];obtain⟨hl,Z⟩:=Z;have w4lt:=w4.lt;have c4lt:=w4.ON;have z5:=f5.size;refine os ⟨_,bW w5.r rfl,os ?_⟩;rw[wrap_i64 (show -9223372036854775808<=(s.dH:Int)+1 by omega) (by omega),show(s.dH:Int)+1=((s.dH+1:Nat):Int) by omega];refine bQ.add w5.own (by rw[w5.r];exact(by decide:0+8<11)) λh6 d6=>?_;rw[w5.r]at d6;have w6:Ws h0 h6 wb t (af N) ⟨s.chain,s.left,s.dH+1⟩ fl beh z:=w5.did d6 rfl w5.ch w5.lf w5.cap w5.zw w5.clo w5.JS;have z6:=d6.size
 have Z6:ag h6 a (Ch.strs ps):=ag.fr d6.fr Z.cells λp hp y=>by
  have b:h4.size<=p.block:=by
   subst hp;exact Z.2.2.1
  omega
 have ll:(Ch.strs ps).length=ps.length:=List.length_map ..;refine os ⟨_,_,_,bW w6.r rfl,HH (xs:=Ch.strs ps) (by rw[ll,hl]) Z6 (mh ps) (by omega) λa7 c7 h7 f7 S7=>⟨_,_,_,rfl,?_⟩⟩;have w7:=w6.no f7;have z7:=f7.size;have ln:(Ch.strs s.left).length=s.left.length:=List.length_map ..;refine⟨bW w7.r rfl,Ch.strs s.left,by rw[ln,Nat.mul_one],w7.lf,mh s.left,aT (elem:=tN) S7 (by rw[ln];exact(Nat.mul_one _).symm) rfl (by show(l+s.left.length)*16<=_;omega) (by show l+s.left.length<=_;omega) λa8 c8 h8 f8 S8=>os ?_⟩;have clt6:=w6.ON;have wlt6:=w6.lt;have lo:=w6.lo;have clo:=w6.clo;have z8:=f8.size
 have w8:Ws h0 h8 wb t (af N) ⟨s.chain,s.left,s.dH+1⟩ fl beh z:=w7.frm f8 (λy=>by have y:h6.size<=wb:=y;omega) (λy=>by have y:h6.size<=z.cb:=y;omega) (λp hp y=>by
  have:=(w6.zw p hp).2.1;have y:h6.size<=p.block:=y
  omega) λb hb y=>by have y:h6.size<=b:=y;omega
 refine bQ.add w8.own (by rw[w8.r];exact(by decide:0+7<11)) λh9 d9=>?_;rw[w8.r]at d9;have le8:=S8.le
 have lf8:ag h8 a8 (Ch.strs (ps++s.left)):=by
  have:=S8.cells;rw[show Ch.strs (ps++s.left)=Ch.strs ps++Ch.strs s.left from List.map_append];exact this
 have lp:(ps++s.left).length=l+s.left.length:=by rw[List.length_append,hl]
 have w9:Ws h0 h9 wb t (af N) ⟨s.chain,ps++s.left,s.dH+1⟩ fl beh ⟨z.cb,z.co,z.ic,a8,c8⟩:=w8.did d9 (by
  show _=wV _ s.chain.length z.ic t (af N) a8 (ps++s.left).length c8 (s.dH+1) fl beh
  rw[lp];rfl) w8.ch lf8 (by show(ps++s.left).length<=c8;rw[lp];exact le8) (λp hp=>by
   have hp:a8=some p:=hp;subst hp
   have b1:h6.size<=p.block:=by
    have y:=S8.2.2.1
    rcases y with y|y
    ·exact y
    ·omega
   have b2:p.block<h8.size:=S8.2.2.2.1.lt
   exact⟨by omega,b2,by omega,by show p.block≠z.cb;omega⟩) w8.clo w8.JS
 have st9:qQ hh h9 wb z ⟨z.cb,z.co,z.ic,a8,c8⟩:=by
  refine⟨?_,.inl rfl,λp hp=>.inr ?_⟩
  rotate_left
  ·have hp:a8=some p:=hp;subst hp;have:=f4.size;have y:=S8.2.2.1
   rcases y with y|y
   ·have y:h6.size<=p.block:=y;omega
   ·omega
  have g6:Fr (λb=>b=wb∨b=z.cb) hh h6:=((f4.no f5).mono λ_ _ y=>y.elim).trans d6.fr λb _ y=>.inl y;have g8:Fr (λb=>b=wb∨b=z.cb) hh h8:=(g6.no f7).trans f8 λb hb y=>by have y:h6.size<=b:=y;have:=f4.size;omega
  exact g8.trans d9.fr λb _ y=>.inl y
 refine cs (λeb=>os ?_) λeb=>?_
 ·show C.fT (some ⟨wb,0,none⟩) h9 _;refine Qg w9 λh10 Nj Qh UI=>⟨rfl,?_⟩;have eh:hd=some 47:=by simpa using eb
  rw[if_pos eh]at hK;exact hK h10 Nj (st9.trans Qh) UI
 ·have eh:hd≠some 47:=by simpa using eb
  rw[if_neg eh]at hK;exact hK h9 _ st9 w9
theorem yP(gl:In.pq h0)(dm:Ab N)(X:Tx h0 F t d T)(w:Ws h0 hh wb t (af N) s fl beh z)(o:Ok s)(iH:s.chain.length+mu s<=700)
  (hK:∀h' z',qQ hh h' wb z z'->Ws h0 h' wb t (af N) (jg T (af N) fl beh s n).2.2 fl beh z'->K (.tuple #[.bool (jg T (af N) fl beh s n).1,.int .i64 (jg T (af N) fl beh s n).2.1]) h') :
  C.fE (some ⟨wb,0,none⟩) n hh K:=by
 refine fE.ok (yO w ⟨_,rfl,jj (cs (λe=>LK gl dm X w o iH (λy=>by rw[e]at y;cases y.1) hK) λe=>os ⟨fl,bW w.r rfl,jj (cs (λe2=>LK gl dm X w o iH (λy=>by rw[e2]at y;cases y.2) hK) λe2=>?_)⟩)⟩);unfold jg at hK;rw[if_pos ⟨e,e2⟩]at hK;exact hK hh z (qQ.no (Fr.refl _ _)) w
theorem Qi(gl:In.pq h0)(dm:Ab N)(X:Tx h0 F t d T)(w:Ws h0 hh wb t (af N) s fl beh z)(o:Ok s)(iH:s.chain.length+mu s<=700)(hk:0<=kind/\kind<4)
  (hK:∀h' z',qQ hh h' wb z z'->Ws h0 h' wb t (af N) (eQ T (af N) fl beh s kind n).2.2 fl beh z'->K (.tuple #[.bool (eQ T (af N) fl beh s kind n).1,.int .i64 (eQ T (af N) fl beh s kind n).2.1]) h') :
  C.jl (some ⟨wb,0,none⟩) kind n hh K:=by
 refine jl.ok (ax.intro rfl (λv hv=>by simp only[List.mem_cons,List.not_mem_nil,or_false]at hv;rcases hv with rfl|rfl|rfl|rfl <;> rfl) rfl λh3 n3=>⟨hk,?_⟩);have w3:=w.no n3.fr;have st3:qQ hh h3 wb z z:=qQ.no n3.fr
 rcases(by omega:kind=0∨kind=1∨kind=2∨kind=3)with rfl|rfl|rfl|rfl
 ·refine⟨_,bW n3.rd rfl,?_⟩;exact BK (T:=T) (kind:=0) w3 (by decide) (by decide) λh' z' st w'=>⟨_,_,rfl,hK h' z' (st3.trans st) w'⟩
 ·refine⟨_,bW n3.rd rfl,?_⟩;exact BK (T:=T) (kind:=1) w3 (by decide) (by decide) λh' z' st w'=>⟨_,_,rfl,hK h' z' (st3.trans st) w'⟩
 ·refine⟨_,bW n3.rd rfl,?_⟩;exact BL (T:=T) w3 (by omega) λh' z' st w'=>⟨_,_,rfl,hK h' z' (st3.trans st) w'⟩
 ·refine⟨_,bW n3.rd rfl,?_⟩;exact yP gl dm X w3 o iH λh' z' st w'=>⟨_,_,rfl,hK h' z' (st3.trans st) w'⟩
theorem nP{nm:Tm.ay}(w:Ws h0 hh wb t (af N) s fl beh z)(hl:s.chain.length<=1000)
  (hK:∀h' a c,Fr No hh h'->Sl h' 1 a s.chain.length c (ints s.chain) (bZ hh.size)->K (.agg ⟨[.slice a s.chain.length c,.string (mkStr nm),.int .i64 n]⟩) h'):C.dz (some ⟨wb,0,none⟩) (mkStr nm) n hh K:=by
 refine dz.ok (aC.intro λh2 n2=>os ?_);have w2:=w.no n2.fr;have z2:=n2.size;refine⟨_,_,_,C5 w2.r rfl,HG (ah _) w2.ch.cells (av _) (by omega) λa c h3 f3 S3=>⟨_,_,_,rfl,?_⟩⟩;have r3:rd h3 hh.size=_:=(f3.rd (by omega) λy=>y).trans n2.rd;refine ar.intro (f3.own (by omega) (λy=>y) n2.own) rfl (λv hv=>by simp only[List.mem_cons,List.not_mem_nil,or_false]at hv;rcases hv with rfl|rfl|rfl <;> rfl) (by rw[r3];exact Nat.le_refl _) λh4 d4=>?_;rw[r3]at d4;refine⟨_,rfl,aj (d4.rd.trans (cM _ _ rfl)),hK h4 a c ((n2.fr.no f3).did d4 λhl=>by omega) ((Sl.fr d4.fr S3 λb _ hb y=>?_).mono λb hb=>?_)⟩
 ·have hb:h2.size<=b:=hb;have y:b=hh.size:=y;omega
 ·have hb:h2.size<=b:=hb;show hh.size<=b;omega
end
end Wl
end Go.Proofs.YtiapingedfnlnaaGreatDoor
