/-
  TEXTS FOR dirNames_card: DwA DwB DwC DwE DwF LyA.
-/
import Derived.Test.YtiapingedfnlnaaGreatDoorGp4
namespace Go.Proofs.YtiapingedfnlnaaGreatDoor.Di
open Go Go.Proofs Wx Hp W Ad Tm Spc Re Av Rg Ss
open Hd (ints)
open In (Glo ints_length ints_one)
open Ino (getM Cok getM_length)
open Bm (findM)
open Fi (blockM hv_yield getM_may)
open Sk (E)
def rdV (t:Option Addr) (g:G) (n:Int) (R:List Int) (e:Int):List Value := .pointer t::(g.v++(.int .i64 n::(ints R++[.int .i64 e])))
theorem R15 {R:List Int} (h:R.length=15):∃ a b c d e f g i j k l m n o p,R=[a,b,c,d,e,f,g,i,j,k,l,m,n,o,p]:=by
 match R,h with
 | [a,b,c,d,e,f,g,i,j,k,l,m,n,o,p],_=>exact ⟨a,b,c,d,e,f,g,i,j,k,l,m,n,o,p,rfl⟩
section
variable {t : Option Addr} {g : G} {n e e' : Int} {R : List Int} {rest : List Value}
theorem rdV_len (hR:R.length=15):(rdV t g n R e).length=23:=by
 obtain ⟨_,_,_,_,_,_,_,_,_,_,_,_,_,_,_,rfl⟩:=R15 hR; rfl
theorem rdV_e (hR:R.length=15):(rdV t g n R e++rest)[22]?=some (.int .i64 e):=by
 obtain ⟨_,_,_,_,_,_,_,_,_,_,_,_,_,_,_,rfl⟩:=R15 hR; rfl
theorem rdV_g : ((rdV t g n R e++rest).drop 1).take 5=g.v:=rfl
theorem rdV_R (hR:R.length=15):((rdV t g n R e++rest).drop 7).take 15=ints R:=by
 obtain ⟨_,_,_,_,_,_,_,_,_,_,_,_,_,_,_,rfl⟩:=R15 hR; rfl
theorem rdV_0 (hR:R.length=15):(rdV t g n R e++rest)[7]?=some (.int .i64 (R.getD 0 0)):=by
 obtain ⟨_,_,_,_,_,_,_,_,_,_,_,_,_,_,_,rfl⟩:=R15 hR; rfl
theorem rdV_2 (hR:R.length=15):(rdV t g n R e++rest)[9]?=some (.int .i64 (R.getD 2 0)):=by
 obtain ⟨_,_,_,_,_,_,_,_,_,_,_,_,_,_,_,rfl⟩:=R15 hR; rfl
theorem rdV_set (hR:R.length=15):(rdV t g n R e++rest).set 22 (.int .i64 e')=rdV t g n R e'++rest:=by
 obtain ⟨_,_,_,_,_,_,_,_,_,_,_,_,_,_,_,rfl⟩:=R15 hR; rfl
theorem rdV_put {R':List Int} (hR:R.length=15) (hR':R'.length=15):put (rdV t g n R e++rest) 7 (ints R')=rdV t g n R' e++rest:=by
 rw [put_eq _ _ _ (by rw [ints_length,List.length_append,rdV_len hR]; omega),ints_length,hR']
 obtain ⟨_,_,_,_,_,_,_,_,_,_,_,_,_,_,_,rfl⟩:=R15 hR
 unfold rdV
 simp [G.v,ints]
theorem rdV_one : ∀ v ∈ rdV t g n R e,v.oneCell'=true:=by
 intro v hv
 unfold rdV at hv
 rcases List.mem_cons.mp hv with rfl|hv
 ·rfl
 ·rcases List.mem_append.mp hv with h|h
  ·exact G.one g v h
  ·rcases List.mem_cons.mp h with rfl|h
   ·rfl
   ·rcases List.mem_append.mp h with h|h
    ·exact ints_one R v h
    ·rw [List.mem_singleton.mp h]; rfl
end
theorem rdaa {h:Heap} {b o m n:Nat} {xs:List Value} {v:Value} (e:rd h b=xs) (hv:xs[o+m+n]?=some v):cellOf h (Addr.add (Addr.add ⟨b,o,none⟩ m) n)=some v:=by rw [add_mk]; exact rda e hv
theorem open_spec {h:Heap} {F:Nat→Prop} {t d:Option Addr} {T:TM} {g:G} {n:Int} {K:Value→Heap→Prop} (gl:In.Glo h) (x:Tx h F t d T) (ok:Cok g)
  (hK:∀ h',Fr No h h'→K (.agg ⟨rdV t g n (openM T g n).1 (openM T g n).2⟩) h'):C.dir_open t g.v n h K:=by
 have lR:=getM_length T g n
 refine dir_open.ok (New.intro fun h2 n2=>New.intro fun h3 n3=>⟨g.v,rfl,cellsAll ((n3.at_ n2.own.lt).trans n2.rd),rfl,NewRow.intro (z:=z144) rfl ?_ rfl fun h5 n5=>?_⟩)
 ·intro v hv
  have hz:∀ v ∈ z123,v.oneCell'=true:=by decide
  rcases List.mem_append.mp hv with h|h
  ·rw [List.mem_singleton.mp h]; rfl
  ·rcases List.mem_append.mp h with h|h
   ·exact G.one g v h
   ·rcases List.mem_append.mp h with h|h
    ·rw [List.mem_singleton.mp h]; rfl
    ·rcases List.mem_append.mp h with h|h
     ·exact hz v h
     ·rw [List.mem_singleton.mp h]; rfl
 have z2:=n2.size
 have z3:=n3.size
 have z5:=n5.size
 have F5:Fr No h h5:=(n2.fr.new n3).new n5
 have r5:rd h5 h3.size=rdV t g n (List.replicate 15 0) 0:=n5.rd
 refine ⟨g.v,rfl,cellsAll ((n5.at_ (by omega)).trans ((n3.at_ n2.own.lt).trans n2.rd)),Ino.Get_spec (gl.no F5) (x.no F5) ok fun h6 f6=>⟨_,_,rfl,?_⟩⟩
 have z6:=f6.size
 have r6:rd h6 h3.size=rdV t g n (List.replicate 15 0) 0:=(f6.rd (by omega) fun y=>y).trans r5
 have o6:Own h6 h3.size:=f6.own (by omega) (fun y=>y) n5.own
 refine PutRow.add o6 (by rw [ints_length,lR]) (ints_one _) (by rw [r6,rdV_len List.length_replicate]; decide) fun h7 d7=>Put.add d7.own (by rw [d7.rd,put_length,r6,rdV_len List.length_replicate]; decide) fun h8 d8=>?_
 have r8:rd h8 h3.size=rdV t g n (getM T g n).1 (getM T g n).2:=by
  have e1:rd h6 h3.size=rdV t g n (List.replicate 15 0) 0++[]:=by rw [r6,List.append_nil]
  rw [d8.rd,d7.rd,e1,show 0+7=7 from rfl,show 0+22=22 from rfl,rdV_put List.length_replicate lR,rdV_set lR,List.append_nil]
 have r8':rd h8 h3.size=rdV t g n (getM T g n).1 (getM T g n).2++[]:=by rw [List.append_nil]; exact r8
 have z7:=d7.size
 have z8:=d8.size
 have F8:Fr No h h8:=((F5.no f6).did d7 fun hl=>by omega).did d8 fun hl=>by omega
 have q8:rd h8 h2.size=z144:=(d8.at_ (by omega) (by omega)).trans ((d7.at_ (by omega) (by omega)).trans ((f6.rd (by omega) fun y=>y).trans ((n5.at_ (by omega)).trans n3.rd)))
 have p8:Own h8 h2.size:=d8.ow (d7.ow (f6.own (by omega) (fun y=>y) (n5.ow n3.own)))
 -- the answer
 have out:∀ (hh:Heap) (e:Int),Fr No h hh→rd hh h3.size=rdV t g n (getM T g n).1 e→rd hh h2.size=z144→Own hh h2.size→openM T g n=((getM T g n).1,e) →
   ∃ cs:List Value,List.length cs=23∧Cells hh ⟨h3.size,0,none⟩ cs∧PutRow ⟨h2.size,0,none⟩ cs 23 hh fun h9=>∃ res:List Value,List.length res=23∧Cells h9 ⟨h2.size,0,none⟩ res∧K (.agg ⟨res⟩) h9:=fun hh e f r q p ho=>by
  rw [ho] at hK
  refine ⟨_,rdV_len lR,cellsAll r,PutRow.intro p (rdV_len lR) rdV_one (by rw [q]; decide) fun h9 d9=>⟨_,rdV_len lR,cellsAll ?_,hK h9 (f.did d9 fun hl=>by omega)⟩⟩
  rw [d9.rd]; exact put_all _ _ (by rw [rdV_len lR,q]; rfl)
 refine ⟨_,rda r8' (rdV_e lR),cn (fun he=>out h8 _ F8 r8 q8 p8 (by unfold openM; rw [if_pos he])) fun he=>⟨_,rdaa r8' (rdV_0 lR),ce (fun h0=>?_) fun h0=>⟨_,rdaa r8' (rdV_0 lR),cn (fun h2'=>?_) fun h2'=>?_⟩⟩⟩
 ·refine Put.add d8.own (by rw [r8,rdV_len lR]; decide) fun h10 d10=>out h10 110 (F8.did d10 fun hl=>by omega) ?_ ((d10.at_ (by omega) (by omega)).trans q8) (d10.ow p8) (by unfold openM; rw [if_neg (fun y=>y he),if_pos h0])
  rw [d10.rd,r8']
  exact (rdV_set lR).trans (List.append_nil _)
 ·refine Put.add d8.own (by rw [r8,rdV_len lR]; decide) fun h10 d10=>out h10 161 (F8.did d10 fun hl=>by omega) ?_ ((d10.at_ (by omega) (by omega)).trans q8) (d10.ow p8) (by unfold openM; rw [if_neg (fun y=>y he),if_neg h0,if_pos h2'])
  rw [d10.rd,r8']
  exact (rdV_set lR).trans (List.append_nil _)
 ·exact out h8 _ F8 r8 q8 p8 (by unfold openM; rw [if_neg (fun y=>y he),if_neg h0,if_neg (fun y=>y h2')])
theorem failed_spec {h:Heap} {rb:Nat} {t:Option Addr} {g:G} {n e e':Int} {R:List Int} {rest:List Value} {K:Value→Heap→Prop} (hR:R.length=15) (w:Own h rb) (r:rd h rb=rdV t g n R e++rest)
  (hK:∀ h',Did rb h h' (rdV t g n R e'++rest)→K (.bool (e' != 0)) h'):C.dir_reader_failed (some ⟨rb,0,none⟩) e' h K:=by
 refine dir_reader_failed.ok (os (Put.add w (by rw [r,List.length_append,rdV_len hR]; omega) fun h2 d2=>hK h2 ?_))
 rw [r,show 0+22=22 from rfl,rdV_set hR] at d2
 exact d2
structure It (hh:Heap) (F:Nat→Prop) (t d:Option Addr) (T:TM) (g:G) (n:Int) (R:List Int) (e:Int) (rest:List Value) (cb rb:Nat):Prop where
 gl:In.Glo hh
 x:Tx hh F t d T
 cap:rd hh cb=[.pointer (some ⟨rb,0,none⟩)]
 ob:Own hh rb
 r:rd hh rb=rdV t g n R e++rest
 nf:¬ F rb
 b1:1≤rb
 ne:cb≠rb
section
variable {hh h' : Heap} {F : Nat → Prop} {t d : Option Addr} {T : TM} {g : G} {n e e' : Int} {R : List Int} {rest : List Value} {cb rb : Nat}
theorem It.clt (i:It hh F t d T g n R e rest cb rb):cb<hh.size:=rd_lt (o:=0) (by rw [i.cap]; rfl)
theorem It.fr (i:It hh F t d T g n R e rest cb rb) {G:Nat→Prop} (f:Fr G hh h') (h1:¬ G rb) (h2:¬ G cb) (h3:∀ b,F b→¬ G b) (h4:∀ b,b<1→¬ G b):It h' F t d T g n R e rest cb rb :=
 ⟨i.gl.fr f h4,i.x.fr f h3,(f.rd i.clt h2).trans i.cap,f.own i.ob.lt h1 i.ob,(f.rd i.ob.lt h1).trans i.r,i.nf,i.b1,i.ne⟩
theorem It.no (i:It hh F t d T g n R e rest cb rb) (f:Fr No hh h'):It h' F t d T g n R e rest cb rb:=i.fr f (fun y=>y) (fun y=>y) (fun _ _ y=>y) fun _ _ y=>y
theorem It.did (i:It hh F t d T g n R e rest cb rb) (f:Did rb hh h' (rdV t g n R e'++rest)):It h' F t d T g n R e' rest cb rb :=
 ⟨i.gl.fr f.fr fun b hb y=>by have:=i.b1; omega,i.x.fr f.fr fun b hb y=>i.nf (y▸hb),(f.at_ i.clt i.ne).trans i.cap,f.own,f.rd,i.nf,i.b1,i.ne⟩
end
def leafV (k:Nat) (b:Int) (ba:Option Addr) (bl bc:Nat) (ca:Option Addr) (cl cc:Nat):List Value:=[.int .i64 k,.int .i64 b,.slice ba bl bc,.slice ca cl cc]
theorem leafV_one {k:Nat} {b:Int} {ba:Option Addr} {bl bc:Nat} {ca:Option Addr} {cl cc:Nat}:∀ v ∈ leafV k b ba bl bc ca cl cc,v.oneCell'=true:=by
 intro v hv
 simp only [leafV,List.mem_cons,List.not_mem_nil,or_false] at hv
 rcases hv with rfl|rfl|rfl|rfl <;> rfl
structure Lf (h0 h:Heap) (l:Leaf) (ba:Option Addr) (bl bc:Nat) (ca:Option Addr) (cl cc:Nat):Prop where
 s:Sl h 1 ba bl bc (l.bytes.map bv) (From h0.size)
 c:Sl h 3 ca cl cc (l.cells.flatMap E.v) (From h0.size)
theorem Lf.fr {h0 h h':Heap} {l:Leaf} {ba:Option Addr} {bl bc:Nat} {ca:Option Addr} {cl cc:Nat} {G:Nat→Prop} (x:Lf h0 h l ba bl bc ca cl cc) (f:Fr G h h') (hG:∀ b,b<h.size→h0.size≤b→¬ G b):Lf h0 h' l ba bl bc ca cl cc :=
 ⟨x.s.fr f hG,x.c.fr f hG⟩
theorem size_div {z:Int} (h0:0≤z) (h1:z≤8459264):IntKind.wrap .i64 (Int.tdiv z 512)=z / 512:=by
 rw [Int.tdiv_eq_ediv_of_nonneg h0,wrap_i64 (by omega) (by omega)]
theorem leaves_iter {l cb rb:Nat} {F:Nat→Prop} {t d:Option Addr} {T:TM} {g:G} {n:Int} {R:List Int} {rest:List Value} {h:Heap} {K:Value→Heap→Prop} (hR:R.length=15) (hs0:0≤R.getD 2 0) (hs1:R.getD 2 0≤8459264) (J:Nat→Heap→Prop)
  (hc:∀ k hh,J k hh→It hh F t d T g n R 0 rest cb rb)
  (hY:∀ k hh h' ba bl bc ca cl cc,J k hh→k<(R.getD 2 0 / 512).toNat→(leafM T g R k).2=0→Fr (fun b=>b=rb) hh h'→rd h' rb=rdV t g n R 0++rest→Own h' rb→Lf hh h' (leafM T g R k).1 ba bl bc ca cl cc →
   YCalls Tryz.prog l [.agg ⟨leafV k (leafM T g R k).1.block ba bl bc ca cl cc⟩] h' fun v h''=>(v = .bool true∧J (k+1) h'')∨(v = .bool false∧K (.tuple #[]) h''))
  (h0:J 0 h) (hK:∀ hh,J (R.getD 2 0 / 512).toNat hh→K (.tuple #[]) hh)
  (hE:∀ k hh h',J k hh→k<(R.getD 2 0 / 512).toNat→(leafM T g R k).2≠0→Fr (fun b=>b=rb) hh h'→rd h' rb=rdV t g n R (leafM T g R k).2++rest→Own h' rb→K (.tuple #[]) h') :
  C.dir_reader_leaves_c1 (.func (.yield l) #[] #[]) (some ⟨cb,0,none⟩) h K:=by
 obtain ⟨m,em⟩:∃ m:Nat,R.getD 2 0 / 512=m:=⟨(R.getD 2 0 / 512).toNat,by omega⟩
 have hm:m≤16522:=by omega
 rw [em,Int.toNat_natCast] at hY hK hE
 refine dir_reader_leaves_c1.ok ⟨fun i hh=>∃ k:Nat,i=k∧k≤m∧J k hh,fun i _=>(m - i).toNat,⟨0,rfl,Nat.zero_le _,h0⟩,?_⟩
 rintro i h2 ⟨k,ei,hk,hJ⟩
 have I2:=hc k h2 hJ
 refine os ⟨_,rdc I2.cap rfl,os ⟨_,rda I2.r (rdV_e hR),ce (fun _=>os ⟨_,rdc I2.cap rfl,os ⟨_,rdaa I2.r (rdV_2 hR),?_⟩⟩) fun y=>absurd rfl y⟩⟩
 rw [size_div hs0 hs1,em]
 refine cd (fun hlt=>?_) fun hlt=>?_
 rotate_left
 ·have:k=m:=by omega
  subst this
  exact hK h2 hJ
 have hlt:k<m:=by omega
 unfold dir_reader_leaves_c1.k1
 refine ⟨by decide,New.intro fun h3 n3=>NewRow.intro rfl ?_ rfl fun h5 n5=>?_⟩
 ·intro v hv
  simp only [List.mem_cons,List.not_mem_nil,or_false] at hv
  rcases hv with rfl|rfl|rfl|rfl <;> rfl
 have z3:=n3.size
 have z5:=n5.size
 have F5:Fr No h2 h5:=n3.fr.new n5
 have I5:=I2.no F5
 refine os ⟨_,rdc I5.cap rfl,os ⟨t,rda I5.r rfl,os ⟨_,rdc I5.cap rfl,os ⟨g.v,rfl,cellsa I5.r rdV_g,os ⟨_,rdc I5.cap rfl,os ⟨ints R,by rw [ints_length,hR],cellsa I5.r ?_,?_⟩⟩⟩⟩⟩⟩
 ·rw [ints_length,hR]; exact rdV_R hR
 rw [ei]
 refine Bm.Find_spec I5.gl I5.x hR fun h6 f6=>⟨_,_,rfl,?_⟩
 have z6:=f6.size
 have o6:Own h6 h3.size:=f6.own (by omega) (fun y=>y) n5.own
 have l6:rd h6 h3.size=[.int .i64 k,.int .i64 0,.slice (some ⟨h2.size,0,none⟩) 512 512,.slice none 0 0]:=by
  rw [f6.rd (by omega) fun y=>y,n5.rd,ei]; rfl
 have I6:=I5.no f6
 refine Put.add o6 (by rw [l6]; show 1<4; decide) fun h7 d7=>?_
 have z7:=d7.size
 have l7:rd h7 h3.size=[.int .i64 k,.int .i64 (findM T g R k).1,.slice (some ⟨h2.size,0,none⟩) 512 512,.slice none 0 0]:=by rw [d7.rd,l6]; rfl
 have rl2:=I2.ob.lt
 have cl2:=I2.clt
 have xl2:∀ b,F b→b<h2.size:=fun b hb=>I2.x.lt hb
 have g2:=I2.gl.lt
 have I7:It h7 F t d T g n R 0 rest cb rb:=I6.fr d7.fr (by omega) (by omega) (fun b hb y=>by have:=xl2 b hb; omega) fun b hb y=>by omega
 have F7:Fr No h2 h7:=(F5.no f6).did d7 fun hl=>by omega
 refine os ⟨_,rdc I7.cap rfl,failed_spec hR I7.ob I7.r fun h8 d8=>⟨_,rfl,?_⟩⟩
 have I8:=I7.did d8
 have F8:Fr (fun b=>b=rb) h2 h8:=(F7.mono fun _ _ y=>y.elim).trans d8.fr fun _ _ y=>y
 have z8:=d8.size
 have l8:=(d8.at_ (c:=h3.size) (by omega) (by omega)).trans l7
 have o8:Own h8 h3.size:=d8.ow d7.own
 refine cn (fun he=>?_) fun he=>?_
 ·-- Find says no
  have e2:(leafM T g R k).2=(findM T g R k).2:=by
   unfold leafM
   have:(blockM T g R k).2=(findM T g R k).2:=by unfold blockM; rw [if_pos he]
   show (if (blockM T g R k).2≠0 then _ else _)=_
   rw [this,if_pos he]
  refine hE k h2 h8 hJ hlt (by rw [e2]; exact he) F8 ?_ I8.ob
  rw [e2]; exact I8.r
 rw [he] at I8
 -- what is done with the bytes
 have K2:∀ (h12:Heap) (ba:Option Addr) (bl bc:Nat),It h12 F t d T g n R 0 rest cb rb→Fr (fun b=>b=rb) h2 h12→h3.size<h12.size→rd h12 h3.size=[.int .i64 k,.int .i64 (findM T g R k).1,.slice ba bl bc,.slice none 0 0]→Own h12 h3.size →
   (blockM T g R k).2=0→Sl h12 1 ba bl bc ((blockM T g R k).1.map bv) (From h2.size)→(∀ p,ba=some p→p.block≠h3.size)→dir_reader_leaves_c1.k2 (.func (.yield l) #[] #[]) (some ⟨cb,0,none⟩) (k:Int) h2 (fun i hh=>∃ k:Nat,i=k∧k≤m∧J k hh) (fun i _=>(m - i).toNat) h3 h12 K:=by
  intro h12 ba bl bc I12 F12 s12 l12 o12 hb0 S12 hn12
  unfold dir_reader_leaves_c1.k2
  refine ⟨_,_,_,rda l12 rfl,Ss.Read_spec I12.gl S12.str S12.le fun h13 ca cl cc f13 C13=>⟨_,_,_,_,rfl,?_⟩⟩
  have z13:=f13.size
  have o13:Own h13 h3.size:=f13.own s12 (fun y=>y) o12
  have l13:=(f13.rd s12 fun y=>y).trans l12
  refine Put.add o13 (by rw [l13]; show 3<4; decide) fun h14 d14=>?_
  have z14:=d14.size
  have l14:rd h14 h3.size=leafV k (findM T g R k).1 ba bl bc ca cl cc:=by rw [d14.rd,l13]; rfl
  have I13:=I12.no f13
  have I14:It h14 F t d T g n R 0 rest cb rb:=I13.fr d14.fr (by omega) (by omega) (fun b hb y=>by have:=xl2 b hb; omega) fun b hb y=>by omega
  have F14:Fr (fun b=>b=rb) h2 h14:=(F12.no f13).did d14 fun hl=>by omega
  refine os ⟨_,rdc I14.cap rfl,failed_spec hR I14.ob I14.r fun h15 d15=>⟨_,rfl,?_⟩⟩
  have z15:=d15.size
  have I15:=I14.did d15
  have F15:Fr (fun b=>b=rb) h2 h15:=F14.trans d15.fr fun _ _ y=>y
  have e2:(leafM T g R k).2=(ans (blockM T g R k).1).2:=by
   unfold leafM
   show (if (blockM T g R k).2≠0 then _ else _)=_
   rw [if_neg fun y=>y hb0]
  refine cn (fun he=>hE k h2 h15 hJ hlt (by rw [e2]; exact he) F15 (by rw [e2]; exact I15.r) I15.ob) fun he=>?_
  rw [he] at I15
  have l15:=(d15.at_ (c:=h3.size) (by omega) (by omega)).trans l14
  refine ⟨_,rfl,cellsAll l15,hv_yield (ycalls_mono (hY k h2 h15 ba bl bc ca cl cc hJ hlt (by rw [e2]; exact he) F15 I15.r I15.ob ⟨?_,?_⟩) fun v h16 hv=>?_)⟩
  ·show Sl h15 1 ba bl bc ((blockM T g R k).1.map bv) (From h2.size)
   refine ((S12.fr f13 fun _ _ _ y=>y).mono (G:=fun b=>h2.size≤b∧∀ p,ba=some p→b=p.block→True) fun b hb=>⟨hb,fun _ _ _=>trivial⟩) |>.mono (G:=From h2.size) (fun b hb=>hb.1) |> fun S=>?_
   refine Sl.fr d15.fr (G:=fun b=>b=rb) (?_:Sl h14 1 ba bl bc _ (From h2.size)) fun b hb hF y=>by have hF:h2.size≤b:=hF; omega
   cases ba with
   | none=>exact ⟨S.1,S.2⟩
   | some p =>
    obtain ⟨a1,a2,a3,a4,a5,a6⟩:=S.2
    have hp:=hn12 p rfl
    exact ⟨S.1,a1,a2,d14.ow a3,a4,by rw [d14.at_ a3.lt hp]; exact a5,by rw [d14.at_ a3.lt hp]; exact a6⟩
  ·show Sl h15 3 ca cl cc ((ans (blockM T g R k).1).1.flatMap E.v) (From h2.size)
   refine ((C13.fr d14.fr fun b _ hb y=>?_).fr d15.fr fun b _ hb y=>?_).mono fun b hb=>?_
   ·have hb:h12.size≤b:=hb; omega
   ·have hb:h12.size≤b:=hb
    have:=F12.size
    omega
   ·have hb:h12.size≤b:=hb
    have:=F12.size
    show h2.size≤b; omega
  ·rcases hv with ⟨rfl,hJ6⟩|⟨rfl,hk⟩
   ·refine ⟨true,rfl,cnot (ct rfl ?_)⟩
    rw [wrap_i64 (by omega) (by omega)]
    exact ⟨⟨k+1,by omega,hlt,hJ6⟩,by show ((m:Int) - ((k:Int)+1)).toNat<((m:Int) - (k:Int)).toNat; omega⟩
   ·exact ⟨false,rfl,cnot (cf rfl hk)⟩
 refine ⟨_,rda l8 rfl,cn (fun hb=>os ⟨_,rdc I8.cap rfl,os ⟨t,rda I8.r rfl,_,rda l8 rfl,Tm.Read_spec I8.x fun ba bl bc h9 f9 hl9 S9=>⟨_,_,_,_,rfl,?_⟩⟩⟩) fun hb=>?_⟩
 ·-- its block is read
  have eb:blockM T g R k=T.read (findM T g R k).1:=by unfold blockM; rw [if_neg (fun y=>y he),if_neg hb]
  have z9:=f9.size
  have I9:=I8.no f9
  have l9:=(f9.rd (b:=h3.size) (by omega) fun y=>y).trans l8
  have o9:Own h9 h3.size:=f9.own (by omega) (fun y=>y) o8
  refine Put.add o9 (by rw [l9]; show 2<4; decide) fun h10 d10=>?_
  have z10:=d10.size
  have l10:rd h10 h3.size=[.int .i64 k,.int .i64 (findM T g R k).1,.slice ba bl bc,.slice none 0 0]:=by rw [d10.rd,l9]; rfl
  have I10:It h10 F t d T g n R 0 rest cb rb:=I9.fr d10.fr (by omega) (by omega) (fun b hb y=>by have:=xl2 b hb; omega) fun b hb y=>by omega
  have F10:Fr (fun b=>b=rb) h2 h10:=(F8.no f9).did d10 fun hl=>by omega
  refine os ⟨_,rdc I10.cap rfl,failed_spec hR I10.ob I10.r fun h11 d11=>⟨_,rfl,?_⟩⟩
  have z11:=d11.size
  have I11:=I10.did d11
  have F11:Fr (fun b=>b=rb) h2 h11:=F10.trans d11.fr fun _ _ y=>y
  refine cn (fun he2=>?_) fun he2=>?_
  ·have e2:(leafM T g R k).2=(T.read (findM T g R k).1).2:=by
    unfold leafM
    show (if (blockM T g R k).2≠0 then _ else _)=_
    rw [eb,if_pos he2]
   exact hE k h2 h11 hJ hlt (by rw [e2]; exact he2) F11 (by rw [e2]; exact I11.r) I11.ob
  ·rw [he2] at I11
   refine K2 h11 ba bl bc I11 F11 (by omega) ((d11.at_ (by omega) (by omega)).trans l10) (d11.ow d10.own) (by rw [eb]; exact he2) ?_ fun p hp=>?_
   ·rw [eb]
    refine ((S9.fr d10.fr fun b _ hb y=>?_).fr d11.fr fun b _ hb y=>?_).mono fun b hb=>?_
    ·have hb:h8.size≤b:=hb; omega
    ·have hb:h8.size≤b:=hb; omega
    ·have hb:h8.size≤b:=hb; show h2.size≤b; omega
   ·subst hp
    have hb:h8.size≤p.block:=S9.2.2.1
    omega
 ·-- a hole
  have eb:blockM T g R k=(zeros,0):=by unfold blockM; rw [if_neg (fun y=>y he),if_pos hb]
  have r8:rd h8 h2.size=zeros.map bv:=by
   rw [d8.at_ (by omega) (by omega),d7.at_ (by omega) (by omega),f6.rd (by omega) fun y=>y,n5.at_ (by omega),n3.rd,zeros,List.map_replicate]; rfl
  have el:(zeros.map bv).length=512:=by rw [List.length_map]; exact List.length_replicate
  refine K2 h8 _ _ _ I8 F8 (by omega) l8 o8 (by rw [eb]) ?_ fun p hp=>by cases hp; show ¬ h2.size=h3.size; omega
  rw [eb]
  have w8:Own h8 h2.size:=d8.ow (d7.ow (f6.own (by omega) (fun y=>y) (n5.ow n3.own)))
  refine ⟨by rw [el],rfl,Nat.le_refl _,w8,Nat.le_refl _,?_,?_⟩
  ·show ((rd h8 h2.size).drop 0).take _=_
   rw [r8,List.drop_zero,List.take_length]
  ·show 0+512*1≤(rd h8 h2.size).length
   rw [r8,el]; decide
theorem leaves_spec {h:Heap} {r:Option Addr} {K:Value→Heap→Prop} (hK:∀ h',Newly h h' [.pointer r]→K (.func (.func 135) #[] ⟨[.pointer (some ⟨h.size,0,none⟩)]⟩) h'):C.dir_reader_leaves r h K :=
 dir_reader_leaves.ok (New.intro fun h2 n2=>hK h2 n2)
end Go.Proofs.YtiapingedfnlnaaGreatDoor.Di
namespace Go.Proofs.YtiapingedfnlnaaGreatDoor.Di
open Go Go.Proofs Wx Hp W Ad Tm Spc Re Av Rg Ss
open Hd (ints)
open In (Glo ints_length ints_one)
open Ino (getM Cok getM_length)
open Bm (findM)
open Fi (blockM hv_yield getM_may cok)
open Sk (E nameOk)
theorem leaves_none {y:Value} {cb rb:Nat} {F:Nat→Prop} {t d:Option Addr} {T:TM} {g:G} {n e:Int} {R:List Int} {rest:List Value} {h:Heap} {K:Value→Heap→Prop} (hR:R.length=15) (i:It h F t d T g n R e rest cb rb) (he:e≠0)
  (hK:K (.tuple #[]) h):C.dir_reader_leaves_c1 y (some ⟨cb,0,none⟩) h K:=by
 refine dir_reader_leaves_c1.ok ⟨fun _ hh=>hh=h,fun _ _=>0,rfl,?_⟩
 rintro k h2 rfl
 exact os ⟨_,rdc i.cap rfl,os ⟨_,rda i.r (rdV_e hR),ce (fun y=>absurd y he) fun _=>hK⟩⟩
theorem open_size {T:TM} {g:G} {n:Int} (h:(openM T g n).2=0):0≤(openM T g n).1.getD 2 0∧(openM T g n).1.getD 2 0≤8459264:=by
 obtain ⟨e,e2,_⟩:=openM_ok h
 rw [e]
 obtain ⟨_,_,_,_,a,b,_⟩:=In.mayR_bounds (getM_length T g n) (getM_may e2)
 exact ⟨a,b⟩
theorem ent_at {h:Heap} {a:Option Addr} {es:List E} (Z:SlCells h a (es.flatMap E.v)) {j:Nat} (hj:j<es.length):∃ p,a=some p∧Cells h (p.add (j*3)) (E.v es[j]):=by
 cases a with
 | none =>
  have Z:es.flatMap E.v=[]:=Z
  have:=flat_length E.v 3 es (fun x _=>E.len x)
  rw [Z,List.length_nil] at this
  omega
 | some p =>
  refine ⟨p,rfl,?_⟩
  have:=Cells.part (show Cells h p (es.flatMap E.v) from Z) (j*3) 3
  rw [flat_part E.v 3 _ (fun x _=>E.len x) j hj] at this
  exact this
theorem putaa {b o m n:Nat} {v:Value} {h:Heap} {k:Heap→Prop} (w:Own h b) (hl:o+m+n<(rd h b).length) (H:∀ h',Did b h h' ((rd h b).set (o+m+n) v)→k h'):Put (Addr.add (Addr.add ⟨b,o,none⟩ m) n) v h k:=by
 rw [add_mk]; exact Put.add w hl H
def tail0 : List Value:=[.int .i64 0,.int .i64 0,.slice none 0 0,.slice none 0 0,.int .i64 0,.string (mkStr []),.int .i64 0]
theorem rdV_hit {t:Option Addr} {g:G} {n e:Int} {R:List Int} (hR:R.length=15) {xs:List Value} {c:E} (hx:xs.length=4):put (put (rdV t g n R e++tail0) 23 xs) 27 (E.v c)=rdV t g n R e++(xs++E.v c):=by
 have l:=rdV_len (t:=t) (g:=g) (n:=n) (e:=e) hR
 have lt:tail0.length=7:=rfl
 rw [put_eq _ _ _ (by rw [put_length,List.length_append,l,lt,E.len]; omega),put_eq _ _ _ (by rw [List.length_append,l,lt,hx]; omega),hx,E.len]
 have e1:List.take 23 (rdV t g n R e++tail0)=rdV t g n R e:=List.take_left' l
 have e2:(List.drop (23+4) (rdV t g n R e++tail0)).length=3:=by rw [List.length_drop,List.length_append,l,lt]
 rw [e1]
 generalize hz:List.drop (23+4) (rdV t g n R e++tail0)=zs at e2
 rw [List.take_left' (l₁:=rdV t g n R e++xs) (by rw [List.length_append,l,hx]),List.drop_of_length_le (by rw [List.length_append,List.length_append,l,hx,e2]; omega),List.append_nil,List.append_assoc]
theorem find_at {α:Type} {p:α→Bool} {l:List α} {i:Nat} (hi:i<l.length) (np:(l.take i).find? p=none) (hp:p l[i]=true):l.find? p=some l[i]:=by
 have e:l.find? p=(l.take i++l.drop i).find? p:=by rw [List.take_append_drop]
 rw [e,List.find?_append,np,Option.none_or,List.drop_eq_getElem_cons hi,List.find?_cons_of_pos hp]
theorem rdV_cells {t:Option Addr} {g:G} {n e:Int} {R:List Int} (hR:R.length=15) {k:Nat} {b:Int} {ba:Option Addr} {bl bc:Nat} {ca:Option Addr} {cl cc:Nat} {c:E} :
  (rdV t g n R e++(leafV k b ba bl bc ca cl cc++E.v c))[29]?=some (.int .i64 c.inode)∧(rdV t g n R e++(leafV k b ba bl bc ca cl cc++E.v c))[0]?=some (.pointer t)∧(rdV t g n R e++(leafV k b ba bl bc ca cl cc++E.v c))[24]?=some (.int .i64 b) ∧
   (rdV t g n R e++(leafV k b ba bl bc ca cl cc++E.v c))[25]?=some (.slice ba bl bc)∧(rdV t g n R e++(leafV k b ba bl bc ca cl cc++E.v c))[27]?=some (.int .i64 c.place):=by
 obtain ⟨_,_,_,_,_,_,_,_,_,_,_,_,_,_,_,rfl⟩:=R15 hR
 exact ⟨rfl,rfl,rfl,rfl,rfl⟩
theorem ans_len (bs:List UInt8):(ans bs).1.length≤16:=by
 unfold ans
 split
 ·exact Nat.zero_le _
 ·rename_i hl
  cases hd:Sk.dec 16 bs with
  | none=>exact Nat.zero_le _
  | some hs =>
   have h1:=ents_len hs 0
   have h2:=(Sk.blk_dec (n:=16) (b:=bs) (by have:¬ bs.length≠512:=hl; omega) hd).1
   show (Sk.ents 0 hs).length≤16
   omega
theorem leaf_len (T:TM) (g:G) (R:List Int) (k:Nat):(leafM T g R k).1.cells.length≤16:=ans_len _
structure Fnd (h h':Heap) (t:Option Addr) (fb:Nat) (r:Option (Leaf×E)×Int) (ba:Option Addr) (bl bc:Nat):Prop where
 lo:h.size≤fb
 ow:Own h' fb
 e:(rd h' fb)[22]?=some (.int .i64 r.2)
 ino:(rd h' fb)[29]?=some (.int .i64 (match r.1 with
  | some x=>x.2.inode
  | none=>0))
 hit:∀ x,r.1=some x→(rd h' fb)[0]?=some (.pointer t)∧(rd h' fb)[24]?=some (.int .i64 x.1.block)∧(rd h' fb)[25]?=some (.slice ba bl bc)∧(rd h' fb)[27]?=some (.int .i64 x.2.place)∧Sl h' 1 ba bl bc (x.1.bytes.map bv) (fun b=>h.size≤b∧b≠fb)
theorem Fnd.none {h h':Heap} {t t':Option Addr} {fb:Nat} {e n:Int} {g:G} {R:List Int} (hR:R.length=15) (lo:h.size≤fb) (ow:Own h' fb) (r:rd h' fb=rdV t' g n R e++tail0):Fnd h h' t fb (none,e) none 0 0:=by
 refine ⟨lo,ow,by rw [r]; exact rdV_e hR,?_,fun x hx=>by cases hx⟩
 rw [r]
 obtain ⟨_,_,_,_,_,_,_,_,_,_,_,_,_,_,_,rfl⟩:=R15 hR
 rfl
theorem find_spec {h:Heap} {F:Nat→Prop} {t d:Option Addr} {T:TM} {n:Nat} {i:Int} {s:Tm.Txt} {K:Value→Heap→Prop} (gl:In.Glo h) (dm:Dim n) (x:Tx h F t d T)
  (hK:∀ h' fb ba bl bc,Fr No h h'→Fnd h h' t fb (seekM T (geoN n) i s) ba bl bc→K (.pointer (some ⟨fb,0,none⟩)) h'):C.dir_find t (geoN n).v i (mkStr s) h K:=by
 refine dir_find.ok (New.intro fun h2 n2=>New.intro fun h3 n3=>New.intro fun h4 n4=>New.intro fun h5 n5=>New.intro fun h6 n6=>Put.intro n6.own (by rw [n6.rd]; exact Nat.zero_lt_one) fun h7 d7=>?_)
 have z2:=n2.size
 have z3:=n3.size
 have z4:=n4.size
 have z5:=n5.size
 have z6:=n6.size
 have z7:=d7.size
 have xl:∀ b,F b→b<h.size:=fun b hb=>x.lt hb
 have gl1:=gl.lt
 have F7:Fr No h h7:=(((((n2.fr.new n3).new n4).new n5).new n6).did d7 fun hl=>by omega)
 have g7:rd h7 h.size=(geoN n).v:=(d7.at_ (by omega) (by omega)).trans ((n6.at_ (by omega)).trans ((n5.at_ (by omega)).trans ((n4.at_ (by omega)).trans ((n3.at_ (by omega)).trans n2.rd))))
 have s7:rd h7 h2.size=[.string (mkStr s)]:=(d7.at_ (by omega) (by omega)).trans ((n6.at_ (by omega)).trans ((n5.at_ (by omega)).trans ((n4.at_ (by omega)).trans n3.rd)))
 have q7:rd h7 h3.size=[.pointer none]:=(d7.at_ (by omega) (by omega)).trans ((n6.at_ (by omega)).trans ((n5.at_ (by omega)).trans n4.rd))
 have w7:Own h7 h3.size:=d7.ow (n6.ow (n5.ow n4.own))
 have r7:rd h7 h4.size=rdV none ⟨0,0,0,0,0⟩ 0 (List.replicate 15 0) 0++tail0:=(d7.at_ (by omega) (by omega)).trans ((n6.at_ (by omega)).trans n5.rd)
 have o7:Own h7 h4.size:=d7.ow (n6.ow n5.own)
 have p7:rd h7 h5.size=[.pointer (some ⟨h4.size,0,none⟩)]:=by rw [d7.rd,n6.rd]; rfl
 refine ⟨_,rdc s7 rfl,Ch.Name_spec fun h8 f8=>⟨_,rfl,cnot ?_⟩⟩
 have z8:=f8.size
 have F8:Fr No h h8:=F7.no f8
 have q8:=(f8.rd (b:=h3.size) (by omega) fun y=>y).trans q7
 have r8:=(f8.rd (b:=h4.size) (by omega) fun y=>y).trans r7
 have p8:=(f8.rd (b:=h5.size) (by omega) fun y=>y).trans p7
 have w8:Own h8 h3.size:=f8.own (by omega) (fun y=>y) w7
 have o8:Own h8 h4.size:=f8.own (by omega) (fun y=>y) o7
 refine cs (fun hn=>?_) fun hn=>?_
 rotate_left
 ·-- no name
  have es:seekM T (geoN n) i s=(none,1):=by unfold seekM; rw [if_pos hn]
  rw [es] at hK
  refine ⟨_,rdc p8 rfl,os (putaa o8 (by rw [r8]; decide +revert) fun h9 d9=>⟨_,rdc ((d9.at_ (by omega) (by omega)).trans p8) rfl,Put.intro (d9.ow w8) (by rw [d9.at_ (by omega) (by omega),q8]; exact Nat.zero_lt_one) fun h10 d10=>⟨_,rdc (show rd h10 h3.size=[.pointer (some ⟨h4.size,0,none⟩)] by rw [d10.rd,d9.at_ (by omega) (by omega),q8]; rfl) rfl,?_⟩⟩)⟩
  have z9:=d9.size
  refine hK h10 h4.size none 0 0 ((F8.did d9 fun hl=>by omega).did d10 fun hl=>by omega) (Fnd.none (t':=none) (g:=⟨0,0,0,0,0⟩) (n:=0) (R:=List.replicate 15 0) List.length_replicate (by omega) (d10.ow d9.own) ?_)
  rw [d10.at_ (by omega) (by omega),d9.rd,r8]
  exact rdV_set List.length_replicate
 refine ⟨_,rdc p8 rfl,(geoN n).v,rfl,cellsAll ((f8.rd (by omega) fun y=>y).trans g7),open_spec (gl.no F8) (x.no F8) (cok dm) fun h11 f11=>⟨_,rfl,?_⟩⟩
 have lR:=openM_length T (geoN n) i
 have z11:=f11.size
 have p11:=(f11.rd (b:=h5.size) (by omega) fun y=>y).trans p8
 have r11:=(f11.rd (b:=h4.size) (by omega) fun y=>y).trans r8
 have o11:Own h11 h4.size:=f11.own (by omega) (fun y=>y) o8
 refine ⟨rdc p11 rfl,os (PutRow.add o11 (rdV_len lR) rdV_one (by rw [r11]; decide +revert) fun h12 d12=>?_)⟩
 have z12:=d12.size
 have r12:rd h12 h4.size=rdV t (geoN n) i (openM T (geoN n) i).1 (openM T (geoN n) i).2++tail0:=by
  rw [d12.rd,r11,put_eq _ _ _ (by rw [rdV_len lR]; decide +revert),rdV_len lR]; rfl
 have p12:=(d12.at_ (c:=h5.size) (by omega) (by omega)).trans p11
 refine ⟨_,rdc p12 rfl,os ?_⟩
 rw [show Addr.add ⟨h4.size,0,none⟩ 0=⟨h4.size,0,none⟩ from add_mk ..]
 refine leaves_spec fun h13 n13=>⟨_,rfl,fun L rounds=>?_⟩
 have z13:=n13.size
 have F12:Fr No h h12:=(F8.no f11).did d12 fun hl=>by omega
 have F13:Fr No h h13:=F12.new n13
 have Fb:=beginL_fr h13 L
 have on0:=beginL_on h13 L
 have d0:=beginL_d h13 L
 have zb:=beginL_size h13 L
 have F0:Fr No h (beginL h13 L):=F13.no Fb
 have fb:Fr No h12 (beginL h13 L):=n13.fr.no Fb
 have cb0:rd (beginL h13 L) h12.size=[.pointer (some ⟨h4.size,0,none⟩)]:=(Fb.rd (by omega) fun y=>y).trans n13.rd
 have rb0:=(fb.rd (b:=h4.size) (by omega) fun y=>y).trans r12
 have ob0:Own (beginL h13 L) h4.size:=fb.own (by omega) (fun y=>y) d12.own
 have qb0:rd (beginL h13 L) h3.size=[.pointer none]:=(fb.rd (by omega) fun y=>y).trans ((d12.at_ (by omega) (by omega)).trans ((f11.rd (by omega) fun y=>y).trans q8))
 have wb0:Own (beginL h13 L) h3.size:=fb.own (by omega) (fun y=>y) (d12.ow (f11.own (by omega) (fun y=>y) w8))
 have sb0:rd (beginL h13 L) h2.size=[.string (mkStr s)]:=(fb.rd (by omega) fun y=>y).trans ((d12.at_ (by omega) (by omega)).trans ((f11.rd (by omega) fun y=>y).trans ((f8.rd (by omega) fun y=>y).trans s7)))
 have pb0:=(fb.rd (b:=h5.size) (by omega) fun y=>y).trans p12
 have glb:=gl.no F0
 have xb:=x.no F0
 have I0:It (beginL h13 L) F t d T (geoN n) i (openM T (geoN n) i).1 (openM T (geoN n) i).2 tail0 h12.size h4.size:=⟨glb,xb,cb0,ob0,rb0,fun y=>by have:=xl _ y; omega,by omega,by omega⟩
 generalize hbe:beginL h13 L=hb at *
 show C.dir_reader_leaves_c1 (.func (.yield (h13.size+1)) #[] #[]) (some ⟨h12.size,0,none⟩) hb _
 -- what is behind the loop
 have fin:∀ (hh:Heap) (e:Int),Fr (fun b=>b=h4.size∨b=h13.size+1) hb hh→LoopOn hh (h13.size+1) L .ready none→rd hh h4.size=rdV t (geoN n) i (openM T (geoN n) i).1 e++tail0→Own hh h4.size→seekM T (geoN n) i s=(none,if e=0 then 160 else e) →
   ∃ (st1:LoopState) (pend1:Option Code),LoopOn hh (h13.size+1) L st1 pend1∧st1 ≠ .busy∧pendX pend1 (
    SetL hh (h13.size+1) L .exhausted pend1 fun h25=>∃ (q8:Option Addr),cellOf h25 ⟨h5.size,0,none⟩=some (.pointer q8)∧onSome q8 fun p7=>∃ (n3:Int),cellOf h25 (Addr.add (Addr.add p7 0) 22)=some (.int .i64 n3) ∧
    bif (n3 == 0) then (∃ (q9:Option Addr),cellOf h25 ⟨h5.size,0,none⟩=some (.pointer q9)∧onSome q9 fun p8=>Put (Addr.add (Addr.add p8 0) 22) (.int .i64 160) h25 fun h26=>∃ (q10:Option Addr),cellOf h26 ⟨h5.size,0,none⟩=some (.pointer q10) ∧
     Put ⟨h3.size,0,none⟩ (.pointer q10) h26 fun h27=>EndD h13.size h27 fun h28=>∃ (res2:Option Addr),cellOf h28 ⟨h3.size,0,none⟩=some (.pointer res2)∧K (.pointer res2) h28) else (
     ∃ (q11:Option Addr),cellOf h25 ⟨h5.size,0,none⟩=some (.pointer q11)∧Put ⟨h3.size,0,none⟩ (.pointer q11) h25 fun h29=>EndD h13.size h29 fun h30=>∃ (res3:Option Addr),cellOf h30 ⟨h3.size,0,none⟩=some (.pointer res3)∧K (.pointer res3) h30)) (
    SetL hh (h13.size+1) L .exhausted pend1 fun h31=>EndD h13.size h31 fun h32=>∃ (res4:Option Addr),cellOf h32 ⟨h3.size,0,none⟩=some (.pointer res4)∧K (.pointer res4) h32) (fun _=>False):=by
  intro hh e f on r o es
  have zf:=f.size
  rw [es] at hK
  refine ⟨.ready,none,on,by decide,pend_none (setL_intro (by omega) fun h25 t25=>?_)⟩
  have z25:=t25.size
  have f25:Fr (fun b=>b=h4.size∨b=h13.size+1) hb h25:=f.trans t25.fr fun b _ y => .inr y
  have q25:∀ b,b<hb.size→b≠h4.size→b≠h13.size+1→rd h25 b=rd hb b:=fun b hb' h1 h2=>f25.rd hb' fun y=>y.elim h1 h2
  have w25:∀ b,Own hb b→b≠h4.size→b≠h13.size+1→Own h25 b:=fun b o h1 h2=>f25.own o.lt (fun y=>y.elim h1 h2) o
  have r25:=(t25.fr.rd (b:=h4.size) (by omega) (by omega)).trans r
  have o25:Own h25 h4.size:=t25.fr.own (by omega) (by omega) o
  have p25:=(q25 h5.size (by omega) (by omega) (by omega)).trans pb0
  have a25:=(q25 h3.size (by omega) (by omega) (by omega)).trans qb0
  have b25:=w25 h3.size wb0 (by omega) (by omega)
  -- the pointer is told
  have out:∀ (h26:Heap) (e':Int),h26.size=h25.size→Fr (fun b=>b=h4.size∨b=h13.size+1) hb h26→rd h26 h4.size=rdV t (geoN n) i (openM T (geoN n) i).1 e'++tail0→Own h26 h4.size→rd h26 h3.size=[.pointer none]→Own h26 h3.size→e'=(if e=0 then 160 else e) →
    Put ⟨h3.size,0,none⟩ (.pointer (some ⟨h4.size,0,none⟩)) h26 fun h27=>EndD h13.size h27 fun h28=>∃ (res2:Option Addr),cellOf h28 ⟨h3.size,0,none⟩=some (.pointer res2)∧K (.pointer res2) h28:=fun h26 e' z26 f26 r26 o26 a26 b26 he=>by
   refine Put.intro b26 (by rw [a26]; exact Nat.zero_lt_one) fun h27 d27=>endD_intro ((d27.fr.same _ (by omega) (by omega)).trans ((f26.same _ (by omega) (by omega)).trans d0)) fun h28 z28 f28=>?_
   have z27:=d27.size
   refine ⟨_,rdc (show rd h28 h3.size=[.pointer (some ⟨h4.size,0,none⟩)] by rw [f28.rd (by omega) (by omega),d27.rd,a26]; rfl) rfl,?_⟩
   rw [← he] at hK
   refine hK h28 h4.size none 0 0 (((F0.trans f26 fun b hb y=>by omega).did d27 fun hl=>by omega).trans f28 fun b hb y=>by omega) (Fnd.none lR (by omega) (f28.own (by omega) (by omega) (d27.ow o26)) ((f28.rd (by omega) (by omega)).trans ((d27.at_ (by omega) (by omega)).trans r26)))
  refine ⟨_,rdc p25 rfl,os ⟨_,rdaa r25 (rdV_e lR),ce (fun he=>?_) fun he=>?_⟩⟩
  ·refine ⟨_,rdc p25 rfl,os (putaa o25 (by rw [r25,List.length_append,rdV_len lR]; omega) fun h26 d26=>⟨_,rdc ((d26.at_ (by omega) (by omega)).trans p25) rfl,out h26 160 d26.size (f25.trans d26.fr fun b _ y => .inl y) ?_ d26.own ((d26.at_ (by omega) (by omega)).trans a25) (d26.ow b25) (by rw [if_pos he])⟩)⟩
   rw [d26.rd,r25]; exact rdV_set lR
  ·exact ⟨_,rdc p25 rfl,out h25 e rfl f25 r25 o25 a25 b25 (by rw [if_neg he])⟩
 by_cases he0:(openM T (geoN n) i).2=0
 rotate_left
 ·refine leaves_none lR I0 he0 (fin hb _ (Fr.refl _ _) on0 I0.r I0.ob ?_)
  rw [if_neg he0]
  unfold seekM; rw [if_neg (by rw [hn]; decide),if_pos he0]
 obtain ⟨R0,R1⟩:=open_size he0
 have es0:seekM T (geoN n) i s=seekGo T (geoN n) (openM T (geoN n) i).1 s ((openM T (geoN n) i).1.getD 2 0 / 512).toNat 0:=by
  unfold seekM; rw [if_neg (by rw [hn]; decide),if_neg (fun y=>y he0)]
 rw [he0] at I0
 generalize hR:(openM T (geoN n) i).1=R at *
 generalize hm:(R.getD 2 0 / 512).toNat=m at *
 refine leaves_iter lR R0 R1 (fun k hh=>It hh F t d T (geoN n) i R 0 tail0 h12.size h4.size∧Fr (fun b=>b=h4.size∨b=h13.size+1) hb hh∧LoopOn hh (h13.size+1) L .ready none∧∃ q,m=k+q∧seekM T (geoN n) i s=seekGo T (geoN n) R s q k)
  (fun k hh J=>J.1) (fun k hh h' ba bl bc ca cl cc J hk he f' r' o' lf=>?_) ⟨I0,Fr.refl _ _,on0,m,by omega,es0⟩ (fun hh J=>?_) fun k hh h' J hk he f' r' o'=>?_
 ·-- an index
  obtain ⟨I,f,on,q,eq,es⟩:=J
  rw [hm] at hk
  obtain ⟨q,rfl⟩:∃ q',q=q'+1:=⟨q - 1,by omega⟩
  have zf:=f.size
  have zf':=f'.size
  have on':LoopOn h' (h13.size+1) L .ready none:=loopOn_fr on f' (by omega)
  refine rounds (leafV k (leafM T (geoN n) R k).1.block ba bl bc ca cl cc) h' _ on' (NewRow.intro rfl leafV_one rfl fun h16 n16=>⟨loopOn_fr on' n16.fr fun y=>y,setL_intro (by have:=n16.size; omega) fun h17 t17=>?_⟩)
  have z16:=n16.size
  have z17:=t17.size
  have f17:Fr (fun b=>b=h4.size∨b=h13.size+1) hb h17:=((f.trans f' fun b _ y => .inl y).new n16).trans t17.fr fun b _ y => .inr y
  have v17:rd h17 h'.size=leafV k (leafM T (geoN n) R k).1.block ba bl bc ca cl cc:=(t17.fr.rd (by omega) (by omega)).trans n16.rd
  have lf17:Lf hh h17 (leafM T (geoN n) R k).1 ba bl bc ca cl cc:=(lf.fr n16.fr fun _ _ _ y=>y).fr t17.fr fun b _ hb y=>by omega
  have lc:(leafM T (geoN n) R k).1.cells.length=cl:=by
   have:=lf17.c.1
   rw [flat_length E.v 3 _ (fun x _=>E.len x)] at this
   omega
  refine ⟨_,_,_,rda v17 rfl,fun j hx=>∃ p:Nat,j=p∧p≤cl∧Fr No h17 hx∧((leafM T (geoN n) R k).1.cells.take p).find? (fun c=>c.name == s)=none,fun j _=>((cl:Int) - j).toNat,⟨0,rfl,Nat.zero_le _,Fr.refl _ _,rfl⟩,?_⟩
  rintro j h18 ⟨p,rfl,hp,f18,np⟩
  have z18:=f18.size
  have f18':Fr (fun b=>b=h4.size∨b=h13.size+1) hb h18:=f17.no f18
  have on18:LoopOn h18 (h13.size+1) L .busy none:=loopOn_fr t17.on f18 fun y=>y
  have I17:It h17 F t d T (geoN n) i R 0 tail0 h12.size h4.size:=by
   have A:It h' F t d T (geoN n) i R 0 tail0 h12.size h4.size:=⟨I.gl.fr f' fun b hb y=>by omega,I.x.fr f' fun b hb y=>by have:=xl b hb; omega,(f'.rd I.clt (by omega)).trans I.cap,o',r',I.nf,I.b1,I.ne⟩
   exact (A.no n16.fr).fr t17.fr (by omega) (by omega) (fun b hb y=>by have:=xl b hb; omega) fun b hb y=>by omega
  refine cd (fun hlt=>?_) fun hlt=>?_
  ·have hlt':p<(leafM T (geoN n) R k).1.cells.length:=by omega
   obtain ⟨a,ea,ca⟩:=ent_at (lf17.fr f18 fun _ _ _ y=>y).c.cells hlt'
   subst ea
   refine ⟨⟨by omega,hlt⟩,os ⟨_,rfl,ca,NewRow.intro rfl (E.one _) rfl fun h20 n20=>⟨_,rda n20.rd rfl,_,rdc (show rd h20 h2.size=[.string (mkStr s)] from ((f18'.new n20).rd (by omega) (by omega)).trans sb0) rfl,?_⟩⟩⟩
   rw [toList_mkStr,toList_mkStr]
   have z20:=n20.size
   have f20:Fr (fun b=>b=h4.size∨b=h13.size+1) hb h20:=f18'.new n20
   refine cs (fun heq=>?_) fun hne=>?_
   ·-- it is here
    have I20:=(I17.no f18).no n20.fr
    have ec:cellOfName (leafM T (geoN n) R k).1 s=some ((leafM T (geoN n) R k).1.cells[p]):=by
     unfold cellOfName
     exact find_at hlt' np heq
    have es2:seekM T (geoN n) i s=(some ((leafM T (geoN n) R k).1,(leafM T (geoN n) R k).1.cells[p]),0):=by
     rw [es]; unfold seekGo; rw [if_neg (fun y=>y he),ec]
    rw [es2] at hK
    have pc20:=(f20.rd (b:=h5.size) (by omega) (by omega)).trans pb0
    have v20:=(n20.at_ (by omega)).trans ((f18.rd (by omega) fun y=>y).trans v17)
    refine ⟨_,rdc pc20 rfl,_,rdc pc20 rfl,_,rfl,cellsAll v20,_,rfl,cellsAll n20.rd,os (PutRow.add I20.ob rfl leafV_one (by rw [I20.r,List.length_append,rdV_len lR]; decide) fun h21 d21=>?_)⟩
    have z21:=d21.size
    refine ⟨rdc ((d21.at_ (by omega) (by omega)).trans pc20) rfl,⟨rfl,cellsAll ((d21.at_ (by omega) (by omega)).trans n20.rd)⟩,os (PutRow.add d21.own rfl (E.one _) (by rw [d21.rd,put_length,I20.r,List.length_append,rdV_len lR]; decide) fun h22 d22=>?_)⟩
    have z22:=d22.size
    have r22:rd h22 h4.size=rdV t (geoN n) i R 0++(leafV k (leafM T (geoN n) R k).1.block ba bl bc (some a) cl cc++E.v (leafM T (geoN n) R k).1.cells[p]):=by
     rw [d22.rd,d21.rd,I20.r]; exact rdV_hit lR rfl
    have q22:=(d22.at_ (c:=h3.size) (by omega) (by omega)).trans ((d21.at_ (c:=h3.size) (by omega) (by omega)).trans ((f20.rd (by omega) (by omega)).trans qb0))
    have w22:Own h22 h3.size:=d22.ow (d21.ow (f20.own (by omega) (by omega) wb0))
    refine ⟨_,rdc ((d22.at_ (by omega) (by omega)).trans ((d21.at_ (by omega) (by omega)).trans pc20)) rfl,Put.intro w22 (by rw [q22]; exact Nat.zero_lt_one) fun h23 d23=>?_⟩
    have z23:=d23.size
    have on23:LoopOn h23 (h13.size+1) L .busy none:=loopOn_fr (loopOn_fr (loopOn_fr (loopOn_fr on18 n20.fr fun y=>y) d21.fr (by omega)) d22.fr (by omega)) d23.fr (by omega)
    refine ⟨on23,.inr ⟨rfl,.done,some .ret,setLoop_on (loopOn_lt on23) L _ _,by decide,?_⟩⟩
    have t24:=turned (loopOn_lt on23) L .done (some .ret)
    generalize setLoop h23 (h13.size+1) L .done (some .ret)=h24 at t24
    have z24:=t24.size
    refine pend_ret (setL_intro (by omega) fun h25 t25=>?_)
    have z25:=t25.size
    have f23:Fr (fun b=>b=h4.size∨b=h3.size∨b=h13.size+1) hb h25:=((((f20.mono fun b _ y=>by omega).trans d21.fr fun b _ y=>by omega).trans d22.fr fun b _ y=>by omega).trans d23.fr fun b _ y=>by omega).trans (t24.fr.trans t25.fr fun b _ y=>y) fun b _ y=>by omega
    refine endD_intro ((f23.same _ (by omega) (by omega)).trans d0) fun h26 z26 f26=>⟨_,rdc (show rd h26 h3.size=[.pointer (some ⟨h4.size,0,none⟩)] by rw [f26.rd (by omega) (by omega),t25.fr.rd (by omega) (by omega),t24.fr.rd (by omega) (by omega),d23.rd,q22]; rfl) rfl,?_⟩
    have F26:Fr No h h26:=(F0.trans f23 fun b hb y=>by omega).trans f26 fun b hb y=>by omega
    have r26:rd h26 h4.size=rdV t (geoN n) i R 0++(leafV k (leafM T (geoN n) R k).1.block ba bl bc (some a) cl cc++E.v (leafM T (geoN n) R k).1.cells[p]):=by
     rw [f26.rd (by omega) (by omega),t25.fr.rd (by omega) (by omega),t24.fr.rd (by omega) (by omega),d23.at_ (by omega) (by omega)]; exact r22
    have o26:Own h26 h4.size:=f26.own (by omega) (by omega) (t25.fr.own (by omega) (by omega) (t24.fr.own (by omega) (by omega) (d23.ow d22.own)))
    obtain ⟨c29,c0,c24,c25,c27⟩:=rdV_cells (t:=t) (g:=geoN n) (n:=i) (e:=0) lR (k:=k) (b:=(leafM T (geoN n) R k).1.block) (ba:=ba) (bl:=bl) (bc:=bc) (ca:=some a) (cl:=cl) (cc:=cc) (c:=(leafM T (geoN n) R k).1.cells[p])
    refine hK h26 h4.size ba bl bc F26 ⟨by omega,o26,by rw [r26]; exact rdV_e lR,by rw [r26]; exact c29,fun y hy=>?_⟩
    ·cases hy
     refine ⟨by rw [r26]; exact c0,by rw [r26]; exact c24,by rw [r26]; exact c25,by rw [r26]; exact c27,?_⟩
     ·have S:=((((((lf17.s.fr f18 fun _ _ _ y=>y).fr n20.fr fun _ _ _ y=>y).mono (G:=From hh.size) fun _ y=>y).fr d21.fr fun b _ hb y=>by have hb:hh.size≤b:=hb; omega).fr d22.fr fun b _ hb y=>by have hb:hh.size≤b:=hb; omega).fr d23.fr fun b _ hb y=>by have hb:hh.size≤b:=hb; omega)
      refine (((S.fr t24.fr fun b _ hb y=>?_).fr t25.fr fun b _ hb y=>?_).fr f26 fun b _ hb y=>?_).mono fun b hb=>?_
      ·have hb:hh.size≤b:=hb; omega
      ·have hb:hh.size≤b:=hb; omega
      ·have hb:hh.size≤b:=hb; omega
      ·have hb:hh.size≤b:=hb
       show h.size≤b∧b≠h4.size
       omega
   ·have l16:=leaf_len T (geoN n) R k
    rw [wrap_i64 (by omega) (by omega)]
    refine ⟨⟨p+1,by omega,by omega,f18.no n20.fr,?_⟩,falls hlt⟩
    rw [List.take_succ_eq_append_getElem hlt',List.find?_append,np,Option.none_or,List.find?_cons_of_neg (by rw [hne]; decide)]; rfl
  ·have:p=cl:=by omega
   subst this
   refine ⟨on18,.inl ⟨rfl,?_⟩⟩
   have t24:=turned (loopOn_lt on18) L .ready none
   generalize setLoop h18 (h13.size+1) L .ready none=h24 at t24
   refine ⟨(I17.no f18).fr t24.fr (by omega) (by omega) (fun b hb y=>by have:=xl b hb; omega) fun b hb y=>by omega,f18'.trans t24.fr fun b _ y => .inr y,t24.on,q,by omega,?_⟩
   rw [es]
   conv=>lhs; unfold seekGo
   rw [List.take_of_length_le (by omega)] at np
   rw [if_neg (fun y=>y he),show cellOfName (leafM T (geoN n) R k).1 s=none from np]
 ·-- it is nowhere
  obtain ⟨I,f,on,q,eq,es⟩:=J
  rw [hm] at eq es
  have:q=0:=by omega
  subst this
  exact fin hh 0 f on I.r I.ob (by rw [es,if_pos rfl]; rfl)
 ·-- an index that does not read
  obtain ⟨I,f,on,q,eq,es⟩:=J
  rw [hm] at hk
  obtain ⟨q,rfl⟩:∃ q',q=q'+1:=⟨q - 1,by omega⟩
  have zf:=f.size
  refine fin h' _ (f.trans f' fun b _ y => .inl y) (loopOn_fr on f' (by omega)) r' o' ?_
  rw [es,if_neg he]; unfold seekGo; rw [if_pos he]
end Go.Proofs.YtiapingedfnlnaaGreatDoor.Di
namespace Go.Proofs.YtiapingedfnlnaaGreatDoor.Di
open Go Go.Proofs Wx Hp W Ad Tm Spc Re Av Rg Ss
open Hd (ints)
open In (Glo ints_length ints_one)
open Ino (getM Cok getM_length)
open Bm (findM)
open Fi (blockM hv_yield getM_may cok)
open Sk (E nameOk)
theorem Find_spec {h:Heap} {F:Nat→Prop} {t d:Option Addr} {T:TM} {n:Nat} {i:Int} {s:Tm.Txt} {K:Value→Heap→Prop} (gl:In.Glo h) (dm:Dim n) (x:Tx h F t d T)
  (hK:∀ h',Fr No h h'→K (.tuple #[.int .i64 (findD T (geoN n) i s).1,.int .i64 (findD T (geoN n) i s).2]) h'):C.dir_Find t (geoN n).v i (mkStr s) h K:=by
 refine dir_Find.ok (New.intro fun h2 n2=>⟨(geoN n).v,rfl,cellsAll n2.rd,find_spec (gl.no n2.fr) dm (x.no n2.fr) fun h3 fb ba bl bc f3 A=>⟨_,rfl,os ⟨_,rdaa rfl A.ino,os ⟨_,rdaa rfl A.e,hK h3 (n2.fr.no f3)⟩⟩⟩⟩)
theorem has_spec {h:Heap} {g:G} {i:Int} {K:Value→Heap→Prop} (hK:∀ h',Fr No h h'→K (.bool (hasI g i)) h'):C.dir_has g.v i h K:=by
 refine dir_has.ok (New.intro fun h2 n2=>cd (fun h1=>⟨_,rda n2.rd rfl,?_⟩) fun h1=>?_)
 ·have:hasI g i=decide (i<g.count):=by unfold hasI; rw [decide_eq_true (show 1≤i from h1),Bool.true_and]
  rw [this] at hK; exact hK h2 n2.fr
 ·have:hasI g i=false:=by unfold hasI; rw [decide_eq_false (show ¬ 1≤i from h1),Bool.false_and]
  rw [this] at hK; exact hK h2 n2.fr
theorem seek_hit {T:TM} {g:G} {n:Int} {s:Tm.Txt} {x:Leaf×E} (h:(seekM T g n s).1=some x):(seekM T g n s).2=0∧x.1.bytes.length=512:=by
 unfold seekM at h ⊢
 split at h
 ·cases h
 ·rename_i y
  rw [if_neg y]
  split at h
  ·cases h
  ·rename_i z
   rw [if_neg z]
   obtain ⟨a,_,b,j,_,_,e,_⟩:=seekGo_some _ _ _ h
   refine ⟨a,?_⟩
   rw [e] at b ⊢
   have b:x.2 ∈ (ans (blockM T g (openM T g n).1 j).1).1:=b
   show (blockM T g (openM T g n).1 j).1.length=512
   unfold ans at b
   split at b
   ·cases b
   ·rename_i w; exact Classical.byContradiction w
theorem seek_none {T:TM} {g:G} {n:Int} {s:Tm.Txt} (h:(seekM T g n s).1=none):(seekM T g n s).2≠0:=by
 unfold seekM at h ⊢
 split at h
 ·rename_i y; rw [if_pos y]; show (1:Int)≠0; decide
 ·rename_i y
  rw [if_neg y]
  split at h
  ·rename_i z; rw [if_pos z]; exact z
  ·rename_i z; rw [if_neg z]; exact seekGo_none _ _ h
theorem fput_spec {hh:Heap} {F:Nat→Prop} {t d:Option Addr} {T:TM} {fb:Nat} {x:Leaf×E} {e:Int} {bs:Tm.Txt} {ba:Option Addr} {bl bc:Nat} {K:Value→Heap→Prop} (X:Tx hh F t d T) (c0:(rd hh fb)[0]?=some (.pointer t)) (c24:(rd hh fb)[24]?=some (.int .i64 x.1.block)) (c25:(rd hh fb)[25]?=some (.slice ba bl bc)) (c29:(rd hh fb)[29]?=some (.int .i64 x.2.inode))
  (nf:¬ F fb) (B:StrAt hh ba bl bs) (hl:bl≤140737488355328) (ha:∀ p,ba=some p→¬ F p.block) (hu:T.undo.length<1000000000)
  (hK:∀ h' F',Fr F hh h'→Gw hh F h' F'→Tx h' F' t d (putD T x (e,bs)).1→K (.tuple #[.int .i64 (putD T x (e,bs)).2.1,.int .i64 (putD T x (e,bs)).2.2]) h'):C.dir_finder_put (some ⟨fb,0,none⟩) e hh K:=by
 refine dir_finder_put.ok (ce (fun he=>os ⟨_,rdaa rfl c0,os ⟨_,rdaa rfl c24,os ⟨_,_,_,rdaa rfl c25,Tm.Write_spec X B hl ha hu fun h2 F2 f2 g2 X2=>⟨_,rfl,?_⟩⟩⟩⟩) fun he=>?_)
 ·have e0:putD T x (e,bs)=if (T.write x.1.block bs).2≠0 then ((T.write x.1.block bs).1,0,(T.write x.1.block bs).2) else ((T.write x.1.block bs).1,x.2.inode,0):=by unfold putD; rw [if_neg (fun y=>y he)]
  rw [e0] at hK
  unfold dir_finder_put.k1
  have hb:fb<hh.size:=rd_lt c0
  refine cn (fun hw=>?_) fun hw=>os ⟨_,rdaa (f2.rd hb nf) c29,?_⟩
  ·rw [if_pos hw] at hK; exact hK h2 F2 f2 g2 X2
  ·rw [if_neg (fun y=>y hw)] at hK; exact hK h2 F2 f2 g2 X2
 ·have e0:putD T x (e,bs)=(T,0,e):=by unfold putD; rw [if_pos he]
  rw [e0] at hK
  unfold dir_finder_put.k1
  exact ct (by simpa using he) (hK hh F (Fr.refl _ _) (Gw.refl (Nat.le_refl _) fun b hb=>X.lt hb) X)
theorem cell_put {h h3:Heap} {F:Nat→Prop} {t d:Option Addr} {T:TM} {x:Leaf×E} {fb b o bl bc:Nat} {r:Int×Tm.Txt} {K:Value→Heap→Prop} (X:Tx h F t d T) (f3:Fr No h h3) {q:Option (Leaf×E)×Int} (A:Fnd h h3 t fb q (some ⟨b,o,none⟩) bl bc) (hq:q.1=some x) (hx:x.1.bytes.length=512) (hr:r.2.length=512) (hu:T.undo.length<1000000000) {h4:Heap} (w4:Wrote b h3 h4 (put (rd h3 b) o (r.2.map bv)))
  (hK:∀ h' F',Fr F h h'→Gw h F h' F'→Tx h' F' t d (putD T x r).1→K (.tuple #[.int .i64 (putD T x r).2.1,.int .i64 (putD T x r).2.2]) h') :
  C.dir_finder_put (some ⟨fb,0,none⟩) r.1 h4 fun r5 h7=>∃ (n6:Int) (n7:Int),r5 = .tuple #[.int .i64 n6,.int .i64 n7]∧K (.tuple #[.int .i64 n6,.int .i64 n7]) h7:=by
 obtain ⟨c0,c24,c25,c27,S⟩:=A.hit x hq
 have hb:h.size≤b∧b≠fb:=S.2.2.1
 have hlt:=S.wr.1.lt
 have S4:=Ss.Sl.all S (bs':=r.2) (by rw [hr,hx]) w4
 have r4:rd h4 fb=rd h3 fb:=w4.fr.rd A.ow.lt (fun y=>hb.2 y.symm)
 have lo:=A.lo
 have ino:=A.ino
 rw [hq] at ino
 have xl:∀ b,F b→b<h.size:=fun b hb=>X.lt hb
 have X4:Tx h4 F t d T:=(X.no f3).fr w4.fr fun y hy e=>by have:=xl y hy; omega
 have l4:=S4.str.1
 rw [hr] at l4
 refine fput_spec (x:=x) (bs:=r.2) X4 (by rw [r4]; exact c0) (by rw [r4]; exact c24) (by rw [r4]; exact c25) (by rw [r4]; exact ino) (fun y=>by have:=xl _ y; omega) S4.str (by omega) (fun p hp y=>by cases hp; have y:F b:=y; have:=xl b y; omega) hu fun h5 F5 f5 g5 X5=>⟨_,_,rfl,?_⟩
 have hs3:=f3.size
 have hs4:=w4.fr.size
 refine hK h5 F5 (((f3.mono fun _ _ y=>y.elim).trans w4.fr fun y hy e=>by omega).trans f5 fun _ _ y=>y) ?_ X5
 exact (Gw.refl (show h.size≤h4.size by omega) fun b hb=>xl b hb).trans g5 (by omega)
theorem Remove_spec {h:Heap} {F:Nat→Prop} {t d:Option Addr} {T:TM} {n:Nat} {i:Int} {s:Tm.Txt} {K:Value→Heap→Prop} (gl:In.Glo h) (dm:Dim n) (x:Tx h F t d T) (hu:T.undo.length<1000000000)
  (hK:∀ h' F',Fr F h h'→Gw h F h' F'→Tx h' F' t d (removeD T (geoN n) i s).1→K (.tuple #[.int .i64 (removeD T (geoN n) i s).2.1,.int .i64 (removeD T (geoN n) i s).2.2]) h'):C.dir_Remove t (geoN n).v i (mkStr s) h K:=by
 refine dir_Remove.ok (New.intro fun h2 n2=>⟨(geoN n).v,rfl,cellsAll n2.rd,find_spec (gl.no n2.fr) dm (x.no n2.fr) fun h3 fb ba bl bc f3 A=>⟨_,rfl,os ⟨_,rdaa rfl A.e,cn (fun he=>os ⟨_,rdaa rfl A.e,?_⟩) fun he=>?_⟩⟩⟩)
 ·have e0:removeD T (geoN n) i s=(T,0,(seekM T (geoN n) i s).2):=by
   unfold removeD
   cases hs:(seekM T (geoN n) i s).1 with
   | none=>rfl
   | some x=>exact absurd (seek_hit hs).1 he
  rw [e0] at hK
  exact hK h3 F ((n2.fr.no f3).mono fun _ _ y=>y.elim) (Gw.refl (n2.fr.no f3).size fun b hb=>x.lt hb) (x.no (n2.fr.no f3))
 ·cases hs:(seekM T (geoN n) i s).1 with
  | none=>exact absurd he (seek_none hs)
  | some y =>
   have e0:removeD T (geoN n) i s=putD T y (clrA y.1.bytes y.2.place):=by unfold removeD; rw [hs]
   rw [e0] at hK
   obtain ⟨_,l512⟩:=seek_hit hs
   obtain ⟨c0,c24,c25,c27,S⟩:=A.hit y hs
   have hsz:=n2.size
   cases ba with
   | none=>have:=S.str.1; have l0:bl=0:=S.2.1; omega
   | some p =>
    have ep:=S.mk
    obtain ⟨b,o,sp⟩:=p
    have ep:sp=none:=S.2.1
    subst ep
    refine os ⟨_,_,_,rdaa rfl c25,os ⟨_,rdaa rfl c27,Ss.Clear_spec S fun h4 w4=>⟨_,rfl,?_⟩⟩⟩
    refine cell_put (r:=clrA y.1.bytes y.2.place) (x.no n2.fr) f3 A hs l512 (by rw [clrA_length]; exact l512) hu w4 fun h5 F5 f5 g5 X5=>?_
    exact hK h5 F5 ((n2.fr.mono fun _ _ y=>y.elim).trans f5 fun _ _ y=>y) ((Gw.refl (show h.size≤h2.size by omega) fun b hb=>x.lt hb).trans g5 (by omega)) X5
theorem Replace_spec {h:Heap} {F:Nat→Prop} {t d:Option Addr} {T:TM} {n:Nat} {i v:Int} {s:Tm.Txt} {K:Value→Heap→Prop} (gl:In.Glo h) (dm:Dim n) (x:Tx h F t d T) (hu:T.undo.length<1000000000)
  (hK:∀ h' F',Fr F h h'→Gw h F h' F'→Tx h' F' t d (replaceD T (geoN n) i s v).1→K (.tuple #[.int .i64 (replaceD T (geoN n) i s v).2.1,.int .i64 (replaceD T (geoN n) i s v).2.2]) h'):C.dir_Replace t (geoN n).v i (mkStr s) v h K:=by
 have same:∀ h' e,Fr No h h'→replaceD T (geoN n) i s v=(T,0,e)→K (.tuple #[.int .i64 0,.int .i64 e]) h':=fun h' e f e0=>by
  rw [e0] at hK
  exact hK h' F (f.mono fun _ _ y=>y.elim) (Gw.refl f.size fun b hb=>x.lt hb) (x.no f)
 refine dir_Replace.ok (New.intro fun h2 n2=>Ch.Name_spec fun h3 f3=>⟨_,rfl,cnot ?_⟩)
 have F3:=n2.fr.no f3
 refine cs (fun hn=>?_) fun hn=>same h3 1 F3 (by unfold replaceD; rw [if_pos hn])
 have g3:=(f3.rd n2.own.lt fun y=>y).trans n2.rd
 refine ⟨(geoN n).v,rfl,cellsAll g3,has_spec fun h4 f4=>⟨_,rfl,cnot ?_⟩⟩
 have F4:=F3.no f4
 refine cs (fun hh=>?_) fun hh=>same h4 110 F4 (by unfold replaceD; rw [if_neg (by rw [hn]; decide),if_pos hh])
 have z2:=n2.size
 have z3:=f3.size
 have e0:replaceD T (geoN n) i s v=match (seekM T (geoN n) i s).1 with
  | some x=>putD T x (putA x.1.bytes ⟨x.2.place,s,v⟩)
  | none=>(T,0,(seekM T (geoN n) i s).2):=by
  unfold replaceD
  rw [if_neg (by rw [hn]; decide),if_neg (by rw [hh]; decide)]
  cases (seekM T (geoN n) i s).1 <;> rfl
 refine ⟨(geoN n).v,rfl,cellsAll ((f4.rd (by omega) fun y=>y).trans g3),find_spec (gl.no F4) dm (x.no F4) fun h5 fb ba bl bc f5 A=>⟨_,rfl,os ⟨_,rdaa rfl A.e,cn (fun he=>os ⟨_,rdaa rfl A.e,same h5 _ (F4.no f5) ?_⟩) fun he=>?_⟩⟩⟩
 ·rw [e0]
  cases hs:(seekM T (geoN n) i s).1 with
  | none=>rfl
  | some x=>exact absurd (seek_hit hs).1 he
 ·cases hs:(seekM T (geoN n) i s).1 with
  | none=>exact absurd he (seek_none hs)
  | some y =>
   rw [hs] at e0
   have e0:replaceD T (geoN n) i s v=putD T y (putA y.1.bytes ⟨y.2.place,s,v⟩):=e0
   rw [e0] at hK
   obtain ⟨_,l512⟩:=seek_hit hs
   obtain ⟨c0,c24,c25,c27,S⟩:=A.hit y hs
   have hs4:=F4.size
   have gl1:=gl.lt
   cases ba with
   | none=>have:=S.str.1; have l0:bl=0:=S.2.1; omega
   | some p =>
    obtain ⟨b,o,sp⟩:=p
    have ep:sp=none:=S.2.1
    subst ep
    have hb:h4.size≤b∧b≠fb:=S.2.2.1
    refine os ⟨_,_,_,rdaa rfl c25,os ⟨_,rdaa rfl c27,Ss.Put_spec (e:=⟨y.2.place,s,v⟩) (gl.no (F4.no f5)) (by omega) S fun h6 w6=>⟨_,rfl,?_⟩⟩⟩
    refine cell_put (r:=putA y.1.bytes ⟨y.2.place,s,v⟩) (x.no F4) f5 A hs l512 (by rw [putA_length]; exact l512) hu w6 fun h7 F7 f7 g7 X7=>?_
    exact hK h7 F7 ((F4.mono fun _ _ y=>y.elim).trans f7 fun _ _ y=>y) ((Gw.refl hs4 fun b hb=>x.lt hb).trans g7 (by omega)) X7
end Go.Proofs.YtiapingedfnlnaaGreatDoor.Di
namespace Go.Proofs.YtiapingedfnlnaaGreatDoor.Di
open Go Go.Proofs Wx Hp W Ad Tm Spc Re Av Rg Ss
open Hd (ints)
open In (Glo ints_length ints_one pairs15)
open Ino (getM putM Cok getM_length)
open Bm (findM addM setM walkA write_un addM_un)
open Fi (blockM hv_yield getM_may cok addM_length undoM putM_un)
open Sk (E nameOk)
theorem set_two (R:List Int) {i:Nat} (v:Int) (h:i≠2):(R.set i v).getD 2 0=R.getD 2 0:=by
 rw [List.getD_eq_getElem?_getD,List.getElem?_set_ne h,← List.getD_eq_getElem?_getD]
theorem setM_two (T:TM) (R:List Int) (s:Nat×Nat) (a:Int) (b:Tm.Txt) (v:Int):(setM T R s a b v).1.2.getD 2 0=R.getD 2 0:=by
 unfold setM
 split
 ·exact set_two R v (by omega)
 ·split
  ·exact set_two R v (by decide)
  ·split
   ·exact set_two R v (by decide)
   ·rfl
theorem walkA_two (g:G):∀ (l:List (Nat×Nat)) (T:TM) (R:List Int) (a:Int),(walkA g l T R a).1.2.getD 2 0=R.getD 2 0
 | [],_,_,_=>rfl
 | s::r,T,R,a=>by
  unfold walkA
  split
  ·rfl
  ·split
   ·split
    ·rfl
    ·exact walkA_two g r T R _
   ·split
    ·rfl
    ·split
     ·exact setM_two ..
     ·split
      ·exact setM_two ..
      ·split
       ·exact setM_two ..
       ·rw [walkA_two g r]; exact setM_two ..
theorem addM_two {T:TM} {g:G} {R:List Int} {k:Int} (h:(addM T g R k).2.2.2=0):(addM T g R k).2.1.getD 2 0=R.getD 2 0:=by
 unfold addM at h ⊢
 split
 ·rename_i y; rw [if_pos y] at h; exact absurd (show (101:Int)=0 from h) (by decide)
 ·rename_i y
  rw [if_neg y] at h
  split
  ·rename_i z; rw [if_pos z] at h; exact absurd h z
  ·exact walkA_two g _ T R 0
def addTail (T1:TM) (g:G) (n:Int) (R Y:List Int) (v e place:Int) (s:Tm.Txt) (i:Int):TM×Int :=
 if e≠0 then (T1,e) else
 if (T1.read v).2≠0 then (T1,(T1.read v).2) else
 if (putA (T1.read v).1 ⟨max place 0,s,i⟩).1≠0 then (T1,(putA (T1.read v).1 ⟨max place 0,s,i⟩).1) else
 if (T1.write v (putA (T1.read v).1 ⟨max place 0,s,i⟩).2).2≠0 then T1.write v (putA (T1.read v).1 ⟨max place 0,s,i⟩).2 else
 if (if place<0 then Y.set 2 (Y.getD 2 0+512) else Y)=R then ((T1.write v (putA (T1.read v).1 ⟨max place 0,s,i⟩).2).1,0) else
  putM (T1.write v (putA (T1.read v).1 ⟨max place 0,s,i⟩).2).1 g n (if place<0 then Y.set 2 (Y.getD 2 0+512) else Y)
theorem addAt_tail (T:TM) (g:G) (n:Int) (R:List Int) (index place:Int) (s:Tm.Txt) (i:Int):addAt T g n R index place s i=addTail (addM T g R index).1 g n R (addM T g R index).2.1 (addM T g R index).2.2.1 (addM T g R index).2.2.2 place s i:=rfl
theorem addTail_un {T1:TM} {g:G} {n:Int} {R Y:List Int} {v e place:Int} {s:Tm.Txt} {i:Int}:(addTail T1 g n R Y v e place s i).1.undo.length≤T1.undo.length+2:=by
 have w:=write_un T1 v (putA (T1.read v).1 ⟨max place 0,s,i⟩).2
 have p:=fun X=>putM_un (T:=(T1.write v (putA (T1.read v).1 ⟨max place 0,s,i⟩).2).1) (g:=g) (n:=n) (R:=X)
 unfold addTail
 generalize (if place<0 then Y.set 2 (Y.getD 2 0+512) else Y)=Z
 split
 ·exact Nat.le_add_right _ _
 ·split
  ·exact Nat.le_add_right _ _
  ·split
   ·exact Nat.le_add_right _ _
   ·split
    ·omega
    ·split
     ·show (T1.write v (putA (T1.read v).1 ⟨max place 0,s,i⟩).2).1.undo.length≤_; omega
     ·have:=p Z; omega
theorem cellsEq_ints : ∀ {R S:List Int},R.length=S.length→cellsEq (ints R) (ints S)=decide (R=S)
 | [],[],_=>rfl
 | [],_::_,h=>by cases h
 | _::_,[],h=>by cases h
 | a::r,b::s,h=>by
  have ih:=cellsEq_ints (R:=r) (S:=s) (Nat.succ.inj h)
  show ((a == b) && cellsEq (ints r) (ints s))=_
  rw [ih,Bool.eq_iff_iff,Bool.and_eq_true,beq_iff_eq,decide_eq_true_eq,decide_eq_true_eq,List.cons.injEq]
theorem cellsEq15 {R S:List Int} (hR:R.length=15) (hS:S.length=15):cellsEq (ints R) (ints S)=decide (R=S):=cellsEq_ints (hR.trans hS.symm)
theorem radd_k1 {h hh:Heap} {F:Nat→Prop} {t d:Option Addr} {T1:TM} {n:Nat} {i v e place inode:Int} {R Y:List Int} {s:Tm.Txt} {rb yb:Nat} {rest:List Value} {K:Value→Heap→Prop} (gl:In.Glo hh) (dm:Dim n) (X:Tx hh F t d T1) (g0:∀ b,b<1→¬ F b) (hR:R.length=15) (hY:Y.length=15) (hs:e=0 → -9223372036854775808≤Y.getD 2 0∧Y.getD 2 0≤9223372036854000000) (hu:T1.undo.length<900000000)
  (rr:rd hh rb=rdV t (geoN n) i R 0++rest) (nr:¬ F rb) (ry:rd hh yb=ints Y) (oy:Own hh yb) (ny:¬ F yb) (rc:rd hh h.size=E.v ⟨0,s,inode⟩) (oc:Own hh h.size) (nc:¬ F h.size) (h1:rb<h.size) (h2:h.size<yb) (h3:1≤rb)
  (hK:∀ h' F',Fr (fun b=>F b∨b=h.size∨b=yb) hh h'→Gw hh F h' F'→Tx h' F' t d (addTail T1 (geoN n) i R Y v e place s inode).1→K (.int .i64 (addTail T1 (geoN n) i R Y v e place s inode).2) h') :
  dir_reader_add.k1 (some ⟨rb,0,none⟩) place h (some ⟨yb,0,none⟩) v e hh K:=by
 have xl:∀ b,F b→b<hh.size:=fun b hb=>X.lt hb
 have yl:=oy.lt
 have gl1:=gl.lt
 unfold dir_reader_add.k1
 refine cn (fun he=>?_) fun he=>?_
 ·have e0:addTail T1 (geoN n) i R Y v e place s inode=(T1,e):=by unfold addTail; rw [if_pos he]
  rw [e0] at hK
  exact hK hh F (Fr.refl _ _) (Gw.refl (Nat.le_refl _) xl) X
 refine os ⟨t,rda rr rfl,Tm.Read_spec X fun a l c h7 f7 hl S7=>⟨_,_,_,_,rfl,?_⟩⟩
 have z7:=f7.size
 refine cn (fun hr=>?_) fun hr=>?_
 ·have e0:addTail T1 (geoN n) i R Y v e place s inode=(T1,(T1.read v).2):=by unfold addTail; rw [if_neg (fun y=>y he),if_pos hr]
  rw [e0] at hK
  exact hK h7 F (f7.mono fun _ _ y=>y.elim) (Gw.refl f7.size xl) (X.no f7)
 have l512:=Tx.readLen X hr
 have rc7:=(f7.rd oc.lt fun y=>y).trans rc
 refine Put.add (f7.own oc.lt (fun y=>y) oc) (by rw [rc7]; show 0<3; decide) fun h8 d8=>?_
 have z8:=d8.size
 have e1:(if (0:Int)>place then 0 else place)=max place 0:=by split <;> omega
 have rc8:rd h8 h.size=E.v ⟨max place 0,s,inode⟩:=by rw [d8.rd,rc7,e1]; rfl
 cases a with
 | none=>have l0:l=0:=S7.2.1; omega
 | some p =>
  obtain ⟨b,o,sp⟩:=p
  have ep:sp=none:=S7.2.1
  subst ep
  have hb:hh.size≤b:=S7.2.2.1
  have gl8:In.Glo h8:=(gl.no f7).fr d8.fr fun b hb y=>by omega
  have S8:=S7.fr d8.fr fun b _ hb y=>by have hb:hh.size≤b:=hb; have:=oc.lt; omega
  refine ⟨_,rfl,cellsAll rc8,Ss.Put_spec (e:=⟨max place 0,s,inode⟩) gl8 (by omega) S8 fun h9 w9=>⟨_,rfl,?_⟩⟩
  have z9:=w9.fr.size
  have X8:Tx h8 F t d T1:=(X.no f7).fr d8.fr fun y hy e=>nc (e▸hy)
  have X9:Tx h9 F t d T1:=X8.fr w9.fr fun y hy e=>by have:=xl y hy; omega
  have F9:Fr (fun b=>F b∨b=h.size∨b=yb) hh h9:=((f7.mono fun _ _ y=>y.elim).did d8 fun _ => .inr (.inl rfl)).trans w9.fr fun y hy e=>by omega
  refine cn (fun hp=>?_) fun hp=>?_
  ·have e0:addTail T1 (geoN n) i R Y v e place s inode=(T1,(putA (T1.read v).1 ⟨max place 0,s,inode⟩).1):=by unfold addTail; rw [if_neg (fun y=>y he),if_neg (fun y=>y hr),if_pos hp]
   rw [e0] at hK
   exact hK h9 F F9 (Gw.refl (by omega) xl) X9
  have keep:∀ b',b'<hh.size→b'≠h.size→rd h9 b'=rd hh b'∧(Own hh b'→Own h9 b'):=fun b' hb1 hb2 =>
   ⟨(w9.fr.rd (by omega) (by omega)).trans ((d8.at_ (by omega) hb2).trans (f7.rd hb1 fun y=>y)),fun o=>w9.fr.own (by omega) (by omega) (d8.ow (f7.own hb1 (fun y=>y) o))⟩
  have ocl:=oc.lt
  have rr9:=(keep rb (by omega) (by omega)).1.trans rr
  have ry9:=(keep yb yl (by omega)).1.trans ry
  have oy9:=(keep yb yl (by omega)).2 oy
  have S9:=Ss.Sl.all S8 (bs':=(putA (T1.read v).1 ⟨max place 0,s,inode⟩).2) (by rw [putA_length]) w9
  have lb9:=S9.str.1
  rw [putA_length,l512] at lb9
  refine os ⟨t,rda rr9 rfl,Tm.Write_spec X9 S9.str (by omega) (fun p hp y=>by cases hp; have y:F b:=y; have:=xl b y; omega) (by omega) fun h10 F10 f10 g10 X10=>⟨_,rfl,?_⟩⟩
  have z10:=f10.size
  have G10:Gw hh F h10 F10:=(Gw.refl (show hh.size≤h9.size by omega) xl).trans g10 (by omega)
  have F10':Fr (fun b=>F b∨b=h.size∨b=yb) hh h10:=F9.trans f10 fun b hb y => .inl y
  refine cn (fun hw=>?_) fun hw=>?_
  ·have e0:addTail T1 (geoN n) i R Y v e place s inode=T1.write v (putA (T1.read v).1 ⟨max place 0,s,inode⟩).2:=by unfold addTail; rw [if_neg (fun y=>y he),if_neg (fun y=>y hr),if_neg (fun y=>y hp),if_pos hw]
   rw [e0] at hK
   exact hK h10 F10 F10' G10 X10
  have ny9:¬ F yb:=ny
  have ry10:=(f10.rd oy9.lt ny).trans ry9
  have oy10:Own h10 yb:=f10.own oy9.lt ny oy9
  have rr10:=(f10.rd (b:=rb) (by omega) nr).trans rr9
  have un:=write_un T1 v (putA (T1.read v).1 ⟨max place 0,s,inode⟩).2
  have gl9:In.Glo h9:=gl8.fr w9.fr fun b' hb' e=>by omega
  have gl10:In.Glo h10:=gl9.fr f10 g0
  have ny10:¬ F10 yb:=fun y=>ny ((G10.old yb yl).mp y)
  -- the record is put, if it is another one
  have k2:∀ (h12:Heap) (Z:List Int),Z.length=15→Z=(if place<0 then Y.set 2 (Y.getD 2 0+512) else Y)→Fr (fun b=>b=yb) h10 h12→h12.size=h10.size→rd h12 yb=ints Z→dir_reader_add.k2 (some ⟨rb,0,none⟩) (some ⟨yb,0,none⟩) h12 K:=by
   intro h12 Z lZ eZ f12 z12 r12
   have rr12:=(f12.rd (b:=rb) (by omega) (by omega)).trans rr10
   have X12:Tx h12 F10 t d (T1.write v (putA (T1.read v).1 ⟨max place 0,s,inode⟩).2).1:=X10.fr f12 fun y hy e=>ny10 (e▸hy)
   have F12:Fr (fun b=>F b∨b=h.size∨b=yb) hh h12:=F10'.trans f12 fun b hb y => .inr (.inr y)
   have G12:Gw hh F h12 F10:=G10.trans (Gw.refl (by omega) fun b hb=>X10.lt hb) (by omega)
   unfold dir_reader_add.k2
   refine os ⟨_,by rw [ints_length,lZ],cellsAll r12,os ⟨ints R,by rw [ints_length,hR],cellsa rr12 (by rw [ints_length,hR]; exact rdV_R hR),pairs15 lZ hR,?_⟩⟩
   rw [cellsEq15 lZ hR]
   refine cd (fun hz=>?_) fun hz=>?_
   ·have e0:addTail T1 (geoN n) i R Y v e place s inode=((T1.write v (putA (T1.read v).1 ⟨max place 0,s,inode⟩).2).1,0):=by unfold addTail; rw [if_neg (fun y=>y he),if_neg (fun y=>y hr),if_neg (fun y=>y hp),if_neg (fun y=>y hw),if_pos (by rw [← eZ]; exact hz)]
    rw [e0] at hK
    exact hK h12 F10 F12 G12 X12
   ·have e0:addTail T1 (geoN n) i R Y v e place s inode=putM (T1.write v (putA (T1.read v).1 ⟨max place 0,s,inode⟩).2).1 (geoN n) i Z:=by unfold addTail; rw [if_neg (fun y=>y he),if_neg (fun y=>y hr),if_neg (fun y=>y hp),if_neg (fun y=>y hw),← eZ,if_neg hz]
    rw [e0] at hK
    have gl12:In.Glo h12:=gl10.fr f12 fun b hb y=>by omega
    refine os ⟨t,rda rr12 rfl,os ⟨(geoN n).v,rfl,cellsa rr12 rdV_g,os ⟨_,rda rr12 rfl,os ⟨_,by rw [ints_length,lZ],cellsAll r12,Ino.Put_spec gl12 X12 (cok dm) lZ (by omega) fun h13 F13 f13 g13 X13=>⟨_,rfl,?_⟩⟩⟩⟩⟩
    have z13:=f13.size
    refine hK h13 F13 (F12.trans f13 fun b hb y => .inl ((G10.old b hb).mp y)) (G12.trans g13 (by omega)) X13
  refine cd (fun hpl=>?_) fun hpl=>?_
  ·obtain ⟨s0,s1⟩:=hs he
   refine os ⟨_,rda ry10 (Fi.ints_at (by rw [hY]; decide)),os (Put.add oy10 (by rw [ry10,ints_length,hY]; decide) fun h11 d11=>?_)⟩
   have z11:=d11.size
   have eg:Y.getD (0+2) 0=Y.getD 2 0:=rfl
   refine k2 h11 (Y.set 2 (Y.getD 2 0+512)) (by rw [List.length_set,hY]) (by rw [if_pos hpl]) d11.fr z11 ?_
   rw [d11.rd,ry10,eg,wrap_i64 (by omega) (by omega)]
   exact Fi.ints_set
  ·exact k2 h10 Y hY (by rw [if_neg hpl]) (Fr.refl _ _) rfl ry10
theorem radd_spec {h:Heap} {F:Nat→Prop} {t d:Option Addr} {T:TM} {n:Nat} {i index place inode:Int} {R:List Int} {s:Tm.Txt} {rb:Nat} {rest:List Value} {K:Value→Heap→Prop} (gl:In.Glo h) (dm:Dim n) (X:Tx h F t d T) (live:T.over=false) (g0:∀ b,b<1→¬ F b) (hR:R.length=15) (hs0:0≤R.getD 2 0) (hs1:R.getD 2 0≤8459264) (hu:T.undo.length<600000000)
  (rr:rd h rb=rdV t (geoN n) i R 0++rest) (lb:rb<h.size) (nr:¬ F rb) (b1:1≤rb)
  (hK:∀ h' F',Fr F h h'→Gw h F h' F'→Tx h' F' t d (addAt T (geoN n) i R index place s inode).1→K (.int .i64 (addAt T (geoN n) i R index place s inode).2) h') :
  C.dir_reader_add (some ⟨rb,0,none⟩) index place [.int .i64 0,.string (mkStr s),.int .i64 inode] h K:=by
 have xl:∀ b,F b→b<h.size:=fun b hb=>X.lt hb
 rw [addAt_tail] at hK
 have lY:=addM_length (T:=T) (g:=geoN n) (k:=index) hR
 have un:=addM_un (T:=T) (g:=geoN n) (R:=R) (k:=index)
 have hs:(addM T (geoN n) R index).2.2.2=0 → -9223372036854775808≤(addM T (geoN n) R index).2.1.getD 2 0∧(addM T (geoN n) R index).2.1.getD 2 0≤9223372036854000000:=fun e=>by
  rw [addM_two e]; omega
 refine dir_reader_add.ok (New.intro fun h2 n2=>?_)
 have z2:=n2.size
 have rr2:=(n2.at_ lb).trans rr
 have gl2:=gl.no n2.fr
 have X2:=X.no n2.fr
 refine os ⟨t,rda rr2 rfl,os ⟨(geoN n).v,rfl,cellsa rr2 rdV_g,os ⟨ints R,by rw [ints_length,hR],cellsa rr2 (by rw [ints_length,hR]; exact rdV_R hR),?_,?_⟩⟩⟩
 ·-- bmap's Add ahead of the record's own block
  refine Bm.Add_spec gl2 dm X2 live hR g0 (by omega) fun h3 F3 f3 g3 X3=>⟨_,_,_,rfl,New.intro fun h4 n4=>?_⟩
  have z3:=f3.size
  have z4:=n4.size
  have rr4:=(n4.at_ (c:=rb) (by omega)).trans ((f3.rd (by omega) nr).trans rr2)
  refine ⟨rda rr4 rfl,⟨rfl,cellsa rr4 rdV_g⟩,⟨by rw [ints_length,hR],cellsa rr4 (by rw [ints_length,hR]; exact rdV_R hR)⟩,PutRow.intro n4.own (by rw [ints_length,lY]) (ints_one _) (by rw [n4.rd]; exact Nat.le_refl _) fun h5 d5=>?_⟩
  have z5:=d5.size
  have ny:¬ F3 h3.size:=fun y=>by have:=X3.lt y; omega
  have nr3:¬ F3 rb:=fun y=>nr ((g3.old rb (by omega)).mp y)
  have nc3:¬ F3 h.size:=fun y=>by have:=(g3.old h.size (by omega)).mp y; have:=xl _ this; omega
  have gl3:In.Glo h3:=gl2.fr f3 g0
  have g03:∀ b,b<1→¬ F3 b:=fun b hb y=>g0 b hb ((g3.old b (by have:=gl2.lt; omega)).mp y)
  have gl5:In.Glo h5:=(gl3.no n4.fr).fr d5.fr fun b hb y=>by have:=gl3.lt; omega
  refine radd_k1 (h:=h) (yb:=h3.size) (s:=s) (inode:=inode) gl5 dm ((X3.no n4.fr).fr d5.fr fun b hb y=>ny (y▸hb)) g03 hR lY hs (by omega) ((d5.at_ (by omega) (by omega)).trans rr4) nr3 ?_ d5.own ny ?_ ?_ nc3 lb (by omega) b1 fun h' F' f' g' X'=>?_
  ·rw [d5.rd,n4.rd]; exact put_all _ _ (by rw [ints_length,lY]; rfl)
  ·rw [d5.at_ (by omega) (by omega),n4.at_ (by omega),f3.rd (by omega) fun y=>by have:=xl _ y; omega,n2.rd]; rfl
  ·exact d5.ow (n4.ow (f3.own (by omega) (fun y=>by have:=xl _ y; omega) n2.own))
  ·have F5:Fr F h h5:=(((n2.fr.mono fun _ _ y=>y.elim).trans f3 fun _ _ y=>y).new n4).did d5 fun hl=>by omega
   have G5:Gw h F h5 F3:=(((Gw.refl (show h.size≤h2.size by omega) xl).trans g3 (by omega)).trans (Gw.refl (show h3.size≤h5.size by omega) fun b hb=>X3.lt hb) (by omega))
   exact hK h' F' (F5.trans f' fun b hb y=>by
    rcases y with y|y|y
    ·exact (G5.old b hb).mp y
    ·omega
    ·omega) (G5.trans g' (by omega)) X'
 ·-- the record's own block first
  refine New.intro fun h14 n14=>?_
  have z14:=n14.size
  have rr14:=(n14.at_ (c:=rb) (by omega)).trans rr2
  refine ⟨rda rr14 rfl,⟨rfl,cellsa rr14 rdV_g⟩,⟨by rw [ints_length,hR],cellsa rr14 (by rw [ints_length,hR]; exact rdV_R hR)⟩,Bm.Add_spec (gl2.no n14.fr) dm (X2.no n14.fr) live hR g0 (by omega) fun h15 F15 f15 g15 X15=>⟨_,_,_,rfl,?_⟩⟩
  have z15:=f15.size
  have ny0:¬ F h2.size:=fun y=>by have:=xl _ y; omega
  have r15:rd h15 h2.size=z123:=(f15.rd (by omega) ny0).trans n14.rd
  have o15:Own h15 h2.size:=f15.own (by omega) ny0 n14.own
  refine PutRow.intro o15 (by rw [ints_length,lY]) (ints_one _) (by rw [r15]; exact Nat.le_refl _) fun h16 d16=>?_
  have z16:=d16.size
  have ny:¬ F15 h2.size:=fun y=>ny0 ((g15.old _ (by omega)).mp y)
  have nr3:¬ F15 rb:=fun y=>nr ((g15.old rb (by omega)).mp y)
  have nc3:¬ F15 h.size:=fun y=>by have:=(g15.old h.size (by omega)).mp y; have:=xl _ this; omega
  have gl15:In.Glo h15:=(gl2.no n14.fr).fr f15 g0
  have g03:∀ b,b<1→¬ F15 b:=fun b hb y=>g0 b hb ((g15.old b (by have:=gl2.lt; omega)).mp y)
  have gl16:In.Glo h16:=gl15.fr d16.fr fun b hb y=>by have:=gl2.lt; omega
  refine radd_k1 (h:=h) (yb:=h2.size) (s:=s) (inode:=inode) gl16 dm (X15.fr d16.fr fun b hb y=>ny (y▸hb)) g03 hR lY hs (by omega) ((d16.at_ (by omega) (by omega)).trans ((f15.rd (by omega) nr).trans rr14)) nr3 ?_ d16.own ny ?_ ?_ nc3 lb (by omega) b1 fun h' F' f' g' X'=>?_
  ·rw [d16.rd,r15]; exact put_all _ _ (by rw [ints_length,lY]; rfl)
  ·rw [d16.at_ (by omega) (by omega),f15.rd (by omega) fun y=>by have:=xl _ y; omega,n14.at_ (by omega),n2.rd]; rfl
  ·exact d16.ow (f15.own (by omega) (fun y=>by have:=xl _ y; omega) (n14.ow n2.own))
  ·have F16:Fr F h h16:=((((n2.fr.new n14).mono fun _ _ y=>y.elim).trans f15 fun _ _ y=>y).did d16 fun hl=>by omega)
   have G16:Gw h F h16 F15:=(((Gw.refl (show h.size≤h14.size by omega) xl).trans g15 (by omega)).trans (Gw.refl (show h15.size≤h16.size by omega) fun b hb=>X15.lt hb) (by omega))
   exact hK h' F' (F16.trans f' fun b hb y=>by
    rcases y with y|y|y
    ·exact (G16.old b hb).mp y
    ·omega
    ·omega) (G16.trans g' (by omega)) X'
end Go.Proofs.YtiapingedfnlnaaGreatDoor.Di
namespace Go.Proofs.YtiapingedfnlnaaGreatDoor.Di
open Go Go.Proofs Wx Hp W Ad Tm Spc Re Av Rg Ss
open Hd (ints)
open In (Glo ints_length ints_one)
open Ino (getM putM Cok getM_length)
open Bm (findM addM addM_un)
open Fi (blockM hv_yield getM_may cok undoM put_e)
open Sk (E nameOk)
theorem Contains_spec {h:Heap} {a:Option Addr} {l c nb:Nat} {es:List E} {s:Tm.Txt} {K:Value→Heap→Prop} (Z:SlCells h a (es.flatMap E.v)) (hl:es.length=l) (hm:l≤1000000) (rs:rd h nb=[.string (mkStr s)])
  (hK:∀ h',Fr No h h'→K (.bool (es.find? (fun c=>c.name == s)).isSome) h'):C.slices_ContainsFunc_api_Entry_api_Entry a l c (.func (.func 68) #[] ⟨[.pointer (some ⟨nb,0,none⟩)]⟩) h K:=by
 have lb:nb<h.size:=rd_lt (o:=0) (by rw [rs]; rfl)
 refine slices_ContainsFunc_api_Entry_api_Entry.ok (slices_IndexFunc_api_Entry_api_Entry.ok ⟨fun j hh=>∃ p:Nat,j=p∧p≤l∧Fr No h hh∧(es.take p).find? (fun c=>c.name == s)=none,fun j _=>((l:Int) - j).toNat,⟨0,rfl,Nat.zero_le _,Fr.refl _ _,rfl⟩,?_⟩)
 rintro j h2 ⟨p,rfl,hp,f2,np⟩
 refine cd (fun hlt=>?_) fun hlt=>?_
 ·have hlt':p<es.length:=by omega
  obtain ⟨a0,ea,ca⟩:=ent_at Z hlt'
  subst ea
  have Z2:Cells h2 (a0.add (p*3)) (E.v es[p]):=Cells.fr f2 ca fun y=>y
  refine ⟨⟨by omega,hlt⟩,os ⟨_,rfl,Z2,?_⟩⟩
  show C.dir_Add_c1 (E.v es[p]) (some ⟨nb,0,none⟩) h2 _
  refine dir_Add_c1.ok (New.intro fun h3 n3=>⟨_,rda n3.rd rfl,os ⟨_,rdc (show rd h3 nb=[.string (mkStr s)] from ((f2.new n3).rd lb fun y=>y).trans rs) rfl,?_⟩⟩)
  rw [toList_mkStr,toList_mkStr]
  refine ⟨_,rfl,cs (fun heq=>?_) fun hne=>?_⟩
  ·have ef:=find_at hlt' np heq
   rw [ef] at hK
   refine ⟨_,rfl,?_⟩
   rw [decide_eq_true (by omega)]
   exact hK h3 (f2.new n3)
  ·rw [wrap_i64 (by omega) (by omega)]
   refine ⟨⟨p+1,by omega,by omega,f2.new n3,?_⟩,falls hlt⟩
   rw [List.take_succ_eq_append_getElem hlt',List.find?_append,np,Option.none_or,List.find?_cons_of_neg (by rw [hne]; decide)]; rfl
 ·rw [List.take_of_length_le (by omega)] at np
  rw [np] at hK
  exact ⟨_,rfl,hK h2 f2⟩
theorem mark_live {T:TM} (h:T.mark.2=0):T.over=false:=by
 unfold TM.mark at h
 split at h
 ·exact absurd (show (61:Int)=0 from h) (by decide)
 ·rename_i y; exact Bool.eq_false_iff.mpr y
def AddJ (F:Nat→Prop) (t d:Option Addr) (T:TM) (n:Nat) (i:Int) (R:List Int) (s:Tm.Txt) (m:Nat) (hb h10 h12 h13 h14 h18 h19:Heap) (L:Loop) (k:Nat) (hh:Heap):Prop :=
 It hh F t d T (geoN n) i R 0 [] h18.size h10.size∧Fr (fun b=>b=h10.size∨b=h12.size∨b=h13.size∨b=h14.size∨b=h19.size+1) hb hh∧LoopOn hh (h19.size+1) L .ready none∧∃ q ix p ex,m=k+q∧rd hh h12.size=[.int .i64 ix]∧Own hh h12.size∧rd hh h13.size=[.int .i64 p]∧Own hh h13.size∧rd hh h14.size=[.bool ex]∧Own hh h14.size ∧
  placeGo s (leavesGo T (geoN n) R m 0).1 (R.getD 2 0 / 512,-1,false)=placeGo s (leavesGo T (geoN n) R q k).1 (ix,p,ex)∧(leavesGo T (geoN n) R m 0).2=(leavesGo T (geoN n) R q k).2
theorem Add_spec {h:Heap} {F:Nat→Prop} {t d:Option Addr} {T:TM} {n:Nat} {i v:Int} {s:Tm.Txt} {K:Value→Heap→Prop} (gl:In.Glo h) (dm:Dim n) (x:Tx h F t d T) (g0:∀ b,b<1→¬ F b) (hu:T.undo.length<600000000)
  (hK:∀ h' F',Fr F h h'→Gw h F h' F'→Tx h' F' t d (addD T (geoN n) i s v).1→K (.int .i64 (addD T (geoN n) i s v).2) h'):C.dir_Add t (geoN n).v i (mkStr s) v h K:=by
 have xl:∀ b,F b→b<h.size:=fun b hb=>x.lt hb
 have gl1:=gl.lt
 have same:∀ h' e,Fr No h h'→addD T (geoN n) i s v=(T,e)→K (.int .i64 e) h':=fun h' e f e0=>by
  rw [e0] at hK
  exact hK h' F (f.mono fun _ _ y=>y.elim) (Gw.refl f.size xl) (x.no f)
 refine dir_Add.ok (New.intro fun h2 n2=>New.intro fun h3 n3=>New.intro fun h4 n4=>New.intro fun h5 n5=>?_)
 have z2:=n2.size
 have y3:=n3.size
 have z4:=n4.size
 have z5:=n5.size
 have F5:Fr No h h5:=(((n2.fr.new n3).new n4).new n5)
 have t5:rd h5 h.size=[.pointer t]:=(n5.at_ (by omega)).trans ((n4.at_ (by omega)).trans ((n3.at_ (by omega)).trans n2.rd))
 have g5:rd h5 h2.size=(geoN n).v:=(n5.at_ (by omega)).trans ((n4.at_ (by omega)).trans n3.rd)
 have s5:rd h5 h3.size=[.string (mkStr s)]:=(n5.at_ (by omega)).trans n4.rd
 have e5:rd h5 h4.size=[.int .i64 0]:=n5.rd
 have w5:=n5.own
 -- an answer ahead of the loop
 have early:∀ (hh:Heap) (e:Int),Fr No h5 hh→addD T (geoN n) i s v=(T,e)→Put ⟨h4.size,0,none⟩ (.int .i64 e) hh fun h7=>∃ (res1:Int),cellOf h7 ⟨h4.size,0,none⟩=some (.int .i64 res1)∧K (.int .i64 res1) h7:=fun hh e f e0 =>
  put_e (f.own w5.lt (fun y=>y) w5) ((f.rd w5.lt fun y=>y).trans e5) fun h7 d7=>⟨_,rdc d7.rd rfl,same h7 e ((F5.no f).did d7 fun hl=>by omega) e0⟩
 refine ⟨_,rdc s5 rfl,Ch.Name_spec fun h6 f6=>⟨_,rfl,cnot (cs (fun hn=>?_) fun hn=>early h6 1 f6 (by unfold addD; rw [if_pos hn]))⟩⟩
 have z6:=f6.size
 have hn':¬ nameOk s=false:=by rw [hn]; decide
 refine ⟨(geoN n).v,rfl,cellsAll ((f6.rd (by omega) fun y=>y).trans g5),has_spec fun h8 f8=>⟨_,rfl,cnot (cs (fun hh=>?_) fun hh=>early h8 110 (f6.no f8) (by unfold addD; rw [if_neg hn',if_pos hh]))⟩⟩
 have hh':¬ hasI (geoN n) v=false:=by rw [hh]; decide
 have f58:Fr No h5 h8:=f6.no f8
 have F8:Fr No h h8:=F5.no f58
 have z8:=f8.size
 have lR:=openM_length T (geoN n) i
 refine ⟨t,rdc ((f58.rd (by omega) fun y=>y).trans t5) rfl,(geoN n).v,rfl,cellsAll ((f58.rd (by omega) fun y=>y).trans g5),open_spec (gl.no F8) (x.no F8) (cok dm) fun h10 f10=>⟨_,rfl,NewRow.intro (rdV_len lR) rdV_one rfl fun h12 n12=>?_⟩⟩
 have z10:=f10.size
 have z12:=n12.size
 have r12:rd h12 h10.size=rdV t (geoN n) i (openM T (geoN n) i).1 (openM T (geoN n) i).2++[]:=by rw [List.append_nil]; exact n12.rd
 refine ⟨_,rdaa r12 (rdV_2 lR),New.intro fun h13 n13=>New.intro fun h14 n14=>New.intro fun h15 n15=>?_⟩
 have z13:=n13.size
 have z14:=n14.size
 have z15:=n15.size
 have r3:rd h13 h12.size=[.int .i64 0]:=n13.rd
 refine Put.intro (n15.ow (n14.ow n13.own)) (by rw [n15.at_ (by omega),n14.at_ (by omega),n13.rd]; exact Nat.zero_lt_one) fun h16 d16=>?_
 have z16:=d16.size
 refine Put.intro (d16.ow (n15.ow n14.own)) (by rw [d16.at_ (by omega) (by omega),n15.at_ (by omega),n14.rd]; exact Nat.zero_lt_one) fun h17 d17=>?_
 have z17:=d17.size
 refine Put.intro (d17.ow (d16.ow n15.own)) (by rw [d17.at_ (by omega) (by omega),d16.at_ (by omega) (by omega),n15.rd]; exact Nat.zero_lt_one) fun h18 d18=>?_
 have z18:=d18.size
 refine leaves_spec fun h19 n19=>⟨_,rfl,fun L rounds=>?_⟩
 have z19:=n19.size
 have f12to:Fr (fun b=>b=h12.size∨b=h13.size∨b=h14.size) h12 h19:=(((((((n13.fr.new n14).new n15).mono fun _ _ y=>y.elim).did d16 fun hl=>by omega).did d17 fun hl=>by omega).did d18 fun hl=>by omega).new n19)
 have F12:Fr No h h12:=(F8.no f10).new n12
 have F19:Fr No h h19:=F12.trans f12to fun b hb y=>by omega
 have i19:rd h19 h12.size=[.int .i64 (IntKind.wrap .i64 (Int.tdiv ((openM T (geoN n) i).1.getD 2 0) 512))]:=by
  rw [n19.at_ (by omega),d18.at_ (by omega) (by omega),d17.at_ (by omega) (by omega),d16.rd,n15.at_ (by omega),n14.at_ (by omega),n13.rd]; rfl
 have p19:rd h19 h13.size=[.int .i64 (-1)]:=by
  rw [n19.at_ (by omega),d18.at_ (by omega) (by omega),d17.rd,d16.at_ (by omega) (by omega),n15.at_ (by omega),n14.rd]; rfl
 have x19:rd h19 h14.size=[.bool false]:=by
  rw [n19.at_ (by omega),d18.rd,d17.at_ (by omega) (by omega),d16.at_ (by omega) (by omega),n15.rd]; rfl
 have iw19:Own h19 h12.size:=n19.ow (d18.ow (d17.ow d16.own))
 have pw19:Own h19 h13.size:=n19.ow (d18.ow d17.own)
 have xw19:Own h19 h14.size:=n19.ow d18.own
 have r19:rd h19 h10.size=rdV t (geoN n) i (openM T (geoN n) i).1 (openM T (geoN n) i).2++[]:=(f12to.rd (by omega) (by omega)).trans r12
 have ob19:Own h19 h10.size:=f12to.own (by omega) (by omega) n12.own
 have f519:Fr No h5 h19:=((f58.no f10).new n12).trans f12to fun b hb y=>by omega
 have q19:∀ b,b<h5.size→rd h19 b=rd h5 b:=fun b hb=>f519.rd hb fun y=>y
 have w19:Own h19 h4.size:=f519.own w5.lt (fun y=>y) w5
 have Fb:=beginL_fr h19 L
 have on0:=beginL_on h19 L
 have d0:=beginL_d h19 L
 have zb:=beginL_size h19 L
 have F0:Fr No h (beginL h19 L):=F19.no Fb
 have cb0:rd (beginL h19 L) h18.size=[.pointer (some ⟨h10.size,0,none⟩)]:=(Fb.rd (by omega) fun y=>y).trans n19.rd
 have I0:It (beginL h19 L) F t d T (geoN n) i (openM T (geoN n) i).1 (openM T (geoN n) i).2 [] h18.size h10.size:=⟨gl.no F0,x.no F0,cb0,Fb.own (by omega) (fun y=>y) ob19,(Fb.rd (by omega) fun y=>y).trans r19,fun y=>by have:=xl _ y; omega,by omega,by omega⟩
 have tb0:rd (beginL h19 L) h.size=[.pointer t]:=(Fb.rd (by omega) fun y=>y).trans ((q19 _ (by omega)).trans t5)
 have sb0:rd (beginL h19 L) h3.size=[.string (mkStr s)]:=(Fb.rd (by omega) fun y=>y).trans ((q19 _ (by omega)).trans s5)
 have eb0:rd (beginL h19 L) h4.size=[.int .i64 0]:=(Fb.rd (by omega) fun y=>y).trans ((q19 _ (by omega)).trans e5)
 have wb0:Own (beginL h19 L) h4.size:=Fb.own (by omega) (fun y=>y) w19
 have i0:=(Fb.rd (b:=h12.size) (by omega) fun y=>y).trans i19
 have p0:=(Fb.rd (b:=h13.size) (by omega) fun y=>y).trans p19
 have x0:=(Fb.rd (b:=h14.size) (by omega) fun y=>y).trans x19
 have iw0:Own (beginL h19 L) h12.size:=Fb.own (by omega) (fun y=>y) iw19
 have pw0:Own (beginL h19 L) h13.size:=Fb.own (by omega) (fun y=>y) pw19
 have xw0:Own (beginL h19 L) h14.size:=Fb.own (by omega) (fun y=>y) xw19
 generalize hbe:beginL h19 L=hb at *
 show C.dir_reader_leaves_c1 (.func (.yield (h19.size+1)) #[] #[]) (some ⟨h18.size,0,none⟩) hb _
 have fin:∀ (hh:Heap) (e:Int),Fr (fun b=>b=h10.size∨b=h12.size∨b=h13.size∨b=h14.size∨b=h19.size+1) hb hh→LoopOn hh (h19.size+1) L .ready none→It hh F t d T (geoN n) i (openM T (geoN n) i).1 e [] h18.size h10.size→(e≠0→addD T (geoN n) i s v=(T,e)) →
   (e=0→∃ (ix p:Int) (ex:Bool),rd hh h12.size=[.int .i64 ix]∧rd hh h13.size=[.int .i64 p]∧rd hh h14.size=[.bool ex]∧0≤(openM T (geoN n) i).1.getD 2 0∧(openM T (geoN n) i).1.getD 2 0≤8459264∧addD T (geoN n) i s v=if ex=true then (T,150) else if T.mark.2≠0 then (T,T.mark.2) else undoM T (addAt T (geoN n) i (openM T (geoN n) i).1 ix p s v)) →
   ∃ (st1:LoopState) (pend1:Option Code),LoopOn hh (h19.size+1) L st1 pend1∧st1 ≠ .busy∧pendX pend1 (
 SetL hh (h19.size+1) L .exhausted pend1 fun h32 =>
 ∃ (n7:Int),cellOf h32 (Addr.add ⟨h10.size,0,none⟩ 22)=some (.int .i64 n7) ∧
 bif (n7 != 0) then (
 ∃ (n8:Int),cellOf h32 (Addr.add ⟨h10.size,0,none⟩ 22)=some (.int .i64 n8) ∧
 Put ⟨h4.size,0,none⟩ (.int .i64 n8) h32 fun h33 =>
 EndD h19.size h33 fun h34 =>
 ∃ (res3:Int),cellOf h34 ⟨h4.size,0,none⟩=some (.int .i64 res3) ∧
 K (.int .i64 res3) h34) else (
 ∃ (b5:Bool),cellOf h32 ⟨h14.size,0,none⟩=some (.bool b5) ∧
 bif b5 then (
 Put ⟨h4.size,0,none⟩ (.int .i64 150) h32 fun h35 =>
 EndD h19.size h35 fun h36 =>
 ∃ (res4:Int),cellOf h36 ⟨h4.size,0,none⟩=some (.int .i64 res4) ∧
 K (.int .i64 res4) h36) else (
 ∃ (q2:Option Addr),cellOf h32 ⟨h.size,0,none⟩=some (.pointer q2) ∧
 C.txn_Txn_Mark q2 h32 fun r7 h37 =>
 ∃ (n9:Int) (n10:Int),r7 = .tuple #[.int .i64 n9,.int .i64 n10] ∧
 New z3 3 h37 fun h38 =>
 Put ⟨h37.size,0,none⟩ (.int .i64 n9) h38 fun h39 =>
 Put ⟨h4.size,0,none⟩ (.int .i64 n10) h39 fun h40 =>
 ∃ (n11:Int),cellOf h40 ⟨h4.size,0,none⟩=some (.int .i64 n11) ∧
 bif (n11 != 0) then (
 ∃ (n12:Int),cellOf h40 ⟨h4.size,0,none⟩=some (.int .i64 n12) ∧
 Put ⟨h4.size,0,none⟩ (.int .i64 n12) h40 fun h41 =>
 EndD h19.size h41 fun h42 =>
 ∃ (res5:Int),cellOf h42 ⟨h4.size,0,none⟩=some (.int .i64 res5) ∧
 K (.int .i64 res5) h42) else (
 ∃ (n13:Int),cellOf h40 ⟨h12.size,0,none⟩=some (.int .i64 n13) ∧
 ∃ (n14:Int),cellOf h40 ⟨h13.size,0,none⟩=some (.int .i64 n14) ∧
 ∃ (s2:ByteArray),cellOf h40 ⟨h3.size,0,none⟩=some (.string s2) ∧
 C.dir_reader_add (some ⟨h10.size,0,none⟩) n13 n14 [.int .i64 0,.string s2,.int .i64 v] h40 fun r8 h43 =>
 ∃ (n15:Int),r8 = .int .i64 n15 ∧
 Put ⟨h4.size,0,none⟩ (.int .i64 n15) h43 fun h44 =>
 D.dir_Add_c2 (some ⟨h4.size,0,none⟩) (some ⟨h.size,0,none⟩) (some ⟨h37.size,0,none⟩) h44 fun h45 =>
 EndD h19.size h45 fun h46 =>
 ∃ (res6:Int),cellOf h46 ⟨h4.size,0,none⟩=some (.int .i64 res6) ∧
 K (.int .i64 res6) h46)))) (
 False) (fun _=>False):=by
  intro hh e f on I es0 es1
  have zf:=f.size
  refine ⟨.ready,none,on,by decide,pend_none (setL_intro (by omega) fun h32 t32=>?_)⟩
  have z32:=t32.size
  have f32:Fr (fun b=>b=h10.size∨b=h12.size∨b=h13.size∨b=h14.size∨b=h19.size+1) hb h32:=f.trans t32.fr fun b _ y => .inr (.inr (.inr (.inr y)))
  have I32:It h32 F t d T (geoN n) i (openM T (geoN n) i).1 e [] h18.size h10.size:=I.fr t32.fr (by omega) (by omega) (fun b hb y=>by have:=xl b hb; omega) fun b hb y=>by omega
  have F32:Fr No h h32:=F0.trans f32 fun b hb y=>by omega
  have q32:∀ b,b<h10.size→rd h32 b=rd hb b:=fun b hb'=>f32.rd (by omega) (by omega)
  have e32:=(q32 h4.size (by omega)).trans eb0
  have w32:Own h32 h4.size:=f32.own (by omega) (by omega) wb0
  have d32:=(f32.same h19.size (by omega) (by omega)).trans d0
  -- an answer without a change
  have out:∀ (hx:Heap) (e':Int),Fr No h32 hx→addD T (geoN n) i s v=(T,e')→Put ⟨h4.size,0,none⟩ (.int .i64 e') hx fun h33=>EndD h19.size h33 fun h34=>∃ (res3:Int),cellOf h34 ⟨h4.size,0,none⟩=some (.int .i64 res3)∧K (.int .i64 res3) h34:=fun hx e' fx e0=>by
   have zx:=fx.size
   refine put_e (fx.own w32.lt (fun y=>y) w32) ((fx.rd w32.lt fun y=>y).trans e32) fun h33 d33=>endD_intro ((d33.fr.same _ (by omega) (by omega)).trans ((fx.same _ (by omega) fun y=>y).trans d32)) fun h34 z34 f34=>?_
   have z33:=d33.size
   refine ⟨_,rdc (show rd h34 h4.size=[.int .i64 e'] from (f34.rd (by omega) (by omega)).trans d33.rd) rfl,same h34 e' (((F32.no fx).did d33 fun hl=>by omega).trans f34 fun b hb y=>by omega) e0⟩
  refine ⟨_,rda I32.r (rdV_e lR),cn (fun he=>⟨_,rda I32.r (rdV_e lR),out h32 e (Fr.refl _ _) (es0 he)⟩) fun he=>?_⟩
  obtain ⟨ix,p,ex,ri,rp,rx,R0,R1,ea⟩:=es1 he
  have ri32:=(t32.fr.rd (b:=h12.size) (by omega) (by omega)).trans ri
  have rp32:=(t32.fr.rd (b:=h13.size) (by omega) (by omega)).trans rp
  have rx32:=(t32.fr.rd (b:=h14.size) (by omega) (by omega)).trans rx
  refine ⟨_,rdc rx32 rfl,cs (fun hx=>out h32 150 (Fr.refl _ _) (by rw [ea,if_pos hx])) fun hx=>?_⟩
  have hx':¬ ex=true:=by rw [hx]; decide
  rw [if_neg hx'] at ea
  refine ⟨t,rdc ((q32 h.size (by omega)).trans tb0) rfl,Tm.Mark_spec I32.x ⟨_,_,rfl,New.intro fun h38 n38=>Put.intro n38.own (by rw [n38.rd]; exact Nat.zero_lt_one) fun h39 d39=>?_⟩⟩
  have z38:=n38.size
  have z39:=d39.size
  have f39:Fr No h32 h39:=n38.fr.did d39 fun hl=>by omega
  have m39:rd h39 h32.size=[.int .i64 T.mark.1]:=by rw [d39.rd,n38.rd]; rfl
  refine put_e (f39.own w32.lt (fun y=>y) w32) ((f39.rd w32.lt fun y=>y).trans e32) fun h40 d40=>?_
  have z40:=d40.size
  refine ⟨_,rdc d40.rd rfl,cn (fun hm=>⟨_,rdc d40.rd rfl,?_⟩) fun hm=>?_⟩
  ·refine put_e d40.own d40.rd fun h33 d33=>endD_intro ((d33.fr.same _ (by omega) (by omega)).trans ((d40.fr.same _ (by omega) (by omega)).trans ((f39.same _ (by omega) fun y=>y).trans d32))) fun h34 z34 f34=>?_
   have z33:=d33.size
   refine ⟨_,rdc (show rd h34 h4.size=[.int .i64 T.mark.2] from (f34.rd (by omega) (by omega)).trans d33.rd) rfl,same h34 _ ((((F32.no f39).did d40 fun hl=>by omega).did d33 fun hl=>by omega).trans f34 fun b hb y=>by omega) (by rw [ea,if_pos hm])⟩
  have live:=mark_live hm
  rw [if_neg (fun y=>y hm)] at ea
  have F40:Fr No h h40:=(F32.no f39).did d40 fun hl=>by omega
  have q40:∀ b,b<h32.size→b≠h4.size→rd h40 b=rd h32 b:=fun b hb' hn=>(d40.at_ (by omega) hn).trans (f39.rd hb' fun y=>y)
  have I39:=I32.no f39
  have I40:It h40 F t d T (geoN n) i (openM T (geoN n) i).1 e [] h18.size h10.size:=I39.fr d40.fr (by omega) (by omega) (fun b hb y=>by have:=xl b hb; omega) fun b hb y=>by omega
  rw [he] at I40
  have m40:=(d40.at_ (c:=h32.size) (by omega) (by omega)).trans m39
  refine ⟨_,rdc ((q40 _ (by omega) (by omega)).trans ri32) rfl,_,rdc ((q40 _ (by omega) (by omega)).trans rp32) rfl,_,rdc ((q40 _ (by omega) (by omega)).trans ((q32 _ (by omega)).trans sb0)) rfl,?_⟩
  refine radd_spec I40.gl dm I40.x live g0 lR R0 R1 hu I40.r I40.ob.lt I40.nf I40.b1 fun h43 F43 f43 g43 X43=>⟨_,rfl,?_⟩
  have z43:=f43.size
  have n4:¬ F h4.size:=fun y=>by have:=xl _ y; omega
  have w43:Own h43 h4.size:=f43.own (by omega) n4 d40.own
  refine put_e w43 ((f43.rd (by omega) n4).trans d40.rd) fun h44 d44=>?_
  have z44:=d44.size
  have un1:=addM_un (T:=T) (g:=geoN n) (R:=(openM T (geoN n) i).1) (k:=ix)
  have un2:=addTail_un (T1:=(addM T (geoN n) (openM T (geoN n) i).1 ix).1) (g:=geoN n) (n:=i) (R:=(openM T (geoN n) i).1) (Y:=(addM T (geoN n) (openM T (geoN n) i).1 ix).2.1) (v:=(addM T (geoN n) (openM T (geoN n) i).1 ix).2.2.1) (e:=(addM T (geoN n) (openM T (geoN n) i).1 ix).2.2.2) (place:=p) (s:=s) (i:=v)
  rw [← addAt_tail] at un2
  have n43:¬ F43 h4.size:=fun y=>n4 ((g43.old _ (by omega)).mp y)
  have X44:Tx h44 F43 t d (addAt T (geoN n) i (openM T (geoN n) i).1 ix p s v).1:=X43.fr d44.fr fun b hb y=>n43 (y▸hb)
  have F44:Fr F h h44:=((F40.mono fun _ _ y=>y.elim).trans f43 fun b hb y=>y).did d44 fun hl=>by omega
  have G44:Gw h F h44 F43:=((Gw.refl (show h.size≤h40.size by omega) xl).trans g43 (by omega)).trans (Gw.refl (by omega) fun b hb=>X43.lt hb) (by omega)
  have d40':h40[h19.size]?=some (.deferred (some [])):=(d40.fr.same _ (by omega) (by omega)).trans ((f39.same _ (by omega) fun y=>y).trans d32)
  have nd:∀ b,h.size≤b→¬ F b:=fun b hb y=>by have:=xl _ y; omega
  have d44':h44[h19.size]?=some (.deferred (some [])):=(d44.fr.same _ (by omega) (by omega)).trans ((f43.same _ (by omega) (nd _ (by omega))).trans d40')
  -- the end
  have fin2:∀ (h45:Heap) (T2:TM),Fr F43 h44 h45→Tx h45 F43 t d T2→addD T (geoN n) i s v=(T2,(addAt T (geoN n) i (openM T (geoN n) i).1 ix p s v).2)→EndD h19.size h45 fun h46=>∃ (res6:Int),cellOf h46 ⟨h4.size,0,none⟩=some (.int .i64 res6)∧K (.int .i64 res6) h46:=fun h45 T2 f45 X45 e0=>by
   have z45:=f45.size
   have n19:¬ F43 h19.size:=fun y=>nd _ (by omega) ((g43.old _ (by omega)).mp y)
   refine endD_intro ((f45.same _ (by omega) n19).trans d44') fun h46 z46 f46=>⟨_,rdc (show rd h46 h4.size=[.int .i64 (addAt T (geoN n) i (openM T (geoN n) i).1 ix p s v).2] from (f46.rd (by omega) (by omega)).trans ((f45.rd (by omega) n43).trans d44.rd)) rfl,?_⟩
   rw [e0] at hK
   refine hK h46 F43 ((F44.trans f45 fun b hb y=>(G44.old b hb).mp y).trans f46 fun b hb y=>by omega) (G44.trans (Gw.refl (by omega) fun b hb=>by have:=X43.lt hb; omega) (by omega)) (X45.fr f46 fun b hb y=>n19 (y▸hb))
  refine dir_Add_c2.okD (os ⟨_,rdc d44.rd rfl,cn (fun hw=>os ⟨t,rdc (show rd h44 h.size=[.pointer t] from (d44.at_ (by omega) (by omega)).trans ((f43.rd (by omega) (nd _ (Nat.le_refl _))).trans ((q40 _ (by omega) (by omega)).trans ((q32 h.size (by omega)).trans tb0)))) rfl,os ⟨_,rdc (show rd h44 h32.size=[.int .i64 T.mark.1] from (d44.at_ (by omega) (by omega)).trans ((f43.rd (by omega) (nd _ (by omega))).trans m40)) rfl,Tm.Back_spec X44 (by omega) fun h45 f45 X45=>⟨_,rfl,?_⟩⟩⟩) fun hw=>?_⟩)
  ·exact fin2 h45 _ f45 X45 (by rw [ea]; unfold undoM; rw [if_pos hw])
  ·exact fin2 h44 _ (Fr.refl _ _) X44 (by rw [ea]; unfold undoM; rw [if_neg (fun y=>y hw)])
 have add1:∀ {y:Int},(openM T (geoN n) i).2≠0→addD T (geoN n) i s v=(T,(openM T (geoN n) i).2):=fun h1=>by
  unfold addD; rw [if_neg hn',if_neg hh',if_pos h1]
 by_cases he0:(openM T (geoN n) i).2=0
 rotate_left
 ·exact leaves_none lR I0 he0 (fin hb _ (Fr.refl _ _) on0 I0 (fun _=>add1 (y:=0) he0) fun y=>absurd y he0)
 obtain ⟨R0,R1⟩:=open_size he0
 have es0:addD T (geoN n) i s v=if (leavesM T (geoN n) (openM T (geoN n) i).1).2≠0 then (T,(leavesM T (geoN n) (openM T (geoN n) i).1).2) else
   if (placeGo s (leavesM T (geoN n) (openM T (geoN n) i).1).1 ((openM T (geoN n) i).1.getD 2 0 / 512,-1,false)).2.2=true then (T,150) else if T.mark.2≠0 then (T,T.mark.2) else
    undoM T (addAt T (geoN n) i (openM T (geoN n) i).1 (placeGo s (leavesM T (geoN n) (openM T (geoN n) i).1).1 ((openM T (geoN n) i).1.getD 2 0 / 512,-1,false)).1 (placeGo s (leavesM T (geoN n) (openM T (geoN n) i).1).1 ((openM T (geoN n) i).1.getD 2 0 / 512,-1,false)).2.1 s v):=by
  unfold addD; rw [if_neg hn',if_neg hh',if_neg (fun y=>y he0)]
 unfold leavesM at es0
 rw [size_div R0 R1] at i0
 rw [he0] at I0
 clear add1
 generalize hR:(openM T (geoN n) i).1=R at *
 generalize hm:(R.getD 2 0 / 512).toNat=m at *
 have hm2:m≤16522:=by omega
 refine leaves_iter lR R0 R1 (AddJ F t d T n i R s m hb h10 h12 h13 h14 h18 h19 L)
  (fun k hh J=>J.1) (fun k hh h' ba bl bc ca cl cc J hk he f' r' o' lf=>?_) ⟨I0,Fr.refl _ _,on0,m,_,_,_,by omega,i0,iw0,p0,pw0,x0,xw0,rfl,rfl⟩ (fun hh J=>?_) fun k hh h' J hk he f' r' o'=>?_
 ·-- an index
  obtain ⟨I,f,on,q,ix,p,ex,eq,ri,wi,rp,wp,rx,wx,e1,e2⟩:=J
  rw [hm] at hk
  obtain ⟨q,rfl⟩:∃ q',q=q'+1:=⟨q - 1,by omega⟩
  have zf:=f.size
  have zf':=f'.size
  have on':LoopOn h' (h19.size+1) L .ready none:=loopOn_fr on f' (by omega)
  refine rounds (leafV k (leafM T (geoN n) R k).1.block ba bl bc ca cl cc) h' _ on' (NewRow.intro rfl leafV_one rfl fun h22 n22=>⟨loopOn_fr on' n22.fr fun y=>y,setL_intro (by have:=n22.size; omega) fun h23 t23=>?_⟩)
  have z22:=n22.size
  have z23:=t23.size
  have f23:Fr (fun b=>b=h10.size∨b=h12.size∨b=h13.size∨b=h14.size∨b=h19.size+1) hb h23:=((f.trans f' fun b _ y => .inl y).new n22).trans t23.fr fun b _ y => .inr (.inr (.inr (.inr y)))
  have v23:rd h23 h'.size=leafV k (leafM T (geoN n) R k).1.block ba bl bc ca cl cc:=(t23.fr.rd (by omega) (by omega)).trans n22.rd
  have lf23:Lf hh h23 (leafM T (geoN n) R k).1 ba bl bc ca cl cc:=(lf.fr n22.fr fun _ _ _ y=>y).fr t23.fr fun b _ hb y=>by omega
  have lc:(leafM T (geoN n) R k).1.cells.length=cl:=by
   have:=lf23.c.1
   rw [flat_length E.v 3 _ (fun x _=>E.len x)] at this
   omega
  have l16:=leaf_len T (geoN n) R k
  have q23:∀ b,b<hh.size→b≠h10.size→b≠h19.size+1→rd h23 b=rd hh b:=fun b hb' h1 h2=>(t23.fr.rd (by omega) h2).trans ((n22.at_ (by omega)).trans (f'.rd hb' h1))
  have w23:∀ b,b<hh.size→b≠h10.size→b≠h19.size+1→Own hh b→Own h23 b:=fun b hb' h1 h2 o=>t23.fr.own (by omega) h2 (n22.ow (f'.own hb' h1 o))
  have I23:It h23 F t d T (geoN n) i R 0 [] h18.size h10.size:=by
   have A:It h' F t d T (geoN n) i R 0 [] h18.size h10.size:=⟨I.gl.fr f' fun b hb y=>by omega,I.x.fr f' fun b hb y=>by have:=xl b hb; omega,(f'.rd I.clt (by omega)).trans I.cap,o',r',I.nf,I.b1,I.ne⟩
   exact (A.no n22.fr).fr t23.fr (by omega) (by omega) (fun b hb y=>by have:=xl b hb; omega) fun b hb y=>by omega
  have ri23:=(q23 h12.size (by omega) (by omega) (by omega)).trans ri
  have rp23:=(q23 h13.size (by omega) (by omega) (by omega)).trans rp
  have rx23:=(q23 h14.size (by omega) (by omega) (by omega)).trans rx
  have wi23:=w23 h12.size (by omega) (by omega) (by omega) wi
  have wp23:=w23 h13.size (by omega) (by omega) (by omega) wp
  have wx23:=w23 h14.size (by omega) (by omega) (by omega) wx
  have on23:=t23.on
  -- the state behind the index
  have fin3:∀ (P:Value→Heap→Prop),(∀ h'',AddJ F t d T n i R s m hb h10 h12 h13 h14 h18 h19 L (k+1) h''→P (.bool true) h'')→∀ (h28:Heap) (ix' p':Int),Fr (fun b=>b=h12.size∨b=h13.size∨b=h14.size) h23 h28→rd h28 h12.size=[.int .i64 ix']→Own h28 h12.size→rd h28 h13.size=[.int .i64 p']→Own h28 h13.size→rd h28 h14.size=[.bool (ex || (cellOfName (leafM T (geoN n) R k).1 s).isSome)]→Own h28 h14.size →
    (if p<0∧0≤(lowA (leafM T (geoN n) R k).1.bytes).1∧(lowA (leafM T (geoN n) R k).1.bytes).2=0 then ((k:Int),(lowA (leafM T (geoN n) R k).1.bytes).1) else (ix,p))=(ix',p')→LoopOn h28 (h19.size+1) L .busy none∧P (.bool true) (setLoop h28 (h19.size+1) L .ready none):=by
   intro P hP h28 ix' p' f28 ri28 wi28 rp28 wp28 rx28 wx28 en
   have z28:=f28.size
   have on28:LoopOn h28 (h19.size+1) L .busy none:=loopOn_fr on23 f28 (by omega)
   refine ⟨on28,hP _ ?_⟩
   have t29:=turned (loopOn_lt on28) L .ready none
   generalize setLoop h28 (h19.size+1) L .ready none=h29 at t29
   have z29:=t29.size
   refine ⟨(I23.fr f28 (by omega) (by omega) (fun b hb y=>by have:=xl b hb; omega) fun b hb y=>by omega).fr t29.fr (by omega) (by omega) (fun b hb y=>by have:=xl b hb; omega) fun b hb y=>by omega,(f23.trans f28 fun b _ y=>by omega).trans t29.fr fun b _ y => .inr (.inr (.inr (.inr y))),t29.on,q,ix',p',_,by omega,(t29.fr.rd (by omega) (by omega)).trans ri28,t29.fr.own (by omega) (by omega) wi28,(t29.fr.rd (by omega) (by omega)).trans rp28,t29.fr.own (by omega) (by omega) wp28,(t29.fr.rd (by omega) (by omega)).trans rx28,t29.fr.own (by omega) (by omega) wx28,?_,?_⟩
   ·rw [e1]
    conv=>lhs; unfold leavesGo
    rw [if_neg (fun y=>y he)]
    show placeGo s (leavesGo T (geoN n) R q (k+1)).1 (if p<0∧0≤(lowA (leafM T (geoN n) R k).1.bytes).1∧(lowA (leafM T (geoN n) R k).1.bytes).2=0 then ((k:Int),(lowA (leafM T (geoN n) R k).1.bytes).1,ex || (cellOfName (leafM T (geoN n) R k).1 s).isSome) else (ix,p,ex || (cellOfName (leafM T (geoN n) R k).1 s).isSome))=_
    by_cases hc:p<0∧0≤(lowA (leafM T (geoN n) R k).1.bytes).1∧(lowA (leafM T (geoN n) R k).1.bytes).2=0
    ·rw [if_pos hc] at en ⊢
     rw [← (Prod.mk.inj en).1,← (Prod.mk.inj en).2]
    ·rw [if_neg hc] at en ⊢
     rw [← (Prod.mk.inj en).1,← (Prod.mk.inj en).2]
   ·rw [e2]
    conv=>lhs; unfold leavesGo
    rw [if_neg (fun y=>y he)]
  -- the lowest free cell
  have K1:∀ (P:Value→Heap→Prop),(∀ h'',AddJ F t d T n i R s m hb h10 h12 h13 h14 h18 h19 L (k+1) h''→P (.bool true) h'')→∀ (h25:Heap),Fr (fun b=>b=h14.size) h23 h25→rd h25 h14.size=[.bool (ex || (cellOfName (leafM T (geoN n) R k).1 s).isSome)]→Own h25 h14.size→dir_Add.k1 h12 h13 h19 L h' P h25 K:=by
   intro P hP h25 f25 rx25 wx25
   have z25:=f25.size
   have v25:=(f25.rd (b:=h'.size) (by omega) (by omega)).trans v23
   have lf25:Lf hh h25 (leafM T (geoN n) R k).1 ba bl bc ca cl cc:=lf23.fr f25 fun b _ hb y=>by omega
   have I25:It h25 F t d T (geoN n) i R 0 [] h18.size h10.size:=I23.fr f25 (by omega) (by omega) (fun b hb y=>by have:=xl b hb; omega) fun b hb y=>by omega
   have ri25:=(f25.rd (b:=h12.size) (by omega) (by omega)).trans ri23
   have rp25:=(f25.rd (b:=h13.size) (by omega) (by omega)).trans rp23
   have wi25:Own h25 h12.size:=f25.own (by omega) (by omega) wi23
   have wp25:Own h25 h13.size:=f25.own (by omega) (by omega) wp23
   unfold dir_Add.k1
   refine ⟨_,_,_,rda v25 rfl,Ss.Lowest_spec I25.gl lf25.s.str lf25.s.le fun h26 f26=>⟨_,_,rfl,_,rdc ((f26.rd (by omega) fun y=>y).trans rp25) rfl,?_⟩⟩
   have z26:=f26.size
   have F26:Fr (fun b=>b=h12.size∨b=h13.size∨b=h14.size) h23 h26:=(f25.mono fun b _ y => .inr (.inr y)).no f26
   have ri26:=(f26.rd (b:=h12.size) (by omega) fun y=>y).trans ri25
   have rp26:=(f26.rd (b:=h13.size) (by omega) fun y=>y).trans rp25
   have rx26:=(f26.rd (b:=h14.size) (by omega) fun y=>y).trans rx25
   have wi26:Own h26 h12.size:=f26.own (by omega) (fun y=>y) wi25
   have wp26:Own h26 h13.size:=f26.own (by omega) (fun y=>y) wp25
   have wx26:Own h26 h14.size:=f26.own (by omega) (fun y=>y) wx25
   have stay:¬ (p<0∧0≤(lowA (leafM T (geoN n) R k).1.bytes).1∧(lowA (leafM T (geoN n) R k).1.bytes).2=0)→LoopOn h26 (h19.size+1) L .busy none∧P (.bool true) (setLoop h26 (h19.size+1) L .ready none):=fun hc =>
    fin3 P hP h26 ix p F26 ri26 wi26 rp26 wp26 rx26 wx26 (by rw [if_neg hc])
   refine cd (fun h1=>cd (fun h2=>ce (fun h3=>?_) fun h3=>stay fun y=>h3 y.2.2) fun h2=>stay fun y=>h2 y.2.1) fun h1=>stay fun y=>h1 y.1
   refine ⟨_,rda ((f26.rd (by omega) fun y=>y).trans v25) rfl,put_e wi26 ri26 fun h27 d27=>put_e (d27.ow wp26) ((d27.at_ (by omega) (by omega)).trans rp26) fun h28 d28=>?_⟩
   have z27:=d27.size
   have z28:=d28.size
   exact fin3 P hP h28 k _ ((F26.did d27 fun _ => .inl rfl).did d28 fun _ => .inr (.inl rfl)) ((d28.at_ (by omega) (by omega)).trans d27.rd) (d28.ow d27.own) d28.rd d28.own ((d28.at_ (by omega) (by omega)).trans ((d27.at_ (by omega) (by omega)).trans rx26)) (d28.ow (d27.ow wx26)) (by rw [if_pos ⟨h1,h2,h3⟩])
  refine ⟨_,rdc rx23 rfl,cs (fun hx=>?_) fun hx=>?_⟩
  ·refine Put.intro wx23 (by rw [rx23]; exact Nat.zero_lt_one) fun h24 d24=>K1 _ (fun h'' Jx => .inl ⟨rfl,Jx⟩) h24 d24.fr ?_ d24.own
   rw [d24.rd,rx23,hx]; rfl
  ·have sb23:rd h23 h3.size=[.string (mkStr s)]:=(f23.rd (by omega) (by omega)).trans sb0
   refine ⟨_,_,_,rda v23 rfl,Contains_spec lf23.c.cells lc (by omega) sb23 fun h29 f29=>⟨_,rfl,?_⟩⟩
   have z29:=f29.size
   have rx29:=(f29.rd (b:=h14.size) (by omega) fun y=>y).trans rx23
   refine Put.intro (f29.own (by omega) (fun y=>y) wx23) (by rw [rx29]; exact Nat.zero_lt_one) fun h30 d30=>K1 _ (fun h'' Jx => .inl ⟨rfl,Jx⟩) h30 ((f29.mono fun _ _ y=>y.elim).trans d30.fr fun _ _ y=>y) ?_ d30.own
   rw [d30.rd,rx29,hx,Bool.false_or]; rfl
 ·-- all have come
  obtain ⟨I,f,on,q,ix,p,ex,eq,ri,wi,rp,wp,rx,wx,e1,e2⟩:=J
  rw [hm] at eq e1 e2
  have:q=0:=by omega
  subst this
  have e0:(leavesGo T (geoN n) R m 0).2=0:=by rw [e2]; rfl
  have ep:placeGo s (leavesGo T (geoN n) R m 0).1 (R.getD 2 0 / 512,-1,false)=(ix,p,ex):=e1
  rw [if_neg (fun y=>y e0),ep] at es0
  exact fin hh 0 f on I (fun y=>absurd rfl y) fun _=>⟨ix,p,ex,ri,rp,rx,R0,R1,es0⟩
 ·-- an index that does not read
  obtain ⟨I,f,on,q,ix,p,ex,eq,ri,wi,rp,wp,rx,wx,e1,e2⟩:=J
  rw [hm] at hk
  obtain ⟨q,rfl⟩:∃ q',q=q'+1:=⟨q - 1,by omega⟩
  have zf:=f.size
  have ee:(leavesGo T (geoN n) R m 0).2=(leafM T (geoN n) R k).2:=by
   rw [e2]; unfold leavesGo; rw [if_pos he]
  rw [if_pos (by rw [ee]; exact he),ee] at es0
  have A:It h' F t d T (geoN n) i R (leafM T (geoN n) R k).2 [] h18.size h10.size:=⟨I.gl.fr f' fun b hb y=>by omega,I.x.fr f' fun b hb y=>by have:=xl b hb; omega,(f'.rd I.clt (by omega)).trans I.cap,o',r',I.nf,I.b1,I.ne⟩
  exact fin h' _ (f.trans f' fun b _ y => .inl y) (loopOn_fr on f' (by omega)) A (fun _=>es0) fun y=>absurd y he
end Go.Proofs.YtiapingedfnlnaaGreatDoor.Di
namespace Go.Proofs.YtiapingedfnlnaaGreatDoor.Fi
open Go Go.Proofs Wx Hp W Ad Tm Bt Spc Av
structure Ly (n:Nat) (h1:Heap) (gb:Nat) (t d:Option Addr) (hh:Heap) (F:Nat→Prop) (T:TM):Prop where
 fr:Fr No h1 hh
 gl:In.Glo h1
 lo:h1.size≤gb
 rg:rd hh gb=(geoN n).v
 x:Tx hh F t d T
 nf:¬ F gb
 fl:∀ b,F b→h1.size≤b
section
variable {n : Nat} {h1 hh h' : Heap} {gb : Nat} {t d : Option Addr} {F F' : Nat → Prop} {T T' : TM}
theorem Ly.lt (c:Ly n h1 gb t d hh F T):gb<hh.size:=rd_lt (o:=0) (v := .int .i64 (geoN n).blocks) (by rw [c.rg]; rfl)
theorem Ly.glo (c:Ly n h1 gb t d hh F T)  : In.Glo hh:=c.gl.no c.fr
theorem Ly.g0 (c:Ly n h1 gb t d hh F T):∀ b,b<1→¬ F b:=fun b hb y=>by have:=c.fl b y; have:=c.gl.lt; omega
theorem Ly.no (c:Ly n h1 gb t d hh F T) (f:Fr No hh h'):Ly n h1 gb t d h' F T :=
 { c with fr:=c.fr.no f,rg:=(f.rd c.lt fun y=>y).trans c.rg,x:=c.x.no f }
theorem Ly.call (c:Ly n h1 gb t d hh F T) (f:Fr F hh h') (g:Gw hh F h' F') (x:Tx h' F' t d T'):Ly n h1 gb t d h' F' T':=by
 have s:=c.fr.size
 refine ⟨c.fr.trans f fun b hb y=>by have:=c.fl b y; omega,c.gl,c.lo,(f.rd c.lt c.nf).trans c.rg,x,fun y=>c.nf ((g.old _ c.lt).mp y),fun b y=>?_⟩
 rcases g.new y with y|y
 ·exact c.fl b y
 ·omega
end
end Go.Proofs.YtiapingedfnlnaaGreatDoor.Fi
